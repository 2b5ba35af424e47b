/-
  The abstract machine, twenty-ninth part: the lemmas of a walk as a few. (Written by mkwk.py.)
-/
import Derived.Test.YtkbjimfganeooaaAb28
set_option linter.unusedSimpArgs false
set_option linter.unusedVariables false
namespace Go.Ab
open Go

/-- Operations that are no calls and that do not fail where values have the right form. -/
theorem nc : (∀ a0, (Op1.mv a0).isCall = false) ∧
    (∀ a0 a1 a2, (Op1.pick a0 a1 a2).isCall = false) ∧
    (∀ a0, (Op1.box a0).isCall = false) ∧
    (∀ a0, (Op1.alloc a0).isCall = false) ∧
    (∀ a0 a1, (Op1.build a0 a1).isCall = false) ∧
    (∀ a0 a1 a2 a3, (Op1.mksl a0 a1 a2 a3).isCall = false) ∧
    (∀ a0 a1 a2 a3, (Op1.mkslp a0 a1 a2 a3).isCall = false) ∧
    (∀ a0 a1, (Op1.load a0 a1).isCall = false) ∧
    (∀ a0 a1 a2, (Op1.store a0 a1 a2).isCall = false) ∧
    (∀ a0, (Op1.nilchk a0).isCall = false) ∧
    (∀ a0 a1 a2, (Op1.bin a0 a1 a2).isCall = false) ∧
    (∀ a0 a1 a2, (Op1.binb a0 a1 a2).isCall = false) ∧
    (∀ a0 a1 a2 a3, (Op1.eqs a0 a1 a2 a3).isCall = false) ∧
    (∀ a0 a1 a2, (Op1.eqp a0 a1 a2).isCall = false) ∧
    (∀ a0 a1, (Op1.un a0 a1).isCall = false) ∧
    (∀ a0 a1, (Op1.cint a0 a1).isCall = false) ∧
    (∀ a0 a1, (Op1.mkfn a0 a1).isCall = false) ∧
    (∀ a0 a1 a2 a3 a4, (Op1.aslice a0 a1 a2 a3 a4).isCall = false) ∧
    (∀ a0 a1, (Op1.faddr a0 a1).isCall = false) ∧
    (∀ a0 a1 a2, (Op1.fld a0 a1 a2).isCall = false) ∧
    (∀ a0 a1, (Op1.ext a0 a1).isCall = false) ∧
    (∀ a0 a1, (Op1.len a0 a1).isCall = false) ∧
    (∀ a0, (Op1.alen a0).isCall = false) ∧
    (∀ a0 a1 a2, (Op1.maxmin a0 a1 a2).isCall = false) ∧
    ((Op1.mkmap).isCall = false) :=
  ⟨fun _ => rfl, fun _ _ _ => rfl, fun _ => rfl, fun _ => rfl, fun _ _ => rfl, fun _ _ _ _ => rfl, fun _ _ _ _ => rfl, fun _ _ => rfl, fun _ _ _ => rfl, fun _ => rfl, fun _ _ _ => rfl, fun _ _ _ => rfl, fun _ _ _ _ => rfl, fun _ _ _ => rfl, fun _ _ => rfl, fun _ _ => rfl, fun _ _ => rfl, fun _ _ _ _ _ => rfl, fun _ _ => rfl, fun _ _ _ => rfl, fun _ _ => rfl, fun _ _ => rfl, fun _ => rfl, fun _ _ _ => rfl, rfl⟩

theorem wk :
    (∀ (F : CallF) (K : St → Prop) (s : Nat → AV) (h : Hp), evTs F [] K ⟨s, h⟩ = K ⟨s, h⟩) ∧
    (∀ (F : CallF) (is : List Ins) (K : St → Prop) (s : Nat → AV) (h : Hp) (d : Option Nat) (o : Op1) (hc : o.isCall = false), evTs F (Ins.mk d none o :: is) K ⟨s, h⟩ = rest F is K s d (evV s h o)) ∧
    (∀ (F : CallF) (is : List Ins) (K : St → Prop) (s : Nat → AV) (d : Option Nat) (v : AV) (h' : Hp), rest F is K s d (some (v, h')) = evTs F is K ⟨put? s d v, h'⟩) ∧
    (∀ (F : CallF) (is : List Ins) (K : St → Prop) (s : Nat → AV) (h : Hp) (d : Option Nat) (j : Nat) (w : Bool) (o : Op1) (hb : s j = .bool w), evTs F (Ins.mk d (some (j, w)) o :: is) K ⟨s, h⟩ = evTs F (Ins.mk d none o :: is) K ⟨s, h⟩) ∧
    (∀ (F : CallF) (is : List Ins) (K : St → Prop) (s : Nat → AV) (h : Hp) (d : Option Nat) (j : Nat) (w : Bool) (o : Op1) (hb : s j = .bool (!w)), evTs F (Ins.mk d (some (j, w)) o :: is) K ⟨s, h⟩ = evTs F is K ⟨put? s d (.tup []), h⟩) ∧
    (∀ (F : CallF) (is : List Ins) (K : St → Prop) (s : Nat → AV) (h : Hp) (d : Option Nat) (j : Nat) (w : Bool) (o : Op1) (hb : s j = .tup []), evTs F (Ins.mk d (some (j, w)) o :: is) K ⟨s, h⟩ = evTs F is K ⟨put? s d (.tup []), h⟩) ∧
    (∀ (s : Nat → AV) (v : AV), (Od.c v).ev s = v) ∧
    (∀ (s : Nat → AV) (i : Nat), (Od.t i).ev s = s i) ∧
    (∀ (s : Nat → AV) (i : Nat) (v : AV), put? s (some i) v = put s i v) ∧
    (∀ (s : Nat → AV) (v : AV), put? s none v = s) ∧
    (∀ (s : Nat → AV) (i : Nat) (v : AV) (j : Nat), put s i v j = if j = i then v else s j) ∧
    (∀ (v : AV) (vs : List AV), slotsOf (v :: vs) 0 = v) ∧
    (∀ (v : AV) (vs : List AV) (n : Nat) (hn : n ≠ 0), slotsOf (v :: vs) n = slotsOf vs (n - 1)) ∧
    (∀ (k : IntKind) (a b : Int), bin .add (.int k a) (.int k b) = some (.int k (k.wrap (a + b)))) ∧
    (∀ (k : IntKind) (a b : Int), bin .sub (.int k a) (.int k b) = some (.int k (k.wrap (a - b)))) ∧
    (∀ (k : IntKind) (a b : Int), bin .mul (.int k a) (.int k b) = some (.int k (k.wrap (a * b)))) ∧
    (∀ (k : IntKind) (a b : Int) (hb : ¬ (b = 0)), bin .quo (.int k a) (.int k b) = some (.int k (k.wrap (a.tdiv b)))) ∧
    (∀ (k : IntKind) (a b : Int) (hb : ¬ (b = 0)), bin .rem (.int k a) (.int k b) = some (.int k (a.tmod b))) ∧
    (∀ (k : IntKind) (a b : Int), bin .eql (.int k a) (.int k b) = some (.bool (decide (a = b)))) ∧
    (∀ (k : IntKind) (a b : Int), bin .neq (.int k a) (.int k b) = some (.bool (decide (a ≠ b)))) ∧
    (∀ (k : IntKind) (a b : Int), bin .lss (.int k a) (.int k b) = some (.bool (decide (a < b)))) ∧
    (∀ (k : IntKind) (a b : Int), bin .leq (.int k a) (.int k b) = some (.bool (decide (a ≤ b)))) ∧
    (∀ (k : IntKind) (a b : Int), bin .gtr (.int k a) (.int k b) = some (.bool (decide (b < a)))) ∧
    (∀ (k : IntKind) (a b : Int), bin .geq (.int k a) (.int k b) = some (.bool (decide (b ≤ a)))) ∧
    (∀ (k : IntKind) (n : Int), (AV.int k n).fits 0 = true) ∧
    (∀ (s : List UInt8), (AV.str s).fits 0 = true) ∧
    (∀ (b : Bool), (AV.bool b).fits 0 = true) ∧
    (∀ (e : Nat) (f : Bool) (xs : List AV), (AV.sl e f xs).fits 0 = true) ∧
    (∀ (e b o l : Nat), (AV.row e b o l).fits 0 = true) ∧
    (∀ (k : IntKind) (n : Int), (AV.int k n).cells = [.int k n]) ∧
    (∀ (s : List UInt8), (AV.str s).cells = [.str s]) ∧
    (∀ (b : Bool), (AV.bool b).cells = [.bool b]) ∧
    (∀ (e : Nat) (f : Bool) (xs : List AV), (AV.sl e f xs).cells = [.sl e f xs]) ∧
    (∀ (cs : List AV), (AV.agg cs).cells = cs) ∧
    (∀ (k : IntKind) (n : Int), (AV.int k n).one = true) ∧
    (∀ (s : List UInt8), (AV.str s).one = true) ∧
    (∀ (b : Bool), (AV.bool b).one = true) ∧
    (∀ (e : Nat) (f : Bool) (xs : List AV), (AV.sl e f xs).one = true) ∧
    (∀ (e b o l : Nat), (AV.row e b o l).one = true) ∧
    (onesB [] = true) ∧
    (∀ (c : AV) (cs : List AV), onesB (c :: cs) = (c.one && onesB cs)) ∧
    (expand [] = []) ∧
    (∀ (n : Nat) (v : AV) (z : List (Nat × AV)), expand ((n, v) :: z) = List.replicate n v ++ expand z) ∧
    (∀ (cs : List AV) (o : Nat) (k : IntKind) (n : Int), splice cs o (.int k n) = cs.set o (.int k n)) ∧
    (∀ (cs : List AV) (o : Nat) (s : List UInt8), splice cs o (.str s) = cs.set o (.str s)) ∧
    (∀ (cs : List AV) (o : Nat) (b : Bool), splice cs o (.bool b) = cs.set o (.bool b)) ∧
    (∀ (cs : List AV) (o e : Nat) (f : Bool) (xs : List AV), splice cs o (.sl e f xs) = cs.set o (.sl e f xs)) ∧
    (∀ (cs : List AV) (o e b p l : Nat), splice cs o (.row e b p l) = cs.set o (.row e b p l)) ∧
    (∀ (cs : List AV) (o : Nat) (us : List AV), splice cs o (.agg us) = cs.take o ++ us ++ cs.drop (o + us.length)) ∧
    (esz 0 = 1) ∧
    (∀ (o : Nat) (cs : List AV), pick? 0 o cs = cs[o]?) ∧
    (∀ (k : IntKind) (a b : Int), foldMax true (.int k a) [.int k b] = some (.int k (if b > a then b else a))) ∧
    (∀ (k : IntKind) (a b : Int), foldMax false (.int k a) [.int k b] = some (.int k (if b < a then b else a))) ∧
    (∀ (s : Nat → AV) (z : List AV), fill s z [] = some z) ∧
    (∀ (s : Nat → AV) (z : List AV) (o e : Nat) (x : Od) (ps : List (Nat × Nat × Od)), fill s z ((o, e, x) :: ps) = if (x.ev s).fits e = true ∧ o + esz e ≤ z.length then fill s (splice z o (x.ev s)) ps else none) ∧
    (∀ (s : Nat → AV) (e : Nat) (z : List AV), fillE s e z [] = some z) ∧
    (∀ (s : Nat → AV) (e : Nat) (z : List AV) (i : Nat) (x : Od) (ps : List (Nat × Od)), fillE s e z ((i, x) :: ps) = if (x.ev s).fits e = true ∧ i < z.length then fillE s e (z.set i (x.ev s)) ps else none) ∧
    (∀ (n : Nat), esz (n + 1) = n + 1) ∧
    (∀ (n o : Nat) (cs : List AV), pick? (n + 1) o cs = if o + (n + 1) ≤ cs.length then some (.agg ((cs.drop o).take (n + 1))) else none) ∧
    (∀ (e : Nat) (cs : List AV), (AV.agg cs).fits (e + 1) = ((e + 1) == cs.length && onesB cs)) ∧
    (∀ (b o : Nat), (AV.ptr b o).fits 0 = true) ∧
    (AV.nilp.fits 0 = true) ∧
    (AV.nilfn.fits 0 = true) ∧
    (∀ (f : Nat) (cs : List AV), (AV.fn f cs).fits 0 = true) ∧
    (∀ (b o : Nat), (AV.ptr b o).one = true) ∧
    (AV.nilp.one = true) ∧
    (AV.nilfn.one = true) ∧
    (∀ (f : Nat) (cs : List AV), (AV.fn f cs).one = true) ∧
    (∀ (cs : List AV), (AV.pro cs).one = true) ∧
    (∀ (b o : Nat), (AV.ptr b o).cells = [.ptr b o]) ∧
    (∀ (f : Nat) (cs : List AV), (AV.fn f cs).cells = [.fn f cs]) ∧
    (∀ (e b o l : Nat), (AV.row e b o l).cells = [.row e b o l]) ∧
    (∀ (cs : List AV) (o b p : Nat), splice cs o (.ptr b p) = cs.set o (.ptr b p)) ∧
    (∀ (cs : List AV) (o f : Nat) (qs : List AV), splice cs o (.fn f qs) = cs.set o (.fn f qs)) ∧
    (∀ (cs : List AV) (o : Nat), splice cs o .nilp = cs.set o .nilp) ∧
    (∀ (a b : Bool), binb .eql (.bool a) (.bool b) = some (.bool (a == b))) ∧
    (∀ (a b : Bool), binb .neq (.bool a) (.bool b) = some (.bool (!(a == b)))) ∧
    (∀ (a b : List UInt8), bin .eql (.str a) (.str b) = some (.bool (a == b))) ∧
    (∀ (a b : List UInt8), bin .neq (.str a) (.str b) = some (.bool (!(a == b)))) ∧
    (∀ (b : Bool), (if b = true then true else true) = true) ∧
    (∀ (f : Od → AV) (a : Od) (as : List Od), (a :: as).map f = f a :: as.map f) ∧
    (∀ (f : Od → AV), ([] : List Od).map f = []) ∧
    (∀ (h : Hp) (v : AV) (hp : plain deep v = true), freeze h v = some (v, h)) ∧
    (∀ (p : Prop), (p ∧ p) = p) ∧
    (∀ (f : AV × Hp → AV × Hp) (a : AV × Hp), (some a).map f = some (f a)) ∧
    (∀ (f : AV → AV × Hp) (a : AV), (some a).map f = some (f a)) ∧
    (∀ (f : Bool → AV × Hp) (a : Bool), (some a).map f = some (f a)) ∧
    (∀ (f : List AV → AV × Hp) (a : List AV), (some a).map f = some (f a)) ∧
    (∀ (b : Bool), (b && b) = b) ∧
    (∀ (b : Bool), (true && b) = b) ∧
    ((!true) = false) ∧
    ((!false) = true) ∧
    ((false = true) = False) ∧
    ((¬False) = True) ∧
    (∀ (a b : Nat), (a ≠ b) = ¬(a = b)) ∧
    (∀ (α β : Type) (f : α → β) (xs : List α), (xs.map f).length = xs.length) ∧
    (∀ (cs : List AV), plain deep (.tup cs) = cs.all (plain 11)) ∧
    (∀ (n : Nat) (k : IntKind) (a : Int), plain (n + 1) (.int k a) = true) ∧
    (∀ (n : Nat) (b : Bool), plain (n + 1) (.bool b) = true) ∧
    (∀ (n : Nat) (s : List UInt8), plain (n + 1) (.str s) = true) ∧
    (∀ (n e : Nat) (f : Bool) (xs : List AV), plain (n + 1) (.sl e f xs) = true) ∧
    (∀ (n : Nat) (cs : List AV), plain (n + 1) (.agg cs) = cs.all (plain n)) ∧
    (∀ (p : AV → Bool), ([] : List AV).all p = true) ∧
    (∀ (p : AV → Bool) (c : AV) (cs : List AV), (c :: cs).all p = (p c && cs.all p)) := by
  refine ⟨?_, ?_, ?_, ?_, ?_, ?_, ?_, ?_, ?_, ?_, ?_, ?_, ?_, ?_, ?_, ?_, ?_, ?_, ?_, ?_, ?_, ?_, ?_, ?_, ?_, ?_, ?_, ?_, ?_, ?_, ?_, ?_, ?_, ?_, ?_, ?_, ?_, ?_, ?_, ?_, ?_, ?_, ?_, ?_, ?_, ?_, ?_, ?_, ?_, ?_, ?_, ?_, ?_, ?_, ?_, ?_, ?_, ?_, ?_, ?_, ?_, ?_, ?_, ?_, ?_, ?_, ?_, ?_, ?_, ?_, ?_, ?_, ?_, ?_, ?_, ?_, ?_, ?_, ?_, ?_, ?_, ?_, ?_, ?_, ?_, ?_, ?_, ?_, ?_, ?_, ?_, ?_, ?_, ?_, ?_, ?_, ?_, ?_, ?_, ?_, ?_, ?_, ?_, ?_⟩
  · intros
    first | exact evTs_nil | (apply evTs_nil <;> assumption)
  · intros
    first | exact evTs_gen | (apply evTs_gen <;> assumption)
  · intros
    first | exact rest_some | (apply rest_some <;> assumption)
  · intros
    first | exact evTs_go | (apply evTs_go <;> assumption)
  · intros
    first | exact evTs_out | (apply evTs_out <;> assumption)
  · intros
    first | exact evTs_un | (apply evTs_un <;> assumption)
  · intros
    first | exact od_c | (apply od_c <;> assumption)
  · intros
    first | exact od_t | (apply od_t <;> assumption)
  · intros
    first | exact put?_some | (apply put?_some <;> assumption)
  · intros
    first | exact put?_none | (apply put?_none <;> assumption)
  · intros
    first | exact put_at | (apply put_at <;> assumption)
  · intros
    first | exact slotsOf_zero | (apply slotsOf_zero <;> assumption)
  · intros
    first | exact slotsOf_lit | (apply slotsOf_lit <;> assumption)
  · intros
    first | exact bin_add | (apply bin_add <;> assumption)
  · intros
    first | exact bin_sub | (apply bin_sub <;> assumption)
  · intros
    first | exact bin_mul | (apply bin_mul <;> assumption)
  · intros
    first | exact bin_quo | (apply bin_quo <;> assumption)
  · intros
    first | exact bin_rem | (apply bin_rem <;> assumption)
  · intros
    first | exact bin_eql | (apply bin_eql <;> assumption)
  · intros
    first | exact bin_neq | (apply bin_neq <;> assumption)
  · intros
    first | exact bin_lss | (apply bin_lss <;> assumption)
  · intros
    first | exact bin_leq | (apply bin_leq <;> assumption)
  · intros
    first | exact bin_gtr | (apply bin_gtr <;> assumption)
  · intros
    first | exact bin_geq | (apply bin_geq <;> assumption)
  · intros
    first | exact fits_int | (apply fits_int <;> assumption)
  · intros
    first | exact fits_str | (apply fits_str <;> assumption)
  · intros
    first | exact fits_bool | (apply fits_bool <;> assumption)
  · intros
    first | exact fits_sl | (apply fits_sl <;> assumption)
  · intros
    first | exact fits_row | (apply fits_row <;> assumption)
  · intros
    first | exact cells_int | (apply cells_int <;> assumption)
  · intros
    first | exact cells_str | (apply cells_str <;> assumption)
  · intros
    first | exact cells_bool | (apply cells_bool <;> assumption)
  · intros
    first | exact cells_sl | (apply cells_sl <;> assumption)
  · intros
    first | exact cells_agg | (apply cells_agg <;> assumption)
  · intros
    first | exact one_int | (apply one_int <;> assumption)
  · intros
    first | exact one_str | (apply one_str <;> assumption)
  · intros
    first | exact one_bool | (apply one_bool <;> assumption)
  · intros
    first | exact one_sl | (apply one_sl <;> assumption)
  · intros
    first | exact one_row | (apply one_row <;> assumption)
  · intros
    first | exact onesB_nil | (apply onesB_nil <;> assumption)
  · intros
    first | exact onesB_cons | (apply onesB_cons <;> assumption)
  · intros
    first | exact expand_nil | (apply expand_nil <;> assumption)
  · intros
    first | exact expand_cons | (apply expand_cons <;> assumption)
  · intros
    first | exact splice_int | (apply splice_int <;> assumption)
  · intros
    first | exact splice_str | (apply splice_str <;> assumption)
  · intros
    first | exact splice_bool | (apply splice_bool <;> assumption)
  · intros
    first | exact splice_sl | (apply splice_sl <;> assumption)
  · intros
    first | exact splice_row | (apply splice_row <;> assumption)
  · intros
    first | exact splice_agg | (apply splice_agg <;> assumption)
  · intros
    first | exact esz0 | (apply esz0 <;> assumption)
  · intros
    first | exact pick0 | (apply pick0 <;> assumption)
  · intros
    first | exact maxI_max | (apply maxI_max <;> assumption)
  · intros
    first | exact maxI_min | (apply maxI_min <;> assumption)
  · intros
    first | rfl | (simp; done) | (simp only [freeze, *]; rfl) | simp [fill, fillE, esz, pick?, AV.fits, binb, bin, binS, isShift]
  · intros
    first | rfl | (simp; done) | (simp only [freeze, *]; rfl) | simp [fill, fillE, esz, pick?, AV.fits, binb, bin, binS, isShift]
  · intros
    first | rfl | (simp; done) | (simp only [freeze, *]; rfl) | simp [fill, fillE, esz, pick?, AV.fits, binb, bin, binS, isShift]
  · intros
    first | rfl | (simp; done) | (simp only [freeze, *]; rfl) | simp [fill, fillE, esz, pick?, AV.fits, binb, bin, binS, isShift]
  · intros
    first | rfl | (simp; done) | (simp only [freeze, *]; rfl) | simp [fill, fillE, esz, pick?, AV.fits, binb, bin, binS, isShift]
  · intros
    first | rfl | (simp; done) | (simp only [freeze, *]; rfl) | simp [fill, fillE, esz, pick?, AV.fits, binb, bin, binS, isShift]
  · intros
    first | rfl | (simp; done) | (simp only [freeze, *]; rfl) | simp [fill, fillE, esz, pick?, AV.fits, binb, bin, binS, isShift]
  · intros
    first | rfl | (simp; done) | (simp only [freeze, *]; rfl) | simp [fill, fillE, esz, pick?, AV.fits, binb, bin, binS, isShift]
  · intros
    first | rfl | (simp; done) | (simp only [freeze, *]; rfl) | simp [fill, fillE, esz, pick?, AV.fits, binb, bin, binS, isShift]
  · intros
    first | rfl | (simp; done) | (simp only [freeze, *]; rfl) | simp [fill, fillE, esz, pick?, AV.fits, binb, bin, binS, isShift]
  · intros
    first | rfl | (simp; done) | (simp only [freeze, *]; rfl) | simp [fill, fillE, esz, pick?, AV.fits, binb, bin, binS, isShift]
  · intros
    first | rfl | (simp; done) | (simp only [freeze, *]; rfl) | simp [fill, fillE, esz, pick?, AV.fits, binb, bin, binS, isShift]
  · intros
    first | rfl | (simp; done) | (simp only [freeze, *]; rfl) | simp [fill, fillE, esz, pick?, AV.fits, binb, bin, binS, isShift]
  · intros
    first | rfl | (simp; done) | (simp only [freeze, *]; rfl) | simp [fill, fillE, esz, pick?, AV.fits, binb, bin, binS, isShift]
  · intros
    first | rfl | (simp; done) | (simp only [freeze, *]; rfl) | simp [fill, fillE, esz, pick?, AV.fits, binb, bin, binS, isShift]
  · intros
    first | rfl | (simp; done) | (simp only [freeze, *]; rfl) | simp [fill, fillE, esz, pick?, AV.fits, binb, bin, binS, isShift]
  · intros
    first | rfl | (simp; done) | (simp only [freeze, *]; rfl) | simp [fill, fillE, esz, pick?, AV.fits, binb, bin, binS, isShift]
  · intros
    first | rfl | (simp; done) | (simp only [freeze, *]; rfl) | simp [fill, fillE, esz, pick?, AV.fits, binb, bin, binS, isShift]
  · intros
    first | rfl | (simp; done) | (simp only [freeze, *]; rfl) | simp [fill, fillE, esz, pick?, AV.fits, binb, bin, binS, isShift]
  · intros
    first | rfl | (simp; done) | (simp only [freeze, *]; rfl) | simp [fill, fillE, esz, pick?, AV.fits, binb, bin, binS, isShift]
  · intros
    first | rfl | (simp; done) | (simp only [freeze, *]; rfl) | simp [fill, fillE, esz, pick?, AV.fits, binb, bin, binS, isShift]
  · intros
    first | rfl | (simp; done) | (simp only [freeze, *]; rfl) | simp [fill, fillE, esz, pick?, AV.fits, binb, bin, binS, isShift]
  · intros
    first | rfl | (simp; done) | (simp only [freeze, *]; rfl) | simp [fill, fillE, esz, pick?, AV.fits, binb, bin, binS, isShift]
  · intros
    first | rfl | (simp; done) | (simp only [freeze, *]; rfl) | simp [fill, fillE, esz, pick?, AV.fits, binb, bin, binS, isShift]
  · intros
    first | rfl | (simp; done) | (simp only [freeze, *]; rfl) | simp [fill, fillE, esz, pick?, AV.fits, binb, bin, binS, isShift]
  · intros
    first | rfl | (simp; done) | (simp only [freeze, *]; rfl) | simp [fill, fillE, esz, pick?, AV.fits, binb, bin, binS, isShift]
  · intros
    first | rfl | (simp; done) | (simp only [freeze, *]; rfl) | simp [fill, fillE, esz, pick?, AV.fits, binb, bin, binS, isShift]
  · intros
    first | rfl | (simp; done) | (simp only [freeze, *]; rfl) | simp [fill, fillE, esz, pick?, AV.fits, binb, bin, binS, isShift]
  · intros
    first | rfl | (simp; done) | (simp only [freeze, *]; rfl) | simp [fill, fillE, esz, pick?, AV.fits, binb, bin, binS, isShift]
  · intros
    first | rfl | (simp; done) | (simp only [freeze, *]; rfl) | simp [fill, fillE, esz, pick?, AV.fits, binb, bin, binS, isShift]
  · intros
    first | rfl | (simp; done) | (simp only [freeze, *]; rfl) | simp [fill, fillE, esz, pick?, AV.fits, binb, bin, binS, isShift]
  · intros
    first | rfl | (simp; done) | (simp only [freeze, *]; rfl) | simp [fill, fillE, esz, pick?, AV.fits, binb, bin, binS, isShift]
  · intros
    first | rfl | (simp; done) | (simp only [freeze, *]; rfl) | simp [fill, fillE, esz, pick?, AV.fits, binb, bin, binS, isShift]
  · intros
    first | rfl | (simp; done) | (simp only [freeze, *]; rfl) | simp [fill, fillE, esz, pick?, AV.fits, binb, bin, binS, isShift]
  · intros
    first | rfl | (simp; done) | (simp only [freeze, *]; rfl) | simp [fill, fillE, esz, pick?, AV.fits, binb, bin, binS, isShift]
  · intros
    first | rfl | (simp; done) | (simp only [freeze, *]; rfl) | simp [fill, fillE, esz, pick?, AV.fits, binb, bin, binS, isShift]
  · intros
    first | rfl | (simp; done) | (simp only [freeze, *]; rfl) | simp [fill, fillE, esz, pick?, AV.fits, binb, bin, binS, isShift]
  · intros
    first | rfl | (simp; done) | (simp only [freeze, *]; rfl) | simp [fill, fillE, esz, pick?, AV.fits, binb, bin, binS, isShift]
  · intros
    first | rfl | (simp; done) | (simp only [freeze, *]; rfl) | simp [fill, fillE, esz, pick?, AV.fits, binb, bin, binS, isShift]
  · intros
    first | rfl | (simp; done) | (simp only [freeze, *]; rfl) | simp [fill, fillE, esz, pick?, AV.fits, binb, bin, binS, isShift]
  · intros
    first | rfl | (simp; done) | (simp only [freeze, *]; rfl) | simp [fill, fillE, esz, pick?, AV.fits, binb, bin, binS, isShift]
  · intros
    first | rfl | (simp; done) | (simp only [freeze, *]; rfl) | simp [fill, fillE, esz, pick?, AV.fits, binb, bin, binS, isShift]
  · intros
    first | rfl | (simp; done) | (simp only [freeze, *]; rfl) | simp [fill, fillE, esz, pick?, AV.fits, binb, bin, binS, isShift]
  · intros
    first | rfl | (simp; done) | (simp only [freeze, *]; rfl) | simp [fill, fillE, esz, pick?, AV.fits, binb, bin, binS, isShift]
  · intros
    first | rfl | (simp; done) | (simp only [freeze, *]; rfl) | simp [fill, fillE, esz, pick?, AV.fits, binb, bin, binS, isShift]
  · intros
    first | rfl | (simp; done) | (simp only [freeze, *]; rfl) | simp [fill, fillE, esz, pick?, AV.fits, binb, bin, binS, isShift]
  · intros
    first | rfl | (simp; done) | (simp only [freeze, *]; rfl) | simp [fill, fillE, esz, pick?, AV.fits, binb, bin, binS, isShift]
  · intros
    first | rfl | (simp; done) | (simp only [freeze, *]; rfl) | simp [fill, fillE, esz, pick?, AV.fits, binb, bin, binS, isShift]
  · intros
    first | rfl | (simp; done) | (simp only [freeze, *]; rfl) | simp [fill, fillE, esz, pick?, AV.fits, binb, bin, binS, isShift]
  · intros
    first | rfl | (simp; done) | (simp only [freeze, *]; rfl) | simp [fill, fillE, esz, pick?, AV.fits, binb, bin, binS, isShift]
  · intros
    first | rfl | (simp; done) | (simp only [freeze, *]; rfl) | simp [fill, fillE, esz, pick?, AV.fits, binb, bin, binS, isShift]



/-- Lists that are written out. -/
theorem wl {α : Type} :
    (∀ (a : α) (as bs : List α), a :: as ++ bs = a :: (as ++ bs)) ∧
    (∀ (as : List α), [] ++ as = as) ∧
    (∀ (as : List α), as ++ [] = as) ∧
    (∀ (a : α) (as : List α), (a :: as).length = as.length + 1) ∧
    (([] : List α).length = 0) ∧
    (∀ (a b : α) (as : List α), (a :: as).set 0 b = b :: as) ∧
    (∀ (a b : α) (as : List α) (n : Nat), (a :: as).set (n + 1) b = a :: as.set n b) ∧
    (∀ (a : α) (as : List α), (a :: as)[0]? = some a) ∧
    (∀ (a : α) (as : List α) (i : Nat), (a :: as)[i + 1]? = as[i]?) ∧
    (∀ (a : α), List.replicate 0 a = []) ∧
    (∀ (a : α) (n : Nat), List.replicate (n + 1) a = a :: List.replicate n a) ∧
    (∀ (as : List α), as.drop 0 = as) ∧
    (∀ (a : α) (as : List α) (n : Nat), (a :: as).drop (n + 1) = as.drop n) ∧
    (∀ (as : List α), as.take 0 = []) ∧
    (∀ (a : α) (as : List α) (n : Nat), (a :: as).take (n + 1) = a :: as.take n) ∧
    (∀ (n : Nat), ([] : List α).drop n = []) ∧
    (∀ (n : Nat), ([] : List α).take n = []) := by
  refine ⟨?_, ?_, ?_, ?_, ?_, ?_, ?_, ?_, ?_, ?_, ?_, ?_, ?_, ?_, ?_, ?_, ?_⟩
  · intros; first | rfl | simp | exact List.append_nil _
  · intros; first | rfl | simp | exact List.append_nil _
  · intros; first | rfl | simp | exact List.append_nil _
  · intros; first | rfl | simp | exact List.append_nil _
  · intros; first | rfl | simp | exact List.append_nil _
  · intros; first | rfl | simp | exact List.append_nil _
  · intros; first | rfl | simp | exact List.append_nil _
  · intros; first | rfl | simp | exact List.append_nil _
  · intros; first | rfl | simp | exact List.append_nil _
  · intros; first | rfl | simp | exact List.append_nil _
  · intros; first | rfl | simp | exact List.append_nil _
  · intros; first | rfl | simp | exact List.append_nil _
  · intros; first | rfl | simp | exact List.append_nil _
  · intros; first | rfl | simp | exact List.append_nil _
  · intros; first | rfl | simp | exact List.append_nil _
  · intros; first | rfl | simp | exact List.append_nil _
  · intros; first | rfl | simp | exact List.append_nil _

/-- The typed data of a row are no addresses. -/
theorem map_ren_enc (ks : List Nat) {τ : Type} {e : Nat} {enc : τ → AV} [IsEnc e enc] (xs : List τ) : (xs.map enc).map (ren ks 12) = xs.map enc := map_ren ks (enc_all xs)
theorem ren_agg' (ks : List Nat) (n : Nat) (cs : List AV) : ren ks (n + 1) (.agg cs) = .agg (cs.map (ren ks n)) := rfl
theorem ren_tup' (ks : List Nat) (n : Nat) (cs : List AV) : ren ks (n + 1) (.tup cs) = .tup (cs.map (ren ks n)) := rfl
theorem ren_fn' (ks : List Nat) (n f : Nat) (cs : List AV) : ren ks (n + 1) (.fn f cs) = .fn f (cs.map (ren ks n)) := rfl
theorem ren_int' (ks : List Nat) (n : Nat) (k : IntKind) (a : Int) : ren ks (n + 1) (.int k a) = .int k a := rfl
theorem ren_bool' (ks : List Nat) (n : Nat) (b : Bool) : ren ks (n + 1) (.bool b) = .bool b := rfl
theorem ren_str' (ks : List Nat) (n : Nat) (t : List UInt8) : ren ks (n + 1) (.str t) = .str t := rfl
theorem ren_sl' (ks : List Nat) (n e : Nat) (f : Bool) (xs : List AV) : ren ks (n + 1) (.sl e f xs) = .sl e f xs := rfl
theorem ren_pro' (ks : List Nat) (n : Nat) (xs : List AV) : ren ks (n + 1) (.pro xs) = .pro xs := rfl
theorem ren_nilp' (ks : List Nat) (n : Nat) : ren ks (n + 1) .nilp = .nilp := rfl
theorem ren_nilfn' (ks : List Nat) (n : Nat) : ren ks (n + 1) .nilfn = .nilfn := rfl
theorem ren_junk' (ks : List Nat) (n : Nat) : ren ks (n + 1) .junk = .junk := rfl
theorem ren_ptr' (ks : List Nat) (n b o : Nat) : ren ks (n + 1) (.ptr b o) = (match ks.idxOf? b with | some b => .ptr b o | none => .junk) := rfl
theorem ren_row' (ks : List Nat) (n e b o l : Nat) : ren ks (n + 1) (.row e b o l) = (match ks.idxOf? b with | some b => .row e b o l | none => .junk) := rfl
theorem ren_arow' (ks : List Nat) (n e b o l : Nat) : ren ks (n + 1) (.arow e b o l) = (match ks.idxOf? b with | some b => .arow e b o l | none => .junk) := rfl
theorem ren_eptr' (ks : List Nat) (n b i o : Nat) : ren ks (n + 1) (.eptr b i o) = (match ks.idxOf? b with | some b => .eptr b i o | none => .junk) := rfl

/-! What a function hands over. -/

theorem hand_plain {h : Hp} {v : AV} (hv : plain deep v = true) : handOver none h v = some v := imm_plain h deep deep v hv (Nat.le_refl _)

theorem hand_k {h : Hp} {e b k n : Nat} {xs cs : List AV} (hc : cs[k]? = some (.row e b 0 n)) (hb : h[b]? = some (.els e xs)) (hn : n = xs.length) (hp : xs.all (plain deep) = true) (ho : (cs.eraseIdx k).all (plain deep) = true) :
    handOver (some k) h (.tup cs) = some (.tup ((cs.eraseIdx k).insertIdx k (.fr e xs))) := by
  subst hn
  simp only [handOver, hc, handRow, hb]
  simp [visits_plain hp, omap_imm hp, visits_plain ho, omap_imm ho]

theorem hand_k0 {h : Hp} {e k : Nat} {cs : List AV} (hc : cs[k]? = some (.sl e true [])) (ho : (cs.eraseIdx k).all (plain deep) = true) :
    handOver (some k) h (.tup cs) = some (.tup ((cs.eraseIdx k).insertIdx k (.fr e []))) := by
  simp only [handOver, hc, handRow, omap_imm ho, Option.map_some]

theorem hand_1 {h : Hp} {e b n : Nat} {xs : List AV} (hb : h[b]? = some (.els e xs)) (hn : n = xs.length) (hp : xs.all (plain deep) = true) : handOver (some 0) h (.row e b 0 n) = some (.fr e xs) := by
  subst hn; exact hand_row hb hp

theorem hand_10 {h : Hp} {e : Nat} : handOver (some 0) h (.sl e true []) = some (.fr e []) := rfl

theorem frFits_tup (cs : List AV) : frFits (.tup cs) = cs.all fun c => match c with | .fr e xs => xs.all fun x => x.fits e | _ => true := rfl

end Go.Ab
