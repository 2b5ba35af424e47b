/-
  The abstract machine, thirty-fifth part: calls that are walked where they stand: the callee works in its caller's heap.
-/
import Derived.Test.YtkbjimfganeooaaAb34
set_option linter.unusedSimpArgs false
set_option linter.unusedVariables false
namespace Go.Ab
open Go

section
variable {P : Program}

theorem code_calls2 {f n : Nat} {rs : List Rv} {ir : C} (hf : fd? P f = some (n, rs, ir)) {args : List AV} (hn : args.length ≤ n) {h : Hp} {R : AV → Hp → Prop}
    (hw : AW P n h.length ir (fun ex st => (ex = .normal ∨ ex = .ret) ∧ ∃ st2 v, Le h.length st st2 ∧ resVs st2 rs = some v ∧ R v st2.h) ⟨slotsOf args, h⟩) {E : Env} {w : World} {us : Array Value} (hok : HOK E h w) (hl : us.size = args.length)
    (hr : ∀ (i : Nat) c u, args[i]? = some c → us[i]? = some u → RV E w c u) :
    Calls P f us w fun e w' => ∃ u E' r h', e = .returned u ∧ R r h' ∧ HOK E' h' w' ∧ Ext h.length E w E' w' ∧ RV E' w' r u := by
  unfold fd? at hf
  split at hf
  case h_2 => cases hf
  rename_i fn hfn
  split at hf
  · cases hf
  rename_i hnm
  split at hf
  case h_2 => cases hf
  rename_i c hc
  split at hf
  case h_2 => cases hf
  rename_i rs' ir' hrs hir
  injection hf with hf; injection hf with e1 hf; injection hf with e2 e3
  subst e1; subst e2; subst e3
  refine calls_of_wp hfn hc ?_
  have hst : StOK E ⟨slotsOf args, h⟩ { tmps := us ++ Array.replicate (fn.ntmps - us.size) undef, defers := [] } w := enter_ok hok rfl hl hr
  refine wp_mono (hw _ hir E _ w hst (by simp; omega)) ?_
  rintro e a' w' ⟨ex, st', E', rfl, ⟨hex, st2, v, hle, hv, hR⟩, k3, k4, k5⟩
  obtain ⟨E2, q1, q2⟩ := hle E' a' w' k3
  obtain ⟨u, hrun, hrv⟩ := results_ok (P := P) q1 hrs hv
  have fin : a'.defers = [] ∧ ∃ v, (results fn a'.tmps).run P w' = .ok v w' ∧ ∃ u E'' r h', Ending.returned v = .returned u ∧ R r h' ∧ HOK E'' h' w' ∧ Ext h.length E w E'' w' ∧ RV E'' w' r u :=
    ⟨k3.defers, u, hrun, u, E2, v, st2.h, rfl, hR, q1.heap, k5.trans q2 (Nat.le_refl _), hrv⟩
  rcases hex with rfl | rfl
  · exact fin
  · exact fin

/-- A call that is walked where it stands: what it makes of its caller's blocks, what it returns, the heap that it leaves. -/
structure Il (V : Type) where
  run : Option V
  res : V → AV
  hp : V → Hp

theorem evTs_inl {V α : Type} {I : Il V} {kont : V → Option α} {r : α} (H : I.run.bind kont = some r) {is : List Ins} {K : St → Prop} {s : Nat → AV} {h : Hp} {d : Option Nat} {f : Od} {as : List Od} {k n : Nat} {caps args : List AV} {rs : List Rv} {ir : C}
    (hf : f.ev s = .fn k caps) (hfd : fd? P k = some (n, rs, ir)) (ha : as.map (Od.ev s) ++ caps = args) (hn : args.length ≤ n)
    (hw : ∀ v Q, I.run = some v → (∀ ex st st2, (ex = .normal ∨ ex = .ret) → Le h.length st st2 → resVs st2 rs = some (I.res v) → st2.h = I.hp v → Q ex st) → AW P n h.length ir Q ⟨slotsOf args, h⟩)
    (hk : ∀ v s2 h2, kont v = some r → s2 = put? s d (I.res v) → h2 = I.hp v → evTs (Fn P) is K ⟨s2, h2⟩) :
    evTs (Fn P) (Ins.mk d none (.call f as) :: is) K ⟨s, h⟩ := by
  obtain ⟨v, hv, h2⟩ := Option.bind_eq_some_iff.1 H
  refine evTs_call hf ?_
  rw [ha]
  refine ⟨fd?_entered hfd, ⟨I.res v, I.hp v, hk v _ _ h2 rfl rfl⟩, fun E w us hok hl hr => code_calls2 hfd hn (hw v _ hv fun ex st st2 h1 h2' h3 h4 => ⟨h1, st2, I.res v, h2', h3, ?_⟩) hok hl hr⟩
  rw [h4]
  exact hk v _ _ h2 rfl rfl
end

theorem Le.toL {lo : Nat} {st st2 : St} (n : Nat) (hn : lo = n) (ks live : List Nat) (hnd : ks.Nodup) (hlo : ∀ b, b < n → ks[b]? = some b) (e : Ab.restrict ks live st = st2) : Le lo st st2 :=
  Le.to ks live hnd (fun b hb => hlo b (hn ▸ hb)) e

open Classical in
/-- What is to hold on the way. -/
noncomputable def must? (p : Prop) : Option Unit := if p then some () else none

theorem must_inv {α : Type} {p : Prop} {kont : Unit → Option α} {r : α} (H : (must? p).bind kont = some r) : p ∧ kont () = some r := by
  unfold must? at H
  split at H
  · exact ⟨by assumption, H⟩
  · cases H

theorem must_true {α : Type} {p : Prop} (h : p) (kont : Unit → Option α) : (must? p).bind kont = kont () := by
  unfold must?; rw [if_pos h]; rfl

/-- An element of a row with something stored in it. -/
def stE (es off : Nat) (v nv : AV) : Option AV :=
  if nv.fits es then match v with
    | .agg cs => if off + esz es ≤ cs.length then some (.agg (splice cs off nv)) else none
    | _ => if off = 0 ∧ es = 0 then some nv else none
  else none

section
variable {F : CallF} {is : List Ins} {K : St → Prop} {s : Nat → AV} {h : Hp} {d : Option Nat}

theorem lt_map {τ : Type} {xs : List τ} {enc : τ → AV} {i : Nat} {v : AV} (h : (xs.map enc)[i]? = some v) : i < xs.length := by
  have := (List.getElem?_eq_some_iff.1 h).1
  simpa using this

/-- A store into an element of a row. -/
theorem evTs_stE {τ : Type} {enc : τ → AV} {e b i off es : Nat} {xs : List τ} (y y' : τ) {a x : Od} (ha : a.ev s = .eptr b i off) (hb : h[b]? = some (.els e (xs.map enc))) (hy : (xs.map enc)[i]? = some (enc y))
    (hv : stE es off (enc y) (x.ev s) = some (enc y')) (hk : evTs F is K ⟨put? s d .junk, h.set b (.els e ((xs.set i y').map enc))⟩) : evTs F (Ins.mk d none (.store es a x) :: is) K ⟨s, h⟩ := by
  refine step rfl ?_ hk
  unfold stE at hv
  rw [List.map_set]
  simp only [evV, ha, hb, hy]
  split at hv
  · rename_i hf
    rw [if_pos hf]
    split at hv
    · rename_i cs hc
      rw [hc]
      split at hv
      · rename_i hl
        injection hv with hv
        simp only [hl, if_true, hv]
      · cases hv
    · rename_i hc
      split at hv
      · rename_i hl
        injection hv with hv
        split
        · rename_i cs hcs; injection hcs with hcs; exact absurd hcs (hc cs)
        · simp only [hl, and_self, if_true, hv]
        · rename_i hn; cases hn
      · cases hv
  · cases hv

/-- A store of a whole element. -/
theorem evTs_stW {τ : Type} {enc : τ → AV} {e b i off es : Nat} {xs : List τ} (y' : τ) {a x : Od} (ha : a.ev s = .eptr b i off) (hb : h[b]? = some (.els e (xs.map enc))) (hi : i < xs.length)
    (hv : ∀ y, stE es off (enc y) (x.ev s) = some (enc y')) (hk : evTs F is K ⟨put? s d .junk, h.set b (.els e ((xs.set i y').map enc))⟩) : evTs F (Ins.mk d none (.store es a x) :: is) K ⟨s, h⟩ := 
  evTs_stE (xs[i]) y' ha hb (by simp [hi]) (hv _) hk
end
/-- As nc, stores left out: where there are stores into rows. -/
theorem ncs : (∀ a0, (Op1.mv a0).isCall = false) ∧
    (∀ a0 a1 a2, (Op1.pick a0 a1 a2).isCall = false) ∧
    (∀ a0, (Op1.box a0).isCall = false) ∧
    (∀ a0, (Op1.alloc a0).isCall = false) ∧
    (∀ a0 a1, (Op1.build a0 a1).isCall = false) ∧
    (∀ a0 a1 a2 a3, (Op1.mksl a0 a1 a2 a3).isCall = false) ∧
    (∀ a0 a1 a2 a3, (Op1.mkslp a0 a1 a2 a3).isCall = false) ∧
    (∀ a0 a1, (Op1.load a0 a1).isCall = false) ∧
    (∀ a0, (Op1.nilchk a0).isCall = false) ∧
    (∀ a0 a1 a2, (Op1.bin a0 a1 a2).isCall = false) ∧
    (∀ a0 a1 a2, (Op1.binb a0 a1 a2).isCall = false) ∧
    (∀ a0 a1 a2 a3, (Op1.eqs a0 a1 a2 a3).isCall = false) ∧
    (∀ a0 a1 a2, (Op1.eqp a0 a1 a2).isCall = false) ∧
    (∀ a0 a1, (Op1.un a0 a1).isCall = false) ∧
    (∀ a0 a1, (Op1.cint a0 a1).isCall = false) ∧
    (∀ a0 a1, (Op1.mkfn a0 a1).isCall = false) ∧
    (∀ a0 a1 a2 a3 a4, (Op1.aslice a0 a1 a2 a3 a4).isCall = false) ∧
    (∀ a0 a1, (Op1.faddr a0 a1).isCall = false) ∧
    (∀ a0 a1 a2, (Op1.fld a0 a1 a2).isCall = false) ∧
    (∀ a0 a1, (Op1.ext a0 a1).isCall = false) ∧
    (∀ a0 a1, (Op1.len a0 a1).isCall = false) ∧
    (∀ a0, (Op1.alen a0).isCall = false) ∧
    (∀ a0 a1 a2, (Op1.maxmin a0 a1 a2).isCall = false) ∧
    ((Op1.mkmap).isCall = false) :=
  ⟨fun _ => rfl, fun _ _ _ => rfl, fun _ => rfl, fun _ => rfl, fun _ _ => rfl, fun _ _ _ _ => rfl, fun _ _ _ _ => rfl, fun _ _ => rfl, fun _ => rfl, fun _ _ _ => rfl, fun _ _ _ => rfl, fun _ _ _ _ => rfl, fun _ _ _ => rfl, fun _ _ => rfl, fun _ _ => rfl, fun _ _ => rfl, fun _ _ _ _ _ => rfl, fun _ _ => rfl, fun _ _ _ => rfl, fun _ _ => rfl, fun _ _ => rfl, fun _ => rfl, fun _ _ _ => rfl, rfl⟩

theorem evTs_st {F : CallF} {is : List Ins} {K : St → Prop} {s : Nat → AV} {h h' : Hp} {d : Option Nat} {es : Nat} {a x : Od} {v : AV} (hv : evV s h (.store es a x) = some (v, h')) (hk : evTs F is K ⟨put? s d v, h'⟩) :
    evTs F (Ins.mk d none (.store es a x) :: is) K ⟨s, h⟩ := step rfl hv hk
theorem take_map_eq {τ : Type} {xs : List τ} {n : Nat} (h : xs.length = n) (f : τ → AV) : List.take n (xs.map f) = xs.map f := by subst h; rw [List.take_of_length_le (by simp)]
theorem take_map_set {τ : Type} (xs : List τ) (i : Nat) (y : τ) (f : τ → AV) : List.take xs.length ((xs.set i y).map f) = (xs.set i y).map f := take_map_eq (by simp) f
theorem take_map_set2 {τ : Type} (xs : List τ) (i j : Nat) (y z : τ) (f : τ → AV) : List.take xs.length (((xs.set i y).set j z).map f) = ((xs.set i y).set j z).map f := take_map_eq (by simp) f

theorem wrapBits_eq (k : IntKind) (r : BitVec k.bits) : wrapBits k r = .int k (k.wrap r.toNat) := rfl

section
variable {F : CallF} {is : List Ins} {K : St → Prop} {s : Nat → AV} {h : Hp} {d : Option Nat}

theorem rest_eqs {ks : List Nat} {x y : AV} {b : Bool} (he : eqS ks x y = some b) (hk : rest F is K s d (some (.bool b, h))) : rest F is K s d (Option.map (fun b => (AV.bool b, h)) (eqS ks x y)) := by rw [he]; exact hk
theorem rest_neqs {ks : List Nat} {x y : AV} {b : Bool} (he : eqS ks x y = some b) (hk : rest F is K s d (some (.bool (!b), h))) : rest F is K s d (Option.map (fun b => (AV.bool (!b), h)) (eqS ks x y)) := by rw [he]; exact hk
theorem rest_or {k : IntKind} {a b : Int} (hk : rest F is K s d (some (wrapBits k (BitVec.ofInt k.bits a ||| BitVec.ofInt k.bits b), h))) : rest F is K s d (Option.map (fun v => (v, h)) (bin .or (.int k a) (.int k b))) := by
  simpa [bin, isShift, binI] using hk
theorem rest_xor {k : IntKind} {a b : Int} (hk : rest F is K s d (some (wrapBits k (BitVec.ofInt k.bits a ^^^ BitVec.ofInt k.bits b), h))) : rest F is K s d (Option.map (fun v => (v, h)) (bin .xor (.int k a) (.int k b))) := by
  simpa [bin, isShift, binI] using hk

theorem rest_shlv {α : Type} {kont : Unit → Option α} {r : α} {k k' : IntKind} {a b : Int} (H : (must? (0 ≤ b)).bind kont = some r) (hk : kont () = some r → rest F is K s d (some (.int k (k.wrap (a * 2 ^ (min b.toNat k.bits))), h))) :
    rest F is K s d (Option.map (fun v => (v, h)) (bin .shl (.int k a) (.int k' b))) := rest_shl (must_inv H).1 (hk (must_inv H).2)
theorem rest_shrv {α : Type} {kont : Unit → Option α} {r : α} {k k' : IntKind} {a b : Int} (H : (must? (0 ≤ b)).bind kont = some r) (hk : kont () = some r → rest F is K s d (some (.int k (a.fdiv (2 ^ (min b.toNat k.bits))), h))) :
    rest F is K s d (Option.map (fun v => (v, h)) (bin .shr (.int k a) (.int k' b))) := rest_shr (must_inv H).1 (hk (must_inv H).2)
end
end Go.Ab
