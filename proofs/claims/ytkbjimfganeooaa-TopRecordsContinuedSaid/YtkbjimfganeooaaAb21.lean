/-
  The abstract machine, twenty-first part: what a walk of code by 'simp' needs.
-/
import Derived.Test.YtkbjimfganeooaaAb20
import Derived.Laws.BitsLemmas
set_option linter.unusedSimpArgs false
set_option linter.unusedVariables false
namespace Go.Ab
open Go

section
variable {F : CallF} {is : List Ins} {K : St → Prop} {s : Nat → AV} {h : Hp} {d : Option Nat} {j : Nat} {w : Bool} {o : Op1}

theorem evTs_nil : evTs F [] K ⟨s, h⟩ = K ⟨s, h⟩ := Eq.trans rfl rfl

/-- An operation that is no call. -/
theorem evTs_op (hc : o.isCall = false) : evTs F (Ins.mk d none o :: is) K ⟨s, h⟩ = (match evV s h o with | some p => evTs F is K ⟨put? s d p.1, p.2⟩ | none => False) := by
  simp only [evTs, evT, act, evO_op hc]
  cases evV s h o <;> rfl

/-- The rest, when an operation has yielded a value and a heap. -/
def rest (F : CallF) (is : List Ins) (K : St → Prop) (s : Nat → AV) (d : Option Nat) : Option (AV × Hp) → Prop
  | some p => evTs F is K ⟨put? s d p.1, p.2⟩
  | none => False

theorem rest_some {v : AV} {h' : Hp} : rest F is K s d (some (v, h')) = evTs F is K ⟨put? s d v, h'⟩ := Eq.trans rfl rfl

theorem evTs_gen (hc : o.isCall = false) : evTs F (Ins.mk d none o :: is) K ⟨s, h⟩ = rest F is K s d (evV s h o) := by
  rw [evTs_op hc]
  cases evV s h o <;> rfl

/-- A guarded operation that is done. -/
theorem evTs_go (hb : s j = .bool w) : evTs F (Ins.mk d (some (j, w)) o :: is) K ⟨s, h⟩ = evTs F (Ins.mk d none o :: is) K ⟨s, h⟩ := by
  simp only [evTs, evT, act, hb, if_true]

/-- A guarded operation that is left out. -/
theorem evTs_out (hb : s j = .bool (!w)) : evTs F (Ins.mk d (some (j, w)) o :: is) K ⟨s, h⟩ = evTs F is K ⟨put? s d (.tup []), h⟩ := by
  simp only [evTs, evT, act, hb]
  rw [if_neg (by cases w <;> decide)]

/-- An operation whose guard was itself left out. -/
theorem evTs_un (hb : s j = .tup []) : evTs F (Ins.mk d (some (j, w)) o :: is) K ⟨s, h⟩ = evTs F is K ⟨put? s d (.tup []), h⟩ := by
  simp only [evTs, evT, act, hb]

theorem evTs_guard {b : Bool} (hj : s j = .bool b) (h1 : b = w → evTs F (Ins.mk d none o :: is) K ⟨s, h⟩) (h2 : b = !w → evTs F is K ⟨put? s d (.tup []), h⟩) : evTs F (Ins.mk d (some (j, w)) o :: is) K ⟨s, h⟩ := by
  by_cases hb : b = w
  · subst hb; rw [evTs_go hj]; exact h1 rfl
  · have : b = !w := by cases b <;> cases w <;> first | rfl | exact absurd rfl hb
    subst this; rw [evTs_out hj]; exact h2 rfl

theorem evTs_call {f : Od} {as : List Od} {k : Nat} {caps : List AV} (hf : f.ev s = .fn k caps) (hF : F k (as.map (Od.ev s) ++ caps) h fun v h' => evTs F is K ⟨put? s d v, h'⟩) : evTs F (Ins.mk d none (.call f as) :: is) K ⟨s, h⟩ := by
  simp only [evTs, evT, act, evO, hf]
  exact hF
end

/-- A condition. -/
theorem AW.cond' {P : Program} {n lo : Nat} {Q : Ex → St → Prop} {st : St} {x : Od} {p q : C} {b : Bool} (hx : x.ev st.s = .bool b) (h1 : b = true → AW P n lo p Q st) (h2 : b = false → AW P n lo q Q st) : AW P n lo (.cond x p q) Q st := by
  refine AW.cond hx ?_
  cases b with
  | true => exact h1 rfl
  | false => exact h2 rfl

/-- Where a function ends, and with what. -/
def Ends (rs : List Rv) (fresh : Option Nat) (R : AV → Prop) (Q : Ex → St → Prop) : Prop :=
  ∀ ex st v r, (ex = .normal ∨ ex = .ret) → resVs st rs = some v → handOver fresh st.h v = some r → R r → Q ex st

theorem Ends.ret {rs : List Rv} {fresh : Option Nat} {R : AV → Prop} {Q : Ex → St → Prop} (hQ : Ends rs fresh R Q) {st : St} {v r : AV} (h1 : resVs st rs = some v) (h2 : handOver fresh st.h v = some r) (h3 : R r) : Q .ret st :=
  hQ _ st v r (.inr rfl) h1 h2 h3

theorem Ends.norm {rs : List Rv} {fresh : Option Nat} {R : AV → Prop} {Q : Ex → St → Prop} (hQ : Ends rs fresh R Q) {st : St} {v r : AV} (h1 : resVs st rs = some v) (h2 : handOver fresh st.h v = some r) (h3 : R r) : Q .normal st :=
  hQ _ st v r (.inl rfl) h1 h2 h3

theorem Pure.walk {P : Program} {f n : Nat} {rs : List Rv} {ir : C} (hf : fd? P f = some (n, rs, ir)) (fresh : Option Nat) {args : List AV} (hn : args.length ≤ n) {R : AV → Prop} (hR : ∃ r, R r)
    (hw : ∀ Q, Ends rs fresh R Q → AW P n 0 ir Q ⟨slotsOf args, []⟩) : Pure P f args R :=
  Pure.of_code hf fresh hn hR (hw _ fun _ _ v r h1 h2 h3 h4 => ⟨h1, v, r, h2, h3, h4⟩)

/-- What a call of a function without memory of its caller gives. -/
theorem Fn.val {P : Program} {f : Nat} {args : List AV} {h : Hp} {r : AV} (hp : Pure P f args (· = r)) (ha : plain deep (.tup args) = true) (hr : adopt h r = some (r, h)) {K : AV → Hp → Prop} (hK : K r h) : Fn P f args h K :=
  Fn.pure hp (h1 := h) (as := args) (by simp [freeze, ha]) fun _ e => ⟨r, h, by subst e; simpa using hr, hK⟩

/-- The same where the heap has to stay as it is. -/
theorem Fnq.val {P : Program} {f : Nat} {args : List AV} {h : Hp} {r : AV} (hp : Pure P f args (· = r)) (ha : plain deep (.tup args) = true) (hr : adopt h r = some (r, h)) {K : AV → Hp → Prop} (hK : K r h) : Fnq P f args h K :=
  Fn.val hp ha hr ⟨rfl, hK⟩

theorem put?_some (s : Nat → AV) (i : Nat) (v : AV) : put? s (some i) v = put s i v := Eq.trans rfl rfl
theorem put?_none (s : Nat → AV) (v : AV) : put? s none v = s := Eq.trans rfl rfl
theorem slotsOf_nil (i : Nat) : slotsOf [] i = .junk := Eq.trans rfl rfl
theorem slotsOf_zero (v : AV) (vs : List AV) : slotsOf (v :: vs) 0 = v := Eq.trans rfl rfl
theorem slotsOf_lit (v : AV) (vs : List AV) (n : Nat) (hn : n ≠ 0) : slotsOf (v :: vs) n = slotsOf vs (n - 1) := by
  cases n with
  | zero => exact absurd rfl hn
  | succ n => rfl
theorem od_t (s : Nat → AV) (i : Nat) : (Od.t i).ev s = s i := Eq.trans rfl rfl
theorem od_c (s : Nat → AV) (v : AV) : (Od.c v).ev s = v := Eq.trans rfl rfl

theorem put_at (s : Nat → AV) (i : Nat) (v : AV) (j : Nat) : put s i v j = if j = i then v else s j := Eq.trans rfl rfl
theorem isCall_mv (a0) : (Op1.mv a0).isCall = false := Eq.trans rfl rfl
theorem isCall_pick (a0) (a1) (a2) : (Op1.pick a0 a1 a2).isCall = false := Eq.trans rfl rfl
theorem isCall_box (a0) : (Op1.box a0).isCall = false := Eq.trans rfl rfl
theorem isCall_alloc (a0) : (Op1.alloc a0).isCall = false := Eq.trans rfl rfl
theorem isCall_build (a0) (a1) : (Op1.build a0 a1).isCall = false := Eq.trans rfl rfl
theorem isCall_mksl (a0) (a1) (a2) (a3) : (Op1.mksl a0 a1 a2 a3).isCall = false := Eq.trans rfl rfl
theorem isCall_mkslp (a0) (a1) (a2) (a3) : (Op1.mkslp a0 a1 a2 a3).isCall = false := Eq.trans rfl rfl
theorem isCall_load (a0) (a1) : (Op1.load a0 a1).isCall = false := Eq.trans rfl rfl
theorem isCall_store (a0) (a1) (a2) : (Op1.store a0 a1 a2).isCall = false := Eq.trans rfl rfl
theorem isCall_nilchk (a0) : (Op1.nilchk a0).isCall = false := Eq.trans rfl rfl
theorem isCall_bin (a0) (a1) (a2) : (Op1.bin a0 a1 a2).isCall = false := Eq.trans rfl rfl
theorem isCall_binb (a0) (a1) (a2) : (Op1.binb a0 a1 a2).isCall = false := Eq.trans rfl rfl
theorem isCall_eqs (a0) (a1) (a2) (a3) : (Op1.eqs a0 a1 a2 a3).isCall = false := Eq.trans rfl rfl
theorem isCall_eqp (a0) (a1) (a2) : (Op1.eqp a0 a1 a2).isCall = false := Eq.trans rfl rfl
theorem isCall_un (a0) (a1) : (Op1.un a0 a1).isCall = false := Eq.trans rfl rfl
theorem isCall_cint (a0) (a1) : (Op1.cint a0 a1).isCall = false := Eq.trans rfl rfl
theorem isCall_cstr (a0) : (Op1.cstr a0).isCall = false := Eq.trans rfl rfl
theorem isCall_cbytes (a0) : (Op1.cbytes a0).isCall = false := Eq.trans rfl rfl
theorem isCall_mkfn (a0) (a1) : (Op1.mkfn a0 a1).isCall = false := Eq.trans rfl rfl
theorem isCall_mkslc (a0) (a1) (a2) (a3) (a4) : (Op1.mkslc a0 a1 a2 a3 a4).isCall = false := Eq.trans rfl rfl
theorem isCall_slice (a0) (a1) (a2) (a3) : (Op1.slice a0 a1 a2 a3).isCall = false := Eq.trans rfl rfl
theorem isCall_sslice (a0) (a1) (a2) : (Op1.sslice a0 a1 a2).isCall = false := Eq.trans rfl rfl
theorem isCall_aslice (a0) (a1) (a2) (a3) (a4) : (Op1.aslice a0 a1 a2 a3 a4).isCall = false := Eq.trans rfl rfl
theorem isCall_faddr (a0) (a1) : (Op1.faddr a0 a1).isCall = false := Eq.trans rfl rfl
theorem isCall_fld (a0) (a1) (a2) : (Op1.fld a0 a1 a2).isCall = false := Eq.trans rfl rfl
theorem isCall_iaddr (a0) (a1) (a2) : (Op1.iaddr a0 a1 a2).isCall = false := Eq.trans rfl rfl
theorem isCall_aiaddr (a0) (a1) (a2) (a3) : (Op1.aiaddr a0 a1 a2 a3).isCall = false := Eq.trans rfl rfl
theorem isCall_idx (a0) (a1) (a2) (a3) : (Op1.idx a0 a1 a2 a3).isCall = false := Eq.trans rfl rfl
theorem isCall_sidx (a0) (a1) : (Op1.sidx a0 a1).isCall = false := Eq.trans rfl rfl
theorem isCall_ext (a0) (a1) : (Op1.ext a0 a1).isCall = false := Eq.trans rfl rfl
theorem isCall_len (a0) (a1) : (Op1.len a0 a1).isCall = false := Eq.trans rfl rfl
theorem isCall_alen (a0) : (Op1.alen a0).isCall = false := Eq.trans rfl rfl
theorem isCall_maxmin (a0) (a1) (a2) : (Op1.maxmin a0 a1 a2).isCall = false := Eq.trans rfl rfl
theorem isCall_append (a0) (a1) (a2) (a3) : (Op1.append a0 a1 a2 a3).isCall = false := Eq.trans rfl rfl
theorem isCall_mkmap : (Op1.mkmap ).isCall = false := Eq.trans rfl rfl
theorem isCall_lookup (a0) (a1) (a2) (a3) : (Op1.lookup a0 a1 a2 a3).isCall = false := Eq.trans rfl rfl
theorem isCall_mapset (a0) (a1) (a2) : (Op1.mapset a0 a1 a2).isCall = false := Eq.trans rfl rfl

/-- Operations that are no calls (but for literal rows and append, which have steps of their own). -/
theorem noCall : (∀ a0, (Op1.mv a0).isCall = false) ∧
    (∀ a0 a1 a2, (Op1.pick a0 a1 a2).isCall = false) ∧
    (∀ a0, (Op1.box a0).isCall = false) ∧
    (∀ a0, (Op1.alloc a0).isCall = false) ∧
    (∀ a0 a1, (Op1.build a0 a1).isCall = false) ∧
    (∀ a0 a1 a2 a3, (Op1.mksl a0 a1 a2 a3).isCall = false) ∧
    (∀ a0 a1, (Op1.load a0 a1).isCall = false) ∧
    (∀ a0 a1 a2, (Op1.store a0 a1 a2).isCall = false) ∧
    (∀ a0, (Op1.nilchk a0).isCall = false) ∧
    (∀ a0 a1 a2, (Op1.bin a0 a1 a2).isCall = false) ∧
    (∀ a0 a1 a2, (Op1.binb a0 a1 a2).isCall = false) ∧
    (∀ a0 a1 a2 a3, (Op1.eqs a0 a1 a2 a3).isCall = false) ∧
    (∀ a0 a1 a2, (Op1.eqp a0 a1 a2).isCall = false) ∧
    (∀ a0 a1, (Op1.un a0 a1).isCall = false) ∧
    (∀ a0 a1, (Op1.cint a0 a1).isCall = false) ∧
    (∀ a0, (Op1.cstr a0).isCall = false) ∧
    (∀ a0, (Op1.cbytes a0).isCall = false) ∧
    (∀ a0 a1, (Op1.mkfn a0 a1).isCall = false) ∧
    (∀ a0 a1 a2 a3 a4, (Op1.mkslc a0 a1 a2 a3 a4).isCall = false) ∧
    (∀ a0 a1 a2 a3, (Op1.slice a0 a1 a2 a3).isCall = false) ∧
    (∀ a0 a1 a2, (Op1.sslice a0 a1 a2).isCall = false) ∧
    (∀ a0 a1 a2 a3 a4, (Op1.aslice a0 a1 a2 a3 a4).isCall = false) ∧
    (∀ a0 a1, (Op1.faddr a0 a1).isCall = false) ∧
    (∀ a0 a1 a2, (Op1.fld a0 a1 a2).isCall = false) ∧
    (∀ a0 a1 a2, (Op1.iaddr a0 a1 a2).isCall = false) ∧
    (∀ a0 a1 a2 a3, (Op1.aiaddr a0 a1 a2 a3).isCall = false) ∧
    (∀ a0 a1 a2 a3, (Op1.idx a0 a1 a2 a3).isCall = false) ∧
    (∀ a0 a1, (Op1.sidx a0 a1).isCall = false) ∧
    (∀ a0 a1, (Op1.ext a0 a1).isCall = false) ∧
    (∀ a0 a1, (Op1.len a0 a1).isCall = false) ∧
    (∀ a0, (Op1.alen a0).isCall = false) ∧
    (∀ a0 a1 a2, (Op1.maxmin a0 a1 a2).isCall = false) ∧
    ((Op1.mkmap).isCall = false) ∧
    (∀ a0 a1 a2 a3, (Op1.lookup a0 a1 a2 a3).isCall = false) ∧
    (∀ a0 a1 a2, (Op1.mapset a0 a1 a2).isCall = false) :=
  ⟨fun _ => rfl, fun _ _ _ => rfl, fun _ => rfl, fun _ => rfl, fun _ _ => rfl, fun _ _ _ _ => rfl, fun _ _ => rfl, fun _ _ _ => rfl, fun _ => rfl, fun _ _ _ => rfl, fun _ _ _ => rfl, fun _ _ _ _ => rfl, fun _ _ _ => rfl, fun _ _ => rfl, fun _ _ => rfl, fun _ => rfl, fun _ => rfl, fun _ _ => rfl, fun _ _ _ _ _ => rfl, fun _ _ _ _ => rfl, fun _ _ _ => rfl, fun _ _ _ _ _ => rfl, fun _ _ => rfl, fun _ _ _ => rfl, fun _ _ _ => rfl, fun _ _ _ _ => rfl, fun _ _ _ _ => rfl, fun _ _ => rfl, fun _ _ => rfl, fun _ _ => rfl, fun _ => rfl, fun _ _ _ => rfl, rfl, fun _ _ _ _ => rfl, fun _ _ _ => rfl⟩

theorem beq_dec (a b : Int) : (a == b) = decide (a = b) := by by_cases h : a = b <;> simp [h]

theorem bin_add (k : IntKind) (a b : Int) : bin .add (.int k a) (.int k b) = some (.int k (k.wrap (a + b))) := by simp [bin, isShift, binI]
theorem bin_sub (k : IntKind) (a b : Int) : bin .sub (.int k a) (.int k b) = some (.int k (k.wrap (a - b))) := by simp [bin, isShift, binI]
theorem bin_mul (k : IntKind) (a b : Int) : bin .mul (.int k a) (.int k b) = some (.int k (k.wrap (a * b))) := by simp [bin, isShift, binI]
theorem bin_quo (k : IntKind) (a b : Int) (hb : b ≠ 0) : bin .quo (.int k a) (.int k b) = some (.int k (k.wrap (a.tdiv b))) := by simp [bin, isShift, binI, hb]
theorem bin_rem (k : IntKind) (a b : Int) (hb : b ≠ 0) : bin .rem (.int k a) (.int k b) = some (.int k (a.tmod b)) := by simp [bin, isShift, binI, hb]
theorem bin_eql (k : IntKind) (a b : Int) : bin .eql (.int k a) (.int k b) = some (.bool (decide (a = b))) := by simp [bin, isShift, binI, beq_dec]
theorem bin_neq (k : IntKind) (a b : Int) : bin .neq (.int k a) (.int k b) = some (.bool (decide (a ≠ b))) := by simp [bin, isShift, binI, bne, beq_dec]
theorem bin_lss (k : IntKind) (a b : Int) : bin .lss (.int k a) (.int k b) = some (.bool (decide (a < b))) := by simp [bin, isShift, binI]
theorem bin_leq (k : IntKind) (a b : Int) : bin .leq (.int k a) (.int k b) = some (.bool (decide (a ≤ b))) := by simp [bin, isShift, binI]
theorem bin_gtr (k : IntKind) (a b : Int) : bin .gtr (.int k a) (.int k b) = some (.bool (decide (b < a))) := by simp [bin, isShift, binI]
theorem bin_geq (k : IntKind) (a b : Int) : bin .geq (.int k a) (.int k b) = some (.bool (decide (b ≤ a))) := by simp [bin, isShift, binI]
theorem maxI_max (k : IntKind) (a b : Int) : foldMax true (.int k a) [.int k b] = some (.int k (if b > a then b else a)) := by simp [foldMax, maxI]
theorem maxI_min (k : IntKind) (a b : Int) : foldMax false (.int k a) [.int k b] = some (.int k (if b < a then b else a)) := by simp [foldMax, maxI]

/-- The number is one of its kind. -/
theorem wrap_i64 {a : Int} (h1 : -9223372036854775808 ≤ a) (h2 : a ≤ 9223372036854775807) : IntKind.i64.wrap a = a := by
  rw [IntKind.wrap_i64]
  omega

end Go.Ab
