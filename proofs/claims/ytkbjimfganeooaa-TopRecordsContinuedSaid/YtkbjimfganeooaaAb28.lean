/-
  The abstract machine, twenty-eighth part: a walk that follows a function over typed data, which is known to yield r.
-/
import Derived.Test.YtkbjimfganeooaaAb27
set_option linter.unusedSimpArgs false
set_option linter.unusedVariables false
namespace Go.Ab
open Go

variable {P : Program}

/-! ## Code -/

section
variable {n lo : Nat} {Q : Ex → St → Prop} {st : St}

theorem AW.rseq {is : List Ins} {y : C} (h : evTs (Fn P) is (fun st => AW P n lo y Q st) st) : AW P n lo (.seq (.reg is) y) Q st := AW.seq (AW.reg h)
theorem AW.rqseq {is : List Ins} {y : C} (h : evTs (Fnq P) is (fun st => AW P n lo y Q st) st) : AW P n lo (.seq (.regq is) y) Q st := AW.seq (AW.regq h)
theorem AW.rend {is : List Ins} (h : evTs (Fn P) is (fun st => Q .normal st) st) : AW P n lo (.reg is) Q st := AW.reg h
theorem AW.rqend {is : List Ins} (h : evTs (Fnq P) is (fun st => Q .normal st) st) : AW P n lo (.regq is) Q st := AW.regq h
theorem AW.skseq {y : C} (h : AW P n lo y Q st) : AW P n lo (.seq .skip y) Q st := AW.seq (AW.skip h)
theorem AW.retseq {y : C} (h : Q .ret st) : AW P n lo (.seq .ret y) Q st := AW.seq (AW.ret h)
theorem AW.exseq {id : Nat} {y : C} (h : Q (.exit id) st) : AW P n lo (.seq (.exit id) y) Q st := AW.seq (AW.exit h)

/-- What comes behind a piece of code. -/
def seqQ (P : Program) (n lo : Nat) (y : C) (Q : Ex → St → Prop) : Ex → St → Prop := thenQ (AW P n lo y Q) Q

theorem AW.sseq {a y : C} (h : AW P n lo a (seqQ P n lo y Q) st) : AW P n lo (.seq a y) Q st := AW.seq h
theorem seqQ.norm {y : C} (h : AW P n lo y Q st) : seqQ P n lo y Q .normal st := h
theorem seqQ.exit {y : C} {i : Nat} (h : Q (.exit i) st) : seqQ P n lo y Q (.exit i) st := h
theorem seqQ.ret {y : C} (h : Q .ret st) : seqQ P n lo y Q .ret st := h

/-- At the end of a block behind which there is y. -/
def blkQ (P : Program) (n lo : Nat) (id : Nat) (y : C) (Q : Ex → St → Prop) : Ex → St → Prop
  | .normal, st => AW P n lo y Q st
  | .exit i, st => if i = id then AW P n lo y Q st else Q (.exit i) st
  | .ret, st => Q .ret st

theorem AW.bseq {id : Nat} {c y : C} (h : AW P n lo c (blkQ P n lo id y Q) st) : AW P n lo (.seq (.block id c) y) Q st := by
  refine AW.seq (AW.block (AW.mono ?_ h))
  intro ex st' hq
  cases ex with
  | normal => exact hq
  | ret => exact hq
  | exit i =>
    simp only [blkQ] at hq
    simp only [blockQ]
    split at hq
    · rename_i e; rw [if_pos e]; exact hq
    · rename_i e; rw [if_neg e]; exact hq

/-- At the end of a block behind which there is nothing. -/
def blk0 (id : Nat) (Q : Ex → St → Prop) : Ex → St → Prop := blockQ id Q

theorem AW.bend {id : Nat} {c : C} (h : AW P n lo c (blk0 id Q) st) : AW P n lo (.block id c) Q st := AW.block h

theorem blkQ.norm {id : Nat} {y : C} (h : AW P n lo y Q st) : blkQ P n lo id y Q .normal st := h
theorem blkQ.here {id : Nat} {y : C} (h : AW P n lo y Q st) : blkQ P n lo id y Q (.exit id) st := by simp only [blkQ, if_true]; exact h
theorem blkQ.out {id i : Nat} {y : C} (hi : (i == id) = false) (h : Q (.exit i) st) : blkQ P n lo id y Q (.exit i) st := by
  simp only [blkQ]; rw [if_neg (by simpa using hi)]; exact h
theorem blkQ.ret {id : Nat} {y : C} (h : Q .ret st) : blkQ P n lo id y Q .ret st := h
theorem blk0.norm {id : Nat} (h : Q .normal st) : blk0 id Q .normal st := h
theorem blk0.here {id : Nat} (h : Q .normal st) : blk0 id Q (.exit id) st := by simp only [blk0, blockQ, if_true]; exact h
theorem blk0.out {id i : Nat} (hi : (i == id) = false) (h : Q (.exit i) st) : blk0 id Q (.exit i) st := by
  simp only [blk0, blockQ]; rw [if_neg (by simpa using hi)]; exact h
theorem blk0.ret {id : Nat} (h : Q .ret st) : blk0 id Q .ret st := h

/-- At the end of a round, which has given x. -/
def loopQ {S E R : Type} (L : Lp S E) (lo : Nat) (K : E → Option R) (r : R) (Q : Ex → St → Prop) (x : Ctl S E) (ex : Ex) (st' : St) : Prop :=
  match x with
  | .next s' => ex = .normal ∧ Le lo st' (L.cst s')
  | .brk e => ex ≠ .normal ∧ (K e = some r → Q ex st')

theorem AW.iter {S E R : Type} {L : Lp S E} {K : E → Option R} {r : R} {s0 : S} {b : C} (H : (L.run s0).bind K = some r) (h0 : Le lo st (L.cst s0))
    (hr : ∀ s x st0, L.body s = some x → st0 = L.cst s → AW P n lo b (loopQ L lo K r Q x) st0) : AW P n lo (.loop b) Q st := by
  obtain ⟨e, he, hk⟩ := Option.bind_eq_some_iff.1 H
  obtain ⟨m, hm⟩ := iter_some.1 he
  refine AW.weaken h0 (AW.loop (fun m st => ∃ s, st = L.cst s ∧ iterN L.body m s = some e) (m := m) ⟨s0, rfl, hm⟩ ?_)
  rintro m st ⟨s, rfl, hm⟩
  cases m with
  | zero => cases hm
  | succ m =>
    cases hb : L.body s with
    | none => simp only [iterN, hb] at hm; cases hm
    | some x =>
      refine AW.mono ?_ (hr s x _ hb rfl)
      intro ex st' hq
      cases x with
      | next s' =>
        rw [iterN_next hb] at hm
        obtain ⟨rfl, hle⟩ := hq
        exact ⟨m, _, Nat.lt_succ_self _, hle, s', rfl, hm⟩
      | brk e' =>
        rw [iterN_brk hb] at hm
        injection hm with hm
        subst hm
        obtain ⟨hne, hq⟩ := hq
        have := hq hk
        cases ex with
        | normal => exact absurd rfl hne
        | exit id => exact this
        | ret => exact this

section
variable {S E R : Type} {L : Lp S E} {K : E → Option R} {r : R} {x : Ctl S E}
theorem loopQ.next {s' : S} (H : some (Ctl.next s') = some x) (h : Le lo st (L.cst s')) : loopQ L lo K r Q x .normal st := by
  cases H; exact ⟨rfl, h⟩
theorem loopQ.exit {e : E} {id : Nat} (H : some (Ctl.brk e) = some x) (h : K e = some r → Q (.exit id) st) : loopQ L lo K r Q x (.exit id) st := by
  cases H; exact ⟨by simp, h⟩
theorem loopQ.ret {e : E} (H : some (Ctl.brk e) = some x) (h : K e = some r → Q .ret st) : loopQ L lo K r Q x .ret st := by
  cases H; exact ⟨by simp, h⟩
end

/-- A condition. -/
theorem AW.ifc {α : Type} {A B : Option α} {r : α} {b : Bool} (H : (if b = true then A else B) = some r) {x : Od} {p q : C} (hx : x.ev st.s = .bool b) (h1 : A = some r → AW P n lo p Q st) (h2 : B = some r → AW P n lo q Q st) :
    AW P n lo (.cond x p q) Q st := by
  cases b with
  | true => exact AW.cond hx (h1 (by simpa using H))
  | false => exact AW.cond hx (h2 (by simpa using H))

/-- A condition that is known. -/
theorem AW.ift {x : Od} {p q : C} (hx : x.ev st.s = .bool true) (h : AW P n lo p Q st) : AW P n lo (.cond x p q) Q st := AW.cond hx h
theorem AW.iff {x : Od} {p q : C} (hx : x.ev st.s = .bool false) (h : AW P n lo q Q st) : AW P n lo (.cond x p q) Q st := AW.cond hx h

/-- What comes behind several ways that meet again: a function of what they leave, and the state of the machine. -/
structure Jn (V R : Type) where
  run : V → Option R
  cst : V → St

theorem AW.join {V R : Type} (J : Jn V R) {r : R} {hh : Option R} (_ : hh = some r) {a y : C} (hJ : ∀ v st0, J.run v = some r → st0 = J.cst v → AW P n lo y Q st0)
    (h : (∀ st' v, J.run v = some r → Le lo st' (J.cst v) → AW P n lo y Q st') → AW P n lo a (seqQ P n lo y Q) st) : AW P n lo (.seq a y) Q st :=
  AW.sseq (h fun _ v hv hl => AW.weaken hl (hJ v _ hv rfl))

theorem AW.joinB {V R : Type} (J : Jn V R) {r : R} {hh : Option R} (_ : hh = some r) {id : Nat} {b y : C} (hJ : ∀ v st0, J.run v = some r → st0 = J.cst v → AW P n lo y Q st0)
    (h : (∀ st' v, J.run v = some r → Le lo st' (J.cst v) → AW P n lo y Q st') → AW P n lo b (blkQ P n lo id y Q) st) : AW P n lo (.seq (.block id b) y) Q st :=
  AW.bseq (h fun _ v hv hl => AW.weaken hl (hJ v _ hv rfl))

/-- One state may be taken for another: fewer blocks and slots. -/
theorem Le.to {st2 : St} (ks live : List Nat) (hn : ks.Nodup) (hlo : ∀ b, b < lo → ks[b]? = some b) (e : Ab.restrict ks live st = st2) : Le lo st st2 := e ▸ Le.restrict ks live hn hlo

theorem Le.none {st2 : St} (ks live : List Nat) (hn : ks.Nodup) (e : Ab.restrict ks live st = st2) : Le 0 st st2 := e ▸ Le.restrict ks live hn fun b hb => absurd hb (Nat.not_lt_zero b)
end

/-! ## Regions -/

section
variable {F : CallF} {is : List Ins} {K : St → Prop} {s : Nat → AV} {h : Hp} {d : Option Nat} {α : Type} {r : α}

theorem put_self (s : Nat → AV) (j : Nat) (v : AV) (hv : s j = v) : put s j v = s := by
  funext i
  simp only [put]
  split
  · rename_i e; rw [e, hv]
  · rfl

/-- A guard. -/
theorem evTs_ifg {A B : Option α} {b : Bool} (H : (if b = true then A else B) = some r) {j : Nat} {w : Bool} {o : Op1} (hj : s j = .bool b)
    (h1 : A = some r → evTs F (Ins.mk d (some (j, w)) o :: is) K ⟨put s j (.bool true), h⟩) (h2 : B = some r → evTs F (Ins.mk d (some (j, w)) o :: is) K ⟨put s j (.bool false), h⟩) :
    evTs F (Ins.mk d (some (j, w)) o :: is) K ⟨s, h⟩ := by
  cases b with
  | true => have := h1 (by simpa using H); rwa [put_self s j _ hj] at this
  | false => have := h2 (by simpa using H); rwa [put_self s j _ hj] at this

theorem step {o : Op1} {v : AV} {h' : Hp} (hc : o.isCall = false) (hv : evV s h o = some (v, h')) (hk : evTs F is K ⟨put? s d v, h'⟩) : evTs F (Ins.mk d none o :: is) K ⟨s, h⟩ := by
  rw [evTs_op hc, hv]; exact hk

theorem at_inv {τ : Type} {xs : List τ} {i : Int} {kont : τ → Option α} (H : (at? xs i).bind kont = some r) : ∃ y, 0 ≤ i ∧ xs[i.toNat]? = some y ∧ kont y = some r := by
  obtain ⟨y, hy, hk⟩ := Option.bind_eq_some_iff.1 H
  unfold at? at hy
  split at hy
  · exact ⟨y, by assumption, hy, hk⟩
  · cases hy

/-- An element of a slice that is only read. -/
theorem evTs_at {τ : Type} {xs : List τ} {i : Int} {kont : τ → Option α} (H : (at? xs i).bind kont = some r) {enc : τ → AV} {e : Nat} {f : Bool} {k : IntKind} {x j : Od} (hx : x.ev s = .sl e f (xs.map enc)) (hi : j.ev s = .int k i)
    (hk : ∀ y, kont y = some r → evTs F is K ⟨put? s d (.pro (enc y).cells), h⟩) : evTs F (Ins.mk d none (.iaddr e x j) :: is) K ⟨s, h⟩ := by
  obtain ⟨y, h0, h1, h2⟩ := at_inv H
  refine step rfl ?_ (hk y h2)
  simp only [evV, hx, hi, h0, if_true, List.getElem?_map, h1, Option.map_some]

/-- A byte of a text. -/
theorem evTs_sat {xs : List UInt8} {i : Int} {kont : UInt8 → Option α} (H : (at? xs i).bind kont = some r) {k : IntKind} {x j : Od} (hx : x.ev s = .str xs) (hi : j.ev s = .int k i)
    (hk : ∀ y, kont y = some r → evTs F is K ⟨put? s d (.int .u8 (y.toNat : Int)), h⟩) : evTs F (Ins.mk d none (.sidx x j) :: is) K ⟨s, h⟩ := by
  obtain ⟨y, h0, h1, h2⟩ := at_inv H
  refine step rfl ?_ (hk y h2)
  simp only [evV, hx, hi, h0, if_true, h1, Option.map_some]

theorem nz_inv {b : Int} {kont : Unit → Option α} (H : (nz? b).bind kont = some r) : b ≠ 0 ∧ kont () = some r := by
  obtain ⟨y, hy, hk⟩ := Option.bind_eq_some_iff.1 H
  unfold nz? at hy
  split at hy
  · exact ⟨by assumption, hk⟩
  · cases hy

theorem evTs_quo {a b : Int} {kont : Unit → Option α} (H : (nz? b).bind kont = some r) {k : IntKind} {x y : Od} (hx : x.ev s = .int k a) (hy : y.ev s = .int k b)
    (hk : kont () = some r → evTs F is K ⟨put? s d (.int k (k.wrap (a.tdiv b))), h⟩) : evTs F (Ins.mk d none (.bin .quo x y) :: is) K ⟨s, h⟩ := by
  obtain ⟨h0, h1⟩ := nz_inv H
  refine step rfl ?_ (hk h1)
  simp only [evV, hx, hy, bin_quo _ _ _ h0, Option.map_some]

theorem evTs_rem {a b : Int} {kont : Unit → Option α} (H : (nz? b).bind kont = some r) {k : IntKind} {x y : Od} (hx : x.ev s = .int k a) (hy : y.ev s = .int k b)
    (hk : kont () = some r → evTs F is K ⟨put? s d (.int k (a.tmod b)), h⟩) : evTs F (Ins.mk d none (.bin .rem x y) :: is) K ⟨s, h⟩ := by
  obtain ⟨h0, h1⟩ := nz_inv H
  refine step rfl ?_ (hk h1)
  simp only [evV, hx, hy, bin_rem _ _ _ h0, Option.map_some]

theorem app_inv {τ : Type} {bytes : Nat} {xs ys : List τ} {kont : List τ → Option α} (H : (app? bytes xs ys).bind kont = some r) :
    ∃ z, z = xs ++ ys ∧ (xs.length + ys.length) * bytes ≤ room ∧ xs.length + ys.length ≤ maxStr ∧ kont z = some r := by
  obtain ⟨z, hz, hk⟩ := Option.bind_eq_some_iff.1 H
  unfold app? at hz
  split at hz
  · rename_i hc
    injection hz with hz
    exact ⟨z, hz.symm, hc.1, hc.2, hk⟩
  · cases hz

/-- Appending to a row. -/
theorem evTs_app {τ : Type} {bytes : Nat} {xs ys : List τ} {kont : List τ → Option α} (H : (app? bytes xs ys).bind kont = some r) {enc : τ → AV} {e b m : Nat} {f : Bool} {x y : Od}
    (hx : x.ev s = .row e b 0 m) (hm : m = xs.length) (hb : h[b]? = some (.els e (xs.map enc))) (hy : y.ev s = .sl e f (ys.map enc))
    (hk : ∀ z, kont z = some r → evTs F is K ⟨put? s d (.row e h.length 0 z.length), h.set b .dead ++ [.els e (z.map enc)]⟩) : evTs F (Ins.mk d none (.append e bytes x y) :: is) K ⟨s, h⟩ := by
  obtain ⟨z, rfl, h1, h2, h3⟩ := app_inv H
  subst hm
  refine step rfl ?_ (hk _ h3)
  simp only [evV, hx, hy]
  rw [append_row hb (by simp) (by simpa using h1) (by simpa using h2)]
  simp

/-- Appending to an empty slice. -/
theorem evTs_app0 {τ : Type} {bytes : Nat} {ys : List τ} {kont : List τ → Option α} (H : (app? bytes [] ys).bind kont = some r) {enc : τ → AV} {e : Nat} {f : Bool} {x y : Od}
    (hx : x.ev s = .sl e true []) (hy : y.ev s = .sl e f (ys.map enc))
    (hk : ∀ z, kont z = some r → evTs F is K ⟨put? s d (.row e h.length 0 z.length), h ++ [.els e (z.map enc)]⟩) : evTs F (Ins.mk d none (.append e bytes x y) :: is) K ⟨s, h⟩ := by
  obtain ⟨z, rfl, h1, h2, h3⟩ := app_inv H
  refine step rfl ?_ (hk _ h3)
  simp only [List.length_nil, Nat.zero_add] at h1 h2
  simp [evV, hx, hy, append, appendL, srcElems, h1, h2]

theorem rest_quo {a b : Int} {kont : Unit → Option α} (H : (nz? b).bind kont = some r) {k : IntKind}
    (hk : kont () = some r → rest F is K s d (some (.int k (k.wrap (a.tdiv b)), h))) : rest F is K s d (Option.map (fun v => (v, h)) (bin .quo (.int k a) (.int k b))) := by
  obtain ⟨h0, h1⟩ := nz_inv H
  rw [bin_quo _ _ _ h0]
  exact hk h1

theorem rest_rem {a b : Int} {kont : Unit → Option α} (H : (nz? b).bind kont = some r) {k : IntKind}
    (hk : kont () = some r → rest F is K s d (some (.int k (a.tmod b), h))) : rest F is K s d (Option.map (fun v => (v, h)) (bin .rem (.int k a) (.int k b))) := by
  obtain ⟨h0, h1⟩ := nz_inv H
  rw [bin_rem _ _ _ h0]
  exact hk h1

theorem rest_cat {a b : List UInt8} {kont : List UInt8 → Option α} (H : (cat? a b).bind kont = some r)
    (hk : ∀ z, kont z = some r → rest F is K s d (some (.str z, h))) : rest F is K s d (Option.map (fun v => (v, h)) (bin .add (.str a) (.str b))) := by
  obtain ⟨z, hz, h3⟩ := Option.bind_eq_some_iff.1 H
  unfold cat? at hz
  split at hz
  · rename_i hc
    injection hz with hz; subst hz
    simp only [bin, binS, hc, if_true]
    exact hk _ h3
  · cases hz

theorem slc_inv {τ : Type} {xs : List τ} {lo hi : Int} {kont : List τ → Option α} (H : (slc? xs lo hi).bind kont = some r) :
    (0 ≤ lo ∧ lo ≤ hi ∧ hi ≤ xs.length) ∧ ∃ z, z = (xs.take hi.toNat).drop lo.toNat ∧ kont z = some r := by
  obtain ⟨z, hz, hk⟩ := Option.bind_eq_some_iff.1 H
  unfold slc? at hz
  split at hz
  · rename_i hc
    injection hz with hz
    exact ⟨hc, z, hz.symm, hk⟩
  · cases hz

def loI (s : Nat → AV) : Option Od → AV
  | none => .int .i64 0
  | some x => x.ev s
def hiI (s : Nat → AV) (n : Nat) : Option Od → AV
  | none => .int .i64 n
  | some x => x.ev s

theorem bounds_eq (n : Nat) (lo hi : Option Od) {k k' : IntKind} {a b : Int} (h1 : loI s lo = .int k a) (h2 : hiI s n hi = .int k' b) (h3 : 0 ≤ a ∧ a ≤ b ∧ b ≤ n) : bounds s n lo hi = some (a.toNat, b.toNat) := by
  have e : bounds s n lo hi = (match loI s lo, hiI s n hi with
    | .int _ a, .int _ b => if 0 ≤ a ∧ a ≤ b ∧ b ≤ n then some (a.toNat, b.toNat) else none
    | _, _ => none) := by cases lo <;> cases hi <;> rfl
  rw [e, h1, h2]
  simp only [h3, and_self, if_true]

/-- A part of a slice that is only read. -/
theorem evTs_slc {τ : Type} {xs : List τ} {a b : Int} {kont : List τ → Option α} (H : (slc? xs a b).bind kont = some r) {enc : τ → AV} {e : Nat} {f : Bool} {k k' : IntKind} {x : Od} {lo hi : Option Od}
    (hx : x.ev s = .sl e f (xs.map enc)) (hf : (f && (xs.map enc).isEmpty) = false) (h1 : loI s lo = .int k a) (h2 : hiI s xs.length hi = .int k' b)
    (hk : ∀ z, kont z = some r → evTs F is K ⟨put? s d (.sl e false (z.map enc)), h⟩) : evTs F (Ins.mk d none (.slice e x lo hi) :: is) K ⟨s, h⟩ := by
  obtain ⟨h0, z, rfl, h3⟩ := slc_inv H
  refine step rfl ?_ (hk _ h3)
  simp only [evV, hx, hf, if_true, List.length_map, bounds_eq _ lo hi h1 h2 h0, Option.map_some, List.map_drop, List.map_take]

theorem evTs_sslc {xs : List UInt8} {a b : Int} {kont : List UInt8 → Option α} (H : (slc? xs a b).bind kont = some r) {k k' : IntKind} {x : Od} {lo hi : Option Od}
    (hx : x.ev s = .str xs) (h1 : loI s lo = .int k a) (h2 : hiI s xs.length hi = .int k' b)
    (hk : ∀ z, kont z = some r → evTs F is K ⟨put? s d (.str z), h⟩) : evTs F (Ins.mk d none (.sslice x lo hi) :: is) K ⟨s, h⟩ := by
  obtain ⟨h0, z, rfl, h3⟩ := slc_inv H
  refine step rfl ?_ (hk _ h3)
  simp only [evV, hx, bounds_eq _ lo hi h1 h2 h0, Option.map_some]

theorem evTs_cat {a b : List UInt8} {kont : List UInt8 → Option α} (H : (cat? a b).bind kont = some r) {x y : Od} (hx : x.ev s = .str a) (hy : y.ev s = .str b)
    (hk : ∀ z, kont z = some r → evTs F is K ⟨put? s d (.str z), h⟩) : evTs F (Ins.mk d none (.bin .add x y) :: is) K ⟨s, h⟩ := by
  obtain ⟨z, hz, h3⟩ := Option.bind_eq_some_iff.1 H
  unfold cat? at hz
  split at hz
  · rename_i hc
    injection hz with hz; subst hz
    refine step rfl ?_ (hk _ h3)
    simp only [evV, hx, hy, bin, binS, hc, if_true, Option.map_some]
  · cases hz
end

/-! ## Calls -/

section
variable {is : List Ins} {K : St → Prop} {s : Nat → AV} {h : Hp} {d : Option Nat} {α β : Type} {r : α}

/-- What a call of a function with plain arguments and results gives. -/
theorem Fn.val2 {f : Nat} {args : List AV} {h : Hp} {v : AV} (hp : Pure P f (args.map (unf 12)) (· = v)) (ha : plain deep (.tup args) = true) (hr : adopt h v = some (v, h)) {K : AV → Hp → Prop} (hK : K v h) : Fn P f args h K :=
  Fn.val hp.args ha hr hK

/-- The same, where arguments lead to blocks, and the result is flat. -/
theorem Fn.valf {f : Nat} {args as : List AV} {h : Hp} {v : AV} (hp : Pure P f (as.map (unf 12)) (· = v)) (ha : imm h deep (.tup args) = some (.tup as)) (hf : flat deep v = true) (hr : adopt h v = some (v, h)) {K : AV → Hp → Prop} (hK : K v h) : Fn P f args h K := by
  by_cases hpl : plain deep (.tup args) = true
  · have : as = args := by
      have := imm_plain h deep deep _ hpl (Nat.le_refl _)
      rw [this] at ha
      injection ha with ha; injection ha with ha
      exact ha.symm
    subst this
    exact Fn.val hp.args hpl hr hK
  · refine Fn.pure hp.args (h1 := kill h (visit h deep (.tup args))) (by simp only [freeze, hpl, ha]; rfl) fun x hx => ⟨v, h, ?_, hK⟩
    subst hx
    rw [hf]
    exact hr

theorem evTs_pure {F : CallF} (hF : ∀ k args h K, Fn P k args h (fun v h' => h' = h ∧ K v h') → F k args h K) {m : Option β} {kont : β → Option α} (H : m.bind kont = some r) {k : Nat} {as' : List AV} {enc : β → AV} (spec : ∀ y, m = some y → Pure P k as' (· = enc y))
    {f : Od} {as : List Od} {caps args : List AV} (hf : f.ev s = .fn k caps) (ha : as.map (Od.ev s) ++ caps = args) (hpl : plain deep (.tup args) = true) (hu : args.map (unf 12) = as') (hr : ∀ y, adopt h (enc y) = some (enc y, h))
    (hk : ∀ y, kont y = some r → evTs F is K ⟨put? s d (enc y), h⟩) : evTs F (Ins.mk d none (.call f as) :: is) K ⟨s, h⟩ := by
  obtain ⟨y, hy, h2⟩ := Option.bind_eq_some_iff.1 H
  refine evTs_call hf (hF _ _ _ _ ?_)
  subst hu
  rw [ha]
  exact Fn.val2 (spec y hy) hpl (hr y) ⟨rfl, hk y h2⟩

theorem evTs_flat {F : CallF} (hF : ∀ k args h K, Fn P k args h (fun v h' => h' = h ∧ K v h') → F k args h K) {m : Option β} {kont : β → Option α} (H : m.bind kont = some r) {k : Nat} {as' : List AV} {enc : β → AV} (spec : ∀ y, m = some y → Pure P k as' (· = enc y))
    {f : Od} {as : List Od} {caps args ims : List AV} (hf : f.ev s = .fn k caps) (ha : as.map (Od.ev s) ++ caps = args) (him : imm h deep (.tup args) = some (.tup ims)) (hu : ims.map (unf 12) = as') (hfl : ∀ y, flat deep (enc y) = true) (hr : ∀ y, adopt h (enc y) = some (enc y, h))
    (hk : ∀ y, kont y = some r → evTs F is K ⟨put? s d (enc y), h⟩) : evTs F (Ins.mk d none (.call f as) :: is) K ⟨s, h⟩ := by
  obtain ⟨y, hy, h2⟩ := Option.bind_eq_some_iff.1 H
  refine evTs_call hf (hF _ _ _ _ ?_)
  subst hu
  rw [ha]
  exact Fn.valf (spec y hy) him (hfl y) (hr y) ⟨rfl, hk y h2⟩

theorem hFn (k : Nat) (args : List AV) (h : Hp) (K : AV → Hp → Prop) (hf : Fn P k args h (fun v h' => h' = h ∧ K v h')) : Fn P k args h K := hf.mono fun _ _ k => k.2
theorem hFnq (k : Nat) (args : List AV) (h : Hp) (K : AV → Hp → Prop) (hf : Fn P k args h (fun v h' => h' = h ∧ K v h')) : Fnq P k args h K := hf

/-- A call that hands a row over. -/
theorem evTs_fr {m : Option β} {kont : β → Option α} (H : m.bind kont = some r) {k : Nat} {as' : List AV} {enc : β → AV} (spec : ∀ y, m = some y → Pure P k as' (· = enc y))
    {f : Od} {as : List Od} {caps args : List AV} (hf : f.ev s = .fn k caps) (ha : as.map (Od.ev s) ++ caps = args) (hpl : plain deep (.tup args) = true) (hu : args.map (unf 12) = as') {enc' : β → AV} {blk : β → HB} (hr : ∀ y, adopt h (enc y) = some (enc' y, h ++ [blk y]))
    (hk : ∀ y, kont y = some r → evTs (Fn P) is K ⟨put? s d (enc' y), h ++ [blk y]⟩) : evTs (Fn P) (Ins.mk d none (.call f as) :: is) K ⟨s, h⟩ := by
  obtain ⟨y, hy, h2⟩ := Option.bind_eq_some_iff.1 H
  refine evTs_call hf ?_
  subst hu
  rw [ha]
  refine Fn.pure (spec y hy).args (h1 := h) (by simp [freeze, hpl]) fun x hx => ⟨_, _, ?_, hk y h2⟩
  subst hx
  rw [ite_self]
  exact hr y
end
end Go.Ab
