/-
  The abstract machine, twenty-seventh part: loops as functions, values in their plain form, and the steps of a walk that follows a function over typed data.
-/
import Derived.Test.YtkbjimfganeooaaAb26
set_option linter.unusedSimpArgs false
set_option linter.unusedVariables false
namespace Go.Ab
open Go

/-! ## Loops as functions -/

/-- What a round gives: the next state, or what the loop leaves behind. -/
inductive Ctl (S E : Type) where
  | next (s : S)
  | brk (e : E)

def iterN {S E : Type} (body : S → Option (Ctl S E)) : Nat → S → Option E
  | 0, _ => none
  | n + 1, s => match body s with
    | some (.next s') => iterN body n s'
    | some (.brk e) => some e
    | none => none

section
variable {S E : Type} {body : S → Option (Ctl S E)}

theorem iterN_zero (s : S) : iterN body 0 s = none := rfl
theorem iterN_next {n : Nat} {s s' : S} (h : body s = some (.next s')) : iterN body (n + 1) s = iterN body n s' := by simp only [iterN, h]
theorem iterN_brk {n : Nat} {s : S} {e : E} (h : body s = some (.brk e)) : iterN body (n + 1) s = some e := by simp only [iterN, h]

theorem iterN_det : ∀ {n m : Nat} {s : S} {e e' : E}, iterN body n s = some e → iterN body m s = some e' → e = e'
  | 0, _, _, _, _, h, _ => by simp [iterN] at h
  | _ + 1, 0, _, _, _, _, h => by simp [iterN] at h
  | n + 1, m + 1, s, e, e', h, k => by
    simp only [iterN] at h k
    split at h
    · rename_i s' hs
      rw [hs] at k
      exact iterN_det h k
    · rename_i x hs
      rw [hs] at k
      injection h with h
      injection k with k
      exact h.symm.trans k
    · cases h

open Classical in
/-- What the loop leaves behind, if it ends. -/
noncomputable def iter (body : S → Option (Ctl S E)) (s : S) : Option E := if h : ∃ e n, iterN body n s = some e then some h.choose else none

theorem iter_some {s : S} {e : E} : iter body s = some e ↔ ∃ n, iterN body n s = some e := by
  unfold iter
  split
  · rename_i h
    obtain ⟨n, hn⟩ := h.choose_spec
    constructor
    · intro he
      injection he with he
      exact ⟨n, he ▸ hn⟩
    · rintro ⟨m, hm⟩
      rw [iterN_det hn hm]
  · rename_i h
    constructor
    · intro he; cases he
    · intro he; exact absurd ⟨e, he⟩ h

theorem iter_next {s s' : S} (h : body s = some (.next s')) : iter body s = iter body s' := by
  refine Option.ext fun e => ?_
  rw [iter_some, iter_some]
  constructor
  · rintro ⟨n, hn⟩
    cases n with
    | zero => simp [iterN] at hn
    | succ n => exact ⟨n, by rwa [iterN_next h] at hn⟩
  · rintro ⟨n, hn⟩
    exact ⟨n + 1, by rwa [iterN_next h]⟩

theorem iter_brk {s : S} {e : E} (h : body s = some (.brk e)) : iter body s = some e := iter_some.2 ⟨1, iterN_brk h⟩

/-- A loop whose measure becomes less. -/
theorem iter_rule (I : S → Prop) (μ : S → Nat) (Q : E → Prop) (h : ∀ s, I s → (∃ s', body s = some (.next s') ∧ I s' ∧ μ s' < μ s) ∨ ∃ e, body s = some (.brk e) ∧ Q e) :
    ∀ s, I s → ∃ e, iter body s = some e ∧ Q e := by
  have key : ∀ m s, μ s = m → I s → ∃ e, iter body s = some e ∧ Q e := by
    intro m
    induction m using Nat.strongRecOn with
    | _ m ih =>
      intro s hm hI
      rcases h s hI with ⟨s', h1, h2, h3⟩ | ⟨e, h1, h2⟩
      · rw [iter_next h1]
        exact ih (μ s') (hm ▸ h3) s' rfl h2
      · exact ⟨e, iter_brk h1, h2⟩
  exact fun s hI => key (μ s) s rfl hI
end

/-- A loop: its round, and the state of the machine at its head. -/
structure Lp (S E : Type) where
  body : S → Option (Ctl S E)
  cst : S → St

noncomputable def Lp.run {S E : Type} (L : Lp S E) (s : S) : Option E := iter L.body s

/-! ## What may fail, over typed data -/

def at? {τ : Type} (xs : List τ) (i : Int) : Option τ := if 0 ≤ i then xs[i.toNat]? else none
def app? {τ : Type} (bytes : Nat) (xs ys : List τ) : Option (List τ) := if (xs.length + ys.length) * bytes ≤ room ∧ xs.length + ys.length ≤ maxStr then some (xs ++ ys) else none
def slc? {τ : Type} (xs : List τ) (lo hi : Int) : Option (List τ) := if 0 ≤ lo ∧ lo ≤ hi ∧ hi ≤ xs.length then some ((xs.take hi.toNat).drop lo.toNat) else none
def cat? (a b : List UInt8) : Option (List UInt8) := if a.length + b.length ≤ maxStr then some (a ++ b) else none
def nz? (b : Int) : Option Unit := if b ≠ 0 then some () else none
def chk? (b : Bool) : Option Unit := if b = true then some () else none

/-! ## Values in their plain form -/

/-- Whether capacities are lengths is forgotten. -/
def unf : Nat → AV → AV
  | 0, v => v
  | n + 1, v => match v with
    | .sl e _ xs => .sl e false xs
    | .agg cs => .agg (cs.map (unf n))
    | .tup cs => .tup (cs.map (unf n))
    | .fn f cs => .fn f (cs.map (unf n))
    | .pro cs => .pro (cs.map (unf n))
    | v => v

theorem RI.unf {S : Nat → Nat → Prop} {w : World} : ∀ (n : Nat) {v : AV} {u : Value}, RI S w v u → RI S w (unf n v) u
  | 0, _, _, h => h
  | n + 1, v, u, h => by
    cases h with
    | sl e full xs A cap g o uu hl hm hf hA hx hc hr => exact .sl e false xs A cap g o uu hl hm (fun h => by cases h) hA hx hc hr (fun h => by cases h)
    | agg cs us hs hr =>
      refine .agg _ us (by simpa using hs) fun i c z hc hz => ?_
      simp only [List.getElem?_map, Option.map_eq_some_iff] at hc
      obtain ⟨c', hc', rfl⟩ := hc
      exact (hr i c' z hc' hz).unf n
    | tup cs us hs hr =>
      refine .tup _ us (by simpa using hs) fun i c z hc hz => ?_
      simp only [List.getElem?_map, Option.map_eq_some_iff] at hc
      obtain ⟨c', hc', rfl⟩ := hc
      exact (hr i c' z hc' hz).unf n
    | fn f cs us hs hr =>
      refine .fn f _ us (by simpa using hs) fun i c z hc hz => ?_
      simp only [List.getElem?_map, Option.map_eq_some_iff] at hc
      obtain ⟨c', hc', rfl⟩ := hc
      exact (hr i c' z hc' hz).unf n
    | pro cs g o uu hc hr =>
      refine .pro _ g o uu (fun i c hi => ?_) fun i c hi => ?_
      · simp only [List.getElem?_map, Option.map_eq_some_iff] at hi
        obtain ⟨c', hc', rfl⟩ := hi
        exact hc i c' hc'
      · simp only [List.getElem?_map, Option.map_eq_some_iff] at hi
        obtain ⟨c', hc', rfl⟩ := hi
        exact (hr i c' hc').unf n
    | bool b => exact .bool b
    | int k n => exact .int k n
    | str s => exact .str s
    | nilp => exact .nilp
    | nilfn => exact .nilfn
    | nilmp => exact .nilmp
    | mp ks vs g es cl hS hg h1 h2 hk hv => exact .mp ks vs g es cl hS hg h1 h2 hk hv

theorem RV.unf {E : Env} {w : World} : ∀ (n : Nat) {v : AV} {u : Value}, RV E w v u → RV E w (Ab.unf n v) u
  | 0, _, _, h => h
  | n + 1, v, u, h => by
    cases h with
    | imm h => exact .imm (h.unf _)
    | junk => exact .junk _
    | ptr b off g h => exact .ptr b off g h
    | eptr b i off g h => exact .eptr b i off g h
    | row0 e b A h he => exact .row0 e b A h he
    | row e b off len g cap A h he hA hl hc hm => exact .row e b off len g cap A h he hA hl hc hm
    | arow e b off len g cap A h hA hl hm => exact .arow e b off len g cap A h hA hl hm
    | crow0 e b A h he => exact .crow0 e b A h he
    | crow e b off len g cap A h he hA hl hc hm => exact .crow e b off len g cap A h he hA hl hc hm
    | mref b g h => exact .mref b g h
    | agg cs us hs hr =>
      refine .agg _ us (by simpa using hs) fun i c z hc hz => ?_
      simp only [List.getElem?_map, Option.map_eq_some_iff] at hc
      obtain ⟨c', hc', rfl⟩ := hc
      exact (hr i c' z hc' hz).unf n
    | tup cs us hs hr =>
      refine .tup _ us (by simpa using hs) fun i c z hc hz => ?_
      simp only [List.getElem?_map, Option.map_eq_some_iff] at hc
      obtain ⟨c', hc', rfl⟩ := hc
      exact (hr i c' z hc' hz).unf n
    | fn f cs us hs hr =>
      refine .fn f _ us (by simpa using hs) fun i c z hc hz => ?_
      simp only [List.getElem?_map, Option.map_eq_some_iff] at hc
      obtain ⟨c', hc', rfl⟩ := hc
      exact (hr i c' z hc' hz).unf n

/-- As `unf`, of what a function hands over. -/
def unr (v : AV) : AV := match v with
  | .fr e xs => .fr e xs
  | .tup cs => .tup (cs.map (unf 12))
  | v => unf 12 v

theorem unf_fr (n e : Nat) (xs : List AV) : unf n (.fr e xs) = .fr e xs := by cases n <;> rfl

theorem ResOK.unr {S : Nat → Nat → Prop} {w : World} {lo : Nat} {r : AV} {u : Value} (h : ResOK S w lo r u) : ResOK S w lo (unr r) u := by
  rcases h with h | ⟨e, xs, rfl, h⟩ | ⟨cs, us, rfl, rfl, hs, hall⟩
  · cases r with
    | fr e xs => cases h
    | tup cs =>
      have := h.unf 13
      exact .inl this
    | _ => exact .inl (h.unf 12)
  · exact .inr (.inl ⟨e, xs, rfl, h⟩)
  · refine .inr (.inr ⟨cs.map (unf 12), us, rfl, rfl, by simpa using hs, fun i c v hc hv => ?_⟩)
    simp only [List.getElem?_map, Option.map_eq_some_iff] at hc
    obtain ⟨c', hc', rfl⟩ := hc
    rcases hall i c' v hc' hv with h | ⟨e, xs, rfl, h⟩
    · exact .inl (h.unf 12)
    · exact .inr ⟨e, xs, unf_fr _ _ _, h⟩

/-- A row that is handed over, as one that is only read. -/
def unfr (v : AV) : AV := match v with
  | .fr e xs => .sl e false xs
  | .tup cs => .tup (cs.map fun c => match c with | .fr e xs => .sl e false xs | c => c)
  | v => v

def frFits : AV → Bool
  | .fr e xs => xs.all fun x => x.fits e
  | .tup cs => cs.all fun c => match c with | .fr e xs => xs.all fun x => x.fits e | _ => true
  | _ => true

section
variable {P : Program}

theorem Pure.unr {f : Nat} {args : List AV} {R : AV → Prop} (hp : Pure P f args R) {R' : AV → Prop} (hr : ∀ r, R r → R' (unr r)) : Pure P f args R' := by
  refine ⟨hp.1, let ⟨r, h⟩ := hp.2.1; ⟨_, hr r h⟩, fun S w us h1 h2 h3 => Calls.mono (hp.2.2 S w us h1 h2 h3) ?_⟩
  rintro e w' ⟨u, S', r, rfl, hR, k1, k2, k3, k4, k5⟩
  exact ⟨u, S', _, rfl, hr r hR, k1, k2, k3, k4, k5.unr⟩

/-- The arguments may be any that look so when it is forgotten whether capacities are lengths. -/
theorem Pure.args {f : Nat} {args : List AV} {R : AV → Prop} (hp : Pure P f (args.map (unf 12)) R) : Pure P f args R :=
  ⟨hp.1, hp.2.1, fun S w us h1 h2 h3 => hp.2.2 S w us h1 (by simpa using h2) fun i c u hc hu => by
    simp only [List.getElem?_map, Option.map_eq_some_iff] at hc
    obtain ⟨c', hc', rfl⟩ := hc
    exact (h3 i c' u hc' hu).unf 12⟩

/-- The same call, of which the row is only read. -/
theorem Pure.unfr {f : Nat} {args : List AV} {v : AV} (hp : Pure P f args (· = v)) (hx : frFits v = true) : Pure P f args (· = Ab.unfr v) := by
  refine ⟨hp.1, ⟨_, rfl⟩, fun S w us h1 h2 h3 => Calls.mono (hp.2.2 S w us h1 h2 h3) ?_⟩
  rintro e' w' ⟨u, S', r, rfl, rfl, hb, hk, hn, ho, hres⟩
  have hkk : Kept S' (fun g o => S' g o ∨ (w.heap.size ≤ g ∧ g < w'.heap.size)) w' w' := ⟨fun _ _ h => .inl h, fun _ _ _ => rfl, fun _ _ _ _ _ h => h, fun _ _ _ _ => rfl⟩
  refine ⟨u, fun g o => S' g o ∨ (w.heap.size ≤ g ∧ g < w'.heap.size), _, rfl, rfl, hb, hk.trans hkk, fun g o s => ?_, fun g o s => ?_, .inl ?_⟩
  · rcases s with s | s
    · exact hn g o s
    · exact .inr s.1
  · rcases s with s | s
    · exact ho g o s
    · exact s.2
  · rcases hres with hres | ⟨e, xs, rfl, hf⟩ | ⟨cs, us', rfl, rfl, hs, hall⟩
    · cases hres with
      | tup cs us' hs hr =>
        refine .tup _ us' (by simpa using hs) fun i c z hc hz => ?_
        simp only [List.getElem?_map, Option.map_eq_some_iff] at hc
        obtain ⟨c', hc', rfl⟩ := hc
        have := (hr i c' z hc' hz).kept hkk
        cases c' with
        | fr e xs => cases this
        | _ => exact this
      | sl e full xs A cap g o uu hl hm hf hA hxx hc hr hn => exact (RI.sl e full xs A cap g o uu hl hm hf hA hxx hc hr hn).kept hkk
      | agg cs us hs hr => exact (RI.agg cs us hs hr).kept hkk
      | fn f cs us hs hr => exact (RI.fn f cs us hs hr).kept hkk
      | pro cs g o uu hc hr => exact (RI.pro cs g o uu hc hr).kept hkk
      | bool b => exact .bool b
      | int k n => exact .int k n
      | str s => exact .str s
      | nilp => exact .nilp
      | nilfn => exact .nilfn
      | nilmp => exact .nilmp
      | mp ks vs g es cl hS hg h1 h2 hk hv => exact (RI.mp ks vs g es cl hS hg h1 h2 hk hv).kept hkk
    · simp only [frFits, List.all_eq_true] at hx
      exact hf.sl hx
    · refine .tup _ us' (by simpa using hs) fun i c z hc hz => ?_
      simp only [List.getElem?_map, Option.map_eq_some_iff] at hc
      obtain ⟨c', hc', rfl⟩ := hc
      simp only [frFits, List.all_eq_true] at hx
      have hx' := hx c' (List.mem_of_getElem? hc')
      rcases hall i c' z hc' hz with h | ⟨e2, xs2, rfl, hfr⟩
      · have := h.kept hkk
        cases c' with
        | fr e xs => cases this
        | _ => exact this
      · simp only [List.all_eq_true] at hx'
        exact hfr.sl hx'

/-- Where a function ends, and with what. -/
def Ends2 (rs : List Rv) (fresh : Option Nat) (R : AV → Prop) (Q : Ex → St → Prop) : Prop :=
  ∀ ex st v r, (ex = .normal ∨ ex = .ret) → resVs st rs = some v → handOver fresh st.h v = some r → R (unr r) → Q ex st

theorem Pure.walk2 {f n : Nat} {rs : List Rv} {ir : C} (hf : fd? P f = some (n, rs, ir)) (fresh : Option Nat) {args : List AV} (hn : args.length ≤ n) {v : AV} (hv : Ab.unr v = v)
    (hw : ∀ Q, Ends2 rs fresh (· = v) Q → AW P n 0 ir Q ⟨slotsOf args, []⟩) : Pure P f args (· = v) := by
  have h1 : Pure P f args (fun r => Ab.unr r = v) := Pure.of_code hf fresh hn ⟨v, hv⟩ (hw _ fun _ _ v r h1 h2 h3 h4 => ⟨h1, v, r, h2, h3, h4⟩)
  exact h1.unr fun r hr => hr
end

/-- Typed data as values of the machine. -/
class IsEnc {τ : Type} (e : outParam Nat) (enc : τ → AV) : Prop where
  plain : ∀ x, Ab.plain 4 (enc x) = true
  fits : ∀ x, (enc x).fits e = true
  unf : ∀ x, Ab.unf 12 (enc x) = enc x

def eL {τ : Type} (e : Nat) (enc : τ → AV) (xs : List τ) : AV := .sl e false (xs.map enc)

instance (k : IntKind) : IsEnc 0 (AV.int k) := ⟨fun _ => rfl, fun _ => rfl, fun _ => rfl⟩
instance : IsEnc 0 AV.bool := ⟨fun _ => rfl, fun _ => rfl, fun _ => rfl⟩
instance : IsEnc 0 AV.str := ⟨fun _ => rfl, fun _ => rfl, fun _ => rfl⟩
instance {τ : Type} (e : Nat) (enc : τ → AV) : IsEnc 0 (eL e enc) := ⟨fun _ => rfl, fun _ => rfl, fun _ => rfl⟩

theorem plain_mono : ∀ (n m : Nat) (v : AV), plain n v = true → n ≤ m → plain m v = true
  | 0, _, _, h, _ => by simp [plain] at h
  | n + 1, 0, _, _, hl => by omega
  | n + 1, m + 1, v, h, hl => by
    cases v <;> simp only [plain] at h ⊢ <;> first
      | (cases h; done)
      | (rw [List.all_eq_true] at h ⊢
         exact fun c hc => plain_mono n m c (h c hc) (by omega))

theorem enc_all4 {τ : Type} {e : Nat} {enc : τ → AV} [IsEnc e enc] (xs : List τ) : (xs.map enc).all (plain 4) = true := by
  rw [List.all_eq_true]
  intro c hc
  obtain ⟨n, _, rfl⟩ := List.mem_map.1 hc
  exact IsEnc.plain n

theorem enc_all {τ : Type} {e : Nat} {enc : τ → AV} [IsEnc e enc] (xs : List τ) : (xs.map enc).all (plain deep) = true := by
  rw [List.all_eq_true]
  intro c hc
  obtain ⟨n, _, rfl⟩ := List.mem_map.1 hc
  exact plain_mono 4 deep _ (IsEnc.plain n) (by decide)

theorem enc_fits {τ : Type} {e : Nat} {enc : τ → AV} [IsEnc e enc] (xs : List τ) : (xs.map enc).all (fun x => x.fits e) = true := by
  rw [List.all_eq_true]
  intro c hc
  obtain ⟨n, _, rfl⟩ := List.mem_map.1 hc
  exact IsEnc.fits n

end Go.Ab
