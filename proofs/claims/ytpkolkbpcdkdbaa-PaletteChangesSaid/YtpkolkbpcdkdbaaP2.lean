import Derived.Test.YtpkolkbpcdkdbaaP1
namespace Go.Proofs.Ytpkolkbpcdkdbaa
open Go Go.Ab
set_option linter.unusedSimpArgs false

/-! ## What right palettes are -/

structure Hus (l : List ApiHue) : Prop where
  len : l.length ≤ 256
  ok : ∀ h ∈ l, okP (hp h) ∧ isLev h.fLevel = true
  asc : l.Pairwise fun a b => ltP (hp a) (hp b) = true

theorem hus_of {l : List ApiHue} (h : huesS l = 0) : Hus l := by
  unfold huesS at h
  split at h
  · cases h
  · exact ⟨by omega, fun x hx => hueE_ok (goC_chk h x hx).1, goC_pairwise (lt := fun a b => ltP (hp a) (hp b)) (fun a b c h1 h2 => ltP_trans _ _ _ h1 h2) h⟩

structure Pal (l : List ApiPalette) : Prop where
  len : l.length ≤ 32
  num : ∀ x ∈ l, 1 ≤ x.fNumber ∧ x.fNumber ≤ 1048576
  hue : ∀ x ∈ l, huesS x.fHues = 0
  asc : l.Pairwise fun a b => a.fNumber < b.fNumber

theorem numE_ok {x : ApiPalette} : numE x = 0 ↔ 1 ≤ x.fNumber ∧ x.fNumber ≤ 1048576 := by
  unfold numE
  split <;> omega

theorem pal_of {l : List ApiPalette} (h : palsS l = 0) : Pal l := by
  unfold palsS at h
  split at h
  · cases h
  · refine ⟨by omega, fun x hx => numE_ok.1 (goC_chk h x hx).1, fun x hx => (goC_chk h x hx).2, ?_⟩
    have := goC_pairwise (lt := ltN) (fun a b c h1 h2 => by unfold ltN at *; simp at *; omega) h
    exact this.imp fun {a b} h => by unfold ltN at h; simpa using h

theorem pals_of {l : List ApiPalette} (h : Pal l) : palsS l = 0 := by
  unfold palsS
  rw [if_neg (by have := h.len; omega)]
  exact goC_zero (fun x hx => ⟨numE_ok.2 (h.num x hx), h.hue x hx⟩) (h.asc.imp fun {a b} h => by unfold ltN; simpa using h) fun q hq => by cases hq

structure Ent (l : List ApiEntry) : Prop where
  len : l.length ≤ 4096
  ok : ∀ x ∈ l, entE x = 0
  asc : l.Pairwise fun a b => ltP a.fParam b.fParam = true

theorem ent_of {l : List ApiEntry} (h : entS l = 0) : Ent l := by
  unfold entS at h
  split at h
  · cases h
  · exact ⟨by omega, fun x hx => (goC_chk h x hx).1, goC_pairwise (lt := ltE) (fun a b c h1 h2 => ltP_trans _ _ _ h1 h2) h⟩

/-! ## Searches -/

def byN (l : List ApiPalette) (n : Int) : Option ApiPalette := l.find? fun x => decide (x.fNumber = n)
def exactS (l : List ApiHue) (c a : Int) : Option Int := (l.find? fun h => decide (h.fChannel = c ∧ h.fAttr = a)).map (·.fLevel)
def hueIn (x : ApiPalette) (p : ApiParam) : Option Int := match exactS x.fHues p.fChannel p.fAttr with
  | some v => some v
  | none => exactS x.fHues 0 p.fAttr
def hueS (l : List ApiPalette) (n : Int) (p : ApiParam) : Option Int := (byN l n).bind fun x => hueIn x p
def optP : Option Int → Int × Bool
  | some v => (v, true)
  | none => (0, false)

def cNum (n : Int) (x : ApiPalette) : Int := x.fNumber - n

theorem f52_eq {l : List ApiPalette} (h : Pal l) {n : Int} (hn : -1 ≤ n ∧ n ≤ 1048576) : f52 l n = some ((posB (cNum n) l : Int), hasB (cNum n) l) := by
  unfold f52 f72_73
  have hl := h.len
  have hc : ∀ x ∈ l, f73 x n = some (cNum n x) := fun x hx => by
    have := h.num x hx
    unfold f73 cNum
    rw [w64 (by omega) (by omega)]
  have hrun := run_bsearch (L := f72_73_L1 l n) (cmp := fun x => f73 x n) (c := cNum n) (fun _ _ => rfl) hc (h.asc.imp fun {a b} hab hb => by unfold cNum at *; omega) (by omega)
  have := bsearch_eq hrun hc
  rw [show ((Lp.run (f72_73_L1 l n) (0, ((l.length : Nat) : Int))).bind fun i_134 => (if (decide (i_134 < ((l.length : Nat) : Int))) = true then (at? l i_134).bind fun x_135 => (f73 x_135 n).bind fun r_136 => (some (i_134, (decide (r_136 = 0)))) else (some (i_134, false)))) = _ from this]
  rfl

theorem byN_pos {l : List ApiPalette} (h : Pal l) (n : Int) : byN l n = if hasB (cNum n) l then l[posB (cNum n) l]? else none := by
  rw [← find_pos (c := cNum n) (h.asc.imp fun {a b} hab hb => by unfold cNum at *; omega)]
  unfold byN
  congr 1
  funext x
  unfold cNum
  exact decide_eq_decide.2 (by omega)

def cHue (q : ApiParam) (h : ApiHue) : Int := cmpP (hp h) q

theorem ltP_cmp {a b q : ApiParam} (h : ltP a b = true) (hb : cmpP b q ≤ 0) : cmpP a q < 0 := by
  rw [cmpP_lt]
  by_cases h0 : cmpP b q = 0
  · rw [cmpP_zero] at h0
    unfold ltP at h ⊢
    simp only [decide_eq_true_eq] at h ⊢
    omega
  · exact ltP_trans _ _ _ h (cmpP_lt.1 (by omega))

theorem f60_eq {l : List ApiHue} (h : Hus l) {q : ApiParam} (hq : okP q) : f60_61 l q = some ((posB (cHue q) l : Int), hasB (cHue q) l) := by
  unfold f60_61
  have hl := h.len
  have hc : ∀ x ∈ l, f61 x q = some (cHue q x) := fun x hx => by
    unfold f61 f63 cHue
    have := f62_eq (h.ok x hx).1 hq
    unfold hp at this
    simp only [Option.bind_some, this]
    rfl
  have hrun := run_bsearch (L := f60_61_L1 l q) (cmp := fun x => f61 x q) (c := cHue q) (fun _ _ => rfl) hc (h.asc.imp fun {a b} hab hb => ltP_cmp hab (by unfold cHue at hb; omega)) (by omega)
  exact bsearch_eq hrun hc

theorem exact_pos {l : List ApiHue} (h : Hus l) (q : ApiParam) : exactS l q.fChannel q.fAttr = if hasB (cHue q) l then (l[posB (cHue q) l]?).map (·.fLevel) else none := by
  have := find_pos (c := cHue q) (h.asc.imp fun {a b} hab hb => ltP_cmp hab hb)
  unfold exactS
  rw [show (fun h : ApiHue => decide (h.fChannel = q.fChannel ∧ h.fAttr = q.fAttr)) = fun x => decide (cHue q x = 0) from funext fun x => decide_eq_decide.2 (by unfold cHue hp; rw [cmpP_zero]), this]
  split <;> rfl

theorem f36_eq {l : List ApiPalette} (h : Pal l) {n : Int} (hn : -1 ≤ n ∧ n ≤ 1048576) {p : ApiParam} (hpo : okP p) : f36 l n p = some (optP (hueS l n p)) := by
  unfold f36 hueS
  rw [f52_eq h hn, byN_pos h]
  simp only [Option.bind_some]
  by_cases hh : hasB (cNum n) l = true
  case neg =>
    have : hasB (cNum n) l = false := by simpa using hh
    rw [this]; rfl
  rw [hh]
  obtain ⟨x, hx, _⟩ := hasB_at hh
  have hxm := List.mem_of_getElem? hx
  simp only [Bool.not_true, Bool.false_eq_true, if_false, if_true, hx, Option.bind_some]
  have hhu := hus_of (h.hue x hxm)
  have hp0 : okP ⟨0, p.fAttr⟩ := ⟨Int.le_refl _, by show (0 : Int) ≤ 999; omega, hpo.2.2.1, hpo.2.2.2⟩
  have body : ∀ (k : Nat) (q : ApiParam), at? [p, ⟨0, p.fAttr⟩] (k : Int) = some q → k < 2 → okP q → (f36_L1 p l ((posB (cNum n) l : Int), true)).body (k : Int) = some (match exactS x.fHues q.fChannel q.fAttr with | some v => .brk (.inr v) | none => .next ((k + 1 : Nat) : Int)) := fun k q hq hk hqo => by
    simp only [f36_L1]
    rw [if_pos (by simp; omega), hq, Option.bind_some, at_nat hx, Option.bind_some, f60_eq hhu hqo, exact_pos hhu q]
    simp only [Option.bind_some]
    by_cases h2 : hasB (cHue q) x.fHues = true
    · obtain ⟨y, hy, _⟩ := hasB_at h2
      rw [h2, hy]
      simp only [if_true]
      rw [at_nat hy]
      rfl
    · have h2 : hasB (cHue q) x.fHues = false := by simpa using h2
      rw [h2]
      simp only [Bool.false_eq_true, if_false]
      rw [w64_succ (by omega)]
  have b0 := body 0 p rfl (by omega) hpo
  have b1 := body 1 ⟨0, p.fAttr⟩ rfl (by omega) hp0
  unfold hueIn
  cases e0 : exactS x.fHues p.fChannel p.fAttr with
  | some v =>
    rw [e0] at b0
    rw [show (f36_L1 p l ((posB (cNum n) l : Int), true)).run 0 = some (.inr v) from iter_brk b0]
    rfl
  | none =>
    rw [e0] at b0
    rw [show (f36_L1 p l ((posB (cNum n) l : Int), true)).run 0 = (f36_L1 p l ((posB (cNum n) l : Int), true)).run ((1 : Nat) : Int) from iter_next b0]
    cases e1 : exactS x.fHues 0 p.fAttr with
    | some v =>
      rw [e1] at b1
      rw [show (f36_L1 p l ((posB (cNum n) l : Int), true)).run ((1 : Nat) : Int) = some (.inr v) from iter_brk b1]
      rfl
    | none =>
      rw [e1] at b1
      rw [show (f36_L1 p l ((posB (cNum n) l : Int), true)).run ((1 : Nat) : Int) = (f36_L1 p l ((posB (cNum n) l : Int), true)).run ((2 : Nat) : Int) from iter_next b1]
      rw [show (f36_L1 p l ((posB (cNum n) l : Int), true)).run ((2 : Nat) : Int) = some (.inl ()) from iter_brk (by simp only [f36_L1]; rfl)]
      rfl

theorem f80_eq {l : List ApiPalette} (hl : l.length ≤ 1000) (n : Int) : f80 l n = some (fstI (fun x => decide (x.fNumber = n)) l) := by
  unfold f80
  refine run_findi (L := f80_L1 l n) _ (by omega) (fun k x r => ?_) (by simp only [f80_L1]; rw [at_end]; rfl)
  simp only [f80_L1]
  rw [if_pos r.lt, r.at', r.nxt, Option.bind_some]
  by_cases h : x.fNumber = n <;> simp [h]

theorem f81_eq {l : List ApiHue} (hl : l.length ≤ 1000) (c a : Int) : f81 l c a = some (optP (exactS l c a)) := by
  unfold f81
  rw [run_findv (L := f81_L1 l c a) (xs := l) (fun h : ApiHue => decide (h.fChannel = c ∧ h.fAttr = a)) (fun h : ApiHue => h.fLevel) (by omega) (fun k x r => by
    simp only [f81_L1]
    rw [if_pos r.lt, r.at', r.nxt]
    simp only [Option.bind_some, decide_eq_true_eq]
    by_cases h1 : x.fChannel = c <;> by_cases h2 : x.fAttr = a <;> simp [h1, h2]) (by simp only [f81_L1]; rw [at_end]; rfl)]
  unfold exactS
  cases l.find? fun h => decide (h.fChannel = c ∧ h.fAttr = a) <;> rfl

theorem f64_eq {l : List ApiPalette} (h : Pal l) (n : Int) (p : ApiParam) : f64 l n p = some (optP (hueS l n p)) := by
  unfold f64 hueS byN
  rw [f80_eq (by have := h.len; omega)]
  simp only [Option.bind_some, decide_eq_true_eq]
  rcases fstI_find (fun x : ApiPalette => decide (x.fNumber = n)) l with ⟨e1, e2⟩ | ⟨i, x, e1, e2, e3, e4⟩
  · rw [e1, e2]; rfl
  · have hxm := List.mem_of_getElem? e3
    have hhu := (hus_of (h.hue x hxm)).len
    rw [e1, if_neg (by rw [e2]; omega), e4]
    simp only [Option.bind_some]
    rw [f81_eq (by omega), f81_eq (by omega)]
    simp only [Option.bind_some, hueIn]
    cases exactS x.fHues p.fChannel p.fAttr with
    | some v => rfl
    | none => cases exactS x.fHues 0 p.fAttr <;> rfl

/-! ## Levels -/

def toldS (l : List ApiPalette) (v : ApiValue) (p : ApiParam) (home : Int) : Int := if v.fPalette = 0 then v.fLevel else (hueS l v.fPalette p).getD home
def levelS (l : List ApiPalette) (v : ApiValue) (p : ApiParam) (home : Int) : Int × Int :=
  if palsS l ≠ 0 then (0, palsS l) else if valS v ≠ 0 then (0, valS v) else if valP 1 p ≠ 0 then (0, valP 1 p) else if isLev home = false then (0, 2) else (toldS l v p home, 0)

theorem valS_pal {v : ApiValue} (h : valS v = 0) : -1 ≤ v.fPalette ∧ v.fPalette ≤ 1048576 := by
  unfold valS at h
  split at h
  · omega
  · cases h

theorem valP_okP {p : ApiParam} (h : valP 1 p = 0) : okP p := by
  have := valP_ok h
  exact ⟨by omega, by omega, by omega, by omega⟩

theorem f9_eq (l : List ApiPalette) (v : ApiValue) (p : ApiParam) (home : Int) : f9 l v p home = some (levelS l v p home) := by
  unfold f9 levelS
  simp only [f32_eq, f33_eq, f34_eq, Option.bind_some, f35_eq]
  have body : ∀ (k : Nat) (q : Int), at? [palsS l, valS v, valP 1 p] (k : Int) = some q → k < 3 → (f9_L1 (palsS l) (valS v) (valP 1 p) home l v p).body (k : Int) = some (if q ≠ 0 then .brk (.inr q) else .next ((k + 1 : Nat) : Int)) := fun k q hq hk => by
    simp only [f9_L1]
    rw [if_pos (by simp; omega), hq, Option.bind_some, w64_succ (by omega)]
    by_cases h : q = 0 <;> simp [h]
  have b0 := body 0 _ rfl (by omega)
  have b1 := body 1 _ rfl (by omega)
  have b2 := body 2 _ rfl (by omega)
  generalize hL : f9_L1 (palsS l) (valS v) (valP 1 p) home l v p = L at *
  by_cases h0 : palsS l = 0
  case neg =>
    rw [if_pos h0] at b0 ⊢
    rw [show L.run 0 = _ from iter_brk b0]; rfl
  rw [if_neg (nn h0)] at b0 ⊢
  rw [show L.run 0 = L.run ((1 : Nat) : Int) from iter_next b0]
  by_cases h1 : valS v = 0
  case neg =>
    rw [if_pos h1] at b1 ⊢
    rw [show L.run ((1 : Nat) : Int) = _ from iter_brk b1]; rfl
  rw [if_neg (nn h1)] at b1 ⊢
  rw [show L.run ((1 : Nat) : Int) = L.run ((2 : Nat) : Int) from iter_next b1]
  by_cases h2 : valP 1 p = 0
  case neg =>
    rw [if_pos h2] at b2 ⊢
    rw [show L.run ((2 : Nat) : Int) = _ from iter_brk b2]; rfl
  rw [if_neg (nn h2)] at b2 ⊢
  rw [show L.run ((2 : Nat) : Int) = L.run ((3 : Nat) : Int) from iter_next b2]
  rw [show L.run ((3 : Nat) : Int) = some (.inl ()) from iter_brk (by rw [← hL]; simp only [f9_L1]; rfl)]
  simp only [Option.bind_some]
  cases h3 : isLev home with
  | false => rfl
  | true =>
    simp only [Bool.not_true, Bool.false_eq_true, if_false, decide_eq_true_eq, toldS, Bool.true_eq_false]
    by_cases h4 : v.fPalette = 0
    · rw [if_pos h4, if_pos h4]
    · rw [if_neg h4, if_neg h4, f36_eq (pal_of h0) (valS_pal h1) (valP_okP h2)]
      cases hueS l v.fPalette p <;> rfl

theorem f10_eq (l : List ApiPalette) (v : ApiValue) (p : ApiParam) (home : Int) : f10 l v p home = some (levelS l v p home) := by
  unfold f10 levelS
  simp only [f22_eq, f37_eq, f38_eq, Option.bind_some, f39_eq, decide_eq_true_eq]
  by_cases h0 : palsS l = 0
  case neg => rw [if_pos h0, if_pos h0]
  rw [if_neg (nn h0), if_neg (nn h0)]
  by_cases h1 : valS v = 0
  case neg => rw [if_pos h1, if_pos h1]
  rw [if_neg (nn h1), if_neg (nn h1)]
  by_cases h2 : valP 1 p = 0
  case neg => rw [if_pos h2, if_pos h2]
  rw [if_neg (nn h2), if_neg (nn h2)]
  cases h3 : isLev home with
  | false => rfl
  | true =>
    simp only [Bool.not_true, Bool.false_eq_true, if_false, toldS, Bool.true_eq_false, f40, decide_eq_true_eq]
    by_cases h4 : v.fPalette = 0
    · rw [if_pos h4, if_pos h4]; rfl
    · rw [if_neg h4, if_neg h4, f64_eq (pal_of h0)]
      cases hueS l v.fPalette p <;> rfl

/-! ## What is used, flat, missing -/

theorem f45_eq {l : List ApiEntry} (hl : l.length ≤ 5000) : f45_44 l = some (l.filter fun x => decide (0 < x.fValue.fPalette)) := by
  unfold f45_44
  rw [run_collect (L := f45_44_L1 l) (xs := l) (fun x => if decide (0 < x.fValue.fPalette) = true then [x] else []) (fun k acc x hx ha => by
    have r := Rnd.mk' hx (by omega)
    have hk := r.klt
    simp only [f45_44_L1, f44]
    rw [if_pos r.lt, r.at', r.nxt]
    simp only [Option.bind_some]
    by_cases h : 0 < x.fValue.fPalette
    · simp only [h, decide_true, if_true]
      rw [app_some (by simp; omega) (by simp; omega)]
      rfl
    · simp [h]) (fun x => by split <;> simp) (fun acc => by simp only [f45_44_L1]; rw [at_end]; rfl)]
  rw [Option.bind_some]
  congr 1
  induction l with
  | nil => rfl
  | cons x xs ih =>
    rw [List.flatMap_cons, List.filter_cons, ih (by simp at hl; omega)]
    by_cases h : 0 < x.fValue.fPalette <;> simp [h]

def refsS (l : List ApiEntry) : List Int := (l.filter fun x => decide (0 < x.fValue.fPalette)).map fun x => x.fValue.fPalette
def usedS (l : List ApiEntry) : List Int × Int := if entS l ≠ 0 then ([], entS l) else (Lib.compact (sortI (refsS l)), 0)

theorem f15_eq (l : List ApiEntry) : f15 l = some (usedS l) := by
  unfold f15 usedS
  simp only [f47_eq, Option.bind_some, decide_eq_true_eq]
  by_cases h0 : entS l = 0
  case neg => rw [if_pos h0, if_pos h0]
  rw [if_neg (nn h0), if_neg (nn h0)]
  have he := (ent_of h0).len
  rw [f45_eq (by omega)]
  simp only [Option.bind_some]
  have hfl := List.length_filter_le (fun x : ApiEntry => decide (0 < x.fValue.fPalette)) l
  generalize hys : l.filter (fun x => decide (0 < x.fValue.fPalette)) = ys at hfl
  rw [run_collect (L := f15_L1 ys) (xs := ys) (fun x => [x.fValue.fPalette]) (fun k acc x hx ha => by
    have r := Rnd.mk' hx (by omega)
    have hk := r.klt
    simp only [f15_L1]
    rw [if_pos r.lt, r.at', r.nxt]
    simp only [Option.bind_some]
    rw [app_some (by simp; omega) (by simp; omega)]
    rfl) (fun x => by simp) (fun acc => by simp only [f15_L1]; rw [at_end]; rfl)]
  have hr : ys.flatMap (fun x => [x.fValue.fPalette]) = refsS l := by
    unfold refsS
    rw [hys]
    clear hys hfl
    induction ys with
    | nil => rfl
    | cons y ys ih => simp [ih]
  rw [hr, Option.bind_some]
  have hlen : (refsS l).length ≤ 4096 := by unfold refsS; rw [hys, List.length_map]; omega
  unfold sort? compact?
  rw [if_pos (by omega), Option.bind_some, if_pos (by rw [sortI_length]; omega)]
  rfl

def flat1 (l : List ApiPalette) (x : ApiEntry) : ApiEntry := if 0 < x.fValue.fPalette then (match hueS l x.fValue.fPalette x.fParam with
  | some v => ⟨x.fParam, ⟨0, v⟩⟩
  | none => ⟨x.fParam, ⟨-1, 0⟩⟩) else x
def bothS (l : List ApiPalette) (es : List ApiEntry) : Int := if palsS l ≠ 0 then palsS l else entS es
def flatS (l : List ApiPalette) (es : List ApiEntry) : List ApiEntry × Int := if bothS l es ≠ 0 then ([], bothS l es) else (es.map (flat1 l), 0)
def missS (l : List ApiPalette) (es : List ApiEntry) : List ApiParam × Int := if bothS l es ≠ 0 then ([], bothS l es) else ((es.filter fun x => decide (0 < x.fValue.fPalette) && (hueS l x.fValue.fPalette x.fParam).isNone).map (·.fParam), 0)

theorem both_ok {l : List ApiPalette} {es : List ApiEntry} (h : bothS l es = 0) : Pal l ∧ Ent es := by
  unfold bothS at h
  split at h
  · rename_i h1; exact absurd h h1
  · rename_i h1; exact ⟨pal_of (by simpa using h1), ent_of h⟩

theorem f43_eq {xs : List ApiEntry} (h : xs.length ≤ 5000) : f43 xs = some xs := by
  unfold f43
  have ha : app? 32 [] xs = some xs := by rw [app_some (by simp; omega) (by simp; omega)]; rfl
  by_cases hx : xs = []
  · subst hx
    rw [nil_nil (by simp [ha])]
    simp
  · rw [nil_cons hx]
    simp [ha]

theorem f57_eq {xs : List ApiPalette} (h : xs.length ≤ 5000) : f57 xs = some xs := by
  unfold f57
  have ha : app? 32 [] xs = some xs := by rw [app_some (by simp; omega) (by simp; omega)]; rfl
  by_cases hx : xs = []
  · subst hx
    rw [nil_nil (by simp [ha])]
    simp
  · rw [nil_cons hx]
    simp [ha]

theorem f12_eq (l : List ApiPalette) (es : List ApiEntry) : f12 l es = some (flatS l es) := by
  unfold f12 flatS
  simp only [f42_eq, Option.bind_some, decide_eq_true_eq]
  rw [show (if palsS l ≠ 0 then palsS l else entS es) = bothS l es from rfl]
  by_cases h0 : bothS l es = 0
  case neg => rw [if_pos h0, if_pos h0]
  rw [if_neg (nn h0), if_neg (nn h0)]
  obtain ⟨hP, hE⟩ := both_ok h0
  have hlen := hE.len
  rw [f43_eq (by omega), Option.bind_some]
  have hrun := run_walk (L := f12_L1 es l) es (fun k (a : List ApiEntry) => ((k : Int), a)) (fun k a x => .inl (a.set k (flat1 l x))) (fun a => a) (fun k a => a.length = es.length ∧ ∀ m, k ≤ m → a[m]? = es[m]?) (fun k a x hx hI => by
      have r := Rnd.mk' hx (by omega)
      have hk := r.klt
      obtain ⟨hI1, hI2⟩ := hI
      refine ⟨?_, fun a' ha' => ?_⟩
      · have hax : at? a (k : Int) = some x := at_nat (by rw [hI2 k (Nat.le_refl _)]; exact hx)
        simp only [f12_L1, f44]
        rw [if_pos r.lt, hax, r.nxt]
        simp only [Option.bind_some]
        obtain ⟨o1, _, _, o2⟩ := entE_ok (hE.ok x r.mem)
        by_cases h : 0 < x.fValue.fPalette
        · simp only [h, decide_true, Bool.not_true, Bool.false_eq_true, if_false]
          rw [f36_eq hP (valS_pal o2) o1]
          simp only [Option.bind_some, flat1, if_pos h]
          have hlk : k < a.length := by omega
          cases hueS l x.fValue.fPalette x.fParam with
          | none => rfl
          | some v =>
            simp only [optP, if_true]
            rw [at_nat (k := k) (x := ⟨x.fParam, ⟨-1, 0⟩⟩) (by simp [hlk])]
            simp only [Option.bind_some, roundL, Int.toNat_natCast, List.set_set]
        · simp only [h, decide_false, Bool.not_false, if_true, flat1, if_false, roundL]
          have : a.set k x = a := by
            refine List.ext_getElem? fun m => ?_
            by_cases hm : m = k
            · subst hm
              rw [List.getElem?_set_self (by omega), hI2 m (Nat.le_refl _), hx]
            · rw [List.getElem?_set_ne (Ne.symm hm)]
          rw [this]
      · injection ha' with ha'; subst ha'
        refine ⟨by simpa using hI1, fun m hm => ?_⟩
        rw [List.getElem?_set_ne (by omega)]
        exact hI2 m (by omega))
    (fun a _ => by simp only [f12_L1]; rw [at_end]; rfl) es ⟨rfl, fun _ _ => rfl⟩
  have hw : ∀ (ys pre : List ApiEntry), walkL (fun k a x => .inl (a.set k (flat1 l x))) (fun a => a) pre.length (pre ++ ys) ys = pre ++ ys.map (flat1 l) := fun ys => by
    induction ys with
    | nil => intro pre; simp [walkL]
    | cons y ys ih =>
      intro pre
      simp only [walkL]
      have : (pre ++ y :: ys).set pre.length (flat1 l y) = (pre ++ [flat1 l y]) ++ ys := by simp
      rw [this]
      have := ih (pre ++ [flat1 l y])
      rw [List.length_append, List.length_singleton] at this
      rw [this]
      simp
  have := hw es []
  simp only [List.length_nil, List.nil_append] at this
  rw [show ((0, es) : Int × List ApiEntry) = (((0 : Nat) : Int), es) from rfl, hrun, this]
  rfl

theorem flat_filter {τ ρ : Type} {p q : τ → Bool} (f : τ → ρ) : ∀ es : List τ, ((es.filter p).flatMap fun x => if q x = true then [f x] else []) = (es.filter fun x => p x && q x).map f
  | [] => rfl
  | y :: ys => by
    have ih := flat_filter (p := p) (q := q) f ys
    rw [List.filter_cons, List.filter_cons]
    cases h1 : p y
    · simpa [h1] using ih
    · cases h2 : q y <;> simp [h1, h2, ih]

theorem f13_eq (l : List ApiPalette) (es : List ApiEntry) : f13 l es = some (missS l es) := by
  unfold f13 missS
  simp only [f42_eq, Option.bind_some, decide_eq_true_eq]
  rw [show (if palsS l ≠ 0 then palsS l else entS es) = bothS l es from rfl]
  by_cases h0 : bothS l es = 0
  case neg => rw [if_pos h0, if_pos h0]
  rw [if_neg (nn h0), if_neg (nn h0)]
  obtain ⟨hP, hE⟩ := both_ok h0
  have hlen := hE.len
  rw [f45_eq (by omega), Option.bind_some]
  have hfl := List.length_filter_le (fun x : ApiEntry => decide (0 < x.fValue.fPalette)) es
  have hmem : ∀ x ∈ es.filter (fun x => decide (0 < x.fValue.fPalette)), x ∈ es := fun x hx => (List.mem_filter.1 hx).1
  have hkk : ((es.filter fun x => decide (0 < x.fValue.fPalette)).flatMap fun x => if (hueS l x.fValue.fPalette x.fParam).isNone = true then [x.fParam] else []) = (es.filter fun x => decide (0 < x.fValue.fPalette) && (hueS l x.fValue.fPalette x.fParam).isNone).map (·.fParam) := by
    exact flat_filter (q := fun x : ApiEntry => (hueS l x.fValue.fPalette x.fParam).isNone) (fun x : ApiEntry => x.fParam) es
  rw [← hkk]
  generalize es.filter (fun x => decide (0 < x.fValue.fPalette)) = ys at hfl hmem
  rw [run_collect (L := f13_L1 ys l) (xs := ys) (fun x => if (hueS l x.fValue.fPalette x.fParam).isNone = true then [x.fParam] else []) (fun k acc x hx ha => by
    have r := Rnd.mk' hx (by omega)
    have hk := r.klt
    obtain ⟨o1, _, _, o2⟩ := entE_ok (hE.ok x (hmem x r.mem))
    simp only [f13_L1]
    rw [if_pos r.lt, r.at', r.nxt]
    simp only [Option.bind_some]
    rw [f36_eq hP (valS_pal o2) o1]
    simp only [Option.bind_some]
    cases hueS l x.fValue.fPalette x.fParam with
    | none =>
      simp only [optP, Bool.not_false, if_true, Option.isNone_none]
      rw [app_some (by simp; omega) (by simp; omega)]
      rfl
    | some v => simp [optP]) (fun x => by split <;> simp) (fun acc => by simp only [f13_L1]; rw [at_end]; rfl)]
  rfl
end Go.Proofs.Ytpkolkbpcdkdbaa
