/-
  Plain laws of tokens: what a command's tokens are, and that joined they are read again.
-/
import Derived.Test.YtkbjimfganeooaaPJ2
set_option linter.unusedSimpArgs false
set_option linter.unusedVariables false
namespace Go.Proofs.Ytkbjimfganeooaa
open Go Go.Ab

/-! ## Bytes -/

def isSp (c : UInt8) : Bool := decide (c.toNat = 32)
def isLet (c : UInt8) : Bool := decide ((97 ≤ c.toNat ∧ c.toNat ≤ 122) ∨ (65 ≤ c.toNat ∧ c.toNat ≤ 90))
def isDg (c : UInt8) : Bool := decide (48 ≤ c.toNat ∧ c.toNat ≤ 57)
def isWd (c : UInt8) : Bool := isLet c || (isDg c || decide (c.toNat = 95))
def isPl (c : UInt8) : Bool := decide (32 ≤ c.toNat ∧ c.toNat ≤ 126 ∧ c.toNat ≠ 34)
def isQt (c : UInt8) : Bool := decide (c.toNat = 34)
def isDt (c : UInt8) : Bool := decide (c.toNat = 46)
def isSg (c : UInt8) : Bool := decide (0 ≤ Lib.indexByte [43, 45, 47, 46, 44, 64, 58, 61, 37, 40, 41] c)
def lowB (c : UInt8) : UInt8 := if 65 ≤ c.toNat ∧ c.toNat ≤ 90 then UInt8.ofNat (c.toNat + 32) else c
def lowS (s : List UInt8) : List UInt8 := s.map lowB

theorem bytes {P : UInt8 → Bool} (h : ∀ n : Fin 256, P (UInt8.ofNat n.val) = true) (c : UInt8) : P c = true := by
  have := h ⟨c.toNat, c.toNat_lt⟩
  simpa using this

theorem let_low (c : UInt8) (h : isLet c = true) : isLet (lowB c) = true := by
  have := bytes (P := fun c => !isLet c || isLet (lowB c)) (by decide +kernel) c
  simpa [h] using this
theorem wd_low (c : UInt8) (h : isWd c = true) : isWd (lowB c) = true := by
  have := bytes (P := fun c => !isWd c || isWd (lowB c)) (by decide +kernel) c
  simpa [h] using this
theorem low_low (c : UInt8) : lowB (lowB c) = lowB c := by
  have := bytes (P := fun c => decide (lowB (lowB c) = lowB c)) (by decide +kernel) c
  simpa using this
theorem let_wd (c : UInt8) (h : isLet c = true) : isWd c = true := by unfold isWd; rw [h]; rfl
theorem let_ne (c : UInt8) (h : isLet c = true) : isSp c = false := by
  have := bytes (P := fun c => !isLet c || !isSp c) (by decide +kernel) c
  simpa [h] using this
theorem dg_ne (c : UInt8) (h : isDg c = true) : isSp c = false ∧ isLet c = false ∧ c.toNat ≠ 34 := by
  have := bytes (P := fun c => !isDg c || (!isSp c && (!isLet c && decide (c.toNat ≠ 34)))) (by decide +kernel) c
  simpa [h] using this
theorem sg_ne (c : UInt8) (h : isSg c = true) : isSp c = false := by
  have := bytes (P := fun c => !isSg c || !isSp c) (by decide +kernel) c
  simpa [h] using this
theorem eq34 {c : UInt8} (h : c.toNat = 34) : c = 34 := UInt8.toNat_inj.1 h
theorem eq46 {c : UInt8} (h : c.toNat = 46) : c = 46 := UInt8.toNat_inj.1 h

theorem lowS_idem (s : List UInt8) : lowS (lowS s) = lowS s := by
  unfold lowS; rw [List.map_map]; exact List.map_congr_left fun c _ => low_low c
theorem lowS_len (s : List UInt8) : (lowS s).length = s.length := List.length_map ..

/-! ## Tokens -/

/-- The token with which a text begins: its kind and its bytes. -/
def bodyT : List UInt8 → Option (Nat × Nat)
  | [] => some (3, 0)
  | c :: t =>
    if isLet c = true then some (0, 1 + (t.takeWhile isWd).length)
    else if c.toNat = 34 then match t.dropWhile isPl with
      | q :: _ => if q.toNat = 34 then some (0, (t.takeWhile isPl).length + 2) else none
      | [] => none
    else if isDg c = true then match t.dropWhile isDg with
      | p :: d :: u => if p.toNat = 46 ∧ isDg d = true then some (1, (t.takeWhile isDg).length + 3 + (u.takeWhile isDg).length) else some (1, 1 + (t.takeWhile isDg).length)
      | _ => some (1, 1 + (t.takeWhile isDg).length)
    else if isSg c = true then some (2, 1) else none

def textT (r : List UInt8) (n : Nat) : List UInt8 := match r with
  | [] => []
  | c :: _ => if isLet c = true then lowS (r.take n) else r.take n

/-- A token's own text. -/
inductive Tk : Nat → List UInt8 → Prop
  | word (c : UInt8) (t : List UInt8) (hc : isLet c = true) (ht : ∀ x ∈ t, isWd x = true) (hl : lowS (c :: t) = c :: t) : Tk 0 (c :: t)
  | quote (m : List UInt8) (hm : ∀ x ∈ m, isPl x = true) : Tk 0 (34 :: (m ++ [34]))
  | num (c : UInt8) (t : List UInt8) (hc : isDg c = true) (ht : ∀ x ∈ t, isDg x = true) : Tk 1 (c :: t)
  | dot (c d : UInt8) (t u : List UInt8) (hc : isDg c = true) (ht : ∀ x ∈ t, isDg x = true) (hd : isDg d = true) (hu : ∀ x ∈ u, isDg x = true) : Tk 1 (c :: (t ++ (46 :: d :: u)))
  | sign (c : UInt8) (hc : isSg c = true) (h1 : isLet c = false) (h2 : c.toNat ≠ 34) (h3 : isDg c = false) : Tk 2 [c]

def Stop (t : List UInt8) : Prop := t = [] ∨ ∃ u, t = 32 :: u

theorem stop_tw {p : UInt8 → Bool} (hp : p 32 = false) {t : List UInt8} (h : Stop t) : t.takeWhile p = [] ∧ t.dropWhile p = t := by
  rcases h with rfl | ⟨u, rfl⟩
  · exact ⟨rfl, rfl⟩
  · exact ⟨by rw [List.takeWhile_cons_of_neg (by simp [hp])], by rw [List.dropWhile_cons_of_neg (by simp [hp])]⟩

theorem app_tw {p : UInt8 → Bool} (hp : p 32 = false) {x t : List UInt8} (hx : ∀ c ∈ x, p c = true) (h : Stop t) : (x ++ t).takeWhile p = x ∧ (x ++ t).dropWhile p = t := by
  obtain ⟨h1, h2⟩ := stop_tw hp h
  exact ⟨by rw [List.takeWhile_append_of_pos hx, h1, List.append_nil], by rw [List.dropWhile_append_of_pos hx, h2]⟩

/-- A token's text, with nothing or a space behind it, is that token. -/
theorem Tk.body {kd : Nat} {x t : List UInt8} (hx : Tk kd x) (ht : Stop t) : bodyT (x ++ t) = some (kd, x.length) ∧ textT (x ++ t) x.length = x := by
  cases hx with
  | word c m hc hm hl =>
    obtain ⟨h1, h2⟩ := app_tw (p := isWd) (by decide) hm ht
    rw [List.cons_append]
    refine ⟨?_, ?_⟩
    · unfold bodyT
      dsimp only
      rw [if_pos hc, h1, List.length_cons, Nat.add_comm]
    · unfold textT
      dsimp only
      rw [if_pos hc, ← List.cons_append, List.take_left]
      exact hl
  | quote m hm =>
    have e0 : isLet 34 = false := by decide
    have hq : ((m ++ [34]) ++ t).takeWhile isPl = m ∧ ((m ++ [34]) ++ t).dropWhile isPl = 34 :: t := by
      rw [List.append_assoc, List.singleton_append]
      have e1 : isPl 34 = false := by decide
      exact ⟨by rw [List.takeWhile_append_of_pos hm, List.takeWhile_cons_of_neg (by rw [e1]; simp), List.append_nil], by rw [List.dropWhile_append_of_pos hm, List.dropWhile_cons_of_neg (by rw [e1]; simp)]⟩
    rw [List.cons_append]
    refine ⟨?_, ?_⟩
    · unfold bodyT
      dsimp only
      rw [if_neg (by rw [e0]; simp), if_pos (by decide), hq.1, hq.2]
      dsimp only
      rw [if_pos (by decide)]
      simp
    · unfold textT
      dsimp only
      rw [if_neg (by rw [e0]; simp)]
      show List.take _ ((34 :: (m ++ [34])) ++ t) = _
      rw [List.take_left]
  | num c m hc hm =>
    obtain ⟨h1, h2⟩ := app_tw (p := isDg) (by decide) hm ht
    obtain ⟨n1, n2, n3⟩ := dg_ne c hc
    rw [List.cons_append]
    refine ⟨?_, ?_⟩
    · unfold bodyT
      dsimp only
      rw [if_neg (by rw [n2]; simp), if_neg n3, if_pos hc, h1, h2, List.length_cons]
      rcases ht with rfl | ⟨u, rfl⟩
      · show some (1, 1 + m.length) = _
        rw [Nat.add_comm]
      · cases u with
        | nil =>
          show some (1, 1 + m.length) = _
          rw [Nat.add_comm]
        | cons d u =>
          dsimp only
          rw [if_neg (fun e => by have := e.1; revert this; decide), Nat.add_comm]
    · unfold textT
      dsimp only
      rw [if_neg (by rw [n2]; simp), ← List.cons_append, List.take_left]
  | dot c d m u hc hm hd hu =>
    obtain ⟨h1, h2⟩ := app_tw (p := isDg) (by decide) hu ht
    obtain ⟨n1, n2, n3⟩ := dg_ne c hc
    have e1 : isDg 46 = false := by decide
    have hq : ((m ++ (46 :: d :: u)) ++ t).takeWhile isDg = m ∧ ((m ++ (46 :: d :: u)) ++ t).dropWhile isDg = 46 :: d :: (u ++ t) := by
      rw [List.append_assoc, List.cons_append, List.cons_append]
      exact ⟨by rw [List.takeWhile_append_of_pos hm, List.takeWhile_cons_of_neg (by rw [e1]; simp), List.append_nil], by rw [List.dropWhile_append_of_pos hm, List.dropWhile_cons_of_neg (by rw [e1]; simp)]⟩
    rw [List.cons_append]
    refine ⟨?_, ?_⟩
    · unfold bodyT
      dsimp only
      rw [if_neg (by rw [n2]; simp), if_neg n3, if_pos hc, hq.1, hq.2]
      dsimp only
      rw [if_pos ⟨by decide, hd⟩, h1]
      simp only [List.length_cons, List.length_append]
      congr 2
      omega
    · unfold textT
      dsimp only
      rw [if_neg (by rw [n2]; simp)]
      show List.take _ ((c :: (m ++ (46 :: d :: u))) ++ t) = _
      rw [List.take_left]
  | sign c hc n1 n2 n3 =>
    rw [List.singleton_append]
    refine ⟨?_, ?_⟩
    · unfold bodyT
      dsimp only
      rw [if_neg (by rw [n1]; simp), if_neg n2, if_neg (by rw [n3]; simp), if_pos hc]
      rfl
    · unfold textT
      dsimp only
      rw [if_neg (by rw [n1]; simp)]
      rfl

theorem tw_all {p : UInt8 → Bool} (t : List UInt8) : ∀ x ∈ t.takeWhile p, p x = true := fun x hx => List.all_eq_true.1 (List.all_takeWhile (p := p) (l := t)) x hx
theorem tw_app {p : UInt8 → Bool} (t : List UInt8) : t.takeWhile p ++ t.dropWhile p = t := List.takeWhile_append_dropWhile

/-- What is read as a token is one. -/
theorem tk_body {r : List UInt8} {kd n : Nat} (h : bodyT r = some (kd, n)) (h3 : kd ≠ 3) : Tk kd (textT r n) ∧ (textT r n).length = n ∧ 1 ≤ n ∧ n ≤ r.length := by
  cases r with
  | nil => unfold bodyT at h; injection h with h; injection h with h _; exact absurd h.symm h3
  | cons c t =>
    unfold bodyT at h
    dsimp only at h
    split at h
    · rename_i hc
      injection h with h; injection h with h1 h2; subst h1; subst h2
      have hsplit := tw_app (p := isWd) t
      have hall := tw_all (p := isWd) t
      generalize t.takeWhile isWd = x at *
      generalize t.dropWhile isWd = y at *
      subst hsplit
      have ht : (c :: (x ++ y)).take (1 + x.length) = c :: x := by rw [Nat.add_comm, List.take_succ_cons, List.take_left]
      unfold textT
      dsimp only
      rw [if_pos hc, ht]
      refine ⟨.word (lowB c) (lowS x) (let_low c hc) (fun z hz => ?_) (lowS_idem (c :: x)), by rw [lowS_len]; simp [Nat.add_comm], by omega, by simp; omega⟩
      obtain ⟨z', hz', rfl⟩ := List.mem_map.1 hz
      exact wd_low _ (hall z' hz')
    · rename_i hc
      have hc' : isLet c = false := by simpa using hc
      have htx : ∀ m, textT (c :: t) m = (c :: t).take m := fun m => by unfold textT; dsimp only; rw [if_neg hc]
      rw [htx]
      split at h
      · rename_i hq
        have hc34 := eq34 hq
        have hsplit := tw_app (p := isPl) t
        have hall := tw_all (p := isPl) t
        generalize t.takeWhile isPl = x at *
        generalize t.dropWhile isPl = y at *
        subst hsplit
        cases y with
        | nil => cases h
        | cons q y =>
          dsimp only at h
          split at h
          · rename_i hq2
            injection h with h; injection h with h1 h2; subst h1; subst h2
            have e2 := eq34 hq2
            subst e2; subst hc34
            have ht : ((34 : UInt8) :: (x ++ 34 :: y)).take (x.length + 2) = 34 :: (x ++ [34]) := by
              rw [show x.length + 2 = (x ++ [34]).length + 1 by simp, List.take_succ_cons, show x ++ 34 :: y = (x ++ [34]) ++ y by simp, List.take_left]
            rw [ht]
            exact ⟨.quote x hall, by simp, by omega, by simp⟩
          · cases h
      · rename_i hq
        split at h
        · rename_i hd
          have hsplit := tw_app (p := isDg) t
          have hall := tw_all (p := isDg) t
          generalize t.takeWhile isDg = x at *
          generalize t.dropWhile isDg = y at *
          subst hsplit
          have plain : Tk 1 ((c :: (x ++ y)).take (1 + x.length)) ∧ ((c :: (x ++ y)).take (1 + x.length)).length = 1 + x.length ∧ 1 ≤ 1 + x.length ∧ 1 + x.length ≤ (c :: (x ++ y)).length := by
            have ht : (c :: (x ++ y)).take (1 + x.length) = c :: x := by rw [Nat.add_comm, List.take_succ_cons, List.take_left]
            rw [ht]
            exact ⟨.num c x hd hall, by simp [Nat.add_comm], by omega, by simp; omega⟩
          cases y with
          | nil => injection h with h; injection h with h1 h2; subst h1; subst h2; exact plain
          | cons p y =>
            cases y with
            | nil => injection h with h; injection h with h1 h2; subst h1; subst h2; exact plain
            | cons d u =>
              dsimp only at h
              split at h
              · rename_i hpd
                injection h with h; injection h with h1 h2; subst h1; subst h2
                have e46 := eq46 hpd.1
                subst e46
                have hs2 := tw_app (p := isDg) u
                have hall2 := tw_all (p := isDg) u
                generalize u.takeWhile isDg = v at *
                generalize u.dropWhile isDg = z at *
                subst hs2
                have ht : (c :: (x ++ 46 :: d :: (v ++ z))).take (x.length + 3 + v.length) = c :: (x ++ (46 :: d :: v)) := by
                  rw [show x.length + 3 + v.length = (x ++ (46 :: d :: v)).length + 1 by simp; omega, List.take_succ_cons, show x ++ 46 :: d :: (v ++ z) = (x ++ (46 :: d :: v)) ++ z by simp, List.take_left]
                rw [ht]
                exact ⟨.dot c d x v hd hall hpd.2 hall2, by simp; omega, by omega, by simp; omega⟩
              · injection h with h; injection h with h1 h2; subst h1; subst h2; exact plain
        · rename_i hd
          split at h
          · rename_i hs
            injection h with h; injection h with h1 h2; subst h1; subst h2
            exact ⟨.sign c hs hc' hq (by simpa using hd), rfl, by omega, by simp⟩
          · cases h

theorem Tk.head {kd : Nat} {x : List UInt8} (h : Tk kd x) : kd ≤ 2 ∧ ∃ c t, x = c :: t ∧ isSp c = false := by
  cases h with
  | word c m hc => exact ⟨by omega, _, _, rfl, let_ne c hc⟩
  | quote m => exact ⟨by omega, _, _, rfl, by decide⟩
  | num c m hc => exact ⟨by omega, _, _, rfl, (dg_ne c hc).1⟩
  | dot c d m u hc => exact ⟨by omega, _, _, rfl, (dg_ne c hc).1⟩
  | sign c hc => exact ⟨by omega, _, _, rfl, sg_ne c hc⟩

/-! ## Tokens of a text -/

inductive Scans : List UInt8 → List (Nat × List UInt8) → Prop
  | fin {r : List UInt8} (h : r.dropWhile isSp = []) : Scans r [(3, [])]
  | tok {r : List UInt8} {kd n : Nat} {ts : List (Nat × List UInt8)} (h : bodyT (r.dropWhile isSp) = some (kd, n)) (hk : kd ≠ 3) (hs : Scans ((r.dropWhile isSp).drop n) ts) : Scans r ((kd, textT (r.dropWhile isSp) n) :: ts)

theorem dropSp_le (r : List UInt8) : (r.dropWhile isSp).length ≤ r.length := (List.dropWhile_sublist _).length_le

/-- The tokens' texts are no longer than the text. -/
theorem Scans.toks {r : List UInt8} {ts : List (Nat × List UInt8)} (h : Scans r ts) : ∃ l, ts = l ++ [(3, [])] ∧ (∀ x ∈ l, Tk x.1 x.2) ∧ Lib.lens (l.map (·.2)) ≤ r.length ∧ l.length ≤ r.length := by
  induction h with
  | fin h => exact ⟨[], rfl, (fun x hx => nomatch hx), by simp [Lib.lens], by simp⟩
  | @tok r kd n ts h hk hs ih =>
    obtain ⟨l, h1, h2, h3, h4⟩ := ih
    obtain ⟨t1, t2, t3, t4⟩ := tk_body h hk
    have hle := dropSp_le r
    rw [List.length_drop] at h3 h4
    refine ⟨(kd, textT (r.dropWhile isSp) n) :: l, by rw [h1]; rfl, fun x hx => ?_, ?_, by rw [List.length_cons]; omega⟩
    · rcases List.mem_cons.1 hx with rfl | hx
      · exact t1
      · exact h2 x hx
    · rw [List.map_cons]
      have : Lib.lens (textT (r.dropWhile isSp) n :: l.map (·.2)) = (textT (r.dropWhile isSp) n).length + Lib.lens (l.map (·.2)) := by simp [Lib.lens]
      rw [this, t2]
      omega

theorem joinTail_cons (x : List UInt8) (r : List (List UInt8)) : Lib.joinTail [32] (x :: r) = 32 :: (x ++ Lib.joinTail [32] r) := by simp [Lib.joinTail]

theorem tail_stop (r : List (List UInt8)) : Stop (Lib.joinTail [32] r) := by
  cases r with
  | nil => exact .inl rfl
  | cons x r => exact .inr ⟨_, joinTail_cons x r⟩

theorem scans_step {x : Nat × List UInt8} {r : List UInt8} {t : List UInt8} {ts : List (Nat × List UInt8)} (hx : Tk x.1 x.2) (hr : r.dropWhile isSp = x.2 ++ t) (ht : Stop t) (hs : Scans t ts) : Scans r (x :: ts) := by
  obtain ⟨b1, b2⟩ := hx.body ht
  have := Scans.tok (r := r) (kd := x.1) (n := x.2.length) (ts := ts) (by rw [hr]; exact b1) (by have := hx.head.1; omega) (by rw [hr, List.drop_left]; exact hs)
  rw [hr, b2] at this
  exact this

theorem Tk.keep {kd : Nat} {x t : List UInt8} (h : Tk kd x) : (x ++ t).dropWhile isSp = x ++ t := by
  obtain ⟨_, c, u, rfl, hc⟩ := h.head
  rw [List.cons_append, List.dropWhile_cons_of_neg (by rw [hc]; simp)]

theorem scans_tail : ∀ {l : List (Nat × List UInt8)}, (∀ x ∈ l, Tk x.1 x.2) → Scans (Lib.joinTail [32] (l.map (·.2))) (l ++ [(3, [])])
  | [], _ => .fin rfl
  | x :: l, h => by
    have hx := h x (List.mem_cons_self ..)
    refine scans_step (t := Lib.joinTail [32] (l.map (·.2))) hx ?_ (tail_stop _) (scans_tail fun y hy => h y (List.mem_cons_of_mem _ hy))
    rw [List.map_cons, joinTail_cons, List.dropWhile_cons_of_pos (by decide), hx.keep]

/-- Tokens' texts, joined, are these tokens. -/
theorem scans_join : ∀ {l : List (Nat × List UInt8)}, (∀ x ∈ l, Tk x.1 x.2) → Scans (Lib.join (l.map (·.2)) [32]) (l ++ [(3, [])])
  | [], _ => .fin rfl
  | x :: l, h => by
    have hx := h x (List.mem_cons_self ..)
    refine scans_step (t := Lib.joinTail [32] (l.map (·.2))) hx ?_ (tail_stop _) (scans_tail fun y hy => h y (List.mem_cons_of_mem _ hy))
    rw [List.map_cons, Lib.join_cons, hx.keep]
end Go.Proofs.Ytkbjimfganeooaa
