/-
  Plain laws of the lexer: scanning, one token, joining.
-/
import Derived.Test.YtkbjimfganeooaaQM
set_option linter.unusedSimpArgs false
set_option linter.unusedVariables false
namespace Go.Proofs.Ytkbjimfganeooaa
open Go Go.Ab

def kt (t : ApiToken) : Int × List UInt8 := (t.fKind, t.fText)
def ci (x : Nat × List UInt8) : Int × List UInt8 := ((x.1 : Int), x.2)

theorem body3 {r : List UInt8} {n : Nat} (h : bodyT r = some (3, n)) : r = [] ∧ n = 0 := by
  cases r with
  | nil => unfold bodyT at h; injection h with h; injection h with _ h; exact ⟨rfl, h.symm⟩
  | cons c t =>
    exfalso
    unfold bodyT at h
    dsimp only at h
    split at h
    · simp at h
    · split at h
      · split at h
        · split at h <;> simp at h
        · simp at h
      · split at h
        · split at h
          · split at h <;> simp at h
          · simp at h
        · split at h <;> simp at h

theorem scan_body {s : List UInt8} {k : Nat} {out : List ApiToken} (hl : s.length ≤ 10000) (hk : k ≤ s.length) (ho : out.length ≤ 256) : (f14_L1 s).body ((k : Int), out) = match bodyT (s.drop (skp isSp s k)) with
    | none => some (.brk (.inl (((skp isSp s k : Nat) : Int), 4)))
    | some (kd, n) => if out.length = 256 then some (.brk (.inl (((skp isSp s k : Nat) : Int), 5))) else
        if kd = 3 then some (.brk (.inr (out ++ [ApiToken.mk (kd : Int) (textT (s.drop (skp isSp s k)) n) ((skp isSp s k : Nat) : Int)])))
        else some (.next (((skp isSp s k + n : Nat) : Int), out ++ [ApiToken.mk (kd : Int) (textT (s.drop (skp isSp s k)) n) ((skp isSp s k : Nat) : Int)])) := by
  show ((f14_C2 s out (k : Int)).run).bind _ = _
  rw [tok_f14 hl hk, Option.bind_some]
  unfold tokI
  cases bodyT (s.drop (skp isSp s k)) with
  | none => rfl
  | some p =>
    obtain ⟨kd, n⟩ := p
    dsimp only
    rw [if_neg (by simp)]
    by_cases h256 : out.length = 256
    · rw [if_pos (by simp only [decide_eq_true_eq]; omega), if_pos h256]
    · rw [if_neg (by simp only [decide_eq_true_eq]; omega), if_neg h256, app_some (by simp only [List.length_cons, List.length_nil]; omega) (by simp only [List.length_cons, List.length_nil]; omega), Option.bind_some]
      by_cases h3 : kd = 3
      · rw [if_pos (by simp only [decide_eq_true_eq]; omega), if_pos h3]
      · rw [if_neg (by simp only [decide_eq_true_eq]; omega), if_neg h3]

/-- A text with these tokens is scanned so. -/
theorem scan_run {s : List UInt8} (hl : s.length ≤ 10000) {r : List UInt8} {ts : List (Nat × List UInt8)} (h : Scans r ts) : ∀ (k : Nat) (out : List ApiToken), s.drop k = r → k ≤ s.length → out.length + ts.length ≤ 256 →
    ∃ l, (f14_L1 s).run ((k : Int), out) = some (.inr (out ++ l)) ∧ l.map kt = ts.map ci := by
  induction h with
  | @fin r h =>
    intro k out hr hk ho
    simp only [List.length_cons, List.length_nil] at ho
    have hb := scan_body (out := out) hl hk (by omega)
    rw [skp_drop, hr, h] at hb
    have hb2 : bodyT [] = some (3, 0) := rfl
    rw [hb2] at hb
    dsimp only at hb
    rw [if_neg (by omega), if_pos rfl] at hb
    exact ⟨_, iter_brk hb, rfl⟩
  | @tok r kd n ts h hk3 hs ih =>
    intro k out hr hk ho
    rw [List.length_cons] at ho
    have hb := scan_body (out := out) hl hk (by omega)
    obtain ⟨t1, t2, t3, t4⟩ := tk_body h hk3
    have hj := (skp_le (p := isSp) hk).2
    have hd := skp_drop isSp s k
    rw [hr] at hd
    rw [hd, h] at hb
    dsimp only at hb
    rw [if_neg (by omega), if_neg hk3] at hb
    rw [← hd, List.length_drop] at t4
    obtain ⟨l, h1, h2⟩ := ih (skp isSp s k + n) (out ++ [ApiToken.mk (kd : Int) (textT (r.dropWhile isSp) n) ((skp isSp s k : Nat) : Int)]) (by rw [← List.drop_drop, hd]) (by omega) (by rw [List.length_append, List.length_singleton]; omega)
    refine ⟨ApiToken.mk (kd : Int) (textT (r.dropWhile isSp) n) ((skp isSp s k : Nat) : Int) :: l, (iter_next hb).trans (h1.trans ?_), by rw [List.map_cons, h2]; rfl⟩
    rw [List.append_assoc]; rfl

theorem scan_all {s : List UInt8} (hl : s.length ≤ 10000) : ∀ (m k : Nat) (out : List ApiToken), s.length - k ≤ m → k ≤ s.length → out.length ≤ 256 →
    ∃ e, (f14_L1 s).run ((k : Int), out) = some e ∧ (∀ p, e = .inl p → p.2 ≠ 0) ∧ ∀ o, e = .inr o → ∃ l ts, o = out ++ l ∧ l.map kt = ts.map ci ∧ Scans (s.drop k) ts ∧ o.length ≤ 256 := by
  intro m
  induction m with
  | zero =>
    intro k out hm hk ho
    have hb := scan_body (out := out) hl hk ho
    have hd := skp_drop isSp s k
    have hr : s.drop k = [] := List.drop_of_length_le (by omega)
    rw [hr] at hd
    have hd' : s.drop (skp isSp s k) = [] := hd
    rw [hd'] at hb
    have hb2 : bodyT [] = some (3, 0) := rfl
    rw [hb2] at hb
    dsimp only at hb
    by_cases h256 : out.length = 256
    · rw [if_pos h256] at hb
      exact ⟨_, iter_brk hb, (fun p hp => by injection hp with hp; rw [← hp]; simp), (fun o ho => nomatch ho)⟩
    · rw [if_neg h256, if_pos rfl] at hb
      refine ⟨_, iter_brk hb, (fun p hp => nomatch hp), fun o ho2 => ?_⟩
      injection ho2 with ho2; subst ho2
      exact ⟨_, [(3, [])], rfl, rfl, .fin (by rw [hr]; rfl), by rw [List.length_append, List.length_singleton]; omega⟩
  | succ m ih =>
    intro k out hm hk ho
    have hb := scan_body (out := out) hl hk ho
    have hd := skp_drop isSp s k
    have hj := skp_le (p := isSp) hk
    rw [hd] at hb
    cases hbt : bodyT ((s.drop k).dropWhile isSp) with
    | none =>
      rw [hbt] at hb
      exact ⟨_, iter_brk hb, (fun p hp => by injection hp with hp; rw [← hp]; simp), (fun o ho => nomatch ho)⟩
    | some p =>
      obtain ⟨kd, n⟩ := p
      rw [hbt] at hb
      dsimp only at hb
      by_cases h256 : out.length = 256
      · rw [if_pos h256] at hb
        exact ⟨_, iter_brk hb, (fun p hp => by injection hp with hp; rw [← hp]; simp), (fun o ho => nomatch ho)⟩
      · rw [if_neg h256] at hb
        by_cases h3 : kd = 3
        · rw [if_pos h3] at hb
          subst h3
          obtain ⟨e1, e2⟩ := body3 hbt
          subst e2
          refine ⟨_, iter_brk hb, (fun p hp => nomatch hp), fun o ho2 => ?_⟩
          injection ho2 with ho2; subst ho2
          exact ⟨_, [(3, [])], rfl, by rw [e1]; rfl, .fin e1, by rw [List.length_append, List.length_singleton]; omega⟩
        · rw [if_neg h3] at hb
          obtain ⟨t1, t2, t3, t4⟩ := tk_body hbt h3
          have hlen : ((s.drop k).dropWhile isSp).length = s.length - skp isSp s k := by rw [← hd, List.length_drop]
          obtain ⟨e, h1, h2, h4⟩ := ih (skp isSp s k + n) (out ++ [ApiToken.mk (kd : Int) (textT ((s.drop k).dropWhile isSp) n) ((skp isSp s k : Nat) : Int)]) (by omega) (by omega) (by rw [List.length_append, List.length_singleton]; omega)
          refine ⟨e, (iter_next hb).trans h1, h2, fun o ho2 => ?_⟩
          obtain ⟨l, ts, q1, q2, q3, q4⟩ := h4 o ho2
          refine ⟨_ :: l, (kd, textT ((s.drop k).dropWhile isSp) n) :: ts, by rw [q1, List.append_assoc]; rfl, by rw [List.map_cons, List.map_cons, q2]; rfl, .tok hbt h3 ?_, q4⟩
          rw [← List.drop_drop, hd] at q3
          exact q3

theorem scan_any {s : List UInt8} (hl : s.length ≤ 4096) : ∃ l p e, f14 s = some (l, p, e) ∧ (e = 0 → ∃ ts, l.map kt = ts.map ci ∧ Scans s ts ∧ l.length ≤ 256) := by
  obtain ⟨e, h1, h2, h3⟩ := scan_all (s := s) (by omega) s.length 0 [] (by omega) (Nat.zero_le _) (by simp)
  have h1' : (f14_L1 s).run (0, []) = some e := h1
  unfold f14
  rw [if_neg (by simp only [decide_eq_true_eq]; omega), h1', Option.bind_some]
  cases e with
  | inl p => exact ⟨_, _, _, rfl, fun h => absurd h (h2 p rfl)⟩
  | inr o =>
    refine ⟨_, _, _, rfl, fun _ => ?_⟩
    obtain ⟨l, ts, q1, q2, q3, q4⟩ := h3 o rfl
    rw [List.nil_append] at q1
    subst q1
    exact ⟨ts, q2, by simpa using q3, q4⟩

theorem scan_ok {s : List UInt8} {ts : List (Nat × List UInt8)} (hl : s.length ≤ 4096) (h : Scans s ts) (ht : ts.length ≤ 256) : ∃ l, f14 s = some (l, 0, 0) ∧ l.map kt = ts.map ci := by
  obtain ⟨l, h1, h2⟩ := scan_run (s := s) (by omega) h 0 [] (by simp) (Nat.zero_le _) (by simpa using ht)
  have h1' : (f14_L1 s).run (0, []) = some (.inr ([] ++ l)) := h1
  unfold f14
  rw [if_neg (by simp only [decide_eq_true_eq]; omega), h1', Option.bind_some]
  exact ⟨l, rfl, h2⟩

/-! ## One token -/

theorem one_ok {kd : Nat} {x : List UInt8} (h : Tk kd x) (hl : x.length ≤ 10000) : f25 x = some (ApiToken.mk (kd : Int) x 0, true) := by
  have hkeep := h.keep (t := [])
  rw [List.append_nil] at hkeep
  obtain ⟨b1, b2⟩ := h.body (t := []) (.inl rfl)
  rw [List.append_nil] at b1 b2
  have hd := skp_drop isSp x 0
  rw [List.drop_zero, hkeep] at hd
  have hsk : skp isSp x 0 = 0 := by
    unfold skp
    obtain ⟨_, c, u, rfl, hc⟩ := h.head
    rw [List.drop_zero, List.takeWhile_cons_of_neg (by rw [hc]; simp)]
    rfl
  have ht : tokI x 0 = (true, ((x.length : Nat) : Int), (kd : Int), x, 0) := by
    unfold tokI
    rw [hd, b1]
    dsimp only
    rw [b2, hsk, Nat.zero_add]
    rfl
  unfold f25
  rw [tok_f25 hl, ht, Option.bind_some]
  have h2 := h.head.1
  dsimp only
  rw [if_pos rfl, if_pos (by decide), if_pos (by simp)]
  unfold f25_J19
  dsimp only
  rw [decide_eq_true (show ¬ (kd : Int) = 3 by omega)]

/-! ## Joining -/

theorem get_kt {l : List ApiToken} {ts : List (Nat × List UInt8)} (h : l.map kt = ts.map ci) {i : Nat} {x : ApiToken} (hx : l[i]? = some x) : ∃ y, ts[i]? = some y ∧ x.fKind = (y.1 : Int) ∧ x.fText = y.2 := by
  have h1 := congrArg (fun z => z[i]?) h
  simp only [List.getElem?_map, hx, Option.map_some] at h1
  cases hy : ts[i]? with
  | none => rw [hy] at h1; cases h1
  | some y =>
    rw [hy] at h1
    simp only [Option.map_some, Option.some.injEq] at h1
    unfold kt ci at h1
    injection h1 with e1 e2
    exact ⟨y, rfl, e1, e2⟩

theorem join_tok {l : List ApiToken} {ts : List (Nat × List UInt8)} (h : l.map kt = (ts ++ [(3, [])]).map ci) (ht : ∀ x ∈ ts, Tk x.1 x.2 ∧ x.2.length ≤ 10000) (hn : ts.length ≤ 1000) (hj : (Lib.join (ts.map (·.2)) [32]).length ≤ 4096) : f15 l = some (Lib.join (ts.map (·.2)) [32], 0) := by
  have hll : l.length = ts.length + 1 := by
    have := congrArg List.length h
    simpa using this
  have hlast : IntKind.i64.wrap (((l.length : Nat) : Int) - 1) = ((ts.length : Nat) : Int) := by rw [w64 (by omega) (by omega)]; omega
  have at_ts : ∀ {i : Nat} {x : ApiToken}, l[i]? = some x → i < ts.length → ∃ y ∈ ts, ts[i]? = some y ∧ x.fKind = (y.1 : Int) ∧ x.fText = y.2 := fun {i x} hx hi => by
    obtain ⟨y, h1, h2, h3⟩ := get_kt h hx
    rw [List.getElem?_append_left hi] at h1
    exact ⟨y, List.mem_of_getElem? h1, h1, h2, h3⟩
  have at_end : ∀ {x : ApiToken}, l[ts.length]? = some x → x.fKind = 3 ∧ x.fText = [] := fun {x} hx => by
    obtain ⟨y, h1, h2, h3⟩ := get_kt h hx
    rw [List.getElem?_append_right (Nat.le_refl _), Nat.sub_self] at h1
    simp only [List.getElem?_cons_zero, Option.some.injEq] at h1
    subst h1
    exact ⟨h2, h3⟩
  have h1 : (f15_L1 l).run 0 = some (.inl ()) := by
    refine run_all (xs := l) (fun k x hx => ?_) (if_neg (by simp))
    have hk := getElem?_lt hx
    refine (if_pos (by simp only [decide_eq_true_eq]; omega)).trans ?_
    rw [at_nat hx, Option.bind_some, hlast, w64_succ (by omega)]
    by_cases hlt : k < ts.length
    · obtain ⟨y, hy, _, hk1, _⟩ := at_ts hx hlt
      have := (ht y hy).1.head.1
      rw [decide_eq_false (show ¬ x.fKind = 3 by omega), decide_eq_false (show ¬ (k : Int) = ((ts.length : Nat) : Int) by omega)]
      rfl
    · have he : k = ts.length := by omega
      subst he
      rw [decide_eq_true (at_end hx).1, decide_eq_true rfl]
      rfl
  have h2 : (f15_L2 l).run (0, []) = some (.inl (ts.map (·.2))) := by
    have hr := run_count (L := f15_L2 l) (e := (Sum.inl (ts.map (·.2)) : (List (List UInt8)) ⊕ Int)) (fun k => ((k : Int), (ts.map (·.2)).take k)) ts.length (by
      have hx := List.getElem?_eq_getElem (show ts.length < l.length by omega)
      obtain ⟨e1, e2⟩ := at_end hx
      generalize l[ts.length] = x at hx e1 e2
      refine (if_pos (by simp only [decide_eq_true_eq]; omega)).trans ?_
      rw [at_nat hx, Option.bind_some, if_neg (by simp only [decide_eq_true_eq]; omega), if_neg (by simp only [decide_eq_true_eq]; omega), hlast, if_pos (by simp), e2, if_neg (by simp), List.take_of_length_le (by rw [List.length_map]; exact Nat.le_refl _)]) 0 (Nat.zero_le _) (fun k _ hk => by
      have hx := List.getElem?_eq_getElem (show k < l.length by omega)
      obtain ⟨y, hy, hyk, e1, e2⟩ := at_ts hx hk
      generalize l[k] = x at hx e1 e2
      obtain ⟨t1, t2⟩ := ht y hy
      have h2 := t1.head.1
      have hlen : ((ts.map (·.2)).take k).length ≤ 1000 := by rw [List.length_take, List.length_map]; omega
      refine (if_pos (by simp only [decide_eq_true_eq]; omega)).trans ?_
      rw [at_nat hx, Option.bind_some, if_neg (by simp only [decide_eq_true_eq]; omega), if_neg (by simp only [decide_eq_true_eq]; omega), hlast, if_neg (by simp only [decide_eq_true_eq]; omega), e2, one_ok t1 t2, Option.bind_some]
      dsimp only
      rw [if_neg (by simp), if_neg (by simp only [decide_eq_true_eq]; omega), if_neg (by simp), app_some (by simp only [List.length_cons, List.length_nil]; omega) (by simp only [List.length_cons, List.length_nil]; omega), Option.bind_some, w64_succ (by omega)]
      have : (ts.map (·.2)).take (k + 1) = (ts.map (·.2)).take k ++ [y.2] := by
        rw [List.take_add_one, List.getElem?_map, hyk]; rfl
      rw [this])
    exact hr
  unfold f15
  rw [h1, Option.bind_some]
  dsimp only
  rw [hlast, if_neg (by simp only [decide_eq_true_eq]; omega), h2, Option.bind_some]
  dsimp only
  have h3 : f26 (ts.map (·.2)) [32] = some (Lib.join (ts.map (·.2)) [32]) := by
    unfold f26 join?
    rw [if_pos ⟨by rw [List.length_map]; omega, by omega⟩]
  rw [h3, Option.bind_some, if_neg (by simp only [decide_eq_true_eq]; omega)]
end Go.Proofs.Ytkbjimfganeooaa
