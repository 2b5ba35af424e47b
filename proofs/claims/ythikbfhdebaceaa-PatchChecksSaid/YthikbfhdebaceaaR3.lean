import Derived.Test.YthikbfhdebaceaaP5
import Derived.Test.YthikbfhdebaceaaY31
namespace Go.Proofs.Ythikbfhdebaceaa
open Go Go.Ab
set_option linter.unusedSimpArgs false
set_option linter.unusedVariables false
set_option maxRecDepth 4000
/-! ## The reference's parts -/

theorem strict_ext {τ : Type} {key : τ → Int} : ∀ {xs ys : List τ}, xs.Pairwise (fun a b => key a < key b) → ys.Pairwise (fun a b => key a < key b) → (∀ z, z ∈ xs ↔ z ∈ ys) → xs = ys
  | [], [], _, _, _ => rfl
  | [], y :: ys, _, _, h => by have := (h y).2 (List.mem_cons_self ..); cases this
  | x :: xs, [], _, _, h => by have := (h x).1 (List.mem_cons_self ..); cases this
  | x :: xs, y :: ys, h1, h2, h => by
    have h1' := List.pairwise_cons.1 h1
    have h2' := List.pairwise_cons.1 h2
    have hxy : x = y := by
      rcases List.mem_cons.1 ((h x).1 (List.mem_cons_self ..)) with e | e
      · exact e
      · rcases List.mem_cons.1 ((h y).2 (List.mem_cons_self ..)) with e2 | e2
        · exact e2.symm
        · have := h2'.1 x e
          have := h1'.1 y e2
          omega
    subst hxy
    rw [strict_ext h1'.2 h2'.2 fun z => ?_]
    have hz := h z
    rw [List.mem_cons, List.mem_cons] at hz
    constructor
    · intro hm
      rcases hz.1 (.inr hm) with e | e
      · have := h1'.1 z hm; rw [e] at this; omega
      · exact e
    · intro hm
      rcases hz.2 (.inr hm) with e | e
      · have := h2'.1 z hm; rw [e] at this; omega
      · exact e

def oneP (c n : Int) (x : ApiFixture) : List ApiFixture := if x.fChannel = c ∧ x.fPart = n then [x] else []
def partN (l : List ApiFixture) (c : Int) (n : Nat) : List ApiFixture := l.flatMap (oneP c ((n + 1 : Nat) : Int))
def partsR (l : List ApiFixture) (c : Int) (m : Nat) : List ApiFixture := (List.range m).flatMap (partN l c)

theorem oneP_len (c n : Int) (x : ApiFixture) : (oneP c n x).length ≤ 1 := by unfold oneP; split <;> simp
theorem oneP_mem {c n : Int} {x y : ApiFixture} : y ∈ oneP c n x ↔ y = x ∧ x.fChannel = c ∧ x.fPart = n := by
  unfold oneP
  split
  · rename_i h; simp [h]
  · rename_i h; simp only [List.not_mem_nil, false_iff]; exact fun e => h e.2

theorem partN_mem {l : List ApiFixture} {c : Int} {n : Nat} {y : ApiFixture} : y ∈ partN l c n ↔ y ∈ l ∧ y.fChannel = c ∧ y.fPart = ((n + 1 : Nat) : Int) := by
  unfold partN
  rw [List.mem_flatMap]
  constructor
  · rintro ⟨x, hx, hy⟩
    obtain ⟨rfl, h1, h2⟩ := oneP_mem.1 hy
    exact ⟨hx, h1, h2⟩
  · rintro ⟨h1, h2, h3⟩
    exact ⟨y, h1, oneP_mem.2 ⟨rfl, h2, h3⟩⟩

theorem partN_len (l : List ApiFixture) (c : Int) (n : Nat) : (partN l c n).length ≤ l.length := by
  unfold partN
  induction l with
  | nil => simp
  | cons x xs ih =>
    have := oneP_len c ((n + 1 : Nat) : Int) x
    rw [List.flatMap_cons, List.length_append, List.length_cons]
    omega

theorem partsR_succ (l : List ApiFixture) (c : Int) (m : Nat) : partsR l c (m + 1) = partsR l c m ++ partN l c m := by
  unfold partsR
  rw [List.range_succ, List.flatMap_append]
  simp

theorem partsR_len (l : List ApiFixture) (c : Int) : ∀ m, (partsR l c m).length ≤ m * l.length
  | 0 => by simp [partsR]
  | m + 1 => by
    rw [partsR_succ, List.length_append, Nat.succ_mul]
    have := partsR_len l c m
    have := partN_len l c m
    omega

theorem f46_run {l : List ApiFixture} (c : Int) (hl : l.length ≤ 1000) : f46 l c = some (partsR l c 64) := by
  unfold f46
  have hrun := run_count (L := f46_L1 l c) (e := partsR l c 64) (fun m => (((m + 1 : Nat) : Int), partsR l c m)) 64 rfl 0 (Nat.zero_le _) (fun m _ hm => by
    refine (if_pos (by simp only [decide_eq_true_eq]; omega)).trans ?_
    have hb := partsR_len l c m
    have hb2 : m * l.length ≤ 64 * 1000 := Nat.mul_le_mul (by omega) hl
    have hin : Lp.run (f46_L2 l c ((m + 1 : Nat) : Int)) (0, partsR l c m) = some (partsR l c m ++ l.flatMap (oneP c ((m + 1 : Nat) : Int))) := by
      refine run_more (xs := l) (oneP c ((m + 1 : Nat) : Int)) (64 * 1000) (fun k acc x r hb3 => ?_) (by omega) (fun x _ => by have := oneP_len c ((m + 1 : Nat) : Int) x; omega) (fun acc => if_neg (by simp)) (by omega)
      have hk := r.klt
      refine (if_pos r.lt).trans ?_
      rw [r.at']
      simp only [Option.bind_some, r.nxt, decide_eq_true_eq]
      unfold oneP
      by_cases h1 : x.fChannel = c
      · rw [if_pos h1]
        by_cases h2 : x.fPart = ((m + 1 : Nat) : Int)
        · rw [if_pos h2, if_pos ⟨h1, h2⟩, app_some (by simp only [List.length_cons, List.length_nil]; omega) (by simp only [List.length_cons, List.length_nil]; omega)]
          rfl
        · rw [if_neg h2, if_neg (fun e => h2 e.2), List.append_nil]
      · rw [if_neg h1, if_neg (fun e => h1 e.1), List.append_nil]
    rw [hin, Option.bind_some, partsR_succ, w64_succ (by omega)]
    rfl)
  rw [show ((1 : Int), ([] : List ApiFixture)) = (((0 + 1 : Nat) : Int), partsR l c 0) from rfl, hrun, Option.bind_some]

theorem parts_eq {l : List ApiFixture} {ps : List ApiProfile} (c : Int) (hok : Ok l ps) : partsR l c 64 = partsS l c := by
  refine strict_ext (key := fun x => x.fPart) ?_ (parts_asc c hok) fun z => ?_
  · unfold partsR
    rw [List.pairwise_flatMap]
    refine ⟨fun n _ => ?_, List.pairwise_lt_range.imp fun {a b} hab x hx y hy => ?_⟩
    · unfold partN
      rw [List.pairwise_flatMap]
      refine ⟨fun x _ => by unfold oneP; split <;> simp, hok.two.imp fun {x y} hd a ha b hb => ?_⟩
      obtain ⟨rfl, h1, h2⟩ := oneP_mem.1 ha
      obtain ⟨rfl, h3, h4⟩ := oneP_mem.1 hb
      unfold dupS at hd
      simp only [decide_eq_false_iff_not] at hd
      exact absurd ⟨by rw [h1, h3], by rw [h2, h4]⟩ hd
    · have h1 := (partN_mem.1 hx).2.2
      have h2 := (partN_mem.1 hy).2.2
      omega
  · rw [parts_mem]
    unfold partsR
    rw [List.mem_flatMap]
    constructor
    · rintro ⟨n, _, hz⟩
      have := partN_mem.1 hz
      exact ⟨this.1, this.2.1⟩
    · rintro ⟨h1, h2⟩
      have hr := alone_rng (hok.one z h1)
      exact ⟨(z.fPart - 1).toNat, by rw [List.mem_range]; omega, partN_mem.2 ⟨h1, h2, by omega⟩⟩

theorem f46_eq {l : List ApiFixture} {ps : List ApiProfile} (c : Int) (hok : Ok l ps) : f46 l c = some (partsS l c) := by
  rw [f46_run c (by have := hok.nl; omega), parts_eq c hok]
/-! ## The reference's attributes -/

theorem f13_eq {l : List ApiFixture} {ps : List ApiProfile} (c : Int) (hf : Fit l) : f13 l ps c = some (if checkS l ps ≠ 0 then ([], checkS l ps) else (partsS l c, 0)) := by
  unfold f13
  rw [f17_eq ps hf, Option.bind_some]
  by_cases h : checkS l ps ≠ 0
  · rw [if_pos (by simpa using h), if_pos h]
  · rw [if_neg (by simpa using h), if_neg h, f46_eq c (check_ok.1 (by simpa using h)), Option.bind_some]

def putI (n : Int) (l : List Int) : List Int := l.takeWhile (fun x => decide (x < n)) ++ (match l.dropWhile (fun x => decide (x < n)) with
  | [] => [n]
  | y :: ys => if y = n then y :: ys else n :: y :: ys)

theorem take_drop_while {p : Int → Bool} (l : List Int) : l.takeWhile p ++ l.dropWhile p = l := List.takeWhile_append_dropWhile
theorem drop_tw {p : Int → Bool} (l : List Int) : l.drop (l.takeWhile p).length = l.dropWhile p := by
  conv => lhs; rw [← take_drop_while (p := p) l]
  rw [List.takeWhile_append_dropWhile]
  have h := take_drop_while (p := p) l
  generalize ht : l.takeWhile p = t at h ⊢
  generalize l.dropWhile p = d at h ⊢
  rw [← h, List.drop_left]
theorem tw_get {p : Int → Bool} {l : List Int} : ∀ {k : Nat}, k < (l.takeWhile p).length → ∃ x, l[k]? = some x ∧ p x = true ∧ (l.takeWhile p)[k]? = some x := fun {k} hk => by
  have h := take_drop_while (p := p) l
  have hx := List.getElem?_eq_getElem hk
  refine ⟨(l.takeWhile p)[k], ?_, ?_, hx⟩
  · conv => lhs; rw [← h]
    rw [List.getElem?_append_left hk]; exact hx
  · exact List.all_eq_true.1 (List.all_takeWhile (p := p) (l := l)) _ (List.getElem_mem hk)

theorem putI_mem {n : Int} {l : List Int} {x : Int} : x ∈ putI n l ↔ x = n ∨ x ∈ l := by
  have h := take_drop_while (p := fun x => decide (x < n)) l
  unfold putI
  have hl : x ∈ l ↔ x ∈ l.takeWhile (fun x => decide (x < n)) ∨ x ∈ l.dropWhile (fun x => decide (x < n)) := by
    conv => lhs; rw [← h]
    exact List.mem_append
  rw [hl, List.mem_append]
  cases l.dropWhile (fun x => decide (x < n)) with
  | nil => simp; exact Or.comm
  | cons y ys =>
    dsimp only
    split
    · rename_i e
      subst e
      simp only [List.mem_cons]
      constructor
      · rintro (h | h | h)
        · exact .inr (.inl h)
        · exact .inl h
        · exact .inr (.inr (.inr h))
      · rintro (h | h | h | h)
        · exact .inr (.inl h)
        · exact .inl h
        · exact .inr (.inl h)
        · exact .inr (.inr h)
    · simp only [List.mem_cons]
      constructor
      · rintro (h | h | h)
        · exact .inr (.inl h)
        · exact .inl h
        · exact .inr (.inr h)
      · rintro (h | h | h)
        · exact .inr (.inl h)
        · exact .inl h
        · exact .inr (.inr h)

theorem putI_len (n : Int) (l : List Int) : (putI n l).length ≤ l.length + 1 := by
  have h := congrArg List.length (take_drop_while (p := fun x => decide (x < n)) l)
  unfold putI
  rw [List.length_append] at h ⊢
  cases hd : l.dropWhile (fun x => decide (x < n)) with
  | nil => rw [hd] at h; simp at h ⊢; omega
  | cons y ys =>
    rw [hd] at h
    dsimp only
    split <;> simp at h ⊢ <;> omega

theorem putI_asc {n : Int} {l : List Int} (h : l.Pairwise (fun a b => a < b)) : (putI n l).Pairwise fun a b => a < b := by
  have hsplit := take_drop_while (p := fun x => decide (x < n)) l
  have h' := h
  rw [← hsplit, List.pairwise_append] at h'
  obtain ⟨h1, h2, h3⟩ := h'
  have hlt : ∀ a ∈ l.takeWhile (fun x => decide (x < n)), a < n := fun a ha => by
    have := List.all_eq_true.1 (List.all_takeWhile (p := fun x => decide (x < n)) (l := l)) a ha
    simpa using this
  unfold putI
  rw [List.pairwise_append]
  cases hd : l.dropWhile (fun x => decide (x < n)) with
  | nil => exact ⟨h1, List.pairwise_singleton .., fun a ha b hb => by simp at hb; rw [hb]; exact hlt a ha⟩
  | cons y ys =>
    have hy : ¬ y < n := by
      have := List.head?_dropWhile_not (fun x => decide (x < n)) l
      rw [hd] at this
      simpa using this
    rw [hd] at h2 h3
    dsimp only
    split
    · rename_i e
      exact ⟨h1, h2, h3⟩
    · rename_i e
      rw [List.pairwise_cons] at h2
      refine ⟨h1, List.pairwise_cons.2 ⟨fun b hb => ?_, List.pairwise_cons.2 h2⟩, fun a ha b hb => ?_⟩
      · rcases List.mem_cons.1 hb with rfl | hb
        · omega
        · have := h2.1 b hb; omega
      · rcases List.mem_cons.1 hb with rfl | hb
        · exact hlt a ha
        · exact h3 a ha b hb

theorem f74_eq {l : List Int} (n : Int) (hl : l.length ≤ 1000000) : f74 l n = some (putI n l) := by
  unfold f74
  have hsplit := congrArg List.length (take_drop_while (p := fun x => decide (x < n)) l)
  rw [List.length_append] at hsplit
  have hdrop := drop_tw (p := fun x => decide (x < n)) l
  generalize ht : l.takeWhile (fun x => decide (x < n)) = t at hsplit hdrop
  have hrun := run_count (L := f74_L1 l n) (e := ((t.length : Int), t)) (fun k => ((k : Int), t.take k)) t.length (by
      rw [List.take_length]
      by_cases hlt : t.length < l.length
      · have hx := List.getElem?_eq_getElem hlt
        refine (if_pos (by simpa using hlt)).trans ?_
        rw [at_nat hx, Option.bind_some]
        refine if_neg ?_
        have hd : l.dropWhile (fun x => decide (x < n)) = l[t.length] :: l.drop (t.length + 1) := by rw [← hdrop, List.drop_eq_getElem_cons hlt]
        have this := List.head?_dropWhile_not (fun x => decide (x < n)) l
        rw [hd] at this
        have h0 : decide (l[t.length] < n) = false := this
        rw [h0]; simp
      · exact if_neg (by simp only [decide_eq_true_eq]; omega)) 0 (Nat.zero_le _) (fun k _ hk => by
      obtain ⟨x, h1, h2, h3⟩ := tw_get (p := fun x => decide (x < n)) (l := l) (k := k) (by rw [ht]; exact hk)
      rw [ht] at h3
      have hkl := getElem?_lt h1
      have htk : (t.take k).length ≤ k := by rw [List.length_take]; omega
      refine (if_pos (by simpa using hkl)).trans ?_
      rw [at_nat h1, Option.bind_some, if_pos h2, Option.bind_some, app_some (by simp only [List.length_cons, List.length_nil]; omega) (by simp only [List.length_cons, List.length_nil]; omega), Option.bind_some, w64_succ (by omega),
        List.take_add_one, h3]
      rfl)
  have hrun' : Lp.run (f74_L1 l n) (0, []) = some ((t.length : Int), t) := hrun
  rw [hrun', Option.bind_some]
  dsimp only
  unfold putI
  rw [ht]
  by_cases hlt : t.length < l.length
  · have hx := List.getElem?_eq_getElem hlt
    have hd : l.dropWhile (fun x => decide (x < n)) = l[t.length] :: l.drop (t.length + 1) := by rw [← hdrop, List.drop_eq_getElem_cons hlt]
    rw [if_neg (by simp only [decide_eq_true_eq]; omega), at_nat hx, Option.bind_some, hd]
    have hs : slc? l (t.length : Int) ((l.length : Nat) : Int) = some (l[t.length] :: l.drop (t.length + 1)) := by
      rw [slc_some ⟨by omega, by omega, by omega⟩]
      simp only [Int.toNat_natCast, List.take_length]
      rw [List.drop_eq_getElem_cons hlt]
    have hlen : (l[t.length] :: l.drop (t.length + 1)).length ≤ l.length := by simp only [List.length_cons, List.length_drop]; omega
    dsimp only
    by_cases e : l[t.length] = n
    · rw [if_neg (by simp [e]), hs, Option.bind_some, app_some (by omega) (by omega), if_pos e]; rfl
    · rw [if_pos (by simpa using e), app_some (by simp only [List.length_cons, List.length_nil]; omega) (by simp only [List.length_cons, List.length_nil]; omega), Option.bind_some, hs, Option.bind_some, app_some (by simp only [List.length_append, List.length_cons, List.length_nil] at hlen ⊢; omega) (by simp only [List.length_append, List.length_cons, List.length_nil] at hlen ⊢; omega), if_neg e]
      simp
  · have hd : l.dropWhile (fun x => decide (x < n)) = [] := by rw [← hdrop]; exact List.drop_of_length_le (by omega)
    have hte : (t.length : Int) = ((l.length : Nat) : Int) := by omega
    rw [if_pos (by simpa using hte), app_some (by simp only [List.length_cons, List.length_nil]; omega) (by simp only [List.length_cons, List.length_nil]; omega), Option.bind_some, slc_some ⟨by omega, by omega, by omega⟩, Option.bind_some]
    simp only [Int.toNat_natCast, List.take_length]
    rw [List.drop_of_length_le (by omega), app_some (by simp only [List.length_append, List.length_cons, List.length_nil]; omega) (by simp only [List.length_append, List.length_cons, List.length_nil]; omega), hd]
    simp

def putAll (qs out : List Int) : List Int := qs.foldl (fun o a => putI a o) out

theorem putAll_len : ∀ (qs out : List Int), (putAll qs out).length ≤ out.length + qs.length
  | [], out => Nat.le_refl _
  | a :: qs, out => by
    have := putAll_len qs (putI a out)
    have := putI_len a out
    show (putAll qs (putI a out)).length ≤ _
    rw [List.length_cons]; omega
theorem putAll_asc : ∀ (qs out : List Int), out.Pairwise (fun a b => a < b) → (putAll qs out).Pairwise fun a b => a < b
  | [], _, h => h
  | a :: qs, out, h => putAll_asc qs (putI a out) (putI_asc h)
theorem putAll_mem : ∀ (qs out : List Int) (x : Int), x ∈ putAll qs out ↔ x ∈ qs ∨ x ∈ out
  | [], out, x => by simp [putAll]
  | a :: qs, out, x => by
    show x ∈ putAll qs (putI a out) ↔ _
    rw [putAll_mem qs, putI_mem, List.mem_cons]
    constructor
    · rintro (h | h | h)
      · exact .inl (.inr h)
      · exact .inl (.inl h)
      · exact .inr h
    · rintro ((h | h) | h)
      · exact .inr (.inl h)
      · exact .inl h
      · exact .inr (.inr h)
theorem putAll_append (qs bs out : List Int) : putAll (qs ++ bs) out = putAll bs (putAll qs out) := List.foldl_append ..

theorem f49_eq {l : List ApiFixture} {ps : List ApiProfile} (c : Int) (hw : Few l ps) (hok : Ok l ps) : f49 l ps c = some (attrsS ps l c) := by
  have hl := hok.nl
  have hnp := hok.np
  have hat : ∀ x ∈ l, ∃ p, f34 ps x.fProfile = some (fstI (fun p => decide (p.fName = x.fProfile)) ps) ∧ at? ps (fstI (fun p => decide (p.fName = x.fProfile)) ps) = some p ∧ p.fFeatures = featS ps x := fun x hx => by
    obtain ⟨p, hp⟩ := alone_prof (hok.one x hx)
    refine ⟨p, f34_eq (by omega) _, ?_, by unfold featS; rw [hp]⟩
    rcases fstI_find (fun p : ApiProfile => decide (p.fName = x.fProfile)) ps with ⟨h1, _⟩ | ⟨i, q, h1, _, _, h4⟩
    · unfold profS at hp; rw [h1] at hp; cases hp
    · unfold profS at hp; rw [h1] at hp; injection hp with hp; subst hp; exact h4
  unfold f49
  have hrun := run_walk (L := f49_L1 l c ps) l (fun k (o : List Int) => (o, (k : Int))) (fun _ o x => .inl (if x.fChannel = c then putAll ((featS ps x).map (·.fAttr)) o else o)) (fun o => o) (fun k o => o.length ≤ 16 * k) (fun k o x hx hI => by
    have hkl := getElem?_lt hx
    have h16 := feat_len hw hok x
    refine ⟨?_, fun a' ha' => by
      injection ha' with ha'; subst ha'
      split
      · have := putAll_len ((featS ps x).map (·.fAttr)) o
        rw [List.length_map] at this
        omega
      · omega⟩
    refine (if_pos (by simpa using hkl)).trans ?_
    rw [at_nat hx]
    simp only [Option.bind_some, w64_succ (show k + 1 ≤ 9223372036854775807 by omega)]
    by_cases hc : x.fChannel = c
    · obtain ⟨p, hp1, hp2, hp3⟩ := hat x (getElem?_mem hx)
      rw [if_neg (by simpa using hc), hp1, Option.bind_some, hp2, Option.bind_some, if_pos hc]
      have hin := run_walk (L := f49_L2 p (k : Int) c ps l) (featS ps x) (fun j (o : List Int) => (o, (j : Int))) (fun _ o y => .inl (putI y.fAttr o)) (fun o => o) (fun j o' => o'.length ≤ o.length + j) (fun j o' y hy hJ => by
        have hjl := getElem?_lt hy
        refine ⟨?_, fun a' ha' => by
          injection ha' with ha'; subst ha'
          have := putI_len y.fAttr o'; omega⟩
        refine (if_pos (by rw [hp3]; simpa using hjl)).trans ?_
        rw [hp3, at_nat hy]
        simp only [Option.bind_some]
        rw [f74_eq _ (by omega), Option.bind_some, w64_succ (by omega)]
        rfl) (fun o' _ => if_neg (by rw [hp3]; simp)) o (by omega)
      have hin' : Lp.run (f49_L2 p (k : Int) c ps l) (o, 0) = _ := hin
      rw [hin', Option.bind_some]
      have hw3 : ∀ (ys : List ApiFeature) (j : Nat) (o : List Int), walkL (E := List Int) (fun _ o (y : ApiFeature) => .inl (putI y.fAttr o)) (fun o => o) j o ys = putAll (ys.map (·.fAttr)) o := fun ys => by
        induction ys with
        | nil => intro j o; rfl
        | cons y ys ih => intro j o; exact ih (j + 1) (putI y.fAttr o)
      rw [hw3]
      rfl
    · rw [if_pos (by simpa using hc), if_neg hc]; rfl) (fun o _ => if_neg (by simp)) [] (by simp)
  have hrun' : Lp.run (f49_L1 l c ps) ([], 0) = _ := hrun
  rw [hrun', Option.bind_some]
  have hw4 : ∀ (xs : List ApiFixture) (k : Nat) (o : List Int), walkL (E := List Int) (fun _ o (x : ApiFixture) => .inl (if x.fChannel = c then putAll ((featS ps x).map (·.fAttr)) o else o)) (fun o => o) k o xs = putAll (attrsOf ps (ofCh xs c)) o := fun xs => by
    induction xs with
    | nil => intro k o; rfl
    | cons x xs ih =>
      intro k o
      show walkL _ _ (k + 1) (if x.fChannel = c then putAll ((featS ps x).map (·.fAttr)) o else o) xs = _
      rw [ih]
      unfold ofCh attrsOf
      by_cases hc : x.fChannel = c
      · rw [if_pos hc, List.filter_cons_of_pos (by simpa using hc), List.flatMap_cons, putAll_append]
      · rw [if_neg hc, List.filter_cons_of_neg (by simpa using hc)]
  rw [hw4]
  congr 1
  refine strict_ext (key := fun x => x) (putAll_asc _ _ List.Pairwise.nil) (compact_strict (sortI_asc _)) fun z => ?_
  unfold attrsS
  rw [putAll_mem, compact_mem, sortI_mem]
  simp

theorem f15_eq {l : List ApiFixture} {ps : List ApiProfile} (c : Int) (hf : Fit l) (hw : Few l ps) : f15 l ps c = some (if checkS l ps ≠ 0 then ([], checkS l ps) else (attrsS ps l c, 0)) := by
  unfold f15
  rw [f17_eq ps hf, Option.bind_some]
  by_cases h : checkS l ps ≠ 0
  · rw [if_pos (by simpa using h), if_pos h]
  · rw [if_neg (by simpa using h), if_neg h, f49_eq c hw (check_ok.1 (by simpa using h)), Option.bind_some]
theorem attrsS_len {l : List ApiFixture} {ps : List ApiProfile} (c : Int) (hw : Few l ps) (hok : Ok l ps) : (attrsS ps l c).length ≤ 1000000 := by
  unfold attrsS
  have h1 := compact_le (sortI (attrsOf ps (ofCh l c)))
  rw [sortI_length] at h1
  have h2 := attrs_len (ps := ps) (xs := ofCh l c) fun x _ => feat_len hw hok x
  have h3 : (ofCh l c).length ≤ l.length := List.length_filter_le ..
  have h4 := hok.nl
  omega

theorem partsS_len {l : List ApiFixture} {ps : List ApiProfile} (c : Int) (hok : Ok l ps) : (partsS l c).length ≤ 1000000 := by
  rw [(parts_perm l c).length_eq]
  have h3 : (ofCh l c).length ≤ l.length := List.length_filter_le ..
  have h4 := hok.nl
  omega

theorem f3_eq (l : List ApiFixture) (ps : List ApiProfile) (c : Int) (hf : Fit l) : f3 l ps c = some true := by
  obtain ⟨b, hb, hF⟩ := f10_ex l ps
  unfold f3
  rw [hb, Option.bind_some]
  cases b with
  | false => rw [if_pos (by simp), f11_eq]; rfl
  | true =>
    have hw := hF rfl
    rw [if_neg (by simp), f12_eq c hf hw, f13_eq c hf, f14_eq c hf hw, f15_eq c hf hw, f11_eq, f16_eq ps hf, f17_eq ps hf]
    simp only [Option.bind_some, decide_true, if_true]
    by_cases h : checkS l ps ≠ 0
    · simp only [if_pos h]
      rw [f18_self (by simp), f19_self (by simp)]
      rfl
    · have hok := check_ok.1 (by simpa using h : checkS l ps = 0)
      simp only [if_neg h]
      rw [f18_self (partsS_len c hok), f19_self (attrsS_len c hw hok)]
      rfl
end Go.Proofs.Ythikbfhdebaceaa
