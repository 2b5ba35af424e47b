import Derived.Test.YthikbfhdebaceaaX2
namespace Go.Proofs.Ythikbfhdebaceaa
open Go Go.Ab
set_option linter.unusedSimpArgs false
set_option linter.unusedVariables false

theorem must_some {p : Prop} (h : p) : must? p = some () := if_pos h
theorem arr_some {τ : Type} {n : Nat} {xs : List τ} {i : Int} {x : τ} (hl : xs.length = n) (h0 : 0 ≤ i) (h : xs[i.toNat]? = some x) : arr? n xs i = some x := by
  unfold arr?; rw [if_pos ⟨hl, h0⟩]; exact h
theorem room_some {n : Nat} (h : n ≤ 140737488355328) : room? n = some () := if_pos (by unfold room; omega)

/-! ## Names -/

def badN (k : Nat) (x : Int) : Bool := !(decide (97 ≤ x ∧ x ≤ 122)) && (decide (k = 0) || (decide (x ≠ 95) && (decide (x < 48) || decide (57 < x))))
def nmW (s : List UInt8) : Unit ⊕ Unit := walkL (fun k _ x => if badN k (x.toNat : Int) = true then .inr (.inr ()) else .inl ()) (fun _ => .inl ()) 0 () s
def nameS (s : List UInt8) : Bool := match nmW s with
  | .inl _ => decide (s ≠ [] ∧ (s.length : Int) ≤ 24)
  | .inr _ => false

theorem b2i_len (s : List UInt8) : (b2i s).length = s.length := List.length_map ..
theorem b2i_get (s : List UInt8) (k : Nat) {x : UInt8} (h : s[k]? = some x) : at? (b2i s) (k : Int) = some (x.toNat : Int) := at_nat (by unfold b2i; simp [h])

theorem badN_branch {k : Nat} {x : Int} {α : Type} {A B : α} : (if (decide (97 ≤ x)) = true then (if (!(decide (x ≤ 122))) = true then (if (decide ((k : Int) = 0)) = true then A else (if (decide (x ≠ 95)) = true then (if (decide (x < 48)) = true then A else (if (decide (57 < x)) = true then A else B)) else B)) else B)
    else (if (decide ((k : Int) = 0)) = true then A else (if (decide (x ≠ 95)) = true then (if (decide (x < 48)) = true then A else (if (decide (57 < x)) = true then A else B)) else B))) = if badN k x = true then A else B := by
  unfold badN
  by_cases h1 : 97 ≤ x <;> by_cases h2 : x ≤ 122 <;> by_cases h3 : k = 0 <;> by_cases h4 : x = 95 <;> by_cases h5 : x < 48 <;> by_cases h6 : 57 < x <;> simp [h1, h2, h3, h4, h5, h6] <;> omega

theorem f76_eq {s : List UInt8} (h : s.length ≤ 140737488355328) : f76 s = some (nameS s) := by
  unfold f76
  have hrun := run_walk (L := f76_L1 s) s (fun k (_ : Unit) => (k : Int)) (fun k _ x => if badN k (x.toNat : Int) = true then .inr (.inr ()) else .inl ()) (fun _ => .inl ()) (fun _ _ => True) (fun k a x hx _ => by
    refine ⟨?_, fun _ _ => trivial⟩
    have hlt := getElem?_lt hx
    show (if _ then _ else _) = _
    rw [if_pos (by rw [b2i_len]; simpa using hlt), b2i_get s k hx]
    simp only [Option.bind_some]
    rw [badN_branch, w64_succ (by omega)]
    split <;> rfl) (fun a _ => by
    show (if _ then _ else _) = _
    rw [if_neg (by rw [b2i_len]; simp)]) () trivial
  rw [room_some h, Option.bind_some, show (0 : Int) = ((0 : Nat) : Int) from rfl, hrun]
  unfold nameS nmW
  cases walkL _ _ _ _ _ with
  | inl _ =>
    simp only [Option.bind_some]
    by_cases he : s = []
    · subst he; rfl
    · rw [if_pos (by simpa using he)]; simp [he]
  | inr _ => rfl

theorem f80_eq {s : List UInt8} (h : s.length ≤ 140737488355328) : f80 s = some (nameS s) := by
  unfold f80
  have hrun := run_walk (L := f80_L1 s) s (fun k (_ : Unit) => (k : Int)) (fun k _ x => if badN k (x.toNat : Int) = true then .inr (.inr ()) else .inl ()) (fun _ => .inl ()) (fun _ _ => True) (fun k a x hx _ => by
    refine ⟨?_, fun _ _ => trivial⟩
    have hlt := getElem?_lt hx
    show (if _ then _ else _) = _
    rw [if_pos (by simpa using hlt), at_nat hx]
    simp only [Option.bind_some]
    rw [badN_branch, w64_succ (by omega)]
    split <;> rfl) (fun a _ => by
    show (if _ then _ else _) = _
    rw [if_neg (by simp)]) () trivial
  rw [show (0 : Int) = ((0 : Nat) : Int) from rfl, hrun]
  unfold nameS nmW
  cases walkL _ _ _ _ _ with
  | inl _ =>
    simp only [Option.bind_some]
    by_cases he : s = []
    · subst he; rfl
    · have : 0 < s.length := List.length_pos_iff.2 he
      rw [if_pos (by simp; omega)]; simp [he]
  | inr _ => rfl

/-! ## Profiles -/

def profS (ps : List ApiProfile) (n : List UInt8) : Option ApiProfile := ps.find? fun p => decide (p.fName = n)
def sizeS (ps : List ApiProfile) (x : ApiFixture) : Int := match profS ps x.fProfile with
  | some p => p.fFootprint
  | none => 0

def addM (m : List (List UInt8 × ApiProfile)) (p : ApiProfile) : List (List UInt8 × ApiProfile) := if (mget m p.fName).isSome = true then m else mset m p.fName p
def mapS (ps : List ApiProfile) : List (List UInt8 × ApiProfile) := ps.foldl addM []

theorem mget_mset {κ ν : Type} [DecidableEq κ] (k k' : κ) (v : ν) : ∀ m : List (κ × ν), mget (mset m k v) k' = if k' = k then some v else mget m k'
  | [] => by unfold mset mget; rfl
  | p :: m => by
    unfold mset
    by_cases h : k = p.1
    · rw [if_pos h]
      unfold mget
      subst h
      by_cases h2 : k' = p.1
      · rw [if_pos h2, if_pos h2]
      · rw [if_neg h2, if_neg h2, if_neg h2]
    · rw [if_neg h]
      unfold mget
      by_cases h2 : k' = p.1
      · rw [if_pos h2, if_pos h2, if_neg (by rw [h2]; exact fun e => h e.symm)]
      · rw [if_neg h2, if_neg h2, mget_mset k k' v m]

theorem mget_addM (m : List (List UInt8 × ApiProfile)) (p : ApiProfile) (n : List UInt8) : mget (addM m p) n = match mget m n with
    | some q => some q
    | none => if p.fName = n then some p else none := by
  unfold addM
  by_cases h : (mget m p.fName).isSome = true
  · rw [if_pos h]
    cases hm : mget m n with
    | some q => rfl
    | none => dsimp only; rw [if_neg (fun e => by rw [e, hm] at h; cases h)]
  · rw [if_neg h, mget_mset]
    by_cases e : n = p.fName
    · rw [if_pos e]
      have : mget m n = none := by rw [e]; simpa using h
      rw [this]; dsimp only; rw [if_pos e.symm]
    · rw [if_neg e]
      cases mget m n with
      | some q => rfl
      | none => dsimp only; rw [if_neg (fun h => e h.symm)]

theorem mget_fold (n : List UInt8) : ∀ (ps : List ApiProfile) (m : List (List UInt8 × ApiProfile)), mget (ps.foldl addM m) n = match mget m n with
    | some q => some q
    | none => profS ps n
  | [], m => by show mget m n = _; cases mget m n <;> rfl
  | p :: ps, m => by
    show mget (ps.foldl addM (addM m p)) n = _
    rw [mget_fold n ps, mget_addM]
    cases mget m n with
    | some q => rfl
    | none =>
      dsimp only
      unfold profS
      by_cases e : p.fName = n
      · rw [if_pos e, List.find?_cons_of_pos (by simpa using e)]
      · rw [if_neg e, List.find?_cons_of_neg (by simpa using e)]

theorem mget_map (ps : List ApiProfile) (n : List UInt8) : mget (mapS ps) n = profS ps n := mget_fold n ps []

theorem f50_eq (l : List ApiFixture) {ps : List ApiProfile} (h : ps.length ≤ 1000000) : f50 l ps = some ⟨l, mapS ps⟩ := by
  unfold f50
  have hrun := run_walk (L := f50_L1 ps l) ps (fun k m => ((k : Int), m)) (fun _ m p => .inl (addM m p)) (fun m => m) (fun _ _ => True) (fun k m x hx _ => by
    refine ⟨?_, fun _ _ => trivial⟩
    have hlt := getElem?_lt hx
    show (if _ then _ else _) = _
    rw [if_pos (by simpa using hlt), at_nat hx]
    simp only [Option.bind_some, look?, w64_succ (show k + 1 ≤ 9223372036854775807 by omega)]
    unfold addM roundL
    cases (mget m x.fName).isSome <;> rfl) (fun a _ => by
    show (if _ then _ else _) = _
    rw [if_neg (by simp)]) [] trivial
  rw [show ((0 : Int), ([] : List (List UInt8 × ApiProfile))) = (((0 : Nat) : Int), []) from rfl, hrun, Option.bind_some]
  congr 2
  have hw : ∀ (ps : List ApiProfile) (k : Nat) (m : List (List UInt8 × ApiProfile)), walkL (fun _ m p => .inl (addM m p)) (fun m => m) k m ps = ps.foldl addM m := fun ps => by
    induction ps with
    | nil => intro k m; rfl
    | cons p ps ih => intro k m; exact ih (k + 1) (addM m p)
  exact hw ps 0 []

theorem f82_eq (l : List ApiFixture) (ps : List ApiProfile) (x : ApiFixture) : f82 ⟨l, mapS ps⟩ x = some (sizeS ps x) := by
  unfold f82 look? sizeS
  dsimp only
  rw [mget_map]
  cases profS ps x.fProfile <;> rfl

theorem f34_eq {ps : List ApiProfile} (h : ps.length ≤ 1000000) (n : List UInt8) : f34 ps n = some (fstI (fun p => decide (p.fName = n)) ps) := by
  unfold f34
  refine run_findi (fun p : ApiProfile => decide (p.fName = n)) (by omega) (fun k x r => ?_) ?_
  · show (if _ then _ else _) = _
    rw [if_pos r.lt, r.at']
    simp only [Option.bind_some, r.nxt]
    by_cases e : x.fName = n
    · rw [if_pos (by simpa using e), if_pos (by simpa using e)]
    · rw [if_neg (by simpa using e), if_neg (by simpa using e)]
  · show (if _ then _ else _) = _
    rw [if_neg (by simp)]

theorem f81_eq {ps : List ApiProfile} (h : ps.length ≤ 1000000) {x : ApiFixture} {p : ApiProfile} (hp : profS ps x.fProfile = some p) : f81 ps x = some (sizeS ps x) := by
  unfold f81 sizeS
  rw [f34_eq h, Option.bind_some, hp]
  rcases fstI_find (fun p : ApiProfile => decide (p.fName = x.fProfile)) ps with ⟨h1, _⟩ | ⟨i, q, h1, _, _, h4⟩
  · unfold profS at hp; rw [h1] at hp; cases hp
  · unfold profS at hp; rw [h1] at hp; injection hp with hp; subst hp
    rw [h4]; rfl

/-! ## A fixture alone -/

def okR (x : ApiFixture) : Bool := decide ((1 ≤ x.fChannel ∧ x.fChannel ≤ 999) ∧ (1 ≤ x.fPart ∧ x.fPart ≤ 64) ∧ (1 ≤ x.fUniverse ∧ x.fUniverse ≤ 8) ∧ (1 ≤ x.fAddress ∧ x.fAddress ≤ 512) ∧ 1 ≤ x.fPhase ∧ x.fPhase ≤ 3)

theorem f75_eq (x : ApiFixture) : f75 x = some (okR x) := by
  unfold f75
  have hrun : Lp.run (f75_L1 x) 0 = some (if ([⟨x.fChannel, 999⟩, ⟨x.fPart, 64⟩, ⟨x.fUniverse, 8⟩, ⟨x.fAddress, 512⟩, ⟨x.fPhase, 3⟩] : List Arr2_149).any (fun y => decide (y.fE0 < 1 ∨ y.fE1 < y.fE0)) = true then .inr () else .inl ()) := by
    refine run_any (xs := [⟨x.fChannel, 999⟩, ⟨x.fPart, 64⟩, ⟨x.fUniverse, 8⟩, ⟨x.fAddress, 512⟩, ⟨x.fPhase, 3⟩]) (fun y : Arr2_149 => decide (y.fE0 < 1 ∨ y.fE1 < y.fE0)) (by simp) (fun k y r => ?_) ?_
    · refine (if_pos r.lt).trans ?_
      rw [r.at']
      simp only [Option.bind_some, r.nxt, decide_eq_true_eq]
      by_cases h1 : y.fE0 < 1
      · simp [h1]
      · by_cases h2 : y.fE1 < y.fE0 <;> simp [h1, h2]
    · rfl
  rw [hrun, Option.bind_some]
  unfold okR
  simp only [List.any_cons, List.any_nil, Bool.or_false]
  by_cases h : ((1 ≤ x.fChannel ∧ x.fChannel ≤ 999) ∧ (1 ≤ x.fPart ∧ x.fPart ≤ 64) ∧ (1 ≤ x.fUniverse ∧ x.fUniverse ≤ 8) ∧ (1 ≤ x.fAddress ∧ x.fAddress ≤ 512) ∧ 1 ≤ x.fPhase ∧ x.fPhase ≤ 3)
  · rw [if_neg (by simp only [Bool.or_eq_true, decide_eq_true_eq]; omega), decide_eq_true h]
  · rw [if_pos (by simp only [Bool.or_eq_true, decide_eq_true_eq]; omega), decide_eq_false h]

theorem f79_eq (x : ApiFixture) : f79 x = some (if okR x = true then 0 else 2) := by
  unfold f79 okR
  simp only [decide_eq_true_eq]
  repeat' split
  all_goals first | rfl | (exfalso; omega) | skip

def aloneS (ps : List ApiProfile) (x : ApiFixture) : Int := if okR x = false then 2 else if x.fCable ≠ [] ∧ nameS x.fCable = false then 8 else match profS ps x.fProfile with
  | none => 6
  | some p => if p.fFootprint < 1 ∨ 513 - x.fAddress < p.fFootprint then 2 else 0

theorem f52_eq {ps : List ApiProfile} (h : ps.length ≤ 1000000) {x : ApiFixture} (hx : x.fCable.length ≤ 140737488355328) : f52 ps x = some (aloneS ps x) := by
  unfold f52 aloneS
  rw [f79_eq, Option.bind_some]
  by_cases h1 : okR x = true
  · have ha : 1 ≤ x.fAddress ∧ x.fAddress ≤ 512 := by unfold okR at h1; simp only [decide_eq_true_eq] at h1; exact h1.2.2.2.1
    have hJ : (f52_J1 ps x).run () = some (match profS ps x.fProfile with
        | none => 6
        | some p => if p.fFootprint < 1 ∨ 513 - x.fAddress < p.fFootprint then 2 else 0) := by
      show (f34 ps x.fProfile).bind _ = _
      rw [f34_eq h, Option.bind_some, w64 (a := 512 - x.fAddress) (by omega) (by omega), w64 (by omega) (by omega), show 512 - x.fAddress + 1 = 513 - x.fAddress by omega]
      rcases fstI_find (fun p : ApiProfile => decide (p.fName = x.fProfile)) ps with ⟨h2, h3⟩ | ⟨i, q, h2, h3, h4, h5⟩
      · rw [h3, show profS ps x.fProfile = none from h2]; rfl
      · rw [show profS ps x.fProfile = some q from h2, if_neg (by rw [h3]; simp), h5]
        simp only [Option.bind_some, decide_eq_true_eq]
        by_cases h6 : q.fFootprint < 1
        · rw [if_pos h6, if_pos (.inl h6)]
        · by_cases h7 : 513 - x.fAddress < q.fFootprint
          · rw [if_neg h6, if_pos h7, if_pos (.inr h7)]
          · rw [if_neg h6, if_neg h7, if_neg (by rintro (e | e); exact h6 e; exact h7 e)]
    rw [if_pos h1, if_neg (by simp), if_neg (show ¬ okR x = false by simp [h1]), hJ]
    by_cases h2 : x.fCable = []
    · rw [if_neg (by simp [h2]), if_neg (by simp [h2])]
    · rw [if_pos (by simpa using h2), f80_eq hx, Option.bind_some]
      cases hn : nameS x.fCable with
      | true => rw [if_neg (by simp), if_neg (by simp)]
      | false => rw [if_pos (by simp), if_pos ⟨h2, rfl⟩]
  · rw [if_neg h1, if_pos (by simp), if_pos (by simpa using h1)]

theorem alone_ok {ps : List ApiProfile} {x : ApiFixture} (h : aloneS ps x = 0) : okR x = true ∧ ∃ p, profS ps x.fProfile = some p ∧ 1 ≤ p.fFootprint ∧ p.fFootprint ≤ 513 - x.fAddress ∧ sizeS ps x = p.fFootprint := by
  unfold aloneS at h
  split at h
  · cases h
  · rename_i h1
    split at h
    · cases h
    · unfold sizeS
      split at h
      · cases h
      · rename_i p hp
        split at h
        · cases h
        · rename_i h2
          refine ⟨by simpa using h1, p, hp, by omega, by omega, by rw [hp]⟩
end Go.Proofs.Ythikbfhdebaceaa
