/-
  Plain laws of records: TopRecordsSpoilt.
-/
import Derived.Test.YtkbjimfganeooaaP2
set_option linter.unusedSimpArgs false
set_option linter.unusedVariables false
namespace Go.Proofs.Ytkbjimfganeooaa
open Go Go.Ab

theorem at_mid {α : Type} {pre post : List α} {c : α} {i : Int} (h : i = pre.length) : at? (pre ++ c :: post) i = some c := by
  subst h
  exact at_nat (by rw [List.getElem?_append_right (by omega)]; simp)

/-- The text with another byte is read up to the record that it lies in. -/
theorem J1_ok {l : List RecordEntry} (hR : ∀ x ∈ l, Rt x) (hl : l.length ≤ 20) {k : Nat} (hk : k < l.length) {u v : List UInt8} {c : UInt8} (hd : l[k].fData = u ++ c :: v) {at_ : Arr2_23} {by_ : Int} {x : RecordEntry} (hx : x = l[k])
    (hk0 : (IntKind.i64.wrap at_.fE0).tmod ((l.length : Nat) : Int) = (k : Int)) (hj : (IntKind.i64.wrap at_.fE1).tmod ((x.fData.length : Nat) : Int) = (u.length : Int))
    (hne : IntKind.u8.wrap ((c.toNat : Int) + by_) ≠ (c.toNat : Int)) (h255 : ¬ (IntKind.u8.wrap (IntKind.u8.wrap ((c.toNat : Int) + by_) + (c.toNat : Int)) = 255 ∧ (IntKind.u8.wrap ((c.toNat : Int) + by_) = 0 ∨ (c.toNat : Int) = 0))) :
    (f3_J1 (Jn l, 0) (Jn (l.take k), 0) at_ x c by_ l).run () = some true := by
  subst hx
  have hm : l[k] ∈ l := List.getElem_mem hk
  obtain ⟨⟨r1, r2⟩, r3⟩ := hR _ hm
  have hRt : ∀ x ∈ l.take k, Rt x := fun x hx => hR x (List.mem_of_mem_take hx)
  have hJt := Jn_len hRt
  have htl : (l.take k).length = k := by rw [List.length_take]; omega
  have hJl := Jn_len hR
  have hdl : l[k].fData.length = u.length + 1 + v.length := by rw [hd]; simp only [List.length_append, List.length_cons]; omega
  have e1 : Jn l = Jn (l.take k) ++ (Pk l[k] ++ Jn (l.drop (k + 1))) := by
    have : Jn l = Jn (l.take k ++ l.drop k) := by rw [List.take_append_drop]
    rw [this, Jn_app, List.drop_eq_getElem_cons hk, Jn]
  obtain ⟨hdr, hhd⟩ : ∃ hdr, hdr = hdS l[k].fKind l[k].fData.length := ⟨_, rfl⟩
  have hhl : hdr.length = 3 := by rw [hhd]; rfl
  obtain ⟨ck, hck⟩ : ∃ ck, ck = ckS (sumN (hdr ++ (u ++ c :: v))) := ⟨_, rfl⟩
  have hckl : ck.length = 2 := by rw [hck]; rfl
  have e2 : Pk l[k] = hdr ++ (u ++ c :: v ++ ck) := by unfold Pk; rw [hck, ← hhd, hd]
  obtain ⟨post, hpost⟩ : ∃ post, post = Jn (l.drop (k + 1)) := ⟨_, rfl⟩
  obtain ⟨P, hP⟩ : ∃ P, P = Jn (l.take k) := ⟨_, rfl⟩
  have e3 : Jn l = (P ++ hdr ++ u) ++ c :: (v ++ (ck ++ post)) := by rw [e1, e2, hP, hpost]; simp only [List.append_assoc, List.cons_append]
  have hlen : (Jn l).length = P.length + 3 + u.length + 1 + v.length + 2 + post.length := by
    rw [e3]; simp only [List.length_append, List.length_cons, hhl, hckl]; omega
  rw [← hP]
  obtain ⟨cI, hcI⟩ : ∃ cI, cI = IntKind.u8.wrap ((c.toNat : Int) + by_) := ⟨_, rfl⟩
  have hcr : 0 ≤ cI ∧ cI < 256 := by rw [hcI, IntKind.wrap_u8]; omega
  rw [← hcI] at hne h255
  have hc8 : ((b8 cI).toNat : Int) = cI := b8_nat hcr
  have hcl := c.toNat_lt
  have hPl : P.length ≤ 6100 := by rw [hP]; omega
  have w1 : IntKind.i64.wrap ((P.length : Int) + 3) = (P.length : Int) + 3 := w64 (by omega) (by omega)
  have w2 : IntKind.i64.wrap ((P.length : Int) + 3 + (u.length : Int)) = ((P ++ hdr ++ u).length : Int) := by
    rw [w64 (by omega) (by omega)]; simp only [List.length_append, hhl]; omega
  have hpu : ((P ++ hdr ++ u).length : Int) = (P.length : Int) + 3 + u.length := by simp only [List.length_append, hhl]; omega
  have w3 : IntKind.i64.wrap (((P ++ hdr ++ u).length : Int) + 1) = ((P ++ hdr ++ u).length : Int) + 1 := w64 (by omega) (by omega)
  have s1 : slc? (Jn l) 0 ((P ++ hdr ++ u).length : Int) = some (P ++ hdr ++ u) := by
    rw [e3]
    exact slc_mid (pre := []) rfl (by simp)
  have s2 : slc? (Jn l) (((P ++ hdr ++ u).length : Int) + 1) ((Jn l).length : Int) = some (v ++ (ck ++ post)) := by
    have e4 : Jn l = (P ++ hdr ++ u ++ [c]) ++ ((v ++ (ck ++ post)) ++ []) := by rw [e3]; simp
    rw [e4]
    exact slc_mid (by simp; omega) (by simp; omega)
  have hcat1 : cat? (P ++ hdr ++ u) (List.map b8 [cI]) = some (P ++ hdr ++ u ++ [b8 cI]) := by
    rw [cat_some (by simp only [List.length_append, List.length_map, List.length_cons, List.length_nil, hhl]; omega)]; rfl
  have hcat2 : cat? (P ++ hdr ++ u ++ [b8 cI]) (v ++ (ck ++ post)) = some (P ++ (hdr ++ ((u ++ b8 cI :: v) ++ (ck ++ post)))) := by
    rw [cat_some (by simp only [List.length_append, List.length_cons, List.length_nil, hhl, hckl]; omega)]; simp
  have hnc : ck ≠ ckS (sumN (hdr ++ (u ++ b8 cI :: v))) := by
    rw [hck]
    apply ck_other
    rw [← List.append_assoc, ← List.append_assoc]
    apply sum_other
    · intro h
      apply hne
      rw [h, hc8]
    · intro h
      apply h255
      rw [IntKind.wrap_u8]
      omega
  have hfl := (next_flow (pre := P) (rest := (u ++ b8 cI :: v) ++ (ck ++ post)) (k := l[k].fKind) (n := (l[k].fData.length : Int)) ⟨r1, r2⟩ ⟨by omega, by omega⟩ (by
    rw [← hhd]; simp only [List.length_append, List.length_cons, hhl, hckl]; omega) (by simp only [List.length_append, List.length_cons, hckl]; omega)).2 (u ++ b8 cI :: v) ck post rfl (by rw [hdl]; simp only [List.length_append, List.length_cons]; omega) hckl
  rw [← hhd, if_neg hnc] at hfl
  have hall := all_eq (l := l.take k) (t := hdr ++ ((u ++ b8 cI :: v) ++ (ck ++ post))) (e := 17) hRt (by omega) (by
    simp only [List.length_append, List.length_cons, hhl, hckl]; omega) (.inr ⟨by
      intro h
      have := congrArg List.length h
      simp only [List.length_append, List.length_nil, hhl] at this
      omega, by decide, _, _, by rw [← hP]; exact hfl⟩)
  rw [← hP] at hall
  have s3 : slc? l 0 (k : Int) = some (l.take k) := by
    rw [slc_some ⟨by omega, by omega, by omega⟩]
    simp
  simp only [f3_J1]
  rw [hj, hk0, w1, w2, w3, s1, ← hcI]
  simp only [Option.bind_some]
  rw [hcat1]
  simp only [Option.bind_some]
  rw [s2]
  simp only [Option.bind_some]
  rw [hcat2]
  simp only [Option.bind_some]
  rw [hall]
  simp only [Option.bind_some]
  rw [if_pos (by decide), if_pos (by simp), s3]
  simp only [Option.bind_some]
  rw [same_ok (by omega)]
  simp only [Option.bind_some, if_true, f7_eq]

theorem f3_eq (l : List RecordEntry) (at_ : Arr2_23) (by_ : Int) (h0 : 0 ≤ at_.fE0 ∧ at_.fE0 ≤ 255) (h1 : 0 ≤ at_.fE1 ∧ at_.fE1 ≤ 255) : f3 l at_ by_ = some true := by
  obtain ⟨b, hb, hbt⟩ := play_ok l
  unfold f3
  rw [hb]
  simp only [Option.bind_some, f7_eq]
  cases b with
  | false => rfl
  | true =>
  obtain ⟨hl, hR⟩ := hbt rfl
  rw [if_neg (by simp)]
  by_cases hn : l.length = 0
  · rw [if_pos (by simp [hn])]
  rw [if_neg (by simp; exact fun h => hn (by rw [h]; rfl)), nz_some (by omega)]
  simp only [Option.bind_some]
  have hw0 : IntKind.i64.wrap at_.fE0 = at_.fE0 := w64 (by omega) (by omega)
  have hw1 : IntKind.i64.wrap at_.fE1 = at_.fE1 := w64 (by omega) (by omega)
  obtain ⟨k, hk0, hk⟩ : ∃ k : Nat, (IntKind.i64.wrap at_.fE0).tmod ((l.length : Nat) : Int) = (k : Int) ∧ k < l.length := by
    rw [hw0, Int.tmod_eq_emod_of_nonneg h0.1]
    have a1 := Int.emod_nonneg at_.fE0 (b := (l.length : Int)) (by omega)
    have a2 := Int.emod_lt_of_pos at_.fE0 (b := (l.length : Int)) (by omega)
    exact ⟨(at_.fE0 % (l.length : Int)).toNat, by omega, by omega⟩
  have hx := List.getElem?_eq_getElem hk
  have hm : l[k] ∈ l := List.getElem_mem hk
  rw [hk0, at_nat hx]
  simp only [Option.bind_some]
  by_cases hd0 : l[k].fData.length = 0
  · rw [if_pos (by simp [hd0])]
  rw [if_neg (by simp; exact fun h => hd0 (by rw [h]; rfl))]
  obtain ⟨j, hj0, hj⟩ : ∃ j : Nat, (IntKind.i64.wrap at_.fE1).tmod ((l[k].fData.length : Nat) : Int) = (j : Int) ∧ j < l[k].fData.length := by
    rw [hw1, Int.tmod_eq_emod_of_nonneg h1.1]
    have a1 := Int.emod_nonneg at_.fE1 (b := (l[k].fData.length : Int)) (by omega)
    have a2 := Int.emod_lt_of_pos at_.fE1 (b := (l[k].fData.length : Int)) (by omega)
    exact ⟨(at_.fE1 % (l[k].fData.length : Int)).toNat, by omega, by omega⟩
  have hd : l[k].fData = l[k].fData.take j ++ l[k].fData[j] :: l[k].fData.drop (j + 1) := by
    rw [← List.drop_eq_getElem_cons hj, List.take_append_drop]
  have hul : (l[k].fData.take j).length = j := by rw [List.length_take]; omega
  have hRt : ∀ x ∈ l.take k, Rt x := fun x hx => hR x (List.mem_of_mem_take hx)
  have hJt := Jn_len hRt
  have htl : (l.take k).length = k := by rw [List.length_take]; omega
  have s3 : slc? l 0 (k : Int) = some (l.take k) := by
    rw [slc_some ⟨by omega, by omega, by omega⟩]
    simp
  rw [s3]
  simp only [Option.bind_some]
  rw [join_ok hRt (by omega), join_ok hR (by omega)]
  simp only [Option.bind_some]
  rw [if_neg (by simp), if_neg (by simp), nz_some (by omega)]
  simp only [Option.bind_some]
  rw [hj0]
  have e1 : Jn l = Jn (l.take k) ++ (Pk l[k] ++ Jn (l.drop (k + 1))) := by
    have : Jn l = Jn (l.take k ++ l.drop k) := by rw [List.take_append_drop]
    rw [this, Jn_app, List.drop_eq_getElem_cons hk, Jn]
  have hpl := Pk_len l[k]
  have hr3 := (hR _ hm).2
  have hJ : (Jn l).length = (Jn (l.take k)).length + (l[k].fData.length + 5) + (Jn (l.drop (k + 1))).length := by
    rw [e1]; simp only [List.length_append, hpl]; omega
  have w1 : IntKind.i64.wrap (((Jn (l.take k)).length : Int) + 3) = ((Jn (l.take k)).length : Int) + 3 := w64 (by omega) (by omega)
  have w2 : IntKind.i64.wrap (((Jn (l.take k)).length : Int) + 3 + (j : Int)) = ((Jn (l.take k)).length : Int) + 3 + (j : Int) := w64 (by omega) (by omega)
  rw [w1, w2, if_neg (by simp; omega)]
  have hat : at? (Jn l) (((Jn (l.take k)).length : Int) + 3 + (j : Int)) = some l[k].fData[j] := by
    have e5 : Jn l = (Jn (l.take k) ++ hdS l[k].fKind l[k].fData.length ++ l[k].fData.take j) ++ l[k].fData[j] :: (l[k].fData.drop (j + 1) ++ (ckS (sumN (hdS l[k].fKind l[k].fData.length ++ l[k].fData)) ++ Jn (l.drop (k + 1)))) := by
      rw [e1]
      have : Pk l[k] = hdS l[k].fKind l[k].fData.length ++ ((l[k].fData.take j ++ l[k].fData[j] :: l[k].fData.drop (j + 1)) ++ ckS (sumN (hdS l[k].fKind l[k].fData.length ++ l[k].fData))) := by rw [← hd]; rfl
      rw [this]
      simp only [List.append_assoc, List.cons_append]
    rw [e5]
    refine at_mid ?_
    simp only [List.length_append, hul]
    rw [show (hdS l[k].fKind ↑l[k].fData.length).length = 3 from rfl]
    omega
  rw [hat]
  simp only [Option.bind_some]
  have hJ1 := fun a b => J1_ok hR hl hk hd (at_ := at_) (by_ := by_) rfl hk0 (by rw [hj0, hul]) a b
  generalize l[k].fData[j] = c at *
  by_cases g1 : IntKind.u8.wrap ((c.toNat : Int) + by_) = (c.toNat : Int)
  · rw [if_pos (by simpa using g1)]
  rw [if_neg (by simpa using g1)]
  by_cases g2 : IntKind.u8.wrap (IntKind.u8.wrap ((c.toNat : Int) + by_) + (c.toNat : Int)) = 255
  · rw [if_pos (by simpa using g2)]
    by_cases g3 : IntKind.u8.wrap ((c.toNat : Int) + by_) = 0
    · rw [if_pos (by simpa using g3)]
    rw [if_neg (by simpa using g3)]
    by_cases g4 : (c.toNat : Int) = 0
    · rw [if_pos (by simpa using g4)]
    rw [if_neg (by simpa using g4)]
    exact hJ1 g1 (fun h => h.2.elim g3 g4)
  · rw [if_neg (by simpa using g2)]
    exact hJ1 g1 (fun h => g2 h.1)

theorem wfu8 {n : Int} (h : (Lit.int .u8 n).wf = true) : 0 ≤ n ∧ n ≤ 255 := by
  have h2 : IntKind.u8.min ≤ n ∧ n ≤ IntKind.u8.max := by simpa [Lit.wf] using h
  rwa [show IntKind.u8.min = 0 by decide, show IntKind.u8.max = 255 by decide] at h2
end Go.Proofs.Ytkbjimfganeooaa
