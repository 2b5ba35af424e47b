/-
  Plain laws of the receiver of layer 57: ReceiverForgets.
-/
import Derived.Test.YtgfohogbechkkaaP5
import Derived.Test.YtgfohogbechkkaaY71
set_option linter.unusedSimpArgs false
set_option linter.unusedVariables false
namespace Go.Proofs.Ytgfohogbechkkaa
open Go Go.Ab

def liveS (l : List ReceiverInput) (t : Int) : List ReceiverInput := l.filter fun x => !decide (2500 < t - x.fLast)
def expireS (l : List ReceiverInput) (t : Int) : List ReceiverInput × Int × Int := if momentS l t ≠ 0 then ([], 0, momentS l t) else (liveS l t, (l.length : Int) - ((liveS l t).length : Int), 0)

theorem f26_eq (r : ReceiverReceiver) (t : Int) : f26 r t = some (⟨(expireS r.fInputs t).1⟩, (expireS r.fInputs t).2.1, (expireS r.fInputs t).2.2) := by
  unfold f26 expireS
  rw [f58_eq, Option.bind_some]
  by_cases h : momentS r.fInputs t = 0
  case neg => simp [h]
  have hg := moment_good h
  have h0 := hg.t0
  have h1 := hg.t1
  have hl := hg.len
  simp only [h, ne_eq, not_true_eq_false, decide_false, Bool.false_eq_true, if_false]
  rw [f39_eq (by omega), Option.bind_some, delf_some (p := fun x => decide (2500 < t - x.fLast)) (fun x hx => by
    have := hg.last x hx
    have := (in_ok (hg.ok x hx)).2.2.1
    unfold f72p
    rw [w64 (by omega) (by omega)]) (by omega), Option.bind_some]
  simp only [f26_J1]
  have hfl : (liveS r.fInputs t).length ≤ r.fInputs.length := List.length_filter_le _ _
  rw [w64 (by unfold liveS at hfl; omega) (by unfold liveS at hfl; omega)]
  rfl

theorem live_good {l : List ReceiverInput} {t : Int} (hg : Good t l) : Good t (liveS l t) := by
  have hs : (liveS l t).Sublist l := List.filter_sublist
  exact ⟨Nat.le_trans hs.length_le hg.len, fun x hx => hg.ok x (hs.subset hx), hg.asc.sublist hs, hg.t0, hg.t1, fun x hx => hg.last x (hs.subset hx)⟩

theorem live_win (l : List ReceiverInput) (t u : Int) : winS (liveS l t) t u = winS l t u := by
  unfold winS liveS
  rw [List.filter_filter]
  congr 1
  apply List.filter_congr
  intro x _
  unfold cand
  by_cases h : t - x.fLast ≤ 2500
  · have : ¬ 2500 < t - x.fLast := by omega
    simp [h, this]
  · simp [h]

theorem late_win {l : List ReceiverInput} {t : Int} (hg : Good t l) (u : Int) : winS l (t + 2501) u = [] := by
  unfold winS
  have : l.filter (cand (t + 2501) u) = [] := by
    rw [List.filter_eq_nil_iff]
    intro x hx
    have := hg.last x hx
    unfold cand
    simp
    omega
  rw [this]
  rfl
theorem late_live {l : List ReceiverInput} {t : Int} (hg : Good t l) : liveS l (t + 2501) = [] := by
  unfold liveS
  rw [List.filter_eq_nil_iff]
  intro x hx
  have := hg.last x hx
  simp
  omega

theorem f34_eq (a : List ApiFrame) (h : a.length ≤ 9223372036854775806) : f34 a a = some true := by
  unfold f34
  rw [if_neg (by simp)]
  rw [run_all (L := f34_L1 a a) (xs := a) (e := Sum.inl ()) (fun k x hx => by
    have R := Rnd.mk' hx (by omega)
    simp only [f34_L1]
    rw [if_pos R.lt, R.at', R.nxt, Option.bind_some, Option.bind_some]
    simp) (by simp [f34_L1])]
  rfl

theorem f7_eq (r : ReceiverReceiver) (t : Int) : f7 r t = some true := by
  unfold f7
  rw [f22_eq, Option.bind_some]
  by_cases ho : okS r.fInputs t = true
  case neg => simp [ho, f15_eq]
  rw [if_neg (by simp [ho])]
  unfold okS at ho
  simp only [Bool.and_eq_true, decide_eq_true_eq] at ho
  have hg := moment_good ho.2
  have h0 := hg.t0
  have h1 := hg.t1
  have hlen := hg.len
  rw [w64 (a := t + 2501) (by omega) (by omega)]
  by_cases hl : 10000000 < t + 2501
  · simp [hl, f15_eq]
  rw [if_neg (by simpa using hl)]
  have hg2 : Good (t + 2501) r.fInputs := hg.later (by omega) (by omega)
  have hfl : (liveS r.fInputs t).length ≤ r.fInputs.length := List.length_filter_le _ _
  have hfr := frames_len r.fInputs t 8
  have e1 : expireS r.fInputs t = (liveS r.fInputs t, (r.fInputs.length : Int) - ((liveS r.fInputs t).length : Int), 0) := by unfold expireS; rw [if_neg (by simp [good_moment hg])]
  have e2 : framesO r.fInputs t = (framesS r.fInputs t, 0) := by unfold framesO; rw [if_neg (by simp [good_moment hg])]
  have e3 : framesO (liveS r.fInputs t) t = (framesS r.fInputs t, 0) := by
    unfold framesO
    rw [if_neg (by simp [good_moment (live_good hg)])]
    unfold framesS frameS
    simp only [live_win]
  have e4 : framesO r.fInputs (t + 2501) = ([], 0) := by
    unfold framesO
    rw [if_neg (by simp [good_moment hg2])]
    unfold framesS frameS
    simp only [late_win hg, if_true]
    rfl
  have e5 : expireS r.fInputs (t + 2501) = ([], (r.fInputs.length : Int), 0) := by
    unfold expireS
    rw [if_neg (by simp [good_moment hg2]), late_live hg]
    simp
  rw [f26_eq, e1, Option.bind_some, f30_eq, e2, Option.bind_some, f30_eq, e3, Option.bind_some, f30_eq, e4, Option.bind_some, f26_eq, e5, Option.bind_some]
  simp only
  rw [if_pos (by rfl), f34_eq _ (by unfold framesS; omega), Option.bind_some, if_pos rfl, if_pos (by simp), if_pos (by simp), if_pos (by simp), if_pos, f15_eq]
  · rfl
  · simp only [decide_eq_true_eq]
    rw [w64 (by omega) (by omega)]
    omega
end Go.Proofs.Ytgfohogbechkkaa
