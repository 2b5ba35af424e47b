/-
  Plain laws of the receiver of layer 57, third part: the reference's receivers are the program's.
-/
import Derived.Test.YtgfohogbechkkaaP2
set_option linter.unusedSimpArgs false
set_option linter.unusedVariables false
namespace Go.Proofs.Ytgfohogbechkkaa
open Go Go.Ab

def refI (x : ReceiverInput) : Ref57Input := ⟨x.fUniverse, x.fSource, x.fPriority, x.fSeq, x.fSync, x.fLast, x.fSlots, x.fWait⟩
def unI (x : Ref57Input) : ReceiverInput := ⟨x.fUniverse, x.fSource, x.fPriority, x.fSeq, x.fSync, x.fLast, x.fSlots, x.fWait⟩
def refP (p : NetworkPacket) : Ref56Packet := ⟨p.fSource, p.fUniverse, p.fPriority, p.fSeq, p.fSync, p.fEnd, p.fSlots⟩
theorem un_ref (x : ReceiverInput) : unI (refI x) = x := rfl
theorem ref_un (x : Ref57Input) : refI (unI x) = x := rfl
theorem un_map (l : List ReceiverInput) : (l.map refI).map unI = l := by rw [List.map_map]; exact List.map_id l

theorem f18_eq {r : ReceiverReceiver} (h : r.fInputs.length * 80 ≤ 140737488351232) : f18 r = some ⟨r.fInputs.map refI⟩ := by
  unfold f18
  rw [run_collect (L := f18_L1 r) (xs := r.fInputs) (fun x => [refI x]) (fun k acc x hx ha => by
    have R := Rnd.mk' hx (by omega)
    have hk := R.klt
    simp only [f18_L1]
    rw [if_pos R.lt, R.at', Option.bind_some, app_some (by simp only [List.length_cons, List.length_nil]; omega) (by simp only [List.length_cons, List.length_nil]; omega), Option.bind_some, R.nxt]
    rfl) (fun x => by simp) (fun acc => by simp [f18_L1])]
  rw [Option.bind_some, ← List.map_eq_flatMap]

theorem f70_eq (n : Int) : f70 n = some (decide (0 < n) && decide (n < 281474976710655)) := by
  unfold f70
  by_cases h : 0 < n <;> simp [h]
theorem f71_eq (n a b : Int) : f71 n a b = some (wi n a b) := by
  unfold f71 wi
  by_cases h : a ≤ n <;> simp [h]

theorem f23_eq (p : NetworkPacket) : f23 (refP p) = some (checkS p) := by
  have h := f59_eq p
  rw [← h]
  unfold f23 f59 refP
  simp only [f70_eq, f71_eq, f78_eq, f93_eq, f94_eq, Option.bind_some, namedS]
  cases h1 : decide (0 < p.fSource) <;> cases h2 : decide (p.fSource < 281474976710655) <;> cases h3 : wi p.fUniverse 0 8 <;> cases h4 : wi p.fPriority 0 200 <;> cases h5 : wi p.fSeq 0 255 <;> cases h6 : wi p.fSync 0 8 <;> simp

theorem f109_eq (s : List UInt8) : f109 s = some (shapedS s) := by
  have := f105_eq s
  unfold f105 at this
  unfold f109
  exact this

theorem f66_eq (x : ReceiverInput) : f66 (refI x) = some (inErr x) := by
  have hc : f23 (Ref56Packet.mk (refI x).fSource (refI x).fUniverse (refI x).fPriority (refI x).fSeq (refI x).fSync false []) = some (checkS (likeP x)) := f23_eq (likeP x)
  unfold f66
  rw [hc, Option.bind_some]
  simp only [f109_eq, Option.bind_some]
  unfold inErr
  simp only [show (refI x).fUniverse = x.fUniverse from rfl, show (refI x).fLast = x.fLast from rfl, show (refI x).fSlots = x.fSlots from rfl, show (refI x).fWait = x.fWait from rfl, show (refI x).fSync = x.fSync from rfl]
  by_cases h0 : x.fUniverse = 0
  · simp [h0]
  by_cases h1 : x.fUniverse < 1
  · have hq : checkS (likeP x) ≠ 0 := fun hq => by
      have := (check_ok hq).2.1
      simp only [likeP] at this
      omega
    simp [h0, h1, hq]
  by_cases h2 : checkS (likeP x) = 0
  case neg => simp [h0, h1, h2]
  by_cases h3 : x.fLast < 0
  · simp [h0, h1, h2, h3]
  by_cases h4 : 10000000 < x.fLast
  · simp [h0, h1, h2, h3, h4]
  cases h5 : shapedS x.fSlots
  · simp [h0, h1, h2, h3, h4]
  cases h6 : shapedS x.fWait
  · simp [h0, h1, h2, h3, h4]
  by_cases h7 : x.fSync = 0
  · by_cases h8 : x.fWait = []
    · simp [h0, h1, h2, h3, h4, h7, h8]
    · simp [h0, h1, h2, h3, h4, h7, h8]
  · by_cases h8 : x.fWait = []
    · simp [h0, h1, h2, h3, h4, h7, h8]
    · simp [h0, h1, h2, h3, h4, h7, h8]

theorem f67_eq (a b : Ref57Input) : f67 a b = some (ltU a.fUniverse a.fSource b.fUniverse b.fSource) := by
  unfold f67 ltU
  by_cases h1 : a.fUniverse < b.fUniverse
  · simp [h1]
  · by_cases h2 : a.fUniverse = b.fUniverse <;> simp [h1, h2]

theorem goC_map {τ σ : Type} (f : σ → τ) (c1 : τ → Int) (lt : τ → τ → Bool) (c2 : τ → Int) : ∀ (xs : List σ) (a : Option σ), goC c1 lt c2 (a.map f) (xs.map f) = goC (fun x => c1 (f x)) (fun x y => lt (f x) (f y)) (fun x => c2 (f x)) a xs
  | [], _ => rfl
  | x :: xs, a => by
    simp only [List.map_cons, goC]
    rw [show (some (f x) : Option τ) = (some x).map f from rfl, goC_map f c1 lt c2 xs (some x)]
    cases a <;> rfl

theorem f20_eq (l : List ReceiverInput) : f20 ⟨l.map refI⟩ = some (rightS l) := by
  unfold f20 rightS
  simp only [List.length_map]
  by_cases h : 64 < l.length
  · rw [if_pos (by simp only [decide_eq_true_eq]; omega), if_pos h]
  · rw [if_neg (by simp only [decide_eq_true_eq]; omega), if_neg h]
    have hrun := run_goC (L := f20_L1 ⟨l.map refI⟩) (fun y => inErr (unI y)) (fun a b => ltI (unI a) (unI b)) (fun _ => 0) (xs := l.map refI) (by rw [List.length_map]; omega) (fun x hx hlt hat => by
      simp only [f20_L1]
      rw [if_pos hlt, hat, Option.bind_some, ← ref_un x, f66_eq, Option.bind_some]
      unfold stepC
      by_cases h1 : inErr (unI x) = 0
      · simp [h1, badC, roundC, un_ref]; rfl
      · simp [h1, roundC, un_ref]) (fun k q x hq hx hlt hat hat' hpos hw h1 _ => by
      simp only [f20_L1]
      rw [if_pos hlt, hat, Option.bind_some, ← ref_un x, f66_eq, Option.bind_some]
      unfold stepC
      by_cases h1 : inErr (unI x) = 0
      · rw [if_neg (by simp [h1]), if_pos hpos, hat', hw]
        simp only [Option.bind_some, f67_eq]
        have h3 : ltU q.fUniverse q.fSource (refI (unI x)).fUniverse (refI (unI x)).fSource = ltI (unI q) (unI x) := rfl
        rw [h3]
        cases h2 : ltI (unI q) (unI x) <;> simp [h1, badC, h2, roundC, un_ref]
      · simp [h1, roundC, un_ref]) (by simp [f20_L1])
    refine hrun.trans ?_
    have := goC_map unI inErr ltI (fun _ => 0) (l.map refI) none
    rw [un_map] at this
    rw [← this]
    rfl

theorem f61_eq (l : List ReceiverInput) (t : Int) : f61 ⟨l.map refI⟩ t = some (momentS l t) := by
  unfold f61 momentS
  rw [f20_eq, Option.bind_some]
  by_cases h1 : rightS l = 0
  · have := right_len h1
    simp only [h1, ne_eq, not_true_eq_false, decide_false, Bool.false_eq_true, if_false]
    by_cases h2 : t < 0
    · simp [h2]
    by_cases h3 : 10000000 < t
    · simp [h2, h3]
    simp only [h2, h3, decide_false, Bool.false_eq_true, if_false]
    rw [run_any (L := f61_L1 ⟨l.map refI⟩ t) (xs := l.map refI) (fun x => decide (t < x.fLast)) (by rw [List.length_map]; omega) (fun k x R => by
      simp only [f61_L1]
      rw [if_pos R.lt, R.at', R.nxt, Option.bind_some]
      by_cases h : t < x.fLast <;> simp [h]) (by simp [f61_L1])]
    have : (l.map refI).any (fun x => decide (t < x.fLast)) = l.any fun x => decide (t < x.fLast) := by rw [List.any_map]; rfl
    rw [this]
    cases (l.any fun x => decide (t < x.fLast)) <;> rfl
  · simp [h1]

theorem f21_eq (a : Ref57Receiver) (h : a.fInputs.length ≤ 9223372036854775806) : f21 a a = some true := by
  unfold f21
  rw [if_neg (by simp)]
  rw [run_all (L := f21_L1 a a) (xs := a.fInputs) (e := Sum.inl ()) (fun k x hx => by
    have R := Rnd.mk' hx (by omega)
    simp only [f21_L1]
    rw [if_pos R.lt, R.at', R.nxt, Option.bind_some, Option.bind_some]
    simp) (by simp [f21_L1])]
  rfl

def fewS (l : List ReceiverInput) : Bool := if l.length ≤ 8 then true else if 62 < l.length then decide (l.length < 68) else false
theorem f14_eq {r : ReceiverReceiver} (h : r.fInputs.length * 80 ≤ 140737488351232) : f14 r = some (fewS r.fInputs) := by
  unfold f14
  rw [f18_eq h, Option.bind_some]
  unfold f55 fewS
  simp only [List.length_map]
  by_cases h1 : r.fInputs.length ≤ 8
  · have : (r.fInputs.length : Int) ≤ 8 := by omega
    simp [h1, this]
  · have h1' : ¬ (r.fInputs.length : Int) ≤ 8 := by omega
    by_cases h2 : 62 < r.fInputs.length
    · have h2' : (62 : Int) < (r.fInputs.length : Int) := by omega
      by_cases h3 : r.fInputs.length < 68
      · have h3' : (r.fInputs.length : Int) < 68 := by omega
        simp [h1, h1', h2, h2', h3, h3']
      · have h3' : ¬ (r.fInputs.length : Int) < 68 := by omega
        simp [h1, h1', h2, h2', h3, h3']
    · have h2' : ¬ (62 : Int) < (r.fInputs.length : Int) := by omega
      simp [h1, h1', h2, h2']

def okS (l : List ReceiverInput) (t : Int) : Bool := decide (l.length ≤ 8) && decide (momentS l t = 0)
theorem f68b_eq {l : List ReceiverInput} {t : Int} (hl : l.length ≤ 9223372036854775807) : f68_69 l t = some (l.any fun x => decide (t < x.fLast)) := by
  unfold f68_69 f77_69
  have h := run_findi (L := f77_69_L1 l t) (xs := l) (fun x => decide (t < x.fLast)) hl (fun k x hr => by
    simp only [f77_69_L1]
    rw [if_pos hr.lt, hr.at', hr.nxt, Option.bind_some, f69p, Option.bind_some]
    by_cases h : t < x.fLast <;> simp [h]) (by simp [f77_69_L1])
  refine (congrArg (fun o : Option Int => o.bind fun r => some (decide (0 ≤ r))) h).trans ?_
  simp only [Option.bind_some]
  rw [fstI_nonneg]
theorem f22_eq (r : ReceiverReceiver) (t : Int) : f22 r t = some (okS r.fInputs t) := by
  unfold f22 okS
  by_cases h : 8 < r.fInputs.length
  · have h' : (8 : Int) < (r.fInputs.length : Int) := by omega
    simp [h']; omega
  have h' : ¬ (8 : Int) < (r.fInputs.length : Int) := by omega
  have h8 : r.fInputs.length ≤ 8 := by omega
  rw [if_neg (by simpa using h'), f18_eq (by omega), Option.bind_some, f20_eq, Option.bind_some]
  unfold momentS
  by_cases h1 : rightS r.fInputs = 0
  · simp only [h1, ne_eq, not_true_eq_false, decide_false, Bool.false_eq_true, if_false]
    by_cases h2 : t < 0
    · simp [h2]
    by_cases h3 : 10000000 < t
    · simp [h2, h3]
    simp only [h2, h3, decide_false, Bool.false_eq_true, if_false]
    rw [f68b_eq (by omega), Option.bind_some]
    cases (r.fInputs.any fun x => decide (t < x.fLast)) <;> simp [h8]
  · simp [h1]
end Go.Proofs.Ytgfohogbechkkaa
