/-
  The abstract machine, fourteenth part: operations that may change places.
-/
import Derived.Test.YtkbjimfganeooaaAb13
set_option linter.unusedSimpArgs false
set_option linter.unusedVariables false
namespace Go.Ab
open Go

theorem put_apply (s : Nat → AV) (i : Nat) (v : AV) (j : Nat) : put s i v j = if j = i then v else s j := rfl

theorem put_comm (s : Nat → AV) {i j : Nat} (h : i ≠ j) (u v : AV) : put (put s i u) j v = put (put s j v) i u := by
  funext k
  simp only [put]
  by_cases h1 : k = j
  · subst h1
    simp [Ne.symm h]
  · by_cases h2 : k = i <;> simp [h1, h2, h]

theorem put?_comm (s : Nat → AV) {i j : Option Nat} (h : ∀ d, i = some d → j ≠ some d) (u v : AV) : put? (put? s i u) j v = put? (put? s j v) i u := by
  cases i with
  | none => rfl
  | some i => cases j with
    | none => rfl
    | some j => exact put_comm s (fun e => h i rfl (by rw [e])) u v

theorem od_put {s : Nat → AV} {d : Nat} {v : AV} {x : Od} (h : d ∉ odReads x) : x.ev (put s d v) = x.ev s := by
  cases x with
  | t i =>
    simp only [odReads, List.mem_singleton] at h
    simp [Od.ev, put, Ne.symm h]
  | c v => rfl

theorem ods_put {s : Nat → AV} {d : Nat} {v : AV} {xs : List Od} (h : d ∉ xs.flatMap odReads) : xs.map (Od.ev (put s d v)) = xs.map (Od.ev s) := by
  refine List.map_congr_left fun x hx => od_put fun hd => h (List.mem_flatMap.2 ⟨x, hx, hd⟩)

theorem bounds_put {s : Nat → AV} {d n : Nat} {v : AV} {lo hi : Option Od} (h1 : d ∉ odOReads lo) (h2 : d ∉ odOReads hi) : bounds (put s d v) n lo hi = bounds s n lo hi := by
  unfold bounds
  cases lo <;> cases hi <;> simp only [odOReads] at h1 h2
  · rfl
  · simp only [od_put h2]
  · simp only [od_put h1]
  · simp only [od_put h1, od_put h2]

theorem bounds2_put {s : Nat → AV} {d n c : Nat} {v : AV} {lo hi : Option Od} (h1 : d ∉ odOReads lo) (h2 : d ∉ odOReads hi) : bounds2 (put s d v) n c lo hi = bounds2 s n c lo hi := by
  unfold bounds2
  cases lo <;> cases hi <;> simp only [odOReads] at h1 h2
  · rfl
  · simp only [od_put h2]
  · simp only [od_put h1]
  · simp only [od_put h1, od_put h2]

theorem fill_put {s : Nat → AV} {d : Nat} {v : AV} : ∀ (ps : List (Nat × Nat × Od)) (z : List AV), (d ∉ ps.flatMap fun p => odReads p.2.2) → fill (put s d v) z ps = fill s z ps
  | [], _, _ => rfl
  | (off, e, x) :: ps, z, h => by
    simp only [List.flatMap_cons, List.mem_append, not_or] at h
    simp only [fill, od_put h.1, fill_put ps _ h.2]

theorem fillE_put {s : Nat → AV} {d e : Nat} {v : AV} : ∀ (ps : List (Nat × Od)) (z : List AV), (d ∉ ps.flatMap fun p => odReads p.2) → fillE (put s d v) e z ps = fillE s e z ps
  | [], _, _ => rfl
  | (i, x) :: ps, z, h => by
    simp only [List.flatMap_cons, List.mem_append, not_or] at h
    simp only [fillE, od_put h.1, fillE_put ps _ h.2]

theorem evV_put {s : Nat → AV} {h : Hp} {d : Nat} {v : AV} {o : Op1} (hd : d ∉ o.reads) : evV (put s d v) h o = evV s h o := by
  cases o <;> simp only [Op1.reads, List.mem_append, not_or] at hd <;> simp only [evV]
  case mv => rw [od_put hd]
  case pick => rw [od_put hd.1.1, od_put hd.1.2, od_put hd.2]
  case box => rw [od_put hd]
  case build => rw [fill_put _ _ hd]
  case mksl => rw [fillE_put _ _ hd]
  case mkslp => rw [fillE_put _ _ hd]
  case load => rw [od_put hd]
  case store => rw [od_put hd.1, od_put hd.2]
  case nilchk => rw [od_put hd]
  case bin => rw [od_put hd.1, od_put hd.2]
  case binb => rw [od_put hd.1, od_put hd.2]
  case eqs => rw [od_put hd.1, od_put hd.2]
  case eqp => rw [od_put hd.1, od_put hd.2]
  case un => rw [od_put hd]
  case cint => rw [od_put hd]
  case cstr => rw [od_put hd]
  case cbytes => rw [od_put hd]
  case mkfn => rw [ods_put hd]
  case mkslc => rw [od_put hd.1, od_put hd.2]
  case slice => rw [od_put hd.1.1]; simp only [bounds_put hd.1.2 hd.2, bounds2_put hd.1.2 hd.2]
  case cap => rw [od_put hd]
  case copy => simp only [od_put hd.1, od_put hd.2]
  case clear => rw [od_put hd]
  case appz => rw [od_put hd.1, od_put hd.2]
  case ovl => rw [od_put hd.1, od_put hd.2]
  case slice3 e x lo hi mx =>
    rw [od_put hd.1.1.1]
    cases mx with
    | none => simp only [bounds_put hd.1.1.2 hd.1.2]
    | some m => simp only [bounds_put hd.1.1.2 hd.1.2, od_put (x := m) hd.2]
  case sslice => rw [od_put hd.1.1]; simp only [bounds_put hd.1.2 hd.2]
  case aslice => rw [od_put hd.1.1]; simp only [bounds_put hd.1.2 hd.2]
  case faddr => rw [od_put hd]
  case fld => rw [od_put hd]
  case iaddr => rw [od_put hd.1, od_put hd.2]
  case aiaddr => rw [od_put hd.1, od_put hd.2]
  case idx => rw [od_put hd.1, od_put hd.2]
  case sidx => rw [od_put hd.1, od_put hd.2]
  case ext => rw [od_put hd]
  case len => rw [od_put hd]
  case maxmin => rw [od_put hd.1, ods_put hd.2]
  case append => rw [od_put hd.1, od_put hd.2]
  case lookup => rw [od_put hd.1, od_put hd.2]
  case mapset => rw [od_put hd.1.1, od_put hd.1.2, od_put hd.2]

theorem evO_put {F : CallF} {s : Nat → AV} {h : Hp} {d : Nat} {v : AV} {o : Op1} {K : AV → Hp → Prop} (hd : d ∉ o.reads) : evO F (put s d v) h o K = evO F s h o K := by
  by_cases hc : ∃ f as, o = .call f as
  · obtain ⟨f, as, rfl⟩ := hc
    simp only [Op1.reads, List.mem_append, not_or] at hd
    simp only [evO, od_put hd.1, ods_put hd.2]
  by_cases hc2 : ∃ ng x, o = .isnil ng x
  · obtain ⟨ng, x, rfl⟩ := hc2
    simp only [Op1.reads] at hd
    simp only [evO, od_put hd]
  · have e := evV_put (s := s) (h := h) (v := v) hd
    cases o <;> first
      | exact absurd ⟨_, _, rfl⟩ hc
      | exact absurd ⟨_, _, rfl⟩ hc2
      | simp only [evO, e]

theorem act_put {F : CallF} {i : Ins} {s : Nat → AV} {h : Hp} {d : Option Nat} {v : AV} {K : AV → Hp → Prop} (hd : ∀ e, d = some e → e ∉ i.reads) : act F i (put? s d v) h K = act F i s h K := by
  cases d with
  | none => rfl
  | some d =>
    have hd := hd d rfl
    obtain ⟨id, g, o⟩ := i
    simp only [Ins.reads, List.mem_append, not_or] at hd
    simp only [put?, act, evO_put hd.2]
    cases g with
    | none => rfl
    | some gw =>
      obtain ⟨j, want⟩ := gw
      have hj : j ≠ d := fun e => hd.1 (by simp [e])
      simp only [put, if_neg hj]

/-- Calls may promise less. -/
def Mono (F : CallF) : Prop := ∀ k args h K K', (∀ v h', K v h' → K' v h') → F k args h K → F k args h K'

theorem evO_mono {F : CallF} (hF : Mono F) {s : Nat → AV} {h : Hp} {o : Op1} {K K' : AV → Hp → Prop} (hk : ∀ v h', K v h' → K' v h') (he : evO F s h o K) : evO F s h o K' := by
  unfold evO at *
  split at he
  · split at he
    · exact hF _ _ _ _ _ hk he
    · exact he
  · split at he
    · exact ⟨hk _ _ he.1, hk _ _ he.2⟩
    · exact hk _ _ he
    · exact ⟨hk _ _ he.1, hk _ _ he.2⟩
    · exact hk _ _ he
    · exact he
  · split at he
    · exact hk _ _ he
    · exact he

theorem act_mono {F : CallF} (hF : Mono F) {i : Ins} {s : Nat → AV} {h : Hp} {K K' : AV → Hp → Prop} (hk : ∀ v h', K v h' → K' v h') (he : act F i s h K) : act F i s h K' := by
  unfold act at *
  split at he
  · exact evO_mono hF hk he
  · split at he
    · split at he
      · rename_i c; simp only [c, if_true]; exact evO_mono hF hk he
      · rename_i c; simp only [c, if_false]; exact hk _ _ he
    · exact hk _ _ he
    · exact he

theorem evT_mono {F : CallF} (hF : Mono F) {i : Ins} {K K' : St → Prop} {st : St} (hk : ∀ st, K st → K' st) (he : evT F i K st) : evT F i K' st := act_mono hF (fun _ _ => hk _) he

theorem evTs_mono {F : CallF} (hF : Mono F) : ∀ {is : List Ins} {K K' : St → Prop} {st : St}, (∀ st, K st → K' st) → evTs F is K st → evTs F is K' st
  | [], _, _, _, hk, he => hk _ he
  | _ :: _, _, _, _, hk, he => evT_mono hF (fun _ => evTs_mono hF hk) he

theorem evO_op {F : CallF} {s : Nat → AV} {h : Hp} {o : Op1} {K : AV → Hp → Prop} (hc : o.isCall = false) : evO F s h o K = (match evV s h o with | some p => K p.1 p.2 | none => False) := by
  cases o <;> first | rfl | cases hc

theorem still_op {o : Op1} (h : o.still = true) : o.isCall = false := by cases o <;> first | rfl | cases h
theorem blind_still {o : Op1} (h : o.blind = true) : o.still = true := by cases o <;> first | exact h | rfl | cases h

theorem evV_still {o : Op1} (ho : o.still = true) {s : Nat → AV} {h h' : Hp} {v : AV} (he : evV s h o = some (v, h')) : h' = h := by
  have key : ∀ {x : Option AV}, x.map (fun v => (v, h)) = some (v, h') → h' = h := fun {x} hx => by
    obtain ⟨y, _, hy⟩ := Option.map_eq_some_iff.1 hx
    injection hy with _ hy; exact hy.symm
  have key2 : ∀ {α : Type} {x : Option α} {f : α → AV}, x.map (fun v => (f v, h)) = some (v, h') → h' = h := fun {α x f} hx => by
    obtain ⟨y, _, hy⟩ := Option.map_eq_some_iff.1 hx
    injection hy with _ hy; exact hy.symm
  cases o <;> first | cases ho | skip
  all_goals simp only [evV] at he
  all_goals repeat' split at he
  all_goals first
    | (cases he; done)
    | (cases he; rfl)
    | exact key he
    | exact key2 he

theorem evV_blind {o : Op1} (ho : o.blind = true) {s : Nat → AV} {h h' : Hp} {v : AV} (he : evV s h o = some (v, h')) (h2 : Hp) : evV s h2 o = some (v, h2) := by
  have e0 := evV_still (blind_still ho) he
  subst e0
  have key2 : ∀ {α : Type} {x : Option α} {f : α → AV}, x.map (fun v => (f v, h')) = some (v, h') → x.map (fun v => (f v, h2)) = some (v, h2) := fun {α x f} hx => by
    obtain ⟨y, hy1, hy⟩ := Option.map_eq_some_iff.1 hx
    injection hy with hy _
    rw [hy1, ← hy]; rfl
  cases o <;> first | cases ho | skip
  all_goals simp only [evV] at he ⊢
  all_goals repeat' split at he
  all_goals first
    | (cases he; done)
    | (cases he; simp_all; done)
    | exact key2 he
    | (simp_all; done)
    | skip

/-- An operation that writes no heap yields one thing. -/
theorem act_still {F : CallF} {i : Ins} (ho : i.o.still = true) {s : Nat → AV} {h : Hp} {K : AV → Hp → Prop} (ha : act F i s h K) : ∃ v, ∀ K' : AV → Hp → Prop, act F i s h K' ↔ K' v h := by
  have hc := still_op ho
  unfold act at *
  split at ha
  · rw [evO_op hc] at ha
    split at ha
    · rename_i p hp
      have e := evV_still ho (v := p.1) (h' := p.2) hp
      exact ⟨p.1, fun K' => by rw [evO_op hc, hp]; show K' p.1 p.2 ↔ K' p.1 h; rw [e]⟩
    · exact ha.elim
  · split at ha
    · split at ha
      · rename_i c
        rw [evO_op hc] at ha
        split at ha
        · rename_i p hp
          have e := evV_still ho (v := p.1) (h' := p.2) hp
          exact ⟨p.1, fun K' => by simp only [c, if_true]; rw [evO_op hc, hp]; show K' p.1 p.2 ↔ K' p.1 h; rw [e]⟩
        · exact ha.elim
      · rename_i c
        exact ⟨.tup [], fun K' => by simp only [c, if_false]⟩
    · exact ⟨.tup [], fun K' => Iff.rfl⟩
    · exact ha.elim

theorem act_blind {F : CallF} {i : Ins} (ho : i.o.blind = true) {s : Nat → AV} {h : Hp} {K : AV → Hp → Prop} (ha : act F i s h K) : ∃ v, ∀ (h2 : Hp) (K' : AV → Hp → Prop), act F i s h2 K' ↔ K' v h2 := by
  have hc := still_op (blind_still ho)
  unfold act at *
  split at ha
  · rw [evO_op hc] at ha
    split at ha
    · rename_i p hp
      exact ⟨p.1, fun h2 K' => by rw [evO_op hc, evV_blind ho (v := p.1) (h' := p.2) hp h2]⟩
    · exact ha.elim
  · split at ha
    · split at ha
      · rename_i c
        rw [evO_op hc] at ha
        split at ha
        · rename_i p hp
          exact ⟨p.1, fun h2 K' => by simp only [c, if_true]; rw [evO_op hc, evV_blind ho (v := p.1) (h' := p.2) hp h2]⟩
        · exact ha.elim
      · rename_i c
        exact ⟨.tup [], fun h2 K' => by simp only [c, if_false]⟩
    · exact ⟨.tup [], fun h2 K' => Iff.rfl⟩
    · exact ha.elim

/-- Calls end somehow. -/
def Live' (F : CallF) : Prop := ∀ k args h K, F k args h K → ∃ v h', K v h'

/-- Calls leave the heap as it is. -/
def Quiet (F : CallF) : Prop := ∀ k args h K, F k args h K → F k args h fun v h' => h' = h ∧ K v h'

theorem act_live {F : CallF} (hL : Live' F) {i : Ins} {s : Nat → AV} {h : Hp} {K : AV → Hp → Prop} (ha : act F i s h K) : ∃ v h', K v h' := by
  have evL : evO F s h i.o K → ∃ v h', K v h' := fun he => by
    by_cases hc : i.o.isCall = true
    · cases ho : i.o <;> rw [ho] at hc he <;> try cases hc
      · simp only [evO] at he
        split at he
        · exact hL _ _ _ _ he
        · exact he.elim
      · simp only [evO] at he
        split at he
        · exact ⟨_, _, he.1⟩
        · exact ⟨_, _, he⟩
        · exact ⟨_, _, he.1⟩
        · exact ⟨_, _, he⟩
        · exact he.elim
    · rw [evO_op (by simpa using hc)] at he
      split at he
      · exact ⟨_, _, he⟩
      · exact he.elim
  unfold act at ha
  split at ha
  · exact evL ha
  · split at ha
    · split at ha
      · exact evL ha
      · exact ⟨_, _, ha⟩
    · exact ⟨_, _, ha⟩
    · exact ha.elim

theorem act_quiet {F : CallF} (hQ : Quiet F) {i : Ins} (hc : i.o.isCall = true) {s : Nat → AV} {h : Hp} {K : AV → Hp → Prop} (ha : act F i s h K) : act F i s h fun v h' => h' = h ∧ K v h' := by
  have evL : evO F s h i.o K → evO F s h i.o fun v h' => h' = h ∧ K v h' := fun he => by
    cases ho : i.o <;> rw [ho] at hc he <;> try cases hc
    · simp only [evO] at he ⊢
      split at he
      · exact hQ _ _ _ _ he
      · exact he.elim
    · simp only [evO] at he ⊢
      split at he
      · exact ⟨⟨trivial, he.1⟩, trivial, he.2⟩
      · exact ⟨trivial, he⟩
      · exact ⟨⟨trivial, he.1⟩, trivial, he.2⟩
      · exact ⟨trivial, he⟩
      · exact he.elim
  unfold act at ha ⊢
  split at ha
  · exact evL ha
  · split at ha
    · split at ha
      · rename_i c; simp only [c, if_true]; exact evL ha
      · rename_i c; simp only [c, if_false]; exact ⟨trivial, ha⟩
    · exact ⟨rfl, ha⟩
    · exact ha.elim

theorem get_grow {h : Hp} {b : Nat} {x y : HB} (hb : h[b]? = some y) : (h ++ [x])[b]? = some y := by
  rw [List.getElem?_append_left (List.getElem?_eq_some_iff.1 hb).1]; exact hb

theorem srcElems_grow {h : Hp} {e : Nat} {y : AV} {ys : List AV} {x : HB} (hs : srcElems e h y = some ys) : srcElems e (h ++ [x]) y = some ys := by
  unfold srcElems at hs ⊢
  split at hs
  · exact hs
  · split at hs
    · rename_i hb; rw [get_grow hb]; exact hs
    · cases hs
  · split at hs
    · rename_i hb; rw [get_grow hb]; exact hs
    · cases hs
  · split at hs
    · rename_i hb; rw [get_grow hb]; exact hs
    · cases hs
  · exact hs
  · cases hs

/-- What writes no heap yields the same where there is a block more. -/
theorem evV_grow {o : Op1} (ho : o.still = true) {s : Nat → AV} {h : Hp} {v : AV} (he : evV s h o = some (v, h)) (x : HB) : evV s (h ++ [x]) o = some (v, h ++ [x]) := by
  by_cases hb : o.blind = true
  · exact evV_blind hb he _
  · have swap : ∀ {α : Type} {r : Option α} {f : α → AV}, r.map (fun v => (f v, h)) = some (v, h) → r.map (fun v => (f v, h ++ [x])) = some (v, h ++ [x]) := fun {α r f} hr => by
      obtain ⟨y, h1, h2⟩ := Option.map_eq_some_iff.1 hr
      injection h2 with h2 _
      rw [h1, ← h2]; rfl
    cases o <;> first | (cases ho; done) | (exact absurd rfl hb) | skip
    case load e a =>
      simp only [evV] at he ⊢
      split at he
      · split at he
        · rename_i h1; rw [get_grow h1]; exact swap (f := fun v => v) he
        · cases he
      · split at he
        · rename_i h1
          rw [get_grow h1]
          split at he
          · rename_i h2; simp only [h2]; exact swap (f := fun v => v) he
          · cases he
        · cases he
      · exact swap (f := fun v => v) he
      · cases he
    case len k a =>
      simp only [evV] at he ⊢
      split at he
      all_goals try (injection he with he; injection he with h1 h2; subst h1; rfl)
      · split at he
        · rename_i h1
          injection he with he; injection he with h2 h3; subst h2
          rw [get_grow h1]
        · cases he
      · cases he
    case lookup z ok m k =>
      simp only [evV] at he ⊢
      cases hm : m.ev s with
      | mref b =>
        rw [hm] at he
        simp only at he ⊢
        cases hb : h[b]? with
        | none => rw [hb] at he; cases he
        | some y =>
          rw [get_grow hb]
          rw [hb] at he
          cases y with
          | map ks vs =>
            simp only at he ⊢
            split at he
            · rename_i r hr
              try rw [hr]
              injection he with he; injection he with h1 _
              rw [← h1]
            · cases he
          | _ => cases he
      | _ =>
        rw [hm] at he
        simp only at he ⊢
        first
          | (cases he; done)
          | (split at he
             · rename_i r hr
               try rw [hr]
               injection he with he; injection he with h1 _
               rw [← h1]
             · cases he)
    case cstr y =>
      simp only [evV] at he ⊢
      split at he
      · cases he
      · split at he
        · rename_i h1
          rw [srcElems_grow h1]
          exact swap (f := fun t => .str t) he
        · cases he
    case ovl a b =>
      simp only [evV] at he ⊢
      split at he
      · split at he
        · rename_i h1
          rw [get_grow h1]
          injection he with he; injection he with h2 h3; subst h2
          rfl
        · cases he
      · cases he

theorem act_grow {F : CallF} {i : Ins} (ho : i.o.still = true) {s : Nat → AV} {h : Hp} {K : AV → Hp → Prop} (ha : act F i s h K) :
    ∃ v, (∀ K' : AV → Hp → Prop, act F i s h K' ↔ K' v h) ∧ ∀ (x : HB) (K' : AV → Hp → Prop), K' v (h ++ [x]) → act F i s (h ++ [x]) K' := by
  have hc := still_op ho
  unfold act at *
  split at ha
  · rw [evO_op hc] at ha
    split at ha
    · rename_i p hp
      have e := evV_still ho (v := p.1) (h' := p.2) hp
      have hp' : evV s h i.o = some (p.1, h) := by rw [hp, ← e]
      exact ⟨p.1, fun K' => by rw [evO_op hc, hp'], fun x K' k => by rw [evO_op hc, evV_grow ho hp' x]; exact k⟩
    · exact ha.elim
  · split at ha
    · split at ha
      · rename_i c
        rw [evO_op hc] at ha
        split at ha
        · rename_i p hp
          have e := evV_still ho (v := p.1) (h' := p.2) hp
          have hp' : evV s h i.o = some (p.1, h) := by rw [hp, ← e]
          exact ⟨p.1, fun K' => by simp only [c, if_true]; rw [evO_op hc, hp'], fun x K' k => by simp only [c, if_true]; rw [evO_op hc, evV_grow ho hp' x]; exact k⟩
        · exact ha.elim
      · rename_i c
        exact ⟨.tup [], fun K' => by simp only [c, if_false], fun x K' k => by simp only [c, if_false]; exact k⟩
    · exact ⟨.tup [], fun K' => Iff.rfl, fun x K' k => k⟩
    · exact ha.elim

theorem act_grows {F : CallF} {j : Ins} (ho : j.o.grows = true) (hg : j.g = none) {s : Nat → AV} {h : Hp} {K : AV → Hp → Prop} (ha : act F j s h K) : ∃ u x, ∀ K' : AV → Hp → Prop, act F j s h K' ↔ K' u (h ++ [x]) := by
  obtain ⟨d, g, o⟩ := j
  dsimp only at hg ho
  subst hg
  cases o <;> first | (cases ho; done) | skip
  case box a =>
    simp only [act, evO, evV] at ha ⊢
    by_cases hb : onesB (a.ev s).cells = true
    · exact ⟨.ptr h.length 0, .cel (a.ev s).cells, fun K' => by rw [if_pos hb]⟩
    · rw [if_neg hb] at ha
      exact ha.elim
  case alloc z => exact ⟨.ptr h.length 0, .cel (expand z), fun K' => Iff.rfl⟩

theorem apart_spec {q : Bool} {i j : Ins} (h : apart q i j = true) : (∀ d, i.d = some d → d ∉ j.reads) ∧ (∀ d, i.d = some d → j.d ≠ some d) ∧ (∀ d, j.d = some d → d ∉ i.reads) ∧
    ((i.o.still = true ∧ (j.o.still = true ∨ (j.o.grows = true ∧ j.g = none))) ∨ i.o.blind = true ∨ j.o.blind = true ∨ (q = true ∧ ((i.o.still = true ∧ j.o.isCall = true) ∨ (i.o.isCall = true ∧ j.o.still = true)))) := by
  unfold apart at h
  simp only [Bool.and_eq_true, Bool.or_eq_true] at h
  obtain ⟨⟨h1, h2⟩, h3⟩ := h
  refine ⟨fun d hd => ?_, fun d hd => ?_, fun d hd => ?_, ?_⟩
  · rw [hd] at h1; simp at h1; exact h1.1
  · rw [hd] at h1; simp at h1; exact h1.2
  · rw [hd] at h2; simp at h2; exact h2
  · rcases h3 with ((h3 | h3) | h3) | h3
    · exact .inl ⟨h3.1, h3.2.imp id fun h => ⟨h.1, by simpa using h.2⟩⟩
    · exact .inr (.inl h3)
    · exact .inr (.inr (.inl h3))
    · exact .inr (.inr (.inr h3))

theorem evT_comm {F : CallF} (hF : Mono F) (hL : Live' F) {q : Bool} (hQ : q = true → Quiet F) {i j : Ins} (h : apart q i j = true) {K : St → Prop} {st : St} (he : evT F i (evT F j K) st) : evT F j (evT F i K) st := by
  obtain ⟨h1, h2, h3, h4⟩ := apart_spec h
  unfold evT at *
  dsimp only at he ⊢
  simp only [act_put (F := F) (i := j) (d := i.d) h1] at he
  simp only [act_put (F := F) (i := i) (d := j.d) h3]
  have hc : ∀ u v, put? (put? st.s i.d v) j.d u = put? (put? st.s j.d u) i.d v := fun u v => put?_comm st.s h2 v u
  simp only [hc] at he
  rcases h4 with ⟨hi, hj | ⟨hj, hjg⟩⟩ | hi | hj | ⟨hq, ⟨hi, hj⟩ | ⟨hi, hj⟩⟩
  · obtain ⟨v, ki⟩ := act_still hi he
    have he := (ki _).1 he
    obtain ⟨u, kj⟩ := act_still hj he
    exact (kj _).2 ((ki _).2 ((kj _).1 he))
  · obtain ⟨v, ki, kg⟩ := act_grow hi he
    have he := (ki _).1 he
    obtain ⟨u, x, kj⟩ := act_grows hj hjg he
    exact (kj _).2 (kg x _ ((kj _).1 he))
  · obtain ⟨v, ki⟩ := act_blind hi he
    exact act_mono hF (fun u h2 hk => (ki _ _).2 hk) ((ki _ _).1 he)
  · obtain ⟨v, h', hx⟩ := act_live hL he
    obtain ⟨u, kj⟩ := act_blind hj hx
    exact (kj _ _).2 (act_mono hF (fun v' h' hk => (kj _ _).1 hk) he)
  · obtain ⟨v, ki⟩ := act_still hi he
    refine act_mono hF ?_ (act_quiet (hQ hq) hj ((ki _).1 he))
    rintro u h' ⟨rfl, hk⟩
    exact (ki _).2 hk
  · have he := act_quiet (hQ hq) hi he
    obtain ⟨v, h', rfl, hx⟩ := act_live hL he
    obtain ⟨u, kj⟩ := act_still hj hx
    refine (kj _).2 (act_mono hF ?_ he)
    rintro v' h' ⟨rfl, hk⟩
    exact (kj _).1 hk

theorem evTs_front {F : CallF} (hF : Mono F) (hL : Live' F) {q : Bool} (hQ : q = true → Quiet F) {i : Ins} : ∀ {js is : List Ins} {K : St → Prop} {st : St}, (∀ j ∈ js, apart q j i = true) → evTs F (js ++ i :: is) K st → evTs F (i :: (js ++ is)) K st
  | [], _, _, _, _, he => he
  | j :: js, is, K, st, ha, he => by
    simp only [List.cons_append, evTs] at he ⊢
    have h1 : evT F j (evT F i (evTs F (js ++ is) K)) st := evT_mono hF (fun st' hs => evTs_front hF hL hQ (fun j' hj => ha j' (List.mem_cons_of_mem _ hj)) hs) he
    exact evT_comm hF hL hQ (ha j List.mem_cons_self) h1

end Go.Ab
