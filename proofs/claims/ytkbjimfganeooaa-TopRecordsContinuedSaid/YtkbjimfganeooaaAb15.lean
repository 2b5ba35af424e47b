/-
  The abstract machine, fifteenth part: calls, regions, code.
-/
import Derived.Test.YtkbjimfganeooaaAb14
import Derived.Orders
set_option linter.unusedSimpArgs false
set_option linter.unusedVariables false
namespace Go.Ab
open Go

variable {P : Program}

/-- The function has code that a call enters. -/
def Entered (P : Program) (f : FuncId) : Prop := ∃ fn c, P.funcs[f]? = some fn ∧ (fn.name == "runtime.NumGoroutine") = false ∧ fn.body = some c

/-- A call, in any world for which the heap stands, returns what R tells. -/
def Fn (P : Program) (f : Nat) (args : List AV) (h : Hp) (R : AV → Hp → Prop) : Prop :=
  Entered P f ∧ (∃ r h', R r h') ∧ ∀ (E : Env) (w : World) (us : Array Value), HOK E h w → us.size = args.length → (∀ (i : Nat) c u, args[i]? = some c → us[i]? = some u → RV E w c u) →
    Calls P f us w fun e w' => ∃ u E' r h', e = .returned u ∧ R r h' ∧ HOK E' h' w' ∧ Ext h.length E w E' w' ∧ RV E' w' r u

theorem Fn.mono {f : Nat} {args : List AV} {h : Hp} {R R' : AV → Hp → Prop} (hr : ∀ r h', R r h' → R' r h') (hf : Fn P f args h R) : Fn P f args h R' :=
  ⟨hf.1, hf.2.1.imp fun _ h => h.imp fun _ h => hr _ _ h, fun E w us h1 h2 h3 => Calls.mono (hf.2.2 E w us h1 h2 h3) fun _ _ ⟨u, E', r, h', e, k, rest⟩ => ⟨u, E', r, h', e, hr _ _ k, rest⟩⟩

theorem Fn_mono : Mono (Fn P) := fun _ _ _ _ _ hk hf => hf.mono hk

theorem Fn_live : Live' (Fn P) := fun _ _ _ _ hf => hf.2.1

/-- The same, where the heap stays as it is. -/
def Fnq (P : Program) (f : Nat) (args : List AV) (h : Hp) (R : AV → Hp → Prop) : Prop := Fn P f args h fun r h' => h' = h ∧ R r h'

theorem Fnq_mono : Mono (Fnq P) := fun _ _ _ _ _ hk hf => hf.mono fun r h' ⟨e, k⟩ => ⟨e, hk _ _ k⟩
theorem Fnq_live : Live' (Fnq P) := fun _ _ _ _ hf => let ⟨v, h', _, k⟩ := hf.2.1; ⟨v, h', k⟩
theorem Fnq_quiet : Quiet (Fnq P) := fun _ _ _ _ hf => hf.mono fun _ _ ⟨e, k⟩ => ⟨e, e, k⟩
theorem Fnq_Fn (k : Nat) (args : List AV) (h : Hp) (K : AV → Hp → Prop) (hf : Fnq P k args h K) : Fn P k args h K := hf.mono fun _ _ ⟨_, k⟩ => k

theorem Ext.wide {E E' : Env} {h : Hp} {w w' : World} (hok : HOK E h w) (x : Ext h.length E w E' w') (n : Nat) : Ext n E w E' w' :=
  ⟨x.below, x.base, x.kept, x.new, fun b r _ e => x.rho b r (hok.dom b r e) e⟩

theorem Ext.next {E E' E'' : Env} {h : Hp} {w w' w'' : World} {n : Nat} (x : Ext n E w E' w') (hok : HOK E' h w') (y : Ext h.length E' w' E'' w'') : Ext n E w E'' w'' :=
  x.trans (y.wide hok n) (Nat.le_refl _)

theorem SOK.put? {E : Env} {w : World} {s : Nat → AV} {a : Act} (hs : SOK E w s a) {v : AV} {u : Value} (hr : RV E w v u) (d : Option Nat) (hd : ∀ i, d = some i → i < a.tmps.size) : SOK E w (put? s d v) (a.put d u) := by
  cases d with
  | none => exact hs
  | some d =>
    intro i
    have hd := hd d rfl
    simp only [Ab.put?, Ab.put, Act.put]
    by_cases hi : i = d
    · subst hi
      simp [hd]
      exact hr
    · simp only [if_neg hi]
      have := hs i
      simpa [Array.getElem?_setIfInBounds_ne (Ne.symm hi)] using this

theorem put_size (a : Act) (d : Option Nat) (u : Value) : (a.put d u).tmps.size = a.tmps.size := by cases d <;> simp [Act.put]
theorem put_defers (a : Act) (d : Option Nat) (u : Value) : (a.put d u).defers = a.defers := by cases d <;> rfl

section
variable {E : Env} {w : World} {st : St} {a : Act} {ops : Array Oper} {Q : Exit → Act → World → Prop} {n lo : Nat}

/-- What is so behind an operation. -/
def Then (lo n : Nat) (E : Env) (w : World) (K : St → Prop) (a' : Act) (w' : World) : Prop :=
  ∃ st' E', K st' ∧ StOK E' st' a' w' ∧ a'.tmps.size = n ∧ Ext lo E w E' w'

theorem run_call {o : Oper} {f : Operand} {args : Array Operand} {ts : Array TypeId} {k : Nat} {us : Array Value} (ho : o.op = .call { callee := .value f, args := args, argTypes := ts }) (hf : a.eval f = .func (.func k) #[] us) (he : Entered P k) :
    (execOp a.eval o).run P w = .ok (.enter k (args.map a.eval ++ us)) w := by
  obtain ⟨fn, c, h1, h2, h3⟩ := he
  have h2' : ¬ fn.name = "runtime.NumGoroutine" := by simpa using h2
  simp [execOp, ho, resolve, Deferred.ofValue, hf, invoke, callFunc, h1, h2', h3]

theorem eqGuard_sl {op : BinOp} {t : TypeId} {x y : Operand} {A B : Option Addr} {n m c d : Nat} : (eqGuard op t x y (.slice A n c) (.slice B m d)).run P w = .ok () w := by
  cases op <;> simp [eqGuard]

theorem equal_sl1 {t el : TypeId} (ht : P.underlying t = some (.slice el)) (d : Nat) (A : Option Addr) (n c : Nat) : (Op.equalIn (d + 1) t (.slice A n c) (.slice none 0 0)).run P w = .ok A.isNone w := by
  cases A <;> simp [Op.equalIn, run_underlying ht]

theorem constAV_nil {t : TypeId} {v : Value} {e : Nat} (h : constAV P t v = some (.sl e true [])) : v = .slice none 0 0 := by
  unfold constAV at h
  split at h <;> first | (cases h; done) | rfl

theorem compO_isnil {o : Oper} {ng : Bool} {x' : Od} (h : compO1 P o = some (.isnil ng x')) : ∃ t el x yt e, o.op = .binOp (if ng then .neq else .eql) t x (.const (.slice none 0 0)) yt ∧ P.underlying t = some (.slice el) ∧ od P t x = some x' ∧ e = el := by
  unfold compO1 at h
  split at h
  case h_11 =>
    rename_i op t x y yt ho
    unfold compBin at h
    split at h
    case h_2 => cases h
    rename_i xo yo hx hy
    split at h
    case h_6 =>
      rename_i el ht
      split at h
      · rename_i e
        injection h with h; injection h with h1 h2; subst h1; subst h2
        have hy' : y = .const (.slice none 0 0) := by
          unfold od at hy
          split at hy
          · cases hy
          · rename_i v
            obtain ⟨w, hw, h2⟩ := map_some' hy
            injection h2 with h2; subst h2
            rw [constAV_nil hw]
          · cases hy
          · cases hy
        subst hy'
        exact ⟨t, el, x, yt, el, by simpa using ho, ht, hx, rfl⟩
      · rename_i e
        injection h with h; injection h with h1 h2; subst h1; subst h2
        have hy' : y = .const (.slice none 0 0) := by
          unfold od at hy
          split at hy
          · cases hy
          · rename_i v
            obtain ⟨w, hw, h2⟩ := map_some' hy
            injection h2 with h2; subst h2
            rw [constAV_nil hw]
          · cases hy
          · cases hy
        subst hy'
        exact ⟨t, el, x, yt, el, by simpa using ho, ht, hx, rfl⟩
      · cases h
    all_goals exfalso
    all_goals repeat' split at h
    all_goals first | (cases h; done) | (obtain ⟨_, _, h⟩ := map_some' h; cases h; done)
  all_goals exfalso
  all_goals try unfold compConv at h
  all_goals try unfold compCall at h
  all_goals repeat' split at h
  all_goals first | (cases h; done) | (obtain ⟨_, _, h⟩ := map_some' h; cases h; done) | skip

theorem oper_ok {o : Oper} {i : Ins} (hc : compI P n ops o = some i) (hst : StOK E st a w) (hn : a.tmps.size = n) {K : AV → Hp → Prop} (he : evO (Fn P) st.s st.h i.o K)
    {next : Act → World → Prop} (hnext : ∀ v h' u E' w', K v h' → HOK E' h' w' → Ext st.h.length E w E' w' → RV E' w' v u → next (a.put o.dst u) w') : o.wp P a w next Q := by
  unfold compI at hc
  split at hc
  case h_2 => cases hc
  rename_i p hp hd
  have hio : i.o = p := by
    split at hc
    · injection hc with hc; rw [← hc]
    · split at hc
      · split at hc
        · injection hc with hc; rw [← hc]
        · cases hc
      · cases hc
  rw [hio] at he
  by_cases hcall : p.isCall = true
  · have hp1 : compO1 P o = some p := by
      simp only [compO, Option.some.injEq] at hp
      cases h1 : compO1 P o with
      | none => rw [h1] at hp; subst hp; cases hcall
      | some q => rw [h1] at hp; exact congrArg some hp
    replace hp := hp1
    by_cases hnil : ∃ ng x, p = .isnil ng x
    · obtain ⟨ng, x', rfl⟩ := hnil
      obtain ⟨t, el, x, yt, _, ho, ht, hx, _⟩ := compO_isnil hp
      have hv := od_ok hst.slots hx
      have run : ∀ A n c, a.eval x = .slice A n c → (execOp a.eval o).run P w = .ok (.value (.bool (if ng then !A.isNone else A.isNone))) w := fun A n c hA => by
        have he2 : (Op.equal t (.slice A n c) (.slice none 0 0)).run P w = .ok A.isNone w := equal_sl1 (P := P) (w := w) ht 9999 A n c
        have hz : a.eval (.const (.slice none 0 0)) = .slice none 0 0 := rfl
        cases ng
        · simp only [Bool.false_eq_true, if_false] at ho ⊢
          simp only [execOp, ho, hA, hz, Sem.run_bind, eqGuard_sl, Result.andThen_ok, binOp, he2, Sem.run_pure]
        · simp only [if_true] at ho ⊢
          simp only [execOp, ho, hA, hz, Sem.run_bind, eqGuard_sl, Result.andThen_ok, binOp, he2, Sem.run_pure]
      have fin : ∀ A n c, a.eval x = .slice A n c → K (.bool (if ng then !A.isNone else A.isNone)) st.h → o.wp P a w next Q := fun A n c hA hK => by
        unfold Oper.wp
        rw [run A n c hA]
        exact hnext _ _ _ E w hK hst.heap (Ext.refl _ _ _) (.imm (.bool _))
      simp only [evO] at he
      split at he
      · rename_i e f hx'
        rw [hx'] at hv
        generalize hu : a.eval x = u at hv
        cases hv.sl_inv with
        | sl _ _ _ A cap g o uu hl hm hf hA hfit hcc hr =>
          refine fin A _ _ hu ?_
          cases A.isNone <;> cases ng <;> first | exact he.1 | exact he.2
      · rename_i e f y ys hx'
        rw [hx'] at hv
        generalize hu : a.eval x = u at hv
        cases hv.sl_inv with
        | sl _ _ _ A cap g o uu hl hm hf hA hfit hcc hr =>
          rcases hA with hA | hA
          · cases hA
          · subst hA
            refine fin _ _ _ hu ?_
            cases ng <;> exact he
      · rename_i e b off hx'
        rw [hx'] at hv
        obtain ⟨_, hrow⟩ := hv.row_inv
        have : ∃ A n c, a.eval x = .slice A n c := by
          rcases hrow with ⟨_, _, _, A, h⟩ | ⟨g, cap, A, _, h, _⟩
          · exact ⟨A, _, _, h⟩
          · exact ⟨A, _, _, h⟩
        obtain ⟨A, n, c, hA⟩ := this
        refine fin A n c hA ?_
        cases A.isNone <;> cases ng <;> first | exact he.1 | exact he.2
      · rename_i e b off len hx'
        rw [hx'] at hv
        obtain ⟨_, hrow⟩ := hv.row_inv
        rcases hrow with ⟨_, _, h, _⟩ | ⟨g, cap, A, _, h, hA, _⟩
        · cases h
        · rcases hA with rfl | ⟨_, hA⟩
          · refine fin _ _ _ h ?_
            cases ng <;> exact he
          · cases hA
      · exact he.elim
    cases p <;> first | exact absurd ⟨_, _, rfl⟩ hnil | cases hcall
    rename_i f as
    simp only [evO] at he
    split at he
    case h_2 => exact he.elim
    rename_i k caps hf
    unfold compO1 at hp
    split at hp
    all_goals first | (cases hp; done) | (obtain ⟨_, _, hp⟩ := map_some' hp; cases hp; done) | skip
    case h_22 =>
      rename_i c ho
      obtain ⟨cal, args, ts⟩ := c
      unfold compCall at hp
      dsimp only at hp
      split at hp
      · rename_i f'
        split at hp
        case h_2 => cases hp
        rename_i fo aso hfo hao
        split at hp
        · cases hp
        injection hp with hp; injection hp with e1 e2; subst e1; subst e2
        have h1 := od_ok hst.slots hfo
        rw [hf] at h1
        obtain ⟨us, hu, hus, hur⟩ := h1.fn_inv
        have hrun := run_call (P := P) (w := w) ho hu he.1
        obtain ⟨l1, l2⟩ := ods_ok hst.slots hao
        unfold Oper.wp
        rw [hrun]
        have hcalls := he.2.2 E w (args.map a.eval ++ us) hst.heap (by simp at l1; simp [hus, l1]) (fun j c u hj hu => by
          by_cases hjl : j < args.size
          · rw [List.getElem?_append_left (by simp at l1; simpa [l1] using hjl)] at hj
            rw [Array.getElem?_append_left (by simpa using hjl)] at hu
            simp only [List.getElem?_map, Option.map_eq_some_iff, Array.getElem?_map] at hj hu
            obtain ⟨y, hy, rfl⟩ := hj
            obtain ⟨x, hx, rfl⟩ := hu
            exact l2 j x y (by simpa using hx) hy
          · have l1' := l1.trans Array.length_toList
            rw [List.getElem?_append_right (by simp [l1']; omega)] at hj
            rw [Array.getElem?_append_right (by simp; omega)] at hu
            simp only [List.length_map, l1', Array.size_map] at hj hu
            exact hur _ _ _ hj hu)
        refine Calls.mono hcalls ?_
        rintro e w' ⟨u, E', r, h', rfl, hk, hok, hext, hrv⟩
        exact hnext r h' u E' w' hk hok hext hrv
      · cases hp
      · exfalso
        split at hp
        all_goals repeat' split at hp
        all_goals first | (cases hp; done) | (obtain ⟨_, _, hp⟩ := map_some' hp; cases hp; done)
    all_goals exfalso
    all_goals try unfold compBin at hp
    all_goals try unfold compConv at hp
    all_goals repeat' split at hp
    all_goals first | (cases hp; done) | (obtain ⟨_, _, hp⟩ := map_some' hp; cases hp; done)
  · have hcall : p.isCall = false := by simpa using hcall
    rw [evO_op hcall] at he
    split at he
    case h_2 => exact he.elim
    rename_i q hq
    obtain ⟨u, w', E', nx, hrun, hnx, hok, hext, hrv⟩ := compO_ok hst.heap hst.slots hp (v := q.1) (h' := q.2) hq
    unfold Oper.wp
    rw [hrun]
    rcases hnx with rfl | ⟨rfl, rfl⟩
    · exact hnext _ _ _ _ _ he hok hext hrv
    · exact hnext _ _ _ _ _ he hok hext hrv

theorem dst_lt {o : Oper} {i : Ins} (hc : compI P n ops o = some i) : o.dst = i.d ∧ ∀ d, i.d = some d → d < n := by
  unfold compI at hc
  split at hc
  case h_2 => cases hc
  rename_i p hp hd
  have hid : i.d = o.dst := by
    split at hc
    · injection hc with hc; rw [← hc]
    · split at hc
      · split at hc
        · injection hc with hc; rw [← hc]
        · cases hc
      · cases hc
  refine ⟨hid.symm, fun d hd' => ?_⟩
  rw [hid] at hd'
  rw [hd'] at hd
  simpa using hd

theorem evT_le {F G : CallF} (hFG : ∀ k args h K, F k args h K → G k args h K) {i : Ins} {K : St → Prop} {st : St} (he : evT F i K st) : evT G i K st := by
  have evL : ∀ {s h o K}, evO F s h o K → evO G s h o K := fun {s h o K} he => by
    by_cases hc : o.isCall = true
    · cases o <;> try cases hc
      · simp only [evO] at he ⊢
        split at he
        · exact hFG _ _ _ _ he
        · exact he.elim
      · exact he
    · rw [evO_op (by simpa using hc)] at he ⊢
      exact he
  unfold evT act at *
  split at he
  · exact evL he
  · split at he
    · split at he
      · rename_i c; simp only [c, if_true]; exact evL he
      · rename_i c; simp only [c, if_false]; exact he
    · exact he
    · exact he.elim

theorem wpOp_ok {j : Nat} {o : Oper} {i : Ins} (ho : ops[j]? = some o) (hc : compI P n ops o = some i) (hst : StOK E st a w) (hn : a.tmps.size = n) {K : St → Prop} (he : evT (Fn P) i K st) :
    wpOp P ops Q j (Then lo n E w K) a w := by
  obtain ⟨hd1, hd2⟩ := dst_lt hc
  have fin : ∀ v h' u E' w', K ⟨put? st.s i.d v, h'⟩ → HOK E' h' w' → Ext st.h.length E w E' w' → RV E' w' v u → Then lo n E w K (a.put o.dst u) w' := fun v h' u E' w' hk hok hext hrv =>
    ⟨_, E', hk, ⟨hd1 ▸ SOK.put? (fun j => (hst.slots j).ext hext hst.heap.dom) hrv _ (fun d hd => by rw [hn]; exact hd2 d (hd1 ▸ hd)), by rw [put_defers]; exact hst.defers, hok⟩, by rw [put_size]; exact hn, hext.wide hst.heap lo⟩
  have yes : evO (Fn P) st.s st.h i.o (fun v h => K ⟨put? st.s i.d v, h⟩) → o.wp P a w (Then lo n E w K) Q := fun he => oper_ok hc hst hn he fin
  unfold wpOp
  rw [ho]
  dsimp only
  unfold evT act at he
  have hg : i.g = none ∧ o.guard = none ∨ ∃ g0 s0 want, i.g = some (s0, want) ∧ o.guard = some (g0, want) ∧ slotOf ops g0 = some s0 ∧ s0 < n := by
    unfold compI at hc
    split at hc
    case h_2 => cases hc
    split at hc
    · rename_i hg
      injection hc with hc; subst hc
      exact .inl ⟨rfl, hg⟩
    · rename_i g0 want hg
      split at hc
      · rename_i s0 hs0
        split at hc
        · rename_i hlt
          injection hc with hc; subst hc
          exact .inr ⟨g0, s0, want, rfl, hg, hs0, hlt⟩
        · cases hc
      · cases hc
  rcases hg with ⟨h1, h2⟩ | ⟨g0, s0, want, h1, h2, h3, h4⟩
  · rw [h1] at he
    simp only [Region.wanted, h2, if_true]
    exact .inl (yes he)
  · rw [h1] at he
    dsimp only at he
    have hlt : s0 < a.tmps.size := by omega
    have skip : StOK E st a w → yielded ops a.tmps g0 ≠ some want → K ⟨put? st.s i.d (.tup []), st.h⟩ → wpOp P ops Q j (Then lo n E w K) a w := fun _ hy he => by
      unfold wpOp
      rw [ho]
      dsimp only
      have hwant : Region.wanted o (yielded ops a.tmps) = false := by
        simp only [Region.wanted, h2, beq_eq_false_iff_ne, ne_eq]
        exact hy
      simp only [hwant, Bool.false_eq_true, if_false]
      exact fin _ _ _ _ _ he hst.heap (Ext.refl _ _ _) (.imm (.tup [] #[] rfl fun i c u hc => by simp at hc))
    have at_ : ∀ v, (a.tmps.getD s0 undef) = v → yielded ops a.tmps g0 = (match v with | .bool b => some b | _ => none) := fun v hv => by
      unfold yielded
      unfold slotOf at h3
      rw [h3]
      have : a.tmps[s0]? = some v := by
        rw [Array.getElem?_eq_getElem hlt]
        simpa [hlt] using hv
      simp only [Option.bind_some, this]
      cases v <;> rfl
    split at he
    · rename_i b hb
      have hv := hst.slots s0
      rw [hb] at hv
      have hy := at_ _ hv.bool_inv
      dsimp only at hy
      split at he
      · rename_i hbw
        have hwant : Region.wanted o (yielded ops a.tmps) = true := by
          simp [Region.wanted, h2, hy, hbw]
        rw [hwant]
        exact .inl (yes he)
      · rename_i hbw
        have := skip hst (by rw [hy]; intro e; injection e with e; exact hbw e) he
        unfold wpOp at this
        rw [ho] at this
        exact this
    · rename_i hb
      have hv := hst.slots s0
      rw [hb] at hv
      obtain ⟨us, hu, hs, _⟩ := hv.tup_inv
      have hy := at_ _ hu
      dsimp only at hy
      have := skip hst (by rw [hy]; intro e; cases e) he
      unfold wpOp at this
      rw [ho] at this
      exact this
    · exact he.elim

theorem omap_get {α β : Type} {f : α → Option β} : ∀ {l : List α} {r : List β}, omap f l = some r → r.length = l.length ∧ ∀ (i : Nat) x, l[i]? = some x → ∃ y, r[i]? = some y ∧ f x = some y
  | [], r, h => by injection h with h; subst h; exact ⟨rfl, fun i x hx => by simp at hx⟩
  | c :: cs, r, h => by
    simp only [omap] at h
    split at h
    case h_2 => cases h
    rename_i x xs h1 h2
    injection h with h; subst h
    obtain ⟨k1, k2⟩ := omap_get h2
    refine ⟨by simp [k1], fun i y hy => ?_⟩
    cases i with
    | zero => simp at hy; subst hy; exact ⟨x, rfl, h1⟩
    | succ i => simpa using k2 i y (by simpa using hy)

theorem Then.next {E' : Env} {w' : World} (x : Ext lo E w E' w') {K : St → Prop} {a' : Act} {w'' : World} (h : Then lo n E' w' K a' w'') : Then lo n E w K a' w'' := by
  obtain ⟨st', E'', k1, k2, k3, k4⟩ := h
  exact ⟨st', E'', k1, k2, k3, x.trans k4 (Nat.le_refl _)⟩

/-- The operations of a list of places, one behind the other. -/
theorem wpOps_ok {is : List Ins} (hc : omap (compI P n ops) ops.toList = some is) : ∀ (l : List Nat) (st : St) (E : Env) (a : Act) (w : World), (∀ j ∈ l, j < ops.size) → StOK E st a w → a.tmps.size = n → ∀ {K : St → Prop},
    evTs (Fn P) (l.map fun j => is.getD j default) K st → (∀ a' w', Then lo n E w K a' w' → Q .normal a' w') → wpOps P ops Q l a w
  | [], st, E, a, w, _, hst, hn, K, he, hq => hq a w ⟨st, E, he, hst, hn, Ext.refl _ _ _⟩
  | j :: l, st, E, a, w, hl, hst, hn, K, he, hq => by
    have hj := hl j List.mem_cons_self
    have ho : ops[j]? = some ops[j] := Array.getElem?_eq_getElem hj
    obtain ⟨_, h2⟩ := omap_get hc
    obtain ⟨i, hi, hci⟩ := h2 j ops[j] (by simp)
    rw [wpOps_cons]
    simp only [List.map_cons, evTs, List.getD_eq_getElem?_getD, hi, Option.getD_some] at he
    refine wpOp_mono (fun a' w' h => ?_) (wpOp_ok (lo := lo) ho hci hst hn he)
    obtain ⟨st', E', k1, k2, k3, k4⟩ := h
    exact wpOps_ok hc l st' E' a' w' (fun j hj => hl j (List.mem_cons_of_mem _ hj)) k2 k3 k1 fun a'' w'' h => hq a'' w'' (h.next k4)
end
end Go.Ab
