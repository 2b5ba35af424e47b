/-
  The abstract machine, thirty-fourth part: the arguments of a law's row as typed data, and the row's proof from a walk.
-/
import Derived.Test.YtkbjimfganeooaaAb33
import Derived.Carry
import Derived.SizedLaws
import Derived.OpenShut
import Derived.ShutString
import Derived.WideShapes
set_option linter.unusedSimpArgs false
set_option linter.unusedVariables false
namespace Go.Ab
open Go Go.RowKit Go.WideShapes

theorem mapM_nth {α β : Type} {f : α → Option β} : ∀ {l : List α} {r : List β}, l.mapM f = some r → r.length = l.length ∧ ∀ (i : Nat) x, l[i]? = some x → ∃ y, r[i]? = some y ∧ f x = some y
  | [], r, h => by simp at h; subst h; exact ⟨rfl, fun i x hx => by simp at hx⟩
  | c :: cs, r, h => by
    rw [List.mapM_cons] at h
    cases hc : f c with
    | none => rw [hc] at h; cases h
    | some y =>
      rw [hc] at h
      cases hcs : cs.mapM f with
      | none => rw [hcs] at h; cases h
      | some ys =>
        rw [hcs] at h
        cases h
        obtain ⟨k1, k2⟩ := mapM_nth hcs
        refine ⟨by simp [k1], fun i x hx => ?_⟩
        cases i with
        | zero => simp at hx; subst hx; exact ⟨y, rfl, hc⟩
        | succ i => simpa using k2 i x (by simpa using hx)

theorem RIL.append {S : Nat → Nat → Prop} {w : World} : ∀ {as bs : List AV} {us vs : List Value}, RIL S w as us → RIL S w bs vs → RIL S w (as ++ bs) (us ++ vs)
  | [], _, [], _, _, h => h
  | [], _, _ :: _, _, h, _ => h.elim
  | _ :: _, _, [], _, h, _ => h.elim
  | _ :: _, _, _ :: _, _, h, k => ⟨h.1, RIL.append h.2 k⟩

theorem weights_mem_all {H : Type} {P : Program} {t : TypeId} : ∀ {ds : List (DataW H)} {d : DataW H}, d ∈ ds → ∀ n ∈ d.weights P t, n ∈ DataW.weightsAll P t ds
  | d0 :: ds, d, hd, n, hn => by
    simp only [DataW.weightsAll, List.mem_append]
    rcases List.mem_cons.1 hd with rfl | hd
    · exact .inl hn
    · exact .inr (weights_mem_all hd n hn)

/-- What is read fits into a process's memory, each piece by itself. -/
def Small {H : Type} (P : Program) (t : TypeId) (d : DataW H) : Prop := ∀ n ∈ d.weights P t, n ≤ reachBytes

/-- A type's values, read, are typed data. -/
structure Opens (P : Program) (t : TypeId) (e : Nat) {τ : Type} (enc : τ → AV) (wf : τ → Prop) : Prop where
  size : P.cellsOf t = esz e
  form : ∀ (W : World) (r : Reach) (b : Nat) (v : Value), Value.okWide P W r b t v → if e = 0 then v.cells = #[v] else ∃ us, v = .agg us
  go : ∀ {H : Type} (encH : TypeId × Value → H) (W : World) (fuel : Nat) (cs : List Value) (d : DataW H) (ps : List MemPlace), DataW.trod encH P W 0 (fun _ => true) true fuel t cs = some (d, ps) → (∀ x ∈ ps, x.block < W.heap.size) → Small P t d →
    ∃ x, wf x ∧ RIL (Old W) W (enc x).cells cs

section
variable {P : Program} {t : TypeId} {τ : Type} {enc : τ → AV} {wf : τ → Prop} {e : Nat}

theorem cells_fit0 {v : AV} (h : v.fits 0 = true) : v.cells = [v] := by
  cases v <;> first | rfl | (simp [AV.fits] at h)

theorem RI.cells1 {S : Nat → Nat → Prop} {w : World} {v : AV} {c : Value} (h : RI S w v c) (hf : v.fits 0 = true) : c.cells = #[c] := by
  cases h <;> first | rfl | (simp [AV.fits, AV.one] at hf; done)

theorem fits_succ {v : AV} {n : Nat} (h : v.fits (n + 1) = true) : ∃ cs, v = .agg cs ∧ cs.length = n + 1 := by
  cases v <;> first
    | (simp [AV.fits] at h; done)
    | (rename_i cs; simp only [AV.fits, Bool.and_eq_true, beq_iff_eq] at h; exact ⟨cs, rfl, h.1.1.symm⟩)

theorem Opens.val (o : Opens P t e enc wf) [IsEnc e enc] {H : Type} {encH : TypeId × Value → H} {W : World} {r : Reach} {b : Nat} {v : Value} {d : DataW H} {ps : List MemPlace} (hv : Value.okWide P W r b t v)
    (h : DataW.Trod encH P W 0 (fun _ => true) true t v d ps) (hlt : ∀ x ∈ ps, x.block < W.heap.size) (hw : Small P t d) : ∃ x, wf x ∧ RI (Old W) W (enc x) v := by
  obtain ⟨fuel, hf⟩ := h
  obtain ⟨x, hx, hr⟩ := o.go encH W fuel _ d ps hf hlt hw
  refine ⟨x, hx, ?_⟩
  have hform := o.form W r b v hv
  have hfit := IsEnc.fits (enc := enc) x
  cases e with
  | zero =>
    rw [if_pos rfl] at hform
    rw [hform, cells_fit0 hfit] at hr
    exact hr.1
  | succ n =>
    rw [if_neg (by omega)] at hform
    obtain ⟨us, rfl⟩ := hform
    obtain ⟨cs, hcs, hl⟩ := fits_succ hfit
    rw [hcs] at hr ⊢
    obtain ⟨k1, k2⟩ := RIL.get (show RIL (Old W) W cs _ from hr)
    refine .agg cs us (by simpa [Value.cells] using k1) fun i c u hc hu => k2 i c u hc (by simpa [Value.cells] using hu)

theorem opens_int {k : IntKind} (ht : P.underlying t = some (.int k)) (hs : P.cellsOf t = 1) : Opens P t 0 (AV.int k) (fun n => (Lit.int k n).wf = true) where
  size := hs
  form := fun W r b v hv => by obtain ⟨n, rfl⟩ := okWide_int ht hv; rfl
  go := fun encH W fuel cs d ps h _ _ => by
    obtain ⟨n, h1, h2, h3⟩ := DataW.trod_int ht h
    subst h1
    exact ⟨n, h3, .int k n, trivial⟩

theorem opens_bool (ht : P.underlying t = some .bool) (hs : P.cellsOf t = 1) : Opens P t 0 AV.bool (fun _ => True) where
  size := hs
  form := fun W r b v hv => by obtain ⟨n, rfl⟩ := okWide_bool ht hv; rfl
  go := fun encH W fuel cs d ps h _ _ => by
    obtain ⟨b, rfl, _⟩ := DataW.trod_bool ht h
    exact ⟨b, trivial, .bool b, trivial⟩

theorem opens_str (ht : P.underlying t = some .string) (hs : P.cellsOf t = 1) : Opens P t 0 AV.str (fun s => s.length ≤ 140737488351232) where
  size := hs
  form := fun W r b v hv => by obtain ⟨n, rfl⟩ := okWide_string ht hv; rfl
  go := fun encH W fuel cs d ps h _ hw => by
    obtain ⟨s, rfl, hx, hl⟩ := DataW.trod_string ht h
    injection hx with h1 h2
    subst h1
    refine ⟨s.data.toList, hw _ (by simp [DataW.weights]), ?_, trivial⟩
    have : s = ⟨s.data.toList.toArray⟩ := by cases s; simp
    have h2 := RI.str (S := Old W) (w := W) s.data.toList
    rwa [← this] at h2

/-- A struct: from its fields. -/
theorem Opens.struct {fs : Array Field} (ht : P.underlying t = some (.struct fs)) (hs : P.cellsOf t = esz e) (he : e ≠ 0)
    (hgo : ∀ {H : Type} (encH : TypeId × Value → H) (W : World) (n : Nat) (cs : List Value) (xs : List (DataW H × List MemPlace)), (∀ x ∈ xs.flatMap (·.2), x.block < W.heap.size) → cs.length = esz e → xs.length = fs.size →
      (∀ (i : Nat) (f : Field), fs[i]? = some f → DataW.trod encH P W 0 (fun _ => true) true n f.type ((cs.drop f.offset).take (P.cellsOf f.type)) = xs[i]?) →
      (∀ (i : Nat) (f : Field) d, fs[i]? = some f → xs[i]? = some d → Small P f.type d.1) → ∃ x, wf x ∧ RIL (Old W) W (enc x).cells cs) : Opens P t e enc wf where
  size := hs
  form := fun W r b v hv => by
    rw [if_neg he]
    obtain ⟨us, rfl, _⟩ := okWide_struct ht hv
    exact ⟨us, rfl⟩
  go := fun encH W fuel cs d ps h hlt hw => by
    obtain ⟨xs, n, rfl, hx, hl, hn, hf⟩ := DataW.trod_struct ht h
    injection hx with h1 h2
    subst h2
    subst h1
    refine hgo encH W n cs xs hlt (hl.trans hs) hn hf fun i f d hi hd k hk => hw k ?_
    simp only [DataW.weights, ht]
    exact DataW.weights_mem_each (j := i) (by simp [hi]) (by simp [hd]) k hk

/-- One field. -/
theorem Opens.field {t' : TypeId} {e' : Nat} {τ' : Type} {enc' : τ' → AV} {wf' : τ' → Prop} (o : Opens P t' e' enc' wf') {H : Type} {encH : TypeId × Value → H} {W : World} {n : Nat} {cs : List Value} {xs : List (DataW H × List MemPlace)} {fs : Array Field}
    (hlt : ∀ x ∈ xs.flatMap (·.2), x.block < W.heap.size) (hn : xs.length = fs.size)
    (hf : ∀ (i : Nat) (f : Field), fs[i]? = some f → DataW.trod encH P W 0 (fun _ => true) true n f.type ((cs.drop f.offset).take (P.cellsOf f.type)) = xs[i]?) (hw : ∀ (i : Nat) (f : Field) d, fs[i]? = some f → xs[i]? = some d → Small P f.type d.1) (i : Nat) {f : Field} (hi : fs[i]? = some f) (ht : f.type = t') {o' : Nat} (ho : f.offset = o') :
    ∃ x, wf' x ∧ RIL (Old W) W (enc' x).cells ((cs.drop o').take (esz e')) := by
  subst ht; subst ho
  have hil : i < xs.length := by rw [hn]; exact (Array.getElem?_eq_some_iff.1 hi).1
  have h1 := hf i f hi
  rw [List.getElem?_eq_getElem hil, o.size] at h1
  exact o.go encH W n _ xs[i].1 xs[i].2 h1 (fun x hx => hlt x (List.mem_flatMap.2 ⟨xs[i], List.getElem_mem hil, hx⟩)) (hw i f xs[i] hi (List.getElem?_eq_getElem hil))

theorem cells?_nth {w : World} {b : Nat} {a : Addr} {n : Nat} {ys : List Value} (h : w.cells? b a n = some ys) : ys.length = n ∧ ∀ (j : Nat) c, ys[j]? = some c → w.cell? (a.add j) = some c := by
  unfold World.cells? at h
  split at h
  · obtain ⟨h1, h2⟩ := mapM_nth h
    refine ⟨by simpa using h1, fun j c hc => ?_⟩
    have hj : j < n := by have := (List.getElem?_eq_some_iff.1 hc).1; simpa [h1] using this
    obtain ⟨y, k1, k2⟩ := h2 j j (List.getElem?_range hj)
    rw [hc] at k1
    injection k1 with k1
    rw [k2, k1]
  · cases h

/-- Slices. -/
theorem opens_sl {t' : TypeId} {e' : Nat} {τ' : Type} {enc' : τ' → AV} {wf' : τ' → Prop} (o : Opens P t' e' enc' wf') [IsEnc e' enc'] (ht : P.underlying t = some (.slice t')) (hs : P.cellsOf t = 1) {B : Nat} (hB : P.bytesOf t' = B) :
    Opens P t 0 (eL e' enc') (fun xs => xs.length * B ≤ 140737488351232 ∧ ∀ x ∈ xs, wf' x) where
  size := hs
  form := fun W r b v hv => by obtain ⟨a, n, c, rfl⟩ := okWide_slice ht hv; rfl
  go := fun {H} encH W fuel cs d ps h hlt hw => by
    rcases DataW.trod_slice ht h with ⟨rfl, _⟩ | ⟨a, len, cap, elems, rest, n, rfl, rfl, hx, _, hlc, hcm, hel, hget, _⟩
    · exact ⟨[], ⟨by simp, fun x hx => by simp at hx⟩, .sl e' false [] none 0 0 0 (fun _ => undef) (Nat.le_refl _) (Nat.zero_le _) (fun h => by cases h) (.inl rfl) (fun i x hx => by simp at hx) (fun i x hx => by simp at hx) (fun i x hx => by simp at hx) (fun _ h => absurd rfl h), trivial⟩
    · injection hx with h1 h2
      subst h2
      subst h1
      have hsm : (elems.length + rest.length) * B ≤ 140737488351232 := by
        have := hw ((elems.length + rest.length) * B) (by simp [DataW.weights, ht, hB])
        exact this
      have hes : ∀ y ∈ elems, Small P t' y.1 := fun y hy k hk => hw k (by
        simp only [DataW.weights, ht]
        exact List.mem_cons_of_mem _ (List.mem_append_left _ (weights_mem_all (List.mem_map.2 ⟨y, hy, rfl⟩) k hk)))
      have hps : ∀ y ∈ elems, ∀ x ∈ y.2, x.block < W.heap.size := fun y hy x hx => hlt x (List.mem_append_right _ (List.mem_flatMap.2 ⟨y, List.mem_append_left _ hy, hx⟩))
      have each : ∀ i : Fin len, ∃ x : τ', ∃ ys : List Value, wf' x ∧ RIL (Old W) W (enc' x).cells ys ∧ W.cells? 0 (a.add (i.1 * P.cellsOf t')) (P.cellsOf t') = some ys := fun i => by
        have hi := hget i.1 i.2
        have hil : i.1 < elems.length := by rw [hel]; exact i.2
        rw [List.getElem?_eq_getElem hil] at hi
        obtain ⟨ys, hys, ht'⟩ := Option.bind_eq_some_iff.1 hi
        obtain ⟨x, hx, hr⟩ := o.go encH W n ys elems[i.1].1 elems[i.1].2 ht' (fun x hx => hps _ (List.getElem_mem hil) x hx) (hes _ (List.getElem_mem hil))
        exact ⟨x, ys, hx, hr, hys⟩
      let xf : Fin len → τ' := fun i => (each i).choose
      have hxf : ∀ i : Fin len, ∃ ys : List Value, wf' (xf i) ∧ RIL (Old W) W (enc' (xf i)).cells ys ∧ W.cells? 0 (a.add (i.1 * P.cellsOf t')) (P.cellsOf t') = some ys := fun i => (each i).choose_spec
      let yf : Fin len → List Value := fun i => (hxf i).choose
      have hyf : ∀ i : Fin len, wf' (xf i) ∧ RIL (Old W) W (enc' (xf i)).cells (yf i) ∧ W.cells? 0 (a.add (i.1 * P.cellsOf t')) (P.cellsOf t') = some (yf i) := fun i => (hxf i).choose_spec
      let u : Nat → Value := fun i => if hi : i < len then (if e' = 0 then (yf ⟨i, hi⟩).headD undef else .agg (yf ⟨i, hi⟩).toArray) else undef
      have hcell : ∀ (i : Fin len) (j : Nat) c, (yf i)[j]? = some c → W.cell? (a.add (i.1 * esz e' + j)) = some c := fun i j c hc => by
        have h3 := (cells?_nth (hyf i).2.2).2 j c hc
        rw [o.size] at h3
        have : (a.add (i.1 * esz e')).add j = a.add (i.1 * esz e' + j) := by
          by_cases h0 : i.1 * esz e' = 0
          · simp [Addr.add, h0]
          · by_cases hj : j = 0
            · simp [Addr.add, hj]
            · simp [Addr.add, h0, hj]; omega
        rwa [this] at h3
      have hylen : ∀ i : Fin len, (yf i).length = esz e' := fun i => by have := (cells?_nth (hyf i).2.2).1; rwa [o.size] at this
      have hucells : ∀ i : Fin len, (u i.1).cells.toList = yf i := fun i => by
        simp only [u, i.2, dif_pos]
        split
        · rename_i h0
          have := hylen i
          rw [h0, esz_zero] at this
          obtain ⟨c, hc⟩ := List.length_eq_one_iff.1 this
          have hr := (hyf i).2.1
          rw [hc]
          simp only [List.headD_cons]
          rw [hc] at hr
          subst h0
          rw [cells_fit0 (IsEnc.fits (enc := enc') (xf i))] at hr
          rw [hr.1.cells1 (IsEnc.fits (enc := enc') (xf i))]
        · rfl
      have hri : ∀ i : Fin len, RI (Old W) W (enc' (xf i)) (u i.1) := fun i => by
        have hr := (hyf i).2.1
        have hfit := IsEnc.fits (enc := enc') (xf i)
        simp only [u, i.2, dif_pos]
        split
        · rename_i h0
          subst h0
          have := hylen i
          rw [esz_zero] at this
          obtain ⟨c, hc⟩ := List.length_eq_one_iff.1 this
          rw [hc, cells_fit0 hfit] at hr
          rw [hc]
          exact hr.1
        · rename_i h0
          obtain ⟨m, rfl⟩ : ∃ m, e' = m + 1 := ⟨e' - 1, by omega⟩
          obtain ⟨cs, hcs, _⟩ := fits_succ hfit
          rw [hcs] at hr ⊢
          obtain ⟨k1, k2⟩ := RIL.get (show RIL (Old W) W cs _ from hr)
          exact .agg cs _ (by simpa using k1) fun i c u hc hu => k2 i c u hc (by simpa using hu)
      refine ⟨List.ofFn xf, ⟨Nat.le_trans (Nat.mul_le_mul_right _ (by simp; omega)) hsm, fun x hx => ?_⟩, ?_, trivial⟩
      · obtain ⟨i, rfl⟩ := List.mem_ofFn.1 hx
        exact (hyf i).1
      · have hnth : ∀ (i : Nat) x, ((List.ofFn xf).map enc')[i]? = some x → ∃ hi : i < len, x = enc' (xf ⟨i, hi⟩) := fun i x hx => by
          simp only [List.getElem?_map, Option.map_eq_some_iff] at hx
          obtain ⟨y, hy, rfl⟩ := hx
          obtain ⟨h3, h4⟩ := List.getElem?_eq_some_iff.1 hy
          exact ⟨by simpa using h3, by rw [← h4]; simp⟩
        have hblock : ∀ (i : Fin len), a.block < W.heap.size := fun i => by
          have h0 : 0 < P.cellsOf t' := by rw [o.size]; exact esz_pos _
          have hlen : 0 < (elems.length + rest.length) * P.cellsOf t' := Nat.mul_pos (by have := i.2; omega) h0
          exact hlt (.cell a.block (a.off + 0)) (List.mem_append_left _ (List.mem_map.2 ⟨0, List.mem_range.2 hlen, rfl⟩))
        have haddr : ∀ (i : Fin len), a = ⟨a.block, a.off, none⟩ := fun i => by
          have h1 := hylen ⟨0, by have := i.2; omega⟩
          have h2 : 0 < (yf ⟨0, by have := i.2; omega⟩).length := by rw [h1]; exact esz_pos _
          have h3 := hcell ⟨0, by have := i.2; omega⟩ 0 _ (List.getElem?_eq_getElem h2)
          simp only [Nat.zero_mul, Nat.add_zero, Addr.add, if_true] at h3
          unfold World.cell? at h3
          split at h3
          · split at h3
            · cases h3
            · rename_i hsp
              cases a with
              | mk b o s => cases s with
                | none => rfl
                | some s => simp at hsp
          · cases h3
        show RI (Old W) W (.sl e' false ((List.ofFn xf).map enc')) (.slice (some a) len cap)
        have hl : ((List.ofFn xf).map enc').length = len := by simp
        have main := RI.sl (S := Old W) (w := W) e' false ((List.ofFn xf).map enc') (some a) cap a.block a.off u (by rw [hl]; exact hlc) hcm (fun h => by cases h) (by
            by_cases h0 : len = 0
            · left; exact List.eq_nil_of_length_eq_zero (hl.trans h0)
            · right; rw [← haddr ⟨0, by omega⟩])
          (fun i x hx => by obtain ⟨hi, rfl⟩ := hnth i x hx; exact IsEnc.fits _)
          (fun i x hx j c hj => by
            obtain ⟨hi, rfl⟩ := hnth i x hx
            have hc : (yf ⟨i, hi⟩)[j]? = some c := by rw [← hucells ⟨i, hi⟩]; simpa using hj
            have h3 := hcell ⟨i, hi⟩ j c hc
            refine ⟨hblock ⟨i, hi⟩, ?_⟩
            have ha := haddr ⟨i, hi⟩
            have : a.add (i * esz e' + j) = ⟨a.block, a.off + (i * esz e' + j), none⟩ := by
              rw [ha]; simp only [Addr.add]
              split
              · rename_i h0; simp only [h0, Nat.add_zero]
              · rfl
            rwa [this] at h3)
          (fun i x hx => by obtain ⟨hi, rfl⟩ := hnth i x hx; exact hri ⟨i, hi⟩) (fun h => by cases h)
        rwa [hl] at main

/-- What a law's walk gives its row. -/
theorem Pure.below {f : Nat} {as : List AV} (hp : Pure P f as (· = .bool true)) {us : Array Value} {w : World} (hr : RIL (Old w) w as us.toList) :
    Calls P f us w fun e w' => e = .returned (.bool true) ∧ Below w.heap.size w w' ∧ ∀ a : Addr, a.block < w.heap.size → w'.frozen? a = w.frozen? a := by
  obtain ⟨h1, h2⟩ := hr.get
  refine Calls.mono (hp.2.2 (Old w) w us (fun g o h => h) (by simpa using h1) fun i c u hc hu => h2 i c u hc (by simpa using hu)) ?_
  rintro e w' ⟨u, S', r, rfl, rfl, hb, _, _, _, hres⟩
  have hu : u = .bool true := by
    rcases hres with h | ⟨e, xs, h, _⟩ | ⟨cs, us, h, _⟩
    · cases h; rfl
    · cases h
    · cases h
  subst hu
  exact ⟨rfl, ⟨hb.os, hb.tape, hb.output, hb.size, hb.block⟩, hb.frz⟩

open Go.ChangeShapes in
/-- A row's post, where the arguments read as before and no cell that was there has been frozen. -/
theorem post_still {H : Type} {enc : TypeId × Value → H} {P : Program} {f : Func} {s : ChangeSpec} {apart fresh handsOn again : Bool} {W W' : World} {args : Array Value} {v : Value} {ds gs : List (DataW H)} {before pa : List MemPlace}
    (hW : DataW.Whole enc P f.params.toList s.vars apart W args.toList ds gs before)
    (hres : ∀ (b : Nat) (sp : Nat → Bool) (hd : Bool), DataW.TrodAll enc P W' b sp hd f.resultTypes.toList (v.resultList f.resultTypes.size) (s.fn H (ds ++ gs)).results [])
    (hargs : ∀ sp : Nat → Bool, (∀ p ∈ before, sp p.block = true) → DataW.TrodAll enc P W' 0 sp true f.params.toList args.toList (s.fn H (ds ++ gs)).args pa)
    (hvars : ∀ sp : Nat → Bool, DataW.TrodVars enc P W' sp s.vars (s.fn H (ds ++ gs)).vars []) (hps : before = pa ++ [])
    (hk : W.keptBut W' (· ∈ before)) (hz : ∀ a : Addr, a.block < W.heap.size → W'.frozen? a = W.frozen? a)
    (hok : ∀ (j : Nat) (t : TypeId) (r : Value), f.resultTypes[j]? = some t → (v.resultList f.resultTypes.size)[j]? = some r → Value.okWide P W' .any 0 t r) :
    s.post enc P f apart fresh handsOn again W args v W' := by
  obtain rfl : before = pa := by rw [hps, List.append_nil]
  have hlt := hW.lt
  refine ⟨ds, gs, before, [], before, [], hW, hres _ _ _, hargs _ fun p hp => by simpa using hlt p hp, hvars _, World.keptBut_mono (fun p hp => ⟨hp, .inr (.inl hp)⟩) hk, fun _ => ?_⟩
  obtain ⟨_, _, _, _, _, hfrz, hdup⟩ := hW
  have hsame : before ++ ([] : List MemPlace) = before := List.append_nil _
  refine ⟨hok, _, _, before, ⟨before, [], trodAll_append (hargs _ fun _ _ => rfl) (hres _ _ _), hvars _, hsame.symm, fun b off hp => ?_, fun ha => hdup ha⟩, fun p hp _ => hp⟩
  rw [hz ⟨b, off, none⟩ (hlt _ hp)]
  exact hfrz b off hp
end
end Go.Ab
