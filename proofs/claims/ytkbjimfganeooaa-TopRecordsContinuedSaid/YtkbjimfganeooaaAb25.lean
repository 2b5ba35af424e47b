/-
  The abstract machine, twenty-fifth part: nil slices in cells.
-/
import Derived.Test.YtkbjimfganeooaaAb24
set_option linter.unusedSimpArgs false
set_option linter.unusedVariables false
namespace Go.Ab
open Go

/-- A nil slice in a cell is an empty row. -/
theorem Le.nilCell {lo : Nat} {st : St} {b o e : Nat} {cs : List AV} (hb : st.h[b]? = some (.cel cs)) (ho : cs[o]? = some (.sl e true [])) :
    Le lo st ⟨st.s, (st.h ++ [HB.els e []]).set b (HB.cel (cs.set o (AV.row e st.h.length 0 0)))⟩ := fun E a w hst => by
  have hx := hst.heap.ext_more (More.refl w) none e 0
  have hk : HOK (E.push st.h.length none e 0) (st.h ++ [.els e []]) w := hst.heap.push (More.refl w) none e 0 (.els e []) ⟨by simp, .inl ⟨by simp, rfl⟩⟩ (fun g hg => by cases hg)
  have hbl : b < st.h.length := (List.getElem?_eq_some_iff.1 hb).1
  have hol : o < cs.length := (List.getElem?_eq_some_iff.1 ho).1
  have hb2 : (st.h ++ [HB.els e []])[b]? = some (.cel cs) := by rw [List.getElem?_append_left hbl]; exact hb
  obtain ⟨g, vals, t, fz, k1, k2, k3, k4, k5, k6⟩ := hk.blocks b _ hb2
  have hset := hk.set (w' := w) (y := .cel (cs.set o (.row e st.h.length 0 0))) hb2 trivial k1 rfl rfl rfl (Nat.le_refl _) (fun _ _ _ => rfl) (fun _ => rfl)
    ⟨g, vals, t, fz, k1, k2, k3, by simpa using k4, fun c hc => by
      rcases List.mem_or_eq_of_mem_set hc with hc | rfl
      · exact k5 c hc
      · exact .inl rfl, fun i c u hc hu => by
      by_cases hi : i = o
      · subst hi
        rw [List.getElem?_set_self hol] at hc
        injection hc with hc
        subst hc
        have hv := k6 i _ u ho hu
        cases hv.sl_inv with
        | sl _ _ _ A cap g o uu hl hm hf hA hfit hcc hr =>
          have := hf rfl
          simp only [List.length_nil] at this
          subst this
          exact .row0 e st.h.length A (by simp) (by simp)
      · rw [List.getElem?_set_ne (fun e => hi e.symm)] at hc
        exact k6 i c u hc hu⟩
  exact ⟨_, ⟨fun j => (hst.slots j).ext hx hst.heap.dom, hst.defers, hset⟩, hx.wide hst.heap lo⟩

end Go.Ab
