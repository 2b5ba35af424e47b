import Derived.Test.YtgfohogbechkkaaBM6
import Derived.OpenShut
set_option linter.unusedSimpArgs false
set_option linter.unusedVariables false
namespace Go.Ab
open Go Go.RowKit Go.WideShapes
section
variable {P:Program}{t:TypeId}{τ : Type}{enc : τ → AV}{wf : τ → Prop}{e:Nat}
theorem Opens.array{n:Nat}{el:TypeId}(ht:P.underlying t=some (.array n el))(hs:P.cellsOf t=esz e)(he:e≠0)
  (hgo:∀ {H:Type}(encH:TypeId×Value→H) (W:World) (m:Nat) (cs:List Value) (xs:List (DataW H×List MemPlace)),(∀ x ∈ xs.flatMap (·.2),x.block<W.heap.size)→cs.length=esz e→xs.length=n →
   (∀ (i:Nat),i<n→DataW.trod encH P W 0 (fun _=>true) true m el ((cs.drop (i * P.cellsOf el)).take (P.cellsOf el))=xs[i]?) →
   (∀ (i:Nat) d,xs[i]? = some d→Small P el d.1)→∃ x,wf x∧RIL (Old W) W (enc x).cells cs):Opens P t e enc wf where
 size:=hs
 form:=fun W r b v hv=>by
  rw[if_neg he]
  simp only[Value.okWide,ht] at hv
  obtain ⟨us,h1,_⟩:=hv
  exact ⟨us,h1⟩
 go:=fun encH W fuel cs d ps h hlt hw=>by
  obtain ⟨xs,m,_,hx,hl,hn,hf⟩:=DataW.trod_array ht h
  injection hx with h1 h2
  subst h2
  subst h1
  refine hgo encH W m cs xs hlt (hl.trans hs) hn hf fun i d hd k hk=>hw k ?_
  simp only[DataW.weights,ht]
  exact weights_mem_all (List.mem_map.2 ⟨d,List.mem_of_getElem? hd,rfl⟩) k hk
theorem Opens.elem{t':TypeId}{e':Nat}{τ':Type}{enc' : τ'→AV}{wf' : τ'→Prop}(o:Opens P t' e' enc' wf'){H:Type}{encH:TypeId×Value→H}{W:World}{m n:Nat}{cs:List Value}{xs:List (DataW H×List MemPlace)}
  (hlt:∀ x ∈ xs.flatMap (·.2),x.block<W.heap.size) (hn:xs.length=n)
  (hf:∀ (i:Nat),i<n→DataW.trod encH P W 0 (fun _=>true) true m t' ((cs.drop (i * P.cellsOf t')).take (P.cellsOf t'))=xs[i]?) (hw:∀ (i:Nat) d,xs[i]? = some d→Small P t' d.1) (i:Nat) (hi:i<n) :
  ∃ x,wf' x∧RIL (Old W) W (enc' x).cells ((cs.drop (i * esz e')).take (esz e')):=by
 have hil:i<xs.length:=by omega
 have h1:=hf i hi
 rw[List.getElem?_eq_getElem hil,o.size] at h1
 exact o.go encH W m _ xs[i].1 xs[i].2 h1 (fun x hx=>hlt x (List.mem_flatMap.2 ⟨xs[i],List.getElem_mem hil,hx⟩)) (hw i xs[i] (List.getElem?_eq_getElem hil))
end
end Go.Ab
