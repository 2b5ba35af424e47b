import Derived.Test.YtgfohogbechkkaaBM4
set_option linter.unusedSimpArgs false
set_option linter.unusedVariables false
namespace Go.Ab
open Go
variable {P:Program}
section
variable {n lo:Nat}{Q:Ex→St→Prop}{τ : Type}{enc : τ → AV}{e:Nat}[IsEnc e enc]
def Shut(h:Hp):Prop:=h.map (renB (List.range h.length))=h
theorem Shut.set{h:Hp}(hs:Shut h){b:Nat}(ys:List τ):Shut (h.set b (.els e (ys.map enc))):=by
 unfold Shut at *
 rw[List.length_set,List.map_set,hs]
 congr 1
 rw[renB_els,deep_eq,map_ren_enc]
end
end Go.Ab
namespace Go.Ab
open Go
variable {P:Program}
theorem visit_tup_cons(h:Hp)(n:Nat)(c:AV)(cs:List AV):visit h (n + 1) (.tup (c::cs))=visit h n c++visit h (n + 1) (.tup cs):=by
 simp only[visit,List.flatMap_cons]
theorem visit_tup_nil(h:Hp)(n:Nat):visit h (n + 1) (.tup [])=[]:=by simp only[visit,List.flatMap_nil]
theorem visit_pl{h:Hp}{n:Nat}{c:AV}(hc:plain n c=true):visit h n c=[]:=visit_plain n n c hc
theorem visit_rowE{τ : Type}{enc : τ → AV}{e:Nat}[IsEnc e enc]{h:Hp}{n b l:Nat}{xs:List τ}(hb:h[b]? = some (.els e (xs.map enc))):visit h (n + 1) (.row e b 0 l)=[b]:=by
 simp only[visit,hb]
 rw[if_pos]
 rw[List.all_eq_true]
 intro x hx
 obtain ⟨y,_,rfl⟩:=List.mem_map.1 hx
 exact plain_mono 4 12 _ (IsEnc.plain (enc:=enc) y) (by omega)
theorem freeze_rows{h h1:Hp}{args ims:List AV}(hp:plain deep (.tup args)=false)(hi:imm h deep (.tup args)=some (.tup ims))(hv:kill h (visit h deep (.tup args))=h1):freeze h (.tup args)=some (.tup ims,h1):=by
 unfold freeze
 rw[hp,hi,hv]
 rfl
theorem evTs_frz{is:List Ins}{K:St→Prop}{s:Nat→AV}{h h1:Hp}{d:Option Nat}{α β : Type}{r : α}{m:Option β}{kont : β → Option α}(H:m.bind kont=some r){k:Nat}{as':List AV}{enc : β → AV}(spec:∀ y,m=some y→Pure P k as' (· = enc y))
  {f:Od}{as:List Od}{caps args ims:List AV}(hf:f.ev s=.fn k caps) (ha:as.map (Od.ev s)++caps=args) (hfz:freeze h (.tup args)=some (.tup ims,h1)) (hu:ims.map (unf 12)=as') (hfl:∀ y,flat deep (enc y)=false) {enc' : β → AV}{h2 : β → Hp}(hr:∀ y,adopt h1 (enc y)=some (enc' y,h2 y))
  (hk:∀ y,kont y=some r→evTs (Fn P) is K ⟨put? s d (enc' y),h2 y⟩):evTs (Fn P) (Ins.mk d none (.call f as)::is) K ⟨s,h⟩:=by
 obtain ⟨y,hy,h3⟩:=Option.bind_eq_some_iff.1 H
 refine evTs_call hf ?_
 subst hu
 rw[ha]
 refine Fn.pure (spec y hy).args hfz fun x hx=>⟨enc' y,h2 y,?_,hk y h3⟩
 subst hx
 rw[hfl y]
 exact hr y
end Go.Ab
