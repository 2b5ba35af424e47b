import Derived.Test.YtgjfhplkochbpaaGreatABW
import Derived.Test.YtgjfhplkochbpaaGreatAX2
import Derived.WalkKit
import Derived.BigCall
namespace Go.Proofs.YtgjfhplkochbpaaGreat
open Go Go.Ab Go.RowKit Go.Shelf Go.Proofs
set_option maxHeartbeats 1000000
set_option maxRecDepth 100000
theorem calls_flat{k:Nat}{args:List AV}{v:AV}(hp:Pure Tryz.prog k args (· = v))(hv:Ab.flat deep v=true){us:Array Value}{w:World}(hs:us.size=args.length)(hr:∀ (i:Nat) c u,args[i]? = some c→us[i]? = some u→RI (fun _ _=>False) w c u) :
  Calls Tryz.prog k us w fun e w'=>∃ u,e=.returned u∧RI (fun _ _=>False) w' v u∧Below w.heap.size w w':=by
 refine Calls.mono (hp.2.2 (fun _ _=>False) w us (fun _ _ h=>h.elim) hs hr) ?_
 rintro e w' ⟨u,S',r,rfl,rfl,hb,hk,hn,ho,hres⟩
 exact ⟨u,rfl,hres.flat hv,⟨hb.os,hb.tape,hb.output,hb.size,hb.block⟩⟩
theorem check_calls{m:ApiMessage}{e0:Int}(h:f48 m=some e0)(w:World) :
  Calls Tryz.prog 48 #[.agg #[.int .u64 m.fTo,.int .u64 m.fFrom,.int .i64 m.fSeq,.int .i64 m.fKind,.int .i64 m.fParam,.string ⟨m.fData.toArray⟩]] w fun e w'=>e=.returned (.int .i64 e0)∧Below w.heap.size w w':=by
 refine Calls.mono (calls_flat (f48_ok h) (by rfl) (by rfl) fun i c u hc hu=>?_) ?_
 ·cases i with
  | succ i=>simp at hc
  | zero =>
   simp at hc hu
   subst hc;subst hu
   refine .agg _ _ (by rfl) fun i c u hc hu=>?_
   match i with
   | 0=>simp at hc hu;subst hc;subst hu;exact .int _ _
   | 1=>simp at hc hu;subst hc;subst hu;exact .int _ _
   | 2=>simp at hc hu;subst hc;subst hu;exact .int _ _
   | 3=>simp at hc hu;subst hc;subst hu;exact .int _ _
   | 4=>simp at hc hu;subst hc;subst hu;exact .int _ _
   | 5=>simp at hc hu;subst hc;subst hu;exact .str _
   | n + 6=>simp at hc
 ·rintro e w' ⟨u,rfl,hu,hb⟩
  cases hu
  exact ⟨rfl,hb⟩
theorem part_calls{k g:Nat}{m:ApiMessage}{s:List UInt8}(hp:Pure Tryz.prog k [.pro [.int .u64 m.fTo,.int .u64 m.fFrom,.int .i64 m.fSeq,.int .i64 m.fKind,.int .i64 m.fParam,.str m.fData]] (· = .str s)){w:World}
  (hw:w.heap[g]? = some (.cells #[.int .u64 m.fTo,.int .u64 m.fFrom,.int .i64 m.fSeq,.int .i64 m.fKind,.int .i64 m.fParam,.string ⟨m.fData.toArray⟩] 81 (0,0))) :
  Calls Tryz.prog k #[.pointer (some ⟨g,0,none⟩)] w fun e w'=>e=.returned (.string ⟨s.toArray⟩)∧Below w.heap.size w w':=by
 have hg:g<w.heap.size:=(Array.getElem?_eq_some_iff.1 hw).1
 refine Calls.mono (hp.2.2 (fun a _=>a=g) w _ (fun a _ h=>h ▸ hg) (by rfl) fun i c u hc hu=>?_) ?_
 ·cases i with
  | succ i=>simp at hc
  | zero =>
   simp at hc hu
   subst hc;subst hu
   have hcell:∀ o,w.cell? ⟨g,o,none⟩ = #[Value.int .u64 m.fTo,.int .u64 m.fFrom,.int .i64 m.fSeq,.int .i64 m.fKind,.int .i64 m.fParam,.string ⟨m.fData.toArray⟩][o]? := fun o=>by
    simp[World.cell?,hw]
   refine .pro _ g 0 (fun i => #[Value.int .u64 m.fTo,.int .u64 m.fFrom,.int .i64 m.fSeq,.int .i64 m.fKind,.int .i64 m.fParam,.string ⟨m.fData.toArray⟩].getD i (.int .u64 0)) (fun i c hi=>⟨rfl,?_⟩) fun i c hi=>?_
   ·rw[hcell,Nat.zero_add]
    match i with
    | 0=>rfl
    | 1=>rfl
    | 2=>rfl
    | 3=>rfl
    | 4=>rfl
    | 5=>rfl
    | n + 6=>simp at hi
   ·match i with
    | 0=>simp at hi;subst hi;exact .int _ _
    | 1=>simp at hi;subst hi;exact .int _ _
    | 2=>simp at hi;subst hi;exact .int _ _
    | 3=>simp at hi;subst hi;exact .int _ _
    | 4=>simp at hi;subst hi;exact .int _ _
    | 5=>simp at hi;subst hi;exact .str _
    | n + 6=>simp at hi
 ·rintro e w' ⟨u,S',r,rfl,rfl,hb,hk,hn,ho,hres⟩
  have hf:RI (fun _ _=>False) w' (.str s) u:=hres.flat (by rfl)
  cases hf
  exact ⟨rfl,⟨hb.os,hb.tape,hb.output,hb.size,hb.block⟩⟩
theorem head_calls{s:List UInt8}(h:f98=some s)(w:World):Calls Tryz.prog 98 #[] w fun e w'=>e=.returned (.string ⟨s.toArray⟩)∧Below w.heap.size w w':=by
 refine Calls.mono (calls_flat (f98_ok h) (by rfl) (by rfl) fun i c u hc hu=>by simp at hc) ?_
 rintro e w' ⟨u,rfl,hu,hb⟩
 cases hu
 exact ⟨rfl,hb⟩
theorem sum_calls{t s:List UInt8}(h:f108 t=some s)(w:World):Calls Tryz.prog 108 #[.string ⟨t.toArray⟩] w fun e w'=>e=.returned (.string ⟨s.toArray⟩)∧Below w.heap.size w w':=by
 refine Calls.mono (calls_flat (f108_ok h) (by rfl) (by rfl) fun i c u hc hu=>?_) ?_
 ·cases i with
  | succ i=>simp at hc
  | zero=>simp at hc hu;subst hc;subst hu;exact .str _
 ·rintro e w' ⟨u,rfl,hu,hb⟩
  cases hu
  exact ⟨rfl,hb⟩
theorem bldF_below{T e:TypeId}{B b:Nat}{bs:List Value}{W W':World}(h:Lib.IsBuilderF T e B b bs W)(hb:Below W.heap.size W W'):Lib.IsBuilderF T e B b bs W':=by
 have key:∀ p,Lib.BuilderAtF T e B b p bs W→Lib.BuilderAtF T e B b p bs W':=fun p h=>by
  obtain ⟨hB,v,hbk,hown,hne⟩:=h
  exact ⟨hB,v,(hb.block b (Array.getElem?_eq_some_iff.1 hbk).1).trans hbk,hown.kept (row:=none) ⟨hb.os,hb.tape,hb.output,hb.size,fun k hk _=>hb.block k hk⟩ (by cases v.ownBlock<;>simp),hne⟩
 exact h.elim (fun h=>.inl (key _ h)) fun h=>.inr (key _ h)
def fnV(mb j:Nat):Value:=if j=0 then .func (.func 98) #[] #[] else .func (.func (98 + j)) #[] #[.pointer (some ⟨mb,0,none⟩)]
def preL(ps:List (List UInt8))(k:Nat):List UInt8:=(ps.take k).flatten
theorem preL_le(ps:List (List UInt8))(k:Nat):(preL ps k).length≤ps.flatten.length:=by
 unfold preL
 conv=>rhs;rw[← List.take_append_drop k ps,List.flatten_append,List.length_append]
 omega
theorem preL_succ{ps:List (List UInt8)}{k:Nat}{sk:List UInt8}(hk:ps[k]? = some sk):preL ps (k + 1)=preL ps k++sk:=by
 unfold preL
 rw[List.take_add_one,hk]
 simp
theorem enc_round{m:ApiMessage}{ps:List (List UInt8)}{k:Nat}{sk:List UInt8}{w w1 wr w2 w3:World}(hk:ps[k]? = some sk)
  (hB3:Lib.BuilderAtF 163 5 (w1.heap.size + 1) (w1.heap.size + 1) (.pointer (some ⟨w1.heap.size + 1,0,none⟩)) (Lib.byteCells (preL ps k)++Lib.strCells ⟨sk.toArray⟩) w3) (hb2:Below wr.heap.size wr w2) (hb3:Below (w1.heap.size + 1) w2 w3)
  (hbw:Below w.heap.size w wr) (hmb:wr.heap[w.heap.size]? = some (.cells #[.int .u64 m.fTo,.int .u64 m.fFrom,.int .i64 m.fSeq,.int .i64 m.fKind,.int .i64 m.fParam,.string ⟨m.fData.toArray⟩] 81 (0,0))) (hcells:Hid (∀ j:Nat,j<8→wr.cell? ⟨w1.heap.size,j,none⟩=some (fnV w.heap.size j))) (hsz:w1.heap.size + 2≤wr.heap.size) (hs1:w.heap.size<w1.heap.size) :
  Lib.IsBuilderF 163 5 (w1.heap.size + 1) (w1.heap.size + 1) (Lib.byteCells (preL ps (k + 1))) w3∧Below w.heap.size w w3∧w3.heap[w.heap.size]? = some (.cells #[.int .u64 m.fTo,.int .u64 m.fFrom,.int .i64 m.fSeq,.int .i64 m.fKind,.int .i64 m.fParam,.string ⟨m.fData.toArray⟩] 81 (0,0)) ∧
  Hid (∀ j:Nat,j<8→w3.cell? ⟨w1.heap.size,j,none⟩=some (fnV w.heap.size j))∧w1.heap.size + 2≤w3.heap.size:=by
 have hb:Below (w1.heap.size + 1) wr w3:=(hb2.mono (by omega)).trans hb3
 have hcells:∀ j:Nat,j<8→wr.cell? ⟨w1.heap.size,j,none⟩=some (fnV w.heap.size j):=hcells
 refine ⟨.inr ?_,hbw.trans (hb.mono (by omega)),(hb.block _ (by omega)).trans hmb,?_,?_⟩
 ·rw[preL_succ hk,Lib.byteCells_append];exact hB3
 ·exact (fun j hj=>(hb.cell (p:=⟨w1.heap.size,j,none⟩) (by simp)).trans (hcells j hj):∀ j:Nat,j<8→w3.cell? ⟨w1.heap.size,j,none⟩=some (fnV w.heap.size j))
 ·have:=hb.size;omega
set_option linter.unusedVariables false in
theorem enc_walk{m:ApiMessage}(h:f48 m=some 0){s0 s1 s2 s3 s4 s5 s6 s7 s:List UInt8}(p0:f98=some s0)(p1:Pure Tryz.prog 99 [.pro [.int .u64 m.fTo,.int .u64 m.fFrom,.int .i64 m.fSeq,.int .i64 m.fKind,.int .i64 m.fParam,.str m.fData]] (· = .str s1))(p2:Pure Tryz.prog 100 [.pro [.int .u64 m.fTo,.int .u64 m.fFrom,.int .i64 m.fSeq,.int .i64 m.fKind,.int .i64 m.fParam,.str m.fData]] (· = .str s2))(p3:Pure Tryz.prog 101 [.pro [.int .u64 m.fTo,.int .u64 m.fFrom,.int .i64 m.fSeq,.int .i64 m.fKind,.int .i64 m.fParam,.str m.fData]] (· = .str s3))(p4:Pure Tryz.prog 102 [.pro [.int .u64 m.fTo,.int .u64 m.fFrom,.int .i64 m.fSeq,.int .i64 m.fKind,.int .i64 m.fParam,.str m.fData]] (· = .str s4))(p5:Pure Tryz.prog 103 [.pro [.int .u64 m.fTo,.int .u64 m.fFrom,.int .i64 m.fSeq,.int .i64 m.fKind,.int .i64 m.fParam,.str m.fData]] (· = .str s5))(p6:Pure Tryz.prog 104 [.pro [.int .u64 m.fTo,.int .u64 m.fFrom,.int .i64 m.fSeq,.int .i64 m.fKind,.int .i64 m.fParam,.str m.fData]] (· = .str s6))(p7:Pure Tryz.prog 105 [.pro [.int .u64 m.fTo,.int .u64 m.fFrom,.int .i64 m.fSeq,.int .i64 m.fKind,.int .i64 m.fParam,.str m.fData]] (· = .str s7))
  (hl:[s0,s1,s2,s3,s4,s5,s6,s7].flatten.length≤1000) (hs:f108 [s0,s1,s2,s3,s4,s5,s6,s7].flatten=some s) (hsl:s.length≤1000) (w:World) :
  Calls Tryz.prog 67 #[.agg #[.int .u64 m.fTo,.int .u64 m.fFrom,.int .i64 m.fSeq,.int .i64 m.fKind,.int .i64 m.fParam,.string ⟨m.fData.toArray⟩]] w fun e w'=>e=.returned (.tuple #[.string ⟨([s0,s1,s2,s3,s4,s5,s6,s7].flatten++s).toArray⟩,.int .i64 0])∧Below w.heap.size w w':=by
 obtain ⟨ps,hps⟩:∃ ps,[s0,s1,s2,s3,s4,s5,s6,s7]=ps:=⟨_,rfl⟩
 rw[hps] at hl hs ⊢
 have e48:∀ args w,(callFunc 48 args).run Tryz.prog w=.ok (.enter 48 args) w:=enters_of Tryz.func48 (by kernel_rfl) rfl
 have e106:∀ args w,(callFunc 106 args).run Tryz.prog w=.ok (.enter 106 args) w:=enters_of Tryz.func106 (by kernel_rfl) rfl
 have e107:∀ args w,(callFunc 107 args).run Tryz.prog w=.ok (.enter 107 args) w:=enters_of Tryz.func107 (by kernel_rfl) rfl
 have e108:∀ args w,(callFunc 108 args).run Tryz.prog w=.ok (.enter 108 args) w:=enters_of Tryz.func108 (by kernel_rfl) rfl
 have e98:∀ args w,(callFunc 98 args).run Tryz.prog w=.ok (.enter 98 args) w:=enters_of Tryz.func98 (by kernel_rfl) rfl
 have e99:∀ args w,(callFunc 99 args).run Tryz.prog w=.ok (.enter 99 args) w:=enters_of Tryz.func99 (by kernel_rfl) rfl
 have e100:∀ args w,(callFunc 100 args).run Tryz.prog w=.ok (.enter 100 args) w:=enters_of Tryz.func100 (by kernel_rfl) rfl
 have e101:∀ args w,(callFunc 101 args).run Tryz.prog w=.ok (.enter 101 args) w:=enters_of Tryz.func101 (by kernel_rfl) rfl
 have e102:∀ args w,(callFunc 102 args).run Tryz.prog w=.ok (.enter 102 args) w:=enters_of Tryz.func102 (by kernel_rfl) rfl
 have e103:∀ args w,(callFunc 103 args).run Tryz.prog w=.ok (.enter 103 args) w:=enters_of Tryz.func103 (by kernel_rfl) rfl
 have e104:∀ args w,(callFunc 104 args).run Tryz.prog w=.ok (.enter 104 args) w:=enters_of Tryz.func104 (by kernel_rfl) rfl
 have e105:∀ args w,(callFunc 105 args).run Tryz.prog w=.ok (.enter 105 args) w:=enters_of Tryz.func105 (by kernel_rfl) rfl
 go_enter Tryz.func67,Tryz.ntmps67
 go_wp2_with (go_at_call 48;refine (check_calls h _).mono ?_)
 rintro e w1 ⟨rfl,hb1⟩
 have hb1':Below w.heap.size w w1:=((Below.refl _ w).alloc (Nat.le_refl _) _).trans (hb1.mono (by simp))
 have hm1:w1.heap[w.heap.size]? = some (.cells #[.int .u64 m.fTo,.int .u64 m.fFrom,.int .i64 m.fSeq,.int .i64 m.fKind,.int .i64 m.fParam,.string ⟨m.fData.toArray⟩] 81 (0,0)):=(hb1.block w.heap.size (by simp)).trans (show (w.heap.push _)[w.heap.size]? = _ from Array.getElem?_push_size)
 have hs1:w.heap.size<w1.heap.size:=by have:=hb1.size;simp at this;omega
 go_wp2
 go_loopw [24] (fun i wr=>∃ k:Nat,k≤8∧i=.int .i64 k∧Lib.IsBuilderF 163 5 (w1.heap.size + 1) (w1.heap.size + 1) (Lib.byteCells (preL ps k)) wr∧Below w.heap.size w wr∧wr.heap[w.heap.size]? = some (.cells #[.int .u64 m.fTo,.int .u64 m.fFrom,.int .i64 m.fSeq,.int .i64 m.fKind,.int .i64 m.fParam,.string ⟨m.fData.toArray⟩] 81 (0,0)) ∧
  Hid (∀ j:Nat,j<8→wr.cell? ⟨w1.heap.size,j,none⟩=some (fnV w.heap.size j))∧w1.heap.size + 2≤wr.heap.size) (fun i _=>8 - (intOf i).toNat)
 case atStart =>
  have hfr:=Lib.IsBuilderF.of (Lib.fresh_isBuilder 163 5 (w1.alloc (.cells #[.func (.func 98) #[] #[],.func (.func 99) #[] #[.pointer (some ⟨w.heap.size,0,none⟩)],.func (.func 100) #[] #[.pointer (some ⟨w.heap.size,0,none⟩)],.func (.func 101) #[] #[.pointer (some ⟨w.heap.size,0,none⟩)],.func (.func 102) #[] #[.pointer (some ⟨w.heap.size,0,none⟩)],.func (.func 103) #[] #[.pointer (some ⟨w.heap.size,0,none⟩)],.func (.func 104) #[] #[.pointer (some ⟨w.heap.size,0,none⟩)],.func (.func 105) #[] #[.pointer (some ⟨w.heap.size,0,none⟩)]] 158)))
  have hsa:(w1.alloc (.cells #[.func (.func 98) #[] #[],.func (.func 99) #[] #[.pointer (some ⟨w.heap.size,0,none⟩)],.func (.func 100) #[] #[.pointer (some ⟨w.heap.size,0,none⟩)],.func (.func 101) #[] #[.pointer (some ⟨w.heap.size,0,none⟩)],.func (.func 102) #[] #[.pointer (some ⟨w.heap.size,0,none⟩)],.func (.func 103) #[] #[.pointer (some ⟨w.heap.size,0,none⟩)],.func (.func 104) #[] #[.pointer (some ⟨w.heap.size,0,none⟩)],.func (.func 105) #[] #[.pointer (some ⟨w.heap.size,0,none⟩)]] 158)).heap.size=w1.heap.size + 1:=World.size_alloc _ _
  rw[hsa] at hfr
  have hba:Below w1.heap.size w1 ((w1.alloc (.cells #[.func (.func 98) #[] #[],.func (.func 99) #[] #[.pointer (some ⟨w.heap.size,0,none⟩)],.func (.func 100) #[] #[.pointer (some ⟨w.heap.size,0,none⟩)],.func (.func 101) #[] #[.pointer (some ⟨w.heap.size,0,none⟩)],.func (.func 102) #[] #[.pointer (some ⟨w.heap.size,0,none⟩)],.func (.func 103) #[] #[.pointer (some ⟨w.heap.size,0,none⟩)],.func (.func 104) #[] #[.pointer (some ⟨w.heap.size,0,none⟩)],.func (.func 105) #[] #[.pointer (some ⟨w.heap.size,0,none⟩)]] 158)).alloc (.cells #[.pointer none,.slice none 0 0] 163)):=((Below.refl _ w1).alloc (Nat.le_refl _) _).alloc (by rw[hsa];omega) _
  refine ⟨0,by omega,rfl,hfr,hb1'.trans (hba.mono (by omega)),(hba.block _ hs1).trans hm1,?_,?_⟩
  ·refine (fun j hj=>?_:∀ j:Nat,j<8→World.cell? _ ⟨w1.heap.size,j,none⟩=some (fnV w.heap.size j))
   have hh:((w1.alloc (.cells #[.func (.func 98) #[] #[],.func (.func 99) #[] #[.pointer (some ⟨w.heap.size,0,none⟩)],.func (.func 100) #[] #[.pointer (some ⟨w.heap.size,0,none⟩)],.func (.func 101) #[] #[.pointer (some ⟨w.heap.size,0,none⟩)],.func (.func 102) #[] #[.pointer (some ⟨w.heap.size,0,none⟩)],.func (.func 103) #[] #[.pointer (some ⟨w.heap.size,0,none⟩)],.func (.func 104) #[] #[.pointer (some ⟨w.heap.size,0,none⟩)],.func (.func 105) #[] #[.pointer (some ⟨w.heap.size,0,none⟩)]] 158)).alloc (.cells #[.pointer none,.slice none 0 0] 163)).heap[w1.heap.size]? = some (.cells #[.func (.func 98) #[] #[],.func (.func 99) #[] #[.pointer (some ⟨w.heap.size,0,none⟩)],.func (.func 100) #[] #[.pointer (some ⟨w.heap.size,0,none⟩)],.func (.func 101) #[] #[.pointer (some ⟨w.heap.size,0,none⟩)],.func (.func 102) #[] #[.pointer (some ⟨w.heap.size,0,none⟩)],.func (.func 103) #[] #[.pointer (some ⟨w.heap.size,0,none⟩)],.func (.func 104) #[] #[.pointer (some ⟨w.heap.size,0,none⟩)],.func (.func 105) #[] #[.pointer (some ⟨w.heap.size,0,none⟩)]] 158 (0,0)):=by
    rw[Lib.alloc_old _ _ _ (by rw[hsa];omega)]
    exact (show (w1.heap.push _)[w1.heap.size]? = _ from Array.getElem?_push_size)
   simp only[World.cell?,hh]
   match j,hj with
   | 0,_=>rfl
   | 1,_=>rfl
   | 2,_=>rfl
   | 3,_=>rfl
   | 4,_=>rfl
   | 5,_=>rfl
   | 6,_=>rfl
   | 7,_=>rfl
  ·rw[World.size_alloc,hsa]
   omega
 case round =>
  obtain ⟨k,hk,rfl,hB,hbw,hmb,hcells,hsz⟩:=hrel
  have hlk:=preL_le ps k
  rcases (show k=0∨k=1∨k=2∨k=3∨k=4∨k=5∨k=6∨k=7∨k=8 from by omega) with rfl | rfl | rfl | rfl | rfl | rfl | rfl | rfl | rfl
  ·have hck:wr.cell? ⟨w1.heap.size,0,none⟩=some (.func (.func 98) #[] #[]):=(show ∀ j:Nat,j<8→wr.cell? ⟨w1.heap.size,j,none⟩=some (fnV w.heap.size j) from hcells) 0 (by omega)
   have hpk:ps[0]? = some s0:=by rw[← hps];rfl
   have hlk2:=preL_le ps 1
   rw[preL_succ hpk,List.length_append] at hlk2
   go_wp2_with (first
    | (go_at_call 98;refine (head_calls p0 _).mono ?_;rintro e w2 ⟨rfl,hb2⟩;have hB2:=bldF_below hB hb2;have hsz2:=hb2.size)
    | (go_at_call 106;refine (Tryz.write_f _ _ _ _ _ hB2 (by simp only[Lib.byteCells_length,List.size_toArray,ByteArray.size];omega) (by omega)).mono ?_;rintro e w3 ⟨rfl,hB3,hb3⟩))
   exact ⟨⟨1,by omega,by first | rfl | go_num,enc_round hpk hB3 hb2 hb3 hbw hmb hcells hsz hs1⟩,by simp[intOf]⟩
  ·have hck:wr.cell? ⟨w1.heap.size,1,none⟩=some (.func (.func 99) #[] #[.pointer (some ⟨w.heap.size,0,none⟩)]):=(show ∀ j:Nat,j<8→wr.cell? ⟨w1.heap.size,j,none⟩=some (fnV w.heap.size j) from hcells) 1 (by omega)
   have hpk:ps[1]? = some s1:=by rw[← hps];rfl
   have hlk2:=preL_le ps 2
   rw[preL_succ hpk,List.length_append] at hlk2
   go_wp2_with (first
    | (go_at_call 99;refine (part_calls p1 hmb).mono ?_;rintro e w2 ⟨rfl,hb2⟩;have hB2:=bldF_below hB hb2;have hsz2:=hb2.size)
    | (go_at_call 106;refine (Tryz.write_f _ _ _ _ _ hB2 (by simp only[Lib.byteCells_length,List.size_toArray,ByteArray.size];omega) (by omega)).mono ?_;rintro e w3 ⟨rfl,hB3,hb3⟩))
   exact ⟨⟨2,by omega,by first | rfl | go_num,enc_round hpk hB3 hb2 hb3 hbw hmb hcells hsz hs1⟩,by simp[intOf]⟩
  ·have hck:wr.cell? ⟨w1.heap.size,2,none⟩=some (.func (.func 100) #[] #[.pointer (some ⟨w.heap.size,0,none⟩)]):=(show ∀ j:Nat,j<8→wr.cell? ⟨w1.heap.size,j,none⟩=some (fnV w.heap.size j) from hcells) 2 (by omega)
   have hpk:ps[2]? = some s2:=by rw[← hps];rfl
   have hlk2:=preL_le ps 3
   rw[preL_succ hpk,List.length_append] at hlk2
   go_wp2_with (first
    | (go_at_call 100;refine (part_calls p2 hmb).mono ?_;rintro e w2 ⟨rfl,hb2⟩;have hB2:=bldF_below hB hb2;have hsz2:=hb2.size)
    | (go_at_call 106;refine (Tryz.write_f _ _ _ _ _ hB2 (by simp only[Lib.byteCells_length,List.size_toArray,ByteArray.size];omega) (by omega)).mono ?_;rintro e w3 ⟨rfl,hB3,hb3⟩))
   exact ⟨⟨3,by omega,by first | rfl | go_num,enc_round hpk hB3 hb2 hb3 hbw hmb hcells hsz hs1⟩,by simp[intOf]⟩
  ·have hck:wr.cell? ⟨w1.heap.size,3,none⟩=some (.func (.func 101) #[] #[.pointer (some ⟨w.heap.size,0,none⟩)]):=(show ∀ j:Nat,j<8→wr.cell? ⟨w1.heap.size,j,none⟩=some (fnV w.heap.size j) from hcells) 3 (by omega)
   have hpk:ps[3]? = some s3:=by rw[← hps];rfl
   have hlk2:=preL_le ps 4
   rw[preL_succ hpk,List.length_append] at hlk2
   go_wp2_with (first
    | (go_at_call 101;refine (part_calls p3 hmb).mono ?_;rintro e w2 ⟨rfl,hb2⟩;have hB2:=bldF_below hB hb2;have hsz2:=hb2.size)
    | (go_at_call 106;refine (Tryz.write_f _ _ _ _ _ hB2 (by simp only[Lib.byteCells_length,List.size_toArray,ByteArray.size];omega) (by omega)).mono ?_;rintro e w3 ⟨rfl,hB3,hb3⟩))
   exact ⟨⟨4,by omega,by first | rfl | go_num,enc_round hpk hB3 hb2 hb3 hbw hmb hcells hsz hs1⟩,by simp[intOf]⟩
  ·have hck:wr.cell? ⟨w1.heap.size,4,none⟩=some (.func (.func 102) #[] #[.pointer (some ⟨w.heap.size,0,none⟩)]):=(show ∀ j:Nat,j<8→wr.cell? ⟨w1.heap.size,j,none⟩=some (fnV w.heap.size j) from hcells) 4 (by omega)
   have hpk:ps[4]? = some s4:=by rw[← hps];rfl
   have hlk2:=preL_le ps 5
   rw[preL_succ hpk,List.length_append] at hlk2
   go_wp2_with (first
    | (go_at_call 102;refine (part_calls p4 hmb).mono ?_;rintro e w2 ⟨rfl,hb2⟩;have hB2:=bldF_below hB hb2;have hsz2:=hb2.size)
    | (go_at_call 106;refine (Tryz.write_f _ _ _ _ _ hB2 (by simp only[Lib.byteCells_length,List.size_toArray,ByteArray.size];omega) (by omega)).mono ?_;rintro e w3 ⟨rfl,hB3,hb3⟩))
   exact ⟨⟨5,by omega,by first | rfl | go_num,enc_round hpk hB3 hb2 hb3 hbw hmb hcells hsz hs1⟩,by simp[intOf]⟩
  ·have hck:wr.cell? ⟨w1.heap.size,5,none⟩=some (.func (.func 103) #[] #[.pointer (some ⟨w.heap.size,0,none⟩)]):=(show ∀ j:Nat,j<8→wr.cell? ⟨w1.heap.size,j,none⟩=some (fnV w.heap.size j) from hcells) 5 (by omega)
   have hpk:ps[5]? = some s5:=by rw[← hps];rfl
   have hlk2:=preL_le ps 6
   rw[preL_succ hpk,List.length_append] at hlk2
   go_wp2_with (first
    | (go_at_call 103;refine (part_calls p5 hmb).mono ?_;rintro e w2 ⟨rfl,hb2⟩;have hB2:=bldF_below hB hb2;have hsz2:=hb2.size)
    | (go_at_call 106;refine (Tryz.write_f _ _ _ _ _ hB2 (by simp only[Lib.byteCells_length,List.size_toArray,ByteArray.size];omega) (by omega)).mono ?_;rintro e w3 ⟨rfl,hB3,hb3⟩))
   exact ⟨⟨6,by omega,by first | rfl | go_num,enc_round hpk hB3 hb2 hb3 hbw hmb hcells hsz hs1⟩,by simp[intOf]⟩
  ·have hck:wr.cell? ⟨w1.heap.size,6,none⟩=some (.func (.func 104) #[] #[.pointer (some ⟨w.heap.size,0,none⟩)]):=(show ∀ j:Nat,j<8→wr.cell? ⟨w1.heap.size,j,none⟩=some (fnV w.heap.size j) from hcells) 6 (by omega)
   have hpk:ps[6]? = some s6:=by rw[← hps];rfl
   have hlk2:=preL_le ps 7
   rw[preL_succ hpk,List.length_append] at hlk2
   go_wp2_with (first
    | (go_at_call 104;refine (part_calls p6 hmb).mono ?_;rintro e w2 ⟨rfl,hb2⟩;have hB2:=bldF_below hB hb2;have hsz2:=hb2.size)
    | (go_at_call 106;refine (Tryz.write_f _ _ _ _ _ hB2 (by simp only[Lib.byteCells_length,List.size_toArray,ByteArray.size];omega) (by omega)).mono ?_;rintro e w3 ⟨rfl,hB3,hb3⟩))
   exact ⟨⟨7,by omega,by first | rfl | go_num,enc_round hpk hB3 hb2 hb3 hbw hmb hcells hsz hs1⟩,by simp[intOf]⟩
  ·have hck:wr.cell? ⟨w1.heap.size,7,none⟩=some (.func (.func 105) #[] #[.pointer (some ⟨w.heap.size,0,none⟩)]):=(show ∀ j:Nat,j<8→wr.cell? ⟨w1.heap.size,j,none⟩=some (fnV w.heap.size j) from hcells) 7 (by omega)
   have hpk:ps[7]? = some s7:=by rw[← hps];rfl
   have hlk2:=preL_le ps 8
   rw[preL_succ hpk,List.length_append] at hlk2
   go_wp2_with (first
    | (go_at_call 105;refine (part_calls p7 hmb).mono ?_;rintro e w2 ⟨rfl,hb2⟩;have hB2:=bldF_below hB hb2;have hsz2:=hb2.size)
    | (go_at_call 106;refine (Tryz.write_f _ _ _ _ _ hB2 (by simp only[Lib.byteCells_length,List.size_toArray,ByteArray.size];omega) (by omega)).mono ?_;rintro e w3 ⟨rfl,hB3,hb3⟩))
   exact ⟨⟨8,by omega,by first | rfl | go_num,enc_round hpk hB3 hb2 hb3 hbw hmb hcells hsz hs1⟩,by simp[intOf]⟩
  ·have hp8:preL ps 8=ps.flatten:=by rw[← hps];rfl
   rw[hp8] at hB
   go_wp2_with (first
    | (go_at_call 107;refine (Tryz.Builder_String_any_f _ _ _ _ hB (by omega)).mono ?_;clear hB;rintro e w2 ⟨rfl,hB2,hb2⟩;have hsz2:=hb2.size)
    | (go_at_call 107;refine (Tryz.Builder_String_any_f _ _ _ _ hB2 (by omega)).mono ?_;clear hB2;rintro e w3 ⟨rfl,hB3,hb3⟩)
    | (go_at_call 108;refine (sum_calls hs _).mono ?_;rintro e w4 ⟨rfl,hb4⟩))
   ·exfalso
    have h9:9223372036854775807<(List.map List.length ps).sum + s.length:=by assumption
    rw[← List.length_flatten] at h9
    omega
   ·go_ret2
    refine ⟨?_,hbw.trans ((hb2.mono (by omega)).trans ((hb3.mono (by omega)).trans (hb4.mono (by have:=hb3.size;omega))))⟩
    have e:({ data:=ps.flatten.toArray }++{ data:=s.toArray }:ByteArray)={ data:=(ps.flatten++s).toArray }:=by
     apply ByteArray.ext
     simp
    rw[e]
    rfl
noncomputable def parts67(m:ApiMessage):Option (List (List UInt8)) :=
 (f98).bind fun z=>(f99p m.fTo m.fFrom m.fSeq m.fKind m.fParam m.fData).bind fun a=>(f100p m.fTo m.fFrom m.fSeq m.fKind m.fParam m.fData).bind fun b=>(f101p m.fTo m.fFrom m.fSeq m.fKind m.fParam m.fData).bind fun c =>
 (f102p m.fTo m.fFrom m.fSeq m.fKind m.fParam m.fData).bind fun d=>(f103p m.fTo m.fFrom m.fSeq m.fKind m.fParam m.fData).bind fun p=>(f104p m.fTo m.fFrom m.fSeq m.fKind m.fParam m.fData).bind fun l =>
 (f105p m.fTo m.fFrom m.fSeq m.fKind m.fParam m.fData).bind fun x=>some [z,a,b,c,d,p,l,x]
noncomputable def f67(m:ApiMessage):Option (List UInt8×Int) :=
 (f48 m).bind fun e=>if e=0 then (parts67 m).bind fun ps=>if ps.flatten.length≤1000 then (f108 ps.flatten).bind fun s=>if s.length≤1000 then some (ps.flatten++s,0) else none else none else none
theorem f67_ok{m:ApiMessage}{r_:List UInt8×Int}(H:f67 m=some r_):Pure Tryz.prog 67 [.agg [.int .u64 m.fTo,.int .u64 m.fFrom,.int .i64 m.fSeq,.int .i64 m.fKind,.int .i64 m.fParam,.str m.fData]] (· = .tup [.str r_.1,.int .i64 r_.2]):=by
 obtain ⟨e,he,H⟩:=Option.bind_eq_some_iff.1 H
 split at H
 case isFalse=>cases H
 rename_i e0
 subst e0
 obtain ⟨ps,hps,H⟩:=Option.bind_eq_some_iff.1 H
 split at H
 case isFalse=>cases H
 rename_i hl
 obtain ⟨s,hs,H⟩:=Option.bind_eq_some_iff.1 H
 split at H
 case isFalse=>cases H
 rename_i hsl
 injection H with H
 subst H
 obtain ⟨s0,h0,hps⟩:=Option.bind_eq_some_iff.1 hps
 obtain ⟨s1,h1,hps⟩:=Option.bind_eq_some_iff.1 hps
 obtain ⟨s2,h2,hps⟩:=Option.bind_eq_some_iff.1 hps
 obtain ⟨s3,h3,hps⟩:=Option.bind_eq_some_iff.1 hps
 obtain ⟨s4,h4,hps⟩:=Option.bind_eq_some_iff.1 hps
 obtain ⟨s5,h5,hps⟩:=Option.bind_eq_some_iff.1 hps
 obtain ⟨s6,h6,hps⟩:=Option.bind_eq_some_iff.1 hps
 obtain ⟨s7,h7,hps⟩:=Option.bind_eq_some_iff.1 hps
 injection hps with hps
 subst hps
 have key:=fun w=>enc_walk he h0 (f99p_ok h1) (f100p_ok h2) (f101p_ok h3) (f102p_ok h4) (f103p_ok h5) (f104p_ok h6) (f105p_ok h7) hl hs hsl w
 refine ⟨⟨Tryz.f67,_,Tryz.func67,by kernel_rfl,rfl⟩,⟨_,rfl⟩,fun S w us k1 k2 k3=>?_⟩
 have hu:us = #[.agg #[.int .u64 m.fTo,.int .u64 m.fFrom,.int .i64 m.fSeq,.int .i64 m.fKind,.int .i64 m.fParam,.string ⟨m.fData.toArray⟩]]:=by
  obtain ⟨us⟩:=us
  match us,k2 with
  | [u],_ =>
   have hu:=k3 0 _ u rfl rfl
   cases hu with
   | agg _ us hs hr =>
    obtain ⟨us⟩:=us
    match us,hs with
    | [a,b,c,d,e,f],_ =>
     have q0:=hr 0 _ a rfl rfl
     have q1:=hr 1 _ b rfl rfl
     have q2:=hr 2 _ c rfl rfl
     have q3:=hr 3 _ d rfl rfl
     have q4:=hr 4 _ e rfl rfl
     have q5:=hr 5 _ f rfl rfl
     cases q0;cases q1;cases q2;cases q3;cases q4;cases q5
     rfl
 subst hu
 refine Calls.mono (key w) ?_
 rintro e w' ⟨rfl,hb⟩
 refine ⟨_,S,_,rfl,rfl,⟨hb.os,hb.tape,hb.output,hb.size,hb.block,fun a ha=>World.frozen?_of_block (hb.block _ ha),trivial⟩,Kept.of_block (fun _ _ s=>s) (fun g o s=>hb.block _ (k1 g o s)),fun _ _ s=>.inl s,fun g o s=>Nat.lt_of_lt_of_le (k1 g o s) hb.size,.inl ?_⟩
 refine .tup _ _ (by rfl) fun i c u hc hu=>?_
 match i with
 | 0=>simp at hc hu;subst hc;subst hu;exact .str _
 | 1=>simp at hc hu;subst hc;subst hu;exact .int _ _
 | n + 2=>simp at hc
end Go.Proofs.YtgjfhplkochbpaaGreat
