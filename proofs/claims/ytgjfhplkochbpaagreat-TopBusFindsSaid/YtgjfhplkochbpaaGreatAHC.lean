import Derived.Test.YtgjfhplkochbpaaGreatAHB
set_option linter.unusedSimpArgs false
set_option linter.unusedVariables false
set_option maxHeartbeats 1000000
namespace Go.Proofs.YtgjfhplkochbpaaGreat
open Go Go.Ab Go.RowKit Go.Shelf Go.Proofs
theorem boxes_get(dec:List UInt8→ApiMessage):∀ (ts:List (List UInt8)) (i j:Nat) (t:List UInt8),ts[i]? = some t→j<6→(boxes dec ts)[i * 6 + j]? = (msgL (dec t))[j]?
 | [],i,j,t,h,_=>by simp at h
 | x::ts,0,j,t,h,hj=>by
  simp at h;subst h
  show (msgL (dec x)++boxes dec ts)[0 * 6 + j]? = _
  rw[List.getElem?_append_left (by simp[msgL];omega)]
  simp
 | x::ts,i + 1,j,t,h,hj=>by
  have ih:=boxes_get dec ts i j t (by simpa using h) hj
  show (msgL (dec x)++boxes dec ts)[(i + 1) * 6 + j]? = _
  rw[List.getElem?_append_right (by simp[msgL];omega),show (i + 1) * 6 + j - (msgL (dec x)).length=i * 6 + j by simp[msgL];omega,ih]
theorem own_RI{w w':World}{v:Value}{ts:List (List UInt8)}{dec:List UInt8→ApiMessage}(h:w'.ownsRow w.heap.size 81 6 v ts.length (boxes dec ts)){S':Nat→Nat→Prop}(hS:∀ g o,w.heap.size≤g→g<w'.heap.size→S' g o) :
  RI S' w' (.sl 6 false (ts.map fun t=>eApiMessage (dec t))) v:=by
 rcases h.2 with ⟨rfl,hn⟩ | ⟨g,cap,cur,rfl,hb,hg,h1,h2,h3,h4⟩
 ·have:ts=[]:=List.eq_nil_of_length_eq_zero hn
  subst this
  exact .sl 6 false [] none 0 0 0 (fun _=>undef) (by simp) (by simp) (fun h=>by cases h) (.inl rfl) (fun i x hx=>by simp at hx) (fun i x hx=>by simp at hx) (fun i x hx=>by simp at hx) (fun h=>by cases h)
 ·have hlt:g<w'.heap.size:=(Array.getElem?_eq_some_iff.1 hg).1
  have hc:∀ o,w'.cell? ⟨g,o,none⟩=cur[o]? := fun o=>by simp[World.cell?,hg]
  have:=RI.sl (S:=S') (w:=w') 6 false (ts.map fun t=>eApiMessage (dec t)) (some ⟨g,0,none⟩) cap g 0 (fun i=>msgV (dec (ts[i]?.getD []))) (by simpa using h1) h2 (fun h=>by cases h) (.inr rfl) (fun i x hx=>?_) (fun i x hx j c hj=>?_) (fun i x hx=>?_) (fun h=>by cases h)
  ·rw[List.length_map] at this
   exact this
  ·rw[List.getElem?_map,Option.map_eq_some_iff] at hx
   obtain ⟨t,ht,rfl⟩:=hx
   rfl
  ·rw[List.getElem?_map,Option.map_eq_some_iff] at hx
   obtain ⟨t,ht,rfl⟩:=hx
   simp only[ht,Option.getD_some] at hj
   refine ⟨hS _ _ hb hlt,?_⟩
   have hcells:(msgV (dec t)).cells=(msgL (dec t)).toArray:=by simp[msgV,msgL,Value.cells]
   rw[hcells] at hj
   have hj6:j<6:=by
    have:=(Array.getElem?_eq_some_iff.1 hj).1
    simpa[msgL] using this
   have hi:i<ts.length:=(List.getElem?_eq_some_iff.1 ht).1
   have hbx:=boxes_get dec ts i j t ht hj6
   rw[← h4,List.getElem?_take,if_pos (by omega)] at hbx
   rw[hc,show 0 + (i * esz 6 + j)=i * 6 + j by show 0 + (i * 6 + j)=_;omega]
   rw[← Array.getElem?_toList,hbx]
   simpa using hj
  ·rw[List.getElem?_map,Option.map_eq_some_iff] at hx
   obtain ⟨t,ht,rfl⟩:=hx
   simp only[ht,Option.getD_some]
   refine .agg _ _ (by rfl) fun i c u hc hu=>?_
   match i with
   | 0=>simp at hc hu;subst hc;subst hu;exact .int _ _
   | 1=>simp at hc hu;subst hc;subst hu;exact .int _ _
   | 2=>simp at hc hu;subst hc;subst hu;exact .int _ _
   | 3=>simp at hc hu;subst hc;subst hu;exact .int _ _
   | 4=>simp at hc hu;subst hc;subst hu;exact .int _ _
   | 5=>simp at hc hu;subst hc;subst hu;exact .str _
   | n + 6=>simp at hc
def AWT(n lo:Nat)(E0:Env)(w0:World)(K:Exit→Act→World→Prop)(c':Code)(st:St):Prop :=
 ∀ E a w,StOK E st a w→a.tmps.size=n→Ext lo E0 w0 E w→c'.wp Tryz.prog K a w
theorem AWT.seq{n lo:Nat}{E0:Env}{w0:World}{K:Exit→Act→World→Prop}{a b:Code}{ca:C}{st:St}(hc:compC Tryz.prog n a=some ca)
  (h:AW Tryz.prog n lo ca (fun ex st'=>ex=.normal∧AWT n lo E0 w0 K b st') st):AWT n lo E0 w0 K (.seq a b) st:=fun E x w hst hn hx=>by
 refine wp_seq (wp_mono (h a hc E x w hst hn) ?_)
 rintro e a' w' ⟨ex,st',E',rfl,⟨rfl,k2⟩,k3,k4,k5⟩
 exact k2 E' a' w' k3 k4 (hx.trans k5 (Nat.le_refl _))
def Owes(Kf:AV→Hp→Prop)(lo:Nat)(E0:Env)(w0:World)(e:Ending)(w':World):Prop :=
 ∃ u E' r h',e=.returned u∧Kf r h'∧HOK E' h' w'∧Ext lo E0 w0 E' w'∧RV E' w' r u
theorem decIn(n:Nat)(w:World)(s:List UInt8)(m:ApiMessage)(h:f86 s=some (m,0)):CallsIn Fence.wide n Tryz.prog 86 #[.string ⟨s.toArray⟩] w fun e w'=>e=.returned (.tuple #[.agg #[.int .u64 m.fTo,.int .u64 m.fFrom,.int .i64 m.fSeq,.int .i64 m.fKind,.int .i64 m.fParam,.string ⟨m.fData.toArray⟩],.int .i64 0])∧Below w.heap.size w w' :=
 callsIn_wide.2 (decode_calls h w)
theorem row_texts{E:Env}{w:World}{h:Hp}{b:Nat}{ts:List (List UInt8)}{u:Value}(hok:HOK E h w)(hr:RV E w (.row 0 b 0 ts.length) u)(hb:h[b]? = some (.els 0 (ts.map AV.str))) :
  ∃ A cap,u=.slice A ts.length cap∧Texts w.heap.size w A ts.length cap ts:=by
 obtain ⟨he,hr⟩:=hr.row_inv
 have hB:=hok.blocks b _ hb
 rcases hr with ⟨h0,_,hl,A,rfl⟩ | ⟨g,cap,A,hg,rfl,hA,hl,hc,hm⟩
 ·refine ⟨A,0,by rw[hl],.inl ⟨hl,List.eq_nil_of_length_eq_zero hl⟩⟩
 ·refine ⟨A,cap,rfl,?_⟩
  obtain ⟨_,hB⟩:=hB
  rcases hB with ⟨h0,hx⟩ | ⟨g',vals,t,fz,hg',hcells,_,hs,_,_,hel⟩
  ·rw[hg] at h0;cases h0
  ·rw[hg] at hg'
   injection hg' with hg';injection hg' with hg';subst hg'
   rcases hA with rfl | hA
   ·refine .inr ⟨g,0,by simp,rfl,(Array.getElem?_eq_some_iff.1 hcells).1,fun j hj=>?_⟩
    have hx:(ts.map AV.str)[j]? = some (.str ts[j]):=by rw[List.getElem?_map,List.getElem?_eq_getElem hj];rfl
    obtain ⟨_,u,hu,hsz,hcc⟩:=hel.2 j _ hx
    have:=hu.str_inv
    subst this
    have h2:=hcc 0 (.string ⟨(ts[j]).toArray⟩) (by simp[Value.cells])
    simp only[esz_zero,Nat.mul_one,Nat.add_zero] at h2
    rw[List.getElem?_eq_getElem hj]
    simp[World.cell?,hcells,h2,tx]
   ·omega
theorem tmps_lit(a:Array Value)(n:Nat)(h:a.size=n):a=((List.range n).map fun i=>a.getD i undef).toArray:=by
 apply Array.ext
 ·simp[h]
 ·intro i h1 h2
  simp[Array.getD,h1]
theorem send_tail{lo:Nat}{E0:Env}{w0:World}{Kf:AV→Hp→Prop}{st:St}{b:Nat}{ts:List (List UInt8)}(dec:List UInt8→ApiMessage)(hdec:∀ t ∈ ts,f86 t=some (dec t,0))(hreach:ts.length * 56≤140737488351232)
  (h16:st.s 16=.row 0 b 0 ts.length) (hb:st.h[b]? = some (.els 0 (ts.map AV.str))) (hK:Kf (.sl 6 false (ts.map fun t=>eApiMessage (dec t))) st.h) :
  AWT 123 lo E0 w0 (bodyPostM Fence.wide 10 Tryz.prog Tryz.f46 (Owes Kf lo E0 w0)) tail46 st:=fun E a w hst hn hx=>by
 have hr:=hst.slots 16
 rw[h16] at hr
 obtain ⟨A,cap,hu,hT⟩:=row_texts hst.heap hr hb
 have hd:=hst.defers
 obtain ⟨tm,df⟩:=a
 simp only at hd hn hu
 subst hd
 rw[tmps_lit tm 123 hn]
 refine (wpIn_wide (n:=10)).1 ?_
 refine heard_tail Fence.wide 10 trivial trivial trivial (decIn _) rfl (by decide) A ts.length cap ts dec hdec hreach w hT (fun i=>tm.getD i undef) hu _ fun v W' hrow hnil hB=>?_
 have hm:More w W':=⟨hB.os,hB.tape,hB.output,hB.size,hB.block,fun a ha=>World.frozen?_of_block (hB.block _ ha),trivial⟩
 obtain ⟨k1,k2⟩:=hst.heap.grow hm (S':=fun g o=>E.S g o∨(w.heap.size≤g∧g<W'.heap.size)) (Kept.of_block (fun _ _ s=>.inl s) fun g o s=>hB.block _ (hst.heap.old g o s)) (fun g o s=>s.imp id fun h=>h.1) (fun g o s=>s.elim (fun s=>Nat.lt_of_lt_of_le (hst.heap.old g o s) hB.size) fun h=>h.2)
 exact ⟨v,_,_,_,rfl,hK,k1,hx.trans (k2 lo) (Nat.le_refl _),.imm (own_RI hrow fun g o h1 h2=>.inr ⟨h1,h2⟩)⟩
end Go.Proofs.YtgjfhplkochbpaaGreat
