import Derived.RangeFuncBox
import Derived.RangeFuncLeaves
import Derived.RangeFuncNested
import Derived.Shelf.Abstract
import Derived.WalkKit
import Derived.OwnWalkIn
import Derived.TacticsInMore
import Derived.LoopNIn
import Derived.LoopIn
import Derived.Maps.AppendAt
import Derived.Test.YtgjfhplkochbpaaGreatAE67
import Derived.Test.YtgjfhplkochbpaaGreatAGV
set_option linter.unusedSimpArgs false
set_option linter.unusedVariables false
namespace Go.Proofs.YtgjfhplkochbpaaGreat
open Go Go.Ab Go.RowKit Go.Shelf Go.Proofs
attribute [local go_sem] Oper.semAt_some
def msgV(m:ApiMessage):Value:=.agg #[.int .u64 m.fTo,.int .u64 m.fFrom,.int .i64 m.fSeq,.int .i64 m.fKind,.int .i64 m.fParam,.string ⟨m.fData.toArray⟩]
theorem decode_calls{s:List UInt8}{m:ApiMessage}(h:f86 s=some (m,0))(w:World) :
  Calls Tryz.prog 86 #[.string ⟨s.toArray⟩] w fun e w'=>e=.returned (.tuple #[.agg #[.int .u64 m.fTo,.int .u64 m.fFrom,.int .i64 m.fSeq,.int .i64 m.fKind,.int .i64 m.fParam,.string ⟨m.fData.toArray⟩],.int .i64 0])∧Below w.heap.size w w':=by
 refine Calls.mono (calls_flat (f86_ok h) (by rfl) (by rfl) fun i c u hc hu=>?_) ?_
 ·cases i with
  | succ i=>simp at hc
  | zero =>
   simp at hc hu
   subst hc;subst hu
   exact .str _
 ·rintro e w' ⟨u,rfl,hu,hb⟩
  cases hu with
  | tup cs us hs hr =>
   obtain ⟨us⟩:=us
   match us,hs with
   | [a,b],_ =>
    have ha:=hr 0 _ a rfl rfl
    have hb':=hr 1 _ b rfl rfl
    cases hb'
    cases ha with
    | agg cs2 us2 hs2 hr2 =>
     obtain ⟨us2⟩:=us2
     match us2,hs2 with
     | [a0,a1,a2,a3,a4,a5],_ =>
      have h0:=hr2 0 _ a0 rfl rfl
      have h1:=hr2 1 _ a1 rfl rfl
      have h2:=hr2 2 _ a2 rfl rfl
      have h3:=hr2 3 _ a3 rfl rfl
      have h4:=hr2 4 _ a4 rfl rfl
      have h5:=hr2 5 _ a5 rfl rfl
      cases h0;cases h1;cases h2;cases h3;cases h4;cases h5
      exact ⟨rfl,hb⟩
theorem grown_below{w w':World}(h:Below w.heap.size w w'):w.grownBy w' none:=⟨h.os,h.tape,h.output,h.size,fun k hk _=>h.block k hk⟩
def tx(s:List UInt8):Value:=.string ⟨s.toArray⟩
set_option maxRecDepth 100000 in
set_option maxHeartbeats 4000000 in
theorem heard1_in(F:Fence)(n:Nat)(h116:F.fn 116)(hf86:F.fn 86)(h86:∀ (w:World) (s:List UInt8) (m:ApiMessage),f86 s=some (m,0)→CallsIn F (n - 1) Tryz.prog 86 #[.string ⟨s.toArray⟩] w fun e w'=>e=.returned (.tuple #[.agg #[.int .u64 m.fTo,.int .u64 m.fFrom,.int .i64 m.fSeq,.int .i64 m.fKind,.int .i64 m.fParam,.string ⟨m.fData.toArray⟩],.int .i64 0])∧Below w.heap.size w w')(hro:F.round=none)(hn:1≤n)(l Bs o n₀ b off cap:Nat)(ts:List (List UInt8))(dec:List UInt8→ApiMessage)(hdec:∀ t ∈ ts,f86 t=some (dec t,0))(hreach:ts.length * 16≤140737488351232)(hb:b<n₀)(w0:World)(J Jx:List (List UInt8)→World→Prop)(hJ:∀ s W W',J s W→W.grownBy W' none→J s W')
  (hY:∀ pre x W,J pre W→pre.length<ts.length→YieldAt F (n - 1) Tryz.prog l #[msgV (dec x)] W fun e W'=>(e=.returned (.bool true)∧J (pre++[x]) W'∧Below n₀ W W')∨(e=.returned (.bool false)∧Jx (pre++[x]) W'))
  (W:World) (hW:Below n₀ w0 W) (hn0:n₀≤W.heap.size) (hBs:W.cell? ⟨Bs,o,none⟩=some (.slice (some ⟨b,off,none⟩) ts.length cap)) (hc:∀ j,j<ts.length→w0.cell? ⟨b,off + j,none⟩=some (tx (ts[j]?.getD []))) (h0:J [] W) :
  CallsIn F n Tryz.prog 116 #[.func (.yield l) #[] #[],.pointer (some ⟨Bs,o,none⟩)] W fun e W'=>(∃ v,e=.returned v)∧((∃ ys,ys=ts∧J ys W')∨∃ pre,True∧Jx pre W'):=by
 refine callsIn_of_wp Tryz.func116 rfl h116 ?_ hro
 simp only[Tryz.ntmps116,List.size_toArray,List.length_cons,List.length_nil,Nat.reduceAdd,Nat.reduceSub,Array.replicate_succ,Array.replicate_zero,List.push_toArray,List.append_toArray,List.nil_append,List.cons_append]
 have e86:∀ args w,(callFunc 86 args).run Tryz.prog w=.ok (.enter 86 args) w:=enters_of Tryz.func86 (by kernel_rfl) rfl
 gi_wp2
 gi_loopw [9] (fun i wr=>∃ k:Nat,k≤ts.length∧i=.int .i64 k∧J (ts.take k) wr∧Below n₀ w0 wr∧n₀≤wr.heap.size)
  (fun i _=>ts.length - (Tryz.ofInt i).toNat)
 case atStart=>exact ⟨0,Nat.zero_le _,rfl,h0,hW,hn0⟩
 case round =>
  obtain ⟨k,hk,rfl,hJs,hnx,hsz⟩:=hrel
  by_cases hlt:k<ts.length
  ·have hcx:wr.cell? ⟨b,off + k,none⟩=some (tx (ts[k]?.getD [])):=(hnx.cell (p:=⟨b,off + k,none⟩) hb).trans (hc k hlt)
   have hg:=List.getElem?_eq_getElem hlt
   have hd:=hdec _ (List.getElem_mem hlt)
   rw[hg] at hcx
   simp only[Option.getD_some,tx] at hcx
   gi_wp2_with (gi_at_call 86;refine (h86 _ _ _ hd).mono ?_;rintro e w1 ⟨rfl,hb1⟩)
   have hJ2:J (ts.take k) (w1.alloc (Obj.cells #[.int .u64 (dec ts[k]).fTo,.int .u64 (dec ts[k]).fFrom,.int .i64 (dec ts[k]).fSeq,.int .i64 (dec ts[k]).fKind,.int .i64 (dec ts[k]).fParam,.string ⟨(dec ts[k]).fData.toArray⟩] 81)):=hJ _ _ _ (hJ _ _ _ hJs (grown_below hb1)) (World.grownBy_alloc _ _ none)
   have hB2:Below n₀ wr (w1.alloc (Obj.cells #[.int .u64 (dec ts[k]).fTo,.int .u64 (dec ts[k]).fFrom,.int .i64 (dec ts[k]).fSeq,.int .i64 (dec ts[k]).fKind,.int .i64 (dec ts[k]).fParam,.string ⟨(dec ts[k]).fData.toArray⟩] 81)):=(hb1.mono hsz).alloc (Nat.le_trans hsz hb1.size) _
   obtain ⟨fn,tmps,assign,body,hy,hR⟩:=hY _ ts[k] _ hJ2 (by simp;omega)
   simp only[msgV] at hy
   rw[hy]
   gi_wp2
   refine hR.mono ?_
   rintro e W3 (⟨rfl,hJ3,hk3⟩ | ⟨rfl,hJx3⟩)
   ·gi_wp2
    go_roundw
    case rel=>exact ⟨k + 1,by omega,by simp,by rw[List.take_succ_eq_append_getElem hlt];exact hJ3,(hnx.trans hB2).trans hk3,by have:=hk3.size;have:=hB2.size;omega⟩
    case measure=>simp[Tryz.ofInt];omega
   ·gi_wp2
    refine bodyPost_ret (results_none rfl _ _ _) rfl ?_
    exact ⟨⟨_,rfl⟩,.inr ⟨_,trivial,hJx3⟩⟩
  ·obtain rfl:k=ts.length:=by omega
   gi_wp2
   go_end0
   rw[List.take_length] at hJs
   exact ⟨⟨_,rfl⟩,.inl ⟨_,rfl,hJs⟩⟩
set_option maxRecDepth 100000 in
set_option maxHeartbeats 2000000 in
theorem heard0_in(F:Fence)(n:Nat)(h116:F.fn 116)(hro:F.round=none)(l Bs o:Nat)(A:Option Addr)(cap:Nat)(J:List (List UInt8)→World→Prop)(W:World)(hBs:W.cell? ⟨Bs,o,none⟩=some (.slice A 0 cap))(h0:J [] W) :
  CallsIn F n Tryz.prog 116 #[.func (.yield l) #[] #[],.pointer (some ⟨Bs,o,none⟩)] W fun e W'=>(∃ v,e=.returned v)∧J [] W':=by
 refine callsIn_of_wp Tryz.func116 rfl h116 ?_ hro
 simp only[Tryz.ntmps116,List.size_toArray,List.length_cons,List.length_nil,Nat.reduceAdd,Nat.reduceSub,Array.replicate_succ,Array.replicate_zero,List.push_toArray,List.append_toArray,List.nil_append,List.cons_append]
 gi_wp2
 gi_loopw [9] (fun i wr=>i=.int .i64 0∧J [] wr) (fun _ _=>0)
 case atStart=>exact ⟨rfl,h0⟩
 case round =>
  obtain ⟨rfl,hJs⟩:=hrel
  gi_wp2
  go_end0
  exact ⟨⟨_,rfl⟩,hJs⟩
def Texts(n₀:Nat)(W:World)(A:Option Addr)(len cap:Nat)(ts:List (List UInt8)):Prop :=
 (len=0∧ts=[])∨∃ b off,A=some ⟨b,off,none⟩∧len=ts.length∧b<n₀∧∀ j,j<ts.length→W.cell? ⟨b,off + j,none⟩=some (tx (ts[j]?.getD []))
theorem heard_stops(F:Fence)(n:Nat)(h116:F.fn 116)(hf86:F.fn 86)(h86:∀ (w:World) (s:List UInt8) (m:ApiMessage),f86 s=some (m,0)→CallsIn F (n - 1) Tryz.prog 86 #[.string ⟨s.toArray⟩] w fun e w'=>e=.returned (.tuple #[.agg #[.int .u64 m.fTo,.int .u64 m.fFrom,.int .i64 m.fSeq,.int .i64 m.fKind,.int .i64 m.fParam,.string ⟨m.fData.toArray⟩],.int .i64 0])∧Below w.heap.size w w')(hro:F.round=none)(hn:1≤n)(Bs o n₀:Nat)(A:Option Addr)(len cap:Nat)(ts:List (List UInt8))(dec:List UInt8→ApiMessage)(hdec:∀ t ∈ ts,f86 t=some (dec t,0))(hreach:ts.length * 16≤140737488351232)(w:World)(hBs:Bs<w.heap.size)(hn₀:n₀≤w.heap.size)
  (hc:w.cell? ⟨Bs,o,none⟩=some (.slice A len cap)) (hI:Texts n₀ w A len cap ts) :
  SeqStopsK F n Tryz.prog 116 #[.pointer (some ⟨Bs,o,none⟩)] (fun x:List UInt8 => #[msgV (dec x)]) (Below n₀) (fun ys=>ys=ts) (fun _=>True) ts.length w:=fun l J Jx W hW hJ _ hY h0=>by
 have hc':=(hW.cell (p:=⟨Bs,o,none⟩) hBs).trans hc
 rcases hI with ⟨rfl,rfl⟩ | ⟨b,off,rfl,rfl,hb,hcs⟩
 ·exact (heard0_in F n h116 hro l Bs o A cap J W hc' h0).mono fun e W' ⟨he,hj⟩=>⟨he,.inl ⟨_,rfl,hj⟩⟩
 ·refine (heard1_in F n h116 hf86 h86 hro hn l Bs o n₀ b off cap ts dec hdec hreach hb w J Jx (fun s X Y hs hg=>hJ s X Y none hs hg (fun r e=>by cases e)) hY W (hW.mono hn₀) (Nat.le_trans hn₀ hW.size) hc' hcs h0).mono ?_
  rintro e W' ⟨he,⟨ys,rfl,hj⟩ | h⟩
  ·exact ⟨he,.inl ⟨_,rfl,hj⟩⟩
  ·exact ⟨he,.inr h⟩
theorem info81:(Tryz.prog.info? 81).map (fun i=>(i.zero,i.size,i.bytes))=some (some (.agg #[.int .u64 0,.int .u64 0,.int .i64 0,.int .i64 0,.int .i64 0,.string ⟨#[]⟩]),6,56):=by kernel_rfl
theorem heard_call(F:Fence)(n:Nat)(h70:F.fn 70)(hro:F.round=none)(A:Option Addr)(len cap:Nat)(w:World) :
  CallsIn F n Tryz.prog 70 #[.slice A len cap] w fun e W'=>e=.returned (.func (.func 116) #[] #[.pointer (some ⟨w.heap.size,0,none⟩)])∧W'=w.alloc (.cells #[.slice A len cap] 51):=by
 refine callsIn_of_wp Tryz.func70 rfl h70 ?_ hro
 simp only[Tryz.ntmps70,List.size_toArray,List.length_cons,List.length_nil,Nat.reduceAdd,Nat.reduceSub,Array.replicate_succ,Array.replicate_zero,List.push_toArray,List.append_toArray,List.nil_append,List.cons_append]
 gi_wp2
 go_ret
 exact ⟨rfl,rfl⟩
def sL:Code→Code
 | .seq a _=>a
 | c=>c
def sR:Code→Code
 | .seq _ b=>b
 | c=>c
noncomputable def body46:Code:=match Tryz.f46.body with
 | some c=>c
 | none=>.skip
noncomputable def tail46:Code:=sR (sR (sR (sR (sR (sR (sR (sR (sR body46))))))))
def msgL(m:ApiMessage):List Value:=[.int .u64 m.fTo,.int .u64 m.fFrom,.int .i64 m.fSeq,.int .i64 m.fKind,.int .i64 m.fParam,.string ⟨m.fData.toArray⟩]
def boxes(dec:List UInt8→ApiMessage)(ts:List (List UInt8)):List Value:=ts.flatMap fun t=>msgL (dec t)
theorem boxes_append(dec:List UInt8→ApiMessage)(ts:List (List UInt8))(x:List UInt8):boxes dec (ts++[x])=boxes dec ts++msgL (dec x):=by simp[boxes]
set_option maxRecDepth 100000 in
set_option maxHeartbeats 8000000 in
theorem heard_tail(F:Fence)(n:Nat)(h70:F.fn 70)(h116:F.fn 116)(hf86:F.fn 86)(h86:∀ (w:World) (s:List UInt8) (m:ApiMessage),f86 s=some (m,0)→CallsIn F (n - 1 - 1) Tryz.prog 86 #[.string ⟨s.toArray⟩] w fun e w'=>e=.returned (.tuple #[.agg #[.int .u64 m.fTo,.int .u64 m.fFrom,.int .i64 m.fSeq,.int .i64 m.fKind,.int .i64 m.fParam,.string ⟨m.fData.toArray⟩],.int .i64 0])∧Below w.heap.size w w')(hro:F.round=none)(hn:3≤n)
  (A:Option Addr) (len cap:Nat) (ts:List (List UInt8)) (dec:List UInt8→ApiMessage) (hdec:∀ t ∈ ts,f86 t=some (dec t,0)) (hreach:ts.length * 56≤140737488351232) (w:World) (hI:Texts w.heap.size w A len cap ts) (t:Nat→Value) (ht:t 16=.slice A len cap) (R:Ending→World→Prop) (hR:∀ v W',W'.ownsRow w.heap.size 81 6 v ts.length (boxes dec ts)→(v=.slice none 0 0↔ts=[])→Below w.heap.size w W'→R (.returned v) W') :
  tail46.wpIn F n Tryz.prog (bodyPostM F n Tryz.prog Tryz.f46 R) { tmps := #[t 0,t 1,t 2,t 3,t 4,t 5,t 6,t 7,t 8,t 9,t 10,t 11,t 12,t 13,t 14,t 15,t 16,t 17,t 18,t 19,t 20,t 21,t 22,t 23,t 24,t 25,t 26,t 27,t 28,t 29,t 30,t 31,t 32,t 33,t 34,t 35,t 36,t 37,t 38,t 39,t 40,t 41,t 42,t 43,t 44,t 45,t 46,t 47,t 48,t 49,t 50,t 51,t 52,t 53,t 54,t 55,t 56,t 57,t 58,t 59,t 60,t 61,t 62,t 63,t 64,t 65,t 66,t 67,t 68,t 69,t 70,t 71,t 72,t 73,t 74,t 75,t 76,t 77,t 78,t 79,t 80,t 81,t 82,t 83,t 84,t 85,t 86,t 87,t 88,t 89,t 90,t 91,t 92,t 93,t 94,t 95,t 96,t 97,t 98,t 99,t 100,t 101,t 102,t 103,t 104,t 105,t 106,t 107,t 108,t 109,t 110,t 111,t 112,t 113,t 114,t 115,t 116,t 117,t 118,t 119,t 120,t 121,t 122],defers:=[] } w:=by
 have h1:1≤n:=by omega
 have hz:=info81
 obtain ⟨i0,hi,hz0,hz1,hz2⟩:=info_parts info81
 unfold tail46 body46 Tryz.f46
 simp only[sR]
 have e70:∀ args w,(callFunc 70 args).run Tryz.prog w=.ok (.enter 70 args) w:=enters_of Tryz.func70 (by kernel_rfl) rfl
 gi_wp2_with (gi_at_call 70;rw[ht];refine (heard_call F (n - 1) h70 hro A len cap _).mono ?_;rintro e w1 ⟨rfl,rfl⟩)
 have bO:Boxed ((w.alloc (.cells #[.slice none 0 0] 77)).alloc (.cells #[.slice A len cap] 51)) w.heap.size 77 (.slice none 0 0):=(Boxed.new w 77 _).alloc _
 have hB0:Below w.heap.size w ((w.alloc (.cells #[.slice none 0 0] 77)).alloc (.cells #[.slice A len cap] 51)):=((Below.refl _ w).alloc (Nat.le_refl _) _).alloc (by simp) _
 have hcT:((w.alloc (.cells #[.slice none 0 0] 77)).alloc (.cells #[.slice A len cap] 51)).cell? ⟨w.heap.size + 1,0,none⟩=some (.slice A len cap):=by
  simp
 have hI0:Texts w.heap.size ((w.alloc (.cells #[.slice none 0 0] 77)).alloc (.cells #[.slice A len cap] 51)) A len cap ts:=by
  rcases hI with h | ⟨b,off,e1,e2,hb,hcs⟩
  ·exact .inl h
  ·exact .inr ⟨b,off,e1,e2,hb,fun j hj=>(hB0.cell (p:=⟨b,off + j,none⟩) hb).trans (hcs j hj)⟩
 generalize hW1:(w.alloc (.cells #[.slice none 0 0] 77)).alloc (.cells #[.slice A len cap] 51)=W1 at bO hB0 hcT hI0 ⊢
 have hs1:W1.heap.size=w.heap.size + 2:=by rw[← hW1];simp
 refine wpIn_rangeFunc_ownH hro h1 (gf:=116) (lb:=#[.pointer (some ⟨w.heap.size + 1,0,none⟩)]) (by simp[Act.eval,World.size_alloc]) h116 (enters_of Tryz.func116 (by kernel_rfl) rfl)
  (heard_stops F (n - 1) h116 hf86 h86 hro (by omega) (w.heap.size + 1) 0 w.heap.size A len cap ts dec hdec (by omega) W1 (by omega) (by omega) hcT hI0) belowK_t (belowK_b (by omega)) (Below.refl _ _) (fun _=>rfl)
  (fun pre W=>(∃ v,Boxed W w.heap.size 77 v∧W.ownsRow w.heap.size 81 6 v pre.length (boxes dec pre)∧(v=.slice none 0 0↔pre=[]))∧Below w.heap.size w W)
  (fun _ _ _=>False)
  (OwnFrom.and (Own.from (holdsRow_own w.heap.size w.heap.size 77 81 6 (fun pre=>pre.length) (fun pre=>boxes dec pre) (fun pre v=>v=.slice none 0 0↔pre=[])) _) (ownFrom_below (Nat.le_refl _) (by omega)))
  (fun _ _ _ _ _ hs _ _=>hs)
  ⟨⟨_,bO,World.ownsRow_nil _ _ _ _,by simp⟩,hB0⟩
  (fun x a' W=>∃ B,a'={ tmps := #[t 0,t 1,t 2,t 3,t 4,t 5,t 6,t 7,t 8,t 9,t 10,t 11,t 12,t 13,t 14,t 15,.slice A len cap,.pointer (some ⟨w.heap.size,0,none⟩),.pointer (some ⟨B,0,none⟩),t 19,t 20,t 21,t 22,t 23,t 24,t 25,t 26,t 27,t 28,t 29,t 30,t 31,t 32,t 33,t 34,t 35,t 36,t 37,t 38,t 39,t 40,t 41,t 42,t 43,t 44,t 45,t 46,t 47,t 48,t 49,t 50,t 51,t 52,t 53,t 54,t 55,t 56,t 57,t 58,t 59,t 60,t 61,t 62,t 63,t 64,t 65,t 66,t 67,t 68,t 69,t 70,t 71,t 72,t 73,t 74,t 75,t 76,t 77,t 78,t 79,t 80,t 81,t 82,t 83,t 84,t 85,t 86,t 87,t 88,t 89,t 90,t 91,t 92,t 93,t 94,t 95,t 96,t 97,t 98,t 99,t 100,t 101,t 102,t 103,t 104,t 105,t 106,t 107,t 108,t 109,t 110,t 111,t 112,t 113,t 114,.slice A len cap,.func (.func 116) #[] #[.pointer (some ⟨w.heap.size + 1,0,none⟩)],.agg #[.int .u64 (dec x).fTo,.int .u64 (dec x).fFrom,.int .i64 (dec x).fSeq,.int .i64 (dec x).fKind,.int .i64 (dec x).fParam,.string ⟨(dec x).fData.toArray⟩],t 118,t 119,t 120,t 121,t 122],defers:=[] }∧W.heap[B]? = some (.cells #[.int .u64 (dec x).fTo,.int .u64 (dec x).fFrom,.int .i64 (dec x).fSeq,.int .i64 (dec x).fKind,.int .i64 (dec x).fParam,.string ⟨(dec x).fData.toArray⟩] 81 (0,0)))
  ?hAx ?assign ?body ?done ?stop
 case hAx =>
  rintro x a' s X Y row ⟨B,rfl,hc⟩ hg hr
  refine ⟨B,rfl,(hg.block B (Array.getElem?_eq_some_iff.1 hc).1 fun e=>?_).trans hc⟩
  obtain ⟨_,o,ho,hcells⟩:=hr B e.symm
  rw[hc] at ho
  cases ho
  cases hcells
 case assign =>
  intro l pre x W K hI hK
  have hsz:=hI.2.size
  simp only[msgV]
  gi_wp2
  obtain ⟨⟨v,hv,hrow,hnil⟩,hB⟩:=hI
  exact hK _ _ ((KeepsOthers.alloc W _).from _) ((Below.refl _ W).alloc hsz _) ⟨⟨v,hv.alloc _,hrow.alloc _,hnil⟩,hB.alloc hsz _⟩ ⟨W.heap.size,rfl,World.alloc_heap_new _ _⟩
 case body =>
  rintro l pre x a' W hl hrec ⟨⟨v,hv,hrow,hnil⟩,hB⟩ ⟨B,rfl,hcb⟩ hlt
  have hc:=hv.cell
  have hsz:=hB.size
  have cb0:W.cell? ⟨B,0,none⟩=some (.int .u64 (dec x).fTo):=by simp[World.cell?,hcb]
  have cb1:W.cell? ⟨B,1,none⟩=some (.int .u64 (dec x).fFrom):=by simp[World.cell?,hcb]
  have cb2:W.cell? ⟨B,2,none⟩=some (.int .i64 (dec x).fSeq):=by simp[World.cell?,hcb]
  have cb3:W.cell? ⟨B,3,none⟩=some (.int .i64 (dec x).fKind):=by simp[World.cell?,hcb]
  have cb4:W.cell? ⟨B,4,none⟩=some (.int .i64 (dec x).fParam):=by simp[World.cell?,hcb]
  have cb5:W.cell? ⟨B,5,none⟩=some (.string ⟨(dec x).fData.toArray⟩):=by simp[World.cell?,hcb]
  have hnew:∀ j u,(msgL (dec x))[j]? = some u→(W.alloc (.cells #[.int .u64 (dec x).fTo,.int .u64 (dec x).fFrom,.int .i64 (dec x).fSeq,.int .i64 (dec x).fKind,.int .i64 (dec x).fParam,.string ⟨(dec x).fData.toArray⟩] 81)).cell? ((⟨W.heap.size,0,none⟩:Addr).add j)=some u:=by
   intro j u hj
   have hb:=World.alloc_heap_new W (.cells #[.int .u64 (dec x).fTo,.int .u64 (dec x).fFrom,.int .i64 (dec x).fSeq,.int .i64 (dec x).fKind,.int .i64 (dec x).fParam,.string ⟨(dec x).fData.toArray⟩] 81)
   have hc':∀ i,(W.alloc (.cells #[.int .u64 (dec x).fTo,.int .u64 (dec x).fFrom,.int .i64 (dec x).fSeq,.int .i64 (dec x).fKind,.int .i64 (dec x).fParam,.string ⟨(dec x).fData.toArray⟩] 81)).cell? ((⟨W.heap.size,0,none⟩:Addr).add i)=(#[Value.int .u64 (dec x).fTo,.int .u64 (dec x).fFrom,.int .i64 (dec x).fSeq,.int .i64 (dec x).fKind,.int .i64 (dec x).fParam,.string ⟨(dec x).fData.toArray⟩]:Array Value)[i]? := fun i=>by
    by_cases h0:i=0
    ·subst h0
     simp only[World.cell?,Addr.add,if_true]
     rw[hb]
     rfl
    ·simp only[World.cell?,Addr.add,if_neg h0,Nat.zero_add,hb]
     rfl
   rw[hc',← hj]
   simp[msgL]
  have hone:∀ u ∈ msgL (dec x),u.oneCell'=true:=by simp[msgL,Value.oneCell']
  gi_wp2_with (gi_at_builtin;refine wpListIn_append_own _ rfl _ _ 77 rfl w.heap.size 81 i0 (.agg #[.int .u64 0,.int .u64 0,.int .i64 0,.int .i64 0,.int .i64 0,.string ⟨#[]⟩]) 6 56 Tryz.underlying77 hi hz0 hz1 hz2 rfl (by decide) _ _ _ rfl (hrow.alloc _) ⟨W.heap.size,0,none⟩ 1 1 (msgL (dec x)) rfl rfl hnew hone (by unfold maxLen;omega) (by omega) (by simp;omega) ?_;intro v' w1 hown' hgrow _;obtain ⟨g',cap',rfl⟩:=ownsRow_succ hown';obtain ⟨hv1,hv2,hr2,hk2,hb2⟩:=hv.appended (by decide) hrow hB.size (Nat.le_refl _) hown' hgrow;have hc1:=hv1.cell;have hf1:=hv1.frozen)
  exact ⟨hk2.from _,hb2,⟨_,hv2,by rw[boxes_append,List.length_append];exact hr2,by simp⟩,hB.trans hb2⟩
 case done =>
  rintro D ys W hD rfl ⟨⟨v,hv,hrow,hnil⟩,hB⟩ hK
  have hc:=hv.cell
  gi_wp2
  refine ⟨by simp,.inl ⟨_,_,rfl,run_takeDeferred hK,?_⟩⟩
  refine ⟨_,results_tmp rfl _ _ _,?_⟩
  exact hR v _ (ownsRow_putObj hrow _ hK rfl) hnil (hB.trans (belowK_b (w:=w) (Nat.le_refl _) W D _ _ (by omega) hK rfl rfl))
 case stop =>
  rintro D c pre W _ _ h _
  exact h.elim
end Go.Proofs.YtgjfhplkochbpaaGreat
