import Derived.RangeFuncBox
import Derived.RangeFuncLeaves
import Derived.Shelf.Abstract
import Derived.WalkKit
import Derived.OwnWalkIn
import Derived.TacticsInMore
import Derived.LoopNIn
import Derived.LoopIn
import Derived.Maps.AppendAt
import Derived.Test.YtgjfhplkochbpaaGreatProg
import Derived.KernelRfl
set_option linter.unusedSimpArgs false
set_option linter.unusedVariables false
namespace Go.Proofs
open Go.RowKit Go.Shelf
attribute [local go_sem] Oper.semAt_some
def Tryz.ofInt:Value→Int
 | .int _ n=>n
 | _=>0
def Tryz.upto{α : Type}(f:Nat → α)(k:Nat):List α := (List.range k).map f
theorem Tryz.upto_succ{α : Type}(f:Nat → α)(k:Nat):Tryz.upto f (k + 1)=Tryz.upto f k++[f k]:=by simp[Tryz.upto,List.range_succ]
theorem Tryz.upto_length{α : Type}(f:Nat → α)(k:Nat):(Tryz.upto f k).length=k:=by simp[Tryz.upto]
theorem Tryz.upto_all(zs:List Int):Tryz.upto (fun j=>zs[j]?.getD 0) zs.length=zs:=by
 apply List.ext_getElem
 ·simp[Tryz.upto]
 ·intro i h1 h2
  simp[Tryz.upto,h2]
set_option maxRecDepth 100000 in
set_option maxHeartbeats 2000000 in
theorem Tryz.values1_in(F:Fence)(n:Nat)(h7:F.fn 21)(hro:F.round=none)(hn:1≤n)(l Bs o n₀ b off len cap:Nat)(zs:List Int)(hreach:len * 8≤140737488351232)(hb:b<n₀)(w0:World)(J Jx:List Int→World→Prop)
  (hY:∀ pre x W,J pre W→pre.length<len→YieldAt F (n - 1) Tryz.prog l #[.int .u64 x] W fun e W'=>(e=.returned (.bool true)∧J (pre++[x]) W'∧Below n₀ W W')∨(e=.returned (.bool false)∧Jx (pre++[x]) W'))
  (W:World) (hW:Below n₀ w0 W) (hBs:W.cell? ⟨Bs,o,none⟩=some (.slice (some ⟨b,off,none⟩) len cap)) (hc:∀ j,j<len→w0.cell? ⟨b,off + j,none⟩=some (.int .u64 (zs[j]?.getD 0))) (h0:J [] W) :
  CallsIn F n Tryz.prog 21 #[.func (.yield l) #[] #[],.pointer (some ⟨Bs,o,none⟩)] W fun e W'=>(∃ v,e=.returned v)∧((∃ ys,ys=Tryz.upto (fun j=>zs[j]?.getD 0) len∧J ys W')∨∃ pre,True∧Jx pre W'):=by
 refine callsIn_of_wp Tryz.func21 rfl h7 ?_ hro
 simp only[Tryz.ntmps21,List.size_toArray,List.length_cons,List.length_nil,Nat.reduceAdd,Nat.reduceSub,Array.replicate_succ,Array.replicate_zero,List.push_toArray,List.append_toArray,List.nil_append,List.cons_append]
 gi_wp2
 gi_loopw [7] (fun i wr=>∃ k:Nat,k≤len∧i=.int .i64 k∧J (Tryz.upto (fun j=>zs[j]?.getD 0) k) wr∧Below n₀ w0 wr)
  (fun i _=>len - (Tryz.ofInt i).toNat)
 case atStart=>exact ⟨0,Nat.zero_le _,rfl,h0,hW⟩
 case round =>
  obtain ⟨k,hk,rfl,hJs,hnx⟩:=hrel
  have hcx:k<len→wr.cell? ⟨b,off + k,none⟩=some (.int .u64 (zs[k]?.getD 0)):=fun h=>(hnx.cell (p:=⟨b,off + k,none⟩) hb).trans (hc k h)
  by_cases hlt:k<len
  ·obtain ⟨fn,tmps,assign,body,hy,hR⟩:=hY _ (zs[k]?.getD 0) wr hJs (by rw[Tryz.upto_length];exact hlt)
   have hcx':=hcx hlt
   gi_wp2
   refine hR.mono ?_
   rintro e W3 (⟨rfl,hJ3,hk3⟩ | ⟨rfl,hJx3⟩)
   ·gi_wp2
    go_roundw
    case rel=>exact ⟨k + 1,by omega,by simp,by rw[Tryz.upto_succ];exact hJ3,hnx.trans hk3⟩
    case measure=>simp[Tryz.ofInt];omega
   ·gi_wp2
    refine bodyPost_ret (results_none rfl _ _ _) rfl ?_
    exact ⟨⟨_,rfl⟩,.inr ⟨_,trivial,hJx3⟩⟩
  ·obtain rfl:k=len:=by omega
   gi_wp2
   go_end0
   exact ⟨⟨_,rfl⟩,.inl ⟨_,rfl,hJs⟩⟩
set_option maxRecDepth 100000 in
set_option maxHeartbeats 1000000 in
theorem Tryz.values1_nil_in(F:Fence)(n:Nat)(h7:F.fn 21)(hro:F.round=none)(l Bs o:Nat)(A:Option Addr)(cap:Nat)(J:List Int→World→Prop)(W:World)(hBs:W.cell? ⟨Bs,o,none⟩=some (.slice A 0 cap))(h0:J [] W) :
  CallsIn F n Tryz.prog 21 #[.func (.yield l) #[] #[],.pointer (some ⟨Bs,o,none⟩)] W fun e W'=>(∃ v,e=.returned v)∧J [] W':=by
 refine callsIn_of_wp Tryz.func21 rfl h7 ?_ hro
 simp only[Tryz.ntmps21,List.size_toArray,List.length_cons,List.length_nil,Nat.reduceAdd,Nat.reduceSub,Array.replicate_succ,Array.replicate_zero,List.push_toArray,List.append_toArray,List.nil_append,List.cons_append]
 gi_wp2
 gi_loopw [7] (fun i wr=>i=.int .i64 0∧J [] wr) (fun _ _=>0)
 case atStart=>exact ⟨rfl,h0⟩
 case round =>
  obtain ⟨rfl,hJs⟩:=hrel
  gi_wp2
  go_end0
  exact ⟨⟨_,rfl⟩,hJs⟩
def Tryz.Ints(n₀:Nat)(W:World)(sv:Value)(zs:List Int):Prop :=
 (∃ A cap,sv=.slice A 0 cap∧zs=[])∨∃ b off cap,sv=.slice (some ⟨b,off,none⟩) zs.length cap∧b<n₀∧∀ j,j<zs.length→W.cell? ⟨b,off + j,none⟩=some (.int .u64 (zs[j]?.getD 0))
theorem Tryz.values_stops(F:Fence)(n:Nat)(h7:F.fn 21)(hro:F.round=none)(hn:1≤n)(Bs o n₀:Nat)(sv:Value)(zs:List Int)(hreach:zs.length * 8≤140737488351232)(w:World)(hBs:Bs<w.heap.size)(hn₀:n₀≤w.heap.size)
  (hc:w.cell? ⟨Bs,o,none⟩=some sv) (hI:Tryz.Ints n₀ w sv zs) :
  SeqStopsK F n Tryz.prog 21 #[.pointer (some ⟨Bs,o,none⟩)] (fun x:Int => #[Value.int .u64 x]) (Below n₀) (fun ys=>ys=zs) (fun _=>True) zs.length w:=fun l J Jx W hW _ _ hY h0=>by
 have hc':=(hW.cell (p:=⟨Bs,o,none⟩) hBs).trans hc
 rcases hI with ⟨A,cap,rfl,rfl⟩ | ⟨b,off,cap,rfl,hb,hcs⟩
 ·exact (Tryz.values1_nil_in F n h7 hro l Bs o A cap J W hc' h0).mono fun e W' ⟨he,hj⟩=>⟨he,.inl ⟨_,rfl,hj⟩⟩
 ·refine (Tryz.values1_in F n h7 hro hn l Bs o n₀ b off zs.length cap zs hreach hb w J Jx hY W (hW.mono hn₀) hc' hcs h0).mono ?_
  rintro e W' ⟨he,⟨ys,rfl,hj⟩ | h⟩
  ·exact ⟨he,.inl ⟨_,Tryz.upto_all zs,hj⟩⟩
  ·exact ⟨he,.inr h⟩
theorem Tryz.info23:(Tryz.prog.info? 23).map (fun i=>(i.zero,i.size,i.bytes))=some (some (.int .u64 0),1,8):=by kernel_rfl
set_option maxRecDepth 100000 in
set_option maxHeartbeats 2000000 in
theorem Tryz.appendSeq_in(F:Fence)(n:Nat)(h39:F.fn 39)(h21:F.fn 21)(hro:F.round=none)(hn:3≤n)(Bs o:Nat)(sv:Value)(zs:List Int)(hreach:zs.length * 8≤140737488351232)(w:World)(hBs:Bs<w.heap.size)
  (hc:w.cell? ⟨Bs,o,none⟩=some sv) (hI:Tryz.Ints w.heap.size w sv zs) :
  CallsIn F n Tryz.prog 39 #[.slice none 0 0,.func (.func 21) #[] #[.pointer (some ⟨Bs,o,none⟩)]] w fun e W'=>∃ v,e=.returned v∧W'.ownsRow w.heap.size 23 1 v zs.length (zs.map (Value.int .u64))∧(v=.slice none 0 0↔zs=[])∧Below w.heap.size w W':=by
 have h1:1≤n:=by omega
 obtain ⟨i0,hi,hz0,hz1,hz2⟩:=info_parts Tryz.info23
 refine callsIn_of_wp_marks Tryz.func39 rfl h39 ?_ hro
 simp only[Tryz.ntmps39,List.size_toArray,List.length_cons,List.length_nil,Nat.reduceAdd,Nat.reduceSub,Array.replicate_succ,Array.replicate_zero,List.push_toArray,List.append_toArray,List.nil_append,List.cons_append]
 gi_wp2
 have bO:=Boxed.new w 27 (.slice none 0 0)
 have hB0:Below w.heap.size w (w.alloc (.cells #[.slice none 0 0] 27)):=(Below.refl _ w).alloc (Nat.le_refl _) _
 have hI0:Tryz.Ints w.heap.size (w.alloc (.cells #[.slice none 0 0] 27)) sv zs:=by
  rcases hI with h | ⟨b,off,cap,e,hb,hcs⟩
  ·exact .inl h
  ·exact .inr ⟨b,off,cap,e,hb,fun j hj=>(hB0.cell (p:=⟨b,off + j,none⟩) hb).trans (hcs j hj)⟩
 refine wpIn_rangeFunc_ownG hro h1 (gf:=21) (lb:=#[.pointer (some ⟨Bs,o,none⟩)]) rfl h21 (enters_of Tryz.func21 (by kernel_rfl) rfl)
  (Tryz.values_stops F (n - 1) h21 hro (by omega) Bs o w.heap.size sv zs hreach _ (by simp;omega) (by simp) ((hB0.cell (p:=⟨Bs,o,none⟩) hBs).trans hc) hI0) belowK_t (belowK_b (by simp)) (Below.refl _ _) (fun _=>rfl)
  (fun pre W=>(∃ v,Boxed W w.heap.size 27 v∧W.ownsRow w.heap.size 23 1 v pre.length (pre.map (Value.int .u64))∧(v=.slice none 0 0↔pre=[]))∧Below w.heap.size w W)
  (fun _ _ _=>False)
  (OwnFrom.and (Own.from (holdsRow_own w.heap.size w.heap.size 27 23 1 (fun pre=>pre.length) (fun pre=>pre.map (Value.int .u64)) (fun pre v=>v=.slice none 0 0↔pre=[])) _) (ownFrom_below (Nat.le_refl _) (by simp)))
  (fun _ _ _ _ _ hs _ _=>hs)
  ⟨⟨_,bO,World.ownsRow_nil _ _ _ _,by simp⟩,hB0⟩
  (fun x=>{ tmps := #[.slice none 0 0,.func (.func 21) #[] #[.pointer (some ⟨Bs,o,none⟩)],.pointer (some ⟨w.heap.size,0,none⟩),undef,.slice none 0 0,.int .u64 x,.func (.func 21) #[] #[.pointer (some ⟨Bs,o,none⟩)],.int .u64 x,undef,undef,undef,undef,undef],defers:=[] }) ?assign ?body ?done ?stop
 case assign =>
  intro l x W K hK
  gi_wp2
  exact hK
 case body =>
  rintro l pre x W ⟨⟨v,hv,hrow,hnil⟩,hB⟩ hlt
  have hc:=hv.cell
  gi_wp2_with (gi_at_builtin;refine wpListIn_append_own _ rfl _ _ 27 rfl w.heap.size 23 i0 (.int .u64 0) 1 8 Tryz.underlying27 hi hz0 hz1 hz2 rfl (by decide) _ _ _ rfl (hrow.alloc _) ⟨W.heap.size,0,none⟩ 1 1 [.int .u64 x] rfl rfl (cell_one_new _ _ _) (by simp[Value.oneCell']) (by unfold maxLen;omega) (by omega) (by have:=hB.size;simp;omega) ?_;intro v' w1 hown' hgrow _;obtain ⟨g',cap',rfl⟩:=ownsRow_succ hown';obtain ⟨hv1,hv2,hr2,hk2,hb2⟩:=hv.appended (by decide) hrow hB.size (Nat.le_refl _) hown' hgrow;have hc1:=hv1.cell;have hf1:=hv1.frozen)
  exact ⟨hk2.from _,hb2,⟨_,hv2,by simpa using hr2,by simp⟩,hB.trans hb2⟩
 case done =>
  rintro D ys W hD rfl ⟨⟨v,hv,hrow,hnil⟩,hB⟩ hK
  have hc:=hv.cell
  gi_wp2
  refine ⟨by simp,.inl ⟨_,_,rfl,run_takeDeferred hK,?_⟩⟩
  exact ⟨_,results_tmp rfl _ _ _,v,rfl,ownsRow_putObj hrow _ hK rfl,hnil,hB.trans (belowK_b (w:=w) (Nat.le_refl _) W D _ _ (by simp at hD;omega) hK rfl rfl)⟩
 case stop =>
  rintro D c pre W _ _ h _
  exact h.elim
set_option maxHeartbeats 1000000 in
theorem Tryz.collect_in(F:Fence)(n:Nat)(h20:F.fn 20)(h39:F.fn 39)(h21:F.fn 21)(hro:F.round=none)(hn:4≤n)(Bs o:Nat)(sv:Value)(zs:List Int)(hreach:zs.length * 8≤140737488351232)(w:World)(hBs:Bs<w.heap.size)
  (hc:w.cell? ⟨Bs,o,none⟩=some sv) (hI:Tryz.Ints w.heap.size w sv zs) :
  CallsIn F n Tryz.prog 20 #[.func (.func 21) #[] #[.pointer (some ⟨Bs,o,none⟩)]] w fun e W'=>∃ v,e=.returned v∧W'.ownsRow w.heap.size 23 1 v zs.length (zs.map (Value.int .u64))∧(v=.slice none 0 0↔zs=[])∧Below w.heap.size w W':=by
 have h1:1≤n:=by omega
 have e39:∀ args w,(callFunc 39 args).run Tryz.prog w=.ok (.enter 39 args) w:=enters_of Tryz.func39 (by kernel_rfl) rfl
 refine callsIn_of_wp Tryz.func20 rfl h20 ?_ hro
 simp only[Tryz.ntmps20,List.size_toArray,List.length_cons,List.length_nil,Nat.reduceAdd,Nat.reduceSub,Array.replicate_succ,Array.replicate_zero,List.push_toArray,List.append_toArray,List.nil_append,List.cons_append]
 gi_wp2_with (gi_at_call 39;refine (Tryz.appendSeq_in F (n - 1) h39 h21 hro (by omega) Bs o sv zs hreach _ hBs hc hI).mono ?_;rintro e w' ⟨v,rfl,hrow,hnil,hb⟩)
 go_ret
 exact ⟨v,rfl,hrow,hnil,hb⟩
end Go.Proofs
