import Derived.RangeFuncBox
import Derived.RangeFuncLeaves
import Derived.Shelf.Abstract
import Derived.WalkKit
import Derived.OwnWalkIn
import Derived.TacticsInMore
import Derived.LoopNIn
import Derived.LoopIn
import Derived.Test.YtnaemmpcffnbkaaGreatDoorRSeqB
import Derived.Test.YtnaemmpcffnbkaaGreatDoorProg
set_option linter.unusedSimpArgs false
set_option linter.unusedVariables false
namespace Go.Proofs
open Go.RowKit Go.Shelf
attribute [local go_sem] Oper.semAt_some
def Tryz.ofInt:Value→Int
 | .int _ n=>n
 | _=>0
def Tryz.upto{α : Type}(f:Nat → α)(k:Nat):List α := (List.range k).map f
theorem Tryz.upto_succ{α : Type}(f:Nat → α)(k:Nat):Tryz.upto f (k + 1)=Tryz.upto f k++[f k]:=by simp[Tryz.upto,List.range_succ]
theorem Tryz.upto_length{α : Type}(f:Nat → α)(k:Nat):(Tryz.upto f k).length=k:=by simp[Tryz.upto]
theorem Tryz.upto_all(zs:List Int):Tryz.upto (fun j=>zs[j]?.getD 0) zs.length=zs:=by
 apply List.ext_getElem
 ·simp[Tryz.upto]
 ·intro i h1 h2
  simp[Tryz.upto,h2]
set_option maxRecDepth 100000 in
set_option maxHeartbeats 2000000 in
theorem Tryz.values1_in(F:Fence)(n:Nat)(h7:F.fn 81)(hro:F.round=none)(hn:1≤n)(l Bs o n₀ b off len cap:Nat)(zs:List Int)(hreach:len * 8≤140737488351232)(hb:b<n₀)(w0:World)(J:List Int→World→Prop)
  (hJB:∀ s W,J s W→Below n₀ w0 W)
  (hY:∀ pre x W,J pre W→pre.length<len→YieldAt F (n - 1) Tryz.prog l #[.int .i64 x] W fun e W'=>e=.returned (.bool true)∧J (pre++[x]) W'∧KeepsWalks W W')
  (W:World) (hBs:W.cell? ⟨Bs,o,none⟩=some (.slice (some ⟨b,off,none⟩) len cap)) (hc:∀ j,j<len→w0.cell? ⟨b,off + j,none⟩=some (.int .i64 (zs[j]?.getD 0))) (h0:J [] W) :
  CallsIn F n Tryz.prog 81 #[.func (.yield l) #[] #[],.pointer (some ⟨Bs,o,none⟩)] W fun e W'=>(∃ v,e=.returned v)∧∃ ys,ys=Tryz.upto (fun j=>zs[j]?.getD 0) len∧J ys W':=by
 refine callsIn_of_wp Tryz.func81 rfl h7 ?_ hro
 simp only[Tryz.ntmps81,List.size_toArray,List.length_cons,List.length_nil,Nat.reduceAdd,Nat.reduceSub,Array.replicate_succ,Array.replicate_zero,List.push_toArray,List.append_toArray,List.nil_append,List.cons_append]
 gi_wp2
 gi_loopw [7] (fun i wr=>∃ k:Nat,k≤len∧i=.int .i64 k∧J (Tryz.upto (fun j=>zs[j]?.getD 0) k) wr)
  (fun i _=>len - (Tryz.ofInt i).toNat)
 case atStart=>exact ⟨0,Nat.zero_le _,rfl,h0⟩
 case round =>
  obtain ⟨k,hk,rfl,hJs⟩:=hrel
  have hnx:=hJB _ _ hJs
  have hcx:k<len→wr.cell? ⟨b,off + k,none⟩=some (.int .i64 (zs[k]?.getD 0)):=fun h=>(hnx.cell (p:=⟨b,off + k,none⟩) hb).trans (hc k h)
  clear hnx
  by_cases hlt:k<len
  ·obtain ⟨fn,tmps,assign,body,hy,hR⟩:=hY _ (zs[k]?.getD 0) wr hJs (by rw[Tryz.upto_length];exact hlt)
   have hcx':=hcx hlt
   gi_wp2
   refine hR.mono ?_
   rintro e W3 ⟨rfl,hJ3,hk3⟩
   gi_wp2
   go_roundw
   case rel=>exact ⟨k + 1,by omega,by simp,by rw[Tryz.upto_succ];exact hJ3⟩
   case measure=>simp[Tryz.ofInt];omega
  ·obtain rfl:k=len:=by omega
   gi_wp2
   go_end0
   exact ⟨⟨_,rfl⟩,_,rfl,hJs⟩
set_option maxRecDepth 100000 in
set_option maxHeartbeats 1000000 in
theorem Tryz.values1_nil_in(F:Fence)(n:Nat)(h7:F.fn 81)(hro:F.round=none)(l Bs o:Nat)(A:Option Addr)(cap:Nat)(J:List Int→World→Prop)(W:World)(hBs:W.cell? ⟨Bs,o,none⟩=some (.slice A 0 cap))(h0:J [] W) :
  CallsIn F n Tryz.prog 81 #[.func (.yield l) #[] #[],.pointer (some ⟨Bs,o,none⟩)] W fun e W'=>(∃ v,e=.returned v)∧J [] W':=by
 refine callsIn_of_wp Tryz.func81 rfl h7 ?_ hro
 simp only[Tryz.ntmps81,List.size_toArray,List.length_cons,List.length_nil,Nat.reduceAdd,Nat.reduceSub,Array.replicate_succ,Array.replicate_zero,List.push_toArray,List.append_toArray,List.nil_append,List.cons_append]
 gi_wp2
 gi_loopw [7] (fun i wr=>i=.int .i64 0∧J [] wr) (fun _ _=>0)
 case atStart=>exact ⟨rfl,h0⟩
 case round =>
  obtain ⟨rfl,hJs⟩:=hrel
  gi_wp2
  go_end0
  exact ⟨⟨_,rfl⟩,hJs⟩
def Tryz.Ints(n₀:Nat)(W:World)(sv:Value)(zs:List Int):Prop :=
 (∃ A cap,sv=.slice A 0 cap∧zs=[])∨∃ b off cap,sv=.slice (some ⟨b,off,none⟩) zs.length cap∧b<n₀∧∀ j,j<zs.length→W.cell? ⟨b,off + j,none⟩=some (.int .i64 (zs[j]?.getD 0))
theorem Tryz.values_gives(F:Fence)(n:Nat)(h7:F.fn 81)(hro:F.round=none)(hn:1≤n)(Bs o:Nat)(sv:Value)(zs:List Int)(hreach:zs.length * 8≤140737488351232)(w:World)(hBs:Bs<w.heap.size)
  (hc:w.cell? ⟨Bs,o,none⟩=some sv) (hI:Tryz.Ints w.heap.size w sv zs) :
  SeqGivesB F n Tryz.prog 81 #[.pointer (some ⟨Bs,o,none⟩)] (fun x:Int=>Value.int .i64 x) (fun ys=>ys=zs) zs.length w:=fun l J W hW _ hJB hY h0=>by
 have hc':=(hW.cell (p:=⟨Bs,o,none⟩) hBs).trans hc
 rcases hI with ⟨A,cap,rfl,rfl⟩ | ⟨b,off,cap,rfl,hb,hcs⟩
 ·exact (Tryz.values1_nil_in F n h7 hro l Bs o A cap J W hc' h0).mono fun e W' ⟨he,hj⟩=>⟨he,_,rfl,hj⟩
 ·refine (Tryz.values1_in F n h7 hro hn l Bs o w.heap.size b off zs.length cap zs hreach hb w J hJB hY W hc' hcs h0).mono ?_
  rintro e W' ⟨he,ys,rfl,hj⟩
  exact ⟨he,_,Tryz.upto_all zs,hj⟩
end Go.Proofs
