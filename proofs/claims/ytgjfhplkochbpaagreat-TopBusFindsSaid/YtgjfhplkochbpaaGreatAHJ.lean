import Derived.Test.YtgjfhplkochbpaaGreatAHF
import Derived.Test.YtgjfhplkochbpaaGreatASE
import Derived.Test.YtgjfhplkochbpaaGreatAZ1
import Derived.KernelRfl
set_option linter.unusedSimpArgs false
set_option linter.unusedVariables false
set_option maxHeartbeats 1000000
set_option maxRecDepth 4000
namespace Go.Proofs.YtgjfhplkochbpaaGreat
open Go Go.Ab
def b26:C:=.seq (.seq (.reg [iI 9 (.mv (.t 5)),iI 10 (.mv (.t 0)),iI 11 (.nilchk (.t 10)),iI 12 (.faddr 0 (.t 11)),iI 13 (.faddr 2 (.t 12)),iI 14 (.load 0 (.t 13)),iI 15 (.bin .leq (.t 9) (.t 14))]) c26_0) c26_12
def i26:C:=.seq (.reg [iI 29 (.bin .lss (.t 28) (.t 27))]) c26_8
theorem c26_13e:c26_13=.block 0 (.loop b26):=rfl
theorem c26_9e:c26_9=.block 2 (.loop i26):=rfl
theorem ask_try{Q:Ex→St→Prop}{c q r:Nat}{id seq tries:Int}{devs devs':List ResponderDevice}{h:Hp}{fl:List Int}{lt:Bool}{req:ManagerRequest}{us:List (List UInt8)}{fault e e2 k:Int}{m a a':ApiMessage}{t:List UInt8}{s:Nat→AV}{rc:List AV}{lo:Nat}
  (hf:(fl=[]∧fault=0∧us=[t])∨(fl=[2]∧fault=2∧us=[]))
  (h45:f45 ⟨id,seq,tries⟩ req=some m) (h27:f27 devs m=some (devs',[a],e)) (h67:f67 a=some (t,e2)) (h86:f86 t=some (a',0)) (hk:k≤tries)
  (hc:h[c]? = some (.cel (sesC id seq tries devs fl lt))) (hq:h[q]? = some (.cel (reqC req))) (hr:h[r]? = some (.cel rc)) (hqc:q≠c) (hrc:r≠c)
  (s0:s 0=.ptr c 0) (s3:s 3=.ptr q 0) (s4:s 4=.ptr r 0) (s5:s 5=.int .i64 k)
  (hQ:∀ s' h' x,s' 0=.ptr c 0→s' 3=.ptr q 0→s' 4=.ptr r 0→s' 5=.int .i64 k→s' 6=.ptr x 0→h'[x]? = some (.cel (msgC m))→s' 26=.sl 6 false (us.map fun _=>eApiMessage a')→s' 27=.int .i64 (us.length:Int)→s' 28=.int .i64 0 →
   h'[c]? = some (.cel (sesC id ((IntKind.i64.wrap (seq + 1)).tmod 256) tries devs' [] true))→Kp h c h'→x≠r →
   AW Tryz.prog 56 lo c26_9 (blkQ Tryz.prog 56 lo 1 c26_11 Q) ⟨s',h'⟩) :
  AW Tryz.prog 56 lo b26 Q ⟨s,h⟩:=by
 have p45:=f45_ok h45
 refine AW.sseq ?_
 refine AW.rseq ?_
 have hkd:decide (k≤tries)=true:=decide_eq_true hk
 simp only[wm,wmd,↓wk,↓wl,nq,evV,↓reduceIte,sevalprocAttr,s0,s5,hc,hkd]
 refine AW.ift (by rfl) (AW.skip (seqQ.norm ?_))
 have cont:∀ s2:Nat→AV,s2 0=.ptr c 0→s2 3=.ptr q 0→s2 4=.ptr r 0→s2 5=.int .i64 k→s2 6=.ptr h.length 0→AW Tryz.prog 56 lo c26_10 (blkQ Tryz.prog 56 lo 1 c26_11 Q) ⟨s2,h++[.cel (msgC m)]⟩:=by
  intro s2 e0 e3 e4 e5 e6
  have hc1:=get_app hc [.cel (msgC m)]
  have hq1:=get_app hq [.cel (msgC m)]
  have hx1:=get_last h (.cel (msgC m))
  have hk1:=Kp.app h c [.cel (msgC m)]
  have hl1:=get_lt hx1
  have hxr:h.length≠r:=fun e=>by have:=get_lt hr;omega
  have hxc:h.length≠c:=fun e=>by have:=get_lt hc;omega
  generalize h++[HB.cel (msgC m)]=h1 at hc1 hq1 hx1 hk1 hl1 ⊢
  refine AW.rseq ?_
  simp only[wm,wmd,↓wk,↓wl,nq,evV,↓reduceIte,sevalprocAttr,e0,e3,hq1]
  refine evTs_fn (by rfl) (by rfl) (send46 (fault:=fault) hf h45 h27 h67 h86 hc1 fun h2 hc2 hk2=>?_)
  have hx2:h2[h.length]? = some (.cel (msgC m)):=by rw[hk2.oth _ hl1 hxc];exact hx1
  simp only[wm,wmd,↓wk,↓wl,nq,evV,↓reduceIte,sevalprocAttr]
  refine hQ _ h2 h.length ?_ ?_ ?_ ?_ ?_ hx2 ?_ ?_ ?_ hc2 (hk1.trans hk2) hxr
  all_goals simp only[↓wk,↓reduceIte,sevalprocAttr,e0,e3,e4,e5,e6]
 refine AW.bseq ?_
 refine AW.sseq (AW.regt (evR.fork ?_))
 simp only[wm,wmd,↓wk,↓wl,nq,evV,↓reduceIte,sevalprocAttr,hc,hq,s0,s3]
 refine evR.both ?_ ?_
 ·refine evR.run ?_
  refine evTs_valq p45 (by rfl) (by rfl) (by rfl) (by rfl) (by rfl) ?_
  simp only[wm,wmd,↓wk,↓wl,nq,evV,↓reduceIte,sevalprocAttr,get_last,set_last]
  refine seqQ.norm (cont _ ?_ ?_ ?_ ?_ ?_)<;>simp only[↓wk,↓reduceIte,sevalprocAttr,s0,s3,s4,s5]
 ·refine evR.run ?_
  simp only[wm,wmd,↓wk,↓wl,nq,evV,↓reduceIte,sevalprocAttr,get_last,set_last]
  refine evTs_valq p45 (by rfl) (by rfl) (by rfl) (by rfl) (by rfl) ?_
  simp only[wm,wmd,↓wk,↓wl,nq,evV,↓reduceIte,sevalprocAttr,get_last,set_last]
  refine seqQ.norm (cont _ ?_ ?_ ?_ ?_ ?_)<;>simp only[↓wk,↓reduceIte,sevalprocAttr,s0,s3,s4,s5]
theorem ask_hit{Q:Ex→St→Prop}{c q r:Nat}{id seq tries:Int}{devs devs':List ResponderDevice}{h:Hp}{lt:Bool}{req:ManagerRequest}{e e2 k:Int}{m a a':ApiMessage}{t:List UInt8}{s:Nat→AV}{w x y z:AV}{lo:Nat}
  (h45:f45 ⟨id,seq,tries⟩ req=some m) (h27:f27 devs m=some (devs',[a],e)) (h67:f67 a=some (t,e2)) (h86:f86 t=some (a',0)) (h33:f33 m a'=some true) (h7:a'.fKind≠7) (hk:k≤tries)
  (hc:h[c]? = some (.cel (sesC id seq tries devs [] lt))) (hq:h[q]? = some (.cel (reqC req))) (hr:h[r]? = some (.cel [w,x,y,z])) (hqc:q≠c) (hrc:r≠c)
  (s0:s 0=.ptr c 0) (s3:s 3=.ptr q 0) (s4:s 4=.ptr r 0) (s5:s 5=.int .i64 k)
  (hQ:∀ s' h',s' 4=.ptr r 0→h'[r]? = some (.cel [.int .i64 0,.str a'.fData,.int .i64 0,.int .i64 k])→h'[c]? = some (.cel (sesC id ((IntKind.i64.wrap (seq + 1)).tmod 256) tries devs' [] true))→h.length≤h'.length→(∀ b,b<h.length→b≠c→b≠r→h'[b]? = h[b]?)→Q .ret ⟨s',h'⟩) :
  AW Tryz.prog 56 lo b26 Q ⟨s,h⟩:=by
 have p33:=f33_ok h33
 have hd7:decide (a'.fKind=7)=false:=decide_eq_false h7
 refine ask_try (.inl ⟨rfl,rfl,rfl⟩) h45 h27 h67 h86 hk hc hq hr hqc hrc s0 s3 s4 s5 fun s2 h2 x2 e0 e3 e4 e5 e6 hx2 e26 e27 e28 hc2 hk2 hxr=>?_
 have hr2:h2[r]? = some (.cel [w,x,y,z]):=by rw[hk2.oth _ (get_lt hr) hrc];exact hr
 rw[c26_9e]
 refine AW.block ?_
 refine AW.rounds 1 ?_
 refine Rounds.go ?_
 refine AW.rseq ?_
 simp only[wm,wmd,↓wk,↓wl,nq,evV,↓reduceIte,sevalprocAttr,e27,e28]
 refine AW.sseq ?_
 refine AW.ift (by rfl) (AW.skip (seqQ.norm ?_))
 refine AW.bseq ?_
 refine AW.rseq ?_
 refine evTs_any (v:=.pro (msgC a')) (h':=h2) rfl (by simp only[evV,Od.ev,↓wk,↓reduceIte,sevalprocAttr,e26,e28];rfl) ?_
 simp only[wm,wmd,↓wk,↓wl,nq,evV,↓reduceIte,sevalprocAttr,get_last,set_last]
 have hc3:=get_app hc2 [.cel (msgC a')]
 have hr3:=get_app hr2 [.cel (msgC a')]
 have hx3:=get_app hx2 [.cel (msgC a')]
 have hy3:=get_last h2 (.cel (msgC a'))
 have hk3:=hk2.trans (Kp.app h2 c [.cel (msgC a')])
 have hyr:h2.length≠r:=fun e=>by have:=get_lt hr2;omega
 generalize hh3:h2++[HB.cel (msgC a')]=h3 at hc3 hr3 hx3 hy3 hk3 ⊢
 refine AW.sseq ?_
 refine AW.rseq ?_
 simp only[wm,wmd,↓wk,↓wl,nq,evV,↓reduceIte,sevalprocAttr,e6,hx3,hy3]
 refine evTs_val p33 (by rfl) (by rfl) (by rfl) (by rfl) (by rfl) ?_
 simp only[wm,wmd,↓wk,↓wl,nq,evV,↓reduceIte,sevalprocAttr]
 refine AW.iff (by rfl) (AW.skip (seqQ.norm ?_))
 refine AW.sseq ?_
 refine AW.rseq ?_
 simp only[wm,wmd,↓wk,↓wl,nq,evV,↓reduceIte,sevalprocAttr,hy3,hd7]
 refine AW.iff (by rfl) (AW.skip (seqQ.norm ?_))
 refine AW.rseq ?_
 simp only[wm,wmd,↓wk,↓wl,nq,evV,↓reduceIte,sevalprocAttr,hy3,hr3,e4,e5]
 refine AW.ret ?_
 refine blkQ.ret (roundQ.ret ?_)
 refine hQ _ _ ?_ (get_set (get_lt hr3)) ?_ ?_ fun b hb h1 h2'=>?_
 ·simp only[↓wk,↓reduceIte,sevalprocAttr,e4]
 ·rw[get_ne hrc];exact hc3
 ·rw[List.length_set];exact hk3.len
 ·rw[get_ne (fun e=>h2' e.symm)];exact hk3.oth b hb h1
theorem ask_miss{Q:Ex→St→Prop}{c q r:Nat}{id seq tries:Int}{devs devs':List ResponderDevice}{h:Hp}{lt:Bool}{req:ManagerRequest}{e e2 k:Int}{m a a':ApiMessage}{t:List UInt8}{s:Nat→AV}{rc:List AV}{lo:Nat}
  (h45:f45 ⟨id,seq,tries⟩ req=some m) (h27:f27 devs m=some (devs',[a],e)) (h67:f67 a=some (t,e2)) (h86:f86 t=some (a',0)) (hk:k≤tries)
  (hc:h[c]? = some (.cel (sesC id seq tries devs [2] lt))) (hq:h[q]? = some (.cel (reqC req))) (hr:h[r]? = some (.cel rc)) (hqc:q≠c) (hrc:r≠c)
  (s0:s 0=.ptr c 0) (s3:s 3=.ptr q 0) (s4:s 4=.ptr r 0) (s5:s 5=.int .i64 k)
  (hQ:∀ s' h',s' 0=.ptr c 0→s' 3=.ptr q 0→s' 4=.ptr r 0→s' 5=.int .i64 (IntKind.i64.wrap (k + 1))→h'[c]? = some (.cel (sesC id ((IntKind.i64.wrap (seq + 1)).tmod 256) tries devs' [] true))→Kp h c h'→Q .normal ⟨s',h'⟩) :
  AW Tryz.prog 56 lo b26 Q ⟨s,h⟩:=by
 refine ask_try (.inr ⟨rfl,rfl,rfl⟩) h45 h27 h67 h86 hk hc hq hr hqc hrc s0 s3 s4 s5 fun s2 h2 x2 e0 e3 e4 e5 e6 hx2 e26 e27 e28 hc2 hk2 hxr=>?_
 rw[c26_9e]
 refine AW.block ?_
 refine AW.rounds 1 ?_
 refine Rounds.go ?_
 refine AW.rseq ?_
 simp only[wm,wmd,↓wk,↓wl,nq,evV,↓reduceIte,sevalprocAttr,e27,e28]
 refine AW.sseq ?_
 refine AW.iff (by rfl) (AW.exit (seqQ.exit (roundQ.exit ?_)))
 refine blk0.here (blkQ.norm ?_)
 refine AW.rend ?_
 simp only[wm,wmd,↓wk,↓wl,nq,evV,↓reduceIte,sevalprocAttr,e5]
 refine hQ _ _ ?_ ?_ ?_ ?_ hc2 hk2
 all_goals simp only[↓wk,↓reduceIte,sevalprocAttr,e0,e3,e4]
abbrev resC(data:List UInt8)(k:Int):List AV:=[.int .i64 0,.str data,.int .i64 0,.int .i64 k]
theorem ask1{K:AV→Hp→Prop}{c:Nat}{id seq tries:Int}{devs devs':List ResponderDevice}{h:Hp}{lt:Bool}{req:ManagerRequest}{e e2:Int}{m a a':ApiMessage}{t:List UInt8}
  (h45:f45 ⟨id,seq,tries⟩ req=some m) (h27:f27 devs m=some (devs',[a],e)) (h67:f67 a=some (t,e2)) (h86:f86 t=some (a',0)) (h33:f33 m a'=some true) (h7:a'.fKind≠7) (hk:1≤tries)
  (hc:h[c]? = some (.cel (sesC id seq tries devs [] lt)))
  (hK:∀ h',h'[c]? = some (.cel (sesC id ((IntKind.i64.wrap (seq + 1)).tmod 256) tries devs' [] true))→Kp h c h'→K (.agg (resC a'.fData 1)) h'):Ab.Fn Tryz.prog 26 [.ptr c 0,.agg (reqC req)] h K:=by
 refine Ab.Fn.of_code fd26 (Nat.le_of_ble_eq_true rfl) ⟨_,_,hK (h.set c (.cel (sesC id ((IntKind.i64.wrap (seq + 1)).tmod 256) tries devs' [] true))) (get_set (get_lt hc)) (Kp.set ..)⟩ ?_
 refine AW.rseq ?_
 simp only[wm,wmd,↓wk,↓wl,nq,evV,↓reduceIte,sevalprocAttr]
 have hc1:=get_app (get_app hc [.cel (reqC req)]) [.cel [.int .i64 0,.str [],.int .i64 0,.int .i64 0]]
 have hq1:=get_app (get_last h (.cel (reqC req))) [.cel [.int .i64 0,.str [],.int .i64 0,.int .i64 0]]
 have hr1:=get_last (h++[HB.cel (reqC req)]) (.cel [.int .i64 0,.str [],.int .i64 0,.int .i64 0])
 have hk1:=(Kp.app h c [.cel (reqC req)]).trans (Kp.app _ c [.cel [.int .i64 0,.str [],.int .i64 0,.int .i64 0]])
 have hlc:=get_lt hc
 have hlr:(h++[HB.cel (reqC req)]).length=h.length + 1:=by simp
 refine AW.sseq ?_
 refine AW.rseq ?_
 simp only[wm,wmd,↓wk,↓wl,nq,evV,↓reduceIte,sevalprocAttr]
 rw[c26_13e]
 refine AW.block ?_
 refine AW.rounds 1 ?_
 refine Rounds.go ?_
 refine ask_hit (q:=h.length) (r:=(h++[HB.cel (reqC req)]).length) (k:=1) h45 h27 h67 h86 h33 h7 hk hc1 hq1 hr1 (by omega) (by omega) ?_ ?_ ?_ ?_ fun s' h' e4 hr' hc' hl' ho=>?_
 ·rfl
 ·rfl
 ·rfl
 ·rfl
 refine roundQ.ret ?_
 show seqQ _ _ _ _ _ Ex.ret _
 refine seqQ.ret ⟨.inr rfl,.agg (resC a'.fData 1),?_,hK h' hc' ⟨Nat.le_trans hk1.len hl',fun b hb hbc=>?_⟩⟩
 ·simp only[resVs,omap,resV,wm,wmd,↓wk,↓wl,evV,↓reduceIte,sevalprocAttr,e4,hr']
  rfl
 ·rw[ho b (by have:=hk1.len;omega) hbc (by omega),hk1.oth b hb hbc]
theorem ask2{K:AV→Hp→Prop}{c:Nat}{id seq tries:Int}{devs devs' devs'':List ResponderDevice}{h:Hp}{lt:Bool}{req:ManagerRequest}{e e2 f2 g2:Int}{m a a' m2 d d':ApiMessage}{t u:List UInt8}
  (h45:f45 ⟨id,seq,tries⟩ req=some m) (h27:f27 devs m=some (devs',[a],e)) (h67:f67 a=some (t,e2)) (h86:f86 t=some (a',0))
  (k45:f45 ⟨id,(IntKind.i64.wrap (seq + 1)).tmod 256,tries⟩ req=some m2) (k27:f27 devs' m2=some (devs'',[d],f2)) (k67:f67 d=some (u,g2)) (k86:f86 u=some (d',0)) (k33:f33 m2 d'=some true) (k7:d'.fKind≠7) (hk:2≤tries)
  (hc:h[c]? = some (.cel (sesC id seq tries devs [2] lt)))
  (hK:∀ h',h'[c]? = some (.cel (sesC id ((IntKind.i64.wrap ((IntKind.i64.wrap (seq + 1)).tmod 256 + 1)).tmod 256) tries devs'' [] true))→Kp h c h'→K (.agg (resC d'.fData 2)) h'):Ab.Fn Tryz.prog 26 [.ptr c 0,.agg (reqC req)] h K:=by
 refine Ab.Fn.of_code fd26 (Nat.le_of_ble_eq_true rfl) ⟨_,_,hK (h.set c (.cel (sesC id ((IntKind.i64.wrap ((IntKind.i64.wrap (seq + 1)).tmod 256 + 1)).tmod 256) tries devs'' [] true))) (get_set (get_lt hc)) (Kp.set ..)⟩ ?_
 refine AW.rseq ?_
 simp only[wm,wmd,↓wk,↓wl,nq,evV,↓reduceIte,sevalprocAttr]
 have hc1:=get_app (get_app hc [.cel (reqC req)]) [.cel [.int .i64 0,.str [],.int .i64 0,.int .i64 0]]
 have hq1:=get_app (get_last h (.cel (reqC req))) [.cel [.int .i64 0,.str [],.int .i64 0,.int .i64 0]]
 have hr1:=get_last (h++[HB.cel (reqC req)]) (.cel [.int .i64 0,.str [],.int .i64 0,.int .i64 0])
 have hk1:=(Kp.app h c [.cel (reqC req)]).trans (Kp.app _ c [.cel [.int .i64 0,.str [],.int .i64 0,.int .i64 0]])
 have hlc:=get_lt hc
 have hlr:(h++[HB.cel (reqC req)]).length=h.length + 1:=by simp
 have hlq:=get_lt hq1
 have hlr1:=get_lt hr1
 refine AW.sseq ?_
 refine AW.rseq ?_
 simp only[wm,wmd,↓wk,↓wl,nq,evV,↓reduceIte,sevalprocAttr]
 rw[c26_13e]
 refine AW.block ?_
 refine AW.rounds 2 ?_
 refine Rounds.go ?_
 refine ask_miss (q:=h.length) (r:=(h++[HB.cel (reqC req)]).length) (k:=1) h45 h27 h67 h86 (by omega) hc1 hq1 hr1 (by omega) (by omega) ?_ ?_ ?_ ?_ fun s2 h2 e0 e3 e4 e5 hc2 hk2=>?_
 ·rfl
 ·rfl
 ·rfl
 ·rfl
 have hq2:=(hk2.oth _ hlq (by omega)).trans hq1
 have hr2:=(hk2.oth _ hlr1 (by omega)).trans hr1
 refine roundQ.next (Le.refl _ _) ?_
 refine Rounds.go ?_
 refine ask_hit (q:=h.length) (r:=(h++[HB.cel (reqC req)]).length) (k:=2) k45 k27 k67 k86 k33 k7 hk hc2 hq2 hr2 (by omega) (by omega) e0 e3 e4 e5 fun s' h' e4 hr' hc' hl' ho=>?_
 have hk3:=hk1.trans hk2
 refine roundQ.ret ?_
 show seqQ _ _ _ _ _ Ex.ret _
 refine seqQ.ret ⟨.inr rfl,.agg (resC d'.fData 2),?_,hK h' hc' ⟨Nat.le_trans hk3.len hl',fun b hb hbc=>?_⟩⟩
 ·simp only[resVs,omap,resV,wm,wmd,↓wk,↓wl,evV,↓reduceIte,sevalprocAttr,e4,hr']
  rfl
 ·rw[ho b (by have:=hk3.len;omega) hbc (by omega),hk3.oth b hb hbc]
end Go.Proofs.YtgjfhplkochbpaaGreat
