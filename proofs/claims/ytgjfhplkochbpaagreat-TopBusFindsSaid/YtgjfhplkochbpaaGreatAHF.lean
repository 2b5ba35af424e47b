import Derived.Test.YtgjfhplkochbpaaGreatAHD
import Derived.Test.YtgjfhplkochbpaaGreatASE
import Derived.Test.YtgjfhplkochbpaaGreatAZ1
import Derived.KernelRfl
set_option linter.unusedSimpArgs false
set_option linter.unusedVariables false
set_option maxHeartbeats 1000000
set_option maxRecDepth 4000
namespace Go.Proofs.YtgjfhplkochbpaaGreat
open Go Go.Ab
abbrev reqC(q:ManagerRequest):List AV:=[.int .u64 q.fTo,.int .i64 q.fKind,.int .i64 q.fParam,.str q.fData]
abbrev sesC(id seq tries:Int)(devs:List ResponderDevice)(fl:List Int)(lt:Bool):List AV:=[.int .u64 id,.int .i64 seq,.int .i64 tries,.sl 7 false (devs.map eResponderDevice),.sl 0 false (fl.map (AV.int .i64)),.sl 0 lt []]
structure Kp (h:Hp) (c:Nat) (h':Hp):Prop where
 len:h.length≤h'.length
 oth:∀ b,b<h.length→b≠c→h'[b]? = h[b]?
theorem Kp.refl(h:Hp)(c:Nat):Kp h c h:=⟨Nat.le_refl _,fun _ _ _=>rfl⟩
theorem Kp.trans{h h' h'':Hp}{c:Nat}(a:Kp h c h')(b:Kp h' c h''):Kp h c h'':=⟨Nat.le_trans a.len b.len,fun x hx hc=>by rw[b.oth x (Nat.lt_of_lt_of_le hx a.len) hc,a.oth x hx hc]⟩
theorem Kp.app(h:Hp)(c:Nat)(bs:List HB):Kp h c (h++bs):=⟨by simp,fun b hb _=>List.getElem?_append_left hb⟩
theorem Kp.set(h:Hp)(c:Nat)(x:HB):Kp h c (h.set c x):=⟨by simp,fun b _ hc=>get_ne (fun e=>hc e.symm)⟩
section
variable {n lo:Nat}{E0:Env}{w0:World}{Kf:AV→Hp→Prop}{c:Nat}{id seq tries:Int}{devs:List ResponderDevice}
abbrev KB(Kf:AV→Hp→Prop)(lo:Nat)(E0:Env)(w0:World):Exit→Act→World→Prop:=bodyPostM Fence.wide 10 Tryz.prog Tryz.f46 (Owes Kf lo E0 w0)
theorem send7{s:Nat→AV}{h:Hp}{fl:List Int}{lt lt':Bool}{b:Nat}{ts:List (List UInt8)}(dec:List UInt8→ApiMessage)(hdec:∀ t ∈ ts,f86 t=some (dec t,0))(hreach:ts.length * 56≤140737488351232)
  (hc:h[c]? = some (.cel (sesC id seq tries devs fl lt))) (s0:s 0=.ptr c 0) (s15:s 15=.sl 0 lt' []) (s16:s 16=.row 0 b 0 ts.length) (hb:h[b]? = some (.els 0 (ts.map AV.str)))
  (hK:∀ h',h'[c]? = some (.cel (sesC id ((IntKind.i64.wrap (seq + 1)).tmod 256) tries devs fl lt'))→Kp h c h'→Kf (.sl 6 false (ts.map fun t=>eApiMessage (dec t))) h'):AWT 123 lo E0 w0 (KB Kf lo E0 w0) (bd 7) ⟨s,h⟩:=by
 have hbc:c≠b:=fun e=>by rw[e,hb] at hc;cases hc
 refine AWT.step 7 bd7 cb46_7 ?_
 refine AW.rend ?_
 simp only[wm,wmd,↓wk,↓wl,nq,evV,↓reduceIte,sevalprocAttr,hc,s0,s15]
 refine ⟨trivial,?_⟩
 have hc1:(h.set c (.cel (sesC id seq tries devs fl lt')))[c]? = some (.cel (sesC id seq tries devs fl lt')):=get_set (get_lt hc)
 have hb1:(h.set c (.cel (sesC id seq tries devs fl lt')))[b]? = some (.els 0 (ts.map AV.str)):=by rw[get_ne hbc];exact hb
 have hk1:Kp h c (h.set c (.cel (sesC id seq tries devs fl lt'))):=Kp.set ..
 generalize h.set c (.cel (sesC id seq tries devs fl lt'))=h1 at hc1 hb1 hk1 ⊢
 refine AWT.step 8 bd8 cb46_8 ?_
 refine AW.rend ?_
 simp only[wm,wmd,↓wk,↓wl,nq,evV,↓reduceIte,sevalprocAttr,hc1,s0]
 refine ⟨trivial,?_⟩
 have hc2:(h1.set c (.cel (sesC id ((IntKind.i64.wrap (seq + 1)).tmod 256) tries devs fl lt')))[c]? = some (.cel (sesC id ((IntKind.i64.wrap (seq + 1)).tmod 256) tries devs fl lt')):=get_set (get_lt hc1)
 have hb2:(h1.set c (.cel (sesC id ((IntKind.i64.wrap (seq + 1)).tmod 256) tries devs fl lt')))[b]? = some (.els 0 (ts.map AV.str)):=by rw[get_ne hbc];exact hb1
 have hk2:Kp h1 c (h1.set c (.cel (sesC id ((IntKind.i64.wrap (seq + 1)).tmod 256) tries devs fl lt'))):=Kp.set ..
 generalize h1.set c (.cel (sesC id ((IntKind.i64.wrap (seq + 1)).tmod 256) tries devs fl lt'))=h2 at hc2 hb2 hk2 ⊢
 show AWT 123 lo E0 w0 _ (bd 9) _
 rw[bd9]
 refine send_tail dec hdec hreach (b:=b) ?_ hb2 (hK _ hc2 (hk1.trans hk2))
 simp only[↓wk,↓reduceIte,sevalprocAttr,s16]
end
theorem f68_fn{h:Hp}{K:AV→Hp→Prop}(hK:K (.agg [.fn 109 [],.fn 110 [],.fn 111 [],.fn 112 [],.fn 114 []]) (h++[.cel [.fn 109 [],.fn 110 [],.fn 111 [],.fn 112 [],.fn 114 []]])):Ab.Fn Tryz.prog 68 [] h K:=by
 refine Ab.Fn.of_code fd68 (Nat.le_of_ble_eq_true rfl) ⟨_,_,hK⟩ ?_
 refine AW.rseq ?_
 simp only[wm,wmd,↓wk,↓wl,nq,evV,↓reduceIte,sevalprocAttr]
 refine AW.rseq ?_
 simp only[wm,wmd,↓wk,↓wl,nq,evV,↓reduceIte,sevalprocAttr,get_last,set_last]
 refine AW.ret ⟨.inr rfl,_,?_,hK⟩
 simp only[resVs,omap,resV,wm,wmd,↓wk,↓wl,evV,↓reduceIte,sevalprocAttr,get_last]
 rfl
theorem f109_fn{h:Hp}{x:AV}{K:AV→Hp→Prop}(hK:K (.tup [x,.sl 0 true []]) h):Ab.Fn Tryz.prog 109 [x] h K:=by
 refine Ab.Fn.of_code fd109 (Nat.le_of_ble_eq_true rfl) ⟨_,_,hK⟩ ?_
 refine AW.rseq ?_
 simp only[wm,wmd,↓wk,↓wl,nq,evV,↓reduceIte,sevalprocAttr]
 refine AW.rseq ?_
 simp only[wm,wmd,↓wk,↓wl,nq,evV,↓reduceIte,sevalprocAttr]
 exact AW.ret ⟨.inr rfl,_,rfl,hK⟩
theorem f111_fn{h:Hp}{x:AV}{K:AV→Hp→Prop}(hK:K (.tup [.sl 0 true [],.sl 0 true []]) h):Ab.Fn Tryz.prog 111 [x] h K:=by
 refine Ab.Fn.of_code fd111 (Nat.le_of_ble_eq_true rfl) ⟨_,_,hK⟩ ?_
 refine AW.rseq ?_
 simp only[wm,wmd,↓wk,↓wl,nq,evV,↓reduceIte,sevalprocAttr]
 refine AW.rseq ?_
 simp only[wm,wmd,↓wk,↓wl,nq,evV,↓reduceIte,sevalprocAttr]
 exact AW.ret ⟨.inr rfl,_,rfl,hK⟩
theorem f69_fl{a b:Bool}{ts r:List (List UInt8)}(H:f69 [[],ts]=some r):Pure Tryz.prog 69 [.sl 0 false [.sl 0 a [],.sl 0 b (ts.map AV.str)]] (· = .fr 0 (r.map AV.str)):=by
 have hp:=f69_ok H
 refine ⟨hp.1,hp.2.1,fun S w us h1 h2 h3=>hp.2.2 S w us h1 h2 fun i c u hc hu=>?_⟩
 cases i with
 | succ i=>simp at hc
 | zero =>
  simp at hc
  subst hc
  have h:=h3 0 _ u rfl hu
  cases h with
  | sl e full xs A cap g o uu hl hm hf hA hx hcl hr hn =>
   refine .sl 0 false [eL 0 AV.str [],eL 0 AV.str ts] A cap g o uu hl hm (fun h=>by cases h) (.inr (hA.resolve_left (by simp))) (fun i x hx=>?_) (fun i x hx=>?_) (fun i x hx=>?_) (fun h=>by cases h)
   ·match i with
    | 0=>simp at hx;subst hx;rfl
    | 1=>simp at hx;subst hx;rfl
    | n + 2=>simp at hx
   ·match i with
    | 0=>exact hcl 0 _ rfl
    | 1=>exact hcl 1 _ rfl
    | n + 2=>simp at hx
   ·match i with
    | 0=>simp at hx;subst hx;exact (hr 0 _ rfl).unf 1
    | 1=>simp at hx;subst hx;exact (hr 1 _ rfl).unf 1
    | n + 2=>simp at hx
section
variable {n lo:Nat}{E0:Env}{w0:World}{Kf:AV→Hp→Prop}{c:Nat}{id seq tries:Int}{devs:List ResponderDevice}
theorem send6{s:Nat→AV}{h:Hp}{fl:List Int}{lt lt' ln:Bool}{ts:List (List UInt8)}(dec:List UInt8→ApiMessage)(hdec:∀ t ∈ ts,f86 t=some (dec t,0))(hreach:ts.length * 56≤140737488351232)(h69:f69 [[],ts]=some ts)(hts:ts=[]∨∃ t,ts=[t])
  (hc:h[c]? = some (.cel (sesC id seq tries devs fl lt))) (s0:s 0=.ptr c 0) (s14:s 14=.sl 0 ln (ts.map AV.str)) (s15:s 15=.sl 0 lt' [])
  (hK:∀ h',h'[c]? = some (.cel (sesC id ((IntKind.i64.wrap (seq + 1)).tmod 256) tries devs fl lt'))→Kp h c h'→Kf (.sl 6 false (ts.map fun t=>eApiMessage (dec t))) h'):AWT 123 lo E0 w0 (KB Kf lo E0 w0) (bd 6) ⟨s,h⟩:=by
 refine AWT.step 6 bd6 cb46_6 ?_
 refine AW.rend ?_
 simp only[wm,wmd,↓wk,↓wl,nq,evV,↓reduceIte,sevalprocAttr,hc,s0,s14]
 have fin:∀ (s':Nat→AV),s' 0=.ptr c 0→s' 15=.sl 0 lt' []→s' 16=.row 0 h.length 0 ts.length→AWT 123 lo E0 w0 (KB Kf lo E0 w0) (bd 7) ⟨s',h++[.els 0 (ts.map AV.str)]⟩:=fun s' e0 e15 e16 =>
  send7 dec hdec hreach (get_app hc _) e0 e15 e16 (get_last _ _) fun h' h1 h2=>hK h' h1 ((Kp.app h c _).trans h2)
 have H:(f69 [[],ts]).bind (fun x=>some x)=some ts:=by rw[h69];rfl
 rcases hts with rfl | ⟨t,rfl⟩
 ·refine evTs_fr H (fun _ h=>f69_fl (a:=lt) (b:=ln) h) (by rfl) (by rfl) (by rfl) (by rfl) (fun _=>rfl) ?_
  intro y hy
  injection hy with hy
  subst hy
  simp only[wm,wmd,↓wk,↓wl,nq,evV,↓reduceIte,sevalprocAttr]
  refine ⟨trivial,fin _ ?_ ?_ ?_⟩<;>simp only[↓wk,↓reduceIte,sevalprocAttr,s0,s15]
  rfl
 ·refine evTs_fr H (fun _ h=>f69_fl (a:=lt) (b:=ln) h) (by rfl) (by rfl) (by rfl) (by rfl) (fun _=>rfl) ?_
  intro y hy
  injection hy with hy
  subst hy
  simp only[wm,wmd,↓wk,↓wl,nq,evV,↓reduceIte,sevalprocAttr]
  refine ⟨trivial,fin _ ?_ ?_ ?_⟩<;>simp only[↓wk,↓reduceIte,sevalprocAttr,s0,s15]
  rfl
end
section
variable {n lo:Nat}{E0:Env}{w0:World}{Kf:AV→Hp→Prop}{c:Nat}{id seq tries:Int}{devs:List ResponderDevice}
theorem send5{s:Nat→AV}{h:Hp}{fl:List Int}{lt l6:Bool}{ts us:List (List UInt8)}{fault:Int}(dec:List UInt8→ApiMessage)(hf:(fault=0∧us=ts)∨(fault=2∧us=[]))(hdec:∀ t ∈ us,f86 t=some (dec t,0))(hreach:us.length * 56≤140737488351232)(h69:f69 [[],us]=some us)(hts:us=[]∨∃ t,us=[t])
  (hc:h[c]? = some (.cel (sesC id seq tries devs fl lt))) (s0:s 0=.ptr c 0) (s5:s 5=.int .i64 fault) (s6:s 6=.sl 0 l6 (ts.map AV.str))
  (hK:∀ h',h'[c]? = some (.cel (sesC id ((IntKind.i64.wrap (seq + 1)).tmod 256) tries devs fl true))→Kp h c h'→Kf (.sl 6 false (us.map fun t=>eApiMessage (dec t))) h'):AWT 123 lo E0 w0 (KB Kf lo E0 w0) (bd 5) ⟨s,h⟩:=by
 refine AWT.step 5 bd5 cb46_5 ?_
 refine AW.rend ?_
 refine evTs_fn (by rfl) (by rfl) (f68_fn ?_)
 have hc1:=get_app hc [.cel [.fn 109 [],.fn 110 [],.fn 111 [],.fn 112 [],.fn 114 []]]
 have hk1:=Kp.app h c [.cel [.fn 109 [],.fn 110 [],.fn 111 [],.fn 112 [],.fn 114 []]]
 generalize h++[HB.cel [.fn 109 [],.fn 110 [],.fn 111 [],.fn 112 [],.fn 114 []]]=h1 at hc1 hk1 ⊢
 rcases hf with ⟨rfl,rfl⟩ | ⟨rfl,rfl⟩
 ·simp only[wm,wmd,↓wk,↓wl,nq,evV,↓reduceIte,sevalprocAttr,s5,s6]
  refine evTs_any (v:=.fn 109 []) (h':=h1) rfl (by rfl) ?_
  simp only[wm,wmd,↓wk,↓wl,nq,evV,↓reduceIte,sevalprocAttr,s5,s6]
  refine evTs_fn (by rfl) (by rfl) (f109_fn ?_)
  simp only[wm,wmd,↓wk,↓wl,nq,evV,↓reduceIte,sevalprocAttr,s6]
  refine ⟨trivial,send6 dec hdec hreach h69 hts hc1 (ln:=l6) (lt':=true) ?_ ?_ ?_ fun h' a b=>hK h' a (hk1.trans b)⟩<;>simp only[↓wk,↓reduceIte,sevalprocAttr,s0]
 ·simp only[wm,wmd,↓wk,↓wl,nq,evV,↓reduceIte,sevalprocAttr,s5,s6]
  refine evTs_any (v:=.fn 111 []) (h':=h1) rfl (by rfl) ?_
  simp only[wm,wmd,↓wk,↓wl,nq,evV,↓reduceIte,sevalprocAttr,s5,s6]
  refine evTs_fn (by rfl) (by rfl) (f111_fn ?_)
  simp only[wm,wmd,↓wk,↓wl,nq,evV,↓reduceIte,sevalprocAttr]
  refine ⟨trivial,send6 dec hdec hreach h69 hts hc1 (ln:=true) (lt':=true) ?_ ?_ ?_ fun h' a b=>hK h' a (hk1.trans b)⟩<;>simp only[↓wk,↓reduceIte,sevalprocAttr,s0]
  rfl
theorem send3{s:Nat→AV}{h:Hp}{fl:List Int}{lt:Bool}{req:ManagerRequest}{q:Nat}{us:List (List UInt8)}{fault e e2:Int}{m a:ApiMessage}{devs':List ResponderDevice}{t:List UInt8}(dec:List UInt8→ApiMessage)(hf:(fault=0∧us=[t])∨(fault=2∧us=[]))(hdec:∀ t ∈ us,f86 t=some (dec t,0))(h69:f69 [[],us]=some us)
  (h45:f45 ⟨id,seq,tries⟩ req=some m) (h27:f27 devs m=some (devs',[a],e)) (h67:f67 a=some (t,e2))
  (hc:h[c]? = some (.cel (sesC id seq tries devs fl lt))) (hq:h[q]? = some (.cel (reqC req))) (hcq:c≠q) (s0:s 0=.ptr c 0) (s3:s 3=.ptr q 0) (s5:s 5=.int .i64 fault)
  (hK:∀ h',h'[c]? = some (.cel (sesC id ((IntKind.i64.wrap (seq + 1)).tmod 256) tries devs' fl true))→Kp h c h'→Kf (.sl 6 false (us.map fun t=>eApiMessage (dec t))) h'):AWT 123 lo E0 w0 (KB Kf lo E0 w0) (bd 3) ⟨s,h⟩:=by
 have hreach:us.length * 56≤140737488351232:=by rcases hf with ⟨_,rfl⟩ | ⟨_,rfl⟩<;>simp
 have hts:us=[]∨∃ t,us=[t]:=by rcases hf with ⟨_,rfl⟩ | ⟨_,rfl⟩<;>simp
 have hn1:decide (fault≠1)=true:=by rcases hf with ⟨rfl,_⟩ | ⟨rfl,_⟩<;>rfl
 have p45:=f45_ok h45
 have p27:=f27_ok h27
 have p67:=f67_ok h67
 refine AWT.step 3 bd3 cb46_3 ?_
 refine AW.rend ?_
 simp only[wm,wmd,↓wk,↓wl,nq,evV,↓reduceIte,sevalprocAttr]
 refine ⟨trivial,?_⟩
 refine AWT.step 4 bd4 cb46_4 ?_
 refine AW.rseq ?_
 simp only[wm,wmd,↓wk,↓wl,nq,evV,↓reduceIte,sevalprocAttr,s5,hn1]
 refine AW.ift (by rfl) ?_
 refine AW.rqseq ?_
 simp only[wm,wmd,↓wk,↓wl,nq,evV,↓reduceIte,sevalprocAttr,s0,s3,hc,hq]
 refine evTs_valq p45 (by rfl) (by rfl) (by rfl) (by rfl) (by rfl) ?_
 refine evTs_valq p27 (by rfl) (by rfl) (by rfl) (by rfl) (by rfl) ?_
 simp only[wm,wmd,↓wk,↓wl,nq,evV,↓reduceIte,sevalprocAttr]
 refine AW.rseq ?_
 simp only[wm,wmd,↓wk,↓wl,nq,evV,↓reduceIte,sevalprocAttr,s0,hc]
 have hc1:(h.set c (.cel (sesC id seq tries devs' fl lt)))[c]? = some (.cel (sesC id seq tries devs' fl lt)):=get_set (get_lt hc)
 have hk1:Kp h c (h.set c (.cel (sesC id seq tries devs' fl lt))):=Kp.set ..
 generalize h.set c (.cel (sesC id seq tries devs' fl lt))=h1 at hc1 hk1 ⊢
 refine AW.rseq ?_
 simp only[wm,wmd,↓wk,↓wl,nq,evV,↓reduceIte,sevalprocAttr]
 refine AW.bend ?_
 refine AW.rounds 2 ?_
 refine Rounds.go ?_
 refine AW.rseq ?_
 simp only[wm,wmd,↓wk,↓wl,nq,evV,↓reduceIte,sevalprocAttr]
 refine AW.sseq ?_
 refine AW.ift (by rfl) ?_
 refine AW.skip ?_
 refine seqQ.norm ?_
 refine AW.bseq ?_
 refine AW.rseq ?_
 refine evTs_any (v:=.pro (msgC a)) (h':=h1) rfl (by rfl) ?_
 simp only[wm,wmd,↓wk,↓wl,nq,evV,↓reduceIte,sevalprocAttr,get_last,set_last]
 have hc2:=get_app hc1 [.cel (msgC a)]
 have hx2:=get_last h1 (.cel (msgC a))
 have hk2:=hk1.trans (Kp.app h1 c [.cel (msgC a)])
 generalize hh2:h1++[HB.cel (msgC a)]=h2 at hc2 hx2 hk2 ⊢
 refine AW.rseq ?_
 simp only[wm,wmd,↓wk,↓wl,nq,evV,↓reduceIte,sevalprocAttr,hx2]
 refine evTs_val p67 (by rfl) (by rfl) (by rfl) (by rfl) (by rfl) ?_
 simp only[wm,wmd,↓wk,↓wl,nq,evV,↓reduceIte,sevalprocAttr]
 refine AW.rend ?_
 simp only[wm,wmd,↓wk,↓wl,nq,evV,↓reduceIte,sevalprocAttr]
 refine evTs_any (v:=.row 0 h2.length 0 1) (h':=h2++[.els 0 [.str t]]) rfl (by rfl) ?_
 simp only[wm,wmd,↓wk,↓wl,nq,evV,↓reduceIte,sevalprocAttr]
 refine blkQ.norm ?_
 refine AW.rend ?_
 simp only[wm,wmd,↓wk,↓wl,nq,evV,↓reduceIte,sevalprocAttr]
 refine roundQ.next (Le.refl _ _) ?_
 refine Rounds.go ?_
 refine AW.rseq ?_
 simp only[wm,wmd,↓wk,↓wl,nq,evV,↓reduceIte,sevalprocAttr]
 refine AW.sseq ?_
 refine AW.iff (by rfl) ?_
 refine AW.exit ?_
 refine seqQ.exit ?_
 refine roundQ.exit ?_
 refine blk0.here ?_
 refine ⟨rfl,?_⟩
 refine AWT.weaken (Le.frz 6 (enc:=AV.str) (xs:=[t]) (e:=0) (b:=h2.length) (n:=1) (by simp only[↓wk,↓reduceIte,sevalprocAttr]) (by rfl) (get_last _ _)) ?_
 have hc3:((h2++[HB.els 0 [.str t]]).set h2.length .dead)[c]? = some (.cel (sesC id seq tries devs' fl lt)):=by
  rw[set_last];exact get_app hc2 _
 have hk3:Kp h c ((h2++[HB.els 0 [.str t]]).set h2.length .dead):=by
  rw[set_last];exact hk2.trans (Kp.app h2 c _)
 refine send5 (ts:=[t]) (l6:=false) (fault:=fault) dec hf hdec hreach h69 hts hc3 ?_ ?_ ?_ fun h' x y=>hK h' x (hk3.trans y)
 all_goals simp only[↓wk,↓reduceIte,sevalprocAttr,s0,s5]
end
theorem f43_nil:f43 []=some []:=by simp[f43,nil?,app_some]
theorem f69_nil:f69 [[],[]]=some []:=by simp[f69,conc?,maxStr,room]
theorem f69_one(t:List UInt8):f69 [[],[t]]=some [t]:=by simp[f69,conc?,maxStr,room]
theorem send46{Kf:AV→Hp→Prop}{c:Nat}{id seq tries:Int}{devs devs':List ResponderDevice}{h:Hp}{fl:List Int}{lt:Bool}{req:ManagerRequest}{us:List (List UInt8)}{fault e e2:Int}{m a a':ApiMessage}{t:List UInt8}
  (hf:(fl=[]∧fault=0∧us=[t])∨(fl=[2]∧fault=2∧us=[]))
  (h45:f45 ⟨id,seq,tries⟩ req=some m) (h27:f27 devs m=some (devs',[a],e)) (h67:f67 a=some (t,e2)) (h86:f86 t=some (a',0))
  (hc:h[c]? = some (.cel (sesC id seq tries devs fl lt)))
  (hK:∀ h',h'[c]? = some (.cel (sesC id ((IntKind.i64.wrap (seq + 1)).tmod 256) tries devs' [] true))→Kp h c h'→Kf (.sl 6 false (us.map fun _=>eApiMessage a')) h'):Ab.Fn Tryz.prog 46 [.ptr c 0,.agg (reqC req)] h Kf:=by
 have hdec:∀ t ∈ us,f86 t=some ((fun _=>a') t,0):=by
  rcases hf with ⟨_,_,rfl⟩ | ⟨_,_,rfl⟩
  ·intro x hx;simp at hx;subst hx;exact h86
  ·intro x hx;simp at hx
 have h69:f69 [[],us]=some us:=by
  rcases hf with ⟨_,_,rfl⟩ | ⟨_,_,rfl⟩
  ·exact f69_one t
  ·exact f69_nil
 have hf2:(fault=0∧us=[t])∨(fault=2∧us=[]):=by
  rcases hf with ⟨_,x,y⟩ | ⟨_,x,y⟩
  ·exact .inl ⟨x,y⟩
  ·exact .inr ⟨x,y⟩
 have hc1:=get_app hc [.cel (reqC req)]
 have hx1:=get_last h (.cel (reqC req))
 have hcx:c≠h.length:=fun e=>by have:=get_lt hc;omega
 have hk1:=Kp.app h c [.cel (reqC req)]
 refine ⟨⟨Tryz.f46,_,Tryz.func46,by kernel_rfl,rfl⟩,⟨_,_,hK (h.set c (.cel (sesC id ((IntKind.i64.wrap (seq + 1)).tmod 256) tries devs' [] true))) (get_set (get_lt hc)) (Kp.set ..)⟩,fun E w us' hok hl hr=>?_⟩
 refine (callsIn_wide (n:=10)).1 (callsIn_of_wp_marks Tryz.func46 (show Tryz.f46.body=some body46 by kernel_rfl) trivial ((wpIn_wide (n:=10)).2 ?_) rfl)
 have hst:StOK E ⟨slotsOf [.ptr c 0,.agg (reqC req)],h⟩ { tmps:=us'++Array.replicate (Tryz.f46.ntmps - us'.size) undef,defers:=[] } w:=enter_ok hok rfl hl hr
 have hsz:(us'++Array.replicate (Tryz.f46.ntmps - us'.size) undef).size=123:=by
  rw[Tryz.ntmps46];simp at hl ⊢;omega
 refine (?_:AWT 123 h.length E w (KB Kf h.length E w) (bd 0) ⟨slotsOf [.ptr c 0,.agg (reqC req)],h⟩) E _ w hst hsz (Ext.refl _ _ _)
 refine AWT.step 0 bd0 cb46_0 ?_
 refine AW.rend ?_
 simp only[wm,wmd,↓wk,↓wl,nq,evV,↓reduceIte,sevalprocAttr]
 refine ⟨trivial,?_⟩
 generalize h++[HB.cel (reqC req)]=h1 at hc1 hx1 hk1 ⊢
 refine AWT.step 1 bd1 cb46_1 ?_
 refine AW.rend ?_
 simp only[wm,wmd,↓wk,↓wl,nq,evV,↓reduceIte,sevalprocAttr]
 refine ⟨trivial,?_⟩
 refine AWT.step 2 bd2 cb46_2 ?_
 refine AW.rseq ?_
 rcases hf with ⟨rfl,rfl,rfl⟩ | ⟨rfl,rfl,rfl⟩
 ·simp only[wm,wmd,↓wk,↓wl,nq,evV,↓reduceIte,sevalprocAttr,hc1]
  refine AW.iff (by rfl) (AW.skip ⟨rfl,?_⟩)
  refine send3 (fun _=>a') hf2 hdec h69 h45 h27 h67 hc1 hx1 hcx ?_ ?_ ?_ fun h' x y=>hK h' x (hk1.trans y)
  all_goals simp only[↓wk,↓reduceIte,sevalprocAttr]
 ·simp only[wm,wmd,↓wk,↓wl,nq,evV,↓reduceIte,sevalprocAttr,hc1]
  refine AW.ift (by rfl) ?_
  refine AW.rseq ?_
  simp only[wm,wmd,↓wk,↓wl,nq,evV,↓reduceIte,sevalprocAttr,hc1]
  refine AW.rend ?_
  simp only[wm,wmd,↓wk,↓wl,nq,evV,↓reduceIte,sevalprocAttr,hc1]
  refine evTs_any (v:=.sl 0 false []) (h':=h1) rfl (by rfl) ?_
  refine evTs_val (f43_im f43_nil) (by rfl) (by rfl) (by rfl) (by rfl) (by rfl) ?_
  simp only[wm,wmd,↓wk,↓wl,nq,evV,↓reduceIte,sevalprocAttr,hc1]
  have hc2:(h1.set c (.cel (sesC id seq tries devs [] lt)))[c]? = some (.cel (sesC id seq tries devs [] lt)):=get_set (get_lt hc1)
  have hx2:(h1.set c (.cel (sesC id seq tries devs [] lt)))[h.length]? = some (.cel (reqC req)):=by rw[get_ne hcx];exact hx1
  have hk2:=hk1.trans (Kp.set h1 c (.cel (sesC id seq tries devs [] lt)))
  refine ⟨trivial,?_⟩
  refine send3 (fl:=[]) (fun _=>a') hf2 hdec h69 h45 h27 h67 hc2 hx2 hcx ?_ ?_ ?_ fun h' x y=>hK h' x (hk2.trans y)
  all_goals simp only[↓wk,↓reduceIte,sevalprocAttr]
end Go.Proofs.YtgjfhplkochbpaaGreat
