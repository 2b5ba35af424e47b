import Derived.Test.YtgjfhplkochbpaaGreatAHJ
import Derived.Test.YtgjfhplkochbpaaGreatASE
import Derived.Test.YtgjfhplkochbpaaGreatAZ1
import Derived.KernelRfl
set_option linter.unusedSimpArgs false
set_option linter.unusedVariables false
set_option maxHeartbeats 1000000
set_option maxRecDepth 4000
namespace Go.Proofs.YtgjfhplkochbpaaGreat
open Go Go.Ab
theorem ask15{id seq seq' tries k:Int}{devs devs':List ResponderDevice}{fl:List Int}{req:ManagerRequest}{data:List UInt8}
  (hA:∀ {h:Hp}{K:AV→Hp→Prop},h[6]? = some (.cel (sesC id seq tries devs fl false))→(∀ h',h'[6]? = some (.cel (sesC id seq' tries devs' [] true))→Kp h 6 h'→K (.agg (resC data k)) h')→Ab.Fn Tryz.prog 26 [.ptr 6 0,.agg (reqC req)] h K)
  (h24:f24 ⟨id,seq,tries⟩ ⟨devs,fl,[]⟩ req=some 0) (h25:f25 ⟨devs,fl,[]⟩=some ⟨devs,fl,[]⟩) :
  Pure Tryz.prog 15 [.agg [.int .u64 id,.int .i64 seq,.int .i64 tries],.agg [.sl 7 false (devs.map eResponderDevice),.sl 0 false (fl.map (AV.int .i64)),.sl 0 false []],.agg (reqC req)]
   (· = .tup [.agg [.int .u64 id,.int .i64 seq',.int .i64 tries],.agg [.sl 7 false (devs'.map eResponderDevice),.sl 0 false [],.sl 0 false []],.agg (resC data k),.int .i64 0]):=by
 have p24:=f24_ok h24
 have p25:=f25_ok h25
 refine (Pure.of_code fd15 none (Nat.le_of_ble_eq_true rfl) ⟨.tup [.agg [.int .u64 id,.int .i64 seq',.int .i64 tries],.agg [.sl 7 false (devs'.map eResponderDevice),.sl 0 false [],.sl 0 false []],.agg (resC data k),.int .i64 0],by rfl⟩ ?_:Pure Tryz.prog 15 _ (fun r=>Ab.unr r=.tup [.agg [.int .u64 id,.int .i64 seq',.int .i64 tries],.agg [.sl 7 false (devs'.map eResponderDevice),.sl 0 false [],.sl 0 false []],.agg (resC data k),.int .i64 0])).unr fun r hr=>hr
 refine AW.rseq ?_
 simp only[wm,wmd,↓wk,↓wl,nq,evV,↓reduceIte,sevalprocAttr]
 refine AW.sseq ?_
 refine AW.rseq ?_
 simp only[wm,wmd,↓wk,↓wl,nq,evV,↓reduceIte,sevalprocAttr]
 refine evTs_val p24 (by rfl) (by rfl) (by rfl) (by rfl) (by rfl) ?_
 simp only[wm,wmd,↓wk,↓wl,nq,evV,↓reduceIte,sevalprocAttr]
 refine AW.rseq ?_
 simp only[wm,wmd,↓wk,↓wl,nq,evV,↓reduceIte,sevalprocAttr]
 refine AW.iff (by rfl) (AW.skip (seqQ.norm ?_))
 refine AW.rqseq ?_
 simp only[wm,wmd,↓wk,↓wl,nq,evV,↓reduceIte,sevalprocAttr]
 refine evTs_valq p25 (by rfl) (by rfl) (by rfl) (by rfl) (by rfl) ?_
 simp only[wm,wmd,↓wk,↓wl,nq,evV,↓reduceIte,sevalprocAttr]
 refine AW.rseq ?_
 simp only[wm,wmd,↓wk,↓wl,nq,evV,↓reduceIte,sevalprocAttr]
 refine evTs_fn (by rfl) (by rfl) (hA (by rfl) fun h' hc' hk'=>?_)
 have h3:=hk'.oth 3 (by simp) (by decide)
 have h4:=hk'.oth 4 (by simp) (by decide)
 have h5:=hk'.oth 5 (by simp) (by decide)
 simp only[List.getElem?_cons_succ,List.getElem?_cons_zero] at h3 h4 h5
 have hlen:=get_lt hc'
 simp only[wm,wmd,↓wk,↓wl,nq,evV,↓reduceIte,sevalprocAttr,get_last,set_last]
 have fin:∀ (s2:Nat→AV) (G:Hp),s2 6=.ptr 3 0→s2 7=.ptr 4 0→s2 8=.ptr 5 0→s2 9=.int .i64 0→G[3]? = some (.cel [.int .u64 id,.int .i64 seq',.int .i64 tries])→G[4]? = some (.cel [.sl 7 false (devs'.map eResponderDevice),.sl 0 false [],.sl 0 true []])→G[5]? = some (.cel (resC data k)) →
   AW Tryz.prog 40 0 .ret (fun ex st=>(ex=Ex.normal∨ex=Ex.ret)∧∃ v r,resVs st [Rv.cell 6 3,Rv.cell 7 3,Rv.cell 8 4,Rv.slot 9]=some v∧handOver none st.h v=some r∧Ab.unr r=.tup [.agg [.int .u64 id,.int .i64 seq',.int .i64 tries],.agg [.sl 7 false (devs'.map eResponderDevice),.sl 0 false [],.sl 0 false []],.agg (resC data k),.int .i64 0]) ⟨s2,G⟩:=by
  intro s2 G e6 e7 e8 e9 g3 g4 g5
  refine AW.ret ⟨.inr rfl,.tup [.agg [.int .u64 id,.int .i64 seq',.int .i64 tries],.agg [.sl 7 false (devs'.map eResponderDevice),.sl 0 false [],.sl 0 true []],.agg (resC data k),.int .i64 0],.tup [.agg [.int .u64 id,.int .i64 seq',.int .i64 tries],.agg [.sl 7 false (devs'.map eResponderDevice),.sl 0 false [],.sl 0 true []],.agg (resC data k),.int .i64 0],?_,?_,?_⟩
  ·simp only[resVs,omap,resV,evV,wm,wmd,↓wk,↓wl,↓reduceIte,sevalprocAttr,e6,e7,e8,e9,g3,g4,g5,Option.map_some]
  ·simp only[handOver,deep_eq,imm_simps,omap_simps,Option.map_some]
  ·rfl
 have k3:=get_app h3 [.cel (resC data k)]
 have k4:=get_app h4 [.cel (resC data k)]
 have k5:=get_app h5 [.cel (resC data k)]
 have k6:=get_app hc' [.cel (resC data k)]
 have kn:=get_last h' (.cel (resC data k))
 have hn3:3≠h'.length:=by omega
 have hn4:4≠h'.length:=by omega
 generalize h'++[HB.cel (resC data k)]=h2 at k3 k4 k5 k6 kn ⊢
 generalize h'.length=n at kn hn3 hn4 ⊢
 have a36:(h2.set 3 (.cel [.int .u64 id,.int .i64 seq',.int .i64 tries]))[6]? = _:=(get_ne (by decide)).trans k6
 have a3n:(h2.set 3 (.cel [.int .u64 id,.int .i64 seq',.int .i64 tries]))[n]? = _:=(get_ne hn3).trans kn
 have a34:(h2.set 3 (.cel [.int .u64 id,.int .i64 seq',.int .i64 tries]))[4]? = _:=(get_ne (by decide)).trans k4
 have a35:(h2.set 3 (.cel [.int .u64 id,.int .i64 seq',.int .i64 tries]))[5]? = _:=(get_ne (by decide)).trans k5
 have a33:(h2.set 3 (.cel [.int .u64 id,.int .i64 seq',.int .i64 tries]))[3]? = _:=get_set (get_lt k3)
 generalize hh3:h2.set 3 (.cel [.int .u64 id,.int .i64 seq',.int .i64 tries])=h3' at a36 a3n a34 a35 a33 ⊢
 have b4n:(h3'.set 4 (.cel [.sl 7 false (devs'.map eResponderDevice),.sl 0 false [],.sl 0 true []]))[n]? = _:=(get_ne hn4).trans a3n
 have b45:(h3'.set 4 (.cel [.sl 7 false (devs'.map eResponderDevice),.sl 0 false [],.sl 0 true []]))[5]? = _:=(get_ne (by decide)).trans a35
 have b43:(h3'.set 4 (.cel [.sl 7 false (devs'.map eResponderDevice),.sl 0 false [],.sl 0 true []]))[3]? = _:=(get_ne (by decide)).trans a33
 have b44:(h3'.set 4 (.cel [.sl 7 false (devs'.map eResponderDevice),.sl 0 false [],.sl 0 true []]))[4]? = _:=get_set (get_lt a34)
 generalize hh4:h3'.set 4 (.cel [.sl 7 false (devs'.map eResponderDevice),.sl 0 false [],.sl 0 true []])=h4' at b4n b45 b43 b44 ⊢
 have c3:(h4'.set 5 (.cel (resC data k)))[3]? = _:=(get_ne (by decide)).trans b43
 have c4:(h4'.set 5 (.cel (resC data k)))[4]? = _:=(get_ne (by decide)).trans b44
 have c5:(h4'.set 5 (.cel (resC data k)))[5]? = _:=get_set (get_lt b45)
 refine AW.sseq (AW.regt (evR.fork ?_))
 simp only[wm,wmd,↓wk,↓wl,nq,evV,↓reduceIte,sevalprocAttr,k6,List.map_nil]
 have fin2:∀ (s2:Nat→AV),s2 6=.ptr 3 0→s2 7=.ptr 4 0→s2 8=.ptr 5 0→s2 9=.int .i64 0→seqQ Tryz.prog 40 0 .ret (fun ex st=>(ex=Ex.normal∨ex=Ex.ret)∧∃ v r,resVs st [Rv.cell 6 3,Rv.cell 7 3,Rv.cell 8 4,Rv.slot 9]=some v∧handOver none st.h v=some r∧Ab.unr r=.tup [.agg [.int .u64 id,.int .i64 seq',.int .i64 tries],.agg [.sl 7 false (devs'.map eResponderDevice),.sl 0 false [],.sl 0 false []],.agg (resC data k),.int .i64 0]) .normal ⟨s2,h4'.set 5 (.cel (resC data k))⟩:=fun s2 e6 e7 e8 e9=>seqQ.norm (fin s2 _ e6 e7 e8 e9 c3 c4 c5)
 repeat' first
  | refine evR.both ?_ ?_
  | (refine evR.fork ?_
     simp only[wm,wmd,↓wk,↓wl,nq,evV,↓reduceIte,sevalprocAttr,k6,k3,kn,a36,a3n,a34,b4n,b45,hh3,hh4,List.map_nil])
  | (refine evR.run ?_
     simp only[wm,wmd,↓wk,↓wl,nq,evV,↓reduceIte,sevalprocAttr,k6,k3,kn,a36,a3n,a34,b4n,b45,hh3,hh4,List.map_nil]
     refine fin2 _ ?_ ?_ ?_ ?_<;>rfl)
end Go.Proofs.YtgjfhplkochbpaaGreat
