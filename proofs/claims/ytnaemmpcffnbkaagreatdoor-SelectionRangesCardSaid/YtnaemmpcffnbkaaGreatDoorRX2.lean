import Derived.Test.YtnaemmpcffnbkaaGreatDoorRX1
import Derived.Test.YtnaemmpcffnbkaaGreatDoorRM5
import Derived.Test.YtnaemmpcffnbkaaGreatDoorRM7
import Derived.Test.YtnaemmpcffnbkaaGreatDoorRM6
import Derived.Test.YtnaemmpcffnbkaaGreatDoorProg
import Derived.KernelRfl
import Derived.Test.YtnaemmpcffnbkaaGreatDoorRMQ
namespace Go.Proofs.YtnaemmpcffnbkaaGreatDoor
open Go Go.Ab
set_option maxHeartbeats 1000000
set_option maxRecDepth 4000
set_option linter.unusedSimpArgs false
set_option linter.unusedVariables false
noncomputable section
theorem f227_ok{x0:ApiFeature}{r_:Int}(H:f227 x0=some r_):Pure Tryz.prog 227 [.agg [.int .i64 x0.fAttr,.int .i64 x0.fBits,.int .i64 x0.fCoarse,.int .i64 x0.fFine,.int .i64 x0.fCurve,.int .i64 x0.fHome,.int .i64 x0.fLow,.int .i64 x0.fHigh,.bool x0.fSnap,.sl 3 false (x0.fWheel.map eApiSlot)]] (· = .int .i64 r_):=by
 refine w3 fd227 fun Q hQ=>?_
 simp only[f227] at H
 refine zr ?_
 refine zr ?_
 first | refine rest_lits (v:=.row 2 1 0 2) (h':=[.cel [.int .i64 x0.fAttr,.int .i64 x0.fBits,.int .i64 x0.fCoarse,.int .i64 x0.fFine,.int .i64 x0.fCurve,.int .i64 x0.fHome,.int .i64 x0.fLow,.int .i64 x0.fHigh,.bool x0.fSnap,.sl 3 false (x0.fWheel.map eApiSlot)],.els 2 [.agg [.fn 241 [.ptr 0 0],.int .i64 2],.agg [.fn 243 [.ptr 0 0],.int .i64 2]]]) (by rfl) (by rfl) ?_ | refine evTs_any (v:=.row 2 1 0 2) (h':=[.cel [.int .i64 x0.fAttr,.int .i64 x0.fBits,.int .i64 x0.fCoarse,.int .i64 x0.fFine,.int .i64 x0.fCurve,.int .i64 x0.fHome,.int .i64 x0.fLow,.int .i64 x0.fHigh,.bool x0.fSnap,.sl 3 false (x0.fWheel.map eApiSlot)],.els 2 [.agg [.fn 241 [.ptr 0 0],.int .i64 2],.agg [.fn 243 [.ptr 0 0],.int .i64 2]]]) rfl (by rfl) ?_
 refine zs ?_
 refine evTs_inl (I:=f227_C1 x0) (args:=[.row 2 1 0 2]) H (by rfl) fd132 (by rfl) (Nat.le_of_ble_eq_true rfl) ?_ ?_<;>clear H
 ·rintro v_ Q_ H hqf227_C1
  simp only[f227_C1] at H
  dsimp only[List.length_cons,List.length_nil]
  refine zr ?_
  refine zq (zr ?_)
  refine zd ?_
  refine AW.rounds 40 ?_
  refine Rounds.go ?_
  refine zr ?_
  refine zq (za (zk (zm (zb (zr ?_)))))
  refine evTs_any (v:=.eptr 1 0 0) rfl (by rfl) ?_
  refine zs ?_
  try refine evTs_any (v:=.agg [.fn 241 [.ptr 0 0],.int .i64 2]) rfl (by rfl) ?_
  refine zs ?_
  refine zr ?_
  refine evTs_flat hFn H (fun _ h=>f241p_ok h) (by rfl) (by rfl) (by simp only[deep_eq,imm_simps,imm_rowE,imm_ptrE,imm_enc,imm_mrefE,imm_mpE,imm_arowE,omap_simps,take_map_len,take_map_set,take_map_set2,List.length_set,le_refl_true,Nat.zero_add,and_true,true_and,List.drop_zero,Option.map_some,wm,↓wk,↓wl,nq,evV,↓reduceIte,sevalprocAttr];rfl) (by rfl) (fun _=>rfl) (fun _=>rfl) ?_<;>clear H<;>intro x1 H
  refine zE0 ?_
  refine ic H ?_ ?_<;>clear H<;>intro H
  ·refine zr ?_
   refine zt (zp ?_)
   refine roundQ.ret ?_
   refine zh (zv ?_)
   cases H
   exact hqf227_C1 _ _ _ (.inr rfl) (Le.tq 2 [0,1] [2] rfl) (by simp only[resVs,omap,resV,f227_C1,wm,wmr,rrm,↓wk,↓wl,evV,↓reduceIte,sevalprocAttr]) (by simp only[f227_C1,wm,wmr,rrm,↓wk,↓wl,evV,↓reduceIte,sevalprocAttr])
  ·refine zk (zo (ze ?_))
   refine roundQ.next (st2:=⟨put (put (put (fun _=>.junk) 7 (.int .i64 1)) 6 (.int .i64 2)) 5 (.row 2 1 0 2),[.cel [.int .i64 x0.fAttr,.int .i64 x0.fBits,.int .i64 x0.fCoarse,.int .i64 x0.fFine,.int .i64 x0.fCurve,.int .i64 x0.fHome,.int .i64 x0.fLow,.int .i64 x0.fHigh,.bool x0.fSnap,.sl 3 false (x0.fWheel.map eApiSlot)],.els 2 [.agg [.fn 241 [.ptr 0 0],.int .i64 2],.agg [.fn 243 [.ptr 0 0],.int .i64 2]]]⟩) (Le.tq 2 [0,1] [5,6,7] (by simp only[wm,wmr,rrm,↓wk,↓wl,evV,↓reduceIte,sevalprocAttr]<;>rfl)) ?_
   refine Rounds.go ?_
   refine zr ?_
   refine zq (za (zk (zm (zb (zr ?_)))))
   refine evTs_any (v:=.eptr 1 1 0) rfl (by rfl) ?_
   refine zs ?_
   try refine evTs_any (v:=.agg [.fn 243 [.ptr 0 0],.int .i64 2]) rfl (by rfl) ?_
   refine zs ?_
   refine zr ?_
   refine evTs_flat hFn H (fun _ h=>f243p_ok h) (by rfl) (by rfl) (by simp only[deep_eq,imm_simps,imm_rowE,imm_ptrE,imm_enc,imm_mrefE,imm_mpE,imm_arowE,omap_simps,take_map_len,take_map_set,take_map_set2,List.length_set,le_refl_true,Nat.zero_add,and_true,true_and,List.drop_zero,Option.map_some,wm,↓wk,↓wl,nq,evV,↓reduceIte,sevalprocAttr];rfl) (by rfl) (fun _=>rfl) (fun _=>rfl) ?_<;>clear H<;>intro x2 H
   refine zE0 ?_
   refine ic H ?_ ?_<;>clear H<;>intro H
   ·refine zr ?_
    refine zt (zp ?_)
    refine roundQ.ret ?_
    refine zh (zv ?_)
    cases H
    exact hqf227_C1 _ _ _ (.inr rfl) (Le.tq 2 [0,1] [2] rfl) (by simp only[resVs,omap,resV,f227_C1,wm,wmr,rrm,↓wk,↓wl,evV,↓reduceIte,sevalprocAttr]) (by simp only[f227_C1,wm,wmr,rrm,↓wk,↓wl,evV,↓reduceIte,sevalprocAttr])
   ·refine zk (zo (ze ?_))
    refine roundQ.next (st2:=⟨put (put (put (fun _=>.junk) 7 (.int .i64 2)) 6 (.int .i64 2)) 5 (.row 2 1 0 2),[.cel [.int .i64 x0.fAttr,.int .i64 x0.fBits,.int .i64 x0.fCoarse,.int .i64 x0.fFine,.int .i64 x0.fCurve,.int .i64 x0.fHome,.int .i64 x0.fLow,.int .i64 x0.fHigh,.bool x0.fSnap,.sl 3 false (x0.fWheel.map eApiSlot)],.els 2 [.agg [.fn 241 [.ptr 0 0],.int .i64 2],.agg [.fn 243 [.ptr 0 0],.int .i64 2]]]⟩) (Le.tq 2 [0,1] [5,6,7] (by simp only[wm,wmr,rrm,↓wk,↓wl,evV,↓reduceIte,sevalprocAttr]<;>rfl)) ?_
    refine Rounds.go ?_
    refine zr ?_
    refine zq (zc (zx (zy ?_)))
    refine roundQ.exit ?_
    refine zi (zm (zr ?_))
    refine zt ?_
    cases H
    exact hqf227_C1 _ _ _ (.inr rfl) (Le.tq 2 [0,1] [2] rfl) (by simp only[resVs,omap,resV,f227_C1,wm,wmr,rrm,↓wk,↓wl,evV,↓reduceIte,sevalprocAttr]) (by simp only[f227_C1,wm,wmr,rrm,↓wk,↓wl,evV,↓reduceIte,sevalprocAttr])
 ·rintro x3 s_ h_ H hs_ hh_
  simp only[f227_C1] at H hs_ hh_
  subst hs_
  subst hh_
  refine zs ?_
  refine zq (zr ?_)
  refine ic H ?_ ?_<;>clear H<;>intro H
  ·refine zr ?_
   cases H
   exact zt (zv (zf hQ))
  ·refine zk (zm (zr ?_))
   refine pu H f244_ok ?_<;>clear H<;>intro x4 H
   refine zE0 ?_
   cases H
   exact zt (zf hQ)
def c197_2:C:=.seq (.seq (.reg [iI 5 (.faddr 4 (.t 2)),iI 6 (.load 0 (.t 5)),iI 7 (.bin .lss (.t 6) (.c (.int .i64 0))),iI 8 (.mv (.t 7)),iG (some 9) 8 false (.faddr 4 (.t 2)),iG (some 10) 8 false (.load 0 (.t 9)),iG (some 11) 8 false (.mv (.t 1)),iG (some 12) 8 false (.bin .gtr (.t 10) (.t 11)),iI 13 (.pick (.t 8) (.c (.bool true)) (.t 12))]) (.cond (.t 13) (.seq (.reg [iI 4 (.mv (.c (.int .i64 6)))]) .ret) (.skip))) (.seq (.reg [iI 14 (.load 10 (.t 2)),iI 15 (.call (.c (.fn 227 [])) [(.t 14)]),iI 4 (.mv (.t 15))]) .ret)
def ir197:C:=.seq (.reg [iI 2 (.box (.t 0)),iI 4 (.mv (.c (.int .i64 0)))]) c197_2
theorem fd197:fd? Tryz.prog 197=some (16,[.slot 4],ir197):=by kernel_rfl
def f197(x0:ApiFeature)(x1:Int):Option (Int) :=
  (if (decide (x0.fCurve<0))=true then (some 6) else (if (decide (x1<x0.fCurve))=true then (some 6) else (f227 x0).bind fun x2=>(some x2)))
theorem f197_ok{x0:ApiFeature}{x1:Int}{r_:Int}(H:f197 x0 x1=some r_):Pure Tryz.prog 197 [.agg [.int .i64 x0.fAttr,.int .i64 x0.fBits,.int .i64 x0.fCoarse,.int .i64 x0.fFine,.int .i64 x0.fCurve,.int .i64 x0.fHome,.int .i64 x0.fLow,.int .i64 x0.fHigh,.bool x0.fSnap,.sl 3 false (x0.fWheel.map eApiSlot)],.int .i64 x1] (· = .int .i64 r_):=by
 refine w3 fd197 fun Q hQ=>?_
 simp only[f197] at H
 refine zr ?_
 refine zq (zr ?_)
 refine ig H ?_ ?_<;>clear H<;>intro H
 ·refine zs ?_
  refine za (zr ?_)
  cases H
  exact zt (zv (zf hQ))
 ·refine zs ?_
  refine ic H ?_ ?_<;>clear H<;>intro H
  ·refine zr ?_
   cases H
   exact zt (zv (zf hQ))
  ·refine zk (zm (zr ?_))
   refine pu H f227_ok ?_<;>clear H<;>intro x2 H
   refine zE0 ?_
   cases H
   exact zt (zf hQ)
def f138_C2(x0:ApiFeature)(x1:(List (Int×Bool)))(x2:ApiProfile)(x3:(List (Int×Bool))):Il (Int) where
  run:=(f185p x0.fAttr x0.fBits x0.fCoarse x0.fFine x0.fCurve x0.fHome x0.fLow x0.fHigh x0.fSnap x0.fWheel).bind fun x4=>(if x4=true then (some 1) else (f186p x1 x0.fAttr x0.fBits x0.fCoarse x0.fFine x0.fCurve x0.fHome x0.fLow x0.fHigh x0.fSnap x0.fWheel).bind fun x5=>(if x5=true then (some 7) else (f187p x0.fAttr x0.fBits x0.fCoarse x0.fFine x0.fCurve x0.fHome x0.fLow x0.fHigh x0.fSnap x0.fWheel).bind fun x6=>(if x6=true then (some 1) else (f189p x0.fAttr x0.fBits x0.fCoarse x0.fFine x0.fCurve x0.fHome x0.fLow x0.fHigh x0.fSnap x0.fWheel x2.fName x2.fFootprint x2.fWatts x2.fFeatures).bind fun x7=>(if x7=true then (some 2) else (f193p x0.fAttr x0.fBits x0.fCoarse x0.fFine x0.fCurve x0.fHome x0.fLow x0.fHigh x0.fSnap x0.fWheel).bind fun x8=>(if x8=true then (some 3) else (f194p x0.fAttr x0.fBits x0.fCoarse x0.fFine x0.fCurve x0.fHome x0.fLow x0.fHigh x0.fSnap x0.fWheel x3).bind fun x9=>(if x9=true then (some 11) else (f196p x0.fAttr x0.fBits x0.fCoarse x0.fFine x0.fCurve x0.fHome x0.fLow x0.fHigh x0.fSnap x0.fWheel).bind fun xa=>(if xa=true then (some 11) else (some 0))))))))
  res:=fun xb=>.int .i64 xb
  hp:=fun xb=>[.cel [.str x2.fName,.int .i64 x2.fFootprint,.int .i64 x2.fWatts,.sl 10 false (x2.fFeatures.map eApiFeature)],.cel [.mref 3],.cel [.mref 4],.map (mk (AV.int .i64) x3) (mv AV.bool x3),.map (mk (AV.int .i64) x1) (mv AV.bool x1),.cel [.int .i64 x0.fAttr,.int .i64 x0.fBits,.int .i64 x0.fCoarse,.int .i64 x0.fFine,.int .i64 x0.fCurve,.int .i64 x0.fHome,.int .i64 x0.fLow,.int .i64 x0.fHigh,.bool x0.fSnap,.sl 3 false (x0.fWheel.map eApiSlot)],.els 2 [.agg [.fn 185 [.ptr 5 0],.int .i64 1],.agg [.fn 186 [.ptr 2 0,.ptr 5 0],.int .i64 7],.agg [.fn 187 [.ptr 5 0],.int .i64 1],.agg [.fn 189 [.ptr 5 0,.ptr 0 0],.int .i64 2],.agg [.fn 193 [.ptr 5 0],.int .i64 3],.agg [.fn 194 [.ptr 5 0,.ptr 1 0],.int .i64 11],.agg [.fn 196 [.ptr 5 0],.int .i64 11]]]
def f138_L3(x0:(List Int))(x1:Int)(x2:ApiProfile)(x3:Int)(x4:(List (Int×Bool)))(x5:ApiFeature):Lp (Int×(List (Int×Bool))) ((List (Int×Bool))) where
  body:=fun (x6,x7)=>(if (decide (x6<((x0.length:Nat):Int)))=true then (at? x0 x6).bind fun x8=>(some (.next ((IntKind.i64.wrap (x6 + 1)),(mset (x7:(List (Int×Bool))) x8 true)))) else (some (.brk x7)))
  cst:=fun (x6,x7)=>⟨put (put (put (put (put (put (put (put (put (put (fun _=>.junk) 53 (.int .i64 x6)) 52 (.int .i64 ((x0.length:Nat):Int))) 51 (.sl 0 false (x0.map (AV.int .i64)))) 18 (.int .i64 x1)) 17 (.int .i64 ((x2.fFeatures.length:Nat):Int))) 16 (.sl 10 false (x2.fFeatures.map eApiFeature))) 6 (.ptr 2 0)) 5 (.ptr 1 0)) 2 (.ptr 0 0)) 1 (.int .i64 x3),[.cel [.str x2.fName,.int .i64 x2.fFootprint,.int .i64 x2.fWatts,.sl 10 false (x2.fFeatures.map eApiFeature)],.cel [.mref 3],.cel [.mref 4],.map (mk (AV.int .i64) x7) (mv AV.bool x7),.map (mk (AV.int .i64) (mset (x4:(List (Int×Bool))) x5.fAttr true)) (mv AV.bool (mset (x4:(List (Int×Bool))) x5.fAttr true))]⟩
theorem f138_L3c(x0:(List Int))(x1:Int)(x2:ApiProfile)(x3:Int)(x4:(List (Int×Bool)))(x5:ApiFeature)(x6:Int)(x7:(List (Int×Bool))):(f138_L3 x0 x1 x2 x3 x4 x5).cst (x6,x7)=⟨put (put (put (put (put (put (put (put (put (put (fun _=>.junk) 53 (.int .i64 x6)) 52 (.int .i64 ((x0.length:Nat):Int))) 51 (.sl 0 false (x0.map (AV.int .i64)))) 18 (.int .i64 x1)) 17 (.int .i64 ((x2.fFeatures.length:Nat):Int))) 16 (.sl 10 false (x2.fFeatures.map eApiFeature))) 6 (.ptr 2 0)) 5 (.ptr 1 0)) 2 (.ptr 0 0)) 1 (.int .i64 x3),[.cel [.str x2.fName,.int .i64 x2.fFootprint,.int .i64 x2.fWatts,.sl 10 false (x2.fFeatures.map eApiFeature)],.cel [.mref 3],.cel [.mref 4],.map (mk (AV.int .i64) x7) (mv AV.bool x7),.map (mk (AV.int .i64) (mset (x4:(List (Int×Bool))) x5.fAttr true)) (mv AV.bool (mset (x4:(List (Int×Bool))) x5.fAttr true))]⟩:=rfl
def f138_L1(x0:ApiProfile)(x1:Int):Lp (Int×(List (Int×Bool))×(List (Int×Bool))) ((Unit)⊕(Int)) where
  body:=fun (x2,x3,x4)=>(if (decide (x2<((x0.fFeatures.length:Nat):Int)))=true then (at? x0.fFeatures x2).bind fun x5=>((f138_C2 x5 x4 x0 x3).run.bind fun x6=>(if (decide (x6≠0))=true then (some (.brk (Sum.inr x6))) else (f197 x5 x1).bind fun x7=>(if (decide (x7≠0))=true then (some (.brk (Sum.inr x7))) else (f191 x5).bind fun x8=>(Lp.run (f138_L3 x8 x2 x0 x1 x4 x5) (0,x3)).bind fun x9=>(some (.next ((IntKind.i64.wrap (x2 + 1)),x9,(mset (x4:(List (Int×Bool))) x5.fAttr true))))))) else (some (.brk (Sum.inl ()))))
  cst:=fun (x2,x3,x4)=>⟨put (put (put (put (put (put (put (fun _=>.junk) 18 (.int .i64 x2)) 17 (.int .i64 ((x0.fFeatures.length:Nat):Int))) 16 (.sl 10 false (x0.fFeatures.map eApiFeature))) 6 (.ptr 2 0)) 5 (.ptr 1 0)) 2 (.ptr 0 0)) 1 (.int .i64 x1),[.cel [.str x0.fName,.int .i64 x0.fFootprint,.int .i64 x0.fWatts,.sl 10 false (x0.fFeatures.map eApiFeature)],.cel [.mref 3],.cel [.mref 4],.map (mk (AV.int .i64) x3) (mv AV.bool x3),.map (mk (AV.int .i64) x4) (mv AV.bool x4)]⟩
theorem f138_L1c(x0:ApiProfile)(x1:Int)(x2:Int)(x3:(List (Int×Bool)))(x4:(List (Int×Bool))):(f138_L1 x0 x1).cst (x2,x3,x4)=⟨put (put (put (put (put (put (put (fun _=>.junk) 18 (.int .i64 x2)) 17 (.int .i64 ((x0.fFeatures.length:Nat):Int))) 16 (.sl 10 false (x0.fFeatures.map eApiFeature))) 6 (.ptr 2 0)) 5 (.ptr 1 0)) 2 (.ptr 0 0)) 1 (.int .i64 x1),[.cel [.str x0.fName,.int .i64 x0.fFootprint,.int .i64 x0.fWatts,.sl 10 false (x0.fFeatures.map eApiFeature)],.cel [.mref 3],.cel [.mref 4],.map (mk (AV.int .i64) x3) (mv AV.bool x3),.map (mk (AV.int .i64) x4) (mv AV.bool x4)]⟩:=rfl
def c138_2:C:=.seq (.reg [iI 44 (.mv (.t 10)),iI 45 (.bin .neq (.t 44) (.c (.int .i64 0)))]) (.cond (.t 45) (.seq (.reg [iI 46 (.mv (.t 10)),iI 4 (.mv (.t 46))]) .ret) (.skip))
def c138_5:C:=.seq (.block 3 (.seq (.reg [iI 55 (.iaddr 0 (.t 51) (.t 53)),iI 56 (.load 0 (.t 55)),iI 12 (.mv (.t 56))]) (.reg [iI 57 (.load 0 (.t 5)),iI 58 (.mv (.t 12)),iN (.mapset 0 (.t 57) (.t 58) (.c (.bool true)))]))) (.reg [iI 59 (.bin .add (.t 53) (.c (.int .i64 1))),iI 53 (.mv (.t 59))])
def c138_8:C:=.seq (.reg [iI 50 (.load 10 (.t 8)),iI 51 (.call (.c (.fn 191 [])) [(.t 50)]),iI 52 (.len 0 (.t 51)),iI 53 (.mv (.c (.int .i64 0)))]) (.block 2 (.loop (.seq (.reg [iI 54 (.bin .lss (.t 53) (.t 52))]) (.seq (.cond (.t 54) (.skip) (.exit 2)) c138_5))))
def c138_10:C:=.seq (.seq (.reg [iI 41 (.load 10 (.t 8)),iI 42 (.mv (.t 1)),iI 43 (.call (.c (.fn 197 [])) [(.t 41),(.t 42)]),iI 10 (.mv (.t 43))]) c138_2) (.seq (.reg [iI 47 (.load 0 (.t 6)),iI 48 (.faddr 0 (.t 8)),iI 49 (.load 0 (.t 48)),iN (.mapset 0 (.t 47) (.t 49) (.c (.bool true)))]) c138_8)
def c138_11:C:=.seq (.seq (.reg [iI 38 (.mv (.t 9)),iI 39 (.bin .neq (.t 38) (.c (.int .i64 0)))]) (.cond (.t 39) (.seq (.reg [iI 40 (.mv (.t 9)),iI 4 (.mv (.t 40))]) .ret) (.skip))) c138_10
def c138_12:C:=.seq (.reg [iI 22 (.mkfn 185 [(.t 8)]),iI 23 (.build [(1,.nilfn),(1,(.int .i64 0))] [(0,0,(.t 22)),(1,0,(.c (.int .i64 1)))]),iI 24 (.mkfn 186 [(.t 6),(.t 8)]),iI 25 (.build [(1,.nilfn),(1,(.int .i64 0))] [(0,0,(.t 24)),(1,0,(.c (.int .i64 7)))]),iI 26 (.mkfn 187 [(.t 8)]),iI 27 (.build [(1,.nilfn),(1,(.int .i64 0))] [(0,0,(.t 26)),(1,0,(.c (.int .i64 1)))]),iI 28 (.mkfn 189 [(.t 8),(.t 2)]),iI 29 (.build [(1,.nilfn),(1,(.int .i64 0))] [(0,0,(.t 28)),(1,0,(.c (.int .i64 2)))]),iI 30 (.mkfn 193 [(.t 8)]),iI 31 (.build [(1,.nilfn),(1,(.int .i64 0))] [(0,0,(.t 30)),(1,0,(.c (.int .i64 3)))]),iI 32 (.mkfn 194 [(.t 8),(.t 5)]),iI 33 (.build [(1,.nilfn),(1,(.int .i64 0))] [(0,0,(.t 32)),(1,0,(.c (.int .i64 11)))]),iI 34 (.mkfn 196 [(.t 8)]),iI 35 (.build [(1,.nilfn),(1,(.int .i64 0))] [(0,0,(.t 34)),(1,0,(.c (.int .i64 11)))]),iI 36 (.mksl 2 7 (.agg [.nilfn,(.int .i64 0)]) [(0,(.t 23)),(1,(.t 25)),(2,(.t 27)),(3,(.t 29)),(4,(.t 31)),(5,(.t 33)),(6,(.t 35))]),iI 37 (.call (.c (.fn 132 [])) [(.t 36)]),iI 9 (.mv (.t 37))]) c138_11
def c138_14:C:=.seq (.block 1 (.seq (.reg [iI 20 (.iaddr 10 (.t 16) (.t 18)),iI 21 (.load 10 (.t 20)),iI 8 (.alloc [(1,(.int .i64 0)),(1,(.int .i64 0)),(1,(.int .i64 0)),(1,(.int .i64 0)),(1,(.int .i64 0)),(1,(.int .i64 0)),(1,(.int .i64 0)),(1,(.int .i64 0)),(1,(.bool false)),(1,(.sl 3 true []))]),iN (.store 10 (.t 8) (.t 21))]) c138_12)) (.reg [iI 60 (.bin .add (.t 18) (.c (.int .i64 1))),iI 18 (.mv (.t 60))])
def c138_18:C:=.seq (.seq (.reg [iI 15 (.faddr 3 (.t 2)),iI 16 (.load 0 (.t 15)),iI 17 (.len 0 (.t 16)),iI 18 (.mv (.c (.int .i64 0)))]) (.block 0 (.loop (.seq (.reg [iI 19 (.bin .lss (.t 18) (.t 17))]) (.seq (.cond (.t 19) (.skip) (.exit 0)) c138_14))))) (.seq (.reg [iI 4 (.mv (.c (.int .i64 0)))]) .ret)
def c138_19:C:=.seq (.reg [iI 13 .mkmap,iI 14 .mkmap,iI 5 (.alloc [(1,.nilmp)]),iI 6 (.alloc [(1,.nilmp)]),iN (.store 0 (.t 5) (.t 13)),iN (.store 0 (.t 6) (.t 14))]) c138_18
def ir138:C:=.seq (.reg [iI 2 (.box (.t 0)),iI 4 (.mv (.c (.int .i64 0)))]) c138_19
theorem fd138:fd? Tryz.prog 138=some (61,[.slot 4],ir138):=by kernel_rfl
def f138(x0:ApiProfile)(x1:Int):Option (Int) :=
  ((Lp.run (f138_L1 x0 x1) (0,[],[])).bind fun r_=>match r_ with | (Sum.inl _)=>(some 0) | (Sum.inr x2)=>(some x2))
theorem f138_ok{x0:ApiProfile}{x1:Int}{r_:Int}(H:f138 x0 x1=some r_):Pure Tryz.prog 138 [.agg [.str x0.fName,.int .i64 x0.fFootprint,.int .i64 x0.fWatts,.sl 10 false (x0.fFeatures.map eApiFeature)],.int .i64 x1] (· = .int .i64 r_):=by
 refine w3 fd138 fun Q hQ=>?_
 simp only[f138] at H
 refine zr ?_
 refine zr ?_
 refine zq (zr ?_)
 refine zd ?_
 refine zU H [0,3,4,1,2] [1,2,5,6,16,17,18] (f138_L1c ..) ?_<;>clear H
 rintro ⟨x2,x3,x4⟩ x_ st0_ H hst_
 rw[f138_L1c] at hst_
 simp only[f138_L1] at H
 subst hst_
 refine zr ?_
 refine zq (ic H ?_ ?_)<;>clear H<;>intro H
 ·refine zk (zm (zb (zr ?_)))
  refine ia eApiFeature H ?_<;>clear H<;>intro x5 H
  refine zE5 ?_
  refine zr ?_
  first | refine rest_lits (v:=.row 2 6 0 7) (h':=[.cel [.str x0.fName,.int .i64 x0.fFootprint,.int .i64 x0.fWatts,.sl 10 false (x0.fFeatures.map eApiFeature)],.cel [.mref 3],.cel [.mref 4],.map (mk (AV.int .i64) x3) (mv AV.bool x3),.map (mk (AV.int .i64) x4) (mv AV.bool x4),.cel [.int .i64 x5.fAttr,.int .i64 x5.fBits,.int .i64 x5.fCoarse,.int .i64 x5.fFine,.int .i64 x5.fCurve,.int .i64 x5.fHome,.int .i64 x5.fLow,.int .i64 x5.fHigh,.bool x5.fSnap,.sl 3 false (x5.fWheel.map eApiSlot)],.els 2 [.agg [.fn 185 [.ptr 5 0],.int .i64 1],.agg [.fn 186 [.ptr 2 0,.ptr 5 0],.int .i64 7],.agg [.fn 187 [.ptr 5 0],.int .i64 1],.agg [.fn 189 [.ptr 5 0,.ptr 0 0],.int .i64 2],.agg [.fn 193 [.ptr 5 0],.int .i64 3],.agg [.fn 194 [.ptr 5 0,.ptr 1 0],.int .i64 11],.agg [.fn 196 [.ptr 5 0],.int .i64 11]]]) (by rfl) (by rfl) ?_ | refine evTs_any (v:=.row 2 6 0 7) (h':=[.cel [.str x0.fName,.int .i64 x0.fFootprint,.int .i64 x0.fWatts,.sl 10 false (x0.fFeatures.map eApiFeature)],.cel [.mref 3],.cel [.mref 4],.map (mk (AV.int .i64) x3) (mv AV.bool x3),.map (mk (AV.int .i64) x4) (mv AV.bool x4),.cel [.int .i64 x5.fAttr,.int .i64 x5.fBits,.int .i64 x5.fCoarse,.int .i64 x5.fFine,.int .i64 x5.fCurve,.int .i64 x5.fHome,.int .i64 x5.fLow,.int .i64 x5.fHigh,.bool x5.fSnap,.sl 3 false (x5.fWheel.map eApiSlot)],.els 2 [.agg [.fn 185 [.ptr 5 0],.int .i64 1],.agg [.fn 186 [.ptr 2 0,.ptr 5 0],.int .i64 7],.agg [.fn 187 [.ptr 5 0],.int .i64 1],.agg [.fn 189 [.ptr 5 0,.ptr 0 0],.int .i64 2],.agg [.fn 193 [.ptr 5 0],.int .i64 3],.agg [.fn 194 [.ptr 5 0,.ptr 1 0],.int .i64 11],.agg [.fn 196 [.ptr 5 0],.int .i64 11]]]) rfl (by rfl) ?_
  refine zs ?_
  refine evTs_inl (I:=f138_C2 x5 x4 x0 x3) (args:=[.row 2 6 0 7]) H (by rfl) fd132 (by rfl) (Nat.le_of_ble_eq_true rfl) ?_ ?_<;>clear H
  ·rintro v_ Q_ H hqf138_C2
   simp only[f138_C2] at H
   dsimp only[List.length_cons,List.length_nil]
   refine zr ?_
   refine zq (zr ?_)
   refine zd ?_
   refine AW.rounds 40 ?_
   refine Rounds.go ?_
   refine zr ?_
   refine zq (za (zk (zm (zb (zr ?_)))))
   refine evTs_any (v:=.eptr 6 0 0) rfl (by rfl) ?_
   refine zs ?_
   try refine evTs_any (v:=.agg [.fn 185 [.ptr 5 0],.int .i64 1]) rfl (by rfl) ?_
   refine zs ?_
   refine zr ?_
   refine evTs_flat hFn H (fun _ h=>f185p_ok h) (by rfl) (by rfl) (by simp only[deep_eq,imm_simps,imm_rowE,imm_ptrE,imm_enc,imm_mrefE,imm_mpE,imm_arowE,omap_simps,take_map_len,take_map_set,take_map_set2,List.length_set,le_refl_true,Nat.zero_add,and_true,true_and,List.drop_zero,Option.map_some,wm,↓wk,↓wl,nq,evV,↓reduceIte,sevalprocAttr];rfl) (by rfl) (fun _=>rfl) (fun _=>rfl) ?_<;>clear H<;>intro x6 H
   refine zE0 ?_
   refine ic H ?_ ?_<;>clear H<;>intro H
   ·refine zr ?_
    refine zt (zp ?_)
    refine roundQ.ret ?_
    refine zh (zv ?_)
    cases H
    exact hqf138_C2 _ _ _ (.inr rfl) (Le.tq 7 [0,1,2,3,4,5,6] [2] rfl) (by simp only[resVs,omap,resV,f138_C2,wm,wmr,rrm,↓wk,↓wl,evV,↓reduceIte,sevalprocAttr]) (by simp only[f138_C2,wm,wmr,rrm,↓wk,↓wl,evV,↓reduceIte,sevalprocAttr])
   ·refine zk (zo (ze ?_))
    refine roundQ.next (st2:=⟨put (put (put (fun _=>.junk) 7 (.int .i64 1)) 6 (.int .i64 7)) 5 (.row 2 6 0 7),[.cel [.str x0.fName,.int .i64 x0.fFootprint,.int .i64 x0.fWatts,.sl 10 false (x0.fFeatures.map eApiFeature)],.cel [.mref 3],.cel [.mref 4],.map (mk (AV.int .i64) x3) (mv AV.bool x3),.map (mk (AV.int .i64) x4) (mv AV.bool x4),.cel [.int .i64 x5.fAttr,.int .i64 x5.fBits,.int .i64 x5.fCoarse,.int .i64 x5.fFine,.int .i64 x5.fCurve,.int .i64 x5.fHome,.int .i64 x5.fLow,.int .i64 x5.fHigh,.bool x5.fSnap,.sl 3 false (x5.fWheel.map eApiSlot)],.els 2 [.agg [.fn 185 [.ptr 5 0],.int .i64 1],.agg [.fn 186 [.ptr 2 0,.ptr 5 0],.int .i64 7],.agg [.fn 187 [.ptr 5 0],.int .i64 1],.agg [.fn 189 [.ptr 5 0,.ptr 0 0],.int .i64 2],.agg [.fn 193 [.ptr 5 0],.int .i64 3],.agg [.fn 194 [.ptr 5 0,.ptr 1 0],.int .i64 11],.agg [.fn 196 [.ptr 5 0],.int .i64 11]]]⟩) (Le.tq 7 [0,1,2,3,4,5,6] [5,6,7] (by simp only[wm,wmr,rrm,↓wk,↓wl,evV,↓reduceIte,sevalprocAttr]<;>rfl)) ?_
    refine Rounds.go ?_
    refine zr ?_
    refine zq (za (zk (zm (zb (zr ?_)))))
    refine evTs_any (v:=.eptr 6 1 0) rfl (by rfl) ?_
    refine zs ?_
    try refine evTs_any (v:=.agg [.fn 186 [.ptr 2 0,.ptr 5 0],.int .i64 7]) rfl (by rfl) ?_
    refine zs ?_
    refine zr ?_
    refine evTs_flat hFn H (fun _ h=>f186p_ok h) (by rfl) (by rfl) (by simp only[deep_eq,imm_simps,imm_rowE,imm_ptrE,imm_enc,imm_mrefE,imm_mpE,imm_arowE,omap_simps,take_map_len,take_map_set,take_map_set2,List.length_set,le_refl_true,Nat.zero_add,and_true,true_and,List.drop_zero,Option.map_some,wm,↓wk,↓wl,nq,evV,↓reduceIte,sevalprocAttr];rfl) (by rfl) (fun _=>rfl) (fun _=>rfl) ?_<;>clear H<;>intro x7 H
    refine zE0 ?_
    refine ic H ?_ ?_<;>clear H<;>intro H
    ·refine zr ?_
     refine zt (zp ?_)
     refine roundQ.ret ?_
     refine zh (zv ?_)
     cases H
     exact hqf138_C2 _ _ _ (.inr rfl) (Le.tq 7 [0,1,2,3,4,5,6] [2] rfl) (by simp only[resVs,omap,resV,f138_C2,wm,wmr,rrm,↓wk,↓wl,evV,↓reduceIte,sevalprocAttr]) (by simp only[f138_C2,wm,wmr,rrm,↓wk,↓wl,evV,↓reduceIte,sevalprocAttr])
    ·refine zk (zo (ze ?_))
     refine roundQ.next (st2:=⟨put (put (put (fun _=>.junk) 7 (.int .i64 2)) 6 (.int .i64 7)) 5 (.row 2 6 0 7),[.cel [.str x0.fName,.int .i64 x0.fFootprint,.int .i64 x0.fWatts,.sl 10 false (x0.fFeatures.map eApiFeature)],.cel [.mref 3],.cel [.mref 4],.map (mk (AV.int .i64) x3) (mv AV.bool x3),.map (mk (AV.int .i64) x4) (mv AV.bool x4),.cel [.int .i64 x5.fAttr,.int .i64 x5.fBits,.int .i64 x5.fCoarse,.int .i64 x5.fFine,.int .i64 x5.fCurve,.int .i64 x5.fHome,.int .i64 x5.fLow,.int .i64 x5.fHigh,.bool x5.fSnap,.sl 3 false (x5.fWheel.map eApiSlot)],.els 2 [.agg [.fn 185 [.ptr 5 0],.int .i64 1],.agg [.fn 186 [.ptr 2 0,.ptr 5 0],.int .i64 7],.agg [.fn 187 [.ptr 5 0],.int .i64 1],.agg [.fn 189 [.ptr 5 0,.ptr 0 0],.int .i64 2],.agg [.fn 193 [.ptr 5 0],.int .i64 3],.agg [.fn 194 [.ptr 5 0,.ptr 1 0],.int .i64 11],.agg [.fn 196 [.ptr 5 0],.int .i64 11]]]⟩) (Le.tq 7 [0,1,2,3,4,5,6] [5,6,7] (by simp only[wm,wmr,rrm,↓wk,↓wl,evV,↓reduceIte,sevalprocAttr]<;>rfl)) ?_
     refine Rounds.go ?_
     refine zr ?_
     refine zq (za (zk (zm (zb (zr ?_)))))
     refine evTs_any (v:=.eptr 6 2 0) rfl (by rfl) ?_
     refine zs ?_
     try refine evTs_any (v:=.agg [.fn 187 [.ptr 5 0],.int .i64 1]) rfl (by rfl) ?_
     refine zs ?_
     refine zr ?_
     refine evTs_flat hFn H (fun _ h=>f187p_ok h) (by rfl) (by rfl) (by simp only[deep_eq,imm_simps,imm_rowE,imm_ptrE,imm_enc,imm_mrefE,imm_mpE,imm_arowE,omap_simps,take_map_len,take_map_set,take_map_set2,List.length_set,le_refl_true,Nat.zero_add,and_true,true_and,List.drop_zero,Option.map_some,wm,↓wk,↓wl,nq,evV,↓reduceIte,sevalprocAttr];rfl) (by rfl) (fun _=>rfl) (fun _=>rfl) ?_<;>clear H<;>intro x8 H
     refine zE0 ?_
     refine ic H ?_ ?_<;>clear H<;>intro H
     ·refine zr ?_
      refine zt (zp ?_)
      refine roundQ.ret ?_
      refine zh (zv ?_)
      cases H
      exact hqf138_C2 _ _ _ (.inr rfl) (Le.tq 7 [0,1,2,3,4,5,6] [2] rfl) (by simp only[resVs,omap,resV,f138_C2,wm,wmr,rrm,↓wk,↓wl,evV,↓reduceIte,sevalprocAttr]) (by simp only[f138_C2,wm,wmr,rrm,↓wk,↓wl,evV,↓reduceIte,sevalprocAttr])
     ·refine zk (zo (ze ?_))
      refine roundQ.next (st2:=⟨put (put (put (fun _=>.junk) 7 (.int .i64 3)) 6 (.int .i64 7)) 5 (.row 2 6 0 7),[.cel [.str x0.fName,.int .i64 x0.fFootprint,.int .i64 x0.fWatts,.sl 10 false (x0.fFeatures.map eApiFeature)],.cel [.mref 3],.cel [.mref 4],.map (mk (AV.int .i64) x3) (mv AV.bool x3),.map (mk (AV.int .i64) x4) (mv AV.bool x4),.cel [.int .i64 x5.fAttr,.int .i64 x5.fBits,.int .i64 x5.fCoarse,.int .i64 x5.fFine,.int .i64 x5.fCurve,.int .i64 x5.fHome,.int .i64 x5.fLow,.int .i64 x5.fHigh,.bool x5.fSnap,.sl 3 false (x5.fWheel.map eApiSlot)],.els 2 [.agg [.fn 185 [.ptr 5 0],.int .i64 1],.agg [.fn 186 [.ptr 2 0,.ptr 5 0],.int .i64 7],.agg [.fn 187 [.ptr 5 0],.int .i64 1],.agg [.fn 189 [.ptr 5 0,.ptr 0 0],.int .i64 2],.agg [.fn 193 [.ptr 5 0],.int .i64 3],.agg [.fn 194 [.ptr 5 0,.ptr 1 0],.int .i64 11],.agg [.fn 196 [.ptr 5 0],.int .i64 11]]]⟩) (Le.tq 7 [0,1,2,3,4,5,6] [5,6,7] (by simp only[wm,wmr,rrm,↓wk,↓wl,evV,↓reduceIte,sevalprocAttr]<;>rfl)) ?_
      refine Rounds.go ?_
      refine zr ?_
      refine zq (za (zk (zm (zb (zr ?_)))))
      refine evTs_any (v:=.eptr 6 3 0) rfl (by rfl) ?_
      refine zs ?_
      try refine evTs_any (v:=.agg [.fn 189 [.ptr 5 0,.ptr 0 0],.int .i64 2]) rfl (by rfl) ?_
      refine zs ?_
      refine zr ?_
      refine evTs_flat hFn H (fun _ h=>f189p_ok h) (by rfl) (by rfl) (by simp only[deep_eq,imm_simps,imm_rowE,imm_ptrE,imm_enc,imm_mrefE,imm_mpE,imm_arowE,omap_simps,take_map_len,take_map_set,take_map_set2,List.length_set,le_refl_true,Nat.zero_add,and_true,true_and,List.drop_zero,Option.map_some,wm,↓wk,↓wl,nq,evV,↓reduceIte,sevalprocAttr];rfl) (by rfl) (fun _=>rfl) (fun _=>rfl) ?_<;>clear H<;>intro x9 H
      refine zE0 ?_
      refine ic H ?_ ?_<;>clear H<;>intro H
      ·refine zr ?_
       refine zt (zp ?_)
       refine roundQ.ret ?_
       refine zh (zv ?_)
       cases H
       exact hqf138_C2 _ _ _ (.inr rfl) (Le.tq 7 [0,1,2,3,4,5,6] [2] rfl) (by simp only[resVs,omap,resV,f138_C2,wm,wmr,rrm,↓wk,↓wl,evV,↓reduceIte,sevalprocAttr]) (by simp only[f138_C2,wm,wmr,rrm,↓wk,↓wl,evV,↓reduceIte,sevalprocAttr])
      ·refine zk (zo (ze ?_))
       refine roundQ.next (st2:=⟨put (put (put (fun _=>.junk) 7 (.int .i64 4)) 6 (.int .i64 7)) 5 (.row 2 6 0 7),[.cel [.str x0.fName,.int .i64 x0.fFootprint,.int .i64 x0.fWatts,.sl 10 false (x0.fFeatures.map eApiFeature)],.cel [.mref 3],.cel [.mref 4],.map (mk (AV.int .i64) x3) (mv AV.bool x3),.map (mk (AV.int .i64) x4) (mv AV.bool x4),.cel [.int .i64 x5.fAttr,.int .i64 x5.fBits,.int .i64 x5.fCoarse,.int .i64 x5.fFine,.int .i64 x5.fCurve,.int .i64 x5.fHome,.int .i64 x5.fLow,.int .i64 x5.fHigh,.bool x5.fSnap,.sl 3 false (x5.fWheel.map eApiSlot)],.els 2 [.agg [.fn 185 [.ptr 5 0],.int .i64 1],.agg [.fn 186 [.ptr 2 0,.ptr 5 0],.int .i64 7],.agg [.fn 187 [.ptr 5 0],.int .i64 1],.agg [.fn 189 [.ptr 5 0,.ptr 0 0],.int .i64 2],.agg [.fn 193 [.ptr 5 0],.int .i64 3],.agg [.fn 194 [.ptr 5 0,.ptr 1 0],.int .i64 11],.agg [.fn 196 [.ptr 5 0],.int .i64 11]]]⟩) (Le.tq 7 [0,1,2,3,4,5,6] [5,6,7] (by simp only[wm,wmr,rrm,↓wk,↓wl,evV,↓reduceIte,sevalprocAttr]<;>rfl)) ?_
       refine Rounds.go ?_
       refine zr ?_
       refine zq (za (zk (zm (zb (zr ?_)))))
       refine evTs_any (v:=.eptr 6 4 0) rfl (by rfl) ?_
       refine zs ?_
       try refine evTs_any (v:=.agg [.fn 193 [.ptr 5 0],.int .i64 3]) rfl (by rfl) ?_
       refine zs ?_
       refine zr ?_
       refine evTs_flat hFn H (fun _ h=>f193p_ok h) (by rfl) (by rfl) (by simp only[deep_eq,imm_simps,imm_rowE,imm_ptrE,imm_enc,imm_mrefE,imm_mpE,imm_arowE,omap_simps,take_map_len,take_map_set,take_map_set2,List.length_set,le_refl_true,Nat.zero_add,and_true,true_and,List.drop_zero,Option.map_some,wm,↓wk,↓wl,nq,evV,↓reduceIte,sevalprocAttr];rfl) (by rfl) (fun _=>rfl) (fun _=>rfl) ?_<;>clear H<;>intro xa H
       refine zE0 ?_
       refine ic H ?_ ?_<;>clear H<;>intro H
       ·refine zr ?_
        refine zt (zp ?_)
        refine roundQ.ret ?_
        refine zh (zv ?_)
        cases H
        exact hqf138_C2 _ _ _ (.inr rfl) (Le.tq 7 [0,1,2,3,4,5,6] [2] rfl) (by simp only[resVs,omap,resV,f138_C2,wm,wmr,rrm,↓wk,↓wl,evV,↓reduceIte,sevalprocAttr]) (by simp only[f138_C2,wm,wmr,rrm,↓wk,↓wl,evV,↓reduceIte,sevalprocAttr])
       ·refine zk (zo (ze ?_))
        refine roundQ.next (st2:=⟨put (put (put (fun _=>.junk) 7 (.int .i64 5)) 6 (.int .i64 7)) 5 (.row 2 6 0 7),[.cel [.str x0.fName,.int .i64 x0.fFootprint,.int .i64 x0.fWatts,.sl 10 false (x0.fFeatures.map eApiFeature)],.cel [.mref 3],.cel [.mref 4],.map (mk (AV.int .i64) x3) (mv AV.bool x3),.map (mk (AV.int .i64) x4) (mv AV.bool x4),.cel [.int .i64 x5.fAttr,.int .i64 x5.fBits,.int .i64 x5.fCoarse,.int .i64 x5.fFine,.int .i64 x5.fCurve,.int .i64 x5.fHome,.int .i64 x5.fLow,.int .i64 x5.fHigh,.bool x5.fSnap,.sl 3 false (x5.fWheel.map eApiSlot)],.els 2 [.agg [.fn 185 [.ptr 5 0],.int .i64 1],.agg [.fn 186 [.ptr 2 0,.ptr 5 0],.int .i64 7],.agg [.fn 187 [.ptr 5 0],.int .i64 1],.agg [.fn 189 [.ptr 5 0,.ptr 0 0],.int .i64 2],.agg [.fn 193 [.ptr 5 0],.int .i64 3],.agg [.fn 194 [.ptr 5 0,.ptr 1 0],.int .i64 11],.agg [.fn 196 [.ptr 5 0],.int .i64 11]]]⟩) (Le.tq 7 [0,1,2,3,4,5,6] [5,6,7] (by simp only[wm,wmr,rrm,↓wk,↓wl,evV,↓reduceIte,sevalprocAttr]<;>rfl)) ?_
        refine Rounds.go ?_
        refine zr ?_
        refine zq (za (zk (zm (zb (zr ?_)))))
        refine evTs_any (v:=.eptr 6 5 0) rfl (by rfl) ?_
        refine zs ?_
        try refine evTs_any (v:=.agg [.fn 194 [.ptr 5 0,.ptr 1 0],.int .i64 11]) rfl (by rfl) ?_
        refine zs ?_
        refine zr ?_
        refine evTs_flat hFn H (fun _ h=>f194p_ok h) (by rfl) (by rfl) (by simp only[deep_eq,imm_simps,imm_rowE,imm_ptrE,imm_enc,imm_mrefE,imm_mpE,imm_arowE,omap_simps,take_map_len,take_map_set,take_map_set2,List.length_set,le_refl_true,Nat.zero_add,and_true,true_and,List.drop_zero,Option.map_some,wm,↓wk,↓wl,nq,evV,↓reduceIte,sevalprocAttr];rfl) (by rfl) (fun _=>rfl) (fun _=>rfl) ?_<;>clear H<;>intro xb H
        refine zE0 ?_
        refine ic H ?_ ?_<;>clear H<;>intro H
        ·refine zr ?_
         refine zt (zp ?_)
         refine roundQ.ret ?_
         refine zh (zv ?_)
         cases H
         exact hqf138_C2 _ _ _ (.inr rfl) (Le.tq 7 [0,1,2,3,4,5,6] [2] rfl) (by simp only[resVs,omap,resV,f138_C2,wm,wmr,rrm,↓wk,↓wl,evV,↓reduceIte,sevalprocAttr]) (by simp only[f138_C2,wm,wmr,rrm,↓wk,↓wl,evV,↓reduceIte,sevalprocAttr])
        ·refine zk (zo (ze ?_))
         refine roundQ.next (st2:=⟨put (put (put (fun _=>.junk) 7 (.int .i64 6)) 6 (.int .i64 7)) 5 (.row 2 6 0 7),[.cel [.str x0.fName,.int .i64 x0.fFootprint,.int .i64 x0.fWatts,.sl 10 false (x0.fFeatures.map eApiFeature)],.cel [.mref 3],.cel [.mref 4],.map (mk (AV.int .i64) x3) (mv AV.bool x3),.map (mk (AV.int .i64) x4) (mv AV.bool x4),.cel [.int .i64 x5.fAttr,.int .i64 x5.fBits,.int .i64 x5.fCoarse,.int .i64 x5.fFine,.int .i64 x5.fCurve,.int .i64 x5.fHome,.int .i64 x5.fLow,.int .i64 x5.fHigh,.bool x5.fSnap,.sl 3 false (x5.fWheel.map eApiSlot)],.els 2 [.agg [.fn 185 [.ptr 5 0],.int .i64 1],.agg [.fn 186 [.ptr 2 0,.ptr 5 0],.int .i64 7],.agg [.fn 187 [.ptr 5 0],.int .i64 1],.agg [.fn 189 [.ptr 5 0,.ptr 0 0],.int .i64 2],.agg [.fn 193 [.ptr 5 0],.int .i64 3],.agg [.fn 194 [.ptr 5 0,.ptr 1 0],.int .i64 11],.agg [.fn 196 [.ptr 5 0],.int .i64 11]]]⟩) (Le.tq 7 [0,1,2,3,4,5,6] [5,6,7] (by simp only[wm,wmr,rrm,↓wk,↓wl,evV,↓reduceIte,sevalprocAttr]<;>rfl)) ?_
         refine Rounds.go ?_
         refine zr ?_
         refine zq (za (zk (zm (zb (zr ?_)))))
         refine evTs_any (v:=.eptr 6 6 0) rfl (by rfl) ?_
         refine zs ?_
         try refine evTs_any (v:=.agg [.fn 196 [.ptr 5 0],.int .i64 11]) rfl (by rfl) ?_
         refine zs ?_
         refine zr ?_
         refine evTs_flat hFn H (fun _ h=>f196p_ok h) (by rfl) (by rfl) (by simp only[deep_eq,imm_simps,imm_rowE,imm_ptrE,imm_enc,imm_mrefE,imm_mpE,imm_arowE,omap_simps,take_map_len,take_map_set,take_map_set2,List.length_set,le_refl_true,Nat.zero_add,and_true,true_and,List.drop_zero,Option.map_some,wm,↓wk,↓wl,nq,evV,↓reduceIte,sevalprocAttr];rfl) (by rfl) (fun _=>rfl) (fun _=>rfl) ?_<;>clear H<;>intro xc H
         refine zE0 ?_
         refine ic H ?_ ?_<;>clear H<;>intro H
         ·refine zr ?_
          refine zt (zp ?_)
          refine roundQ.ret ?_
          refine zh (zv ?_)
          cases H
          exact hqf138_C2 _ _ _ (.inr rfl) (Le.tq 7 [0,1,2,3,4,5,6] [2] rfl) (by simp only[resVs,omap,resV,f138_C2,wm,wmr,rrm,↓wk,↓wl,evV,↓reduceIte,sevalprocAttr]) (by simp only[f138_C2,wm,wmr,rrm,↓wk,↓wl,evV,↓reduceIte,sevalprocAttr])
         ·refine zk (zo (ze ?_))
          refine roundQ.next (st2:=⟨put (put (put (fun _=>.junk) 7 (.int .i64 7)) 6 (.int .i64 7)) 5 (.row 2 6 0 7),[.cel [.str x0.fName,.int .i64 x0.fFootprint,.int .i64 x0.fWatts,.sl 10 false (x0.fFeatures.map eApiFeature)],.cel [.mref 3],.cel [.mref 4],.map (mk (AV.int .i64) x3) (mv AV.bool x3),.map (mk (AV.int .i64) x4) (mv AV.bool x4),.cel [.int .i64 x5.fAttr,.int .i64 x5.fBits,.int .i64 x5.fCoarse,.int .i64 x5.fFine,.int .i64 x5.fCurve,.int .i64 x5.fHome,.int .i64 x5.fLow,.int .i64 x5.fHigh,.bool x5.fSnap,.sl 3 false (x5.fWheel.map eApiSlot)],.els 2 [.agg [.fn 185 [.ptr 5 0],.int .i64 1],.agg [.fn 186 [.ptr 2 0,.ptr 5 0],.int .i64 7],.agg [.fn 187 [.ptr 5 0],.int .i64 1],.agg [.fn 189 [.ptr 5 0,.ptr 0 0],.int .i64 2],.agg [.fn 193 [.ptr 5 0],.int .i64 3],.agg [.fn 194 [.ptr 5 0,.ptr 1 0],.int .i64 11],.agg [.fn 196 [.ptr 5 0],.int .i64 11]]]⟩) (Le.tq 7 [0,1,2,3,4,5,6] [5,6,7] (by simp only[wm,wmr,rrm,↓wk,↓wl,evV,↓reduceIte,sevalprocAttr]<;>rfl)) ?_
          refine Rounds.go ?_
          refine zr ?_
          refine zq (zc (zx (zy ?_)))
          refine roundQ.exit ?_
          refine zi (zm (zr ?_))
          refine zt ?_
          cases H
          exact hqf138_C2 _ _ _ (.inr rfl) (Le.tq 7 [0,1,2,3,4,5,6] [2] rfl) (by simp only[resVs,omap,resV,f138_C2,wm,wmr,rrm,↓wk,↓wl,evV,↓reduceIte,sevalprocAttr]) (by simp only[f138_C2,wm,wmr,rrm,↓wk,↓wl,evV,↓reduceIte,sevalprocAttr])
  ·rintro xd s_ h_ H hs_ hh_
   simp only[f138_C2] at H hs_ hh_
   subst hs_
   subst hh_
   refine zs ?_
   refine zq (zr ?_)
   refine ic H ?_ ?_<;>clear H<;>intro H
   ·refine zr ?_
    refine zt (zv (zp (loopQ.ret H ?_)))<;>clear H<;>intro H
    try dsimp only at H
    cases H
    exact zh (zv (zf hQ))
   ·refine zk (zm (zq (zr ?_)))
    refine pu H f197_ok ?_<;>clear H<;>intro xe H
    refine zE0 ?_
    refine zr ?_
    refine ic H ?_ ?_<;>clear H<;>intro H
    ·refine zr ?_
     refine zt (zv (zp (loopQ.ret H ?_)))<;>clear H<;>intro H
     try dsimp only at H
     cases H
     exact zh (zv (zf hQ))
    ·refine zk (zm (zr ?_))
     refine evTs_mset (m:=x4) (ek:=(AV.int .i64)) (ev:=AV.bool) x5.fAttr true (by rfl) (by rfl) (by rfl) (by rfl) ?_
     refine zs ?_
     refine zr ?_
     refine pu H f191_ok ?_<;>clear H<;>intro xf H
     refine zE0 ?_
     refine zd ?_
     refine zU H [0,1,2,3,4] [1,2,5,6,16,17,18,51,52,53] (f138_L3c ..) ?_<;>clear H
     rintro ⟨xg,xh⟩ x_ st0_ H hst_
     rw[f138_L3c] at hst_
     simp only[f138_L3] at H
     subst hst_
     refine zr ?_
     refine zq (ic H ?_ ?_)<;>clear H<;>intro H
     ·refine zk (zm (zb (zr ?_)))
      refine ia (AV.int .i64) H ?_<;>clear H<;>intro xi H
      refine zs ?_
      refine ze ?_
      refine evTs_mset (m:=xh) (ek:=(AV.int .i64)) (ev:=AV.bool) xi true (by rfl) (by rfl) (by rfl) (by rfl) ?_
      refine zs ?_
      refine zo (ze ?_)
      exact zu H [0,1,2,3,4] [1,2,5,6,16,17,18,51,52,53] (f138_L3c ..)
     ·refine zx (zy (loopQ.exit H ?_))<;>clear H<;>intro H
      try dsimp only at H
      refine zi (zo (ze ?_))
      exact zu H [0,1,2,3,4] [1,2,5,6,16,17,18] (f138_L1c ..)
 ·refine zx (zy (loopQ.exit H ?_))<;>clear H<;>intro H
  try dsimp only at H
  refine zi (zm (zr ?_))
  cases H
  exact zt (zf hQ)
def c95_4:C:=.seq (.seq (.reg [iI 22 (.mv (.t 6)),iI 23 (.bin .neq (.t 22) (.c (.int .i64 0)))]) (.cond (.t 23) (.seq (.reg [iI 24 (.mv (.t 6)),iI 4 (.mv (.t 24))]) .ret) (.skip))) (.seq (.reg [iI 25 (.load 4 (.t 2)),iI 26 (.mv (.t 1)),iI 27 (.len 0 (.t 26)),iI 28 (.call (.c (.fn 138 [])) [(.t 25),(.t 27)]),iI 4 (.mv (.t 28))]) .ret)
def c95_5:C:=.seq (.reg [iI 12 (.mkfn 133 [(.t 2)]),iI 13 (.build [(1,.nilfn),(1,(.int .i64 0))] [(0,0,(.t 12)),(1,0,(.c (.int .i64 8)))]),iI 14 (.mkfn 135 [(.t 2)]),iI 15 (.build [(1,.nilfn),(1,(.int .i64 0))] [(0,0,(.t 14)),(1,0,(.c (.int .i64 2)))]),iI 16 (.mkfn 136 [(.t 2)]),iI 17 (.build [(1,.nilfn),(1,(.int .i64 0))] [(0,0,(.t 16)),(1,0,(.c (.int .i64 2)))]),iI 18 (.mkfn 137 [(.t 2)]),iI 19 (.build [(1,.nilfn),(1,(.int .i64 0))] [(0,0,(.t 18)),(1,0,(.c (.int .i64 5)))]),iI 20 (.mksl 2 4 (.agg [.nilfn,(.int .i64 0)]) [(0,(.t 13)),(1,(.t 15)),(2,(.t 17)),(3,(.t 19))]),iI 21 (.call (.c (.fn 132 [])) [(.t 20)]),iI 6 (.mv (.t 21))]) c95_4
def c95_6:C:=.seq (.seq (.reg [iI 7 (.mv (.t 1)),iI 8 (.call (.c (.fn 131 [])) [(.t 7)]),iI 5 (.mv (.t 8))]) (.seq (.reg [iI 9 (.mv (.t 5)),iI 10 (.bin .neq (.t 9) (.c (.int .i64 0)))]) (.cond (.t 10) (.seq (.reg [iI 11 (.mv (.t 5)),iI 4 (.mv (.t 11))]) .ret) (.skip)))) c95_5
def ir95:C:=.seq (.reg [iI 2 (.box (.t 0)),iI 4 (.mv (.c (.int .i64 0)))]) c95_6
theorem fd95:fd? Tryz.prog 95=some (29,[.slot 4],ir95):=by kernel_rfl
def f95(x0:ApiProfile)(x1:(List (List ApiPoint))):Option (Int) :=
  (f131 x1).bind fun x2=>(if (decide (x2≠0))=true then (some x2) else ((f95_C1 x0).run.bind fun x3=>(if (decide (x3≠0))=true then (some x3) else (f138 x0 ((x1.length:Nat):Int)).bind fun x4=>(some x4))))
theorem f95_ok{x0:ApiProfile}{x1:(List (List ApiPoint))}{r_:Int}(H:f95 x0 x1=some r_):Pure Tryz.prog 95 [.agg [.str x0.fName,.int .i64 x0.fFootprint,.int .i64 x0.fWatts,.sl 10 false (x0.fFeatures.map eApiFeature)],.sl 0 false (x1.map (eL 2 eApiPoint))] (· = .int .i64 r_):=by
 refine w3 fd95 fun Q hQ=>?_
 simp only[f95] at H
 refine zr ?_
 refine zq (zr ?_)
 refine pu H f131_ok ?_<;>clear H<;>intro x2 H
 refine zE0 ?_
 refine zr ?_
 refine ic H ?_ ?_<;>clear H<;>intro H
 ·refine zr ?_
  cases H
  exact zt (zv (zf hQ))
 ·refine zk (zm (zr ?_))
  first | refine rest_lits (v:=.row 2 1 0 4) (h':=[.cel [.str x0.fName,.int .i64 x0.fFootprint,.int .i64 x0.fWatts,.sl 10 false (x0.fFeatures.map eApiFeature)],.els 2 [.agg [.fn 133 [.ptr 0 0],.int .i64 8],.agg [.fn 135 [.ptr 0 0],.int .i64 2],.agg [.fn 136 [.ptr 0 0],.int .i64 2],.agg [.fn 137 [.ptr 0 0],.int .i64 5]]]) (by rfl) (by rfl) ?_ | refine evTs_any (v:=.row 2 1 0 4) (h':=[.cel [.str x0.fName,.int .i64 x0.fFootprint,.int .i64 x0.fWatts,.sl 10 false (x0.fFeatures.map eApiFeature)],.els 2 [.agg [.fn 133 [.ptr 0 0],.int .i64 8],.agg [.fn 135 [.ptr 0 0],.int .i64 2],.agg [.fn 136 [.ptr 0 0],.int .i64 2],.agg [.fn 137 [.ptr 0 0],.int .i64 5]]]) rfl (by rfl) ?_
  refine zs ?_
  refine evTs_inl (I:=f95_C1 x0) (args:=[.row 2 1 0 4]) H (by rfl) fd132 (by rfl) (Nat.le_of_ble_eq_true rfl) ?_ ?_<;>clear H
  ·rintro v_ Q_ H hqf95_C1
   simp only[f95_C1] at H
   dsimp only[List.length_cons,List.length_nil]
   refine zr ?_
   refine zq (zr ?_)
   refine zd ?_
   refine AW.rounds 40 ?_
   refine Rounds.go ?_
   refine zr ?_
   refine zq (za (zk (zm (zb (zr ?_)))))
   refine evTs_any (v:=.eptr 1 0 0) rfl (by rfl) ?_
   refine zs ?_
   try refine evTs_any (v:=.agg [.fn 133 [.ptr 0 0],.int .i64 8]) rfl (by rfl) ?_
   refine zs ?_
   refine zr ?_
   refine evTs_flat hFn H (fun _ h=>f133p_ok h) (by rfl) (by rfl) (by simp only[deep_eq,imm_simps,imm_rowE,imm_ptrE,imm_enc,imm_mrefE,imm_mpE,imm_arowE,omap_simps,take_map_len,take_map_set,take_map_set2,List.length_set,le_refl_true,Nat.zero_add,and_true,true_and,List.drop_zero,Option.map_some,wm,↓wk,↓wl,nq,evV,↓reduceIte,sevalprocAttr];rfl) (by rfl) (fun _=>rfl) (fun _=>rfl) ?_<;>clear H<;>intro x3 H
   refine zE0 ?_
   refine ic H ?_ ?_<;>clear H<;>intro H
   ·refine zr ?_
    refine zt (zp ?_)
    refine roundQ.ret ?_
    refine zh (zv ?_)
    cases H
    exact hqf95_C1 _ _ _ (.inr rfl) (Le.tq 2 [0,1] [2] rfl) (by simp only[resVs,omap,resV,f95_C1,wm,wmr,rrm,↓wk,↓wl,evV,↓reduceIte,sevalprocAttr]) (by simp only[f95_C1,wm,wmr,rrm,↓wk,↓wl,evV,↓reduceIte,sevalprocAttr])
   ·refine zk (zo (ze ?_))
    refine roundQ.next (st2:=⟨put (put (put (fun _=>.junk) 7 (.int .i64 1)) 6 (.int .i64 4)) 5 (.row 2 1 0 4),[.cel [.str x0.fName,.int .i64 x0.fFootprint,.int .i64 x0.fWatts,.sl 10 false (x0.fFeatures.map eApiFeature)],.els 2 [.agg [.fn 133 [.ptr 0 0],.int .i64 8],.agg [.fn 135 [.ptr 0 0],.int .i64 2],.agg [.fn 136 [.ptr 0 0],.int .i64 2],.agg [.fn 137 [.ptr 0 0],.int .i64 5]]]⟩) (Le.tq 2 [0,1] [5,6,7] (by simp only[wm,wmr,rrm,↓wk,↓wl,evV,↓reduceIte,sevalprocAttr]<;>rfl)) ?_
    refine Rounds.go ?_
    refine zr ?_
    refine zq (za (zk (zm (zb (zr ?_)))))
    refine evTs_any (v:=.eptr 1 1 0) rfl (by rfl) ?_
    refine zs ?_
    try refine evTs_any (v:=.agg [.fn 135 [.ptr 0 0],.int .i64 2]) rfl (by rfl) ?_
    refine zs ?_
    refine zr ?_
    refine evTs_flat hFn H (fun _ h=>f135p_ok h) (by rfl) (by rfl) (by simp only[deep_eq,imm_simps,imm_rowE,imm_ptrE,imm_enc,imm_mrefE,imm_mpE,imm_arowE,omap_simps,take_map_len,take_map_set,take_map_set2,List.length_set,le_refl_true,Nat.zero_add,and_true,true_and,List.drop_zero,Option.map_some,wm,↓wk,↓wl,nq,evV,↓reduceIte,sevalprocAttr];rfl) (by rfl) (fun _=>rfl) (fun _=>rfl) ?_<;>clear H<;>intro x4 H
    refine zE0 ?_
    refine ic H ?_ ?_<;>clear H<;>intro H
    ·refine zr ?_
     refine zt (zp ?_)
     refine roundQ.ret ?_
     refine zh (zv ?_)
     cases H
     exact hqf95_C1 _ _ _ (.inr rfl) (Le.tq 2 [0,1] [2] rfl) (by simp only[resVs,omap,resV,f95_C1,wm,wmr,rrm,↓wk,↓wl,evV,↓reduceIte,sevalprocAttr]) (by simp only[f95_C1,wm,wmr,rrm,↓wk,↓wl,evV,↓reduceIte,sevalprocAttr])
    ·refine zk (zo (ze ?_))
     refine roundQ.next (st2:=⟨put (put (put (fun _=>.junk) 7 (.int .i64 2)) 6 (.int .i64 4)) 5 (.row 2 1 0 4),[.cel [.str x0.fName,.int .i64 x0.fFootprint,.int .i64 x0.fWatts,.sl 10 false (x0.fFeatures.map eApiFeature)],.els 2 [.agg [.fn 133 [.ptr 0 0],.int .i64 8],.agg [.fn 135 [.ptr 0 0],.int .i64 2],.agg [.fn 136 [.ptr 0 0],.int .i64 2],.agg [.fn 137 [.ptr 0 0],.int .i64 5]]]⟩) (Le.tq 2 [0,1] [5,6,7] (by simp only[wm,wmr,rrm,↓wk,↓wl,evV,↓reduceIte,sevalprocAttr]<;>rfl)) ?_
     refine Rounds.go ?_
     refine zr ?_
     refine zq (za (zk (zm (zb (zr ?_)))))
     refine evTs_any (v:=.eptr 1 2 0) rfl (by rfl) ?_
     refine zs ?_
     try refine evTs_any (v:=.agg [.fn 136 [.ptr 0 0],.int .i64 2]) rfl (by rfl) ?_
     refine zs ?_
     refine zr ?_
     refine evTs_flat hFn H (fun _ h=>f136p_ok h) (by rfl) (by rfl) (by simp only[deep_eq,imm_simps,imm_rowE,imm_ptrE,imm_enc,imm_mrefE,imm_mpE,imm_arowE,omap_simps,take_map_len,take_map_set,take_map_set2,List.length_set,le_refl_true,Nat.zero_add,and_true,true_and,List.drop_zero,Option.map_some,wm,↓wk,↓wl,nq,evV,↓reduceIte,sevalprocAttr];rfl) (by rfl) (fun _=>rfl) (fun _=>rfl) ?_<;>clear H<;>intro x5 H
     refine zE0 ?_
     refine ic H ?_ ?_<;>clear H<;>intro H
     ·refine zr ?_
      refine zt (zp ?_)
      refine roundQ.ret ?_
      refine zh (zv ?_)
      cases H
      exact hqf95_C1 _ _ _ (.inr rfl) (Le.tq 2 [0,1] [2] rfl) (by simp only[resVs,omap,resV,f95_C1,wm,wmr,rrm,↓wk,↓wl,evV,↓reduceIte,sevalprocAttr]) (by simp only[f95_C1,wm,wmr,rrm,↓wk,↓wl,evV,↓reduceIte,sevalprocAttr])
     ·refine zk (zo (ze ?_))
      refine roundQ.next (st2:=⟨put (put (put (fun _=>.junk) 7 (.int .i64 3)) 6 (.int .i64 4)) 5 (.row 2 1 0 4),[.cel [.str x0.fName,.int .i64 x0.fFootprint,.int .i64 x0.fWatts,.sl 10 false (x0.fFeatures.map eApiFeature)],.els 2 [.agg [.fn 133 [.ptr 0 0],.int .i64 8],.agg [.fn 135 [.ptr 0 0],.int .i64 2],.agg [.fn 136 [.ptr 0 0],.int .i64 2],.agg [.fn 137 [.ptr 0 0],.int .i64 5]]]⟩) (Le.tq 2 [0,1] [5,6,7] (by simp only[wm,wmr,rrm,↓wk,↓wl,evV,↓reduceIte,sevalprocAttr]<;>rfl)) ?_
      refine Rounds.go ?_
      refine zr ?_
      refine zq (za (zk (zm (zb (zr ?_)))))
      refine evTs_any (v:=.eptr 1 3 0) rfl (by rfl) ?_
      refine zs ?_
      try refine evTs_any (v:=.agg [.fn 137 [.ptr 0 0],.int .i64 5]) rfl (by rfl) ?_
      refine zs ?_
      refine zr ?_
      refine evTs_flat hFn H (fun _ h=>f137p_ok h) (by rfl) (by rfl) (by simp only[deep_eq,imm_simps,imm_rowE,imm_ptrE,imm_enc,imm_mrefE,imm_mpE,imm_arowE,omap_simps,take_map_len,take_map_set,take_map_set2,List.length_set,le_refl_true,Nat.zero_add,and_true,true_and,List.drop_zero,Option.map_some,wm,↓wk,↓wl,nq,evV,↓reduceIte,sevalprocAttr];rfl) (by rfl) (fun _=>rfl) (fun _=>rfl) ?_<;>clear H<;>intro x6 H
      refine zE0 ?_
      refine ic H ?_ ?_<;>clear H<;>intro H
      ·refine zr ?_
       refine zt (zp ?_)
       refine roundQ.ret ?_
       refine zh (zv ?_)
       cases H
       exact hqf95_C1 _ _ _ (.inr rfl) (Le.tq 2 [0,1] [2] rfl) (by simp only[resVs,omap,resV,f95_C1,wm,wmr,rrm,↓wk,↓wl,evV,↓reduceIte,sevalprocAttr]) (by simp only[f95_C1,wm,wmr,rrm,↓wk,↓wl,evV,↓reduceIte,sevalprocAttr])
      ·refine zk (zo (ze ?_))
       refine roundQ.next (st2:=⟨put (put (put (fun _=>.junk) 7 (.int .i64 4)) 6 (.int .i64 4)) 5 (.row 2 1 0 4),[.cel [.str x0.fName,.int .i64 x0.fFootprint,.int .i64 x0.fWatts,.sl 10 false (x0.fFeatures.map eApiFeature)],.els 2 [.agg [.fn 133 [.ptr 0 0],.int .i64 8],.agg [.fn 135 [.ptr 0 0],.int .i64 2],.agg [.fn 136 [.ptr 0 0],.int .i64 2],.agg [.fn 137 [.ptr 0 0],.int .i64 5]]]⟩) (Le.tq 2 [0,1] [5,6,7] (by simp only[wm,wmr,rrm,↓wk,↓wl,evV,↓reduceIte,sevalprocAttr]<;>rfl)) ?_
       refine Rounds.go ?_
       refine zr ?_
       refine zq (zc (zx (zy ?_)))
       refine roundQ.exit ?_
       refine zi (zm (zr ?_))
       refine zt ?_
       cases H
       exact hqf95_C1 _ _ _ (.inr rfl) (Le.tq 2 [0,1] [2] rfl) (by simp only[resVs,omap,resV,f95_C1,wm,wmr,rrm,↓wk,↓wl,evV,↓reduceIte,sevalprocAttr]) (by simp only[f95_C1,wm,wmr,rrm,↓wk,↓wl,evV,↓reduceIte,sevalprocAttr])
  ·rintro x7 s_ h_ H hs_ hh_
   simp only[f95_C1] at H hs_ hh_
   subst hs_
   subst hh_
   refine zs ?_
   refine zq (zr ?_)
   refine ic H ?_ ?_<;>clear H<;>intro H
   ·refine zr ?_
    cases H
    exact zt (zv (zf hQ))
   ·refine zk (zm (zr ?_))
    refine pu H f138_ok ?_<;>clear H<;>intro x8 H
    refine zE0 ?_
    cases H
    exact zt (zf hQ)
def f139_L1(x0:(List ApiProfile))(x1:(List ApiFixture)):Lp (Int×(List ((List UInt8)×ApiProfile))) ((List ((List UInt8)×ApiProfile))) where
  body:=fun (x2,x3)=>(if (decide (x2<((x0.length:Nat):Int)))=true then (at? x0 x2).bind fun x4=>(look? (x3:(List ((List UInt8)×ApiProfile))) x4.fName ((ApiProfile.mk ([]) 0 0 ([])):ApiProfile) fun x5 x6=>(if (!x6)=true then (some (.next ((IntKind.i64.wrap (x2 + 1)),(mset (x3:(List ((List UInt8)×ApiProfile))) x4.fName x4)))) else (some (.next ((IntKind.i64.wrap (x2 + 1)),x3))))) else (some (.brk x3)))
  cst:=fun (x2,x3)=>⟨put (put (put (put (put (fun _=>.junk) 15 (.int .i64 x2)) 14 (.int .i64 ((x0.length:Nat):Int))) 13 (.sl 4 false (x0.map eApiProfile))) 5 (.ptr 1 0)) 4 (.ptr 0 0),[.cel [.sl 7 true [],.nilmp],.cel [.sl 7 false (x1.map eApiFixture),.mref 2],.map (mk AV.str x3) (mv eApiProfile x3)]⟩
theorem f139_L1c(x0:(List ApiProfile))(x1:(List ApiFixture))(x2:Int)(x3:(List ((List UInt8)×ApiProfile))):(f139_L1 x0 x1).cst (x2,x3)=⟨put (put (put (put (put (fun _=>.junk) 15 (.int .i64 x2)) 14 (.int .i64 ((x0.length:Nat):Int))) 13 (.sl 4 false (x0.map eApiProfile))) 5 (.ptr 1 0)) 4 (.ptr 0 0),[.cel [.sl 7 true [],.nilmp],.cel [.sl 7 false (x1.map eApiFixture),.mref 2],.map (mk AV.str x3) (mv eApiProfile x3)]⟩:=rfl
def c139_0:C:=.cond (.t 28) (.reg [iI 29 (.faddr 1 (.t 5)),iI 30 (.load 0 (.t 29)),iI 31 (.faddr 0 (.t 7)),iI 32 (.load 0 (.t 31)),iI 33 (.load 4 (.t 7)),iN (.mapset 1 (.t 30) (.t 32) (.t 33))]) (.skip)
def c139_2:C:=.seq (.reg [iI 20 (.faddr 1 (.t 5)),iI 21 (.load 0 (.t 20)),iI 22 (.faddr 0 (.t 7)),iI 23 (.load 0 (.t 22)),iI 24 (.lookup 1 (.agg [(.str []),(.int .i64 0),(.int .i64 0),(.sl 10 true [])]) true (.t 21) (.t 23)),iI 19 (.mv (.t 24)),iI 25 (.ext (.t 19) 0),iI 26 (.ext (.t 19) 1),iI 8 (.alloc [(1,(.str [])),(1,(.int .i64 0)),(1,(.int .i64 0)),(1,(.sl 10 true []))]),iN (.store 4 (.t 8) (.t 25)),iI 9 (.mv (.t 26))]) (.seq (.reg [iI 27 (.mv (.t 9)),iI 28 (.un .not (.t 27))]) c139_0)
def c139_4:C:=.seq (.block 1 (.seq (.reg [iI 17 (.iaddr 4 (.t 13) (.t 15)),iI 18 (.load 4 (.t 17)),iI 7 (.alloc [(1,(.str [])),(1,(.int .i64 0)),(1,(.int .i64 0)),(1,(.sl 10 true []))]),iN (.store 4 (.t 7) (.t 18))]) c139_2)) (.reg [iI 34 (.bin .add (.t 15) (.c (.int .i64 1))),iI 15 (.mv (.t 34))])
def c139_8:C:=.seq (.seq (.reg [iI 13 (.mv (.t 1)),iI 14 (.len 0 (.t 13)),iI 15 (.mv (.c (.int .i64 0)))]) (.block 0 (.loop (.seq (.reg [iI 16 (.bin .lss (.t 15) (.t 14))]) (.seq (.cond (.t 16) (.skip) (.exit 0)) c139_4))))) (.seq (.reg [iI 35 (.load 2 (.t 5)),iN (.store 2 (.t 4) (.t 35))]) .ret)
def c139_9:C:=.seq (.reg [iI 10 (.mv (.t 0)),iI 11 .mkmap,iI 12 (.build [(1,(.sl 7 true [])),(1,.nilmp)] [(0,0,(.t 10)),(1,0,(.t 11))]),iI 5 (.alloc [(1,(.sl 7 true [])),(1,.nilmp)]),iN (.store 2 (.t 5) (.t 12))]) c139_8
def ir139:C:=.seq (.reg [iI 4 (.alloc [(1,(.sl 7 true [])),(1,.nilmp)])]) c139_9
theorem fd139:fd? Tryz.prog 139=some (36,[.cell 4 2],ir139):=by kernel_rfl
def f139(x0:(List ApiFixture))(x1:(List ApiProfile)):Option (PatchRig) :=
  (Lp.run (f139_L1 x1 x0) (0,[])).bind fun x2=>(some (PatchRig.mk x0 x2))
theorem f139_ok{x0:(List ApiFixture)}{x1:(List ApiProfile)}{r_:PatchRig}(H:f139 x0 x1=some r_):Pure Tryz.prog 139 [.sl 7 false (x0.map eApiFixture),.sl 4 false (x1.map eApiProfile)] (· = .agg [.sl 7 false (r_.fFixtures.map eApiFixture),.mp (mk AV.str r_.fProfiles) (mv eApiProfile r_.fProfiles)]):=by
 refine w3 fd139 fun Q hQ=>?_
 simp only[f139] at H
 refine zr ?_
 refine zr ?_
 refine zq (zr ?_)
 refine zd ?_
 refine zU H [0,2,1] [4,5,13,14,15] (f139_L1c ..) ?_<;>clear H
 rintro ⟨x2,x3⟩ x_ st0_ H hst_
 rw[f139_L1c] at hst_
 simp only[f139_L1] at H
 subst hst_
 refine zr ?_
 refine zq (ic H ?_ ?_)<;>clear H<;>intro H
 ·refine zk (zm (zb (zr ?_)))
  refine ia eApiProfile H ?_<;>clear H<;>intro x4 H
  refine zE6 ?_
  refine zr ?_
  refine evTs_lookR (ek:=AV.str) (ev:=eApiProfile) H true (by rfl) (by rfl) (by rfl) (by rfl) ?_<;>clear H<;>intro x5 x6 H
  refine zE6 ?_
  refine zr ?_
  refine ic H ?_ ?_<;>clear H<;>intro H
  ·refine ze ?_
   refine evTs_mset (m:=x3) (ek:=AV.str) (ev:=eApiProfile) x4.fName x4 (by rfl) (by rfl) (by rfl) (by rfl) ?_
   refine zs ?_
   refine zo (ze ?_)
   exact zu H [0,1,2] [4,5,13,14,15] (f139_L1c ..)
  ·refine zk (zo (ze ?_))
   exact zu H [0,1,2] [4,5,13,14,15] (f139_L1c ..)
 ·refine zx (zy (loopQ.exit H ?_))<;>clear H<;>intro H
  try dsimp only at H
  refine zi (zm (zr ?_))
  refine zt ?_
  cases H
  exact hQ _ _ _ _ (.inr rfl) (by simp only[resVs,omap,resV,wm,↓wk,↓wl,nq,evV,↓reduceIte,sevalprocAttr];rfl) (by simp only[handOver,deep_eq,imm_simps,imm_rowE,imm_ptrE,imm_enc,imm_mrefE,imm_mpE,imm_arowE,omap_simps,take_map_len,take_map_set,take_map_set2,List.length_set,le_refl_true,Nat.zero_add,and_true,true_and,List.drop_zero,Option.map_some,wm,↓wk,↓wl,nq,evV,↓reduceIte,sevalprocAttr];rfl) (by first | exact Or.inl rfl | exact Or.inr rfl)
def f198_L1(x0:ApiFixture):Lp (Int) ((Unit)⊕(Unit)) where
  body:=fun x1=>(if (decide (x1<((([(Arr2_54.mk x0.fChannel 999),(Arr2_54.mk x0.fPart 64),(Arr2_54.mk x0.fUniverse 8),(Arr2_54.mk x0.fAddress 512),(Arr2_54.mk x0.fPhase 3)]).length:Nat):Int)))=true then (at? ([(Arr2_54.mk x0.fChannel 999),(Arr2_54.mk x0.fPart 64),(Arr2_54.mk x0.fUniverse 8),(Arr2_54.mk x0.fAddress 512),(Arr2_54.mk x0.fPhase 3)]) x1).bind fun x2=>(if (decide (x2.fE0<1))=true then (some (.brk (Sum.inr ()))) else (if (decide (x2.fE1<x2.fE0))=true then (some (.brk (Sum.inr ()))) else (some (.next (IntKind.i64.wrap (x1 + 1)))))) else (some (.brk (Sum.inl ()))))
  cst:=fun x1=>⟨put (put (put (fun _=>.junk) 22 (.int .i64 x1)) 21 (.int .i64 ((([(Arr2_54.mk x0.fChannel 999),(Arr2_54.mk x0.fPart 64),(Arr2_54.mk x0.fUniverse 8),(Arr2_54.mk x0.fAddress 512),(Arr2_54.mk x0.fPhase 3)]).length:Nat):Int))) 20 (.sl 2 true (([(Arr2_54.mk x0.fChannel 999),(Arr2_54.mk x0.fPart 64),(Arr2_54.mk x0.fUniverse 8),(Arr2_54.mk x0.fAddress 512),(Arr2_54.mk x0.fPhase 3)]).map eArr2_54)),[]⟩
theorem f198_L1c(x0:ApiFixture)(x1:Int):(f198_L1 x0).cst x1=⟨put (put (put (fun _=>.junk) 22 (.int .i64 x1)) 21 (.int .i64 ((([(Arr2_54.mk x0.fChannel 999),(Arr2_54.mk x0.fPart 64),(Arr2_54.mk x0.fUniverse 8),(Arr2_54.mk x0.fAddress 512),(Arr2_54.mk x0.fPhase 3)]).length:Nat):Int))) 20 (.sl 2 true (([(Arr2_54.mk x0.fChannel 999),(Arr2_54.mk x0.fPart 64),(Arr2_54.mk x0.fUniverse 8),(Arr2_54.mk x0.fAddress 512),(Arr2_54.mk x0.fPhase 3)]).map eArr2_54)),[]⟩:=rfl
def c198_1:C:=.seq (.reg [iI 26 (.aiaddr 0 2 (.t 4) (.c (.int .i64 0))),iI 27 (.load 0 (.t 26)),iI 28 (.bin .lss (.t 27) (.c (.int .i64 1))),iI 29 (.mv (.t 28)),iG (some 30) 29 false (.aiaddr 0 2 (.t 4) (.c (.int .i64 0))),iG (some 31) 29 false (.load 0 (.t 30)),iG (some 32) 29 false (.aiaddr 0 2 (.t 4) (.c (.int .i64 1))),iG (some 33) 29 false (.load 0 (.t 32)),iG (some 34) 29 false (.bin .gtr (.t 31) (.t 33)),iI 35 (.pick (.t 29) (.c (.bool true)) (.t 34))]) (.cond (.t 35) (.seq (.reg [iI 2 (.mv (.c (.bool false)))]) .ret) (.skip))
def c198_3:C:=.seq (.block 1 (.seq (.reg [iI 24 (.iaddr 2 (.t 20) (.t 22)),iI 25 (.load 2 (.t 24)),iI 4 (.alloc [(2,(.int .i64 0))]),iN (.store 2 (.t 4) (.t 25))]) c198_1)) (.reg [iI 36 (.bin .add (.t 22) (.c (.int .i64 1))),iI 22 (.mv (.t 36))])
def c198_7:C:=.seq (.seq (.reg [iI 5 (.faddr 0 (.t 1)),iI 6 (.load 0 (.t 5)),iI 7 (.build [(2,(.int .i64 0))] [(0,0,(.t 6)),(1,0,(.c (.int .i64 999)))]),iI 8 (.faddr 1 (.t 1)),iI 9 (.load 0 (.t 8)),iI 10 (.build [(2,(.int .i64 0))] [(0,0,(.t 9)),(1,0,(.c (.int .i64 64)))]),iI 11 (.faddr 3 (.t 1)),iI 12 (.load 0 (.t 11)),iI 13 (.build [(2,(.int .i64 0))] [(0,0,(.t 12)),(1,0,(.c (.int .i64 8)))]),iI 14 (.faddr 4 (.t 1)),iI 15 (.load 0 (.t 14)),iI 16 (.build [(2,(.int .i64 0))] [(0,0,(.t 15)),(1,0,(.c (.int .i64 512)))]),iI 17 (.faddr 5 (.t 1)),iI 18 (.load 0 (.t 17)),iI 19 (.build [(2,(.int .i64 0))] [(0,0,(.t 18)),(1,0,(.c (.int .i64 3)))]),iI 20 (.mksl 2 5 (.agg [(.int .i64 0),(.int .i64 0)]) [(0,(.t 7)),(1,(.t 10)),(2,(.t 13)),(3,(.t 16)),(4,(.t 19))]),iI 21 (.len 0 (.t 20)),iI 22 (.mv (.c (.int .i64 0)))]) (.block 0 (.loop (.seq (.reg [iI 23 (.bin .lss (.t 22) (.t 21))]) (.seq (.cond (.t 23) (.skip) (.exit 0)) c198_3))))) (.seq (.reg [iI 2 (.mv (.c (.bool true)))]) .ret)
def ir198:C:=.seq (.reg [iI 1 (.box (.t 0)),iI 2 (.mv (.c (.bool false)))]) c198_7
theorem fd198:fd? Tryz.prog 198=some (37,[.slot 2],ir198):=by kernel_rfl
def f198(x0:ApiFixture):Option (Bool) :=
  ((Lp.run (f198_L1 x0) 0).bind fun r_=>match r_ with | (Sum.inl _)=>(some true) | (Sum.inr _)=>(some false))
theorem f198_ok{x0:ApiFixture}{r_:Bool}(H:f198 x0=some r_):Pure Tryz.prog 198 [.agg [.int .i64 x0.fChannel,.int .i64 x0.fPart,.str x0.fProfile,.int .i64 x0.fUniverse,.int .i64 x0.fAddress,.int .i64 x0.fPhase,.str x0.fCable]] (· = .bool r_):=by
 refine w3 fd198 fun Q hQ=>?_
 simp only[f198] at H
 refine zr ?_
 refine zq (zr ?_)
 refine zd ?_
 refine zU H [] [20,21,22] (f198_L1c ..) ?_<;>clear H
 rintro x1 x_ st0_ H hst_
 rw[f198_L1c] at hst_
 simp only[f198_L1] at H
 subst hst_
 refine zr ?_
 refine zq (ic H ?_ ?_)<;>clear H<;>intro H
 ·refine zk (zm (zb (zr ?_)))
  refine ia eArr2_54 H ?_<;>clear H<;>intro x2 H
  refine zE7 ?_
  refine zr ?_
  refine evTs_any (v:=.ptr 0 0) rfl (by rfl) ?_
  refine zs ?_
  refine ig H ?_ ?_<;>clear H<;>intro H
  ·refine zs ?_
   refine za (zr ?_)
   refine zt (zp (loopQ.ret H ?_))<;>clear H<;>intro H
   try dsimp only at H
   cases H
   exact zh (zv (zf hQ))
  ·refine zs ?_
   refine evTs_any (v:=.ptr 0 0) rfl (by rfl) ?_
   refine zs ?_
   refine evTs_any (v:=.ptr 0 1) rfl (by rfl) ?_
   refine zs ?_
   refine ic H ?_ ?_<;>clear H<;>intro H
   ·refine zr ?_
    refine zt (zp (loopQ.ret H ?_))<;>clear H<;>intro H
    try dsimp only at H
    cases H
    exact zh (zv (zf hQ))
   ·refine zk (zo (ze ?_))
    exact zu H [] [20,21,22] (f198_L1c ..)
 ·refine zx (zy (loopQ.exit H ?_))<;>clear H<;>intro H
  try dsimp only at H
  refine zi (zm (zr ?_))
  cases H
  exact zt (zf hQ)
def f199_L1(x0:(List UInt8)):Lp (Int) ((Unit)⊕(Unit)) where
  body:=fun x1=>(if (decide (x1<(((b2i x0).length:Nat):Int)))=true then (at? (b2i x0) x1).bind fun x2=>(if (decide (97≤x2))=true then (if (!(decide (x2≤122)))=true then (if (decide (x1=0))=true then (some (.brk (Sum.inr ()))) else (if (decide (x2≠95))=true then (if (decide (x2<48))=true then (some (.brk (Sum.inr ()))) else (if (decide (57<x2))=true then (some (.brk (Sum.inr ()))) else (some (.next (IntKind.i64.wrap (x1 + 1)))))) else (some (.next (IntKind.i64.wrap (x1 + 1)))))) else (some (.next (IntKind.i64.wrap (x1 + 1))))) else (if (decide (x1=0))=true then (some (.brk (Sum.inr ()))) else (if (decide (x2≠95))=true then (if (decide (x2<48))=true then (some (.brk (Sum.inr ()))) else (if (decide (57<x2))=true then (some (.brk (Sum.inr ()))) else (some (.next (IntKind.i64.wrap (x1 + 1)))))) else (some (.next (IntKind.i64.wrap (x1 + 1))))))) else (some (.brk (Sum.inl ()))))
  cst:=fun x1=>⟨put (put (put (put (fun _=>.junk) 9 (.int .i64 x1)) 8 (.int .i64 (((b2i x0).length:Nat):Int))) 7 (.row 0 0 0 (b2i x0).length)) 0 (.str x0),[.els 0 ((b2i x0).map (AV.int .u8))]⟩
theorem f199_L1c(x0:(List UInt8))(x1:Int):(f199_L1 x0).cst x1=⟨put (put (put (put (fun _=>.junk) 9 (.int .i64 x1)) 8 (.int .i64 (((b2i x0).length:Nat):Int))) 7 (.row 0 0 0 (b2i x0).length)) 0 (.str x0),[.els 0 ((b2i x0).map (AV.int .u8))]⟩:=rfl
def c199_1:C:=.seq (.reg [iI 20 (.mv (.t 5)),iI 21 (.un .not (.t 20)),iI 22 (.mv (.t 21)),iG (some 23) 22 true (.mv (.t 3)),iG (some 24) 22 true (.bin .eql (.t 23) (.c (.int .i64 0))),iG (some 25) 22 true (.mv (.t 24)),iG (some 26) 25 false (.mv (.t 4)),iG (some 27) 25 false (.bin .neq (.t 26) (.c (.int .u8 95))),iG (some 28) 25 false (.mv (.t 27)),iG (some 29) 28 true (.mv (.t 4)),iG (some 30) 28 true (.bin .lss (.t 29) (.c (.int .u8 48))),iG (some 31) 28 true (.mv (.t 30)),iG (some 32) 31 false (.mv (.t 4)),iG (some 33) 31 false (.bin .gtr (.t 32) (.c (.int .u8 57))),iG (some 34) 28 true (.pick (.t 31) (.c (.bool true)) (.t 33)),iG (some 35) 25 false (.pick (.t 28) (.t 34) (.c (.bool false))),iG (some 36) 22 true (.pick (.t 25) (.c (.bool true)) (.t 35)),iI 37 (.pick (.t 22) (.t 36) (.c (.bool false)))]) (.cond (.t 37) (.seq (.reg [iI 2 (.mv (.c (.bool false)))]) .ret) (.skip))
def c199_2:C:=.seq (.reg [iI 14 (.mv (.t 4)),iI 15 (.bin .geq (.t 14) (.c (.int .u8 97))),iI 16 (.mv (.t 15)),iG (some 17) 16 true (.mv (.t 4)),iG (some 18) 16 true (.bin .leq (.t 17) (.c (.int .u8 122))),iI 19 (.pick (.t 16) (.t 18) (.c (.bool false))),iI 5 (.mv (.t 19))]) c199_1
def c199_4:C:=.seq (.block 1 (.seq (.reg [iI 11 (.mv (.t 9)),iI 12 (.iaddr 0 (.t 7) (.t 9)),iI 13 (.load 0 (.t 12)),iI 3 (.mv (.t 11)),iI 4 (.mv (.t 13))]) c199_2)) (.reg [iI 38 (.bin .add (.t 9) (.c (.int .i64 1))),iI 9 (.mv (.t 38))])
def c199_7:C:=.seq (.reg [iI 39 (.mv (.t 0)),iI 40 (.bin .neq (.t 39) (.c (.str []))),iI 41 (.mv (.t 40)),iG (some 42) 41 true (.mv (.t 0)),iG (some 43) 41 true (.len 1 (.t 42)),iG (some 44) 41 true (.bin .leq (.t 43) (.c (.int .i64 24))),iI 45 (.pick (.t 41) (.t 44) (.c (.bool false))),iI 2 (.mv (.t 45))]) .ret
def c199_8:C:=.seq (.seq (.reg [iI 6 (.mv (.t 0)),iI 7 (.cbytes (.t 6)),iI 8 (.len 0 (.t 7)),iI 9 (.mv (.c (.int .i64 0)))]) (.block 0 (.loop (.seq (.reg [iI 10 (.bin .lss (.t 9) (.t 8))]) (.seq (.cond (.t 10) (.skip) (.exit 0)) c199_4))))) c199_7
def ir199:C:=.seq (.reg [iI 2 (.mv (.c (.bool false)))]) c199_8
theorem fd199:fd? Tryz.prog 199=some (46,[.slot 2],ir199):=by kernel_rfl
def f199(x0:(List UInt8)):Option (Bool) :=
  (room? x0.length).bind fun _=>((Lp.run (f199_L1 x0) 0).bind fun r_=>match r_ with | (Sum.inl _)=>(if (!(x0 == ([])))=true then (some (decide (((x0.length:Nat):Int)≤24))) else (some false)) | (Sum.inr _)=>(some false))
theorem f199_ok{x0:(List UInt8)}{r_:Bool}(H:f199 x0=some r_):Pure Tryz.prog 199 [.str x0] (· = .bool r_):=by
 refine w3 fd199 fun Q hQ=>?_
 simp only[f199] at H
 refine zr ?_
 refine zq (zr ?_)
 refine evTs_cbytes H (by rfl) ?_<;>clear H<;>intro H
 refine zs ?_
 refine zd ?_
 refine zU H [0] [0,7,8,9] (f199_L1c ..) ?_<;>clear H
 rintro x1 x_ st0_ H hst_
 rw[f199_L1c] at hst_
 simp only[f199_L1] at H
 subst hst_
 refine zr ?_
 refine zq (ic H ?_ ?_)<;>clear H<;>intro H
 ·refine zk (zm (zb (zr ?_)))
  refine evTs_atr (enc:=(AV.int .u8)) H (by rfl) (by first | rfl | simp only[List.length_set]) (by rfl) ?_<;>clear H<;>intro x2 x3 H
  try simp only[wm,↓wk,↓wl,nq,evV,↓reduceIte,sevalprocAttr,x3]
  refine AW.rseq ?_
  try simp only[wm,↓wk,↓wl,nq,evV,↓reduceIte,sevalprocAttr,x3]
  refine ig H ?_ ?_<;>clear H<;>intro H
  ·try simp only[wm,↓wk,↓wl,nq,evV,↓reduceIte,sevalprocAttr,x3]
   refine AW.rseq ?_
   try simp only[wm,↓wk,↓wl,nq,evV,↓reduceIte,sevalprocAttr,x3]
   refine ig H ?_ ?_<;>clear H<;>intro H
   ·try simp only[wm,↓wk,↓wl,nq,evV,↓reduceIte,sevalprocAttr,x3]
    refine ig H ?_ ?_<;>clear H<;>intro H
    ·try simp only[wm,↓wk,↓wl,nq,evV,↓reduceIte,sevalprocAttr,x3]
     refine za (AW.rseq ?_)
     try simp only[wm,↓wk,↓wl,nq,evV,↓reduceIte,sevalprocAttr,x3]
     refine zt (zp (loopQ.ret H ?_))<;>clear H<;>intro H
     try dsimp only at H
     refine zh (zv ?_)
     cases H
     exact hQ _ _ _ _ (.inr rfl) (by simp only[resVs,omap,resV,wm,↓wk,↓wl,nq,evV,↓reduceIte,sevalprocAttr,x3];rfl) (hand_plain (by rfl)) (by first | exact Or.inl rfl | exact Or.inr rfl)
    ·try simp only[wm,↓wk,↓wl,nq,evV,↓reduceIte,sevalprocAttr,x3]
     refine ig H ?_ ?_<;>clear H<;>intro H
     ·try simp only[wm,↓wk,↓wl,nq,evV,↓reduceIte,sevalprocAttr,x3]
      refine ig H ?_ ?_<;>clear H<;>intro H
      ·try simp only[wm,↓wk,↓wl,nq,evV,↓reduceIte,sevalprocAttr,x3]
       refine za (AW.rseq ?_)
       try simp only[wm,↓wk,↓wl,nq,evV,↓reduceIte,sevalprocAttr,x3]
       refine zt (zp (loopQ.ret H ?_))<;>clear H<;>intro H
       try dsimp only at H
       refine zh (zv ?_)
       cases H
       exact hQ _ _ _ _ (.inr rfl) (by simp only[resVs,omap,resV,wm,↓wk,↓wl,nq,evV,↓reduceIte,sevalprocAttr,x3];rfl) (hand_plain (by rfl)) (by first | exact Or.inl rfl | exact Or.inr rfl)
      ·try simp only[wm,↓wk,↓wl,nq,evV,↓reduceIte,sevalprocAttr,x3]
       refine ic H ?_ ?_<;>clear H<;>intro H
       ·refine AW.rseq ?_
        try simp only[wm,↓wk,↓wl,nq,evV,↓reduceIte,sevalprocAttr,x3]
        refine zt (zp (loopQ.ret H ?_))<;>clear H<;>intro H
        try dsimp only at H
        refine zh (zv ?_)
        cases H
        exact hQ _ _ _ _ (.inr rfl) (by simp only[resVs,omap,resV,wm,↓wk,↓wl,nq,evV,↓reduceIte,sevalprocAttr,x3];rfl) (hand_plain (by rfl)) (by first | exact Or.inl rfl | exact Or.inr rfl)
       ·refine zk (zo (AW.rend ?_))
        try simp only[wm,↓wk,↓wl,nq,evV,↓reduceIte,sevalprocAttr,x3]
        exact loopQ.next H ((Le.tz [0] [0,7,8,9] (by simp only[f199_L1c,wm,wmr,rrm,↓wk,↓wl,evV,↓reduceIte,sevalprocAttr,x3]<;>rfl)))
     ·try simp only[wm,↓wk,↓wl,nq,evV,↓reduceIte,sevalprocAttr,x3]
      refine zc (zk (zo (AW.rend ?_)))
      try simp only[wm,↓wk,↓wl,nq,evV,↓reduceIte,sevalprocAttr,x3]
      exact loopQ.next H ((Le.tz [0] [0,7,8,9] (by simp only[f199_L1c,wm,wmr,rrm,↓wk,↓wl,evV,↓reduceIte,sevalprocAttr,x3]<;>rfl)))
   ·try simp only[wm,↓wk,↓wl,nq,evV,↓reduceIte,sevalprocAttr,x3]
    refine zc (zk (zo (AW.rend ?_)))
    try simp only[wm,↓wk,↓wl,nq,evV,↓reduceIte,sevalprocAttr,x3]
    exact loopQ.next H ((Le.tz [0] [0,7,8,9] (by simp only[f199_L1c,wm,wmr,rrm,↓wk,↓wl,evV,↓reduceIte,sevalprocAttr,x3]<;>rfl)))
  ·try simp only[wm,↓wk,↓wl,nq,evV,↓reduceIte,sevalprocAttr,x3]
   refine AW.rseq ?_
   try simp only[wm,↓wk,↓wl,nq,evV,↓reduceIte,sevalprocAttr,x3]
   refine ig H ?_ ?_<;>clear H<;>intro H
   ·try simp only[wm,↓wk,↓wl,nq,evV,↓reduceIte,sevalprocAttr,x3]
    refine za (AW.rseq ?_)
    try simp only[wm,↓wk,↓wl,nq,evV,↓reduceIte,sevalprocAttr,x3]
    refine zt (zp (loopQ.ret H ?_))<;>clear H<;>intro H
    try dsimp only at H
    refine zh (zv ?_)
    cases H
    exact hQ _ _ _ _ (.inr rfl) (by simp only[resVs,omap,resV,wm,↓wk,↓wl,nq,evV,↓reduceIte,sevalprocAttr,x3];rfl) (hand_plain (by rfl)) (by first | exact Or.inl rfl | exact Or.inr rfl)
   ·try simp only[wm,↓wk,↓wl,nq,evV,↓reduceIte,sevalprocAttr,x3]
    refine ig H ?_ ?_<;>clear H<;>intro H
    ·try simp only[wm,↓wk,↓wl,nq,evV,↓reduceIte,sevalprocAttr,x3]
     refine ig H ?_ ?_<;>clear H<;>intro H
     ·try simp only[wm,↓wk,↓wl,nq,evV,↓reduceIte,sevalprocAttr,x3]
      refine za (AW.rseq ?_)
      try simp only[wm,↓wk,↓wl,nq,evV,↓reduceIte,sevalprocAttr,x3]
      refine zt (zp (loopQ.ret H ?_))<;>clear H<;>intro H
      try dsimp only at H
      refine zh (zv ?_)
      cases H
      exact hQ _ _ _ _ (.inr rfl) (by simp only[resVs,omap,resV,wm,↓wk,↓wl,nq,evV,↓reduceIte,sevalprocAttr,x3];rfl) (hand_plain (by rfl)) (by first | exact Or.inl rfl | exact Or.inr rfl)
     ·try simp only[wm,↓wk,↓wl,nq,evV,↓reduceIte,sevalprocAttr,x3]
      refine ic H ?_ ?_<;>clear H<;>intro H
      ·refine AW.rseq ?_
       try simp only[wm,↓wk,↓wl,nq,evV,↓reduceIte,sevalprocAttr,x3]
       refine zt (zp (loopQ.ret H ?_))<;>clear H<;>intro H
       try dsimp only at H
       refine zh (zv ?_)
       cases H
       exact hQ _ _ _ _ (.inr rfl) (by simp only[resVs,omap,resV,wm,↓wk,↓wl,nq,evV,↓reduceIte,sevalprocAttr,x3];rfl) (hand_plain (by rfl)) (by first | exact Or.inl rfl | exact Or.inr rfl)
      ·refine zk (zo (AW.rend ?_))
       try simp only[wm,↓wk,↓wl,nq,evV,↓reduceIte,sevalprocAttr,x3]
       exact loopQ.next H ((Le.tz [0] [0,7,8,9] (by simp only[f199_L1c,wm,wmr,rrm,↓wk,↓wl,evV,↓reduceIte,sevalprocAttr,x3]<;>rfl)))
    ·try simp only[wm,↓wk,↓wl,nq,evV,↓reduceIte,sevalprocAttr,x3]
     refine zc (zk (zo (AW.rend ?_)))
     try simp only[wm,↓wk,↓wl,nq,evV,↓reduceIte,sevalprocAttr,x3]
     exact loopQ.next H ((Le.tz [0] [0,7,8,9] (by simp only[f199_L1c,wm,wmr,rrm,↓wk,↓wl,evV,↓reduceIte,sevalprocAttr,x3]<;>rfl)))
 ·refine zx (zy (loopQ.exit H ?_))<;>clear H<;>intro H
  try dsimp only at H
  refine zi (zm (zr ?_))
  refine ig H ?_ ?_<;>clear H<;>intro H
  ·refine zs ?_
   cases H
   exact zt (zf hQ)
  ·refine zs ?_
   cases H
   exact zt (zf hQ)
def c229_0:C:=.seq (.reg [iI 5 (.faddr 0 (.t 3)),iI 6 (.load 0 (.t 5)),iI 7 (.load 0 (.t 1)),iI 8 (.bin .eql (.t 6) (.t 7)),iI 9 (.mv (.t 8)),iG (some 10) 9 true (.faddr 1 (.t 3)),iG (some 11) 9 true (.load 0 (.t 10)),iG (some 12) 9 true (.load 0 (.t 2)),iG (some 13) 9 true (.bin .eql (.t 11) (.t 12)),iI 14 (.pick (.t 9) (.t 13) (.c (.bool false))),iI 4 (.mv (.t 14))]) .ret
def ir229:C:=.seq (.reg [iI 3 (.box (.t 0)),iI 4 (.mv (.c (.bool false)))]) c229_0
theorem fd229:fd? Tryz.prog 229=some (15,[.slot 4],ir229):=by kernel_rfl
def f229p(x0:ApiFixture)(x1:Int)(x2:Int):Option (Bool) :=
  (if (decide (x0.fChannel=x1))=true then (some (decide (x0.fPart=x2))) else (some false))
theorem f229p_ok{x0:ApiFixture}{x1:Int}{x2:Int}{r_:Bool}(H:f229p x0 x1 x2=some r_):Pure Tryz.prog 229 [.agg [.int .i64 x0.fChannel,.int .i64 x0.fPart,.str x0.fProfile,.int .i64 x0.fUniverse,.int .i64 x0.fAddress,.int .i64 x0.fPhase,.str x0.fCable],.pro [.int .i64 x1],.pro [.int .i64 x2]] (· = .bool r_):=by
 refine w3 fd229 fun Q hQ=>?_
 simp only[f229p] at H
 refine zr ?_
 refine zr ?_
 refine ig H ?_ ?_<;>clear H<;>intro H
 ·refine zs ?_
  cases H
  exact zt (zf hQ)
 ·refine zs ?_
  cases H
  exact zt (zf hQ)
def f228_229_L1(x0:(List ApiFixture))(x1:Int)(x2:Int):Lp (Int) ((Unit)⊕(Int)) where
  body:=fun x3=>(if (decide (x3<((x0.length:Nat):Int)))=true then (at? x0 x3).bind fun x4=>(f229p x4 x1 x2).bind fun x5=>(if x5=true then (some (.brk (Sum.inr x3))) else (some (.next (IntKind.i64.wrap (x3 + 1))))) else (some (.brk (Sum.inl ()))))
  cst:=fun x3=>⟨put (put (put (put (fun _=>.junk) 8 (.int .i64 x3)) 7 (.int .i64 ((x0.length:Nat):Int))) 1 (.fn 229 [.pro [.int .i64 x1],.pro [.int .i64 x2]])) 0 (.sl 7 false (x0.map eApiFixture)),[]⟩
theorem f228_229_L1c(x0:(List ApiFixture))(x1:Int)(x2:Int)(x3:Int):(f228_229_L1 x0 x1 x2).cst x3=⟨put (put (put (put (fun _=>.junk) 8 (.int .i64 x3)) 7 (.int .i64 ((x0.length:Nat):Int))) 1 (.fn 229 [.pro [.int .i64 x1],.pro [.int .i64 x2]])) 0 (.sl 7 false (x0.map eApiFixture)),[]⟩:=rfl
def c228_1:C:=.seq (.reg [iI 11 (.mv (.t 1)),iI 12 (.mv (.t 0)),iI 13 (.mv (.t 5)),iI 14 (.iaddr 7 (.t 12) (.t 13)),iI 15 (.load 7 (.t 14)),iI 16 (.call (.t 11) [(.t 15)])]) (.cond (.t 16) (.seq (.reg [iI 17 (.mv (.t 5)),iI 4 (.mv (.t 17))]) .ret) (.skip))
def c228_4:C:=.seq (.cond (.t 9) (.skip) (.exit 0)) (.seq (.block 1 (.seq (.reg [iI 10 (.mv (.t 8)),iI 5 (.mv (.t 10))]) c228_1)) (.reg [iI 18 (.bin .add (.t 8) (.c (.int .i64 1))),iI 8 (.mv (.t 18))]))
def c228_7:C:=.seq (.seq (.reg [iI 6 (.mv (.t 0)),iI 7 (.len 0 (.t 6)),iI 8 (.mv (.c (.int .i64 0)))]) (.block 0 (.loop (.seq (.reg [iI 9 (.bin .lss (.t 8) (.t 7))]) c228_4)))) (.seq (.reg [iI 4 (.mv (.c (.int .i64 (-1))))]) .ret)
def ir228:C:=.seq (.reg [iI 4 (.mv (.c (.int .i64 0)))]) c228_7
theorem fd228:fd? Tryz.prog 228=some (19,[.slot 4],ir228):=by kernel_rfl
def f228_229(x0:(List ApiFixture))(x1:Int)(x2:Int):Option (Int) :=
  ((Lp.run (f228_229_L1 x0 x1 x2) 0).bind fun r_=>match r_ with | (Sum.inl _)=>(some (-1)) | (Sum.inr x3)=>(some x3))
theorem f228_229_ok{x0:(List ApiFixture)}{x1:Int}{x2:Int}{r_:Int}(H:f228_229 x0 x1 x2=some r_):Pure Tryz.prog 228 [.sl 7 false (x0.map eApiFixture),.fn 229 [.pro [.int .i64 x1],.pro [.int .i64 x2]]] (· = .int .i64 r_):=by
 refine w3 fd228 fun Q hQ=>?_
 simp only[f228_229] at H
 refine zr ?_
 refine zq (zr ?_)
 refine zd ?_
 refine zU H [] [0,1,7,8] (f228_229_L1c ..) ?_<;>clear H
 rintro x3 x_ st0_ H hst_
 rw[f228_229_L1c] at hst_
 simp only[f228_229_L1] at H
 subst hst_
 refine zr ?_
 refine zq (ic H ?_ ?_)<;>clear H<;>intro H
 ·refine zk (zm (zb (zr ?_)))
  refine zr ?_
  refine ia eApiFixture H ?_<;>clear H<;>intro x4 H
  refine zE8 ?_
  refine pu H f229p_ok ?_<;>clear H<;>intro x5 H
  refine zE0 ?_
  refine ic H ?_ ?_<;>clear H<;>intro H
  ·refine zr ?_
   refine zt (zp (loopQ.ret H ?_))<;>clear H<;>intro H
   try dsimp only at H
   cases H
   exact zh (zv (zf hQ))
  ·refine zk (zo (ze ?_))
   exact zu H [] [0,1,7,8] (f228_229_L1c ..)
 ·refine zx (zy (loopQ.exit H ?_))<;>clear H<;>intro H
  try dsimp only at H
  refine zi (zm (zr ?_))
  cases H
  exact zt (zf hQ)
def c200_0:C:=.seq (.reg [iI 7 (.faddr 0 (.t 3)),iI 8 (.load 0 (.t 7)),iI 9 (.mkfn 229 [(.t 4),(.t 5)]),iI 10 (.call (.c (.fn 228 [])) [(.t 8),(.t 9)]),iI 6 (.mv (.t 10))]) .ret
def ir200:C:=.seq (.reg [iI 3 (.box (.t 0)),iI 4 (.box (.t 1)),iI 5 (.box (.t 2)),iI 6 (.mv (.c (.int .i64 0)))]) c200_0
theorem fd200:fd? Tryz.prog 200=some (11,[.slot 6],ir200):=by kernel_rfl
def f200(x0:PatchRig)(x1:Int)(x2:Int):Option (Int) :=
  (f228_229 x0.fFixtures x1 x2).bind fun x3=>(some x3)
theorem f200_ok{x0:PatchRig}{x1:Int}{x2:Int}{r_:Int}(H:f200 x0 x1 x2=some r_):Pure Tryz.prog 200 [.agg [.sl 7 false (x0.fFixtures.map eApiFixture),.mp (mk AV.str x0.fProfiles) (mv eApiProfile x0.fProfiles)],.int .i64 x1,.int .i64 x2] (· = .int .i64 r_):=by
 refine w3 fd200 fun Q hQ=>?_
 simp only[f200] at H
 refine zr ?_
 refine zr ?_
 refine evTs_flat hFn H (fun _ h=>f228_229_ok h) (by rfl) (by rfl) (by simp only[deep_eq,imm_simps,imm_rowE,imm_ptrE,imm_enc,imm_mrefE,imm_mpE,imm_arowE,omap_simps,take_map_len,take_map_set,take_map_set2,List.length_set,le_refl_true,Nat.zero_add,and_true,true_and,List.drop_zero,Option.map_some,wm,↓wk,↓wl,nq,evV,↓reduceIte,sevalprocAttr];rfl) (by rfl) (fun _=>rfl) (fun _=>rfl) ?_<;>clear H<;>intro x3 H
 refine zE0 ?_
 cases H
 exact zt (zf hQ)
def c230_0:C:=.seq (.reg [iI 5 (.faddr 1 (.t 2)),iI 6 (.load 0 (.t 5)),iI 7 (.faddr 2 (.t 3)),iI 8 (.load 0 (.t 7)),iI 9 (.lookup 1 (.agg [(.str []),(.int .i64 0),(.int .i64 0),(.sl 10 true [])]) false (.t 6) (.t 8)),iI 10 (.fld 1 0 (.t 9)),iI 4 (.mv (.t 10))]) .ret
def ir230:C:=.seq (.reg [iI 2 (.box (.t 0)),iI 3 (.box (.t 1)),iI 4 (.mv (.c (.int .i64 0)))]) c230_0
theorem fd230:fd? Tryz.prog 230=some (11,[.slot 4],ir230):=by kernel_rfl
def f230(x0:PatchRig)(x1:ApiFixture):Option (Int) :=
  (look? (x0.fProfiles:(List ((List UInt8)×ApiProfile))) x1.fProfile ((ApiProfile.mk ([]) 0 0 ([])):ApiProfile) fun x2 x3=>(some x2.fFootprint))
theorem f230_ok{x0:PatchRig}{x1:ApiFixture}{r_:Int}(H:f230 x0 x1=some r_):Pure Tryz.prog 230 [.agg [.sl 7 false (x0.fFixtures.map eApiFixture),.mp (mk AV.str x0.fProfiles) (mv eApiProfile x0.fProfiles)],.agg [.int .i64 x1.fChannel,.int .i64 x1.fPart,.str x1.fProfile,.int .i64 x1.fUniverse,.int .i64 x1.fAddress,.int .i64 x1.fPhase,.str x1.fCable]] (· = .int .i64 r_):=by
 refine w3 fd230 fun Q hQ=>?_
 simp only[f230] at H
 refine zr ?_
 refine zr ?_
 refine evTs_lookP (ek:=AV.str) (ev:=eApiProfile) H false (by rfl) (by rfl) (by rfl) ?_<;>clear H<;>intro x2 x3 H
 refine zE6 ?_
 cases H
 exact zt (zf hQ)
def f201_L2(x0:Int)(x1:ApiFixture)(x2:Int)(x3:PatchRig)(x4:Int)(x5:(List Int)):Lp (Int×(List Int)) ((List Int)) where
  body:=fun (x6,x7)=>(if (decide (x6<x0))=true then (arr? 513 x7 (IntKind.i64.wrap (x1.fAddress + x6))).bind fun x8=>(some (.next ((IntKind.i64.wrap (x6 + 1)),(x7.set (IntKind.i64.wrap (x1.fAddress + x6)).toNat (IntKind.i64.wrap (x2 + 1)))))) else (some (.brk x7)))
  cst:=fun (x6,x7)=>⟨put (put (put (put (put (put (put (put (put (put (put (fun _=>.junk) 24 (.int .i64 x6)) 23 (.int .i64 x0)) 12 (.int .i64 x2)) 11 (.int .i64 ((x3.fFixtures.length:Nat):Int))) 10 (.sl 7 false (x3.fFixtures.map eApiFixture))) 7 (.ptr 3 0)) 6 (.int .i64 x2)) 5 (.ptr 2 0)) 4 (.ptr 1 0)) 2 (.ptr 0 0)) 1 (.int .i64 x4),[.cel [.sl 7 false (x3.fFixtures.map eApiFixture),.mp (mk AV.str x3.fProfiles) (mv eApiProfile x3.fProfiles)],.cel (x5.map (AV.int .i64)),.cel (x7.map (AV.int .i64)),.cel [.int .i64 x1.fChannel,.int .i64 x1.fPart,.str x1.fProfile,.int .i64 x1.fUniverse,.int .i64 x1.fAddress,.int .i64 x1.fPhase,.str x1.fCable]]⟩
theorem f201_L2c(x0:Int)(x1:ApiFixture)(x2:Int)(x3:PatchRig)(x4:Int)(x5:(List Int))(x6:Int)(x7:(List Int)):(f201_L2 x0 x1 x2 x3 x4 x5).cst (x6,x7)=⟨put (put (put (put (put (put (put (put (put (put (put (fun _=>.junk) 24 (.int .i64 x6)) 23 (.int .i64 x0)) 12 (.int .i64 x2)) 11 (.int .i64 ((x3.fFixtures.length:Nat):Int))) 10 (.sl 7 false (x3.fFixtures.map eApiFixture))) 7 (.ptr 3 0)) 6 (.int .i64 x2)) 5 (.ptr 2 0)) 4 (.ptr 1 0)) 2 (.ptr 0 0)) 1 (.int .i64 x4),[.cel [.sl 7 false (x3.fFixtures.map eApiFixture),.mp (mk AV.str x3.fProfiles) (mv eApiProfile x3.fProfiles)],.cel (x5.map (AV.int .i64)),.cel (x7.map (AV.int .i64)),.cel [.int .i64 x1.fChannel,.int .i64 x1.fPart,.str x1.fProfile,.int .i64 x1.fUniverse,.int .i64 x1.fAddress,.int .i64 x1.fPhase,.str x1.fCable]]⟩:=rfl
def f201_L1(x0:PatchRig)(x1:Int)(x2:(List Int)):Lp (Int×(List Int)) ((List Int)) where
  body:=fun (x3,x4)=>(if (decide (x3<((x0.fFixtures.length:Nat):Int)))=true then (at? x0.fFixtures x3).bind fun x5=>(if (decide (x5.fUniverse≠x1))=true then (some (.next ((IntKind.i64.wrap (x3 + 1)),x4))) else (f230 x0 x5).bind fun x6=>(Lp.run (f201_L2 x6 x5 x3 x0 x1 x2) (0,x4)).bind fun x7=>(some (.next ((IntKind.i64.wrap (x3 + 1)),x7)))) else (some (.brk x4)))
  cst:=fun (x3,x4)=>⟨put (put (put (put (put (put (put (fun _=>.junk) 12 (.int .i64 x3)) 11 (.int .i64 ((x0.fFixtures.length:Nat):Int))) 10 (.sl 7 false (x0.fFixtures.map eApiFixture))) 5 (.ptr 2 0)) 4 (.ptr 1 0)) 2 (.ptr 0 0)) 1 (.int .i64 x1),[.cel [.sl 7 false (x0.fFixtures.map eApiFixture),.mp (mk AV.str x0.fProfiles) (mv eApiProfile x0.fProfiles)],.cel (x2.map (AV.int .i64)),.cel (x4.map (AV.int .i64))]⟩
theorem f201_L1c(x0:PatchRig)(x1:Int)(x2:(List Int))(x3:Int)(x4:(List Int)):(f201_L1 x0 x1 x2).cst (x3,x4)=⟨put (put (put (put (put (put (put (fun _=>.junk) 12 (.int .i64 x3)) 11 (.int .i64 ((x0.fFixtures.length:Nat):Int))) 10 (.sl 7 false (x0.fFixtures.map eApiFixture))) 5 (.ptr 2 0)) 4 (.ptr 1 0)) 2 (.ptr 0 0)) 1 (.int .i64 x1),[.cel [.sl 7 false (x0.fFixtures.map eApiFixture),.mp (mk AV.str x0.fProfiles) (mv eApiProfile x0.fProfiles)],.cel (x2.map (AV.int .i64)),.cel (x4.map (AV.int .i64))]⟩:=rfl
def c201_1:C:=.reg [iI 27 (.faddr 4 (.t 7)),iI 28 (.load 0 (.t 27)),iI 29 (.mv (.t 8)),iI 30 (.bin .add (.t 28) (.t 29)),iI 31 (.mv (.t 6)),iI 32 (.bin .add (.t 31) (.c (.int .i64 1))),iI 33 (.aiaddr 0 513 (.t 5) (.t 30)),iN (.store 0 (.t 33) (.t 32))]
def c201_4:C:=.seq (.cond (.t 25) (.skip) (.exit 2)) (.seq (.block 3 (.seq (.reg [iI 26 (.mv (.t 24)),iI 8 (.mv (.t 26))]) c201_1)) (.reg [iI 34 (.bin .add (.t 24) (.c (.int .i64 1))),iI 24 (.mv (.t 34))]))
def c201_6:C:=.seq (.reg [iI 21 (.load 2 (.t 2)),iI 22 (.load 7 (.t 7)),iI 23 (.call (.c (.fn 230 [])) [(.t 21),(.t 22)]),iI 24 (.mv (.c (.int .i64 0)))]) (.block 2 (.loop (.seq (.reg [iI 25 (.bin .lss (.t 24) (.t 23))]) c201_4)))
def c201_7:C:=.seq (.seq (.reg [iI 17 (.faddr 3 (.t 7)),iI 18 (.load 0 (.t 17)),iI 19 (.mv (.t 1)),iI 20 (.bin .neq (.t 18) (.t 19))]) (.cond (.t 20) (.exit 1) (.skip))) c201_6
def c201_9:C:=.seq (.block 1 (.seq (.reg [iI 14 (.mv (.t 12)),iI 15 (.iaddr 7 (.t 10) (.t 12)),iI 16 (.load 7 (.t 15)),iI 7 (.alloc [(1,(.int .i64 0)),(1,(.int .i64 0)),(1,(.str [])),(1,(.int .i64 0)),(1,(.int .i64 0)),(1,(.int .i64 0)),(1,(.str []))]),iI 6 (.mv (.t 14)),iN (.store 7 (.t 7) (.t 16))]) c201_7)) (.reg [iI 35 (.bin .add (.t 12) (.c (.int .i64 1))),iI 12 (.mv (.t 35))])
def c201_13:C:=.seq (.seq (.reg [iI 9 (.faddr 0 (.t 2)),iI 10 (.load 0 (.t 9)),iI 11 (.len 0 (.t 10)),iI 12 (.mv (.c (.int .i64 0)))]) (.block 0 (.loop (.seq (.reg [iI 13 (.bin .lss (.t 12) (.t 11))]) (.seq (.cond (.t 13) (.skip) (.exit 0)) c201_9))))) (.seq (.reg [iI 36 (.load 513 (.t 5)),iN (.store 513 (.t 4) (.t 36))]) .ret)
def ir201:C:=.seq (.reg [iI 2 (.box (.t 0)),iI 4 (.alloc [(513,(.int .i64 0))])]) (.seq (.reg [iI 5 (.alloc [(513,(.int .i64 0))])]) c201_13)
theorem fd201:fd? Tryz.prog 201=some (37,[.cell 4 513],ir201):=by kernel_rfl
def f201(x0:PatchRig)(x1:Int):Option ((List Int)) :=
  (arr0? 513 (0:Int)).bind fun x2=>(arr0? 513 (0:Int)).bind fun x3=>(Lp.run (f201_L1 x0 x1 x2) (0,x3)).bind fun x4=>(must? (x4.length=513)).bind fun _=>(must? (x2.length=513∧x4.length=513)).bind fun _=>((must? (x4.length=513)).bind fun _=>(some x4))
theorem f201_ok{x0:PatchRig}{x1:Int}{r_:(List Int)}(H:f201 x0 x1=some r_):Pure Tryz.prog 201 [.agg [.sl 7 false (x0.fFixtures.map eApiFixture),.mp (mk AV.str x0.fProfiles) (mv eApiProfile x0.fProfiles)],.int .i64 x1] (· = .agg (r_.map (AV.int .i64))):=by
 refine Pure.walk3 fd201 none (Nat.le_of_ble_eq_true rfl) (unr_eA _) fun Q hQ=>?_
 simp only[f201] at H
 refine zrn ?_
 refine zw ?_
 refine zz ?_
 refine evTs_arrn (enc:=(AV.int .i64)) H (by rfl) ?_<;>clear H<;>intro x2 H
 refine zz ?_
 refine zrn ?_
 refine evTs_arrn (enc:=(AV.int .i64)) H (by rfl) ?_<;>clear H<;>intro x3 H
 refine zz ?_
 refine zq (zrn ?_)
 refine zw ?_
 refine zz ?_
 refine zd ?_
 refine AW.iter H ((Le.tz [0,1,2] [1,2,4,5,10,11,12] (by simp only[f201_L1c,wm,wmr,rrm,↓wk,↓wl,evV,↓reduceIte,Nat.reduceEqDiff,Nat.reduceAdd,Nat.reduceSub,Nat.reduceLeDiff,Nat.reduceLT,Nat.reduceBEq,reduceCtorEq,Int.reduceEq]<;>rfl))) ?_<;>clear H
 rintro ⟨x4,x5⟩ x_ st0_ H hst_
 rw[f201_L1c] at hst_
 simp only[f201_L1] at H
 subst hst_
 refine zrn ?_
 refine zq (ic H ?_ ?_)<;>clear H<;>intro H
 ·refine zk (zm (zb (zrn ?_)))
  refine ia eApiFixture H ?_<;>clear H<;>intro x6 H
  try simp only[eApiFixture,eL,eM,wm,↓wk,↓wl,nqa,evV,↓reduceIte,Nat.reduceEqDiff,Nat.reduceAdd,Nat.reduceSub,Nat.reduceLeDiff,Nat.reduceLT,Nat.reduceBEq,reduceCtorEq,Int.reduceEq]
  refine zw ?_
  refine zz ?_
  refine zw ?_
  refine zz ?_
  refine evTs_st (by simp only[wm,↓wk,↓wl,nqa,evV,↓reduceIte,Nat.reduceEqDiff,Nat.reduceAdd,Nat.reduceSub,Nat.reduceLeDiff,Nat.reduceLT,Nat.reduceBEq,reduceCtorEq,Int.reduceEq,Nat.reduceLeDiff];rfl) ?_
  refine zz ?_
  refine zq (zrn ?_)
  refine zw ?_
  refine zz ?_
  refine ic H ?_ ?_<;>clear H<;>intro H
  ·refine zx (zy (zj (zen ?_)))
   exact loopQ.next H ((Le.tz [0,1,2] [1,2,4,5,10,11,12] (by simp only[f201_L1c,wm,wmr,rrm,↓wk,↓wl,evV,↓reduceIte,Nat.reduceEqDiff,Nat.reduceAdd,Nat.reduceSub,Nat.reduceLeDiff,Nat.reduceLT,Nat.reduceBEq,reduceCtorEq,Int.reduceEq]<;>rfl)))
  ·refine zk (zm (zrn ?_))
   refine zw ?_
   refine zz ?_
   refine zw ?_
   refine zz ?_
   refine pu H f230_ok ?_<;>clear H<;>intro x7 H
   try simp only[eL,wm,↓wk,↓wl,nqa,evV,↓reduceIte,Nat.reduceEqDiff,Nat.reduceAdd,Nat.reduceSub,Nat.reduceLeDiff,Nat.reduceLT,Nat.reduceBEq,reduceCtorEq,Int.reduceEq]
   refine zd ?_
   refine AW.iter H ((Le.tz [0,1,2,3] [1,2,4,5,6,7,10,11,12,23,24] (by simp only[f201_L2c,wm,wmr,rrm,↓wk,↓wl,evV,↓reduceIte,Nat.reduceEqDiff,Nat.reduceAdd,Nat.reduceSub,Nat.reduceLeDiff,Nat.reduceLT,Nat.reduceBEq,reduceCtorEq,Int.reduceEq]<;>rfl))) ?_<;>clear H
   rintro ⟨x8,x9⟩ x_ st0_ H hst_
   rw[f201_L2c] at hst_
   simp only[f201_L2] at H
   subst hst_
   refine zrn ?_
   refine zq (ic H ?_ ?_)<;>clear H<;>intro H
   ·refine zk (zm (zb (zrn ?_)))
    refine zen ?_
    refine zw ?_
    refine zz ?_
    refine evTs_aat (enc:=(AV.int .i64)) H (by rfl) (by rfl) ?_<;>clear H<;>intro xa xb H
    refine zz ?_
    refine evTs_ast (enc:=(AV.int .i64)) (IntKind.i64.wrap (x4 + 1)) (by rfl) (by rfl) xb (by rfl) ?_
    refine zz ?_
    refine zo (zen ?_)
    exact loopQ.next H ((Le.tz [0,1,2,3] [1,2,4,5,6,7,10,11,12,23,24] (by simp only[f201_L2c,wm,wmr,rrm,↓wk,↓wl,evV,↓reduceIte,Nat.reduceEqDiff,Nat.reduceAdd,Nat.reduceSub,Nat.reduceLeDiff,Nat.reduceLT,Nat.reduceBEq,reduceCtorEq,Int.reduceEq]<;>rfl)))
   ·refine zx (zy (loopQ.exit H ?_))<;>clear H<;>intro H
    try dsimp only at H
    refine zi (zo (zen ?_))
    exact loopQ.next H ((Le.tz [0,1,2] [1,2,4,5,10,11,12] (by simp only[f201_L1c,wm,wmr,rrm,↓wk,↓wl,evV,↓reduceIte,Nat.reduceEqDiff,Nat.reduceAdd,Nat.reduceSub,Nat.reduceLeDiff,Nat.reduceLT,Nat.reduceBEq,reduceCtorEq,Int.reduceEq]<;>rfl)))
 ·refine zx (zy (loopQ.exit H ?_))<;>clear H<;>intro H
  try dsimp only at H
  refine zi (zm (zrn ?_))
  refine evTs_aload (enc:=(AV.int .i64)) (xs:=x5) H (by rfl) (by rfl) ?_<;>clear H<;>intro H
  refine zz ?_
  refine evTs_astore (enc:=(AV.int .i64)) (xs:=x5) (ys:=x2) H (by rfl) (by rfl) (by rfl) ?_<;>clear H<;>intro H
  refine zz ?_
  refine zt ?_
  obtain ⟨xc,H⟩:=must_inv H
  cases H
  exact hQ _ _ _ _ (.inr rfl) (by simp only[resVs,omap,resV,wm,↓wk,↓wl,nqa,evV,↓reduceIte,Nat.reduceEqDiff,Nat.reduceAdd,Nat.reduceSub,Nat.reduceLeDiff,Nat.reduceLT,Nat.reduceBEq,reduceCtorEq,Int.reduceEq,xc,takeA xc];rfl) (hand_plain (plain_eA _)) (Or.inl (unr_eA _))
def ir202:C:=.seq (.reg [iI 2 (.mv (.c (.bool false)))]) (.seq (.reg [iI 3 (.mv (.t 0)),iI 4 (.bin .gtr (.t 3) (.c (.int .i64 0))),iI 2 (.mv (.t 4))]) .ret)
theorem fd202:fd? Tryz.prog 202=some (5,[.slot 2],ir202):=by kernel_rfl
def f202(x0:Int):Option (Bool) :=
  (some (decide (0<x0)))
theorem f202_ok{x0:Int}{r_:Bool}(H:f202 x0=some r_):Pure Tryz.prog 202 [.int .i64 x0] (· = .bool r_):=by
 refine w3 fd202 fun Q hQ=>?_
 simp only[f202] at H
 refine zr ?_
 refine zr ?_
 cases H
 exact zt (zf hQ)
def f90_202_L1(x0:(List Int)):Lp (Int) ((Unit)⊕(Int)) where
  body:=fun x1=>(if (decide (x1<((x0.length:Nat):Int)))=true then (at? x0 x1).bind fun x2=>(f202 x2).bind fun x3=>(if x3=true then (some (.brk (Sum.inr x1))) else (some (.next (IntKind.i64.wrap (x1 + 1))))) else (some (.brk (Sum.inl ()))))
  cst:=fun x1=>⟨put (put (put (put (fun _=>.junk) 8 (.int .i64 x1)) 7 (.int .i64 ((x0.length:Nat):Int))) 1 (.fn 202 [])) 0 (.sl 0 false (x0.map (AV.int .i64))),[]⟩
theorem f90_202_L1c(x0:(List Int))(x1:Int):(f90_202_L1 x0).cst x1=⟨put (put (put (put (fun _=>.junk) 8 (.int .i64 x1)) 7 (.int .i64 ((x0.length:Nat):Int))) 1 (.fn 202 [])) 0 (.sl 0 false (x0.map (AV.int .i64))),[]⟩:=rfl
def f90_202(x0:(List Int)):Option (Int) :=
  ((Lp.run (f90_202_L1 x0) 0).bind fun r_=>match r_ with | (Sum.inl _)=>(some (-1)) | (Sum.inr x1)=>(some x1))
theorem f90_202_ok{x0:(List Int)}{r_:Int}(H:f90_202 x0=some r_):Pure Tryz.prog 90 [.sl 0 false (x0.map (AV.int .i64)),.fn 202 []] (· = .int .i64 r_):=by
 refine w3 fd90 fun Q hQ=>?_
 simp only[f90_202] at H
 refine zr ?_
 refine zq (zr ?_)
 refine zd ?_
 refine zU H [] [0,1,7,8] (f90_202_L1c ..) ?_<;>clear H
 rintro x1 x_ st0_ H hst_
 rw[f90_202_L1c] at hst_
 simp only[f90_202_L1] at H
 subst hst_
 refine zr ?_
 refine zq (ic H ?_ ?_)<;>clear H<;>intro H
 ·refine zk (zm (zb (zr ?_)))
  refine zr ?_
  refine ia (AV.int .i64) H ?_<;>clear H<;>intro x2 H
  refine zs ?_
  refine pu H f202_ok ?_<;>clear H<;>intro x3 H
  refine zE0 ?_
  refine ic H ?_ ?_<;>clear H<;>intro H
  ·refine zr ?_
   refine zt (zp (loopQ.ret H ?_))<;>clear H<;>intro H
   try dsimp only at H
   cases H
   exact zh (zv (zf hQ))
  ·refine zk (zo (ze ?_))
   exact zu H [] [0,1,7,8] (f90_202_L1c ..)
 ·refine zx (zy (loopQ.exit H ?_))<;>clear H<;>intro H
  try dsimp only at H
  refine zi (zm (zr ?_))
  cases H
  exact zt (zf hQ)
def f190_202(x0:(List Int)):Option (Bool) :=
  (f90_202 x0).bind fun x1=>(some (decide (0≤x1)))
theorem f190_202_ok{x0:(List Int)}{r_:Bool}(H:f190_202 x0=some r_):Pure Tryz.prog 190 [.sl 0 false (x0.map (AV.int .i64)),.fn 202 []] (· = .bool r_):=by
 refine w3 fd190 fun Q hQ=>?_
 simp only[f190_202] at H
 refine zr ?_
 refine zr ?_
 refine pu H f90_202_ok ?_<;>clear H<;>intro x1 H
 refine zE0 ?_
 cases H
 exact zt (zf hQ)
def f140_J1(x0:PatchRig)(x1:ApiFixture)(x2:Int):Jn (Unit) (Int) where
  run:=fun _=>(look? (x0.fProfiles:(List ((List UInt8)×ApiProfile))) x1.fProfile ((ApiProfile.mk ([]) 0 0 ([])):ApiProfile) fun x3 x4=>(if (!x4)=true then (some 6) else (if (decide (x3.fFootprint<1))=true then (some 2) else (if (decide ((IntKind.i64.wrap ((IntKind.i64.wrap (512 - x1.fAddress)) + 1))<x3.fFootprint))=true then (some 2) else (slc? x0.fFixtures 0 x2).bind fun x5=>(f200 (PatchRig.mk x5 x0.fProfiles) x1.fChannel x1.fPart).bind fun x6=>(if (decide (0≤x6))=true then (some 7) else (f201 (PatchRig.mk x5 x0.fProfiles) x1.fUniverse).bind fun x7=>(arr0? 513 (0:Int)).bind fun x8=>(must? (x8.length=513∧x7.length=513)).bind fun _=>(must? (x7.length=513)).bind fun _=>(slc? x7 x1.fAddress (IntKind.i64.wrap (x1.fAddress + x3.fFootprint))).bind fun x9=>(f190_202 x9).bind fun xa=>(if xa=true then (some 10) else (some 0)))))))
  cst:=fun _=>⟨put (put (put (fun _=>.junk) 5 (.ptr 1 0)) 2 (.ptr 0 0)) 1 (.int .i64 x2),[.cel [.sl 7 false (x0.fFixtures.map eApiFixture),.mp (mk AV.str x0.fProfiles) (mv eApiProfile x0.fProfiles)],.cel [.int .i64 x1.fChannel,.int .i64 x1.fPart,.str x1.fProfile,.int .i64 x1.fUniverse,.int .i64 x1.fAddress,.int .i64 x1.fPhase,.str x1.fCable]]⟩
theorem f140_J1c(x0:PatchRig)(x1:ApiFixture)(x2:Int)(x_:Unit):(f140_J1 x0 x1 x2).cst x_=⟨put (put (put (fun _=>.junk) 5 (.ptr 1 0)) 2 (.ptr 0 0)) 1 (.int .i64 x2),[.cel [.sl 7 false (x0.fFixtures.map eApiFixture),.mp (mk AV.str x0.fProfiles) (mv eApiProfile x0.fProfiles)],.cel [.int .i64 x1.fChannel,.int .i64 x1.fPart,.str x1.fProfile,.int .i64 x1.fUniverse,.int .i64 x1.fAddress,.int .i64 x1.fPhase,.str x1.fCable]]⟩:=rfl
def c140_7:C:=.seq (.seq (.reg [iI 67 (.faddr 4 (.t 5)),iI 68 (.load 0 (.t 67)),iI 69 (.faddr 4 (.t 5)),iI 70 (.load 0 (.t 69)),iI 71 (.faddr 1 (.t 6)),iI 72 (.load 0 (.t 71)),iI 73 (.bin .add (.t 70) (.t 72)),iI 74 (.aslice 0 513 (.t 9) (some (.t 68)) (some (.t 73))),iI 75 (.call (.c (.fn 190 [])) [(.t 74),(.c (.fn 202 []))])]) (.cond (.t 75) (.seq (.reg [iI 4 (.mv (.c (.int .i64 10)))]) .ret) (.skip))) (.seq (.reg [iI 4 (.mv (.c (.int .i64 0)))]) .ret)
def c140_8:C:=.seq (.reg [iI 63 (.load 2 (.t 8)),iI 64 (.faddr 3 (.t 5)),iI 65 (.load 0 (.t 64)),iI 66 (.call (.c (.fn 201 [])) [(.t 63),(.t 65)]),iI 9 (.alloc [(513,(.int .i64 0))]),iN (.store 513 (.t 9) (.t 66))]) c140_7
def c140_9:C:=.seq (.seq (.reg [iI 56 (.load 2 (.t 8)),iI 57 (.faddr 0 (.t 5)),iI 58 (.load 0 (.t 57)),iI 59 (.faddr 1 (.t 5)),iI 60 (.load 0 (.t 59)),iI 61 (.call (.c (.fn 200 [])) [(.t 56),(.t 58),(.t 60)]),iI 62 (.bin .geq (.t 61) (.c (.int .i64 0)))]) (.cond (.t 62) (.seq (.reg [iI 4 (.mv (.c (.int .i64 7)))]) .ret) (.skip))) c140_8
def c140_10:C:=.seq (.reg [iI 49 (.faddr 0 (.t 2)),iI 50 (.load 0 (.t 49)),iI 51 (.mv (.t 1)),iI 52 (.slice 7 (.t 50) none (some (.t 51))),iI 53 (.faddr 1 (.t 2)),iI 54 (.load 0 (.t 53)),iI 55 (.build [(1,(.sl 7 true [])),(1,.nilmp)] [(0,0,(.t 52)),(1,0,(.t 54))]),iI 8 (.alloc [(1,(.sl 7 true [])),(1,.nilmp)]),iN (.store 2 (.t 8) (.t 55))]) c140_9
def c140_11:C:=.seq (.seq (.reg [iI 37 (.faddr 1 (.t 6)),iI 38 (.load 0 (.t 37)),iI 39 (.bin .lss (.t 38) (.c (.int .i64 1))),iI 40 (.mv (.t 39)),iG (some 41) 40 false (.faddr 1 (.t 6)),iG (some 42) 40 false (.load 0 (.t 41)),iG (some 43) 40 false (.faddr 4 (.t 5)),iG (some 44) 40 false (.load 0 (.t 43)),iG (some 45) 40 false (.bin .sub (.c (.int .i64 512)) (.t 44)),iG (some 46) 40 false (.bin .add (.t 45) (.c (.int .i64 1))),iG (some 47) 40 false (.bin .gtr (.t 42) (.t 46)),iI 48 (.pick (.t 40) (.c (.bool true)) (.t 47))]) (.cond (.t 48) (.seq (.reg [iI 4 (.mv (.c (.int .i64 2)))]) .ret) (.skip))) c140_10
def c140_13:C:=.seq (.reg [iI 28 (.faddr 1 (.t 2)),iI 29 (.load 0 (.t 28)),iI 30 (.faddr 2 (.t 5)),iI 31 (.load 0 (.t 30)),iI 32 (.lookup 1 (.agg [(.str []),(.int .i64 0),(.int .i64 0),(.sl 10 true [])]) true (.t 29) (.t 31)),iI 27 (.mv (.t 32)),iI 33 (.ext (.t 27) 0),iI 34 (.ext (.t 27) 1),iI 6 (.alloc [(1,(.str [])),(1,(.int .i64 0)),(1,(.int .i64 0)),(1,(.sl 10 true []))]),iN (.store 4 (.t 6) (.t 33)),iI 7 (.mv (.t 34))]) (.seq (.seq (.reg [iI 35 (.mv (.t 7)),iI 36 (.un .not (.t 35))]) (.cond (.t 36) (.seq (.reg [iI 4 (.mv (.c (.int .i64 6)))]) .ret) (.skip))) c140_11)
def c140_14:C:=.seq (.seq (.reg [iI 18 (.faddr 6 (.t 5)),iI 19 (.load 0 (.t 18)),iI 20 (.bin .neq (.t 19) (.c (.str []))),iI 21 (.mv (.t 20)),iG (some 22) 21 true (.faddr 6 (.t 5)),iG (some 23) 21 true (.load 0 (.t 22)),iG (some 24) 21 true (.call (.c (.fn 199 [])) [(.t 23)]),iG (some 25) 21 true (.un .not (.t 24)),iI 26 (.pick (.t 21) (.t 25) (.c (.bool false)))]) (.cond (.t 26) (.seq (.reg [iI 4 (.mv (.c (.int .i64 8)))]) .ret) (.skip))) c140_13
def c140_15:C:=.seq (.seq (.reg [iI 15 (.load 7 (.t 5)),iI 16 (.call (.c (.fn 198 [])) [(.t 15)]),iI 17 (.un .not (.t 16))]) (.cond (.t 17) (.seq (.reg [iI 4 (.mv (.c (.int .i64 2)))]) .ret) (.skip))) c140_14
def c140_16:C:=.seq (.reg [iI 10 (.faddr 0 (.t 2)),iI 11 (.load 0 (.t 10)),iI 12 (.mv (.t 1)),iI 13 (.iaddr 7 (.t 11) (.t 12)),iI 14 (.load 7 (.t 13)),iI 5 (.alloc [(1,(.int .i64 0)),(1,(.int .i64 0)),(1,(.str [])),(1,(.int .i64 0)),(1,(.int .i64 0)),(1,(.int .i64 0)),(1,(.str []))]),iN (.store 7 (.t 5) (.t 14))]) c140_15
def ir140:C:=.seq (.reg [iI 2 (.box (.t 0)),iI 4 (.mv (.c (.int .i64 0)))]) c140_16
theorem fd140:fd? Tryz.prog 140=some (76,[.slot 4],ir140):=by kernel_rfl
def f140(x0:PatchRig)(x1:Int):Option (Int) :=
  (at? x0.fFixtures x1).bind fun x2=>(f198 x2).bind fun x3=>(if (!x3)=true then (some 2) else (if (!(x2.fCable == ([])))=true then (f199 x2.fCable).bind fun x4=>(if (!x4)=true then (some 8) else ((f140_J1 x0 x2 x1).run ())) else ((f140_J1 x0 x2 x1).run ())))
theorem f140_ok{x0:PatchRig}{x1:Int}{r_:Int}(H:f140 x0 x1=some r_):Pure Tryz.prog 140 [.agg [.sl 7 false (x0.fFixtures.map eApiFixture),.mp (mk AV.str x0.fProfiles) (mv eApiProfile x0.fProfiles)],.int .i64 x1] (· = .int .i64 r_):=by
 refine w3 fd140 fun Q hQ=>?_
 simp only[f140] at H
 refine zrn ?_
 refine zw ?_
 refine zz ?_
 refine zrn ?_
 refine zw ?_
 refine zz ?_
 refine ia eApiFixture H ?_<;>clear H<;>intro x2 H
 try simp only[eApiFixture,eL,eM,wm,↓wk,↓wl,nqa,evV,↓reduceIte,Nat.reduceEqDiff,Nat.reduceAdd,Nat.reduceSub,Nat.reduceLeDiff,Nat.reduceLT,Nat.reduceBEq,reduceCtorEq,Int.reduceEq]
 refine zw ?_
 refine zz ?_
 refine zw ?_
 refine zz ?_
 refine evTs_st (by simp only[wm,↓wk,↓wl,nqa,evV,↓reduceIte,Nat.reduceEqDiff,Nat.reduceAdd,Nat.reduceSub,Nat.reduceLeDiff,Nat.reduceLT,Nat.reduceBEq,reduceCtorEq,Int.reduceEq,Nat.reduceLeDiff];rfl) ?_
 refine zz ?_
 refine zq (zrn ?_)
 refine zw ?_
 refine zz ?_
 refine pu H f198_ok ?_<;>clear H<;>intro x3 H
 try simp only[eL,wm,↓wk,↓wl,nqa,evV,↓reduceIte,Nat.reduceEqDiff,Nat.reduceAdd,Nat.reduceSub,Nat.reduceLeDiff,Nat.reduceLT,Nat.reduceBEq,reduceCtorEq,Int.reduceEq]
 refine ic H ?_ ?_<;>clear H<;>intro H
 ·refine zrn ?_
  cases H
  exact zt (zv (zg hQ))
 ·refine zk (zm ?_)
  refine AW.join (f140_J1 x0 x2 x1) H ?_ fun hf140_J1=>?_
  ·clear H
   rintro _ st0_ H hst_
   rw[f140_J1c] at hst_
   simp only[f140_J1] at H
   subst hst_
   refine zrn ?_
   refine zw ?_
   refine zz ?_
   refine zw ?_
   refine zz ?_
   refine evTs_lookP (ek:=AV.str) (ev:=eApiProfile) H true (by rfl) (by rfl) (by rfl) ?_<;>clear H<;>intro x4 x5 H
   try simp only[eApiProfile,eL,eM,wm,↓wk,↓wl,nqa,evV,↓reduceIte,Nat.reduceEqDiff,Nat.reduceAdd,Nat.reduceSub,Nat.reduceLeDiff,Nat.reduceLT,Nat.reduceBEq,reduceCtorEq,Int.reduceEq]
   refine zw ?_
   refine zz ?_
   refine evTs_st (by simp only[wm,↓wk,↓wl,nqa,evV,↓reduceIte,Nat.reduceEqDiff,Nat.reduceAdd,Nat.reduceSub,Nat.reduceLeDiff,Nat.reduceLT,Nat.reduceBEq,reduceCtorEq,Int.reduceEq,Nat.reduceLeDiff];rfl) ?_
   refine zz ?_
   refine zq (zrn ?_)
   refine ic H ?_ ?_<;>clear H<;>intro H
   ·refine zrn ?_
    cases H
    exact zt (zv (zg hQ))
   ·refine zk (zm (zq (zrn ?_)))
    refine zw ?_
    refine zz ?_
    refine ig H ?_ ?_<;>clear H<;>intro H
    ·refine zz ?_
     refine za (zrn ?_)
     cases H
     exact zt (zv (zg hQ))
    ·refine zz ?_
     refine zw ?_
     refine zz ?_
     refine zw ?_
     refine zz ?_
     refine ic H ?_ ?_<;>clear H<;>intro H
     ·refine zrn ?_
      cases H
      exact zt (zv (zg hQ))
     ·refine zk (zm (zrn ?_))
      refine zw ?_
      refine zz ?_
      refine evTs_slc (enc:=eApiFixture) H (by rfl) (by rfl) (by simp only[loI,hiI,wm,↓wk,↓wl,nqa,evV,↓reduceIte,Nat.reduceEqDiff,Nat.reduceAdd,Nat.reduceSub,Nat.reduceLeDiff,Nat.reduceLT,Nat.reduceBEq,reduceCtorEq,Int.reduceEq];rfl) (by simp only[loI,hiI,wm,↓wk,↓wl,nqa,evV,↓reduceIte,Nat.reduceEqDiff,Nat.reduceAdd,Nat.reduceSub,Nat.reduceLeDiff,Nat.reduceLT,Nat.reduceBEq,reduceCtorEq,Int.reduceEq];rfl) ?_<;>clear H<;>intro x6 H
      refine zz ?_
      refine zw ?_
      refine zz ?_
      refine zw ?_
      refine zz ?_
      refine evTs_st (by simp only[wm,↓wk,↓wl,nqa,evV,↓reduceIte,Nat.reduceEqDiff,Nat.reduceAdd,Nat.reduceSub,Nat.reduceLeDiff,Nat.reduceLT,Nat.reduceBEq,reduceCtorEq,Int.reduceEq,Nat.reduceLeDiff];rfl) ?_
      refine zz ?_
      refine zq (zrn ?_)
      refine zw ?_
      refine zz ?_
      refine zw ?_
      refine zz ?_
      refine zw ?_
      refine zz ?_
      refine pu H f200_ok ?_<;>clear H<;>intro x7 H
      try simp only[eL,wm,↓wk,↓wl,nqa,evV,↓reduceIte,Nat.reduceEqDiff,Nat.reduceAdd,Nat.reduceSub,Nat.reduceLeDiff,Nat.reduceLT,Nat.reduceBEq,reduceCtorEq,Int.reduceEq]
      refine ic H ?_ ?_<;>clear H<;>intro H
      ·refine zrn ?_
       cases H
       exact zt (zv (zg hQ))
      ·refine zk (zm (zrn ?_))
       refine zw ?_
       refine zz ?_
       refine zw ?_
       refine zz ?_
       refine pu H f201_ok ?_<;>clear H<;>intro x8 H
       try simp only[eL,eA,wm,↓wk,↓wl,nqa,evV,↓reduceIte,Nat.reduceEqDiff,Nat.reduceAdd,Nat.reduceSub,Nat.reduceLeDiff,Nat.reduceLT,Nat.reduceBEq,reduceCtorEq,Int.reduceEq]
       refine evTs_arrn (enc:=(AV.int .i64)) H (by rfl) ?_<;>clear H<;>intro x9 H
       refine zz ?_
       refine evTs_astore (enc:=(AV.int .i64)) (xs:=x8) (ys:=x9) H (by rfl) (by rfl) (by rfl) ?_<;>clear H<;>intro H
       refine zz ?_
       refine zq (zrn ?_)
       refine zw ?_
       refine zz ?_
       refine zw ?_
       refine zz ?_
       refine zw ?_
       refine zz ?_
       obtain ⟨xa,H⟩:=must_inv H
       refine evTs_aslc (enc:=(AV.int .i64)) H (by rfl) xa (by simp only[loI,hiI,wm,↓wk,↓wl,nqa,evV,↓reduceIte,Nat.reduceEqDiff,Nat.reduceAdd,Nat.reduceSub,Nat.reduceLeDiff,Nat.reduceLT,Nat.reduceBEq,reduceCtorEq,Int.reduceEq];rfl) (by simp only[loI,hiI,wm,↓wk,↓wl,nqa,evV,↓reduceIte,Nat.reduceEqDiff,Nat.reduceAdd,Nat.reduceSub,Nat.reduceLeDiff,Nat.reduceLT,Nat.reduceBEq,reduceCtorEq,Int.reduceEq];rfl) ?_<;>clear H<;>intro xb xc H
       try simp only[wm,↓wk,↓wl,nqa,evV,↓reduceIte,Nat.reduceEqDiff,Nat.reduceAdd,Nat.reduceSub,Nat.reduceLeDiff,Nat.reduceLT,Nat.reduceBEq,reduceCtorEq,Int.reduceEq,xc]
       refine evTs_flat hFn H (fun _ h=>f190_202_ok h) (by rfl) (by rfl) (by simp only[deep_eq,imm_simps,imm_rowE,imm_ptrE,imm_enc,imm_mrefE,imm_mpE,imm_arowE,omap_simps,take_map_len,take_map_set,take_map_set2,List.length_set,le_refl_true,Nat.zero_add,and_true,true_and,List.drop_zero,Option.map_some,wm,↓wk,↓wl,nqa,evV,↓reduceIte,Nat.reduceEqDiff,Nat.reduceAdd,Nat.reduceSub,Nat.reduceLeDiff,Nat.reduceLT,Nat.reduceBEq,reduceCtorEq,Int.reduceEq,xc];rfl) (by rfl) (fun _=>rfl) (fun _=>rfl) ?_<;>clear H<;>intro xd H
       try simp only[eL,wm,↓wk,↓wl,nqa,evV,↓reduceIte,Nat.reduceEqDiff,Nat.reduceAdd,Nat.reduceSub,Nat.reduceLeDiff,Nat.reduceLT,Nat.reduceBEq,reduceCtorEq,Int.reduceEq,xc]
       refine ic H ?_ ?_<;>clear H<;>intro H
       ·refine AW.rseq ?_
        try simp only[wm,↓wk,↓wl,nqa,evV,↓reduceIte,Nat.reduceEqDiff,Nat.reduceAdd,Nat.reduceSub,Nat.reduceLeDiff,Nat.reduceLT,Nat.reduceBEq,reduceCtorEq,Int.reduceEq,xc]
        refine zt (zv ?_)
        cases H
        exact hQ _ _ _ _ (.inr rfl) (by simp only[resVs,omap,resV,wm,↓wk,↓wl,nqa,evV,↓reduceIte,Nat.reduceEqDiff,Nat.reduceAdd,Nat.reduceSub,Nat.reduceLeDiff,Nat.reduceLT,Nat.reduceBEq,reduceCtorEq,Int.reduceEq,xc];rfl) (hand_plain (by rfl)) (by first | exact Or.inl rfl | exact Or.inr rfl)
       ·refine zk (zm (AW.rseq ?_))
        try simp only[wm,↓wk,↓wl,nqa,evV,↓reduceIte,Nat.reduceEqDiff,Nat.reduceAdd,Nat.reduceSub,Nat.reduceLeDiff,Nat.reduceLT,Nat.reduceBEq,reduceCtorEq,Int.reduceEq,xc]
        refine zt ?_
        cases H
        exact hQ _ _ _ _ (.inr rfl) (by simp only[resVs,omap,resV,wm,↓wk,↓wl,nqa,evV,↓reduceIte,Nat.reduceEqDiff,Nat.reduceAdd,Nat.reduceSub,Nat.reduceLeDiff,Nat.reduceLT,Nat.reduceBEq,reduceCtorEq,Int.reduceEq,xc];rfl) (hand_plain (by rfl)) (by first | exact Or.inl rfl | exact Or.inr rfl)
  ·refine zrn ?_
   refine zw ?_
   refine zz ?_
   refine ig H ?_ ?_<;>clear H<;>intro H
   ·refine zz ?_
    refine zw ?_
    refine zz ?_
    refine pu H f199_ok ?_<;>clear H<;>intro xe H
    try simp only[eL,wm,↓wk,↓wl,nqa,evV,↓reduceIte,Nat.reduceEqDiff,Nat.reduceAdd,Nat.reduceSub,Nat.reduceLeDiff,Nat.reduceLT,Nat.reduceBEq,reduceCtorEq,Int.reduceEq]
    refine ic H ?_ ?_<;>clear H<;>intro H
    ·refine zrn ?_
     cases H
     exact zt (zv (zg hQ))
    ·refine zk (zm ?_)
     exact hf140_J1 _ _ H ((Le.tz [0,1] [1,2,5] (by simp only[f140_J1c,wm,wmr,rrm,↓wk,↓wl,evV,↓reduceIte,Nat.reduceEqDiff,Nat.reduceAdd,Nat.reduceSub,Nat.reduceLeDiff,Nat.reduceLT,Nat.reduceBEq,reduceCtorEq,Int.reduceEq]<;>rfl)))
   ·refine zz ?_
    refine zc (zk (zm ?_))
    exact hf140_J1 _ _ H ((Le.tz [0,1] [1,2,5] (by simp only[f140_J1c,wm,wmr,rrm,↓wk,↓wl,evV,↓reduceIte,Nat.reduceEqDiff,Nat.reduceAdd,Nat.reduceSub,Nat.reduceLeDiff,Nat.reduceLT,Nat.reduceBEq,reduceCtorEq,Int.reduceEq]<;>rfl)))
def f96_L1(x0:(List ApiFixture))(x1:PatchRig):Lp (Int) ((Unit)⊕(Int)) where
  body:=fun x2=>(if (decide (x2<((x0.length:Nat):Int)))=true then (f140 x1 x2).bind fun x3=>(if (decide (x3≠0))=true then (some (.brk (Sum.inr x3))) else (some (.next (IntKind.i64.wrap (x2 + 1))))) else (some (.brk (Sum.inl ()))))
  cst:=fun x2=>⟨put (put (put (fun _=>.junk) 21 (.int .i64 x2)) 20 (.int .i64 ((x0.length:Nat):Int))) 5 (.ptr 0 0),[.cel [.sl 7 false (x1.fFixtures.map eApiFixture),.mp (mk AV.str x1.fProfiles) (mv eApiProfile x1.fProfiles)]]⟩
theorem f96_L1c(x0:(List ApiFixture))(x1:PatchRig)(x2:Int):(f96_L1 x0 x1).cst x2=⟨put (put (put (fun _=>.junk) 21 (.int .i64 x2)) 20 (.int .i64 ((x0.length:Nat):Int))) 5 (.ptr 0 0),[.cel [.sl 7 false (x1.fFixtures.map eApiFixture),.mp (mk AV.str x1.fProfiles) (mv eApiProfile x1.fProfiles)]]⟩:=rfl
def c96_2:C:=.seq (.reg [iI 27 (.mv (.t 7)),iI 28 (.bin .neq (.t 27) (.c (.int .i64 0)))]) (.cond (.t 28) (.seq (.reg [iI 29 (.mv (.t 7)),iI 4 (.mv (.t 29))]) .ret) (.skip))
def c96_5:C:=.seq (.block 1 (.seq (.reg [iI 23 (.mv (.t 21)),iI 6 (.mv (.t 23))]) (.seq (.reg [iI 24 (.load 2 (.t 5)),iI 25 (.mv (.t 6)),iI 26 (.call (.c (.fn 140 [])) [(.t 24),(.t 25)]),iI 7 (.mv (.t 26))]) c96_2))) (.reg [iI 30 (.bin .add (.t 21) (.c (.int .i64 1))),iI 21 (.mv (.t 30))])
def c96_9:C:=.seq (.seq (.reg [iI 19 (.mv (.t 0)),iI 20 (.len 0 (.t 19)),iI 21 (.mv (.c (.int .i64 0)))]) (.block 0 (.loop (.seq (.reg [iI 22 (.bin .lss (.t 21) (.t 20))]) (.seq (.cond (.t 22) (.skip) (.exit 0)) c96_5))))) (.seq (.reg [iI 4 (.mv (.c (.int .i64 0)))]) .ret)
def c96_10:C:=.seq (.reg [iI 16 (.mv (.t 0)),iI 17 (.mv (.t 1)),iI 18 (.call (.c (.fn 139 [])) [(.t 16),(.t 17)]),iI 5 (.alloc [(1,(.sl 7 true [])),(1,.nilmp)]),iN (.store 2 (.t 5) (.t 18))]) c96_9
def c96_11:C:=.seq (.seq (.reg [iI 8 (.mv (.t 1)),iI 9 (.len 0 (.t 8)),iI 10 (.bin .gtr (.t 9) (.c (.int .i64 32))),iI 11 (.mv (.t 10)),iG (some 12) 11 false (.mv (.t 0)),iG (some 13) 11 false (.len 0 (.t 12)),iG (some 14) 11 false (.bin .gtr (.t 13) (.c (.int .i64 64))),iI 15 (.pick (.t 11) (.c (.bool true)) (.t 14))]) (.cond (.t 15) (.seq (.reg [iI 4 (.mv (.c (.int .i64 5)))]) .ret) (.skip))) c96_10
def ir96:C:=.seq (.reg [iI 4 (.mv (.c (.int .i64 0)))]) c96_11
theorem fd96:fd? Tryz.prog 96=some (31,[.slot 4],ir96):=by kernel_rfl
def f96(x0:(List ApiFixture))(x1:(List ApiProfile)):Option (Int) :=
  (if (decide (32<((x1.length:Nat):Int)))=true then (some 5) else (if (decide (64<((x0.length:Nat):Int)))=true then (some 5) else (f139 x0 x1).bind fun x2=>((Lp.run (f96_L1 x0 x2) 0).bind fun r_=>match r_ with | (Sum.inl _)=>(some 0) | (Sum.inr x3)=>(some x3))))
theorem f96_ok{x0:(List ApiFixture)}{x1:(List ApiProfile)}{r_:Int}(H:f96 x0 x1=some r_):Pure Tryz.prog 96 [.sl 7 false (x0.map eApiFixture),.sl 4 false (x1.map eApiProfile)] (· = .int .i64 r_):=by
 refine w3 fd96 fun Q hQ=>?_
 simp only[f96] at H
 refine zr ?_
 refine zq (zr ?_)
 refine ig H ?_ ?_<;>clear H<;>intro H
 ·refine zs ?_
  refine za (zr ?_)
  cases H
  exact zt (zv (zf hQ))
 ·refine zs ?_
  refine ic H ?_ ?_<;>clear H<;>intro H
  ·refine zr ?_
   cases H
   exact zt (zv (zf hQ))
  ·refine zk (zm (zr ?_))
   refine pu H f139_ok ?_<;>clear H<;>intro x2 H
   try simp only[eL,ePatchRig,eM,wm,↓wk,↓wl,nq,evV,↓reduceIte,sevalprocAttr]
   refine zq (zr ?_)
   refine zd ?_
   refine zU H [0] [5,20,21] (f96_L1c ..) ?_<;>clear H
   rintro x3 x_ st0_ H hst_
   rw[f96_L1c] at hst_
   simp only[f96_L1] at H
   subst hst_
   refine zr ?_
   refine zq (ic H ?_ ?_)<;>clear H<;>intro H
   ·refine zk (zm (zb (zr ?_)))
    refine zr ?_
    refine pu H f140_ok ?_<;>clear H<;>intro x4 H
    refine zE0 ?_
    refine zr ?_
    refine ic H ?_ ?_<;>clear H<;>intro H
    ·refine zr ?_
     refine zt (zp (loopQ.ret H ?_))<;>clear H<;>intro H
     try dsimp only at H
     cases H
     exact zh (zv (zf hQ))
    ·refine zk (zo (ze ?_))
     exact zu H [0] [5,20,21] (f96_L1c ..)
   ·refine zx (zy (loopQ.exit H ?_))<;>clear H<;>intro H
    try dsimp only at H
    refine zi (zm (zr ?_))
    cases H
    exact zt (zf hQ)
def f55_L2(x0:UniverseRig):Lp (Int×(List ((List UInt8)×Bool))) ((Unit)⊕(Int)) where
  body:=fun (x1,x2)=>(if (decide (x1<((x0.fProfiles.length:Nat):Int)))=true then (at? x0.fProfiles x1).bind fun x3=>(f95 x3 x0.fCurves).bind fun x4=>(if (decide (x4≠0))=true then (some (.brk (Sum.inr x4))) else (look? (x2:(List ((List UInt8)×Bool))) x3.fName (false:Bool) fun x5 x6=>(if x5=true then (some (.brk (Sum.inr 7))) else (some (.next ((IntKind.i64.wrap (x1 + 1)),(mset (x2:(List ((List UInt8)×Bool))) x3.fName true))))))) else (some (.brk (Sum.inl ()))))
  cst:=fun (x1,x2)=>⟨put (put (put (put (put (fun _=>.junk) 35 (.int .i64 x1)) 34 (.int .i64 ((x0.fProfiles.length:Nat):Int))) 33 (.sl 4 false (x0.fProfiles.map eApiProfile))) 6 (.mref 1)) 1 (.ptr 0 0),[.cel [.sl 0 false (x0.fCurves.map (eL 2 eApiPoint)),.sl 4 false (x0.fProfiles.map eApiProfile),.sl 7 false (x0.fFixtures.map eApiFixture)],.map (mk AV.str x2) (mv AV.bool x2)]⟩
theorem f55_L2c(x0:UniverseRig)(x1:Int)(x2:(List ((List UInt8)×Bool))):(f55_L2 x0).cst (x1,x2)=⟨put (put (put (put (put (fun _=>.junk) 35 (.int .i64 x1)) 34 (.int .i64 ((x0.fProfiles.length:Nat):Int))) 33 (.sl 4 false (x0.fProfiles.map eApiProfile))) 6 (.mref 1)) 1 (.ptr 0 0),[.cel [.sl 0 false (x0.fCurves.map (eL 2 eApiPoint)),.sl 4 false (x0.fProfiles.map eApiProfile),.sl 7 false (x0.fFixtures.map eApiFixture)],.map (mk AV.str x2) (mv AV.bool x2)]⟩:=rfl
def f55_L1(x0:UniverseRig):Lp (Int) ((Unit)⊕(Int)) where
  body:=fun x1=>(if (decide (x1<((x0.fCurves.length:Nat):Int)))=true then (at? x0.fCurves x1).bind fun x2=>(f94 x2).bind fun x3=>(if (decide (x3≠0))=true then (some (.brk (Sum.inr x3))) else (some (.next (IntKind.i64.wrap (x1 + 1))))) else (some (.brk (Sum.inl ()))))
  cst:=fun x1=>⟨put (put (put (put (fun _=>.junk) 17 (.int .i64 x1)) 16 (.int .i64 ((x0.fCurves.length:Nat):Int))) 15 (.sl 0 false (x0.fCurves.map (eL 2 eApiPoint)))) 1 (.ptr 0 0),[.cel [.sl 0 false (x0.fCurves.map (eL 2 eApiPoint)),.sl 4 false (x0.fProfiles.map eApiProfile),.sl 7 false (x0.fFixtures.map eApiFixture)]]⟩
theorem f55_L1c(x0:UniverseRig)(x1:Int):(f55_L1 x0).cst x1=⟨put (put (put (put (fun _=>.junk) 17 (.int .i64 x1)) 16 (.int .i64 ((x0.fCurves.length:Nat):Int))) 15 (.sl 0 false (x0.fCurves.map (eL 2 eApiPoint)))) 1 (.ptr 0 0),[.cel [.sl 0 false (x0.fCurves.map (eL 2 eApiPoint)),.sl 4 false (x0.fProfiles.map eApiProfile),.sl 7 false (x0.fFixtures.map eApiFixture)]]⟩:=rfl
def c55_2:C:=.seq (.reg [iI 23 (.mv (.t 5)),iI 24 (.bin .neq (.t 23) (.c (.int .i64 0)))]) (.cond (.t 24) (.seq (.reg [iI 25 (.mv (.t 5)),iI 2 (.mv (.t 25))]) .ret) (.skip))
def c55_5:C:=.seq (.block 1 (.seq (.reg [iI 19 (.iaddr 0 (.t 15) (.t 17)),iI 20 (.load 0 (.t 19)),iI 4 (.mv (.t 20))]) (.seq (.reg [iI 21 (.mv (.t 4)),iI 22 (.call (.c (.fn 94 [])) [(.t 21)]),iI 5 (.mv (.t 22))]) c55_2))) (.reg [iI 26 (.bin .add (.t 17) (.c (.int .i64 1))),iI 17 (.mv (.t 26))])
def c55_10:C:=.seq (.reg [iI 43 (.mv (.t 9)),iI 44 (.bin .neq (.t 43) (.c (.int .i64 0)))]) (.cond (.t 44) (.seq (.reg [iI 45 (.mv (.t 9)),iI 2 (.mv (.t 45))]) .ret) (.skip))
def c55_13:C:=.seq (.seq (.reg [iI 46 (.mv (.t 6)),iI 47 (.faddr 0 (.t 8)),iI 48 (.load 0 (.t 47)),iI 49 (.lookup 1 (.bool false) false (.t 46) (.t 48))]) (.cond (.t 49) (.seq (.reg [iI 2 (.mv (.c (.int .i64 7)))]) .ret) (.skip))) (.reg [iI 50 (.mv (.t 6)),iI 51 (.faddr 0 (.t 8)),iI 52 (.load 0 (.t 51)),iN (.mapset 1 (.t 50) (.t 52) (.c (.bool true)))])
def c55_14:C:=.seq (.seq (.reg [iI 39 (.load 4 (.t 8)),iI 40 (.faddr 0 (.t 1)),iI 41 (.load 0 (.t 40)),iI 42 (.call (.c (.fn 95 [])) [(.t 39),(.t 41)]),iI 9 (.mv (.t 42))]) c55_10) c55_13
def c55_16:C:=.seq (.block 3 (.seq (.reg [iI 37 (.iaddr 4 (.t 33) (.t 35)),iI 38 (.load 4 (.t 37)),iI 8 (.alloc [(1,(.str [])),(1,(.int .i64 0)),(1,(.int .i64 0)),(1,(.sl 10 true []))]),iN (.store 4 (.t 8) (.t 38))]) c55_14)) (.reg [iI 53 (.bin .add (.t 35) (.c (.int .i64 1))),iI 35 (.mv (.t 53))])
def c55_19:C:=.seq (.reg [iI 54 (.faddr 2 (.t 1)),iI 55 (.load 0 (.t 54)),iI 56 (.faddr 1 (.t 1)),iI 57 (.load 0 (.t 56)),iI 58 (.call (.c (.fn 96 [])) [(.t 55),(.t 57)]),iI 2 (.mv (.t 58))]) .ret
def c55_20:C:=.seq (.seq (.reg [iI 32 (.faddr 1 (.t 1)),iI 33 (.load 0 (.t 32)),iI 34 (.len 0 (.t 33)),iI 35 (.mv (.c (.int .i64 0)))]) (.block 2 (.loop (.seq (.reg [iI 36 (.bin .lss (.t 35) (.t 34))]) (.seq (.cond (.t 36) (.skip) (.exit 2)) c55_16))))) c55_19
def c55_22:C:=.seq (.seq (.reg [iI 27 (.faddr 1 (.t 1)),iI 28 (.load 0 (.t 27)),iI 29 (.len 0 (.t 28)),iI 30 (.bin .gtr (.t 29) (.c (.int .i64 32)))]) (.cond (.t 30) (.seq (.reg [iI 2 (.mv (.c (.int .i64 5)))]) .ret) (.skip))) (.seq (.reg [iI 31 .mkmap,iI 6 (.mv (.t 31))]) c55_20)
def c55_23:C:=.seq (.seq (.reg [iI 14 (.faddr 0 (.t 1)),iI 15 (.load 0 (.t 14)),iI 16 (.len 0 (.t 15)),iI 17 (.mv (.c (.int .i64 0)))]) (.block 0 (.loop (.seq (.reg [iI 18 (.bin .lss (.t 17) (.t 16))]) (.seq (.cond (.t 18) (.skip) (.exit 0)) c55_5))))) c55_22
def c55_24:C:=.seq (.seq (.reg [iI 10 (.faddr 0 (.t 1)),iI 11 (.load 0 (.t 10)),iI 12 (.len 0 (.t 11)),iI 13 (.bin .gtr (.t 12) (.c (.int .i64 16)))]) (.cond (.t 13) (.seq (.reg [iI 2 (.mv (.c (.int .i64 5)))]) .ret) (.skip))) c55_23
def ir55:C:=.seq (.reg [iI 1 (.box (.t 0)),iI 2 (.mv (.c (.int .i64 0)))]) c55_24
theorem fd55:fd? Tryz.prog 55=some (59,[.slot 2],ir55):=by kernel_rfl
def f55(x0:UniverseRig):Option (Int) :=
  (if (decide (16<((x0.fCurves.length:Nat):Int)))=true then (some 5) else ((Lp.run (f55_L1 x0) 0).bind fun r_=>match r_ with | (Sum.inl _)=>(if (decide (32<((x0.fProfiles.length:Nat):Int)))=true then (some 5) else ((Lp.run (f55_L2 x0) (0,[])).bind fun r_=>match r_ with | (Sum.inl _)=>(f96 x0.fFixtures x0.fProfiles).bind fun x1=>(some x1) | (Sum.inr x2)=>(some x2))) | (Sum.inr x3)=>(some x3)))
theorem f55_ok{x0:UniverseRig}{r_:Int}(H:f55 x0=some r_):Pure Tryz.prog 55 [.agg [.sl 0 false (x0.fCurves.map (eL 2 eApiPoint)),.sl 4 false (x0.fProfiles.map eApiProfile),.sl 7 false (x0.fFixtures.map eApiFixture)]] (· = .int .i64 r_):=by
 refine w3 fd55 fun Q hQ=>?_
 simp only[f55] at H
 refine zr ?_
 refine zq (zr ?_)
 refine ic H ?_ ?_<;>clear H<;>intro H
 ·refine zr ?_
  cases H
  exact zt (zv (zf hQ))
 ·refine zk (zm (zq (zr ?_)))
  refine zd ?_
  refine zU H [0] [1,15,16,17] (f55_L1c ..) ?_<;>clear H
  rintro x1 x_ st0_ H hst_
  rw[f55_L1c] at hst_
  simp only[f55_L1] at H
  subst hst_
  refine zr ?_
  refine zq (ic H ?_ ?_)<;>clear H<;>intro H
  ·refine zk (zm (zb (zr ?_)))
   refine ia (eL 2 eApiPoint) H ?_<;>clear H<;>intro x2 H
   refine zE0 ?_
   refine zr ?_
   refine pu H f94_ok ?_<;>clear H<;>intro x3 H
   refine zE0 ?_
   refine zr ?_
   refine ic H ?_ ?_<;>clear H<;>intro H
   ·refine zr ?_
    refine zt (zp (loopQ.ret H ?_))<;>clear H<;>intro H
    try dsimp only at H
    cases H
    exact zh (zv (zf hQ))
   ·refine zk (zo (ze ?_))
    exact zu H [0] [1,15,16,17] (f55_L1c ..)
  ·refine zx (zy (loopQ.exit H ?_))<;>clear H<;>intro H
   try dsimp only at H
   refine zi (zm (zq (zr ?_)))
   refine ic H ?_ ?_<;>clear H<;>intro H
   ·refine zr ?_
    cases H
    exact zt (zv (zf hQ))
   ·refine zk (zm (zr ?_))
    refine zq (zr ?_)
    refine zd ?_
    refine zU H [0,1] [1,6,33,34,35] (f55_L2c ..) ?_<;>clear H
    rintro ⟨x4,x5⟩ x_ st0_ H hst_
    rw[f55_L2c] at hst_
    simp only[f55_L2] at H
    subst hst_
    refine zr ?_
    refine zq (ic H ?_ ?_)<;>clear H<;>intro H
    ·refine zk (zm (zb (zr ?_)))
     refine ia eApiProfile H ?_<;>clear H<;>intro x6 H
     refine zE6 ?_
     refine zq (zr ?_)
     refine pu H f95_ok ?_<;>clear H<;>intro x7 H
     refine zE0 ?_
     refine zr ?_
     refine ic H ?_ ?_<;>clear H<;>intro H
     ·refine zr ?_
      refine zt (zv (zp (loopQ.ret H ?_)))<;>clear H<;>intro H
      try dsimp only at H
      cases H
      exact zh (zv (zf hQ))
     ·refine zk (zm (zq (zr ?_)))
      refine evTs_lookR (ek:=AV.str) (ev:=AV.bool) H false (by rfl) (by rfl) (by rfl) (by rfl) ?_<;>clear H<;>intro x8 x9 H
      refine zs ?_
      refine ic H ?_ ?_<;>clear H<;>intro H
      ·refine zr ?_
       refine zt (zv (zp (loopQ.ret H ?_)))<;>clear H<;>intro H
       try dsimp only at H
       cases H
       exact zh (zv (zf hQ))
      ·refine zk (zm (ze ?_))
       refine evTs_mset (m:=x5) (ek:=AV.str) (ev:=AV.bool) x6.fName true (by rfl) (by rfl) (by rfl) (by rfl) ?_
       refine zs ?_
       refine zo (ze ?_)
       exact zu H [0,1] [1,6,33,34,35] (f55_L2c ..)
    ·refine zx (zy (loopQ.exit H ?_))<;>clear H<;>intro H
     try dsimp only at H
     refine zi (zm (zr ?_))
     refine pu H f96_ok ?_<;>clear H<;>intro xa H
     refine zE0 ?_
     cases H
     exact zt (zf hQ)
def c57_0:C:=.seq (.reg [iI 3 (.mv (.t 0)),iI 4 (.bin .geq (.t 3) (.c (.int .i64 (-1)))),iI 5 (.mv (.t 4)),iG (some 6) 5 true (.mv (.t 0)),iG (some 7) 5 true (.bin .leq (.t 6) (.c (.int .i64 18))),iI 8 (.pick (.t 5) (.t 7) (.c (.bool false))),iI 2 (.mv (.t 8))]) .ret
def ir57:C:=.seq (.reg [iI 2 (.mv (.c (.bool false)))]) c57_0
theorem fd57:fd? Tryz.prog 57=some (9,[.slot 2],ir57):=by kernel_rfl
def f57(x0:Int):Option (Bool) :=
  (if (decide ((-1)≤x0))=true then (some (decide (x0≤18))) else (some false))
theorem f57_ok{x0:Int}{r_:Bool}(H:f57 x0=some r_):Pure Tryz.prog 57 [.int .i64 x0] (· = .bool r_):=by
 refine w3 fd57 fun Q hQ=>?_
 simp only[f57] at H
 refine zr ?_
 refine zr ?_
 refine ig H ?_ ?_<;>clear H<;>intro H
 ·refine zs ?_
  cases H
  exact zt (zf hQ)
 ·refine zs ?_
  cases H
  exact zt (zf hQ)
def c141_0:C:=.cond (.t 11) (.seq (.reg [iI 12 (.build [(1,(.sl 7 true [])),(1,.nilmp)] []),iI 13 (.mv (.t 6)),iN (.store 2 (.t 4) (.t 12)),iI 5 (.mv (.t 13))]) .ret) (.skip)
def c141_2:C:=.seq (.reg [iI 14 (.mv (.t 0)),iI 15 (.mv (.t 1)),iI 16 (.call (.c (.fn 139 [])) [(.t 14),(.t 15)]),iN (.store 2 (.t 4) (.t 16)),iI 5 (.mv (.c (.int .i64 0)))]) .ret
def c141_3:C:=.seq (.seq (.reg [iI 7 (.mv (.t 0)),iI 8 (.mv (.t 1)),iI 9 (.call (.c (.fn 96 [])) [(.t 7),(.t 8)]),iI 6 (.mv (.t 9))]) (.seq (.reg [iI 10 (.mv (.t 6)),iI 11 (.bin .neq (.t 10) (.c (.int .i64 0)))]) c141_0)) c141_2
def ir141:C:=.seq (.reg [iI 4 (.alloc [(1,(.sl 7 true [])),(1,.nilmp)]),iI 5 (.mv (.c (.int .i64 0)))]) c141_3
theorem fd141:fd? Tryz.prog 141=some (17,[.cell 4 2,.slot 5],ir141):=by kernel_rfl
def f141(x0:(List ApiFixture))(x1:(List ApiProfile)):Option (PatchRig×Int) :=
  (f96 x0 x1).bind fun x2=>(if (decide (x2≠0))=true then (some ((PatchRig.mk ([]) ([])),x2)) else (f139 x0 x1).bind fun x3=>(some (x3,0)))
theorem f141_ok{x0:(List ApiFixture)}{x1:(List ApiProfile)}{r_:PatchRig×Int}(H:f141 x0 x1=some r_):Pure Tryz.prog 141 [.sl 7 false (x0.map eApiFixture),.sl 4 false (x1.map eApiProfile)] (· = .tup [.agg [.sl 7 false (r_.1.fFixtures.map eApiFixture),.mp (mk AV.str r_.1.fProfiles) (mv eApiProfile r_.1.fProfiles)],.int .i64 r_.2]):=by
 refine w3 fd141 fun Q hQ=>?_
 simp only[f141] at H
 refine zr ?_
 refine zq (zr ?_)
 refine pu H f96_ok ?_<;>clear H<;>intro x2 H
 refine zE0 ?_
 refine zr ?_
 refine ic H ?_ ?_<;>clear H<;>intro H
 ·refine zr ?_
  cases H
  exact zt (zv (zf hQ))
 ·refine zk (zm (zr ?_))
  refine pu H f139_ok ?_<;>clear H<;>intro x3 H
  try simp only[eL,ePatchRig,eM,wm,↓wk,↓wl,nq,evV,↓reduceIte,sevalprocAttr]
  cases H
  exact zt (zf hQ)
def c204_1:C:=.seq (.reg [iI 5 (.mkslp 7 0 (.agg [(.int .i64 0),(.int .i64 0),(.str []),(.int .i64 0),(.int .i64 0),(.int .i64 0),(.str [])]) []),iI 6 (.mv (.t 0)),iI 7 (.append 7 72 (.t 5) (.t 6)),iI 2 (.mv (.t 7))]) .ret
def ir204:C:=.seq (.reg [iI 2 (.mv (.c (.sl 7 true [])))]) (.seq (.seq (.reg [iI 3 (.mv (.t 0)),iI 4 (.isnil false (.t 3))]) (.cond (.t 4) (.seq (.reg [iI 2 (.mv (.c (.sl 7 true [])))]) .ret) (.skip))) c204_1)
theorem fd204:fd? Tryz.prog 204=some (8,[.slot 2],ir204):=by kernel_rfl
def f204(x0:(List ApiFixture)):Option ((List ApiFixture)) :=
  (nil? (x0:List ApiFixture) false fun x1=>(if x1=true then (some []) else (app? 72 [] x0).bind fun x2=>(some x2)))
theorem f204_ok{x0:(List ApiFixture)}{r_:(List ApiFixture)}(H:f204 x0=some r_):Pure Tryz.prog 204 [.sl 7 false (x0.map eApiFixture)] (· = .fr 7 (r_.map eApiFixture)):=by
 refine w3s fd204 0 fun Q hQ=>?_
 simp only[f204] at H
 refine zr ?_
 refine zq (zr ?_)
 refine evTs_isnil (enc:=eApiFixture) H (by rfl) ?_<;>clear H<;>intro x1 H
 refine zs ?_
 refine ic H ?_ ?_<;>clear H<;>intro H
 ·refine zr ?_
  refine zt (zv ?_)
  cases H
  exact hQ _ _ _ _ (.inr rfl) (by simp only[resVs,omap,resV,wm,↓wk,↓wl,nq,evV,↓reduceIte,sevalprocAttr];rfl) hand_10 (by first | exact Or.inl rfl | exact Or.inr rfl)
 ·refine zk (zm (zr ?_))
  refine evTs_app0 (enc:=eApiFixture) H (by rfl) (by rfl) ?_<;>clear H<;>intro x2 H
  refine zs ?_
  cases H
  exact zt (zf2 hQ)
theorem dlf203:fd? Tryz.prog 203=some (42,[.slot 4],dlgC 7 [(1,(.int .i64 0)),(1,(.int .i64 0)),(1,(.str [])),(1,(.int .i64 0)),(1,(.int .i64 0)),(1,(.int .i64 0)),(1,(.str []))] (.agg [(.int .i64 0),(.int .i64 0),(.str []),(.int .i64 0),(.int .i64 0),(.int .i64 0),(.str [])]) 228):=by kernel_rfl
theorem idx228:fd? Tryz.prog 228=some (19,[.slot 4],idxC 7):=by kernel_rfl
def ir205:C:=.seq (.reg [iI 2 (.box (.t 0)),iI 3 (.mv (.c (.bool false)))]) (.seq (.reg [iI 4 (.faddr 0 (.t 2)),iI 5 (.load 0 (.t 4)),iI 6 (.load 0 (.t 1)),iI 7 (.bin .neq (.t 5) (.t 6)),iI 3 (.mv (.t 7))]) .ret)
theorem fd205:fd? Tryz.prog 205=some (8,[.slot 3],ir205):=by kernel_rfl
def f205p(x0:ApiFixture)(x1:Int):Option (Bool) :=
  (some (decide (x0.fChannel≠x1)))
theorem f205p_ok{x0:ApiFixture}{x1:Int}{r_:Bool}(H:f205p x0 x1=some r_):Pure Tryz.prog 205 [.agg [.int .i64 x0.fChannel,.int .i64 x0.fPart,.str x0.fProfile,.int .i64 x0.fUniverse,.int .i64 x0.fAddress,.int .i64 x0.fPhase,.str x0.fCable],.pro [.int .i64 x1]] (· = .bool r_):=by
 refine w3 fd205 fun Q hQ=>?_
 simp only[f205p] at H
 refine zr ?_
 refine zr ?_
 cases H
 exact zt (zf hQ)
def f156_J2:Jn (Int×Int) (Int) where
  run:=fun (x0,x1)=>(if (decide (256≤x0))=true then (at? ([0,1,2,2,3,3,3,3,4,4,4,4,4,4,4,4,5,5,5,5,5,5,5,5,5,5,5,5,5,5,5,5,6,6,6,6,6,6,6,6,6,6,6,6,6,6,6,6,6,6,6,6,6,6,6,6,6,6,6,6,6,6,6,6,7,7,7,7,7,7,7,7,7,7,7,7,7,7,7,7,7,7,7,7,7,7,7,7,7,7,7,7,7,7,7,7,7,7,7,7,7,7,7,7,7,7,7,7,7,7,7,7,7,7,7,7,7,7,7,7,7,7,7,7,7,7,7,7,8,8,8,8,8,8,8,8,8,8,8,8,8,8,8,8,8,8,8,8,8,8,8,8,8,8,8,8,8,8,8,8,8,8,8,8,8,8,8,8,8,8,8,8,8,8,8,8,8,8,8,8,8,8,8,8,8,8,8,8,8,8,8,8,8,8,8,8,8,8,8,8,8,8,8,8,8,8,8,8,8,8,8,8,8,8,8,8,8,8,8,8,8,8,8,8,8,8,8,8,8,8,8,8,8,8,8,8,8,8,8,8,8,8,8,8,8,8,8,8,8,8,8,8,8,8,8,8]:List UInt8) (IntKind.u8.wrap (Int.fdiv x0 (2 ^ (min (Int.toNat 8) (IntKind.bits .u64)))))).bind fun x2=>(some (IntKind.i64.wrap ((IntKind.i64.wrap (x1 + 8)) + (IntKind.i64.wrap (x2.toNat:Int))))) else (at? ([0,1,2,2,3,3,3,3,4,4,4,4,4,4,4,4,5,5,5,5,5,5,5,5,5,5,5,5,5,5,5,5,6,6,6,6,6,6,6,6,6,6,6,6,6,6,6,6,6,6,6,6,6,6,6,6,6,6,6,6,6,6,6,6,7,7,7,7,7,7,7,7,7,7,7,7,7,7,7,7,7,7,7,7,7,7,7,7,7,7,7,7,7,7,7,7,7,7,7,7,7,7,7,7,7,7,7,7,7,7,7,7,7,7,7,7,7,7,7,7,7,7,7,7,7,7,7,7,8,8,8,8,8,8,8,8,8,8,8,8,8,8,8,8,8,8,8,8,8,8,8,8,8,8,8,8,8,8,8,8,8,8,8,8,8,8,8,8,8,8,8,8,8,8,8,8,8,8,8,8,8,8,8,8,8,8,8,8,8,8,8,8,8,8,8,8,8,8,8,8,8,8,8,8,8,8,8,8,8,8,8,8,8,8,8,8,8,8,8,8,8,8,8,8,8,8,8,8,8,8,8,8,8,8,8,8,8,8,8,8,8,8,8,8,8,8,8,8,8,8,8,8,8,8,8,8]:List UInt8) (IntKind.u8.wrap x0)).bind fun x3=>(some (IntKind.i64.wrap (x1 + (IntKind.i64.wrap (x3.toNat:Int))))))
  cst:=fun (x0,x1)=>⟨put (put (fun _=>.junk) 2 (.int .i64 x1)) 0 (.int .u64 x0),[]⟩
theorem f156_J2c(x0:Int)(x1:Int):(f156_J2).cst (x0,x1)=⟨put (put (fun _=>.junk) 2 (.int .i64 x1)) 0 (.int .u64 x0),[]⟩:=rfl
def f156_J1:Jn (Int×Int) (Int) where
  run:=fun (x0,x1)=>(if (decide (65536≤x0))=true then ((f156_J2).run ((Int.fdiv x0 (2 ^ (min (Int.toNat 16) (IntKind.bits .u64)))),(IntKind.i64.wrap (x1 + 16)))) else ((f156_J2).run (x0,x1)))
  cst:=fun (x0,x1)=>⟨put (put (fun _=>.junk) 2 (.int .i64 x1)) 0 (.int .u64 x0),[]⟩
theorem f156_J1c(x0:Int)(x1:Int):(f156_J1).cst (x0,x1)=⟨put (put (fun _=>.junk) 2 (.int .i64 x1)) 0 (.int .u64 x0),[]⟩:=rfl
def c156_3:C:=.cond (.t 8) (.seq (.reg [iI 9 (.mv (.t 0)),iI 10 (.bin .shr (.t 9) (.c (.int .u64 16))),iI 0 (.mv (.t 10))]) (.reg [iI 11 (.mv (.t 2)),iI 12 (.bin .add (.t 11) (.c (.int .i64 16))),iI 2 (.mv (.t 12))])) (.skip)
def c156_5:C:=.cond (.t 14) (.seq (.reg [iI 15 (.mv (.t 0)),iI 16 (.bin .shr (.t 15) (.c (.int .u64 8))),iI 0 (.mv (.t 16))]) (.reg [iI 17 (.mv (.t 2)),iI 18 (.bin .add (.t 17) (.c (.int .i64 8))),iI 2 (.mv (.t 18))])) (.skip)
def c156_6:C:=.seq (.reg [iI 19 (.mv (.t 2)),iI 20 (.mv (.t 0)),iI 21 (.cint .u8 (.t 20)),iI 22 (.sidx (.c (.str [0,1,2,2,3,3,3,3,4,4,4,4,4,4,4,4,5,5,5,5,5,5,5,5,5,5,5,5,5,5,5,5,6,6,6,6,6,6,6,6,6,6,6,6,6,6,6,6,6,6,6,6,6,6,6,6,6,6,6,6,6,6,6,6,7,7,7,7,7,7,7,7,7,7,7,7,7,7,7,7,7,7,7,7,7,7,7,7,7,7,7,7,7,7,7,7,7,7,7,7,7,7,7,7,7,7,7,7,7,7,7,7,7,7,7,7,7,7,7,7,7,7,7,7,7,7,7,7,8,8,8,8,8,8,8,8,8,8,8,8,8,8,8,8,8,8,8,8,8,8,8,8,8,8,8,8,8,8,8,8,8,8,8,8,8,8,8,8,8,8,8,8,8,8,8,8,8,8,8,8,8,8,8,8,8,8,8,8,8,8,8,8,8,8,8,8,8,8,8,8,8,8,8,8,8,8,8,8,8,8,8,8,8,8,8,8,8,8,8,8,8,8,8,8,8,8,8,8,8,8,8,8,8,8,8,8,8,8,8,8,8,8,8,8,8,8,8,8,8,8,8,8,8,8,8,8])) (.t 21)),iI 23 (.cint .i64 (.t 22)),iI 24 (.bin .add (.t 19) (.t 23)),iI 2 (.mv (.t 24))]) .ret
def c156_8:C:=.seq (.seq (.reg [iI 7 (.mv (.t 0)),iI 8 (.bin .geq (.t 7) (.c (.int .u64 65536)))]) c156_3) (.seq (.seq (.reg [iI 13 (.mv (.t 0)),iI 14 (.bin .geq (.t 13) (.c (.int .u64 256)))]) c156_5) c156_6)
def c156_9:C:=.seq (.seq (.reg [iI 3 (.mv (.t 0)),iI 4 (.bin .geq (.t 3) (.c (.int .u64 4294967296)))]) (.cond (.t 4) (.seq (.reg [iI 5 (.mv (.t 0)),iI 6 (.bin .shr (.t 5) (.c (.int .u64 32))),iI 0 (.mv (.t 6))]) (.reg [iI 2 (.mv (.c (.int .i64 32)))])) (.skip))) c156_8
def ir156:C:=.seq (.reg [iI 2 (.mv (.c (.int .i64 0)))]) c156_9
theorem fd156:fd? Tryz.prog 156=some (25,[.slot 2],ir156):=by kernel_rfl
def f156(x0:Int):Option (Int) :=
  (if (decide (4294967296≤x0))=true then ((f156_J1).run ((Int.fdiv x0 (2 ^ (min (Int.toNat 32) (IntKind.bits .u64)))),32)) else ((f156_J1).run (x0,0)))
theorem f156_ok{x0:Int}{r_:Int}(H:f156 x0=some r_):Pure Tryz.prog 156 [.int .u64 x0] (· = .int .i64 r_):=by
 refine w3 fd156 fun Q hQ=>?_
 simp only[f156] at H
 refine zr ?_
 refine AW.join (f156_J1) H ?_ fun hf156_J1=>?_
 ·clear H
  rintro ⟨x1,x2⟩ st0_ H hst_
  rw[f156_J1c] at hst_
  unfold f156_J1 at H
  try dsimp only at H
  subst hst_
  refine AW.join (f156_J2) H ?_ fun hf156_J2=>?_
  ·clear H
   rintro ⟨x3,x4⟩ st0_ H hst_
   rw[f156_J2c] at hst_
   unfold f156_J2 at H
   try dsimp only at H
   subst hst_
   refine zq (zr ?_)
   refine ic H ?_ ?_<;>clear H<;>intro H
   ·refine zr ?_
    refine rest_shr (by decide) ?_
    refine zs ?_
    refine ze ?_
    refine zm (zr ?_)
    refine ib H ?_<;>clear H<;>intro x5 H
    refine zs ?_
    cases H
    exact zt (zf hQ)
   ·refine zk (zm (zr ?_))
    refine ib H ?_<;>clear H<;>intro x6 H
    refine zs ?_
    cases H
    exact zt (zf hQ)
  ·refine zr ?_
   refine ic H ?_ ?_<;>clear H<;>intro H
   ·refine zr ?_
    refine rest_shr (by decide) ?_
    refine zs ?_
    refine ze ?_
    refine zm ?_
    exact hf156_J2 _ _ H ((Le.tz [] [0,2] (by simp only[f156_J2c,wm,wmr,rrm,↓wk,↓wl,evV,↓reduceIte,sevalprocAttr]<;>rfl)))
   ·refine zk (zm ?_)
    exact hf156_J2 _ _ H ((Le.tz [] [0,2] (by simp only[f156_J2c,wm,wmr,rrm,↓wk,↓wl,evV,↓reduceIte,sevalprocAttr]<;>rfl)))
 ·refine zr ?_
  refine ic H ?_ ?_<;>clear H<;>intro H
  ·refine zr ?_
   refine rest_shr (by decide) ?_
   refine zs ?_
   refine ze ?_
   refine zm ?_
   exact hf156_J1 _ _ H ((Le.tz [] [0,2] (by simp only[f156_J1c,wm,wmr,rrm,↓wk,↓wl,evV,↓reduceIte,sevalprocAttr]<;>rfl)))
  ·refine zk (zm ?_)
   exact hf156_J1 _ _ H ((Le.tz [] [0,2] (by simp only[f156_J1c,wm,wmr,rrm,↓wk,↓wl,evV,↓reduceIte,sevalprocAttr]<;>rfl)))
def c103_1:C:=.seq (.cond (.c (.bool false)) (.seq (.reg [iI 3 (.mv (.t 0)),iI 4 (.cint .u32 (.t 3)),iI 5 (.call (.c (.fn 155 [])) [(.t 4)]),iI 2 (.mv (.t 5))]) .ret) (.skip)) (.seq (.reg [iI 6 (.mv (.t 0)),iI 7 (.call (.c (.fn 156 [])) [(.t 6)]),iI 2 (.mv (.t 7))]) .ret)
def ir103:C:=.seq (.reg [iI 2 (.mv (.c (.int .i64 0)))]) c103_1
theorem fd103:fd? Tryz.prog 103=some (8,[.slot 2],ir103):=by kernel_rfl
def f103(x0:Int):Option (Int) :=
  (f156 x0).bind fun x1=>(some x1)
theorem f103_ok{x0:Int}{r_:Int}(H:f103 x0=some r_):Pure Tryz.prog 103 [.int .u64 x0] (· = .int .i64 r_):=by
 refine w3 fd103 fun Q hQ=>?_
 simp only[f103] at H
 refine zr ?_
 refine zq (zc (zk (zm (zr ?_))))
 refine pu H f156_ok ?_<;>clear H<;>intro x1 H
 refine zE0 ?_
 cases H
 exact zt (zf hQ)
theorem len103:∀ n:Nat,n≤12→∃ r:Int,Pure Tryz.prog 103 [.int .u64 (n:Int)] (· = .int .i64 r):=fun n hn=>match n,hn with | 0,_=>⟨0,f103_ok (by kernel_rfl)⟩ | 1,_=>⟨1,f103_ok (by kernel_rfl)⟩ | 2,_=>⟨2,f103_ok (by kernel_rfl)⟩ | 3,_=>⟨2,f103_ok (by kernel_rfl)⟩ | 4,_=>⟨3,f103_ok (by kernel_rfl)⟩ | 5,_=>⟨3,f103_ok (by kernel_rfl)⟩ | 6,_=>⟨3,f103_ok (by kernel_rfl)⟩ | 7,_=>⟨3,f103_ok (by kernel_rfl)⟩ | 8,_=>⟨4,f103_ok (by kernel_rfl)⟩ | 9,_=>⟨4,f103_ok (by kernel_rfl)⟩ | 10,_=>⟨4,f103_ok (by kernel_rfl)⟩ | 11,_=>⟨4,f103_ok (by kernel_rfl)⟩ | 12,_=>⟨4,f103_ok (by kernel_rfl)⟩ | n + 13,h=>absurd h (by omega)
theorem srf206:Sorts Tryz.prog 7 206 231 245 103:=⟨by kernel_rfl,by kernel_rfl,by kernel_rfl,len103⟩
def c207_0:C:=.seq (.reg [iI 5 (.faddr 1 (.t 2)),iI 6 (.load 0 (.t 5)),iI 7 (.faddr 1 (.t 3)),iI 8 (.load 0 (.t 7)),iI 9 (.bin .sub (.t 6) (.t 8)),iI 4 (.mv (.t 9))]) .ret
def ir207:C:=.seq (.reg [iI 2 (.box (.t 0)),iI 3 (.box (.t 1)),iI 4 (.mv (.c (.int .i64 0)))]) c207_0
theorem fd207:fd? Tryz.prog 207=some (10,[.slot 4],ir207):=by kernel_rfl
def f207(x0:ApiFixture)(x1:ApiFixture):Option (Int) :=
  (some (IntKind.i64.wrap (x0.fPart - x1.fPart)))
theorem f207_ok{x0:ApiFixture}{x1:ApiFixture}{r_:Int}(H:f207 x0 x1=some r_):Pure Tryz.prog 207 [.agg [.int .i64 x0.fChannel,.int .i64 x0.fPart,.str x0.fProfile,.int .i64 x0.fUniverse,.int .i64 x0.fAddress,.int .i64 x0.fPhase,.str x0.fCable],.agg [.int .i64 x1.fChannel,.int .i64 x1.fPart,.str x1.fProfile,.int .i64 x1.fUniverse,.int .i64 x1.fAddress,.int .i64 x1.fPhase,.str x1.fCable]] (· = .int .i64 r_):=by
 refine w3 fd207 fun Q hQ=>?_
 simp only[f207] at H
 refine zr ?_
 refine zr ?_
 cases H
 exact zt (zf hQ)
def c142_2:C:=.seq (.reg [iI 6 (.faddr 0 (.t 2)),iI 7 (.load 0 (.t 6)),iI 8 (.call (.c (.fn 204 [])) [(.t 7)]),iI 9 (.mkfn 205 [(.t 3)]),iI 10 (.call (.c (.fn 203 [])) [(.t 8),(.t 9)]),iI 5 (.mv (.t 10))]) (.seq (.reg [iI 11 (.mv (.t 5)),iI 12 (.call (.c (.fn 206 [])) [(.t 11),(.c (.fn 207 []))])]) (.seq (.reg [iI 13 (.mv (.t 5)),iI 4 (.mv (.t 13))]) .ret))
def ir142:C:=.seq (.reg [iI 2 (.box (.t 0)),iI 3 (.box (.t 1)),iI 4 (.mv (.c (.sl 7 true [])))]) c142_2
theorem fd142:fd? Tryz.prog 142=some (14,[.slot 4],ir142):=by kernel_rfl
def f142(x0:PatchRig)(x1:Int):Option ((List ApiFixture)) :=
  (f204 x0.fFixtures).bind fun x2=>(delf? (fun x3=>f205p x3 x1) x2).bind fun x4=>(sortf? (fun x5 x6=>f207 x5 x6) x4).bind fun x7=>(some x7)
theorem f142_ok{x0:PatchRig}{x1:Int}{r_:(List ApiFixture)}(H:f142 x0 x1=some r_):Pure Tryz.prog 142 [.agg [.sl 7 false (x0.fFixtures.map eApiFixture),.mp (mk AV.str x0.fProfiles) (mv eApiProfile x0.fProfiles)],.int .i64 x1] (· = .fr 7 (r_.map eApiFixture)):=by
 refine w3s fd142 0 fun Q hQ=>?_
 simp only[f142] at H
 refine zr ?_
 refine zr ?_
 refine evTs_fr H (fun _ h=>f204_ok h) (by rfl) (by rfl) (by rfl) (by rfl) (fun _=>rfl) ?_<;>clear H<;>intro x2 H
 refine zE0 ?_
 refine evTs_dlg (enc:=eApiFixture) H [.pro [.int .i64 x1]] (fun _ _ h=>f205p_ok h) dlf203 (by decide) (by rfl) idx228 (by rfl) (by rfl) (by show List.map (renB [0,1,2]) _=_;simp only[wm,wmr,rrm,↓wk,↓wl,evV,↓reduceIte,sevalprocAttr]) (by show ren [0,1,2] deep _=_;simp only[wm,wmr,rrm,↓wk,↓wl,evV,↓reduceIte,sevalprocAttr]) (fun h_ hh_ x_=>by have e0_:=hh_ 1 _ (by decide) (by rfl);simp only[deep_eq,imm_simps,imm_ptrE,imm_mrefE,imm_mpE,imm_arowE,imm_encx (enc:=eApiFixture),omap_simps,List.drop_zero,Option.map_some,e0_,wm,↓wk,↓wl,nq,evV,↓reduceIte,sevalprocAttr]<;>rfl) (by first | rfl | simp only[List.length_set]) (by rfl) ?_<;>clear H<;>intro x3 H
 refine zs ?_
 refine zr ?_
 refine evTs_srf (enc:=eApiFixture) H [] (fun _ _ _ h=>f207_ok h) srf206 (by rfl) (by rfl) (fun h_ hh_ x_ y_=>by  simp only[deep_eq,imm_simps,imm_ptrE,imm_mrefE,imm_mpE,imm_arowE,imm_encx (enc:=eApiFixture),omap_simps,List.drop_zero,Option.map_some,wm,↓wk,↓wl,nq,evV,↓reduceIte,sevalprocAttr]<;>rfl) (by first | rfl | simp only[List.length_set]) (by rfl) ?_<;>clear H<;>intro x4 x5 H
 have x6:=fun f=>take_map_eq x5 f
 try simp only[wm,↓wk,↓wl,nq,evV,↓reduceIte,sevalprocAttr,x5,x6]
 refine AW.rseq ?_
 try simp only[wm,↓wk,↓wl,nq,evV,↓reduceIte,sevalprocAttr,x5,x6]
 refine zt ?_
 cases H
 exact hQ _ _ _ _ (.inr rfl) (by simp only[resVs,omap,resV,wm,↓wk,↓wl,nq,evV,↓reduceIte,sevalprocAttr,x5,x6];rfl) (hand_1 (by rfl) (by first | rfl | (simp only[List.length_map,List.length_set,x5];done) | simp[x5]) (enc_all _)) (by first | exact Or.inl rfl | exact Or.inr rfl)
theorem f142_im{x0:PatchRig}{x1:Int}{r_:(List ApiFixture)}(H:f142 x0 x1=some r_):Pure Tryz.prog 142 [.agg [.sl 7 false (x0.fFixtures.map eApiFixture),.mp (mk AV.str x0.fProfiles) (mv eApiProfile x0.fProfiles)],.int .i64 x1] (· = .sl 7 false (r_.map eApiFixture)):=(f142_ok H).unfr (by first | exact enc_fits _ | simp only[frFits,List.all_cons,List.all_nil,enc_fits,Bool.and_self])
def f97_L2(x0:ApiProfile)(x1:Int)(x2:(List ApiFixture))(x3:PatchRig×Int):Lp (Int×(List Int)) ((List Int)) where
  body:=fun (x4,x5)=>(if (decide (x4<((x0.fFeatures.length:Nat):Int)))=true then (at? x0.fFeatures x4).bind fun x6=>(app? 8 x5 ([x6.fAttr])).bind fun x7=>(some (.next ((IntKind.i64.wrap (x4 + 1)),x7))) else (some (.brk x5)))
  cst:=fun (x4,x5)=>⟨put (put (put (put (put (put (put (put (fun _=>.junk) 39 (.int .i64 x4)) 38 (.int .i64 ((x0.fFeatures.length:Nat):Int))) 37 (.sl 10 false (x0.fFeatures.map eApiFeature))) 28 (.int .i64 x1)) 27 (.int .i64 ((x2.length:Nat):Int))) 26 (.sl 7 false (x2.map eApiFixture))) 10 (.row 0 1 0 x5.length)) 8 (.ptr 0 0),[.cel [.sl 7 false (x3.1.fFixtures.map eApiFixture),.mp (mk AV.str x3.1.fProfiles) (mv eApiProfile x3.1.fProfiles)],.els 0 (x5.map (AV.int .i64))]⟩
theorem f97_L2c(x0:ApiProfile)(x1:Int)(x2:(List ApiFixture))(x3:PatchRig×Int)(x4:Int)(x5:(List Int)):(f97_L2 x0 x1 x2 x3).cst (x4,x5)=⟨put (put (put (put (put (put (put (put (fun _=>.junk) 39 (.int .i64 x4)) 38 (.int .i64 ((x0.fFeatures.length:Nat):Int))) 37 (.sl 10 false (x0.fFeatures.map eApiFeature))) 28 (.int .i64 x1)) 27 (.int .i64 ((x2.length:Nat):Int))) 26 (.sl 7 false (x2.map eApiFixture))) 10 (.row 0 1 0 x5.length)) 8 (.ptr 0 0),[.cel [.sl 7 false (x3.1.fFixtures.map eApiFixture),.mp (mk AV.str x3.1.fProfiles) (mv eApiProfile x3.1.fProfiles)],.els 0 (x5.map (AV.int .i64))]⟩:=rfl
def f97_L1(x0:(List ApiFixture))(x1:PatchRig×Int):Lp (Int×(List Int)) ((List Int)) where
  body:=fun (x2,x3)=>(if (decide (x2<((x0.length:Nat):Int)))=true then (at? x0 x2).bind fun x4=>(look? (x1.1.fProfiles:(List ((List UInt8)×ApiProfile))) x4.fProfile ((ApiProfile.mk ([]) 0 0 ([])):ApiProfile) fun x5 x6=>(Lp.run (f97_L2 x5 x2 x0 x1) (0,x3)).bind fun x7=>(some (.next ((IntKind.i64.wrap (x2 + 1)),x7)))) else (some (.brk x3)))
  cst:=fun (x2,x3)=>⟨put (put (put (put (put (fun _=>.junk) 28 (.int .i64 x2)) 27 (.int .i64 ((x0.length:Nat):Int))) 26 (.sl 7 false (x0.map eApiFixture))) 10 (.row 0 1 0 x3.length)) 8 (.ptr 0 0),[.cel [.sl 7 false (x1.1.fFixtures.map eApiFixture),.mp (mk AV.str x1.1.fProfiles) (mv eApiProfile x1.1.fProfiles)],.els 0 (x3.map (AV.int .i64))]⟩
theorem f97_L1c(x0:(List ApiFixture))(x1:PatchRig×Int)(x2:Int)(x3:(List Int)):(f97_L1 x0 x1).cst (x2,x3)=⟨put (put (put (put (put (fun _=>.junk) 28 (.int .i64 x2)) 27 (.int .i64 ((x0.length:Nat):Int))) 26 (.sl 7 false (x0.map eApiFixture))) 10 (.row 0 1 0 x3.length)) 8 (.ptr 0 0),[.cel [.sl 7 false (x1.1.fFixtures.map eApiFixture),.mp (mk AV.str x1.1.fProfiles) (mv eApiProfile x1.1.fProfiles)],.els 0 (x3.map (AV.int .i64))]⟩:=rfl
def c97_1:C:=.reg [iI 43 (.mv (.t 10)),iI 44 (.faddr 0 (.t 14)),iI 45 (.load 0 (.t 44)),iI 46 (.mkslp 0 1 (.int .i64 0) [(0,(.t 45))]),iI 47 (.append 0 8 (.t 43) (.t 46)),iI 10 (.mv (.t 47))]
def c97_3:C:=.seq (.block 3 (.seq (.reg [iI 41 (.iaddr 10 (.t 37) (.t 39)),iI 42 (.load 10 (.t 41)),iI 14 (.alloc [(1,(.int .i64 0)),(1,(.int .i64 0)),(1,(.int .i64 0)),(1,(.int .i64 0)),(1,(.int .i64 0)),(1,(.int .i64 0)),(1,(.int .i64 0)),(1,(.int .i64 0)),(1,(.bool false)),(1,(.sl 3 true []))]),iN (.store 10 (.t 14) (.t 42))]) c97_1)) (.reg [iI 48 (.bin .add (.t 39) (.c (.int .i64 1))),iI 39 (.mv (.t 48))])
def c97_6:C:=.seq (.reg [iI 32 (.faddr 1 (.t 8)),iI 33 (.load 0 (.t 32)),iI 34 (.faddr 2 (.t 12)),iI 35 (.load 0 (.t 34)),iI 36 (.lookup 1 (.agg [(.str []),(.int .i64 0),(.int .i64 0),(.sl 10 true [])]) false (.t 33) (.t 35)),iI 37 (.fld 3 0 (.t 36)),iI 38 (.len 0 (.t 37)),iI 39 (.mv (.c (.int .i64 0)))]) (.block 2 (.loop (.seq (.reg [iI 40 (.bin .lss (.t 39) (.t 38))]) (.seq (.cond (.t 40) (.skip) (.exit 2)) c97_3))))
def c97_8:C:=.seq (.block 1 (.seq (.reg [iI 30 (.iaddr 7 (.t 26) (.t 28)),iI 31 (.load 7 (.t 30)),iI 12 (.alloc [(1,(.int .i64 0)),(1,(.int .i64 0)),(1,(.str [])),(1,(.int .i64 0)),(1,(.int .i64 0)),(1,(.int .i64 0)),(1,(.str []))]),iN (.store 7 (.t 12) (.t 31))]) c97_6)) (.reg [iI 49 (.bin .add (.t 28) (.c (.int .i64 1))),iI 28 (.mv (.t 49))])
def c97_12:C:=.seq (.reg [iI 50 (.mv (.t 10)),iI 51 (.call (.c (.fn 80 [])) [(.t 50)])]) (.seq (.reg [iI 52 (.mv (.t 10)),iI 53 (.call (.c (.fn 143 [])) [(.t 52)]),iI 6 (.mv (.t 53)),iI 7 (.mv (.c (.int .i64 0)))]) .ret)
def c97_13:C:=.seq (.seq (.reg [iI 24 (.load 2 (.t 8)),iI 25 (.mv (.t 2)),iI 26 (.call (.c (.fn 142 [])) [(.t 24),(.t 25)]),iI 27 (.len 0 (.t 26)),iI 28 (.mv (.c (.int .i64 0)))]) (.block 0 (.loop (.seq (.reg [iI 29 (.bin .lss (.t 28) (.t 27))]) (.seq (.cond (.t 29) (.skip) (.exit 0)) c97_8))))) c97_12
def c97_15:C:=.seq (.seq (.reg [iI 21 (.mv (.t 9)),iI 22 (.bin .neq (.t 21) (.c (.int .i64 0)))]) (.cond (.t 22) (.seq (.reg [iI 23 (.mv (.t 9)),iI 6 (.mv (.c (.sl 0 true []))),iI 7 (.mv (.t 23))]) .ret) (.skip))) (.seq (.reg [iI 10 (.mv (.c (.sl 0 true [])))]) c97_13)
def c97_16:C:=.seq (.reg [iI 16 (.mv (.t 0)),iI 17 (.mv (.t 1)),iI 18 (.call (.c (.fn 141 [])) [(.t 16),(.t 17)]),iI 15 (.mv (.t 18)),iI 19 (.ext (.t 15) 0),iI 20 (.ext (.t 15) 1),iI 8 (.alloc [(1,(.sl 7 true [])),(1,.nilmp)]),iN (.store 2 (.t 8) (.t 19)),iI 9 (.mv (.t 20))]) c97_15
def ir97:C:=.seq (.reg [iI 6 (.mv (.c (.sl 0 true []))),iI 7 (.mv (.c (.int .i64 0)))]) c97_16
theorem fd97:fd? Tryz.prog 97=some (54,[.slot 6,.slot 7],ir97):=by kernel_rfl
def f97(x0:(List ApiFixture))(x1:(List ApiProfile))(x2:Int):Option ((List Int)×Int) :=
  (f141 x0 x1).bind fun x3=>(if (decide (x3.2≠0))=true then (some ([],x3.2)) else (f142 x3.1 x2).bind fun x4=>(Lp.run (f97_L1 x4 x3) (0,[])).bind fun x5=>(sort? x5).bind fun x6=>(compact? x6).bind fun x7=>(some (x7,0)))
theorem f97_ok{x0:(List ApiFixture)}{x1:(List ApiProfile)}{x2:Int}{r_:(List Int)×Int}(H:f97 x0 x1 x2=some r_):Pure Tryz.prog 97 [.sl 7 false (x0.map eApiFixture),.sl 4 false (x1.map eApiProfile),.int .i64 x2] (· = .tup [.fr 0 (r_.1.map (AV.int .i64)),.int .i64 r_.2]):=by
 refine w3s fd97 0 fun Q hQ=>?_
 simp only[f97] at H
 refine zr ?_
 refine zr ?_
 refine pu H f141_ok ?_<;>clear H<;>intro x3 H
 try simp only[eL,ePatchRig,eM,wm,↓wk,↓wl,nq,evV,↓reduceIte,sevalprocAttr]
 refine zq (zr ?_)
 refine ic H ?_ ?_<;>clear H<;>intro H
 ·refine zr ?_
  cases H
  exact zt (zv (zf0 hQ))
 ·refine zk (zm (zr ?_))
  refine zq (zr ?_)
  refine pu H f142_im ?_<;>clear H<;>intro x4 H
  refine zE0 ?_
  refine zd ?_
  refine AW.iter H ((Le.trans (Le.nilRow (i:=10) (e:=0) (by simp only[↓wk,↓wl,nq,evV,↓reduceIte,sevalprocAttr])) (Le.tz [0,1] [8,10,26,27,28] (by simp only[f97_L1c,wm,wmr,rrm,↓wk,↓wl,evV,↓reduceIte,sevalprocAttr]<;>rfl)))) ?_<;>clear H
  rintro ⟨x5,x6⟩ x_ st0_ H hst_
  rw[f97_L1c] at hst_
  simp only[f97_L1] at H
  subst hst_
  refine zr ?_
  refine zq (ic H ?_ ?_)<;>clear H<;>intro H
  ·refine zk (zm (zb (zr ?_)))
   refine ia eApiFixture H ?_<;>clear H<;>intro x7 H
   refine zE8 ?_
   refine zr ?_
   refine evTs_lookP (ek:=AV.str) (ev:=eApiProfile) H false (by rfl) (by rfl) (by rfl) ?_<;>clear H<;>intro x8 x9 H
   refine zE6 ?_
   refine zd ?_
   refine zU H [0,1] [8,10,26,27,28,37,38,39] (f97_L2c ..) ?_<;>clear H
   rintro ⟨xa,xb⟩ x_ st0_ H hst_
   rw[f97_L2c] at hst_
   simp only[f97_L2] at H
   subst hst_
   refine zr ?_
   refine zq (ic H ?_ ?_)<;>clear H<;>intro H
   ·refine zk (zm (zb (zr ?_)))
    refine ia eApiFeature H ?_<;>clear H<;>intro xc H
    refine zE5 ?_
    refine ze ?_
    refine ap (AV.int .i64) H ?_<;>clear H<;>intro xd H
    refine zs ?_
    refine zo (ze ?_)
    exact zu H [0,3] [8,10,26,27,28,37,38,39] (f97_L2c ..)
   ·refine zx (zy (loopQ.exit H ?_))<;>clear H<;>intro H
    try dsimp only at H
    refine zi (zo (ze ?_))
    exact zu H [0,1] [8,10,26,27,28] (f97_L1c ..)
  ·refine zx (zy (loopQ.exit H ?_))<;>clear H<;>intro H
   try dsimp only at H
   refine zi (zm (zr ?_))
   refine evTs_sort sorts80 H (by rfl) (by rfl) (by first | rfl | simp only[List.length_set]) (by rfl) ?_<;>clear H<;>intro xe xf H
   have xg:=fun f=>take_map_eq xf f
   try simp only[wm,↓wk,↓wl,nq,evV,↓reduceIte,sevalprocAttr,xf,xg]
   refine AW.rseq ?_
   try simp only[wm,↓wk,↓wl,nq,evV,↓reduceIte,sevalprocAttr,xf,xg]
   refine evTs_compact compacts143 H (by rfl) (by rfl) (by first | rfl | simp only[List.length_set,xf,xg]) (by rfl) ?_<;>clear H<;>intro xh H
   try simp only[wm,↓wk,↓wl,nq,evV,↓reduceIte,sevalprocAttr,xf,xg]
   refine zt ?_
   cases H
   exact hQ _ _ _ _ (.inr rfl) (by simp only[resVs,omap,resV,wm,↓wk,↓wl,nq,evV,↓reduceIte,sevalprocAttr,xf,xg];rfl) (hand_k (by rfl) (by rfl) (by first | rfl | (simp only[List.length_map,List.length_set,xf];done) | simp[xf]) (enc_all _) (by rfl)) (by first | exact Or.inl rfl | exact Or.inr rfl)
def c144_1:C:=.cond (.t 14) (.seq (.reg [iI 2 (.mv (.c (.int .i64 1))),iI 3 (.mv (.c (.int .i64 0)))]) .ret) (.seq (.reg [iI 18 (.mv (.t 0)),iI 19 (.bin .leq (.t 18) (.c (.int .i64 10))),iI 17 (.mv (.t 19))]) (.cond (.t 17) (.seq (.reg [iI 2 (.mv (.c (.int .i64 2))),iI 3 (.mv (.c (.int .i64 0)))]) .ret) (.skip)))
def c144_2:C:=.cond (.t 11) (.seq (.reg [iI 2 (.mv (.c (.int .i64 0))),iI 3 (.mv (.c (.int .i64 0)))]) .ret) (.seq (.reg [iI 15 (.mv (.t 0)),iI 16 (.bin .leq (.t 15) (.c (.int .i64 2))),iI 14 (.mv (.t 16))]) c144_1)
def c144_3:C:=.cond (.t 4) (.seq (.reg [iI 2 (.mv (.c (.int .i64 0))),iI 3 (.mv (.c (.int .i64 1)))]) .ret) (.seq (.reg [iI 12 (.mv (.t 0)),iI 13 (.bin .eql (.t 12) (.c (.int .i64 0))),iI 11 (.mv (.t 13))]) c144_2)
def c144_5:C:=.seq (.block 0 (.seq (.reg [iI 5 (.mv (.t 0)),iI 6 (.bin .lss (.t 5) (.c (.int .i64 0))),iI 7 (.mv (.t 6)),iG (some 8) 7 false (.mv (.t 0)),iG (some 9) 7 false (.bin .geq (.t 8) (.c (.int .i64 15))),iI 10 (.pick (.t 7) (.c (.bool true)) (.t 9)),iI 4 (.mv (.t 10))]) c144_3)) (.seq (.reg [iI 2 (.mv (.c (.int .i64 3))),iI 3 (.mv (.c (.int .i64 0)))]) .ret)
def ir144:C:=.seq (.reg [iI 2 (.mv (.c (.int .i64 0))),iI 3 (.mv (.c (.int .i64 0)))]) c144_5
theorem fd144:fd? Tryz.prog 144=some (20,[.slot 2,.slot 3],ir144):=by kernel_rfl
def f144(x0:Int):Option (Int×Int) :=
  (if (decide (x0<0))=true then (some (0,1)) else (if (decide (15≤x0))=true then (some (0,1)) else (if (decide (x0=0))=true then (some (0,0)) else (if (decide (x0≤2))=true then (some (1,0)) else (if (decide (x0≤10))=true then (some (2,0)) else (some (3,0)))))))
theorem f144_ok{x0:Int}{r_:Int×Int}(H:f144 x0=some r_):Pure Tryz.prog 144 [.int .i64 x0] (· = .tup [.int .i64 r_.1,.int .i64 r_.2]):=by
 refine w3 fd144 fun Q hQ=>?_
 simp only[f144] at H
 refine zr ?_
 refine zb (zr ?_)
 refine ig H ?_ ?_<;>clear H<;>intro H
 ·refine zs ?_
  refine za (zr ?_)
  cases H
  exact zt (zp (zf hQ))
 ·refine zs ?_
  refine ic H ?_ ?_<;>clear H<;>intro H
  ·refine zr ?_
   cases H
   exact zt (zp (zf hQ))
  ·refine zr ?_
   refine ic H ?_ ?_<;>clear H<;>intro H
   ·refine zr ?_
    cases H
    exact zt (zp (zf hQ))
   ·refine zr ?_
    refine ic H ?_ ?_<;>clear H<;>intro H
    ·refine zr ?_
     cases H
     exact zt (zp (zf hQ))
    ·refine zr ?_
     refine ic H ?_ ?_<;>clear H<;>intro H
     ·refine zr ?_
      cases H
      exact zt (zp (zf hQ))
     ·refine zk (zo (zr ?_))
      cases H
      exact zt (zf hQ)
def c99_0:C:=.cond (.t 8) (.seq (.reg [iI 9 (.mv (.t 1)),iI 10 (.bin .eql (.t 9) (.c (.int .i64 (-1)))),iI 11 (.mv (.t 10)),iG (some 12) 11 false (.mv (.t 1)),iG (some 13) 11 false (.mv (.t 0)),iG (some 14) 11 false (.bin .eql (.t 12) (.t 13)),iI 15 (.pick (.t 11) (.c (.bool true)) (.t 14)),iI 4 (.mv (.t 15))]) .ret) (.skip)
def c99_1:C:=.seq (.reg [iI 21 (.mv (.t 6)),iI 22 (.bin .eql (.t 21) (.c (.int .i64 0))),iI 23 (.mv (.t 22)),iG (some 24) 23 true (.mv (.t 5)),iG (some 25) 23 true (.mv (.t 1)),iG (some 26) 23 true (.bin .sub (.t 25) (.c (.int .i64 15))),iG (some 27) 23 true (.bin .eql (.t 24) (.t 26)),iI 28 (.pick (.t 23) (.t 27) (.c (.bool false))),iI 4 (.mv (.t 28))]) .ret
def c99_2:C:=.seq (.reg [iI 17 (.mv (.t 0)),iI 18 (.call (.c (.fn 144 [])) [(.t 17)]),iI 16 (.mv (.t 18)),iI 19 (.ext (.t 16) 0),iI 20 (.ext (.t 16) 1),iI 5 (.mv (.t 19)),iI 6 (.mv (.t 20))]) c99_1
def ir99:C:=.seq (.reg [iI 4 (.mv (.c (.bool false)))]) (.seq (.seq (.reg [iI 7 (.mv (.t 1)),iI 8 (.bin .lss (.t 7) (.c (.int .i64 15)))]) c99_0) c99_2)
theorem fd99:fd? Tryz.prog 99=some (29,[.slot 4],ir99):=by kernel_rfl
def f99(x0:Int)(x1:Int):Option (Bool) :=
  (if (decide (x1<15))=true then (if (decide (x1=(-1)))=true then (some true) else (some (decide (x1=x0)))) else (f144 x0).bind fun x2=>(if (decide (x2.2=0))=true then (some (decide (x2.1=(IntKind.i64.wrap (x1 - 15))))) else (some false)))
end
end Go.Proofs.YtnaemmpcffnbkaaGreatDoor
