import Derived.Test.YtgjfhplkochbpaaGreatAZ1
import Derived.Test.YtgjfhplkochbpaaGreatAM6
import Derived.Test.YtgjfhplkochbpaaGreatAMB
import Derived.Test.YtgjfhplkochbpaaGreatASF
import Derived.Test.YtgjfhplkochbpaaGreatAAK
import Derived.Test.YtgjfhplkochbpaaGreatACO
import Derived.Test.YtgjfhplkochbpaaGreatProg
import Derived.KernelRfl
namespace Go.Proofs.YtgjfhplkochbpaaGreat
open Go Go.Ab
set_option maxHeartbeats 1000000
set_option maxRecDepth 4000
set_option linter.unusedSimpArgs false
set_option linter.unusedVariables false
noncomputable def f65_J2:Jn (Int×Int) (Int) where
  run:=fun (x0,x1)=>(if (decide (256≤x0))=true then (at? ([0,1,2,2,3,3,3,3,4,4,4,4,4,4,4,4,5,5,5,5,5,5,5,5,5,5,5,5,5,5,5,5,6,6,6,6,6,6,6,6,6,6,6,6,6,6,6,6,6,6,6,6,6,6,6,6,6,6,6,6,6,6,6,6,7,7,7,7,7,7,7,7,7,7,7,7,7,7,7,7,7,7,7,7,7,7,7,7,7,7,7,7,7,7,7,7,7,7,7,7,7,7,7,7,7,7,7,7,7,7,7,7,7,7,7,7,7,7,7,7,7,7,7,7,7,7,7,7,8,8,8,8,8,8,8,8,8,8,8,8,8,8,8,8,8,8,8,8,8,8,8,8,8,8,8,8,8,8,8,8,8,8,8,8,8,8,8,8,8,8,8,8,8,8,8,8,8,8,8,8,8,8,8,8,8,8,8,8,8,8,8,8,8,8,8,8,8,8,8,8,8,8,8,8,8,8,8,8,8,8,8,8,8,8,8,8,8,8,8,8,8,8,8,8,8,8,8,8,8,8,8,8,8,8,8,8,8,8,8,8,8,8,8,8,8,8,8,8,8,8,8,8,8,8,8,8]:List UInt8) (IntKind.u8.wrap (Int.fdiv x0 (2 ^ (min (Int.toNat 8) (IntKind.bits .u64)))))).bind fun x2=>(some (IntKind.i64.wrap ((IntKind.i64.wrap (x1 + 8)) + (IntKind.i64.wrap (x2.toNat:Int))))) else (at? ([0,1,2,2,3,3,3,3,4,4,4,4,4,4,4,4,5,5,5,5,5,5,5,5,5,5,5,5,5,5,5,5,6,6,6,6,6,6,6,6,6,6,6,6,6,6,6,6,6,6,6,6,6,6,6,6,6,6,6,6,6,6,6,6,7,7,7,7,7,7,7,7,7,7,7,7,7,7,7,7,7,7,7,7,7,7,7,7,7,7,7,7,7,7,7,7,7,7,7,7,7,7,7,7,7,7,7,7,7,7,7,7,7,7,7,7,7,7,7,7,7,7,7,7,7,7,7,7,8,8,8,8,8,8,8,8,8,8,8,8,8,8,8,8,8,8,8,8,8,8,8,8,8,8,8,8,8,8,8,8,8,8,8,8,8,8,8,8,8,8,8,8,8,8,8,8,8,8,8,8,8,8,8,8,8,8,8,8,8,8,8,8,8,8,8,8,8,8,8,8,8,8,8,8,8,8,8,8,8,8,8,8,8,8,8,8,8,8,8,8,8,8,8,8,8,8,8,8,8,8,8,8,8,8,8,8,8,8,8,8,8,8,8,8,8,8,8,8,8,8,8,8,8,8,8,8]:List UInt8) (IntKind.u8.wrap x0)).bind fun x3=>(some (IntKind.i64.wrap (x1 + (IntKind.i64.wrap (x3.toNat:Int))))))
  cst:=fun (x0,x1)=>⟨put (put (fun _=>.junk) 2 (.int .i64 x1)) 0 (.int .u64 x0),[]⟩
theorem f65_J2c(x0:Int)(x1:Int):(f65_J2).cst (x0,x1)=⟨put (put (fun _=>.junk) 2 (.int .i64 x1)) 0 (.int .u64 x0),[]⟩:=rfl
noncomputable def f65_J1:Jn (Int×Int) (Int) where
  run:=fun (x0,x1)=>(if (decide (65536≤x0))=true then ((f65_J2).run ((Int.fdiv x0 (2 ^ (min (Int.toNat 16) (IntKind.bits .u64)))),(IntKind.i64.wrap (x1 + 16)))) else ((f65_J2).run (x0,x1)))
  cst:=fun (x0,x1)=>⟨put (put (fun _=>.junk) 2 (.int .i64 x1)) 0 (.int .u64 x0),[]⟩
theorem f65_J1c(x0:Int)(x1:Int):(f65_J1).cst (x0,x1)=⟨put (put (fun _=>.junk) 2 (.int .i64 x1)) 0 (.int .u64 x0),[]⟩:=rfl
def c65_0:C:=.reg [iI 2 (.mv (.c (.int .i64 32)))]
def c65_1:C:=.cond (.t 4) (.seq (.reg [iI 5 (.mv (.t 0)),iI 6 (.bin .shr (.t 5) (.c (.int .u64 32))),iI 0 (.mv (.t 6))]) c65_0) (.skip)
def c65_2:C:=.reg [iI 11 (.mv (.t 2)),iI 12 (.bin .add (.t 11) (.c (.int .i64 16))),iI 2 (.mv (.t 12))]
def c65_3:C:=.cond (.t 8) (.seq (.reg [iI 9 (.mv (.t 0)),iI 10 (.bin .shr (.t 9) (.c (.int .u64 16))),iI 0 (.mv (.t 10))]) c65_2) (.skip)
def c65_4:C:=.reg [iI 17 (.mv (.t 2)),iI 18 (.bin .add (.t 17) (.c (.int .i64 8))),iI 2 (.mv (.t 18))]
def c65_5:C:=.cond (.t 14) (.seq (.reg [iI 15 (.mv (.t 0)),iI 16 (.bin .shr (.t 15) (.c (.int .u64 8))),iI 0 (.mv (.t 16))]) c65_4) (.skip)
def c65_6:C:=.seq (.reg [iI 19 (.mv (.t 2)),iI 20 (.mv (.t 0)),iI 21 (.cint .u8 (.t 20)),iI 22 (.sidx (.c (.str [0,1,2,2,3,3,3,3,4,4,4,4,4,4,4,4,5,5,5,5,5,5,5,5,5,5,5,5,5,5,5,5,6,6,6,6,6,6,6,6,6,6,6,6,6,6,6,6,6,6,6,6,6,6,6,6,6,6,6,6,6,6,6,6,7,7,7,7,7,7,7,7,7,7,7,7,7,7,7,7,7,7,7,7,7,7,7,7,7,7,7,7,7,7,7,7,7,7,7,7,7,7,7,7,7,7,7,7,7,7,7,7,7,7,7,7,7,7,7,7,7,7,7,7,7,7,7,7,8,8,8,8,8,8,8,8,8,8,8,8,8,8,8,8,8,8,8,8,8,8,8,8,8,8,8,8,8,8,8,8,8,8,8,8,8,8,8,8,8,8,8,8,8,8,8,8,8,8,8,8,8,8,8,8,8,8,8,8,8,8,8,8,8,8,8,8,8,8,8,8,8,8,8,8,8,8,8,8,8,8,8,8,8,8,8,8,8,8,8,8,8,8,8,8,8,8,8,8,8,8,8,8,8,8,8,8,8,8,8,8,8,8,8,8,8,8,8,8,8,8,8,8,8,8,8,8])) (.t 21)),iI 23 (.cint .i64 (.t 22)),iI 24 (.bin .add (.t 19) (.t 23)),iI 2 (.mv (.t 24))]) .ret
def c65_7:C:=.seq (.seq (.reg [iI 13 (.mv (.t 0)),iI 14 (.bin .geq (.t 13) (.c (.int .u64 256)))]) c65_5) c65_6
def c65_8:C:=.seq (.seq (.reg [iI 7 (.mv (.t 0)),iI 8 (.bin .geq (.t 7) (.c (.int .u64 65536)))]) c65_3) c65_7
def c65_9:C:=.seq (.seq (.reg [iI 3 (.mv (.t 0)),iI 4 (.bin .geq (.t 3) (.c (.int .u64 4294967296)))]) c65_1) c65_8
def ir65:C:=.seq (.reg [iI 2 (.mv (.c (.int .i64 0)))]) c65_9
theorem fd65:fd? Tryz.prog 65=some (25,[.slot 2],ir65):=by kernel_rfl
noncomputable def f65(x0:Int):Option (Int) :=
  (if (decide (4294967296≤x0))=true then ((f65_J1).run ((Int.fdiv x0 (2 ^ (min (Int.toNat 32) (IntKind.bits .u64)))),32)) else ((f65_J1).run (x0,0)))
theorem f65_ok{x0:Int}{r_:Int}(H:f65 x0=some r_):Pure Tryz.prog 65 [.int .u64 x0] (· = .int .i64 r_):=by
 refine Pure.walk3 fd65 none (Nat.le_of_ble_eq_true rfl) (by rfl) fun Q hQ=>?_
 simp only[f65] at H
 refine AW.rseq ?_
 try simp only[wm,wmd,↓wk,↓wl,nq,evV,↓reduceIte,sevalprocAttr]
 refine AW.join (f65_J1) H ?_ fun hf65_J1=>?_
 ·clear H
  rintro ⟨x1,x2⟩ st0_ H hst_
  rw[f65_J1c] at hst_
  unfold f65_J1 at H
  try dsimp only at H
  subst hst_
  refine AW.join (f65_J2) H ?_ fun hf65_J2=>?_
  ·clear H
   rintro ⟨x3,x4⟩ st0_ H hst_
   rw[f65_J2c] at hst_
   unfold f65_J2 at H
   try dsimp only at H
   subst hst_
   refine AW.sseq ?_
   refine AW.rseq ?_
   try simp only[wm,wmd,↓wk,↓wl,nq,evV,↓reduceIte,sevalprocAttr]
   refine AW.ifc H (by rfl) ?_ ?_<;>clear H<;>intro H
   ·refine AW.rseq ?_
    try simp only[wm,wmd,↓wk,↓wl,nq,evV,↓reduceIte,sevalprocAttr]
    refine rest_shr (by decide) ?_
    try simp only[wm,wmd,↓wk,↓wl,nq,evV,↓reduceIte,sevalprocAttr]
    refine AW.rend ?_
    try simp only[wm,wmd,↓wk,↓wl,nq,evV,↓reduceIte,sevalprocAttr]
    refine seqQ.norm ?_
    refine AW.rseq ?_
    try simp only[wm,wmd,↓wk,↓wl,nq,evV,↓reduceIte,sevalprocAttr]
    refine evTs_sat H (by rfl) (by rfl) ?_<;>clear H<;>intro x5 H
    try simp only[wm,wmd,↓wk,↓wl,nq,evV,↓reduceIte,sevalprocAttr]
    refine AW.ret ?_
    cases H
    exact hQ _ _ _ _ (.inr rfl) (by simp only[resVs,omap,resV,wm,wmd,↓wk,↓wl,nq,evV,↓reduceIte,sevalprocAttr];rfl) (hand_plain (by rfl)) (by first | exact Or.inl rfl | exact Or.inr rfl)
   ·refine AW.skip ?_
    refine seqQ.norm ?_
    refine AW.rseq ?_
    try simp only[wm,wmd,↓wk,↓wl,nq,evV,↓reduceIte,sevalprocAttr]
    refine evTs_sat H (by rfl) (by rfl) ?_<;>clear H<;>intro x6 H
    try simp only[wm,wmd,↓wk,↓wl,nq,evV,↓reduceIte,sevalprocAttr]
    refine AW.ret ?_
    cases H
    exact hQ _ _ _ _ (.inr rfl) (by simp only[resVs,omap,resV,wm,wmd,↓wk,↓wl,nq,evV,↓reduceIte,sevalprocAttr];rfl) (hand_plain (by rfl)) (by first | exact Or.inl rfl | exact Or.inr rfl)
  ·refine AW.rseq ?_
   try simp only[wm,wmd,↓wk,↓wl,nq,evV,↓reduceIte,sevalprocAttr]
   refine AW.ifc H (by rfl) ?_ ?_<;>clear H<;>intro H
   ·refine AW.rseq ?_
    try simp only[wm,wmd,↓wk,↓wl,nq,evV,↓reduceIte,sevalprocAttr]
    refine rest_shr (by decide) ?_
    try simp only[wm,wmd,↓wk,↓wl,nq,evV,↓reduceIte,sevalprocAttr]
    refine AW.rend ?_
    try simp only[wm,wmd,↓wk,↓wl,nq,evV,↓reduceIte,sevalprocAttr]
    refine seqQ.norm ?_
    exact hf65_J2 _ _ H ((Le.tz [] [0,2] (by simp only[f65_J2c,wm,wmr,rrm,↓wk,↓wl,evV,↓reduceIte,sevalprocAttr]<;>rfl)))
   ·refine AW.skip ?_
    refine seqQ.norm ?_
    exact hf65_J2 _ _ H ((Le.tz [] [0,2] (by simp only[f65_J2c,wm,wmr,rrm,↓wk,↓wl,evV,↓reduceIte,sevalprocAttr]<;>rfl)))
 ·refine AW.rseq ?_
  try simp only[wm,wmd,↓wk,↓wl,nq,evV,↓reduceIte,sevalprocAttr]
  refine AW.ifc H (by rfl) ?_ ?_<;>clear H<;>intro H
  ·refine AW.rseq ?_
   try simp only[wm,wmd,↓wk,↓wl,nq,evV,↓reduceIte,sevalprocAttr]
   refine rest_shr (by decide) ?_
   try simp only[wm,wmd,↓wk,↓wl,nq,evV,↓reduceIte,sevalprocAttr]
   refine AW.rend ?_
   try simp only[wm,wmd,↓wk,↓wl,nq,evV,↓reduceIte,sevalprocAttr]
   refine seqQ.norm ?_
   exact hf65_J1 _ _ H ((Le.tz [] [0,2] (by simp only[f65_J1c,wm,wmr,rrm,↓wk,↓wl,evV,↓reduceIte,sevalprocAttr]<;>rfl)))
  ·refine AW.skip ?_
   refine seqQ.norm ?_
   exact hf65_J1 _ _ H ((Le.tz [] [0,2] (by simp only[f65_J1c,wm,wmr,rrm,↓wk,↓wl,evV,↓reduceIte,sevalprocAttr]<;>rfl)))
def c38_0:C:=.seq (.reg [iI 6 (.mv (.t 0)),iI 7 (.call (.c (.fn 65 [])) [(.t 6)]),iI 2 (.mv (.t 7))]) .ret
def c38_1:C:=.seq (.cond (.c (.bool false)) (.seq (.reg [iI 3 (.mv (.t 0)),iI 4 (.cint .u32 (.t 3)),iI 5 (.call (.c (.fn 64 [])) [(.t 4)]),iI 2 (.mv (.t 5))]) .ret) (.skip)) c38_0
def ir38:C:=.seq (.reg [iI 2 (.mv (.c (.int .i64 0)))]) c38_1
theorem fd38:fd? Tryz.prog 38=some (8,[.slot 2],ir38):=by kernel_rfl
noncomputable def f38(x0:Int):Option (Int) :=
  (f65 x0).bind fun x1=>(some x1)
theorem f38_ok{x0:Int}{r_:Int}(H:f38 x0=some r_):Pure Tryz.prog 38 [.int .u64 x0] (· = .int .i64 r_):=by
 refine Pure.walk3 fd38 none (Nat.le_of_ble_eq_true rfl) (by rfl) fun Q hQ=>?_
 simp only[f38] at H
 refine AW.rseq ?_
 try simp only[wm,wmd,↓wk,↓wl,nq,evV,↓reduceIte,sevalprocAttr]
 refine AW.sseq ?_
 refine AW.iff (by rfl) ?_
 refine AW.skip ?_
 refine seqQ.norm ?_
 refine AW.rseq ?_
 try simp only[wm,wmd,↓wk,↓wl,nq,evV,↓reduceIte,sevalprocAttr]
 refine evTs_pure hFn H (fun _ h=>f65_ok h) (by rfl) (by rfl) (by rfl) (by rfl) (fun _=>rfl) ?_<;>clear H<;>intro x1 H
 try simp only[eL,wm,wmd,↓wk,↓wl,nq,evV,↓reduceIte,sevalprocAttr]
 refine AW.ret ?_
 cases H
 exact hQ _ _ _ _ (.inr rfl) (by simp only[resVs,omap,resV,wm,wmd,↓wk,↓wl,nq,evV,↓reduceIte,sevalprocAttr];rfl) (hand_plain (by rfl)) (by first | exact Or.inl rfl | exact Or.inr rfl)
def c92_0:C:=.seq (.reg [iI 3 (.mv (.t 0)),iI 4 (.mv (.t 0)),iI 5 (.bin .neq (.t 3) (.t 4)),iI 2 (.mv (.t 5))]) .ret
def ir92:C:=.seq (.reg [iI 2 (.mv (.c (.bool false)))]) c92_0
theorem fd92:fd? Tryz.prog 92=some (6,[.slot 2],ir92):=by kernel_rfl
noncomputable def f92(x0:Int):Option (Bool) :=
  (some (decide (x0≠x0)))
theorem f92_ok{x0:Int}{r_:Bool}(H:f92 x0=some r_):Pure Tryz.prog 92 [.int .u64 x0] (· = .bool r_):=by
 refine Pure.walk3 fd92 none (Nat.le_of_ble_eq_true rfl) (by rfl) fun Q hQ=>?_
 simp only[f92] at H
 refine AW.rseq ?_
 try simp only[wm,wmd,↓wk,↓wl,nq,evV,↓reduceIte,sevalprocAttr]
 refine AW.rseq ?_
 try simp only[wm,wmd,↓wk,↓wl,nq,evV,↓reduceIte,sevalprocAttr]
 refine AW.ret ?_
 cases H
 exact hQ _ _ _ _ (.inr rfl) (by simp only[resVs,omap,resV,wm,wmd,↓wk,↓wl,nq,evV,↓reduceIte,sevalprocAttr];rfl) (hand_plain (by rfl)) (by first | exact Or.inl rfl | exact Or.inr rfl)
def c61_0:C:=.seq (.reg [iI 5 (.mv (.t 0)),iI 6 (.call (.c (.fn 92 [])) [(.t 5)]),iI 7 (.mv (.t 6)),iG (some 8) 7 true (.mv (.t 1)),iG (some 9) 7 true (.call (.c (.fn 92 [])) [(.t 8)]),iG (some 10) 7 true (.un .not (.t 9)),iI 11 (.pick (.t 7) (.t 10) (.c (.bool false))),iI 12 (.mv (.t 11)),iG (some 13) 12 false (.mv (.t 0)),iG (some 14) 12 false (.mv (.t 1)),iG (some 15) 12 false (.bin .lss (.t 13) (.t 14)),iI 16 (.pick (.t 12) (.c (.bool true)) (.t 15)),iI 4 (.mv (.t 16))]) .ret
def ir61:C:=.seq (.reg [iI 4 (.mv (.c (.bool false)))]) c61_0
theorem fd61:fd? Tryz.prog 61=some (17,[.slot 4],ir61):=by kernel_rfl
noncomputable def f61(x0:Int)(x1:Int):Option (Bool) :=
  (f92 x0).bind fun x2=>(if x2=true then (f92 x1).bind fun x3=>(if (!x3)=true then (some true) else (some (decide (x0<x1)))) else (some (decide (x0<x1))))
theorem f61_ok{x0:Int}{x1:Int}{r_:Bool}(H:f61 x0 x1=some r_):Pure Tryz.prog 61 [.int .u64 x0,.int .u64 x1] (· = .bool r_):=by
 refine Pure.walk3 fd61 none (Nat.le_of_ble_eq_true rfl) (by rfl) fun Q hQ=>?_
 simp only[f61] at H
 refine AW.rseq ?_
 try simp only[wm,wmd,↓wk,↓wl,nq,evV,↓reduceIte,sevalprocAttr]
 refine AW.rseq ?_
 try simp only[wm,wmd,↓wk,↓wl,nq,evV,↓reduceIte,sevalprocAttr]
 refine evTs_pure hFn H (fun _ h=>f92_ok h) (by rfl) (by rfl) (by rfl) (by rfl) (fun _=>rfl) ?_<;>clear H<;>intro x2 H
 try simp only[eL,wm,wmd,↓wk,↓wl,nq,evV,↓reduceIte,sevalprocAttr]
 refine evTs_ifg H (by rfl) ?_ ?_<;>clear H<;>intro H
 ·try simp only[wm,wmd,↓wk,↓wl,nq,evV,↓reduceIte,sevalprocAttr]
  refine evTs_pure hFn H (fun _ h=>f92_ok h) (by rfl) (by rfl) (by rfl) (by rfl) (fun _=>rfl) ?_<;>clear H<;>intro x3 H
  try simp only[eL,wm,wmd,↓wk,↓wl,nq,evV,↓reduceIte,sevalprocAttr]
  refine evTs_ifg H (by rfl) ?_ ?_<;>clear H<;>intro H
  ·try simp only[wm,wmd,↓wk,↓wl,nq,evV,↓reduceIte,sevalprocAttr]
   refine AW.ret ?_
   cases H
   exact hQ _ _ _ _ (.inr rfl) (by simp only[resVs,omap,resV,wm,wmd,↓wk,↓wl,nq,evV,↓reduceIte,sevalprocAttr];rfl) (hand_plain (by rfl)) (by first | exact Or.inl rfl | exact Or.inr rfl)
  ·try simp only[wm,wmd,↓wk,↓wl,nq,evV,↓reduceIte,sevalprocAttr]
   refine AW.ret ?_
   cases H
   exact hQ _ _ _ _ (.inr rfl) (by simp only[resVs,omap,resV,wm,wmd,↓wk,↓wl,nq,evV,↓reduceIte,sevalprocAttr];rfl) (hand_plain (by rfl)) (by first | exact Or.inl rfl | exact Or.inr rfl)
 ·try simp only[wm,wmd,↓wk,↓wl,nq,evV,↓reduceIte,sevalprocAttr]
  refine AW.ret ?_
  cases H
  exact hQ _ _ _ _ (.inr rfl) (by simp only[resVs,omap,resV,wm,wmd,↓wk,↓wl,nq,evV,↓reduceIte,sevalprocAttr];rfl) (hand_plain (by rfl)) (by first | exact Or.inl rfl | exact Or.inr rfl)
def c19_0:C:=.reg [iI 5 (.mv (.t 0)),iI 6 (.mv (.t 2)),iI 7 (.mv (.t 2)),iI 8 (.cint .u64 (.t 7)),iI 9 (.call (.c (.fn 38 [])) [(.t 8)]),iI 10 (.call (.c (.fn 37 [])) [(.t 5),(.c (.int .i64 0)),(.t 6),(.t 9)])]
def ir19:C:=.seq (.reg [iI 3 (.mv (.t 0)),iI 4 (.len 0 (.t 3)),iI 2 (.mv (.t 4))]) c19_0
theorem fd19:fd? Tryz.prog 19=some (11,[],ir19):=by kernel_rfl
def c37_0:C:=.cond (.t 23) (.seq (.reg [iI 24 (.mv (.t 0)),iI 25 (.mv (.t 1)),iI 26 (.mv (.t 2)),iI 27 (.call (.c (.fn 55 [])) [(.t 24),(.t 25),(.t 26)])]) .ret) (.skip)
def c37_1:C:=.cond (.t 29) (.seq (.reg [iI 30 (.mv (.t 0)),iI 31 (.mv (.t 1)),iI 32 (.mv (.t 2)),iI 33 (.call (.c (.fn 56 [])) [(.t 30),(.t 31),(.t 32)])]) .ret) (.skip)
def c37_2:C:=.reg [iI 40 (.mv (.t 3)),iI 41 (.bin .sub (.t 40) (.c (.int .i64 1))),iI 3 (.mv (.t 41))]
def c37_3:C:=.cond (.t 35) (.seq (.reg [iI 36 (.mv (.t 0)),iI 37 (.mv (.t 1)),iI 38 (.mv (.t 2)),iI 39 (.call (.c (.fn 57 [])) [(.t 36),(.t 37),(.t 38)])]) c37_2) (.skip)
def c37_4:C:=.reg [iI 12 (.mv (.c (.int .i64 1)))]
def c37_5:C:=.seq (.reg [iI 55 (.mv (.t 2)),iI 56 (.bin .sub (.t 55) (.c (.int .i64 1))),iI 57 (.mv (.t 11)),iI 58 (.mv (.t 1)),iI 59 (.bin .sub (.t 57) (.t 58)),iI 60 (.bin .sub (.t 56) (.t 59)),iI 11 (.mv (.t 60))]) c37_4
def c37_6:C:=.cond (.t 50) (.seq (.reg [iI 51 (.mv (.t 0)),iI 52 (.mv (.t 1)),iI 53 (.mv (.t 2)),iI 54 (.call (.c (.fn 59 [])) [(.t 51),(.t 52),(.t 53)])]) c37_5) (.skip)
def c37_7:C:=.cond (.t 72) (.ret) (.skip)
def c37_8:C:=.cond (.t 68) (.seq (.reg [iI 69 (.mv (.t 0)),iI 70 (.mv (.t 1)),iI 71 (.mv (.t 2)),iI 72 (.call (.c (.fn 60 [])) [(.t 69),(.t 70),(.t 71)])]) c37_7) (.skip)
def c37_9:C:=.seq (.reg [iI 93 (.mv (.t 13)),iI 1 (.mv (.t 93))]) (.exit 1)
def c37_10:C:=.cond (.t 87) (.seq (.reg [iI 88 (.mv (.t 0)),iI 89 (.mv (.t 1)),iI 90 (.mv (.t 2)),iI 91 (.mv (.t 11)),iI 92 (.call (.c (.fn 62 [])) [(.t 88),(.t 89),(.t 90),(.t 91)]),iI 13 (.mv (.t 92))]) c37_9) (.skip)
def c37_11:C:=.reg [iI 122 (.mv (.t 14)),iI 123 (.bin .add (.t 122) (.c (.int .i64 1))),iI 1 (.mv (.t 123))]
def c37_12:C:=.seq (.reg [iI 117 (.mv (.t 0)),iI 118 (.mv (.t 1)),iI 119 (.mv (.t 14)),iI 120 (.mv (.t 3)),iI 121 (.call (.c (.fn 37 [])) [(.t 117),(.t 118),(.t 119),(.t 120)])]) c37_11
def c37_13:C:=.reg [iI 133 (.mv (.t 14)),iI 2 (.mv (.t 133))]
def c37_14:C:=.seq (.reg [iI 127 (.mv (.t 0)),iI 128 (.mv (.t 14)),iI 129 (.bin .add (.t 128) (.c (.int .i64 1))),iI 130 (.mv (.t 2)),iI 131 (.mv (.t 3)),iI 132 (.call (.c (.fn 37 [])) [(.t 127),(.t 129),(.t 130),(.t 131)])]) c37_13
def c37_15:C:=.cond (.t 113) (.seq (.reg [iI 114 (.mv (.t 16)),iI 115 (.mv (.t 18)),iI 116 (.bin .geq (.t 114) (.t 115)),iI 8 (.mv (.t 116))]) c37_12) (.seq (.reg [iI 124 (.mv (.t 17)),iI 125 (.mv (.t 18)),iI 126 (.bin .geq (.t 124) (.t 125)),iI 8 (.mv (.t 126))]) c37_14)
def c37_16:C:=.seq (.reg [iI 111 (.mv (.t 16)),iI 112 (.mv (.t 17)),iI 113 (.bin .lss (.t 111) (.t 112))]) c37_15
def c37_17:C:=.seq (.reg [iI 109 (.mv (.t 10)),iI 110 (.bin .quo (.t 109) (.c (.int .i64 8))),iI 18 (.mv (.t 110))]) c37_16
def c37_18:C:=.seq (.reg [iI 103 (.mv (.t 14)),iI 104 (.mv (.t 1)),iI 105 (.bin .sub (.t 103) (.t 104)),iI 106 (.mv (.t 2)),iI 107 (.mv (.t 14)),iI 108 (.bin .sub (.t 106) (.t 107)),iI 16 (.mv (.t 105)),iI 17 (.mv (.t 108))]) c37_17
def c37_19:C:=.seq (.reg [iI 102 (.mv (.t 15)),iI 9 (.mv (.t 102))]) c37_18
def c37_20:C:=.seq (.reg [iI 95 (.mv (.t 0)),iI 96 (.mv (.t 1)),iI 97 (.mv (.t 2)),iI 98 (.mv (.t 11)),iI 99 (.call (.c (.fn 63 [])) [(.t 95),(.t 96),(.t 97),(.t 98)]),iI 94 (.mv (.t 99)),iI 100 (.ext (.t 94) 0),iI 101 (.ext (.t 94) 1),iI 14 (.mv (.t 100)),iI 15 (.mv (.t 101))]) c37_19
def c37_21:C:=.seq (.seq (.reg [iI 73 (.mv (.t 1)),iI 74 (.bin .gtr (.t 73) (.c (.int .i64 0))),iI 75 (.mv (.t 74)),iG (some 76) 75 true (.mv (.t 0)),iG (some 77) 75 true (.mv (.t 1)),iG (some 78) 75 true (.bin .sub (.t 77) (.c (.int .i64 1))),iG (some 79) 75 true (.iaddr 0 (.t 76) (.t 78)),iG (some 80) 75 true (.load 0 (.t 79)),iG (some 81) 75 true (.mv (.t 0)),iG (some 82) 75 true (.mv (.t 11)),iG (some 83) 75 true (.iaddr 0 (.t 81) (.t 82)),iG (some 84) 75 true (.load 0 (.t 83)),iG (some 85) 75 true (.call (.c (.fn 61 [])) [(.t 80),(.t 84)]),iG (some 86) 75 true (.un .not (.t 85)),iI 87 (.pick (.t 75) (.t 86) (.c (.bool false)))]) c37_10) c37_20
def c37_22:C:=.seq (.seq (.reg [iI 61 (.mv (.t 8)),iI 62 (.mv (.t 61)),iG (some 63) 62 true (.mv (.t 9)),iI 64 (.pick (.t 62) (.t 63) (.c (.bool false))),iI 65 (.mv (.t 64)),iG (some 66) 65 true (.mv (.t 12)),iG (some 67) 65 true (.bin .eql (.t 66) (.c (.int .i64 1))),iI 68 (.pick (.t 65) (.t 67) (.c (.bool false)))]) c37_8) c37_21
def c37_23:C:=.seq (.seq (.reg [iI 49 (.mv (.t 12)),iI 50 (.bin .eql (.t 49) (.c (.int .i64 2)))]) c37_6) c37_22
def c37_24:C:=.seq (.reg [iI 43 (.mv (.t 0)),iI 44 (.mv (.t 1)),iI 45 (.mv (.t 2)),iI 46 (.call (.c (.fn 58 [])) [(.t 43),(.t 44),(.t 45)]),iI 42 (.mv (.t 46)),iI 47 (.ext (.t 42) 0),iI 48 (.ext (.t 42) 1),iI 11 (.mv (.t 47)),iI 12 (.mv (.t 48))]) c37_23
def c37_25:C:=.seq (.seq (.reg [iI 34 (.mv (.t 8)),iI 35 (.un .not (.t 34))]) c37_3) c37_24
def c37_26:C:=.seq (.seq (.reg [iI 28 (.mv (.t 3)),iI 29 (.bin .eql (.t 28) (.c (.int .i64 0)))]) c37_1) c37_25
def c37_27:C:=.seq (.seq (.reg [iI 22 (.mv (.t 10)),iI 23 (.bin .leq (.t 22) (.c (.int .i64 12)))]) c37_0) c37_26
def c37_28:C:=.block 0 (.loop (.block 1 (.seq (.reg [iI 19 (.mv (.t 2)),iI 20 (.mv (.t 1)),iI 21 (.bin .sub (.t 19) (.t 20)),iI 10 (.mv (.t 21))]) c37_27)))
def c37_29:C:=.seq (.reg [iI 9 (.mv (.c (.bool true)))]) c37_28
def ir37:C:=.seq (.reg [iI 8 (.mv (.c (.bool true)))]) c37_29
theorem fd37:fd? Tryz.prog 37=some (134,[],ir37):=by kernel_rfl
def c55_0:C:=.cond (.t 12) (.skip) (.exit 0)
def c55_1:C:=.cond (.t 30) (.skip) (.exit 2)
def c55_2:C:=.reg [iI 31 (.mv (.t 7)),iI 32 (.bin .sub (.t 31) (.c (.int .i64 1))),iI 7 (.mv (.t 32))]
def c55_3:C:=.seq (.block 3 (.reg [iI 33 (.mv (.t 0)),iI 34 (.mv (.t 7)),iI 35 (.mv (.t 0)),iI 36 (.mv (.t 7)),iI 37 (.bin .sub (.t 36) (.c (.int .i64 1))),iI 38 (.mv (.t 0)),iI 39 (.mv (.t 7)),iI 40 (.bin .sub (.t 39) (.c (.int .i64 1))),iI 41 (.iaddr 0 (.t 38) (.t 40)),iI 42 (.load 0 (.t 41)),iI 43 (.mv (.t 0)),iI 44 (.mv (.t 7)),iI 45 (.iaddr 0 (.t 43) (.t 44)),iI 46 (.load 0 (.t 45)),iI 47 (.iaddr 0 (.t 33) (.t 34)),iN (.store 0 (.t 47) (.t 42)),iI 48 (.iaddr 0 (.t 35) (.t 37)),iN (.store 0 (.t 48) (.t 46))])) c55_2
def c55_4:C:=.block 2 (.loop (.seq (.seq (.reg [iI 16 (.mv (.t 7)),iI 17 (.mv (.t 1)),iI 18 (.bin .gtr (.t 16) (.t 17)),iI 19 (.mv (.t 18)),iG (some 20) 19 true (.mv (.t 0)),iG (some 21) 19 true (.mv (.t 7)),iG (some 22) 19 true (.iaddr 0 (.t 20) (.t 21)),iG (some 23) 19 true (.load 0 (.t 22)),iG (some 24) 19 true (.mv (.t 0)),iG (some 25) 19 true (.mv (.t 7)),iG (some 26) 19 true (.bin .sub (.t 25) (.c (.int .i64 1))),iG (some 27) 19 true (.iaddr 0 (.t 24) (.t 26)),iG (some 28) 19 true (.load 0 (.t 27)),iG (some 29) 19 true (.call (.c (.fn 61 [])) [(.t 23),(.t 28)]),iI 30 (.pick (.t 19) (.t 29) (.c (.bool false)))]) c55_1) c55_3))
def c55_5:C:=.reg [iI 13 (.mv (.t 6)),iI 14 (.bin .add (.t 13) (.c (.int .i64 1))),iI 6 (.mv (.t 14))]
def c55_6:C:=.seq (.block 1 (.seq (.reg [iI 15 (.mv (.t 6)),iI 7 (.mv (.t 15))]) c55_4)) c55_5
def c55_7:C:=.block 0 (.loop (.seq (.seq (.reg [iI 10 (.mv (.t 6)),iI 11 (.mv (.t 2)),iI 12 (.bin .lss (.t 10) (.t 11))]) c55_0) c55_6))
def ir55:C:=.seq (.reg [iI 8 (.mv (.t 1)),iI 9 (.bin .add (.t 8) (.c (.int .i64 1))),iI 6 (.mv (.t 9))]) c55_7
theorem fd55:fd? Tryz.prog 55=some (49,[],ir55):=by kernel_rfl
noncomputable def f10_21_L6(x0:Int)(x1:(List Int)):Lp (Int×(List Int)) ((List Int)) where
  body:=fun (x2,x3)=>(if (decide (0<x2))=true then (at? x3 x2).bind fun x4=>(at? x3 (IntKind.i64.wrap (x2 - 1))).bind fun x5=>(f61 x4 x5).bind fun x6=>(if x6=true then (at? x3 (IntKind.i64.wrap (x2 - 1))).bind fun x7=>(at? x3 x2).bind fun x8=>(at? x3 x2).bind fun x9=>(at? (x3.set x2.toNat x7) (IntKind.i64.wrap (x2 - 1))).bind fun xa=>(some (.next ((IntKind.i64.wrap (x2 - 1)),((x3.set x2.toNat x7).set (IntKind.i64.wrap (x2 - 1)).toNat x8)))) else (some (.brk x3))) else (some (.brk x3)))
  cst:=fun (x2,x3)=>⟨put (put (put (put (put (fun _=>.junk) 7 (.int .i64 x2)) 6 (.int .i64 x0)) 2 (.int .i64 ((x1.length:Nat):Int))) 1 (.int .i64 0)) 0 (.row 0 0 0 x3.length),[.els 0 (x3.map (AV.int .u64))]⟩
theorem f10_21_L6c(x0:Int)(x1:(List Int))(x2:Int)(x3:(List Int)):(f10_21_L6 x0 x1).cst (x2,x3)=⟨put (put (put (put (put (fun _=>.junk) 7 (.int .i64 x2)) 6 (.int .i64 x0)) 2 (.int .i64 ((x1.length:Nat):Int))) 1 (.int .i64 0)) 0 (.row 0 0 0 x3.length),[.els 0 (x3.map (AV.int .u64))]⟩:=rfl
noncomputable def f10_21_L5(x0:(List Int)):Lp (Int×(List Int)) ((List Int)) where
  body:=fun (x1,x2)=>(if (decide (x1<((x0.length:Nat):Int)))=true then (Lp.run (f10_21_L6 x1 x0) (x1,x2)).bind fun x3=>(some (.next ((IntKind.i64.wrap (x1 + 1)),x3))) else (some (.brk x2)))
  cst:=fun (x1,x2)=>⟨put (put (put (put (fun _=>.junk) 6 (.int .i64 x1)) 2 (.int .i64 ((x0.length:Nat):Int))) 1 (.int .i64 0)) 0 (.row 0 0 0 x2.length),[.els 0 (x2.map (AV.int .u64))]⟩
theorem f10_21_L5c(x0:(List Int))(x1:Int)(x2:(List Int)):(f10_21_L5 x0).cst (x1,x2)=⟨put (put (put (put (fun _=>.junk) 6 (.int .i64 x1)) 2 (.int .i64 ((x0.length:Nat):Int))) 1 (.int .i64 0)) 0 (.row 0 0 0 x2.length),[.els 0 (x2.map (AV.int .u64))]⟩:=rfl
noncomputable def f10_21_C4(x0:(List Int)):Il ((List Int)) where
  run:=(Lp.run (f10_21_L5 x0) ((IntKind.i64.wrap (0 + 1)),x0)).bind fun x1=>(some x1)
  res:=fun x2=>.tup []
  hp:=fun x2=>[.els 0 (x2.map (AV.int .u64))]
noncomputable def f10_21_L3(x0:(List Int))(x1:Int):Lp (Unit) ((List Int)) where
  body:=fun _=>(if (decide ((IntKind.i64.wrap (((x0.length:Nat):Int) - 0))≤12))=true then ((f10_21_C4 x0).run.bind fun x2=>(must? (x2.length=x0.length)).bind fun _=>(some (.brk x2))) else (if (decide (x1=0))=true then none else none))
  cst:=fun _=>⟨put (put (put (put (put (put (fun _=>.junk) 9 (.bool true)) 8 (.bool true)) 3 (.int .i64 x1)) 2 (.int .i64 ((x0.length:Nat):Int))) 1 (.int .i64 0)) 0 (.row 0 0 0 x0.length),[.els 0 (x0.map (AV.int .u64))]⟩
theorem f10_21_L3c(x0:(List Int))(x1:Int)(x_:Unit):(f10_21_L3 x0 x1).cst x_=⟨put (put (put (put (put (put (fun _=>.junk) 9 (.bool true)) 8 (.bool true)) 3 (.int .i64 x1)) 2 (.int .i64 ((x0.length:Nat):Int))) 1 (.int .i64 0)) 0 (.row 0 0 0 x0.length),[.els 0 (x0.map (AV.int .u64))]⟩:=rfl
noncomputable def f10_21_C2(x0:(List Int))(x1:Int):Il ((List Int)) where
  run:=(Lp.run (f10_21_L3 x0 x1) ()).bind fun x2=>(some x2)
  res:=fun x3=>.tup []
  hp:=fun x3=>[.els 0 (x3.map (AV.int .u64))]
noncomputable def f10_21_C1(x0:(List Int)):Il ((List Int)) where
  run:=(f38 (IntKind.u64.wrap ((x0.length:Nat):Int))).bind fun x1=>((f10_21_C2 x0 x1).run.bind fun x2=>(must? (x2.length=x0.length)).bind fun _=>(some x2))
  res:=fun x3=>.tup []
  hp:=fun x3=>[.els 0 (x3.map (AV.int .u64))]
def c10_0:C:=.seq (.reg [iI 8 (.mv (.t 3)),iI 2 (.mv (.t 8))]) .ret
def c10_1:C:=.seq (.reg [iI 6 (.mv (.t 3)),iI 7 (.call (.c (.fn 19 [])) [(.t 6)])]) c10_0
def c10_2:C:=.seq (.reg [iI 4 (.mv (.t 0)),iI 5 (.call (.c (.fn 20 [])) [(.t 4)]),iI 3 (.mv (.t 5))]) c10_1
def ir10:C:=.seq (.reg [iI 2 (.mv (.c (.sl 0 true [])))]) c10_2
theorem fd10:fd? Tryz.prog 10=some (9,[.slot 2],ir10):=by kernel_rfl
noncomputable def f10_21(x0:(List Int)):Option ((List Int)) :=
  (f20_21 x0).bind fun x1=>((f10_21_C1 x1).run.bind fun x2=>(must? (x2.length=x1.length)).bind fun _=>(some x2))
theorem f10_21_ok{x0:(List Int)}{r_:(List Int)}(H:f10_21 x0=some r_):Pure Tryz.prog 10 [.fn 21 [.pro [.sl 0 false (x0.map (AV.int .u64))]]] (· = .fr 0 (r_.map (AV.int .u64))):=by
 refine Pure.walk3 fd10 (some 0) (Nat.le_of_ble_eq_true rfl) (by rfl) fun Q hQ=>?_
 simp only[f10_21] at H
 refine AW.rseq ?_
 try simp only[wm,wmd,↓wk,↓wl,nqs,evV,↓reduceIte,sevalprocAttr]
 refine AW.rseq ?_
 try simp only[wm,wmd,↓wk,↓wl,nqs,evV,↓reduceIte,sevalprocAttr]
 refine evTs_fr H (fun _ h=>f20_21_ok h) (by rfl) (by rfl) (by rfl) (by rfl) (fun _=>rfl) ?_<;>clear H<;>intro x1 H
 try simp only[eL,wm,wmd,↓wk,↓wl,nqs,evV,↓reduceIte,sevalprocAttr]
 refine AW.rseq ?_
 try simp only[wm,wmd,↓wk,↓wl,nqs,evV,↓reduceIte,sevalprocAttr]
 refine evTs_inl (I:=f10_21_C1 x1) (args:=[.row 0 0 0 x1.length]) H (by rfl) fd19 (by rfl) (Nat.le_of_ble_eq_true rfl) ?_ ?_<;>clear H
 ·rintro v_ Q_ H hqf10_21_C1
  simp only[f10_21_C1] at H
  dsimp only[List.length_cons,List.length_nil]
  refine AW.rseq ?_
  try simp only[wm,wmd,↓wk,↓wl,nqs,evV,↓reduceIte,sevalprocAttr]
  refine AW.rend ?_
  try simp only[wm,wmd,↓wk,↓wl,nqs,evV,↓reduceIte,sevalprocAttr]
  refine evTs_pure hFn H (fun _ h=>f38_ok h) (by rfl) (by rfl) (by rfl) (by rfl) (fun _=>rfl) ?_<;>clear H<;>intro x2 H
  try simp only[eL,wm,wmd,↓wk,↓wl,nqs,evV,↓reduceIte,sevalprocAttr]
  refine evTs_inl (I:=f10_21_C2 x1 x2) (args:=[.row 0 0 0 x1.length,.int .i64 0,.int .i64 ((x1.length:Nat):Int),.int .i64 x2]) H (by rfl) fd37 (by rfl) (Nat.le_of_ble_eq_true rfl) ?_ ?_<;>clear H
  ·rintro v_ Q_ H hqf10_21_C2
   simp only[f10_21_C2] at H
   dsimp only[List.length_cons,List.length_nil]
   refine AW.rseq ?_
   try simp only[wm,wmd,↓wk,↓wl,nqs,evV,↓reduceIte,sevalprocAttr]
   refine AW.rseq ?_
   try simp only[wm,wmd,↓wk,↓wl,nqs,evV,↓reduceIte,sevalprocAttr]
   refine AW.bend ?_
   refine AW.iter H ((Le.tq 1 [0] [0,1,2,3,8,9] (by simp only[f10_21_L3c,wm,wmr,rrm,↓wk,↓wl,evV,↓reduceIte,sevalprocAttr]<;>rfl))) ?_<;>clear H
   rintro _ x_ st0_ H hst_
   rw[f10_21_L3c] at hst_
   simp only[f10_21_L3] at H
   subst hst_
   refine AW.bend ?_
   refine AW.rseq ?_
   try simp only[wm,wmd,↓wk,↓wl,nqs,evV,↓reduceIte,sevalprocAttr]
   refine AW.sseq ?_
   refine AW.rseq ?_
   try simp only[wm,wmd,↓wk,↓wl,nqs,evV,↓reduceIte,sevalprocAttr]
   refine AW.ifc H (by rfl) ?_ ?_<;>clear H<;>intro H
   ·refine AW.rseq ?_
    try simp only[wm,wmd,↓wk,↓wl,nqs,evV,↓reduceIte,sevalprocAttr]
    refine evTs_inl (I:=f10_21_C4 x1) (args:=[.row 0 0 0 x1.length,.int .i64 0,.int .i64 ((x1.length:Nat):Int)]) H (by rfl) fd55 (by rfl) (Nat.le_of_ble_eq_true rfl) ?_ ?_<;>clear H
    ·rintro v_ Q_ H hqf10_21_C4
     simp only[f10_21_C4] at H
     dsimp only[List.length_cons,List.length_nil]
     refine AW.rseq ?_
     try simp only[wm,wmd,↓wk,↓wl,nqs,evV,↓reduceIte,sevalprocAttr]
     refine AW.bend ?_
     refine AW.iter H ((Le.tq 1 [0] [0,1,2,6] (by simp only[f10_21_L5c,wm,wmr,rrm,↓wk,↓wl,evV,↓reduceIte,sevalprocAttr]<;>rfl))) ?_<;>clear H
     rintro ⟨x3,x4⟩ x_ st0_ H hst_
     rw[f10_21_L5c] at hst_
     simp only[f10_21_L5] at H
     subst hst_
     refine AW.sseq ?_
     refine AW.rseq ?_
     try simp only[wm,wmd,↓wk,↓wl,nqs,evV,↓reduceIte,sevalprocAttr]
     refine AW.ifc H (by rfl) ?_ ?_<;>clear H<;>intro H
     ·refine AW.skip ?_
      refine seqQ.norm ?_
      refine AW.bseq ?_
      refine AW.rseq ?_
      try simp only[wm,wmd,↓wk,↓wl,nqs,evV,↓reduceIte,sevalprocAttr]
      refine AW.bend ?_
      refine AW.iter H ((Le.tq 1 [0] [0,1,2,6,7] (by simp only[f10_21_L6c,wm,wmr,rrm,↓wk,↓wl,evV,↓reduceIte,sevalprocAttr]<;>rfl))) ?_<;>clear H
      rintro ⟨x5,x6⟩ x_ st0_ H hst_
      rw[f10_21_L6c] at hst_
      simp only[f10_21_L6] at H
      subst hst_
      refine AW.sseq ?_
      refine AW.rseq ?_
      try simp only[wm,wmd,↓wk,↓wl,nqs,evV,↓reduceIte,sevalprocAttr]
      refine evTs_ifg H (by rfl) ?_ ?_<;>clear H<;>intro H
      ·try simp only[wm,wmd,↓wk,↓wl,nqs,evV,↓reduceIte,sevalprocAttr]
       refine evTs_atr (enc:=(AV.int .u64)) H (by rfl) (by first | rfl | simp only[List.length_set]) (by rfl) ?_<;>clear H<;>intro x7 x8 H
       try simp only[wm,wmd,↓wk,↓wl,nqs,evV,↓reduceIte,sevalprocAttr,x8]
       refine evTs_atr (enc:=(AV.int .u64)) H (by rfl) (by first | rfl | simp only[List.length_set,x8]) (by rfl) ?_<;>clear H<;>intro x9 xa H
       try simp only[wm,wmd,↓wk,↓wl,nqs,evV,↓reduceIte,sevalprocAttr,x8,xa]
       refine evTs_pure hFn H (fun _ h=>f61_ok h) (by rfl) (by rfl) (by rfl) (by rfl) (fun _=>rfl) ?_<;>clear H<;>intro xb H
       try simp only[eL,wm,wmd,↓wk,↓wl,nqs,evV,↓reduceIte,sevalprocAttr,x8,xa]
       refine AW.ifc H (by rfl) ?_ ?_<;>clear H<;>intro H
       ·refine AW.skip ?_
        refine seqQ.norm ?_
        refine AW.bseq ?_
        refine AW.rend ?_
        try simp only[wm,wmd,↓wk,↓wl,nqs,evV,↓reduceIte,sevalprocAttr,x8,xa]
        refine evTs_atr (enc:=(AV.int .u64)) H (by rfl) (by first | rfl | simp only[List.length_set,x8,xa]) (by rfl) ?_<;>clear H<;>intro xc xd H
        try simp only[wm,wmd,↓wk,↓wl,nqs,evV,↓reduceIte,sevalprocAttr,x8,xd]
        refine evTs_atr (enc:=(AV.int .u64)) H (by rfl) (by first | rfl | simp only[List.length_set,x8,xd]) (by rfl) ?_<;>clear H<;>intro xe xf H
        try simp only[wm,wmd,↓wk,↓wl,nqs,evV,↓reduceIte,sevalprocAttr,xd,xf]
        refine evTs_atr (enc:=(AV.int .u64)) H (by rfl) (by first | rfl | simp only[List.length_set,xd,xf]) (by rfl) ?_<;>clear H<;>intro xg xh H
        try simp only[wm,wmd,↓wk,↓wl,nqs,evV,↓reduceIte,sevalprocAttr,xd,xh]
        refine evTs_stW (enc:=(AV.int .u64)) xc (by rfl) (by rfl) (by first | exact lt_map xh | (simp only[List.length_set,xd];exact lt_map xh)) (fun _=>by rfl) ?_
        have xi:=set_get xh xc
        try simp only[wm,wmd,↓wk,↓wl,nqs,evV,↓reduceIte,sevalprocAttr,xd,xh,xi]
        refine evTs_atr (enc:=(AV.int .u64)) H (by rfl) (by first | rfl | simp only[List.length_set,xd,xh,xi]) (by rfl) ?_<;>clear H<;>intro xj xk H
        try simp only[wm,wmd,↓wk,↓wl,nqs,evV,↓reduceIte,sevalprocAttr,xd,xh,xi,xk]
        refine evTs_stW (enc:=(AV.int .u64)) xe (by rfl) (by rfl) (by first | exact lt_map xk | (simp only[List.length_set,xd,xh,xi];exact lt_map xk)) (fun _=>by rfl) ?_
        have xl:=set_get xk xe
        try simp only[wm,wmd,↓wk,↓wl,nqs,evV,↓reduceIte,sevalprocAttr,xd,xh,xi,xk,xl]
        refine blkQ.norm ?_
        refine AW.rend ?_
        try simp only[wm,wmd,↓wk,↓wl,nqs,evV,↓reduceIte,sevalprocAttr,xd,xh,xi,xk,xl]
        exact loopQ.next H ((Le.tq 1 [0] [0,1,2,6,7] (by simp only[f10_21_L6c,wm,wmr,rrm,↓wk,↓wl,evV,↓reduceIte,sevalprocAttr,xd,xh,xi,xk,xl]<;>rfl)))
       ·refine AW.exit ?_
        refine seqQ.exit ?_
        refine loopQ.exit H ?_<;>clear H<;>intro H
        try dsimp only at H
        refine blk0.here ?_
        refine blkQ.norm ?_
        refine AW.rend ?_
        try simp only[wm,wmd,↓wk,↓wl,nqs,evV,↓reduceIte,sevalprocAttr,x8,xa]
        exact loopQ.next H ((Le.tq 1 [0] [0,1,2,6] (by simp only[f10_21_L5c,wm,wmr,rrm,↓wk,↓wl,evV,↓reduceIte,sevalprocAttr,x8,xa]<;>rfl)))
      ·try simp only[wm,wmd,↓wk,↓wl,nqs,evV,↓reduceIte,sevalprocAttr]
       refine AW.iff (by rfl) ?_
       refine AW.exit ?_
       refine seqQ.exit ?_
       refine loopQ.exit H ?_<;>clear H<;>intro H
       try dsimp only at H
       refine blk0.here ?_
       refine blkQ.norm ?_
       refine AW.rend ?_
       try simp only[wm,wmd,↓wk,↓wl,nqs,evV,↓reduceIte,sevalprocAttr]
       exact loopQ.next H ((Le.tq 1 [0] [0,1,2,6] (by simp only[f10_21_L5c,wm,wmr,rrm,↓wk,↓wl,evV,↓reduceIte,sevalprocAttr]<;>rfl)))
     ·refine AW.exit ?_
      refine seqQ.exit ?_
      refine loopQ.exit H ?_<;>clear H<;>intro H
      try dsimp only at H
      refine blk0.here ?_
      cases H
      exact hqf10_21_C4 _ _ _ (.inl rfl) (Le.tq 1 [0] [] rfl) (by simp only[resVs,omap,resV,f10_21_C4,wm,wmr,rrm,↓wk,↓wl,evV,↓reduceIte,sevalprocAttr]) (by simp only[f10_21_C4,wm,wmr,rrm,↓wk,↓wl,evV,↓reduceIte,sevalprocAttr])
    ·rintro xm s_ h_ H hs_ hh_
     simp only[f10_21_C4] at H hs_ hh_
     subst hs_
     subst hh_
     have xn:=(must_inv H).1
     have xo:=fun f=>take_map_eq xn f
     replace H:=(must_inv H).2
     try simp only[wm,wmd,↓wk,↓wl,nqs,evV,↓reduceIte,sevalprocAttr,xn,xo]
     refine AW.ret ?_
     refine seqQ.ret ?_
     refine blk0.ret ?_
     refine loopQ.ret H ?_<;>clear H<;>intro H
     try dsimp only at H
     refine blk0.ret ?_
     cases H
     exact hqf10_21_C2 _ _ _ (.inr rfl) (Le.tq 1 [0] [] rfl) (by simp only[resVs,omap,resV,f10_21_C2,wm,wmr,rrm,↓wk,↓wl,evV,↓reduceIte,sevalprocAttr,xn,xo]) (by simp only[f10_21_C2,wm,wmr,rrm,↓wk,↓wl,evV,↓reduceIte,sevalprocAttr,xn,xo])
   ·refine AW.skip ?_
    refine seqQ.norm ?_
    refine AW.sseq ?_
    refine AW.rseq ?_
    try simp only[wm,wmd,↓wk,↓wl,nqs,evV,↓reduceIte,sevalprocAttr]
    refine AW.ifc H (by rfl) ?_ ?_<;>clear H<;>intro H
    ·refine AW.rseq ?_
     try simp only[wm,wmd,↓wk,↓wl,nqs,evV,↓reduceIte,sevalprocAttr]
     cases H
    ·refine AW.skip ?_
     refine seqQ.norm ?_
     refine AW.sseq ?_
     refine AW.rseq ?_
     try simp only[wm,wmd,↓wk,↓wl,nqs,evV,↓reduceIte,sevalprocAttr]
     refine AW.iff (by rfl) ?_
     refine AW.skip ?_
     refine seqQ.norm ?_
     refine AW.rseq ?_
     try simp only[wm,wmd,↓wk,↓wl,nqs,evV,↓reduceIte,sevalprocAttr]
     cases H
  ·rintro xp s_ h_ H hs_ hh_
   simp only[f10_21_C2] at H hs_ hh_
   subst hs_
   subst hh_
   have xq:=(must_inv H).1
   have xr:=fun f=>take_map_eq xq f
   replace H:=(must_inv H).2
   try simp only[wm,wmd,↓wk,↓wl,nqs,evV,↓reduceIte,sevalprocAttr,xq,xr]
   cases H
   exact hqf10_21_C1 _ _ _ (.inl rfl) (Le.tq 1 [0] [] rfl) (by simp only[resVs,omap,resV,f10_21_C1,wm,wmr,rrm,↓wk,↓wl,evV,↓reduceIte,sevalprocAttr,xq,xr]) (by simp only[f10_21_C1,wm,wmr,rrm,↓wk,↓wl,evV,↓reduceIte,sevalprocAttr,xq,xr])
 ·rintro xs s_ h_ H hs_ hh_
  simp only[f10_21_C1] at H hs_ hh_
  subst hs_
  subst hh_
  have xt:=(must_inv H).1
  have xu:=fun f=>take_map_eq xt f
  replace H:=(must_inv H).2
  try simp only[wm,wmd,↓wk,↓wl,nqs,evV,↓reduceIte,sevalprocAttr,xt,xu]
  refine AW.rseq ?_
  try simp only[wm,wmd,↓wk,↓wl,nqs,evV,↓reduceIte,sevalprocAttr,xt,xu]
  refine AW.ret ?_
  cases H
  exact hQ _ _ _ _ (.inr rfl) (by simp only[resVs,omap,resV,wm,wmd,↓wk,↓wl,nqs,evV,↓reduceIte,sevalprocAttr,xt,xu];rfl) (hand_1 (by rfl) (by first | rfl | (simp only[List.length_map,List.length_set,xt];done) | simp[xt]) (enc_all _)) (by first | exact Or.inl rfl | exact Or.inr rfl)
noncomputable def f9_L1(x0:(List Int))(x1:(List Int)):Lp (Int) ((Unit)⊕(Unit)) where
  body:=fun x2=>(if (decide (x2<((x0.length:Nat):Int)))=true then (at? x0 x2).bind fun x3=>(at? x1 x2).bind fun x4=>(if (decide (x3≠x4))=true then (some (.brk (Sum.inr ()))) else (some (.next (IntKind.i64.wrap (x2 + 1))))) else (some (.brk (Sum.inl ()))))
  cst:=fun x2=>⟨put (put (put (put (fun _=>.junk) 13 (.int .i64 x2)) 12 (.int .i64 ((x0.length:Nat):Int))) 1 (.sl 0 false (x1.map (AV.int .u64)))) 0 (.sl 0 false (x0.map (AV.int .u64))),[]⟩
theorem f9_L1c(x0:(List Int))(x1:(List Int))(x2:Int):(f9_L1 x0 x1).cst x2=⟨put (put (put (put (fun _=>.junk) 13 (.int .i64 x2)) 12 (.int .i64 ((x0.length:Nat):Int))) 1 (.sl 0 false (x1.map (AV.int .u64)))) 0 (.sl 0 false (x0.map (AV.int .u64))),[]⟩:=rfl
def c9_0:C:=.cond (.t 10) (.seq (.reg [iI 4 (.mv (.c (.bool false)))]) .ret) (.skip)
def c9_1:C:=.cond (.t 24) (.seq (.reg [iI 4 (.mv (.c (.bool false)))]) .ret) (.skip)
def c9_2:C:=.seq (.reg [iI 16 (.mv (.t 0)),iI 17 (.mv (.t 5)),iI 18 (.iaddr 0 (.t 16) (.t 17)),iI 19 (.load 0 (.t 18)),iI 20 (.mv (.t 1)),iI 21 (.mv (.t 5)),iI 22 (.iaddr 0 (.t 20) (.t 21)),iI 23 (.load 0 (.t 22)),iI 24 (.bin .neq (.t 19) (.t 23))]) c9_1
def c9_3:C:=.reg [iI 25 (.bin .add (.t 13) (.c (.int .i64 1))),iI 13 (.mv (.t 25))]
def c9_4:C:=.seq (.block 1 (.seq (.reg [iI 15 (.mv (.t 13)),iI 5 (.mv (.t 15))]) c9_2)) c9_3
def c9_5:C:=.seq (.cond (.t 14) (.skip) (.exit 0)) c9_4
def c9_6:C:=.block 0 (.loop (.seq (.reg [iI 14 (.bin .lss (.t 13) (.t 12))]) c9_5))
def c9_7:C:=.seq (.reg [iI 4 (.mv (.c (.bool true)))]) .ret
def c9_8:C:=.seq (.seq (.reg [iI 11 (.mv (.t 0)),iI 12 (.len 0 (.t 11)),iI 13 (.mv (.c (.int .i64 0)))]) c9_6) c9_7
def c9_9:C:=.seq (.seq (.reg [iI 6 (.mv (.t 0)),iI 7 (.len 0 (.t 6)),iI 8 (.mv (.t 1)),iI 9 (.len 0 (.t 8)),iI 10 (.bin .neq (.t 7) (.t 9))]) c9_0) c9_8
def ir9:C:=.seq (.reg [iI 4 (.mv (.c (.bool false)))]) c9_9
theorem fd9:fd? Tryz.prog 9=some (26,[.slot 4],ir9):=by kernel_rfl
noncomputable def f9(x0:(List Int))(x1:(List Int)):Option (Bool) :=
  (if (decide (((x0.length:Nat):Int)≠((x1.length:Nat):Int)))=true then (some false) else ((Lp.run (f9_L1 x0 x1) 0).bind fun r_=>match r_ with | (Sum.inl _)=>(some true) | (Sum.inr _)=>(some false)))
theorem f9_ok{x0:(List Int)}{x1:(List Int)}{r_:Bool}(H:f9 x0 x1=some r_):Pure Tryz.prog 9 [.sl 0 false (x0.map (AV.int .u64)),.sl 0 false (x1.map (AV.int .u64))] (· = .bool r_):=by
 refine Pure.walk3 fd9 none (Nat.le_of_ble_eq_true rfl) (by rfl) fun Q hQ=>?_
 simp only[f9] at H
 refine AW.rseq ?_
 try simp only[wm,wmd,↓wk,↓wl,nq,evV,↓reduceIte,sevalprocAttr]
 refine AW.sseq ?_
 refine AW.rseq ?_
 try simp only[wm,wmd,↓wk,↓wl,nq,evV,↓reduceIte,sevalprocAttr]
 refine AW.ifc H (by rfl) ?_ ?_<;>clear H<;>intro H
 ·refine AW.rseq ?_
  try simp only[wm,wmd,↓wk,↓wl,nq,evV,↓reduceIte,sevalprocAttr]
  refine AW.ret ?_
  refine seqQ.ret ?_
  cases H
  exact hQ _ _ _ _ (.inr rfl) (by simp only[resVs,omap,resV,wm,wmd,↓wk,↓wl,nq,evV,↓reduceIte,sevalprocAttr];rfl) (hand_plain (by rfl)) (by first | exact Or.inl rfl | exact Or.inr rfl)
 ·refine AW.skip ?_
  refine seqQ.norm ?_
  refine AW.sseq ?_
  refine AW.rseq ?_
  try simp only[wm,wmd,↓wk,↓wl,nq,evV,↓reduceIte,sevalprocAttr]
  refine AW.bend ?_
  refine AW.iter H ((Le.tz [] [0,1,12,13] (by simp only[f9_L1c,wm,wmr,rrm,↓wk,↓wl,evV,↓reduceIte,sevalprocAttr]<;>rfl))) ?_<;>clear H
  rintro x2 x_ st0_ H hst_
  rw[f9_L1c] at hst_
  simp only[f9_L1] at H
  subst hst_
  refine AW.rseq ?_
  try simp only[wm,wmd,↓wk,↓wl,nq,evV,↓reduceIte,sevalprocAttr]
  refine AW.sseq ?_
  refine AW.ifc H (by rfl) ?_ ?_<;>clear H<;>intro H
  ·refine AW.skip ?_
   refine seqQ.norm ?_
   refine AW.bseq ?_
   refine AW.rseq ?_
   try simp only[wm,wmd,↓wk,↓wl,nq,evV,↓reduceIte,sevalprocAttr]
   refine AW.rseq ?_
   try simp only[wm,wmd,↓wk,↓wl,nq,evV,↓reduceIte,sevalprocAttr]
   refine evTs_at (enc:=(AV.int .u64)) H (by rfl) (by rfl) ?_<;>clear H<;>intro x3 H
   try simp only[wm,wmd,↓wk,↓wl,nq,evV,↓reduceIte,sevalprocAttr]
   refine evTs_at (enc:=(AV.int .u64)) H (by rfl) (by rfl) ?_<;>clear H<;>intro x4 H
   try simp only[wm,wmd,↓wk,↓wl,nq,evV,↓reduceIte,sevalprocAttr]
   refine AW.ifc H (by rfl) ?_ ?_<;>clear H<;>intro H
   ·refine AW.rseq ?_
    try simp only[wm,wmd,↓wk,↓wl,nq,evV,↓reduceIte,sevalprocAttr]
    refine AW.ret ?_
    refine blkQ.ret ?_
    refine loopQ.ret H ?_<;>clear H<;>intro H
    try dsimp only at H
    refine blk0.ret ?_
    refine seqQ.ret ?_
    cases H
    exact hQ _ _ _ _ (.inr rfl) (by simp only[resVs,omap,resV,wm,wmd,↓wk,↓wl,nq,evV,↓reduceIte,sevalprocAttr];rfl) (hand_plain (by rfl)) (by first | exact Or.inl rfl | exact Or.inr rfl)
   ·refine AW.skip ?_
    refine blkQ.norm ?_
    refine AW.rend ?_
    try simp only[wm,wmd,↓wk,↓wl,nq,evV,↓reduceIte,sevalprocAttr]
    exact loopQ.next H ((Le.tz [] [0,1,12,13] (by simp only[f9_L1c,wm,wmr,rrm,↓wk,↓wl,evV,↓reduceIte,sevalprocAttr]<;>rfl)))
  ·refine AW.exit ?_
   refine seqQ.exit ?_
   refine loopQ.exit H ?_<;>clear H<;>intro H
   try dsimp only at H
   refine blk0.here ?_
   refine seqQ.norm ?_
   refine AW.rseq ?_
   try simp only[wm,wmd,↓wk,↓wl,nq,evV,↓reduceIte,sevalprocAttr]
   refine AW.ret ?_
   cases H
   exact hQ _ _ _ _ (.inr rfl) (by simp only[resVs,omap,resV,wm,wmd,↓wk,↓wl,nq,evV,↓reduceIte,sevalprocAttr];rfl) (hand_plain (by rfl)) (by first | exact Or.inl rfl | exact Or.inr rfl)
def c11_0:C:=.seq (.reg [iI 3 (.mkfn 21 [(.t 1)]),iI 2 (.mv (.t 3))]) .ret
def ir11:C:=.seq (.reg [iI 1 (.box (.t 0)),iI 2 (.mv (.c .nilfn))]) c11_0
theorem fd11:fd? Tryz.prog 11=some (4,[.slot 2],ir11):=by kernel_rfl
noncomputable def f6_C1(x0:(List ResponderDevice)×DiscoveryFinding×Int):Il (Unit) where
  run:=(some ())
  res:=fun _=>.fn 21 [.ptr 1 0]
  hp:=fun _=>[.cel [.sl 0 false (x0.2.1.fFound.map (AV.int .u64)),.int .i64 x0.2.1.fMessages],.cel [.sl 0 false (x0.2.1.fFound.map (AV.int .u64))]]
def c6_0:C:=.cond (.t 49) (.seq (.reg [iI 0 (.mv (.c (.bool false)))]) .ret) (.skip)
def c6_1:C:=.seq (.reg [iI 75 (.mv (.t 3)),iI 76 (.mv (.t 7)),iI 77 (.bin .add (.t 75) (.t 76)),iI 78 (.mv (.t 11)),iI 79 (.bin .add (.t 77) (.t 78)),iI 80 (.bin .eql (.t 79) (.c (.int .i64 0))),iI 81 (.mv (.t 80)),iG (some 82) 81 true (.faddr 0 (.t 6)),iG (some 83) 81 true (.load 0 (.t 82)),iG (some 84) 81 true (.bin .eql (.t 83) (.c (.int .i64 0))),iI 85 (.pick (.t 81) (.t 84) (.c (.bool false))),iI 86 (.mv (.t 85)),iG (some 87) 86 true (.faddr 3 (.t 6)),iG (some 88) 86 true (.load 0 (.t 87)),iG (some 89) 86 true (.bin .eql (.t 88) (.c (.int .i64 2))),iI 90 (.pick (.t 86) (.t 89) (.c (.bool false))),iI 91 (.mv (.t 90)),iG (some 92) 91 true (.faddr 1 (.t 10)),iG (some 93) 91 true (.load 0 (.t 92)),iG (some 94) 91 true (.bin .eql (.t 93) (.c (.str [108,101,102,116]))),iI 95 (.pick (.t 91) (.t 94) (.c (.bool false))),iI 0 (.mv (.t 95))]) .ret
def c6_2:C:=.seq (.reg [iI 67 (.load 3 (.t 4)),iI 68 (.load 3 (.t 5)),iI 69 (.build [(1,(.int .u64 0)),(1,(.int .i64 0)),(1,(.int .i64 0)),(1,(.str []))] [(0,0,(.c (.int .u64 5))),(1,0,(.c (.int .i64 4))),(2,0,(.c (.int .i64 130)))]),iI 70 (.call (.c (.fn 15 [])) [(.t 67),(.t 68),(.t 69)]),iI 66 (.mv (.t 70)),iI 71 (.ext (.t 66) 0),iI 72 (.ext (.t 66) 1),iI 73 (.ext (.t 66) 2),iI 74 (.ext (.t 66) 3),iI 8 (.alloc [(1,(.int .u64 0)),(1,(.int .i64 0)),(1,(.int .i64 0))]),iI 9 (.alloc [(1,(.sl 7 true [])),(1,(.sl 0 true [])),(1,(.sl 0 true []))]),iI 10 (.alloc [(1,(.int .i64 0)),(1,(.str [])),(1,(.int .i64 0)),(1,(.int .i64 0))]),iN (.store 3 (.t 8) (.t 71)),iN (.store 3 (.t 9) (.t 72)),iN (.store 4 (.t 10) (.t 73)),iI 11 (.mv (.t 74))]) c6_1
def c6_3:C:=.seq (.reg [iI 58 (.load 3 (.t 4)),iI 59 (.load 3 (.t 5)),iI 60 (.build [(1,(.int .u64 0)),(1,(.int .i64 0)),(1,(.int .i64 0)),(1,(.str []))] [(0,0,(.c (.int .u64 5))),(1,0,(.c (.int .i64 5))),(2,0,(.c (.int .i64 130))),(3,0,(.c (.str [108,101,102,116])))]),iI 61 (.call (.c (.fn 15 [])) [(.t 58),(.t 59),(.t 60)]),iI 57 (.mv (.t 61)),iI 62 (.ext (.t 57) 0),iI 63 (.ext (.t 57) 1),iI 64 (.ext (.t 57) 2),iI 65 (.ext (.t 57) 3),iI 6 (.alloc [(1,(.int .i64 0)),(1,(.str [])),(1,(.int .i64 0)),(1,(.int .i64 0))]),iN (.store 3 (.t 4) (.t 62)),iN (.store 3 (.t 5) (.t 63)),iN (.store 4 (.t 6) (.t 64)),iI 7 (.mv (.t 65))]) c6_2
def c6_4:C:=.seq (.reg [iI 54 (.mv (.t 1)),iI 55 (.mkslp 0 1 (.int .i64 0) [(0,(.c (.int .i64 2)))]),iI 56 (.build [(1,(.sl 7 true [])),(1,(.sl 0 true [])),(1,(.sl 0 true []))] [(0,0,(.t 54)),(1,0,(.t 55))]),iI 5 (.alloc [(1,(.sl 7 true [])),(1,(.sl 0 true [])),(1,(.sl 0 true []))]),iN (.store 3 (.t 5) (.t 56))]) c6_3
def c6_5:C:=.seq (.reg [iI 51 (.call (.c (.fn 14 [])) [(.c (.int .u64 9)),(.c (.int .i64 3))]),iI 50 (.mv (.t 51)),iI 52 (.ext (.t 50) 0),iI 53 (.ext (.t 50) 1),iI 4 (.alloc [(1,(.int .u64 0)),(1,(.int .i64 0)),(1,(.int .i64 0))]),iN (.store 3 (.t 4) (.t 52)),iI 3 (.mv (.t 53))]) c6_4
def c6_6:C:=.seq (.seq (.reg [iI 20 (.mv (.t 3)),iI 21 (.bin .neq (.t 20) (.c (.int .i64 0))),iI 22 (.mv (.t 21)),iG (some 23) 22 false (.mv (.t 1)),iG (some 24) 22 false (.len 0 (.t 23)),iG (some 25) 22 false (.bin .neq (.t 24) (.c (.int .i64 2))),iI 26 (.pick (.t 22) (.c (.bool true)) (.t 25)),iI 27 (.mv (.t 26)),iG (some 28) 27 false (.faddr 0 (.t 2)),iG (some 29) 27 false (.load 0 (.t 28)),iG (some 30) 27 false (.call (.c (.fn 11 [])) [(.t 29)]),iG (some 31) 27 false (.call (.c (.fn 10 [])) [(.t 30)]),iG (some 32) 27 false (.mkslp 0 2 (.int .u64 0) [(0,(.c (.int .u64 5))),(1,(.c (.int .u64 6)))]),iG (some 33) 27 false (.call (.c (.fn 9 [])) [(.t 31),(.t 32)]),iG (some 34) 27 false (.un .not (.t 33)),iI 35 (.pick (.t 27) (.c (.bool true)) (.t 34)),iI 36 (.mv (.t 35)),iG (some 37) 36 false (.mv (.t 1)),iG (some 38) 36 false (.iaddr 7 (.t 37) (.c (.int .i64 0))),iG (some 39) 36 false (.faddr 5 (.t 38)),iG (some 40) 36 false (.load 0 (.t 39)),iG (some 41) 36 false (.un .not (.t 40)),iI 42 (.pick (.t 36) (.c (.bool true)) (.t 41)),iI 43 (.mv (.t 42)),iG (some 44) 43 false (.mv (.t 1)),iG (some 45) 43 false (.iaddr 7 (.t 44) (.c (.int .i64 1))),iG (some 46) 43 false (.faddr 5 (.t 45)),iG (some 47) 43 false (.load 0 (.t 46)),iG (some 48) 43 false (.un .not (.t 47)),iI 49 (.pick (.t 43) (.c (.bool true)) (.t 48))]) c6_0) c6_5
def c6_7:C:=.seq (.reg [iI 13 (.call (.c (.fn 13 [])) [(.c (.int .u64 5))]),iI 14 (.call (.c (.fn 13 [])) [(.c (.int .u64 6))]),iI 15 (.mkslp 7 2 (.agg [(.int .u64 0),(.int .i64 0),(.int .i64 0),(.str []),(.int .i64 0),(.bool false),(.bool false)]) [(0,(.t 13)),(1,(.t 14))]),iI 16 (.call (.c (.fn 7 [])) [(.t 15),(.c (.int .u64 9))]),iI 12 (.mv (.t 16)),iI 17 (.ext (.t 12) 0),iI 18 (.ext (.t 12) 1),iI 19 (.ext (.t 12) 2),iI 2 (.alloc [(1,(.sl 0 true [])),(1,(.int .i64 0))]),iI 1 (.mv (.t 17)),iN (.store 2 (.t 2) (.t 18)),iI 3 (.mv (.t 19))]) c6_6
def ir6:C:=.seq (.reg [iI 0 (.mv (.c (.bool false)))]) c6_7
theorem fd6:fd? Tryz.prog 6=some (96,[.slot 0],ir6):=by kernel_rfl
noncomputable def f6:Option (Bool) :=
  (f13 5).bind fun x0=>(f13 6).bind fun x1=>(f7 ([x0,x1]) 9).bind fun x2=>(if (decide (x2.2.2≠0))=true then (some false) else (if (decide (((x2.1.length:Nat):Int)≠2))=true then (some false) else ((f6_C1 x2).run.bind fun _=>(f10_21 x2.2.1.fFound).bind fun x3=>(f9 x3 ([5,6])).bind fun x4=>(if (!x4)=true then (some false) else (at? x2.1 0).bind fun x5=>(if (!x5.fMuted)=true then (some false) else (at? x2.1 1).bind fun x6=>(if (!x6.fMuted)=true then (some false) else (f14 9 3).bind fun x7=>(f15 x7.1 (ManagerWire.mk x2.1 ([2]) ([])) (ManagerRequest.mk 5 5 130 ([108,101,102,116]))).bind fun x8=>(f15 x8.1 x8.2.1 (ManagerRequest.mk 5 4 130 ([]))).bind fun x9=>(if (decide ((IntKind.i64.wrap ((IntKind.i64.wrap (x7.2 + x8.2.2.2)) + x9.2.2.2))=0))=true then (if (decide (x8.2.2.1.fKind=0))=true then (if (decide (x8.2.2.1.fTries=2))=true then (some (x9.2.2.1.fData == ([108,101,102,116]))) else (some false)) else (some false)) else (some false))))))))
theorem f6_ok{r_:Bool}(H:f6=some r_):Pure Tryz.prog 6 [] (· = .bool r_):=by
 refine Pure.walk3 fd6 none (Nat.le_of_ble_eq_true rfl) (by rfl) fun Q hQ=>?_
 simp only[f6] at H
 refine AW.rseq ?_
 try simp only[wm,wmd,↓wk,↓wl,nq,evV,↓reduceIte,sevalprocAttr]
 refine AW.rseq ?_
 try simp only[wm,wmd,↓wk,↓wl,nq,evV,↓reduceIte,sevalprocAttr]
 refine evTs_pure hFn H (fun _ h=>f13_ok h) (by rfl) (by rfl) (by rfl) (by rfl) (fun _=>rfl) ?_<;>clear H<;>intro x0 H
 try simp only[eL,eResponderDevice,eM,wm,wmd,↓wk,↓wl,nq,evV,↓reduceIte,sevalprocAttr]
 refine evTs_pure hFn H (fun _ h=>f13_ok h) (by rfl) (by rfl) (by rfl) (by rfl) (fun _=>rfl) ?_<;>clear H<;>intro x1 H
 try simp only[eL,eResponderDevice,eM,wm,wmd,↓wk,↓wl,nq,evV,↓reduceIte,sevalprocAttr]
 refine evTs_pure hFn H (fun _ h=>f7_ok h) (by rfl) (by rfl) (by rfl) (by rfl) (fun _=>rfl) ?_<;>clear H<;>intro x2 H
 try simp only[eL,eDiscoveryFinding,eM,wm,wmd,↓wk,↓wl,nq,evV,↓reduceIte,sevalprocAttr]
 refine AW.sseq ?_
 refine AW.rseq ?_
 try simp only[wm,wmd,↓wk,↓wl,nq,evV,↓reduceIte,sevalprocAttr]
 refine evTs_ifg H (by rfl) ?_ ?_<;>clear H<;>intro H
 ·try simp only[wm,wmd,↓wk,↓wl,nq,evV,↓reduceIte,sevalprocAttr]
  refine AW.ift (by rfl) ?_
  refine AW.rseq ?_
  try simp only[wm,wmd,↓wk,↓wl,nq,evV,↓reduceIte,sevalprocAttr]
  refine AW.ret ?_
  refine seqQ.ret ?_
  cases H
  exact hQ _ _ _ _ (.inr rfl) (by simp only[resVs,omap,resV,wm,wmd,↓wk,↓wl,nq,evV,↓reduceIte,sevalprocAttr];rfl) (hand_plain (by rfl)) (by first | exact Or.inl rfl | exact Or.inr rfl)
 ·try simp only[wm,wmd,↓wk,↓wl,nq,evV,↓reduceIte,sevalprocAttr]
  refine evTs_ifg H (by rfl) ?_ ?_<;>clear H<;>intro H
  ·try simp only[wm,wmd,↓wk,↓wl,nq,evV,↓reduceIte,sevalprocAttr]
   refine AW.ift (by rfl) ?_
   refine AW.rseq ?_
   try simp only[wm,wmd,↓wk,↓wl,nq,evV,↓reduceIte,sevalprocAttr]
   refine AW.ret ?_
   refine seqQ.ret ?_
   cases H
   exact hQ _ _ _ _ (.inr rfl) (by simp only[resVs,omap,resV,wm,wmd,↓wk,↓wl,nq,evV,↓reduceIte,sevalprocAttr];rfl) (hand_plain (by rfl)) (by first | exact Or.inl rfl | exact Or.inr rfl)
  ·try simp only[wm,wmd,↓wk,↓wl,nq,evV,↓reduceIte,sevalprocAttr]
   refine evTs_inl (I:=f6_C1 x2) (args:=[.sl 0 false (x2.2.1.fFound.map (AV.int .u64))]) H (by rfl) fd11 (by rfl) (Nat.le_of_ble_eq_true rfl) ?_ ?_<;>clear H
   ·rintro v_ Q_ H hqf6_C1
    simp only[f6_C1] at H
    dsimp only[List.length_cons,List.length_nil]
    refine AW.rseq ?_
    try simp only[wm,wmd,↓wk,↓wl,nq,evV,↓reduceIte,sevalprocAttr]
    refine AW.rseq ?_
    try simp only[wm,wmd,↓wk,↓wl,nq,evV,↓reduceIte,sevalprocAttr]
    refine AW.ret ?_
    cases H
    exact hqf6_C1 _ _ _ (.inr rfl) (Le.tq 1 [0,1] [2] rfl) (by simp only[resVs,omap,resV,f6_C1,wm,wmr,rrm,↓wk,↓wl,evV,↓reduceIte,sevalprocAttr]) (by simp only[f6_C1,wm,wmr,rrm,↓wk,↓wl,evV,↓reduceIte,sevalprocAttr])
   ·rintro _ s_ h_ H hs_ hh_
    simp only[f6_C1] at H hs_ hh_
    subst hs_
    subst hh_
    try simp only[wm,wmd,↓wk,↓wl,nq,evV,↓reduceIte,sevalprocAttr]
    refine evTs_frR H (fun _ h=>f10_21_ok h) (by rfl) (by rfl) (by simp only[deep_eq,imm_simps,imm_rowE,imm_ptrE,imm_enc,imm_mrefE,imm_mpE,imm_arowE,omap_simps,take_map_len,take_map_set,take_map_set2,List.length_set,le_refl_true,Nat.zero_add,and_true,true_and,List.drop_zero,Option.map_some,wm,wmd,↓wk,↓wl,nq,evV,↓reduceIte,sevalprocAttr];rfl) (by rfl) (fun _=>by simp only[flatR,List.all_cons,List.all_nil,flat_all,Bool.and_true];try rfl) (fun _=>rfl) ?_<;>clear H<;>intro x3 H
    try simp only[eL,wm,wmd,↓wk,↓wl,nq,evV,↓reduceIte,sevalprocAttr]
    refine evTs_flat hFn H (fun _ h=>f9_ok h) (by rfl) (by rfl) (by simp only[deep_eq,imm_simps,imm_rowE,imm_ptrE,imm_enc,imm_mrefE,imm_mpE,imm_arowE,omap_simps,take_map_len,take_map_set,take_map_set2,List.length_set,le_refl_true,Nat.zero_add,and_true,true_and,List.drop_zero,Option.map_some,wm,wmd,↓wk,↓wl,nq,evV,↓reduceIte,sevalprocAttr];rfl) (by rfl) (fun _=>rfl) (fun _=>rfl) ?_<;>clear H<;>intro x4 H
    try simp only[eL,wm,wmd,↓wk,↓wl,nq,evV,↓reduceIte,sevalprocAttr]
    refine evTs_ifg H (by rfl) ?_ ?_<;>clear H<;>intro H
    ·try simp only[wm,wmd,↓wk,↓wl,nq,evV,↓reduceIte,sevalprocAttr]
     refine AW.ift (by rfl) ?_
     refine AW.rseq ?_
     try simp only[wm,wmd,↓wk,↓wl,nq,evV,↓reduceIte,sevalprocAttr]
     refine AW.ret ?_
     refine seqQ.ret ?_
     cases H
     exact hQ _ _ _ _ (.inr rfl) (by simp only[resVs,omap,resV,wm,wmd,↓wk,↓wl,nq,evV,↓reduceIte,sevalprocAttr];rfl) (hand_plain (by rfl)) (by first | exact Or.inl rfl | exact Or.inr rfl)
    ·try simp only[wm,wmd,↓wk,↓wl,nq,evV,↓reduceIte,sevalprocAttr]
     refine evTs_at (enc:=eResponderDevice) H (by rfl) (by rfl) ?_<;>clear H<;>intro x5 H
     try simp only[eResponderDevice,eL,eM,wm,wmd,↓wk,↓wl,nq,evV,↓reduceIte,sevalprocAttr]
     refine evTs_ifg H (by rfl) ?_ ?_<;>clear H<;>intro H
     ·try simp only[wm,wmd,↓wk,↓wl,nq,evV,↓reduceIte,sevalprocAttr]
      refine AW.ift (by rfl) ?_
      refine AW.rseq ?_
      try simp only[wm,wmd,↓wk,↓wl,nq,evV,↓reduceIte,sevalprocAttr]
      refine AW.ret ?_
      refine seqQ.ret ?_
      cases H
      exact hQ _ _ _ _ (.inr rfl) (by simp only[resVs,omap,resV,wm,wmd,↓wk,↓wl,nq,evV,↓reduceIte,sevalprocAttr];rfl) (hand_plain (by rfl)) (by first | exact Or.inl rfl | exact Or.inr rfl)
     ·try simp only[wm,wmd,↓wk,↓wl,nq,evV,↓reduceIte,sevalprocAttr]
      refine evTs_at (enc:=eResponderDevice) H (by rfl) (by rfl) ?_<;>clear H<;>intro x6 H
      try simp only[eResponderDevice,eL,eM,wm,wmd,↓wk,↓wl,nq,evV,↓reduceIte,sevalprocAttr]
      refine AW.ifc H (by rfl) ?_ ?_<;>clear H<;>intro H
      ·refine AW.rseq ?_
       try simp only[wm,wmd,↓wk,↓wl,nq,evV,↓reduceIte,sevalprocAttr]
       refine AW.ret ?_
       refine seqQ.ret ?_
       cases H
       exact hQ _ _ _ _ (.inr rfl) (by simp only[resVs,omap,resV,wm,wmd,↓wk,↓wl,nq,evV,↓reduceIte,sevalprocAttr];rfl) (hand_plain (by rfl)) (by first | exact Or.inl rfl | exact Or.inr rfl)
      ·refine AW.skip ?_
       refine seqQ.norm ?_
       refine AW.rseq ?_
       try simp only[wm,wmd,↓wk,↓wl,nq,evV,↓reduceIte,sevalprocAttr]
       refine evTs_pure hFn H (fun _ h=>f14_ok h) (by rfl) (by rfl) (by rfl) (by rfl) (fun _=>rfl) ?_<;>clear H<;>intro x7 H
       try simp only[eL,eManagerManager,eM,wm,wmd,↓wk,↓wl,nq,evV,↓reduceIte,sevalprocAttr]
       refine AW.rseq ?_
       try simp only[wm,wmd,↓wk,↓wl,nq,evV,↓reduceIte,sevalprocAttr]
       refine AW.rseq ?_
       try simp only[wm,wmd,↓wk,↓wl,nq,evV,↓reduceIte,sevalprocAttr]
       refine evTs_pure hFn H (fun _ h=>f15_ok h) (by rfl) (by rfl) (by rfl) (by rfl) (fun _=>rfl) ?_<;>clear H<;>intro x8 H
       try simp only[eL,eManagerManager,eM,eManagerWire,eManagerResult,wm,wmd,↓wk,↓wl,nq,evV,↓reduceIte,sevalprocAttr]
       refine AW.rseq ?_
       try simp only[wm,wmd,↓wk,↓wl,nq,evV,↓reduceIte,sevalprocAttr]
       refine evTs_pure hFn H (fun _ h=>f15_ok h) (by rfl) (by rfl) (by rfl) (by rfl) (fun _=>rfl) ?_<;>clear H<;>intro x9 H
       try simp only[eL,eManagerManager,eM,eManagerWire,eManagerResult,wm,wmd,↓wk,↓wl,nq,evV,↓reduceIte,sevalprocAttr]
       refine AW.rseq ?_
       try simp only[wm,wmd,↓wk,↓wl,nq,evV,↓reduceIte,sevalprocAttr]
       refine evTs_ifg H (by rfl) ?_ ?_<;>clear H<;>intro H
       ·try simp only[wm,wmd,↓wk,↓wl,nq,evV,↓reduceIte,sevalprocAttr]
        refine evTs_ifg H (by rfl) ?_ ?_<;>clear H<;>intro H
        ·try simp only[wm,wmd,↓wk,↓wl,nq,evV,↓reduceIte,sevalprocAttr]
         refine evTs_ifg H (by rfl) ?_ ?_<;>clear H<;>intro H
         ·try simp only[wm,wmd,↓wk,↓wl,nq,evV,↓reduceIte,sevalprocAttr]
          refine AW.ret ?_
          cases H
          exact hQ _ _ _ _ (.inr rfl) (by simp only[resVs,omap,resV,wm,wmd,↓wk,↓wl,nq,evV,↓reduceIte,sevalprocAttr];rfl) (hand_plain (by rfl)) (by first | exact Or.inl rfl | exact Or.inr rfl)
         ·try simp only[wm,wmd,↓wk,↓wl,nq,evV,↓reduceIte,sevalprocAttr]
          refine AW.ret ?_
          cases H
          exact hQ _ _ _ _ (.inr rfl) (by simp only[resVs,omap,resV,wm,wmd,↓wk,↓wl,nq,evV,↓reduceIte,sevalprocAttr];rfl) (hand_plain (by rfl)) (by first | exact Or.inl rfl | exact Or.inr rfl)
        ·try simp only[wm,wmd,↓wk,↓wl,nq,evV,↓reduceIte,sevalprocAttr]
         refine AW.ret ?_
         cases H
         exact hQ _ _ _ _ (.inr rfl) (by simp only[resVs,omap,resV,wm,wmd,↓wk,↓wl,nq,evV,↓reduceIte,sevalprocAttr];rfl) (hand_plain (by rfl)) (by first | exact Or.inl rfl | exact Or.inr rfl)
       ·try simp only[wm,wmd,↓wk,↓wl,nq,evV,↓reduceIte,sevalprocAttr]
        refine AW.ret ?_
        cases H
        exact hQ _ _ _ _ (.inr rfl) (by simp only[resVs,omap,resV,wm,wmd,↓wk,↓wl,nq,evV,↓reduceIte,sevalprocAttr];rfl) (hand_plain (by rfl)) (by first | exact Or.inl rfl | exact Or.inr rfl)
end Go.Proofs.YtgjfhplkochbpaaGreat
