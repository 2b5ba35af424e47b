import Derived.Test.YtgjfhplkochbpaaGreatAX1
import Derived.Test.YtgjfhplkochbpaaGreatAM6
import Derived.Test.YtgjfhplkochbpaaGreatAMB
import Derived.Test.YtgjfhplkochbpaaGreatProg
import Derived.KernelRfl
namespace Go.Proofs.YtgjfhplkochbpaaGreat
open Go Go.Ab
set_option maxHeartbeats 1000000
set_option maxRecDepth 4000
set_option linter.unusedSimpArgs false
set_option linter.unusedVariables false
theorem f27_ok{x0:(List ResponderDevice)}{x1:ApiMessage}{r_:(List ResponderDevice)×(List ApiMessage)×Int}(H:f27 x0 x1=some r_):Pure Tryz.prog 27 [.sl 7 false (x0.map eResponderDevice),.agg [.int .u64 x1.fTo,.int .u64 x1.fFrom,.int .i64 x1.fSeq,.int .i64 x1.fKind,.int .i64 x1.fParam,.str x1.fData]] (· = .tup [.sl 7 false (r_.1.map eResponderDevice),.sl 6 false (r_.2.1.map eApiMessage),.int .i64 r_.2.2]):=by
 refine Pure.walk3 fd27 none (Nat.le_of_ble_eq_true rfl) (by rfl) fun Q hQ=>?_
 simp only[f27] at H
 refine AW.rseq ?_
 try simp only[wm,wmd,↓wk,↓wl,nq,evV,↓reduceIte,sevalprocAttr]
 refine AW.sseq ?_
 refine AW.rseq ?_
 try simp only[wm,wmd,↓wk,↓wl,nq,evV,↓reduceIte,sevalprocAttr]
 refine AW.ifc H (by rfl) ?_ ?_<;>clear H<;>intro H
 ·refine AW.rseq ?_
  try simp only[wm,wmd,↓wk,↓wl,nq,evV,↓reduceIte,sevalprocAttr]
  refine AW.ret ?_
  refine seqQ.ret ?_
  cases H
  exact hQ _ _ _ _ (.inr rfl) (by simp only[resVs,omap,resV,wm,wmd,↓wk,↓wl,nq,evV,↓reduceIte,sevalprocAttr];rfl) (hand_plain (by rfl)) (by first | exact Or.inl rfl | exact Or.inr rfl)
 ·refine AW.skip ?_
  refine seqQ.norm ?_
  refine AW.rseq ?_
  try simp only[wm,wmd,↓wk,↓wl,nq,evV,↓reduceIte,sevalprocAttr]
  refine AW.sseq ?_
  refine AW.rseq ?_
  try simp only[wm,wmd,↓wk,↓wl,nq,evV,↓reduceIte,sevalprocAttr]
  refine AW.bend ?_
  refine AW.iter H ((Le.tz [0,1] [0,3,7,22,23,24] (by simp only[f27_L1c,wm,wmr,rrm,↓wk,↓wl,evV,↓reduceIte,sevalprocAttr]<;>rfl))) ?_<;>clear H
  rintro ⟨x2,x3⟩ x_ st0_ H hst_
  rw[f27_L1c] at hst_
  simp only[f27_L1] at H
  subst hst_
  refine AW.rseq ?_
  try simp only[wm,wmd,↓wk,↓wl,nq,evV,↓reduceIte,sevalprocAttr]
  refine AW.sseq ?_
  refine AW.ifc H (by rfl) ?_ ?_<;>clear H<;>intro H
  ·refine AW.skip ?_
   refine seqQ.norm ?_
   refine AW.bseq ?_
   refine AW.rseq ?_
   try simp only[wm,wmd,↓wk,↓wl,nq,evV,↓reduceIte,sevalprocAttr]
   refine evTs_at (enc:=eResponderDevice) H (by rfl) (by rfl) ?_<;>clear H<;>intro x4 H
   try simp only[eResponderDevice,eL,eM,wm,wmd,↓wk,↓wl,nq,evV,↓reduceIte,sevalprocAttr]
   refine AW.sseq ?_
   refine AW.rseq ?_
   try simp only[wm,wmd,↓wk,↓wl,nq,evV,↓reduceIte,sevalprocAttr]
   refine evTs_pure hFn H (fun _ h=>f47_ok h) (by rfl) (by rfl) (by rfl) (by rfl) (fun _=>rfl) ?_<;>clear H<;>intro x5 H
   try simp only[eL,wm,wmd,↓wk,↓wl,nq,evV,↓reduceIte,sevalprocAttr]
   refine AW.rseq ?_
   try simp only[wm,wmd,↓wk,↓wl,nq,evV,↓reduceIte,sevalprocAttr]
   refine AW.ifc H (by rfl) ?_ ?_<;>clear H<;>intro H
   ·refine AW.rseq ?_
    try simp only[wm,wmd,↓wk,↓wl,nq,evV,↓reduceIte,sevalprocAttr]
    refine AW.ret ?_
    refine seqQ.ret ?_
    refine blkQ.ret ?_
    refine loopQ.ret H ?_<;>clear H<;>intro H
    try dsimp only at H
    refine blk0.ret ?_
    refine seqQ.ret ?_
    cases H
    exact hQ _ _ _ _ (.inr rfl) (by simp only[resVs,omap,resV,wm,wmd,↓wk,↓wl,nq,evV,↓reduceIte,sevalprocAttr];rfl) (hand_plain (by rfl)) (by first | exact Or.inl rfl | exact Or.inr rfl)
   ·refine AW.skip ?_
    refine seqQ.norm ?_
    refine AW.sseq ?_
    refine AW.rseq ?_
    try simp only[wm,wmd,↓wk,↓wl,nq,evV,↓reduceIte,sevalprocAttr]
    refine evTs_lookR (ek:=(AV.int .u64)) (ev:=AV.bool) H false (by rfl) (by rfl) (by rfl) (by rfl) ?_<;>clear H<;>intro x6 x7 H
    try simp only[wm,wmd,↓wk,↓wl,nq,evV,↓reduceIte,sevalprocAttr]
    refine AW.ifc H (by rfl) ?_ ?_<;>clear H<;>intro H
    ·refine AW.rseq ?_
     try simp only[wm,wmd,↓wk,↓wl,nq,evV,↓reduceIte,sevalprocAttr]
     refine AW.ret ?_
     refine seqQ.ret ?_
     refine blkQ.ret ?_
     refine loopQ.ret H ?_<;>clear H<;>intro H
     try dsimp only at H
     refine blk0.ret ?_
     refine seqQ.ret ?_
     cases H
     exact hQ _ _ _ _ (.inr rfl) (by simp only[resVs,omap,resV,wm,wmd,↓wk,↓wl,nq,evV,↓reduceIte,sevalprocAttr];rfl) (hand_plain (by rfl)) (by first | exact Or.inl rfl | exact Or.inr rfl)
    ·refine AW.skip ?_
     refine seqQ.norm ?_
     refine AW.rend ?_
     try simp only[wm,wmd,↓wk,↓wl,nq,evV,↓reduceIte,sevalprocAttr]
     refine evTs_mset (m:=x3) (ek:=(AV.int .u64)) (ev:=AV.bool) x4.fIdentity true (by rfl) (by rfl) (by rfl) (by rfl) ?_
     try simp only[wm,wmd,↓wk,↓wl,nq,evV,↓reduceIte,sevalprocAttr]
     refine blkQ.norm ?_
     refine AW.rend ?_
     try simp only[wm,wmd,↓wk,↓wl,nq,evV,↓reduceIte,sevalprocAttr]
     exact loopQ.next H ((Le.tz [0,1] [0,3,7,22,23,24] (by simp only[f27_L1c,wm,wmr,rrm,↓wk,↓wl,evV,↓reduceIte,sevalprocAttr]<;>rfl)))
  ·refine AW.exit ?_
   refine seqQ.exit ?_
   refine loopQ.exit H ?_<;>clear H<;>intro H
   try dsimp only at H
   refine blk0.here ?_
   refine seqQ.norm ?_
   refine AW.sseq ?_
   refine AW.rseq ?_
   try simp only[wm,wmd,↓wk,↓wl,nq,evV,↓reduceIte,sevalprocAttr]
   refine evTs_pure hFn H (fun _ h=>f48_ok h) (by rfl) (by rfl) (by rfl) (by rfl) (fun _=>rfl) ?_<;>clear H<;>intro x8 H
   try simp only[eL,wm,wmd,↓wk,↓wl,nq,evV,↓reduceIte,sevalprocAttr]
   refine AW.rseq ?_
   try simp only[wm,wmd,↓wk,↓wl,nq,evV,↓reduceIte,sevalprocAttr]
   refine AW.ifc H (by rfl) ?_ ?_<;>clear H<;>intro H
   ·refine AW.rseq ?_
    try simp only[wm,wmd,↓wk,↓wl,nq,evV,↓reduceIte,sevalprocAttr]
    refine AW.ret ?_
    refine seqQ.ret ?_
    cases H
    exact hQ _ _ _ _ (.inr rfl) (by simp only[resVs,omap,resV,wm,wmd,↓wk,↓wl,nq,evV,↓reduceIte,sevalprocAttr];rfl) (hand_plain (by rfl)) (by first | exact Or.inl rfl | exact Or.inr rfl)
   ·refine AW.skip ?_
    refine seqQ.norm ?_
    refine AW.rseq ?_
    try simp only[wm,wmd,↓wk,↓wl,nq,evV,↓reduceIte,sevalprocAttr]
    refine AW.rseq ?_
    try simp only[wm,wmd,↓wk,↓wl,nq,evV,↓reduceIte,sevalprocAttr]
    refine AW.sseq ?_
    refine AW.rseq ?_
    try simp only[wm,wmd,↓wk,↓wl,nq,evV,↓reduceIte,sevalprocAttr]
    refine AW.bend ?_
    refine AW.iter H ((Le.trans (Le.nilRow (i:=12) (e:=7) (by simp only[↓wk,↓wl,nq,evV,↓reduceIte,sevalprocAttr])) (Le.trans (Le.nilRow (i:=13) (e:=6) (by simp only[↓wk,↓wl,nq,evV,↓reduceIte,sevalprocAttr])) (Le.tz [0,2,3] [3,12,13,46,47,48] (by simp only[f27_L2c,wm,wmr,rrm,↓wk,↓wl,evV,↓reduceIte,sevalprocAttr]<;>rfl))))) ?_<;>clear H
    rintro ⟨x9,xa,xb⟩ x_ st0_ H hst_
    rw[f27_L2c] at hst_
    simp only[f27_L2] at H
    subst hst_
    refine AW.rseq ?_
    try simp only[wm,wmd,↓wk,↓wl,nq,evV,↓reduceIte,sevalprocAttr]
    refine AW.sseq ?_
    refine AW.ifc H (by rfl) ?_ ?_<;>clear H<;>intro H
    ·refine AW.skip ?_
     refine seqQ.norm ?_
     refine AW.bseq ?_
     refine AW.rseq ?_
     try simp only[wm,wmd,↓wk,↓wl,nq,evV,↓reduceIte,sevalprocAttr]
     refine evTs_at (enc:=eResponderDevice) H (by rfl) (by rfl) ?_<;>clear H<;>intro xc H
     try simp only[eResponderDevice,eL,eM,wm,wmd,↓wk,↓wl,nq,evV,↓reduceIte,sevalprocAttr]
     refine AW.rseq ?_
     try simp only[wm,wmd,↓wk,↓wl,nq,evV,↓reduceIte,sevalprocAttr]
     refine evTs_inl (I:=f27_C3 x1 xc xa xb) (args:=[.ptr 3 0,.agg [.int .u64 x1.fTo,.int .u64 x1.fFrom,.int .i64 x1.fSeq,.int .i64 x1.fKind,.int .i64 x1.fParam,.str x1.fData]]) H (by rfl) fd49 (by rfl) (Nat.le_of_ble_eq_true rfl) ?_ ?_<;>clear H
     ·rintro v_ Q_ H hqf27_C3
      simp only[f27_C3] at H
      dsimp only[List.length_cons,List.length_nil]
      refine AW.rseq ?_
      try simp only[wm,wmd,↓wk,↓wl,nq,evV,↓reduceIte,sevalprocAttr]
      refine AW.join (f27_J4 x1 xc xa xb) H ?_ fun hf27_J4=>?_
      ·clear H
       rintro _ st0_ H hst_
       rw[f27_J4c] at hst_
       simp only[f27_J4] at H
       subst hst_
       refine AW.rseq ?_
       try simp only[wm,wmd,↓wk,↓wl,nq,evV,↓reduceIte,sevalprocAttr]
       refine AW.join (f27_J5 x1 xc xa xb) H ?_ fun hf27_J5=>?_
       ·clear H
        rintro ⟨xd,xe,xf,xg,xh,xi⟩ st0_ H hst_
        rw[f27_J5c] at hst_
        simp only[f27_J5] at H
        subst hst_
        refine AW.sseq ?_
        refine AW.rseq ?_
        try simp only[wm,wmd,↓wk,↓wl,nq,evV,↓reduceIte,sevalprocAttr]
        refine AW.ifc H (by rfl) ?_ ?_<;>clear H<;>intro H
        ·refine AW.rseq ?_
         try simp only[wm,wmd,↓wk,↓wl,nq,evV,↓reduceIte,sevalprocAttr]
         refine AW.ret ?_
         refine seqQ.ret ?_
         cases H
         exact hqf27_C3 _ _ _ (.inr rfl) (Le.tq 4 [0,1,2,3,5] [4,5] rfl) (by simp only[resVs,omap,resV,f27_C3,wm,wmr,rrm,↓wk,↓wl,evV,↓reduceIte,sevalprocAttr]) (by simp only[f27_C3,wm,wmr,rrm,↓wk,↓wl,evV,↓reduceIte,sevalprocAttr])
        ·refine AW.skip ?_
         refine seqQ.norm ?_
         refine AW.join (f27_J6 xe x1 xc xf xg xh xi xa xb) H ?_ fun hf27_J6=>?_
         ·clear H
          rintro ⟨xj,xk,xl,xm,xn,xo,xp⟩ st0_ H hst_
          rw[f27_J6c] at hst_
          simp only[f27_J6] at H
          subst hst_
          refine AW.sseq ?_
          refine AW.rseq ?_
          try simp only[wm,wmd,↓wk,↓wl,nq,evV,↓reduceIte,sevalprocAttr]
          refine AW.ifc H (by rfl) ?_ ?_<;>clear H<;>intro H
          ·refine AW.rend ?_
           try simp only[wm,wmd,↓wk,↓wl,nq,evV,↓reduceIte,sevalprocAttr]
           refine evTs_pure hFn H (fun _ h=>f82_ok h) (by rfl) (by rfl) (by rfl) (by rfl) (fun _=>rfl) ?_<;>clear H<;>intro xq H
           try simp only[eL,eApiMessage,eM,wm,wmd,↓wk,↓wl,nq,evV,↓reduceIte,sevalprocAttr]
           refine seqQ.norm ?_
           refine AW.rseq ?_
           try simp only[wm,wmd,↓wk,↓wl,nq,evV,↓reduceIte,sevalprocAttr]
           refine AW.ret ?_
           cases H
           exact hqf27_C3 _ _ _ (.inr rfl) (Le.tq 4 [0,1,2,3,5] [4,5] rfl) (by simp only[resVs,omap,resV,f27_C3,wm,wmr,rrm,↓wk,↓wl,evV,↓reduceIte,sevalprocAttr]) (by simp only[f27_C3,wm,wmr,rrm,↓wk,↓wl,evV,↓reduceIte,sevalprocAttr])
          ·refine AW.skip ?_
           refine seqQ.norm ?_
           refine AW.rseq ?_
           try simp only[wm,wmd,↓wk,↓wl,nq,evV,↓reduceIte,sevalprocAttr]
           refine AW.ret ?_
           cases H
           exact hqf27_C3 _ _ _ (.inr rfl) (Le.tq 4 [0,1,2,3,5] [4,5] rfl) (by simp only[resVs,omap,resV,f27_C3,wm,wmr,rrm,↓wk,↓wl,evV,↓reduceIte,sevalprocAttr]) (by simp only[f27_C3,wm,wmr,rrm,↓wk,↓wl,evV,↓reduceIte,sevalprocAttr])
         ·refine AW.regt ?_
          refine evR.fork ?_
          try simp only[wm,wmd,↓wk,↓wl,nq,evV,↓reduceIte,sevalprocAttr]
          refine evR.both ?_ ?_
          ·refine evR.run ?_
           try simp only[wm,wmd,↓wk,↓wl,nq,evV,↓reduceIte,sevalprocAttr]
           refine evTs_pure hFnq H (fun _ h=>f78_ok h) (by rfl) (by rfl) (by rfl) (by rfl) (fun _=>rfl) ?_<;>clear H<;>intro xr H
           try simp only[eL,eApiMessage,eM,wm,wmd,↓wk,↓wl,nq,evV,↓reduceIte,sevalprocAttr]
           refine seqQ.norm ?_
           exact hf27_J6 _ _ H ((Le.tq 4 [0,1,2,3,4,5,6] [0,3,4,7,13,14] (by simp only[f27_J6c,wm,wmr,rrm,↓wk,↓wl,evV,↓reduceIte,sevalprocAttr]<;>rfl)))
          ·refine evR.run ?_
           try simp only[wm,wmd,↓wk,↓wl,nq,evV,↓reduceIte,sevalprocAttr]
           refine evTs_pure hFnq H (fun _ h=>f78_ok h) (by rfl) (by rfl) (by rfl) (by rfl) (fun _=>rfl) ?_<;>clear H<;>intro xr H
           try simp only[eL,eApiMessage,eM,wm,wmd,↓wk,↓wl,nq,evV,↓reduceIte,sevalprocAttr]
           refine seqQ.norm ?_
           exact hf27_J6 _ _ H ((Le.tq 4 [0,1,2,3,4,5,6] [0,3,4,7,13,14] (by simp only[f27_J6c,wm,wmr,rrm,↓wk,↓wl,evV,↓reduceIte,sevalprocAttr]<;>rfl)))
       ·refine AW.rseq ?_
        try simp only[wm,wmd,↓wk,↓wl,nq,evV,↓reduceIte,sevalprocAttr]
        refine AW.bend ?_
        refine AW.rseq ?_
        try simp only[wm,wmd,↓wk,↓wl,nq,evV,↓reduceIte,sevalprocAttr]
        refine AW.ifc H (by rfl) ?_ ?_<;>clear H<;>intro H
        ·refine AW.rseq ?_
         try simp only[wm,wmd,↓wk,↓wl,nq,evV,↓reduceIte,sevalprocAttr]
         refine evTs_pure hFn H (fun _ h=>f77_ok h) (by rfl) (by rfl) (by rfl) (by rfl) (fun _=>rfl) ?_<;>clear H<;>intro xs H
         try simp only[eL,wm,wmd,↓wk,↓wl,nq,evV,↓reduceIte,sevalprocAttr]
         refine AW.sseq ?_
         refine AW.rseq ?_
         try simp only[wm,wmd,↓wk,↓wl,nq,evV,↓reduceIte,sevalprocAttr]
         refine evTs_ifg H (by rfl) ?_ ?_<;>clear H<;>intro H
         ·try simp only[wm,wmd,↓wk,↓wl,nq,evV,↓reduceIte,sevalprocAttr]
          refine AW.ift (by rfl) ?_
          refine AW.rseq ?_
          try simp only[wm,wmd,↓wk,↓wl,nq,evV,↓reduceIte,sevalprocAttr]
          refine AW.ret ?_
          refine seqQ.ret ?_
          refine blk0.ret ?_
          refine seqQ.ret ?_
          cases H
          exact hqf27_C3 _ _ _ (.inr rfl) (Le.tq 4 [0,1,2,3,5] [4,5] rfl) (by simp only[resVs,omap,resV,f27_C3,wm,wmr,rrm,↓wk,↓wl,evV,↓reduceIte,sevalprocAttr]) (by simp only[f27_C3,wm,wmr,rrm,↓wk,↓wl,evV,↓reduceIte,sevalprocAttr])
         ·try simp only[wm,wmd,↓wk,↓wl,nq,evV,↓reduceIte,sevalprocAttr]
          refine evTs_ifg H (by rfl) ?_ ?_<;>clear H<;>intro H
          ·try simp only[wm,wmd,↓wk,↓wl,nq,evV,↓reduceIte,sevalprocAttr]
           refine AW.ift (by rfl) ?_
           refine AW.rseq ?_
           try simp only[wm,wmd,↓wk,↓wl,nq,evV,↓reduceIte,sevalprocAttr]
           refine AW.ret ?_
           refine seqQ.ret ?_
           refine blk0.ret ?_
           refine seqQ.ret ?_
           cases H
           exact hqf27_C3 _ _ _ (.inr rfl) (Le.tq 4 [0,1,2,3,5] [4,5] rfl) (by simp only[resVs,omap,resV,f27_C3,wm,wmr,rrm,↓wk,↓wl,evV,↓reduceIte,sevalprocAttr]) (by simp only[f27_C3,wm,wmr,rrm,↓wk,↓wl,evV,↓reduceIte,sevalprocAttr])
          ·try simp only[wm,wmd,↓wk,↓wl,nq,evV,↓reduceIte,sevalprocAttr]
           refine AW.ifc H (by rfl) ?_ ?_<;>clear H<;>intro H
           ·refine AW.rseq ?_
            try simp only[wm,wmd,↓wk,↓wl,nq,evV,↓reduceIte,sevalprocAttr]
            refine AW.ret ?_
            refine seqQ.ret ?_
            refine blk0.ret ?_
            refine seqQ.ret ?_
            cases H
            exact hqf27_C3 _ _ _ (.inr rfl) (Le.tq 4 [0,1,2,3,5] [4,5] rfl) (by simp only[resVs,omap,resV,f27_C3,wm,wmr,rrm,↓wk,↓wl,evV,↓reduceIte,sevalprocAttr]) (by simp only[f27_C3,wm,wmr,rrm,↓wk,↓wl,evV,↓reduceIte,sevalprocAttr])
           ·refine AW.skip ?_
            refine seqQ.norm ?_
            refine AW.join (f27_J7 xc x1 xa xb) H ?_ fun hf27_J7=>?_
            ·clear H
             rintro ⟨xt,xu,xv,xw,xx,xy,xz⟩ st0_ H hst_
             rw[f27_J7c] at hst_
             simp only[f27_J7] at H
             subst hst_
             refine AW.rseq ?_
             try simp only[wm,wmd,↓wk,↓wl,nq,evV,↓reduceIte,sevalprocAttr]
             refine AW.ret ?_
             refine blk0.ret ?_
             refine seqQ.ret ?_
             cases H
             exact hqf27_C3 _ _ _ (.inr rfl) (Le.tq 4 [0,1,2,3,4] [4,5] rfl) (by simp only[resVs,omap,resV,f27_C3,wm,wmr,rrm,↓wk,↓wl,evV,↓reduceIte,sevalprocAttr]) (by simp only[f27_C3,wm,wmr,rrm,↓wk,↓wl,evV,↓reduceIte,sevalprocAttr])
            ·refine AW.regt ?_
             refine evR.fork ?_
             try simp only[wm,wmd,↓wk,↓wl,nq,evV,↓reduceIte,sevalprocAttr]
             refine evR.both ?_ ?_
             ·refine evR.fork ?_
              try simp only[wm,wmd,↓wk,↓wl,nq,evV,↓reduceIte,sevalprocAttr]
              refine evTs_pure hFnq H (fun _ h=>f79_ok h) (by rfl) (by rfl) (by rfl) (by rfl) (fun _=>rfl) ?_<;>clear H<;>intro x10 H
              try simp only[eL,wm,wmd,↓wk,↓wl,nq,evV,↓reduceIte,sevalprocAttr]
              refine evR.both ?_ ?_
              ·refine evR.run ?_
               try simp only[wm,wmd,↓wk,↓wl,nq,evV,↓reduceIte,sevalprocAttr]
               refine evTs_pure hFnq H (fun _ h=>f78_ok h) (by rfl) (by rfl) (by rfl) (by rfl) (fun _=>rfl) ?_<;>clear H<;>intro x11 H
               try simp only[eL,eApiMessage,eM,wm,wmd,↓wk,↓wl,nq,evV,↓reduceIte,sevalprocAttr]
               refine seqQ.norm ?_
               exact hf27_J7 _ _ H ((Le.tq 4 [0,1,2,3,5,6] [4,11,12] (by simp only[f27_J7c,wm,wmr,rrm,↓wk,↓wl,evV,↓reduceIte,sevalprocAttr]<;>rfl)))
              ·refine evR.run ?_
               try simp only[wm,wmd,↓wk,↓wl,nq,evV,↓reduceIte,sevalprocAttr]
               refine evTs_pure hFnq H (fun _ h=>f78_ok h) (by rfl) (by rfl) (by rfl) (by rfl) (fun _=>rfl) ?_<;>clear H<;>intro x11 H
               try simp only[eL,eApiMessage,eM,wm,wmd,↓wk,↓wl,nq,evV,↓reduceIte,sevalprocAttr]
               refine seqQ.norm ?_
               exact hf27_J7 _ _ H ((Le.tq 4 [0,1,2,3,5,6] [4,11,12] (by simp only[f27_J7c,wm,wmr,rrm,↓wk,↓wl,evV,↓reduceIte,sevalprocAttr]<;>rfl)))
             ·refine evR.run ?_
              try simp only[wm,wmd,↓wk,↓wl,nq,evV,↓reduceIte,sevalprocAttr]
              refine evTs_pure hFnq H (fun _ h=>f79_ok h) (by rfl) (by rfl) (by rfl) (by rfl) (fun _=>rfl) ?_<;>clear H<;>intro x10 H
              try simp only[eL,wm,wmd,↓wk,↓wl,nq,evV,↓reduceIte,sevalprocAttr]
              refine evTs_pure hFnq H (fun _ h=>f78_ok h) (by rfl) (by rfl) (by rfl) (by rfl) (fun _=>rfl) ?_<;>clear H<;>intro x11 H
              try simp only[eL,eApiMessage,eM,wm,wmd,↓wk,↓wl,nq,evV,↓reduceIte,sevalprocAttr]
              refine seqQ.norm ?_
              exact hf27_J7 _ _ H ((Le.tq 4 [0,1,2,3,5,6] [4,11,12] (by simp only[f27_J7c,wm,wmr,rrm,↓wk,↓wl,evV,↓reduceIte,sevalprocAttr]<;>rfl)))
        ·refine AW.join (f27_J8 x1 xc xa xb) H ?_ fun hf27_J8=>?_
         ·clear H
          rintro x12 st0_ H hst_
          rw[f27_J8c] at hst_
          simp only[f27_J8] at H
          subst hst_
          refine AW.ifc H (by rfl) ?_ ?_<;>clear H<;>intro H
          ·refine AW.rend ?_
           try simp only[wm,wmd,↓wk,↓wl,nq,evV,↓reduceIte,sevalprocAttr]
           refine blk0.norm ?_
           refine seqQ.norm ?_
           exact hf27_J5 _ _ H ((Le.tq 4 [0,1,2,3,4,5] [0,3,4,6,7] (by simp only[f27_J5c,wm,wmr,rrm,↓wk,↓wl,evV,↓reduceIte,sevalprocAttr]<;>rfl)))
          ·refine AW.rseq ?_
           try simp only[wm,wmd,↓wk,↓wl,nq,evV,↓reduceIte,sevalprocAttr]
           refine AW.ifc H (by rfl) ?_ ?_<;>clear H<;>intro H
           ·refine AW.rend ?_
            try simp only[wm,wmd,↓wk,↓wl,nq,evV,↓reduceIte,sevalprocAttr]
            refine evTs_flat hFn H (fun _ h=>f80p_ok h) (by rfl) (by rfl) (by simp only[deep_eq,imm_simps,imm_rowE,imm_ptrE,imm_enc,imm_mrefE,imm_mpE,imm_arowE,omap_simps,take_map_len,take_map_set,take_map_set2,List.length_set,le_refl_true,Nat.zero_add,and_true,true_and,List.drop_zero,Option.map_some,wm,wmd,↓wk,↓wl,nq,evV,↓reduceIte,sevalprocAttr];rfl) (by rfl) (fun _=>rfl) (fun _=>rfl) ?_<;>clear H<;>intro x13 H
            try simp only[eL,wm,wmd,↓wk,↓wl,nq,evV,↓reduceIte,sevalprocAttr]
            refine blk0.norm ?_
            refine seqQ.norm ?_
            exact hf27_J5 _ _ H ((Le.tq 4 [0,1,2,3,4,5] [0,3,4,6,7] (by simp only[f27_J5c,wm,wmr,rrm,↓wk,↓wl,evV,↓reduceIte,sevalprocAttr]<;>rfl)))
           ·refine AW.rseq ?_
            try simp only[wm,wmd,↓wk,↓wl,nq,evV,↓reduceIte,sevalprocAttr]
            refine AW.ifc H (by rfl) ?_ ?_<;>clear H<;>intro H
            ·refine AW.rend ?_
             try simp only[wm,wmd,↓wk,↓wl,nq,evV,↓reduceIte,sevalprocAttr]
             refine evTs_inl (I:=f27_C9 x1 xc xa xb) (args:=[.ptr 3 0,.int .i64 x1.fParam,.str x1.fData]) H (by rfl) fd81 (by rfl) (Nat.le_of_ble_eq_true rfl) ?_ ?_<;>clear H
             ·rintro v_ Q_ H hqf27_C9
              simp only[f27_C9] at H
              dsimp only[List.length_cons,List.length_nil]
              refine AW.rseq ?_
              try simp only[wm,wmd,↓wk,↓wl,nq,evV,↓reduceIte,sevalprocAttr]
              refine AW.rseq ?_
              try simp only[wm,wmd,↓wk,↓wl,nq,evV,↓reduceIte,sevalprocAttr]
              refine evTs_pure hFn H (fun _ h=>f120_ok h) (by rfl) (by rfl) (by rfl) (by rfl) (fun _=>f120vp _ _) ?_<;>clear H<;>intro x14 H
              replace H:=selN H
              rcases H with ⟨hi_2812_0,H⟩ | ⟨hi_2812_0,H⟩
              ·subst hi_2812_0
               rw[f120v0]
               try simp only[wm,wmd,↓wk,↓wl,nq,evV,↓reduceIte,sevalprocAttr]
               refine AW.bseq ?_
               refine AW.rseq ?_
               try simp only[wm,wmd,↓wk,↓wl,nq,evV,↓reduceIte,sevalprocAttr]
               refine AW.iff (by rfl) ?_
               refine AW.rseq ?_
               try simp only[wm,wmd,↓wk,↓wl,nq,evV,↓reduceIte,sevalprocAttr]
               refine rest_eqs (by rfl) ?_
               try simp only[wm,wmd,↓wk,↓wl,nq,evV,↓reduceIte,sevalprocAttr]
               refine AW.ift (by rfl) ?_
               refine AW.rseq ?_
               try simp only[wm,wmd,↓wk,↓wl,nq,evV,↓reduceIte,sevalprocAttr]
               refine AW.ret ?_
               refine blkQ.ret ?_
               cases H
               exact hqf27_C9 _ _ _ (.inr rfl) (Le.tq 6 [0,1,2,3,4,5] [6] rfl) (by simp only[resVs,omap,resV,f27_C9,wm,wmr,rrm,↓wk,↓wl,evV,↓reduceIte,sevalprocAttr]) (by simp only[f27_C9,wm,wmr,rrm,↓wk,↓wl,evV,↓reduceIte,sevalprocAttr])
              ·replace H:=selN H
               rcases H with ⟨hi_2812_1,H⟩ | ⟨hi_2812_1,H⟩
               ·subst hi_2812_1
                rw[f120v1]
                try simp only[wm,wmd,↓wk,↓wl,nq,evV,↓reduceIte,sevalprocAttr]
                refine AW.bseq ?_
                refine AW.rseq ?_
                try simp only[wm,wmd,↓wk,↓wl,nq,evV,↓reduceIte,sevalprocAttr]
                refine AW.iff (by rfl) ?_
                refine AW.rseq ?_
                try simp only[wm,wmd,↓wk,↓wl,nq,evV,↓reduceIte,sevalprocAttr]
                refine rest_eqs (by rfl) ?_
                try simp only[wm,wmd,↓wk,↓wl,nq,evV,↓reduceIte,sevalprocAttr]
                refine AW.ift (by rfl) ?_
                refine AW.rseq ?_
                try simp only[wm,wmd,↓wk,↓wl,nq,evV,↓reduceIte,sevalprocAttr]
                refine AW.ret ?_
                refine blkQ.ret ?_
                cases H
                exact hqf27_C9 _ _ _ (.inr rfl) (Le.tq 6 [0,1,2,3,4,5] [6] rfl) (by simp only[resVs,omap,resV,f27_C9,wm,wmr,rrm,↓wk,↓wl,evV,↓reduceIte,sevalprocAttr]) (by simp only[f27_C9,wm,wmr,rrm,↓wk,↓wl,evV,↓reduceIte,sevalprocAttr])
               ·replace H:=selN H
                rcases H with ⟨hi_2812_2,H⟩ | ⟨hi_2812_2,H⟩
                ·subst hi_2812_2
                 rw[f120v2]
                 try simp only[wm,wmd,↓wk,↓wl,nq,evV,↓reduceIte,sevalprocAttr]
                 refine AW.bseq ?_
                 refine AW.rseq ?_
                 try simp only[wm,wmd,↓wk,↓wl,nq,evV,↓reduceIte,sevalprocAttr]
                 refine AW.iff (by rfl) ?_
                 refine AW.rseq ?_
                 try simp only[wm,wmd,↓wk,↓wl,nq,evV,↓reduceIte,sevalprocAttr]
                 refine rest_eqs (by rfl) ?_
                 try simp only[wm,wmd,↓wk,↓wl,nq,evV,↓reduceIte,sevalprocAttr]
                 refine AW.iff (by rfl) ?_
                 refine AW.sseq ?_
                 refine AW.rseq ?_
                 try simp only[wm,wmd,↓wk,↓wl,nq,evV,↓reduceIte,sevalprocAttr]
                 refine AW.iff (by rfl) ?_
                 refine AW.rend ?_
                 try simp only[wm,wmd,↓wk,↓wl,nq,evV,↓reduceIte,sevalprocAttr]
                 refine seqQ.norm ?_
                 refine AW.ifc H (by rfl) ?_ ?_<;>clear H<;>intro H
                 ·refine AW.rseq ?_
                  try simp only[wm,wmd,↓wk,↓wl,nq,evV,↓reduceIte,sevalprocAttr]
                  refine AW.ret ?_
                  refine blkQ.ret ?_
                  cases H
                  exact hqf27_C9 _ _ _ (.inr rfl) (Le.tq 6 [0,1,2,3,4,5] [6] rfl) (by simp only[resVs,omap,resV,f27_C9,wm,wmr,rrm,↓wk,↓wl,evV,↓reduceIte,sevalprocAttr]) (by simp only[f27_C9,wm,wmr,rrm,↓wk,↓wl,evV,↓reduceIte,sevalprocAttr])
                 ·refine AW.rseq ?_
                  try simp only[wm,wmd,↓wk,↓wl,nq,evV,↓reduceIte,sevalprocAttr]
                  refine evTs_inl (I:=f27_C10 x1 xc xa xb) (args:=[.ptr 3 0,.str x1.fData]) H (by rfl) fd136 (by rfl) (Nat.le_of_ble_eq_true rfl) ?_ ?_<;>clear H
                  ·rintro v_ Q_ H hqf27_C10
                   simp only[f27_C10] at H
                   dsimp only[List.length_cons,List.length_nil]
                   refine AW.rseq ?_
                   try simp only[wm,wmd,↓wk,↓wl,nq,evV,↓reduceIte,sevalprocAttr]
                   refine AW.sseq ?_
                   refine AW.rseq ?_
                   try simp only[wm,wmd,↓wk,↓wl,nq,evV,↓reduceIte,sevalprocAttr]
                   refine evTs_pure hFn H (fun _ h=>f73_ok h) (by rfl) (by rfl) (by rfl) (by rfl) (fun _=>rfl) ?_<;>clear H<;>intro x15 H
                   try simp only[eL,wm,wmd,↓wk,↓wl,nq,evV,↓reduceIte,sevalprocAttr]
                   refine AW.ifc H (by rfl) ?_ ?_<;>clear H<;>intro H
                   ·refine AW.rseq ?_
                    try simp only[wm,wmd,↓wk,↓wl,nq,evV,↓reduceIte,sevalprocAttr]
                    refine AW.ret ?_
                    refine seqQ.ret ?_
                    cases H
                    exact hqf27_C10 _ _ _ (.inr rfl) (Le.tq 7 [0,1,2,3,4,5,6] [4] rfl) (by simp only[resVs,omap,resV,f27_C10,wm,wmr,rrm,↓wk,↓wl,evV,↓reduceIte,sevalprocAttr]) (by simp only[f27_C10,wm,wmr,rrm,↓wk,↓wl,evV,↓reduceIte,sevalprocAttr])
                   ·refine AW.skip ?_
                    refine seqQ.norm ?_
                    refine AW.rseq ?_
                    try simp only[wm,wmd,↓wk,↓wl,nq,evV,↓reduceIte,sevalprocAttr]
                    refine AW.rseq ?_
                    try simp only[wm,wmd,↓wk,↓wl,nq,evV,↓reduceIte,sevalprocAttr]
                    refine AW.ret ?_
                    cases H
                    exact hqf27_C10 _ _ _ (.inr rfl) (Le.tq 7 [0,1,2,3,4,5,6] [4] rfl) (by simp only[resVs,omap,resV,f27_C10,wm,wmr,rrm,↓wk,↓wl,evV,↓reduceIte,sevalprocAttr]) (by simp only[f27_C10,wm,wmr,rrm,↓wk,↓wl,evV,↓reduceIte,sevalprocAttr])
                  ·rintro ⟨x16,x17⟩ s_ h_ H hs_ hh_
                   simp only[f27_C10] at H hs_ hh_
                   subst hs_
                   subst hh_
                   try simp only[wm,wmd,↓wk,↓wl,nq,evV,↓reduceIte,sevalprocAttr]
                   refine AW.ifc H (by rfl) ?_ ?_<;>clear H<;>intro H
                   ·refine AW.rseq ?_
                    try simp only[wm,wmd,↓wk,↓wl,nq,evV,↓reduceIte,sevalprocAttr]
                    refine AW.ret ?_
                    refine blkQ.ret ?_
                    cases H
                    exact hqf27_C9 _ _ _ (.inr rfl) (Le.tq 6 [0,1,2,3,4,5] [6] rfl) (by simp only[resVs,omap,resV,f27_C9,wm,wmr,rrm,↓wk,↓wl,evV,↓reduceIte,sevalprocAttr]) (by simp only[f27_C9,wm,wmr,rrm,↓wk,↓wl,evV,↓reduceIte,sevalprocAttr])
                   ·refine AW.skip ?_
                    refine blkQ.norm ?_
                    refine AW.rseq ?_
                    try simp only[wm,wmd,↓wk,↓wl,nq,evV,↓reduceIte,sevalprocAttr]
                    refine AW.ret ?_
                    cases H
                    exact hqf27_C9 _ _ _ (.inr rfl) (Le.tq 6 [0,1,2,3,4,5] [6] rfl) (by simp only[resVs,omap,resV,f27_C9,wm,wmr,rrm,↓wk,↓wl,evV,↓reduceIte,sevalprocAttr]) (by simp only[f27_C9,wm,wmr,rrm,↓wk,↓wl,evV,↓reduceIte,sevalprocAttr])
                ·replace H:=selN H
                 rcases H with ⟨hi_2812_3,H⟩ | ⟨hi_2812_3,H⟩
                 ·subst hi_2812_3
                  rw[f120v3]
                  try simp only[wm,wmd,↓wk,↓wl,nq,evV,↓reduceIte,sevalprocAttr]
                  refine AW.bseq ?_
                  refine AW.rseq ?_
                  try simp only[wm,wmd,↓wk,↓wl,nq,evV,↓reduceIte,sevalprocAttr]
                  refine AW.iff (by rfl) ?_
                  refine AW.rseq ?_
                  try simp only[wm,wmd,↓wk,↓wl,nq,evV,↓reduceIte,sevalprocAttr]
                  refine rest_eqs (by rfl) ?_
                  try simp only[wm,wmd,↓wk,↓wl,nq,evV,↓reduceIte,sevalprocAttr]
                  refine AW.iff (by rfl) ?_
                  refine AW.sseq ?_
                  refine AW.rseq ?_
                  try simp only[wm,wmd,↓wk,↓wl,nq,evV,↓reduceIte,sevalprocAttr]
                  refine AW.ifc H (by rfl) ?_ ?_<;>clear H<;>intro H
                  ·refine AW.skip ?_
                   refine seqQ.norm ?_
                   refine AW.ifc H (by rfl) ?_ ?_<;>clear H<;>intro H
                   ·refine AW.rseq ?_
                    try simp only[wm,wmd,↓wk,↓wl,nq,evV,↓reduceIte,sevalprocAttr]
                    refine AW.ret ?_
                    refine blkQ.ret ?_
                    cases H
                    exact hqf27_C9 _ _ _ (.inr rfl) (Le.tq 6 [0,1,2,3,4,5] [6] rfl) (by simp only[resVs,omap,resV,f27_C9,wm,wmr,rrm,↓wk,↓wl,evV,↓reduceIte,sevalprocAttr]) (by simp only[f27_C9,wm,wmr,rrm,↓wk,↓wl,evV,↓reduceIte,sevalprocAttr])
                   ·refine AW.rseq ?_
                    try simp only[wm,wmd,↓wk,↓wl,nq,evV,↓reduceIte,sevalprocAttr]
                    refine evTs_inl (I:=f27_C11 x1 xc xa xb) (args:=[.ptr 3 0,.str x1.fData]) H (by rfl) fd138 (by rfl) (Nat.le_of_ble_eq_true rfl) ?_ ?_<;>clear H
                    ·rintro v_ Q_ H hqf27_C11
                     simp only[f27_C11] at H
                     dsimp only[List.length_cons,List.length_nil]
                     refine AW.rseq ?_
                     try simp only[wm,wmd,↓wk,↓wl,nq,evV,↓reduceIte,sevalprocAttr]
                     refine AW.rseq ?_
                     try simp only[wm,wmd,↓wk,↓wl,nq,evV,↓reduceIte,sevalprocAttr]
                     refine evTs_sat H (by rfl) (by rfl) ?_<;>clear H<;>intro x18 H
                     try simp only[wm,wmd,↓wk,↓wl,nq,evV,↓reduceIte,sevalprocAttr]
                     refine rest_shl (by decide) ?_
                     try simp only[wm,wmd,↓wk,↓wl,nq,evV,↓reduceIte,sevalprocAttr]
                     refine evTs_sat H (by rfl) (by rfl) ?_<;>clear H<;>intro x19 H
                     try simp only[wm,wmd,↓wk,↓wl,nq,evV,↓reduceIte,sevalprocAttr]
                     refine rest_or ?_
                     try simp only[wm,wmd,↓wk,↓wl,nq,evV,↓reduceIte,sevalprocAttr]
                     refine AW.sseq ?_
                     refine AW.rseq ?_
                     try simp only[wm,wmd,↓wk,↓wl,nq,evV,↓reduceIte,sevalprocAttr]
                     refine evTs_flat hFn H (fun _ h=>f72p_ok h) (by rfl) (by rfl) (by simp only[deep_eq,imm_simps,imm_rowE,imm_ptrE,imm_enc,imm_mrefE,imm_mpE,imm_arowE,omap_simps,take_map_len,take_map_set,take_map_set2,List.length_set,le_refl_true,Nat.zero_add,and_true,true_and,List.drop_zero,Option.map_some,wm,wmd,↓wk,↓wl,nq,evV,↓reduceIte,sevalprocAttr];rfl) (by rfl) (fun _=>rfl) (fun _=>rfl) ?_<;>clear H<;>intro x1a H
                     try simp only[eL,wm,wmd,↓wk,↓wl,nq,evV,↓reduceIte,sevalprocAttr]
                     refine AW.ifc H (by rfl) ?_ ?_<;>clear H<;>intro H
                     ·refine AW.rseq ?_
                      try simp only[wm,wmd,↓wk,↓wl,nq,evV,↓reduceIte,sevalprocAttr]
                      refine AW.ret ?_
                      refine seqQ.ret ?_
                      cases H
                      exact hqf27_C11 _ _ _ (.inr rfl) (Le.tq 7 [0,1,2,3,4,5,6] [4] rfl) (by simp only[resVs,omap,resV,f27_C11,wm,wmr,rrm,↓wk,↓wl,evV,↓reduceIte,sevalprocAttr]) (by simp only[f27_C11,wm,wmr,rrm,↓wk,↓wl,evV,↓reduceIte,sevalprocAttr])
                     ·refine AW.skip ?_
                      refine seqQ.norm ?_
                      refine AW.rseq ?_
                      try simp only[wm,wmd,↓wk,↓wl,nq,evV,↓reduceIte,sevalprocAttr]
                      refine AW.rseq ?_
                      try simp only[wm,wmd,↓wk,↓wl,nq,evV,↓reduceIte,sevalprocAttr]
                      refine AW.ret ?_
                      cases H
                      exact hqf27_C11 _ _ _ (.inr rfl) (Le.tq 7 [0,1,2,3,4,5,6] [4] rfl) (by simp only[resVs,omap,resV,f27_C11,wm,wmr,rrm,↓wk,↓wl,evV,↓reduceIte,sevalprocAttr]) (by simp only[f27_C11,wm,wmr,rrm,↓wk,↓wl,evV,↓reduceIte,sevalprocAttr])
                    ·rintro ⟨x1b,x1c⟩ s_ h_ H hs_ hh_
                     simp only[f27_C11] at H hs_ hh_
                     subst hs_
                     subst hh_
                     try simp only[wm,wmd,↓wk,↓wl,nq,evV,↓reduceIte,sevalprocAttr]
                     refine AW.ifc H (by rfl) ?_ ?_<;>clear H<;>intro H
                     ·refine AW.rseq ?_
                      try simp only[wm,wmd,↓wk,↓wl,nq,evV,↓reduceIte,sevalprocAttr]
                      refine AW.ret ?_
                      refine blkQ.ret ?_
                      cases H
                      exact hqf27_C9 _ _ _ (.inr rfl) (Le.tq 6 [0,1,2,3,4,5] [6] rfl) (by simp only[resVs,omap,resV,f27_C9,wm,wmr,rrm,↓wk,↓wl,evV,↓reduceIte,sevalprocAttr]) (by simp only[f27_C9,wm,wmr,rrm,↓wk,↓wl,evV,↓reduceIte,sevalprocAttr])
                     ·refine AW.skip ?_
                      refine blkQ.norm ?_
                      refine AW.rseq ?_
                      try simp only[wm,wmd,↓wk,↓wl,nq,evV,↓reduceIte,sevalprocAttr]
                      refine AW.ret ?_
                      cases H
                      exact hqf27_C9 _ _ _ (.inr rfl) (Le.tq 6 [0,1,2,3,4,5] [6] rfl) (by simp only[resVs,omap,resV,f27_C9,wm,wmr,rrm,↓wk,↓wl,evV,↓reduceIte,sevalprocAttr]) (by simp only[f27_C9,wm,wmr,rrm,↓wk,↓wl,evV,↓reduceIte,sevalprocAttr])
                  ·refine AW.rend ?_
                   try simp only[wm,wmd,↓wk,↓wl,nq,evV,↓reduceIte,sevalprocAttr]
                   refine seqQ.norm ?_
                   refine AW.iff (by rfl) ?_
                   refine AW.rseq ?_
                   try simp only[wm,wmd,↓wk,↓wl,nq,evV,↓reduceIte,sevalprocAttr]
                   refine evTs_inl (I:=f27_C12 x1 xc xa xb) (args:=[.ptr 3 0,.str x1.fData]) H (by rfl) fd138 (by rfl) (Nat.le_of_ble_eq_true rfl) ?_ ?_<;>clear H
                   ·rintro v_ Q_ H hqf27_C12
                    simp only[f27_C12] at H
                    dsimp only[List.length_cons,List.length_nil]
                    refine AW.rseq ?_
                    try simp only[wm,wmd,↓wk,↓wl,nq,evV,↓reduceIte,sevalprocAttr]
                    refine AW.rseq ?_
                    try simp only[wm,wmd,↓wk,↓wl,nq,evV,↓reduceIte,sevalprocAttr]
                    refine evTs_sat H (by rfl) (by rfl) ?_<;>clear H<;>intro x1d H
                    try simp only[wm,wmd,↓wk,↓wl,nq,evV,↓reduceIte,sevalprocAttr]
                    refine rest_shl (by decide) ?_
                    try simp only[wm,wmd,↓wk,↓wl,nq,evV,↓reduceIte,sevalprocAttr]
                    refine evTs_sat H (by rfl) (by rfl) ?_<;>clear H<;>intro x1e H
                    try simp only[wm,wmd,↓wk,↓wl,nq,evV,↓reduceIte,sevalprocAttr]
                    refine rest_or ?_
                    try simp only[wm,wmd,↓wk,↓wl,nq,evV,↓reduceIte,sevalprocAttr]
                    refine AW.sseq ?_
                    refine AW.rseq ?_
                    try simp only[wm,wmd,↓wk,↓wl,nq,evV,↓reduceIte,sevalprocAttr]
                    refine evTs_flat hFn H (fun _ h=>f72p_ok h) (by rfl) (by rfl) (by simp only[deep_eq,imm_simps,imm_rowE,imm_ptrE,imm_enc,imm_mrefE,imm_mpE,imm_arowE,omap_simps,take_map_len,take_map_set,take_map_set2,List.length_set,le_refl_true,Nat.zero_add,and_true,true_and,List.drop_zero,Option.map_some,wm,wmd,↓wk,↓wl,nq,evV,↓reduceIte,sevalprocAttr];rfl) (by rfl) (fun _=>rfl) (fun _=>rfl) ?_<;>clear H<;>intro x1f H
                    try simp only[eL,wm,wmd,↓wk,↓wl,nq,evV,↓reduceIte,sevalprocAttr]
                    refine AW.ifc H (by rfl) ?_ ?_<;>clear H<;>intro H
                    ·refine AW.rseq ?_
                     try simp only[wm,wmd,↓wk,↓wl,nq,evV,↓reduceIte,sevalprocAttr]
                     refine AW.ret ?_
                     refine seqQ.ret ?_
                     cases H
                     exact hqf27_C12 _ _ _ (.inr rfl) (Le.tq 7 [0,1,2,3,4,5,6] [4] rfl) (by simp only[resVs,omap,resV,f27_C12,wm,wmr,rrm,↓wk,↓wl,evV,↓reduceIte,sevalprocAttr]) (by simp only[f27_C12,wm,wmr,rrm,↓wk,↓wl,evV,↓reduceIte,sevalprocAttr])
                    ·refine AW.skip ?_
                     refine seqQ.norm ?_
                     refine AW.rseq ?_
                     try simp only[wm,wmd,↓wk,↓wl,nq,evV,↓reduceIte,sevalprocAttr]
                     refine AW.rseq ?_
                     try simp only[wm,wmd,↓wk,↓wl,nq,evV,↓reduceIte,sevalprocAttr]
                     refine AW.ret ?_
                     cases H
                     exact hqf27_C12 _ _ _ (.inr rfl) (Le.tq 7 [0,1,2,3,4,5,6] [4] rfl) (by simp only[resVs,omap,resV,f27_C12,wm,wmr,rrm,↓wk,↓wl,evV,↓reduceIte,sevalprocAttr]) (by simp only[f27_C12,wm,wmr,rrm,↓wk,↓wl,evV,↓reduceIte,sevalprocAttr])
                   ·rintro ⟨x1g,x1h⟩ s_ h_ H hs_ hh_
                    simp only[f27_C12] at H hs_ hh_
                    subst hs_
                    subst hh_
                    try simp only[wm,wmd,↓wk,↓wl,nq,evV,↓reduceIte,sevalprocAttr]
                    refine AW.ifc H (by rfl) ?_ ?_<;>clear H<;>intro H
                    ·refine AW.rseq ?_
                     try simp only[wm,wmd,↓wk,↓wl,nq,evV,↓reduceIte,sevalprocAttr]
                     refine AW.ret ?_
                     refine blkQ.ret ?_
                     cases H
                     exact hqf27_C9 _ _ _ (.inr rfl) (Le.tq 6 [0,1,2,3,4,5] [6] rfl) (by simp only[resVs,omap,resV,f27_C9,wm,wmr,rrm,↓wk,↓wl,evV,↓reduceIte,sevalprocAttr]) (by simp only[f27_C9,wm,wmr,rrm,↓wk,↓wl,evV,↓reduceIte,sevalprocAttr])
                    ·refine AW.skip ?_
                     refine blkQ.norm ?_
                     refine AW.rseq ?_
                     try simp only[wm,wmd,↓wk,↓wl,nq,evV,↓reduceIte,sevalprocAttr]
                     refine AW.ret ?_
                     cases H
                     exact hqf27_C9 _ _ _ (.inr rfl) (Le.tq 6 [0,1,2,3,4,5] [6] rfl) (by simp only[resVs,omap,resV,f27_C9,wm,wmr,rrm,↓wk,↓wl,evV,↓reduceIte,sevalprocAttr]) (by simp only[f27_C9,wm,wmr,rrm,↓wk,↓wl,evV,↓reduceIte,sevalprocAttr])
                 ·replace H:=selN H
                  rcases H with ⟨hi_2812_4,H⟩ | ⟨hi_2812_4,H⟩
                  ·subst hi_2812_4
                   rw[f120v4]
                   try simp only[wm,wmd,↓wk,↓wl,nq,evV,↓reduceIte,sevalprocAttr]
                   refine AW.bseq ?_
                   refine AW.rseq ?_
                   try simp only[wm,wmd,↓wk,↓wl,nq,evV,↓reduceIte,sevalprocAttr]
                   refine AW.iff (by rfl) ?_
                   refine AW.rseq ?_
                   try simp only[wm,wmd,↓wk,↓wl,nq,evV,↓reduceIte,sevalprocAttr]
                   refine rest_eqs (by rfl) ?_
                   try simp only[wm,wmd,↓wk,↓wl,nq,evV,↓reduceIte,sevalprocAttr]
                   refine AW.ift (by rfl) ?_
                   refine AW.rseq ?_
                   try simp only[wm,wmd,↓wk,↓wl,nq,evV,↓reduceIte,sevalprocAttr]
                   refine AW.ret ?_
                   refine blkQ.ret ?_
                   cases H
                   exact hqf27_C9 _ _ _ (.inr rfl) (Le.tq 6 [0,1,2,3,4,5] [6] rfl) (by simp only[resVs,omap,resV,f27_C9,wm,wmr,rrm,↓wk,↓wl,evV,↓reduceIte,sevalprocAttr]) (by simp only[f27_C9,wm,wmr,rrm,↓wk,↓wl,evV,↓reduceIte,sevalprocAttr])
                  ·replace H:=selN H
                   rcases H with ⟨hi_2812_5,H⟩ | ⟨hi_2812_5,H⟩
                   ·subst hi_2812_5
                    rw[f120v5]
                    try simp only[wm,wmd,↓wk,↓wl,nq,evV,↓reduceIte,sevalprocAttr]
                    refine AW.bseq ?_
                    refine AW.rseq ?_
                    try simp only[wm,wmd,↓wk,↓wl,nq,evV,↓reduceIte,sevalprocAttr]
                    refine AW.iff (by rfl) ?_
                    refine AW.rseq ?_
                    try simp only[wm,wmd,↓wk,↓wl,nq,evV,↓reduceIte,sevalprocAttr]
                    refine rest_eqs (by rfl) ?_
                    try simp only[wm,wmd,↓wk,↓wl,nq,evV,↓reduceIte,sevalprocAttr]
                    refine AW.iff (by rfl) ?_
                    refine AW.sseq ?_
                    refine AW.rseq ?_
                    try simp only[wm,wmd,↓wk,↓wl,nq,evV,↓reduceIte,sevalprocAttr]
                    refine AW.ifc H (by rfl) ?_ ?_<;>clear H<;>intro H
                    ·refine AW.skip ?_
                     refine seqQ.norm ?_
                     refine AW.ifc H (by rfl) ?_ ?_<;>clear H<;>intro H
                     ·refine AW.rseq ?_
                      try simp only[wm,wmd,↓wk,↓wl,nq,evV,↓reduceIte,sevalprocAttr]
                      refine AW.ret ?_
                      refine blkQ.ret ?_
                      cases H
                      exact hqf27_C9 _ _ _ (.inr rfl) (Le.tq 6 [0,1,2,3,4,5] [6] rfl) (by simp only[resVs,omap,resV,f27_C9,wm,wmr,rrm,↓wk,↓wl,evV,↓reduceIte,sevalprocAttr]) (by simp only[f27_C9,wm,wmr,rrm,↓wk,↓wl,evV,↓reduceIte,sevalprocAttr])
                     ·refine AW.rseq ?_
                      try simp only[wm,wmd,↓wk,↓wl,nq,evV,↓reduceIte,sevalprocAttr]
                      refine evTs_inl (I:=f27_C13 x1 xc xa xb) (args:=[.ptr 3 0,.str x1.fData]) H (by rfl) fd142 (by rfl) (Nat.le_of_ble_eq_true rfl) ?_ ?_<;>clear H
                      ·rintro v_ Q_ H hqf27_C13
                       simp only[f27_C13] at H
                       dsimp only[List.length_cons,List.length_nil]
                       refine AW.rseq ?_
                       try simp only[wm,wmd,↓wk,↓wl,nq,evV,↓reduceIte,sevalprocAttr]
                       refine AW.sseq ?_
                       refine AW.rseq ?_
                       try simp only[wm,wmd,↓wk,↓wl,nq,evV,↓reduceIte,sevalprocAttr]
                       refine evTs_sat H (by rfl) (by rfl) ?_<;>clear H<;>intro x1i H
                       try simp only[wm,wmd,↓wk,↓wl,nq,evV,↓reduceIte,sevalprocAttr]
                       refine AW.ifc H (by rfl) ?_ ?_<;>clear H<;>intro H
                       ·refine AW.rseq ?_
                        try simp only[wm,wmd,↓wk,↓wl,nq,evV,↓reduceIte,sevalprocAttr]
                        refine AW.ret ?_
                        refine seqQ.ret ?_
                        cases H
                        exact hqf27_C13 _ _ _ (.inr rfl) (Le.tq 7 [0,1,2,3,4,5,6] [4] rfl) (by simp only[resVs,omap,resV,f27_C13,wm,wmr,rrm,↓wk,↓wl,evV,↓reduceIte,sevalprocAttr]) (by simp only[f27_C13,wm,wmr,rrm,↓wk,↓wl,evV,↓reduceIte,sevalprocAttr])
                       ·refine AW.skip ?_
                        refine seqQ.norm ?_
                        refine AW.rseq ?_
                        try simp only[wm,wmd,↓wk,↓wl,nq,evV,↓reduceIte,sevalprocAttr]
                        refine evTs_sat H (by rfl) (by rfl) ?_<;>clear H<;>intro x1j H
                        try simp only[wm,wmd,↓wk,↓wl,nq,evV,↓reduceIte,sevalprocAttr]
                        refine AW.rseq ?_
                        try simp only[wm,wmd,↓wk,↓wl,nq,evV,↓reduceIte,sevalprocAttr]
                        refine AW.ret ?_
                        cases H
                        exact hqf27_C13 _ _ _ (.inr rfl) (Le.tq 7 [0,1,2,3,4,5,6] [4] rfl) (by simp only[resVs,omap,resV,f27_C13,wm,wmr,rrm,↓wk,↓wl,evV,↓reduceIte,sevalprocAttr]) (by simp only[f27_C13,wm,wmr,rrm,↓wk,↓wl,evV,↓reduceIte,sevalprocAttr])
                      ·rintro ⟨x1k,x1l⟩ s_ h_ H hs_ hh_
                       simp only[f27_C13] at H hs_ hh_
                       subst hs_
                       subst hh_
                       try simp only[wm,wmd,↓wk,↓wl,nq,evV,↓reduceIte,sevalprocAttr]
                       refine AW.ifc H (by rfl) ?_ ?_<;>clear H<;>intro H
                       ·refine AW.rseq ?_
                        try simp only[wm,wmd,↓wk,↓wl,nq,evV,↓reduceIte,sevalprocAttr]
                        refine AW.ret ?_
                        refine blkQ.ret ?_
                        cases H
                        exact hqf27_C9 _ _ _ (.inr rfl) (Le.tq 6 [0,1,2,3,4,5] [6] rfl) (by simp only[resVs,omap,resV,f27_C9,wm,wmr,rrm,↓wk,↓wl,evV,↓reduceIte,sevalprocAttr]) (by simp only[f27_C9,wm,wmr,rrm,↓wk,↓wl,evV,↓reduceIte,sevalprocAttr])
                       ·refine AW.skip ?_
                        refine blkQ.norm ?_
                        refine AW.rseq ?_
                        try simp only[wm,wmd,↓wk,↓wl,nq,evV,↓reduceIte,sevalprocAttr]
                        refine AW.ret ?_
                        cases H
                        exact hqf27_C9 _ _ _ (.inr rfl) (Le.tq 6 [0,1,2,3,4,5] [6] rfl) (by simp only[resVs,omap,resV,f27_C9,wm,wmr,rrm,↓wk,↓wl,evV,↓reduceIte,sevalprocAttr]) (by simp only[f27_C9,wm,wmr,rrm,↓wk,↓wl,evV,↓reduceIte,sevalprocAttr])
                    ·refine AW.rend ?_
                     try simp only[wm,wmd,↓wk,↓wl,nq,evV,↓reduceIte,sevalprocAttr]
                     refine seqQ.norm ?_
                     refine AW.iff (by rfl) ?_
                     refine AW.rseq ?_
                     try simp only[wm,wmd,↓wk,↓wl,nq,evV,↓reduceIte,sevalprocAttr]
                     refine evTs_inl (I:=f27_C14 x1 xc xa xb) (args:=[.ptr 3 0,.str x1.fData]) H (by rfl) fd142 (by rfl) (Nat.le_of_ble_eq_true rfl) ?_ ?_<;>clear H
                     ·rintro v_ Q_ H hqf27_C14
                      simp only[f27_C14] at H
                      dsimp only[List.length_cons,List.length_nil]
                      refine AW.rseq ?_
                      try simp only[wm,wmd,↓wk,↓wl,nq,evV,↓reduceIte,sevalprocAttr]
                      refine AW.sseq ?_
                      refine AW.rseq ?_
                      try simp only[wm,wmd,↓wk,↓wl,nq,evV,↓reduceIte,sevalprocAttr]
                      refine evTs_sat H (by rfl) (by rfl) ?_<;>clear H<;>intro x1m H
                      try simp only[wm,wmd,↓wk,↓wl,nq,evV,↓reduceIte,sevalprocAttr]
                      refine AW.ifc H (by rfl) ?_ ?_<;>clear H<;>intro H
                      ·refine AW.rseq ?_
                       try simp only[wm,wmd,↓wk,↓wl,nq,evV,↓reduceIte,sevalprocAttr]
                       refine AW.ret ?_
                       refine seqQ.ret ?_
                       cases H
                       exact hqf27_C14 _ _ _ (.inr rfl) (Le.tq 7 [0,1,2,3,4,5,6] [4] rfl) (by simp only[resVs,omap,resV,f27_C14,wm,wmr,rrm,↓wk,↓wl,evV,↓reduceIte,sevalprocAttr]) (by simp only[f27_C14,wm,wmr,rrm,↓wk,↓wl,evV,↓reduceIte,sevalprocAttr])
                      ·refine AW.skip ?_
                       refine seqQ.norm ?_
                       refine AW.rseq ?_
                       try simp only[wm,wmd,↓wk,↓wl,nq,evV,↓reduceIte,sevalprocAttr]
                       refine evTs_sat H (by rfl) (by rfl) ?_<;>clear H<;>intro x1n H
                       try simp only[wm,wmd,↓wk,↓wl,nq,evV,↓reduceIte,sevalprocAttr]
                       refine AW.rseq ?_
                       try simp only[wm,wmd,↓wk,↓wl,nq,evV,↓reduceIte,sevalprocAttr]
                       refine AW.ret ?_
                       cases H
                       exact hqf27_C14 _ _ _ (.inr rfl) (Le.tq 7 [0,1,2,3,4,5,6] [4] rfl) (by simp only[resVs,omap,resV,f27_C14,wm,wmr,rrm,↓wk,↓wl,evV,↓reduceIte,sevalprocAttr]) (by simp only[f27_C14,wm,wmr,rrm,↓wk,↓wl,evV,↓reduceIte,sevalprocAttr])
                     ·rintro ⟨x1o,x1p⟩ s_ h_ H hs_ hh_
                      simp only[f27_C14] at H hs_ hh_
                      subst hs_
                      subst hh_
                      try simp only[wm,wmd,↓wk,↓wl,nq,evV,↓reduceIte,sevalprocAttr]
                      refine AW.ifc H (by rfl) ?_ ?_<;>clear H<;>intro H
                      ·refine AW.rseq ?_
                       try simp only[wm,wmd,↓wk,↓wl,nq,evV,↓reduceIte,sevalprocAttr]
                       refine AW.ret ?_
                       refine blkQ.ret ?_
                       cases H
                       exact hqf27_C9 _ _ _ (.inr rfl) (Le.tq 6 [0,1,2,3,4,5] [6] rfl) (by simp only[resVs,omap,resV,f27_C9,wm,wmr,rrm,↓wk,↓wl,evV,↓reduceIte,sevalprocAttr]) (by simp only[f27_C9,wm,wmr,rrm,↓wk,↓wl,evV,↓reduceIte,sevalprocAttr])
                      ·refine AW.skip ?_
                       refine blkQ.norm ?_
                       refine AW.rseq ?_
                       try simp only[wm,wmd,↓wk,↓wl,nq,evV,↓reduceIte,sevalprocAttr]
                       refine AW.ret ?_
                       cases H
                       exact hqf27_C9 _ _ _ (.inr rfl) (Le.tq 6 [0,1,2,3,4,5] [6] rfl) (by simp only[resVs,omap,resV,f27_C9,wm,wmr,rrm,↓wk,↓wl,evV,↓reduceIte,sevalprocAttr]) (by simp only[f27_C9,wm,wmr,rrm,↓wk,↓wl,evV,↓reduceIte,sevalprocAttr])
                   ·replace H:=selN H
                    rcases H with ⟨hi_2812_6,H⟩ | ⟨hi_2812_6,H⟩
                    ·subst hi_2812_6
                     rw[f120v6]
                     try simp only[wm,wmd,↓wk,↓wl,nq,evV,↓reduceIte,sevalprocAttr]
                     refine AW.bseq ?_
                     refine AW.rseq ?_
                     try simp only[wm,wmd,↓wk,↓wl,nq,evV,↓reduceIte,sevalprocAttr]
                     refine AW.iff (by rfl) ?_
                     refine AW.rseq ?_
                     try simp only[wm,wmd,↓wk,↓wl,nq,evV,↓reduceIte,sevalprocAttr]
                     refine rest_eqs (by rfl) ?_
                     try simp only[wm,wmd,↓wk,↓wl,nq,evV,↓reduceIte,sevalprocAttr]
                     refine AW.iff (by rfl) ?_
                     refine AW.sseq ?_
                     refine AW.rseq ?_
                     try simp only[wm,wmd,↓wk,↓wl,nq,evV,↓reduceIte,sevalprocAttr]
                     refine AW.ifc H (by rfl) ?_ ?_<;>clear H<;>intro H
                     ·refine AW.skip ?_
                      refine seqQ.norm ?_
                      refine AW.ifc H (by rfl) ?_ ?_<;>clear H<;>intro H
                      ·refine AW.rseq ?_
                       try simp only[wm,wmd,↓wk,↓wl,nq,evV,↓reduceIte,sevalprocAttr]
                       refine AW.ret ?_
                       refine blkQ.ret ?_
                       cases H
                       exact hqf27_C9 _ _ _ (.inr rfl) (Le.tq 6 [0,1,2,3,4,5] [6] rfl) (by simp only[resVs,omap,resV,f27_C9,wm,wmr,rrm,↓wk,↓wl,evV,↓reduceIte,sevalprocAttr]) (by simp only[f27_C9,wm,wmr,rrm,↓wk,↓wl,evV,↓reduceIte,sevalprocAttr])
                      ·refine AW.rseq ?_
                       try simp only[wm,wmd,↓wk,↓wl,nq,evV,↓reduceIte,sevalprocAttr]
                       refine evTs_inl (I:=f27_C15 x1 xc xa xb) (args:=[.ptr 3 0,.str x1.fData]) H (by rfl) fd143 (by rfl) (Nat.le_of_ble_eq_true rfl) ?_ ?_<;>clear H
                       ·rintro v_ Q_ H hqf27_C15
                        simp only[f27_C15] at H
                        dsimp only[List.length_cons,List.length_nil]
                        refine AW.rseq ?_
                        try simp only[wm,wmd,↓wk,↓wl,nq,evV,↓reduceIte,sevalprocAttr]
                        refine AW.sseq ?_
                        refine AW.rseq ?_
                        try simp only[wm,wmd,↓wk,↓wl,nq,evV,↓reduceIte,sevalprocAttr]
                        refine evTs_sat H (by rfl) (by rfl) ?_<;>clear H<;>intro x1q H
                        try simp only[wm,wmd,↓wk,↓wl,nq,evV,↓reduceIte,sevalprocAttr]
                        refine AW.ifc H (by rfl) ?_ ?_<;>clear H<;>intro H
                        ·refine AW.rseq ?_
                         try simp only[wm,wmd,↓wk,↓wl,nq,evV,↓reduceIte,sevalprocAttr]
                         refine AW.ret ?_
                         refine seqQ.ret ?_
                         cases H
                         exact hqf27_C15 _ _ _ (.inr rfl) (Le.tq 7 [0,1,2,3,4,5,6] [4] rfl) (by simp only[resVs,omap,resV,f27_C15,wm,wmr,rrm,↓wk,↓wl,evV,↓reduceIte,sevalprocAttr]) (by simp only[f27_C15,wm,wmr,rrm,↓wk,↓wl,evV,↓reduceIte,sevalprocAttr])
                        ·refine AW.skip ?_
                         refine seqQ.norm ?_
                         refine AW.rseq ?_
                         try simp only[wm,wmd,↓wk,↓wl,nq,evV,↓reduceIte,sevalprocAttr]
                         refine AW.rseq ?_
                         try simp only[wm,wmd,↓wk,↓wl,nq,evV,↓reduceIte,sevalprocAttr]
                         refine AW.ret ?_
                         cases H
                         exact hqf27_C15 _ _ _ (.inr rfl) (Le.tq 7 [0,1,2,3,4,5,6] [4] rfl) (by simp only[resVs,omap,resV,f27_C15,wm,wmr,rrm,↓wk,↓wl,evV,↓reduceIte,sevalprocAttr]) (by simp only[f27_C15,wm,wmr,rrm,↓wk,↓wl,evV,↓reduceIte,sevalprocAttr])
                       ·rintro ⟨x1r,x1s,x1t,x1u,x1v⟩ s_ h_ H hs_ hh_
                        simp only[f27_C15] at H hs_ hh_
                        subst hs_
                        subst hh_
                        try simp only[wm,wmd,↓wk,↓wl,nq,evV,↓reduceIte,sevalprocAttr]
                        refine AW.ifc H (by rfl) ?_ ?_<;>clear H<;>intro H
                        ·refine AW.rseq ?_
                         try simp only[wm,wmd,↓wk,↓wl,nq,evV,↓reduceIte,sevalprocAttr]
                         refine AW.ret ?_
                         refine blkQ.ret ?_
                         cases H
                         exact hqf27_C9 _ _ _ (.inr rfl) (Le.tq 6 [0,1,2,3,4,5] [6] rfl) (by simp only[resVs,omap,resV,f27_C9,wm,wmr,rrm,↓wk,↓wl,evV,↓reduceIte,sevalprocAttr]) (by simp only[f27_C9,wm,wmr,rrm,↓wk,↓wl,evV,↓reduceIte,sevalprocAttr])
                        ·refine AW.skip ?_
                         refine blkQ.norm ?_
                         refine AW.rseq ?_
                         try simp only[wm,wmd,↓wk,↓wl,nq,evV,↓reduceIte,sevalprocAttr]
                         refine AW.ret ?_
                         cases H
                         exact hqf27_C9 _ _ _ (.inr rfl) (Le.tq 6 [0,1,2,3,4,5] [6] rfl) (by simp only[resVs,omap,resV,f27_C9,wm,wmr,rrm,↓wk,↓wl,evV,↓reduceIte,sevalprocAttr]) (by simp only[f27_C9,wm,wmr,rrm,↓wk,↓wl,evV,↓reduceIte,sevalprocAttr])
                     ·refine AW.rend ?_
                      try simp only[wm,wmd,↓wk,↓wl,nq,evV,↓reduceIte,sevalprocAttr]
                      refine seqQ.norm ?_
                      refine AW.iff (by rfl) ?_
                      refine AW.rseq ?_
                      try simp only[wm,wmd,↓wk,↓wl,nq,evV,↓reduceIte,sevalprocAttr]
                      refine evTs_inl (I:=f27_C16 x1 xc xa xb) (args:=[.ptr 3 0,.str x1.fData]) H (by rfl) fd143 (by rfl) (Nat.le_of_ble_eq_true rfl) ?_ ?_<;>clear H
                      ·rintro v_ Q_ H hqf27_C16
                       simp only[f27_C16] at H
                       dsimp only[List.length_cons,List.length_nil]
                       refine AW.rseq ?_
                       try simp only[wm,wmd,↓wk,↓wl,nq,evV,↓reduceIte,sevalprocAttr]
                       refine AW.sseq ?_
                       refine AW.rseq ?_
                       try simp only[wm,wmd,↓wk,↓wl,nq,evV,↓reduceIte,sevalprocAttr]
                       refine evTs_sat H (by rfl) (by rfl) ?_<;>clear H<;>intro x1w H
                       try simp only[wm,wmd,↓wk,↓wl,nq,evV,↓reduceIte,sevalprocAttr]
                       refine AW.ifc H (by rfl) ?_ ?_<;>clear H<;>intro H
                       ·refine AW.rseq ?_
                        try simp only[wm,wmd,↓wk,↓wl,nq,evV,↓reduceIte,sevalprocAttr]
                        refine AW.ret ?_
                        refine seqQ.ret ?_
                        cases H
                        exact hqf27_C16 _ _ _ (.inr rfl) (Le.tq 7 [0,1,2,3,4,5,6] [4] rfl) (by simp only[resVs,omap,resV,f27_C16,wm,wmr,rrm,↓wk,↓wl,evV,↓reduceIte,sevalprocAttr]) (by simp only[f27_C16,wm,wmr,rrm,↓wk,↓wl,evV,↓reduceIte,sevalprocAttr])
                       ·refine AW.skip ?_
                        refine seqQ.norm ?_
                        refine AW.rseq ?_
                        try simp only[wm,wmd,↓wk,↓wl,nq,evV,↓reduceIte,sevalprocAttr]
                        refine AW.rseq ?_
                        try simp only[wm,wmd,↓wk,↓wl,nq,evV,↓reduceIte,sevalprocAttr]
                        refine AW.ret ?_
                        cases H
                        exact hqf27_C16 _ _ _ (.inr rfl) (Le.tq 7 [0,1,2,3,4,5,6] [4] rfl) (by simp only[resVs,omap,resV,f27_C16,wm,wmr,rrm,↓wk,↓wl,evV,↓reduceIte,sevalprocAttr]) (by simp only[f27_C16,wm,wmr,rrm,↓wk,↓wl,evV,↓reduceIte,sevalprocAttr])
                      ·rintro ⟨x1x,x1y,x1z,x20,x21⟩ s_ h_ H hs_ hh_
                       simp only[f27_C16] at H hs_ hh_
                       subst hs_
                       subst hh_
                       try simp only[wm,wmd,↓wk,↓wl,nq,evV,↓reduceIte,sevalprocAttr]
                       refine AW.ifc H (by rfl) ?_ ?_<;>clear H<;>intro H
                       ·refine AW.rseq ?_
                        try simp only[wm,wmd,↓wk,↓wl,nq,evV,↓reduceIte,sevalprocAttr]
                        refine AW.ret ?_
                        refine blkQ.ret ?_
                        cases H
                        exact hqf27_C9 _ _ _ (.inr rfl) (Le.tq 6 [0,1,2,3,4,5] [6] rfl) (by simp only[resVs,omap,resV,f27_C9,wm,wmr,rrm,↓wk,↓wl,evV,↓reduceIte,sevalprocAttr]) (by simp only[f27_C9,wm,wmr,rrm,↓wk,↓wl,evV,↓reduceIte,sevalprocAttr])
                       ·refine AW.skip ?_
                        refine blkQ.norm ?_
                        refine AW.rseq ?_
                        try simp only[wm,wmd,↓wk,↓wl,nq,evV,↓reduceIte,sevalprocAttr]
                        refine AW.ret ?_
                        cases H
                        exact hqf27_C9 _ _ _ (.inr rfl) (Le.tq 6 [0,1,2,3,4,5] [6] rfl) (by simp only[resVs,omap,resV,f27_C9,wm,wmr,rrm,↓wk,↓wl,evV,↓reduceIte,sevalprocAttr]) (by simp only[f27_C9,wm,wmr,rrm,↓wk,↓wl,evV,↓reduceIte,sevalprocAttr])
                    ·rw[f120vl hi_2812_0 hi_2812_1 hi_2812_2 hi_2812_3 hi_2812_4 hi_2812_5 hi_2812_6]
                     try simp only[wm,wmd,↓wk,↓wl,nq,evV,↓reduceIte,sevalprocAttr]
                     refine AW.bseq ?_
                     refine AW.rseq ?_
                     try simp only[wm,wmd,↓wk,↓wl,nq,evV,↓reduceIte,sevalprocAttr]
                     refine AW.ift (by rfl) ?_
                     refine AW.rseq ?_
                     try simp only[wm,wmd,↓wk,↓wl,nq,evV,↓reduceIte,sevalprocAttr]
                     refine AW.ret ?_
                     refine blkQ.ret ?_
                     cases H
                     exact hqf27_C9 _ _ _ (.inr rfl) (Le.tq 6 [0,1,2,3,4,5] [6] rfl) (by simp only[resVs,omap,resV,f27_C9,wm,wmr,rrm,↓wk,↓wl,evV,↓reduceIte,sevalprocAttr]) (by simp only[f27_C9,wm,wmr,rrm,↓wk,↓wl,evV,↓reduceIte,sevalprocAttr])
             ·rintro ⟨x22,x23,x24,x25,x26⟩ s_ h_ H hs_ hh_
              simp only[f27_C9] at H hs_ hh_
              subst hs_
              subst hh_
              try simp only[wm,wmd,↓wk,↓wl,nq,evV,↓reduceIte,sevalprocAttr]
              refine blk0.norm ?_
              refine seqQ.norm ?_
              exact hf27_J5 _ _ H ((Le.tq 4 [0,1,2,3,4,5] [0,3,4,6,7] (by simp only[f27_J5c,wm,wmr,rrm,↓wk,↓wl,evV,↓reduceIte,sevalprocAttr]<;>rfl)))
            ·refine AW.skip ?_
             refine blk0.norm ?_
             refine seqQ.norm ?_
             exact hf27_J5 _ _ H ((Le.tq 4 [0,1,2,3,4,5] [0,3,4,6,7] (by simp only[f27_J5c,wm,wmr,rrm,↓wk,↓wl,evV,↓reduceIte,sevalprocAttr]<;>rfl)))
         ·refine AW.rseq ?_
          try simp only[wm,wmd,↓wk,↓wl,nq,evV,↓reduceIte,sevalprocAttr]
          refine AW.ifc H (by rfl) ?_ ?_<;>clear H<;>intro H
          ·refine AW.skip ?_
           refine seqQ.norm ?_
           exact hf27_J8 _ _ H ((Le.tq 4 [0,1,2,3,4,5] [0,3,4,6,7,39,86] (by simp only[f27_J8c,wm,wmr,rrm,↓wk,↓wl,evV,↓reduceIte,sevalprocAttr]<;>rfl)))
          ·refine AW.rend ?_
           try simp only[wm,wmd,↓wk,↓wl,nq,evV,↓reduceIte,sevalprocAttr]
           refine seqQ.norm ?_
           exact hf27_J8 _ _ H ((Le.tq 4 [0,1,2,3,4,5] [0,3,4,6,7,39,86] (by simp only[f27_J8c,wm,wmr,rrm,↓wk,↓wl,evV,↓reduceIte,sevalprocAttr]<;>rfl)))
      ·refine AW.rseq ?_
       try simp only[wm,wmd,↓wk,↓wl,nq,evV,↓reduceIte,sevalprocAttr]
       refine evTs_ifg H (by rfl) ?_ ?_<;>clear H<;>intro H
       ·try simp only[wm,wmd,↓wk,↓wl,nq,evV,↓reduceIte,sevalprocAttr]
        refine evTs_ifg H (by rfl) ?_ ?_<;>clear H<;>intro H
        ·try simp only[wm,wmd,↓wk,↓wl,nq,evV,↓reduceIte,sevalprocAttr]
         refine AW.ift (by rfl) ?_
         refine AW.rseq ?_
         try simp only[wm,wmd,↓wk,↓wl,nq,evV,↓reduceIte,sevalprocAttr]
         refine AW.ret ?_
         refine seqQ.ret ?_
         cases H
         exact hqf27_C3 _ _ _ (.inr rfl) (Le.tq 4 [0,1,2,3,5] [4,5] rfl) (by simp only[resVs,omap,resV,f27_C3,wm,wmr,rrm,↓wk,↓wl,evV,↓reduceIte,sevalprocAttr]) (by simp only[f27_C3,wm,wmr,rrm,↓wk,↓wl,evV,↓reduceIte,sevalprocAttr])
        ·try simp only[wm,wmd,↓wk,↓wl,nq,evV,↓reduceIte,sevalprocAttr]
         refine evTs_ifg H (by rfl) ?_ ?_<;>clear H<;>intro H
         ·try simp only[wm,wmd,↓wk,↓wl,nq,evV,↓reduceIte,sevalprocAttr]
          refine AW.ift (by rfl) ?_
          refine AW.rseq ?_
          try simp only[wm,wmd,↓wk,↓wl,nq,evV,↓reduceIte,sevalprocAttr]
          refine AW.ret ?_
          refine seqQ.ret ?_
          cases H
          exact hqf27_C3 _ _ _ (.inr rfl) (Le.tq 4 [0,1,2,3,5] [4,5] rfl) (by simp only[resVs,omap,resV,f27_C3,wm,wmr,rrm,↓wk,↓wl,evV,↓reduceIte,sevalprocAttr]) (by simp only[f27_C3,wm,wmr,rrm,↓wk,↓wl,evV,↓reduceIte,sevalprocAttr])
         ·try simp only[wm,wmd,↓wk,↓wl,nq,evV,↓reduceIte,sevalprocAttr]
          refine AW.ifc H (by rfl) ?_ ?_<;>clear H<;>intro H
          ·refine AW.rseq ?_
           try simp only[wm,wmd,↓wk,↓wl,nq,evV,↓reduceIte,sevalprocAttr]
           refine AW.ret ?_
           refine seqQ.ret ?_
           cases H
           exact hqf27_C3 _ _ _ (.inr rfl) (Le.tq 4 [0,1,2,3,5] [4,5] rfl) (by simp only[resVs,omap,resV,f27_C3,wm,wmr,rrm,↓wk,↓wl,evV,↓reduceIte,sevalprocAttr]) (by simp only[f27_C3,wm,wmr,rrm,↓wk,↓wl,evV,↓reduceIte,sevalprocAttr])
          ·refine AW.skip ?_
           refine seqQ.norm ?_
           exact hf27_J4 _ _ H ((Le.tq 4 [0,1,2,3,4,5] [0,3,4] (by simp only[f27_J4c,wm,wmr,rrm,↓wk,↓wl,evV,↓reduceIte,sevalprocAttr]<;>rfl)))
       ·try simp only[wm,wmd,↓wk,↓wl,nq,evV,↓reduceIte,sevalprocAttr]
        refine evTs_ifg H (by rfl) ?_ ?_<;>clear H<;>intro H
        ·try simp only[wm,wmd,↓wk,↓wl,nq,evV,↓reduceIte,sevalprocAttr]
         refine AW.ift (by rfl) ?_
         refine AW.rseq ?_
         try simp only[wm,wmd,↓wk,↓wl,nq,evV,↓reduceIte,sevalprocAttr]
         refine AW.ret ?_
         refine seqQ.ret ?_
         cases H
         exact hqf27_C3 _ _ _ (.inr rfl) (Le.tq 4 [0,1,2,3,5] [4,5] rfl) (by simp only[resVs,omap,resV,f27_C3,wm,wmr,rrm,↓wk,↓wl,evV,↓reduceIte,sevalprocAttr]) (by simp only[f27_C3,wm,wmr,rrm,↓wk,↓wl,evV,↓reduceIte,sevalprocAttr])
        ·try simp only[wm,wmd,↓wk,↓wl,nq,evV,↓reduceIte,sevalprocAttr]
         refine AW.ifc H (by rfl) ?_ ?_<;>clear H<;>intro H
         ·refine AW.rseq ?_
          try simp only[wm,wmd,↓wk,↓wl,nq,evV,↓reduceIte,sevalprocAttr]
          refine AW.ret ?_
          refine seqQ.ret ?_
          cases H
          exact hqf27_C3 _ _ _ (.inr rfl) (Le.tq 4 [0,1,2,3,5] [4,5] rfl) (by simp only[resVs,omap,resV,f27_C3,wm,wmr,rrm,↓wk,↓wl,evV,↓reduceIte,sevalprocAttr]) (by simp only[f27_C3,wm,wmr,rrm,↓wk,↓wl,evV,↓reduceIte,sevalprocAttr])
         ·refine AW.skip ?_
          refine seqQ.norm ?_
          exact hf27_J4 _ _ H ((Le.tq 4 [0,1,2,3,4,5] [0,3,4] (by simp only[f27_J4c,wm,wmr,rrm,↓wk,↓wl,evV,↓reduceIte,sevalprocAttr]<;>rfl)))
     ·rintro ⟨x27,x28,x29,x2a,x2b,x2c,x2d,x2e,x2f,x2g,x2h⟩ s_ h_ H hs_ hh_
      simp only[f27_C3] at H hs_ hh_
      subst hs_
      subst hh_
      try simp only[wm,wmd,↓wk,↓wl,nq,evV,↓reduceIte,sevalprocAttr]
      refine AW.rseq ?_
      try simp only[wm,wmd,↓wk,↓wl,nq,evV,↓reduceIte,sevalprocAttr]
      refine evTs_app (enc:=eResponderDevice) H (by rfl) (by first | rfl | simp only[List.length_set]) (by rfl) (by rfl) ?_<;>clear H<;>intro x2i H
      try simp only[wm,wmd,↓wk,↓wl,nq,evV,↓reduceIte,sevalprocAttr]
      refine AW.rseq ?_
      try simp only[wm,wmd,↓wk,↓wl,nq,evV,↓reduceIte,sevalprocAttr]
      refine AW.ifc H (by rfl) ?_ ?_<;>clear H<;>intro H
      ·refine AW.rend ?_
       try simp only[wm,wmd,↓wk,↓wl,nq,evV,↓reduceIte,sevalprocAttr]
       refine evTs_app (enc:=eApiMessage) H (by rfl) (by first | rfl | simp only[List.length_set]) (by rfl) (by rfl) ?_<;>clear H<;>intro x2j H
       try simp only[wm,wmd,↓wk,↓wl,nq,evV,↓reduceIte,sevalprocAttr]
       refine blkQ.norm ?_
       refine AW.rend ?_
       try simp only[wm,wmd,↓wk,↓wl,nq,evV,↓reduceIte,sevalprocAttr]
       exact loopQ.next H ((Le.tz [0,6,7] [3,12,13,46,47,48] (by simp only[f27_L2c,wm,wmr,rrm,↓wk,↓wl,evV,↓reduceIte,sevalprocAttr]<;>rfl)))
      ·refine AW.skip ?_
       refine blkQ.norm ?_
       refine AW.rend ?_
       try simp only[wm,wmd,↓wk,↓wl,nq,evV,↓reduceIte,sevalprocAttr]
       exact loopQ.next H ((Le.tz [0,6,2] [3,12,13,46,47,48] (by simp only[f27_L2c,wm,wmr,rrm,↓wk,↓wl,evV,↓reduceIte,sevalprocAttr]<;>rfl)))
    ·refine AW.exit ?_
     refine seqQ.exit ?_
     refine loopQ.exit H ?_<;>clear H<;>intro H
     try dsimp only at H
     refine blk0.here ?_
     refine seqQ.norm ?_
     refine AW.rseq ?_
     try simp only[wm,wmd,↓wk,↓wl,nq,evV,↓reduceIte,sevalprocAttr]
     refine AW.ret ?_
     cases H
     exact hQ _ _ _ _ (.inr rfl) (by simp only[resVs,omap,resV,wm,wmd,↓wk,↓wl,nq,evV,↓reduceIte,sevalprocAttr];rfl) (by simp only[handOver,deep_eq,imm_simps,imm_rowE,imm_ptrE,imm_enc,imm_mrefE,imm_mpE,imm_arowE,omap_simps,take_map_len,take_map_set,take_map_set2,List.length_set,le_refl_true,Nat.zero_add,and_true,true_and,List.drop_zero,Option.map_some,wm,wmd,↓wk,↓wl,nq,evV,↓reduceIte,sevalprocAttr];rfl) (by first | exact Or.inl rfl | exact Or.inr rfl)
def c33_0:C:=.cond (.t 23) (.seq (.reg [iI 4 (.mv (.c (.bool false)))]) .ret) (.skip)
def c33_1:C:=.cond (.t 42) (.seq (.reg [iI 4 (.mv (.c (.bool false)))]) .ret) (.skip)
def c33_2:C:=.seq (.reg [iI 43 (.faddr 0 (.t 2)),iI 44 (.load 0 (.t 43)),iI 45 (.bin .eql (.t 44) (.c (.int .u64 281474976710655))),iI 46 (.mv (.t 45)),iG (some 47) 46 false (.faddr 0 (.t 2)),iG (some 48) 46 false (.load 0 (.t 47)),iG (some 49) 46 false (.faddr 1 (.t 3)),iG (some 50) 46 false (.load 0 (.t 49)),iG (some 51) 46 false (.bin .eql (.t 48) (.t 50)),iI 52 (.pick (.t 46) (.c (.bool true)) (.t 51)),iI 4 (.mv (.t 52))]) .ret
def c33_3:C:=.seq (.seq (.reg [iI 24 (.faddr 0 (.t 3)),iI 25 (.load 0 (.t 24)),iI 26 (.faddr 1 (.t 2)),iI 27 (.load 0 (.t 26)),iI 28 (.bin .neq (.t 25) (.t 27)),iI 29 (.mv (.t 28)),iG (some 30) 29 false (.faddr 2 (.t 3)),iG (some 31) 29 false (.load 0 (.t 30)),iG (some 32) 29 false (.faddr 2 (.t 2)),iG (some 33) 29 false (.load 0 (.t 32)),iG (some 34) 29 false (.bin .neq (.t 31) (.t 33)),iI 35 (.pick (.t 29) (.c (.bool true)) (.t 34)),iI 36 (.mv (.t 35)),iG (some 37) 36 false (.faddr 4 (.t 3)),iG (some 38) 36 false (.load 0 (.t 37)),iG (some 39) 36 false (.faddr 4 (.t 2)),iG (some 40) 36 false (.load 0 (.t 39)),iG (some 41) 36 false (.bin .neq (.t 38) (.t 40)),iI 42 (.pick (.t 36) (.c (.bool true)) (.t 41))]) c33_1) c33_2
def c33_4:C:=.seq (.seq (.reg [iI 5 (.load 6 (.t 2)),iI 6 (.call (.c (.fn 48 [])) [(.t 5)]),iI 7 (.bin .neq (.t 6) (.c (.int .i64 0))),iI 8 (.mv (.t 7)),iG (some 9) 8 false (.load 6 (.t 3)),iG (some 10) 8 false (.call (.c (.fn 48 [])) [(.t 9)]),iG (some 11) 8 false (.bin .neq (.t 10) (.c (.int .i64 0))),iI 12 (.pick (.t 8) (.c (.bool true)) (.t 11)),iI 13 (.mv (.t 12)),iG (some 14) 13 false (.faddr 3 (.t 2)),iG (some 15) 13 false (.load 0 (.t 14)),iG (some 16) 13 false (.call (.c (.fn 51 [])) [(.t 15)]),iI 17 (.pick (.t 13) (.c (.bool true)) (.t 16)),iI 18 (.mv (.t 17)),iG (some 19) 18 false (.faddr 3 (.t 3)),iG (some 20) 18 false (.load 0 (.t 19)),iG (some 21) 18 false (.call (.c (.fn 51 [])) [(.t 20)]),iG (some 22) 18 false (.un .not (.t 21)),iI 23 (.pick (.t 18) (.c (.bool true)) (.t 22))]) c33_0) c33_3
def ir33:C:=.seq (.reg [iI 2 (.box (.t 0)),iI 3 (.box (.t 1)),iI 4 (.mv (.c (.bool false)))]) c33_4
theorem fd33:fd? Tryz.prog 33=some (53,[.slot 4],ir33):=by kernel_rfl
noncomputable def f33(x0:ApiMessage)(x1:ApiMessage):Option (Bool) :=
  (f48 x0).bind fun x2=>(if (decide (x2≠0))=true then (some false) else (f48 x1).bind fun x3=>(if (decide (x3≠0))=true then (some false) else (f51 x0.fKind).bind fun x4=>(if x4=true then (some false) else (f51 x1.fKind).bind fun x5=>(if (!x5)=true then (some false) else (if (decide (x1.fTo≠x0.fFrom))=true then (some false) else (if (decide (x1.fSeq≠x0.fSeq))=true then (some false) else (if (decide (x1.fParam≠x0.fParam))=true then (some false) else (if (decide (x0.fTo=281474976710655))=true then (some true) else (some (decide (x0.fTo=x1.fFrom)))))))))))
theorem f33_ok{x0:ApiMessage}{x1:ApiMessage}{r_:Bool}(H:f33 x0 x1=some r_):Pure Tryz.prog 33 [.agg [.int .u64 x0.fTo,.int .u64 x0.fFrom,.int .i64 x0.fSeq,.int .i64 x0.fKind,.int .i64 x0.fParam,.str x0.fData],.agg [.int .u64 x1.fTo,.int .u64 x1.fFrom,.int .i64 x1.fSeq,.int .i64 x1.fKind,.int .i64 x1.fParam,.str x1.fData]] (· = .bool r_):=by
 refine Pure.walk3 fd33 none (Nat.le_of_ble_eq_true rfl) (by rfl) fun Q hQ=>?_
 simp only[f33] at H
 refine AW.rseq ?_
 try simp only[wm,wmd,↓wk,↓wl,nq,evV,↓reduceIte,sevalprocAttr]
 refine AW.sseq ?_
 refine AW.rseq ?_
 try simp only[wm,wmd,↓wk,↓wl,nq,evV,↓reduceIte,sevalprocAttr]
 refine evTs_pure hFn H (fun _ h=>f48_ok h) (by rfl) (by rfl) (by rfl) (by rfl) (fun _=>rfl) ?_<;>clear H<;>intro x2 H
 try simp only[eL,wm,wmd,↓wk,↓wl,nq,evV,↓reduceIte,sevalprocAttr]
 refine evTs_ifg H (by rfl) ?_ ?_<;>clear H<;>intro H
 ·try simp only[wm,wmd,↓wk,↓wl,nq,evV,↓reduceIte,sevalprocAttr]
  refine AW.ift (by rfl) ?_
  refine AW.rseq ?_
  try simp only[wm,wmd,↓wk,↓wl,nq,evV,↓reduceIte,sevalprocAttr]
  refine AW.ret ?_
  refine seqQ.ret ?_
  cases H
  exact hQ _ _ _ _ (.inr rfl) (by simp only[resVs,omap,resV,wm,wmd,↓wk,↓wl,nq,evV,↓reduceIte,sevalprocAttr];rfl) (hand_plain (by rfl)) (by first | exact Or.inl rfl | exact Or.inr rfl)
 ·try simp only[wm,wmd,↓wk,↓wl,nq,evV,↓reduceIte,sevalprocAttr]
  refine evTs_pure hFn H (fun _ h=>f48_ok h) (by rfl) (by rfl) (by rfl) (by rfl) (fun _=>rfl) ?_<;>clear H<;>intro x3 H
  try simp only[eL,wm,wmd,↓wk,↓wl,nq,evV,↓reduceIte,sevalprocAttr]
  refine evTs_ifg H (by rfl) ?_ ?_<;>clear H<;>intro H
  ·try simp only[wm,wmd,↓wk,↓wl,nq,evV,↓reduceIte,sevalprocAttr]
   refine AW.ift (by rfl) ?_
   refine AW.rseq ?_
   try simp only[wm,wmd,↓wk,↓wl,nq,evV,↓reduceIte,sevalprocAttr]
   refine AW.ret ?_
   refine seqQ.ret ?_
   cases H
   exact hQ _ _ _ _ (.inr rfl) (by simp only[resVs,omap,resV,wm,wmd,↓wk,↓wl,nq,evV,↓reduceIte,sevalprocAttr];rfl) (hand_plain (by rfl)) (by first | exact Or.inl rfl | exact Or.inr rfl)
  ·try simp only[wm,wmd,↓wk,↓wl,nq,evV,↓reduceIte,sevalprocAttr]
   refine evTs_pure hFn H (fun _ h=>f51_ok h) (by rfl) (by rfl) (by rfl) (by rfl) (fun _=>rfl) ?_<;>clear H<;>intro x4 H
   try simp only[eL,wm,wmd,↓wk,↓wl,nq,evV,↓reduceIte,sevalprocAttr]
   refine evTs_ifg H (by rfl) ?_ ?_<;>clear H<;>intro H
   ·try simp only[wm,wmd,↓wk,↓wl,nq,evV,↓reduceIte,sevalprocAttr]
    refine AW.ift (by rfl) ?_
    refine AW.rseq ?_
    try simp only[wm,wmd,↓wk,↓wl,nq,evV,↓reduceIte,sevalprocAttr]
    refine AW.ret ?_
    refine seqQ.ret ?_
    cases H
    exact hQ _ _ _ _ (.inr rfl) (by simp only[resVs,omap,resV,wm,wmd,↓wk,↓wl,nq,evV,↓reduceIte,sevalprocAttr];rfl) (hand_plain (by rfl)) (by first | exact Or.inl rfl | exact Or.inr rfl)
   ·try simp only[wm,wmd,↓wk,↓wl,nq,evV,↓reduceIte,sevalprocAttr]
    refine evTs_pure hFn H (fun _ h=>f51_ok h) (by rfl) (by rfl) (by rfl) (by rfl) (fun _=>rfl) ?_<;>clear H<;>intro x5 H
    try simp only[eL,wm,wmd,↓wk,↓wl,nq,evV,↓reduceIte,sevalprocAttr]
    refine AW.ifc H (by rfl) ?_ ?_<;>clear H<;>intro H
    ·refine AW.rseq ?_
     try simp only[wm,wmd,↓wk,↓wl,nq,evV,↓reduceIte,sevalprocAttr]
     refine AW.ret ?_
     refine seqQ.ret ?_
     cases H
     exact hQ _ _ _ _ (.inr rfl) (by simp only[resVs,omap,resV,wm,wmd,↓wk,↓wl,nq,evV,↓reduceIte,sevalprocAttr];rfl) (hand_plain (by rfl)) (by first | exact Or.inl rfl | exact Or.inr rfl)
    ·refine AW.skip ?_
     refine seqQ.norm ?_
     refine AW.sseq ?_
     refine AW.rseq ?_
     try simp only[wm,wmd,↓wk,↓wl,nq,evV,↓reduceIte,sevalprocAttr]
     refine evTs_ifg H (by rfl) ?_ ?_<;>clear H<;>intro H
     ·try simp only[wm,wmd,↓wk,↓wl,nq,evV,↓reduceIte,sevalprocAttr]
      refine AW.ift (by rfl) ?_
      refine AW.rseq ?_
      try simp only[wm,wmd,↓wk,↓wl,nq,evV,↓reduceIte,sevalprocAttr]
      refine AW.ret ?_
      refine seqQ.ret ?_
      cases H
      exact hQ _ _ _ _ (.inr rfl) (by simp only[resVs,omap,resV,wm,wmd,↓wk,↓wl,nq,evV,↓reduceIte,sevalprocAttr];rfl) (hand_plain (by rfl)) (by first | exact Or.inl rfl | exact Or.inr rfl)
     ·try simp only[wm,wmd,↓wk,↓wl,nq,evV,↓reduceIte,sevalprocAttr]
      refine evTs_ifg H (by rfl) ?_ ?_<;>clear H<;>intro H
      ·try simp only[wm,wmd,↓wk,↓wl,nq,evV,↓reduceIte,sevalprocAttr]
       refine AW.ift (by rfl) ?_
       refine AW.rseq ?_
       try simp only[wm,wmd,↓wk,↓wl,nq,evV,↓reduceIte,sevalprocAttr]
       refine AW.ret ?_
       refine seqQ.ret ?_
       cases H
       exact hQ _ _ _ _ (.inr rfl) (by simp only[resVs,omap,resV,wm,wmd,↓wk,↓wl,nq,evV,↓reduceIte,sevalprocAttr];rfl) (hand_plain (by rfl)) (by first | exact Or.inl rfl | exact Or.inr rfl)
      ·try simp only[wm,wmd,↓wk,↓wl,nq,evV,↓reduceIte,sevalprocAttr]
       refine AW.ifc H (by rfl) ?_ ?_<;>clear H<;>intro H
       ·refine AW.rseq ?_
        try simp only[wm,wmd,↓wk,↓wl,nq,evV,↓reduceIte,sevalprocAttr]
        refine AW.ret ?_
        refine seqQ.ret ?_
        cases H
        exact hQ _ _ _ _ (.inr rfl) (by simp only[resVs,omap,resV,wm,wmd,↓wk,↓wl,nq,evV,↓reduceIte,sevalprocAttr];rfl) (hand_plain (by rfl)) (by first | exact Or.inl rfl | exact Or.inr rfl)
       ·refine AW.skip ?_
        refine seqQ.norm ?_
        refine AW.rseq ?_
        try simp only[wm,wmd,↓wk,↓wl,nq,evV,↓reduceIte,sevalprocAttr]
        refine evTs_ifg H (by rfl) ?_ ?_<;>clear H<;>intro H
        ·try simp only[wm,wmd,↓wk,↓wl,nq,evV,↓reduceIte,sevalprocAttr]
         refine AW.ret ?_
         cases H
         exact hQ _ _ _ _ (.inr rfl) (by simp only[resVs,omap,resV,wm,wmd,↓wk,↓wl,nq,evV,↓reduceIte,sevalprocAttr];rfl) (hand_plain (by rfl)) (by first | exact Or.inl rfl | exact Or.inr rfl)
        ·try simp only[wm,wmd,↓wk,↓wl,nq,evV,↓reduceIte,sevalprocAttr]
         refine AW.ret ?_
         cases H
         exact hQ _ _ _ _ (.inr rfl) (by simp only[resVs,omap,resV,wm,wmd,↓wk,↓wl,nq,evV,↓reduceIte,sevalprocAttr];rfl) (hand_plain (by rfl)) (by first | exact Or.inl rfl | exact Or.inr rfl)
noncomputable def f85_L2(x0:(List UInt8))(x1:Int)(x2:(List (List UInt8))):Lp (Int×(List Int)) ((List Int)) where
  body:=fun (x3,x4)=>(if (decide (x3<((x0.length:Nat):Int)))=true then (if (decide (x3=((x4.length:Nat):Int)))=true then (app? 1 x4 ([0])).bind fun x5=>(at? x5 x3).bind fun x6=>(at? x0 x3).bind fun x7=>(at? x5 x3).bind fun x8=>(some (.next ((IntKind.i64.wrap (x3 + 1)),(x5.set x3.toNat (IntKind.u8.wrap ((BitVec.ofInt (IntKind.bits .u8) x6 ||| BitVec.ofInt (IntKind.bits .u8) (x7.toNat:Int)).toNat:Int)))))) else (at? x4 x3).bind fun x9=>(at? x0 x3).bind fun xa=>(at? x4 x3).bind fun xb=>(some (.next ((IntKind.i64.wrap (x3 + 1)),(x4.set x3.toNat (IntKind.u8.wrap ((BitVec.ofInt (IntKind.bits .u8) x9 ||| BitVec.ofInt (IntKind.bits .u8) (xa.toNat:Int)).toNat:Int))))))) else (some (.brk x4)))
  cst:=fun (x3,x4)=>⟨put (put (put (put (put (put (put (fun _=>.junk) 22 (.int .i64 x3)) 21 (.int .i64 ((x0.length:Nat):Int))) 13 (.int .i64 x1)) 12 (.int .i64 ((x2.length:Nat):Int))) 11 (.sl 0 false (x2.map AV.str))) 6 (.str x0)) 4 (.row 0 0 0 x4.length),[.els 0 (x4.map (AV.int .u8))]⟩
theorem f85_L2c(x0:(List UInt8))(x1:Int)(x2:(List (List UInt8)))(x3:Int)(x4:(List Int)):(f85_L2 x0 x1 x2).cst (x3,x4)=⟨put (put (put (put (put (put (put (fun _=>.junk) 22 (.int .i64 x3)) 21 (.int .i64 ((x0.length:Nat):Int))) 13 (.int .i64 x1)) 12 (.int .i64 ((x2.length:Nat):Int))) 11 (.sl 0 false (x2.map AV.str))) 6 (.str x0)) 4 (.row 0 0 0 x4.length),[.els 0 (x4.map (AV.int .u8))]⟩:=rfl
noncomputable def f85_L1(x0:(List (List UInt8))):Lp (Int×(List Int)) (((List Int))⊕(Unit)) where
  body:=fun (x1,x2)=>(if (decide (x1<((x0.length:Nat):Int)))=true then (at? x0 x1).bind fun x3=>(if (decide (4096<((x3.length:Nat):Int)))=true then (some (.brk (Sum.inr ()))) else (Lp.run (f85_L2 x3 x1 x0) (0,x2)).bind fun x4=>(some (.next ((IntKind.i64.wrap (x1 + 1)),x4)))) else (some (.brk (Sum.inl x2))))
  cst:=fun (x1,x2)=>⟨put (put (put (put (fun _=>.junk) 13 (.int .i64 x1)) 12 (.int .i64 ((x0.length:Nat):Int))) 11 (.sl 0 false (x0.map AV.str))) 4 (.row 0 0 0 x2.length),[.els 0 (x2.map (AV.int .u8))]⟩
theorem f85_L1c(x0:(List (List UInt8)))(x1:Int)(x2:(List Int)):(f85_L1 x0).cst (x1,x2)=⟨put (put (put (put (fun _=>.junk) 13 (.int .i64 x1)) 12 (.int .i64 ((x0.length:Nat):Int))) 11 (.sl 0 false (x0.map AV.str))) 4 (.row 0 0 0 x2.length),[.els 0 (x2.map (AV.int .u8))]⟩:=rfl
def c85_0:C:=.cond (.t 10) (.seq (.reg [iI 2 (.mv (.c (.str []))),iI 3 (.mv (.c (.int .i64 5)))]) .ret) (.skip)
def c85_1:C:=.cond (.t 19) (.seq (.reg [iI 2 (.mv (.c (.str []))),iI 3 (.mv (.c (.int .i64 13)))]) .ret) (.skip)
def c85_2:C:=.cond (.t 28) (.reg [iI 29 (.mv (.t 4)),iI 30 (.mkslp 0 1 (.int .u8 0) [(0,(.c (.int .u8 0)))]),iI 31 (.append 0 1 (.t 29) (.t 30)),iI 4 (.mv (.t 31))]) (.skip)
def c85_3:C:=.reg [iI 32 (.mv (.t 4)),iI 33 (.mv (.t 7)),iI 34 (.iaddr 0 (.t 32) (.t 33)),iI 35 (.load 0 (.t 34)),iI 36 (.mv (.t 6)),iI 37 (.mv (.t 7)),iI 38 (.sidx (.t 36) (.t 37)),iI 39 (.bin .or (.t 35) (.t 38)),iI 40 (.iaddr 0 (.t 32) (.t 33)),iN (.store 0 (.t 40) (.t 39))]
def c85_4:C:=.seq (.seq (.reg [iI 25 (.mv (.t 7)),iI 26 (.mv (.t 4)),iI 27 (.len 0 (.t 26)),iI 28 (.bin .eql (.t 25) (.t 27))]) c85_2) c85_3
def c85_5:C:=.reg [iI 41 (.bin .add (.t 22) (.c (.int .i64 1))),iI 22 (.mv (.t 41))]
def c85_6:C:=.seq (.block 3 (.seq (.reg [iI 24 (.mv (.t 22)),iI 7 (.mv (.t 24))]) c85_4)) c85_5
def c85_7:C:=.seq (.cond (.t 23) (.skip) (.exit 2)) c85_6
def c85_8:C:=.block 2 (.loop (.seq (.reg [iI 23 (.bin .lss (.t 22) (.t 21))]) c85_7))
def c85_9:C:=.seq (.reg [iI 20 (.mv (.t 6)),iI 21 (.len 1 (.t 20)),iI 22 (.mv (.c (.int .i64 0)))]) c85_8
def c85_10:C:=.seq (.seq (.reg [iI 17 (.mv (.t 6)),iI 18 (.len 1 (.t 17)),iI 19 (.bin .gtr (.t 18) (.c (.int .i64 4096)))]) c85_1) c85_9
def c85_11:C:=.reg [iI 42 (.bin .add (.t 13) (.c (.int .i64 1))),iI 13 (.mv (.t 42))]
def c85_12:C:=.seq (.block 1 (.seq (.reg [iI 15 (.iaddr 0 (.t 11) (.t 13)),iI 16 (.load 0 (.t 15)),iI 6 (.mv (.t 16))]) c85_10)) c85_11
def c85_13:C:=.seq (.cond (.t 14) (.skip) (.exit 0)) c85_12
def c85_14:C:=.block 0 (.loop (.seq (.reg [iI 14 (.bin .lss (.t 13) (.t 12))]) c85_13))
def c85_15:C:=.seq (.reg [iI 43 (.mv (.t 4)),iI 44 (.cstr (.t 43)),iI 2 (.mv (.t 44)),iI 3 (.mv (.c (.int .i64 0)))]) .ret
def c85_16:C:=.seq (.seq (.reg [iI 11 (.mv (.t 0)),iI 12 (.len 0 (.t 11)),iI 13 (.mv (.c (.int .i64 0)))]) c85_14) c85_15
def c85_17:C:=.seq (.reg [iI 4 (.mv (.c (.sl 0 true [])))]) c85_16
def c85_18:C:=.seq (.seq (.reg [iI 8 (.mv (.t 0)),iI 9 (.len 0 (.t 8)),iI 10 (.bin .gtr (.t 9) (.c (.int .i64 64)))]) c85_0) c85_17
def ir85:C:=.seq (.reg [iI 2 (.mv (.c (.str []))),iI 3 (.mv (.c (.int .i64 0)))]) c85_18
theorem fd85:fd? Tryz.prog 85=some (45,[.slot 2,.slot 3],ir85):=by kernel_rfl
noncomputable def f85(x0:(List (List UInt8))):Option ((List UInt8)×Int) :=
  (if (decide (64<((x0.length:Nat):Int)))=true then (some ([],5)) else ((Lp.run (f85_L1 x0) (0,[])).bind fun r_=>match r_ with | (Sum.inl x1)=>(some ((x1.map b8),0)) | (Sum.inr _)=>(some ([],13))))
theorem f85_ok{x0:(List (List UInt8))}{r_:(List UInt8)×Int}(H:f85 x0=some r_):Pure Tryz.prog 85 [.sl 0 false (x0.map AV.str)] (· = .tup [.str r_.1,.int .i64 r_.2]):=by
 refine Pure.walk3 fd85 none (Nat.le_of_ble_eq_true rfl) (by rfl) fun Q hQ=>?_
 simp only[f85] at H
 refine AW.rseq ?_
 try simp only[wm,wmd,↓wk,↓wl,nqs,evV,↓reduceIte,sevalprocAttr]
 refine AW.sseq ?_
 refine AW.rseq ?_
 try simp only[wm,wmd,↓wk,↓wl,nqs,evV,↓reduceIte,sevalprocAttr]
 refine AW.ifc H (by rfl) ?_ ?_<;>clear H<;>intro H
 ·refine AW.rseq ?_
  try simp only[wm,wmd,↓wk,↓wl,nqs,evV,↓reduceIte,sevalprocAttr]
  refine AW.ret ?_
  refine seqQ.ret ?_
  cases H
  exact hQ _ _ _ _ (.inr rfl) (by simp only[resVs,omap,resV,wm,wmd,↓wk,↓wl,nqs,evV,↓reduceIte,sevalprocAttr];rfl) (hand_plain (by rfl)) (by first | exact Or.inl rfl | exact Or.inr rfl)
 ·refine AW.skip ?_
  refine seqQ.norm ?_
  refine AW.rseq ?_
  try simp only[wm,wmd,↓wk,↓wl,nqs,evV,↓reduceIte,sevalprocAttr]
  refine AW.sseq ?_
  refine AW.rseq ?_
  try simp only[wm,wmd,↓wk,↓wl,nqs,evV,↓reduceIte,sevalprocAttr]
  refine AW.bend ?_
  refine AW.iter H ((Le.trans (Le.nilRow (i:=4) (e:=0) (by simp only[↓wk,↓wl,nq,evV,↓reduceIte,sevalprocAttr])) (Le.tz [0] [4,11,12,13] (by simp only[f85_L1c,wm,wmr,rrm,↓wk,↓wl,evV,↓reduceIte,sevalprocAttr]<;>rfl)))) ?_<;>clear H
  rintro ⟨x1,x2⟩ x_ st0_ H hst_
  rw[f85_L1c] at hst_
  simp only[f85_L1] at H
  subst hst_
  refine AW.rseq ?_
  try simp only[wm,wmd,↓wk,↓wl,nqs,evV,↓reduceIte,sevalprocAttr]
  refine AW.sseq ?_
  refine AW.ifc H (by rfl) ?_ ?_<;>clear H<;>intro H
  ·refine AW.skip ?_
   refine seqQ.norm ?_
   refine AW.bseq ?_
   refine AW.rseq ?_
   try simp only[wm,wmd,↓wk,↓wl,nqs,evV,↓reduceIte,sevalprocAttr]
   refine evTs_at (enc:=AV.str) H (by rfl) (by rfl) ?_<;>clear H<;>intro x3 H
   try simp only[wm,wmd,↓wk,↓wl,nqs,evV,↓reduceIte,sevalprocAttr]
   refine AW.sseq ?_
   refine AW.rseq ?_
   try simp only[wm,wmd,↓wk,↓wl,nqs,evV,↓reduceIte,sevalprocAttr]
   refine AW.ifc H (by rfl) ?_ ?_<;>clear H<;>intro H
   ·refine AW.rseq ?_
    try simp only[wm,wmd,↓wk,↓wl,nqs,evV,↓reduceIte,sevalprocAttr]
    refine AW.ret ?_
    refine seqQ.ret ?_
    refine blkQ.ret ?_
    refine loopQ.ret H ?_<;>clear H<;>intro H
    try dsimp only at H
    refine blk0.ret ?_
    refine seqQ.ret ?_
    cases H
    exact hQ _ _ _ _ (.inr rfl) (by simp only[resVs,omap,resV,wm,wmd,↓wk,↓wl,nqs,evV,↓reduceIte,sevalprocAttr];rfl) (hand_plain (by rfl)) (by first | exact Or.inl rfl | exact Or.inr rfl)
   ·refine AW.skip ?_
    refine seqQ.norm ?_
    refine AW.rseq ?_
    try simp only[wm,wmd,↓wk,↓wl,nqs,evV,↓reduceIte,sevalprocAttr]
    refine AW.bend ?_
    refine AW.iter H ((Le.tz [0] [4,6,11,12,13,21,22] (by simp only[f85_L2c,wm,wmr,rrm,↓wk,↓wl,evV,↓reduceIte,sevalprocAttr]<;>rfl))) ?_<;>clear H
    rintro ⟨x4,x5⟩ x_ st0_ H hst_
    rw[f85_L2c] at hst_
    simp only[f85_L2] at H
    subst hst_
    refine AW.rseq ?_
    try simp only[wm,wmd,↓wk,↓wl,nqs,evV,↓reduceIte,sevalprocAttr]
    refine AW.sseq ?_
    refine AW.ifc H (by rfl) ?_ ?_<;>clear H<;>intro H
    ·refine AW.skip ?_
     refine seqQ.norm ?_
     refine AW.bseq ?_
     refine AW.rseq ?_
     try simp only[wm,wmd,↓wk,↓wl,nqs,evV,↓reduceIte,sevalprocAttr]
     refine AW.sseq ?_
     refine AW.rseq ?_
     try simp only[wm,wmd,↓wk,↓wl,nqs,evV,↓reduceIte,sevalprocAttr]
     refine AW.ifc H (by rfl) ?_ ?_<;>clear H<;>intro H
     ·refine AW.rend ?_
      try simp only[wm,wmd,↓wk,↓wl,nqs,evV,↓reduceIte,sevalprocAttr]
      refine evTs_app (enc:=(AV.int .u8)) H (by rfl) (by first | rfl | simp only[List.length_set]) (by rfl) (by rfl) ?_<;>clear H<;>intro x6 H
      try simp only[wm,wmd,↓wk,↓wl,nqs,evV,↓reduceIte,sevalprocAttr]
      refine seqQ.norm ?_
      refine AW.rend ?_
      try simp only[wm,wmd,↓wk,↓wl,nqs,evV,↓reduceIte,sevalprocAttr]
      refine evTs_atr (enc:=(AV.int .u8)) H (by rfl) (by first | rfl | simp only[List.length_set]) (by rfl) ?_<;>clear H<;>intro x7 x8 H
      try simp only[wm,wmd,↓wk,↓wl,nqs,evV,↓reduceIte,sevalprocAttr,x8]
      refine evTs_sat H (by rfl) (by rfl) ?_<;>clear H<;>intro x9 H
      try simp only[wm,wmd,↓wk,↓wl,nqs,evV,↓reduceIte,sevalprocAttr,x8]
      refine rest_or ?_
      try simp only[wm,wmd,↓wk,↓wl,nqs,evV,↓reduceIte,sevalprocAttr,x8]
      refine evTs_atr (enc:=(AV.int .u8)) H (by rfl) (by first | rfl | simp only[List.length_set,x8]) (by rfl) ?_<;>clear H<;>intro xa xb H
      try simp only[wm,wmd,↓wk,↓wl,nqs,evV,↓reduceIte,sevalprocAttr,xb]
      refine evTs_stW (enc:=(AV.int .u8)) (IntKind.u8.wrap ((BitVec.ofInt (IntKind.bits .u8) x7 ||| BitVec.ofInt (IntKind.bits .u8) (x9.toNat:Int)).toNat:Int)) (by rfl) (by rfl) (by first | exact lt_map xb | (simp only[List.length_set];exact lt_map xb)) (fun _=>by rfl) ?_
      have xc:=set_get xb (IntKind.u8.wrap ((BitVec.ofInt (IntKind.bits .u8) x7 ||| BitVec.ofInt (IntKind.bits .u8) (x9.toNat:Int)).toNat:Int))
      try simp only[wm,wmd,↓wk,↓wl,nqs,evV,↓reduceIte,sevalprocAttr,xb,xc]
      refine blkQ.norm ?_
      refine AW.rend ?_
      try simp only[wm,wmd,↓wk,↓wl,nqs,evV,↓reduceIte,sevalprocAttr,xb,xc]
      exact loopQ.next H ((Le.tz [1] [4,6,11,12,13,21,22] (by simp only[f85_L2c,wm,wmr,rrm,↓wk,↓wl,evV,↓reduceIte,sevalprocAttr,xb,xc]<;>rfl)))
     ·refine AW.skip ?_
      refine seqQ.norm ?_
      refine AW.rend ?_
      try simp only[wm,wmd,↓wk,↓wl,nqs,evV,↓reduceIte,sevalprocAttr]
      refine evTs_atr (enc:=(AV.int .u8)) H (by rfl) (by first | rfl | simp only[List.length_set]) (by rfl) ?_<;>clear H<;>intro xd xe H
      try simp only[wm,wmd,↓wk,↓wl,nqs,evV,↓reduceIte,sevalprocAttr,xe]
      refine evTs_sat H (by rfl) (by rfl) ?_<;>clear H<;>intro xf H
      try simp only[wm,wmd,↓wk,↓wl,nqs,evV,↓reduceIte,sevalprocAttr,xe]
      refine rest_or ?_
      try simp only[wm,wmd,↓wk,↓wl,nqs,evV,↓reduceIte,sevalprocAttr,xe]
      refine evTs_atr (enc:=(AV.int .u8)) H (by rfl) (by first | rfl | simp only[List.length_set,xe]) (by rfl) ?_<;>clear H<;>intro xg xh H
      try simp only[wm,wmd,↓wk,↓wl,nqs,evV,↓reduceIte,sevalprocAttr,xh]
      refine evTs_stW (enc:=(AV.int .u8)) (IntKind.u8.wrap ((BitVec.ofInt (IntKind.bits .u8) xd ||| BitVec.ofInt (IntKind.bits .u8) (xf.toNat:Int)).toNat:Int)) (by rfl) (by rfl) (by first | exact lt_map xh | (simp only[List.length_set];exact lt_map xh)) (fun _=>by rfl) ?_
      have xi:=set_get xh (IntKind.u8.wrap ((BitVec.ofInt (IntKind.bits .u8) xd ||| BitVec.ofInt (IntKind.bits .u8) (xf.toNat:Int)).toNat:Int))
      try simp only[wm,wmd,↓wk,↓wl,nqs,evV,↓reduceIte,sevalprocAttr,xh,xi]
      refine blkQ.norm ?_
      refine AW.rend ?_
      try simp only[wm,wmd,↓wk,↓wl,nqs,evV,↓reduceIte,sevalprocAttr,xh,xi]
      exact loopQ.next H ((Le.tz [0] [4,6,11,12,13,21,22] (by simp only[f85_L2c,wm,wmr,rrm,↓wk,↓wl,evV,↓reduceIte,sevalprocAttr,xh,xi]<;>rfl)))
    ·refine AW.exit ?_
     refine seqQ.exit ?_
     refine loopQ.exit H ?_<;>clear H<;>intro H
     try dsimp only at H
     refine blk0.here ?_
     refine blkQ.norm ?_
     refine AW.rend ?_
     try simp only[wm,wmd,↓wk,↓wl,nqs,evV,↓reduceIte,sevalprocAttr]
     exact loopQ.next H ((Le.tz [0] [4,11,12,13] (by simp only[f85_L1c,wm,wmr,rrm,↓wk,↓wl,evV,↓reduceIte,sevalprocAttr]<;>rfl)))
  ·refine AW.exit ?_
   refine seqQ.exit ?_
   refine loopQ.exit H ?_<;>clear H<;>intro H
   try dsimp only at H
   refine blk0.here ?_
   refine seqQ.norm ?_
   refine AW.rseq ?_
   try simp only[wm,wmd,↓wk,↓wl,nqs,evV,↓reduceIte,sevalprocAttr]
   refine evTs_cstrr (xs:=x2) (by rfl) (by rfl) (by rfl) ?_
   try simp only[wm,wmd,↓wk,↓wl,nqs,evV,↓reduceIte,sevalprocAttr]
   refine AW.ret ?_
   cases H
   exact hQ _ _ _ _ (.inr rfl) (by simp only[resVs,omap,resV,wm,wmd,↓wk,↓wl,nqs,evV,↓reduceIte,sevalprocAttr];rfl) (hand_plain (by rfl)) (by first | exact Or.inl rfl | exact Or.inr rfl)
def c121_0:C:=.seq (.reg [iI 8 (.load 0 (.t 2)),iI 9 (.load 0 (.t 1)),iI 10 (.mv (.t 0)),iI 11 (.bin .sub (.t 9) (.t 10)),iI 12 (.load 0 (.t 1)),iI 13 (.sslice (.t 8) (some (.t 11)) (some (.t 12))),iI 4 (.mv (.t 13))]) .ret
def c121_1:C:=.seq (.reg [iI 5 (.load 0 (.t 1)),iI 6 (.mv (.t 0)),iI 7 (.bin .add (.t 5) (.t 6)),iN (.store 0 (.t 1) (.t 7))]) c121_0
def ir121:C:=.seq (.reg [iI 4 (.mv (.c (.str [])))]) c121_1
theorem fd121:fd? Tryz.prog 121=some (14,[.slot 4],ir121):=by kernel_rfl
noncomputable def f86_C1(x0:(List UInt8)):Il ((List UInt8)×Int) where
  run:=(slc? x0 (IntKind.i64.wrap ((IntKind.i64.wrap (0 + 2)) - 2)) (IntKind.i64.wrap (0 + 2))).bind fun x1=>(some (x1,(IntKind.i64.wrap (0 + 2))))
  res:=fun (x2,x3)=>.str x2
  hp:=fun (x2,x3)=>[.cel [.str x0],.cel [.int .u64 0,.int .u64 0,.int .i64 0,.int .i64 0,.int .i64 0,.str ([])],.cel [.int .i64 x3]]
noncomputable def f86_C2(x0:(List UInt8))(x1:Int):Il ((List UInt8)×Int) where
  run:=(slc? x0 (IntKind.i64.wrap ((IntKind.i64.wrap (x1 + 6)) - 6)) (IntKind.i64.wrap (x1 + 6))).bind fun x2=>(some (x2,(IntKind.i64.wrap (x1 + 6))))
  res:=fun (x3,x4)=>.str x3
  hp:=fun (x3,x4)=>[.cel [.str x0],.cel [.int .u64 0,.int .u64 0,.int .i64 0,.int .i64 0,.int .i64 0,.str ([])],.cel [.int .i64 x4]]
noncomputable def f86_C3(x0:(List UInt8))(x1:Int):Il ((List UInt8)×Int) where
  run:=(slc? x0 (IntKind.i64.wrap ((IntKind.i64.wrap (x1 + 6)) - 6)) (IntKind.i64.wrap (x1 + 6))).bind fun x2=>(some (x2,(IntKind.i64.wrap (x1 + 6))))
  res:=fun (x3,x4)=>.str x3
  hp:=fun (x3,x4)=>[.cel [.str x0],.cel [.int .u64 0,.int .u64 0,.int .i64 0,.int .i64 0,.int .i64 0,.str ([])],.cel [.int .i64 x4]]
noncomputable def f86_C4(x0:(List UInt8))(x1:Int):Il ((List UInt8)×Int) where
  run:=(slc? x0 (IntKind.i64.wrap ((IntKind.i64.wrap (x1 + 1)) - 1)) (IntKind.i64.wrap (x1 + 1))).bind fun x2=>(some (x2,(IntKind.i64.wrap (x1 + 1))))
  res:=fun (x3,x4)=>.str x3
  hp:=fun (x3,x4)=>[.cel [.str x0],.cel [.int .u64 0,.int .u64 0,.int .i64 0,.int .i64 0,.int .i64 0,.str ([])],.cel [.int .i64 x4]]
noncomputable def f86_C5(x0:(List UInt8))(x1:Int):Il ((List UInt8)×Int) where
  run:=(slc? x0 (IntKind.i64.wrap ((IntKind.i64.wrap (x1 + 1)) - 1)) (IntKind.i64.wrap (x1 + 1))).bind fun x2=>(some (x2,(IntKind.i64.wrap (x1 + 1))))
  res:=fun (x3,x4)=>.str x3
  hp:=fun (x3,x4)=>[.cel [.str x0],.cel [.int .u64 0,.int .u64 0,.int .i64 0,.int .i64 0,.int .i64 0,.str ([])],.cel [.int .i64 x4]]
noncomputable def f86_C6(x0:(List UInt8))(x1:Int):Il ((List UInt8)×Int) where
  run:=(slc? x0 (IntKind.i64.wrap ((IntKind.i64.wrap (x1 + 2)) - 2)) (IntKind.i64.wrap (x1 + 2))).bind fun x2=>(some (x2,(IntKind.i64.wrap (x1 + 2))))
  res:=fun (x3,x4)=>.str x3
  hp:=fun (x3,x4)=>[.cel [.str x0],.cel [.int .u64 0,.int .u64 0,.int .i64 0,.int .i64 0,.int .i64 0,.str ([])],.cel [.int .i64 x4]]
noncomputable def f86_C7(x0:(List UInt8))(x1:Int)(x2:Int)(x3:Int)(x4:Int)(x5:Int)(x6:Int):Il ((List UInt8)×Int) where
  run:=(slc? x0 (IntKind.i64.wrap ((IntKind.i64.wrap (x1 + 1)) - 1)) (IntKind.i64.wrap (x1 + 1))).bind fun x7=>(some (x7,(IntKind.i64.wrap (x1 + 1))))
  res:=fun (x8,x9)=>.str x8
  hp:=fun (x8,x9)=>[.cel [.str x0],.cel [.int .u64 0,.int .u64 0,.int .i64 0,.int .i64 0,.int .i64 0,.str ([])],.cel [.int .i64 x9],.cel [.int .u64 x2,.int .u64 x3,.int .i64 (IntKind.i64.wrap x4),.int .i64 (IntKind.i64.wrap x5),.int .i64 (IntKind.i64.wrap x6),.str ([])]]
noncomputable def f86_C8(x0:(List UInt8))(x1:Int)(x2:Int)(x3:Int)(x4:Int)(x5:Int)(x6:Int)(x7:Int):Il ((List UInt8)×Int) where
  run:=(slc? x0 (IntKind.i64.wrap ((IntKind.i64.wrap (x1 + (IntKind.i64.wrap x2))) - (IntKind.i64.wrap x2))) (IntKind.i64.wrap (x1 + (IntKind.i64.wrap x2)))).bind fun x8=>(some (x8,(IntKind.i64.wrap (x1 + (IntKind.i64.wrap x2)))))
  res:=fun (x9,xa)=>.str x9
  hp:=fun (x9,xa)=>[.cel [.str x0],.cel [.int .u64 0,.int .u64 0,.int .i64 0,.int .i64 0,.int .i64 0,.str ([])],.cel [.int .i64 xa],.cel [.int .u64 x3,.int .u64 x4,.int .i64 (IntKind.i64.wrap x5),.int .i64 (IntKind.i64.wrap x6),.int .i64 (IntKind.i64.wrap x7),.str ([])]]
noncomputable def f108_L1(x0:(List UInt8)):Lp (Int×Int) (Int) where
  body:=fun (x1,x2)=>(if (decide (x2<((x0.length:Nat):Int)))=true then (at? x0 x2).bind fun x3=>(some (.next ((IntKind.u64.wrap (x1 + (IntKind.u64.wrap (x3.toNat:Int)))),(IntKind.i64.wrap (x2 + 1))))) else (some (.brk x1)))
  cst:=fun (x1,x2)=>⟨put (put (put (put (fun _=>.junk) 7 (.int .i64 x2)) 6 (.int .i64 ((x0.length:Nat):Int))) 3 (.int .u64 x1)) 0 (.str x0),[]⟩
theorem f108_L1c(x0:(List UInt8))(x1:Int)(x2:Int):(f108_L1 x0).cst (x1,x2)=⟨put (put (put (put (fun _=>.junk) 7 (.int .i64 x2)) 6 (.int .i64 ((x0.length:Nat):Int))) 3 (.int .u64 x1)) 0 (.str x0),[]⟩:=rfl
def c108_0:C:=.reg [iI 10 (.mv (.t 3)),iI 11 (.mv (.t 0)),iI 12 (.mv (.t 4)),iI 13 (.sidx (.t 11) (.t 12)),iI 14 (.cint .u64 (.t 13)),iI 15 (.bin .add (.t 10) (.t 14)),iI 3 (.mv (.t 15))]
def c108_1:C:=.reg [iI 16 (.bin .add (.t 7) (.c (.int .i64 1))),iI 7 (.mv (.t 16))]
def c108_2:C:=.seq (.block 1 (.seq (.reg [iI 9 (.mv (.t 7)),iI 4 (.mv (.t 9))]) c108_0)) c108_1
def c108_3:C:=.seq (.cond (.t 8) (.skip) (.exit 0)) c108_2
def c108_4:C:=.block 0 (.loop (.seq (.reg [iI 8 (.bin .lss (.t 7) (.t 6))]) c108_3))
def c108_5:C:=.seq (.reg [iI 17 (.mv (.t 3)),iI 18 (.call (.c (.fn 83 [])) [(.t 17),(.c (.int .i64 2))]),iI 2 (.mv (.t 18))]) .ret
def c108_6:C:=.seq (.seq (.reg [iI 5 (.mv (.t 0)),iI 6 (.len 1 (.t 5)),iI 7 (.mv (.c (.int .i64 0)))]) c108_4) c108_5
def c108_7:C:=.seq (.reg [iI 3 (.mv (.c (.int .u64 0)))]) c108_6
def ir108:C:=.seq (.reg [iI 2 (.mv (.c (.str [])))]) c108_7
theorem fd108:fd? Tryz.prog 108=some (19,[.slot 2],ir108):=by kernel_rfl
noncomputable def f108(x0:(List UInt8)):Option ((List UInt8)) :=
  (Lp.run (f108_L1 x0) (0,0)).bind fun x1=>(f83 x1 2).bind fun x2=>(some x2)
theorem f108_ok{x0:(List UInt8)}{r_:(List UInt8)}(H:f108 x0=some r_):Pure Tryz.prog 108 [.str x0] (· = .str r_):=by
 refine Pure.walk3 fd108 none (Nat.le_of_ble_eq_true rfl) (by rfl) fun Q hQ=>?_
 simp only[f108] at H
 refine AW.rseq ?_
 try simp only[wm,wmd,↓wk,↓wl,nq,evV,↓reduceIte,sevalprocAttr]
 refine AW.rseq ?_
 try simp only[wm,wmd,↓wk,↓wl,nq,evV,↓reduceIte,sevalprocAttr]
 refine AW.sseq ?_
 refine AW.rseq ?_
 try simp only[wm,wmd,↓wk,↓wl,nq,evV,↓reduceIte,sevalprocAttr]
 refine AW.bend ?_
 refine AW.iter H ((Le.tz [] [0,3,6,7] (by simp only[f108_L1c,wm,wmr,rrm,↓wk,↓wl,evV,↓reduceIte,sevalprocAttr]<;>rfl))) ?_<;>clear H
 rintro ⟨x1,x2⟩ x_ st0_ H hst_
 rw[f108_L1c] at hst_
 simp only[f108_L1] at H
 subst hst_
 refine AW.rseq ?_
 try simp only[wm,wmd,↓wk,↓wl,nq,evV,↓reduceIte,sevalprocAttr]
 refine AW.sseq ?_
 refine AW.ifc H (by rfl) ?_ ?_<;>clear H<;>intro H
 ·refine AW.skip ?_
  refine seqQ.norm ?_
  refine AW.bseq ?_
  refine AW.rseq ?_
  try simp only[wm,wmd,↓wk,↓wl,nq,evV,↓reduceIte,sevalprocAttr]
  refine AW.rend ?_
  try simp only[wm,wmd,↓wk,↓wl,nq,evV,↓reduceIte,sevalprocAttr]
  refine evTs_sat H (by rfl) (by rfl) ?_<;>clear H<;>intro x3 H
  try simp only[wm,wmd,↓wk,↓wl,nq,evV,↓reduceIte,sevalprocAttr]
  refine blkQ.norm ?_
  refine AW.rend ?_
  try simp only[wm,wmd,↓wk,↓wl,nq,evV,↓reduceIte,sevalprocAttr]
  exact loopQ.next H ((Le.tz [] [0,3,6,7] (by simp only[f108_L1c,wm,wmr,rrm,↓wk,↓wl,evV,↓reduceIte,sevalprocAttr]<;>rfl)))
 ·refine AW.exit ?_
  refine seqQ.exit ?_
  refine loopQ.exit H ?_<;>clear H<;>intro H
  try dsimp only at H
  refine blk0.here ?_
  refine seqQ.norm ?_
  refine AW.rseq ?_
  try simp only[wm,wmd,↓wk,↓wl,nq,evV,↓reduceIte,sevalprocAttr]
  refine evTs_pure hFn H (fun _ h=>f83_ok h) (by rfl) (by rfl) (by rfl) (by rfl) (fun _=>rfl) ?_<;>clear H<;>intro x4 H
  try simp only[eL,wm,wmd,↓wk,↓wl,nq,evV,↓reduceIte,sevalprocAttr]
  refine AW.ret ?_
  cases H
  exact hQ _ _ _ _ (.inr rfl) (by simp only[resVs,omap,resV,wm,wmd,↓wk,↓wl,nq,evV,↓reduceIte,sevalprocAttr];rfl) (hand_plain (by rfl)) (by first | exact Or.inl rfl | exact Or.inr rfl)
def c86_0:C:=.cond (.t 10) (.seq (.reg [iI 11 (.build [(1,(.int .u64 0)),(1,(.int .u64 0)),(1,(.int .i64 0)),(1,(.int .i64 0)),(1,(.int .i64 0)),(1,(.str []))] []),iN (.store 6 (.t 2) (.t 11)),iI 3 (.mv (.c (.int .i64 20)))]) .ret) (.skip)
def c86_1:C:=.cond (.t 15) (.seq (.reg [iI 16 (.build [(1,(.int .u64 0)),(1,(.int .u64 0)),(1,(.int .i64 0)),(1,(.int .i64 0)),(1,(.int .i64 0)),(1,(.str []))] []),iN (.store 6 (.t 2) (.t 16)),iI 3 (.mv (.c (.int .i64 3)))]) .ret) (.skip)
def c86_2:C:=.cond (.t 47) (.seq (.reg [iI 53 (.build [(1,(.int .u64 0)),(1,(.int .u64 0)),(1,(.int .i64 0)),(1,(.int .i64 0)),(1,(.int .i64 0)),(1,(.str []))] []),iN (.store 6 (.t 2) (.t 53)),iI 3 (.mv (.c (.int .i64 13)))]) .ret) (.skip)
def c86_3:C:=.cond (.t 40) (.seq (.reg [iI 46 (.build [(1,(.int .u64 0)),(1,(.int .u64 0)),(1,(.int .i64 0)),(1,(.int .i64 0)),(1,(.int .i64 0)),(1,(.str []))] []),iN (.store 6 (.t 2) (.t 46)),iI 3 (.mv (.c (.int .i64 20)))]) .ret) (.seq (.reg [iI 48 (.load 0 (.t 1)),iI 49 (.len 1 (.t 48)),iI 50 (.mv (.t 7)),iI 51 (.bin .add (.c (.int .i64 21)) (.t 50)),iI 52 (.bin .gtr (.t 49) (.t 51)),iI 47 (.mv (.t 52))]) c86_2)
def c86_4:C:=.cond (.t 65) (.seq (.reg [iI 66 (.build [(1,(.int .u64 0)),(1,(.int .u64 0)),(1,(.int .i64 0)),(1,(.int .i64 0)),(1,(.int .i64 0)),(1,(.str []))] []),iN (.store 6 (.t 2) (.t 66)),iI 3 (.mv (.c (.int .i64 17)))]) .ret) (.skip)
def c86_5:C:=.seq (.reg [iI 67 (.load 6 (.t 6)),iI 68 (.call (.c (.fn 84 [])) [(.t 67)]),iI 69 (.ext (.t 68) 0),iI 70 (.ext (.t 68) 1),iN (.store 6 (.t 2) (.t 69)),iI 3 (.mv (.t 70))]) .ret
def c86_6:C:=.seq (.seq (.regq [iI 58 (.load 0 (.t 1)),iI 59 (.load 0 (.t 4)),iI 60 (.sslice (.t 58) (some (.t 59)) none),iI 61 (.load 0 (.t 1)),iI 62 (.load 0 (.t 4)),iI 63 (.sslice (.t 61) none (some (.t 62))),iI 64 (.call (.c (.fn 108 [])) [(.t 63)]),iI 65 (.bin .neq (.t 60) (.t 64))]) c86_4) c86_5
def c86_7:C:=.seq (.reg [iI 54 (.mv (.t 5)),iI 55 (.mv (.t 7)),iI 56 (.call (.t 54) [(.t 55)]),iI 57 (.faddr 5 (.t 6)),iN (.store 0 (.t 57) (.t 56))]) c86_6
def c86_8:C:=.seq (.block 0 (.seq (.reg [iI 41 (.load 0 (.t 1)),iI 42 (.len 1 (.t 41)),iI 43 (.mv (.t 7)),iI 44 (.bin .add (.c (.int .i64 21)) (.t 43)),iI 45 (.bin .lss (.t 42) (.t 44)),iI 40 (.mv (.t 45))]) c86_3)) c86_7
def c86_9:C:=.seq (.reg [iI 36 (.mv (.t 5)),iI 37 (.call (.t 36) [(.c (.int .i64 1))]),iI 38 (.call (.c (.fn 76 [])) [(.t 37)]),iI 39 (.cint .i64 (.t 38)),iI 7 (.mv (.t 39))]) c86_8
def c86_10:C:=.seq (.reg [iI 17 (.mv (.t 5)),iI 18 (.call (.t 17) [(.c (.int .i64 6))]),iI 19 (.call (.c (.fn 76 [])) [(.t 18)]),iI 20 (.mv (.t 5)),iI 21 (.call (.t 20) [(.c (.int .i64 6))]),iI 22 (.call (.c (.fn 76 [])) [(.t 21)]),iI 23 (.mv (.t 5)),iI 24 (.call (.t 23) [(.c (.int .i64 1))]),iI 25 (.call (.c (.fn 76 [])) [(.t 24)]),iI 26 (.cint .i64 (.t 25)),iI 27 (.mv (.t 5)),iI 28 (.call (.t 27) [(.c (.int .i64 1))]),iI 29 (.call (.c (.fn 76 [])) [(.t 28)]),iI 30 (.cint .i64 (.t 29)),iI 31 (.mv (.t 5)),iI 32 (.call (.t 31) [(.c (.int .i64 2))]),iI 33 (.call (.c (.fn 76 [])) [(.t 32)]),iI 34 (.cint .i64 (.t 33)),iI 35 (.build [(1,(.int .u64 0)),(1,(.int .u64 0)),(1,(.int .i64 0)),(1,(.int .i64 0)),(1,(.int .i64 0)),(1,(.str []))] [(0,0,(.t 19)),(1,0,(.t 22)),(2,0,(.t 26)),(3,0,(.t 30)),(4,0,(.t 34))]),iI 6 (.alloc [(1,(.int .u64 0)),(1,(.int .u64 0)),(1,(.int .i64 0)),(1,(.int .i64 0)),(1,(.int .i64 0)),(1,(.str []))]),iN (.store 6 (.t 6) (.t 35))]) c86_9
def c86_11:C:=.seq (.seq (.reg [iI 13 (.mv (.t 5)),iI 14 (.call (.t 13) [(.c (.int .i64 2))]),iI 15 (.bin .neq (.t 14) (.c (.str [204,1])))]) c86_1) c86_10
def c86_12:C:=.seq (.reg [iI 12 (.mkfn 121 [(.t 4),(.t 1)]),iI 5 (.mv (.t 12))]) c86_11
def c86_13:C:=.seq (.reg [iI 4 (.alloc [(1,(.int .i64 0))]),iN (.store 0 (.t 4) (.c (.int .i64 0)))]) c86_12
def c86_14:C:=.seq (.seq (.reg [iI 8 (.load 0 (.t 1)),iI 9 (.len 1 (.t 8)),iI 10 (.bin .lss (.t 9) (.c (.int .i64 21)))]) c86_0) c86_13
def ir86:C:=.seq (.reg [iI 1 (.box (.t 0)),iI 2 (.alloc [(1,(.int .u64 0)),(1,(.int .u64 0)),(1,(.int .i64 0)),(1,(.int .i64 0)),(1,(.int .i64 0)),(1,(.str []))]),iI 3 (.mv (.c (.int .i64 0)))]) c86_14
theorem fd86:fd? Tryz.prog 86=some (71,[.cell 2 6,.slot 3],ir86):=by kernel_rfl
noncomputable def f86(x0:(List UInt8)):Option (ApiMessage×Int) :=
  (if (decide (((x0.length:Nat):Int)<21))=true then (some ((ApiMessage.mk 0 0 0 0 0 ([])),20)) else ((f86_C1 x0).run.bind fun (x1,x2)=>(if (!(x1 == ([204,1])))=true then (some ((ApiMessage.mk 0 0 0 0 0 ([])),3)) else ((f86_C2 x0 x2).run.bind fun (x3,x4)=>(f76 x3).bind fun x5=>((f86_C3 x0 x4).run.bind fun (x6,x7)=>(f76 x6).bind fun x8=>((f86_C4 x0 x7).run.bind fun (x9,xa)=>(f76 x9).bind fun xb=>((f86_C5 x0 xa).run.bind fun (xc,xd)=>(f76 xc).bind fun xe=>((f86_C6 x0 xd).run.bind fun (xf,xg)=>(f76 xf).bind fun xh=>((f86_C7 x0 xg x5 x8 xb xe xh).run.bind fun (xi,xj)=>(f76 xi).bind fun xk=>(if (decide (((x0.length:Nat):Int)<(IntKind.i64.wrap (21 + (IntKind.i64.wrap xk)))))=true then (some ((ApiMessage.mk 0 0 0 0 0 ([])),20)) else (if (decide ((IntKind.i64.wrap (21 + (IntKind.i64.wrap xk)))<((x0.length:Nat):Int)))=true then (some ((ApiMessage.mk 0 0 0 0 0 ([])),13)) else ((f86_C8 x0 xj xk x5 x8 xb xe xh).run.bind fun (xl,xm)=>(slc? x0 xm ((x0.length:Nat):Int)).bind fun xn=>(slc? x0 0 xm).bind fun xo=>(f108 xo).bind fun xp=>(if (!(xn == xp))=true then (some ((ApiMessage.mk 0 0 0 0 0 ([])),17)) else (f84 (ApiMessage.mk x5 x8 (IntKind.i64.wrap xb) (IntKind.i64.wrap xe) (IntKind.i64.wrap xh) xl)).bind fun xq=>(some (xq.1,xq.2)))))))))))))))
theorem f86_ok{x0:(List UInt8)}{r_:ApiMessage×Int}(H:f86 x0=some r_):Pure Tryz.prog 86 [.str x0] (· = .tup [.agg [.int .u64 r_.1.fTo,.int .u64 r_.1.fFrom,.int .i64 r_.1.fSeq,.int .i64 r_.1.fKind,.int .i64 r_.1.fParam,.str r_.1.fData],.int .i64 r_.2]):=by
 refine Pure.walk3 fd86 none (Nat.le_of_ble_eq_true rfl) (by rfl) fun Q hQ=>?_
 simp only[f86] at H
 refine AW.rseq ?_
 try simp only[wm,wmd,↓wk,↓wl,nq,evV,↓reduceIte,sevalprocAttr]
 refine AW.sseq ?_
 refine AW.rseq ?_
 try simp only[wm,wmd,↓wk,↓wl,nq,evV,↓reduceIte,sevalprocAttr]
 refine AW.ifc H (by rfl) ?_ ?_<;>clear H<;>intro H
 ·refine AW.rseq ?_
  try simp only[wm,wmd,↓wk,↓wl,nq,evV,↓reduceIte,sevalprocAttr]
  refine AW.ret ?_
  refine seqQ.ret ?_
  cases H
  exact hQ _ _ _ _ (.inr rfl) (by simp only[resVs,omap,resV,wm,wmd,↓wk,↓wl,nq,evV,↓reduceIte,sevalprocAttr];rfl) (hand_plain (by rfl)) (by first | exact Or.inl rfl | exact Or.inr rfl)
 ·refine AW.skip ?_
  refine seqQ.norm ?_
  refine AW.rseq ?_
  try simp only[wm,wmd,↓wk,↓wl,nq,evV,↓reduceIte,sevalprocAttr]
  refine AW.rseq ?_
  try simp only[wm,wmd,↓wk,↓wl,nq,evV,↓reduceIte,sevalprocAttr]
  refine AW.sseq ?_
  refine AW.rseq ?_
  try simp only[wm,wmd,↓wk,↓wl,nq,evV,↓reduceIte,sevalprocAttr]
  refine evTs_inl (I:=f86_C1 x0) (args:=[.int .i64 2,.ptr 2 0,.ptr 0 0]) H (by rfl) fd121 (by rfl) (Nat.le_of_ble_eq_true rfl) ?_ ?_<;>clear H
  ·rintro v_ Q_ H hqf86_C1
   simp only[f86_C1] at H
   dsimp only[List.length_cons,List.length_nil]
   refine AW.rseq ?_
   try simp only[wm,wmd,↓wk,↓wl,nq,evV,↓reduceIte,sevalprocAttr]
   refine AW.rseq ?_
   try simp only[wm,wmd,↓wk,↓wl,nq,evV,↓reduceIte,sevalprocAttr]
   refine AW.rseq ?_
   try simp only[wm,wmd,↓wk,↓wl,nq,evV,↓reduceIte,sevalprocAttr]
   refine evTs_sslc H (by rfl) (by simp only[loI,hiI,wm,wmd,↓wk,↓wl,nq,evV,↓reduceIte,sevalprocAttr];rfl) (by simp only[loI,hiI,wm,wmd,↓wk,↓wl,nq,evV,↓reduceIte,sevalprocAttr];rfl) ?_<;>clear H<;>intro x1 H
   try simp only[wm,wmd,↓wk,↓wl,nq,evV,↓reduceIte,sevalprocAttr]
   refine AW.ret ?_
   cases H
   exact hqf86_C1 _ _ _ (.inr rfl) (Le.tq 3 [0,1,2] [4] rfl) (by simp only[resVs,omap,resV,f86_C1,wm,wmr,rrm,↓wk,↓wl,evV,↓reduceIte,sevalprocAttr]) (by simp only[f86_C1,wm,wmr,rrm,↓wk,↓wl,evV,↓reduceIte,sevalprocAttr])
  ·rintro ⟨x2,x3⟩ s_ h_ H hs_ hh_
   simp only[f86_C1] at H hs_ hh_
   subst hs_
   subst hh_
   try simp only[wm,wmd,↓wk,↓wl,nq,evV,↓reduceIte,sevalprocAttr]
   refine AW.ifc H (by rfl) ?_ ?_<;>clear H<;>intro H
   ·refine AW.rseq ?_
    try simp only[wm,wmd,↓wk,↓wl,nq,evV,↓reduceIte,sevalprocAttr]
    refine AW.ret ?_
    refine seqQ.ret ?_
    cases H
    exact hQ _ _ _ _ (.inr rfl) (by simp only[resVs,omap,resV,wm,wmd,↓wk,↓wl,nq,evV,↓reduceIte,sevalprocAttr];rfl) (hand_plain (by rfl)) (by first | exact Or.inl rfl | exact Or.inr rfl)
   ·refine AW.skip ?_
    refine seqQ.norm ?_
    refine AW.rseq ?_
    try simp only[wm,wmd,↓wk,↓wl,nq,evV,↓reduceIte,sevalprocAttr]
    refine evTs_inl (I:=f86_C2 x0 x3) (args:=[.int .i64 6,.ptr 2 0,.ptr 0 0]) H (by rfl) fd121 (by rfl) (Nat.le_of_ble_eq_true rfl) ?_ ?_<;>clear H
    ·rintro v_ Q_ H hqf86_C2
     simp only[f86_C2] at H
     dsimp only[List.length_cons,List.length_nil]
     refine AW.rseq ?_
     try simp only[wm,wmd,↓wk,↓wl,nq,evV,↓reduceIte,sevalprocAttr]
     refine AW.rseq ?_
     try simp only[wm,wmd,↓wk,↓wl,nq,evV,↓reduceIte,sevalprocAttr]
     refine AW.rseq ?_
     try simp only[wm,wmd,↓wk,↓wl,nq,evV,↓reduceIte,sevalprocAttr]
     refine evTs_sslc H (by rfl) (by simp only[loI,hiI,wm,wmd,↓wk,↓wl,nq,evV,↓reduceIte,sevalprocAttr];rfl) (by simp only[loI,hiI,wm,wmd,↓wk,↓wl,nq,evV,↓reduceIte,sevalprocAttr];rfl) ?_<;>clear H<;>intro x4 H
     try simp only[wm,wmd,↓wk,↓wl,nq,evV,↓reduceIte,sevalprocAttr]
     refine AW.ret ?_
     cases H
     exact hqf86_C2 _ _ _ (.inr rfl) (Le.tq 3 [0,1,2] [4] rfl) (by simp only[resVs,omap,resV,f86_C2,wm,wmr,rrm,↓wk,↓wl,evV,↓reduceIte,sevalprocAttr]) (by simp only[f86_C2,wm,wmr,rrm,↓wk,↓wl,evV,↓reduceIte,sevalprocAttr])
    ·rintro ⟨x5,x6⟩ s_ h_ H hs_ hh_
     simp only[f86_C2] at H hs_ hh_
     subst hs_
     subst hh_
     try simp only[wm,wmd,↓wk,↓wl,nq,evV,↓reduceIte,sevalprocAttr]
     refine evTs_pure hFn H (fun _ h=>f76_ok h) (by rfl) (by rfl) (by rfl) (by rfl) (fun _=>rfl) ?_<;>clear H<;>intro x7 H
     try simp only[eL,wm,wmd,↓wk,↓wl,nq,evV,↓reduceIte,sevalprocAttr]
     refine evTs_inl (I:=f86_C3 x0 x6) (args:=[.int .i64 6,.ptr 2 0,.ptr 0 0]) H (by rfl) fd121 (by rfl) (Nat.le_of_ble_eq_true rfl) ?_ ?_<;>clear H
     ·rintro v_ Q_ H hqf86_C3
      simp only[f86_C3] at H
      dsimp only[List.length_cons,List.length_nil]
      refine AW.rseq ?_
      try simp only[wm,wmd,↓wk,↓wl,nq,evV,↓reduceIte,sevalprocAttr]
      refine AW.rseq ?_
      try simp only[wm,wmd,↓wk,↓wl,nq,evV,↓reduceIte,sevalprocAttr]
      refine AW.rseq ?_
      try simp only[wm,wmd,↓wk,↓wl,nq,evV,↓reduceIte,sevalprocAttr]
      refine evTs_sslc H (by rfl) (by simp only[loI,hiI,wm,wmd,↓wk,↓wl,nq,evV,↓reduceIte,sevalprocAttr];rfl) (by simp only[loI,hiI,wm,wmd,↓wk,↓wl,nq,evV,↓reduceIte,sevalprocAttr];rfl) ?_<;>clear H<;>intro x8 H
      try simp only[wm,wmd,↓wk,↓wl,nq,evV,↓reduceIte,sevalprocAttr]
      refine AW.ret ?_
      cases H
      exact hqf86_C3 _ _ _ (.inr rfl) (Le.tq 3 [0,1,2] [4] rfl) (by simp only[resVs,omap,resV,f86_C3,wm,wmr,rrm,↓wk,↓wl,evV,↓reduceIte,sevalprocAttr]) (by simp only[f86_C3,wm,wmr,rrm,↓wk,↓wl,evV,↓reduceIte,sevalprocAttr])
     ·rintro ⟨x9,xa⟩ s_ h_ H hs_ hh_
      simp only[f86_C3] at H hs_ hh_
      subst hs_
      subst hh_
      try simp only[wm,wmd,↓wk,↓wl,nq,evV,↓reduceIte,sevalprocAttr]
      refine evTs_pure hFn H (fun _ h=>f76_ok h) (by rfl) (by rfl) (by rfl) (by rfl) (fun _=>rfl) ?_<;>clear H<;>intro xb H
      try simp only[eL,wm,wmd,↓wk,↓wl,nq,evV,↓reduceIte,sevalprocAttr]
      refine evTs_inl (I:=f86_C4 x0 xa) (args:=[.int .i64 1,.ptr 2 0,.ptr 0 0]) H (by rfl) fd121 (by rfl) (Nat.le_of_ble_eq_true rfl) ?_ ?_<;>clear H
      ·rintro v_ Q_ H hqf86_C4
       simp only[f86_C4] at H
       dsimp only[List.length_cons,List.length_nil]
       refine AW.rseq ?_
       try simp only[wm,wmd,↓wk,↓wl,nq,evV,↓reduceIte,sevalprocAttr]
       refine AW.rseq ?_
       try simp only[wm,wmd,↓wk,↓wl,nq,evV,↓reduceIte,sevalprocAttr]
       refine AW.rseq ?_
       try simp only[wm,wmd,↓wk,↓wl,nq,evV,↓reduceIte,sevalprocAttr]
       refine evTs_sslc H (by rfl) (by simp only[loI,hiI,wm,wmd,↓wk,↓wl,nq,evV,↓reduceIte,sevalprocAttr];rfl) (by simp only[loI,hiI,wm,wmd,↓wk,↓wl,nq,evV,↓reduceIte,sevalprocAttr];rfl) ?_<;>clear H<;>intro xc H
       try simp only[wm,wmd,↓wk,↓wl,nq,evV,↓reduceIte,sevalprocAttr]
       refine AW.ret ?_
       cases H
       exact hqf86_C4 _ _ _ (.inr rfl) (Le.tq 3 [0,1,2] [4] rfl) (by simp only[resVs,omap,resV,f86_C4,wm,wmr,rrm,↓wk,↓wl,evV,↓reduceIte,sevalprocAttr]) (by simp only[f86_C4,wm,wmr,rrm,↓wk,↓wl,evV,↓reduceIte,sevalprocAttr])
      ·rintro ⟨xd,xe⟩ s_ h_ H hs_ hh_
       simp only[f86_C4] at H hs_ hh_
       subst hs_
       subst hh_
       try simp only[wm,wmd,↓wk,↓wl,nq,evV,↓reduceIte,sevalprocAttr]
       refine evTs_pure hFn H (fun _ h=>f76_ok h) (by rfl) (by rfl) (by rfl) (by rfl) (fun _=>rfl) ?_<;>clear H<;>intro xf H
       try simp only[eL,wm,wmd,↓wk,↓wl,nq,evV,↓reduceIte,sevalprocAttr]
       refine evTs_inl (I:=f86_C5 x0 xe) (args:=[.int .i64 1,.ptr 2 0,.ptr 0 0]) H (by rfl) fd121 (by rfl) (Nat.le_of_ble_eq_true rfl) ?_ ?_<;>clear H
       ·rintro v_ Q_ H hqf86_C5
        simp only[f86_C5] at H
        dsimp only[List.length_cons,List.length_nil]
        refine AW.rseq ?_
        try simp only[wm,wmd,↓wk,↓wl,nq,evV,↓reduceIte,sevalprocAttr]
        refine AW.rseq ?_
        try simp only[wm,wmd,↓wk,↓wl,nq,evV,↓reduceIte,sevalprocAttr]
        refine AW.rseq ?_
        try simp only[wm,wmd,↓wk,↓wl,nq,evV,↓reduceIte,sevalprocAttr]
        refine evTs_sslc H (by rfl) (by simp only[loI,hiI,wm,wmd,↓wk,↓wl,nq,evV,↓reduceIte,sevalprocAttr];rfl) (by simp only[loI,hiI,wm,wmd,↓wk,↓wl,nq,evV,↓reduceIte,sevalprocAttr];rfl) ?_<;>clear H<;>intro xg H
        try simp only[wm,wmd,↓wk,↓wl,nq,evV,↓reduceIte,sevalprocAttr]
        refine AW.ret ?_
        cases H
        exact hqf86_C5 _ _ _ (.inr rfl) (Le.tq 3 [0,1,2] [4] rfl) (by simp only[resVs,omap,resV,f86_C5,wm,wmr,rrm,↓wk,↓wl,evV,↓reduceIte,sevalprocAttr]) (by simp only[f86_C5,wm,wmr,rrm,↓wk,↓wl,evV,↓reduceIte,sevalprocAttr])
       ·rintro ⟨xh,xi⟩ s_ h_ H hs_ hh_
        simp only[f86_C5] at H hs_ hh_
        subst hs_
        subst hh_
        try simp only[wm,wmd,↓wk,↓wl,nq,evV,↓reduceIte,sevalprocAttr]
        refine evTs_pure hFn H (fun _ h=>f76_ok h) (by rfl) (by rfl) (by rfl) (by rfl) (fun _=>rfl) ?_<;>clear H<;>intro xj H
        try simp only[eL,wm,wmd,↓wk,↓wl,nq,evV,↓reduceIte,sevalprocAttr]
        refine evTs_inl (I:=f86_C6 x0 xi) (args:=[.int .i64 2,.ptr 2 0,.ptr 0 0]) H (by rfl) fd121 (by rfl) (Nat.le_of_ble_eq_true rfl) ?_ ?_<;>clear H
        ·rintro v_ Q_ H hqf86_C6
         simp only[f86_C6] at H
         dsimp only[List.length_cons,List.length_nil]
         refine AW.rseq ?_
         try simp only[wm,wmd,↓wk,↓wl,nq,evV,↓reduceIte,sevalprocAttr]
         refine AW.rseq ?_
         try simp only[wm,wmd,↓wk,↓wl,nq,evV,↓reduceIte,sevalprocAttr]
         refine AW.rseq ?_
         try simp only[wm,wmd,↓wk,↓wl,nq,evV,↓reduceIte,sevalprocAttr]
         refine evTs_sslc H (by rfl) (by simp only[loI,hiI,wm,wmd,↓wk,↓wl,nq,evV,↓reduceIte,sevalprocAttr];rfl) (by simp only[loI,hiI,wm,wmd,↓wk,↓wl,nq,evV,↓reduceIte,sevalprocAttr];rfl) ?_<;>clear H<;>intro xk H
         try simp only[wm,wmd,↓wk,↓wl,nq,evV,↓reduceIte,sevalprocAttr]
         refine AW.ret ?_
         cases H
         exact hqf86_C6 _ _ _ (.inr rfl) (Le.tq 3 [0,1,2] [4] rfl) (by simp only[resVs,omap,resV,f86_C6,wm,wmr,rrm,↓wk,↓wl,evV,↓reduceIte,sevalprocAttr]) (by simp only[f86_C6,wm,wmr,rrm,↓wk,↓wl,evV,↓reduceIte,sevalprocAttr])
        ·rintro ⟨xl,xm⟩ s_ h_ H hs_ hh_
         simp only[f86_C6] at H hs_ hh_
         subst hs_
         subst hh_
         try simp only[wm,wmd,↓wk,↓wl,nq,evV,↓reduceIte,sevalprocAttr]
         refine evTs_pure hFn H (fun _ h=>f76_ok h) (by rfl) (by rfl) (by rfl) (by rfl) (fun _=>rfl) ?_<;>clear H<;>intro xn H
         try simp only[eL,wm,wmd,↓wk,↓wl,nq,evV,↓reduceIte,sevalprocAttr]
         refine AW.rseq ?_
         try simp only[wm,wmd,↓wk,↓wl,nq,evV,↓reduceIte,sevalprocAttr]
         refine evTs_inl (I:=f86_C7 x0 xm x7 xb xf xj xn) (args:=[.int .i64 1,.ptr 2 0,.ptr 0 0]) H (by rfl) fd121 (by rfl) (Nat.le_of_ble_eq_true rfl) ?_ ?_<;>clear H
         ·rintro v_ Q_ H hqf86_C7
          simp only[f86_C7] at H
          dsimp only[List.length_cons,List.length_nil]
          refine AW.rseq ?_
          try simp only[wm,wmd,↓wk,↓wl,nq,evV,↓reduceIte,sevalprocAttr]
          refine AW.rseq ?_
          try simp only[wm,wmd,↓wk,↓wl,nq,evV,↓reduceIte,sevalprocAttr]
          refine AW.rseq ?_
          try simp only[wm,wmd,↓wk,↓wl,nq,evV,↓reduceIte,sevalprocAttr]
          refine evTs_sslc H (by rfl) (by simp only[loI,hiI,wm,wmd,↓wk,↓wl,nq,evV,↓reduceIte,sevalprocAttr];rfl) (by simp only[loI,hiI,wm,wmd,↓wk,↓wl,nq,evV,↓reduceIte,sevalprocAttr];rfl) ?_<;>clear H<;>intro xo H
          try simp only[wm,wmd,↓wk,↓wl,nq,evV,↓reduceIte,sevalprocAttr]
          refine AW.ret ?_
          cases H
          exact hqf86_C7 _ _ _ (.inr rfl) (Le.tq 4 [0,1,2,3] [4] rfl) (by simp only[resVs,omap,resV,f86_C7,wm,wmr,rrm,↓wk,↓wl,evV,↓reduceIte,sevalprocAttr]) (by simp only[f86_C7,wm,wmr,rrm,↓wk,↓wl,evV,↓reduceIte,sevalprocAttr])
         ·rintro ⟨xp,xq⟩ s_ h_ H hs_ hh_
          simp only[f86_C7] at H hs_ hh_
          subst hs_
          subst hh_
          try simp only[wm,wmd,↓wk,↓wl,nq,evV,↓reduceIte,sevalprocAttr]
          refine evTs_pure hFn H (fun _ h=>f76_ok h) (by rfl) (by rfl) (by rfl) (by rfl) (fun _=>rfl) ?_<;>clear H<;>intro xr H
          try simp only[eL,wm,wmd,↓wk,↓wl,nq,evV,↓reduceIte,sevalprocAttr]
          refine AW.bseq ?_
          refine AW.rseq ?_
          try simp only[wm,wmd,↓wk,↓wl,nq,evV,↓reduceIte,sevalprocAttr]
          refine AW.ifc H (by rfl) ?_ ?_<;>clear H<;>intro H
          ·refine AW.rseq ?_
           try simp only[wm,wmd,↓wk,↓wl,nq,evV,↓reduceIte,sevalprocAttr]
           refine AW.ret ?_
           refine blkQ.ret ?_
           cases H
           exact hQ _ _ _ _ (.inr rfl) (by simp only[resVs,omap,resV,wm,wmd,↓wk,↓wl,nq,evV,↓reduceIte,sevalprocAttr];rfl) (hand_plain (by rfl)) (by first | exact Or.inl rfl | exact Or.inr rfl)
          ·refine AW.rseq ?_
           try simp only[wm,wmd,↓wk,↓wl,nq,evV,↓reduceIte,sevalprocAttr]
           refine AW.ifc H (by rfl) ?_ ?_<;>clear H<;>intro H
           ·refine AW.rseq ?_
            try simp only[wm,wmd,↓wk,↓wl,nq,evV,↓reduceIte,sevalprocAttr]
            refine AW.ret ?_
            refine blkQ.ret ?_
            cases H
            exact hQ _ _ _ _ (.inr rfl) (by simp only[resVs,omap,resV,wm,wmd,↓wk,↓wl,nq,evV,↓reduceIte,sevalprocAttr];rfl) (hand_plain (by rfl)) (by first | exact Or.inl rfl | exact Or.inr rfl)
           ·refine AW.skip ?_
            refine blkQ.norm ?_
            refine AW.rseq ?_
            try simp only[wm,wmd,↓wk,↓wl,nq,evV,↓reduceIte,sevalprocAttr]
            refine evTs_inl (I:=f86_C8 x0 xq xr x7 xb xf xj xn) (args:=[.int .i64 (IntKind.i64.wrap xr),.ptr 2 0,.ptr 0 0]) H (by rfl) fd121 (by rfl) (Nat.le_of_ble_eq_true rfl) ?_ ?_<;>clear H
            ·rintro v_ Q_ H hqf86_C8
             simp only[f86_C8] at H
             dsimp only[List.length_cons,List.length_nil]
             refine AW.rseq ?_
             try simp only[wm,wmd,↓wk,↓wl,nq,evV,↓reduceIte,sevalprocAttr]
             refine AW.rseq ?_
             try simp only[wm,wmd,↓wk,↓wl,nq,evV,↓reduceIte,sevalprocAttr]
             refine AW.rseq ?_
             try simp only[wm,wmd,↓wk,↓wl,nq,evV,↓reduceIte,sevalprocAttr]
             refine evTs_sslc H (by rfl) (by simp only[loI,hiI,wm,wmd,↓wk,↓wl,nq,evV,↓reduceIte,sevalprocAttr];rfl) (by simp only[loI,hiI,wm,wmd,↓wk,↓wl,nq,evV,↓reduceIte,sevalprocAttr];rfl) ?_<;>clear H<;>intro xs H
             try simp only[wm,wmd,↓wk,↓wl,nq,evV,↓reduceIte,sevalprocAttr]
             refine AW.ret ?_
             cases H
             exact hqf86_C8 _ _ _ (.inr rfl) (Le.tq 4 [0,1,2,3] [4] rfl) (by simp only[resVs,omap,resV,f86_C8,wm,wmr,rrm,↓wk,↓wl,evV,↓reduceIte,sevalprocAttr]) (by simp only[f86_C8,wm,wmr,rrm,↓wk,↓wl,evV,↓reduceIte,sevalprocAttr])
            ·rintro ⟨xt,xu⟩ s_ h_ H hs_ hh_
             simp only[f86_C8] at H hs_ hh_
             subst hs_
             subst hh_
             try simp only[wm,wmd,↓wk,↓wl,nq,evV,↓reduceIte,sevalprocAttr]
             refine AW.sseq ?_
             refine AW.rqseq ?_
             try simp only[wm,wmd,↓wk,↓wl,nq,evV,↓reduceIte,sevalprocAttr]
             refine evTs_sslc H (by rfl) (by simp only[loI,hiI,wm,wmd,↓wk,↓wl,nq,evV,↓reduceIte,sevalprocAttr];rfl) (by simp only[loI,hiI,wm,wmd,↓wk,↓wl,nq,evV,↓reduceIte,sevalprocAttr];rfl) ?_<;>clear H<;>intro xv H
             try simp only[wm,wmd,↓wk,↓wl,nq,evV,↓reduceIte,sevalprocAttr]
             refine evTs_sslc H (by rfl) (by simp only[loI,hiI,wm,wmd,↓wk,↓wl,nq,evV,↓reduceIte,sevalprocAttr];rfl) (by simp only[loI,hiI,wm,wmd,↓wk,↓wl,nq,evV,↓reduceIte,sevalprocAttr];rfl) ?_<;>clear H<;>intro xw H
             try simp only[wm,wmd,↓wk,↓wl,nq,evV,↓reduceIte,sevalprocAttr]
             refine evTs_pure hFnq H (fun _ h=>f108_ok h) (by rfl) (by rfl) (by rfl) (by rfl) (fun _=>rfl) ?_<;>clear H<;>intro xx H
             try simp only[eL,wm,wmd,↓wk,↓wl,nq,evV,↓reduceIte,sevalprocAttr]
             refine AW.ifc H (by rfl) ?_ ?_<;>clear H<;>intro H
             ·refine AW.rseq ?_
              try simp only[wm,wmd,↓wk,↓wl,nq,evV,↓reduceIte,sevalprocAttr]
              refine AW.ret ?_
              refine seqQ.ret ?_
              cases H
              exact hQ _ _ _ _ (.inr rfl) (by simp only[resVs,omap,resV,wm,wmd,↓wk,↓wl,nq,evV,↓reduceIte,sevalprocAttr];rfl) (hand_plain (by rfl)) (by first | exact Or.inl rfl | exact Or.inr rfl)
             ·refine AW.skip ?_
              refine seqQ.norm ?_
              refine AW.rseq ?_
              try simp only[wm,wmd,↓wk,↓wl,nq,evV,↓reduceIte,sevalprocAttr]
              refine evTs_pure hFn H (fun _ h=>f84_ok h) (by rfl) (by rfl) (by rfl) (by rfl) (fun _=>rfl) ?_<;>clear H<;>intro xy H
              try simp only[eL,eApiMessage,eM,wm,wmd,↓wk,↓wl,nq,evV,↓reduceIte,sevalprocAttr]
              refine AW.ret ?_
              cases H
              exact hQ _ _ _ _ (.inr rfl) (by simp only[resVs,omap,resV,wm,wmd,↓wk,↓wl,nq,evV,↓reduceIte,sevalprocAttr];rfl) (hand_plain (by rfl)) (by first | exact Or.inl rfl | exact Or.inr rfl)
def c52_0:C:=.cond (.t 26) (.reg [iI 27 (.call (.c (.fn 83 [])) [(.c (.int .u64 0)),(.c (.int .i64 12))]),iI 28 (.faddr 5 (.t 10)),iN (.store 0 (.t 28) (.t 27))]) (.skip)
def c52_1:C:=.seq (.reg [iI 29 (.load 6 (.t 10)),iI 30 (.call (.c (.fn 84 [])) [(.t 29)]),iI 31 (.ext (.t 30) 0),iI 32 (.ext (.t 30) 1),iN (.store 6 (.t 8) (.t 31)),iI 9 (.mv (.t 32))]) .ret
def c52_2:C:=.seq (.seq (.reg [iI 19 (.mv (.t 2)),iI 20 (.call (.c (.fn 74 [])) [(.t 19)]),iI 21 (.un .not (.t 20)),iI 22 (.mv (.t 21)),iG (some 23) 22 false (.mv (.t 3)),iG (some 24) 22 false (.call (.c (.fn 74 [])) [(.t 23)]),iG (some 25) 22 false (.un .not (.t 24)),iI 26 (.pick (.t 22) (.c (.bool true)) (.t 25))]) c52_0) c52_1
def c52_3:C:=.seq (.reg [iI 11 (.mv (.t 0)),iI 12 (.mv (.t 1)),iI 13 (.mv (.t 2)),iI 14 (.call (.c (.fn 83 [])) [(.t 13),(.c (.int .i64 6))]),iI 15 (.mv (.t 3)),iI 16 (.call (.c (.fn 83 [])) [(.t 15),(.c (.int .i64 6))]),iI 17 (.bin .add (.t 14) (.t 16)),iI 18 (.build [(1,(.int .u64 0)),(1,(.int .u64 0)),(1,(.int .i64 0)),(1,(.int .i64 0)),(1,(.int .i64 0)),(1,(.str []))] [(0,0,(.c (.int .u64 281474976710655))),(1,0,(.t 11)),(2,0,(.t 12)),(3,0,(.c (.int .i64 1))),(5,0,(.t 17))]),iI 10 (.alloc [(1,(.int .u64 0)),(1,(.int .u64 0)),(1,(.int .i64 0)),(1,(.int .i64 0)),(1,(.int .i64 0)),(1,(.str []))]),iN (.store 6 (.t 10) (.t 18))]) c52_2
def ir52:C:=.seq (.reg [iI 8 (.alloc [(1,(.int .u64 0)),(1,(.int .u64 0)),(1,(.int .i64 0)),(1,(.int .i64 0)),(1,(.int .i64 0)),(1,(.str []))]),iI 9 (.mv (.c (.int .i64 0)))]) c52_3
theorem fd52:fd? Tryz.prog 52=some (33,[.cell 8 6,.slot 9],ir52):=by kernel_rfl
noncomputable def f52(x0:Int)(x1:Int)(x2:Int)(x3:Int):Option (ApiMessage×Int) :=
  (f83 x2 6).bind fun x4=>(f83 x3 6).bind fun x5=>(cat? x4 x5).bind fun x6=>(f74 x2).bind fun x7=>(if (!x7)=true then (f83 0 12).bind fun x8=>(f84 (ApiMessage.mk 281474976710655 x0 x1 1 0 x8)).bind fun x9=>(some (x9.1,x9.2)) else (f74 x3).bind fun xa=>(if (!xa)=true then (f83 0 12).bind fun xb=>(f84 (ApiMessage.mk 281474976710655 x0 x1 1 0 xb)).bind fun xc=>(some (xc.1,xc.2)) else (f84 (ApiMessage.mk 281474976710655 x0 x1 1 0 x6)).bind fun xd=>(some (xd.1,xd.2))))
theorem f52_ok{x0:Int}{x1:Int}{x2:Int}{x3:Int}{r_:ApiMessage×Int}(H:f52 x0 x1 x2 x3=some r_):Pure Tryz.prog 52 [.int .u64 x0,.int .i64 x1,.int .u64 x2,.int .u64 x3] (· = .tup [.agg [.int .u64 r_.1.fTo,.int .u64 r_.1.fFrom,.int .i64 r_.1.fSeq,.int .i64 r_.1.fKind,.int .i64 r_.1.fParam,.str r_.1.fData],.int .i64 r_.2]):=by
 refine Pure.walk3 fd52 none (Nat.le_of_ble_eq_true rfl) (by rfl) fun Q hQ=>?_
 simp only[f52] at H
 refine AW.rseq ?_
 try simp only[wm,wmd,↓wk,↓wl,nq,evV,↓reduceIte,sevalprocAttr]
 refine AW.rseq ?_
 try simp only[wm,wmd,↓wk,↓wl,nq,evV,↓reduceIte,sevalprocAttr]
 refine evTs_pure hFn H (fun _ h=>f83_ok h) (by rfl) (by rfl) (by rfl) (by rfl) (fun _=>rfl) ?_<;>clear H<;>intro x4 H
 try simp only[eL,wm,wmd,↓wk,↓wl,nq,evV,↓reduceIte,sevalprocAttr]
 refine evTs_pure hFn H (fun _ h=>f83_ok h) (by rfl) (by rfl) (by rfl) (by rfl) (fun _=>rfl) ?_<;>clear H<;>intro x5 H
 try simp only[eL,wm,wmd,↓wk,↓wl,nq,evV,↓reduceIte,sevalprocAttr]
 refine rest_cat H ?_<;>clear H<;>intro x6 H
 try simp only[wm,wmd,↓wk,↓wl,nq,evV,↓reduceIte,sevalprocAttr]
 refine AW.sseq ?_
 refine AW.rseq ?_
 try simp only[wm,wmd,↓wk,↓wl,nq,evV,↓reduceIte,sevalprocAttr]
 refine evTs_pure hFn H (fun _ h=>f74_ok h) (by rfl) (by rfl) (by rfl) (by rfl) (fun _=>rfl) ?_<;>clear H<;>intro x7 H
 try simp only[eL,wm,wmd,↓wk,↓wl,nq,evV,↓reduceIte,sevalprocAttr]
 refine evTs_ifg H (by rfl) ?_ ?_<;>clear H<;>intro H
 ·try simp only[wm,wmd,↓wk,↓wl,nq,evV,↓reduceIte,sevalprocAttr]
  refine AW.ift (by rfl) ?_
  refine AW.rend ?_
  try simp only[wm,wmd,↓wk,↓wl,nq,evV,↓reduceIte,sevalprocAttr]
  refine evTs_pure hFn H (fun _ h=>f83_ok h) (by rfl) (by rfl) (by rfl) (by rfl) (fun _=>rfl) ?_<;>clear H<;>intro x8 H
  try simp only[eL,wm,wmd,↓wk,↓wl,nq,evV,↓reduceIte,sevalprocAttr]
  refine seqQ.norm ?_
  refine AW.rseq ?_
  try simp only[wm,wmd,↓wk,↓wl,nq,evV,↓reduceIte,sevalprocAttr]
  refine evTs_pure hFn H (fun _ h=>f84_ok h) (by rfl) (by rfl) (by rfl) (by rfl) (fun _=>rfl) ?_<;>clear H<;>intro x9 H
  try simp only[eL,eApiMessage,eM,wm,wmd,↓wk,↓wl,nq,evV,↓reduceIte,sevalprocAttr]
  refine AW.ret ?_
  cases H
  exact hQ _ _ _ _ (.inr rfl) (by simp only[resVs,omap,resV,wm,wmd,↓wk,↓wl,nq,evV,↓reduceIte,sevalprocAttr];rfl) (hand_plain (by rfl)) (by first | exact Or.inl rfl | exact Or.inr rfl)
 ·try simp only[wm,wmd,↓wk,↓wl,nq,evV,↓reduceIte,sevalprocAttr]
  refine evTs_pure hFn H (fun _ h=>f74_ok h) (by rfl) (by rfl) (by rfl) (by rfl) (fun _=>rfl) ?_<;>clear H<;>intro xa H
  try simp only[eL,wm,wmd,↓wk,↓wl,nq,evV,↓reduceIte,sevalprocAttr]
  refine AW.ifc H (by rfl) ?_ ?_<;>clear H<;>intro H
  ·refine AW.rend ?_
   try simp only[wm,wmd,↓wk,↓wl,nq,evV,↓reduceIte,sevalprocAttr]
   refine evTs_pure hFn H (fun _ h=>f83_ok h) (by rfl) (by rfl) (by rfl) (by rfl) (fun _=>rfl) ?_<;>clear H<;>intro xb H
   try simp only[eL,wm,wmd,↓wk,↓wl,nq,evV,↓reduceIte,sevalprocAttr]
   refine seqQ.norm ?_
   refine AW.rseq ?_
   try simp only[wm,wmd,↓wk,↓wl,nq,evV,↓reduceIte,sevalprocAttr]
   refine evTs_pure hFn H (fun _ h=>f84_ok h) (by rfl) (by rfl) (by rfl) (by rfl) (fun _=>rfl) ?_<;>clear H<;>intro xc H
   try simp only[eL,eApiMessage,eM,wm,wmd,↓wk,↓wl,nq,evV,↓reduceIte,sevalprocAttr]
   refine AW.ret ?_
   cases H
   exact hQ _ _ _ _ (.inr rfl) (by simp only[resVs,omap,resV,wm,wmd,↓wk,↓wl,nq,evV,↓reduceIte,sevalprocAttr];rfl) (hand_plain (by rfl)) (by first | exact Or.inl rfl | exact Or.inr rfl)
  ·refine AW.skip ?_
   refine seqQ.norm ?_
   refine AW.rseq ?_
   try simp only[wm,wmd,↓wk,↓wl,nq,evV,↓reduceIte,sevalprocAttr]
   refine evTs_pure hFn H (fun _ h=>f84_ok h) (by rfl) (by rfl) (by rfl) (by rfl) (fun _=>rfl) ?_<;>clear H<;>intro xd H
   try simp only[eL,eApiMessage,eM,wm,wmd,↓wk,↓wl,nq,evV,↓reduceIte,sevalprocAttr]
   refine AW.ret ?_
   cases H
   exact hQ _ _ _ _ (.inr rfl) (by simp only[resVs,omap,resV,wm,wmd,↓wk,↓wl,nq,evV,↓reduceIte,sevalprocAttr];rfl) (hand_plain (by rfl)) (by first | exact Or.inl rfl | exact Or.inr rfl)
def c29_0:C:=.cond (.t 4) (.seq (.reg [iI 2 (.mv (.c (.sl 7 true [])))]) .ret) (.skip)
def c29_1:C:=.seq (.reg [iI 5 (.mkslp 7 0 (.agg [(.int .u64 0),(.int .i64 0),(.int .i64 0),(.str []),(.int .i64 0),(.bool false),(.bool false)]) []),iI 6 (.mv (.t 0)),iI 7 (.append 7 56 (.t 5) (.t 6)),iI 2 (.mv (.t 7))]) .ret
def c29_2:C:=.seq (.seq (.reg [iI 3 (.mv (.t 0)),iI 4 (.isnil false (.t 3))]) c29_0) c29_1
def ir29:C:=.seq (.reg [iI 2 (.mv (.c (.sl 7 true [])))]) c29_2
theorem fd29:fd? Tryz.prog 29=some (8,[.slot 2],ir29):=by kernel_rfl
noncomputable def f29(x0:(List ResponderDevice)):Option ((List ResponderDevice)) :=
  (nil? (x0:List ResponderDevice) false fun x1=>(if x1=true then (some []) else (app? 56 [] x0).bind fun x2=>(some x2)))
theorem f29_ok{x0:(List ResponderDevice)}{r_:(List ResponderDevice)}(H:f29 x0=some r_):Pure Tryz.prog 29 [.sl 7 false (x0.map eResponderDevice)] (· = .fr 7 (r_.map eResponderDevice)):=by
 refine Pure.walk3 fd29 (some 0) (Nat.le_of_ble_eq_true rfl) (by rfl) fun Q hQ=>?_
 simp only[f29] at H
 refine AW.rseq ?_
 try simp only[wm,wmd,↓wk,↓wl,nq,evV,↓reduceIte,sevalprocAttr]
 refine AW.sseq ?_
 refine AW.rseq ?_
 try simp only[wm,wmd,↓wk,↓wl,nq,evV,↓reduceIte,sevalprocAttr]
 refine evTs_isnil (enc:=eResponderDevice) H (by rfl) ?_<;>clear H<;>intro x1 H
 try simp only[wm,wmd,↓wk,↓wl,nq,evV,↓reduceIte,sevalprocAttr]
 refine AW.ifc H (by rfl) ?_ ?_<;>clear H<;>intro H
 ·refine AW.rseq ?_
  try simp only[wm,wmd,↓wk,↓wl,nq,evV,↓reduceIte,sevalprocAttr]
  refine AW.ret ?_
  refine seqQ.ret ?_
  cases H
  exact hQ _ _ _ _ (.inr rfl) (by simp only[resVs,omap,resV,wm,wmd,↓wk,↓wl,nq,evV,↓reduceIte,sevalprocAttr];rfl) hand_10 (by first | exact Or.inl rfl | exact Or.inr rfl)
 ·refine AW.skip ?_
  refine seqQ.norm ?_
  refine AW.rseq ?_
  try simp only[wm,wmd,↓wk,↓wl,nq,evV,↓reduceIte,sevalprocAttr]
  refine evTs_app0 (enc:=eResponderDevice) H (by rfl) (by rfl) ?_<;>clear H<;>intro x2 H
  try simp only[wm,wmd,↓wk,↓wl,nq,evV,↓reduceIte,sevalprocAttr]
  refine AW.ret ?_
  cases H
  exact hQ _ _ _ _ (.inr rfl) (by simp only[resVs,omap,resV,wm,wmd,↓wk,↓wl,nq,evV,↓reduceIte,sevalprocAttr];rfl) (hand_1 (by rfl) (by simp) (enc_all _)) (by first | exact Or.inl rfl | exact Or.inr rfl)
theorem f29_im{x0:(List ResponderDevice)}{r_:(List ResponderDevice)}(H:f29 x0=some r_):Pure Tryz.prog 29 [.sl 7 false (x0.map eResponderDevice)] (· = .sl 7 false (r_.map eResponderDevice)):=(f29_ok H).unfr (by first | exact enc_fits _ | simp only[frFits,List.all_cons,List.all_nil,enc_fits,Bool.and_self])
def c28_0:C:=.seq (.reg [iI 3 (.mv (.t 0)),iI 4 (.bin .geq (.t 3) (.c (.int .u64 1))),iI 5 (.mv (.t 4)),iG (some 6) 5 true (.mv (.t 0)),iG (some 7) 5 true (.bin .leq (.t 6) (.c (.int .u64 281474976710654))),iI 8 (.pick (.t 5) (.t 7) (.c (.bool false))),iI 2 (.mv (.t 8))]) .ret
def ir28:C:=.seq (.reg [iI 2 (.mv (.c (.bool false)))]) c28_0
theorem fd28:fd? Tryz.prog 28=some (9,[.slot 2],ir28):=by kernel_rfl
noncomputable def f28(x0:Int):Option (Bool) :=
  (if (decide (1≤x0))=true then (some (decide (x0≤281474976710654))) else (some false))
theorem f28_ok{x0:Int}{r_:Bool}(H:f28 x0=some r_):Pure Tryz.prog 28 [.int .u64 x0] (· = .bool r_):=by
 refine Pure.walk3 fd28 none (Nat.le_of_ble_eq_true rfl) (by rfl) fun Q hQ=>?_
 simp only[f28] at H
 refine AW.rseq ?_
 try simp only[wm,wmd,↓wk,↓wl,nq,evV,↓reduceIte,sevalprocAttr]
 refine AW.rseq ?_
 try simp only[wm,wmd,↓wk,↓wl,nq,evV,↓reduceIte,sevalprocAttr]
 refine evTs_ifg H (by rfl) ?_ ?_<;>clear H<;>intro H
 ·try simp only[wm,wmd,↓wk,↓wl,nq,evV,↓reduceIte,sevalprocAttr]
  refine AW.ret ?_
  cases H
  exact hQ _ _ _ _ (.inr rfl) (by simp only[resVs,omap,resV,wm,wmd,↓wk,↓wl,nq,evV,↓reduceIte,sevalprocAttr];rfl) (hand_plain (by rfl)) (by first | exact Or.inl rfl | exact Or.inr rfl)
 ·try simp only[wm,wmd,↓wk,↓wl,nq,evV,↓reduceIte,sevalprocAttr]
  refine AW.ret ?_
  cases H
  exact hQ _ _ _ _ (.inr rfl) (by simp only[resVs,omap,resV,wm,wmd,↓wk,↓wl,nq,evV,↓reduceIte,sevalprocAttr];rfl) (hand_plain (by rfl)) (by first | exact Or.inl rfl | exact Or.inr rfl)
def c5_0:C:=.seq (.reg [iI 3 (.mv (.t 0)),iI 4 (.bin .gtr (.t 3) (.c (.int .u64 0))),iI 5 (.mv (.t 4)),iG (some 6) 5 true (.mv (.t 0)),iG (some 7) 5 true (.bin .lss (.t 6) (.c (.int .u64 281474976710655))),iI 8 (.pick (.t 5) (.t 7) (.c (.bool false))),iI 2 (.mv (.t 8))]) .ret
def ir5:C:=.seq (.reg [iI 2 (.mv (.c (.bool false)))]) c5_0
theorem fd5:fd? Tryz.prog 5=some (9,[.slot 2],ir5):=by kernel_rfl
noncomputable def f5(x0:Int):Option (Bool) :=
  (if (decide (0<x0))=true then (some (decide (x0<281474976710655))) else (some false))
theorem f5_ok{x0:Int}{r_:Bool}(H:f5 x0=some r_):Pure Tryz.prog 5 [.int .u64 x0] (· = .bool r_):=by
 refine Pure.walk3 fd5 none (Nat.le_of_ble_eq_true rfl) (by rfl) fun Q hQ=>?_
 simp only[f5] at H
 refine AW.rseq ?_
 try simp only[wm,wmd,↓wk,↓wl,nq,evV,↓reduceIte,sevalprocAttr]
 refine AW.rseq ?_
 try simp only[wm,wmd,↓wk,↓wl,nq,evV,↓reduceIte,sevalprocAttr]
 refine evTs_ifg H (by rfl) ?_ ?_<;>clear H<;>intro H
 ·try simp only[wm,wmd,↓wk,↓wl,nq,evV,↓reduceIte,sevalprocAttr]
  refine AW.ret ?_
  cases H
  exact hQ _ _ _ _ (.inr rfl) (by simp only[resVs,omap,resV,wm,wmd,↓wk,↓wl,nq,evV,↓reduceIte,sevalprocAttr];rfl) (hand_plain (by rfl)) (by first | exact Or.inl rfl | exact Or.inr rfl)
 ·try simp only[wm,wmd,↓wk,↓wl,nq,evV,↓reduceIte,sevalprocAttr]
  refine AW.ret ?_
  cases H
  exact hQ _ _ _ _ (.inr rfl) (by simp only[resVs,omap,resV,wm,wmd,↓wk,↓wl,nq,evV,↓reduceIte,sevalprocAttr];rfl) (hand_plain (by rfl)) (by first | exact Or.inl rfl | exact Or.inr rfl)
def c40_0:C:=.seq (.reg [iI 5 (.mv (.t 0)),iI 6 (.bin .geq (.t 5) (.c (.int .i64 1))),iI 7 (.mv (.t 6)),iG (some 8) 7 true (.mv (.t 0)),iG (some 9) 7 true (.bin .leq (.t 8) (.c (.int .i64 512))),iI 10 (.pick (.t 7) (.t 9) (.c (.bool false))),iI 11 (.mv (.t 10)),iG (some 12) 11 true (.mv (.t 0)),iG (some 13) 11 true (.mv (.t 1)),iG (some 14) 11 true (.bin .add (.t 12) (.t 13)),iG (some 15) 11 true (.bin .sub (.t 14) (.c (.int .i64 1))),iG (some 16) 11 true (.bin .leq (.t 15) (.c (.int .i64 512))),iI 17 (.pick (.t 11) (.t 16) (.c (.bool false))),iI 4 (.mv (.t 17))]) .ret
def ir40:C:=.seq (.reg [iI 4 (.mv (.c (.bool false)))]) c40_0
theorem fd40:fd? Tryz.prog 40=some (18,[.slot 4],ir40):=by kernel_rfl
noncomputable def f40(x0:Int)(x1:Int):Option (Bool) :=
  (if (decide (1≤x0))=true then (if (decide (x0≤512))=true then (some (decide ((IntKind.i64.wrap ((IntKind.i64.wrap (x0 + x1)) - 1))≤512))) else (some false)) else (some false))
theorem f40_ok{x0:Int}{x1:Int}{r_:Bool}(H:f40 x0 x1=some r_):Pure Tryz.prog 40 [.int .i64 x0,.int .i64 x1] (· = .bool r_):=by
 refine Pure.walk3 fd40 none (Nat.le_of_ble_eq_true rfl) (by rfl) fun Q hQ=>?_
 simp only[f40] at H
 refine AW.rseq ?_
 try simp only[wm,wmd,↓wk,↓wl,nq,evV,↓reduceIte,sevalprocAttr]
 refine AW.rseq ?_
 try simp only[wm,wmd,↓wk,↓wl,nq,evV,↓reduceIte,sevalprocAttr]
 refine evTs_ifg H (by rfl) ?_ ?_<;>clear H<;>intro H
 ·try simp only[wm,wmd,↓wk,↓wl,nq,evV,↓reduceIte,sevalprocAttr]
  refine evTs_ifg H (by rfl) ?_ ?_<;>clear H<;>intro H
  ·try simp only[wm,wmd,↓wk,↓wl,nq,evV,↓reduceIte,sevalprocAttr]
   refine AW.ret ?_
   cases H
   exact hQ _ _ _ _ (.inr rfl) (by simp only[resVs,omap,resV,wm,wmd,↓wk,↓wl,nq,evV,↓reduceIte,sevalprocAttr];rfl) (hand_plain (by rfl)) (by first | exact Or.inl rfl | exact Or.inr rfl)
  ·try simp only[wm,wmd,↓wk,↓wl,nq,evV,↓reduceIte,sevalprocAttr]
   refine AW.ret ?_
   cases H
   exact hQ _ _ _ _ (.inr rfl) (by simp only[resVs,omap,resV,wm,wmd,↓wk,↓wl,nq,evV,↓reduceIte,sevalprocAttr];rfl) (hand_plain (by rfl)) (by first | exact Or.inl rfl | exact Or.inr rfl)
 ·try simp only[wm,wmd,↓wk,↓wl,nq,evV,↓reduceIte,sevalprocAttr]
  refine AW.ret ?_
  cases H
  exact hQ _ _ _ _ (.inr rfl) (by simp only[resVs,omap,resV,wm,wmd,↓wk,↓wl,nq,evV,↓reduceIte,sevalprocAttr];rfl) (hand_plain (by rfl)) (by first | exact Or.inl rfl | exact Or.inr rfl)
noncomputable def f41_L1(x0:(List UInt8)):Lp (Int) ((Unit)⊕(Unit)) where
  body:=fun x1=>(if (decide (x1<((x0.length:Nat):Int)))=true then (at? x0 x1).bind fun x2=>(if (decide ((x2.toNat:Int)<32))=true then (some (.brk (Sum.inr ()))) else (at? x0 x1).bind fun x3=>(if (decide (126<(x3.toNat:Int)))=true then (some (.brk (Sum.inr ()))) else (some (.next (IntKind.i64.wrap (x1 + 1)))))) else (some (.brk (Sum.inl ()))))
  cst:=fun x1=>⟨put (put (fun _=>.junk) 3 (.int .i64 x1)) 0 (.str x0),[]⟩
theorem f41_L1c(x0:(List UInt8))(x1:Int):(f41_L1 x0).cst x1=⟨put (put (fun _=>.junk) 3 (.int .i64 x1)) 0 (.str x0),[]⟩:=rfl
def c41_0:C:=.cond (.t 6) (.seq (.reg [iI 2 (.mv (.c (.int .i64 13)))]) .ret) (.skip)
def c41_1:C:=.cond (.t 10) (.skip) (.exit 0)
def c41_2:C:=.cond (.t 22) (.seq (.reg [iI 2 (.mv (.c (.int .i64 3)))]) .ret) (.skip)
def c41_3:C:=.reg [iI 11 (.mv (.t 3)),iI 12 (.bin .add (.t 11) (.c (.int .i64 1))),iI 3 (.mv (.t 12))]
def c41_4:C:=.seq (.block 1 (.seq (.reg [iI 13 (.mv (.t 0)),iI 14 (.mv (.t 3)),iI 15 (.sidx (.t 13) (.t 14)),iI 16 (.bin .lss (.t 15) (.c (.int .u8 32))),iI 17 (.mv (.t 16)),iG (some 18) 17 false (.mv (.t 0)),iG (some 19) 17 false (.mv (.t 3)),iG (some 20) 17 false (.sidx (.t 18) (.t 19)),iG (some 21) 17 false (.bin .gtr (.t 20) (.c (.int .u8 126))),iI 22 (.pick (.t 17) (.c (.bool true)) (.t 21))]) c41_2)) c41_3
def c41_5:C:=.block 0 (.loop (.seq (.seq (.reg [iI 7 (.mv (.t 3)),iI 8 (.mv (.t 0)),iI 9 (.len 1 (.t 8)),iI 10 (.bin .lss (.t 7) (.t 9))]) c41_1) c41_4))
def c41_6:C:=.seq (.reg [iI 2 (.mv (.c (.int .i64 0)))]) .ret
def c41_7:C:=.seq (.seq (.reg [iI 3 (.mv (.c (.int .i64 0)))]) c41_5) c41_6
def c41_8:C:=.seq (.seq (.reg [iI 4 (.mv (.t 0)),iI 5 (.len 1 (.t 4)),iI 6 (.bin .gtr (.t 5) (.c (.int .i64 32)))]) c41_0) c41_7
def ir41:C:=.seq (.reg [iI 2 (.mv (.c (.int .i64 0)))]) c41_8
theorem fd41:fd? Tryz.prog 41=some (23,[.slot 2],ir41):=by kernel_rfl
noncomputable def f41(x0:(List UInt8)):Option (Int) :=
  (if (decide (32<((x0.length:Nat):Int)))=true then (some 13) else ((Lp.run (f41_L1 x0) 0).bind fun r_=>match r_ with | (Sum.inl _)=>(some 0) | (Sum.inr _)=>(some 3)))
theorem f41_ok{x0:(List UInt8)}{r_:Int}(H:f41 x0=some r_):Pure Tryz.prog 41 [.str x0] (· = .int .i64 r_):=by
 refine Pure.walk3 fd41 none (Nat.le_of_ble_eq_true rfl) (by rfl) fun Q hQ=>?_
 simp only[f41] at H
 refine AW.rseq ?_
 try simp only[wm,wmd,↓wk,↓wl,nq,evV,↓reduceIte,sevalprocAttr]
 refine AW.sseq ?_
 refine AW.rseq ?_
 try simp only[wm,wmd,↓wk,↓wl,nq,evV,↓reduceIte,sevalprocAttr]
 refine AW.ifc H (by rfl) ?_ ?_<;>clear H<;>intro H
 ·refine AW.rseq ?_
  try simp only[wm,wmd,↓wk,↓wl,nq,evV,↓reduceIte,sevalprocAttr]
  refine AW.ret ?_
  refine seqQ.ret ?_
  cases H
  exact hQ _ _ _ _ (.inr rfl) (by simp only[resVs,omap,resV,wm,wmd,↓wk,↓wl,nq,evV,↓reduceIte,sevalprocAttr];rfl) (hand_plain (by rfl)) (by first | exact Or.inl rfl | exact Or.inr rfl)
 ·refine AW.skip ?_
  refine seqQ.norm ?_
  refine AW.sseq ?_
  refine AW.rseq ?_
  try simp only[wm,wmd,↓wk,↓wl,nq,evV,↓reduceIte,sevalprocAttr]
  refine AW.bend ?_
  refine AW.iter H ((Le.tz [] [0,3] (by simp only[f41_L1c,wm,wmr,rrm,↓wk,↓wl,evV,↓reduceIte,sevalprocAttr]<;>rfl))) ?_<;>clear H
  rintro x1 x_ st0_ H hst_
  rw[f41_L1c] at hst_
  simp only[f41_L1] at H
  subst hst_
  refine AW.sseq ?_
  refine AW.rseq ?_
  try simp only[wm,wmd,↓wk,↓wl,nq,evV,↓reduceIte,sevalprocAttr]
  refine AW.ifc H (by rfl) ?_ ?_<;>clear H<;>intro H
  ·refine AW.skip ?_
   refine seqQ.norm ?_
   refine AW.bseq ?_
   refine AW.rseq ?_
   try simp only[wm,wmd,↓wk,↓wl,nq,evV,↓reduceIte,sevalprocAttr]
   refine evTs_sat H (by rfl) (by rfl) ?_<;>clear H<;>intro x2 H
   try simp only[wm,wmd,↓wk,↓wl,nq,evV,↓reduceIte,sevalprocAttr]
   refine evTs_ifg H (by rfl) ?_ ?_<;>clear H<;>intro H
   ·try simp only[wm,wmd,↓wk,↓wl,nq,evV,↓reduceIte,sevalprocAttr]
    refine AW.ift (by rfl) ?_
    refine AW.rseq ?_
    try simp only[wm,wmd,↓wk,↓wl,nq,evV,↓reduceIte,sevalprocAttr]
    refine AW.ret ?_
    refine blkQ.ret ?_
    refine loopQ.ret H ?_<;>clear H<;>intro H
    try dsimp only at H
    refine blk0.ret ?_
    refine seqQ.ret ?_
    cases H
    exact hQ _ _ _ _ (.inr rfl) (by simp only[resVs,omap,resV,wm,wmd,↓wk,↓wl,nq,evV,↓reduceIte,sevalprocAttr];rfl) (hand_plain (by rfl)) (by first | exact Or.inl rfl | exact Or.inr rfl)
   ·try simp only[wm,wmd,↓wk,↓wl,nq,evV,↓reduceIte,sevalprocAttr]
    refine evTs_sat H (by rfl) (by rfl) ?_<;>clear H<;>intro x3 H
    try simp only[wm,wmd,↓wk,↓wl,nq,evV,↓reduceIte,sevalprocAttr]
    refine AW.ifc H (by rfl) ?_ ?_<;>clear H<;>intro H
    ·refine AW.rseq ?_
     try simp only[wm,wmd,↓wk,↓wl,nq,evV,↓reduceIte,sevalprocAttr]
     refine AW.ret ?_
     refine blkQ.ret ?_
     refine loopQ.ret H ?_<;>clear H<;>intro H
     try dsimp only at H
     refine blk0.ret ?_
     refine seqQ.ret ?_
     cases H
     exact hQ _ _ _ _ (.inr rfl) (by simp only[resVs,omap,resV,wm,wmd,↓wk,↓wl,nq,evV,↓reduceIte,sevalprocAttr];rfl) (hand_plain (by rfl)) (by first | exact Or.inl rfl | exact Or.inr rfl)
    ·refine AW.skip ?_
     refine blkQ.norm ?_
     refine AW.rend ?_
     try simp only[wm,wmd,↓wk,↓wl,nq,evV,↓reduceIte,sevalprocAttr]
     exact loopQ.next H ((Le.tz [] [0,3] (by simp only[f41_L1c,wm,wmr,rrm,↓wk,↓wl,evV,↓reduceIte,sevalprocAttr]<;>rfl)))
  ·refine AW.exit ?_
   refine seqQ.exit ?_
   refine loopQ.exit H ?_<;>clear H<;>intro H
   try dsimp only at H
   refine blk0.here ?_
   refine seqQ.norm ?_
   refine AW.rseq ?_
   try simp only[wm,wmd,↓wk,↓wl,nq,evV,↓reduceIte,sevalprocAttr]
   refine AW.ret ?_
   cases H
   exact hQ _ _ _ _ (.inr rfl) (by simp only[resVs,omap,resV,wm,wmd,↓wk,↓wl,nq,evV,↓reduceIte,sevalprocAttr];rfl) (hand_plain (by rfl)) (by first | exact Or.inl rfl | exact Or.inr rfl)
def c22_0:C:=.cond (.t 25) (.seq (.reg [iI 2 (.mv (.c (.int .i64 2)))]) .ret) (.skip)
def c22_1:C:=.cond (.t 30) (.seq (.reg [iI 31 (.mv (.t 3)),iI 2 (.mv (.t 31))]) .ret) (.skip)
def c22_2:C:=.seq (.reg [iI 29 (.mv (.t 3)),iI 30 (.bin .neq (.t 29) (.c (.int .i64 0)))]) c22_1
def c22_3:C:=.cond (.t 39) (.seq (.reg [iI 2 (.mv (.c (.int .i64 2)))]) .ret) (.skip)
def c22_4:C:=.seq (.reg [iI 2 (.mv (.c (.int .i64 0)))]) .ret
def c22_5:C:=.seq (.seq (.reg [iI 32 (.faddr 4 (.t 1)),iI 33 (.load 0 (.t 32)),iI 34 (.bin .lss (.t 33) (.c (.int .i64 0))),iI 35 (.mv (.t 34)),iG (some 36) 35 false (.faddr 4 (.t 1)),iG (some 37) 35 false (.load 0 (.t 36)),iG (some 38) 35 false (.bin .gtr (.t 37) (.c (.int .i64 4294967295))),iI 39 (.pick (.t 35) (.c (.bool true)) (.t 38))]) c22_3) c22_4
def c22_6:C:=.seq (.seq (.reg [iI 26 (.faddr 3 (.t 1)),iI 27 (.load 0 (.t 26)),iI 28 (.call (.c (.fn 41 [])) [(.t 27)]),iI 3 (.mv (.t 28))]) c22_2) c22_5
def c22_7:C:=.seq (.seq (.reg [iI 4 (.faddr 0 (.t 1)),iI 5 (.load 0 (.t 4)),iI 6 (.call (.c (.fn 5 [])) [(.t 5)]),iI 7 (.un .not (.t 6)),iI 8 (.mv (.t 7)),iG (some 9) 8 false (.faddr 1 (.t 1)),iG (some 10) 8 false (.load 0 (.t 9)),iG (some 11) 8 false (.bin .lss (.t 10) (.c (.int .i64 1))),iI 12 (.pick (.t 8) (.c (.bool true)) (.t 11)),iI 13 (.mv (.t 12)),iG (some 14) 13 false (.faddr 1 (.t 1)),iG (some 15) 13 false (.load 0 (.t 14)),iG (some 16) 13 false (.bin .gtr (.t 15) (.c (.int .i64 512))),iI 17 (.pick (.t 13) (.c (.bool true)) (.t 16)),iI 18 (.mv (.t 17)),iG (some 19) 18 false (.faddr 2 (.t 1)),iG (some 20) 18 false (.load 0 (.t 19)),iG (some 21) 18 false (.faddr 1 (.t 1)),iG (some 22) 18 false (.load 0 (.t 21)),iG (some 23) 18 false (.call (.c (.fn 40 [])) [(.t 20),(.t 22)]),iG (some 24) 18 false (.un .not (.t 23)),iI 25 (.pick (.t 18) (.c (.bool true)) (.t 24))]) c22_0) c22_6
def ir22:C:=.seq (.reg [iI 1 (.box (.t 0)),iI 2 (.mv (.c (.int .i64 0)))]) c22_7
theorem fd22:fd? Tryz.prog 22=some (40,[.slot 2],ir22):=by kernel_rfl
noncomputable def f22(x0:Ref47Device):Option (Int) :=
  (f5 x0.fIdentity).bind fun x1=>(if (!x1)=true then (some 2) else (if (decide (x0.fFootprint<1))=true then (some 2) else (if (decide (512<x0.fFootprint))=true then (some 2) else (f40 x0.fAddress x0.fFootprint).bind fun x2=>(if (!x2)=true then (some 2) else (f41 x0.fLabel).bind fun x3=>(if (decide (x3≠0))=true then (some x3) else (if (decide (x0.fHours<0))=true then (some 2) else (if (decide (4294967295<x0.fHours))=true then (some 2) else (some 0))))))))
theorem f22_ok{x0:Ref47Device}{r_:Int}(H:f22 x0=some r_):Pure Tryz.prog 22 [.agg [.int .u64 x0.fIdentity,.int .i64 x0.fFootprint,.int .i64 x0.fAddress,.str x0.fLabel,.int .i64 x0.fHours,.bool x0.fMuted,.bool x0.fIdentify]] (· = .int .i64 r_):=by
 refine Pure.walk3 fd22 none (Nat.le_of_ble_eq_true rfl) (by rfl) fun Q hQ=>?_
 simp only[f22] at H
 refine AW.rseq ?_
 try simp only[wm,wmd,↓wk,↓wl,nq,evV,↓reduceIte,sevalprocAttr]
 refine AW.sseq ?_
 refine AW.rseq ?_
 try simp only[wm,wmd,↓wk,↓wl,nq,evV,↓reduceIte,sevalprocAttr]
 refine evTs_pure hFn H (fun _ h=>f5_ok h) (by rfl) (by rfl) (by rfl) (by rfl) (fun _=>rfl) ?_<;>clear H<;>intro x1 H
 try simp only[eL,wm,wmd,↓wk,↓wl,nq,evV,↓reduceIte,sevalprocAttr]
 refine evTs_ifg H (by rfl) ?_ ?_<;>clear H<;>intro H
 ·try simp only[wm,wmd,↓wk,↓wl,nq,evV,↓reduceIte,sevalprocAttr]
  refine AW.ift (by rfl) ?_
  refine AW.rseq ?_
  try simp only[wm,wmd,↓wk,↓wl,nq,evV,↓reduceIte,sevalprocAttr]
  refine AW.ret ?_
  refine seqQ.ret ?_
  cases H
  exact hQ _ _ _ _ (.inr rfl) (by simp only[resVs,omap,resV,wm,wmd,↓wk,↓wl,nq,evV,↓reduceIte,sevalprocAttr];rfl) (hand_plain (by rfl)) (by first | exact Or.inl rfl | exact Or.inr rfl)
 ·try simp only[wm,wmd,↓wk,↓wl,nq,evV,↓reduceIte,sevalprocAttr]
  refine evTs_ifg H (by rfl) ?_ ?_<;>clear H<;>intro H
  ·try simp only[wm,wmd,↓wk,↓wl,nq,evV,↓reduceIte,sevalprocAttr]
   refine AW.ift (by rfl) ?_
   refine AW.rseq ?_
   try simp only[wm,wmd,↓wk,↓wl,nq,evV,↓reduceIte,sevalprocAttr]
   refine AW.ret ?_
   refine seqQ.ret ?_
   cases H
   exact hQ _ _ _ _ (.inr rfl) (by simp only[resVs,omap,resV,wm,wmd,↓wk,↓wl,nq,evV,↓reduceIte,sevalprocAttr];rfl) (hand_plain (by rfl)) (by first | exact Or.inl rfl | exact Or.inr rfl)
  ·try simp only[wm,wmd,↓wk,↓wl,nq,evV,↓reduceIte,sevalprocAttr]
   refine evTs_ifg H (by rfl) ?_ ?_<;>clear H<;>intro H
   ·try simp only[wm,wmd,↓wk,↓wl,nq,evV,↓reduceIte,sevalprocAttr]
    refine AW.ift (by rfl) ?_
    refine AW.rseq ?_
    try simp only[wm,wmd,↓wk,↓wl,nq,evV,↓reduceIte,sevalprocAttr]
    refine AW.ret ?_
    refine seqQ.ret ?_
    cases H
    exact hQ _ _ _ _ (.inr rfl) (by simp only[resVs,omap,resV,wm,wmd,↓wk,↓wl,nq,evV,↓reduceIte,sevalprocAttr];rfl) (hand_plain (by rfl)) (by first | exact Or.inl rfl | exact Or.inr rfl)
   ·try simp only[wm,wmd,↓wk,↓wl,nq,evV,↓reduceIte,sevalprocAttr]
    refine evTs_pure hFn H (fun _ h=>f40_ok h) (by rfl) (by rfl) (by rfl) (by rfl) (fun _=>rfl) ?_<;>clear H<;>intro x2 H
    try simp only[eL,wm,wmd,↓wk,↓wl,nq,evV,↓reduceIte,sevalprocAttr]
    refine AW.ifc H (by rfl) ?_ ?_<;>clear H<;>intro H
    ·refine AW.rseq ?_
     try simp only[wm,wmd,↓wk,↓wl,nq,evV,↓reduceIte,sevalprocAttr]
     refine AW.ret ?_
     refine seqQ.ret ?_
     cases H
     exact hQ _ _ _ _ (.inr rfl) (by simp only[resVs,omap,resV,wm,wmd,↓wk,↓wl,nq,evV,↓reduceIte,sevalprocAttr];rfl) (hand_plain (by rfl)) (by first | exact Or.inl rfl | exact Or.inr rfl)
    ·refine AW.skip ?_
     refine seqQ.norm ?_
     refine AW.sseq ?_
     refine AW.rseq ?_
     try simp only[wm,wmd,↓wk,↓wl,nq,evV,↓reduceIte,sevalprocAttr]
     refine evTs_pure hFn H (fun _ h=>f41_ok h) (by rfl) (by rfl) (by rfl) (by rfl) (fun _=>rfl) ?_<;>clear H<;>intro x3 H
     try simp only[eL,wm,wmd,↓wk,↓wl,nq,evV,↓reduceIte,sevalprocAttr]
     refine AW.rseq ?_
     try simp only[wm,wmd,↓wk,↓wl,nq,evV,↓reduceIte,sevalprocAttr]
     refine AW.ifc H (by rfl) ?_ ?_<;>clear H<;>intro H
     ·refine AW.rseq ?_
      try simp only[wm,wmd,↓wk,↓wl,nq,evV,↓reduceIte,sevalprocAttr]
      refine AW.ret ?_
      refine seqQ.ret ?_
      cases H
      exact hQ _ _ _ _ (.inr rfl) (by simp only[resVs,omap,resV,wm,wmd,↓wk,↓wl,nq,evV,↓reduceIte,sevalprocAttr];rfl) (hand_plain (by rfl)) (by first | exact Or.inl rfl | exact Or.inr rfl)
     ·refine AW.skip ?_
      refine seqQ.norm ?_
      refine AW.sseq ?_
      refine AW.rseq ?_
      try simp only[wm,wmd,↓wk,↓wl,nq,evV,↓reduceIte,sevalprocAttr]
      refine evTs_ifg H (by rfl) ?_ ?_<;>clear H<;>intro H
      ·try simp only[wm,wmd,↓wk,↓wl,nq,evV,↓reduceIte,sevalprocAttr]
       refine AW.ift (by rfl) ?_
       refine AW.rseq ?_
       try simp only[wm,wmd,↓wk,↓wl,nq,evV,↓reduceIte,sevalprocAttr]
       refine AW.ret ?_
       refine seqQ.ret ?_
       cases H
       exact hQ _ _ _ _ (.inr rfl) (by simp only[resVs,omap,resV,wm,wmd,↓wk,↓wl,nq,evV,↓reduceIte,sevalprocAttr];rfl) (hand_plain (by rfl)) (by first | exact Or.inl rfl | exact Or.inr rfl)
      ·try simp only[wm,wmd,↓wk,↓wl,nq,evV,↓reduceIte,sevalprocAttr]
       refine AW.ifc H (by rfl) ?_ ?_<;>clear H<;>intro H
       ·refine AW.rseq ?_
        try simp only[wm,wmd,↓wk,↓wl,nq,evV,↓reduceIte,sevalprocAttr]
        refine AW.ret ?_
        refine seqQ.ret ?_
        cases H
        exact hQ _ _ _ _ (.inr rfl) (by simp only[resVs,omap,resV,wm,wmd,↓wk,↓wl,nq,evV,↓reduceIte,sevalprocAttr];rfl) (hand_plain (by rfl)) (by first | exact Or.inl rfl | exact Or.inr rfl)
       ·refine AW.skip ?_
        refine seqQ.norm ?_
        refine AW.rseq ?_
        try simp only[wm,wmd,↓wk,↓wl,nq,evV,↓reduceIte,sevalprocAttr]
        refine AW.ret ?_
        cases H
        exact hQ _ _ _ _ (.inr rfl) (by simp only[resVs,omap,resV,wm,wmd,↓wk,↓wl,nq,evV,↓reduceIte,sevalprocAttr];rfl) (hand_plain (by rfl)) (by first | exact Or.inl rfl | exact Or.inr rfl)
noncomputable def f12_L2(x0:Int)(x1:(List Ref47Device)):Lp (Int) ((Unit)⊕(Unit)) where
  body:=fun x2=>(if (decide (x2<x0))=true then (at? x1 x2).bind fun x3=>(at? x1 x0).bind fun x4=>(if (decide (x3.fIdentity=x4.fIdentity))=true then (some (.brk (Sum.inr ()))) else (some (.next (IntKind.i64.wrap (x2 + 1))))) else (some (.brk (Sum.inl ()))))
  cst:=fun x2=>⟨put (put (put (fun _=>.junk) 5 (.int .i64 x2)) 3 (.int .i64 x0)) 0 (.sl 7 false (x1.map eRef47Device)),[]⟩
theorem f12_L2c(x0:Int)(x1:(List Ref47Device))(x2:Int):(f12_L2 x0 x1).cst x2=⟨put (put (put (fun _=>.junk) 5 (.int .i64 x2)) 3 (.int .i64 x0)) 0 (.sl 7 false (x1.map eRef47Device)),[]⟩:=rfl
noncomputable def f12_L1(x0:(List Ref47Device)):Lp (Int) ((Unit)⊕(Int)) where
  body:=fun x1=>(if (decide (x1<((x0.length:Nat):Int)))=true then (at? x0 x1).bind fun x2=>(f22 x2).bind fun x3=>(if (decide (x3≠0))=true then (some (.brk (Sum.inr x3))) else ((Lp.run (f12_L2 x1 x0) 0).bind fun r_=>match r_ with | (Sum.inl _)=>(some (.next (IntKind.i64.wrap (x1 + 1)))) | (Sum.inr _)=>(some (.brk (Sum.inr 7))))) else (some (.brk (Sum.inl ()))))
  cst:=fun x1=>⟨put (put (fun _=>.junk) 3 (.int .i64 x1)) 0 (.sl 7 false (x0.map eRef47Device)),[]⟩
theorem f12_L1c(x0:(List Ref47Device))(x1:Int):(f12_L1 x0).cst x1=⟨put (put (fun _=>.junk) 3 (.int .i64 x1)) 0 (.sl 7 false (x0.map eRef47Device)),[]⟩:=rfl
def c12_0:C:=.cond (.t 8) (.seq (.reg [iI 2 (.mv (.c (.int .i64 5)))]) .ret) (.skip)
def c12_1:C:=.cond (.t 12) (.skip) (.exit 0)
def c12_2:C:=.cond (.t 21) (.seq (.reg [iI 22 (.mv (.t 4)),iI 2 (.mv (.t 22))]) .ret) (.skip)
def c12_3:C:=.seq (.reg [iI 20 (.mv (.t 4)),iI 21 (.bin .neq (.t 20) (.c (.int .i64 0)))]) c12_2
def c12_4:C:=.cond (.t 25) (.skip) (.exit 2)
def c12_5:C:=.cond (.t 38) (.seq (.reg [iI 2 (.mv (.c (.int .i64 7)))]) .ret) (.skip)
def c12_6:C:=.reg [iI 26 (.mv (.t 5)),iI 27 (.bin .add (.t 26) (.c (.int .i64 1))),iI 5 (.mv (.t 27))]
def c12_7:C:=.seq (.block 3 (.seq (.reg [iI 28 (.mv (.t 0)),iI 29 (.mv (.t 5)),iI 30 (.iaddr 7 (.t 28) (.t 29)),iI 31 (.faddr 0 (.t 30)),iI 32 (.load 0 (.t 31)),iI 33 (.mv (.t 0)),iI 34 (.mv (.t 3)),iI 35 (.iaddr 7 (.t 33) (.t 34)),iI 36 (.faddr 0 (.t 35)),iI 37 (.load 0 (.t 36)),iI 38 (.bin .eql (.t 32) (.t 37))]) c12_5)) c12_6
def c12_8:C:=.block 2 (.loop (.seq (.seq (.reg [iI 23 (.mv (.t 5)),iI 24 (.mv (.t 3)),iI 25 (.bin .lss (.t 23) (.t 24))]) c12_4) c12_7))
def c12_9:C:=.seq (.reg [iI 5 (.mv (.c (.int .i64 0)))]) c12_8
def c12_10:C:=.reg [iI 13 (.mv (.t 3)),iI 14 (.bin .add (.t 13) (.c (.int .i64 1))),iI 3 (.mv (.t 14))]
def c12_11:C:=.seq (.block 1 (.seq (.seq (.reg [iI 15 (.mv (.t 0)),iI 16 (.mv (.t 3)),iI 17 (.iaddr 7 (.t 15) (.t 16)),iI 18 (.load 7 (.t 17)),iI 19 (.call (.c (.fn 22 [])) [(.t 18)]),iI 4 (.mv (.t 19))]) c12_3) c12_9)) c12_10
def c12_12:C:=.block 0 (.loop (.seq (.seq (.reg [iI 9 (.mv (.t 3)),iI 10 (.mv (.t 0)),iI 11 (.len 0 (.t 10)),iI 12 (.bin .lss (.t 9) (.t 11))]) c12_1) c12_11))
def c12_13:C:=.seq (.reg [iI 2 (.mv (.c (.int .i64 0)))]) .ret
def c12_14:C:=.seq (.seq (.reg [iI 3 (.mv (.c (.int .i64 0)))]) c12_12) c12_13
def c12_15:C:=.seq (.seq (.reg [iI 6 (.mv (.t 0)),iI 7 (.len 0 (.t 6)),iI 8 (.bin .gtr (.t 7) (.c (.int .i64 64)))]) c12_0) c12_14
def ir12:C:=.seq (.reg [iI 2 (.mv (.c (.int .i64 0)))]) c12_15
theorem fd12:fd? Tryz.prog 12=some (39,[.slot 2],ir12):=by kernel_rfl
noncomputable def f12(x0:(List Ref47Device)):Option (Int) :=
  (if (decide (64<((x0.length:Nat):Int)))=true then (some 5) else ((Lp.run (f12_L1 x0) 0).bind fun r_=>match r_ with | (Sum.inl _)=>(some 0) | (Sum.inr x1)=>(some x1)))
theorem f12_ok{x0:(List Ref47Device)}{r_:Int}(H:f12 x0=some r_):Pure Tryz.prog 12 [.sl 7 false (x0.map eRef47Device)] (· = .int .i64 r_):=by
 refine Pure.walk3 fd12 none (Nat.le_of_ble_eq_true rfl) (by rfl) fun Q hQ=>?_
 simp only[f12] at H
 refine AW.rseq ?_
 try simp only[wm,wmd,↓wk,↓wl,nq,evV,↓reduceIte,sevalprocAttr]
 refine AW.sseq ?_
 refine AW.rseq ?_
 try simp only[wm,wmd,↓wk,↓wl,nq,evV,↓reduceIte,sevalprocAttr]
 refine AW.ifc H (by rfl) ?_ ?_<;>clear H<;>intro H
 ·refine AW.rseq ?_
  try simp only[wm,wmd,↓wk,↓wl,nq,evV,↓reduceIte,sevalprocAttr]
  refine AW.ret ?_
  refine seqQ.ret ?_
  cases H
  exact hQ _ _ _ _ (.inr rfl) (by simp only[resVs,omap,resV,wm,wmd,↓wk,↓wl,nq,evV,↓reduceIte,sevalprocAttr];rfl) (hand_plain (by rfl)) (by first | exact Or.inl rfl | exact Or.inr rfl)
 ·refine AW.skip ?_
  refine seqQ.norm ?_
  refine AW.sseq ?_
  refine AW.rseq ?_
  try simp only[wm,wmd,↓wk,↓wl,nq,evV,↓reduceIte,sevalprocAttr]
  refine AW.bend ?_
  refine AW.iter H ((Le.tz [] [0,3] (by simp only[f12_L1c,wm,wmr,rrm,↓wk,↓wl,evV,↓reduceIte,sevalprocAttr]<;>rfl))) ?_<;>clear H
  rintro x1 x_ st0_ H hst_
  rw[f12_L1c] at hst_
  simp only[f12_L1] at H
  subst hst_
  refine AW.sseq ?_
  refine AW.rseq ?_
  try simp only[wm,wmd,↓wk,↓wl,nq,evV,↓reduceIte,sevalprocAttr]
  refine AW.ifc H (by rfl) ?_ ?_<;>clear H<;>intro H
  ·refine AW.skip ?_
   refine seqQ.norm ?_
   refine AW.bseq ?_
   refine AW.sseq ?_
   refine AW.rseq ?_
   try simp only[wm,wmd,↓wk,↓wl,nq,evV,↓reduceIte,sevalprocAttr]
   refine evTs_at (enc:=eRef47Device) H (by rfl) (by rfl) ?_<;>clear H<;>intro x2 H
   try simp only[eRef47Device,eL,eM,wm,wmd,↓wk,↓wl,nq,evV,↓reduceIte,sevalprocAttr]
   refine evTs_pure hFn H (fun _ h=>f22_ok h) (by rfl) (by rfl) (by rfl) (by rfl) (fun _=>rfl) ?_<;>clear H<;>intro x3 H
   try simp only[eL,wm,wmd,↓wk,↓wl,nq,evV,↓reduceIte,sevalprocAttr]
   refine AW.rseq ?_
   try simp only[wm,wmd,↓wk,↓wl,nq,evV,↓reduceIte,sevalprocAttr]
   refine AW.ifc H (by rfl) ?_ ?_<;>clear H<;>intro H
   ·refine AW.rseq ?_
    try simp only[wm,wmd,↓wk,↓wl,nq,evV,↓reduceIte,sevalprocAttr]
    refine AW.ret ?_
    refine seqQ.ret ?_
    refine blkQ.ret ?_
    refine loopQ.ret H ?_<;>clear H<;>intro H
    try dsimp only at H
    refine blk0.ret ?_
    refine seqQ.ret ?_
    cases H
    exact hQ _ _ _ _ (.inr rfl) (by simp only[resVs,omap,resV,wm,wmd,↓wk,↓wl,nq,evV,↓reduceIte,sevalprocAttr];rfl) (hand_plain (by rfl)) (by first | exact Or.inl rfl | exact Or.inr rfl)
   ·refine AW.skip ?_
    refine seqQ.norm ?_
    refine AW.rseq ?_
    try simp only[wm,wmd,↓wk,↓wl,nq,evV,↓reduceIte,sevalprocAttr]
    refine AW.bend ?_
    refine AW.iter H ((Le.tz [] [0,3,5] (by simp only[f12_L2c,wm,wmr,rrm,↓wk,↓wl,evV,↓reduceIte,sevalprocAttr]<;>rfl))) ?_<;>clear H
    rintro x4 x_ st0_ H hst_
    rw[f12_L2c] at hst_
    simp only[f12_L2] at H
    subst hst_
    refine AW.sseq ?_
    refine AW.rseq ?_
    try simp only[wm,wmd,↓wk,↓wl,nq,evV,↓reduceIte,sevalprocAttr]
    refine AW.ifc H (by rfl) ?_ ?_<;>clear H<;>intro H
    ·refine AW.skip ?_
     refine seqQ.norm ?_
     refine AW.bseq ?_
     refine AW.rseq ?_
     try simp only[wm,wmd,↓wk,↓wl,nq,evV,↓reduceIte,sevalprocAttr]
     refine evTs_at (enc:=eRef47Device) H (by rfl) (by rfl) ?_<;>clear H<;>intro x5 H
     try simp only[eRef47Device,eL,eM,wm,wmd,↓wk,↓wl,nq,evV,↓reduceIte,sevalprocAttr]
     refine evTs_at (enc:=eRef47Device) H (by rfl) (by rfl) ?_<;>clear H<;>intro x6 H
     try simp only[eRef47Device,eL,eM,wm,wmd,↓wk,↓wl,nq,evV,↓reduceIte,sevalprocAttr]
     refine AW.ifc H (by rfl) ?_ ?_<;>clear H<;>intro H
     ·refine AW.rseq ?_
      try simp only[wm,wmd,↓wk,↓wl,nq,evV,↓reduceIte,sevalprocAttr]
      refine AW.ret ?_
      refine blkQ.ret ?_
      refine loopQ.ret H ?_<;>clear H<;>intro H
      try dsimp only at H
      refine blk0.ret ?_
      refine blkQ.ret ?_
      refine loopQ.ret H ?_<;>clear H<;>intro H
      try dsimp only at H
      refine blk0.ret ?_
      refine seqQ.ret ?_
      cases H
      exact hQ _ _ _ _ (.inr rfl) (by simp only[resVs,omap,resV,wm,wmd,↓wk,↓wl,nq,evV,↓reduceIte,sevalprocAttr];rfl) (hand_plain (by rfl)) (by first | exact Or.inl rfl | exact Or.inr rfl)
     ·refine AW.skip ?_
      refine blkQ.norm ?_
      refine AW.rend ?_
      try simp only[wm,wmd,↓wk,↓wl,nq,evV,↓reduceIte,sevalprocAttr]
      exact loopQ.next H ((Le.tz [] [0,3,5] (by simp only[f12_L2c,wm,wmr,rrm,↓wk,↓wl,evV,↓reduceIte,sevalprocAttr]<;>rfl)))
    ·refine AW.exit ?_
     refine seqQ.exit ?_
     refine loopQ.exit H ?_<;>clear H<;>intro H
     try dsimp only at H
     refine blk0.here ?_
     refine blkQ.norm ?_
     refine AW.rend ?_
     try simp only[wm,wmd,↓wk,↓wl,nq,evV,↓reduceIte,sevalprocAttr]
     exact loopQ.next H ((Le.tz [] [0,3] (by simp only[f12_L1c,wm,wmr,rrm,↓wk,↓wl,evV,↓reduceIte,sevalprocAttr]<;>rfl)))
  ·refine AW.exit ?_
   refine seqQ.exit ?_
   refine loopQ.exit H ?_<;>clear H<;>intro H
   try dsimp only at H
   refine blk0.here ?_
   refine seqQ.norm ?_
   refine AW.rseq ?_
   try simp only[wm,wmd,↓wk,↓wl,nq,evV,↓reduceIte,sevalprocAttr]
   refine AW.ret ?_
   cases H
   exact hQ _ _ _ _ (.inr rfl) (by simp only[resVs,omap,resV,wm,wmd,↓wk,↓wl,nq,evV,↓reduceIte,sevalprocAttr];rfl) (hand_plain (by rfl)) (by first | exact Or.inl rfl | exact Or.inr rfl)
noncomputable def f4_L1(x0:(List ResponderDevice)):Lp (Int×(List Ref47Device)) ((List Ref47Device)) where
  body:=fun (x1,x2)=>(if (decide (x1<((x0.length:Nat):Int)))=true then (at? x0 x1).bind fun x3=>(app? 56 x2 ([(Ref47Device.mk x3.fIdentity x3.fFootprint x3.fAddress x3.fLabel x3.fHours x3.fMuted x3.fIdentify)])).bind fun x4=>(some (.next ((IntKind.i64.wrap (x1 + 1)),x4))) else (some (.brk x2)))
  cst:=fun (x1,x2)=>⟨put (put (put (put (put (fun _=>.junk) 8 (.int .i64 x1)) 7 (.int .i64 ((x0.length:Nat):Int))) 6 (.sl 7 false (x0.map eResponderDevice))) 3 (.row 7 0 0 x2.length)) 0 (.sl 7 false (x0.map eResponderDevice)),[.els 7 (x2.map eRef47Device)]⟩
theorem f4_L1c(x0:(List ResponderDevice))(x1:Int)(x2:(List Ref47Device)):(f4_L1 x0).cst (x1,x2)=⟨put (put (put (put (put (fun _=>.junk) 8 (.int .i64 x1)) 7 (.int .i64 ((x0.length:Nat):Int))) 6 (.sl 7 false (x0.map eResponderDevice))) 3 (.row 7 0 0 x2.length)) 0 (.sl 7 false (x0.map eResponderDevice)),[.els 7 (x2.map eRef47Device)]⟩:=rfl
def c4_0:C:=.reg [iI 12 (.mv (.t 3)),iI 13 (.load 7 (.t 5)),iI 14 (.mkslp 7 1 (.agg [(.int .u64 0),(.int .i64 0),(.int .i64 0),(.str []),(.int .i64 0),(.bool false),(.bool false)]) [(0,(.t 13))]),iI 15 (.append 7 56 (.t 12) (.t 14)),iI 3 (.mv (.t 15))]
def c4_1:C:=.reg [iI 16 (.bin .add (.t 8) (.c (.int .i64 1))),iI 8 (.mv (.t 16))]
def c4_2:C:=.seq (.block 1 (.seq (.reg [iI 10 (.iaddr 7 (.t 6) (.t 8)),iI 11 (.load 7 (.t 10)),iI 5 (.alloc [(1,(.int .u64 0)),(1,(.int .i64 0)),(1,(.int .i64 0)),(1,(.str [])),(1,(.int .i64 0)),(1,(.bool false)),(1,(.bool false))]),iN (.store 7 (.t 5) (.t 11))]) c4_0)) c4_1
def c4_3:C:=.seq (.cond (.t 9) (.skip) (.exit 0)) c4_2
def c4_4:C:=.block 0 (.loop (.seq (.reg [iI 9 (.bin .lss (.t 8) (.t 7))]) c4_3))
def c4_5:C:=.seq (.reg [iI 17 (.mv (.t 0)),iI 18 (.len 0 (.t 17)),iI 19 (.bin .leq (.t 18) (.c (.int .i64 8))),iI 20 (.mv (.t 19)),iG (some 21) 20 true (.mv (.t 3)),iG (some 22) 20 true (.call (.c (.fn 12 [])) [(.t 21)]),iG (some 23) 20 true (.bin .eql (.t 22) (.c (.int .i64 0))),iI 24 (.pick (.t 20) (.t 23) (.c (.bool false))),iI 2 (.mv (.t 24))]) .ret
def c4_6:C:=.seq (.seq (.reg [iI 6 (.mv (.t 0)),iI 7 (.len 0 (.t 6)),iI 8 (.mv (.c (.int .i64 0)))]) c4_4) c4_5
def c4_7:C:=.seq (.reg [iI 3 (.mv (.c (.sl 7 true [])))]) c4_6
def ir4:C:=.seq (.reg [iI 2 (.mv (.c (.bool false)))]) c4_7
theorem fd4:fd? Tryz.prog 4=some (25,[.slot 2],ir4):=by kernel_rfl
noncomputable def f4(x0:(List ResponderDevice)):Option (Bool) :=
  (Lp.run (f4_L1 x0) (0,[])).bind fun x1=>(if (decide (((x0.length:Nat):Int)≤8))=true then (f12 x1).bind fun x2=>(some (decide (x2=0))) else (some false))
theorem f4_ok{x0:(List ResponderDevice)}{r_:Bool}(H:f4 x0=some r_):Pure Tryz.prog 4 [.sl 7 false (x0.map eResponderDevice)] (· = .bool r_):=by
 refine Pure.walk3 fd4 none (Nat.le_of_ble_eq_true rfl) (by rfl) fun Q hQ=>?_
 simp only[f4] at H
 refine AW.rseq ?_
 try simp only[wm,wmd,↓wk,↓wl,nq,evV,↓reduceIte,sevalprocAttr]
 refine AW.rseq ?_
 try simp only[wm,wmd,↓wk,↓wl,nq,evV,↓reduceIte,sevalprocAttr]
 refine AW.sseq ?_
 refine AW.rseq ?_
 try simp only[wm,wmd,↓wk,↓wl,nq,evV,↓reduceIte,sevalprocAttr]
 refine AW.bend ?_
 refine AW.iter H ((Le.trans (Le.nilRow (i:=3) (e:=7) (by simp only[↓wk,↓wl,nq,evV,↓reduceIte,sevalprocAttr])) (Le.tz [0] [0,3,6,7,8] (by simp only[f4_L1c,wm,wmr,rrm,↓wk,↓wl,evV,↓reduceIte,sevalprocAttr]<;>rfl)))) ?_<;>clear H
 rintro ⟨x1,x2⟩ x_ st0_ H hst_
 rw[f4_L1c] at hst_
 simp only[f4_L1] at H
 subst hst_
 refine AW.rseq ?_
 try simp only[wm,wmd,↓wk,↓wl,nq,evV,↓reduceIte,sevalprocAttr]
 refine AW.sseq ?_
 refine AW.ifc H (by rfl) ?_ ?_<;>clear H<;>intro H
 ·refine AW.skip ?_
  refine seqQ.norm ?_
  refine AW.bseq ?_
  refine AW.rseq ?_
  try simp only[wm,wmd,↓wk,↓wl,nq,evV,↓reduceIte,sevalprocAttr]
  refine evTs_at (enc:=eResponderDevice) H (by rfl) (by rfl) ?_<;>clear H<;>intro x3 H
  try simp only[eResponderDevice,eL,eM,wm,wmd,↓wk,↓wl,nq,evV,↓reduceIte,sevalprocAttr]
  refine AW.rend ?_
  try simp only[wm,wmd,↓wk,↓wl,nq,evV,↓reduceIte,sevalprocAttr]
  refine evTs_app (enc:=eRef47Device) H (by rfl) (by first | rfl | simp only[List.length_set]) (by rfl) (by rfl) ?_<;>clear H<;>intro x4 H
  try simp only[wm,wmd,↓wk,↓wl,nq,evV,↓reduceIte,sevalprocAttr]
  refine blkQ.norm ?_
  refine AW.rend ?_
  try simp only[wm,wmd,↓wk,↓wl,nq,evV,↓reduceIte,sevalprocAttr]
  exact loopQ.next H ((Le.tz [2] [0,3,6,7,8] (by simp only[f4_L1c,wm,wmr,rrm,↓wk,↓wl,evV,↓reduceIte,sevalprocAttr]<;>rfl)))
 ·refine AW.exit ?_
  refine seqQ.exit ?_
  refine loopQ.exit H ?_<;>clear H<;>intro H
  try dsimp only at H
  refine blk0.here ?_
  refine seqQ.norm ?_
  refine AW.rseq ?_
  try simp only[wm,wmd,↓wk,↓wl,nq,evV,↓reduceIte,sevalprocAttr]
  refine evTs_ifg H (by rfl) ?_ ?_<;>clear H<;>intro H
  ·try simp only[wm,wmd,↓wk,↓wl,nq,evV,↓reduceIte,sevalprocAttr]
   refine evTs_flat hFn H (fun _ h=>f12_ok h) (by rfl) (by rfl) (by simp only[deep_eq,imm_simps,imm_rowE,imm_ptrE,imm_enc,imm_mrefE,imm_mpE,imm_arowE,omap_simps,take_map_len,take_map_set,take_map_set2,List.length_set,le_refl_true,Nat.zero_add,and_true,true_and,List.drop_zero,Option.map_some,wm,wmd,↓wk,↓wl,nq,evV,↓reduceIte,sevalprocAttr];rfl) (by rfl) (fun _=>rfl) (fun _=>rfl) ?_<;>clear H<;>intro x5 H
   try simp only[eL,wm,wmd,↓wk,↓wl,nq,evV,↓reduceIte,sevalprocAttr]
   refine AW.ret ?_
   cases H
   exact hQ _ _ _ _ (.inr rfl) (by simp only[resVs,omap,resV,wm,wmd,↓wk,↓wl,nq,evV,↓reduceIte,sevalprocAttr];rfl) (hand_plain (by rfl)) (by first | exact Or.inl rfl | exact Or.inr rfl)
  ·try simp only[wm,wmd,↓wk,↓wl,nq,evV,↓reduceIte,sevalprocAttr]
   refine AW.ret ?_
   cases H
   exact hQ _ _ _ _ (.inr rfl) (by simp only[resVs,omap,resV,wm,wmd,↓wk,↓wl,nq,evV,↓reduceIte,sevalprocAttr];rfl) (hand_plain (by rfl)) (by first | exact Or.inl rfl | exact Or.inr rfl)
def c98_0:C:=.seq (.reg [iI 0 (.mv (.c (.str [204,1])))]) .ret
def ir98:C:=.seq (.reg [iI 0 (.mv (.c (.str [])))]) c98_0
theorem fd98:fd? Tryz.prog 98=some (1,[.slot 0],ir98):=by kernel_rfl
noncomputable def f98:Option ((List UInt8)) :=
  (some [204,1])
theorem f98_ok{r_:(List UInt8)}(H:f98=some r_):Pure Tryz.prog 98 [] (· = .str r_):=by
 refine Pure.walk3 fd98 none (Nat.le_of_ble_eq_true rfl) (by rfl) fun Q hQ=>?_
 simp only[f98] at H
 refine AW.rseq ?_
 try simp only[wm,wmd,↓wk,↓wl,nq,evV,↓reduceIte,sevalprocAttr]
 refine AW.rseq ?_
 try simp only[wm,wmd,↓wk,↓wl,nq,evV,↓reduceIte,sevalprocAttr]
 refine AW.ret ?_
 cases H
 exact hQ _ _ _ _ (.inr rfl) (by simp only[resVs,omap,resV,wm,wmd,↓wk,↓wl,nq,evV,↓reduceIte,sevalprocAttr];rfl) (hand_plain (by rfl)) (by first | exact Or.inl rfl | exact Or.inr rfl)
def c99_0:C:=.seq (.reg [iI 2 (.faddr 0 (.t 0)),iI 3 (.load 0 (.t 2)),iI 4 (.call (.c (.fn 83 [])) [(.t 3),(.c (.int .i64 6))]),iI 1 (.mv (.t 4))]) .ret
def ir99:C:=.seq (.reg [iI 1 (.mv (.c (.str [])))]) c99_0
theorem fd99:fd? Tryz.prog 99=some (5,[.slot 1],ir99):=by kernel_rfl
noncomputable def f99p(x0:Int)(x1:Int)(x2:Int)(x3:Int)(x4:Int)(x5:(List UInt8)):Option ((List UInt8)) :=
  (f83 x0 6).bind fun x6=>(some x6)
theorem f99p_ok{x0:Int}{x1:Int}{x2:Int}{x3:Int}{x4:Int}{x5:(List UInt8)}{r_:(List UInt8)}(H:f99p x0 x1 x2 x3 x4 x5=some r_):Pure Tryz.prog 99 [.pro [.int .u64 x0,.int .u64 x1,.int .i64 x2,.int .i64 x3,.int .i64 x4,.str x5]] (· = .str r_):=by
 refine Pure.walk3 fd99 none (Nat.le_of_ble_eq_true rfl) (by rfl) fun Q hQ=>?_
 simp only[f99p] at H
 refine AW.rseq ?_
 try simp only[wm,wmd,↓wk,↓wl,nq,evV,↓reduceIte,sevalprocAttr]
 refine AW.rseq ?_
 try simp only[wm,wmd,↓wk,↓wl,nq,evV,↓reduceIte,sevalprocAttr]
 refine evTs_pure hFn H (fun _ h=>f83_ok h) (by rfl) (by rfl) (by rfl) (by rfl) (fun _=>rfl) ?_<;>clear H<;>intro x6 H
 try simp only[eL,wm,wmd,↓wk,↓wl,nq,evV,↓reduceIte,sevalprocAttr]
 refine AW.ret ?_
 cases H
 exact hQ _ _ _ _ (.inr rfl) (by simp only[resVs,omap,resV,wm,wmd,↓wk,↓wl,nq,evV,↓reduceIte,sevalprocAttr];rfl) (hand_plain (by rfl)) (by first | exact Or.inl rfl | exact Or.inr rfl)
def c100_0:C:=.seq (.reg [iI 2 (.faddr 1 (.t 0)),iI 3 (.load 0 (.t 2)),iI 4 (.call (.c (.fn 83 [])) [(.t 3),(.c (.int .i64 6))]),iI 1 (.mv (.t 4))]) .ret
def ir100:C:=.seq (.reg [iI 1 (.mv (.c (.str [])))]) c100_0
theorem fd100:fd? Tryz.prog 100=some (5,[.slot 1],ir100):=by kernel_rfl
noncomputable def f100p(x0:Int)(x1:Int)(x2:Int)(x3:Int)(x4:Int)(x5:(List UInt8)):Option ((List UInt8)) :=
  (f83 x1 6).bind fun x6=>(some x6)
theorem f100p_ok{x0:Int}{x1:Int}{x2:Int}{x3:Int}{x4:Int}{x5:(List UInt8)}{r_:(List UInt8)}(H:f100p x0 x1 x2 x3 x4 x5=some r_):Pure Tryz.prog 100 [.pro [.int .u64 x0,.int .u64 x1,.int .i64 x2,.int .i64 x3,.int .i64 x4,.str x5]] (· = .str r_):=by
 refine Pure.walk3 fd100 none (Nat.le_of_ble_eq_true rfl) (by rfl) fun Q hQ=>?_
 simp only[f100p] at H
 refine AW.rseq ?_
 try simp only[wm,wmd,↓wk,↓wl,nq,evV,↓reduceIte,sevalprocAttr]
 refine AW.rseq ?_
 try simp only[wm,wmd,↓wk,↓wl,nq,evV,↓reduceIte,sevalprocAttr]
 refine evTs_pure hFn H (fun _ h=>f83_ok h) (by rfl) (by rfl) (by rfl) (by rfl) (fun _=>rfl) ?_<;>clear H<;>intro x6 H
 try simp only[eL,wm,wmd,↓wk,↓wl,nq,evV,↓reduceIte,sevalprocAttr]
 refine AW.ret ?_
 cases H
 exact hQ _ _ _ _ (.inr rfl) (by simp only[resVs,omap,resV,wm,wmd,↓wk,↓wl,nq,evV,↓reduceIte,sevalprocAttr];rfl) (hand_plain (by rfl)) (by first | exact Or.inl rfl | exact Or.inr rfl)
def c101_0:C:=.seq (.reg [iI 2 (.faddr 2 (.t 0)),iI 3 (.load 0 (.t 2)),iI 4 (.cint .u64 (.t 3)),iI 5 (.call (.c (.fn 83 [])) [(.t 4),(.c (.int .i64 1))]),iI 1 (.mv (.t 5))]) .ret
def ir101:C:=.seq (.reg [iI 1 (.mv (.c (.str [])))]) c101_0
theorem fd101:fd? Tryz.prog 101=some (6,[.slot 1],ir101):=by kernel_rfl
noncomputable def f101p(x0:Int)(x1:Int)(x2:Int)(x3:Int)(x4:Int)(x5:(List UInt8)):Option ((List UInt8)) :=
  (f83 (IntKind.u64.wrap x2) 1).bind fun x6=>(some x6)
theorem f101p_ok{x0:Int}{x1:Int}{x2:Int}{x3:Int}{x4:Int}{x5:(List UInt8)}{r_:(List UInt8)}(H:f101p x0 x1 x2 x3 x4 x5=some r_):Pure Tryz.prog 101 [.pro [.int .u64 x0,.int .u64 x1,.int .i64 x2,.int .i64 x3,.int .i64 x4,.str x5]] (· = .str r_):=by
 refine Pure.walk3 fd101 none (Nat.le_of_ble_eq_true rfl) (by rfl) fun Q hQ=>?_
 simp only[f101p] at H
 refine AW.rseq ?_
 try simp only[wm,wmd,↓wk,↓wl,nq,evV,↓reduceIte,sevalprocAttr]
 refine AW.rseq ?_
 try simp only[wm,wmd,↓wk,↓wl,nq,evV,↓reduceIte,sevalprocAttr]
 refine evTs_pure hFn H (fun _ h=>f83_ok h) (by rfl) (by rfl) (by rfl) (by rfl) (fun _=>rfl) ?_<;>clear H<;>intro x6 H
 try simp only[eL,wm,wmd,↓wk,↓wl,nq,evV,↓reduceIte,sevalprocAttr]
 refine AW.ret ?_
 cases H
 exact hQ _ _ _ _ (.inr rfl) (by simp only[resVs,omap,resV,wm,wmd,↓wk,↓wl,nq,evV,↓reduceIte,sevalprocAttr];rfl) (hand_plain (by rfl)) (by first | exact Or.inl rfl | exact Or.inr rfl)
def c102_0:C:=.seq (.reg [iI 2 (.faddr 3 (.t 0)),iI 3 (.load 0 (.t 2)),iI 4 (.cint .u64 (.t 3)),iI 5 (.call (.c (.fn 83 [])) [(.t 4),(.c (.int .i64 1))]),iI 1 (.mv (.t 5))]) .ret
def ir102:C:=.seq (.reg [iI 1 (.mv (.c (.str [])))]) c102_0
theorem fd102:fd? Tryz.prog 102=some (6,[.slot 1],ir102):=by kernel_rfl
noncomputable def f102p(x0:Int)(x1:Int)(x2:Int)(x3:Int)(x4:Int)(x5:(List UInt8)):Option ((List UInt8)) :=
  (f83 (IntKind.u64.wrap x3) 1).bind fun x6=>(some x6)
theorem f102p_ok{x0:Int}{x1:Int}{x2:Int}{x3:Int}{x4:Int}{x5:(List UInt8)}{r_:(List UInt8)}(H:f102p x0 x1 x2 x3 x4 x5=some r_):Pure Tryz.prog 102 [.pro [.int .u64 x0,.int .u64 x1,.int .i64 x2,.int .i64 x3,.int .i64 x4,.str x5]] (· = .str r_):=by
 refine Pure.walk3 fd102 none (Nat.le_of_ble_eq_true rfl) (by rfl) fun Q hQ=>?_
 simp only[f102p] at H
 refine AW.rseq ?_
 try simp only[wm,wmd,↓wk,↓wl,nq,evV,↓reduceIte,sevalprocAttr]
 refine AW.rseq ?_
 try simp only[wm,wmd,↓wk,↓wl,nq,evV,↓reduceIte,sevalprocAttr]
 refine evTs_pure hFn H (fun _ h=>f83_ok h) (by rfl) (by rfl) (by rfl) (by rfl) (fun _=>rfl) ?_<;>clear H<;>intro x6 H
 try simp only[eL,wm,wmd,↓wk,↓wl,nq,evV,↓reduceIte,sevalprocAttr]
 refine AW.ret ?_
 cases H
 exact hQ _ _ _ _ (.inr rfl) (by simp only[resVs,omap,resV,wm,wmd,↓wk,↓wl,nq,evV,↓reduceIte,sevalprocAttr];rfl) (hand_plain (by rfl)) (by first | exact Or.inl rfl | exact Or.inr rfl)
def c103_0:C:=.seq (.reg [iI 2 (.faddr 4 (.t 0)),iI 3 (.load 0 (.t 2)),iI 4 (.cint .u64 (.t 3)),iI 5 (.call (.c (.fn 83 [])) [(.t 4),(.c (.int .i64 2))]),iI 1 (.mv (.t 5))]) .ret
def ir103:C:=.seq (.reg [iI 1 (.mv (.c (.str [])))]) c103_0
theorem fd103:fd? Tryz.prog 103=some (6,[.slot 1],ir103):=by kernel_rfl
noncomputable def f103p(x0:Int)(x1:Int)(x2:Int)(x3:Int)(x4:Int)(x5:(List UInt8)):Option ((List UInt8)) :=
  (f83 (IntKind.u64.wrap x4) 2).bind fun x6=>(some x6)
theorem f103p_ok{x0:Int}{x1:Int}{x2:Int}{x3:Int}{x4:Int}{x5:(List UInt8)}{r_:(List UInt8)}(H:f103p x0 x1 x2 x3 x4 x5=some r_):Pure Tryz.prog 103 [.pro [.int .u64 x0,.int .u64 x1,.int .i64 x2,.int .i64 x3,.int .i64 x4,.str x5]] (· = .str r_):=by
 refine Pure.walk3 fd103 none (Nat.le_of_ble_eq_true rfl) (by rfl) fun Q hQ=>?_
 simp only[f103p] at H
 refine AW.rseq ?_
 try simp only[wm,wmd,↓wk,↓wl,nq,evV,↓reduceIte,sevalprocAttr]
 refine AW.rseq ?_
 try simp only[wm,wmd,↓wk,↓wl,nq,evV,↓reduceIte,sevalprocAttr]
 refine evTs_pure hFn H (fun _ h=>f83_ok h) (by rfl) (by rfl) (by rfl) (by rfl) (fun _=>rfl) ?_<;>clear H<;>intro x6 H
 try simp only[eL,wm,wmd,↓wk,↓wl,nq,evV,↓reduceIte,sevalprocAttr]
 refine AW.ret ?_
 cases H
 exact hQ _ _ _ _ (.inr rfl) (by simp only[resVs,omap,resV,wm,wmd,↓wk,↓wl,nq,evV,↓reduceIte,sevalprocAttr];rfl) (hand_plain (by rfl)) (by first | exact Or.inl rfl | exact Or.inr rfl)
def c104_0:C:=.seq (.reg [iI 2 (.faddr 5 (.t 0)),iI 3 (.load 0 (.t 2)),iI 4 (.len 1 (.t 3)),iI 5 (.cint .u64 (.t 4)),iI 6 (.call (.c (.fn 83 [])) [(.t 5),(.c (.int .i64 1))]),iI 1 (.mv (.t 6))]) .ret
def ir104:C:=.seq (.reg [iI 1 (.mv (.c (.str [])))]) c104_0
theorem fd104:fd? Tryz.prog 104=some (7,[.slot 1],ir104):=by kernel_rfl
noncomputable def f104p(x0:Int)(x1:Int)(x2:Int)(x3:Int)(x4:Int)(x5:(List UInt8)):Option ((List UInt8)) :=
  (f83 (IntKind.u64.wrap ((x5.length:Nat):Int)) 1).bind fun x6=>(some x6)
theorem f104p_ok{x0:Int}{x1:Int}{x2:Int}{x3:Int}{x4:Int}{x5:(List UInt8)}{r_:(List UInt8)}(H:f104p x0 x1 x2 x3 x4 x5=some r_):Pure Tryz.prog 104 [.pro [.int .u64 x0,.int .u64 x1,.int .i64 x2,.int .i64 x3,.int .i64 x4,.str x5]] (· = .str r_):=by
 refine Pure.walk3 fd104 none (Nat.le_of_ble_eq_true rfl) (by rfl) fun Q hQ=>?_
 simp only[f104p] at H
 refine AW.rseq ?_
 try simp only[wm,wmd,↓wk,↓wl,nq,evV,↓reduceIte,sevalprocAttr]
 refine AW.rseq ?_
 try simp only[wm,wmd,↓wk,↓wl,nq,evV,↓reduceIte,sevalprocAttr]
 refine evTs_pure hFn H (fun _ h=>f83_ok h) (by rfl) (by rfl) (by rfl) (by rfl) (fun _=>rfl) ?_<;>clear H<;>intro x6 H
 try simp only[eL,wm,wmd,↓wk,↓wl,nq,evV,↓reduceIte,sevalprocAttr]
 refine AW.ret ?_
 cases H
 exact hQ _ _ _ _ (.inr rfl) (by simp only[resVs,omap,resV,wm,wmd,↓wk,↓wl,nq,evV,↓reduceIte,sevalprocAttr];rfl) (hand_plain (by rfl)) (by first | exact Or.inl rfl | exact Or.inr rfl)
def c105_0:C:=.seq (.reg [iI 2 (.faddr 5 (.t 0)),iI 3 (.load 0 (.t 2)),iI 1 (.mv (.t 3))]) .ret
def ir105:C:=.seq (.reg [iI 1 (.mv (.c (.str [])))]) c105_0
theorem fd105:fd? Tryz.prog 105=some (4,[.slot 1],ir105):=by kernel_rfl
noncomputable def f105p(x0:Int)(x1:Int)(x2:Int)(x3:Int)(x4:Int)(x5:(List UInt8)):Option ((List UInt8)) :=
  (some x5)
theorem f105p_ok{x0:Int}{x1:Int}{x2:Int}{x3:Int}{x4:Int}{x5:(List UInt8)}{r_:(List UInt8)}(H:f105p x0 x1 x2 x3 x4 x5=some r_):Pure Tryz.prog 105 [.pro [.int .u64 x0,.int .u64 x1,.int .i64 x2,.int .i64 x3,.int .i64 x4,.str x5]] (· = .str r_):=by
 refine Pure.walk3 fd105 none (Nat.le_of_ble_eq_true rfl) (by rfl) fun Q hQ=>?_
 simp only[f105p] at H
 refine AW.rseq ?_
 try simp only[wm,wmd,↓wk,↓wl,nq,evV,↓reduceIte,sevalprocAttr]
 refine AW.rseq ?_
 try simp only[wm,wmd,↓wk,↓wl,nq,evV,↓reduceIte,sevalprocAttr]
 refine AW.ret ?_
 cases H
 exact hQ _ _ _ _ (.inr rfl) (by simp only[resVs,omap,resV,wm,wmd,↓wk,↓wl,nq,evV,↓reduceIte,sevalprocAttr];rfl) (hand_plain (by rfl)) (by first | exact Or.inl rfl | exact Or.inr rfl)
def c32_0:C:=.seq (.reg [iI 4 (.load 6 (.t 1)),iI 5 (.load 6 (.t 2)),iI 6 (.call (.c (.fn 33 [])) [(.t 4),(.t 5)]),iI 3 (.mv (.t 6))]) .ret
def ir32:C:=.seq (.reg [iI 2 (.box (.t 0)),iI 3 (.mv (.c (.bool false)))]) c32_0
theorem fd32:fd? Tryz.prog 32=some (7,[.slot 3],ir32):=by kernel_rfl
noncomputable def f32p(x0:ApiMessage)(x1:Int)(x2:Int)(x3:Int)(x4:Int)(x5:Int)(x6:(List UInt8)):Option (Bool) :=
  (f33 (ApiMessage.mk x1 x2 x3 x4 x5 x6) x0).bind fun x7=>(some x7)
theorem f32p_ok{x0:ApiMessage}{x1:Int}{x2:Int}{x3:Int}{x4:Int}{x5:Int}{x6:(List UInt8)}{r_:Bool}(H:f32p x0 x1 x2 x3 x4 x5 x6=some r_):Pure Tryz.prog 32 [.agg [.int .u64 x0.fTo,.int .u64 x0.fFrom,.int .i64 x0.fSeq,.int .i64 x0.fKind,.int .i64 x0.fParam,.str x0.fData],.pro [.int .u64 x1,.int .u64 x2,.int .i64 x3,.int .i64 x4,.int .i64 x5,.str x6]] (· = .bool r_):=by
 refine Pure.walk3 fd32 none (Nat.le_of_ble_eq_true rfl) (by rfl) fun Q hQ=>?_
 simp only[f32p] at H
 refine AW.rseq ?_
 try simp only[wm,wmd,↓wk,↓wl,nq,evV,↓reduceIte,sevalprocAttr]
 refine AW.rseq ?_
 try simp only[wm,wmd,↓wk,↓wl,nq,evV,↓reduceIte,sevalprocAttr]
 refine evTs_pure hFn H (fun _ h=>f33_ok h) (by rfl) (by rfl) (by rfl) (by rfl) (fun _=>rfl) ?_<;>clear H<;>intro x7 H
 try simp only[eL,wm,wmd,↓wk,↓wl,nq,evV,↓reduceIte,sevalprocAttr]
 refine AW.ret ?_
 cases H
 exact hQ _ _ _ _ (.inr rfl) (by simp only[resVs,omap,resV,wm,wmd,↓wk,↓wl,nq,evV,↓reduceIte,sevalprocAttr];rfl) (hand_plain (by rfl)) (by first | exact Or.inl rfl | exact Or.inr rfl)
noncomputable def f50_32_L1(x0:(List ApiMessage))(x1:Int)(x2:Int)(x3:Int)(x4:Int)(x5:Int)(x6:(List UInt8)):Lp (Int) ((Unit)⊕(Int)) where
  body:=fun x7=>(if (decide (x7<((x0.length:Nat):Int)))=true then (at? x0 x7).bind fun x8=>(f32p x8 x1 x2 x3 x4 x5 x6).bind fun x9=>(if x9=true then (some (.brk (Sum.inr x7))) else (some (.next (IntKind.i64.wrap (x7 + 1))))) else (some (.brk (Sum.inl ()))))
  cst:=fun x7=>⟨put (put (put (put (fun _=>.junk) 8 (.int .i64 x7)) 7 (.int .i64 ((x0.length:Nat):Int))) 1 (.fn 32 [.pro [.int .u64 x1,.int .u64 x2,.int .i64 x3,.int .i64 x4,.int .i64 x5,.str x6]])) 0 (.sl 6 false (x0.map eApiMessage)),[]⟩
theorem f50_32_L1c(x0:(List ApiMessage))(x1:Int)(x2:Int)(x3:Int)(x4:Int)(x5:Int)(x6:(List UInt8))(x7:Int):(f50_32_L1 x0 x1 x2 x3 x4 x5 x6).cst x7=⟨put (put (put (put (fun _=>.junk) 8 (.int .i64 x7)) 7 (.int .i64 ((x0.length:Nat):Int))) 1 (.fn 32 [.pro [.int .u64 x1,.int .u64 x2,.int .i64 x3,.int .i64 x4,.int .i64 x5,.str x6]])) 0 (.sl 6 false (x0.map eApiMessage)),[]⟩:=rfl
def c50_0:C:=.cond (.t 16) (.seq (.reg [iI 17 (.mv (.t 5)),iI 4 (.mv (.t 17))]) .ret) (.skip)
def c50_1:C:=.seq (.reg [iI 11 (.mv (.t 1)),iI 12 (.mv (.t 0)),iI 13 (.mv (.t 5)),iI 14 (.iaddr 6 (.t 12) (.t 13)),iI 15 (.load 6 (.t 14)),iI 16 (.call (.t 11) [(.t 15)])]) c50_0
def c50_2:C:=.reg [iI 18 (.bin .add (.t 8) (.c (.int .i64 1))),iI 8 (.mv (.t 18))]
def c50_3:C:=.seq (.block 1 (.seq (.reg [iI 10 (.mv (.t 8)),iI 5 (.mv (.t 10))]) c50_1)) c50_2
def c50_4:C:=.seq (.cond (.t 9) (.skip) (.exit 0)) c50_3
def c50_5:C:=.block 0 (.loop (.seq (.reg [iI 9 (.bin .lss (.t 8) (.t 7))]) c50_4))
def c50_6:C:=.seq (.reg [iI 4 (.mv (.c (.int .i64 (-1))))]) .ret
def c50_7:C:=.seq (.seq (.reg [iI 6 (.mv (.t 0)),iI 7 (.len 0 (.t 6)),iI 8 (.mv (.c (.int .i64 0)))]) c50_5) c50_6
def ir50:C:=.seq (.reg [iI 4 (.mv (.c (.int .i64 0)))]) c50_7
theorem fd50:fd? Tryz.prog 50=some (19,[.slot 4],ir50):=by kernel_rfl
noncomputable def f50_32(x0:(List ApiMessage))(x1:Int)(x2:Int)(x3:Int)(x4:Int)(x5:Int)(x6:(List UInt8)):Option (Int) :=
  ((Lp.run (f50_32_L1 x0 x1 x2 x3 x4 x5 x6) 0).bind fun r_=>match r_ with | (Sum.inl _)=>(some (-1)) | (Sum.inr x7)=>(some x7))
theorem f50_32_ok{x0:(List ApiMessage)}{x1:Int}{x2:Int}{x3:Int}{x4:Int}{x5:Int}{x6:(List UInt8)}{r_:Int}(H:f50_32 x0 x1 x2 x3 x4 x5 x6=some r_):Pure Tryz.prog 50 [.sl 6 false (x0.map eApiMessage),.fn 32 [.pro [.int .u64 x1,.int .u64 x2,.int .i64 x3,.int .i64 x4,.int .i64 x5,.str x6]]] (· = .int .i64 r_):=by
 refine Pure.walk3 fd50 none (Nat.le_of_ble_eq_true rfl) (by rfl) fun Q hQ=>?_
 simp only[f50_32] at H
 refine AW.rseq ?_
 try simp only[wm,wmd,↓wk,↓wl,nq,evV,↓reduceIte,sevalprocAttr]
 refine AW.sseq ?_
 refine AW.rseq ?_
 try simp only[wm,wmd,↓wk,↓wl,nq,evV,↓reduceIte,sevalprocAttr]
 refine AW.bend ?_
 refine AW.iter H ((Le.tz [] [0,1,7,8] (by simp only[f50_32_L1c,wm,wmr,rrm,↓wk,↓wl,evV,↓reduceIte,sevalprocAttr]<;>rfl))) ?_<;>clear H
 rintro x7 x_ st0_ H hst_
 rw[f50_32_L1c] at hst_
 simp only[f50_32_L1] at H
 subst hst_
 refine AW.rseq ?_
 try simp only[wm,wmd,↓wk,↓wl,nq,evV,↓reduceIte,sevalprocAttr]
 refine AW.sseq ?_
 refine AW.ifc H (by rfl) ?_ ?_<;>clear H<;>intro H
 ·refine AW.skip ?_
  refine seqQ.norm ?_
  refine AW.bseq ?_
  refine AW.rseq ?_
  try simp only[wm,wmd,↓wk,↓wl,nq,evV,↓reduceIte,sevalprocAttr]
  refine AW.rseq ?_
  try simp only[wm,wmd,↓wk,↓wl,nq,evV,↓reduceIte,sevalprocAttr]
  refine evTs_at (enc:=eApiMessage) H (by rfl) (by rfl) ?_<;>clear H<;>intro x8 H
  try simp only[eApiMessage,eL,eM,wm,wmd,↓wk,↓wl,nq,evV,↓reduceIte,sevalprocAttr]
  refine evTs_pure hFn H (fun _ h=>f32p_ok h) (by rfl) (by rfl) (by rfl) (by rfl) (fun _=>rfl) ?_<;>clear H<;>intro x9 H
  try simp only[eL,wm,wmd,↓wk,↓wl,nq,evV,↓reduceIte,sevalprocAttr]
  refine AW.ifc H (by rfl) ?_ ?_<;>clear H<;>intro H
  ·refine AW.rseq ?_
   try simp only[wm,wmd,↓wk,↓wl,nq,evV,↓reduceIte,sevalprocAttr]
   refine AW.ret ?_
   refine blkQ.ret ?_
   refine loopQ.ret H ?_<;>clear H<;>intro H
   try dsimp only at H
   refine blk0.ret ?_
   refine seqQ.ret ?_
   cases H
   exact hQ _ _ _ _ (.inr rfl) (by simp only[resVs,omap,resV,wm,wmd,↓wk,↓wl,nq,evV,↓reduceIte,sevalprocAttr];rfl) (hand_plain (by rfl)) (by first | exact Or.inl rfl | exact Or.inr rfl)
  ·refine AW.skip ?_
   refine blkQ.norm ?_
   refine AW.rend ?_
   try simp only[wm,wmd,↓wk,↓wl,nq,evV,↓reduceIte,sevalprocAttr]
   exact loopQ.next H ((Le.tz [] [0,1,7,8] (by simp only[f50_32_L1c,wm,wmr,rrm,↓wk,↓wl,evV,↓reduceIte,sevalprocAttr]<;>rfl)))
 ·refine AW.exit ?_
  refine seqQ.exit ?_
  refine loopQ.exit H ?_<;>clear H<;>intro H
  try dsimp only at H
  refine blk0.here ?_
  refine seqQ.norm ?_
  refine AW.rseq ?_
  try simp only[wm,wmd,↓wk,↓wl,nq,evV,↓reduceIte,sevalprocAttr]
  refine AW.ret ?_
  cases H
  exact hQ _ _ _ _ (.inr rfl) (by simp only[resVs,omap,resV,wm,wmd,↓wk,↓wl,nq,evV,↓reduceIte,sevalprocAttr];rfl) (hand_plain (by rfl)) (by first | exact Or.inl rfl | exact Or.inr rfl)
def c30_0:C:=.seq (.reg [iI 5 (.mv (.t 0)),iI 6 (.mv (.t 1)),iI 7 (.call (.c (.fn 50 [])) [(.t 5),(.t 6)]),iI 8 (.bin .geq (.t 7) (.c (.int .i64 0))),iI 4 (.mv (.t 8))]) .ret
def ir30:C:=.seq (.reg [iI 4 (.mv (.c (.bool false)))]) c30_0
theorem fd30:fd? Tryz.prog 30=some (9,[.slot 4],ir30):=by kernel_rfl
noncomputable def f30_32(x0:(List ApiMessage))(x1:Int)(x2:Int)(x3:Int)(x4:Int)(x5:Int)(x6:(List UInt8)):Option (Bool) :=
  (f50_32 x0 x1 x2 x3 x4 x5 x6).bind fun x7=>(some (decide (0≤x7)))
theorem f30_32_ok{x0:(List ApiMessage)}{x1:Int}{x2:Int}{x3:Int}{x4:Int}{x5:Int}{x6:(List UInt8)}{r_:Bool}(H:f30_32 x0 x1 x2 x3 x4 x5 x6=some r_):Pure Tryz.prog 30 [.sl 6 false (x0.map eApiMessage),.fn 32 [.pro [.int .u64 x1,.int .u64 x2,.int .i64 x3,.int .i64 x4,.int .i64 x5,.str x6]]] (· = .bool r_):=by
 refine Pure.walk3 fd30 none (Nat.le_of_ble_eq_true rfl) (by rfl) fun Q hQ=>?_
 simp only[f30_32] at H
 refine AW.rseq ?_
 try simp only[wm,wmd,↓wk,↓wl,nq,evV,↓reduceIte,sevalprocAttr]
 refine AW.rseq ?_
 try simp only[wm,wmd,↓wk,↓wl,nq,evV,↓reduceIte,sevalprocAttr]
 refine evTs_pure hFn H (fun _ h=>f50_32_ok h) (by rfl) (by rfl) (by rfl) (by rfl) (fun _=>rfl) ?_<;>clear H<;>intro x7 H
 try simp only[eL,wm,wmd,↓wk,↓wl,nq,evV,↓reduceIte,sevalprocAttr]
 refine AW.ret ?_
 cases H
 exact hQ _ _ _ _ (.inr rfl) (by simp only[resVs,omap,resV,wm,wmd,↓wk,↓wl,nq,evV,↓reduceIte,sevalprocAttr];rfl) (hand_plain (by rfl)) (by first | exact Or.inl rfl | exact Or.inr rfl)
end Go.Proofs.YtgjfhplkochbpaaGreat
