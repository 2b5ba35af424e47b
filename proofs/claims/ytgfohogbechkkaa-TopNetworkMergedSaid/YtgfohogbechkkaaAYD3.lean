import Derived.Test.YtgfohogbechkkaaAYD2
import Derived.Test.YtgfohogbechkkaaAM5
import Derived.Test.YtgfohogbechkkaaAM6
import Derived.Test.YtgfohogbechkkaaAMN
import Derived.Test.YtgfohogbechkkaaProg
import Derived.KernelRfl
namespace Go.Proofs.Ytgfohogbechkkaa
open Go Go.Ab
set_option maxHeartbeats 1000000
set_option maxRecDepth 4000
set_option linter.unusedSimpArgs false
set_option linter.unusedVariables false
def c137_5:C:=.seq (.reg [iI 21 (.mv (.t 7)),iI 22 (.call (.c (.fn 164 [])) [(.t 21)]),iI 20 (.mv (.t 22)),iI 23 (.ext (.t 20) 0),iI 24 (.ext (.t 20) 1),iI 9 (.mv (.t 23)),iI 10 (.mv (.t 24))]) c137_4
def c137_6:C:=.seq (.seq (.reg [iI 15 (.mv (.t 7)),iI 16 (.call (.c (.fn 161 [])) [(.t 15)]),iI 8 (.mv (.t 16))]) c137_1) c137_5
def c137_7:C:=.seq (.reg [iI 11 (.mv (.t 0)),iI 12 (.mv (.t 1)),iI 13 (.build [(1,(.str [])),(1,(.int .i64 0))] [(0,0,(.t 11)),(1,0,(.t 12))]),iI 14 (.box (.t 13)),iI 7 (.mv (.t 14))]) c137_6
def ir137:C:=.seq (.reg [iI 4 (.mv (.c (.int .i64 0))),iI 5 (.mv (.c (.int .i64 0))),iI 6 (.mv (.c (.int .i64 0)))]) c137_7
theorem fd137:fd? Try.prog 137=some (33,[.slot 4,.slot 5,.slot 6],ir137):=by kernel_rfl
noncomputable def f137(x0:(List UInt8))(x1:Int):Option (Int×Int×Int) :=
  (f161p x0 x1).bind fun x2=>(if (decide (x2≠0))=true then (some (0,0,x2)) else ((f137_C1 x0 x1).run.bind fun (x3,x4,x5)=>(if (decide (x4≠0))=true then (some (0,0,x4)) else (some (x3,x5,0)))))
theorem f137_ok{x0:(List UInt8)}{x1:Int}{r_:Int×Int×Int}(H:f137 x0 x1=some r_):Pure Try.prog 137 [.str x0,.int .i64 x1] (· = .tup [.int .i64 r_.1,.int .i64 r_.2.1,.int .i64 r_.2.2]):=by
 refine Pure.walk3 fd137 none (Nat.le_of_ble_eq_true rfl) (by rfl) fun Q hQ=>?_
 simp only[f137] at H
 refine AW.rseq ?_
 try simp only[↓wk,↓wl,nq,evV,↓reduceIte,sevalprocAttr]
 refine AW.rseq ?_
 try simp only[↓wk,↓wl,nq,evV,↓reduceIte,sevalprocAttr]
 refine AW.sseq ?_
 refine AW.rseq ?_
 try simp only[↓wk,↓wl,nq,evV,↓reduceIte,sevalprocAttr]
 refine evTs_flat hFn H (fun _ h=>f161p_ok h) (by rfl) (by rfl) (by simp only[deep_eq,imm_simps,imm_rowE,imm_ptrE,imm_enc,omap_simps,take_map_len,take_map_set,take_map_set2,List.length_set,le_refl_true,Nat.zero_add,and_true,true_and,List.drop_zero,Option.map_some,↓wk,↓wl,nq,evV,↓reduceIte,sevalprocAttr];rfl) (by rfl) (fun _=>rfl) (fun _=>rfl) ?_<;>clear H<;>intro x2 H
 try simp only[eL,↓wk,↓wl,nq,evV,↓reduceIte,sevalprocAttr]
 refine AW.rseq ?_
 try simp only[↓wk,↓wl,nq,evV,↓reduceIte,sevalprocAttr]
 refine AW.ifc H (by rfl) ?_ ?_<;>clear H<;>intro H
 ·refine AW.rseq ?_
  try simp only[↓wk,↓wl,nq,evV,↓reduceIte,sevalprocAttr]
  refine AW.ret ?_
  refine seqQ.ret ?_
  cases H
  exact hQ.fin
 ·refine AW.skip ?_
  refine seqQ.norm ?_
  refine AW.rseq ?_
  try simp only[↓wk,↓wl,nq,evV,↓reduceIte,sevalprocAttr]
  refine evTs_inl (I:=f137_C1 x0 x1) (args:=[.ptr 0 0]) H (by rfl) fd164 (by rfl) (Nat.le_of_ble_eq_true rfl) ?_ ?_<;>clear H
  ·rintro v_ Q_ H hqf137_C1
   simp only[f137_C1] at H
   dsimp only[List.length_cons,List.length_nil]
   refine AW.rseq ?_
   try simp only[↓wk,↓wl,nq,evV,↓reduceIte,sevalprocAttr]
   refine AW.scope ?_
   refine AW.rseq ?_
   try simp only[↓wk,↓wl,nq,evV,↓reduceIte,sevalprocAttr]
   refine AW.skseq ?_
   refine AW.sseq ?_
   refine AW.rseq ?_
   try simp only[↓wk,↓wl,nq,evV,↓reduceIte,sevalprocAttr]
   refine AW.bend ?_
   refine AW.iter H ((Le.tq 1 [0] [0,4,5] (by simp only[f137_L2c,rrm,↓wk,↓wl,evV,↓reduceIte,sevalprocAttr]<;>rfl))) ?_<;>clear H
   rintro ⟨x3,x4,x5⟩ x_ st0_ H hst_
   rw[f137_L2c] at hst_
   simp only[f137_L2] at H
   subst hst_
   refine AW.bseq ?_
   refine AW.sseq ?_
   refine AW.rseq ?_
   try simp only[↓wk,↓wl,nq,evV,↓reduceIte,sevalprocAttr]
   refine evTs_flat hFn H (fun _ h=>f162p_ok h) (by rfl) (by rfl) (by simp only[deep_eq,imm_simps,imm_rowE,imm_ptrE,imm_enc,omap_simps,take_map_len,take_map_set,take_map_set2,List.length_set,le_refl_true,Nat.zero_add,and_true,true_and,List.drop_zero,Option.map_some,↓wk,↓wl,nq,evV,↓reduceIte,sevalprocAttr];rfl) (by rfl) (fun _=>rfl) (fun _=>rfl) ?_<;>clear H<;>intro x6 H
   try simp only[eL,↓wk,↓wl,nq,evV,↓reduceIte,sevalprocAttr]
   refine AW.ifc H (by rfl) ?_ ?_<;>clear H<;>intro H
   ·refine AW.rseq ?_
    try simp only[↓wk,↓wl,nq,evV,↓reduceIte,sevalprocAttr]
    refine AW.ret ?_
    refine seqQ.ret ?_
    refine blkQ.ret ?_
    refine loopQ.ret H ?_<;>clear H<;>intro H
    try dsimp only at H
    refine blk0.ret ?_
    refine seqQ.ret ?_
    cases H
    exact hqf137_C1 _ _ _ (.inr rfl) (Le.tq 1 [0] [2,3] rfl) (by simp only[resVs,omap,resV,f137_C1,rrm,↓wk,↓wl,evV,↓reduceIte,sevalprocAttr]) (by simp only[f137_C1,rrm,↓wk,↓wl,evV,↓reduceIte,sevalprocAttr])
   ·refine AW.skip ?_
    refine seqQ.norm ?_
    refine AW.rseq ?_
    try simp only[↓wk,↓wl,nq,evV,↓reduceIte,sevalprocAttr]
    refine evTs_inl (I:=f137_C3 x0 x5) (args:=[.ptr 0 0,.int .i64 1]) H (by rfl) fd163 (by rfl) (Nat.le_of_ble_eq_true rfl) ?_ ?_<;>clear H
    ·rintro v_ Q_ H hqf137_C3
     simp only[f137_C3] at H
     dsimp only[List.length_cons,List.length_nil]
     refine AW.rseq ?_
     try simp only[↓wk,↓wl,nq,evV,↓reduceIte,sevalprocAttr]
     refine AW.rseq ?_
     try simp only[↓wk,↓wl,nq,evV,↓reduceIte,sevalprocAttr]
     refine AW.rseq ?_
     try simp only[↓wk,↓wl,nq,evV,↓reduceIte,sevalprocAttr]
     refine evTs_sslc H (by rfl) (by simp only[loI,hiI,↓wk,↓wl,nq,evV,↓reduceIte,sevalprocAttr];rfl) (by simp only[loI,hiI,↓wk,↓wl,nq,evV,↓reduceIte,sevalprocAttr];rfl) ?_<;>clear H<;>intro x7 H
     try simp only[↓wk,↓wl,nq,evV,↓reduceIte,sevalprocAttr]
     refine AW.ret ?_
     cases H
     exact hqf137_C3 _ _ _ (.inr rfl) (Le.tq 1 [0] [4] rfl) (by simp only[resVs,omap,resV,f137_C3,rrm,↓wk,↓wl,evV,↓reduceIte,sevalprocAttr]) (by simp only[f137_C3,rrm,↓wk,↓wl,evV,↓reduceIte,sevalprocAttr])
    ·rintro ⟨x8,x9⟩ s_ h_ H hs_ hh_
     simp only[f137_C3] at H hs_ hh_
     subst hs_
     subst hh_
     try simp only[↓wk,↓wl,nq,evV,↓reduceIte,sevalprocAttr]
     refine evTs_sat H (by rfl) (by rfl) ?_<;>clear H<;>intro xa H
     try simp only[↓wk,↓wl,nq,evV,↓reduceIte,sevalprocAttr]
     refine AW.rseq ?_
     try simp only[↓wk,↓wl,nq,evV,↓reduceIte,sevalprocAttr]
     refine rest_and ?_
     try simp only[↓wk,↓wl,nq,evV,↓reduceIte,sevalprocAttr]
     refine rest_shlv H ?_<;>clear H<;>intro H
     try simp only[↓wk,↓wl,nq,evV,↓reduceIte,sevalprocAttr]
     refine rest_or ?_
     try simp only[↓wk,↓wl,nq,evV,↓reduceIte,sevalprocAttr]
     refine AW.bend ?_
     refine AW.sseq ?_
     refine AW.rseq ?_
     try simp only[↓wk,↓wl,nq,evV,↓reduceIte,sevalprocAttr]
     refine evTs_ifg H (by rfl) ?_ ?_<;>clear H<;>intro H
     ·try simp only[↓wk,↓wl,nq,evV,↓reduceIte,sevalprocAttr]
      refine AW.ifc H (by rfl) ?_ ?_<;>clear H<;>intro H
      ·refine AW.skip ?_
       refine seqQ.norm ?_
       refine AW.ifc H (by rfl) ?_ ?_<;>clear H<;>intro H
       ·refine AW.rseq ?_
        try simp only[↓wk,↓wl,nq,evV,↓reduceIte,sevalprocAttr]
        refine AW.ret ?_
        refine blk0.ret ?_
        refine blkQ.ret ?_
        refine loopQ.ret H ?_<;>clear H<;>intro H
        try dsimp only at H
        refine blk0.ret ?_
        refine seqQ.ret ?_
        cases H
        exact hqf137_C1 _ _ _ (.inr rfl) (Le.tq 1 [0] [2,3] rfl) (by simp only[resVs,omap,resV,f137_C1,rrm,↓wk,↓wl,evV,↓reduceIte,sevalprocAttr]) (by simp only[f137_C1,rrm,↓wk,↓wl,evV,↓reduceIte,sevalprocAttr])
       ·refine AW.rseq ?_
        try simp only[↓wk,↓wl,nq,evV,↓reduceIte,sevalprocAttr]
        refine AW.ifc H (by rfl) ?_ ?_<;>clear H<;>intro H
        ·refine AW.exit ?_
         refine blk0.out (by rfl) ?_
         refine blkQ.out (by rfl) ?_
         refine loopQ.exit H ?_<;>clear H<;>intro H
         try dsimp only at H
         refine blk0.here ?_
         refine seqQ.norm ?_
         refine AW.rseq ?_
         try simp only[↓wk,↓wl,nq,evV,↓reduceIte,sevalprocAttr]
         refine rest_shr (by decide) ?_
         try simp only[↓wk,↓wl,nq,evV,↓reduceIte,sevalprocAttr]
         refine rest_and ?_
         try simp only[↓wk,↓wl,nq,evV,↓reduceIte,sevalprocAttr]
         refine rest_xor ?_
         try simp only[↓wk,↓wl,nq,evV,↓reduceIte,sevalprocAttr]
         refine AW.ret ?_
         cases H
         exact hqf137_C1 _ _ _ (.inr rfl) (Le.tq 1 [0] [2,3] rfl) (by simp only[resVs,omap,resV,f137_C1,rrm,↓wk,↓wl,evV,↓reduceIte,sevalprocAttr]) (by simp only[f137_C1,rrm,↓wk,↓wl,evV,↓reduceIte,sevalprocAttr])
        ·refine AW.skip ?_
         refine blk0.norm ?_
         refine blkQ.norm ?_
         refine AW.rend ?_
         try simp only[↓wk,↓wl,nq,evV,↓reduceIte,sevalprocAttr]
         exact loopQ.next H ((Le.tq 1 [0] [0,4,5] (by simp only[f137_L2c,rrm,↓wk,↓wl,evV,↓reduceIte,sevalprocAttr]<;>rfl)))
      ·refine AW.rend ?_
       try simp only[↓wk,↓wl,nq,evV,↓reduceIte,sevalprocAttr]
       refine evTs_ifg H (by rfl) ?_ ?_<;>clear H<;>intro H
       ·try simp only[↓wk,↓wl,nq,evV,↓reduceIte,sevalprocAttr]
        refine seqQ.norm ?_
        refine AW.ifc H (by rfl) ?_ ?_<;>clear H<;>intro H
        ·refine AW.rseq ?_
         try simp only[↓wk,↓wl,nq,evV,↓reduceIte,sevalprocAttr]
         refine AW.ret ?_
         refine blk0.ret ?_
         refine blkQ.ret ?_
         refine loopQ.ret H ?_<;>clear H<;>intro H
         try dsimp only at H
         refine blk0.ret ?_
         refine seqQ.ret ?_
         cases H
         exact hqf137_C1 _ _ _ (.inr rfl) (Le.tq 1 [0] [2,3] rfl) (by simp only[resVs,omap,resV,f137_C1,rrm,↓wk,↓wl,evV,↓reduceIte,sevalprocAttr]) (by simp only[f137_C1,rrm,↓wk,↓wl,evV,↓reduceIte,sevalprocAttr])
        ·refine AW.rseq ?_
         try simp only[↓wk,↓wl,nq,evV,↓reduceIte,sevalprocAttr]
         refine AW.ifc H (by rfl) ?_ ?_<;>clear H<;>intro H
         ·refine AW.exit ?_
          refine blk0.out (by rfl) ?_
          refine blkQ.out (by rfl) ?_
          refine loopQ.exit H ?_<;>clear H<;>intro H
          try dsimp only at H
          refine blk0.here ?_
          refine seqQ.norm ?_
          refine AW.rseq ?_
          try simp only[↓wk,↓wl,nq,evV,↓reduceIte,sevalprocAttr]
          refine rest_shr (by decide) ?_
          try simp only[↓wk,↓wl,nq,evV,↓reduceIte,sevalprocAttr]
          refine rest_and ?_
          try simp only[↓wk,↓wl,nq,evV,↓reduceIte,sevalprocAttr]
          refine rest_xor ?_
          try simp only[↓wk,↓wl,nq,evV,↓reduceIte,sevalprocAttr]
          refine AW.ret ?_
          cases H
          exact hqf137_C1 _ _ _ (.inr rfl) (Le.tq 1 [0] [2,3] rfl) (by simp only[resVs,omap,resV,f137_C1,rrm,↓wk,↓wl,evV,↓reduceIte,sevalprocAttr]) (by simp only[f137_C1,rrm,↓wk,↓wl,evV,↓reduceIte,sevalprocAttr])
         ·refine AW.skip ?_
          refine blk0.norm ?_
          refine blkQ.norm ?_
          refine AW.rend ?_
          try simp only[↓wk,↓wl,nq,evV,↓reduceIte,sevalprocAttr]
          exact loopQ.next H ((Le.tq 1 [0] [0,4,5] (by simp only[f137_L2c,rrm,↓wk,↓wl,evV,↓reduceIte,sevalprocAttr]<;>rfl)))
       ·try simp only[↓wk,↓wl,nq,evV,↓reduceIte,sevalprocAttr]
        refine seqQ.norm ?_
        refine AW.iff (by rfl) ?_
        refine AW.rseq ?_
        try simp only[↓wk,↓wl,nq,evV,↓reduceIte,sevalprocAttr]
        refine AW.ifc H (by rfl) ?_ ?_<;>clear H<;>intro H
        ·refine AW.exit ?_
         refine blk0.out (by rfl) ?_
         refine blkQ.out (by rfl) ?_
         refine loopQ.exit H ?_<;>clear H<;>intro H
         try dsimp only at H
         refine blk0.here ?_
         refine seqQ.norm ?_
         refine AW.rseq ?_
         try simp only[↓wk,↓wl,nq,evV,↓reduceIte,sevalprocAttr]
         refine rest_shr (by decide) ?_
         try simp only[↓wk,↓wl,nq,evV,↓reduceIte,sevalprocAttr]
         refine rest_and ?_
         try simp only[↓wk,↓wl,nq,evV,↓reduceIte,sevalprocAttr]
         refine rest_xor ?_
         try simp only[↓wk,↓wl,nq,evV,↓reduceIte,sevalprocAttr]
         refine AW.ret ?_
         cases H
         exact hqf137_C1 _ _ _ (.inr rfl) (Le.tq 1 [0] [2,3] rfl) (by simp only[resVs,omap,resV,f137_C1,rrm,↓wk,↓wl,evV,↓reduceIte,sevalprocAttr]) (by simp only[f137_C1,rrm,↓wk,↓wl,evV,↓reduceIte,sevalprocAttr])
        ·refine AW.skip ?_
         refine blk0.norm ?_
         refine blkQ.norm ?_
         refine AW.rend ?_
         try simp only[↓wk,↓wl,nq,evV,↓reduceIte,sevalprocAttr]
         exact loopQ.next H ((Le.tq 1 [0] [0,4,5] (by simp only[f137_L2c,rrm,↓wk,↓wl,evV,↓reduceIte,sevalprocAttr]<;>rfl)))
     ·try simp only[↓wk,↓wl,nq,evV,↓reduceIte,sevalprocAttr]
      refine AW.iff (by rfl) ?_
      refine AW.rend ?_
      try simp only[↓wk,↓wl,nq,evV,↓reduceIte,sevalprocAttr]
      refine evTs_ifg H (by rfl) ?_ ?_<;>clear H<;>intro H
      ·try simp only[↓wk,↓wl,nq,evV,↓reduceIte,sevalprocAttr]
       refine seqQ.norm ?_
       refine AW.ifc H (by rfl) ?_ ?_<;>clear H<;>intro H
       ·refine AW.rseq ?_
        try simp only[↓wk,↓wl,nq,evV,↓reduceIte,sevalprocAttr]
        refine AW.ret ?_
        refine blk0.ret ?_
        refine blkQ.ret ?_
        refine loopQ.ret H ?_<;>clear H<;>intro H
        try dsimp only at H
        refine blk0.ret ?_
        refine seqQ.ret ?_
        cases H
        exact hqf137_C1 _ _ _ (.inr rfl) (Le.tq 1 [0] [2,3] rfl) (by simp only[resVs,omap,resV,f137_C1,rrm,↓wk,↓wl,evV,↓reduceIte,sevalprocAttr]) (by simp only[f137_C1,rrm,↓wk,↓wl,evV,↓reduceIte,sevalprocAttr])
       ·refine AW.rseq ?_
        try simp only[↓wk,↓wl,nq,evV,↓reduceIte,sevalprocAttr]
        refine AW.ifc H (by rfl) ?_ ?_<;>clear H<;>intro H
        ·refine AW.exit ?_
         refine blk0.out (by rfl) ?_
         refine blkQ.out (by rfl) ?_
         refine loopQ.exit H ?_<;>clear H<;>intro H
         try dsimp only at H
         refine blk0.here ?_
         refine seqQ.norm ?_
         refine AW.rseq ?_
         try simp only[↓wk,↓wl,nq,evV,↓reduceIte,sevalprocAttr]
         refine rest_shr (by decide) ?_
         try simp only[↓wk,↓wl,nq,evV,↓reduceIte,sevalprocAttr]
         refine rest_and ?_
         try simp only[↓wk,↓wl,nq,evV,↓reduceIte,sevalprocAttr]
         refine rest_xor ?_
         try simp only[↓wk,↓wl,nq,evV,↓reduceIte,sevalprocAttr]
         refine AW.ret ?_
         cases H
         exact hqf137_C1 _ _ _ (.inr rfl) (Le.tq 1 [0] [2,3] rfl) (by simp only[resVs,omap,resV,f137_C1,rrm,↓wk,↓wl,evV,↓reduceIte,sevalprocAttr]) (by simp only[f137_C1,rrm,↓wk,↓wl,evV,↓reduceIte,sevalprocAttr])
        ·refine AW.skip ?_
         refine blk0.norm ?_
         refine blkQ.norm ?_
         refine AW.rend ?_
         try simp only[↓wk,↓wl,nq,evV,↓reduceIte,sevalprocAttr]
         exact loopQ.next H ((Le.tq 1 [0] [0,4,5] (by simp only[f137_L2c,rrm,↓wk,↓wl,evV,↓reduceIte,sevalprocAttr]<;>rfl)))
      ·try simp only[↓wk,↓wl,nq,evV,↓reduceIte,sevalprocAttr]
       refine seqQ.norm ?_
       refine AW.iff (by rfl) ?_
       refine AW.rseq ?_
       try simp only[↓wk,↓wl,nq,evV,↓reduceIte,sevalprocAttr]
       refine AW.ifc H (by rfl) ?_ ?_<;>clear H<;>intro H
       ·refine AW.exit ?_
        refine blk0.out (by rfl) ?_
        refine blkQ.out (by rfl) ?_
        refine loopQ.exit H ?_<;>clear H<;>intro H
        try dsimp only at H
        refine blk0.here ?_
        refine seqQ.norm ?_
        refine AW.rseq ?_
        try simp only[↓wk,↓wl,nq,evV,↓reduceIte,sevalprocAttr]
        refine rest_shr (by decide) ?_
        try simp only[↓wk,↓wl,nq,evV,↓reduceIte,sevalprocAttr]
        refine rest_and ?_
        try simp only[↓wk,↓wl,nq,evV,↓reduceIte,sevalprocAttr]
        refine rest_xor ?_
        try simp only[↓wk,↓wl,nq,evV,↓reduceIte,sevalprocAttr]
        refine AW.ret ?_
        cases H
        exact hqf137_C1 _ _ _ (.inr rfl) (Le.tq 1 [0] [2,3] rfl) (by simp only[resVs,omap,resV,f137_C1,rrm,↓wk,↓wl,evV,↓reduceIte,sevalprocAttr]) (by simp only[f137_C1,rrm,↓wk,↓wl,evV,↓reduceIte,sevalprocAttr])
       ·refine AW.skip ?_
        refine blk0.norm ?_
        refine blkQ.norm ?_
        refine AW.rend ?_
        try simp only[↓wk,↓wl,nq,evV,↓reduceIte,sevalprocAttr]
        exact loopQ.next H ((Le.tq 1 [0] [0,4,5] (by simp only[f137_L2c,rrm,↓wk,↓wl,evV,↓reduceIte,sevalprocAttr]<;>rfl)))
  ·rintro ⟨xb,xc,xd⟩ s_ h_ H hs_ hh_
   simp only[f137_C1] at H hs_ hh_
   subst hs_
   subst hh_
   try simp only[↓wk,↓wl,nq,evV,↓reduceIte,sevalprocAttr]
   refine AW.sseq ?_
   refine AW.rseq ?_
   try simp only[↓wk,↓wl,nq,evV,↓reduceIte,sevalprocAttr]
   refine AW.ifc H (by rfl) ?_ ?_<;>clear H<;>intro H
   ·refine AW.rseq ?_
    try simp only[↓wk,↓wl,nq,evV,↓reduceIte,sevalprocAttr]
    refine AW.ret ?_
    refine seqQ.ret ?_
    cases H
    exact hQ.fin
   ·refine AW.skip ?_
    refine seqQ.norm ?_
    refine AW.rseq ?_
    try simp only[↓wk,↓wl,nq,evV,↓reduceIte,sevalprocAttr]
    refine AW.ret ?_
    cases H
    exact hQ.fin
def c165_0:C:=.cond (.t 22) (.seq (.reg [iI 2 (.mv (.c (.str []))),iI 3 (.mv (.c (.int .i64 20)))]) .ret) (.skip)
def c165_1:C:=.cond (.t 15) (.seq (.reg [iI 2 (.mv (.c (.str []))),iI 3 (.mv (.c (.int .i64 3)))]) .ret) (.seq (.reg [iI 23 (.mv (.t 0)),iI 24 (.mv (.t 4)),iI 25 (.call (.c (.fn 162 [])) [(.t 23),(.t 24)]),iI 26 (.un .not (.t 25)),iI 22 (.mv (.t 26))]) c165_0)
def c165_2:C:=.cond (.t 11) (.seq (.reg [iI 14 (.mv (.t 5)),iI 2 (.mv (.c (.str []))),iI 3 (.mv (.t 14))]) .ret) (.seq (.reg [iI 16 (.mv (.t 4)),iI 17 (.bin .lss (.t 16) (.c (.int .i64 0))),iI 18 (.mv (.t 17)),iG (some 19) 18 false (.mv (.t 4)),iG (some 20) 18 false (.bin .gtr (.t 19) (.c (.int .i64 65535))),iI 21 (.pick (.t 18) (.c (.bool true)) (.t 20)),iI 15 (.mv (.t 21))]) c165_1)
def c165_3:C:=.seq (.reg [iI 27 (.mv (.t 0)),iI 28 (.mv (.t 4)),iI 29 (.call (.c (.fn 163 [])) [(.t 27),(.t 28)]),iI 2 (.mv (.t 29)),iI 3 (.mv (.c (.int .i64 0)))]) .ret
def c165_4:C:=.seq (.block 0 (.seq (.reg [iI 12 (.mv (.t 5)),iI 13 (.bin .neq (.t 12) (.c (.int .i64 0))),iI 11 (.mv (.t 13))]) c165_2)) c165_3
def c165_5:C:=.seq (.reg [iI 7 (.mv (.t 0)),iI 8 (.call (.c (.fn 164 [])) [(.t 7)]),iI 6 (.mv (.t 8)),iI 9 (.ext (.t 6) 0),iI 10 (.ext (.t 6) 1),iI 4 (.mv (.t 9)),iI 5 (.mv (.t 10))]) c165_4
def ir165:C:=.seq (.reg [iI 2 (.mv (.c (.str []))),iI 3 (.mv (.c (.int .i64 0)))]) c165_5
theorem fd165:fd? Try.prog 165=some (30,[.slot 2,.slot 3],ir165):=by kernel_rfl
noncomputable def f138_C4(x0:(List UInt8))(x1:Int):Il ((List UInt8)×Int) where
  run:=(slc? x0 (IntKind.i64.wrap ((IntKind.i64.wrap (x1 + 1)) - 1)) (IntKind.i64.wrap (x1 + 1))).bind fun x2=>(some (x2,(IntKind.i64.wrap (x1 + 1))))
  res:=fun (x3,x4)=>.str x3
  hp:=fun (x3,x4)=>[.cel [.str x0,.int .i64 x4]]
noncomputable def f138_L3(x0:(List UInt8)):Lp (Int×Int×Int) ((Int×Int)⊕(Int×Int)) where
  body:=fun (x1,x2,x3)=>(f162p x0 x3 1).bind fun x4=>(if (!x4)=true then (some (.brk (Sum.inr (x3,20)))) else ((f138_C4 x0 x3).run.bind fun (x5,x6)=>(at? x5 0).bind fun x7=>(must? (0≤x2)).bind fun _=>(if (decide (x2=63))=true then (if (decide (1<(x7.toNat:Int)))=true then (if (decide (1<(x7.toNat:Int)))=true then (some (.brk (Sum.inr (x6,3)))) else (if (decide ((x7.toNat:Int)<128))=true then (some (.brk (Sum.inl ((IntKind.u64.wrap ((BitVec.ofInt (IntKind.bits .u64) x1 ||| BitVec.ofInt (IntKind.bits .u64) (IntKind.u64.wrap ((IntKind.u64.wrap (IntKind.u8.wrap ((BitVec.ofInt (IntKind.bits .u8) (x7.toNat:Int) &&& BitVec.ofInt (IntKind.bits .u8) 127).toNat:Int))) * 2 ^ (min (Int.toNat x2) (IntKind.bits .u64))))).toNat:Int)),x6)))) else (some (.next ((IntKind.u64.wrap ((BitVec.ofInt (IntKind.bits .u64) x1 ||| BitVec.ofInt (IntKind.bits .u64) (IntKind.u64.wrap ((IntKind.u64.wrap (IntKind.u8.wrap ((BitVec.ofInt (IntKind.bits .u8) (x7.toNat:Int) &&& BitVec.ofInt (IntKind.bits .u8) 127).toNat:Int))) * 2 ^ (min (Int.toNat x2) (IntKind.bits .u64))))).toNat:Int)),(IntKind.i64.wrap (x2 + 7)),x6))))) else (if (decide ((x7.toNat:Int)=0))=true then (if (decide (0<x2))=true then (some (.brk (Sum.inr (x6,3)))) else (if (decide ((x7.toNat:Int)<128))=true then (some (.brk (Sum.inl ((IntKind.u64.wrap ((BitVec.ofInt (IntKind.bits .u64) x1 ||| BitVec.ofInt (IntKind.bits .u64) (IntKind.u64.wrap ((IntKind.u64.wrap (IntKind.u8.wrap ((BitVec.ofInt (IntKind.bits .u8) (x7.toNat:Int) &&& BitVec.ofInt (IntKind.bits .u8) 127).toNat:Int))) * 2 ^ (min (Int.toNat x2) (IntKind.bits .u64))))).toNat:Int)),x6)))) else (some (.next ((IntKind.u64.wrap ((BitVec.ofInt (IntKind.bits .u64) x1 ||| BitVec.ofInt (IntKind.bits .u64) (IntKind.u64.wrap ((IntKind.u64.wrap (IntKind.u8.wrap ((BitVec.ofInt (IntKind.bits .u8) (x7.toNat:Int) &&& BitVec.ofInt (IntKind.bits .u8) 127).toNat:Int))) * 2 ^ (min (Int.toNat x2) (IntKind.bits .u64))))).toNat:Int)),(IntKind.i64.wrap (x2 + 7)),x6))))) else (if (decide ((x7.toNat:Int)<128))=true then (some (.brk (Sum.inl ((IntKind.u64.wrap ((BitVec.ofInt (IntKind.bits .u64) x1 ||| BitVec.ofInt (IntKind.bits .u64) (IntKind.u64.wrap ((IntKind.u64.wrap (IntKind.u8.wrap ((BitVec.ofInt (IntKind.bits .u8) (x7.toNat:Int) &&& BitVec.ofInt (IntKind.bits .u8) 127).toNat:Int))) * 2 ^ (min (Int.toNat x2) (IntKind.bits .u64))))).toNat:Int)),x6)))) else (some (.next ((IntKind.u64.wrap ((BitVec.ofInt (IntKind.bits .u64) x1 ||| BitVec.ofInt (IntKind.bits .u64) (IntKind.u64.wrap ((IntKind.u64.wrap (IntKind.u8.wrap ((BitVec.ofInt (IntKind.bits .u8) (x7.toNat:Int) &&& BitVec.ofInt (IntKind.bits .u8) 127).toNat:Int))) * 2 ^ (min (Int.toNat x2) (IntKind.bits .u64))))).toNat:Int)),(IntKind.i64.wrap (x2 + 7)),x6)))))) else (if (decide ((x7.toNat:Int)=0))=true then (if (decide (0<x2))=true then (some (.brk (Sum.inr (x6,3)))) else (if (decide ((x7.toNat:Int)<128))=true then (some (.brk (Sum.inl ((IntKind.u64.wrap ((BitVec.ofInt (IntKind.bits .u64) x1 ||| BitVec.ofInt (IntKind.bits .u64) (IntKind.u64.wrap ((IntKind.u64.wrap (IntKind.u8.wrap ((BitVec.ofInt (IntKind.bits .u8) (x7.toNat:Int) &&& BitVec.ofInt (IntKind.bits .u8) 127).toNat:Int))) * 2 ^ (min (Int.toNat x2) (IntKind.bits .u64))))).toNat:Int)),x6)))) else (some (.next ((IntKind.u64.wrap ((BitVec.ofInt (IntKind.bits .u64) x1 ||| BitVec.ofInt (IntKind.bits .u64) (IntKind.u64.wrap ((IntKind.u64.wrap (IntKind.u8.wrap ((BitVec.ofInt (IntKind.bits .u8) (x7.toNat:Int) &&& BitVec.ofInt (IntKind.bits .u8) 127).toNat:Int))) * 2 ^ (min (Int.toNat x2) (IntKind.bits .u64))))).toNat:Int)),(IntKind.i64.wrap (x2 + 7)),x6))))) else (if (decide ((x7.toNat:Int)<128))=true then (some (.brk (Sum.inl ((IntKind.u64.wrap ((BitVec.ofInt (IntKind.bits .u64) x1 ||| BitVec.ofInt (IntKind.bits .u64) (IntKind.u64.wrap ((IntKind.u64.wrap (IntKind.u8.wrap ((BitVec.ofInt (IntKind.bits .u8) (x7.toNat:Int) &&& BitVec.ofInt (IntKind.bits .u8) 127).toNat:Int))) * 2 ^ (min (Int.toNat x2) (IntKind.bits .u64))))).toNat:Int)),x6)))) else (some (.next ((IntKind.u64.wrap ((BitVec.ofInt (IntKind.bits .u64) x1 ||| BitVec.ofInt (IntKind.bits .u64) (IntKind.u64.wrap ((IntKind.u64.wrap (IntKind.u8.wrap ((BitVec.ofInt (IntKind.bits .u8) (x7.toNat:Int) &&& BitVec.ofInt (IntKind.bits .u8) 127).toNat:Int))) * 2 ^ (min (Int.toNat x2) (IntKind.bits .u64))))).toNat:Int)),(IntKind.i64.wrap (x2 + 7)),x6))))))))
  cst:=fun (x1,x2,x3)=>⟨put (put (put (fun _=>.junk) 5 (.int .i64 x2)) 4 (.int .u64 x1)) 0 (.ptr 0 0),[.cel [.str x0,.int .i64 x3]]⟩
theorem f138_L3c(x0:(List UInt8))(x1:Int)(x2:Int)(x3:Int):(f138_L3 x0).cst (x1,x2,x3)=⟨put (put (put (fun _=>.junk) 5 (.int .i64 x2)) 4 (.int .u64 x1)) 0 (.ptr 0 0),[.cel [.str x0,.int .i64 x3]]⟩:=rfl
noncomputable def f138_C2(x0:(List UInt8))(x1:Int):Il (Int×Int×Int) where
  run:=((Lp.run (f138_L3 x0) (0,0,x1)).bind fun r_=>match r_ with | (Sum.inl (x2,x3))=>(some ((IntKind.i64.wrap ((BitVec.ofInt (IntKind.bits .i64) (IntKind.i64.wrap (Int.fdiv x2 (2 ^ (min (Int.toNat 1) (IntKind.bits .u64))))) ^^^ BitVec.ofInt (IntKind.bits .i64) (IntKind.i64.wrap (0 - (IntKind.i64.wrap (IntKind.u64.wrap ((BitVec.ofInt (IntKind.bits .u64) x2 &&& BitVec.ofInt (IntKind.bits .u64) 1).toNat:Int)))))).toNat:Int)),0,x3)) | (Sum.inr (x4,x5))=>(some (0,x5,x4)))
  res:=fun (x6,x7,x8)=>.tup [.int .i64 x6,.int .i64 x7]
  hp:=fun (x6,x7,x8)=>[.cel [.str x0,.int .i64 x8]]
noncomputable def f138_C5(x0:(List UInt8))(x1:Int)(x2:Int):Il ((List UInt8)×Int) where
  run:=(slc? x0 (IntKind.i64.wrap ((IntKind.i64.wrap (x1 + x2)) - x2)) (IntKind.i64.wrap (x1 + x2))).bind fun x3=>(some (x3,(IntKind.i64.wrap (x1 + x2))))
  res:=fun (x4,x5)=>.str x4
  hp:=fun (x4,x5)=>[.cel [.str x0,.int .i64 x5]]
noncomputable def f138_C1(x0:(List UInt8))(x1:Int):Il ((List UInt8)×Int×Int) where
  run:=((f138_C2 x0 x1).run.bind fun (x2,x3,x4)=>(if (decide (x3≠0))=true then (some ([],x3,x4)) else (if (decide (x2<0))=true then (some ([],3,x4)) else (if (decide (65535<x2))=true then (some ([],3,x4)) else (f162p x0 x4 x2).bind fun x5=>(if (!x5)=true then (some ([],20,x4)) else ((f138_C5 x0 x4 x2).run.bind fun (x6,x7)=>(some (x6,0,x7))))))))
  res:=fun (x8,x9,xa)=>.tup [.str x8,.int .i64 x9]
  hp:=fun (x8,x9,xa)=>[.cel [.str x0,.int .i64 xa]]
def c138_0:C:=.cond (.t 18) (.seq (.reg [iI 19 (.mv (.t 8)),iI 4 (.mv (.c (.str []))),iI 5 (.mv (.c (.int .i64 0))),iI 6 (.mv (.t 19))]) .ret) (.skip)
def c138_1:C:=.seq (.reg [iI 17 (.mv (.t 8)),iI 18 (.bin .neq (.t 17) (.c (.int .i64 0)))]) c138_0
def c138_2:C:=.cond (.t 26) (.seq (.reg [iI 27 (.mv (.t 10)),iI 4 (.mv (.c (.str []))),iI 5 (.mv (.c (.int .i64 0))),iI 6 (.mv (.t 27))]) .ret) (.skip)
def c138_3:C:=.seq (.reg [iI 28 (.mv (.t 9)),iI 29 (.mv (.t 7)),iI 30 (.nilchk (.t 29)),iI 31 (.faddr 1 (.t 30)),iI 32 (.load 0 (.t 31)),iI 4 (.mv (.t 28)),iI 5 (.mv (.t 32)),iI 6 (.mv (.c (.int .i64 0)))]) .ret
def c138_4:C:=.seq (.seq (.reg [iI 25 (.mv (.t 10)),iI 26 (.bin .neq (.t 25) (.c (.int .i64 0)))]) c138_2) c138_3
def c138_5:C:=.seq (.reg [iI 21 (.mv (.t 7)),iI 22 (.call (.c (.fn 165 [])) [(.t 21)]),iI 20 (.mv (.t 22)),iI 23 (.ext (.t 20) 0),iI 24 (.ext (.t 20) 1),iI 9 (.mv (.t 23)),iI 10 (.mv (.t 24))]) c138_4
def c138_6:C:=.seq (.seq (.reg [iI 15 (.mv (.t 7)),iI 16 (.call (.c (.fn 161 [])) [(.t 15)]),iI 8 (.mv (.t 16))]) c138_1) c138_5
def c138_7:C:=.seq (.reg [iI 11 (.mv (.t 0)),iI 12 (.mv (.t 1)),iI 13 (.build [(1,(.str [])),(1,(.int .i64 0))] [(0,0,(.t 11)),(1,0,(.t 12))]),iI 14 (.box (.t 13)),iI 7 (.mv (.t 14))]) c138_6
def ir138:C:=.seq (.reg [iI 4 (.mv (.c (.str []))),iI 5 (.mv (.c (.int .i64 0))),iI 6 (.mv (.c (.int .i64 0)))]) c138_7
theorem fd138:fd? Try.prog 138=some (33,[.slot 4,.slot 5,.slot 6],ir138):=by kernel_rfl
noncomputable def f138(x0:(List UInt8))(x1:Int):Option ((List UInt8)×Int×Int) :=
  (f161p x0 x1).bind fun x2=>(if (decide (x2≠0))=true then (some ([],0,x2)) else ((f138_C1 x0 x1).run.bind fun (x3,x4,x5)=>(if (decide (x4≠0))=true then (some ([],0,x4)) else (some (x3,x5,0)))))
theorem f138_ok{x0:(List UInt8)}{x1:Int}{r_:(List UInt8)×Int×Int}(H:f138 x0 x1=some r_):Pure Try.prog 138 [.str x0,.int .i64 x1] (· = .tup [.str r_.1,.int .i64 r_.2.1,.int .i64 r_.2.2]):=by
 refine Pure.walk3 fd138 none (Nat.le_of_ble_eq_true rfl) (by rfl) fun Q hQ=>?_
 simp only[f138] at H
 refine AW.rseq ?_
 try simp only[↓wk,↓wl,nq,evV,↓reduceIte,sevalprocAttr]
 refine AW.rseq ?_
 try simp only[↓wk,↓wl,nq,evV,↓reduceIte,sevalprocAttr]
 refine AW.sseq ?_
 refine AW.rseq ?_
 try simp only[↓wk,↓wl,nq,evV,↓reduceIte,sevalprocAttr]
 refine evTs_flat hFn H (fun _ h=>f161p_ok h) (by rfl) (by rfl) (by simp only[deep_eq,imm_simps,imm_rowE,imm_ptrE,imm_enc,omap_simps,take_map_len,take_map_set,take_map_set2,List.length_set,le_refl_true,Nat.zero_add,and_true,true_and,List.drop_zero,Option.map_some,↓wk,↓wl,nq,evV,↓reduceIte,sevalprocAttr];rfl) (by rfl) (fun _=>rfl) (fun _=>rfl) ?_<;>clear H<;>intro x2 H
 try simp only[eL,↓wk,↓wl,nq,evV,↓reduceIte,sevalprocAttr]
 refine AW.rseq ?_
 try simp only[↓wk,↓wl,nq,evV,↓reduceIte,sevalprocAttr]
 refine AW.ifc H (by rfl) ?_ ?_<;>clear H<;>intro H
 ·refine AW.rseq ?_
  try simp only[↓wk,↓wl,nq,evV,↓reduceIte,sevalprocAttr]
  refine AW.ret ?_
  refine seqQ.ret ?_
  cases H
  exact hQ.fin
 ·refine AW.skip ?_
  refine seqQ.norm ?_
  refine AW.rseq ?_
  try simp only[↓wk,↓wl,nq,evV,↓reduceIte,sevalprocAttr]
  refine evTs_inl (I:=f138_C1 x0 x1) (args:=[.ptr 0 0]) H (by rfl) fd165 (by rfl) (Nat.le_of_ble_eq_true rfl) ?_ ?_<;>clear H
  ·rintro v_ Q_ H hqf138_C1
   simp only[f138_C1] at H
   dsimp only[List.length_cons,List.length_nil]
   refine AW.rseq ?_
   try simp only[↓wk,↓wl,nq,evV,↓reduceIte,sevalprocAttr]
   refine AW.rseq ?_
   try simp only[↓wk,↓wl,nq,evV,↓reduceIte,sevalprocAttr]
   refine evTs_inl (I:=f138_C2 x0 x1) (args:=[.ptr 0 0]) H (by rfl) fd164 (by rfl) (Nat.le_of_ble_eq_true rfl) ?_ ?_<;>clear H
   ·rintro v_ Q_ H hqf138_C2
    simp only[f138_C2] at H
    dsimp only[List.length_cons,List.length_nil]
    refine AW.rseq ?_
    try simp only[↓wk,↓wl,nq,evV,↓reduceIte,sevalprocAttr]
    refine AW.scope ?_
    refine AW.rseq ?_
    try simp only[↓wk,↓wl,nq,evV,↓reduceIte,sevalprocAttr]
    refine AW.skseq ?_
    refine AW.sseq ?_
    refine AW.rseq ?_
    try simp only[↓wk,↓wl,nq,evV,↓reduceIte,sevalprocAttr]
    refine AW.bend ?_
    refine AW.iter H ((Le.tq 1 [0] [0,4,5] (by simp only[f138_L3c,rrm,↓wk,↓wl,evV,↓reduceIte,sevalprocAttr]<;>rfl))) ?_<;>clear H
    rintro ⟨x3,x4,x5⟩ x_ st0_ H hst_
    rw[f138_L3c] at hst_
    simp only[f138_L3] at H
    subst hst_
    refine AW.bseq ?_
    refine AW.sseq ?_
    refine AW.rseq ?_
    try simp only[↓wk,↓wl,nq,evV,↓reduceIte,sevalprocAttr]
    refine evTs_flat hFn H (fun _ h=>f162p_ok h) (by rfl) (by rfl) (by simp only[deep_eq,imm_simps,imm_rowE,imm_ptrE,imm_enc,omap_simps,take_map_len,take_map_set,take_map_set2,List.length_set,le_refl_true,Nat.zero_add,and_true,true_and,List.drop_zero,Option.map_some,↓wk,↓wl,nq,evV,↓reduceIte,sevalprocAttr];rfl) (by rfl) (fun _=>rfl) (fun _=>rfl) ?_<;>clear H<;>intro x6 H
    try simp only[eL,↓wk,↓wl,nq,evV,↓reduceIte,sevalprocAttr]
    refine AW.ifc H (by rfl) ?_ ?_<;>clear H<;>intro H
    ·refine AW.rseq ?_
     try simp only[↓wk,↓wl,nq,evV,↓reduceIte,sevalprocAttr]
     refine AW.ret ?_
     refine seqQ.ret ?_
     refine blkQ.ret ?_
     refine loopQ.ret H ?_<;>clear H<;>intro H
     try dsimp only at H
     refine blk0.ret ?_
     refine seqQ.ret ?_
     cases H
     exact hqf138_C2 _ _ _ (.inr rfl) (Le.tq 1 [0] [2,3] rfl) (by simp only[resVs,omap,resV,f138_C2,rrm,↓wk,↓wl,evV,↓reduceIte,sevalprocAttr]) (by simp only[f138_C2,rrm,↓wk,↓wl,evV,↓reduceIte,sevalprocAttr])
    ·refine AW.skip ?_
     refine seqQ.norm ?_
     refine AW.rseq ?_
     try simp only[↓wk,↓wl,nq,evV,↓reduceIte,sevalprocAttr]
     refine evTs_inl (I:=f138_C4 x0 x5) (args:=[.ptr 0 0,.int .i64 1]) H (by rfl) fd163 (by rfl) (Nat.le_of_ble_eq_true rfl) ?_ ?_<;>clear H
     ·rintro v_ Q_ H hqf138_C4
      simp only[f138_C4] at H
      dsimp only[List.length_cons,List.length_nil]
      refine AW.rseq ?_
      try simp only[↓wk,↓wl,nq,evV,↓reduceIte,sevalprocAttr]
      refine AW.rseq ?_
      try simp only[↓wk,↓wl,nq,evV,↓reduceIte,sevalprocAttr]
      refine AW.rseq ?_
      try simp only[↓wk,↓wl,nq,evV,↓reduceIte,sevalprocAttr]
      refine evTs_sslc H (by rfl) (by simp only[loI,hiI,↓wk,↓wl,nq,evV,↓reduceIte,sevalprocAttr];rfl) (by simp only[loI,hiI,↓wk,↓wl,nq,evV,↓reduceIte,sevalprocAttr];rfl) ?_<;>clear H<;>intro x7 H
      try simp only[↓wk,↓wl,nq,evV,↓reduceIte,sevalprocAttr]
      refine AW.ret ?_
      cases H
      exact hqf138_C4 _ _ _ (.inr rfl) (Le.tq 1 [0] [4] rfl) (by simp only[resVs,omap,resV,f138_C4,rrm,↓wk,↓wl,evV,↓reduceIte,sevalprocAttr]) (by simp only[f138_C4,rrm,↓wk,↓wl,evV,↓reduceIte,sevalprocAttr])
     ·rintro ⟨x8,x9⟩ s_ h_ H hs_ hh_
      simp only[f138_C4] at H hs_ hh_
      subst hs_
      subst hh_
      try simp only[↓wk,↓wl,nq,evV,↓reduceIte,sevalprocAttr]
      refine evTs_sat H (by rfl) (by rfl) ?_<;>clear H<;>intro xa H
      try simp only[↓wk,↓wl,nq,evV,↓reduceIte,sevalprocAttr]
      refine AW.rseq ?_
      try simp only[↓wk,↓wl,nq,evV,↓reduceIte,sevalprocAttr]
      refine rest_and ?_
      try simp only[↓wk,↓wl,nq,evV,↓reduceIte,sevalprocAttr]
      refine rest_shlv H ?_<;>clear H<;>intro H
      try simp only[↓wk,↓wl,nq,evV,↓reduceIte,sevalprocAttr]
      refine rest_or ?_
      try simp only[↓wk,↓wl,nq,evV,↓reduceIte,sevalprocAttr]
      refine AW.bend ?_
      refine AW.sseq ?_
      refine AW.rseq ?_
      try simp only[↓wk,↓wl,nq,evV,↓reduceIte,sevalprocAttr]
      refine evTs_ifg H (by rfl) ?_ ?_<;>clear H<;>intro H
      ·try simp only[↓wk,↓wl,nq,evV,↓reduceIte,sevalprocAttr]
       refine AW.ifc H (by rfl) ?_ ?_<;>clear H<;>intro H
       ·refine AW.skip ?_
        refine seqQ.norm ?_
        refine AW.ifc H (by rfl) ?_ ?_<;>clear H<;>intro H
        ·refine AW.rseq ?_
         try simp only[↓wk,↓wl,nq,evV,↓reduceIte,sevalprocAttr]
         refine AW.ret ?_
         refine blk0.ret ?_
         refine blkQ.ret ?_
         refine loopQ.ret H ?_<;>clear H<;>intro H
         try dsimp only at H
         refine blk0.ret ?_
         refine seqQ.ret ?_
         cases H
         exact hqf138_C2 _ _ _ (.inr rfl) (Le.tq 1 [0] [2,3] rfl) (by simp only[resVs,omap,resV,f138_C2,rrm,↓wk,↓wl,evV,↓reduceIte,sevalprocAttr]) (by simp only[f138_C2,rrm,↓wk,↓wl,evV,↓reduceIte,sevalprocAttr])
        ·refine AW.rseq ?_
         try simp only[↓wk,↓wl,nq,evV,↓reduceIte,sevalprocAttr]
         refine AW.ifc H (by rfl) ?_ ?_<;>clear H<;>intro H
         ·refine AW.exit ?_
          refine blk0.out (by rfl) ?_
          refine blkQ.out (by rfl) ?_
          refine loopQ.exit H ?_<;>clear H<;>intro H
          try dsimp only at H
          refine blk0.here ?_
          refine seqQ.norm ?_
          refine AW.rseq ?_
          try simp only[↓wk,↓wl,nq,evV,↓reduceIte,sevalprocAttr]
          refine rest_shr (by decide) ?_
          try simp only[↓wk,↓wl,nq,evV,↓reduceIte,sevalprocAttr]
          refine rest_and ?_
          try simp only[↓wk,↓wl,nq,evV,↓reduceIte,sevalprocAttr]
          refine rest_xor ?_
          try simp only[↓wk,↓wl,nq,evV,↓reduceIte,sevalprocAttr]
          refine AW.ret ?_
          cases H
          exact hqf138_C2 _ _ _ (.inr rfl) (Le.tq 1 [0] [2,3] rfl) (by simp only[resVs,omap,resV,f138_C2,rrm,↓wk,↓wl,evV,↓reduceIte,sevalprocAttr]) (by simp only[f138_C2,rrm,↓wk,↓wl,evV,↓reduceIte,sevalprocAttr])
         ·refine AW.skip ?_
          refine blk0.norm ?_
          refine blkQ.norm ?_
          refine AW.rend ?_
          try simp only[↓wk,↓wl,nq,evV,↓reduceIte,sevalprocAttr]
          exact loopQ.next H ((Le.tq 1 [0] [0,4,5] (by simp only[f138_L3c,rrm,↓wk,↓wl,evV,↓reduceIte,sevalprocAttr]<;>rfl)))
       ·refine AW.rend ?_
        try simp only[↓wk,↓wl,nq,evV,↓reduceIte,sevalprocAttr]
        refine evTs_ifg H (by rfl) ?_ ?_<;>clear H<;>intro H
        ·try simp only[↓wk,↓wl,nq,evV,↓reduceIte,sevalprocAttr]
         refine seqQ.norm ?_
         refine AW.ifc H (by rfl) ?_ ?_<;>clear H<;>intro H
         ·refine AW.rseq ?_
          try simp only[↓wk,↓wl,nq,evV,↓reduceIte,sevalprocAttr]
          refine AW.ret ?_
          refine blk0.ret ?_
          refine blkQ.ret ?_
          refine loopQ.ret H ?_<;>clear H<;>intro H
          try dsimp only at H
          refine blk0.ret ?_
          refine seqQ.ret ?_
          cases H
          exact hqf138_C2 _ _ _ (.inr rfl) (Le.tq 1 [0] [2,3] rfl) (by simp only[resVs,omap,resV,f138_C2,rrm,↓wk,↓wl,evV,↓reduceIte,sevalprocAttr]) (by simp only[f138_C2,rrm,↓wk,↓wl,evV,↓reduceIte,sevalprocAttr])
         ·refine AW.rseq ?_
          try simp only[↓wk,↓wl,nq,evV,↓reduceIte,sevalprocAttr]
          refine AW.ifc H (by rfl) ?_ ?_<;>clear H<;>intro H
          ·refine AW.exit ?_
           refine blk0.out (by rfl) ?_
           refine blkQ.out (by rfl) ?_
           refine loopQ.exit H ?_<;>clear H<;>intro H
           try dsimp only at H
           refine blk0.here ?_
           refine seqQ.norm ?_
           refine AW.rseq ?_
           try simp only[↓wk,↓wl,nq,evV,↓reduceIte,sevalprocAttr]
           refine rest_shr (by decide) ?_
           try simp only[↓wk,↓wl,nq,evV,↓reduceIte,sevalprocAttr]
           refine rest_and ?_
           try simp only[↓wk,↓wl,nq,evV,↓reduceIte,sevalprocAttr]
           refine rest_xor ?_
           try simp only[↓wk,↓wl,nq,evV,↓reduceIte,sevalprocAttr]
           refine AW.ret ?_
           cases H
           exact hqf138_C2 _ _ _ (.inr rfl) (Le.tq 1 [0] [2,3] rfl) (by simp only[resVs,omap,resV,f138_C2,rrm,↓wk,↓wl,evV,↓reduceIte,sevalprocAttr]) (by simp only[f138_C2,rrm,↓wk,↓wl,evV,↓reduceIte,sevalprocAttr])
          ·refine AW.skip ?_
           refine blk0.norm ?_
           refine blkQ.norm ?_
           refine AW.rend ?_
           try simp only[↓wk,↓wl,nq,evV,↓reduceIte,sevalprocAttr]
           exact loopQ.next H ((Le.tq 1 [0] [0,4,5] (by simp only[f138_L3c,rrm,↓wk,↓wl,evV,↓reduceIte,sevalprocAttr]<;>rfl)))
        ·try simp only[↓wk,↓wl,nq,evV,↓reduceIte,sevalprocAttr]
         refine seqQ.norm ?_
         refine AW.iff (by rfl) ?_
         refine AW.rseq ?_
         try simp only[↓wk,↓wl,nq,evV,↓reduceIte,sevalprocAttr]
         refine AW.ifc H (by rfl) ?_ ?_<;>clear H<;>intro H
         ·refine AW.exit ?_
          refine blk0.out (by rfl) ?_
          refine blkQ.out (by rfl) ?_
          refine loopQ.exit H ?_<;>clear H<;>intro H
          try dsimp only at H
          refine blk0.here ?_
          refine seqQ.norm ?_
          refine AW.rseq ?_
          try simp only[↓wk,↓wl,nq,evV,↓reduceIte,sevalprocAttr]
          refine rest_shr (by decide) ?_
          try simp only[↓wk,↓wl,nq,evV,↓reduceIte,sevalprocAttr]
          refine rest_and ?_
          try simp only[↓wk,↓wl,nq,evV,↓reduceIte,sevalprocAttr]
          refine rest_xor ?_
          try simp only[↓wk,↓wl,nq,evV,↓reduceIte,sevalprocAttr]
          refine AW.ret ?_
          cases H
          exact hqf138_C2 _ _ _ (.inr rfl) (Le.tq 1 [0] [2,3] rfl) (by simp only[resVs,omap,resV,f138_C2,rrm,↓wk,↓wl,evV,↓reduceIte,sevalprocAttr]) (by simp only[f138_C2,rrm,↓wk,↓wl,evV,↓reduceIte,sevalprocAttr])
         ·refine AW.skip ?_
          refine blk0.norm ?_
          refine blkQ.norm ?_
          refine AW.rend ?_
          try simp only[↓wk,↓wl,nq,evV,↓reduceIte,sevalprocAttr]
          exact loopQ.next H ((Le.tq 1 [0] [0,4,5] (by simp only[f138_L3c,rrm,↓wk,↓wl,evV,↓reduceIte,sevalprocAttr]<;>rfl)))
      ·try simp only[↓wk,↓wl,nq,evV,↓reduceIte,sevalprocAttr]
       refine AW.iff (by rfl) ?_
       refine AW.rend ?_
       try simp only[↓wk,↓wl,nq,evV,↓reduceIte,sevalprocAttr]
       refine evTs_ifg H (by rfl) ?_ ?_<;>clear H<;>intro H
       ·try simp only[↓wk,↓wl,nq,evV,↓reduceIte,sevalprocAttr]
        refine seqQ.norm ?_
        refine AW.ifc H (by rfl) ?_ ?_<;>clear H<;>intro H
        ·refine AW.rseq ?_
         try simp only[↓wk,↓wl,nq,evV,↓reduceIte,sevalprocAttr]
         refine AW.ret ?_
         refine blk0.ret ?_
         refine blkQ.ret ?_
         refine loopQ.ret H ?_<;>clear H<;>intro H
         try dsimp only at H
         refine blk0.ret ?_
         refine seqQ.ret ?_
         cases H
         exact hqf138_C2 _ _ _ (.inr rfl) (Le.tq 1 [0] [2,3] rfl) (by simp only[resVs,omap,resV,f138_C2,rrm,↓wk,↓wl,evV,↓reduceIte,sevalprocAttr]) (by simp only[f138_C2,rrm,↓wk,↓wl,evV,↓reduceIte,sevalprocAttr])
        ·refine AW.rseq ?_
         try simp only[↓wk,↓wl,nq,evV,↓reduceIte,sevalprocAttr]
         refine AW.ifc H (by rfl) ?_ ?_<;>clear H<;>intro H
         ·refine AW.exit ?_
          refine blk0.out (by rfl) ?_
          refine blkQ.out (by rfl) ?_
          refine loopQ.exit H ?_<;>clear H<;>intro H
          try dsimp only at H
          refine blk0.here ?_
          refine seqQ.norm ?_
          refine AW.rseq ?_
          try simp only[↓wk,↓wl,nq,evV,↓reduceIte,sevalprocAttr]
          refine rest_shr (by decide) ?_
          try simp only[↓wk,↓wl,nq,evV,↓reduceIte,sevalprocAttr]
          refine rest_and ?_
          try simp only[↓wk,↓wl,nq,evV,↓reduceIte,sevalprocAttr]
          refine rest_xor ?_
          try simp only[↓wk,↓wl,nq,evV,↓reduceIte,sevalprocAttr]
          refine AW.ret ?_
          cases H
          exact hqf138_C2 _ _ _ (.inr rfl) (Le.tq 1 [0] [2,3] rfl) (by simp only[resVs,omap,resV,f138_C2,rrm,↓wk,↓wl,evV,↓reduceIte,sevalprocAttr]) (by simp only[f138_C2,rrm,↓wk,↓wl,evV,↓reduceIte,sevalprocAttr])
         ·refine AW.skip ?_
          refine blk0.norm ?_
          refine blkQ.norm ?_
          refine AW.rend ?_
          try simp only[↓wk,↓wl,nq,evV,↓reduceIte,sevalprocAttr]
          exact loopQ.next H ((Le.tq 1 [0] [0,4,5] (by simp only[f138_L3c,rrm,↓wk,↓wl,evV,↓reduceIte,sevalprocAttr]<;>rfl)))
       ·try simp only[↓wk,↓wl,nq,evV,↓reduceIte,sevalprocAttr]
        refine seqQ.norm ?_
        refine AW.iff (by rfl) ?_
        refine AW.rseq ?_
        try simp only[↓wk,↓wl,nq,evV,↓reduceIte,sevalprocAttr]
        refine AW.ifc H (by rfl) ?_ ?_<;>clear H<;>intro H
        ·refine AW.exit ?_
         refine blk0.out (by rfl) ?_
         refine blkQ.out (by rfl) ?_
         refine loopQ.exit H ?_<;>clear H<;>intro H
         try dsimp only at H
         refine blk0.here ?_
         refine seqQ.norm ?_
         refine AW.rseq ?_
         try simp only[↓wk,↓wl,nq,evV,↓reduceIte,sevalprocAttr]
         refine rest_shr (by decide) ?_
         try simp only[↓wk,↓wl,nq,evV,↓reduceIte,sevalprocAttr]
         refine rest_and ?_
         try simp only[↓wk,↓wl,nq,evV,↓reduceIte,sevalprocAttr]
         refine rest_xor ?_
         try simp only[↓wk,↓wl,nq,evV,↓reduceIte,sevalprocAttr]
         refine AW.ret ?_
         cases H
         exact hqf138_C2 _ _ _ (.inr rfl) (Le.tq 1 [0] [2,3] rfl) (by simp only[resVs,omap,resV,f138_C2,rrm,↓wk,↓wl,evV,↓reduceIte,sevalprocAttr]) (by simp only[f138_C2,rrm,↓wk,↓wl,evV,↓reduceIte,sevalprocAttr])
        ·refine AW.skip ?_
         refine blk0.norm ?_
         refine blkQ.norm ?_
         refine AW.rend ?_
         try simp only[↓wk,↓wl,nq,evV,↓reduceIte,sevalprocAttr]
         exact loopQ.next H ((Le.tq 1 [0] [0,4,5] (by simp only[f138_L3c,rrm,↓wk,↓wl,evV,↓reduceIte,sevalprocAttr]<;>rfl)))
   ·rintro ⟨xb,xc,xd⟩ s_ h_ H hs_ hh_
    simp only[f138_C2] at H hs_ hh_
    subst hs_
    subst hh_
    try simp only[↓wk,↓wl,nq,evV,↓reduceIte,sevalprocAttr]
    refine AW.bseq ?_
    refine AW.rseq ?_
    try simp only[↓wk,↓wl,nq,evV,↓reduceIte,sevalprocAttr]
    refine AW.ifc H (by rfl) ?_ ?_<;>clear H<;>intro H
    ·refine AW.rseq ?_
     try simp only[↓wk,↓wl,nq,evV,↓reduceIte,sevalprocAttr]
     refine AW.ret ?_
     refine blkQ.ret ?_
     cases H
     exact hqf138_C1 _ _ _ (.inr rfl) (Le.tq 1 [0] [2,3] rfl) (by simp only[resVs,omap,resV,f138_C1,rrm,↓wk,↓wl,evV,↓reduceIte,sevalprocAttr]) (by simp only[f138_C1,rrm,↓wk,↓wl,evV,↓reduceIte,sevalprocAttr])
    ·refine AW.rseq ?_
     try simp only[↓wk,↓wl,nq,evV,↓reduceIte,sevalprocAttr]
     refine evTs_ifg H (by rfl) ?_ ?_<;>clear H<;>intro H
     ·try simp only[↓wk,↓wl,nq,evV,↓reduceIte,sevalprocAttr]
      refine AW.ift (by rfl) ?_
      refine AW.rseq ?_
      try simp only[↓wk,↓wl,nq,evV,↓reduceIte,sevalprocAttr]
      refine AW.ret ?_
      refine blkQ.ret ?_
      cases H
      exact hqf138_C1 _ _ _ (.inr rfl) (Le.tq 1 [0] [2,3] rfl) (by simp only[resVs,omap,resV,f138_C1,rrm,↓wk,↓wl,evV,↓reduceIte,sevalprocAttr]) (by simp only[f138_C1,rrm,↓wk,↓wl,evV,↓reduceIte,sevalprocAttr])
     ·try simp only[↓wk,↓wl,nq,evV,↓reduceIte,sevalprocAttr]
      refine AW.ifc H (by rfl) ?_ ?_<;>clear H<;>intro H
      ·refine AW.rseq ?_
       try simp only[↓wk,↓wl,nq,evV,↓reduceIte,sevalprocAttr]
       refine AW.ret ?_
       refine blkQ.ret ?_
       cases H
       exact hqf138_C1 _ _ _ (.inr rfl) (Le.tq 1 [0] [2,3] rfl) (by simp only[resVs,omap,resV,f138_C1,rrm,↓wk,↓wl,evV,↓reduceIte,sevalprocAttr]) (by simp only[f138_C1,rrm,↓wk,↓wl,evV,↓reduceIte,sevalprocAttr])
      ·refine AW.rseq ?_
       try simp only[↓wk,↓wl,nq,evV,↓reduceIte,sevalprocAttr]
       refine evTs_flat hFn H (fun _ h=>f162p_ok h) (by rfl) (by rfl) (by simp only[deep_eq,imm_simps,imm_rowE,imm_ptrE,imm_enc,omap_simps,take_map_len,take_map_set,take_map_set2,List.length_set,le_refl_true,Nat.zero_add,and_true,true_and,List.drop_zero,Option.map_some,↓wk,↓wl,nq,evV,↓reduceIte,sevalprocAttr];rfl) (by rfl) (fun _=>rfl) (fun _=>rfl) ?_<;>clear H<;>intro xe H
       try simp only[eL,↓wk,↓wl,nq,evV,↓reduceIte,sevalprocAttr]
       refine AW.ifc H (by rfl) ?_ ?_<;>clear H<;>intro H
       ·refine AW.rseq ?_
        try simp only[↓wk,↓wl,nq,evV,↓reduceIte,sevalprocAttr]
        refine AW.ret ?_
        refine blkQ.ret ?_
        cases H
        exact hqf138_C1 _ _ _ (.inr rfl) (Le.tq 1 [0] [2,3] rfl) (by simp only[resVs,omap,resV,f138_C1,rrm,↓wk,↓wl,evV,↓reduceIte,sevalprocAttr]) (by simp only[f138_C1,rrm,↓wk,↓wl,evV,↓reduceIte,sevalprocAttr])
       ·refine AW.skip ?_
        refine blkQ.norm ?_
        refine AW.rseq ?_
        try simp only[↓wk,↓wl,nq,evV,↓reduceIte,sevalprocAttr]
        refine evTs_inl (I:=f138_C5 x0 xd xb) (args:=[.ptr 0 0,.int .i64 xb]) H (by rfl) fd163 (by rfl) (Nat.le_of_ble_eq_true rfl) ?_ ?_<;>clear H
        ·rintro v_ Q_ H hqf138_C5
         simp only[f138_C5] at H
         dsimp only[List.length_cons,List.length_nil]
         refine AW.rseq ?_
         try simp only[↓wk,↓wl,nq,evV,↓reduceIte,sevalprocAttr]
         refine AW.rseq ?_
         try simp only[↓wk,↓wl,nq,evV,↓reduceIte,sevalprocAttr]
         refine AW.rseq ?_
         try simp only[↓wk,↓wl,nq,evV,↓reduceIte,sevalprocAttr]
         refine evTs_sslc H (by rfl) (by simp only[loI,hiI,↓wk,↓wl,nq,evV,↓reduceIte,sevalprocAttr];rfl) (by simp only[loI,hiI,↓wk,↓wl,nq,evV,↓reduceIte,sevalprocAttr];rfl) ?_<;>clear H<;>intro xf H
         try simp only[↓wk,↓wl,nq,evV,↓reduceIte,sevalprocAttr]
         refine AW.ret ?_
         cases H
         exact hqf138_C5 _ _ _ (.inr rfl) (Le.tq 1 [0] [4] rfl) (by simp only[resVs,omap,resV,f138_C5,rrm,↓wk,↓wl,evV,↓reduceIte,sevalprocAttr]) (by simp only[f138_C5,rrm,↓wk,↓wl,evV,↓reduceIte,sevalprocAttr])
        ·rintro ⟨xg,xh⟩ s_ h_ H hs_ hh_
         simp only[f138_C5] at H hs_ hh_
         subst hs_
         subst hh_
         try simp only[↓wk,↓wl,nq,evV,↓reduceIte,sevalprocAttr]
         refine AW.ret ?_
         cases H
         exact hqf138_C1 _ _ _ (.inr rfl) (Le.tq 1 [0] [2,3] rfl) (by simp only[resVs,omap,resV,f138_C1,rrm,↓wk,↓wl,evV,↓reduceIte,sevalprocAttr]) (by simp only[f138_C1,rrm,↓wk,↓wl,evV,↓reduceIte,sevalprocAttr])
  ·rintro ⟨xi,xj,xk⟩ s_ h_ H hs_ hh_
   simp only[f138_C1] at H hs_ hh_
   subst hs_
   subst hh_
   try simp only[↓wk,↓wl,nq,evV,↓reduceIte,sevalprocAttr]
   refine AW.sseq ?_
   refine AW.rseq ?_
   try simp only[↓wk,↓wl,nq,evV,↓reduceIte,sevalprocAttr]
   refine AW.ifc H (by rfl) ?_ ?_<;>clear H<;>intro H
   ·refine AW.rseq ?_
    try simp only[↓wk,↓wl,nq,evV,↓reduceIte,sevalprocAttr]
    refine AW.ret ?_
    refine seqQ.ret ?_
    cases H
    exact hQ.fin
   ·refine AW.skip ?_
    refine seqQ.norm ?_
    refine AW.rseq ?_
    try simp only[↓wk,↓wl,nq,evV,↓reduceIte,sevalprocAttr]
    refine AW.ret ?_
    cases H
    exact hQ.fin
noncomputable def f89_J1(x0:RecordEntry×Int×Int):Jn (Int×Int×Int×Int×Int×Int×Int) (NetworkPacket×Int) where
  run:=fun (x1,x2,x3,x4,x5,x6,x7)=>(f138 x0.1.fData x1).bind fun x8=>(if (decide (x8.2.2≠0))=true then (some ((NetworkPacket.mk 0 0 0 0 0 false ([])),3)) else (if (decide (x8.2.1<((x0.1.fData.length:Nat):Int)))=true then (some ((NetworkPacket.mk 0 0 0 0 0 false ([])),3)) else (if (decide (x6<0))=true then (some ((NetworkPacket.mk 0 0 0 0 0 false ([])),3)) else (f93 x7 0 1).bind fun x9=>(if (!x9)=true then (some ((NetworkPacket.mk 0 0 0 0 0 false ([])),3)) else (f59 (NetworkPacket.mk (IntKind.u64.wrap x6) x2 x3 x4 x5 (decide (x7=1)) x8.1)).bind fun xa=>(if (decide (xa≠0))=true then (some ((NetworkPacket.mk 0 0 0 0 0 false ([])),xa)) else (some ((NetworkPacket.mk (IntKind.u64.wrap x6) x2 x3 x4 x5 (decide (x7=1)) x8.1),0)))))))
  cst:=fun (x1,x2,x3,x4,x5,x6,x7)=>⟨put (put (put (put (put (put (fun _=>.junk) 10 (.int .i64 x1)) 9 (.ptr 4 0)) 8 (.ptr 3 0)) 7 (.ptr 2 0)) 4 (.ptr 1 0)) 2 (.ptr 0 0),[.cel [.int .u64 0,.int .i64 0,.int .i64 0,.int .i64 0,.int .i64 0,.bool false,.str ([])],.cel [.int .i64 x0.1.fKind,.str x0.1.fData],.cel [.int .u64 0,.int .i64 x2,.int .i64 x3,.int .i64 x4,.int .i64 x5,.bool false,.str ([])],.cel [.int .i64 x6],.cel [.int .i64 x7]]⟩
theorem f89_J1c(x0:RecordEntry×Int×Int)(x1:Int)(x2:Int)(x3:Int)(x4:Int)(x5:Int)(x6:Int)(x7:Int):(f89_J1 x0).cst (x1,x2,x3,x4,x5,x6,x7)=⟨put (put (put (put (put (put (fun _=>.junk) 10 (.int .i64 x1)) 9 (.ptr 4 0)) 8 (.ptr 3 0)) 7 (.ptr 2 0)) 4 (.ptr 1 0)) 2 (.ptr 0 0),[.cel [.int .u64 0,.int .i64 0,.int .i64 0,.int .i64 0,.int .i64 0,.bool false,.str ([])],.cel [.int .i64 x0.1.fKind,.str x0.1.fData],.cel [.int .u64 0,.int .i64 x2,.int .i64 x3,.int .i64 x4,.int .i64 x5,.bool false,.str ([])],.cel [.int .i64 x6],.cel [.int .i64 x7]]⟩:=rfl
def c89_0:C:=.cond (.t 31) (.seq (.reg [iI 35 (.build [(1,(.int .u64 0)),(1,(.int .i64 0)),(1,(.int .i64 0)),(1,(.int .i64 0)),(1,(.int .i64 0)),(1,(.bool false)),(1,(.str []))] []),iN (.store 7 (.t 2) (.t 35)),iI 3 (.mv (.c (.int .i64 1)))]) .ret) (.skip)
def c89_1:C:=.cond (.t 25) (.seq (.reg [iI 30 (.build [(1,(.int .u64 0)),(1,(.int .i64 0)),(1,(.int .i64 0)),(1,(.int .i64 0)),(1,(.int .i64 0)),(1,(.bool false)),(1,(.str []))] []),iN (.store 7 (.t 2) (.t 30)),iI 3 (.mv (.c (.int .i64 13)))]) .ret) (.seq (.reg [iI 32 (.faddr 0 (.t 4)),iI 33 (.load 0 (.t 32)),iI 34 (.bin .neq (.t 33) (.c (.int .i64 85))),iI 31 (.mv (.t 34))]) c89_0)
def c89_2:C:=.cond (.t 20) (.seq (.reg [iI 23 (.build [(1,(.int .u64 0)),(1,(.int .i64 0)),(1,(.int .i64 0)),(1,(.int .i64 0)),(1,(.int .i64 0)),(1,(.bool false)),(1,(.str []))] []),iI 24 (.mv (.t 6)),iN (.store 7 (.t 2) (.t 23)),iI 3 (.mv (.t 24))]) .ret) (.seq (.reg [iI 26 (.mv (.t 5)),iI 27 (.mv (.t 0)),iI 28 (.len 1 (.t 27)),iI 29 (.bin .lss (.t 26) (.t 28)),iI 25 (.mv (.t 29))]) c89_1)
def c89_3:C:=.cond (.t 55) (.seq (.reg [iI 56 (.build [(1,(.int .u64 0)),(1,(.int .i64 0)),(1,(.int .i64 0)),(1,(.int .i64 0)),(1,(.int .i64 0)),(1,(.bool false)),(1,(.str []))] []),iN (.store 7 (.t 2) (.t 56)),iI 3 (.mv (.c (.int .i64 3)))]) .ret) (.skip)
def c89_4:C:=.seq (.reg [iI 54 (.mv (.t 6)),iI 55 (.bin .neq (.t 54) (.c (.int .i64 0)))]) c89_3
def c89_5:C:=.seq (.reg [iI 45 (.mv (.t 12)),iI 46 (.faddr 1 (.t 4)),iI 47 (.load 0 (.t 46)),iI 48 (.mv (.t 10)),iI 49 (.call (.c (.fn 137 [])) [(.t 47),(.t 48)]),iI 44 (.mv (.t 49)),iI 50 (.ext (.t 44) 0),iI 51 (.ext (.t 44) 1),iI 52 (.ext (.t 44) 2),iI 53 (.nilchk (.t 45)),iN (.store 0 (.t 53) (.t 50)),iI 10 (.mv (.t 51)),iI 6 (.mv (.t 52))]) c89_4
def c89_6:C:=.reg [iI 57 (.bin .add (.t 41) (.c (.int .i64 1))),iI 41 (.mv (.t 57))]
def c89_7:C:=.seq (.block 2 (.seq (.reg [iI 43 (.idx 0 6 (.t 40) (.t 41)),iI 12 (.mv (.t 43))]) c89_5)) c89_6
def c89_8:C:=.seq (.cond (.t 42) (.skip) (.exit 1)) c89_7
def c89_9:C:=.block 1 (.loop (.seq (.reg [iI 42 (.bin .lss (.t 41) (.c (.int .i64 6)))]) c89_8))
def c89_10:C:=.cond (.t 84) (.seq (.reg [iI 85 (.build [(1,(.int .u64 0)),(1,(.int .i64 0)),(1,(.int .i64 0)),(1,(.int .i64 0)),(1,(.int .i64 0)),(1,(.bool false)),(1,(.str []))] []),iN (.store 7 (.t 2) (.t 85)),iI 3 (.mv (.c (.int .i64 3)))]) .ret) (.skip)
def c89_11:C:=.cond (.t 95) (.seq (.reg [iI 96 (.build [(1,(.int .u64 0)),(1,(.int .i64 0)),(1,(.int .i64 0)),(1,(.int .i64 0)),(1,(.int .i64 0)),(1,(.bool false)),(1,(.str []))] []),iI 97 (.mv (.t 13)),iN (.store 7 (.t 2) (.t 96)),iI 3 (.mv (.t 97))]) .ret) (.skip)
def c89_12:C:=.seq (.reg [iI 94 (.mv (.t 13)),iI 95 (.bin .neq (.t 94) (.c (.int .i64 0)))]) c89_11
def c89_13:C:=.seq (.reg [iI 98 (.load 7 (.t 7)),iN (.store 7 (.t 2) (.t 98)),iI 3 (.mv (.c (.int .i64 0)))]) .ret
def c89_14:C:=.seq (.seq (.reg [iI 92 (.load 7 (.t 7)),iI 93 (.call (.c (.fn 59 [])) [(.t 92)]),iI 13 (.mv (.t 93))]) c89_12) c89_13
def c89_15:C:=.seq (.reg [iI 86 (.load 0 (.t 8)),iI 87 (.cint .u64 (.t 86)),iI 88 (.load 0 (.t 9)),iI 89 (.bin .eql (.t 88) (.c (.int .i64 1))),iI 90 (.faddr 0 (.t 7)),iN (.store 0 (.t 90) (.t 87)),iI 91 (.faddr 5 (.t 7)),iN (.store 0 (.t 91) (.t 89))]) c89_14
def c89_16:C:=.seq (.seq (.reg [iI 67 (.mv (.t 6)),iI 68 (.bin .neq (.t 67) (.c (.int .i64 0))),iI 69 (.mv (.t 68)),iG (some 70) 69 false (.mv (.t 10)),iG (some 71) 69 false (.faddr 1 (.t 4)),iG (some 72) 69 false (.load 0 (.t 71)),iG (some 73) 69 false (.len 1 (.t 72)),iG (some 74) 69 false (.bin .lss (.t 70) (.t 73)),iI 75 (.pick (.t 69) (.c (.bool true)) (.t 74)),iI 76 (.mv (.t 75)),iG (some 77) 76 false (.load 0 (.t 8)),iG (some 78) 76 false (.bin .lss (.t 77) (.c (.int .i64 0))),iI 79 (.pick (.t 76) (.c (.bool true)) (.t 78)),iI 80 (.mv (.t 79)),iG (some 81) 80 false (.load 0 (.t 9)),iG (some 82) 80 false (.call (.c (.fn 93 [])) [(.t 81),(.c (.int .i64 0)),(.c (.int .i64 1))]),iG (some 83) 80 false (.un .not (.t 82)),iI 84 (.pick (.t 80) (.c (.bool true)) (.t 83))]) c89_10) c89_15
def c89_17:C:=.seq (.reg [iI 59 (.faddr 1 (.t 4)),iI 60 (.load 0 (.t 59)),iI 61 (.mv (.t 10)),iI 62 (.call (.c (.fn 138 [])) [(.t 60),(.t 61)]),iI 58 (.mv (.t 62)),iI 63 (.ext (.t 58) 0),iI 64 (.ext (.t 58) 1),iI 65 (.ext (.t 58) 2),iI 66 (.faddr 6 (.t 7)),iN (.store 0 (.t 66) (.t 63)),iI 10 (.mv (.t 64)),iI 6 (.mv (.t 65))]) c89_16
def c89_18:C:=.seq (.seq (.reg [iI 36 (.faddr 1 (.t 7)),iI 37 (.faddr 2 (.t 7)),iI 38 (.faddr 3 (.t 7)),iI 39 (.faddr 4 (.t 7)),iI 40 (.build [(6,.nilp)] [(0,0,(.t 8)),(1,0,(.t 36)),(2,0,(.t 37)),(3,0,(.t 38)),(4,0,(.t 39)),(5,0,(.t 9))]),iI 41 (.mv (.c (.int .i64 0)))]) c89_9) c89_17
def c89_19:C:=.seq (.reg [iI 8 (.alloc [(1,(.int .i64 0))]),iI 9 (.alloc [(1,(.int .i64 0))]),iN (.store 0 (.t 8) (.c (.int .i64 0))),iN (.store 0 (.t 9) (.c (.int .i64 0))),iI 10 (.mv (.c (.int .i64 0)))]) c89_18
def c89_20:C:=.seq (.reg [iI 7 (.alloc [(1,(.int .u64 0)),(1,(.int .i64 0)),(1,(.int .i64 0)),(1,(.int .i64 0)),(1,(.int .i64 0)),(1,(.bool false)),(1,(.str []))])]) c89_19
def c89_21:C:=.seq (.block 0 (.seq (.reg [iI 21 (.mv (.t 6)),iI 22 (.bin .neq (.t 21) (.c (.int .i64 0))),iI 20 (.mv (.t 22))]) c89_2)) c89_20
def c89_22:C:=.seq (.reg [iI 15 (.mv (.t 0)),iI 16 (.call (.c (.fn 136 [])) [(.t 15),(.c (.int .i64 0))]),iI 14 (.mv (.t 16)),iI 17 (.ext (.t 14) 0),iI 18 (.ext (.t 14) 1),iI 19 (.ext (.t 14) 2),iI 4 (.alloc [(1,(.int .i64 0)),(1,(.str []))]),iN (.store 2 (.t 4) (.t 17)),iI 5 (.mv (.t 18)),iI 6 (.mv (.t 19))]) c89_21
def ir89:C:=.seq (.reg [iI 2 (.alloc [(1,(.int .u64 0)),(1,(.int .i64 0)),(1,(.int .i64 0)),(1,(.int .i64 0)),(1,(.int .i64 0)),(1,(.bool false)),(1,(.str []))]),iI 3 (.mv (.c (.int .i64 0)))]) c89_22
theorem fd89:fd? Try.prog 89=some (99,[.cell 2 7,.slot 3],ir89):=by kernel_rfl
noncomputable def f89(x0:(List UInt8)):Option (NetworkPacket×Int) :=
  (f136 x0 0).bind fun x1=>(if (decide (x1.2.2≠0))=true then (some ((NetworkPacket.mk 0 0 0 0 0 false ([])),x1.2.2)) else (if (decide (x1.2.1<((x0.length:Nat):Int)))=true then (some ((NetworkPacket.mk 0 0 0 0 0 false ([])),13)) else (if (decide (x1.1.fKind≠85))=true then (some ((NetworkPacket.mk 0 0 0 0 0 false ([])),1)) else (f137 x1.1.fData 0).bind fun x2=>(if (decide (x2.2.2≠0))=true then (some ((NetworkPacket.mk 0 0 0 0 0 false ([])),3)) else (f137 x1.1.fData x2.2.1).bind fun x3=>(if (decide (x3.2.2≠0))=true then (some ((NetworkPacket.mk 0 0 0 0 0 false ([])),3)) else (f137 x1.1.fData x3.2.1).bind fun x4=>(if (decide (x4.2.2≠0))=true then (some ((NetworkPacket.mk 0 0 0 0 0 false ([])),3)) else (f137 x1.1.fData x4.2.1).bind fun x5=>(if (decide (x5.2.2≠0))=true then (some ((NetworkPacket.mk 0 0 0 0 0 false ([])),3)) else (f137 x1.1.fData x5.2.1).bind fun x6=>(if (decide (x6.2.2≠0))=true then (some ((NetworkPacket.mk 0 0 0 0 0 false ([])),3)) else (f137 x1.1.fData x6.2.1).bind fun x7=>(if (decide (x7.2.2≠0))=true then (some ((NetworkPacket.mk 0 0 0 0 0 false ([])),3)) else ((f89_J1 x1).run (x7.2.1,x3.1,x4.1,x5.1,x6.1,x2.1,x7.1)))))))))))
theorem f89_ok{x0:(List UInt8)}{r_:NetworkPacket×Int}(H:f89 x0=some r_):Pure Try.prog 89 [.str x0] (· = .tup [.agg [.int .u64 r_.1.fSource,.int .i64 r_.1.fUniverse,.int .i64 r_.1.fPriority,.int .i64 r_.1.fSeq,.int .i64 r_.1.fSync,.bool r_.1.fEnd,.str r_.1.fSlots],.int .i64 r_.2]):=by
 refine Pure.walk3 fd89 none (Nat.le_of_ble_eq_true rfl) (by rfl) fun Q hQ=>?_
 simp only[f89] at H
 refine AW.rseq ?_
 try simp only[↓wk,↓wl,nq,evV,↓reduceIte,sevalprocAttr]
 refine AW.rseq ?_
 try simp only[↓wk,↓wl,nq,evV,↓reduceIte,sevalprocAttr]
 refine evTs_pure hFn H (fun _ h=>f136_ok h) (by rfl) (by rfl) (by rfl) (by rfl) (fun _=>rfl) ?_<;>clear H<;>intro x1 H
 try simp only[eL,eRecordEntry,↓wk,↓wl,nq,evV,↓reduceIte,sevalprocAttr]
 refine AW.bseq ?_
 refine AW.rseq ?_
 try simp only[↓wk,↓wl,nq,evV,↓reduceIte,sevalprocAttr]
 refine AW.ifc H (by rfl) ?_ ?_<;>clear H<;>intro H
 ·refine AW.rseq ?_
  try simp only[↓wk,↓wl,nq,evV,↓reduceIte,sevalprocAttr]
  refine AW.ret ?_
  refine blkQ.ret ?_
  cases H
  exact hQ.fin
 ·refine AW.rseq ?_
  try simp only[↓wk,↓wl,nq,evV,↓reduceIte,sevalprocAttr]
  refine AW.ifc H (by rfl) ?_ ?_<;>clear H<;>intro H
  ·refine AW.rseq ?_
   try simp only[↓wk,↓wl,nq,evV,↓reduceIte,sevalprocAttr]
   refine AW.ret ?_
   refine blkQ.ret ?_
   cases H
   exact hQ.fin
  ·refine AW.rseq ?_
   try simp only[↓wk,↓wl,nq,evV,↓reduceIte,sevalprocAttr]
   refine AW.ifc H (by rfl) ?_ ?_<;>clear H<;>intro H
   ·refine AW.rseq ?_
    try simp only[↓wk,↓wl,nq,evV,↓reduceIte,sevalprocAttr]
    refine AW.ret ?_
    refine blkQ.ret ?_
    cases H
    exact hQ.fin
   ·refine AW.skip ?_
    refine blkQ.norm ?_
    refine AW.rseq ?_
    try simp only[↓wk,↓wl,nq,evV,↓reduceIte,sevalprocAttr]
    refine AW.rseq ?_
    try simp only[↓wk,↓wl,nq,evV,↓reduceIte,sevalprocAttr]
    refine AW.join (f89_J1 x1) H ?_ fun hf89_J1=>?_
    ·clear H
     rintro ⟨x2,x3,x4,x5,x6,x7,x8⟩ st0_ H hst_
     rw[f89_J1c] at hst_
     simp only[f89_J1] at H
     subst hst_
     refine AW.rseq ?_
     try simp only[↓wk,↓wl,nq,evV,↓reduceIte,sevalprocAttr]
     refine evTs_pure hFn H (fun _ h=>f138_ok h) (by rfl) (by rfl) (by rfl) (by rfl) (fun _=>rfl) ?_<;>clear H<;>intro x9 H
     try simp only[eL,↓wk,↓wl,nq,evV,↓reduceIte,sevalprocAttr]
     refine AW.sseq ?_
     refine AW.rseq ?_
     try simp only[↓wk,↓wl,nq,evV,↓reduceIte,sevalprocAttr]
     refine evTs_ifg H (by rfl) ?_ ?_<;>clear H<;>intro H
     ·try simp only[↓wk,↓wl,nq,evV,↓reduceIte,sevalprocAttr]
      refine AW.ift (by rfl) ?_
      refine AW.rseq ?_
      try simp only[↓wk,↓wl,nq,evV,↓reduceIte,sevalprocAttr]
      refine AW.ret ?_
      refine seqQ.ret ?_
      cases H
      exact hQ.fin
     ·try simp only[↓wk,↓wl,nq,evV,↓reduceIte,sevalprocAttr]
      refine evTs_ifg H (by rfl) ?_ ?_<;>clear H<;>intro H
      ·try simp only[↓wk,↓wl,nq,evV,↓reduceIte,sevalprocAttr]
       refine AW.ift (by rfl) ?_
       refine AW.rseq ?_
       try simp only[↓wk,↓wl,nq,evV,↓reduceIte,sevalprocAttr]
       refine AW.ret ?_
       refine seqQ.ret ?_
       cases H
       exact hQ.fin
      ·try simp only[↓wk,↓wl,nq,evV,↓reduceIte,sevalprocAttr]
       refine evTs_ifg H (by rfl) ?_ ?_<;>clear H<;>intro H
       ·try simp only[↓wk,↓wl,nq,evV,↓reduceIte,sevalprocAttr]
        refine AW.ift (by rfl) ?_
        refine AW.rseq ?_
        try simp only[↓wk,↓wl,nq,evV,↓reduceIte,sevalprocAttr]
        refine AW.ret ?_
        refine seqQ.ret ?_
        cases H
        exact hQ.fin
       ·try simp only[↓wk,↓wl,nq,evV,↓reduceIte,sevalprocAttr]
        refine evTs_pure hFn H (fun _ h=>f93_ok h) (by rfl) (by rfl) (by rfl) (by rfl) (fun _=>rfl) ?_<;>clear H<;>intro xa H
        try simp only[eL,↓wk,↓wl,nq,evV,↓reduceIte,sevalprocAttr]
        refine AW.ifc H (by rfl) ?_ ?_<;>clear H<;>intro H
        ·refine AW.rseq ?_
         try simp only[↓wk,↓wl,nq,evV,↓reduceIte,sevalprocAttr]
         refine AW.ret ?_
         refine seqQ.ret ?_
         cases H
         exact hQ.fin
        ·refine AW.skip ?_
         refine seqQ.norm ?_
         refine AW.rseq ?_
         try simp only[↓wk,↓wl,nq,evV,↓reduceIte,sevalprocAttr]
         refine AW.sseq ?_
         refine AW.rseq ?_
         try simp only[↓wk,↓wl,nq,evV,↓reduceIte,sevalprocAttr]
         refine evTs_pure hFn H (fun _ h=>f59_ok h) (by rfl) (by rfl) (by rfl) (by rfl) (fun _=>rfl) ?_<;>clear H<;>intro xb H
         try simp only[eL,↓wk,↓wl,nq,evV,↓reduceIte,sevalprocAttr]
         refine AW.rseq ?_
         try simp only[↓wk,↓wl,nq,evV,↓reduceIte,sevalprocAttr]
         refine AW.ifc H (by rfl) ?_ ?_<;>clear H<;>intro H
         ·refine AW.rseq ?_
          try simp only[↓wk,↓wl,nq,evV,↓reduceIte,sevalprocAttr]
          refine AW.ret ?_
          refine seqQ.ret ?_
          cases H
          exact hQ.fin
         ·refine AW.skip ?_
          refine seqQ.norm ?_
          refine AW.rseq ?_
          try simp only[↓wk,↓wl,nq,evV,↓reduceIte,sevalprocAttr]
          refine AW.ret ?_
          cases H
          exact hQ.fin
    ·refine AW.rseq ?_
     try simp only[↓wk,↓wl,nq,evV,↓reduceIte,sevalprocAttr]
     refine AW.bend ?_
     refine AW.rounds 40 ?_
     refine Rounds.go ?_
     refine AW.rseq ?_
     try simp only[↓wk,↓wl,nq,evV,↓reduceIte,sevalprocAttr]
     refine AW.sseq ?_
     refine AW.ift (by rfl) ?_
     refine AW.skip ?_
     refine seqQ.norm ?_
     refine AW.bseq ?_
     refine AW.rseq ?_
     try simp only[↓wk,↓wl,nq,evV,↓reduceIte,sevalprocAttr]
     refine evTs_any (v:=.ptr 3 0) rfl (by rfl) ?_
     try simp only[↓wk,↓wl,nq,evV,↓reduceIte,sevalprocAttr]
     refine AW.rseq ?_
     try simp only[↓wk,↓wl,nq,evV,↓reduceIte,sevalprocAttr]
     refine evTs_pure hFn H (fun _ h=>f137_ok h) (by rfl) (by rfl) (by rfl) (by rfl) (fun _=>rfl) ?_<;>clear H<;>intro xc H
     try simp only[eL,↓wk,↓wl,nq,evV,↓reduceIte,sevalprocAttr]
     refine AW.rseq ?_
     try simp only[↓wk,↓wl,nq,evV,↓reduceIte,sevalprocAttr]
     refine AW.ifc H (by rfl) ?_ ?_<;>clear H<;>intro H
     ·refine AW.rseq ?_
      try simp only[↓wk,↓wl,nq,evV,↓reduceIte,sevalprocAttr]
      refine AW.ret ?_
      refine blkQ.ret ?_
      refine roundQ.ret ?_
      refine blk0.ret ?_
      refine seqQ.ret ?_
      cases H
      exact hQ.fin
     ·refine AW.skip ?_
      refine blkQ.norm ?_
      refine AW.rend ?_
      try simp only[↓wk,↓wl,nq,evV,↓reduceIte,sevalprocAttr]
      refine roundQ.next (st2:=⟨put (put (put (put (put (put (put (put (fun _=>.junk) 41 (.int .i64 1)) 40 (.agg [.ptr 3 0,.ptr 2 1,.ptr 2 2,.ptr 2 3,.ptr 2 4,.ptr 4 0])) 10 (.int .i64 xc.2.1)) 9 (.ptr 4 0)) 8 (.ptr 3 0)) 7 (.ptr 2 0)) 4 (.ptr 1 0)) 2 (.ptr 0 0),[.cel [.int .u64 0,.int .i64 0,.int .i64 0,.int .i64 0,.int .i64 0,.bool false,.str ([])],.cel [.int .i64 x1.1.fKind,.str x1.1.fData],.cel [.int .u64 0,.int .i64 0,.int .i64 0,.int .i64 0,.int .i64 0,.bool false,.str ([])],.cel [.int .i64 xc.1],.cel [.int .i64 0]]⟩) (Le.tz [0,1,2,3,4] [2,4,7,8,9,10,40,41] (by simp only[rrm,↓wk,↓wl,evV,↓reduceIte,sevalprocAttr]<;>rfl)) ?_
      refine Rounds.go ?_
      refine AW.rseq ?_
      try simp only[↓wk,↓wl,nq,evV,↓reduceIte,sevalprocAttr]
      refine AW.sseq ?_
      refine AW.ift (by rfl) ?_
      refine AW.skip ?_
      refine seqQ.norm ?_
      refine AW.bseq ?_
      refine AW.rseq ?_
      try simp only[↓wk,↓wl,nq,evV,↓reduceIte,sevalprocAttr]
      refine evTs_any (v:=.ptr 2 1) rfl (by rfl) ?_
      try simp only[↓wk,↓wl,nq,evV,↓reduceIte,sevalprocAttr]
      refine AW.rseq ?_
      try simp only[↓wk,↓wl,nq,evV,↓reduceIte,sevalprocAttr]
      refine evTs_pure hFn H (fun _ h=>f137_ok h) (by rfl) (by rfl) (by rfl) (by rfl) (fun _=>rfl) ?_<;>clear H<;>intro xd H
      try simp only[eL,↓wk,↓wl,nq,evV,↓reduceIte,sevalprocAttr]
      refine AW.rseq ?_
      try simp only[↓wk,↓wl,nq,evV,↓reduceIte,sevalprocAttr]
      refine AW.ifc H (by rfl) ?_ ?_<;>clear H<;>intro H
      ·refine AW.rseq ?_
       try simp only[↓wk,↓wl,nq,evV,↓reduceIte,sevalprocAttr]
       refine AW.ret ?_
       refine blkQ.ret ?_
       refine roundQ.ret ?_
       refine blk0.ret ?_
       refine seqQ.ret ?_
       cases H
       exact hQ.fin
      ·refine AW.skip ?_
       refine blkQ.norm ?_
       refine AW.rend ?_
       try simp only[↓wk,↓wl,nq,evV,↓reduceIte,sevalprocAttr]
       refine roundQ.next (st2:=⟨put (put (put (put (put (put (put (put (fun _=>.junk) 41 (.int .i64 2)) 40 (.agg [.ptr 3 0,.ptr 2 1,.ptr 2 2,.ptr 2 3,.ptr 2 4,.ptr 4 0])) 10 (.int .i64 xd.2.1)) 9 (.ptr 4 0)) 8 (.ptr 3 0)) 7 (.ptr 2 0)) 4 (.ptr 1 0)) 2 (.ptr 0 0),[.cel [.int .u64 0,.int .i64 0,.int .i64 0,.int .i64 0,.int .i64 0,.bool false,.str ([])],.cel [.int .i64 x1.1.fKind,.str x1.1.fData],.cel [.int .u64 0,.int .i64 xd.1,.int .i64 0,.int .i64 0,.int .i64 0,.bool false,.str ([])],.cel [.int .i64 xc.1],.cel [.int .i64 0]]⟩) (Le.tz [0,1,2,3,4] [2,4,7,8,9,10,40,41] (by simp only[rrm,↓wk,↓wl,evV,↓reduceIte,sevalprocAttr]<;>rfl)) ?_
       refine Rounds.go ?_
       refine AW.rseq ?_
       try simp only[↓wk,↓wl,nq,evV,↓reduceIte,sevalprocAttr]
       refine AW.sseq ?_
       refine AW.ift (by rfl) ?_
       refine AW.skip ?_
       refine seqQ.norm ?_
       refine AW.bseq ?_
       refine AW.rseq ?_
       try simp only[↓wk,↓wl,nq,evV,↓reduceIte,sevalprocAttr]
       refine evTs_any (v:=.ptr 2 2) rfl (by rfl) ?_
       try simp only[↓wk,↓wl,nq,evV,↓reduceIte,sevalprocAttr]
       refine AW.rseq ?_
       try simp only[↓wk,↓wl,nq,evV,↓reduceIte,sevalprocAttr]
       refine evTs_pure hFn H (fun _ h=>f137_ok h) (by rfl) (by rfl) (by rfl) (by rfl) (fun _=>rfl) ?_<;>clear H<;>intro xe H
       try simp only[eL,↓wk,↓wl,nq,evV,↓reduceIte,sevalprocAttr]
       refine AW.rseq ?_
       try simp only[↓wk,↓wl,nq,evV,↓reduceIte,sevalprocAttr]
       refine AW.ifc H (by rfl) ?_ ?_<;>clear H<;>intro H
       ·refine AW.rseq ?_
        try simp only[↓wk,↓wl,nq,evV,↓reduceIte,sevalprocAttr]
        refine AW.ret ?_
        refine blkQ.ret ?_
        refine roundQ.ret ?_
        refine blk0.ret ?_
        refine seqQ.ret ?_
        cases H
        exact hQ.fin
       ·refine AW.skip ?_
        refine blkQ.norm ?_
        refine AW.rend ?_
        try simp only[↓wk,↓wl,nq,evV,↓reduceIte,sevalprocAttr]
        refine roundQ.next (st2:=⟨put (put (put (put (put (put (put (put (fun _=>.junk) 41 (.int .i64 3)) 40 (.agg [.ptr 3 0,.ptr 2 1,.ptr 2 2,.ptr 2 3,.ptr 2 4,.ptr 4 0])) 10 (.int .i64 xe.2.1)) 9 (.ptr 4 0)) 8 (.ptr 3 0)) 7 (.ptr 2 0)) 4 (.ptr 1 0)) 2 (.ptr 0 0),[.cel [.int .u64 0,.int .i64 0,.int .i64 0,.int .i64 0,.int .i64 0,.bool false,.str ([])],.cel [.int .i64 x1.1.fKind,.str x1.1.fData],.cel [.int .u64 0,.int .i64 xd.1,.int .i64 xe.1,.int .i64 0,.int .i64 0,.bool false,.str ([])],.cel [.int .i64 xc.1],.cel [.int .i64 0]]⟩) (Le.tz [0,1,2,3,4] [2,4,7,8,9,10,40,41] (by simp only[rrm,↓wk,↓wl,evV,↓reduceIte,sevalprocAttr]<;>rfl)) ?_
        refine Rounds.go ?_
        refine AW.rseq ?_
        try simp only[↓wk,↓wl,nq,evV,↓reduceIte,sevalprocAttr]
        refine AW.sseq ?_
        refine AW.ift (by rfl) ?_
        refine AW.skip ?_
        refine seqQ.norm ?_
        refine AW.bseq ?_
        refine AW.rseq ?_
        try simp only[↓wk,↓wl,nq,evV,↓reduceIte,sevalprocAttr]
        refine evTs_any (v:=.ptr 2 3) rfl (by rfl) ?_
        try simp only[↓wk,↓wl,nq,evV,↓reduceIte,sevalprocAttr]
        refine AW.rseq ?_
        try simp only[↓wk,↓wl,nq,evV,↓reduceIte,sevalprocAttr]
        refine evTs_pure hFn H (fun _ h=>f137_ok h) (by rfl) (by rfl) (by rfl) (by rfl) (fun _=>rfl) ?_<;>clear H<;>intro xf H
        try simp only[eL,↓wk,↓wl,nq,evV,↓reduceIte,sevalprocAttr]
        refine AW.rseq ?_
        try simp only[↓wk,↓wl,nq,evV,↓reduceIte,sevalprocAttr]
        refine AW.ifc H (by rfl) ?_ ?_<;>clear H<;>intro H
        ·refine AW.rseq ?_
         try simp only[↓wk,↓wl,nq,evV,↓reduceIte,sevalprocAttr]
         refine AW.ret ?_
         refine blkQ.ret ?_
         refine roundQ.ret ?_
         refine blk0.ret ?_
         refine seqQ.ret ?_
         cases H
         exact hQ.fin
        ·refine AW.skip ?_
         refine blkQ.norm ?_
         refine AW.rend ?_
         try simp only[↓wk,↓wl,nq,evV,↓reduceIte,sevalprocAttr]
         refine roundQ.next (st2:=⟨put (put (put (put (put (put (put (put (fun _=>.junk) 41 (.int .i64 4)) 40 (.agg [.ptr 3 0,.ptr 2 1,.ptr 2 2,.ptr 2 3,.ptr 2 4,.ptr 4 0])) 10 (.int .i64 xf.2.1)) 9 (.ptr 4 0)) 8 (.ptr 3 0)) 7 (.ptr 2 0)) 4 (.ptr 1 0)) 2 (.ptr 0 0),[.cel [.int .u64 0,.int .i64 0,.int .i64 0,.int .i64 0,.int .i64 0,.bool false,.str ([])],.cel [.int .i64 x1.1.fKind,.str x1.1.fData],.cel [.int .u64 0,.int .i64 xd.1,.int .i64 xe.1,.int .i64 xf.1,.int .i64 0,.bool false,.str ([])],.cel [.int .i64 xc.1],.cel [.int .i64 0]]⟩) (Le.tz [0,1,2,3,4] [2,4,7,8,9,10,40,41] (by simp only[rrm,↓wk,↓wl,evV,↓reduceIte,sevalprocAttr]<;>rfl)) ?_
         refine Rounds.go ?_
         refine AW.rseq ?_
         try simp only[↓wk,↓wl,nq,evV,↓reduceIte,sevalprocAttr]
         refine AW.sseq ?_
         refine AW.ift (by rfl) ?_
         refine AW.skip ?_
         refine seqQ.norm ?_
         refine AW.bseq ?_
         refine AW.rseq ?_
         try simp only[↓wk,↓wl,nq,evV,↓reduceIte,sevalprocAttr]
         refine evTs_any (v:=.ptr 2 4) rfl (by rfl) ?_
         try simp only[↓wk,↓wl,nq,evV,↓reduceIte,sevalprocAttr]
         refine AW.rseq ?_
         try simp only[↓wk,↓wl,nq,evV,↓reduceIte,sevalprocAttr]
         refine evTs_pure hFn H (fun _ h=>f137_ok h) (by rfl) (by rfl) (by rfl) (by rfl) (fun _=>rfl) ?_<;>clear H<;>intro xg H
         try simp only[eL,↓wk,↓wl,nq,evV,↓reduceIte,sevalprocAttr]
         refine AW.rseq ?_
         try simp only[↓wk,↓wl,nq,evV,↓reduceIte,sevalprocAttr]
         refine AW.ifc H (by rfl) ?_ ?_<;>clear H<;>intro H
         ·refine AW.rseq ?_
          try simp only[↓wk,↓wl,nq,evV,↓reduceIte,sevalprocAttr]
          refine AW.ret ?_
          refine blkQ.ret ?_
          refine roundQ.ret ?_
          refine blk0.ret ?_
          refine seqQ.ret ?_
          cases H
          exact hQ.fin
         ·refine AW.skip ?_
          refine blkQ.norm ?_
          refine AW.rend ?_
          try simp only[↓wk,↓wl,nq,evV,↓reduceIte,sevalprocAttr]
          refine roundQ.next (st2:=⟨put (put (put (put (put (put (put (put (fun _=>.junk) 41 (.int .i64 5)) 40 (.agg [.ptr 3 0,.ptr 2 1,.ptr 2 2,.ptr 2 3,.ptr 2 4,.ptr 4 0])) 10 (.int .i64 xg.2.1)) 9 (.ptr 4 0)) 8 (.ptr 3 0)) 7 (.ptr 2 0)) 4 (.ptr 1 0)) 2 (.ptr 0 0),[.cel [.int .u64 0,.int .i64 0,.int .i64 0,.int .i64 0,.int .i64 0,.bool false,.str ([])],.cel [.int .i64 x1.1.fKind,.str x1.1.fData],.cel [.int .u64 0,.int .i64 xd.1,.int .i64 xe.1,.int .i64 xf.1,.int .i64 xg.1,.bool false,.str ([])],.cel [.int .i64 xc.1],.cel [.int .i64 0]]⟩) (Le.tz [0,1,2,3,4] [2,4,7,8,9,10,40,41] (by simp only[rrm,↓wk,↓wl,evV,↓reduceIte,sevalprocAttr]<;>rfl)) ?_
          refine Rounds.go ?_
          refine AW.rseq ?_
          try simp only[↓wk,↓wl,nq,evV,↓reduceIte,sevalprocAttr]
          refine AW.sseq ?_
          refine AW.ift (by rfl) ?_
          refine AW.skip ?_
          refine seqQ.norm ?_
          refine AW.bseq ?_
          refine AW.rseq ?_
          try simp only[↓wk,↓wl,nq,evV,↓reduceIte,sevalprocAttr]
          refine evTs_any (v:=.ptr 4 0) rfl (by rfl) ?_
          try simp only[↓wk,↓wl,nq,evV,↓reduceIte,sevalprocAttr]
          refine AW.rseq ?_
          try simp only[↓wk,↓wl,nq,evV,↓reduceIte,sevalprocAttr]
          refine evTs_pure hFn H (fun _ h=>f137_ok h) (by rfl) (by rfl) (by rfl) (by rfl) (fun _=>rfl) ?_<;>clear H<;>intro xh H
          try simp only[eL,↓wk,↓wl,nq,evV,↓reduceIte,sevalprocAttr]
          refine AW.rseq ?_
          try simp only[↓wk,↓wl,nq,evV,↓reduceIte,sevalprocAttr]
          refine AW.ifc H (by rfl) ?_ ?_<;>clear H<;>intro H
          ·refine AW.rseq ?_
           try simp only[↓wk,↓wl,nq,evV,↓reduceIte,sevalprocAttr]
           refine AW.ret ?_
           refine blkQ.ret ?_
           refine roundQ.ret ?_
           refine blk0.ret ?_
           refine seqQ.ret ?_
           cases H
           exact hQ.fin
          ·refine AW.skip ?_
           refine blkQ.norm ?_
           refine AW.rend ?_
           try simp only[↓wk,↓wl,nq,evV,↓reduceIte,sevalprocAttr]
           refine roundQ.next (st2:=⟨put (put (put (put (put (put (put (put (fun _=>.junk) 41 (.int .i64 6)) 40 (.agg [.ptr 3 0,.ptr 2 1,.ptr 2 2,.ptr 2 3,.ptr 2 4,.ptr 4 0])) 10 (.int .i64 xh.2.1)) 9 (.ptr 4 0)) 8 (.ptr 3 0)) 7 (.ptr 2 0)) 4 (.ptr 1 0)) 2 (.ptr 0 0),[.cel [.int .u64 0,.int .i64 0,.int .i64 0,.int .i64 0,.int .i64 0,.bool false,.str ([])],.cel [.int .i64 x1.1.fKind,.str x1.1.fData],.cel [.int .u64 0,.int .i64 xd.1,.int .i64 xe.1,.int .i64 xf.1,.int .i64 xg.1,.bool false,.str ([])],.cel [.int .i64 xc.1],.cel [.int .i64 xh.1]]⟩) (Le.tz [0,1,2,3,4] [2,4,7,8,9,10,40,41] (by simp only[rrm,↓wk,↓wl,evV,↓reduceIte,sevalprocAttr]<;>rfl)) ?_
           refine Rounds.go ?_
           refine AW.rseq ?_
           try simp only[↓wk,↓wl,nq,evV,↓reduceIte,sevalprocAttr]
           refine AW.sseq ?_
           refine AW.iff (by rfl) ?_
           refine AW.exit ?_
           refine seqQ.exit ?_
           refine roundQ.exit ?_
           refine blk0.here ?_
           refine seqQ.norm ?_
           exact hf89_J1 _ _ H ((Le.tz [0,1,2,3,4] [2,4,7,8,9,10] (by simp only[f89_J1c,rrm,↓wk,↓wl,evV,↓reduceIte,sevalprocAttr]<;>rfl)))
noncomputable def f51_L1(x0:(List NetworkPacket))(x1:Bool)(x2:Int):Lp (Int×(List ReceiverInput)) (((List ReceiverInput))⊕((List ReceiverInput))) where
  body:=fun (x3,x4)=>(if (decide (x3<((x0.length:Nat):Int)))=true then (at? x0 x3).bind fun x5=>(f88 x5).bind fun x6=>(f89 x6.1).bind fun x7=>(if (decide (x6.2≠0))=true then (some (.brk (Sum.inr x4))) else (if (decide (x7.2≠0))=true then (some (.brk (Sum.inr x4))) else (if (!((x7.1.fSource == x5.fSource) && ((x7.1.fUniverse == x5.fUniverse) && ((x7.1.fPriority == x5.fPriority) && ((x7.1.fSeq == x5.fSeq) && ((x7.1.fSync == x5.fSync) && ((x7.1.fEnd == x5.fEnd) && ((x7.1.fSlots == x5.fSlots) && true))))))))=true then (some (.brk (Sum.inr x4))) else (if x1=true then (some (.next ((IntKind.i64.wrap (x3 + 1)),x4))) else (f16 (ReceiverReceiver.mk x4) x2 x7.1).bind fun x8=>(if (decide (x8.2.2≠0))=true then (some (.brk (Sum.inr x4))) else (some (.next ((IntKind.i64.wrap (x3 + 1)),x8.1.fInputs)))))))) else (some (.brk (Sum.inl x4))))
  cst:=fun (x3,x4)=>⟨put (put (put (put (put (put (put (fun _=>.junk) 20 (.int .i64 x3)) 19 (.int .i64 ((x0.length:Nat):Int))) 18 (.sl 7 false (x0.map eNetworkPacket))) 8 (.ptr 1 0)) 4 (.ptr 0 0)) 3 (.bool x1)) 1 (.int .i64 x2),[.cel [.sl 8 false (x4.map eReceiverInput)],.cel [.sl 8 true []]]⟩
theorem f51_L1c(x0:(List NetworkPacket))(x1:Bool)(x2:Int)(x3:Int)(x4:(List ReceiverInput)):(f51_L1 x0 x1 x2).cst (x3,x4)=⟨put (put (put (put (put (put (put (fun _=>.junk) 20 (.int .i64 x3)) 19 (.int .i64 ((x0.length:Nat):Int))) 18 (.sl 7 false (x0.map eNetworkPacket))) 8 (.ptr 1 0)) 4 (.ptr 0 0)) 3 (.bool x1)) 1 (.int .i64 x2),[.cel [.sl 8 false (x4.map eReceiverInput)],.cel [.sl 8 true []]]⟩:=rfl
def c51_0:C:=.cond (.t 44) (.seq (.reg [iI 45 (.load 1 (.t 4)),iN (.store 1 (.t 8) (.t 45)),iI 9 (.mv (.c (.bool false)))]) .ret) (.skip)
def c51_1:C:=.cond (.t 46) (.exit 1) (.skip)
def c51_2:C:=.cond (.t 56) (.seq (.reg [iI 57 (.load 1 (.t 4)),iN (.store 1 (.t 8) (.t 57)),iI 9 (.mv (.c (.bool false)))]) .ret) (.skip)
def c51_3:C:=.reg [iI 58 (.load 1 (.t 16)),iN (.store 1 (.t 4) (.t 58))]
def c51_4:C:=.seq (.seq (.reg [iI 55 (.mv (.t 13)),iI 56 (.bin .neq (.t 55) (.c (.int .i64 0)))]) c51_2) c51_3
def c51_5:C:=.seq (.reg [iI 48 (.load 1 (.t 4)),iI 49 (.mv (.t 1)),iI 50 (.load 7 (.t 14)),iI 51 (.call (.c (.fn 16 [])) [(.t 48),(.t 49),(.t 50)]),iI 47 (.mv (.t 51)),iI 52 (.ext (.t 47) 0),iI 53 (.ext (.t 47) 1),iI 54 (.ext (.t 47) 2),iI 16 (.alloc [(1,(.sl 8 true []))]),iN (.store 1 (.t 16) (.t 52)),iI 17 (.mv (.t 53)),iI 13 (.mv (.t 54))]) c51_4
def c51_6:C:=.seq (.seq (.reg [iI 46 (.mv (.t 3))]) c51_1) c51_5
def c51_7:C:=.seq (.seq (.reg [iI 34 (.mv (.t 13)),iI 35 (.bin .neq (.t 34) (.c (.int .i64 0))),iI 36 (.mv (.t 35)),iG (some 37) 36 false (.mv (.t 15)),iG (some 38) 36 false (.bin .neq (.t 37) (.c (.int .i64 0))),iI 39 (.pick (.t 36) (.c (.bool true)) (.t 38)),iI 40 (.mv (.t 39)),iG (some 41) 40 false (.load 7 (.t 14)),iG (some 42) 40 false (.load 7 (.t 11)),iG (some 43) 40 false (.eqs true [0,0,0,0,0,2,1] (.t 41) (.t 42)),iI 44 (.pick (.t 40) (.c (.bool true)) (.t 43))]) c51_0) c51_6
def c51_8:C:=.seq (.reg [iI 30 (.mv (.t 12)),iI 31 (.call (.c (.fn 89 [])) [(.t 30)]),iI 29 (.mv (.t 31)),iI 32 (.ext (.t 29) 0),iI 33 (.ext (.t 29) 1),iI 14 (.alloc [(1,(.int .u64 0)),(1,(.int .i64 0)),(1,(.int .i64 0)),(1,(.int .i64 0)),(1,(.int .i64 0)),(1,(.bool false)),(1,(.str []))]),iN (.store 7 (.t 14) (.t 32)),iI 15 (.mv (.t 33))]) c51_7
def c51_9:C:=.seq (.reg [iI 25 (.load 7 (.t 11)),iI 26 (.call (.c (.fn 88 [])) [(.t 25)]),iI 24 (.mv (.t 26)),iI 27 (.ext (.t 24) 0),iI 28 (.ext (.t 24) 1),iI 12 (.mv (.t 27)),iI 13 (.mv (.t 28))]) c51_8
def c51_10:C:=.reg [iI 59 (.bin .add (.t 20) (.c (.int .i64 1))),iI 20 (.mv (.t 59))]
def c51_11:C:=.seq (.block 1 (.seq (.reg [iI 22 (.iaddr 7 (.t 18) (.t 20)),iI 23 (.load 7 (.t 22)),iI 11 (.alloc [(1,(.int .u64 0)),(1,(.int .i64 0)),(1,(.int .i64 0)),(1,(.int .i64 0)),(1,(.int .i64 0)),(1,(.bool false)),(1,(.str []))]),iN (.store 7 (.t 11) (.t 23))]) c51_9)) c51_10
def c51_12:C:=.seq (.cond (.t 21) (.skip) (.exit 0)) c51_11
def c51_13:C:=.block 0 (.loop (.seq (.reg [iI 21 (.bin .lss (.t 20) (.t 19))]) c51_12))
def c51_14:C:=.seq (.reg [iI 60 (.load 1 (.t 4)),iN (.store 1 (.t 8) (.t 60)),iI 9 (.mv (.c (.bool true)))]) .ret
def c51_15:C:=.seq (.seq (.reg [iI 18 (.mv (.t 2)),iI 19 (.len 0 (.t 18)),iI 20 (.mv (.c (.int .i64 0)))]) c51_13) c51_14
def ir51:C:=.seq (.reg [iI 4 (.box (.t 0)),iI 8 (.alloc [(1,(.sl 8 true []))]),iI 9 (.mv (.c (.bool false)))]) c51_15
theorem fd51:fd? Try.prog 51=some (61,[.cell 8 1,.slot 9],ir51):=by kernel_rfl
noncomputable def f51(x0:ReceiverReceiver)(x1:Int)(x2:(List NetworkPacket))(x3:Bool):Option (ReceiverReceiver×Bool) :=
  ((Lp.run (f51_L1 x2 x3 x1) (0,x0.fInputs)).bind fun r_=>match r_ with | (Sum.inl x4)=>(some ((ReceiverReceiver.mk x4),true)) | (Sum.inr x5)=>(some ((ReceiverReceiver.mk x5),false)))
theorem f51_ok{x0:ReceiverReceiver}{x1:Int}{x2:(List NetworkPacket)}{x3:Bool}{r_:ReceiverReceiver×Bool}(H:f51 x0 x1 x2 x3=some r_):Pure Try.prog 51 [.agg [.sl 8 false (x0.fInputs.map eReceiverInput)],.int .i64 x1,.sl 7 false (x2.map eNetworkPacket),.bool x3] (· = .tup [.agg [.sl 8 false (r_.1.fInputs.map eReceiverInput)],.bool r_.2]):=by
 refine Pure.walk3 fd51 none (Nat.le_of_ble_eq_true rfl) (by rfl) fun Q hQ=>?_
 simp only[f51] at H
 refine AW.rseq ?_
 try simp only[↓wk,↓wl,nq,evV,↓reduceIte,sevalprocAttr]
 refine AW.sseq ?_
 refine AW.rseq ?_
 try simp only[↓wk,↓wl,nq,evV,↓reduceIte,sevalprocAttr]
 refine AW.bend ?_
 refine AW.iter H ((Le.tz [0,1] [1,3,4,8,18,19,20] (by simp only[f51_L1c,rrm,↓wk,↓wl,evV,↓reduceIte,sevalprocAttr]<;>rfl))) ?_<;>clear H
 rintro ⟨x4,x5⟩ x_ st0_ H hst_
 rw[f51_L1c] at hst_
 simp only[f51_L1] at H
 subst hst_
 refine AW.rseq ?_
 try simp only[↓wk,↓wl,nq,evV,↓reduceIte,sevalprocAttr]
 refine AW.sseq ?_
 refine AW.ifc H (by rfl) ?_ ?_<;>clear H<;>intro H
 ·refine AW.skip ?_
  refine seqQ.norm ?_
  refine AW.bseq ?_
  refine AW.rseq ?_
  try simp only[↓wk,↓wl,nq,evV,↓reduceIte,sevalprocAttr]
  refine evTs_at (enc:=eNetworkPacket) H (by rfl) (by rfl) ?_<;>clear H<;>intro x6 H
  try simp only[eNetworkPacket,eL,↓wk,↓wl,nq,evV,↓reduceIte,sevalprocAttr]
  refine AW.rseq ?_
  try simp only[↓wk,↓wl,nq,evV,↓reduceIte,sevalprocAttr]
  refine evTs_pure hFn H (fun _ h=>f88_ok h) (by rfl) (by rfl) (by rfl) (by rfl) (fun _=>rfl) ?_<;>clear H<;>intro x7 H
  try simp only[eL,↓wk,↓wl,nq,evV,↓reduceIte,sevalprocAttr]
  refine AW.rseq ?_
  try simp only[↓wk,↓wl,nq,evV,↓reduceIte,sevalprocAttr]
  refine evTs_pure hFn H (fun _ h=>f89_ok h) (by rfl) (by rfl) (by rfl) (by rfl) (fun _=>rfl) ?_<;>clear H<;>intro x8 H
  try simp only[eL,eNetworkPacket,↓wk,↓wl,nq,evV,↓reduceIte,sevalprocAttr]
  refine AW.sseq ?_
  refine AW.rseq ?_
  try simp only[↓wk,↓wl,nq,evV,↓reduceIte,sevalprocAttr]
  refine evTs_ifg H (by rfl) ?_ ?_<;>clear H<;>intro H
  ·try simp only[↓wk,↓wl,nq,evV,↓reduceIte,sevalprocAttr]
   refine AW.ift (by rfl) ?_
   refine AW.rseq ?_
   try simp only[↓wk,↓wl,nq,evV,↓reduceIte,sevalprocAttr]
   refine AW.ret ?_
   refine seqQ.ret ?_
   refine blkQ.ret ?_
   refine loopQ.ret H ?_<;>clear H<;>intro H
   try dsimp only at H
   refine blk0.ret ?_
   refine seqQ.ret ?_
   cases H
   exact hQ.fin
  ·try simp only[↓wk,↓wl,nq,evV,↓reduceIte,sevalprocAttr]
   refine evTs_ifg H (by rfl) ?_ ?_<;>clear H<;>intro H
   ·try simp only[↓wk,↓wl,nq,evV,↓reduceIte,sevalprocAttr]
    refine AW.ift (by rfl) ?_
    refine AW.rseq ?_
    try simp only[↓wk,↓wl,nq,evV,↓reduceIte,sevalprocAttr]
    refine AW.ret ?_
    refine seqQ.ret ?_
    refine blkQ.ret ?_
    refine loopQ.ret H ?_<;>clear H<;>intro H
    try dsimp only at H
    refine blk0.ret ?_
    refine seqQ.ret ?_
    cases H
    exact hQ.fin
   ·try simp only[↓wk,↓wl,nq,evV,↓reduceIte,sevalprocAttr]
    refine rest_neqs (by rfl) ?_
    try simp only[↓wk,↓wl,nq,evV,↓reduceIte,sevalprocAttr]
    refine AW.ifc H (by rfl) ?_ ?_<;>clear H<;>intro H
    ·refine AW.rseq ?_
     try simp only[↓wk,↓wl,nq,evV,↓reduceIte,sevalprocAttr]
     refine AW.ret ?_
     refine seqQ.ret ?_
     refine blkQ.ret ?_
     refine loopQ.ret H ?_<;>clear H<;>intro H
     try dsimp only at H
     refine blk0.ret ?_
     refine seqQ.ret ?_
     cases H
     exact hQ.fin
    ·refine AW.skip ?_
     refine seqQ.norm ?_
     refine AW.sseq ?_
     refine AW.rseq ?_
     try simp only[↓wk,↓wl,nq,evV,↓reduceIte,sevalprocAttr]
     refine AW.ifc H (by rfl) ?_ ?_<;>clear H<;>intro H
     ·refine AW.exit ?_
      refine seqQ.exit ?_
      refine blkQ.here ?_
      refine AW.rend ?_
      try simp only[↓wk,↓wl,nq,evV,↓reduceIte,sevalprocAttr]
      exact loopQ.next H ((Le.tz [0,1] [1,3,4,8,18,19,20] (by simp only[f51_L1c,rrm,↓wk,↓wl,evV,↓reduceIte,sevalprocAttr]<;>rfl)))
     ·refine AW.skip ?_
      refine seqQ.norm ?_
      refine AW.rseq ?_
      try simp only[↓wk,↓wl,nq,evV,↓reduceIte,sevalprocAttr]
      refine evTs_pure hFn H (fun _ h=>f16_ok h) (by rfl) (by rfl) (by rfl) (by rfl) (fun _=>rfl) ?_<;>clear H<;>intro x9 H
      try simp only[eL,eReceiverReceiver,↓wk,↓wl,nq,evV,↓reduceIte,sevalprocAttr]
      refine AW.sseq ?_
      refine AW.rseq ?_
      try simp only[↓wk,↓wl,nq,evV,↓reduceIte,sevalprocAttr]
      refine AW.ifc H (by rfl) ?_ ?_<;>clear H<;>intro H
      ·refine AW.rseq ?_
       try simp only[↓wk,↓wl,nq,evV,↓reduceIte,sevalprocAttr]
       refine AW.ret ?_
       refine seqQ.ret ?_
       refine blkQ.ret ?_
       refine loopQ.ret H ?_<;>clear H<;>intro H
       try dsimp only at H
       refine blk0.ret ?_
       refine seqQ.ret ?_
       cases H
       exact hQ.fin
      ·refine AW.skip ?_
       refine seqQ.norm ?_
       refine AW.rend ?_
       try simp only[↓wk,↓wl,nq,evV,↓reduceIte,sevalprocAttr]
       refine blkQ.norm ?_
       refine AW.rend ?_
       try simp only[↓wk,↓wl,nq,evV,↓reduceIte,sevalprocAttr]
       exact loopQ.next H ((Le.tz [0,1] [1,3,4,8,18,19,20] (by simp only[f51_L1c,rrm,↓wk,↓wl,evV,↓reduceIte,sevalprocAttr]<;>rfl)))
 ·refine AW.exit ?_
  refine seqQ.exit ?_
  refine loopQ.exit H ?_<;>clear H<;>intro H
  try dsimp only at H
  refine blk0.here ?_
  refine seqQ.norm ?_
  refine AW.rseq ?_
  try simp only[↓wk,↓wl,nq,evV,↓reduceIte,sevalprocAttr]
  refine AW.ret ?_
  cases H
  exact hQ.fin
def c70_0:C:=.seq (.reg [iI 3 (.mv (.t 0)),iI 4 (.bin .gtr (.t 3) (.c (.int .u64 0))),iI 5 (.mv (.t 4)),iG (some 6) 5 true (.mv (.t 0)),iG (some 7) 5 true (.bin .lss (.t 6) (.c (.int .u64 281474976710655))),iI 8 (.pick (.t 5) (.t 7) (.c (.bool false))),iI 2 (.mv (.t 8))]) .ret
def ir70:C:=.seq (.reg [iI 2 (.mv (.c (.bool false)))]) c70_0
theorem fd70:fd? Try.prog 70=some (9,[.slot 2],ir70):=by kernel_rfl
noncomputable def f70(x0:Int):Option (Bool) :=
  (if (decide (0<x0))=true then (some (decide (x0<281474976710655))) else (some false))
theorem f70_ok{x0:Int}{r_:Bool}(H:f70 x0=some r_):Pure Try.prog 70 [.int .u64 x0] (· = .bool r_):=by
 refine Pure.walk3 fd70 none (Nat.le_of_ble_eq_true rfl) (by rfl) fun Q hQ=>?_
 simp only[f70] at H
 refine AW.rseq ?_
 try simp only[↓wk,↓wl,nq,evV,↓reduceIte,sevalprocAttr]
 refine AW.rseq ?_
 try simp only[↓wk,↓wl,nq,evV,↓reduceIte,sevalprocAttr]
 refine evTs_ifg H (by rfl) ?_ ?_<;>clear H<;>intro H
 ·try simp only[↓wk,↓wl,nq,evV,↓reduceIte,sevalprocAttr]
  refine AW.ret ?_
  cases H
  exact hQ.fin
 ·try simp only[↓wk,↓wl,nq,evV,↓reduceIte,sevalprocAttr]
  refine AW.ret ?_
  cases H
  exact hQ.fin
def c71_0:C:=.seq (.reg [iI 7 (.mv (.t 1)),iI 8 (.mv (.t 0)),iI 9 (.bin .leq (.t 7) (.t 8)),iI 10 (.mv (.t 9)),iG (some 11) 10 true (.mv (.t 0)),iG (some 12) 10 true (.mv (.t 2)),iG (some 13) 10 true (.bin .leq (.t 11) (.t 12)),iI 14 (.pick (.t 10) (.t 13) (.c (.bool false))),iI 6 (.mv (.t 14))]) .ret
def ir71:C:=.seq (.reg [iI 6 (.mv (.c (.bool false)))]) c71_0
theorem fd71:fd? Try.prog 71=some (15,[.slot 6],ir71):=by kernel_rfl
noncomputable def f71(x0:Int)(x1:Int)(x2:Int):Option (Bool) :=
  (if (decide (x1≤x0))=true then (some (decide (x0≤x2))) else (some false))
theorem f71_ok{x0:Int}{x1:Int}{x2:Int}{r_:Bool}(H:f71 x0 x1 x2=some r_):Pure Try.prog 71 [.int .i64 x0,.int .i64 x1,.int .i64 x2] (· = .bool r_):=by
 refine Pure.walk3 fd71 none (Nat.le_of_ble_eq_true rfl) (by rfl) fun Q hQ=>?_
 simp only[f71] at H
 refine AW.rseq ?_
 try simp only[↓wk,↓wl,nq,evV,↓reduceIte,sevalprocAttr]
 refine AW.rseq ?_
 try simp only[↓wk,↓wl,nq,evV,↓reduceIte,sevalprocAttr]
 refine evTs_ifg H (by rfl) ?_ ?_<;>clear H<;>intro H
 ·try simp only[↓wk,↓wl,nq,evV,↓reduceIte,sevalprocAttr]
  refine AW.ret ?_
  cases H
  exact hQ.fin
 ·try simp only[↓wk,↓wl,nq,evV,↓reduceIte,sevalprocAttr]
  refine AW.ret ?_
  cases H
  exact hQ.fin
def c23_0:C:=.cond (.t 30) (.seq (.reg [iI 2 (.mv (.c (.int .i64 2)))]) .ret) (.skip)
def c23_1:C:=.cond (.t 34) (.seq (.reg [iI 2 (.mv (.c (.int .i64 13)))]) .ret) (.skip)
def c23_2:C:=.cond (.t 51) (.seq (.reg [iI 2 (.mv (.c (.int .i64 3)))]) .ret) (.skip)
def c23_3:C:=.seq (.reg [iI 2 (.mv (.c (.int .i64 0)))]) .ret
def c23_4:C:=.seq (.seq (.reg [iI 35 (.faddr 1 (.t 1)),iI 36 (.load 0 (.t 35)),iI 37 (.bin .eql (.t 36) (.c (.int .i64 0))),iI 38 (.mv (.t 37)),iG (some 39) 38 true (.faddr 4 (.t 1)),iG (some 40) 38 true (.load 0 (.t 39)),iG (some 41) 38 true (.bin .eql (.t 40) (.c (.int .i64 0))),iG (some 42) 38 true (.mv (.t 41)),iG (some 43) 42 false (.faddr 5 (.t 1)),iG (some 44) 42 false (.load 0 (.t 43)),iG (some 45) 38 true (.pick (.t 42) (.c (.bool true)) (.t 44)),iG (some 46) 38 true (.mv (.t 45)),iG (some 47) 46 false (.faddr 6 (.t 1)),iG (some 48) 46 false (.load 0 (.t 47)),iG (some 49) 46 false (.bin .neq (.t 48) (.c (.str []))),iG (some 50) 38 true (.pick (.t 46) (.c (.bool true)) (.t 49)),iI 51 (.pick (.t 38) (.t 50) (.c (.bool false)))]) c23_2) c23_3
def c23_5:C:=.seq (.seq (.reg [iI 31 (.faddr 6 (.t 1)),iI 32 (.load 0 (.t 31)),iI 33 (.len 1 (.t 32)),iI 34 (.bin .gtr (.t 33) (.c (.int .i64 512)))]) c23_1) c23_4
def c23_6:C:=.seq (.seq (.reg [iI 3 (.faddr 0 (.t 1)),iI 4 (.load 0 (.t 3)),iI 5 (.call (.c (.fn 70 [])) [(.t 4)]),iI 6 (.un .not (.t 5)),iI 7 (.mv (.t 6)),iG (some 8) 7 false (.faddr 1 (.t 1)),iG (some 9) 7 false (.load 0 (.t 8)),iG (some 10) 7 false (.call (.c (.fn 71 [])) [(.t 9),(.c (.int .i64 0)),(.c (.int .i64 8))]),iG (some 11) 7 false (.un .not (.t 10)),iI 12 (.pick (.t 7) (.c (.bool true)) (.t 11)),iI 13 (.mv (.t 12)),iG (some 14) 13 false (.faddr 2 (.t 1)),iG (some 15) 13 false (.load 0 (.t 14)),iG (some 16) 13 false (.call (.c (.fn 71 [])) [(.t 15),(.c (.int .i64 0)),(.c (.int .i64 200))]),iG (some 17) 13 false (.un .not (.t 16)),iI 18 (.pick (.t 13) (.c (.bool true)) (.t 17)),iI 19 (.mv (.t 18)),iG (some 20) 19 false (.faddr 3 (.t 1)),iG (some 21) 19 false (.load 0 (.t 20)),iG (some 22) 19 false (.call (.c (.fn 71 [])) [(.t 21),(.c (.int .i64 0)),(.c (.int .i64 255))]),iG (some 23) 19 false (.un .not (.t 22)),iI 24 (.pick (.t 19) (.c (.bool true)) (.t 23)),iI 25 (.mv (.t 24)),iG (some 26) 25 false (.faddr 4 (.t 1)),iG (some 27) 25 false (.load 0 (.t 26)),iG (some 28) 25 false (.call (.c (.fn 71 [])) [(.t 27),(.c (.int .i64 0)),(.c (.int .i64 8))]),iG (some 29) 25 false (.un .not (.t 28)),iI 30 (.pick (.t 25) (.c (.bool true)) (.t 29))]) c23_0) c23_5
def ir23:C:=.seq (.reg [iI 1 (.box (.t 0)),iI 2 (.mv (.c (.int .i64 0)))]) c23_6
theorem fd23:fd? Try.prog 23=some (52,[.slot 2],ir23):=by kernel_rfl
noncomputable def f23(x0:Ref56Packet):Option (Int) :=
  (f70 x0.fSource).bind fun x1=>(if (!x1)=true then (some 2) else (f71 x0.fUniverse 0 8).bind fun x2=>(if (!x2)=true then (some 2) else (f71 x0.fPriority 0 200).bind fun x3=>(if (!x3)=true then (some 2) else (f71 x0.fSeq 0 255).bind fun x4=>(if (!x4)=true then (some 2) else (f71 x0.fSync 0 8).bind fun x5=>(if (!x5)=true then (some 2) else (if (decide (512<((x0.fSlots.length:Nat):Int)))=true then (some 13) else (if (decide (x0.fUniverse=0))=true then (if (decide (x0.fSync=0))=true then (some 3) else (if x0.fEnd=true then (some 3) else (if (!(x0.fSlots == ([])))=true then (some 3) else (some 0)))) else (some 0))))))))
theorem f23_ok{x0:Ref56Packet}{r_:Int}(H:f23 x0=some r_):Pure Try.prog 23 [.agg [.int .u64 x0.fSource,.int .i64 x0.fUniverse,.int .i64 x0.fPriority,.int .i64 x0.fSeq,.int .i64 x0.fSync,.bool x0.fEnd,.str x0.fSlots]] (· = .int .i64 r_):=by
 refine Pure.walk3 fd23 none (Nat.le_of_ble_eq_true rfl) (by rfl) fun Q hQ=>?_
 simp only[f23] at H
 refine AW.rseq ?_
 try simp only[↓wk,↓wl,nq,evV,↓reduceIte,sevalprocAttr]
 refine AW.sseq ?_
 refine AW.rseq ?_
 try simp only[↓wk,↓wl,nq,evV,↓reduceIte,sevalprocAttr]
 refine evTs_pure hFn H (fun _ h=>f70_ok h) (by rfl) (by rfl) (by rfl) (by rfl) (fun _=>rfl) ?_<;>clear H<;>intro x1 H
 try simp only[eL,↓wk,↓wl,nq,evV,↓reduceIte,sevalprocAttr]
 refine evTs_ifg H (by rfl) ?_ ?_<;>clear H<;>intro H
 ·try simp only[↓wk,↓wl,nq,evV,↓reduceIte,sevalprocAttr]
  refine AW.ift (by rfl) ?_
  refine AW.rseq ?_
  try simp only[↓wk,↓wl,nq,evV,↓reduceIte,sevalprocAttr]
  refine AW.ret ?_
  refine seqQ.ret ?_
  cases H
  exact hQ.fin
 ·try simp only[↓wk,↓wl,nq,evV,↓reduceIte,sevalprocAttr]
  refine evTs_pure hFn H (fun _ h=>f71_ok h) (by rfl) (by rfl) (by rfl) (by rfl) (fun _=>rfl) ?_<;>clear H<;>intro x2 H
  try simp only[eL,↓wk,↓wl,nq,evV,↓reduceIte,sevalprocAttr]
  refine evTs_ifg H (by rfl) ?_ ?_<;>clear H<;>intro H
  ·try simp only[↓wk,↓wl,nq,evV,↓reduceIte,sevalprocAttr]
   refine AW.ift (by rfl) ?_
   refine AW.rseq ?_
   try simp only[↓wk,↓wl,nq,evV,↓reduceIte,sevalprocAttr]
   refine AW.ret ?_
   refine seqQ.ret ?_
   cases H
   exact hQ.fin
  ·try simp only[↓wk,↓wl,nq,evV,↓reduceIte,sevalprocAttr]
   refine evTs_pure hFn H (fun _ h=>f71_ok h) (by rfl) (by rfl) (by rfl) (by rfl) (fun _=>rfl) ?_<;>clear H<;>intro x3 H
   try simp only[eL,↓wk,↓wl,nq,evV,↓reduceIte,sevalprocAttr]
   refine evTs_ifg H (by rfl) ?_ ?_<;>clear H<;>intro H
   ·try simp only[↓wk,↓wl,nq,evV,↓reduceIte,sevalprocAttr]
    refine AW.ift (by rfl) ?_
    refine AW.rseq ?_
    try simp only[↓wk,↓wl,nq,evV,↓reduceIte,sevalprocAttr]
    refine AW.ret ?_
    refine seqQ.ret ?_
    cases H
    exact hQ.fin
   ·try simp only[↓wk,↓wl,nq,evV,↓reduceIte,sevalprocAttr]
    refine evTs_pure hFn H (fun _ h=>f71_ok h) (by rfl) (by rfl) (by rfl) (by rfl) (fun _=>rfl) ?_<;>clear H<;>intro x4 H
    try simp only[eL,↓wk,↓wl,nq,evV,↓reduceIte,sevalprocAttr]
    refine evTs_ifg H (by rfl) ?_ ?_<;>clear H<;>intro H
    ·try simp only[↓wk,↓wl,nq,evV,↓reduceIte,sevalprocAttr]
     refine AW.ift (by rfl) ?_
     refine AW.rseq ?_
     try simp only[↓wk,↓wl,nq,evV,↓reduceIte,sevalprocAttr]
     refine AW.ret ?_
     refine seqQ.ret ?_
     cases H
     exact hQ.fin
    ·try simp only[↓wk,↓wl,nq,evV,↓reduceIte,sevalprocAttr]
     refine evTs_pure hFn H (fun _ h=>f71_ok h) (by rfl) (by rfl) (by rfl) (by rfl) (fun _=>rfl) ?_<;>clear H<;>intro x5 H
     try simp only[eL,↓wk,↓wl,nq,evV,↓reduceIte,sevalprocAttr]
     refine AW.ifc H (by rfl) ?_ ?_<;>clear H<;>intro H
     ·refine AW.rseq ?_
      try simp only[↓wk,↓wl,nq,evV,↓reduceIte,sevalprocAttr]
      refine AW.ret ?_
      refine seqQ.ret ?_
      cases H
      exact hQ.fin
     ·refine AW.skip ?_
      refine seqQ.norm ?_
      refine AW.sseq ?_
      refine AW.rseq ?_
      try simp only[↓wk,↓wl,nq,evV,↓reduceIte,sevalprocAttr]
      refine AW.ifc H (by rfl) ?_ ?_<;>clear H<;>intro H
      ·refine AW.rseq ?_
       try simp only[↓wk,↓wl,nq,evV,↓reduceIte,sevalprocAttr]
       refine AW.ret ?_
       refine seqQ.ret ?_
       cases H
       exact hQ.fin
      ·refine AW.skip ?_
       refine seqQ.norm ?_
       refine AW.sseq ?_
       refine AW.rseq ?_
       try simp only[↓wk,↓wl,nq,evV,↓reduceIte,sevalprocAttr]
       refine evTs_ifg H (by rfl) ?_ ?_<;>clear H<;>intro H
       ·try simp only[↓wk,↓wl,nq,evV,↓reduceIte,sevalprocAttr]
        refine evTs_ifg H (by rfl) ?_ ?_<;>clear H<;>intro H
        ·try simp only[↓wk,↓wl,nq,evV,↓reduceIte,sevalprocAttr]
         refine AW.ift (by rfl) ?_
         refine AW.rseq ?_
         try simp only[↓wk,↓wl,nq,evV,↓reduceIte,sevalprocAttr]
         refine AW.ret ?_
         refine seqQ.ret ?_
         cases H
         exact hQ.fin
        ·try simp only[↓wk,↓wl,nq,evV,↓reduceIte,sevalprocAttr]
         refine evTs_ifg H (by rfl) ?_ ?_<;>clear H<;>intro H
         ·try simp only[↓wk,↓wl,nq,evV,↓reduceIte,sevalprocAttr]
          refine AW.ift (by rfl) ?_
          refine AW.rseq ?_
          try simp only[↓wk,↓wl,nq,evV,↓reduceIte,sevalprocAttr]
          refine AW.ret ?_
          refine seqQ.ret ?_
          cases H
          exact hQ.fin
         ·try simp only[↓wk,↓wl,nq,evV,↓reduceIte,sevalprocAttr]
          refine AW.ifc H (by rfl) ?_ ?_<;>clear H<;>intro H
          ·refine AW.rseq ?_
           try simp only[↓wk,↓wl,nq,evV,↓reduceIte,sevalprocAttr]
           refine AW.ret ?_
           refine seqQ.ret ?_
           cases H
           exact hQ.fin
          ·refine AW.skip ?_
           refine seqQ.norm ?_
           refine AW.rseq ?_
           try simp only[↓wk,↓wl,nq,evV,↓reduceIte,sevalprocAttr]
           refine AW.ret ?_
           cases H
           exact hQ.fin
       ·try simp only[↓wk,↓wl,nq,evV,↓reduceIte,sevalprocAttr]
        refine AW.iff (by rfl) ?_
        refine AW.skip ?_
        refine seqQ.norm ?_
        refine AW.rseq ?_
        try simp only[↓wk,↓wl,nq,evV,↓reduceIte,sevalprocAttr]
        refine AW.ret ?_
        cases H
        exact hQ.fin
def c109_0:C:=.seq (.reg [iI 3 (.mv (.t 0)),iI 4 (.bin .eql (.t 3) (.c (.str []))),iI 5 (.mv (.t 4)),iG (some 6) 5 false (.mv (.t 0)),iG (some 7) 5 false (.len 1 (.t 6)),iG (some 8) 5 false (.bin .eql (.t 7) (.c (.int .i64 512))),iI 9 (.pick (.t 5) (.c (.bool true)) (.t 8)),iI 2 (.mv (.t 9))]) .ret
def ir109:C:=.seq (.reg [iI 2 (.mv (.c (.bool false)))]) c109_0
theorem fd109:fd? Try.prog 109=some (10,[.slot 2],ir109):=by kernel_rfl
noncomputable def f109(x0:(List UInt8)):Option (Bool) :=
  (if (x0 == ([]))=true then (some true) else (some (decide (((x0.length:Nat):Int)=512))))
theorem f109_ok{x0:(List UInt8)}{r_:Bool}(H:f109 x0=some r_):Pure Try.prog 109 [.str x0] (· = .bool r_):=by
 refine Pure.walk3 fd109 none (Nat.le_of_ble_eq_true rfl) (by rfl) fun Q hQ=>?_
 simp only[f109] at H
 refine AW.rseq ?_
 try simp only[↓wk,↓wl,nq,evV,↓reduceIte,sevalprocAttr]
 refine AW.rseq ?_
 try simp only[↓wk,↓wl,nq,evV,↓reduceIte,sevalprocAttr]
 refine evTs_ifg H (by rfl) ?_ ?_<;>clear H<;>intro H
 ·try simp only[↓wk,↓wl,nq,evV,↓reduceIte,sevalprocAttr]
  refine AW.ret ?_
  cases H
  exact hQ.fin
 ·try simp only[↓wk,↓wl,nq,evV,↓reduceIte,sevalprocAttr]
  refine AW.ret ?_
  cases H
  exact hQ.fin
def c66_0:C:=.cond (.t 32) (.seq (.reg [iI 2 (.mv (.c (.int .i64 2)))]) .ret) (.skip)
def c66_1:C:=.cond (.t 42) (.seq (.reg [iI 2 (.mv (.c (.int .i64 14)))]) .ret) (.skip)
def c66_2:C:=.cond (.t 50) (.seq (.reg [iI 2 (.mv (.c (.int .i64 3)))]) .ret) (.skip)
def c66_3:C:=.seq (.reg [iI 2 (.mv (.c (.int .i64 0)))]) .ret
def c66_4:C:=.seq (.seq (.reg [iI 43 (.faddr 7 (.t 1)),iI 44 (.load 0 (.t 43)),iI 45 (.bin .neq (.t 44) (.c (.str []))),iI 46 (.mv (.t 45)),iG (some 47) 46 true (.faddr 4 (.t 1)),iG (some 48) 46 true (.load 0 (.t 47)),iG (some 49) 46 true (.bin .eql (.t 48) (.c (.int .i64 0))),iI 50 (.pick (.t 46) (.t 49) (.c (.bool false)))]) c66_2) c66_3
def c66_5:C:=.seq (.seq (.reg [iI 33 (.faddr 6 (.t 1)),iI 34 (.load 0 (.t 33)),iI 35 (.call (.c (.fn 109 [])) [(.t 34)]),iI 36 (.un .not (.t 35)),iI 37 (.mv (.t 36)),iG (some 38) 37 false (.faddr 7 (.t 1)),iG (some 39) 37 false (.load 0 (.t 38)),iG (some 40) 37 false (.call (.c (.fn 109 [])) [(.t 39)]),iG (some 41) 37 false (.un .not (.t 40)),iI 42 (.pick (.t 37) (.c (.bool true)) (.t 41))]) c66_1) c66_4
def c66_6:C:=.seq (.seq (.reg [iI 15 (.faddr 0 (.t 1)),iI 16 (.load 0 (.t 15)),iI 17 (.bin .eql (.t 16) (.c (.int .i64 0))),iI 18 (.mv (.t 17)),iG (some 19) 18 false (.load 7 (.t 3)),iG (some 20) 18 false (.call (.c (.fn 23 [])) [(.t 19)]),iG (some 21) 18 false (.bin .neq (.t 20) (.c (.int .i64 0))),iI 22 (.pick (.t 18) (.c (.bool true)) (.t 21)),iI 23 (.mv (.t 22)),iG (some 24) 23 false (.faddr 5 (.t 1)),iG (some 25) 23 false (.load 0 (.t 24)),iG (some 26) 23 false (.bin .lss (.t 25) (.c (.int .i64 0))),iI 27 (.pick (.t 23) (.c (.bool true)) (.t 26)),iI 28 (.mv (.t 27)),iG (some 29) 28 false (.faddr 5 (.t 1)),iG (some 30) 28 false (.load 0 (.t 29)),iG (some 31) 28 false (.bin .gtr (.t 30) (.c (.int .i64 10000000))),iI 32 (.pick (.t 28) (.c (.bool true)) (.t 31))]) c66_0) c66_5
def c66_7:C:=.seq (.reg [iI 4 (.faddr 1 (.t 1)),iI 5 (.load 0 (.t 4)),iI 6 (.faddr 0 (.t 1)),iI 7 (.load 0 (.t 6)),iI 8 (.faddr 2 (.t 1)),iI 9 (.load 0 (.t 8)),iI 10 (.faddr 3 (.t 1)),iI 11 (.load 0 (.t 10)),iI 12 (.faddr 4 (.t 1)),iI 13 (.load 0 (.t 12)),iI 14 (.build [(1,(.int .u64 0)),(1,(.int .i64 0)),(1,(.int .i64 0)),(1,(.int .i64 0)),(1,(.int .i64 0)),(1,(.bool false)),(1,(.str []))] [(0,0,(.t 5)),(1,0,(.t 7)),(2,0,(.t 9)),(3,0,(.t 11)),(4,0,(.t 13))]),iI 3 (.alloc [(1,(.int .u64 0)),(1,(.int .i64 0)),(1,(.int .i64 0)),(1,(.int .i64 0)),(1,(.int .i64 0)),(1,(.bool false)),(1,(.str []))]),iN (.store 7 (.t 3) (.t 14))]) c66_6
def ir66:C:=.seq (.reg [iI 1 (.box (.t 0)),iI 2 (.mv (.c (.int .i64 0)))]) c66_7
theorem fd66:fd? Try.prog 66=some (51,[.slot 2],ir66):=by kernel_rfl
noncomputable def f66(x0:Ref57Input):Option (Int) :=
  (if (decide (x0.fUniverse=0))=true then (some 2) else (f23 (Ref56Packet.mk x0.fSource x0.fUniverse x0.fPriority x0.fSeq x0.fSync false ([]))).bind fun x1=>(if (decide (x1≠0))=true then (some 2) else (if (decide (x0.fLast<0))=true then (some 2) else (if (decide (10000000<x0.fLast))=true then (some 2) else (f109 x0.fSlots).bind fun x2=>(if (!x2)=true then (some 14) else (f109 x0.fWait).bind fun x3=>(if (!x3)=true then (some 14) else (if (!(x0.fWait == ([])))=true then (if (decide (x0.fSync=0))=true then (some 3) else (some 0)) else (some 0))))))))
theorem f66_ok{x0:Ref57Input}{r_:Int}(H:f66 x0=some r_):Pure Try.prog 66 [.agg [.int .i64 x0.fUniverse,.int .u64 x0.fSource,.int .i64 x0.fPriority,.int .i64 x0.fSeq,.int .i64 x0.fSync,.int .i64 x0.fLast,.str x0.fSlots,.str x0.fWait]] (· = .int .i64 r_):=by
 refine Pure.walk3 fd66 none (Nat.le_of_ble_eq_true rfl) (by rfl) fun Q hQ=>?_
 simp only[f66] at H
 refine AW.rseq ?_
 try simp only[↓wk,↓wl,nq,evV,↓reduceIte,sevalprocAttr]
 refine AW.rseq ?_
 try simp only[↓wk,↓wl,nq,evV,↓reduceIte,sevalprocAttr]
 refine AW.sseq ?_
 refine AW.rseq ?_
 try simp only[↓wk,↓wl,nq,evV,↓reduceIte,sevalprocAttr]
 refine evTs_ifg H (by rfl) ?_ ?_<;>clear H<;>intro H
 ·try simp only[↓wk,↓wl,nq,evV,↓reduceIte,sevalprocAttr]
  refine AW.ift (by rfl) ?_
  refine AW.rseq ?_
  try simp only[↓wk,↓wl,nq,evV,↓reduceIte,sevalprocAttr]
  refine AW.ret ?_
  refine seqQ.ret ?_
  cases H
  exact hQ.fin
 ·try simp only[↓wk,↓wl,nq,evV,↓reduceIte,sevalprocAttr]
  refine evTs_pure hFn H (fun _ h=>f23_ok h) (by rfl) (by rfl) (by rfl) (by rfl) (fun _=>rfl) ?_<;>clear H<;>intro x1 H
  try simp only[eL,↓wk,↓wl,nq,evV,↓reduceIte,sevalprocAttr]
  refine evTs_ifg H (by rfl) ?_ ?_<;>clear H<;>intro H
  ·try simp only[↓wk,↓wl,nq,evV,↓reduceIte,sevalprocAttr]
   refine AW.ift (by rfl) ?_
   refine AW.rseq ?_
   try simp only[↓wk,↓wl,nq,evV,↓reduceIte,sevalprocAttr]
   refine AW.ret ?_
   refine seqQ.ret ?_
   cases H
   exact hQ.fin
  ·try simp only[↓wk,↓wl,nq,evV,↓reduceIte,sevalprocAttr]
   refine evTs_ifg H (by rfl) ?_ ?_<;>clear H<;>intro H
   ·try simp only[↓wk,↓wl,nq,evV,↓reduceIte,sevalprocAttr]
    refine AW.ift (by rfl) ?_
    refine AW.rseq ?_
    try simp only[↓wk,↓wl,nq,evV,↓reduceIte,sevalprocAttr]
    refine AW.ret ?_
    refine seqQ.ret ?_
    cases H
    exact hQ.fin
   ·try simp only[↓wk,↓wl,nq,evV,↓reduceIte,sevalprocAttr]
    refine AW.ifc H (by rfl) ?_ ?_<;>clear H<;>intro H
    ·refine AW.rseq ?_
     try simp only[↓wk,↓wl,nq,evV,↓reduceIte,sevalprocAttr]
     refine AW.ret ?_
     refine seqQ.ret ?_
     cases H
     exact hQ.fin
    ·refine AW.skip ?_
     refine seqQ.norm ?_
     refine AW.sseq ?_
     refine AW.rseq ?_
     try simp only[↓wk,↓wl,nq,evV,↓reduceIte,sevalprocAttr]
     refine evTs_pure hFn H (fun _ h=>f109_ok h) (by rfl) (by rfl) (by rfl) (by rfl) (fun _=>rfl) ?_<;>clear H<;>intro x2 H
     try simp only[eL,↓wk,↓wl,nq,evV,↓reduceIte,sevalprocAttr]
     refine evTs_ifg H (by rfl) ?_ ?_<;>clear H<;>intro H
     ·try simp only[↓wk,↓wl,nq,evV,↓reduceIte,sevalprocAttr]
      refine AW.ift (by rfl) ?_
      refine AW.rseq ?_
      try simp only[↓wk,↓wl,nq,evV,↓reduceIte,sevalprocAttr]
      refine AW.ret ?_
      refine seqQ.ret ?_
      cases H
      exact hQ.fin
     ·try simp only[↓wk,↓wl,nq,evV,↓reduceIte,sevalprocAttr]
      refine evTs_pure hFn H (fun _ h=>f109_ok h) (by rfl) (by rfl) (by rfl) (by rfl) (fun _=>rfl) ?_<;>clear H<;>intro x3 H
      try simp only[eL,↓wk,↓wl,nq,evV,↓reduceIte,sevalprocAttr]
      refine AW.ifc H (by rfl) ?_ ?_<;>clear H<;>intro H
      ·refine AW.rseq ?_
       try simp only[↓wk,↓wl,nq,evV,↓reduceIte,sevalprocAttr]
       refine AW.ret ?_
       refine seqQ.ret ?_
       cases H
       exact hQ.fin
      ·refine AW.skip ?_
       refine seqQ.norm ?_
       refine AW.sseq ?_
       refine AW.rseq ?_
       try simp only[↓wk,↓wl,nq,evV,↓reduceIte,sevalprocAttr]
       refine evTs_ifg H (by rfl) ?_ ?_<;>clear H<;>intro H
       ·try simp only[↓wk,↓wl,nq,evV,↓reduceIte,sevalprocAttr]
        refine AW.ifc H (by rfl) ?_ ?_<;>clear H<;>intro H
        ·refine AW.rseq ?_
         try simp only[↓wk,↓wl,nq,evV,↓reduceIte,sevalprocAttr]
         refine AW.ret ?_
         refine seqQ.ret ?_
         cases H
         exact hQ.fin
        ·refine AW.skip ?_
         refine seqQ.norm ?_
         refine AW.rseq ?_
         try simp only[↓wk,↓wl,nq,evV,↓reduceIte,sevalprocAttr]
         refine AW.ret ?_
         cases H
         exact hQ.fin
       ·try simp only[↓wk,↓wl,nq,evV,↓reduceIte,sevalprocAttr]
        refine AW.iff (by rfl) ?_
        refine AW.skip ?_
        refine seqQ.norm ?_
        refine AW.rseq ?_
        try simp only[↓wk,↓wl,nq,evV,↓reduceIte,sevalprocAttr]
        refine AW.ret ?_
        cases H
        exact hQ.fin
def c67_0:C:=.seq (.reg [iI 5 (.faddr 0 (.t 2)),iI 6 (.load 0 (.t 5)),iI 7 (.faddr 0 (.t 3)),iI 8 (.load 0 (.t 7)),iI 9 (.bin .lss (.t 6) (.t 8)),iI 10 (.mv (.t 9)),iG (some 11) 10 false (.faddr 0 (.t 2)),iG (some 12) 10 false (.load 0 (.t 11)),iG (some 13) 10 false (.faddr 0 (.t 3)),iG (some 14) 10 false (.load 0 (.t 13)),iG (some 15) 10 false (.bin .eql (.t 12) (.t 14)),iG (some 16) 10 false (.mv (.t 15)),iG (some 17) 16 true (.faddr 1 (.t 2)),iG (some 18) 16 true (.load 0 (.t 17)),iG (some 19) 16 true (.faddr 1 (.t 3)),iG (some 20) 16 true (.load 0 (.t 19)),iG (some 21) 16 true (.bin .lss (.t 18) (.t 20)),iG (some 22) 10 false (.pick (.t 16) (.t 21) (.c (.bool false))),iI 23 (.pick (.t 10) (.c (.bool true)) (.t 22)),iI 4 (.mv (.t 23))]) .ret
def ir67:C:=.seq (.reg [iI 2 (.box (.t 0)),iI 3 (.box (.t 1)),iI 4 (.mv (.c (.bool false)))]) c67_0
theorem fd67:fd? Try.prog 67=some (24,[.slot 4],ir67):=by kernel_rfl
noncomputable def f67(x0:Ref57Input)(x1:Ref57Input):Option (Bool) :=
  (if (decide (x0.fUniverse<x1.fUniverse))=true then (some true) else (if (decide (x0.fUniverse=x1.fUniverse))=true then (some (decide (x0.fSource<x1.fSource))) else (some false)))
theorem f67_ok{x0:Ref57Input}{x1:Ref57Input}{r_:Bool}(H:f67 x0 x1=some r_):Pure Try.prog 67 [.agg [.int .i64 x0.fUniverse,.int .u64 x0.fSource,.int .i64 x0.fPriority,.int .i64 x0.fSeq,.int .i64 x0.fSync,.int .i64 x0.fLast,.str x0.fSlots,.str x0.fWait],.agg [.int .i64 x1.fUniverse,.int .u64 x1.fSource,.int .i64 x1.fPriority,.int .i64 x1.fSeq,.int .i64 x1.fSync,.int .i64 x1.fLast,.str x1.fSlots,.str x1.fWait]] (· = .bool r_):=by
 refine Pure.walk3 fd67 none (Nat.le_of_ble_eq_true rfl) (by rfl) fun Q hQ=>?_
 simp only[f67] at H
 refine AW.rseq ?_
 try simp only[↓wk,↓wl,nq,evV,↓reduceIte,sevalprocAttr]
 refine AW.rseq ?_
 try simp only[↓wk,↓wl,nq,evV,↓reduceIte,sevalprocAttr]
 refine evTs_ifg H (by rfl) ?_ ?_<;>clear H<;>intro H
 ·try simp only[↓wk,↓wl,nq,evV,↓reduceIte,sevalprocAttr]
  refine AW.ret ?_
  cases H
  exact hQ.fin
 ·try simp only[↓wk,↓wl,nq,evV,↓reduceIte,sevalprocAttr]
  refine evTs_ifg H (by rfl) ?_ ?_<;>clear H<;>intro H
  ·try simp only[↓wk,↓wl,nq,evV,↓reduceIte,sevalprocAttr]
   refine AW.ret ?_
   cases H
   exact hQ.fin
  ·try simp only[↓wk,↓wl,nq,evV,↓reduceIte,sevalprocAttr]
   refine AW.ret ?_
   cases H
   exact hQ.fin
noncomputable def f20_L1(x0:Ref57Receiver):Lp (Int) ((Unit)⊕(Int)) where
  body:=fun x1=>(if (decide (x1<((x0.fInputs.length:Nat):Int)))=true then (at? x0.fInputs x1).bind fun x2=>(f66 x2).bind fun x3=>(if (decide (x3≠0))=true then (some (.brk (Sum.inr x3))) else (if (decide (0<x1))=true then (at? x0.fInputs (IntKind.i64.wrap (x1 - 1))).bind fun x4=>(at? x0.fInputs x1).bind fun x5=>(f67 x4 x5).bind fun x6=>(if (!x6)=true then (some (.brk (Sum.inr 9))) else (some (.next (IntKind.i64.wrap (x1 + 1))))) else (some (.next (IntKind.i64.wrap (x1 + 1)))))) else (some (.brk (Sum.inl ()))))
  cst:=fun x1=>⟨put (put (fun _=>.junk) 3 (.int .i64 x1)) 1 (.ptr 0 0),[.cel [.sl 8 false (x0.fInputs.map eRef57Input)]]⟩
theorem f20_L1c(x0:Ref57Receiver)(x1:Int):(f20_L1 x0).cst x1=⟨put (put (fun _=>.junk) 3 (.int .i64 x1)) 1 (.ptr 0 0),[.cel [.sl 8 false (x0.fInputs.map eRef57Input)]]⟩:=rfl
def c20_0:C:=.cond (.t 8) (.seq (.reg [iI 2 (.mv (.c (.int .i64 5)))]) .ret) (.skip)
def c20_1:C:=.cond (.t 13) (.skip) (.exit 0)
def c20_2:C:=.cond (.t 23) (.seq (.reg [iI 24 (.mv (.t 4)),iI 2 (.mv (.t 24))]) .ret) (.skip)
def c20_3:C:=.seq (.reg [iI 22 (.mv (.t 4)),iI 23 (.bin .neq (.t 22) (.c (.int .i64 0)))]) c20_2
def c20_4:C:=.cond (.t 41) (.seq (.reg [iI 2 (.mv (.c (.int .i64 9)))]) .ret) (.skip)
def c20_5:C:=.seq (.reg [iI 25 (.mv (.t 3)),iI 26 (.bin .gtr (.t 25) (.c (.int .i64 0))),iI 27 (.mv (.t 26)),iG (some 28) 27 true (.faddr 0 (.t 1)),iG (some 29) 27 true (.load 0 (.t 28)),iG (some 30) 27 true (.mv (.t 3)),iG (some 31) 27 true (.bin .sub (.t 30) (.c (.int .i64 1))),iG (some 32) 27 true (.iaddr 8 (.t 29) (.t 31)),iG (some 33) 27 true (.load 8 (.t 32)),iG (some 34) 27 true (.faddr 0 (.t 1)),iG (some 35) 27 true (.load 0 (.t 34)),iG (some 36) 27 true (.mv (.t 3)),iG (some 37) 27 true (.iaddr 8 (.t 35) (.t 36)),iG (some 38) 27 true (.load 8 (.t 37)),iG (some 39) 27 true (.call (.c (.fn 67 [])) [(.t 33),(.t 38)]),iG (some 40) 27 true (.un .not (.t 39)),iI 41 (.pick (.t 27) (.t 40) (.c (.bool false)))]) c20_4
def c20_6:C:=.reg [iI 14 (.mv (.t 3)),iI 15 (.bin .add (.t 14) (.c (.int .i64 1))),iI 3 (.mv (.t 15))]
def c20_7:C:=.seq (.block 1 (.seq (.seq (.reg [iI 16 (.faddr 0 (.t 1)),iI 17 (.load 0 (.t 16)),iI 18 (.mv (.t 3)),iI 19 (.iaddr 8 (.t 17) (.t 18)),iI 20 (.load 8 (.t 19)),iI 21 (.call (.c (.fn 66 [])) [(.t 20)]),iI 4 (.mv (.t 21))]) c20_3) c20_5)) c20_6
def c20_8:C:=.block 0 (.loop (.seq (.seq (.reg [iI 9 (.mv (.t 3)),iI 10 (.faddr 0 (.t 1)),iI 11 (.load 0 (.t 10)),iI 12 (.len 0 (.t 11)),iI 13 (.bin .lss (.t 9) (.t 12))]) c20_1) c20_7))
def c20_9:C:=.seq (.reg [iI 2 (.mv (.c (.int .i64 0)))]) .ret
def c20_10:C:=.seq (.seq (.reg [iI 3 (.mv (.c (.int .i64 0)))]) c20_8) c20_9
def c20_11:C:=.seq (.seq (.reg [iI 5 (.faddr 0 (.t 1)),iI 6 (.load 0 (.t 5)),iI 7 (.len 0 (.t 6)),iI 8 (.bin .gtr (.t 7) (.c (.int .i64 64)))]) c20_0) c20_10
def ir20:C:=.seq (.reg [iI 1 (.box (.t 0)),iI 2 (.mv (.c (.int .i64 0)))]) c20_11
theorem fd20:fd? Try.prog 20=some (42,[.slot 2],ir20):=by kernel_rfl
noncomputable def f20(x0:Ref57Receiver):Option (Int) :=
  (if (decide (64<((x0.fInputs.length:Nat):Int)))=true then (some 5) else ((Lp.run (f20_L1 x0) 0).bind fun r_=>match r_ with | (Sum.inl _)=>(some 0) | (Sum.inr x1)=>(some x1)))
theorem f20_ok{x0:Ref57Receiver}{r_:Int}(H:f20 x0=some r_):Pure Try.prog 20 [.agg [.sl 8 false (x0.fInputs.map eRef57Input)]] (· = .int .i64 r_):=by
 refine Pure.walk3 fd20 none (Nat.le_of_ble_eq_true rfl) (by rfl) fun Q hQ=>?_
 simp only[f20] at H
 refine AW.rseq ?_
 try simp only[↓wk,↓wl,nq,evV,↓reduceIte,sevalprocAttr]
 refine AW.sseq ?_
 refine AW.rseq ?_
 try simp only[↓wk,↓wl,nq,evV,↓reduceIte,sevalprocAttr]
 refine AW.ifc H (by rfl) ?_ ?_<;>clear H<;>intro H
 ·refine AW.rseq ?_
  try simp only[↓wk,↓wl,nq,evV,↓reduceIte,sevalprocAttr]
  refine AW.ret ?_
  refine seqQ.ret ?_
  cases H
  exact hQ.fin
 ·refine AW.skip ?_
  refine seqQ.norm ?_
  refine AW.sseq ?_
  refine AW.rseq ?_
  try simp only[↓wk,↓wl,nq,evV,↓reduceIte,sevalprocAttr]
  refine AW.bend ?_
  refine AW.iter H ((Le.tz [0] [1,3] (by simp only[f20_L1c,rrm,↓wk,↓wl,evV,↓reduceIte,sevalprocAttr]<;>rfl))) ?_<;>clear H
  rintro x1 x_ st0_ H hst_
  rw[f20_L1c] at hst_
  simp only[f20_L1] at H
  subst hst_
  refine AW.sseq ?_
  refine AW.rseq ?_
  try simp only[↓wk,↓wl,nq,evV,↓reduceIte,sevalprocAttr]
  refine AW.ifc H (by rfl) ?_ ?_<;>clear H<;>intro H
  ·refine AW.skip ?_
   refine seqQ.norm ?_
   refine AW.bseq ?_
   refine AW.sseq ?_
   refine AW.rseq ?_
   try simp only[↓wk,↓wl,nq,evV,↓reduceIte,sevalprocAttr]
   refine evTs_at (enc:=eRef57Input) H (by rfl) (by rfl) ?_<;>clear H<;>intro x2 H
   try simp only[eRef57Input,eL,↓wk,↓wl,nq,evV,↓reduceIte,sevalprocAttr]
   refine evTs_pure hFn H (fun _ h=>f66_ok h) (by rfl) (by rfl) (by rfl) (by rfl) (fun _=>rfl) ?_<;>clear H<;>intro x3 H
   try simp only[eL,↓wk,↓wl,nq,evV,↓reduceIte,sevalprocAttr]
   refine AW.rseq ?_
   try simp only[↓wk,↓wl,nq,evV,↓reduceIte,sevalprocAttr]
   refine AW.ifc H (by rfl) ?_ ?_<;>clear H<;>intro H
   ·refine AW.rseq ?_
    try simp only[↓wk,↓wl,nq,evV,↓reduceIte,sevalprocAttr]
    refine AW.ret ?_
    refine seqQ.ret ?_
    refine blkQ.ret ?_
    refine loopQ.ret H ?_<;>clear H<;>intro H
    try dsimp only at H
    refine blk0.ret ?_
    refine seqQ.ret ?_
    cases H
    exact hQ.fin
   ·refine AW.skip ?_
    refine seqQ.norm ?_
    refine AW.rseq ?_
    try simp only[↓wk,↓wl,nq,evV,↓reduceIte,sevalprocAttr]
    refine evTs_ifg H (by rfl) ?_ ?_<;>clear H<;>intro H
    ·try simp only[↓wk,↓wl,nq,evV,↓reduceIte,sevalprocAttr]
     refine evTs_at (enc:=eRef57Input) H (by rfl) (by rfl) ?_<;>clear H<;>intro x4 H
     try simp only[eRef57Input,eL,↓wk,↓wl,nq,evV,↓reduceIte,sevalprocAttr]
     refine evTs_at (enc:=eRef57Input) H (by rfl) (by rfl) ?_<;>clear H<;>intro x5 H
     try simp only[eRef57Input,eL,↓wk,↓wl,nq,evV,↓reduceIte,sevalprocAttr]
     refine evTs_pure hFn H (fun _ h=>f67_ok h) (by rfl) (by rfl) (by rfl) (by rfl) (fun _=>rfl) ?_<;>clear H<;>intro x6 H
     try simp only[eL,↓wk,↓wl,nq,evV,↓reduceIte,sevalprocAttr]
     refine AW.ifc H (by rfl) ?_ ?_<;>clear H<;>intro H
     ·refine AW.rseq ?_
      try simp only[↓wk,↓wl,nq,evV,↓reduceIte,sevalprocAttr]
      refine AW.ret ?_
      refine blkQ.ret ?_
      refine loopQ.ret H ?_<;>clear H<;>intro H
      try dsimp only at H
      refine blk0.ret ?_
      refine seqQ.ret ?_
      cases H
      exact hQ.fin
     ·refine AW.skip ?_
      refine blkQ.norm ?_
      refine AW.rend ?_
      try simp only[↓wk,↓wl,nq,evV,↓reduceIte,sevalprocAttr]
      exact loopQ.next H ((Le.tz [0] [1,3] (by simp only[f20_L1c,rrm,↓wk,↓wl,evV,↓reduceIte,sevalprocAttr]<;>rfl)))
    ·try simp only[↓wk,↓wl,nq,evV,↓reduceIte,sevalprocAttr]
     refine AW.iff (by rfl) ?_
     refine AW.skip ?_
     refine blkQ.norm ?_
     refine AW.rend ?_
     try simp only[↓wk,↓wl,nq,evV,↓reduceIte,sevalprocAttr]
     exact loopQ.next H ((Le.tz [0] [1,3] (by simp only[f20_L1c,rrm,↓wk,↓wl,evV,↓reduceIte,sevalprocAttr]<;>rfl)))
  ·refine AW.exit ?_
   refine seqQ.exit ?_
   refine loopQ.exit H ?_<;>clear H<;>intro H
   try dsimp only at H
   refine blk0.here ?_
   refine seqQ.norm ?_
   refine AW.rseq ?_
   try simp only[↓wk,↓wl,nq,evV,↓reduceIte,sevalprocAttr]
   refine AW.ret ?_
   cases H
   exact hQ.fin
noncomputable def f12_L4(x0:(List ApiFrame)×Int)(x1:(List ApiFrame))(x2:(List ApiFrame)):Lp (Int) ((Unit)⊕(Unit)) where
  body:=fun x3=>(if (decide (x3<512))=true then (at? x0.1 0).bind fun x4=>(at? x4.fSlots x3).bind fun x5=>(at? x1 0).bind fun x6=>(at? x6.fSlots x3).bind fun x7=>(at? x2 0).bind fun x8=>(at? x8.fSlots x3).bind fun x9=>(if (decide ((x5.toNat:Int)≠(if (x9.toNat:Int) > (x7.toNat:Int) then (x9.toNat:Int) else (x7.toNat:Int))))=true then (some (.brk (Sum.inr ()))) else (some (.next (IntKind.i64.wrap (x3 + 1))))) else (some (.brk (Sum.inl ()))))
  cst:=fun x3=>⟨put (put (put (put (fun _=>.junk) 127 (.int .i64 x3)) 20 (.sl 2 false (x0.1.map eApiFrame))) 1 (.sl 2 false (x2.map eApiFrame))) 0 (.sl 2 false (x1.map eApiFrame)),[]⟩
theorem f12_L4c(x0:(List ApiFrame)×Int)(x1:(List ApiFrame))(x2:(List ApiFrame))(x3:Int):(f12_L4 x0 x1 x2).cst x3=⟨put (put (put (put (fun _=>.junk) 127 (.int .i64 x3)) 20 (.sl 2 false (x0.1.map eApiFrame))) 1 (.sl 2 false (x2.map eApiFrame))) 0 (.sl 2 false (x1.map eApiFrame)),[]⟩:=rfl
noncomputable def f12_J3(x0:(List ApiFrame))(x1:(List ApiFrame)):Jn ((List NetworkPacket)) (Bool) where
  run:=fun x2=>(f51 (ReceiverReceiver.mk ([])) 5 x2 false).bind fun x3=>(f30 x3.1 5).bind fun x4=>(if (!x3.2)=true then (some false) else (if (decide (x4.2≠0))=true then (some false) else (if (decide (((x4.1.length:Nat):Int)≠1))=true then (some false) else (at? x4.1 0).bind fun x5=>(if (decide (((x5.fSlots.length:Nat):Int)≠512))=true then (some false) else (if (decide (((x3.1.fInputs.length:Nat):Int)≠2))=true then (some false) else ((Lp.run (f12_L4 x4 x0 x1) 0).bind fun r_=>match r_ with | (Sum.inl _)=>(f20 (Ref57Receiver.mk ([]))).bind fun x6=>(if (decide (x6=0))=true then (f49).bind fun x7=>(some x7) else (some false)) | (Sum.inr _)=>(some false)))))))
  cst:=fun x2=>⟨put (put (put (fun _=>.junk) 17 (.row 7 0 0 x2.length)) 1 (.sl 2 false (x1.map eApiFrame))) 0 (.sl 2 false (x0.map eApiFrame)),[.els 7 (x2.map eNetworkPacket)]⟩
theorem f12_J3c(x0:(List ApiFrame))(x1:(List ApiFrame))(x2:(List NetworkPacket)):(f12_J3 x0 x1).cst x2=⟨put (put (put (fun _=>.junk) 17 (.row 7 0 0 x2.length)) 1 (.sl 2 false (x1.map eApiFrame))) 0 (.sl 2 false (x0.map eApiFrame)),[.els 7 (x2.map eNetworkPacket)]⟩:=rfl
noncomputable def f12_J2(x0:NetworkSender×Int)(x1:NetworkSender×Int)(x2:Int)(x3:Bool)(x4:(List NetworkPacket))(x5:(List ApiFrame))(x6:(List ApiFrame)):Jn (Int×(List NetworkPacket)) (Bool) where
  run:=fun (x7,x8)=>(if (decide ((IntKind.i64.wrap ((IntKind.i64.wrap ((IntKind.i64.wrap (x0.2 + x1.2)) + x2)) + x7))≠0))=true then (some false) else (if x3=true then (dap? 64 x4 x8).bind fun _=>(app? 64 x8 x4).bind fun x9=>((f12_J3 x5 x6).run x9) else (app? 64 x4 x8).bind fun xa=>((f12_J3 x5 x6).run xa)))
  cst:=fun (x7,x8)=>⟨put (put (put (put (put (put (put (put (put (fun _=>.junk) 16 (.int .i64 x7)) 15 (.row 7 1 0 x8.length)) 13 (.int .i64 x2)) 12 (.row 7 0 0 x4.length)) 10 (.int .i64 x1.2)) 8 (.int .i64 x0.2)) 2 (.bool x3)) 1 (.sl 2 false (x6.map eApiFrame))) 0 (.sl 2 false (x5.map eApiFrame)),[.els 7 (x4.map eNetworkPacket),.els 7 (x8.map eNetworkPacket)]⟩
theorem f12_J2c(x0:NetworkSender×Int)(x1:NetworkSender×Int)(x2:Int)(x3:Bool)(x4:(List NetworkPacket))(x5:(List ApiFrame))(x6:(List ApiFrame))(x7:Int)(x8:(List NetworkPacket)):(f12_J2 x0 x1 x2 x3 x4 x5 x6).cst (x7,x8)=⟨put (put (put (put (put (put (put (put (put (fun _=>.junk) 16 (.int .i64 x7)) 15 (.row 7 1 0 x8.length)) 13 (.int .i64 x2)) 12 (.row 7 0 0 x4.length)) 10 (.int .i64 x1.2)) 8 (.int .i64 x0.2)) 2 (.bool x3)) 1 (.sl 2 false (x6.map eApiFrame))) 0 (.sl 2 false (x5.map eApiFrame)),[.els 7 (x4.map eNetworkPacket),.els 7 (x8.map eNetworkPacket)]⟩:=rfl
noncomputable def f12_J1(x0:(List ApiFrame))(x1:NetworkSender×Int)(x2:NetworkSender×Int)(x3:Bool)(x4:(List ApiFrame)):Jn (Int×(List NetworkPacket)) (Bool) where
  run:=fun (x5,x6)=>(slc? x0 0 1).bind fun x7=>(f43 x1.1 0 x7).bind fun x8=>((f12_J2 x2 x1 x5 x3 x6 x4 x0).run (x8.2.2,x8.2.1))
  cst:=fun (x5,x6)=>⟨put (put (put (put (put (put (put (put (fun _=>.junk) 13 (.int .i64 x5)) 12 (.row 7 1 0 x6.length)) 10 (.int .i64 x1.2)) 9 (.ptr 0 0)) 8 (.int .i64 x2.2)) 2 (.bool x3)) 1 (.sl 2 false (x0.map eApiFrame))) 0 (.sl 2 false (x4.map eApiFrame)),[.cel [.int .u64 x1.1.fSource,.int .i64 x1.1.fPriority,.int .i64 x1.1.fSync,.int .i64 x1.1.fPulse,.sl 5 false (x1.1.fStreams.map eNetworkStream)],.els 7 (x6.map eNetworkPacket)]⟩
theorem f12_J1c(x0:(List ApiFrame))(x1:NetworkSender×Int)(x2:NetworkSender×Int)(x3:Bool)(x4:(List ApiFrame))(x5:Int)(x6:(List NetworkPacket)):(f12_J1 x0 x1 x2 x3 x4).cst (x5,x6)=⟨put (put (put (put (put (put (put (put (fun _=>.junk) 13 (.int .i64 x5)) 12 (.row 7 1 0 x6.length)) 10 (.int .i64 x1.2)) 9 (.ptr 0 0)) 8 (.int .i64 x2.2)) 2 (.bool x3)) 1 (.sl 2 false (x0.map eApiFrame))) 0 (.sl 2 false (x4.map eApiFrame)),[.cel [.int .u64 x1.1.fSource,.int .i64 x1.1.fPriority,.int .i64 x1.1.fSync,.int .i64 x1.1.fPulse,.sl 5 false (x1.1.fStreams.map eNetworkStream)],.els 7 (x6.map eNetworkPacket)]⟩:=rfl
def c12_0:C:=.cond (.t 50) (.seq (.reg [iI 51 (.call (.c (.fn 49 [])) []),iI 6 (.mv (.t 51))]) .ret) (.skip)
def c12_1:C:=.cond (.t 83) (.seq (.reg [iI 6 (.mv (.c (.bool false)))]) .ret) (.skip)
def c12_2:C:=.cond (.t 87) (.reg [iI 88 (.mv (.t 15)),iI 89 (.mv (.t 12)),iI 90 (.append 7 64 (.t 88) (.t 89)),iI 17 (.mv (.t 90))]) (.skip)
def c12_3:C:=.cond (.t 126) (.seq (.reg [iI 6 (.mv (.c (.bool false)))]) .ret) (.skip)
def c12_4:C:=.cond (.t 149) (.seq (.reg [iI 6 (.mv (.c (.bool false)))]) .ret) (.skip)
def c12_5:C:=.seq (.reg [iI 130 (.mv (.t 20)),iI 131 (.iaddr 2 (.t 130) (.c (.int .i64 0))),iI 132 (.faddr 1 (.t 131)),iI 133 (.load 0 (.t 132)),iI 134 (.mv (.t 21)),iI 135 (.sidx (.t 133) (.t 134)),iI 136 (.mv (.t 0)),iI 137 (.iaddr 2 (.t 136) (.c (.int .i64 0))),iI 138 (.faddr 1 (.t 137)),iI 139 (.load 0 (.t 138)),iI 140 (.mv (.t 21)),iI 141 (.sidx (.t 139) (.t 140)),iI 142 (.mv (.t 1)),iI 143 (.iaddr 2 (.t 142) (.c (.int .i64 0))),iI 144 (.faddr 1 (.t 143)),iI 145 (.load 0 (.t 144)),iI 146 (.mv (.t 21)),iI 147 (.sidx (.t 145) (.t 146)),iI 148 (.maxmin true (.t 141) [(.t 147)]),iI 149 (.bin .neq (.t 135) (.t 148))]) c12_4
def c12_6:C:=.reg [iI 150 (.bin .add (.t 127) (.c (.int .i64 1))),iI 127 (.mv (.t 150))]
def c12_7:C:=.seq (.block 1 (.seq (.reg [iI 129 (.mv (.t 127)),iI 21 (.mv (.t 129))]) c12_5)) c12_6
def c12_8:C:=.seq (.cond (.t 128) (.skip) (.exit 0)) c12_7
def c12_9:C:=.block 0 (.loop (.seq (.reg [iI 128 (.bin .lss (.t 127) (.c (.int .i64 512)))]) c12_8))
def c12_10:C:=.seq (.reg [iI 151 (.build [(1,(.sl 8 true []))] []),iI 152 (.call (.c (.fn 20 [])) [(.t 151)]),iI 153 (.bin .eql (.t 152) (.c (.int .i64 0))),iI 154 (.mv (.t 153)),iG (some 155) 154 true (.call (.c (.fn 49 [])) []),iI 156 (.pick (.t 154) (.t 155) (.c (.bool false))),iI 6 (.mv (.t 156))]) .ret
def c12_11:C:=.seq (.seq (.reg [iI 127 (.mv (.c (.int .i64 0)))]) c12_9) c12_10
def c12_12:C:=.seq (.seq (.reg [iI 102 (.mv (.t 19)),iI 103 (.un .not (.t 102)),iI 104 (.mv (.t 103)),iG (some 105) 104 false (.mv (.t 8)),iG (some 106) 104 false (.bin .neq (.t 105) (.c (.int .i64 0))),iI 107 (.pick (.t 104) (.c (.bool true)) (.t 106)),iI 108 (.mv (.t 107)),iG (some 109) 108 false (.mv (.t 20)),iG (some 110) 108 false (.len 0 (.t 109)),iG (some 111) 108 false (.bin .neq (.t 110) (.c (.int .i64 1))),iI 112 (.pick (.t 108) (.c (.bool true)) (.t 111)),iI 113 (.mv (.t 112)),iG (some 114) 113 false (.mv (.t 20)),iG (some 115) 113 false (.iaddr 2 (.t 114) (.c (.int .i64 0))),iG (some 116) 113 false (.faddr 1 (.t 115)),iG (some 117) 113 false (.load 0 (.t 116)),iG (some 118) 113 false (.len 1 (.t 117)),iG (some 119) 113 false (.bin .neq (.t 118) (.c (.int .i64 512))),iI 120 (.pick (.t 113) (.c (.bool true)) (.t 119)),iI 121 (.mv (.t 120)),iG (some 122) 121 false (.faddr 0 (.t 18)),iG (some 123) 121 false (.load 0 (.t 122)),iG (some 124) 121 false (.len 0 (.t 123)),iG (some 125) 121 false (.bin .neq (.t 124) (.c (.int .i64 2))),iI 126 (.pick (.t 121) (.c (.bool true)) (.t 125))]) c12_3) c12_11
def c12_13:C:=.seq (.reg [iI 98 (.load 1 (.t 18)),iI 99 (.call (.c (.fn 30 [])) [(.t 98),(.c (.int .i64 5))]),iI 97 (.mv (.t 99)),iI 100 (.ext (.t 97) 0),iI 101 (.ext (.t 97) 1),iI 20 (.mv (.t 100)),iI 8 (.mv (.t 101))]) c12_12
def c12_14:C:=.seq (.reg [iI 92 (.build [(1,(.sl 8 true []))] []),iI 93 (.mv (.t 17)),iI 94 (.call (.c (.fn 51 [])) [(.t 92),(.c (.int .i64 5)),(.t 93),(.c (.bool false))]),iI 91 (.mv (.t 94)),iI 95 (.ext (.t 91) 0),iI 96 (.ext (.t 91) 1),iI 18 (.alloc [(1,(.sl 8 true []))]),iN (.store 1 (.t 18) (.t 95)),iI 19 (.mv (.t 96))]) c12_13
def c12_15:C:=.seq (.seq (.reg [iI 87 (.mv (.t 2))]) c12_2) c12_14
def c12_16:C:=.seq (.reg [iI 84 (.mv (.t 12)),iI 85 (.mv (.t 15)),iI 86 (.append 7 64 (.t 84) (.t 85)),iI 17 (.mv (.t 86))]) c12_15
def c12_17:C:=.seq (.seq (.reg [iI 76 (.mv (.t 8)),iI 77 (.mv (.t 10)),iI 78 (.bin .add (.t 76) (.t 77)),iI 79 (.mv (.t 13)),iI 80 (.bin .add (.t 78) (.t 79)),iI 81 (.mv (.t 16)),iI 82 (.bin .add (.t 80) (.t 81)),iI 83 (.bin .neq (.t 82) (.c (.int .i64 0)))]) c12_1) c12_16
def c12_18:C:=.seq (.regt (.fork [iI 69 (.load 5 (.t 9)),iI 70 (.mv (.t 1)),iI 71 (.slice 2 (.t 70) none (some (.c (.int .i64 1))))] (.run [iI 72 (.call (.c (.fn 43 [])) [(.t 69),(.c (.int .i64 0)),(.t 71)]),iI 68 (.mv (.t 72)),iI 73 (.ext (.t 68) 0),iI 74 (.ext (.t 68) 1),iI 75 (.ext (.t 68) 2),iI 14 (.alloc [(1,(.int .u64 0)),(1,(.int .i64 0)),(1,(.int .i64 0)),(1,(.int .i64 0)),(1,(.sl 5 true []))]),iN (.store 5 (.t 14) (.t 73)),iI 15 (.mv (.t 74)),iI 16 (.mv (.t 75))]) (.run [iI 14 (.alloc [(1,(.int .u64 0)),(1,(.int .i64 0)),(1,(.int .i64 0)),(1,(.int .i64 0)),(1,(.sl 5 true []))]),iI 72 (.call (.c (.fn 43 [])) [(.t 69),(.c (.int .i64 0)),(.t 71)]),iI 68 (.mv (.t 72)),iI 73 (.ext (.t 68) 0),iI 74 (.ext (.t 68) 1),iI 75 (.ext (.t 68) 2),iN (.store 5 (.t 14) (.t 73)),iI 15 (.mv (.t 74)),iI 16 (.mv (.t 75))]))) c12_17
def c12_19:C:=.seq (.regt (.fork [iI 61 (.load 5 (.t 7)),iI 62 (.mv (.t 0)),iI 63 (.slice 2 (.t 62) none (some (.c (.int .i64 1))))] (.run [iI 64 (.call (.c (.fn 43 [])) [(.t 61),(.c (.int .i64 0)),(.t 63)]),iI 60 (.mv (.t 64)),iI 65 (.ext (.t 60) 0),iI 66 (.ext (.t 60) 1),iI 67 (.ext (.t 60) 2),iI 11 (.alloc [(1,(.int .u64 0)),(1,(.int .i64 0)),(1,(.int .i64 0)),(1,(.int .i64 0)),(1,(.sl 5 true []))]),iN (.store 5 (.t 11) (.t 65)),iI 12 (.mv (.t 66)),iI 13 (.mv (.t 67))]) (.run [iI 11 (.alloc [(1,(.int .u64 0)),(1,(.int .i64 0)),(1,(.int .i64 0)),(1,(.int .i64 0)),(1,(.sl 5 true []))]),iI 64 (.call (.c (.fn 43 [])) [(.t 61),(.c (.int .i64 0)),(.t 63)]),iI 60 (.mv (.t 64)),iI 65 (.ext (.t 60) 0),iI 66 (.ext (.t 60) 1),iI 67 (.ext (.t 60) 2),iN (.store 5 (.t 11) (.t 65)),iI 12 (.mv (.t 66)),iI 13 (.mv (.t 67))]))) c12_18
def c12_20:C:=.seq (.reg [iI 57 (.call (.c (.fn 42 [])) [(.c (.int .u64 5)),(.c (.int .i64 90)),(.c (.int .i64 0))]),iI 56 (.mv (.t 57)),iI 58 (.ext (.t 56) 0),iI 59 (.ext (.t 56) 1),iI 9 (.alloc [(1,(.int .u64 0)),(1,(.int .i64 0)),(1,(.int .i64 0)),(1,(.int .i64 0)),(1,(.sl 5 true []))]),iN (.store 5 (.t 9) (.t 58)),iI 10 (.mv (.t 59))]) c12_19
def c12_21:C:=.seq (.reg [iI 53 (.call (.c (.fn 42 [])) [(.c (.int .u64 3)),(.c (.int .i64 90)),(.c (.int .i64 0))]),iI 52 (.mv (.t 53)),iI 54 (.ext (.t 52) 0),iI 55 (.ext (.t 52) 1),iI 7 (.alloc [(1,(.int .u64 0)),(1,(.int .i64 0)),(1,(.int .i64 0)),(1,(.int .i64 0)),(1,(.sl 5 true []))]),iN (.store 5 (.t 7) (.t 54)),iI 8 (.mv (.t 55))]) c12_20
def c12_22:C:=.seq (.seq (.reg [iI 22 (.mv (.t 0)),iI 23 (.call (.c (.fn 53 [])) [(.t 22)]),iI 24 (.un .not (.t 23)),iI 25 (.mv (.t 24)),iG (some 26) 25 false (.mv (.t 1)),iG (some 27) 25 false (.call (.c (.fn 53 [])) [(.t 26)]),iG (some 28) 25 false (.un .not (.t 27)),iI 29 (.pick (.t 25) (.c (.bool true)) (.t 28)),iI 30 (.mv (.t 29)),iG (some 31) 30 false (.mv (.t 0)),iG (some 32) 30 false (.len 0 (.t 31)),iG (some 33) 30 false (.bin .eql (.t 32) (.c (.int .i64 0))),iI 34 (.pick (.t 30) (.c (.bool true)) (.t 33)),iI 35 (.mv (.t 34)),iG (some 36) 35 false (.mv (.t 1)),iG (some 37) 35 false (.len 0 (.t 36)),iG (some 38) 35 false (.bin .eql (.t 37) (.c (.int .i64 0))),iI 39 (.pick (.t 35) (.c (.bool true)) (.t 38)),iI 40 (.mv (.t 39)),iG (some 41) 40 false (.mv (.t 0)),iG (some 42) 40 false (.iaddr 2 (.t 41) (.c (.int .i64 0))),iG (some 43) 40 false (.faddr 0 (.t 42)),iG (some 44) 40 false (.load 0 (.t 43)),iG (some 45) 40 false (.mv (.t 1)),iG (some 46) 40 false (.iaddr 2 (.t 45) (.c (.int .i64 0))),iG (some 47) 40 false (.faddr 0 (.t 46)),iG (some 48) 40 false (.load 0 (.t 47)),iG (some 49) 40 false (.bin .neq (.t 44) (.t 48)),iI 50 (.pick (.t 40) (.c (.bool true)) (.t 49))]) c12_0) c12_21
def ir12:C:=.seq (.reg [iI 6 (.mv (.c (.bool false)))]) c12_22
theorem fd12:fd? Try.prog 12=some (157,[.slot 6],ir12):=by kernel_rfl
noncomputable def f12(x0:(List ApiFrame))(x1:(List ApiFrame))(x2:Bool):Option (Bool) :=
  (f53 x0).bind fun x3=>(if (!x3)=true then (f49).bind fun x4=>(some x4) else (f53 x1).bind fun x5=>(if (!x5)=true then (f49).bind fun x6=>(some x6) else (if (decide (((x0.length:Nat):Int)=0))=true then (f49).bind fun x7=>(some x7) else (if (decide (((x1.length:Nat):Int)=0))=true then (f49).bind fun x8=>(some x8) else (at? x0 0).bind fun x9=>(at? x1 0).bind fun xa=>(if (decide (x9.fUniverse≠xa.fUniverse))=true then (f49).bind fun xb=>(some xb) else (f42 3 90 0).bind fun xc=>(f42 5 90 0).bind fun xd=>(slc? x0 0 1).bind fun xe=>(f43 xc.1 0 xe).bind fun xf=>((f12_J1 x1 xd xc x2 x0).run (xf.2.2,xf.2.1)))))))
theorem f12_ok{x0:(List ApiFrame)}{x1:(List ApiFrame)}{x2:Bool}{r_:Bool}(H:f12 x0 x1 x2=some r_):Pure Try.prog 12 [.sl 2 false (x0.map eApiFrame),.sl 2 false (x1.map eApiFrame),.bool x2] (· = .bool r_):=by
 refine Pure.walk3 fd12 none (Nat.le_of_ble_eq_true rfl) (by rfl) fun Q hQ=>?_
 simp only[f12] at H
 refine AW.rseq ?_
 try simp only[↓wk,↓wl,nq,evV,↓reduceIte,sevalprocAttr]
 refine AW.sseq ?_
 refine AW.rseq ?_
 try simp only[↓wk,↓wl,nq,evV,↓reduceIte,sevalprocAttr]
 refine evTs_pure hFn H (fun _ h=>f53_ok h) (by rfl) (by rfl) (by rfl) (by rfl) (fun _=>rfl) ?_<;>clear H<;>intro x3 H
 try simp only[eL,↓wk,↓wl,nq,evV,↓reduceIte,sevalprocAttr]
 refine evTs_ifg H (by rfl) ?_ ?_<;>clear H<;>intro H
 ·try simp only[↓wk,↓wl,nq,evV,↓reduceIte,sevalprocAttr]
  refine AW.ift (by rfl) ?_
  refine AW.rseq ?_
  try simp only[↓wk,↓wl,nq,evV,↓reduceIte,sevalprocAttr]
  refine evTs_pure hFn H (fun _ h=>f49_ok h) (by rfl) (by rfl) (by rfl) (by rfl) (fun _=>rfl) ?_<;>clear H<;>intro x4 H
  try simp only[eL,↓wk,↓wl,nq,evV,↓reduceIte,sevalprocAttr]
  refine AW.ret ?_
  refine seqQ.ret ?_
  cases H
  exact hQ.fin
 ·try simp only[↓wk,↓wl,nq,evV,↓reduceIte,sevalprocAttr]
  refine evTs_pure hFn H (fun _ h=>f53_ok h) (by rfl) (by rfl) (by rfl) (by rfl) (fun _=>rfl) ?_<;>clear H<;>intro x5 H
  try simp only[eL,↓wk,↓wl,nq,evV,↓reduceIte,sevalprocAttr]
  refine evTs_ifg H (by rfl) ?_ ?_<;>clear H<;>intro H
  ·try simp only[↓wk,↓wl,nq,evV,↓reduceIte,sevalprocAttr]
   refine AW.ift (by rfl) ?_
   refine AW.rseq ?_
   try simp only[↓wk,↓wl,nq,evV,↓reduceIte,sevalprocAttr]
   refine evTs_pure hFn H (fun _ h=>f49_ok h) (by rfl) (by rfl) (by rfl) (by rfl) (fun _=>rfl) ?_<;>clear H<;>intro x6 H
   try simp only[eL,↓wk,↓wl,nq,evV,↓reduceIte,sevalprocAttr]
   refine AW.ret ?_
   refine seqQ.ret ?_
   cases H
   exact hQ.fin
  ·try simp only[↓wk,↓wl,nq,evV,↓reduceIte,sevalprocAttr]
   refine evTs_ifg H (by rfl) ?_ ?_<;>clear H<;>intro H
   ·try simp only[↓wk,↓wl,nq,evV,↓reduceIte,sevalprocAttr]
    refine AW.ift (by rfl) ?_
    refine AW.rseq ?_
    try simp only[↓wk,↓wl,nq,evV,↓reduceIte,sevalprocAttr]
    refine evTs_pure hFn H (fun _ h=>f49_ok h) (by rfl) (by rfl) (by rfl) (by rfl) (fun _=>rfl) ?_<;>clear H<;>intro x7 H
    try simp only[eL,↓wk,↓wl,nq,evV,↓reduceIte,sevalprocAttr]
    refine AW.ret ?_
    refine seqQ.ret ?_
    cases H
    exact hQ.fin
   ·try simp only[↓wk,↓wl,nq,evV,↓reduceIte,sevalprocAttr]
    refine evTs_ifg H (by rfl) ?_ ?_<;>clear H<;>intro H
    ·try simp only[↓wk,↓wl,nq,evV,↓reduceIte,sevalprocAttr]
     refine AW.ift (by rfl) ?_
     refine AW.rseq ?_
     try simp only[↓wk,↓wl,nq,evV,↓reduceIte,sevalprocAttr]
     refine evTs_pure hFn H (fun _ h=>f49_ok h) (by rfl) (by rfl) (by rfl) (by rfl) (fun _=>rfl) ?_<;>clear H<;>intro x8 H
     try simp only[eL,↓wk,↓wl,nq,evV,↓reduceIte,sevalprocAttr]
     refine AW.ret ?_
     refine seqQ.ret ?_
     cases H
     exact hQ.fin
    ·try simp only[↓wk,↓wl,nq,evV,↓reduceIte,sevalprocAttr]
     refine evTs_at (enc:=eApiFrame) H (by rfl) (by rfl) ?_<;>clear H<;>intro x9 H
     try simp only[eApiFrame,eL,↓wk,↓wl,nq,evV,↓reduceIte,sevalprocAttr]
     refine evTs_at (enc:=eApiFrame) H (by rfl) (by rfl) ?_<;>clear H<;>intro xa H
     try simp only[eApiFrame,eL,↓wk,↓wl,nq,evV,↓reduceIte,sevalprocAttr]
     refine AW.ifc H (by rfl) ?_ ?_<;>clear H<;>intro H
     ·refine AW.rseq ?_
      try simp only[↓wk,↓wl,nq,evV,↓reduceIte,sevalprocAttr]
      refine evTs_pure hFn H (fun _ h=>f49_ok h) (by rfl) (by rfl) (by rfl) (by rfl) (fun _=>rfl) ?_<;>clear H<;>intro xb H
      try simp only[eL,↓wk,↓wl,nq,evV,↓reduceIte,sevalprocAttr]
      refine AW.ret ?_
      refine seqQ.ret ?_
      cases H
      exact hQ.fin
     ·refine AW.skip ?_
      refine seqQ.norm ?_
      refine AW.rseq ?_
      try simp only[↓wk,↓wl,nq,evV,↓reduceIte,sevalprocAttr]
      refine evTs_pure hFn H (fun _ h=>f42_ok h) (by rfl) (by rfl) (by rfl) (by rfl) (fun _=>rfl) ?_<;>clear H<;>intro xc H
      try simp only[eL,eNetworkSender,↓wk,↓wl,nq,evV,↓reduceIte,sevalprocAttr]
      refine AW.rseq ?_
      try simp only[↓wk,↓wl,nq,evV,↓reduceIte,sevalprocAttr]
      refine evTs_pure hFn H (fun _ h=>f42_ok h) (by rfl) (by rfl) (by rfl) (by rfl) (fun _=>rfl) ?_<;>clear H<;>intro xd H
      try simp only[eL,eNetworkSender,↓wk,↓wl,nq,evV,↓reduceIte,sevalprocAttr]
      refine AW.join (f12_J1 x1 xd xc x2 x0) H ?_ fun hf12_J1=>?_
      ·clear H
       rintro ⟨xe,xf⟩ st0_ H hst_
       rw[f12_J1c] at hst_
       simp only[f12_J1] at H
       subst hst_
       refine AW.join (f12_J2 xc xd xe x2 xf x0 x1) H ?_ fun hf12_J2=>?_
       ·clear H
        rintro ⟨xg,xh⟩ st0_ H hst_
        rw[f12_J2c] at hst_
        simp only[f12_J2] at H
        subst hst_
        refine AW.sseq ?_
        refine AW.rseq ?_
        try simp only[↓wk,↓wl,nq,evV,↓reduceIte,sevalprocAttr]
        refine AW.ifc H (by rfl) ?_ ?_<;>clear H<;>intro H
        ·refine AW.rseq ?_
         try simp only[↓wk,↓wl,nq,evV,↓reduceIte,sevalprocAttr]
         refine AW.ret ?_
         refine seqQ.ret ?_
         cases H
         exact hQ.fin
        ·refine AW.skip ?_
         refine seqQ.norm ?_
         refine AW.join2 (f12_J3 x0 x1) H ?_ fun hf12_J3=>?_
         ·clear H
          rintro xi st0_ H hst_
          rw[f12_J3c] at hst_
          simp only[f12_J3] at H
          subst hst_
          refine AW.rseq ?_
          try simp only[↓wk,↓wl,nq,evV,↓reduceIte,sevalprocAttr]
          refine evTs_frz (args:=[.agg [.sl 8 true []],.int .i64 5,.row 7 0 0 xi.length,.bool false]) (h1:=[.dead]) H (fun _ h=>f51_ok h) (by rfl) (by rfl) (freeze_rows (by rfl) (by simp only[deep_eq,imm_simps,imm_rowE,imm_ptrE,imm_enc,omap_simps,take_map_len,take_map_set,take_map_set2,List.length_set,le_refl_true,Nat.zero_add,and_true,true_and,List.drop_zero,Option.map_some,↓wk,↓wl,nq,evV,↓reduceIte,sevalprocAttr];try rfl) (by show kill _ (visit _ (11 + 1) _)=_;rw[visit_tup_cons,visit_pl (by rfl),visit_tup_cons,visit_pl (by rfl),visit_tup_cons,visit_rowE (enc:=eNetworkPacket) (by rfl),visit_tup_cons,visit_pl (by rfl),visit_tup_nil];try rfl)) (by rfl) (fun _=>by rfl) (fun _=>rfl) ?_<;>clear H<;>intro xj H
          try simp only[eL,eReceiverReceiver,↓wk,↓wl,nq,evV,↓reduceIte,sevalprocAttr]
          refine AW.rseq ?_
          try simp only[↓wk,↓wl,nq,evV,↓reduceIte,sevalprocAttr]
          refine evTs_pure hFn H (fun _ h=>f30_im h) (by rfl) (by rfl) (by rfl) (by rfl) (fun _=>rfl) ?_<;>clear H<;>intro xk H
          try simp only[eL,↓wk,↓wl,nq,evV,↓reduceIte,sevalprocAttr]
          refine AW.sseq ?_
          refine AW.rseq ?_
          try simp only[↓wk,↓wl,nq,evV,↓reduceIte,sevalprocAttr]
          refine evTs_ifg H (by rfl) ?_ ?_<;>clear H<;>intro H
          ·try simp only[↓wk,↓wl,nq,evV,↓reduceIte,sevalprocAttr]
           refine AW.ift (by rfl) ?_
           refine AW.rseq ?_
           try simp only[↓wk,↓wl,nq,evV,↓reduceIte,sevalprocAttr]
           refine AW.ret ?_
           refine seqQ.ret ?_
           cases H
           exact hQ.fin
          ·try simp only[↓wk,↓wl,nq,evV,↓reduceIte,sevalprocAttr]
           refine evTs_ifg H (by rfl) ?_ ?_<;>clear H<;>intro H
           ·try simp only[↓wk,↓wl,nq,evV,↓reduceIte,sevalprocAttr]
            refine AW.ift (by rfl) ?_
            refine AW.rseq ?_
            try simp only[↓wk,↓wl,nq,evV,↓reduceIte,sevalprocAttr]
            refine AW.ret ?_
            refine seqQ.ret ?_
            cases H
            exact hQ.fin
           ·try simp only[↓wk,↓wl,nq,evV,↓reduceIte,sevalprocAttr]
            refine evTs_ifg H (by rfl) ?_ ?_<;>clear H<;>intro H
            ·try simp only[↓wk,↓wl,nq,evV,↓reduceIte,sevalprocAttr]
             refine AW.ift (by rfl) ?_
             refine AW.rseq ?_
             try simp only[↓wk,↓wl,nq,evV,↓reduceIte,sevalprocAttr]
             refine AW.ret ?_
             refine seqQ.ret ?_
             cases H
             exact hQ.fin
            ·try simp only[↓wk,↓wl,nq,evV,↓reduceIte,sevalprocAttr]
             refine evTs_at (enc:=eApiFrame) H (by rfl) (by rfl) ?_<;>clear H<;>intro xl H
             try simp only[eApiFrame,eL,↓wk,↓wl,nq,evV,↓reduceIte,sevalprocAttr]
             refine evTs_ifg H (by rfl) ?_ ?_<;>clear H<;>intro H
             ·try simp only[↓wk,↓wl,nq,evV,↓reduceIte,sevalprocAttr]
              refine AW.ift (by rfl) ?_
              refine AW.rseq ?_
              try simp only[↓wk,↓wl,nq,evV,↓reduceIte,sevalprocAttr]
              refine AW.ret ?_
              refine seqQ.ret ?_
              cases H
              exact hQ.fin
             ·try simp only[↓wk,↓wl,nq,evV,↓reduceIte,sevalprocAttr]
              refine AW.ifc H (by rfl) ?_ ?_<;>clear H<;>intro H
              ·refine AW.rseq ?_
               try simp only[↓wk,↓wl,nq,evV,↓reduceIte,sevalprocAttr]
               refine AW.ret ?_
               refine seqQ.ret ?_
               cases H
               exact hQ.fin
              ·refine AW.skip ?_
               refine seqQ.norm ?_
               refine AW.sseq ?_
               refine AW.rseq ?_
               try simp only[↓wk,↓wl,nq,evV,↓reduceIte,sevalprocAttr]
               refine AW.bend ?_
               refine AW.iter H ((Le.tz [] [0,1,20,127] (by simp only[f12_L4c,rrm,↓wk,↓wl,evV,↓reduceIte,sevalprocAttr]<;>rfl))) ?_<;>clear H
               rintro xm x_ st0_ H hst_
               rw[f12_L4c] at hst_
               simp only[f12_L4] at H
               subst hst_
               refine AW.rseq ?_
               try simp only[↓wk,↓wl,nq,evV,↓reduceIte,sevalprocAttr]
               refine AW.sseq ?_
               refine AW.ifc H (by rfl) ?_ ?_<;>clear H<;>intro H
               ·refine AW.skip ?_
                refine seqQ.norm ?_
                refine AW.bseq ?_
                refine AW.rseq ?_
                try simp only[↓wk,↓wl,nq,evV,↓reduceIte,sevalprocAttr]
                refine AW.rseq ?_
                try simp only[↓wk,↓wl,nq,evV,↓reduceIte,sevalprocAttr]
                refine evTs_at (enc:=eApiFrame) H (by rfl) (by rfl) ?_<;>clear H<;>intro xn H
                try simp only[eApiFrame,eL,↓wk,↓wl,nq,evV,↓reduceIte,sevalprocAttr]
                refine evTs_sat H (by rfl) (by rfl) ?_<;>clear H<;>intro xo H
                try simp only[↓wk,↓wl,nq,evV,↓reduceIte,sevalprocAttr]
                refine evTs_at (enc:=eApiFrame) H (by rfl) (by rfl) ?_<;>clear H<;>intro xp H
                try simp only[eApiFrame,eL,↓wk,↓wl,nq,evV,↓reduceIte,sevalprocAttr]
                refine evTs_sat H (by rfl) (by rfl) ?_<;>clear H<;>intro xq H
                try simp only[↓wk,↓wl,nq,evV,↓reduceIte,sevalprocAttr]
                refine evTs_at (enc:=eApiFrame) H (by rfl) (by rfl) ?_<;>clear H<;>intro xr H
                try simp only[eApiFrame,eL,↓wk,↓wl,nq,evV,↓reduceIte,sevalprocAttr]
                refine evTs_sat H (by rfl) (by rfl) ?_<;>clear H<;>intro xs H
                try simp only[↓wk,↓wl,nq,evV,↓reduceIte,sevalprocAttr]
                refine AW.ifc H (by rfl) ?_ ?_<;>clear H<;>intro H
                ·refine AW.rseq ?_
                 try simp only[↓wk,↓wl,nq,evV,↓reduceIte,sevalprocAttr]
                 refine AW.ret ?_
                 refine blkQ.ret ?_
                 refine loopQ.ret H ?_<;>clear H<;>intro H
                 try dsimp only at H
                 refine blk0.ret ?_
                 refine seqQ.ret ?_
                 cases H
                 exact hQ.fin
                ·refine AW.skip ?_
                 refine blkQ.norm ?_
                 refine AW.rend ?_
                 try simp only[↓wk,↓wl,nq,evV,↓reduceIte,sevalprocAttr]
                 exact loopQ.next H ((Le.tz [] [0,1,20,127] (by simp only[f12_L4c,rrm,↓wk,↓wl,evV,↓reduceIte,sevalprocAttr]<;>rfl)))
               ·refine AW.exit ?_
                refine seqQ.exit ?_
                refine loopQ.exit H ?_<;>clear H<;>intro H
                try dsimp only at H
                refine blk0.here ?_
                refine seqQ.norm ?_
                refine AW.rseq ?_
                try simp only[↓wk,↓wl,nq,evV,↓reduceIte,sevalprocAttr]
                refine evTs_pure hFn H (fun _ h=>f20_ok h) (by rfl) (by rfl) (by rfl) (by rfl) (fun _=>rfl) ?_<;>clear H<;>intro xt H
                try simp only[eL,↓wk,↓wl,nq,evV,↓reduceIte,sevalprocAttr]
                refine evTs_ifg H (by rfl) ?_ ?_<;>clear H<;>intro H
                ·try simp only[↓wk,↓wl,nq,evV,↓reduceIte,sevalprocAttr]
                 refine evTs_pure hFn H (fun _ h=>f49_ok h) (by rfl) (by rfl) (by rfl) (by rfl) (fun _=>rfl) ?_<;>clear H<;>intro xu H
                 try simp only[eL,↓wk,↓wl,nq,evV,↓reduceIte,sevalprocAttr]
                 refine AW.ret ?_
                 cases H
                 exact hQ.fin
                ·try simp only[↓wk,↓wl,nq,evV,↓reduceIte,sevalprocAttr]
                 refine AW.ret ?_
                 cases H
                 exact hQ.fin
         ·cases x2
          ·replace H:=ifF H
           refine AW.weaken (Le.frz 15 (enc:=eNetworkPacket) (by rfl) (by rfl) (by rfl)) ?_
           try simp only[↓wk,↓wl,nq,evV,↓reduceIte,sevalprocAttr]
           refine AW.rseq ?_
           try simp only[↓wk,↓wl,nq,evV,↓reduceIte,sevalprocAttr]
           refine evTs_app (enc:=eNetworkPacket) H (by rfl) (by first | rfl | simp only[List.length_set]) (by rfl) (by rfl) ?_<;>clear H<;>intro xv H
           try simp only[↓wk,↓wl,nq,evV,↓reduceIte,sevalprocAttr]
           refine AW.sseq ?_
           refine AW.rseq ?_
           try simp only[↓wk,↓wl,nq,evV,↓reduceIte,sevalprocAttr]
           refine AW.iff (by rfl) ?_
           refine AW.skip ?_
           refine seqQ.norm ?_
           exact hf12_J3 _ _ H ((Le.tz [2] [0,1,17] (by simp only[f12_J3c,rrm,↓wk,↓wl,evV,↓reduceIte,sevalprocAttr]<;>rfl)))
          ·replace H:=ifT H
           refine AW.dapp (enc:=eNetworkPacket) H (by decide) (by rfl) (by rfl) (by rfl) (by rfl) (by rfl) (by rfl) (by decide) ?_<;>clear H<;>intro H
           try simp only[↓wk,↓wl,nq,evV,↓reduceIte,sevalprocAttr]
           refine AW.weaken (Le.frz 12 (enc:=eNetworkPacket) (by rfl) (by rfl) (by rfl)) ?_
           try simp only[↓wk,↓wl,nq,evV,↓reduceIte,sevalprocAttr]
           refine AW.sseq ?_
           refine AW.rseq ?_
           try simp only[↓wk,↓wl,nq,evV,↓reduceIte,sevalprocAttr]
           refine AW.ift (by rfl) ?_
           refine AW.rend ?_
           try simp only[↓wk,↓wl,nq,evV,↓reduceIte,sevalprocAttr]
           refine evTs_app (enc:=eNetworkPacket) H (by rfl) (by first | rfl | simp only[List.length_set]) (by rfl) (by rfl) ?_<;>clear H<;>intro xw H
           try simp only[↓wk,↓wl,nq,evV,↓reduceIte,sevalprocAttr]
           refine seqQ.norm ?_
           exact hf12_J3 _ _ H ((Le.tz [4] [0,1,17] (by simp only[f12_J3c,rrm,↓wk,↓wl,evV,↓reduceIte,sevalprocAttr]<;>rfl)))
       ·refine AW.regtF (by rfl) ?_
        refine evR.fork ?_
        try simp only[↓wk,↓wl,nq,evV,↓reduceIte,sevalprocAttr]
        refine evTs_slc (enc:=eApiFrame) H (by rfl) (by rfl) (by simp only[loI,hiI,↓wk,↓wl,nq,evV,↓reduceIte,sevalprocAttr];rfl) (by simp only[loI,hiI,↓wk,↓wl,nq,evV,↓reduceIte,sevalprocAttr];rfl) ?_<;>clear H<;>intro xx H
        try simp only[↓wk,↓wl,nq,evV,↓reduceIte,sevalprocAttr]
        refine evR.both ?_ ?_
        ·refine evR.run ?_
         try simp only[↓wk,↓wl,nq,evV,↓reduceIte,sevalprocAttr]
         refine evTs_fr H (fun _ h=>f43_ok h) (by rfl) (by rfl) (by rfl) (by rfl) (fun _=>rfl) ?_<;>clear H<;>intro xy H
         try simp only[eL,eNetworkSender,↓wk,↓wl,nq,evV,↓reduceIte,sevalprocAttr]
         refine seqQ.norm ?_
         exact hf12_J2 _ _ H ((Le.tz [1,2] [0,1,2,8,10,12,13,15,16] (by simp only[f12_J2c,rrm,↓wk,↓wl,evV,↓reduceIte,sevalprocAttr]<;>rfl)))
        ·refine evR.run ?_
         try simp only[↓wk,↓wl,nq,evV,↓reduceIte,sevalprocAttr]
         refine evTs_fr H (fun _ h=>f43_ok h) (by rfl) (by rfl) (by rfl) (by rfl) (fun _=>rfl) ?_<;>clear H<;>intro xy H
         try simp only[eL,eNetworkSender,↓wk,↓wl,nq,evV,↓reduceIte,sevalprocAttr]
         refine seqQ.norm ?_
         exact hf12_J2 _ _ H ((Le.tz [1,3] [0,1,2,8,10,12,13,15,16] (by simp only[f12_J2c,rrm,↓wk,↓wl,evV,↓reduceIte,sevalprocAttr]<;>rfl)))
      ·refine AW.regtF (by rfl) ?_
       refine evR.fork ?_
       try simp only[↓wk,↓wl,nq,evV,↓reduceIte,sevalprocAttr]
       refine evTs_slc (enc:=eApiFrame) H (by rfl) (by rfl) (by simp only[loI,hiI,↓wk,↓wl,nq,evV,↓reduceIte,sevalprocAttr];rfl) (by simp only[loI,hiI,↓wk,↓wl,nq,evV,↓reduceIte,sevalprocAttr];rfl) ?_<;>clear H<;>intro xz H
       try simp only[↓wk,↓wl,nq,evV,↓reduceIte,sevalprocAttr]
       refine evR.both ?_ ?_
       ·refine evR.run ?_
        try simp only[↓wk,↓wl,nq,evV,↓reduceIte,sevalprocAttr]
        refine evTs_fr H (fun _ h=>f43_ok h) (by rfl) (by rfl) (by rfl) (by rfl) (fun _=>rfl) ?_<;>clear H<;>intro x10 H
        try simp only[eL,eNetworkSender,↓wk,↓wl,nq,evV,↓reduceIte,sevalprocAttr]
        refine seqQ.norm ?_
        exact hf12_J1 _ _ H ((Le.tz [1,2] [0,1,2,8,9,10,12,13] (by simp only[f12_J1c,rrm,↓wk,↓wl,evV,↓reduceIte,sevalprocAttr]<;>rfl)))
       ·refine evR.run ?_
        try simp only[↓wk,↓wl,nq,evV,↓reduceIte,sevalprocAttr]
        refine evTs_fr H (fun _ h=>f43_ok h) (by rfl) (by rfl) (by rfl) (by rfl) (fun _=>rfl) ?_<;>clear H<;>intro x10 H
        try simp only[eL,eNetworkSender,↓wk,↓wl,nq,evV,↓reduceIte,sevalprocAttr]
        refine seqQ.norm ?_
        exact hf12_J1 _ _ H ((Le.tz [1,3] [0,1,2,8,9,10,12,13] (by simp only[f12_J1c,rrm,↓wk,↓wl,evV,↓reduceIte,sevalprocAttr]<;>rfl)))
end Go.Proofs.Ytgfohogbechkkaa
