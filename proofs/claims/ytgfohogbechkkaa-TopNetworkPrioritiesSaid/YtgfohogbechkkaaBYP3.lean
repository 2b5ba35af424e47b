import Derived.Test.YtgfohogbechkkaaBYP2
import Derived.Test.YtgfohogbechkkaaBM5
import Derived.Test.YtgfohogbechkkaaBM6
import Derived.Test.YtgfohogbechkkaaBMN
import Derived.Test.YtgfohogbechkkaaBMO
import Derived.Test.YtgfohogbechkkaaProg
import Derived.KernelRfl
namespace Go.Proofs.Ytgfohogbechkkaa
open Go Go.Ab
set_option maxHeartbeats 1000000
set_option maxRecDepth 4000
set_option linter.unusedSimpArgs false
set_option linter.unusedVariables false
def c137_0:C:=.cond (.t 18) (.seq (.reg [iI 19 (.mv (.t 8)),iI 4 (.mv (.c (.int .i64 0))),iI 5 (.mv (.c (.int .i64 0))),iI 6 (.mv (.t 19))]) .ret) (.skip)
def c137_1:C:=.seq (.reg [iI 17 (.mv (.t 8)),iI 18 (.bin .neq (.t 17) (.c (.int .i64 0)))]) c137_0
def c137_2:C:=.cond (.t 26) (.seq (.reg [iI 27 (.mv (.t 10)),iI 4 (.mv (.c (.int .i64 0))),iI 5 (.mv (.c (.int .i64 0))),iI 6 (.mv (.t 27))]) .ret) (.skip)
def c137_3:C:=.seq (.reg [iI 28 (.mv (.t 9)),iI 29 (.mv (.t 7)),iI 30 (.nilchk (.t 29)),iI 31 (.faddr 1 (.t 30)),iI 32 (.load 0 (.t 31)),iI 4 (.mv (.t 28)),iI 5 (.mv (.t 32)),iI 6 (.mv (.c (.int .i64 0)))]) .ret
def c137_4:C:=.seq (.seq (.reg [iI 25 (.mv (.t 10)),iI 26 (.bin .neq (.t 25) (.c (.int .i64 0)))]) c137_2) c137_3
def c137_5:C:=.seq (.reg [iI 21 (.mv (.t 7)),iI 22 (.call (.c (.fn 164 [])) [(.t 21)]),iI 20 (.mv (.t 22)),iI 23 (.ext (.t 20) 0),iI 24 (.ext (.t 20) 1),iI 9 (.mv (.t 23)),iI 10 (.mv (.t 24))]) c137_4
def c137_6:C:=.seq (.seq (.reg [iI 15 (.mv (.t 7)),iI 16 (.call (.c (.fn 161 [])) [(.t 15)]),iI 8 (.mv (.t 16))]) c137_1) c137_5
def c137_7:C:=.seq (.reg [iI 11 (.mv (.t 0)),iI 12 (.mv (.t 1)),iI 13 (.build [(1,(.str [])),(1,(.int .i64 0))] [(0,0,(.t 11)),(1,0,(.t 12))]),iI 14 (.box (.t 13)),iI 7 (.mv (.t 14))]) c137_6
def ir137:C:=.seq (.reg [iI 4 (.mv (.c (.int .i64 0))),iI 5 (.mv (.c (.int .i64 0))),iI 6 (.mv (.c (.int .i64 0)))]) c137_7
theorem fd137:fd? Try.prog 137=some (33,[.slot 4,.slot 5,.slot 6],ir137):=by kernel_rfl
noncomputable def f137(x0:(List UInt8))(x1:Int):Option (Int×Int×Int) :=
  (f161p x0 x1).bind fun x2=>(if (decide (x2≠0))=true then (some (0,0,x2)) else ((f137_C1 x0 x1).run.bind fun (x3,x4,x5)=>(if (decide (x4≠0))=true then (some (0,0,x4)) else (some (x3,x5,0)))))
theorem f137_ok{x0:(List UInt8)}{x1:Int}{r_:Int×Int×Int}(H:f137 x0 x1=some r_):Pure Try.prog 137 [.str x0,.int .i64 x1] (· = .tup [.int .i64 r_.1,.int .i64 r_.2.1,.int .i64 r_.2.2]):=by
 refine Pure.walk3 fd137 none (Nat.le_of_ble_eq_true rfl) (by rfl) fun Q hQ=>?_
 simp only[f137] at H
 refine AW.rseq ?_
 try simp only[↓wk,↓wl,nq,evV,↓reduceIte,sevalprocAttr]
 refine AW.rseq ?_
 try simp only[↓wk,↓wl,nq,evV,↓reduceIte,sevalprocAttr]
 refine AW.sseq ?_
 refine AW.rseq ?_
 try simp only[↓wk,↓wl,nq,evV,↓reduceIte,sevalprocAttr]
 refine evTs_flat hFn H (fun _ h=>f161p_ok h) (by rfl) (by rfl) (by simp only[deep_eq,imm_simps,imm_rowE,imm_ptrE,imm_enc,omap_simps,take_map_len,take_map_set,take_map_set2,List.length_set,le_refl_true,Nat.zero_add,and_true,true_and,List.drop_zero,Option.map_some,↓wk,↓wl,nq,evV,↓reduceIte,sevalprocAttr];rfl) (by rfl) (fun _=>rfl) (fun _=>rfl) ?_<;>clear H<;>intro x2 H
 try simp only[eL,↓wk,↓wl,nq,evV,↓reduceIte,sevalprocAttr]
 refine AW.rseq ?_
 try simp only[↓wk,↓wl,nq,evV,↓reduceIte,sevalprocAttr]
 refine AW.ifc H (by rfl) ?_ ?_<;>clear H<;>intro H
 ·refine AW.rseq ?_
  try simp only[↓wk,↓wl,nq,evV,↓reduceIte,sevalprocAttr]
  refine AW.ret ?_
  refine seqQ.ret ?_
  cases H
  exact hQ.fin
 ·refine AW.skip ?_
  refine seqQ.norm ?_
  refine AW.rseq ?_
  try simp only[↓wk,↓wl,nq,evV,↓reduceIte,sevalprocAttr]
  refine evTs_inl (I:=f137_C1 x0 x1) (args:=[.ptr 0 0]) H (by rfl) fd164 (by rfl) (Nat.le_of_ble_eq_true rfl) ?_ ?_<;>clear H
  ·rintro v_ Q_ H hqf137_C1
   simp only[f137_C1] at H
   dsimp only[List.length_cons,List.length_nil]
   refine AW.rseq ?_
   try simp only[↓wk,↓wl,nq,evV,↓reduceIte,sevalprocAttr]
   refine AW.scope ?_
   refine AW.rseq ?_
   try simp only[↓wk,↓wl,nq,evV,↓reduceIte,sevalprocAttr]
   refine AW.skseq ?_
   refine AW.sseq ?_
   refine AW.rseq ?_
   try simp only[↓wk,↓wl,nq,evV,↓reduceIte,sevalprocAttr]
   refine AW.bend ?_
   refine AW.iter H ((Le.tq 1 [0] [0,4,5] (by simp only[f137_L2c,rrm,↓wk,↓wl,evV,↓reduceIte,sevalprocAttr]<;>rfl))) ?_<;>clear H
   rintro ⟨x3,x4,x5⟩ x_ st0_ H hst_
   rw[f137_L2c] at hst_
   simp only[f137_L2] at H
   subst hst_
   refine AW.bseq ?_
   refine AW.sseq ?_
   refine AW.rseq ?_
   try simp only[↓wk,↓wl,nq,evV,↓reduceIte,sevalprocAttr]
   refine evTs_flat hFn H (fun _ h=>f162p_ok h) (by rfl) (by rfl) (by simp only[deep_eq,imm_simps,imm_rowE,imm_ptrE,imm_enc,omap_simps,take_map_len,take_map_set,take_map_set2,List.length_set,le_refl_true,Nat.zero_add,and_true,true_and,List.drop_zero,Option.map_some,↓wk,↓wl,nq,evV,↓reduceIte,sevalprocAttr];rfl) (by rfl) (fun _=>rfl) (fun _=>rfl) ?_<;>clear H<;>intro x6 H
   try simp only[eL,↓wk,↓wl,nq,evV,↓reduceIte,sevalprocAttr]
   refine AW.ifc H (by rfl) ?_ ?_<;>clear H<;>intro H
   ·refine AW.rseq ?_
    try simp only[↓wk,↓wl,nq,evV,↓reduceIte,sevalprocAttr]
    refine AW.ret ?_
    refine seqQ.ret ?_
    refine blkQ.ret ?_
    refine loopQ.ret H ?_<;>clear H<;>intro H
    try dsimp only at H
    refine blk0.ret ?_
    refine seqQ.ret ?_
    cases H
    exact hqf137_C1 _ _ _ (.inr rfl) (Le.tq 1 [0] [2,3] rfl) (by simp only[resVs,omap,resV,f137_C1,rrm,↓wk,↓wl,evV,↓reduceIte,sevalprocAttr]) (by simp only[f137_C1,rrm,↓wk,↓wl,evV,↓reduceIte,sevalprocAttr])
   ·refine AW.skip ?_
    refine seqQ.norm ?_
    refine AW.rseq ?_
    try simp only[↓wk,↓wl,nq,evV,↓reduceIte,sevalprocAttr]
    refine evTs_inl (I:=f137_C3 x0 x5) (args:=[.ptr 0 0,.int .i64 1]) H (by rfl) fd163 (by rfl) (Nat.le_of_ble_eq_true rfl) ?_ ?_<;>clear H
    ·rintro v_ Q_ H hqf137_C3
     simp only[f137_C3] at H
     dsimp only[List.length_cons,List.length_nil]
     refine AW.rseq ?_
     try simp only[↓wk,↓wl,nq,evV,↓reduceIte,sevalprocAttr]
     refine AW.rseq ?_
     try simp only[↓wk,↓wl,nq,evV,↓reduceIte,sevalprocAttr]
     refine AW.rseq ?_
     try simp only[↓wk,↓wl,nq,evV,↓reduceIte,sevalprocAttr]
     refine evTs_sslc H (by rfl) (by simp only[loI,hiI,↓wk,↓wl,nq,evV,↓reduceIte,sevalprocAttr];rfl) (by simp only[loI,hiI,↓wk,↓wl,nq,evV,↓reduceIte,sevalprocAttr];rfl) ?_<;>clear H<;>intro x7 H
     try simp only[↓wk,↓wl,nq,evV,↓reduceIte,sevalprocAttr]
     refine AW.ret ?_
     cases H
     exact hqf137_C3 _ _ _ (.inr rfl) (Le.tq 1 [0] [4] rfl) (by simp only[resVs,omap,resV,f137_C3,rrm,↓wk,↓wl,evV,↓reduceIte,sevalprocAttr]) (by simp only[f137_C3,rrm,↓wk,↓wl,evV,↓reduceIte,sevalprocAttr])
    ·rintro ⟨x8,x9⟩ s_ h_ H hs_ hh_
     simp only[f137_C3] at H hs_ hh_
     subst hs_
     subst hh_
     try simp only[↓wk,↓wl,nq,evV,↓reduceIte,sevalprocAttr]
     refine evTs_sat H (by rfl) (by rfl) ?_<;>clear H<;>intro xa H
     try simp only[↓wk,↓wl,nq,evV,↓reduceIte,sevalprocAttr]
     refine AW.rseq ?_
     try simp only[↓wk,↓wl,nq,evV,↓reduceIte,sevalprocAttr]
     refine rest_and ?_
     try simp only[↓wk,↓wl,nq,evV,↓reduceIte,sevalprocAttr]
     refine rest_shlv H ?_<;>clear H<;>intro H
     try simp only[↓wk,↓wl,nq,evV,↓reduceIte,sevalprocAttr]
     refine rest_or ?_
     try simp only[↓wk,↓wl,nq,evV,↓reduceIte,sevalprocAttr]
     refine AW.bend ?_
     refine AW.sseq ?_
     refine AW.rseq ?_
     try simp only[↓wk,↓wl,nq,evV,↓reduceIte,sevalprocAttr]
     refine evTs_ifg H (by rfl) ?_ ?_<;>clear H<;>intro H
     ·try simp only[↓wk,↓wl,nq,evV,↓reduceIte,sevalprocAttr]
      refine AW.ifc H (by rfl) ?_ ?_<;>clear H<;>intro H
      ·refine AW.skip ?_
       refine seqQ.norm ?_
       refine AW.ifc H (by rfl) ?_ ?_<;>clear H<;>intro H
       ·refine AW.rseq ?_
        try simp only[↓wk,↓wl,nq,evV,↓reduceIte,sevalprocAttr]
        refine AW.ret ?_
        refine blk0.ret ?_
        refine blkQ.ret ?_
        refine loopQ.ret H ?_<;>clear H<;>intro H
        try dsimp only at H
        refine blk0.ret ?_
        refine seqQ.ret ?_
        cases H
        exact hqf137_C1 _ _ _ (.inr rfl) (Le.tq 1 [0] [2,3] rfl) (by simp only[resVs,omap,resV,f137_C1,rrm,↓wk,↓wl,evV,↓reduceIte,sevalprocAttr]) (by simp only[f137_C1,rrm,↓wk,↓wl,evV,↓reduceIte,sevalprocAttr])
       ·refine AW.rseq ?_
        try simp only[↓wk,↓wl,nq,evV,↓reduceIte,sevalprocAttr]
        refine AW.ifc H (by rfl) ?_ ?_<;>clear H<;>intro H
        ·refine AW.exit ?_
         refine blk0.out (by rfl) ?_
         refine blkQ.out (by rfl) ?_
         refine loopQ.exit H ?_<;>clear H<;>intro H
         try dsimp only at H
         refine blk0.here ?_
         refine seqQ.norm ?_
         refine AW.rseq ?_
         try simp only[↓wk,↓wl,nq,evV,↓reduceIte,sevalprocAttr]
         refine rest_shr (by decide) ?_
         try simp only[↓wk,↓wl,nq,evV,↓reduceIte,sevalprocAttr]
         refine rest_and ?_
         try simp only[↓wk,↓wl,nq,evV,↓reduceIte,sevalprocAttr]
         refine rest_xor ?_
         try simp only[↓wk,↓wl,nq,evV,↓reduceIte,sevalprocAttr]
         refine AW.ret ?_
         cases H
         exact hqf137_C1 _ _ _ (.inr rfl) (Le.tq 1 [0] [2,3] rfl) (by simp only[resVs,omap,resV,f137_C1,rrm,↓wk,↓wl,evV,↓reduceIte,sevalprocAttr]) (by simp only[f137_C1,rrm,↓wk,↓wl,evV,↓reduceIte,sevalprocAttr])
        ·refine AW.skip ?_
         refine blk0.norm ?_
         refine blkQ.norm ?_
         refine AW.rend ?_
         try simp only[↓wk,↓wl,nq,evV,↓reduceIte,sevalprocAttr]
         exact loopQ.next H ((Le.tq 1 [0] [0,4,5] (by simp only[f137_L2c,rrm,↓wk,↓wl,evV,↓reduceIte,sevalprocAttr]<;>rfl)))
      ·refine AW.rend ?_
       try simp only[↓wk,↓wl,nq,evV,↓reduceIte,sevalprocAttr]
       refine evTs_ifg H (by rfl) ?_ ?_<;>clear H<;>intro H
       ·try simp only[↓wk,↓wl,nq,evV,↓reduceIte,sevalprocAttr]
        refine seqQ.norm ?_
        refine AW.ifc H (by rfl) ?_ ?_<;>clear H<;>intro H
        ·refine AW.rseq ?_
         try simp only[↓wk,↓wl,nq,evV,↓reduceIte,sevalprocAttr]
         refine AW.ret ?_
         refine blk0.ret ?_
         refine blkQ.ret ?_
         refine loopQ.ret H ?_<;>clear H<;>intro H
         try dsimp only at H
         refine blk0.ret ?_
         refine seqQ.ret ?_
         cases H
         exact hqf137_C1 _ _ _ (.inr rfl) (Le.tq 1 [0] [2,3] rfl) (by simp only[resVs,omap,resV,f137_C1,rrm,↓wk,↓wl,evV,↓reduceIte,sevalprocAttr]) (by simp only[f137_C1,rrm,↓wk,↓wl,evV,↓reduceIte,sevalprocAttr])
        ·refine AW.rseq ?_
         try simp only[↓wk,↓wl,nq,evV,↓reduceIte,sevalprocAttr]
         refine AW.ifc H (by rfl) ?_ ?_<;>clear H<;>intro H
         ·refine AW.exit ?_
          refine blk0.out (by rfl) ?_
          refine blkQ.out (by rfl) ?_
          refine loopQ.exit H ?_<;>clear H<;>intro H
          try dsimp only at H
          refine blk0.here ?_
          refine seqQ.norm ?_
          refine AW.rseq ?_
          try simp only[↓wk,↓wl,nq,evV,↓reduceIte,sevalprocAttr]
          refine rest_shr (by decide) ?_
          try simp only[↓wk,↓wl,nq,evV,↓reduceIte,sevalprocAttr]
          refine rest_and ?_
          try simp only[↓wk,↓wl,nq,evV,↓reduceIte,sevalprocAttr]
          refine rest_xor ?_
          try simp only[↓wk,↓wl,nq,evV,↓reduceIte,sevalprocAttr]
          refine AW.ret ?_
          cases H
          exact hqf137_C1 _ _ _ (.inr rfl) (Le.tq 1 [0] [2,3] rfl) (by simp only[resVs,omap,resV,f137_C1,rrm,↓wk,↓wl,evV,↓reduceIte,sevalprocAttr]) (by simp only[f137_C1,rrm,↓wk,↓wl,evV,↓reduceIte,sevalprocAttr])
         ·refine AW.skip ?_
          refine blk0.norm ?_
          refine blkQ.norm ?_
          refine AW.rend ?_
          try simp only[↓wk,↓wl,nq,evV,↓reduceIte,sevalprocAttr]
          exact loopQ.next H ((Le.tq 1 [0] [0,4,5] (by simp only[f137_L2c,rrm,↓wk,↓wl,evV,↓reduceIte,sevalprocAttr]<;>rfl)))
       ·try simp only[↓wk,↓wl,nq,evV,↓reduceIte,sevalprocAttr]
        refine seqQ.norm ?_
        refine AW.iff (by rfl) ?_
        refine AW.rseq ?_
        try simp only[↓wk,↓wl,nq,evV,↓reduceIte,sevalprocAttr]
        refine AW.ifc H (by rfl) ?_ ?_<;>clear H<;>intro H
        ·refine AW.exit ?_
         refine blk0.out (by rfl) ?_
         refine blkQ.out (by rfl) ?_
         refine loopQ.exit H ?_<;>clear H<;>intro H
         try dsimp only at H
         refine blk0.here ?_
         refine seqQ.norm ?_
         refine AW.rseq ?_
         try simp only[↓wk,↓wl,nq,evV,↓reduceIte,sevalprocAttr]
         refine rest_shr (by decide) ?_
         try simp only[↓wk,↓wl,nq,evV,↓reduceIte,sevalprocAttr]
         refine rest_and ?_
         try simp only[↓wk,↓wl,nq,evV,↓reduceIte,sevalprocAttr]
         refine rest_xor ?_
         try simp only[↓wk,↓wl,nq,evV,↓reduceIte,sevalprocAttr]
         refine AW.ret ?_
         cases H
         exact hqf137_C1 _ _ _ (.inr rfl) (Le.tq 1 [0] [2,3] rfl) (by simp only[resVs,omap,resV,f137_C1,rrm,↓wk,↓wl,evV,↓reduceIte,sevalprocAttr]) (by simp only[f137_C1,rrm,↓wk,↓wl,evV,↓reduceIte,sevalprocAttr])
        ·refine AW.skip ?_
         refine blk0.norm ?_
         refine blkQ.norm ?_
         refine AW.rend ?_
         try simp only[↓wk,↓wl,nq,evV,↓reduceIte,sevalprocAttr]
         exact loopQ.next H ((Le.tq 1 [0] [0,4,5] (by simp only[f137_L2c,rrm,↓wk,↓wl,evV,↓reduceIte,sevalprocAttr]<;>rfl)))
     ·try simp only[↓wk,↓wl,nq,evV,↓reduceIte,sevalprocAttr]
      refine AW.iff (by rfl) ?_
      refine AW.rend ?_
      try simp only[↓wk,↓wl,nq,evV,↓reduceIte,sevalprocAttr]
      refine evTs_ifg H (by rfl) ?_ ?_<;>clear H<;>intro H
      ·try simp only[↓wk,↓wl,nq,evV,↓reduceIte,sevalprocAttr]
       refine seqQ.norm ?_
       refine AW.ifc H (by rfl) ?_ ?_<;>clear H<;>intro H
       ·refine AW.rseq ?_
        try simp only[↓wk,↓wl,nq,evV,↓reduceIte,sevalprocAttr]
        refine AW.ret ?_
        refine blk0.ret ?_
        refine blkQ.ret ?_
        refine loopQ.ret H ?_<;>clear H<;>intro H
        try dsimp only at H
        refine blk0.ret ?_
        refine seqQ.ret ?_
        cases H
        exact hqf137_C1 _ _ _ (.inr rfl) (Le.tq 1 [0] [2,3] rfl) (by simp only[resVs,omap,resV,f137_C1,rrm,↓wk,↓wl,evV,↓reduceIte,sevalprocAttr]) (by simp only[f137_C1,rrm,↓wk,↓wl,evV,↓reduceIte,sevalprocAttr])
       ·refine AW.rseq ?_
        try simp only[↓wk,↓wl,nq,evV,↓reduceIte,sevalprocAttr]
        refine AW.ifc H (by rfl) ?_ ?_<;>clear H<;>intro H
        ·refine AW.exit ?_
         refine blk0.out (by rfl) ?_
         refine blkQ.out (by rfl) ?_
         refine loopQ.exit H ?_<;>clear H<;>intro H
         try dsimp only at H
         refine blk0.here ?_
         refine seqQ.norm ?_
         refine AW.rseq ?_
         try simp only[↓wk,↓wl,nq,evV,↓reduceIte,sevalprocAttr]
         refine rest_shr (by decide) ?_
         try simp only[↓wk,↓wl,nq,evV,↓reduceIte,sevalprocAttr]
         refine rest_and ?_
         try simp only[↓wk,↓wl,nq,evV,↓reduceIte,sevalprocAttr]
         refine rest_xor ?_
         try simp only[↓wk,↓wl,nq,evV,↓reduceIte,sevalprocAttr]
         refine AW.ret ?_
         cases H
         exact hqf137_C1 _ _ _ (.inr rfl) (Le.tq 1 [0] [2,3] rfl) (by simp only[resVs,omap,resV,f137_C1,rrm,↓wk,↓wl,evV,↓reduceIte,sevalprocAttr]) (by simp only[f137_C1,rrm,↓wk,↓wl,evV,↓reduceIte,sevalprocAttr])
        ·refine AW.skip ?_
         refine blk0.norm ?_
         refine blkQ.norm ?_
         refine AW.rend ?_
         try simp only[↓wk,↓wl,nq,evV,↓reduceIte,sevalprocAttr]
         exact loopQ.next H ((Le.tq 1 [0] [0,4,5] (by simp only[f137_L2c,rrm,↓wk,↓wl,evV,↓reduceIte,sevalprocAttr]<;>rfl)))
      ·try simp only[↓wk,↓wl,nq,evV,↓reduceIte,sevalprocAttr]
       refine seqQ.norm ?_
       refine AW.iff (by rfl) ?_
       refine AW.rseq ?_
       try simp only[↓wk,↓wl,nq,evV,↓reduceIte,sevalprocAttr]
       refine AW.ifc H (by rfl) ?_ ?_<;>clear H<;>intro H
       ·refine AW.exit ?_
        refine blk0.out (by rfl) ?_
        refine blkQ.out (by rfl) ?_
        refine loopQ.exit H ?_<;>clear H<;>intro H
        try dsimp only at H
        refine blk0.here ?_
        refine seqQ.norm ?_
        refine AW.rseq ?_
        try simp only[↓wk,↓wl,nq,evV,↓reduceIte,sevalprocAttr]
        refine rest_shr (by decide) ?_
        try simp only[↓wk,↓wl,nq,evV,↓reduceIte,sevalprocAttr]
        refine rest_and ?_
        try simp only[↓wk,↓wl,nq,evV,↓reduceIte,sevalprocAttr]
        refine rest_xor ?_
        try simp only[↓wk,↓wl,nq,evV,↓reduceIte,sevalprocAttr]
        refine AW.ret ?_
        cases H
        exact hqf137_C1 _ _ _ (.inr rfl) (Le.tq 1 [0] [2,3] rfl) (by simp only[resVs,omap,resV,f137_C1,rrm,↓wk,↓wl,evV,↓reduceIte,sevalprocAttr]) (by simp only[f137_C1,rrm,↓wk,↓wl,evV,↓reduceIte,sevalprocAttr])
       ·refine AW.skip ?_
        refine blk0.norm ?_
        refine blkQ.norm ?_
        refine AW.rend ?_
        try simp only[↓wk,↓wl,nq,evV,↓reduceIte,sevalprocAttr]
        exact loopQ.next H ((Le.tq 1 [0] [0,4,5] (by simp only[f137_L2c,rrm,↓wk,↓wl,evV,↓reduceIte,sevalprocAttr]<;>rfl)))
  ·rintro ⟨xb,xc,xd⟩ s_ h_ H hs_ hh_
   simp only[f137_C1] at H hs_ hh_
   subst hs_
   subst hh_
   try simp only[↓wk,↓wl,nq,evV,↓reduceIte,sevalprocAttr]
   refine AW.sseq ?_
   refine AW.rseq ?_
   try simp only[↓wk,↓wl,nq,evV,↓reduceIte,sevalprocAttr]
   refine AW.ifc H (by rfl) ?_ ?_<;>clear H<;>intro H
   ·refine AW.rseq ?_
    try simp only[↓wk,↓wl,nq,evV,↓reduceIte,sevalprocAttr]
    refine AW.ret ?_
    refine seqQ.ret ?_
    cases H
    exact hQ.fin
   ·refine AW.skip ?_
    refine seqQ.norm ?_
    refine AW.rseq ?_
    try simp only[↓wk,↓wl,nq,evV,↓reduceIte,sevalprocAttr]
    refine AW.ret ?_
    cases H
    exact hQ.fin
def c165_0:C:=.cond (.t 22) (.seq (.reg [iI 2 (.mv (.c (.str []))),iI 3 (.mv (.c (.int .i64 20)))]) .ret) (.skip)
def c165_1:C:=.cond (.t 15) (.seq (.reg [iI 2 (.mv (.c (.str []))),iI 3 (.mv (.c (.int .i64 3)))]) .ret) (.seq (.reg [iI 23 (.mv (.t 0)),iI 24 (.mv (.t 4)),iI 25 (.call (.c (.fn 162 [])) [(.t 23),(.t 24)]),iI 26 (.un .not (.t 25)),iI 22 (.mv (.t 26))]) c165_0)
def c165_2:C:=.cond (.t 11) (.seq (.reg [iI 14 (.mv (.t 5)),iI 2 (.mv (.c (.str []))),iI 3 (.mv (.t 14))]) .ret) (.seq (.reg [iI 16 (.mv (.t 4)),iI 17 (.bin .lss (.t 16) (.c (.int .i64 0))),iI 18 (.mv (.t 17)),iG (some 19) 18 false (.mv (.t 4)),iG (some 20) 18 false (.bin .gtr (.t 19) (.c (.int .i64 65535))),iI 21 (.pick (.t 18) (.c (.bool true)) (.t 20)),iI 15 (.mv (.t 21))]) c165_1)
def c165_3:C:=.seq (.reg [iI 27 (.mv (.t 0)),iI 28 (.mv (.t 4)),iI 29 (.call (.c (.fn 163 [])) [(.t 27),(.t 28)]),iI 2 (.mv (.t 29)),iI 3 (.mv (.c (.int .i64 0)))]) .ret
def c165_4:C:=.seq (.block 0 (.seq (.reg [iI 12 (.mv (.t 5)),iI 13 (.bin .neq (.t 12) (.c (.int .i64 0))),iI 11 (.mv (.t 13))]) c165_2)) c165_3
def c165_5:C:=.seq (.reg [iI 7 (.mv (.t 0)),iI 8 (.call (.c (.fn 164 [])) [(.t 7)]),iI 6 (.mv (.t 8)),iI 9 (.ext (.t 6) 0),iI 10 (.ext (.t 6) 1),iI 4 (.mv (.t 9)),iI 5 (.mv (.t 10))]) c165_4
def ir165:C:=.seq (.reg [iI 2 (.mv (.c (.str []))),iI 3 (.mv (.c (.int .i64 0)))]) c165_5
theorem fd165:fd? Try.prog 165=some (30,[.slot 2,.slot 3],ir165):=by kernel_rfl
noncomputable def f138_C4(x0:(List UInt8))(x1:Int):Il ((List UInt8)×Int) where
  run:=(slc? x0 (IntKind.i64.wrap ((IntKind.i64.wrap (x1 + 1)) - 1)) (IntKind.i64.wrap (x1 + 1))).bind fun x2=>(some (x2,(IntKind.i64.wrap (x1 + 1))))
  res:=fun (x3,x4)=>.str x3
  hp:=fun (x3,x4)=>[.cel [.str x0,.int .i64 x4]]
noncomputable def f138_L3(x0:(List UInt8)):Lp (Int×Int×Int) ((Int×Int)⊕(Int×Int)) where
  body:=fun (x1,x2,x3)=>(f162p x0 x3 1).bind fun x4=>(if (!x4)=true then (some (.brk (Sum.inr (x3,20)))) else ((f138_C4 x0 x3).run.bind fun (x5,x6)=>(at? x5 0).bind fun x7=>(must? (0≤x2)).bind fun _=>(if (decide (x2=63))=true then (if (decide (1<(x7.toNat:Int)))=true then (if (decide (1<(x7.toNat:Int)))=true then (some (.brk (Sum.inr (x6,3)))) else (if (decide ((x7.toNat:Int)<128))=true then (some (.brk (Sum.inl ((IntKind.u64.wrap ((BitVec.ofInt (IntKind.bits .u64) x1 ||| BitVec.ofInt (IntKind.bits .u64) (IntKind.u64.wrap ((IntKind.u64.wrap (IntKind.u8.wrap ((BitVec.ofInt (IntKind.bits .u8) (x7.toNat:Int) &&& BitVec.ofInt (IntKind.bits .u8) 127).toNat:Int))) * 2 ^ (min (Int.toNat x2) (IntKind.bits .u64))))).toNat:Int)),x6)))) else (some (.next ((IntKind.u64.wrap ((BitVec.ofInt (IntKind.bits .u64) x1 ||| BitVec.ofInt (IntKind.bits .u64) (IntKind.u64.wrap ((IntKind.u64.wrap (IntKind.u8.wrap ((BitVec.ofInt (IntKind.bits .u8) (x7.toNat:Int) &&& BitVec.ofInt (IntKind.bits .u8) 127).toNat:Int))) * 2 ^ (min (Int.toNat x2) (IntKind.bits .u64))))).toNat:Int)),(IntKind.i64.wrap (x2 + 7)),x6))))) else (if (decide ((x7.toNat:Int)=0))=true then (if (decide (0<x2))=true then (some (.brk (Sum.inr (x6,3)))) else (if (decide ((x7.toNat:Int)<128))=true then (some (.brk (Sum.inl ((IntKind.u64.wrap ((BitVec.ofInt (IntKind.bits .u64) x1 ||| BitVec.ofInt (IntKind.bits .u64) (IntKind.u64.wrap ((IntKind.u64.wrap (IntKind.u8.wrap ((BitVec.ofInt (IntKind.bits .u8) (x7.toNat:Int) &&& BitVec.ofInt (IntKind.bits .u8) 127).toNat:Int))) * 2 ^ (min (Int.toNat x2) (IntKind.bits .u64))))).toNat:Int)),x6)))) else (some (.next ((IntKind.u64.wrap ((BitVec.ofInt (IntKind.bits .u64) x1 ||| BitVec.ofInt (IntKind.bits .u64) (IntKind.u64.wrap ((IntKind.u64.wrap (IntKind.u8.wrap ((BitVec.ofInt (IntKind.bits .u8) (x7.toNat:Int) &&& BitVec.ofInt (IntKind.bits .u8) 127).toNat:Int))) * 2 ^ (min (Int.toNat x2) (IntKind.bits .u64))))).toNat:Int)),(IntKind.i64.wrap (x2 + 7)),x6))))) else (if (decide ((x7.toNat:Int)<128))=true then (some (.brk (Sum.inl ((IntKind.u64.wrap ((BitVec.ofInt (IntKind.bits .u64) x1 ||| BitVec.ofInt (IntKind.bits .u64) (IntKind.u64.wrap ((IntKind.u64.wrap (IntKind.u8.wrap ((BitVec.ofInt (IntKind.bits .u8) (x7.toNat:Int) &&& BitVec.ofInt (IntKind.bits .u8) 127).toNat:Int))) * 2 ^ (min (Int.toNat x2) (IntKind.bits .u64))))).toNat:Int)),x6)))) else (some (.next ((IntKind.u64.wrap ((BitVec.ofInt (IntKind.bits .u64) x1 ||| BitVec.ofInt (IntKind.bits .u64) (IntKind.u64.wrap ((IntKind.u64.wrap (IntKind.u8.wrap ((BitVec.ofInt (IntKind.bits .u8) (x7.toNat:Int) &&& BitVec.ofInt (IntKind.bits .u8) 127).toNat:Int))) * 2 ^ (min (Int.toNat x2) (IntKind.bits .u64))))).toNat:Int)),(IntKind.i64.wrap (x2 + 7)),x6)))))) else (if (decide ((x7.toNat:Int)=0))=true then (if (decide (0<x2))=true then (some (.brk (Sum.inr (x6,3)))) else (if (decide ((x7.toNat:Int)<128))=true then (some (.brk (Sum.inl ((IntKind.u64.wrap ((BitVec.ofInt (IntKind.bits .u64) x1 ||| BitVec.ofInt (IntKind.bits .u64) (IntKind.u64.wrap ((IntKind.u64.wrap (IntKind.u8.wrap ((BitVec.ofInt (IntKind.bits .u8) (x7.toNat:Int) &&& BitVec.ofInt (IntKind.bits .u8) 127).toNat:Int))) * 2 ^ (min (Int.toNat x2) (IntKind.bits .u64))))).toNat:Int)),x6)))) else (some (.next ((IntKind.u64.wrap ((BitVec.ofInt (IntKind.bits .u64) x1 ||| BitVec.ofInt (IntKind.bits .u64) (IntKind.u64.wrap ((IntKind.u64.wrap (IntKind.u8.wrap ((BitVec.ofInt (IntKind.bits .u8) (x7.toNat:Int) &&& BitVec.ofInt (IntKind.bits .u8) 127).toNat:Int))) * 2 ^ (min (Int.toNat x2) (IntKind.bits .u64))))).toNat:Int)),(IntKind.i64.wrap (x2 + 7)),x6))))) else (if (decide ((x7.toNat:Int)<128))=true then (some (.brk (Sum.inl ((IntKind.u64.wrap ((BitVec.ofInt (IntKind.bits .u64) x1 ||| BitVec.ofInt (IntKind.bits .u64) (IntKind.u64.wrap ((IntKind.u64.wrap (IntKind.u8.wrap ((BitVec.ofInt (IntKind.bits .u8) (x7.toNat:Int) &&& BitVec.ofInt (IntKind.bits .u8) 127).toNat:Int))) * 2 ^ (min (Int.toNat x2) (IntKind.bits .u64))))).toNat:Int)),x6)))) else (some (.next ((IntKind.u64.wrap ((BitVec.ofInt (IntKind.bits .u64) x1 ||| BitVec.ofInt (IntKind.bits .u64) (IntKind.u64.wrap ((IntKind.u64.wrap (IntKind.u8.wrap ((BitVec.ofInt (IntKind.bits .u8) (x7.toNat:Int) &&& BitVec.ofInt (IntKind.bits .u8) 127).toNat:Int))) * 2 ^ (min (Int.toNat x2) (IntKind.bits .u64))))).toNat:Int)),(IntKind.i64.wrap (x2 + 7)),x6))))))))
  cst:=fun (x1,x2,x3)=>⟨put (put (put (fun _=>.junk) 5 (.int .i64 x2)) 4 (.int .u64 x1)) 0 (.ptr 0 0),[.cel [.str x0,.int .i64 x3]]⟩
theorem f138_L3c(x0:(List UInt8))(x1:Int)(x2:Int)(x3:Int):(f138_L3 x0).cst (x1,x2,x3)=⟨put (put (put (fun _=>.junk) 5 (.int .i64 x2)) 4 (.int .u64 x1)) 0 (.ptr 0 0),[.cel [.str x0,.int .i64 x3]]⟩:=rfl
noncomputable def f138_C2(x0:(List UInt8))(x1:Int):Il (Int×Int×Int) where
  run:=((Lp.run (f138_L3 x0) (0,0,x1)).bind fun r_=>match r_ with | (Sum.inl (x2,x3))=>(some ((IntKind.i64.wrap ((BitVec.ofInt (IntKind.bits .i64) (IntKind.i64.wrap (Int.fdiv x2 (2 ^ (min (Int.toNat 1) (IntKind.bits .u64))))) ^^^ BitVec.ofInt (IntKind.bits .i64) (IntKind.i64.wrap (0 - (IntKind.i64.wrap (IntKind.u64.wrap ((BitVec.ofInt (IntKind.bits .u64) x2 &&& BitVec.ofInt (IntKind.bits .u64) 1).toNat:Int)))))).toNat:Int)),0,x3)) | (Sum.inr (x4,x5))=>(some (0,x5,x4)))
  res:=fun (x6,x7,x8)=>.tup [.int .i64 x6,.int .i64 x7]
  hp:=fun (x6,x7,x8)=>[.cel [.str x0,.int .i64 x8]]
noncomputable def f138_C5(x0:(List UInt8))(x1:Int)(x2:Int):Il ((List UInt8)×Int) where
  run:=(slc? x0 (IntKind.i64.wrap ((IntKind.i64.wrap (x1 + x2)) - x2)) (IntKind.i64.wrap (x1 + x2))).bind fun x3=>(some (x3,(IntKind.i64.wrap (x1 + x2))))
  res:=fun (x4,x5)=>.str x4
  hp:=fun (x4,x5)=>[.cel [.str x0,.int .i64 x5]]
noncomputable def f138_C1(x0:(List UInt8))(x1:Int):Il ((List UInt8)×Int×Int) where
  run:=((f138_C2 x0 x1).run.bind fun (x2,x3,x4)=>(if (decide (x3≠0))=true then (some ([],x3,x4)) else (if (decide (x2<0))=true then (some ([],3,x4)) else (if (decide (65535<x2))=true then (some ([],3,x4)) else (f162p x0 x4 x2).bind fun x5=>(if (!x5)=true then (some ([],20,x4)) else ((f138_C5 x0 x4 x2).run.bind fun (x6,x7)=>(some (x6,0,x7))))))))
  res:=fun (x8,x9,xa)=>.tup [.str x8,.int .i64 x9]
  hp:=fun (x8,x9,xa)=>[.cel [.str x0,.int .i64 xa]]
def c138_0:C:=.cond (.t 18) (.seq (.reg [iI 19 (.mv (.t 8)),iI 4 (.mv (.c (.str []))),iI 5 (.mv (.c (.int .i64 0))),iI 6 (.mv (.t 19))]) .ret) (.skip)
def c138_1:C:=.seq (.reg [iI 17 (.mv (.t 8)),iI 18 (.bin .neq (.t 17) (.c (.int .i64 0)))]) c138_0
def c138_2:C:=.cond (.t 26) (.seq (.reg [iI 27 (.mv (.t 10)),iI 4 (.mv (.c (.str []))),iI 5 (.mv (.c (.int .i64 0))),iI 6 (.mv (.t 27))]) .ret) (.skip)
def c138_3:C:=.seq (.reg [iI 28 (.mv (.t 9)),iI 29 (.mv (.t 7)),iI 30 (.nilchk (.t 29)),iI 31 (.faddr 1 (.t 30)),iI 32 (.load 0 (.t 31)),iI 4 (.mv (.t 28)),iI 5 (.mv (.t 32)),iI 6 (.mv (.c (.int .i64 0)))]) .ret
def c138_4:C:=.seq (.seq (.reg [iI 25 (.mv (.t 10)),iI 26 (.bin .neq (.t 25) (.c (.int .i64 0)))]) c138_2) c138_3
def c138_5:C:=.seq (.reg [iI 21 (.mv (.t 7)),iI 22 (.call (.c (.fn 165 [])) [(.t 21)]),iI 20 (.mv (.t 22)),iI 23 (.ext (.t 20) 0),iI 24 (.ext (.t 20) 1),iI 9 (.mv (.t 23)),iI 10 (.mv (.t 24))]) c138_4
def c138_6:C:=.seq (.seq (.reg [iI 15 (.mv (.t 7)),iI 16 (.call (.c (.fn 161 [])) [(.t 15)]),iI 8 (.mv (.t 16))]) c138_1) c138_5
def c138_7:C:=.seq (.reg [iI 11 (.mv (.t 0)),iI 12 (.mv (.t 1)),iI 13 (.build [(1,(.str [])),(1,(.int .i64 0))] [(0,0,(.t 11)),(1,0,(.t 12))]),iI 14 (.box (.t 13)),iI 7 (.mv (.t 14))]) c138_6
def ir138:C:=.seq (.reg [iI 4 (.mv (.c (.str []))),iI 5 (.mv (.c (.int .i64 0))),iI 6 (.mv (.c (.int .i64 0)))]) c138_7
theorem fd138:fd? Try.prog 138=some (33,[.slot 4,.slot 5,.slot 6],ir138):=by kernel_rfl
noncomputable def f138(x0:(List UInt8))(x1:Int):Option ((List UInt8)×Int×Int) :=
  (f161p x0 x1).bind fun x2=>(if (decide (x2≠0))=true then (some ([],0,x2)) else ((f138_C1 x0 x1).run.bind fun (x3,x4,x5)=>(if (decide (x4≠0))=true then (some ([],0,x4)) else (some (x3,x5,0)))))
theorem f138_ok{x0:(List UInt8)}{x1:Int}{r_:(List UInt8)×Int×Int}(H:f138 x0 x1=some r_):Pure Try.prog 138 [.str x0,.int .i64 x1] (· = .tup [.str r_.1,.int .i64 r_.2.1,.int .i64 r_.2.2]):=by
 refine Pure.walk3 fd138 none (Nat.le_of_ble_eq_true rfl) (by rfl) fun Q hQ=>?_
 simp only[f138] at H
 refine AW.rseq ?_
 try simp only[↓wk,↓wl,nq,evV,↓reduceIte,sevalprocAttr]
 refine AW.rseq ?_
 try simp only[↓wk,↓wl,nq,evV,↓reduceIte,sevalprocAttr]
 refine AW.sseq ?_
 refine AW.rseq ?_
 try simp only[↓wk,↓wl,nq,evV,↓reduceIte,sevalprocAttr]
 refine evTs_flat hFn H (fun _ h=>f161p_ok h) (by rfl) (by rfl) (by simp only[deep_eq,imm_simps,imm_rowE,imm_ptrE,imm_enc,omap_simps,take_map_len,take_map_set,take_map_set2,List.length_set,le_refl_true,Nat.zero_add,and_true,true_and,List.drop_zero,Option.map_some,↓wk,↓wl,nq,evV,↓reduceIte,sevalprocAttr];rfl) (by rfl) (fun _=>rfl) (fun _=>rfl) ?_<;>clear H<;>intro x2 H
 try simp only[eL,↓wk,↓wl,nq,evV,↓reduceIte,sevalprocAttr]
 refine AW.rseq ?_
 try simp only[↓wk,↓wl,nq,evV,↓reduceIte,sevalprocAttr]
 refine AW.ifc H (by rfl) ?_ ?_<;>clear H<;>intro H
 ·refine AW.rseq ?_
  try simp only[↓wk,↓wl,nq,evV,↓reduceIte,sevalprocAttr]
  refine AW.ret ?_
  refine seqQ.ret ?_
  cases H
  exact hQ.fin
 ·refine AW.skip ?_
  refine seqQ.norm ?_
  refine AW.rseq ?_
  try simp only[↓wk,↓wl,nq,evV,↓reduceIte,sevalprocAttr]
  refine evTs_inl (I:=f138_C1 x0 x1) (args:=[.ptr 0 0]) H (by rfl) fd165 (by rfl) (Nat.le_of_ble_eq_true rfl) ?_ ?_<;>clear H
  ·rintro v_ Q_ H hqf138_C1
   simp only[f138_C1] at H
   dsimp only[List.length_cons,List.length_nil]
   refine AW.rseq ?_
   try simp only[↓wk,↓wl,nq,evV,↓reduceIte,sevalprocAttr]
   refine AW.rseq ?_
   try simp only[↓wk,↓wl,nq,evV,↓reduceIte,sevalprocAttr]
   refine evTs_inl (I:=f138_C2 x0 x1) (args:=[.ptr 0 0]) H (by rfl) fd164 (by rfl) (Nat.le_of_ble_eq_true rfl) ?_ ?_<;>clear H
   ·rintro v_ Q_ H hqf138_C2
    simp only[f138_C2] at H
    dsimp only[List.length_cons,List.length_nil]
    refine AW.rseq ?_
    try simp only[↓wk,↓wl,nq,evV,↓reduceIte,sevalprocAttr]
    refine AW.scope ?_
    refine AW.rseq ?_
    try simp only[↓wk,↓wl,nq,evV,↓reduceIte,sevalprocAttr]
    refine AW.skseq ?_
    refine AW.sseq ?_
    refine AW.rseq ?_
    try simp only[↓wk,↓wl,nq,evV,↓reduceIte,sevalprocAttr]
    refine AW.bend ?_
    refine AW.iter H ((Le.tq 1 [0] [0,4,5] (by simp only[f138_L3c,rrm,↓wk,↓wl,evV,↓reduceIte,sevalprocAttr]<;>rfl))) ?_<;>clear H
    rintro ⟨x3,x4,x5⟩ x_ st0_ H hst_
    rw[f138_L3c] at hst_
    simp only[f138_L3] at H
    subst hst_
    refine AW.bseq ?_
    refine AW.sseq ?_
    refine AW.rseq ?_
    try simp only[↓wk,↓wl,nq,evV,↓reduceIte,sevalprocAttr]
    refine evTs_flat hFn H (fun _ h=>f162p_ok h) (by rfl) (by rfl) (by simp only[deep_eq,imm_simps,imm_rowE,imm_ptrE,imm_enc,omap_simps,take_map_len,take_map_set,take_map_set2,List.length_set,le_refl_true,Nat.zero_add,and_true,true_and,List.drop_zero,Option.map_some,↓wk,↓wl,nq,evV,↓reduceIte,sevalprocAttr];rfl) (by rfl) (fun _=>rfl) (fun _=>rfl) ?_<;>clear H<;>intro x6 H
    try simp only[eL,↓wk,↓wl,nq,evV,↓reduceIte,sevalprocAttr]
    refine AW.ifc H (by rfl) ?_ ?_<;>clear H<;>intro H
    ·refine AW.rseq ?_
     try simp only[↓wk,↓wl,nq,evV,↓reduceIte,sevalprocAttr]
     refine AW.ret ?_
     refine seqQ.ret ?_
     refine blkQ.ret ?_
     refine loopQ.ret H ?_<;>clear H<;>intro H
     try dsimp only at H
     refine blk0.ret ?_
     refine seqQ.ret ?_
     cases H
     exact hqf138_C2 _ _ _ (.inr rfl) (Le.tq 1 [0] [2,3] rfl) (by simp only[resVs,omap,resV,f138_C2,rrm,↓wk,↓wl,evV,↓reduceIte,sevalprocAttr]) (by simp only[f138_C2,rrm,↓wk,↓wl,evV,↓reduceIte,sevalprocAttr])
    ·refine AW.skip ?_
     refine seqQ.norm ?_
     refine AW.rseq ?_
     try simp only[↓wk,↓wl,nq,evV,↓reduceIte,sevalprocAttr]
     refine evTs_inl (I:=f138_C4 x0 x5) (args:=[.ptr 0 0,.int .i64 1]) H (by rfl) fd163 (by rfl) (Nat.le_of_ble_eq_true rfl) ?_ ?_<;>clear H
     ·rintro v_ Q_ H hqf138_C4
      simp only[f138_C4] at H
      dsimp only[List.length_cons,List.length_nil]
      refine AW.rseq ?_
      try simp only[↓wk,↓wl,nq,evV,↓reduceIte,sevalprocAttr]
      refine AW.rseq ?_
      try simp only[↓wk,↓wl,nq,evV,↓reduceIte,sevalprocAttr]
      refine AW.rseq ?_
      try simp only[↓wk,↓wl,nq,evV,↓reduceIte,sevalprocAttr]
      refine evTs_sslc H (by rfl) (by simp only[loI,hiI,↓wk,↓wl,nq,evV,↓reduceIte,sevalprocAttr];rfl) (by simp only[loI,hiI,↓wk,↓wl,nq,evV,↓reduceIte,sevalprocAttr];rfl) ?_<;>clear H<;>intro x7 H
      try simp only[↓wk,↓wl,nq,evV,↓reduceIte,sevalprocAttr]
      refine AW.ret ?_
      cases H
      exact hqf138_C4 _ _ _ (.inr rfl) (Le.tq 1 [0] [4] rfl) (by simp only[resVs,omap,resV,f138_C4,rrm,↓wk,↓wl,evV,↓reduceIte,sevalprocAttr]) (by simp only[f138_C4,rrm,↓wk,↓wl,evV,↓reduceIte,sevalprocAttr])
     ·rintro ⟨x8,x9⟩ s_ h_ H hs_ hh_
      simp only[f138_C4] at H hs_ hh_
      subst hs_
      subst hh_
      try simp only[↓wk,↓wl,nq,evV,↓reduceIte,sevalprocAttr]
      refine evTs_sat H (by rfl) (by rfl) ?_<;>clear H<;>intro xa H
      try simp only[↓wk,↓wl,nq,evV,↓reduceIte,sevalprocAttr]
      refine AW.rseq ?_
      try simp only[↓wk,↓wl,nq,evV,↓reduceIte,sevalprocAttr]
      refine rest_and ?_
      try simp only[↓wk,↓wl,nq,evV,↓reduceIte,sevalprocAttr]
      refine rest_shlv H ?_<;>clear H<;>intro H
      try simp only[↓wk,↓wl,nq,evV,↓reduceIte,sevalprocAttr]
      refine rest_or ?_
      try simp only[↓wk,↓wl,nq,evV,↓reduceIte,sevalprocAttr]
      refine AW.bend ?_
      refine AW.sseq ?_
      refine AW.rseq ?_
      try simp only[↓wk,↓wl,nq,evV,↓reduceIte,sevalprocAttr]
      refine evTs_ifg H (by rfl) ?_ ?_<;>clear H<;>intro H
      ·try simp only[↓wk,↓wl,nq,evV,↓reduceIte,sevalprocAttr]
       refine AW.ifc H (by rfl) ?_ ?_<;>clear H<;>intro H
       ·refine AW.skip ?_
        refine seqQ.norm ?_
        refine AW.ifc H (by rfl) ?_ ?_<;>clear H<;>intro H
        ·refine AW.rseq ?_
         try simp only[↓wk,↓wl,nq,evV,↓reduceIte,sevalprocAttr]
         refine AW.ret ?_
         refine blk0.ret ?_
         refine blkQ.ret ?_
         refine loopQ.ret H ?_<;>clear H<;>intro H
         try dsimp only at H
         refine blk0.ret ?_
         refine seqQ.ret ?_
         cases H
         exact hqf138_C2 _ _ _ (.inr rfl) (Le.tq 1 [0] [2,3] rfl) (by simp only[resVs,omap,resV,f138_C2,rrm,↓wk,↓wl,evV,↓reduceIte,sevalprocAttr]) (by simp only[f138_C2,rrm,↓wk,↓wl,evV,↓reduceIte,sevalprocAttr])
        ·refine AW.rseq ?_
         try simp only[↓wk,↓wl,nq,evV,↓reduceIte,sevalprocAttr]
         refine AW.ifc H (by rfl) ?_ ?_<;>clear H<;>intro H
         ·refine AW.exit ?_
          refine blk0.out (by rfl) ?_
          refine blkQ.out (by rfl) ?_
          refine loopQ.exit H ?_<;>clear H<;>intro H
          try dsimp only at H
          refine blk0.here ?_
          refine seqQ.norm ?_
          refine AW.rseq ?_
          try simp only[↓wk,↓wl,nq,evV,↓reduceIte,sevalprocAttr]
          refine rest_shr (by decide) ?_
          try simp only[↓wk,↓wl,nq,evV,↓reduceIte,sevalprocAttr]
          refine rest_and ?_
          try simp only[↓wk,↓wl,nq,evV,↓reduceIte,sevalprocAttr]
          refine rest_xor ?_
          try simp only[↓wk,↓wl,nq,evV,↓reduceIte,sevalprocAttr]
          refine AW.ret ?_
          cases H
          exact hqf138_C2 _ _ _ (.inr rfl) (Le.tq 1 [0] [2,3] rfl) (by simp only[resVs,omap,resV,f138_C2,rrm,↓wk,↓wl,evV,↓reduceIte,sevalprocAttr]) (by simp only[f138_C2,rrm,↓wk,↓wl,evV,↓reduceIte,sevalprocAttr])
         ·refine AW.skip ?_
          refine blk0.norm ?_
          refine blkQ.norm ?_
          refine AW.rend ?_
          try simp only[↓wk,↓wl,nq,evV,↓reduceIte,sevalprocAttr]
          exact loopQ.next H ((Le.tq 1 [0] [0,4,5] (by simp only[f138_L3c,rrm,↓wk,↓wl,evV,↓reduceIte,sevalprocAttr]<;>rfl)))
       ·refine AW.rend ?_
        try simp only[↓wk,↓wl,nq,evV,↓reduceIte,sevalprocAttr]
        refine evTs_ifg H (by rfl) ?_ ?_<;>clear H<;>intro H
        ·try simp only[↓wk,↓wl,nq,evV,↓reduceIte,sevalprocAttr]
         refine seqQ.norm ?_
         refine AW.ifc H (by rfl) ?_ ?_<;>clear H<;>intro H
         ·refine AW.rseq ?_
          try simp only[↓wk,↓wl,nq,evV,↓reduceIte,sevalprocAttr]
          refine AW.ret ?_
          refine blk0.ret ?_
          refine blkQ.ret ?_
          refine loopQ.ret H ?_<;>clear H<;>intro H
          try dsimp only at H
          refine blk0.ret ?_
          refine seqQ.ret ?_
          cases H
          exact hqf138_C2 _ _ _ (.inr rfl) (Le.tq 1 [0] [2,3] rfl) (by simp only[resVs,omap,resV,f138_C2,rrm,↓wk,↓wl,evV,↓reduceIte,sevalprocAttr]) (by simp only[f138_C2,rrm,↓wk,↓wl,evV,↓reduceIte,sevalprocAttr])
         ·refine AW.rseq ?_
          try simp only[↓wk,↓wl,nq,evV,↓reduceIte,sevalprocAttr]
          refine AW.ifc H (by rfl) ?_ ?_<;>clear H<;>intro H
          ·refine AW.exit ?_
           refine blk0.out (by rfl) ?_
           refine blkQ.out (by rfl) ?_
           refine loopQ.exit H ?_<;>clear H<;>intro H
           try dsimp only at H
           refine blk0.here ?_
           refine seqQ.norm ?_
           refine AW.rseq ?_
           try simp only[↓wk,↓wl,nq,evV,↓reduceIte,sevalprocAttr]
           refine rest_shr (by decide) ?_
           try simp only[↓wk,↓wl,nq,evV,↓reduceIte,sevalprocAttr]
           refine rest_and ?_
           try simp only[↓wk,↓wl,nq,evV,↓reduceIte,sevalprocAttr]
           refine rest_xor ?_
           try simp only[↓wk,↓wl,nq,evV,↓reduceIte,sevalprocAttr]
           refine AW.ret ?_
           cases H
           exact hqf138_C2 _ _ _ (.inr rfl) (Le.tq 1 [0] [2,3] rfl) (by simp only[resVs,omap,resV,f138_C2,rrm,↓wk,↓wl,evV,↓reduceIte,sevalprocAttr]) (by simp only[f138_C2,rrm,↓wk,↓wl,evV,↓reduceIte,sevalprocAttr])
          ·refine AW.skip ?_
           refine blk0.norm ?_
           refine blkQ.norm ?_
           refine AW.rend ?_
           try simp only[↓wk,↓wl,nq,evV,↓reduceIte,sevalprocAttr]
           exact loopQ.next H ((Le.tq 1 [0] [0,4,5] (by simp only[f138_L3c,rrm,↓wk,↓wl,evV,↓reduceIte,sevalprocAttr]<;>rfl)))
        ·try simp only[↓wk,↓wl,nq,evV,↓reduceIte,sevalprocAttr]
         refine seqQ.norm ?_
         refine AW.iff (by rfl) ?_
         refine AW.rseq ?_
         try simp only[↓wk,↓wl,nq,evV,↓reduceIte,sevalprocAttr]
         refine AW.ifc H (by rfl) ?_ ?_<;>clear H<;>intro H
         ·refine AW.exit ?_
          refine blk0.out (by rfl) ?_
          refine blkQ.out (by rfl) ?_
          refine loopQ.exit H ?_<;>clear H<;>intro H
          try dsimp only at H
          refine blk0.here ?_
          refine seqQ.norm ?_
          refine AW.rseq ?_
          try simp only[↓wk,↓wl,nq,evV,↓reduceIte,sevalprocAttr]
          refine rest_shr (by decide) ?_
          try simp only[↓wk,↓wl,nq,evV,↓reduceIte,sevalprocAttr]
          refine rest_and ?_
          try simp only[↓wk,↓wl,nq,evV,↓reduceIte,sevalprocAttr]
          refine rest_xor ?_
          try simp only[↓wk,↓wl,nq,evV,↓reduceIte,sevalprocAttr]
          refine AW.ret ?_
          cases H
          exact hqf138_C2 _ _ _ (.inr rfl) (Le.tq 1 [0] [2,3] rfl) (by simp only[resVs,omap,resV,f138_C2,rrm,↓wk,↓wl,evV,↓reduceIte,sevalprocAttr]) (by simp only[f138_C2,rrm,↓wk,↓wl,evV,↓reduceIte,sevalprocAttr])
         ·refine AW.skip ?_
          refine blk0.norm ?_
          refine blkQ.norm ?_
          refine AW.rend ?_
          try simp only[↓wk,↓wl,nq,evV,↓reduceIte,sevalprocAttr]
          exact loopQ.next H ((Le.tq 1 [0] [0,4,5] (by simp only[f138_L3c,rrm,↓wk,↓wl,evV,↓reduceIte,sevalprocAttr]<;>rfl)))
      ·try simp only[↓wk,↓wl,nq,evV,↓reduceIte,sevalprocAttr]
       refine AW.iff (by rfl) ?_
       refine AW.rend ?_
       try simp only[↓wk,↓wl,nq,evV,↓reduceIte,sevalprocAttr]
       refine evTs_ifg H (by rfl) ?_ ?_<;>clear H<;>intro H
       ·try simp only[↓wk,↓wl,nq,evV,↓reduceIte,sevalprocAttr]
        refine seqQ.norm ?_
        refine AW.ifc H (by rfl) ?_ ?_<;>clear H<;>intro H
        ·refine AW.rseq ?_
         try simp only[↓wk,↓wl,nq,evV,↓reduceIte,sevalprocAttr]
         refine AW.ret ?_
         refine blk0.ret ?_
         refine blkQ.ret ?_
         refine loopQ.ret H ?_<;>clear H<;>intro H
         try dsimp only at H
         refine blk0.ret ?_
         refine seqQ.ret ?_
         cases H
         exact hqf138_C2 _ _ _ (.inr rfl) (Le.tq 1 [0] [2,3] rfl) (by simp only[resVs,omap,resV,f138_C2,rrm,↓wk,↓wl,evV,↓reduceIte,sevalprocAttr]) (by simp only[f138_C2,rrm,↓wk,↓wl,evV,↓reduceIte,sevalprocAttr])
        ·refine AW.rseq ?_
         try simp only[↓wk,↓wl,nq,evV,↓reduceIte,sevalprocAttr]
         refine AW.ifc H (by rfl) ?_ ?_<;>clear H<;>intro H
         ·refine AW.exit ?_
          refine blk0.out (by rfl) ?_
          refine blkQ.out (by rfl) ?_
          refine loopQ.exit H ?_<;>clear H<;>intro H
          try dsimp only at H
          refine blk0.here ?_
          refine seqQ.norm ?_
          refine AW.rseq ?_
          try simp only[↓wk,↓wl,nq,evV,↓reduceIte,sevalprocAttr]
          refine rest_shr (by decide) ?_
          try simp only[↓wk,↓wl,nq,evV,↓reduceIte,sevalprocAttr]
          refine rest_and ?_
          try simp only[↓wk,↓wl,nq,evV,↓reduceIte,sevalprocAttr]
          refine rest_xor ?_
          try simp only[↓wk,↓wl,nq,evV,↓reduceIte,sevalprocAttr]
          refine AW.ret ?_
          cases H
          exact hqf138_C2 _ _ _ (.inr rfl) (Le.tq 1 [0] [2,3] rfl) (by simp only[resVs,omap,resV,f138_C2,rrm,↓wk,↓wl,evV,↓reduceIte,sevalprocAttr]) (by simp only[f138_C2,rrm,↓wk,↓wl,evV,↓reduceIte,sevalprocAttr])
         ·refine AW.skip ?_
          refine blk0.norm ?_
          refine blkQ.norm ?_
          refine AW.rend ?_
          try simp only[↓wk,↓wl,nq,evV,↓reduceIte,sevalprocAttr]
          exact loopQ.next H ((Le.tq 1 [0] [0,4,5] (by simp only[f138_L3c,rrm,↓wk,↓wl,evV,↓reduceIte,sevalprocAttr]<;>rfl)))
       ·try simp only[↓wk,↓wl,nq,evV,↓reduceIte,sevalprocAttr]
        refine seqQ.norm ?_
        refine AW.iff (by rfl) ?_
        refine AW.rseq ?_
        try simp only[↓wk,↓wl,nq,evV,↓reduceIte,sevalprocAttr]
        refine AW.ifc H (by rfl) ?_ ?_<;>clear H<;>intro H
        ·refine AW.exit ?_
         refine blk0.out (by rfl) ?_
         refine blkQ.out (by rfl) ?_
         refine loopQ.exit H ?_<;>clear H<;>intro H
         try dsimp only at H
         refine blk0.here ?_
         refine seqQ.norm ?_
         refine AW.rseq ?_
         try simp only[↓wk,↓wl,nq,evV,↓reduceIte,sevalprocAttr]
         refine rest_shr (by decide) ?_
         try simp only[↓wk,↓wl,nq,evV,↓reduceIte,sevalprocAttr]
         refine rest_and ?_
         try simp only[↓wk,↓wl,nq,evV,↓reduceIte,sevalprocAttr]
         refine rest_xor ?_
         try simp only[↓wk,↓wl,nq,evV,↓reduceIte,sevalprocAttr]
         refine AW.ret ?_
         cases H
         exact hqf138_C2 _ _ _ (.inr rfl) (Le.tq 1 [0] [2,3] rfl) (by simp only[resVs,omap,resV,f138_C2,rrm,↓wk,↓wl,evV,↓reduceIte,sevalprocAttr]) (by simp only[f138_C2,rrm,↓wk,↓wl,evV,↓reduceIte,sevalprocAttr])
        ·refine AW.skip ?_
         refine blk0.norm ?_
         refine blkQ.norm ?_
         refine AW.rend ?_
         try simp only[↓wk,↓wl,nq,evV,↓reduceIte,sevalprocAttr]
         exact loopQ.next H ((Le.tq 1 [0] [0,4,5] (by simp only[f138_L3c,rrm,↓wk,↓wl,evV,↓reduceIte,sevalprocAttr]<;>rfl)))
   ·rintro ⟨xb,xc,xd⟩ s_ h_ H hs_ hh_
    simp only[f138_C2] at H hs_ hh_
    subst hs_
    subst hh_
    try simp only[↓wk,↓wl,nq,evV,↓reduceIte,sevalprocAttr]
    refine AW.bseq ?_
    refine AW.rseq ?_
    try simp only[↓wk,↓wl,nq,evV,↓reduceIte,sevalprocAttr]
    refine AW.ifc H (by rfl) ?_ ?_<;>clear H<;>intro H
    ·refine AW.rseq ?_
     try simp only[↓wk,↓wl,nq,evV,↓reduceIte,sevalprocAttr]
     refine AW.ret ?_
     refine blkQ.ret ?_
     cases H
     exact hqf138_C1 _ _ _ (.inr rfl) (Le.tq 1 [0] [2,3] rfl) (by simp only[resVs,omap,resV,f138_C1,rrm,↓wk,↓wl,evV,↓reduceIte,sevalprocAttr]) (by simp only[f138_C1,rrm,↓wk,↓wl,evV,↓reduceIte,sevalprocAttr])
    ·refine AW.rseq ?_
     try simp only[↓wk,↓wl,nq,evV,↓reduceIte,sevalprocAttr]
     refine evTs_ifg H (by rfl) ?_ ?_<;>clear H<;>intro H
     ·try simp only[↓wk,↓wl,nq,evV,↓reduceIte,sevalprocAttr]
      refine AW.ift (by rfl) ?_
      refine AW.rseq ?_
      try simp only[↓wk,↓wl,nq,evV,↓reduceIte,sevalprocAttr]
      refine AW.ret ?_
      refine blkQ.ret ?_
      cases H
      exact hqf138_C1 _ _ _ (.inr rfl) (Le.tq 1 [0] [2,3] rfl) (by simp only[resVs,omap,resV,f138_C1,rrm,↓wk,↓wl,evV,↓reduceIte,sevalprocAttr]) (by simp only[f138_C1,rrm,↓wk,↓wl,evV,↓reduceIte,sevalprocAttr])
     ·try simp only[↓wk,↓wl,nq,evV,↓reduceIte,sevalprocAttr]
      refine AW.ifc H (by rfl) ?_ ?_<;>clear H<;>intro H
      ·refine AW.rseq ?_
       try simp only[↓wk,↓wl,nq,evV,↓reduceIte,sevalprocAttr]
       refine AW.ret ?_
       refine blkQ.ret ?_
       cases H
       exact hqf138_C1 _ _ _ (.inr rfl) (Le.tq 1 [0] [2,3] rfl) (by simp only[resVs,omap,resV,f138_C1,rrm,↓wk,↓wl,evV,↓reduceIte,sevalprocAttr]) (by simp only[f138_C1,rrm,↓wk,↓wl,evV,↓reduceIte,sevalprocAttr])
      ·refine AW.rseq ?_
       try simp only[↓wk,↓wl,nq,evV,↓reduceIte,sevalprocAttr]
       refine evTs_flat hFn H (fun _ h=>f162p_ok h) (by rfl) (by rfl) (by simp only[deep_eq,imm_simps,imm_rowE,imm_ptrE,imm_enc,omap_simps,take_map_len,take_map_set,take_map_set2,List.length_set,le_refl_true,Nat.zero_add,and_true,true_and,List.drop_zero,Option.map_some,↓wk,↓wl,nq,evV,↓reduceIte,sevalprocAttr];rfl) (by rfl) (fun _=>rfl) (fun _=>rfl) ?_<;>clear H<;>intro xe H
       try simp only[eL,↓wk,↓wl,nq,evV,↓reduceIte,sevalprocAttr]
       refine AW.ifc H (by rfl) ?_ ?_<;>clear H<;>intro H
       ·refine AW.rseq ?_
        try simp only[↓wk,↓wl,nq,evV,↓reduceIte,sevalprocAttr]
        refine AW.ret ?_
        refine blkQ.ret ?_
        cases H
        exact hqf138_C1 _ _ _ (.inr rfl) (Le.tq 1 [0] [2,3] rfl) (by simp only[resVs,omap,resV,f138_C1,rrm,↓wk,↓wl,evV,↓reduceIte,sevalprocAttr]) (by simp only[f138_C1,rrm,↓wk,↓wl,evV,↓reduceIte,sevalprocAttr])
       ·refine AW.skip ?_
        refine blkQ.norm ?_
        refine AW.rseq ?_
        try simp only[↓wk,↓wl,nq,evV,↓reduceIte,sevalprocAttr]
        refine evTs_inl (I:=f138_C5 x0 xd xb) (args:=[.ptr 0 0,.int .i64 xb]) H (by rfl) fd163 (by rfl) (Nat.le_of_ble_eq_true rfl) ?_ ?_<;>clear H
        ·rintro v_ Q_ H hqf138_C5
         simp only[f138_C5] at H
         dsimp only[List.length_cons,List.length_nil]
         refine AW.rseq ?_
         try simp only[↓wk,↓wl,nq,evV,↓reduceIte,sevalprocAttr]
         refine AW.rseq ?_
         try simp only[↓wk,↓wl,nq,evV,↓reduceIte,sevalprocAttr]
         refine AW.rseq ?_
         try simp only[↓wk,↓wl,nq,evV,↓reduceIte,sevalprocAttr]
         refine evTs_sslc H (by rfl) (by simp only[loI,hiI,↓wk,↓wl,nq,evV,↓reduceIte,sevalprocAttr];rfl) (by simp only[loI,hiI,↓wk,↓wl,nq,evV,↓reduceIte,sevalprocAttr];rfl) ?_<;>clear H<;>intro xf H
         try simp only[↓wk,↓wl,nq,evV,↓reduceIte,sevalprocAttr]
         refine AW.ret ?_
         cases H
         exact hqf138_C5 _ _ _ (.inr rfl) (Le.tq 1 [0] [4] rfl) (by simp only[resVs,omap,resV,f138_C5,rrm,↓wk,↓wl,evV,↓reduceIte,sevalprocAttr]) (by simp only[f138_C5,rrm,↓wk,↓wl,evV,↓reduceIte,sevalprocAttr])
        ·rintro ⟨xg,xh⟩ s_ h_ H hs_ hh_
         simp only[f138_C5] at H hs_ hh_
         subst hs_
         subst hh_
         try simp only[↓wk,↓wl,nq,evV,↓reduceIte,sevalprocAttr]
         refine AW.ret ?_
         cases H
         exact hqf138_C1 _ _ _ (.inr rfl) (Le.tq 1 [0] [2,3] rfl) (by simp only[resVs,omap,resV,f138_C1,rrm,↓wk,↓wl,evV,↓reduceIte,sevalprocAttr]) (by simp only[f138_C1,rrm,↓wk,↓wl,evV,↓reduceIte,sevalprocAttr])
  ·rintro ⟨xi,xj,xk⟩ s_ h_ H hs_ hh_
   simp only[f138_C1] at H hs_ hh_
   subst hs_
   subst hh_
   try simp only[↓wk,↓wl,nq,evV,↓reduceIte,sevalprocAttr]
   refine AW.sseq ?_
   refine AW.rseq ?_
   try simp only[↓wk,↓wl,nq,evV,↓reduceIte,sevalprocAttr]
   refine AW.ifc H (by rfl) ?_ ?_<;>clear H<;>intro H
   ·refine AW.rseq ?_
    try simp only[↓wk,↓wl,nq,evV,↓reduceIte,sevalprocAttr]
    refine AW.ret ?_
    refine seqQ.ret ?_
    cases H
    exact hQ.fin
   ·refine AW.skip ?_
    refine seqQ.norm ?_
    refine AW.rseq ?_
    try simp only[↓wk,↓wl,nq,evV,↓reduceIte,sevalprocAttr]
    refine AW.ret ?_
    cases H
    exact hQ.fin
noncomputable def f89_J1(x0:RecordEntry×Int×Int):Jn (Int×Int×Int×Int×Int×Int×Int) (NetworkPacket×Int) where
  run:=fun (x1,x2,x3,x4,x5,x6,x7)=>(f138 x0.1.fData x1).bind fun x8=>(if (decide (x8.2.2≠0))=true then (some ((NetworkPacket.mk 0 0 0 0 0 false ([])),3)) else (if (decide (x8.2.1<((x0.1.fData.length:Nat):Int)))=true then (some ((NetworkPacket.mk 0 0 0 0 0 false ([])),3)) else (if (decide (x6<0))=true then (some ((NetworkPacket.mk 0 0 0 0 0 false ([])),3)) else (f93 x7 0 1).bind fun x9=>(if (!x9)=true then (some ((NetworkPacket.mk 0 0 0 0 0 false ([])),3)) else (f59 (NetworkPacket.mk (IntKind.u64.wrap x6) x2 x3 x4 x5 (decide (x7=1)) x8.1)).bind fun xa=>(if (decide (xa≠0))=true then (some ((NetworkPacket.mk 0 0 0 0 0 false ([])),xa)) else (some ((NetworkPacket.mk (IntKind.u64.wrap x6) x2 x3 x4 x5 (decide (x7=1)) x8.1),0)))))))
  cst:=fun (x1,x2,x3,x4,x5,x6,x7)=>⟨put (put (put (put (put (put (fun _=>.junk) 10 (.int .i64 x1)) 9 (.ptr 4 0)) 8 (.ptr 3 0)) 7 (.ptr 2 0)) 4 (.ptr 1 0)) 2 (.ptr 0 0),[.cel [.int .u64 0,.int .i64 0,.int .i64 0,.int .i64 0,.int .i64 0,.bool false,.str ([])],.cel [.int .i64 x0.1.fKind,.str x0.1.fData],.cel [.int .u64 0,.int .i64 x2,.int .i64 x3,.int .i64 x4,.int .i64 x5,.bool false,.str ([])],.cel [.int .i64 x6],.cel [.int .i64 x7]]⟩
theorem f89_J1c(x0:RecordEntry×Int×Int)(x1:Int)(x2:Int)(x3:Int)(x4:Int)(x5:Int)(x6:Int)(x7:Int):(f89_J1 x0).cst (x1,x2,x3,x4,x5,x6,x7)=⟨put (put (put (put (put (put (fun _=>.junk) 10 (.int .i64 x1)) 9 (.ptr 4 0)) 8 (.ptr 3 0)) 7 (.ptr 2 0)) 4 (.ptr 1 0)) 2 (.ptr 0 0),[.cel [.int .u64 0,.int .i64 0,.int .i64 0,.int .i64 0,.int .i64 0,.bool false,.str ([])],.cel [.int .i64 x0.1.fKind,.str x0.1.fData],.cel [.int .u64 0,.int .i64 x2,.int .i64 x3,.int .i64 x4,.int .i64 x5,.bool false,.str ([])],.cel [.int .i64 x6],.cel [.int .i64 x7]]⟩:=rfl
def c89_0:C:=.cond (.t 31) (.seq (.reg [iI 35 (.build [(1,(.int .u64 0)),(1,(.int .i64 0)),(1,(.int .i64 0)),(1,(.int .i64 0)),(1,(.int .i64 0)),(1,(.bool false)),(1,(.str []))] []),iN (.store 7 (.t 2) (.t 35)),iI 3 (.mv (.c (.int .i64 1)))]) .ret) (.skip)
def c89_1:C:=.cond (.t 25) (.seq (.reg [iI 30 (.build [(1,(.int .u64 0)),(1,(.int .i64 0)),(1,(.int .i64 0)),(1,(.int .i64 0)),(1,(.int .i64 0)),(1,(.bool false)),(1,(.str []))] []),iN (.store 7 (.t 2) (.t 30)),iI 3 (.mv (.c (.int .i64 13)))]) .ret) (.seq (.reg [iI 32 (.faddr 0 (.t 4)),iI 33 (.load 0 (.t 32)),iI 34 (.bin .neq (.t 33) (.c (.int .i64 85))),iI 31 (.mv (.t 34))]) c89_0)
def c89_2:C:=.cond (.t 20) (.seq (.reg [iI 23 (.build [(1,(.int .u64 0)),(1,(.int .i64 0)),(1,(.int .i64 0)),(1,(.int .i64 0)),(1,(.int .i64 0)),(1,(.bool false)),(1,(.str []))] []),iI 24 (.mv (.t 6)),iN (.store 7 (.t 2) (.t 23)),iI 3 (.mv (.t 24))]) .ret) (.seq (.reg [iI 26 (.mv (.t 5)),iI 27 (.mv (.t 0)),iI 28 (.len 1 (.t 27)),iI 29 (.bin .lss (.t 26) (.t 28)),iI 25 (.mv (.t 29))]) c89_1)
def c89_3:C:=.cond (.t 55) (.seq (.reg [iI 56 (.build [(1,(.int .u64 0)),(1,(.int .i64 0)),(1,(.int .i64 0)),(1,(.int .i64 0)),(1,(.int .i64 0)),(1,(.bool false)),(1,(.str []))] []),iN (.store 7 (.t 2) (.t 56)),iI 3 (.mv (.c (.int .i64 3)))]) .ret) (.skip)
def c89_4:C:=.seq (.reg [iI 54 (.mv (.t 6)),iI 55 (.bin .neq (.t 54) (.c (.int .i64 0)))]) c89_3
def c89_5:C:=.seq (.reg [iI 45 (.mv (.t 12)),iI 46 (.faddr 1 (.t 4)),iI 47 (.load 0 (.t 46)),iI 48 (.mv (.t 10)),iI 49 (.call (.c (.fn 137 [])) [(.t 47),(.t 48)]),iI 44 (.mv (.t 49)),iI 50 (.ext (.t 44) 0),iI 51 (.ext (.t 44) 1),iI 52 (.ext (.t 44) 2),iI 53 (.nilchk (.t 45)),iN (.store 0 (.t 53) (.t 50)),iI 10 (.mv (.t 51)),iI 6 (.mv (.t 52))]) c89_4
def c89_6:C:=.reg [iI 57 (.bin .add (.t 41) (.c (.int .i64 1))),iI 41 (.mv (.t 57))]
def c89_7:C:=.seq (.block 2 (.seq (.reg [iI 43 (.idx 0 6 (.t 40) (.t 41)),iI 12 (.mv (.t 43))]) c89_5)) c89_6
def c89_8:C:=.seq (.cond (.t 42) (.skip) (.exit 1)) c89_7
def c89_9:C:=.block 1 (.loop (.seq (.reg [iI 42 (.bin .lss (.t 41) (.c (.int .i64 6)))]) c89_8))
def c89_10:C:=.cond (.t 84) (.seq (.reg [iI 85 (.build [(1,(.int .u64 0)),(1,(.int .i64 0)),(1,(.int .i64 0)),(1,(.int .i64 0)),(1,(.int .i64 0)),(1,(.bool false)),(1,(.str []))] []),iN (.store 7 (.t 2) (.t 85)),iI 3 (.mv (.c (.int .i64 3)))]) .ret) (.skip)
def c89_11:C:=.cond (.t 95) (.seq (.reg [iI 96 (.build [(1,(.int .u64 0)),(1,(.int .i64 0)),(1,(.int .i64 0)),(1,(.int .i64 0)),(1,(.int .i64 0)),(1,(.bool false)),(1,(.str []))] []),iI 97 (.mv (.t 13)),iN (.store 7 (.t 2) (.t 96)),iI 3 (.mv (.t 97))]) .ret) (.skip)
def c89_12:C:=.seq (.reg [iI 94 (.mv (.t 13)),iI 95 (.bin .neq (.t 94) (.c (.int .i64 0)))]) c89_11
def c89_13:C:=.seq (.reg [iI 98 (.load 7 (.t 7)),iN (.store 7 (.t 2) (.t 98)),iI 3 (.mv (.c (.int .i64 0)))]) .ret
def c89_14:C:=.seq (.seq (.reg [iI 92 (.load 7 (.t 7)),iI 93 (.call (.c (.fn 59 [])) [(.t 92)]),iI 13 (.mv (.t 93))]) c89_12) c89_13
def c89_15:C:=.seq (.reg [iI 86 (.load 0 (.t 8)),iI 87 (.cint .u64 (.t 86)),iI 88 (.load 0 (.t 9)),iI 89 (.bin .eql (.t 88) (.c (.int .i64 1))),iI 90 (.faddr 0 (.t 7)),iN (.store 0 (.t 90) (.t 87)),iI 91 (.faddr 5 (.t 7)),iN (.store 0 (.t 91) (.t 89))]) c89_14
def c89_16:C:=.seq (.seq (.reg [iI 67 (.mv (.t 6)),iI 68 (.bin .neq (.t 67) (.c (.int .i64 0))),iI 69 (.mv (.t 68)),iG (some 70) 69 false (.mv (.t 10)),iG (some 71) 69 false (.faddr 1 (.t 4)),iG (some 72) 69 false (.load 0 (.t 71)),iG (some 73) 69 false (.len 1 (.t 72)),iG (some 74) 69 false (.bin .lss (.t 70) (.t 73)),iI 75 (.pick (.t 69) (.c (.bool true)) (.t 74)),iI 76 (.mv (.t 75)),iG (some 77) 76 false (.load 0 (.t 8)),iG (some 78) 76 false (.bin .lss (.t 77) (.c (.int .i64 0))),iI 79 (.pick (.t 76) (.c (.bool true)) (.t 78)),iI 80 (.mv (.t 79)),iG (some 81) 80 false (.load 0 (.t 9)),iG (some 82) 80 false (.call (.c (.fn 93 [])) [(.t 81),(.c (.int .i64 0)),(.c (.int .i64 1))]),iG (some 83) 80 false (.un .not (.t 82)),iI 84 (.pick (.t 80) (.c (.bool true)) (.t 83))]) c89_10) c89_15
def c89_17:C:=.seq (.reg [iI 59 (.faddr 1 (.t 4)),iI 60 (.load 0 (.t 59)),iI 61 (.mv (.t 10)),iI 62 (.call (.c (.fn 138 [])) [(.t 60),(.t 61)]),iI 58 (.mv (.t 62)),iI 63 (.ext (.t 58) 0),iI 64 (.ext (.t 58) 1),iI 65 (.ext (.t 58) 2),iI 66 (.faddr 6 (.t 7)),iN (.store 0 (.t 66) (.t 63)),iI 10 (.mv (.t 64)),iI 6 (.mv (.t 65))]) c89_16
def c89_18:C:=.seq (.seq (.reg [iI 36 (.faddr 1 (.t 7)),iI 37 (.faddr 2 (.t 7)),iI 38 (.faddr 3 (.t 7)),iI 39 (.faddr 4 (.t 7)),iI 40 (.build [(6,.nilp)] [(0,0,(.t 8)),(1,0,(.t 36)),(2,0,(.t 37)),(3,0,(.t 38)),(4,0,(.t 39)),(5,0,(.t 9))]),iI 41 (.mv (.c (.int .i64 0)))]) c89_9) c89_17
def c89_19:C:=.seq (.reg [iI 8 (.alloc [(1,(.int .i64 0))]),iI 9 (.alloc [(1,(.int .i64 0))]),iN (.store 0 (.t 8) (.c (.int .i64 0))),iN (.store 0 (.t 9) (.c (.int .i64 0))),iI 10 (.mv (.c (.int .i64 0)))]) c89_18
def c89_20:C:=.seq (.reg [iI 7 (.alloc [(1,(.int .u64 0)),(1,(.int .i64 0)),(1,(.int .i64 0)),(1,(.int .i64 0)),(1,(.int .i64 0)),(1,(.bool false)),(1,(.str []))])]) c89_19
def c89_21:C:=.seq (.block 0 (.seq (.reg [iI 21 (.mv (.t 6)),iI 22 (.bin .neq (.t 21) (.c (.int .i64 0))),iI 20 (.mv (.t 22))]) c89_2)) c89_20
def c89_22:C:=.seq (.reg [iI 15 (.mv (.t 0)),iI 16 (.call (.c (.fn 136 [])) [(.t 15),(.c (.int .i64 0))]),iI 14 (.mv (.t 16)),iI 17 (.ext (.t 14) 0),iI 18 (.ext (.t 14) 1),iI 19 (.ext (.t 14) 2),iI 4 (.alloc [(1,(.int .i64 0)),(1,(.str []))]),iN (.store 2 (.t 4) (.t 17)),iI 5 (.mv (.t 18)),iI 6 (.mv (.t 19))]) c89_21
def ir89:C:=.seq (.reg [iI 2 (.alloc [(1,(.int .u64 0)),(1,(.int .i64 0)),(1,(.int .i64 0)),(1,(.int .i64 0)),(1,(.int .i64 0)),(1,(.bool false)),(1,(.str []))]),iI 3 (.mv (.c (.int .i64 0)))]) c89_22
theorem fd89:fd? Try.prog 89=some (99,[.cell 2 7,.slot 3],ir89):=by kernel_rfl
noncomputable def f89(x0:(List UInt8)):Option (NetworkPacket×Int) :=
  (f136 x0 0).bind fun x1=>(if (decide (x1.2.2≠0))=true then (some ((NetworkPacket.mk 0 0 0 0 0 false ([])),x1.2.2)) else (if (decide (x1.2.1<((x0.length:Nat):Int)))=true then (some ((NetworkPacket.mk 0 0 0 0 0 false ([])),13)) else (if (decide (x1.1.fKind≠85))=true then (some ((NetworkPacket.mk 0 0 0 0 0 false ([])),1)) else (f137 x1.1.fData 0).bind fun x2=>(if (decide (x2.2.2≠0))=true then (some ((NetworkPacket.mk 0 0 0 0 0 false ([])),3)) else (f137 x1.1.fData x2.2.1).bind fun x3=>(if (decide (x3.2.2≠0))=true then (some ((NetworkPacket.mk 0 0 0 0 0 false ([])),3)) else (f137 x1.1.fData x3.2.1).bind fun x4=>(if (decide (x4.2.2≠0))=true then (some ((NetworkPacket.mk 0 0 0 0 0 false ([])),3)) else (f137 x1.1.fData x4.2.1).bind fun x5=>(if (decide (x5.2.2≠0))=true then (some ((NetworkPacket.mk 0 0 0 0 0 false ([])),3)) else (f137 x1.1.fData x5.2.1).bind fun x6=>(if (decide (x6.2.2≠0))=true then (some ((NetworkPacket.mk 0 0 0 0 0 false ([])),3)) else (f137 x1.1.fData x6.2.1).bind fun x7=>(if (decide (x7.2.2≠0))=true then (some ((NetworkPacket.mk 0 0 0 0 0 false ([])),3)) else ((f89_J1 x1).run (x7.2.1,x3.1,x4.1,x5.1,x6.1,x2.1,x7.1)))))))))))
theorem f89_ok{x0:(List UInt8)}{r_:NetworkPacket×Int}(H:f89 x0=some r_):Pure Try.prog 89 [.str x0] (· = .tup [.agg [.int .u64 r_.1.fSource,.int .i64 r_.1.fUniverse,.int .i64 r_.1.fPriority,.int .i64 r_.1.fSeq,.int .i64 r_.1.fSync,.bool r_.1.fEnd,.str r_.1.fSlots],.int .i64 r_.2]):=by
 refine Pure.walk3 fd89 none (Nat.le_of_ble_eq_true rfl) (by rfl) fun Q hQ=>?_
 simp only[f89] at H
 refine AW.rseq ?_
 try simp only[↓wk,↓wl,nq,evV,↓reduceIte,sevalprocAttr]
 refine AW.rseq ?_
 try simp only[↓wk,↓wl,nq,evV,↓reduceIte,sevalprocAttr]
 refine evTs_pure hFn H (fun _ h=>f136_ok h) (by rfl) (by rfl) (by rfl) (by rfl) (fun _=>rfl) ?_<;>clear H<;>intro x1 H
 try simp only[eL,eRecordEntry,↓wk,↓wl,nq,evV,↓reduceIte,sevalprocAttr]
 refine AW.bseq ?_
 refine AW.rseq ?_
 try simp only[↓wk,↓wl,nq,evV,↓reduceIte,sevalprocAttr]
 refine AW.ifc H (by rfl) ?_ ?_<;>clear H<;>intro H
 ·refine AW.rseq ?_
  try simp only[↓wk,↓wl,nq,evV,↓reduceIte,sevalprocAttr]
  refine AW.ret ?_
  refine blkQ.ret ?_
  cases H
  exact hQ.fin
 ·refine AW.rseq ?_
  try simp only[↓wk,↓wl,nq,evV,↓reduceIte,sevalprocAttr]
  refine AW.ifc H (by rfl) ?_ ?_<;>clear H<;>intro H
  ·refine AW.rseq ?_
   try simp only[↓wk,↓wl,nq,evV,↓reduceIte,sevalprocAttr]
   refine AW.ret ?_
   refine blkQ.ret ?_
   cases H
   exact hQ.fin
  ·refine AW.rseq ?_
   try simp only[↓wk,↓wl,nq,evV,↓reduceIte,sevalprocAttr]
   refine AW.ifc H (by rfl) ?_ ?_<;>clear H<;>intro H
   ·refine AW.rseq ?_
    try simp only[↓wk,↓wl,nq,evV,↓reduceIte,sevalprocAttr]
    refine AW.ret ?_
    refine blkQ.ret ?_
    cases H
    exact hQ.fin
   ·refine AW.skip ?_
    refine blkQ.norm ?_
    refine AW.rseq ?_
    try simp only[↓wk,↓wl,nq,evV,↓reduceIte,sevalprocAttr]
    refine AW.rseq ?_
    try simp only[↓wk,↓wl,nq,evV,↓reduceIte,sevalprocAttr]
    refine AW.join (f89_J1 x1) H ?_ fun hf89_J1=>?_
    ·clear H
     rintro ⟨x2,x3,x4,x5,x6,x7,x8⟩ st0_ H hst_
     rw[f89_J1c] at hst_
     simp only[f89_J1] at H
     subst hst_
     refine AW.rseq ?_
     try simp only[↓wk,↓wl,nq,evV,↓reduceIte,sevalprocAttr]
     refine evTs_pure hFn H (fun _ h=>f138_ok h) (by rfl) (by rfl) (by rfl) (by rfl) (fun _=>rfl) ?_<;>clear H<;>intro x9 H
     try simp only[eL,↓wk,↓wl,nq,evV,↓reduceIte,sevalprocAttr]
     refine AW.sseq ?_
     refine AW.rseq ?_
     try simp only[↓wk,↓wl,nq,evV,↓reduceIte,sevalprocAttr]
     refine evTs_ifg H (by rfl) ?_ ?_<;>clear H<;>intro H
     ·try simp only[↓wk,↓wl,nq,evV,↓reduceIte,sevalprocAttr]
      refine AW.ift (by rfl) ?_
      refine AW.rseq ?_
      try simp only[↓wk,↓wl,nq,evV,↓reduceIte,sevalprocAttr]
      refine AW.ret ?_
      refine seqQ.ret ?_
      cases H
      exact hQ.fin
     ·try simp only[↓wk,↓wl,nq,evV,↓reduceIte,sevalprocAttr]
      refine evTs_ifg H (by rfl) ?_ ?_<;>clear H<;>intro H
      ·try simp only[↓wk,↓wl,nq,evV,↓reduceIte,sevalprocAttr]
       refine AW.ift (by rfl) ?_
       refine AW.rseq ?_
       try simp only[↓wk,↓wl,nq,evV,↓reduceIte,sevalprocAttr]
       refine AW.ret ?_
       refine seqQ.ret ?_
       cases H
       exact hQ.fin
      ·try simp only[↓wk,↓wl,nq,evV,↓reduceIte,sevalprocAttr]
       refine evTs_ifg H (by rfl) ?_ ?_<;>clear H<;>intro H
       ·try simp only[↓wk,↓wl,nq,evV,↓reduceIte,sevalprocAttr]
        refine AW.ift (by rfl) ?_
        refine AW.rseq ?_
        try simp only[↓wk,↓wl,nq,evV,↓reduceIte,sevalprocAttr]
        refine AW.ret ?_
        refine seqQ.ret ?_
        cases H
        exact hQ.fin
       ·try simp only[↓wk,↓wl,nq,evV,↓reduceIte,sevalprocAttr]
        refine evTs_pure hFn H (fun _ h=>f93_ok h) (by rfl) (by rfl) (by rfl) (by rfl) (fun _=>rfl) ?_<;>clear H<;>intro xa H
        try simp only[eL,↓wk,↓wl,nq,evV,↓reduceIte,sevalprocAttr]
        refine AW.ifc H (by rfl) ?_ ?_<;>clear H<;>intro H
        ·refine AW.rseq ?_
         try simp only[↓wk,↓wl,nq,evV,↓reduceIte,sevalprocAttr]
         refine AW.ret ?_
         refine seqQ.ret ?_
         cases H
         exact hQ.fin
        ·refine AW.skip ?_
         refine seqQ.norm ?_
         refine AW.rseq ?_
         try simp only[↓wk,↓wl,nq,evV,↓reduceIte,sevalprocAttr]
         refine AW.sseq ?_
         refine AW.rseq ?_
         try simp only[↓wk,↓wl,nq,evV,↓reduceIte,sevalprocAttr]
         refine evTs_pure hFn H (fun _ h=>f59_ok h) (by rfl) (by rfl) (by rfl) (by rfl) (fun _=>rfl) ?_<;>clear H<;>intro xb H
         try simp only[eL,↓wk,↓wl,nq,evV,↓reduceIte,sevalprocAttr]
         refine AW.rseq ?_
         try simp only[↓wk,↓wl,nq,evV,↓reduceIte,sevalprocAttr]
         refine AW.ifc H (by rfl) ?_ ?_<;>clear H<;>intro H
         ·refine AW.rseq ?_
          try simp only[↓wk,↓wl,nq,evV,↓reduceIte,sevalprocAttr]
          refine AW.ret ?_
          refine seqQ.ret ?_
          cases H
          exact hQ.fin
         ·refine AW.skip ?_
          refine seqQ.norm ?_
          refine AW.rseq ?_
          try simp only[↓wk,↓wl,nq,evV,↓reduceIte,sevalprocAttr]
          refine AW.ret ?_
          cases H
          exact hQ.fin
    ·refine AW.rseq ?_
     try simp only[↓wk,↓wl,nq,evV,↓reduceIte,sevalprocAttr]
     refine AW.bend ?_
     refine AW.rounds 40 ?_
     refine Rounds.go ?_
     refine AW.rseq ?_
     try simp only[↓wk,↓wl,nq,evV,↓reduceIte,sevalprocAttr]
     refine AW.sseq ?_
     refine AW.ift (by rfl) ?_
     refine AW.skip ?_
     refine seqQ.norm ?_
     refine AW.bseq ?_
     refine AW.rseq ?_
     try simp only[↓wk,↓wl,nq,evV,↓reduceIte,sevalprocAttr]
     refine evTs_any (v:=.ptr 3 0) rfl (by rfl) ?_
     try simp only[↓wk,↓wl,nq,evV,↓reduceIte,sevalprocAttr]
     refine AW.rseq ?_
     try simp only[↓wk,↓wl,nq,evV,↓reduceIte,sevalprocAttr]
     refine evTs_pure hFn H (fun _ h=>f137_ok h) (by rfl) (by rfl) (by rfl) (by rfl) (fun _=>rfl) ?_<;>clear H<;>intro xc H
     try simp only[eL,↓wk,↓wl,nq,evV,↓reduceIte,sevalprocAttr]
     refine AW.rseq ?_
     try simp only[↓wk,↓wl,nq,evV,↓reduceIte,sevalprocAttr]
     refine AW.ifc H (by rfl) ?_ ?_<;>clear H<;>intro H
     ·refine AW.rseq ?_
      try simp only[↓wk,↓wl,nq,evV,↓reduceIte,sevalprocAttr]
      refine AW.ret ?_
      refine blkQ.ret ?_
      refine roundQ.ret ?_
      refine blk0.ret ?_
      refine seqQ.ret ?_
      cases H
      exact hQ.fin
     ·refine AW.skip ?_
      refine blkQ.norm ?_
      refine AW.rend ?_
      try simp only[↓wk,↓wl,nq,evV,↓reduceIte,sevalprocAttr]
      refine roundQ.next (st2:=⟨put (put (put (put (put (put (put (put (fun _=>.junk) 41 (.int .i64 1)) 40 (.agg [.ptr 3 0,.ptr 2 1,.ptr 2 2,.ptr 2 3,.ptr 2 4,.ptr 4 0])) 10 (.int .i64 xc.2.1)) 9 (.ptr 4 0)) 8 (.ptr 3 0)) 7 (.ptr 2 0)) 4 (.ptr 1 0)) 2 (.ptr 0 0),[.cel [.int .u64 0,.int .i64 0,.int .i64 0,.int .i64 0,.int .i64 0,.bool false,.str ([])],.cel [.int .i64 x1.1.fKind,.str x1.1.fData],.cel [.int .u64 0,.int .i64 0,.int .i64 0,.int .i64 0,.int .i64 0,.bool false,.str ([])],.cel [.int .i64 xc.1],.cel [.int .i64 0]]⟩) (Le.tz [0,1,2,3,4] [2,4,7,8,9,10,40,41] (by simp only[rrm,↓wk,↓wl,evV,↓reduceIte,sevalprocAttr]<;>rfl)) ?_
      refine Rounds.go ?_
      refine AW.rseq ?_
      try simp only[↓wk,↓wl,nq,evV,↓reduceIte,sevalprocAttr]
      refine AW.sseq ?_
      refine AW.ift (by rfl) ?_
      refine AW.skip ?_
      refine seqQ.norm ?_
      refine AW.bseq ?_
      refine AW.rseq ?_
      try simp only[↓wk,↓wl,nq,evV,↓reduceIte,sevalprocAttr]
      refine evTs_any (v:=.ptr 2 1) rfl (by rfl) ?_
      try simp only[↓wk,↓wl,nq,evV,↓reduceIte,sevalprocAttr]
      refine AW.rseq ?_
      try simp only[↓wk,↓wl,nq,evV,↓reduceIte,sevalprocAttr]
      refine evTs_pure hFn H (fun _ h=>f137_ok h) (by rfl) (by rfl) (by rfl) (by rfl) (fun _=>rfl) ?_<;>clear H<;>intro xd H
      try simp only[eL,↓wk,↓wl,nq,evV,↓reduceIte,sevalprocAttr]
      refine AW.rseq ?_
      try simp only[↓wk,↓wl,nq,evV,↓reduceIte,sevalprocAttr]
      refine AW.ifc H (by rfl) ?_ ?_<;>clear H<;>intro H
      ·refine AW.rseq ?_
       try simp only[↓wk,↓wl,nq,evV,↓reduceIte,sevalprocAttr]
       refine AW.ret ?_
       refine blkQ.ret ?_
       refine roundQ.ret ?_
       refine blk0.ret ?_
       refine seqQ.ret ?_
       cases H
       exact hQ.fin
      ·refine AW.skip ?_
       refine blkQ.norm ?_
       refine AW.rend ?_
       try simp only[↓wk,↓wl,nq,evV,↓reduceIte,sevalprocAttr]
       refine roundQ.next (st2:=⟨put (put (put (put (put (put (put (put (fun _=>.junk) 41 (.int .i64 2)) 40 (.agg [.ptr 3 0,.ptr 2 1,.ptr 2 2,.ptr 2 3,.ptr 2 4,.ptr 4 0])) 10 (.int .i64 xd.2.1)) 9 (.ptr 4 0)) 8 (.ptr 3 0)) 7 (.ptr 2 0)) 4 (.ptr 1 0)) 2 (.ptr 0 0),[.cel [.int .u64 0,.int .i64 0,.int .i64 0,.int .i64 0,.int .i64 0,.bool false,.str ([])],.cel [.int .i64 x1.1.fKind,.str x1.1.fData],.cel [.int .u64 0,.int .i64 xd.1,.int .i64 0,.int .i64 0,.int .i64 0,.bool false,.str ([])],.cel [.int .i64 xc.1],.cel [.int .i64 0]]⟩) (Le.tz [0,1,2,3,4] [2,4,7,8,9,10,40,41] (by simp only[rrm,↓wk,↓wl,evV,↓reduceIte,sevalprocAttr]<;>rfl)) ?_
       refine Rounds.go ?_
       refine AW.rseq ?_
       try simp only[↓wk,↓wl,nq,evV,↓reduceIte,sevalprocAttr]
       refine AW.sseq ?_
       refine AW.ift (by rfl) ?_
       refine AW.skip ?_
       refine seqQ.norm ?_
       refine AW.bseq ?_
       refine AW.rseq ?_
       try simp only[↓wk,↓wl,nq,evV,↓reduceIte,sevalprocAttr]
       refine evTs_any (v:=.ptr 2 2) rfl (by rfl) ?_
       try simp only[↓wk,↓wl,nq,evV,↓reduceIte,sevalprocAttr]
       refine AW.rseq ?_
       try simp only[↓wk,↓wl,nq,evV,↓reduceIte,sevalprocAttr]
       refine evTs_pure hFn H (fun _ h=>f137_ok h) (by rfl) (by rfl) (by rfl) (by rfl) (fun _=>rfl) ?_<;>clear H<;>intro xe H
       try simp only[eL,↓wk,↓wl,nq,evV,↓reduceIte,sevalprocAttr]
       refine AW.rseq ?_
       try simp only[↓wk,↓wl,nq,evV,↓reduceIte,sevalprocAttr]
       refine AW.ifc H (by rfl) ?_ ?_<;>clear H<;>intro H
       ·refine AW.rseq ?_
        try simp only[↓wk,↓wl,nq,evV,↓reduceIte,sevalprocAttr]
        refine AW.ret ?_
        refine blkQ.ret ?_
        refine roundQ.ret ?_
        refine blk0.ret ?_
        refine seqQ.ret ?_
        cases H
        exact hQ.fin
       ·refine AW.skip ?_
        refine blkQ.norm ?_
        refine AW.rend ?_
        try simp only[↓wk,↓wl,nq,evV,↓reduceIte,sevalprocAttr]
        refine roundQ.next (st2:=⟨put (put (put (put (put (put (put (put (fun _=>.junk) 41 (.int .i64 3)) 40 (.agg [.ptr 3 0,.ptr 2 1,.ptr 2 2,.ptr 2 3,.ptr 2 4,.ptr 4 0])) 10 (.int .i64 xe.2.1)) 9 (.ptr 4 0)) 8 (.ptr 3 0)) 7 (.ptr 2 0)) 4 (.ptr 1 0)) 2 (.ptr 0 0),[.cel [.int .u64 0,.int .i64 0,.int .i64 0,.int .i64 0,.int .i64 0,.bool false,.str ([])],.cel [.int .i64 x1.1.fKind,.str x1.1.fData],.cel [.int .u64 0,.int .i64 xd.1,.int .i64 xe.1,.int .i64 0,.int .i64 0,.bool false,.str ([])],.cel [.int .i64 xc.1],.cel [.int .i64 0]]⟩) (Le.tz [0,1,2,3,4] [2,4,7,8,9,10,40,41] (by simp only[rrm,↓wk,↓wl,evV,↓reduceIte,sevalprocAttr]<;>rfl)) ?_
        refine Rounds.go ?_
        refine AW.rseq ?_
        try simp only[↓wk,↓wl,nq,evV,↓reduceIte,sevalprocAttr]
        refine AW.sseq ?_
        refine AW.ift (by rfl) ?_
        refine AW.skip ?_
        refine seqQ.norm ?_
        refine AW.bseq ?_
        refine AW.rseq ?_
        try simp only[↓wk,↓wl,nq,evV,↓reduceIte,sevalprocAttr]
        refine evTs_any (v:=.ptr 2 3) rfl (by rfl) ?_
        try simp only[↓wk,↓wl,nq,evV,↓reduceIte,sevalprocAttr]
        refine AW.rseq ?_
        try simp only[↓wk,↓wl,nq,evV,↓reduceIte,sevalprocAttr]
        refine evTs_pure hFn H (fun _ h=>f137_ok h) (by rfl) (by rfl) (by rfl) (by rfl) (fun _=>rfl) ?_<;>clear H<;>intro xf H
        try simp only[eL,↓wk,↓wl,nq,evV,↓reduceIte,sevalprocAttr]
        refine AW.rseq ?_
        try simp only[↓wk,↓wl,nq,evV,↓reduceIte,sevalprocAttr]
        refine AW.ifc H (by rfl) ?_ ?_<;>clear H<;>intro H
        ·refine AW.rseq ?_
         try simp only[↓wk,↓wl,nq,evV,↓reduceIte,sevalprocAttr]
         refine AW.ret ?_
         refine blkQ.ret ?_
         refine roundQ.ret ?_
         refine blk0.ret ?_
         refine seqQ.ret ?_
         cases H
         exact hQ.fin
        ·refine AW.skip ?_
         refine blkQ.norm ?_
         refine AW.rend ?_
         try simp only[↓wk,↓wl,nq,evV,↓reduceIte,sevalprocAttr]
         refine roundQ.next (st2:=⟨put (put (put (put (put (put (put (put (fun _=>.junk) 41 (.int .i64 4)) 40 (.agg [.ptr 3 0,.ptr 2 1,.ptr 2 2,.ptr 2 3,.ptr 2 4,.ptr 4 0])) 10 (.int .i64 xf.2.1)) 9 (.ptr 4 0)) 8 (.ptr 3 0)) 7 (.ptr 2 0)) 4 (.ptr 1 0)) 2 (.ptr 0 0),[.cel [.int .u64 0,.int .i64 0,.int .i64 0,.int .i64 0,.int .i64 0,.bool false,.str ([])],.cel [.int .i64 x1.1.fKind,.str x1.1.fData],.cel [.int .u64 0,.int .i64 xd.1,.int .i64 xe.1,.int .i64 xf.1,.int .i64 0,.bool false,.str ([])],.cel [.int .i64 xc.1],.cel [.int .i64 0]]⟩) (Le.tz [0,1,2,3,4] [2,4,7,8,9,10,40,41] (by simp only[rrm,↓wk,↓wl,evV,↓reduceIte,sevalprocAttr]<;>rfl)) ?_
         refine Rounds.go ?_
         refine AW.rseq ?_
         try simp only[↓wk,↓wl,nq,evV,↓reduceIte,sevalprocAttr]
         refine AW.sseq ?_
         refine AW.ift (by rfl) ?_
         refine AW.skip ?_
         refine seqQ.norm ?_
         refine AW.bseq ?_
         refine AW.rseq ?_
         try simp only[↓wk,↓wl,nq,evV,↓reduceIte,sevalprocAttr]
         refine evTs_any (v:=.ptr 2 4) rfl (by rfl) ?_
         try simp only[↓wk,↓wl,nq,evV,↓reduceIte,sevalprocAttr]
         refine AW.rseq ?_
         try simp only[↓wk,↓wl,nq,evV,↓reduceIte,sevalprocAttr]
         refine evTs_pure hFn H (fun _ h=>f137_ok h) (by rfl) (by rfl) (by rfl) (by rfl) (fun _=>rfl) ?_<;>clear H<;>intro xg H
         try simp only[eL,↓wk,↓wl,nq,evV,↓reduceIte,sevalprocAttr]
         refine AW.rseq ?_
         try simp only[↓wk,↓wl,nq,evV,↓reduceIte,sevalprocAttr]
         refine AW.ifc H (by rfl) ?_ ?_<;>clear H<;>intro H
         ·refine AW.rseq ?_
          try simp only[↓wk,↓wl,nq,evV,↓reduceIte,sevalprocAttr]
          refine AW.ret ?_
          refine blkQ.ret ?_
          refine roundQ.ret ?_
          refine blk0.ret ?_
          refine seqQ.ret ?_
          cases H
          exact hQ.fin
         ·refine AW.skip ?_
          refine blkQ.norm ?_
          refine AW.rend ?_
          try simp only[↓wk,↓wl,nq,evV,↓reduceIte,sevalprocAttr]
          refine roundQ.next (st2:=⟨put (put (put (put (put (put (put (put (fun _=>.junk) 41 (.int .i64 5)) 40 (.agg [.ptr 3 0,.ptr 2 1,.ptr 2 2,.ptr 2 3,.ptr 2 4,.ptr 4 0])) 10 (.int .i64 xg.2.1)) 9 (.ptr 4 0)) 8 (.ptr 3 0)) 7 (.ptr 2 0)) 4 (.ptr 1 0)) 2 (.ptr 0 0),[.cel [.int .u64 0,.int .i64 0,.int .i64 0,.int .i64 0,.int .i64 0,.bool false,.str ([])],.cel [.int .i64 x1.1.fKind,.str x1.1.fData],.cel [.int .u64 0,.int .i64 xd.1,.int .i64 xe.1,.int .i64 xf.1,.int .i64 xg.1,.bool false,.str ([])],.cel [.int .i64 xc.1],.cel [.int .i64 0]]⟩) (Le.tz [0,1,2,3,4] [2,4,7,8,9,10,40,41] (by simp only[rrm,↓wk,↓wl,evV,↓reduceIte,sevalprocAttr]<;>rfl)) ?_
          refine Rounds.go ?_
          refine AW.rseq ?_
          try simp only[↓wk,↓wl,nq,evV,↓reduceIte,sevalprocAttr]
          refine AW.sseq ?_
          refine AW.ift (by rfl) ?_
          refine AW.skip ?_
          refine seqQ.norm ?_
          refine AW.bseq ?_
          refine AW.rseq ?_
          try simp only[↓wk,↓wl,nq,evV,↓reduceIte,sevalprocAttr]
          refine evTs_any (v:=.ptr 4 0) rfl (by rfl) ?_
          try simp only[↓wk,↓wl,nq,evV,↓reduceIte,sevalprocAttr]
          refine AW.rseq ?_
          try simp only[↓wk,↓wl,nq,evV,↓reduceIte,sevalprocAttr]
          refine evTs_pure hFn H (fun _ h=>f137_ok h) (by rfl) (by rfl) (by rfl) (by rfl) (fun _=>rfl) ?_<;>clear H<;>intro xh H
          try simp only[eL,↓wk,↓wl,nq,evV,↓reduceIte,sevalprocAttr]
          refine AW.rseq ?_
          try simp only[↓wk,↓wl,nq,evV,↓reduceIte,sevalprocAttr]
          refine AW.ifc H (by rfl) ?_ ?_<;>clear H<;>intro H
          ·refine AW.rseq ?_
           try simp only[↓wk,↓wl,nq,evV,↓reduceIte,sevalprocAttr]
           refine AW.ret ?_
           refine blkQ.ret ?_
           refine roundQ.ret ?_
           refine blk0.ret ?_
           refine seqQ.ret ?_
           cases H
           exact hQ.fin
          ·refine AW.skip ?_
           refine blkQ.norm ?_
           refine AW.rend ?_
           try simp only[↓wk,↓wl,nq,evV,↓reduceIte,sevalprocAttr]
           refine roundQ.next (st2:=⟨put (put (put (put (put (put (put (put (fun _=>.junk) 41 (.int .i64 6)) 40 (.agg [.ptr 3 0,.ptr 2 1,.ptr 2 2,.ptr 2 3,.ptr 2 4,.ptr 4 0])) 10 (.int .i64 xh.2.1)) 9 (.ptr 4 0)) 8 (.ptr 3 0)) 7 (.ptr 2 0)) 4 (.ptr 1 0)) 2 (.ptr 0 0),[.cel [.int .u64 0,.int .i64 0,.int .i64 0,.int .i64 0,.int .i64 0,.bool false,.str ([])],.cel [.int .i64 x1.1.fKind,.str x1.1.fData],.cel [.int .u64 0,.int .i64 xd.1,.int .i64 xe.1,.int .i64 xf.1,.int .i64 xg.1,.bool false,.str ([])],.cel [.int .i64 xc.1],.cel [.int .i64 xh.1]]⟩) (Le.tz [0,1,2,3,4] [2,4,7,8,9,10,40,41] (by simp only[rrm,↓wk,↓wl,evV,↓reduceIte,sevalprocAttr]<;>rfl)) ?_
           refine Rounds.go ?_
           refine AW.rseq ?_
           try simp only[↓wk,↓wl,nq,evV,↓reduceIte,sevalprocAttr]
           refine AW.sseq ?_
           refine AW.iff (by rfl) ?_
           refine AW.exit ?_
           refine seqQ.exit ?_
           refine roundQ.exit ?_
           refine blk0.here ?_
           refine seqQ.norm ?_
           exact hf89_J1 _ _ H ((Le.tz [0,1,2,3,4] [2,4,7,8,9,10] (by simp only[f89_J1c,rrm,↓wk,↓wl,evV,↓reduceIte,sevalprocAttr]<;>rfl)))
noncomputable def f51_L1(x0:(List NetworkPacket))(x1:Bool)(x2:Int):Lp (Int×(List ReceiverInput)) (((List ReceiverInput))⊕((List ReceiverInput))) where
  body:=fun (x3,x4)=>(if (decide (x3<((x0.length:Nat):Int)))=true then (at? x0 x3).bind fun x5=>(f88 x5).bind fun x6=>(f89 x6.1).bind fun x7=>(if (decide (x6.2≠0))=true then (some (.brk (Sum.inr x4))) else (if (decide (x7.2≠0))=true then (some (.brk (Sum.inr x4))) else (if (!((x7.1.fSource == x5.fSource) && ((x7.1.fUniverse == x5.fUniverse) && ((x7.1.fPriority == x5.fPriority) && ((x7.1.fSeq == x5.fSeq) && ((x7.1.fSync == x5.fSync) && ((x7.1.fEnd == x5.fEnd) && ((x7.1.fSlots == x5.fSlots) && true))))))))=true then (some (.brk (Sum.inr x4))) else (if x1=true then (some (.next ((IntKind.i64.wrap (x3 + 1)),x4))) else (f16 (ReceiverReceiver.mk x4) x2 x7.1).bind fun x8=>(if (decide (x8.2.2≠0))=true then (some (.brk (Sum.inr x4))) else (some (.next ((IntKind.i64.wrap (x3 + 1)),x8.1.fInputs)))))))) else (some (.brk (Sum.inl x4))))
  cst:=fun (x3,x4)=>⟨put (put (put (put (put (put (put (fun _=>.junk) 20 (.int .i64 x3)) 19 (.int .i64 ((x0.length:Nat):Int))) 18 (.sl 7 false (x0.map eNetworkPacket))) 8 (.ptr 1 0)) 4 (.ptr 0 0)) 3 (.bool x1)) 1 (.int .i64 x2),[.cel [.sl 8 false (x4.map eReceiverInput)],.cel [.sl 8 true []]]⟩
theorem f51_L1c(x0:(List NetworkPacket))(x1:Bool)(x2:Int)(x3:Int)(x4:(List ReceiverInput)):(f51_L1 x0 x1 x2).cst (x3,x4)=⟨put (put (put (put (put (put (put (fun _=>.junk) 20 (.int .i64 x3)) 19 (.int .i64 ((x0.length:Nat):Int))) 18 (.sl 7 false (x0.map eNetworkPacket))) 8 (.ptr 1 0)) 4 (.ptr 0 0)) 3 (.bool x1)) 1 (.int .i64 x2),[.cel [.sl 8 false (x4.map eReceiverInput)],.cel [.sl 8 true []]]⟩:=rfl
def c51_0:C:=.cond (.t 44) (.seq (.reg [iI 45 (.load 1 (.t 4)),iN (.store 1 (.t 8) (.t 45)),iI 9 (.mv (.c (.bool false)))]) .ret) (.skip)
def c51_1:C:=.cond (.t 46) (.exit 1) (.skip)
def c51_2:C:=.cond (.t 56) (.seq (.reg [iI 57 (.load 1 (.t 4)),iN (.store 1 (.t 8) (.t 57)),iI 9 (.mv (.c (.bool false)))]) .ret) (.skip)
def c51_3:C:=.reg [iI 58 (.load 1 (.t 16)),iN (.store 1 (.t 4) (.t 58))]
def c51_4:C:=.seq (.seq (.reg [iI 55 (.mv (.t 13)),iI 56 (.bin .neq (.t 55) (.c (.int .i64 0)))]) c51_2) c51_3
def c51_5:C:=.seq (.reg [iI 48 (.load 1 (.t 4)),iI 49 (.mv (.t 1)),iI 50 (.load 7 (.t 14)),iI 51 (.call (.c (.fn 16 [])) [(.t 48),(.t 49),(.t 50)]),iI 47 (.mv (.t 51)),iI 52 (.ext (.t 47) 0),iI 53 (.ext (.t 47) 1),iI 54 (.ext (.t 47) 2),iI 16 (.alloc [(1,(.sl 8 true []))]),iN (.store 1 (.t 16) (.t 52)),iI 17 (.mv (.t 53)),iI 13 (.mv (.t 54))]) c51_4
def c51_6:C:=.seq (.seq (.reg [iI 46 (.mv (.t 3))]) c51_1) c51_5
def c51_7:C:=.seq (.seq (.reg [iI 34 (.mv (.t 13)),iI 35 (.bin .neq (.t 34) (.c (.int .i64 0))),iI 36 (.mv (.t 35)),iG (some 37) 36 false (.mv (.t 15)),iG (some 38) 36 false (.bin .neq (.t 37) (.c (.int .i64 0))),iI 39 (.pick (.t 36) (.c (.bool true)) (.t 38)),iI 40 (.mv (.t 39)),iG (some 41) 40 false (.load 7 (.t 14)),iG (some 42) 40 false (.load 7 (.t 11)),iG (some 43) 40 false (.eqs true [0,0,0,0,0,2,1] (.t 41) (.t 42)),iI 44 (.pick (.t 40) (.c (.bool true)) (.t 43))]) c51_0) c51_6
def c51_8:C:=.seq (.reg [iI 30 (.mv (.t 12)),iI 31 (.call (.c (.fn 89 [])) [(.t 30)]),iI 29 (.mv (.t 31)),iI 32 (.ext (.t 29) 0),iI 33 (.ext (.t 29) 1),iI 14 (.alloc [(1,(.int .u64 0)),(1,(.int .i64 0)),(1,(.int .i64 0)),(1,(.int .i64 0)),(1,(.int .i64 0)),(1,(.bool false)),(1,(.str []))]),iN (.store 7 (.t 14) (.t 32)),iI 15 (.mv (.t 33))]) c51_7
def c51_9:C:=.seq (.reg [iI 25 (.load 7 (.t 11)),iI 26 (.call (.c (.fn 88 [])) [(.t 25)]),iI 24 (.mv (.t 26)),iI 27 (.ext (.t 24) 0),iI 28 (.ext (.t 24) 1),iI 12 (.mv (.t 27)),iI 13 (.mv (.t 28))]) c51_8
def c51_10:C:=.reg [iI 59 (.bin .add (.t 20) (.c (.int .i64 1))),iI 20 (.mv (.t 59))]
def c51_11:C:=.seq (.block 1 (.seq (.reg [iI 22 (.iaddr 7 (.t 18) (.t 20)),iI 23 (.load 7 (.t 22)),iI 11 (.alloc [(1,(.int .u64 0)),(1,(.int .i64 0)),(1,(.int .i64 0)),(1,(.int .i64 0)),(1,(.int .i64 0)),(1,(.bool false)),(1,(.str []))]),iN (.store 7 (.t 11) (.t 23))]) c51_9)) c51_10
def c51_12:C:=.seq (.cond (.t 21) (.skip) (.exit 0)) c51_11
def c51_13:C:=.block 0 (.loop (.seq (.reg [iI 21 (.bin .lss (.t 20) (.t 19))]) c51_12))
def c51_14:C:=.seq (.reg [iI 60 (.load 1 (.t 4)),iN (.store 1 (.t 8) (.t 60)),iI 9 (.mv (.c (.bool true)))]) .ret
def c51_15:C:=.seq (.seq (.reg [iI 18 (.mv (.t 2)),iI 19 (.len 0 (.t 18)),iI 20 (.mv (.c (.int .i64 0)))]) c51_13) c51_14
def ir51:C:=.seq (.reg [iI 4 (.box (.t 0)),iI 8 (.alloc [(1,(.sl 8 true []))]),iI 9 (.mv (.c (.bool false)))]) c51_15
theorem fd51:fd? Try.prog 51=some (61,[.cell 8 1,.slot 9],ir51):=by kernel_rfl
noncomputable def f51(x0:ReceiverReceiver)(x1:Int)(x2:(List NetworkPacket))(x3:Bool):Option (ReceiverReceiver×Bool) :=
  ((Lp.run (f51_L1 x2 x3 x1) (0,x0.fInputs)).bind fun r_=>match r_ with | (Sum.inl x4)=>(some ((ReceiverReceiver.mk x4),true)) | (Sum.inr x5)=>(some ((ReceiverReceiver.mk x5),false)))
theorem f51_ok{x0:ReceiverReceiver}{x1:Int}{x2:(List NetworkPacket)}{x3:Bool}{r_:ReceiverReceiver×Bool}(H:f51 x0 x1 x2 x3=some r_):Pure Try.prog 51 [.agg [.sl 8 false (x0.fInputs.map eReceiverInput)],.int .i64 x1,.sl 7 false (x2.map eNetworkPacket),.bool x3] (· = .tup [.agg [.sl 8 false (r_.1.fInputs.map eReceiverInput)],.bool r_.2]):=by
 refine Pure.walk3 fd51 none (Nat.le_of_ble_eq_true rfl) (by rfl) fun Q hQ=>?_
 simp only[f51] at H
 refine AW.rseq ?_
 try simp only[↓wk,↓wl,nq,evV,↓reduceIte,sevalprocAttr]
 refine AW.sseq ?_
 refine AW.rseq ?_
 try simp only[↓wk,↓wl,nq,evV,↓reduceIte,sevalprocAttr]
 refine AW.bend ?_
 refine AW.iter H ((Le.tz [0,1] [1,3,4,8,18,19,20] (by simp only[f51_L1c,rrm,↓wk,↓wl,evV,↓reduceIte,sevalprocAttr]<;>rfl))) ?_<;>clear H
 rintro ⟨x4,x5⟩ x_ st0_ H hst_
 rw[f51_L1c] at hst_
 simp only[f51_L1] at H
 subst hst_
 refine AW.rseq ?_
 try simp only[↓wk,↓wl,nq,evV,↓reduceIte,sevalprocAttr]
 refine AW.sseq ?_
 refine AW.ifc H (by rfl) ?_ ?_<;>clear H<;>intro H
 ·refine AW.skip ?_
  refine seqQ.norm ?_
  refine AW.bseq ?_
  refine AW.rseq ?_
  try simp only[↓wk,↓wl,nq,evV,↓reduceIte,sevalprocAttr]
  refine evTs_at (enc:=eNetworkPacket) H (by rfl) (by rfl) ?_<;>clear H<;>intro x6 H
  try simp only[eNetworkPacket,eL,↓wk,↓wl,nq,evV,↓reduceIte,sevalprocAttr]
  refine AW.rseq ?_
  try simp only[↓wk,↓wl,nq,evV,↓reduceIte,sevalprocAttr]
  refine evTs_pure hFn H (fun _ h=>f88_ok h) (by rfl) (by rfl) (by rfl) (by rfl) (fun _=>rfl) ?_<;>clear H<;>intro x7 H
  try simp only[eL,↓wk,↓wl,nq,evV,↓reduceIte,sevalprocAttr]
  refine AW.rseq ?_
  try simp only[↓wk,↓wl,nq,evV,↓reduceIte,sevalprocAttr]
  refine evTs_pure hFn H (fun _ h=>f89_ok h) (by rfl) (by rfl) (by rfl) (by rfl) (fun _=>rfl) ?_<;>clear H<;>intro x8 H
  try simp only[eL,eNetworkPacket,↓wk,↓wl,nq,evV,↓reduceIte,sevalprocAttr]
  refine AW.sseq ?_
  refine AW.rseq ?_
  try simp only[↓wk,↓wl,nq,evV,↓reduceIte,sevalprocAttr]
  refine evTs_ifg H (by rfl) ?_ ?_<;>clear H<;>intro H
  ·try simp only[↓wk,↓wl,nq,evV,↓reduceIte,sevalprocAttr]
   refine AW.ift (by rfl) ?_
   refine AW.rseq ?_
   try simp only[↓wk,↓wl,nq,evV,↓reduceIte,sevalprocAttr]
   refine AW.ret ?_
   refine seqQ.ret ?_
   refine blkQ.ret ?_
   refine loopQ.ret H ?_<;>clear H<;>intro H
   try dsimp only at H
   refine blk0.ret ?_
   refine seqQ.ret ?_
   cases H
   exact hQ.fin
  ·try simp only[↓wk,↓wl,nq,evV,↓reduceIte,sevalprocAttr]
   refine evTs_ifg H (by rfl) ?_ ?_<;>clear H<;>intro H
   ·try simp only[↓wk,↓wl,nq,evV,↓reduceIte,sevalprocAttr]
    refine AW.ift (by rfl) ?_
    refine AW.rseq ?_
    try simp only[↓wk,↓wl,nq,evV,↓reduceIte,sevalprocAttr]
    refine AW.ret ?_
    refine seqQ.ret ?_
    refine blkQ.ret ?_
    refine loopQ.ret H ?_<;>clear H<;>intro H
    try dsimp only at H
    refine blk0.ret ?_
    refine seqQ.ret ?_
    cases H
    exact hQ.fin
   ·try simp only[↓wk,↓wl,nq,evV,↓reduceIte,sevalprocAttr]
    refine rest_neqs (by rfl) ?_
    try simp only[↓wk,↓wl,nq,evV,↓reduceIte,sevalprocAttr]
    refine AW.ifc H (by rfl) ?_ ?_<;>clear H<;>intro H
    ·refine AW.rseq ?_
     try simp only[↓wk,↓wl,nq,evV,↓reduceIte,sevalprocAttr]
     refine AW.ret ?_
     refine seqQ.ret ?_
     refine blkQ.ret ?_
     refine loopQ.ret H ?_<;>clear H<;>intro H
     try dsimp only at H
     refine blk0.ret ?_
     refine seqQ.ret ?_
     cases H
     exact hQ.fin
    ·refine AW.skip ?_
     refine seqQ.norm ?_
     refine AW.sseq ?_
     refine AW.rseq ?_
     try simp only[↓wk,↓wl,nq,evV,↓reduceIte,sevalprocAttr]
     refine AW.ifc H (by rfl) ?_ ?_<;>clear H<;>intro H
     ·refine AW.exit ?_
      refine seqQ.exit ?_
      refine blkQ.here ?_
      refine AW.rend ?_
      try simp only[↓wk,↓wl,nq,evV,↓reduceIte,sevalprocAttr]
      exact loopQ.next H ((Le.tz [0,1] [1,3,4,8,18,19,20] (by simp only[f51_L1c,rrm,↓wk,↓wl,evV,↓reduceIte,sevalprocAttr]<;>rfl)))
     ·refine AW.skip ?_
      refine seqQ.norm ?_
      refine AW.rseq ?_
      try simp only[↓wk,↓wl,nq,evV,↓reduceIte,sevalprocAttr]
      refine evTs_pure hFn H (fun _ h=>f16_ok h) (by rfl) (by rfl) (by rfl) (by rfl) (fun _=>rfl) ?_<;>clear H<;>intro x9 H
      try simp only[eL,eReceiverReceiver,↓wk,↓wl,nq,evV,↓reduceIte,sevalprocAttr]
      refine AW.sseq ?_
      refine AW.rseq ?_
      try simp only[↓wk,↓wl,nq,evV,↓reduceIte,sevalprocAttr]
      refine AW.ifc H (by rfl) ?_ ?_<;>clear H<;>intro H
      ·refine AW.rseq ?_
       try simp only[↓wk,↓wl,nq,evV,↓reduceIte,sevalprocAttr]
       refine AW.ret ?_
       refine seqQ.ret ?_
       refine blkQ.ret ?_
       refine loopQ.ret H ?_<;>clear H<;>intro H
       try dsimp only at H
       refine blk0.ret ?_
       refine seqQ.ret ?_
       cases H
       exact hQ.fin
      ·refine AW.skip ?_
       refine seqQ.norm ?_
       refine AW.rend ?_
       try simp only[↓wk,↓wl,nq,evV,↓reduceIte,sevalprocAttr]
       refine blkQ.norm ?_
       refine AW.rend ?_
       try simp only[↓wk,↓wl,nq,evV,↓reduceIte,sevalprocAttr]
       exact loopQ.next H ((Le.tz [0,1] [1,3,4,8,18,19,20] (by simp only[f51_L1c,rrm,↓wk,↓wl,evV,↓reduceIte,sevalprocAttr]<;>rfl)))
 ·refine AW.exit ?_
  refine seqQ.exit ?_
  refine loopQ.exit H ?_<;>clear H<;>intro H
  try dsimp only at H
  refine blk0.here ?_
  refine seqQ.norm ?_
  refine AW.rseq ?_
  try simp only[↓wk,↓wl,nq,evV,↓reduceIte,sevalprocAttr]
  refine AW.ret ?_
  cases H
  exact hQ.fin
noncomputable def f28_L1(x0:(List ReceiverInput)):Lp (Int×(List Int)) ((List Int)) where
  body:=fun (x1,x2)=>(if (decide (x1<((x0.length:Nat):Int)))=true then (at? x0 x1).bind fun x3=>(app? 8 x2 ([x3.fSource])).bind fun x4=>(some (.next ((IntKind.i64.wrap (x1 + 1)),x4))) else (some (.brk x2)))
  cst:=fun (x1,x2)=>⟨put (put (put (put (fun _=>.junk) 29 (.int .i64 x1)) 28 (.int .i64 ((x0.length:Nat):Int))) 27 (.sl 8 false (x0.map eReceiverInput))) 9 (.row 0 0 0 x2.length),[.els 0 (x2.map (AV.int .u64))]⟩
theorem f28_L1c(x0:(List ReceiverInput))(x1:Int)(x2:(List Int)):(f28_L1 x0).cst (x1,x2)=⟨put (put (put (put (fun _=>.junk) 29 (.int .i64 x1)) 28 (.int .i64 ((x0.length:Nat):Int))) 27 (.sl 8 false (x0.map eReceiverInput))) 9 (.row 0 0 0 x2.length),[.els 0 (x2.map (AV.int .u64))]⟩:=rfl
def c28_0:C:=.cond (.t 16) (.seq (.reg [iI 17 (.mv (.t 8)),iI 6 (.mv (.c (.sl 0 true []))),iI 7 (.mv (.t 17))]) .ret) (.skip)
def c28_1:C:=.seq (.reg [iI 15 (.mv (.t 8)),iI 16 (.bin .neq (.t 15) (.c (.int .i64 0)))]) c28_0
def c28_2:C:=.cond (.t 23) (.seq (.reg [iI 6 (.mv (.c (.sl 0 true []))),iI 7 (.mv (.c (.int .i64 2)))]) .ret) (.skip)
def c28_3:C:=.reg [iI 33 (.mv (.t 9)),iI 34 (.faddr 1 (.t 11)),iI 35 (.load 0 (.t 34)),iI 36 (.mkslp 0 1 (.int .u64 0) [(0,(.t 35))]),iI 37 (.append 0 8 (.t 33) (.t 36)),iI 9 (.mv (.t 37))]
def c28_4:C:=.reg [iI 38 (.bin .add (.t 29) (.c (.int .i64 1))),iI 29 (.mv (.t 38))]
def c28_5:C:=.seq (.block 1 (.seq (.reg [iI 31 (.iaddr 8 (.t 27) (.t 29)),iI 32 (.load 8 (.t 31)),iI 11 (.alloc [(1,(.int .i64 0)),(1,(.int .u64 0)),(1,(.int .i64 0)),(1,(.int .i64 0)),(1,(.int .i64 0)),(1,(.int .i64 0)),(1,(.str [])),(1,(.str []))]),iN (.store 8 (.t 11) (.t 32))]) c28_3)) c28_4
def c28_6:C:=.seq (.cond (.t 30) (.skip) (.exit 0)) c28_5
def c28_7:C:=.block 0 (.loop (.seq (.reg [iI 30 (.bin .lss (.t 29) (.t 28))]) c28_6))
def c28_8:C:=.seq (.reg [iI 39 (.mv (.t 9)),iI 6 (.mv (.t 39)),iI 7 (.mv (.c (.int .i64 0)))]) .ret
def c28_9:C:=.seq (.seq (.reg [iI 24 (.load 1 (.t 3)),iI 25 (.mv (.t 1)),iI 26 (.mv (.t 2)),iI 27 (.call (.c (.fn 73 [])) [(.t 24),(.t 25),(.t 26)]),iI 28 (.len 0 (.t 27)),iI 29 (.mv (.c (.int .i64 0)))]) c28_7) c28_8
def c28_10:C:=.seq (.reg [iI 9 (.mv (.c (.sl 0 true [])))]) c28_9
def c28_11:C:=.seq (.seq (.reg [iI 18 (.mv (.t 2)),iI 19 (.bin .lss (.t 18) (.c (.int .i64 1))),iI 20 (.mv (.t 19)),iG (some 21) 20 false (.mv (.t 2)),iG (some 22) 20 false (.bin .gtr (.t 21) (.c (.int .i64 8))),iI 23 (.pick (.t 20) (.c (.bool true)) (.t 22))]) c28_2) c28_10
def c28_12:C:=.seq (.seq (.reg [iI 12 (.load 1 (.t 3)),iI 13 (.mv (.t 1)),iI 14 (.call (.c (.fn 58 [])) [(.t 12),(.t 13)]),iI 8 (.mv (.t 14))]) c28_1) c28_11
def ir28:C:=.seq (.reg [iI 3 (.box (.t 0)),iI 6 (.mv (.c (.sl 0 true []))),iI 7 (.mv (.c (.int .i64 0)))]) c28_12
theorem fd28:fd? Try.prog 28=some (40,[.slot 6,.slot 7],ir28):=by kernel_rfl
noncomputable def f28(x0:ReceiverReceiver)(x1:Int)(x2:Int):Option ((List Int)×Int) :=
  (f58 x0 x1).bind fun x3=>(if (decide (x3≠0))=true then (some ([],x3)) else (if (decide (x2<1))=true then (some ([],2)) else (if (decide (8<x2))=true then (some ([],2)) else (f73 x0 x1 x2).bind fun x4=>(Lp.run (f28_L1 x4) (0,[])).bind fun x5=>(some (x5,0)))))
theorem f28_ok{x0:ReceiverReceiver}{x1:Int}{x2:Int}{r_:(List Int)×Int}(H:f28 x0 x1 x2=some r_):Pure Try.prog 28 [.agg [.sl 8 false (x0.fInputs.map eReceiverInput)],.int .i64 x1,.int .i64 x2] (· = .tup [.fr 0 (r_.1.map (AV.int .u64)),.int .i64 r_.2]):=by
 refine Pure.walk3 fd28 (some 0) (Nat.le_of_ble_eq_true rfl) (by rfl) fun Q hQ=>?_
 simp only[f28] at H
 refine AW.rseq ?_
 try simp only[↓wk,↓wl,nq,evV,↓reduceIte,sevalprocAttr]
 refine AW.sseq ?_
 refine AW.rseq ?_
 try simp only[↓wk,↓wl,nq,evV,↓reduceIte,sevalprocAttr]
 refine evTs_pure hFn H (fun _ h=>f58_ok h) (by rfl) (by rfl) (by rfl) (by rfl) (fun _=>rfl) ?_<;>clear H<;>intro x3 H
 try simp only[eL,↓wk,↓wl,nq,evV,↓reduceIte,sevalprocAttr]
 refine AW.rseq ?_
 try simp only[↓wk,↓wl,nq,evV,↓reduceIte,sevalprocAttr]
 refine AW.ifc H (by rfl) ?_ ?_<;>clear H<;>intro H
 ·refine AW.rseq ?_
  try simp only[↓wk,↓wl,nq,evV,↓reduceIte,sevalprocAttr]
  refine AW.ret ?_
  refine seqQ.ret ?_
  cases H
  exact hQ _ _ _ _ (.inr rfl) (by simp only[resVs,omap,resV,↓wk,↓wl,nq,evV,↓reduceIte,sevalprocAttr];rfl) (hand_k0 (by rfl) (by rfl)) (by first | exact Or.inl rfl | exact Or.inr rfl)
 ·refine AW.skip ?_
  refine seqQ.norm ?_
  refine AW.sseq ?_
  refine AW.rseq ?_
  try simp only[↓wk,↓wl,nq,evV,↓reduceIte,sevalprocAttr]
  refine evTs_ifg H (by rfl) ?_ ?_<;>clear H<;>intro H
  ·try simp only[↓wk,↓wl,nq,evV,↓reduceIte,sevalprocAttr]
   refine AW.ift (by rfl) ?_
   refine AW.rseq ?_
   try simp only[↓wk,↓wl,nq,evV,↓reduceIte,sevalprocAttr]
   refine AW.ret ?_
   refine seqQ.ret ?_
   cases H
   exact hQ _ _ _ _ (.inr rfl) (by simp only[resVs,omap,resV,↓wk,↓wl,nq,evV,↓reduceIte,sevalprocAttr];rfl) (hand_k0 (by rfl) (by rfl)) (by first | exact Or.inl rfl | exact Or.inr rfl)
  ·try simp only[↓wk,↓wl,nq,evV,↓reduceIte,sevalprocAttr]
   refine AW.ifc H (by rfl) ?_ ?_<;>clear H<;>intro H
   ·refine AW.rseq ?_
    try simp only[↓wk,↓wl,nq,evV,↓reduceIte,sevalprocAttr]
    refine AW.ret ?_
    refine seqQ.ret ?_
    cases H
    exact hQ _ _ _ _ (.inr rfl) (by simp only[resVs,omap,resV,↓wk,↓wl,nq,evV,↓reduceIte,sevalprocAttr];rfl) (hand_k0 (by rfl) (by rfl)) (by first | exact Or.inl rfl | exact Or.inr rfl)
   ·refine AW.skip ?_
    refine seqQ.norm ?_
    refine AW.rseq ?_
    try simp only[↓wk,↓wl,nq,evV,↓reduceIte,sevalprocAttr]
    refine AW.sseq ?_
    refine AW.rseq ?_
    try simp only[↓wk,↓wl,nq,evV,↓reduceIte,sevalprocAttr]
    refine evTs_pure hFn H (fun _ h=>f73_im h) (by rfl) (by rfl) (by rfl) (by rfl) (fun _=>rfl) ?_<;>clear H<;>intro x4 H
    try simp only[eL,↓wk,↓wl,nq,evV,↓reduceIte,sevalprocAttr]
    refine AW.bend ?_
    refine AW.iter H ((Le.trans (Le.nilRow (i:=9) (e:=0) (by simp only[↓wk,↓wl,nq,evV,↓reduceIte,sevalprocAttr])) (Le.tz [1] [9,27,28,29] (by simp only[f28_L1c,rrm,↓wk,↓wl,evV,↓reduceIte,sevalprocAttr]<;>rfl)))) ?_<;>clear H
    rintro ⟨x5,x6⟩ x_ st0_ H hst_
    rw[f28_L1c] at hst_
    simp only[f28_L1] at H
    subst hst_
    refine AW.rseq ?_
    try simp only[↓wk,↓wl,nq,evV,↓reduceIte,sevalprocAttr]
    refine AW.sseq ?_
    refine AW.ifc H (by rfl) ?_ ?_<;>clear H<;>intro H
    ·refine AW.skip ?_
     refine seqQ.norm ?_
     refine AW.bseq ?_
     refine AW.rseq ?_
     try simp only[↓wk,↓wl,nq,evV,↓reduceIte,sevalprocAttr]
     refine evTs_at (enc:=eReceiverInput) H (by rfl) (by rfl) ?_<;>clear H<;>intro x7 H
     try simp only[eReceiverInput,eL,↓wk,↓wl,nq,evV,↓reduceIte,sevalprocAttr]
     refine AW.rend ?_
     try simp only[↓wk,↓wl,nq,evV,↓reduceIte,sevalprocAttr]
     refine evTs_app (enc:=(AV.int .u64)) H (by rfl) (by first | rfl | simp only[List.length_set]) (by rfl) (by rfl) ?_<;>clear H<;>intro x8 H
     try simp only[↓wk,↓wl,nq,evV,↓reduceIte,sevalprocAttr]
     refine blkQ.norm ?_
     refine AW.rend ?_
     try simp only[↓wk,↓wl,nq,evV,↓reduceIte,sevalprocAttr]
     exact loopQ.next H ((Le.tz [2] [9,27,28,29] (by simp only[f28_L1c,rrm,↓wk,↓wl,evV,↓reduceIte,sevalprocAttr]<;>rfl)))
    ·refine AW.exit ?_
     refine seqQ.exit ?_
     refine loopQ.exit H ?_<;>clear H<;>intro H
     try dsimp only at H
     refine blk0.here ?_
     refine seqQ.norm ?_
     refine AW.rseq ?_
     try simp only[↓wk,↓wl,nq,evV,↓reduceIte,sevalprocAttr]
     refine AW.ret ?_
     cases H
     exact hQ _ _ _ _ (.inr rfl) (by simp only[resVs,omap,resV,↓wk,↓wl,nq,evV,↓reduceIte,sevalprocAttr];rfl) (hand_k (by rfl) (by rfl) (by simp) (enc_all _) (by rfl)) (by first | exact Or.inl rfl | exact Or.inr rfl)
theorem f28_im{x0:ReceiverReceiver}{x1:Int}{x2:Int}{r_:(List Int)×Int}(H:f28 x0 x1 x2=some r_):Pure Try.prog 28 [.agg [.sl 8 false (x0.fInputs.map eReceiverInput)],.int .i64 x1,.int .i64 x2] (· = .tup [.sl 0 false (r_.1.map (AV.int .u64)),.int .i64 r_.2]):=(f28_ok H).unfr (by first | exact enc_fits _ | simp only[frFits,List.all_cons,List.all_nil,enc_fits,Bool.and_self])
noncomputable def f54_L2(x0:NetworkSender)(x1:NetworkStream)(x2:Int):Lp (Int×(List NetworkPacket)×Int) ((List NetworkPacket)) where
  body:=fun (x3,x4,x5)=>(if (decide (x3<3))=true then (f84 x5).bind fun x6=>(f91 x0 (NetworkStream.mk x1.fUniverse x6 x1.fLast x1.fTimes x1.fSlots)).bind fun x7=>(app? 64 x4 ([(NetworkPacket.mk x7.fSource x7.fUniverse x7.fPriority x7.fSeq x7.fSync true x7.fSlots)])).bind fun x8=>(some (.next ((IntKind.i64.wrap (x3 + 1)),x8,x6))) else (some (.brk x4)))
  cst:=fun (x3,x4,x5)=>⟨put (put (put (put (put (put (put (put (fun _=>.junk) 26 (.int .i64 x3)) 22 (.int .i64 x2)) 21 (.int .i64 ((x0.fStreams.length:Nat):Int))) 20 (.sl 5 false (x0.fStreams.map eNetworkStream))) 10 (.ptr 3 0)) 8 (.row 7 2 0 x4.length)) 4 (.ptr 1 0)) 2 (.ptr 0 0),[.cel [.int .u64 x0.fSource,.int .i64 x0.fPriority,.int .i64 x0.fSync,.int .i64 x0.fPulse,.sl 5 false (x0.fStreams.map eNetworkStream)],.cel [.int .u64 0,.int .i64 0,.int .i64 0,.int .i64 0,.sl 5 true []],.els 7 (x4.map eNetworkPacket),.cel [.int .i64 x1.fUniverse,.int .i64 x5,.int .i64 x1.fLast,.int .i64 x1.fTimes,.str x1.fSlots]]⟩
theorem f54_L2c(x0:NetworkSender)(x1:NetworkStream)(x2:Int)(x3:Int)(x4:(List NetworkPacket))(x5:Int):(f54_L2 x0 x1 x2).cst (x3,x4,x5)=⟨put (put (put (put (put (put (put (put (fun _=>.junk) 26 (.int .i64 x3)) 22 (.int .i64 x2)) 21 (.int .i64 ((x0.fStreams.length:Nat):Int))) 20 (.sl 5 false (x0.fStreams.map eNetworkStream))) 10 (.ptr 3 0)) 8 (.row 7 2 0 x4.length)) 4 (.ptr 1 0)) 2 (.ptr 0 0),[.cel [.int .u64 x0.fSource,.int .i64 x0.fPriority,.int .i64 x0.fSync,.int .i64 x0.fPulse,.sl 5 false (x0.fStreams.map eNetworkStream)],.cel [.int .u64 0,.int .i64 0,.int .i64 0,.int .i64 0,.sl 5 true []],.els 7 (x4.map eNetworkPacket),.cel [.int .i64 x1.fUniverse,.int .i64 x5,.int .i64 x1.fLast,.int .i64 x1.fTimes,.str x1.fSlots]]⟩:=rfl
noncomputable def f54_L1(x0:NetworkSender):Lp (Int×(List NetworkPacket)) ((List NetworkPacket)) where
  body:=fun (x1,x2)=>(if (decide (x1<((x0.fStreams.length:Nat):Int)))=true then (at? x0.fStreams x1).bind fun x3=>(Lp.run (f54_L2 x0 x3 x1) (0,x2,x3.fSeq)).bind fun x4=>(some (.next ((IntKind.i64.wrap (x1 + 1)),x4))) else (some (.brk x2)))
  cst:=fun (x1,x2)=>⟨put (put (put (put (put (put (fun _=>.junk) 22 (.int .i64 x1)) 21 (.int .i64 ((x0.fStreams.length:Nat):Int))) 20 (.sl 5 false (x0.fStreams.map eNetworkStream))) 8 (.row 7 2 0 x2.length)) 4 (.ptr 1 0)) 2 (.ptr 0 0),[.cel [.int .u64 x0.fSource,.int .i64 x0.fPriority,.int .i64 x0.fSync,.int .i64 x0.fPulse,.sl 5 false (x0.fStreams.map eNetworkStream)],.cel [.int .u64 0,.int .i64 0,.int .i64 0,.int .i64 0,.sl 5 true []],.els 7 (x2.map eNetworkPacket)]⟩
theorem f54_L1c(x0:NetworkSender)(x1:Int)(x2:(List NetworkPacket)):(f54_L1 x0).cst (x1,x2)=⟨put (put (put (put (put (put (fun _=>.junk) 22 (.int .i64 x1)) 21 (.int .i64 ((x0.fStreams.length:Nat):Int))) 20 (.sl 5 false (x0.fStreams.map eNetworkStream))) 8 (.row 7 2 0 x2.length)) 4 (.ptr 1 0)) 2 (.ptr 0 0),[.cel [.int .u64 x0.fSource,.int .i64 x0.fPriority,.int .i64 x0.fSync,.int .i64 x0.fPulse,.sl 5 false (x0.fStreams.map eNetworkStream)],.cel [.int .u64 0,.int .i64 0,.int .i64 0,.int .i64 0,.sl 5 true []],.els 7 (x2.map eNetworkPacket)]⟩:=rfl
def c54_0:C:=.cond (.t 16) (.seq (.reg [iI 17 (.build [(1,(.int .u64 0)),(1,(.int .i64 0)),(1,(.int .i64 0)),(1,(.int .i64 0)),(1,(.sl 5 true []))] []),iI 18 (.mv (.t 7)),iN (.store 5 (.t 4) (.t 17)),iI 5 (.mv (.c (.sl 7 true []))),iI 6 (.mv (.t 18))]) .ret) (.skip)
def c54_1:C:=.seq (.reg [iI 15 (.mv (.t 7)),iI 16 (.bin .neq (.t 15) (.c (.int .i64 0)))]) c54_0
def c54_2:C:=.reg [iI 36 (.mv (.t 8)),iI 37 (.load 7 (.t 11)),iI 38 (.mkslp 7 1 (.agg [(.int .u64 0),(.int .i64 0),(.int .i64 0),(.int .i64 0),(.int .i64 0),(.bool false),(.str [])]) [(0,(.t 37))]),iI 39 (.append 7 64 (.t 36) (.t 38)),iI 8 (.mv (.t 39))]
def c54_3:C:=.seq (.reg [iI 35 (.faddr 5 (.t 11)),iN (.store 0 (.t 35) (.c (.bool true)))]) c54_2
def c54_4:C:=.seq (.reg [iI 32 (.load 5 (.t 2)),iI 33 (.load 5 (.t 10)),iI 34 (.call (.c (.fn 91 [])) [(.t 32),(.t 33)]),iI 11 (.alloc [(1,(.int .u64 0)),(1,(.int .i64 0)),(1,(.int .i64 0)),(1,(.int .i64 0)),(1,(.int .i64 0)),(1,(.bool false)),(1,(.str []))]),iN (.store 7 (.t 11) (.t 34))]) c54_3
def c54_5:C:=.reg [iI 40 (.bin .add (.t 26) (.c (.int .i64 1))),iI 26 (.mv (.t 40))]
def c54_6:C:=.seq (.block 3 (.seq (.reg [iI 28 (.faddr 1 (.t 10)),iI 29 (.load 0 (.t 28)),iI 30 (.call (.c (.fn 84 [])) [(.t 29)]),iI 31 (.faddr 1 (.t 10)),iN (.store 0 (.t 31) (.t 30))]) c54_4)) c54_5
def c54_7:C:=.seq (.cond (.t 27) (.skip) (.exit 2)) c54_6
def c54_8:C:=.block 2 (.loop (.seq (.reg [iI 27 (.bin .lss (.t 26) (.c (.int .i64 3)))]) c54_7))
def c54_9:C:=.seq (.reg [iI 26 (.mv (.c (.int .i64 0)))]) c54_8
def c54_10:C:=.reg [iI 41 (.bin .add (.t 22) (.c (.int .i64 1))),iI 22 (.mv (.t 41))]
def c54_11:C:=.seq (.block 1 (.seq (.reg [iI 24 (.iaddr 5 (.t 20) (.t 22)),iI 25 (.load 5 (.t 24)),iI 10 (.alloc [(1,(.int .i64 0)),(1,(.int .i64 0)),(1,(.int .i64 0)),(1,(.int .i64 0)),(1,(.str []))]),iN (.store 5 (.t 10) (.t 25))]) c54_9)) c54_10
def c54_12:C:=.seq (.cond (.t 23) (.skip) (.exit 0)) c54_11
def c54_13:C:=.block 0 (.loop (.seq (.reg [iI 23 (.bin .lss (.t 22) (.t 21))]) c54_12))
def c54_14:C:=.seq (.reg [iI 43 (.load 5 (.t 2)),iI 44 (.mv (.t 8)),iN (.store 5 (.t 4) (.t 43)),iI 5 (.mv (.t 44)),iI 6 (.mv (.c (.int .i64 0)))]) .ret
def c54_15:C:=.seq (.reg [iI 42 (.faddr 4 (.t 2)),iN (.store 0 (.t 42) (.c (.sl 5 true [])))]) c54_14
def c54_16:C:=.seq (.seq (.reg [iI 19 (.faddr 4 (.t 2)),iI 20 (.load 0 (.t 19)),iI 21 (.len 0 (.t 20)),iI 22 (.mv (.c (.int .i64 0)))]) c54_13) c54_15
def c54_17:C:=.seq (.reg [iI 8 (.mv (.c (.sl 7 true [])))]) c54_16
def c54_18:C:=.seq (.seq (.reg [iI 12 (.load 5 (.t 2)),iI 13 (.mv (.t 1)),iI 14 (.call (.c (.fn 79 [])) [(.t 12),(.t 13)]),iI 7 (.mv (.t 14))]) c54_1) c54_17
def ir54:C:=.seq (.reg [iI 2 (.box (.t 0)),iI 4 (.alloc [(1,(.int .u64 0)),(1,(.int .i64 0)),(1,(.int .i64 0)),(1,(.int .i64 0)),(1,(.sl 5 true []))]),iI 5 (.mv (.c (.sl 7 true []))),iI 6 (.mv (.c (.int .i64 0)))]) c54_18
theorem fd54:fd? Try.prog 54=some (45,[.cell 4 5,.slot 5,.slot 6],ir54):=by kernel_rfl
noncomputable def f54(x0:NetworkSender)(x1:Int):Option (NetworkSender×(List NetworkPacket)×Int) :=
  (f79 x0 x1).bind fun x2=>(if (decide (x2≠0))=true then (some ((NetworkSender.mk 0 0 0 0 ([])),[],x2)) else (Lp.run (f54_L1 x0) (0,[])).bind fun x3=>(some ((NetworkSender.mk x0.fSource x0.fPriority x0.fSync x0.fPulse ([])),x3,0)))
theorem f54_ok{x0:NetworkSender}{x1:Int}{r_:NetworkSender×(List NetworkPacket)×Int}(H:f54 x0 x1=some r_):Pure Try.prog 54 [.agg [.int .u64 x0.fSource,.int .i64 x0.fPriority,.int .i64 x0.fSync,.int .i64 x0.fPulse,.sl 5 false (x0.fStreams.map eNetworkStream)],.int .i64 x1] (· = .tup [.agg [.int .u64 r_.1.fSource,.int .i64 r_.1.fPriority,.int .i64 r_.1.fSync,.int .i64 r_.1.fPulse,.sl 5 false (r_.1.fStreams.map eNetworkStream)],.fr 7 (r_.2.1.map eNetworkPacket),.int .i64 r_.2.2]):=by
 refine Pure.walk3 fd54 (some 1) (Nat.le_of_ble_eq_true rfl) (by rfl) fun Q hQ=>?_
 simp only[f54] at H
 refine AW.rseq ?_
 try simp only[↓wk,↓wl,nq,evV,↓reduceIte,sevalprocAttr]
 refine AW.sseq ?_
 refine AW.rseq ?_
 try simp only[↓wk,↓wl,nq,evV,↓reduceIte,sevalprocAttr]
 refine evTs_pure hFn H (fun _ h=>f79_ok h) (by rfl) (by rfl) (by rfl) (by rfl) (fun _=>rfl) ?_<;>clear H<;>intro x2 H
 try simp only[eL,↓wk,↓wl,nq,evV,↓reduceIte,sevalprocAttr]
 refine AW.rseq ?_
 try simp only[↓wk,↓wl,nq,evV,↓reduceIte,sevalprocAttr]
 refine AW.ifc H (by rfl) ?_ ?_<;>clear H<;>intro H
 ·refine AW.rseq ?_
  try simp only[↓wk,↓wl,nq,evV,↓reduceIte,sevalprocAttr]
  refine AW.ret ?_
  refine seqQ.ret ?_
  cases H
  exact hQ _ _ _ _ (.inr rfl) (by simp only[resVs,omap,resV,↓wk,↓wl,nq,evV,↓reduceIte,sevalprocAttr];rfl) (hand_k0 (by rfl) (by rfl)) (by first | exact Or.inl rfl | exact Or.inr rfl)
 ·refine AW.skip ?_
  refine seqQ.norm ?_
  refine AW.rseq ?_
  try simp only[↓wk,↓wl,nq,evV,↓reduceIte,sevalprocAttr]
  refine AW.sseq ?_
  refine AW.rseq ?_
  try simp only[↓wk,↓wl,nq,evV,↓reduceIte,sevalprocAttr]
  refine AW.bend ?_
  refine AW.iter H ((Le.trans (Le.nilRow (i:=8) (e:=7) (by simp only[↓wk,↓wl,nq,evV,↓reduceIte,sevalprocAttr])) (Le.tz [0,1,2] [2,4,8,20,21,22] (by simp only[f54_L1c,rrm,↓wk,↓wl,evV,↓reduceIte,sevalprocAttr]<;>rfl)))) ?_<;>clear H
  rintro ⟨x3,x4⟩ x_ st0_ H hst_
  rw[f54_L1c] at hst_
  simp only[f54_L1] at H
  subst hst_
  refine AW.rseq ?_
  try simp only[↓wk,↓wl,nq,evV,↓reduceIte,sevalprocAttr]
  refine AW.sseq ?_
  refine AW.ifc H (by rfl) ?_ ?_<;>clear H<;>intro H
  ·refine AW.skip ?_
   refine seqQ.norm ?_
   refine AW.bseq ?_
   refine AW.rseq ?_
   try simp only[↓wk,↓wl,nq,evV,↓reduceIte,sevalprocAttr]
   refine evTs_at (enc:=eNetworkStream) H (by rfl) (by rfl) ?_<;>clear H<;>intro x5 H
   try simp only[eNetworkStream,eL,↓wk,↓wl,nq,evV,↓reduceIte,sevalprocAttr]
   refine AW.rseq ?_
   try simp only[↓wk,↓wl,nq,evV,↓reduceIte,sevalprocAttr]
   refine AW.bend ?_
   refine AW.iter H ((Le.tz [0,1,2,3] [2,4,8,10,20,21,22,26] (by simp only[f54_L2c,rrm,↓wk,↓wl,evV,↓reduceIte,sevalprocAttr]<;>rfl))) ?_<;>clear H
   rintro ⟨x6,x7,x8⟩ x_ st0_ H hst_
   rw[f54_L2c] at hst_
   simp only[f54_L2] at H
   subst hst_
   refine AW.rseq ?_
   try simp only[↓wk,↓wl,nq,evV,↓reduceIte,sevalprocAttr]
   refine AW.sseq ?_
   refine AW.ifc H (by rfl) ?_ ?_<;>clear H<;>intro H
   ·refine AW.skip ?_
    refine seqQ.norm ?_
    refine AW.bseq ?_
    refine AW.rseq ?_
    try simp only[↓wk,↓wl,nq,evV,↓reduceIte,sevalprocAttr]
    refine evTs_pure hFn H (fun _ h=>f84_ok h) (by rfl) (by rfl) (by rfl) (by rfl) (fun _=>rfl) ?_<;>clear H<;>intro x9 H
    try simp only[eL,↓wk,↓wl,nq,evV,↓reduceIte,sevalprocAttr]
    refine AW.rseq ?_
    try simp only[↓wk,↓wl,nq,evV,↓reduceIte,sevalprocAttr]
    refine evTs_pure hFn H (fun _ h=>f91_ok h) (by rfl) (by rfl) (by rfl) (by rfl) (fun _=>rfl) ?_<;>clear H<;>intro xa H
    try simp only[eL,eNetworkPacket,↓wk,↓wl,nq,evV,↓reduceIte,sevalprocAttr]
    refine AW.rseq ?_
    try simp only[↓wk,↓wl,nq,evV,↓reduceIte,sevalprocAttr]
    refine AW.rend ?_
    try simp only[↓wk,↓wl,nq,evV,↓reduceIte,sevalprocAttr]
    refine evTs_app (enc:=eNetworkPacket) H (by rfl) (by first | rfl | simp only[List.length_set]) (by rfl) (by rfl) ?_<;>clear H<;>intro xb H
    try simp only[↓wk,↓wl,nq,evV,↓reduceIte,sevalprocAttr]
    refine blkQ.norm ?_
    refine AW.rend ?_
    try simp only[↓wk,↓wl,nq,evV,↓reduceIte,sevalprocAttr]
    exact loopQ.next H ((Le.tz [0,1,5,3] [2,4,8,10,20,21,22,26] (by simp only[f54_L2c,rrm,↓wk,↓wl,evV,↓reduceIte,sevalprocAttr]<;>rfl)))
   ·refine AW.exit ?_
    refine seqQ.exit ?_
    refine loopQ.exit H ?_<;>clear H<;>intro H
    try dsimp only at H
    refine blk0.here ?_
    refine blkQ.norm ?_
    refine AW.rend ?_
    try simp only[↓wk,↓wl,nq,evV,↓reduceIte,sevalprocAttr]
    exact loopQ.next H ((Le.tz [0,1,2] [2,4,8,20,21,22] (by simp only[f54_L1c,rrm,↓wk,↓wl,evV,↓reduceIte,sevalprocAttr]<;>rfl)))
  ·refine AW.exit ?_
   refine seqQ.exit ?_
   refine loopQ.exit H ?_<;>clear H<;>intro H
   try dsimp only at H
   refine blk0.here ?_
   refine seqQ.norm ?_
   refine AW.rseq ?_
   try simp only[↓wk,↓wl,nq,evV,↓reduceIte,sevalprocAttr]
   refine AW.rseq ?_
   try simp only[↓wk,↓wl,nq,evV,↓reduceIte,sevalprocAttr]
   refine AW.ret ?_
   cases H
   exact hQ _ _ _ _ (.inr rfl) (by simp only[resVs,omap,resV,↓wk,↓wl,nq,evV,↓reduceIte,sevalprocAttr];rfl) (hand_k (by rfl) (by rfl) (by simp) (enc_all _) (by rfl)) (by first | exact Or.inl rfl | exact Or.inr rfl)
theorem f54_im{x0:NetworkSender}{x1:Int}{r_:NetworkSender×(List NetworkPacket)×Int}(H:f54 x0 x1=some r_):Pure Try.prog 54 [.agg [.int .u64 x0.fSource,.int .i64 x0.fPriority,.int .i64 x0.fSync,.int .i64 x0.fPulse,.sl 5 false (x0.fStreams.map eNetworkStream)],.int .i64 x1] (· = .tup [.agg [.int .u64 r_.1.fSource,.int .i64 r_.1.fPriority,.int .i64 r_.1.fSync,.int .i64 r_.1.fPulse,.sl 5 false (r_.1.fStreams.map eNetworkStream)],.sl 7 false (r_.2.1.map eNetworkPacket),.int .i64 r_.2.2]):=(f54_ok H).unfr (by first | exact enc_fits _ | simp only[frFits,List.all_cons,List.all_nil,enc_fits,Bool.and_self])
noncomputable def f13_J2(x0:ApiFrame)(x1:NetworkSender×(List NetworkPacket)×Int)(x2:(List ApiFrame))(x3:Arr2_110):Jn ((List NetworkPacket)) (Bool) where
  run:=fun x4=>(f51 (ReceiverReceiver.mk ([])) 10 x4 false).bind fun x5=>(f30 x5.1 20).bind fun x6=>(f28 x5.1 20 x0.fUniverse).bind fun x7=>(f54 x1.1 30).bind fun x8=>(if (!x5.2)=true then (some false) else (if (decide ((IntKind.i64.wrap ((IntKind.i64.wrap (x6.2 + x7.2)) + x8.2.2))≠0))=true then (some false) else (slc? x2 0 1).bind fun x9=>(f52 x6.1 x9).bind fun xa=>(if (!xa)=true then (some false) else (if (decide (((x7.1.length:Nat):Int)≠1))=true then (some false) else (at? x7.1 0).bind fun xb=>(if (decide (xb≠7))=true then (some false) else (f51 x5.1 30 x8.2.1 false).bind fun xc=>(f30 xc.1 40).bind fun xd=>(if xc.2=true then (if (decide (xd.2=0))=true then (f50 x0.fUniverse (IntKind.i64.wrap x3.fE0)).bind fun xe=>(f52 xd.1 ([xe])).bind fun xf=>(if xf=true then (f49).bind fun xg=>(some xg) else (some false)) else (some false)) else (some false)))))))
  cst:=fun x4=>⟨put (put (put (put (put (fun _=>.junk) 17 (.row 7 2 0 x4.length)) 8 (.ptr 1 0)) 7 (.int .i64 x0.fUniverse)) 4 (.ptr 0 0)) 0 (.sl 2 false (x2.map eApiFrame)),[.cel [.int .u8 x3.fE0,.int .u8 x3.fE1],.cel [.int .u64 x1.1.fSource,.int .i64 x1.1.fPriority,.int .i64 x1.1.fSync,.int .i64 x1.1.fPulse,.sl 5 false (x1.1.fStreams.map eNetworkStream)],.els 7 (x4.map eNetworkPacket)]⟩
theorem f13_J2c(x0:ApiFrame)(x1:NetworkSender×(List NetworkPacket)×Int)(x2:(List ApiFrame))(x3:Arr2_110)(x4:(List NetworkPacket)):(f13_J2 x0 x1 x2 x3).cst x4=⟨put (put (put (put (put (fun _=>.junk) 17 (.row 7 2 0 x4.length)) 8 (.ptr 1 0)) 7 (.int .i64 x0.fUniverse)) 4 (.ptr 0 0)) 0 (.sl 2 false (x2.map eApiFrame)),[.cel [.int .u8 x3.fE0,.int .u8 x3.fE1],.cel [.int .u64 x1.1.fSource,.int .i64 x1.1.fPriority,.int .i64 x1.1.fSync,.int .i64 x1.1.fPulse,.sl 5 false (x1.1.fStreams.map eNetworkStream)],.els 7 (x4.map eNetworkPacket)]⟩:=rfl
noncomputable def f13_J1(x0:NetworkSender×Int)(x1:NetworkSender×Int)(x2:NetworkSender×(List NetworkPacket)×Int)(x3:Bool)(x4:ApiFrame)(x5:(List ApiFrame))(x6:Arr2_110):Jn (Int×(List NetworkPacket)) (Bool) where
  run:=fun (x7,x8)=>(if (decide ((IntKind.i64.wrap ((IntKind.i64.wrap ((IntKind.i64.wrap (x0.2 + x1.2)) + x2.2.2)) + x7))≠0))=true then (some false) else (if x3=true then (dap? 64 x2.2.1 x8).bind fun _=>(app? 64 x8 x2.2.1).bind fun x9=>((f13_J2 x4 x2 x5 x6).run x9) else (app? 64 x2.2.1 x8).bind fun xa=>((f13_J2 x4 x2 x5 x6).run xa)))
  cst:=fun (x7,x8)=>⟨put (put (put (put (put (put (put (put (put (put (put (fun _=>.junk) 16 (.int .i64 x7)) 15 (.row 7 3 0 x8.length)) 13 (.int .i64 x2.2.2)) 12 (.row 7 2 0 x2.2.1.length)) 11 (.int .i64 x1.2)) 9 (.int .i64 x0.2)) 8 (.ptr 1 0)) 7 (.int .i64 x4.fUniverse)) 4 (.ptr 0 0)) 2 (.bool x3)) 0 (.sl 2 false (x5.map eApiFrame)),[.cel [.int .u8 x6.fE0,.int .u8 x6.fE1],.cel [.int .u64 x2.1.fSource,.int .i64 x2.1.fPriority,.int .i64 x2.1.fSync,.int .i64 x2.1.fPulse,.sl 5 false (x2.1.fStreams.map eNetworkStream)],.els 7 (x2.2.1.map eNetworkPacket),.els 7 (x8.map eNetworkPacket)]⟩
theorem f13_J1c(x0:NetworkSender×Int)(x1:NetworkSender×Int)(x2:NetworkSender×(List NetworkPacket)×Int)(x3:Bool)(x4:ApiFrame)(x5:(List ApiFrame))(x6:Arr2_110)(x7:Int)(x8:(List NetworkPacket)):(f13_J1 x0 x1 x2 x3 x4 x5 x6).cst (x7,x8)=⟨put (put (put (put (put (put (put (put (put (put (put (fun _=>.junk) 16 (.int .i64 x7)) 15 (.row 7 3 0 x8.length)) 13 (.int .i64 x2.2.2)) 12 (.row 7 2 0 x2.2.1.length)) 11 (.int .i64 x1.2)) 9 (.int .i64 x0.2)) 8 (.ptr 1 0)) 7 (.int .i64 x4.fUniverse)) 4 (.ptr 0 0)) 2 (.bool x3)) 0 (.sl 2 false (x5.map eApiFrame)),[.cel [.int .u8 x6.fE0,.int .u8 x6.fE1],.cel [.int .u64 x2.1.fSource,.int .i64 x2.1.fPriority,.int .i64 x2.1.fSync,.int .i64 x2.1.fPulse,.sl 5 false (x2.1.fStreams.map eNetworkStream)],.els 7 (x2.2.1.map eNetworkPacket),.els 7 (x8.map eNetworkPacket)]⟩:=rfl
def c13_0:C:=.cond (.t 31) (.seq (.reg [iI 32 (.call (.c (.fn 49 [])) []),iI 6 (.mv (.t 32))]) .ret) (.skip)
def c13_1:C:=.cond (.t 74) (.seq (.reg [iI 6 (.mv (.c (.bool false)))]) .ret) (.skip)
def c13_2:C:=.cond (.t 78) (.reg [iI 79 (.mv (.t 15)),iI 80 (.mv (.t 12)),iI 81 (.append 7 64 (.t 79) (.t 80)),iI 17 (.mv (.t 81))]) (.skip)
def c13_3:C:=.cond (.t 132) (.seq (.reg [iI 6 (.mv (.c (.bool false)))]) .ret) (.skip)
def c13_4:C:=.seq (.reg [iI 144 (.mv (.t 19)),iI 145 (.mv (.t 144)),iG (some 146) 145 true (.mv (.t 9)),iG (some 147) 145 true (.bin .eql (.t 146) (.c (.int .i64 0))),iI 148 (.pick (.t 145) (.t 147) (.c (.bool false))),iI 149 (.mv (.t 148)),iG (some 150) 149 true (.mv (.t 20)),iG (some 151) 149 true (.mv (.t 7)),iG (some 152) 149 true (.aiaddr 0 2 (.t 4) (.c (.int .i64 0))),iG (some 153) 149 true (.load 0 (.t 152)),iG (some 154) 149 true (.cint .i64 (.t 153)),iG (some 155) 149 true (.call (.c (.fn 50 [])) [(.t 151),(.t 154)]),iG (some 156) 149 true (.mkslp 2 1 (.agg [(.int .i64 0),(.str [])]) [(0,(.t 155))]),iG (some 157) 149 true (.call (.c (.fn 52 [])) [(.t 150),(.t 156)]),iI 158 (.pick (.t 149) (.t 157) (.c (.bool false))),iI 159 (.mv (.t 158)),iG (some 160) 159 true (.call (.c (.fn 49 [])) []),iI 161 (.pick (.t 159) (.t 160) (.c (.bool false))),iI 6 (.mv (.t 161))]) .ret
def c13_5:C:=.seq (.reg [iI 140 (.load 1 (.t 18)),iI 141 (.call (.c (.fn 30 [])) [(.t 140),(.c (.int .i64 40))]),iI 139 (.mv (.t 141)),iI 142 (.ext (.t 139) 0),iI 143 (.ext (.t 139) 1),iI 20 (.mv (.t 142)),iI 9 (.mv (.t 143))]) c13_4
def c13_6:C:=.seq (.reg [iI 134 (.load 1 (.t 18)),iI 135 (.mv (.t 23)),iI 136 (.call (.c (.fn 51 [])) [(.t 134),(.c (.int .i64 30)),(.t 135),(.c (.bool false))]),iI 133 (.mv (.t 136)),iI 137 (.ext (.t 133) 0),iI 138 (.ext (.t 133) 1),iN (.store 1 (.t 18) (.t 137)),iI 19 (.mv (.t 138))]) c13_5
def c13_7:C:=.seq (.seq (.reg [iI 105 (.mv (.t 19)),iI 106 (.un .not (.t 105)),iI 107 (.mv (.t 106)),iG (some 108) 107 false (.mv (.t 9)),iG (some 109) 107 false (.mv (.t 11)),iG (some 110) 107 false (.bin .add (.t 108) (.t 109)),iG (some 111) 107 false (.mv (.t 13)),iG (some 112) 107 false (.bin .add (.t 110) (.t 111)),iG (some 113) 107 false (.bin .neq (.t 112) (.c (.int .i64 0))),iI 114 (.pick (.t 107) (.c (.bool true)) (.t 113)),iI 115 (.mv (.t 114)),iG (some 116) 115 false (.mv (.t 20)),iG (some 117) 115 false (.mv (.t 0)),iG (some 118) 115 false (.slice 2 (.t 117) none (some (.c (.int .i64 1)))),iG (some 119) 115 false (.call (.c (.fn 52 [])) [(.t 116),(.t 118)]),iG (some 120) 115 false (.un .not (.t 119)),iI 121 (.pick (.t 115) (.c (.bool true)) (.t 120)),iI 122 (.mv (.t 121)),iG (some 123) 122 false (.mv (.t 21)),iG (some 124) 122 false (.len 0 (.t 123)),iG (some 125) 122 false (.bin .neq (.t 124) (.c (.int .i64 1))),iI 126 (.pick (.t 122) (.c (.bool true)) (.t 125)),iI 127 (.mv (.t 126)),iG (some 128) 127 false (.mv (.t 21)),iG (some 129) 127 false (.iaddr 0 (.t 128) (.c (.int .i64 0))),iG (some 130) 127 false (.load 0 (.t 129)),iG (some 131) 127 false (.bin .neq (.t 130) (.c (.int .u64 7))),iI 132 (.pick (.t 127) (.c (.bool true)) (.t 131))]) c13_3) c13_6
def c13_8:C:=.seq (.reg [iI 100 (.load 5 (.t 8)),iI 101 (.call (.c (.fn 54 [])) [(.t 100),(.c (.int .i64 30))]),iI 99 (.mv (.t 101)),iI 102 (.ext (.t 99) 0),iI 103 (.ext (.t 99) 1),iI 104 (.ext (.t 99) 2),iI 22 (.alloc [(1,(.int .u64 0)),(1,(.int .i64 0)),(1,(.int .i64 0)),(1,(.int .i64 0)),(1,(.sl 5 true []))]),iN (.store 5 (.t 22) (.t 102)),iI 23 (.mv (.t 103)),iI 13 (.mv (.t 104))]) c13_7
def c13_9:C:=.seq (.reg [iI 94 (.load 1 (.t 18)),iI 95 (.mv (.t 7)),iI 96 (.call (.c (.fn 28 [])) [(.t 94),(.c (.int .i64 20)),(.t 95)]),iI 93 (.mv (.t 96)),iI 97 (.ext (.t 93) 0),iI 98 (.ext (.t 93) 1),iI 21 (.mv (.t 97)),iI 11 (.mv (.t 98))]) c13_8
def c13_10:C:=.seq (.reg [iI 89 (.load 1 (.t 18)),iI 90 (.call (.c (.fn 30 [])) [(.t 89),(.c (.int .i64 20))]),iI 88 (.mv (.t 90)),iI 91 (.ext (.t 88) 0),iI 92 (.ext (.t 88) 1),iI 20 (.mv (.t 91)),iI 9 (.mv (.t 92))]) c13_9
def c13_11:C:=.seq (.reg [iI 83 (.build [(1,(.sl 8 true []))] []),iI 84 (.mv (.t 17)),iI 85 (.call (.c (.fn 51 [])) [(.t 83),(.c (.int .i64 10)),(.t 84),(.c (.bool false))]),iI 82 (.mv (.t 85)),iI 86 (.ext (.t 82) 0),iI 87 (.ext (.t 82) 1),iI 18 (.alloc [(1,(.sl 8 true []))]),iN (.store 1 (.t 18) (.t 86)),iI 19 (.mv (.t 87))]) c13_10
def c13_12:C:=.seq (.seq (.reg [iI 78 (.mv (.t 2))]) c13_2) c13_11
def c13_13:C:=.seq (.reg [iI 75 (.mv (.t 12)),iI 76 (.mv (.t 15)),iI 77 (.append 7 64 (.t 75) (.t 76)),iI 17 (.mv (.t 77))]) c13_12
def c13_14:C:=.seq (.seq (.reg [iI 67 (.mv (.t 9)),iI 68 (.mv (.t 11)),iI 69 (.bin .add (.t 67) (.t 68)),iI 70 (.mv (.t 13)),iI 71 (.bin .add (.t 69) (.t 70)),iI 72 (.mv (.t 16)),iI 73 (.bin .add (.t 71) (.t 72)),iI 74 (.bin .neq (.t 73) (.c (.int .i64 0)))]) c13_1) c13_13
def c13_15:C:=.seq (.regt (.fork [iI 56 (.load 5 (.t 10)),iI 57 (.mv (.t 7)),iI 58 (.aiaddr 0 2 (.t 4) (.c (.int .i64 0))),iI 59 (.load 0 (.t 58)),iI 60 (.cint .i64 (.t 59))] (.fork [iI 61 (.call (.c (.fn 50 [])) [(.t 57),(.t 60)]),iI 62 (.mkslp 2 1 (.agg [(.int .i64 0),(.str [])]) [(0,(.t 61))])] (.run [iI 63 (.call (.c (.fn 43 [])) [(.t 56),(.c (.int .i64 0)),(.t 62)]),iI 55 (.mv (.t 63)),iI 64 (.ext (.t 55) 0),iI 65 (.ext (.t 55) 1),iI 66 (.ext (.t 55) 2),iI 14 (.alloc [(1,(.int .u64 0)),(1,(.int .i64 0)),(1,(.int .i64 0)),(1,(.int .i64 0)),(1,(.sl 5 true []))]),iN (.store 5 (.t 14) (.t 64)),iI 15 (.mv (.t 65)),iI 16 (.mv (.t 66))]) (.run [iI 14 (.alloc [(1,(.int .u64 0)),(1,(.int .i64 0)),(1,(.int .i64 0)),(1,(.int .i64 0)),(1,(.sl 5 true []))]),iI 63 (.call (.c (.fn 43 [])) [(.t 56),(.c (.int .i64 0)),(.t 62)]),iI 55 (.mv (.t 63)),iI 64 (.ext (.t 55) 0),iI 65 (.ext (.t 55) 1),iI 66 (.ext (.t 55) 2),iN (.store 5 (.t 14) (.t 64)),iI 15 (.mv (.t 65)),iI 16 (.mv (.t 66))])) (.run [iI 14 (.alloc [(1,(.int .u64 0)),(1,(.int .i64 0)),(1,(.int .i64 0)),(1,(.int .i64 0)),(1,(.sl 5 true []))]),iI 61 (.call (.c (.fn 50 [])) [(.t 57),(.t 60)]),iI 62 (.mkslp 2 1 (.agg [(.int .i64 0),(.str [])]) [(0,(.t 61))]),iI 63 (.call (.c (.fn 43 [])) [(.t 56),(.c (.int .i64 0)),(.t 62)]),iI 55 (.mv (.t 63)),iI 64 (.ext (.t 55) 0),iI 65 (.ext (.t 55) 1),iI 66 (.ext (.t 55) 2),iN (.store 5 (.t 14) (.t 64)),iI 15 (.mv (.t 65)),iI 16 (.mv (.t 66))]))) c13_14
def c13_16:C:=.seq (.reg [iI 46 (.load 5 (.t 8)),iI 47 (.mv (.t 0)),iI 48 (.iaddr 2 (.t 47) (.c (.int .i64 0))),iI 49 (.load 2 (.t 48)),iI 50 (.mkslp 2 1 (.agg [(.int .i64 0),(.str [])]) [(0,(.t 49))]),iI 51 (.call (.c (.fn 43 [])) [(.t 46),(.c (.int .i64 0)),(.t 50)]),iI 45 (.mv (.t 51)),iI 52 (.ext (.t 45) 0),iI 53 (.ext (.t 45) 1),iI 54 (.ext (.t 45) 2),iN (.store 5 (.t 8) (.t 52)),iI 12 (.mv (.t 53)),iI 13 (.mv (.t 54))]) c13_15
def c13_17:C:=.seq (.reg [iI 42 (.call (.c (.fn 42 [])) [(.c (.int .u64 8)),(.c (.int .i64 100)),(.c (.int .i64 0))]),iI 41 (.mv (.t 42)),iI 43 (.ext (.t 41) 0),iI 44 (.ext (.t 41) 1),iI 10 (.alloc [(1,(.int .u64 0)),(1,(.int .i64 0)),(1,(.int .i64 0)),(1,(.int .i64 0)),(1,(.sl 5 true []))]),iN (.store 5 (.t 10) (.t 43)),iI 11 (.mv (.t 44))]) c13_16
def c13_18:C:=.seq (.reg [iI 38 (.call (.c (.fn 42 [])) [(.c (.int .u64 7)),(.c (.int .i64 150)),(.c (.int .i64 0))]),iI 37 (.mv (.t 38)),iI 39 (.ext (.t 37) 0),iI 40 (.ext (.t 37) 1),iI 8 (.alloc [(1,(.int .u64 0)),(1,(.int .i64 0)),(1,(.int .i64 0)),(1,(.int .i64 0)),(1,(.sl 5 true []))]),iN (.store 5 (.t 8) (.t 39)),iI 9 (.mv (.t 40))]) c13_17
def c13_19:C:=.seq (.reg [iI 33 (.mv (.t 0)),iI 34 (.iaddr 2 (.t 33) (.c (.int .i64 0))),iI 35 (.faddr 0 (.t 34)),iI 36 (.load 0 (.t 35)),iI 7 (.mv (.t 36))]) c13_18
def c13_20:C:=.seq (.seq (.reg [iI 24 (.mv (.t 0)),iI 25 (.call (.c (.fn 53 [])) [(.t 24)]),iI 26 (.un .not (.t 25)),iI 27 (.mv (.t 26)),iG (some 28) 27 false (.mv (.t 0)),iG (some 29) 27 false (.len 0 (.t 28)),iG (some 30) 27 false (.bin .eql (.t 29) (.c (.int .i64 0))),iI 31 (.pick (.t 27) (.c (.bool true)) (.t 30))]) c13_0) c13_19
def ir13:C:=.seq (.reg [iI 4 (.box (.t 1)),iI 6 (.mv (.c (.bool false)))]) c13_20
theorem fd13:fd? Try.prog 13=some (162,[.slot 6],ir13):=by kernel_rfl
noncomputable def f13(x0:(List ApiFrame))(x1:Arr2_110)(x2:Bool):Option (Bool) :=
  (f53 x0).bind fun x3=>(if (!x3)=true then (f49).bind fun x4=>(some x4) else (if (decide (((x0.length:Nat):Int)=0))=true then (f49).bind fun x5=>(some x5) else (at? x0 0).bind fun x6=>(f42 7 150 0).bind fun x7=>(f42 8 100 0).bind fun x8=>(at? x0 0).bind fun x9=>(f43 x7.1 0 ([x9])).bind fun xa=>(f50 x6.fUniverse (IntKind.i64.wrap x1.fE0)).bind fun xb=>(f43 x8.1 0 ([xb])).bind fun xc=>((f13_J1 x7 x8 xa x2 x6 x0 x1).run (xc.2.2,xc.2.1))))
theorem f13_ok{x0:(List ApiFrame)}{x1:Arr2_110}{x2:Bool}{r_:Bool}(H:f13 x0 x1 x2=some r_):Pure Try.prog 13 [.sl 2 false (x0.map eApiFrame),.agg [.int .u8 x1.fE0,.int .u8 x1.fE1],.bool x2] (· = .bool r_):=by
 refine Pure.walk3 fd13 none (Nat.le_of_ble_eq_true rfl) (by rfl) fun Q hQ=>?_
 simp only[f13] at H
 refine AW.rseq ?_
 try simp only[↓wk,↓wl,nq,evV,↓reduceIte,sevalprocAttr]
 refine AW.sseq ?_
 refine AW.rseq ?_
 try simp only[↓wk,↓wl,nq,evV,↓reduceIte,sevalprocAttr]
 refine evTs_pure hFn H (fun _ h=>f53_ok h) (by rfl) (by rfl) (by rfl) (by rfl) (fun _=>rfl) ?_<;>clear H<;>intro x3 H
 try simp only[eL,↓wk,↓wl,nq,evV,↓reduceIte,sevalprocAttr]
 refine evTs_ifg H (by rfl) ?_ ?_<;>clear H<;>intro H
 ·try simp only[↓wk,↓wl,nq,evV,↓reduceIte,sevalprocAttr]
  refine AW.ift (by rfl) ?_
  refine AW.rseq ?_
  try simp only[↓wk,↓wl,nq,evV,↓reduceIte,sevalprocAttr]
  refine evTs_pure hFn H (fun _ h=>f49_ok h) (by rfl) (by rfl) (by rfl) (by rfl) (fun _=>rfl) ?_<;>clear H<;>intro x4 H
  try simp only[eL,↓wk,↓wl,nq,evV,↓reduceIte,sevalprocAttr]
  refine AW.ret ?_
  refine seqQ.ret ?_
  cases H
  exact hQ.fin
 ·try simp only[↓wk,↓wl,nq,evV,↓reduceIte,sevalprocAttr]
  refine AW.ifc H (by rfl) ?_ ?_<;>clear H<;>intro H
  ·refine AW.rseq ?_
   try simp only[↓wk,↓wl,nq,evV,↓reduceIte,sevalprocAttr]
   refine evTs_pure hFn H (fun _ h=>f49_ok h) (by rfl) (by rfl) (by rfl) (by rfl) (fun _=>rfl) ?_<;>clear H<;>intro x5 H
   try simp only[eL,↓wk,↓wl,nq,evV,↓reduceIte,sevalprocAttr]
   refine AW.ret ?_
   refine seqQ.ret ?_
   cases H
   exact hQ.fin
  ·refine AW.skip ?_
   refine seqQ.norm ?_
   refine AW.rseq ?_
   try simp only[↓wk,↓wl,nq,evV,↓reduceIte,sevalprocAttr]
   refine evTs_at (enc:=eApiFrame) H (by rfl) (by rfl) ?_<;>clear H<;>intro x6 H
   try simp only[eApiFrame,eL,↓wk,↓wl,nq,evV,↓reduceIte,sevalprocAttr]
   refine AW.rseq ?_
   try simp only[↓wk,↓wl,nq,evV,↓reduceIte,sevalprocAttr]
   refine evTs_pure hFn H (fun _ h=>f42_ok h) (by rfl) (by rfl) (by rfl) (by rfl) (fun _=>rfl) ?_<;>clear H<;>intro x7 H
   try simp only[eL,eNetworkSender,↓wk,↓wl,nq,evV,↓reduceIte,sevalprocAttr]
   refine AW.rseq ?_
   try simp only[↓wk,↓wl,nq,evV,↓reduceIte,sevalprocAttr]
   refine evTs_pure hFn H (fun _ h=>f42_ok h) (by rfl) (by rfl) (by rfl) (by rfl) (fun _=>rfl) ?_<;>clear H<;>intro x8 H
   try simp only[eL,eNetworkSender,↓wk,↓wl,nq,evV,↓reduceIte,sevalprocAttr]
   refine AW.rseq ?_
   try simp only[↓wk,↓wl,nq,evV,↓reduceIte,sevalprocAttr]
   refine evTs_at (enc:=eApiFrame) H (by rfl) (by rfl) ?_<;>clear H<;>intro x9 H
   try simp only[eApiFrame,eL,↓wk,↓wl,nq,evV,↓reduceIte,sevalprocAttr]
   refine evTs_fr H (fun _ h=>f43_ok h) (by rfl) (by rfl) (by rfl) (by rfl) (fun _=>rfl) ?_<;>clear H<;>intro xa H
   try simp only[eL,eNetworkSender,↓wk,↓wl,nq,evV,↓reduceIte,sevalprocAttr]
   refine AW.join (f13_J1 x7 x8 xa x2 x6 x0 x1) H ?_ fun hf13_J1=>?_
   ·clear H
    rintro ⟨xb,xc⟩ st0_ H hst_
    rw[f13_J1c] at hst_
    simp only[f13_J1] at H
    subst hst_
    refine AW.sseq ?_
    refine AW.rseq ?_
    try simp only[↓wk,↓wl,nq,evV,↓reduceIte,sevalprocAttr]
    refine AW.ifc H (by rfl) ?_ ?_<;>clear H<;>intro H
    ·refine AW.rseq ?_
     try simp only[↓wk,↓wl,nq,evV,↓reduceIte,sevalprocAttr]
     refine AW.ret ?_
     refine seqQ.ret ?_
     cases H
     exact hQ.fin
    ·refine AW.skip ?_
     refine seqQ.norm ?_
     refine AW.join2 (f13_J2 x6 xa x0 x1) H ?_ fun hf13_J2=>?_
     ·clear H
      rintro xd st0_ H hst_
      rw[f13_J2c] at hst_
      simp only[f13_J2] at H
      subst hst_
      refine AW.rseq ?_
      try simp only[↓wk,↓wl,nq,evV,↓reduceIte,sevalprocAttr]
      refine evTs_frz (args:=[.agg [.sl 8 true []],.int .i64 10,.row 7 2 0 xd.length,.bool false]) (h1:=[.cel [.int .u8 x1.fE0,.int .u8 x1.fE1],.cel [.int .u64 xa.1.fSource,.int .i64 xa.1.fPriority,.int .i64 xa.1.fSync,.int .i64 xa.1.fPulse,.sl 5 false (xa.1.fStreams.map eNetworkStream)],.dead]) H (fun _ h=>f51_ok h) (by rfl) (by rfl) (freeze_rows (by rfl) (by simp only[deep_eq,imm_simps,imm_rowE,imm_ptrE,imm_enc,omap_simps,take_map_len,take_map_set,take_map_set2,List.length_set,le_refl_true,Nat.zero_add,and_true,true_and,List.drop_zero,Option.map_some,↓wk,↓wl,nq,evV,↓reduceIte,sevalprocAttr];try rfl) (by show kill _ (visit _ (11 + 1) _)=_;rw[visit_tup_cons,visit_pl (by rfl),visit_tup_cons,visit_pl (by rfl),visit_tup_cons,visit_rowE (enc:=eNetworkPacket) (by rfl),visit_tup_cons,visit_pl (by rfl),visit_tup_nil];try rfl)) (by rfl) (fun _=>by rfl) (fun _=>rfl) ?_<;>clear H<;>intro xe H
      try simp only[eL,eReceiverReceiver,↓wk,↓wl,nq,evV,↓reduceIte,sevalprocAttr]
      refine AW.rseq ?_
      try simp only[↓wk,↓wl,nq,evV,↓reduceIte,sevalprocAttr]
      refine evTs_pure hFn H (fun _ h=>f30_im h) (by rfl) (by rfl) (by rfl) (by rfl) (fun _=>rfl) ?_<;>clear H<;>intro xf H
      try simp only[eL,↓wk,↓wl,nq,evV,↓reduceIte,sevalprocAttr]
      refine AW.rseq ?_
      try simp only[↓wk,↓wl,nq,evV,↓reduceIte,sevalprocAttr]
      refine evTs_pure hFn H (fun _ h=>f28_im h) (by rfl) (by rfl) (by rfl) (by rfl) (fun _=>rfl) ?_<;>clear H<;>intro xg H
      try simp only[eL,↓wk,↓wl,nq,evV,↓reduceIte,sevalprocAttr]
      refine AW.rseq ?_
      try simp only[↓wk,↓wl,nq,evV,↓reduceIte,sevalprocAttr]
      refine evTs_pure hFn H (fun _ h=>f54_im h) (by rfl) (by rfl) (by rfl) (by rfl) (fun _=>rfl) ?_<;>clear H<;>intro xh H
      try simp only[eL,eNetworkSender,↓wk,↓wl,nq,evV,↓reduceIte,sevalprocAttr]
      refine AW.sseq ?_
      refine AW.rseq ?_
      try simp only[↓wk,↓wl,nq,evV,↓reduceIte,sevalprocAttr]
      refine evTs_ifg H (by rfl) ?_ ?_<;>clear H<;>intro H
      ·try simp only[↓wk,↓wl,nq,evV,↓reduceIte,sevalprocAttr]
       refine AW.ift (by rfl) ?_
       refine AW.rseq ?_
       try simp only[↓wk,↓wl,nq,evV,↓reduceIte,sevalprocAttr]
       refine AW.ret ?_
       refine seqQ.ret ?_
       cases H
       exact hQ.fin
      ·try simp only[↓wk,↓wl,nq,evV,↓reduceIte,sevalprocAttr]
       refine evTs_ifg H (by rfl) ?_ ?_<;>clear H<;>intro H
       ·try simp only[↓wk,↓wl,nq,evV,↓reduceIte,sevalprocAttr]
        refine AW.ift (by rfl) ?_
        refine AW.rseq ?_
        try simp only[↓wk,↓wl,nq,evV,↓reduceIte,sevalprocAttr]
        refine AW.ret ?_
        refine seqQ.ret ?_
        cases H
        exact hQ.fin
       ·try simp only[↓wk,↓wl,nq,evV,↓reduceIte,sevalprocAttr]
        refine evTs_slc (enc:=eApiFrame) H (by rfl) (by rfl) (by simp only[loI,hiI,↓wk,↓wl,nq,evV,↓reduceIte,sevalprocAttr];rfl) (by simp only[loI,hiI,↓wk,↓wl,nq,evV,↓reduceIte,sevalprocAttr];rfl) ?_<;>clear H<;>intro xi H
        try simp only[↓wk,↓wl,nq,evV,↓reduceIte,sevalprocAttr]
        refine evTs_pure hFn H (fun _ h=>f52_ok h) (by rfl) (by rfl) (by rfl) (by rfl) (fun _=>rfl) ?_<;>clear H<;>intro xj H
        try simp only[eL,↓wk,↓wl,nq,evV,↓reduceIte,sevalprocAttr]
        refine evTs_ifg H (by rfl) ?_ ?_<;>clear H<;>intro H
        ·try simp only[↓wk,↓wl,nq,evV,↓reduceIte,sevalprocAttr]
         refine AW.ift (by rfl) ?_
         refine AW.rseq ?_
         try simp only[↓wk,↓wl,nq,evV,↓reduceIte,sevalprocAttr]
         refine AW.ret ?_
         refine seqQ.ret ?_
         cases H
         exact hQ.fin
        ·try simp only[↓wk,↓wl,nq,evV,↓reduceIte,sevalprocAttr]
         refine evTs_ifg H (by rfl) ?_ ?_<;>clear H<;>intro H
         ·try simp only[↓wk,↓wl,nq,evV,↓reduceIte,sevalprocAttr]
          refine AW.ift (by rfl) ?_
          refine AW.rseq ?_
          try simp only[↓wk,↓wl,nq,evV,↓reduceIte,sevalprocAttr]
          refine AW.ret ?_
          refine seqQ.ret ?_
          cases H
          exact hQ.fin
         ·try simp only[↓wk,↓wl,nq,evV,↓reduceIte,sevalprocAttr]
          refine evTs_at (enc:=(AV.int .u64)) H (by rfl) (by rfl) ?_<;>clear H<;>intro xk H
          try simp only[↓wk,↓wl,nq,evV,↓reduceIte,sevalprocAttr]
          refine AW.ifc H (by rfl) ?_ ?_<;>clear H<;>intro H
          ·refine AW.rseq ?_
           try simp only[↓wk,↓wl,nq,evV,↓reduceIte,sevalprocAttr]
           refine AW.ret ?_
           refine seqQ.ret ?_
           cases H
           exact hQ.fin
          ·refine AW.skip ?_
           refine seqQ.norm ?_
           refine AW.rseq ?_
           try simp only[↓wk,↓wl,nq,evV,↓reduceIte,sevalprocAttr]
           refine evTs_pure hFn H (fun _ h=>f51_ok h) (by rfl) (by rfl) (by rfl) (by rfl) (fun _=>rfl) ?_<;>clear H<;>intro xl H
           try simp only[eL,eReceiverReceiver,↓wk,↓wl,nq,evV,↓reduceIte,sevalprocAttr]
           refine AW.rseq ?_
           try simp only[↓wk,↓wl,nq,evV,↓reduceIte,sevalprocAttr]
           refine evTs_pure hFn H (fun _ h=>f30_im h) (by rfl) (by rfl) (by rfl) (by rfl) (fun _=>rfl) ?_<;>clear H<;>intro xm H
           try simp only[eL,↓wk,↓wl,nq,evV,↓reduceIte,sevalprocAttr]
           refine AW.rseq ?_
           try simp only[↓wk,↓wl,nq,evV,↓reduceIte,sevalprocAttr]
           refine evTs_ifg H (by rfl) ?_ ?_<;>clear H<;>intro H
           ·try simp only[↓wk,↓wl,nq,evV,↓reduceIte,sevalprocAttr]
            refine evTs_ifg H (by rfl) ?_ ?_<;>clear H<;>intro H
            ·try simp only[↓wk,↓wl,nq,evV,↓reduceIte,sevalprocAttr]
             refine evTs_any (v:=.ptr 0 0) rfl (by rfl) ?_
             try simp only[↓wk,↓wl,nq,evV,↓reduceIte,sevalprocAttr]
             refine evTs_pure hFn H (fun _ h=>f50_ok h) (by rfl) (by rfl) (by rfl) (by rfl) (fun _=>rfl) ?_<;>clear H<;>intro xn H
             try simp only[eL,eApiFrame,↓wk,↓wl,nq,evV,↓reduceIte,sevalprocAttr]
             refine evTs_pure hFn H (fun _ h=>f52_ok h) (by rfl) (by rfl) (by rfl) (by rfl) (fun _=>rfl) ?_<;>clear H<;>intro xo H
             try simp only[eL,↓wk,↓wl,nq,evV,↓reduceIte,sevalprocAttr]
             refine evTs_ifg H (by rfl) ?_ ?_<;>clear H<;>intro H
             ·try simp only[↓wk,↓wl,nq,evV,↓reduceIte,sevalprocAttr]
              refine evTs_pure hFn H (fun _ h=>f49_ok h) (by rfl) (by rfl) (by rfl) (by rfl) (fun _=>rfl) ?_<;>clear H<;>intro xp H
              try simp only[eL,↓wk,↓wl,nq,evV,↓reduceIte,sevalprocAttr]
              refine AW.ret ?_
              cases H
              exact hQ.fin
             ·try simp only[↓wk,↓wl,nq,evV,↓reduceIte,sevalprocAttr]
              refine AW.ret ?_
              cases H
              exact hQ.fin
            ·try simp only[↓wk,↓wl,nq,evV,↓reduceIte,sevalprocAttr]
             refine AW.ret ?_
             cases H
             exact hQ.fin
           ·try simp only[↓wk,↓wl,nq,evV,↓reduceIte,sevalprocAttr]
            refine AW.ret ?_
            cases H
            exact hQ.fin
     ·cases x2
      ·replace H:=ifF H
       refine AW.weaken (Le.frz 15 (enc:=eNetworkPacket) (by rfl) (by rfl) (by rfl)) ?_
       try simp only[↓wk,↓wl,nq,evV,↓reduceIte,sevalprocAttr]
       refine AW.rseq ?_
       try simp only[↓wk,↓wl,nq,evV,↓reduceIte,sevalprocAttr]
       refine evTs_app (enc:=eNetworkPacket) H (by rfl) (by first | rfl | simp only[List.length_set]) (by rfl) (by rfl) ?_<;>clear H<;>intro xq H
       try simp only[↓wk,↓wl,nq,evV,↓reduceIte,sevalprocAttr]
       refine AW.sseq ?_
       refine AW.rseq ?_
       try simp only[↓wk,↓wl,nq,evV,↓reduceIte,sevalprocAttr]
       refine AW.iff (by rfl) ?_
       refine AW.skip ?_
       refine seqQ.norm ?_
       exact hf13_J2 _ _ H ((Le.tz [0,1,4] [0,4,7,8,17] (by simp only[f13_J2c,rrm,↓wk,↓wl,evV,↓reduceIte,sevalprocAttr]<;>rfl)))
      ·replace H:=ifT H
       refine AW.dapp (enc:=eNetworkPacket) H (by decide) (by rfl) (by rfl) (by rfl) (by rfl) (by rfl) (by rfl) (by decide) ?_<;>clear H<;>intro H
       try simp only[↓wk,↓wl,nq,evV,↓reduceIte,sevalprocAttr]
       refine AW.weaken (Le.frz 12 (enc:=eNetworkPacket) (by rfl) (by rfl) (by rfl)) ?_
       try simp only[↓wk,↓wl,nq,evV,↓reduceIte,sevalprocAttr]
       refine AW.sseq ?_
       refine AW.rseq ?_
       try simp only[↓wk,↓wl,nq,evV,↓reduceIte,sevalprocAttr]
       refine AW.ift (by rfl) ?_
       refine AW.rend ?_
       try simp only[↓wk,↓wl,nq,evV,↓reduceIte,sevalprocAttr]
       refine evTs_app (enc:=eNetworkPacket) H (by rfl) (by first | rfl | simp only[List.length_set]) (by rfl) (by rfl) ?_<;>clear H<;>intro xr H
       try simp only[↓wk,↓wl,nq,evV,↓reduceIte,sevalprocAttr]
       refine seqQ.norm ?_
       exact hf13_J2 _ _ H ((Le.tz [0,1,6] [0,4,7,8,17] (by simp only[f13_J2c,rrm,↓wk,↓wl,evV,↓reduceIte,sevalprocAttr]<;>rfl)))
   ·refine AW.regtG (by rfl) ?_
    refine evR.fork ?_
    try simp only[↓wk,↓wl,nq,evV,↓reduceIte,sevalprocAttr]
    refine evTs_any (v:=.ptr 0 0) rfl (by rfl) ?_
    try simp only[↓wk,↓wl,nq,evV,↓reduceIte,sevalprocAttr]
    refine evR.both ?_ ?_
    ·refine evR.fork ?_
     try simp only[↓wk,↓wl,nq,evV,↓reduceIte,sevalprocAttr]
     refine evTs_pure hFng H (fun _ h=>f50_ok h) (by rfl) (by rfl) (by rfl) (by rfl) (fun _=>rfl) ?_<;>clear H<;>intro xs H
     try simp only[eL,eApiFrame,↓wk,↓wl,nq,evV,↓reduceIte,sevalprocAttr]
     refine evR.both ?_ ?_
     ·refine evR.run ?_
      try simp only[↓wk,↓wl,nq,evV,↓reduceIte,sevalprocAttr]
      refine evTs_frc H (fun _ h=>f43_ok h) (by rfl) (by rfl) (by rfl) (by rfl) (fun _=>rfl) ?_<;>clear H<;>intro xt H
      try simp only[eL,eNetworkSender,↓wk,↓wl,nq,evV,↓reduceIte,sevalprocAttr]
      refine seqQ.norm ?_
      exact hf13_J1 _ _ H ((Le.tz [0,1,3,4] [0,2,4,7,8,9,11,12,13,15,16] (by simp only[f13_J1c,rrm,↓wk,↓wl,evV,↓reduceIte,sevalprocAttr]<;>rfl)))
     ·refine evR.run ?_
      try simp only[↓wk,↓wl,nq,evV,↓reduceIte,sevalprocAttr]
      refine evTs_frc H (fun _ h=>f43_ok h) (by rfl) (by rfl) (by rfl) (by rfl) (fun _=>rfl) ?_<;>clear H<;>intro xt H
      try simp only[eL,eNetworkSender,↓wk,↓wl,nq,evV,↓reduceIte,sevalprocAttr]
      refine seqQ.norm ?_
      exact hf13_J1 _ _ H ((Le.tz [0,1,3,5] [0,2,4,7,8,9,11,12,13,15,16] (by simp only[f13_J1c,rrm,↓wk,↓wl,evV,↓reduceIte,sevalprocAttr]<;>rfl)))
    ·refine evR.run ?_
     try simp only[↓wk,↓wl,nq,evV,↓reduceIte,sevalprocAttr]
     refine evTs_pure hFng H (fun _ h=>f50_ok h) (by rfl) (by rfl) (by rfl) (by rfl) (fun _=>rfl) ?_<;>clear H<;>intro xs H
     try simp only[eL,eApiFrame,↓wk,↓wl,nq,evV,↓reduceIte,sevalprocAttr]
     refine evTs_frc H (fun _ h=>f43_ok h) (by rfl) (by rfl) (by rfl) (by rfl) (fun _=>rfl) ?_<;>clear H<;>intro xt H
     try simp only[eL,eNetworkSender,↓wk,↓wl,nq,evV,↓reduceIte,sevalprocAttr]
     refine seqQ.norm ?_
     exact hf13_J1 _ _ H ((Le.tz [0,1,3,5] [0,2,4,7,8,9,11,12,13,15,16] (by simp only[f13_J1c,rrm,↓wk,↓wl,evV,↓reduceIte,sevalprocAttr]<;>rfl)))
end Go.Proofs.Ytgfohogbechkkaa
