import Derived.Test.YtgfohogbechkkaaYC2
import Derived.Test.YtgfohogbechkkaaM6
import Derived.Test.YtgfohogbechkkaaProg
import Derived.KernelRfl
namespace Go.Proofs.Ytgfohogbechkkaa
open Go Go.Ab

set_option maxHeartbeats 1000000
set_option maxRecDepth 4000
set_option linter.unusedSimpArgs false
set_option linter.unusedVariables false
theorem f137_ok {x0 : (List UInt8)} {x1 : Int} {r_ : Int × Int × Int} (H : f137 x0 x1 = some r_) : Pure Try.prog 137 [.str x0, .int .i64 x1] (· = .tup [.int .i64 r_.1, .int .i64 r_.2.1, .int .i64 r_.2.2]) := by
 refine Pure.walk3 fd137 none (Nat.le_of_ble_eq_true rfl) (by rfl) fun Q hQ => ?_
 simp only [f137] at H
 refine AW.rseq ?_
 try simp only [↓wk, ↓wl, nq, evV, ↓reduceIte, sevalprocAttr]
 refine AW.rseq ?_
 try simp only [↓wk, ↓wl, nq, evV, ↓reduceIte, sevalprocAttr]
 refine AW.sseq ?_
 refine AW.rseq ?_
 try simp only [↓wk, ↓wl, nq, evV, ↓reduceIte, sevalprocAttr]
 refine evTs_flat hFn H (fun _ h => f161p_ok h) (by rfl) (by rfl) (by simp only [deep_eq, imm_simps, imm_rowE, imm_ptrE, imm_enc, omap_simps, take_map_len, take_map_set, take_map_set2, le_refl_true, Nat.zero_add, and_true, true_and, List.drop_zero, Option.map_some, ↓wk, ↓wl, nq, evV, ↓reduceIte, sevalprocAttr]; rfl) (by rfl) (fun _ => rfl) (fun _ => rfl) ?_ <;> clear H <;> intro x2 H
 try simp only [eL, ↓wk, ↓wl, nq, evV, ↓reduceIte, sevalprocAttr]
 refine AW.rseq ?_
 try simp only [↓wk, ↓wl, nq, evV, ↓reduceIte, sevalprocAttr]
 refine AW.ifc H (by rfl) ?_ ?_ <;> clear H <;> intro H
 ·refine AW.rseq ?_
  try simp only [↓wk, ↓wl, nq, evV, ↓reduceIte, sevalprocAttr]
  refine AW.ret ?_
  refine seqQ.ret ?_
  cases H
  exact hQ.fin
 ·refine AW.skip ?_
  refine seqQ.norm ?_
  refine AW.rseq ?_
  try simp only [↓wk, ↓wl, nq, evV, ↓reduceIte, sevalprocAttr]
  refine evTs_inl (I := f137_C1 x0 x1) (args := [.ptr 0 0]) H (by rfl) fd164 (by rfl) (Nat.le_of_ble_eq_true rfl) ?_ ?_ <;> clear H
  ·rintro v_ Q_ H hqf137_C1
   simp only [f137_C1] at H
   dsimp only [List.length_cons, List.length_nil]
   refine AW.rseq ?_
   try simp only [↓wk, ↓wl, nq, evV, ↓reduceIte, sevalprocAttr]
   refine AW.scope ?_
   refine AW.rseq ?_
   try simp only [↓wk, ↓wl, nq, evV, ↓reduceIte, sevalprocAttr]
   refine AW.skseq ?_
   refine AW.sseq ?_
   refine AW.rseq ?_
   try simp only [↓wk, ↓wl, nq, evV, ↓reduceIte, sevalprocAttr]
   refine AW.bend ?_
   refine AW.iter H ((Le.tq 1 [0] [0, 4, 5] (by simp only [f137_L2c, rrm, ↓wk, ↓wl, evV, ↓reduceIte, sevalprocAttr] <;> rfl))) ?_ <;> clear H
   rintro ⟨x3, x4, x5⟩ x_ st0_ H hst_
   rw [f137_L2c] at hst_
   simp only [f137_L2] at H
   subst hst_
   refine AW.bseq ?_
   refine AW.sseq ?_
   refine AW.rseq ?_
   try simp only [↓wk, ↓wl, nq, evV, ↓reduceIte, sevalprocAttr]
   refine evTs_flat hFn H (fun _ h => f162p_ok h) (by rfl) (by rfl) (by simp only [deep_eq, imm_simps, imm_rowE, imm_ptrE, imm_enc, omap_simps, take_map_len, take_map_set, take_map_set2, le_refl_true, Nat.zero_add, and_true, true_and, List.drop_zero, Option.map_some, ↓wk, ↓wl, nq, evV, ↓reduceIte, sevalprocAttr]; rfl) (by rfl) (fun _ => rfl) (fun _ => rfl) ?_ <;> clear H <;> intro x6 H
   try simp only [eL, ↓wk, ↓wl, nq, evV, ↓reduceIte, sevalprocAttr]
   refine AW.ifc H (by rfl) ?_ ?_ <;> clear H <;> intro H
   ·refine AW.rseq ?_
    try simp only [↓wk, ↓wl, nq, evV, ↓reduceIte, sevalprocAttr]
    refine AW.ret ?_
    refine seqQ.ret ?_
    refine blkQ.ret ?_
    refine loopQ.ret H ?_ <;> clear H <;> intro H
    try dsimp only at H
    refine blk0.ret ?_
    refine seqQ.ret ?_
    cases H
    exact hqf137_C1 _ _ _ (.inr rfl) (Le.tq 1 [0] [2, 3] rfl) (by simp only [resVs, omap, resV, f137_C1, rrm, ↓wk, ↓wl, evV, ↓reduceIte, sevalprocAttr]) (by simp only [f137_C1, rrm, ↓wk, ↓wl, evV, ↓reduceIte, sevalprocAttr])
   ·refine AW.skip ?_
    refine seqQ.norm ?_
    refine AW.rseq ?_
    try simp only [↓wk, ↓wl, nq, evV, ↓reduceIte, sevalprocAttr]
    refine evTs_inl (I := f137_C3 x0 x5) (args := [.ptr 0 0, .int .i64 1]) H (by rfl) fd163 (by rfl) (Nat.le_of_ble_eq_true rfl) ?_ ?_ <;> clear H
    ·rintro v_ Q_ H hqf137_C3
     simp only [f137_C3] at H
     dsimp only [List.length_cons, List.length_nil]
     refine AW.rseq ?_
     try simp only [↓wk, ↓wl, nq, evV, ↓reduceIte, sevalprocAttr]
     refine AW.rseq ?_
     try simp only [↓wk, ↓wl, nq, evV, ↓reduceIte, sevalprocAttr]
     refine AW.rseq ?_
     try simp only [↓wk, ↓wl, nq, evV, ↓reduceIte, sevalprocAttr]
     refine evTs_sslc H (by rfl) (by simp only [loI, hiI, ↓wk, ↓wl, nq, evV, ↓reduceIte, sevalprocAttr]; rfl) (by simp only [loI, hiI, ↓wk, ↓wl, nq, evV, ↓reduceIte, sevalprocAttr]; rfl) ?_ <;> clear H <;> intro x7 H
     try simp only [↓wk, ↓wl, nq, evV, ↓reduceIte, sevalprocAttr]
     refine AW.ret ?_
     cases H
     exact hqf137_C3 _ _ _ (.inr rfl) (Le.tq 1 [0] [4] rfl) (by simp only [resVs, omap, resV, f137_C3, rrm, ↓wk, ↓wl, evV, ↓reduceIte, sevalprocAttr]) (by simp only [f137_C3, rrm, ↓wk, ↓wl, evV, ↓reduceIte, sevalprocAttr])
    ·rintro ⟨x8, x9⟩ s_ h_ H hs_ hh_
     simp only [f137_C3] at H hs_ hh_
     subst hs_
     subst hh_
     try simp only [↓wk, ↓wl, nq, evV, ↓reduceIte, sevalprocAttr]
     refine evTs_sat H (by rfl) (by rfl) ?_ <;> clear H <;> intro xa H
     try simp only [↓wk, ↓wl, nq, evV, ↓reduceIte, sevalprocAttr]
     refine AW.rseq ?_
     try simp only [↓wk, ↓wl, nq, evV, ↓reduceIte, sevalprocAttr]
     refine rest_and ?_
     try simp only [↓wk, ↓wl, nq, evV, ↓reduceIte, sevalprocAttr]
     refine rest_shlv H ?_ <;> clear H <;> intro H
     try simp only [↓wk, ↓wl, nq, evV, ↓reduceIte, sevalprocAttr]
     refine rest_or ?_
     try simp only [↓wk, ↓wl, nq, evV, ↓reduceIte, sevalprocAttr]
     refine AW.bend ?_
     refine AW.sseq ?_
     refine AW.rseq ?_
     try simp only [↓wk, ↓wl, nq, evV, ↓reduceIte, sevalprocAttr]
     refine evTs_ifg H (by rfl) ?_ ?_ <;> clear H <;> intro H
     ·try simp only [↓wk, ↓wl, nq, evV, ↓reduceIte, sevalprocAttr]
      refine AW.ifc H (by rfl) ?_ ?_ <;> clear H <;> intro H
      ·refine AW.skip ?_
       refine seqQ.norm ?_
       refine AW.ifc H (by rfl) ?_ ?_ <;> clear H <;> intro H
       ·refine AW.rseq ?_
        try simp only [↓wk, ↓wl, nq, evV, ↓reduceIte, sevalprocAttr]
        refine AW.ret ?_
        refine blk0.ret ?_
        refine blkQ.ret ?_
        refine loopQ.ret H ?_ <;> clear H <;> intro H
        try dsimp only at H
        refine blk0.ret ?_
        refine seqQ.ret ?_
        cases H
        exact hqf137_C1 _ _ _ (.inr rfl) (Le.tq 1 [0] [2, 3] rfl) (by simp only [resVs, omap, resV, f137_C1, rrm, ↓wk, ↓wl, evV, ↓reduceIte, sevalprocAttr]) (by simp only [f137_C1, rrm, ↓wk, ↓wl, evV, ↓reduceIte, sevalprocAttr])
       ·refine AW.rseq ?_
        try simp only [↓wk, ↓wl, nq, evV, ↓reduceIte, sevalprocAttr]
        refine AW.ifc H (by rfl) ?_ ?_ <;> clear H <;> intro H
        ·refine AW.exit ?_
         refine blk0.out (by rfl) ?_
         refine blkQ.out (by rfl) ?_
         refine loopQ.exit H ?_ <;> clear H <;> intro H
         try dsimp only at H
         refine blk0.here ?_
         refine seqQ.norm ?_
         refine AW.rseq ?_
         try simp only [↓wk, ↓wl, nq, evV, ↓reduceIte, sevalprocAttr]
         refine rest_shr (by decide) ?_
         try simp only [↓wk, ↓wl, nq, evV, ↓reduceIte, sevalprocAttr]
         refine rest_and ?_
         try simp only [↓wk, ↓wl, nq, evV, ↓reduceIte, sevalprocAttr]
         refine rest_xor ?_
         try simp only [↓wk, ↓wl, nq, evV, ↓reduceIte, sevalprocAttr]
         refine AW.ret ?_
         cases H
         exact hqf137_C1 _ _ _ (.inr rfl) (Le.tq 1 [0] [2, 3] rfl) (by simp only [resVs, omap, resV, f137_C1, rrm, ↓wk, ↓wl, evV, ↓reduceIte, sevalprocAttr]) (by simp only [f137_C1, rrm, ↓wk, ↓wl, evV, ↓reduceIte, sevalprocAttr])
        ·refine AW.skip ?_
         refine blk0.norm ?_
         refine blkQ.norm ?_
         refine AW.rend ?_
         try simp only [↓wk, ↓wl, nq, evV, ↓reduceIte, sevalprocAttr]
         exact loopQ.next H ((Le.tq 1 [0] [0, 4, 5] (by simp only [f137_L2c, rrm, ↓wk, ↓wl, evV, ↓reduceIte, sevalprocAttr] <;> rfl)))
      ·refine AW.rend ?_
       try simp only [↓wk, ↓wl, nq, evV, ↓reduceIte, sevalprocAttr]
       refine evTs_ifg H (by rfl) ?_ ?_ <;> clear H <;> intro H
       ·try simp only [↓wk, ↓wl, nq, evV, ↓reduceIte, sevalprocAttr]
        refine seqQ.norm ?_
        refine AW.ifc H (by rfl) ?_ ?_ <;> clear H <;> intro H
        ·refine AW.rseq ?_
         try simp only [↓wk, ↓wl, nq, evV, ↓reduceIte, sevalprocAttr]
         refine AW.ret ?_
         refine blk0.ret ?_
         refine blkQ.ret ?_
         refine loopQ.ret H ?_ <;> clear H <;> intro H
         try dsimp only at H
         refine blk0.ret ?_
         refine seqQ.ret ?_
         cases H
         exact hqf137_C1 _ _ _ (.inr rfl) (Le.tq 1 [0] [2, 3] rfl) (by simp only [resVs, omap, resV, f137_C1, rrm, ↓wk, ↓wl, evV, ↓reduceIte, sevalprocAttr]) (by simp only [f137_C1, rrm, ↓wk, ↓wl, evV, ↓reduceIte, sevalprocAttr])
        ·refine AW.rseq ?_
         try simp only [↓wk, ↓wl, nq, evV, ↓reduceIte, sevalprocAttr]
         refine AW.ifc H (by rfl) ?_ ?_ <;> clear H <;> intro H
         ·refine AW.exit ?_
          refine blk0.out (by rfl) ?_
          refine blkQ.out (by rfl) ?_
          refine loopQ.exit H ?_ <;> clear H <;> intro H
          try dsimp only at H
          refine blk0.here ?_
          refine seqQ.norm ?_
          refine AW.rseq ?_
          try simp only [↓wk, ↓wl, nq, evV, ↓reduceIte, sevalprocAttr]
          refine rest_shr (by decide) ?_
          try simp only [↓wk, ↓wl, nq, evV, ↓reduceIte, sevalprocAttr]
          refine rest_and ?_
          try simp only [↓wk, ↓wl, nq, evV, ↓reduceIte, sevalprocAttr]
          refine rest_xor ?_
          try simp only [↓wk, ↓wl, nq, evV, ↓reduceIte, sevalprocAttr]
          refine AW.ret ?_
          cases H
          exact hqf137_C1 _ _ _ (.inr rfl) (Le.tq 1 [0] [2, 3] rfl) (by simp only [resVs, omap, resV, f137_C1, rrm, ↓wk, ↓wl, evV, ↓reduceIte, sevalprocAttr]) (by simp only [f137_C1, rrm, ↓wk, ↓wl, evV, ↓reduceIte, sevalprocAttr])
         ·refine AW.skip ?_
          refine blk0.norm ?_
          refine blkQ.norm ?_
          refine AW.rend ?_
          try simp only [↓wk, ↓wl, nq, evV, ↓reduceIte, sevalprocAttr]
          exact loopQ.next H ((Le.tq 1 [0] [0, 4, 5] (by simp only [f137_L2c, rrm, ↓wk, ↓wl, evV, ↓reduceIte, sevalprocAttr] <;> rfl)))
       ·try simp only [↓wk, ↓wl, nq, evV, ↓reduceIte, sevalprocAttr]
        refine seqQ.norm ?_
        refine AW.iff (by rfl) ?_
        refine AW.rseq ?_
        try simp only [↓wk, ↓wl, nq, evV, ↓reduceIte, sevalprocAttr]
        refine AW.ifc H (by rfl) ?_ ?_ <;> clear H <;> intro H
        ·refine AW.exit ?_
         refine blk0.out (by rfl) ?_
         refine blkQ.out (by rfl) ?_
         refine loopQ.exit H ?_ <;> clear H <;> intro H
         try dsimp only at H
         refine blk0.here ?_
         refine seqQ.norm ?_
         refine AW.rseq ?_
         try simp only [↓wk, ↓wl, nq, evV, ↓reduceIte, sevalprocAttr]
         refine rest_shr (by decide) ?_
         try simp only [↓wk, ↓wl, nq, evV, ↓reduceIte, sevalprocAttr]
         refine rest_and ?_
         try simp only [↓wk, ↓wl, nq, evV, ↓reduceIte, sevalprocAttr]
         refine rest_xor ?_
         try simp only [↓wk, ↓wl, nq, evV, ↓reduceIte, sevalprocAttr]
         refine AW.ret ?_
         cases H
         exact hqf137_C1 _ _ _ (.inr rfl) (Le.tq 1 [0] [2, 3] rfl) (by simp only [resVs, omap, resV, f137_C1, rrm, ↓wk, ↓wl, evV, ↓reduceIte, sevalprocAttr]) (by simp only [f137_C1, rrm, ↓wk, ↓wl, evV, ↓reduceIte, sevalprocAttr])
        ·refine AW.skip ?_
         refine blk0.norm ?_
         refine blkQ.norm ?_
         refine AW.rend ?_
         try simp only [↓wk, ↓wl, nq, evV, ↓reduceIte, sevalprocAttr]
         exact loopQ.next H ((Le.tq 1 [0] [0, 4, 5] (by simp only [f137_L2c, rrm, ↓wk, ↓wl, evV, ↓reduceIte, sevalprocAttr] <;> rfl)))
     ·try simp only [↓wk, ↓wl, nq, evV, ↓reduceIte, sevalprocAttr]
      refine AW.iff (by rfl) ?_
      refine AW.rend ?_
      try simp only [↓wk, ↓wl, nq, evV, ↓reduceIte, sevalprocAttr]
      refine evTs_ifg H (by rfl) ?_ ?_ <;> clear H <;> intro H
      ·try simp only [↓wk, ↓wl, nq, evV, ↓reduceIte, sevalprocAttr]
       refine seqQ.norm ?_
       refine AW.ifc H (by rfl) ?_ ?_ <;> clear H <;> intro H
       ·refine AW.rseq ?_
        try simp only [↓wk, ↓wl, nq, evV, ↓reduceIte, sevalprocAttr]
        refine AW.ret ?_
        refine blk0.ret ?_
        refine blkQ.ret ?_
        refine loopQ.ret H ?_ <;> clear H <;> intro H
        try dsimp only at H
        refine blk0.ret ?_
        refine seqQ.ret ?_
        cases H
        exact hqf137_C1 _ _ _ (.inr rfl) (Le.tq 1 [0] [2, 3] rfl) (by simp only [resVs, omap, resV, f137_C1, rrm, ↓wk, ↓wl, evV, ↓reduceIte, sevalprocAttr]) (by simp only [f137_C1, rrm, ↓wk, ↓wl, evV, ↓reduceIte, sevalprocAttr])
       ·refine AW.rseq ?_
        try simp only [↓wk, ↓wl, nq, evV, ↓reduceIte, sevalprocAttr]
        refine AW.ifc H (by rfl) ?_ ?_ <;> clear H <;> intro H
        ·refine AW.exit ?_
         refine blk0.out (by rfl) ?_
         refine blkQ.out (by rfl) ?_
         refine loopQ.exit H ?_ <;> clear H <;> intro H
         try dsimp only at H
         refine blk0.here ?_
         refine seqQ.norm ?_
         refine AW.rseq ?_
         try simp only [↓wk, ↓wl, nq, evV, ↓reduceIte, sevalprocAttr]
         refine rest_shr (by decide) ?_
         try simp only [↓wk, ↓wl, nq, evV, ↓reduceIte, sevalprocAttr]
         refine rest_and ?_
         try simp only [↓wk, ↓wl, nq, evV, ↓reduceIte, sevalprocAttr]
         refine rest_xor ?_
         try simp only [↓wk, ↓wl, nq, evV, ↓reduceIte, sevalprocAttr]
         refine AW.ret ?_
         cases H
         exact hqf137_C1 _ _ _ (.inr rfl) (Le.tq 1 [0] [2, 3] rfl) (by simp only [resVs, omap, resV, f137_C1, rrm, ↓wk, ↓wl, evV, ↓reduceIte, sevalprocAttr]) (by simp only [f137_C1, rrm, ↓wk, ↓wl, evV, ↓reduceIte, sevalprocAttr])
        ·refine AW.skip ?_
         refine blk0.norm ?_
         refine blkQ.norm ?_
         refine AW.rend ?_
         try simp only [↓wk, ↓wl, nq, evV, ↓reduceIte, sevalprocAttr]
         exact loopQ.next H ((Le.tq 1 [0] [0, 4, 5] (by simp only [f137_L2c, rrm, ↓wk, ↓wl, evV, ↓reduceIte, sevalprocAttr] <;> rfl)))
      ·try simp only [↓wk, ↓wl, nq, evV, ↓reduceIte, sevalprocAttr]
       refine seqQ.norm ?_
       refine AW.iff (by rfl) ?_
       refine AW.rseq ?_
       try simp only [↓wk, ↓wl, nq, evV, ↓reduceIte, sevalprocAttr]
       refine AW.ifc H (by rfl) ?_ ?_ <;> clear H <;> intro H
       ·refine AW.exit ?_
        refine blk0.out (by rfl) ?_
        refine blkQ.out (by rfl) ?_
        refine loopQ.exit H ?_ <;> clear H <;> intro H
        try dsimp only at H
        refine blk0.here ?_
        refine seqQ.norm ?_
        refine AW.rseq ?_
        try simp only [↓wk, ↓wl, nq, evV, ↓reduceIte, sevalprocAttr]
        refine rest_shr (by decide) ?_
        try simp only [↓wk, ↓wl, nq, evV, ↓reduceIte, sevalprocAttr]
        refine rest_and ?_
        try simp only [↓wk, ↓wl, nq, evV, ↓reduceIte, sevalprocAttr]
        refine rest_xor ?_
        try simp only [↓wk, ↓wl, nq, evV, ↓reduceIte, sevalprocAttr]
        refine AW.ret ?_
        cases H
        exact hqf137_C1 _ _ _ (.inr rfl) (Le.tq 1 [0] [2, 3] rfl) (by simp only [resVs, omap, resV, f137_C1, rrm, ↓wk, ↓wl, evV, ↓reduceIte, sevalprocAttr]) (by simp only [f137_C1, rrm, ↓wk, ↓wl, evV, ↓reduceIte, sevalprocAttr])
       ·refine AW.skip ?_
        refine blk0.norm ?_
        refine blkQ.norm ?_
        refine AW.rend ?_
        try simp only [↓wk, ↓wl, nq, evV, ↓reduceIte, sevalprocAttr]
        exact loopQ.next H ((Le.tq 1 [0] [0, 4, 5] (by simp only [f137_L2c, rrm, ↓wk, ↓wl, evV, ↓reduceIte, sevalprocAttr] <;> rfl)))
  ·rintro ⟨xb, xc, xd⟩ s_ h_ H hs_ hh_
   simp only [f137_C1] at H hs_ hh_
   subst hs_
   subst hh_
   try simp only [↓wk, ↓wl, nq, evV, ↓reduceIte, sevalprocAttr]
   refine AW.sseq ?_
   refine AW.rseq ?_
   try simp only [↓wk, ↓wl, nq, evV, ↓reduceIte, sevalprocAttr]
   refine AW.ifc H (by rfl) ?_ ?_ <;> clear H <;> intro H
   ·refine AW.rseq ?_
    try simp only [↓wk, ↓wl, nq, evV, ↓reduceIte, sevalprocAttr]
    refine AW.ret ?_
    refine seqQ.ret ?_
    cases H
    exact hQ.fin
   ·refine AW.skip ?_
    refine seqQ.norm ?_
    refine AW.rseq ?_
    try simp only [↓wk, ↓wl, nq, evV, ↓reduceIte, sevalprocAttr]
    refine AW.ret ?_
    cases H
    exact hQ.fin
def c165_0 : C := .cond (.t 22) (.seq (.reg [iI 2 (.mv (.c (.str []))), iI 3 (.mv (.c (.int .i64 20)))]) .ret) (.skip)
def c165_1 : C := .cond (.t 15) (.seq (.reg [iI 2 (.mv (.c (.str []))), iI 3 (.mv (.c (.int .i64 3)))]) .ret) (.seq (.reg [iI 23 (.mv (.t 0)), iI 24 (.mv (.t 4)), iI 25 (.call (.c (.fn 162 [])) [(.t 23), (.t 24)]), iI 26 (.un .not (.t 25)), iI 22 (.mv (.t 26))]) c165_0)
def c165_2 : C := .cond (.t 11) (.seq (.reg [iI 14 (.mv (.t 5)), iI 2 (.mv (.c (.str []))), iI 3 (.mv (.t 14))]) .ret) (.seq (.reg [iI 16 (.mv (.t 4)), iI 17 (.bin .lss (.t 16) (.c (.int .i64 0))), iI 18 (.mv (.t 17)), iG (some 19) 18 false (.mv (.t 4)), iG (some 20) 18 false (.bin .gtr (.t 19) (.c (.int .i64 65535))), iI 21 (.pick (.t 18) (.c (.bool true)) (.t 20)), iI 15 (.mv (.t 21))]) c165_1)
def c165_3 : C := .seq (.reg [iI 27 (.mv (.t 0)), iI 28 (.mv (.t 4)), iI 29 (.call (.c (.fn 163 [])) [(.t 27), (.t 28)]), iI 2 (.mv (.t 29)), iI 3 (.mv (.c (.int .i64 0)))]) .ret
def c165_4 : C := .seq (.block 0 (.seq (.reg [iI 12 (.mv (.t 5)), iI 13 (.bin .neq (.t 12) (.c (.int .i64 0))), iI 11 (.mv (.t 13))]) c165_2)) c165_3
def c165_5 : C := .seq (.reg [iI 7 (.mv (.t 0)), iI 8 (.call (.c (.fn 164 [])) [(.t 7)]), iI 6 (.mv (.t 8)), iI 9 (.ext (.t 6) 0), iI 10 (.ext (.t 6) 1), iI 4 (.mv (.t 9)), iI 5 (.mv (.t 10))]) c165_4
def ir165 : C := .seq (.reg [iI 2 (.mv (.c (.str []))), iI 3 (.mv (.c (.int .i64 0)))]) c165_5
theorem fd165 : fd? Try.prog 165 = some (30, [.slot 2, .slot 3], ir165) := by kernel_rfl
noncomputable def f138_C4 (x0 : (List UInt8)) (x1 : Int) : Il ((List UInt8) × Int) where
  run := (slc? x0 (IntKind.i64.wrap ((IntKind.i64.wrap (x1 + 1)) - 1)) (IntKind.i64.wrap (x1 + 1))).bind fun x2 => (some (x2, (IntKind.i64.wrap (x1 + 1))))
  res := fun (x3, x4) => .str x3
  hp := fun (x3, x4) => [.cel [.str x0, .int .i64 x4]]
noncomputable def f138_L3 (x0 : (List UInt8)) : Lp (Int × Int × Int) ((Int × Int) ⊕ (Int × Int)) where
  body := fun (x1, x2, x3) => (f162p x0 x3 1).bind fun x4 => (if (!x4) = true then (some (.brk (Sum.inr (x3, 20)))) else ((f138_C4 x0 x3).run.bind fun (x5, x6) => (at? x5 0).bind fun x7 => (must? (0 ≤ x2)).bind fun _ => (if (decide (x2 = 63)) = true then (if (decide (1 < (x7.toNat : Int))) = true then (if (decide (1 < (x7.toNat : Int))) = true then (some (.brk (Sum.inr (x6, 3)))) else (if (decide ((x7.toNat : Int) < 128)) = true then (some (.brk (Sum.inl ((IntKind.u64.wrap ((BitVec.ofInt (IntKind.bits .u64) x1 ||| BitVec.ofInt (IntKind.bits .u64) (IntKind.u64.wrap ((IntKind.u64.wrap (IntKind.u8.wrap ((BitVec.ofInt (IntKind.bits .u8) (x7.toNat : Int) &&& BitVec.ofInt (IntKind.bits .u8) 127).toNat : Int))) * 2 ^ (min (Int.toNat x2) (IntKind.bits .u64))))).toNat : Int)), x6)))) else (some (.next ((IntKind.u64.wrap ((BitVec.ofInt (IntKind.bits .u64) x1 ||| BitVec.ofInt (IntKind.bits .u64) (IntKind.u64.wrap ((IntKind.u64.wrap (IntKind.u8.wrap ((BitVec.ofInt (IntKind.bits .u8) (x7.toNat : Int) &&& BitVec.ofInt (IntKind.bits .u8) 127).toNat : Int))) * 2 ^ (min (Int.toNat x2) (IntKind.bits .u64))))).toNat : Int)), (IntKind.i64.wrap (x2 + 7)), x6))))) else (if (decide ((x7.toNat : Int) = 0)) = true then (if (decide (0 < x2)) = true then (some (.brk (Sum.inr (x6, 3)))) else (if (decide ((x7.toNat : Int) < 128)) = true then (some (.brk (Sum.inl ((IntKind.u64.wrap ((BitVec.ofInt (IntKind.bits .u64) x1 ||| BitVec.ofInt (IntKind.bits .u64) (IntKind.u64.wrap ((IntKind.u64.wrap (IntKind.u8.wrap ((BitVec.ofInt (IntKind.bits .u8) (x7.toNat : Int) &&& BitVec.ofInt (IntKind.bits .u8) 127).toNat : Int))) * 2 ^ (min (Int.toNat x2) (IntKind.bits .u64))))).toNat : Int)), x6)))) else (some (.next ((IntKind.u64.wrap ((BitVec.ofInt (IntKind.bits .u64) x1 ||| BitVec.ofInt (IntKind.bits .u64) (IntKind.u64.wrap ((IntKind.u64.wrap (IntKind.u8.wrap ((BitVec.ofInt (IntKind.bits .u8) (x7.toNat : Int) &&& BitVec.ofInt (IntKind.bits .u8) 127).toNat : Int))) * 2 ^ (min (Int.toNat x2) (IntKind.bits .u64))))).toNat : Int)), (IntKind.i64.wrap (x2 + 7)), x6))))) else (if (decide ((x7.toNat : Int) < 128)) = true then (some (.brk (Sum.inl ((IntKind.u64.wrap ((BitVec.ofInt (IntKind.bits .u64) x1 ||| BitVec.ofInt (IntKind.bits .u64) (IntKind.u64.wrap ((IntKind.u64.wrap (IntKind.u8.wrap ((BitVec.ofInt (IntKind.bits .u8) (x7.toNat : Int) &&& BitVec.ofInt (IntKind.bits .u8) 127).toNat : Int))) * 2 ^ (min (Int.toNat x2) (IntKind.bits .u64))))).toNat : Int)), x6)))) else (some (.next ((IntKind.u64.wrap ((BitVec.ofInt (IntKind.bits .u64) x1 ||| BitVec.ofInt (IntKind.bits .u64) (IntKind.u64.wrap ((IntKind.u64.wrap (IntKind.u8.wrap ((BitVec.ofInt (IntKind.bits .u8) (x7.toNat : Int) &&& BitVec.ofInt (IntKind.bits .u8) 127).toNat : Int))) * 2 ^ (min (Int.toNat x2) (IntKind.bits .u64))))).toNat : Int)), (IntKind.i64.wrap (x2 + 7)), x6)))))) else (if (decide ((x7.toNat : Int) = 0)) = true then (if (decide (0 < x2)) = true then (some (.brk (Sum.inr (x6, 3)))) else (if (decide ((x7.toNat : Int) < 128)) = true then (some (.brk (Sum.inl ((IntKind.u64.wrap ((BitVec.ofInt (IntKind.bits .u64) x1 ||| BitVec.ofInt (IntKind.bits .u64) (IntKind.u64.wrap ((IntKind.u64.wrap (IntKind.u8.wrap ((BitVec.ofInt (IntKind.bits .u8) (x7.toNat : Int) &&& BitVec.ofInt (IntKind.bits .u8) 127).toNat : Int))) * 2 ^ (min (Int.toNat x2) (IntKind.bits .u64))))).toNat : Int)), x6)))) else (some (.next ((IntKind.u64.wrap ((BitVec.ofInt (IntKind.bits .u64) x1 ||| BitVec.ofInt (IntKind.bits .u64) (IntKind.u64.wrap ((IntKind.u64.wrap (IntKind.u8.wrap ((BitVec.ofInt (IntKind.bits .u8) (x7.toNat : Int) &&& BitVec.ofInt (IntKind.bits .u8) 127).toNat : Int))) * 2 ^ (min (Int.toNat x2) (IntKind.bits .u64))))).toNat : Int)), (IntKind.i64.wrap (x2 + 7)), x6))))) else (if (decide ((x7.toNat : Int) < 128)) = true then (some (.brk (Sum.inl ((IntKind.u64.wrap ((BitVec.ofInt (IntKind.bits .u64) x1 ||| BitVec.ofInt (IntKind.bits .u64) (IntKind.u64.wrap ((IntKind.u64.wrap (IntKind.u8.wrap ((BitVec.ofInt (IntKind.bits .u8) (x7.toNat : Int) &&& BitVec.ofInt (IntKind.bits .u8) 127).toNat : Int))) * 2 ^ (min (Int.toNat x2) (IntKind.bits .u64))))).toNat : Int)), x6)))) else (some (.next ((IntKind.u64.wrap ((BitVec.ofInt (IntKind.bits .u64) x1 ||| BitVec.ofInt (IntKind.bits .u64) (IntKind.u64.wrap ((IntKind.u64.wrap (IntKind.u8.wrap ((BitVec.ofInt (IntKind.bits .u8) (x7.toNat : Int) &&& BitVec.ofInt (IntKind.bits .u8) 127).toNat : Int))) * 2 ^ (min (Int.toNat x2) (IntKind.bits .u64))))).toNat : Int)), (IntKind.i64.wrap (x2 + 7)), x6))))))))
  cst := fun (x1, x2, x3) => ⟨put (put (put (fun _ => .junk) 5 (.int .i64 x2)) 4 (.int .u64 x1)) 0 (.ptr 0 0), [.cel [.str x0, .int .i64 x3]]⟩
theorem f138_L3c (x0 : (List UInt8)) (x1 : Int) (x2 : Int) (x3 : Int) : (f138_L3 x0).cst (x1, x2, x3) = ⟨put (put (put (fun _ => .junk) 5 (.int .i64 x2)) 4 (.int .u64 x1)) 0 (.ptr 0 0), [.cel [.str x0, .int .i64 x3]]⟩ := rfl
noncomputable def f138_C2 (x0 : (List UInt8)) (x1 : Int) : Il (Int × Int × Int) where
  run := ((Lp.run (f138_L3 x0) (0, 0, x1)).bind fun r_ => match r_ with | (Sum.inl (x2, x3)) => (some ((IntKind.i64.wrap ((BitVec.ofInt (IntKind.bits .i64) (IntKind.i64.wrap (Int.fdiv x2 (2 ^ (min (Int.toNat 1) (IntKind.bits .u64))))) ^^^ BitVec.ofInt (IntKind.bits .i64) (IntKind.i64.wrap (0 - (IntKind.i64.wrap (IntKind.u64.wrap ((BitVec.ofInt (IntKind.bits .u64) x2 &&& BitVec.ofInt (IntKind.bits .u64) 1).toNat : Int)))))).toNat : Int)), 0, x3)) | (Sum.inr (x4, x5)) => (some (0, x5, x4)))
  res := fun (x6, x7, x8) => .tup [.int .i64 x6, .int .i64 x7]
  hp := fun (x6, x7, x8) => [.cel [.str x0, .int .i64 x8]]
noncomputable def f138_C5 (x0 : (List UInt8)) (x1 : Int) (x2 : Int) : Il ((List UInt8) × Int) where
  run := (slc? x0 (IntKind.i64.wrap ((IntKind.i64.wrap (x1 + x2)) - x2)) (IntKind.i64.wrap (x1 + x2))).bind fun x3 => (some (x3, (IntKind.i64.wrap (x1 + x2))))
  res := fun (x4, x5) => .str x4
  hp := fun (x4, x5) => [.cel [.str x0, .int .i64 x5]]
noncomputable def f138_C1 (x0 : (List UInt8)) (x1 : Int) : Il ((List UInt8) × Int × Int) where
  run := ((f138_C2 x0 x1).run.bind fun (x2, x3, x4) => (if (decide (x3 ≠ 0)) = true then (some ([], x3, x4)) else (if (decide (x2 < 0)) = true then (some ([], 3, x4)) else (if (decide (65535 < x2)) = true then (some ([], 3, x4)) else (f162p x0 x4 x2).bind fun x5 => (if (!x5) = true then (some ([], 20, x4)) else ((f138_C5 x0 x4 x2).run.bind fun (x6, x7) => (some (x6, 0, x7))))))))
  res := fun (x8, x9, xa) => .tup [.str x8, .int .i64 x9]
  hp := fun (x8, x9, xa) => [.cel [.str x0, .int .i64 xa]]
def c138_0 : C := .cond (.t 18) (.seq (.reg [iI 19 (.mv (.t 8)), iI 4 (.mv (.c (.str []))), iI 5 (.mv (.c (.int .i64 0))), iI 6 (.mv (.t 19))]) .ret) (.skip)
def c138_1 : C := .seq (.reg [iI 17 (.mv (.t 8)), iI 18 (.bin .neq (.t 17) (.c (.int .i64 0)))]) c138_0
def c138_2 : C := .cond (.t 26) (.seq (.reg [iI 27 (.mv (.t 10)), iI 4 (.mv (.c (.str []))), iI 5 (.mv (.c (.int .i64 0))), iI 6 (.mv (.t 27))]) .ret) (.skip)
def c138_3 : C := .seq (.reg [iI 28 (.mv (.t 9)), iI 29 (.mv (.t 7)), iI 30 (.nilchk (.t 29)), iI 31 (.faddr 1 (.t 30)), iI 32 (.load 0 (.t 31)), iI 4 (.mv (.t 28)), iI 5 (.mv (.t 32)), iI 6 (.mv (.c (.int .i64 0)))]) .ret
def c138_4 : C := .seq (.seq (.reg [iI 25 (.mv (.t 10)), iI 26 (.bin .neq (.t 25) (.c (.int .i64 0)))]) c138_2) c138_3
def c138_5 : C := .seq (.reg [iI 21 (.mv (.t 7)), iI 22 (.call (.c (.fn 165 [])) [(.t 21)]), iI 20 (.mv (.t 22)), iI 23 (.ext (.t 20) 0), iI 24 (.ext (.t 20) 1), iI 9 (.mv (.t 23)), iI 10 (.mv (.t 24))]) c138_4
def c138_6 : C := .seq (.seq (.reg [iI 15 (.mv (.t 7)), iI 16 (.call (.c (.fn 161 [])) [(.t 15)]), iI 8 (.mv (.t 16))]) c138_1) c138_5
def c138_7 : C := .seq (.reg [iI 11 (.mv (.t 0)), iI 12 (.mv (.t 1)), iI 13 (.build [(1, (.str [])), (1, (.int .i64 0))] [(0, 0, (.t 11)), (1, 0, (.t 12))]), iI 14 (.box (.t 13)), iI 7 (.mv (.t 14))]) c138_6
def ir138 : C := .seq (.reg [iI 4 (.mv (.c (.str []))), iI 5 (.mv (.c (.int .i64 0))), iI 6 (.mv (.c (.int .i64 0)))]) c138_7
theorem fd138 : fd? Try.prog 138 = some (33, [.slot 4, .slot 5, .slot 6], ir138) := by kernel_rfl
noncomputable def f138 (x0 : (List UInt8)) (x1 : Int) : Option ((List UInt8) × Int × Int) :=
  (f161p x0 x1).bind fun x2 => (if (decide (x2 ≠ 0)) = true then (some ([], 0, x2)) else ((f138_C1 x0 x1).run.bind fun (x3, x4, x5) => (if (decide (x4 ≠ 0)) = true then (some ([], 0, x4)) else (some (x3, x5, 0)))))
theorem f138_ok {x0 : (List UInt8)} {x1 : Int} {r_ : (List UInt8) × Int × Int} (H : f138 x0 x1 = some r_) : Pure Try.prog 138 [.str x0, .int .i64 x1] (· = .tup [.str r_.1, .int .i64 r_.2.1, .int .i64 r_.2.2]) := by
 refine Pure.walk3 fd138 none (Nat.le_of_ble_eq_true rfl) (by rfl) fun Q hQ => ?_
 simp only [f138] at H
 refine AW.rseq ?_
 try simp only [↓wk, ↓wl, nq, evV, ↓reduceIte, sevalprocAttr]
 refine AW.rseq ?_
 try simp only [↓wk, ↓wl, nq, evV, ↓reduceIte, sevalprocAttr]
 refine AW.sseq ?_
 refine AW.rseq ?_
 try simp only [↓wk, ↓wl, nq, evV, ↓reduceIte, sevalprocAttr]
 refine evTs_flat hFn H (fun _ h => f161p_ok h) (by rfl) (by rfl) (by simp only [deep_eq, imm_simps, imm_rowE, imm_ptrE, imm_enc, omap_simps, take_map_len, take_map_set, take_map_set2, le_refl_true, Nat.zero_add, and_true, true_and, List.drop_zero, Option.map_some, ↓wk, ↓wl, nq, evV, ↓reduceIte, sevalprocAttr]; rfl) (by rfl) (fun _ => rfl) (fun _ => rfl) ?_ <;> clear H <;> intro x2 H
 try simp only [eL, ↓wk, ↓wl, nq, evV, ↓reduceIte, sevalprocAttr]
 refine AW.rseq ?_
 try simp only [↓wk, ↓wl, nq, evV, ↓reduceIte, sevalprocAttr]
 refine AW.ifc H (by rfl) ?_ ?_ <;> clear H <;> intro H
 ·refine AW.rseq ?_
  try simp only [↓wk, ↓wl, nq, evV, ↓reduceIte, sevalprocAttr]
  refine AW.ret ?_
  refine seqQ.ret ?_
  cases H
  exact hQ.fin
 ·refine AW.skip ?_
  refine seqQ.norm ?_
  refine AW.rseq ?_
  try simp only [↓wk, ↓wl, nq, evV, ↓reduceIte, sevalprocAttr]
  refine evTs_inl (I := f138_C1 x0 x1) (args := [.ptr 0 0]) H (by rfl) fd165 (by rfl) (Nat.le_of_ble_eq_true rfl) ?_ ?_ <;> clear H
  ·rintro v_ Q_ H hqf138_C1
   simp only [f138_C1] at H
   dsimp only [List.length_cons, List.length_nil]
   refine AW.rseq ?_
   try simp only [↓wk, ↓wl, nq, evV, ↓reduceIte, sevalprocAttr]
   refine AW.rseq ?_
   try simp only [↓wk, ↓wl, nq, evV, ↓reduceIte, sevalprocAttr]
   refine evTs_inl (I := f138_C2 x0 x1) (args := [.ptr 0 0]) H (by rfl) fd164 (by rfl) (Nat.le_of_ble_eq_true rfl) ?_ ?_ <;> clear H
   ·rintro v_ Q_ H hqf138_C2
    simp only [f138_C2] at H
    dsimp only [List.length_cons, List.length_nil]
    refine AW.rseq ?_
    try simp only [↓wk, ↓wl, nq, evV, ↓reduceIte, sevalprocAttr]
    refine AW.scope ?_
    refine AW.rseq ?_
    try simp only [↓wk, ↓wl, nq, evV, ↓reduceIte, sevalprocAttr]
    refine AW.skseq ?_
    refine AW.sseq ?_
    refine AW.rseq ?_
    try simp only [↓wk, ↓wl, nq, evV, ↓reduceIte, sevalprocAttr]
    refine AW.bend ?_
    refine AW.iter H ((Le.tq 1 [0] [0, 4, 5] (by simp only [f138_L3c, rrm, ↓wk, ↓wl, evV, ↓reduceIte, sevalprocAttr] <;> rfl))) ?_ <;> clear H
    rintro ⟨x3, x4, x5⟩ x_ st0_ H hst_
    rw [f138_L3c] at hst_
    simp only [f138_L3] at H
    subst hst_
    refine AW.bseq ?_
    refine AW.sseq ?_
    refine AW.rseq ?_
    try simp only [↓wk, ↓wl, nq, evV, ↓reduceIte, sevalprocAttr]
    refine evTs_flat hFn H (fun _ h => f162p_ok h) (by rfl) (by rfl) (by simp only [deep_eq, imm_simps, imm_rowE, imm_ptrE, imm_enc, omap_simps, take_map_len, take_map_set, take_map_set2, le_refl_true, Nat.zero_add, and_true, true_and, List.drop_zero, Option.map_some, ↓wk, ↓wl, nq, evV, ↓reduceIte, sevalprocAttr]; rfl) (by rfl) (fun _ => rfl) (fun _ => rfl) ?_ <;> clear H <;> intro x6 H
    try simp only [eL, ↓wk, ↓wl, nq, evV, ↓reduceIte, sevalprocAttr]
    refine AW.ifc H (by rfl) ?_ ?_ <;> clear H <;> intro H
    ·refine AW.rseq ?_
     try simp only [↓wk, ↓wl, nq, evV, ↓reduceIte, sevalprocAttr]
     refine AW.ret ?_
     refine seqQ.ret ?_
     refine blkQ.ret ?_
     refine loopQ.ret H ?_ <;> clear H <;> intro H
     try dsimp only at H
     refine blk0.ret ?_
     refine seqQ.ret ?_
     cases H
     exact hqf138_C2 _ _ _ (.inr rfl) (Le.tq 1 [0] [2, 3] rfl) (by simp only [resVs, omap, resV, f138_C2, rrm, ↓wk, ↓wl, evV, ↓reduceIte, sevalprocAttr]) (by simp only [f138_C2, rrm, ↓wk, ↓wl, evV, ↓reduceIte, sevalprocAttr])
    ·refine AW.skip ?_
     refine seqQ.norm ?_
     refine AW.rseq ?_
     try simp only [↓wk, ↓wl, nq, evV, ↓reduceIte, sevalprocAttr]
     refine evTs_inl (I := f138_C4 x0 x5) (args := [.ptr 0 0, .int .i64 1]) H (by rfl) fd163 (by rfl) (Nat.le_of_ble_eq_true rfl) ?_ ?_ <;> clear H
     ·rintro v_ Q_ H hqf138_C4
      simp only [f138_C4] at H
      dsimp only [List.length_cons, List.length_nil]
      refine AW.rseq ?_
      try simp only [↓wk, ↓wl, nq, evV, ↓reduceIte, sevalprocAttr]
      refine AW.rseq ?_
      try simp only [↓wk, ↓wl, nq, evV, ↓reduceIte, sevalprocAttr]
      refine AW.rseq ?_
      try simp only [↓wk, ↓wl, nq, evV, ↓reduceIte, sevalprocAttr]
      refine evTs_sslc H (by rfl) (by simp only [loI, hiI, ↓wk, ↓wl, nq, evV, ↓reduceIte, sevalprocAttr]; rfl) (by simp only [loI, hiI, ↓wk, ↓wl, nq, evV, ↓reduceIte, sevalprocAttr]; rfl) ?_ <;> clear H <;> intro x7 H
      try simp only [↓wk, ↓wl, nq, evV, ↓reduceIte, sevalprocAttr]
      refine AW.ret ?_
      cases H
      exact hqf138_C4 _ _ _ (.inr rfl) (Le.tq 1 [0] [4] rfl) (by simp only [resVs, omap, resV, f138_C4, rrm, ↓wk, ↓wl, evV, ↓reduceIte, sevalprocAttr]) (by simp only [f138_C4, rrm, ↓wk, ↓wl, evV, ↓reduceIte, sevalprocAttr])
     ·rintro ⟨x8, x9⟩ s_ h_ H hs_ hh_
      simp only [f138_C4] at H hs_ hh_
      subst hs_
      subst hh_
      try simp only [↓wk, ↓wl, nq, evV, ↓reduceIte, sevalprocAttr]
      refine evTs_sat H (by rfl) (by rfl) ?_ <;> clear H <;> intro xa H
      try simp only [↓wk, ↓wl, nq, evV, ↓reduceIte, sevalprocAttr]
      refine AW.rseq ?_
      try simp only [↓wk, ↓wl, nq, evV, ↓reduceIte, sevalprocAttr]
      refine rest_and ?_
      try simp only [↓wk, ↓wl, nq, evV, ↓reduceIte, sevalprocAttr]
      refine rest_shlv H ?_ <;> clear H <;> intro H
      try simp only [↓wk, ↓wl, nq, evV, ↓reduceIte, sevalprocAttr]
      refine rest_or ?_
      try simp only [↓wk, ↓wl, nq, evV, ↓reduceIte, sevalprocAttr]
      refine AW.bend ?_
      refine AW.sseq ?_
      refine AW.rseq ?_
      try simp only [↓wk, ↓wl, nq, evV, ↓reduceIte, sevalprocAttr]
      refine evTs_ifg H (by rfl) ?_ ?_ <;> clear H <;> intro H
      ·try simp only [↓wk, ↓wl, nq, evV, ↓reduceIte, sevalprocAttr]
       refine AW.ifc H (by rfl) ?_ ?_ <;> clear H <;> intro H
       ·refine AW.skip ?_
        refine seqQ.norm ?_
        refine AW.ifc H (by rfl) ?_ ?_ <;> clear H <;> intro H
        ·refine AW.rseq ?_
         try simp only [↓wk, ↓wl, nq, evV, ↓reduceIte, sevalprocAttr]
         refine AW.ret ?_
         refine blk0.ret ?_
         refine blkQ.ret ?_
         refine loopQ.ret H ?_ <;> clear H <;> intro H
         try dsimp only at H
         refine blk0.ret ?_
         refine seqQ.ret ?_
         cases H
         exact hqf138_C2 _ _ _ (.inr rfl) (Le.tq 1 [0] [2, 3] rfl) (by simp only [resVs, omap, resV, f138_C2, rrm, ↓wk, ↓wl, evV, ↓reduceIte, sevalprocAttr]) (by simp only [f138_C2, rrm, ↓wk, ↓wl, evV, ↓reduceIte, sevalprocAttr])
        ·refine AW.rseq ?_
         try simp only [↓wk, ↓wl, nq, evV, ↓reduceIte, sevalprocAttr]
         refine AW.ifc H (by rfl) ?_ ?_ <;> clear H <;> intro H
         ·refine AW.exit ?_
          refine blk0.out (by rfl) ?_
          refine blkQ.out (by rfl) ?_
          refine loopQ.exit H ?_ <;> clear H <;> intro H
          try dsimp only at H
          refine blk0.here ?_
          refine seqQ.norm ?_
          refine AW.rseq ?_
          try simp only [↓wk, ↓wl, nq, evV, ↓reduceIte, sevalprocAttr]
          refine rest_shr (by decide) ?_
          try simp only [↓wk, ↓wl, nq, evV, ↓reduceIte, sevalprocAttr]
          refine rest_and ?_
          try simp only [↓wk, ↓wl, nq, evV, ↓reduceIte, sevalprocAttr]
          refine rest_xor ?_
          try simp only [↓wk, ↓wl, nq, evV, ↓reduceIte, sevalprocAttr]
          refine AW.ret ?_
          cases H
          exact hqf138_C2 _ _ _ (.inr rfl) (Le.tq 1 [0] [2, 3] rfl) (by simp only [resVs, omap, resV, f138_C2, rrm, ↓wk, ↓wl, evV, ↓reduceIte, sevalprocAttr]) (by simp only [f138_C2, rrm, ↓wk, ↓wl, evV, ↓reduceIte, sevalprocAttr])
         ·refine AW.skip ?_
          refine blk0.norm ?_
          refine blkQ.norm ?_
          refine AW.rend ?_
          try simp only [↓wk, ↓wl, nq, evV, ↓reduceIte, sevalprocAttr]
          exact loopQ.next H ((Le.tq 1 [0] [0, 4, 5] (by simp only [f138_L3c, rrm, ↓wk, ↓wl, evV, ↓reduceIte, sevalprocAttr] <;> rfl)))
       ·refine AW.rend ?_
        try simp only [↓wk, ↓wl, nq, evV, ↓reduceIte, sevalprocAttr]
        refine evTs_ifg H (by rfl) ?_ ?_ <;> clear H <;> intro H
        ·try simp only [↓wk, ↓wl, nq, evV, ↓reduceIte, sevalprocAttr]
         refine seqQ.norm ?_
         refine AW.ifc H (by rfl) ?_ ?_ <;> clear H <;> intro H
         ·refine AW.rseq ?_
          try simp only [↓wk, ↓wl, nq, evV, ↓reduceIte, sevalprocAttr]
          refine AW.ret ?_
          refine blk0.ret ?_
          refine blkQ.ret ?_
          refine loopQ.ret H ?_ <;> clear H <;> intro H
          try dsimp only at H
          refine blk0.ret ?_
          refine seqQ.ret ?_
          cases H
          exact hqf138_C2 _ _ _ (.inr rfl) (Le.tq 1 [0] [2, 3] rfl) (by simp only [resVs, omap, resV, f138_C2, rrm, ↓wk, ↓wl, evV, ↓reduceIte, sevalprocAttr]) (by simp only [f138_C2, rrm, ↓wk, ↓wl, evV, ↓reduceIte, sevalprocAttr])
         ·refine AW.rseq ?_
          try simp only [↓wk, ↓wl, nq, evV, ↓reduceIte, sevalprocAttr]
          refine AW.ifc H (by rfl) ?_ ?_ <;> clear H <;> intro H
          ·refine AW.exit ?_
           refine blk0.out (by rfl) ?_
           refine blkQ.out (by rfl) ?_
           refine loopQ.exit H ?_ <;> clear H <;> intro H
           try dsimp only at H
           refine blk0.here ?_
           refine seqQ.norm ?_
           refine AW.rseq ?_
           try simp only [↓wk, ↓wl, nq, evV, ↓reduceIte, sevalprocAttr]
           refine rest_shr (by decide) ?_
           try simp only [↓wk, ↓wl, nq, evV, ↓reduceIte, sevalprocAttr]
           refine rest_and ?_
           try simp only [↓wk, ↓wl, nq, evV, ↓reduceIte, sevalprocAttr]
           refine rest_xor ?_
           try simp only [↓wk, ↓wl, nq, evV, ↓reduceIte, sevalprocAttr]
           refine AW.ret ?_
           cases H
           exact hqf138_C2 _ _ _ (.inr rfl) (Le.tq 1 [0] [2, 3] rfl) (by simp only [resVs, omap, resV, f138_C2, rrm, ↓wk, ↓wl, evV, ↓reduceIte, sevalprocAttr]) (by simp only [f138_C2, rrm, ↓wk, ↓wl, evV, ↓reduceIte, sevalprocAttr])
          ·refine AW.skip ?_
           refine blk0.norm ?_
           refine blkQ.norm ?_
           refine AW.rend ?_
           try simp only [↓wk, ↓wl, nq, evV, ↓reduceIte, sevalprocAttr]
           exact loopQ.next H ((Le.tq 1 [0] [0, 4, 5] (by simp only [f138_L3c, rrm, ↓wk, ↓wl, evV, ↓reduceIte, sevalprocAttr] <;> rfl)))
        ·try simp only [↓wk, ↓wl, nq, evV, ↓reduceIte, sevalprocAttr]
         refine seqQ.norm ?_
         refine AW.iff (by rfl) ?_
         refine AW.rseq ?_
         try simp only [↓wk, ↓wl, nq, evV, ↓reduceIte, sevalprocAttr]
         refine AW.ifc H (by rfl) ?_ ?_ <;> clear H <;> intro H
         ·refine AW.exit ?_
          refine blk0.out (by rfl) ?_
          refine blkQ.out (by rfl) ?_
          refine loopQ.exit H ?_ <;> clear H <;> intro H
          try dsimp only at H
          refine blk0.here ?_
          refine seqQ.norm ?_
          refine AW.rseq ?_
          try simp only [↓wk, ↓wl, nq, evV, ↓reduceIte, sevalprocAttr]
          refine rest_shr (by decide) ?_
          try simp only [↓wk, ↓wl, nq, evV, ↓reduceIte, sevalprocAttr]
          refine rest_and ?_
          try simp only [↓wk, ↓wl, nq, evV, ↓reduceIte, sevalprocAttr]
          refine rest_xor ?_
          try simp only [↓wk, ↓wl, nq, evV, ↓reduceIte, sevalprocAttr]
          refine AW.ret ?_
          cases H
          exact hqf138_C2 _ _ _ (.inr rfl) (Le.tq 1 [0] [2, 3] rfl) (by simp only [resVs, omap, resV, f138_C2, rrm, ↓wk, ↓wl, evV, ↓reduceIte, sevalprocAttr]) (by simp only [f138_C2, rrm, ↓wk, ↓wl, evV, ↓reduceIte, sevalprocAttr])
         ·refine AW.skip ?_
          refine blk0.norm ?_
          refine blkQ.norm ?_
          refine AW.rend ?_
          try simp only [↓wk, ↓wl, nq, evV, ↓reduceIte, sevalprocAttr]
          exact loopQ.next H ((Le.tq 1 [0] [0, 4, 5] (by simp only [f138_L3c, rrm, ↓wk, ↓wl, evV, ↓reduceIte, sevalprocAttr] <;> rfl)))
      ·try simp only [↓wk, ↓wl, nq, evV, ↓reduceIte, sevalprocAttr]
       refine AW.iff (by rfl) ?_
       refine AW.rend ?_
       try simp only [↓wk, ↓wl, nq, evV, ↓reduceIte, sevalprocAttr]
       refine evTs_ifg H (by rfl) ?_ ?_ <;> clear H <;> intro H
       ·try simp only [↓wk, ↓wl, nq, evV, ↓reduceIte, sevalprocAttr]
        refine seqQ.norm ?_
        refine AW.ifc H (by rfl) ?_ ?_ <;> clear H <;> intro H
        ·refine AW.rseq ?_
         try simp only [↓wk, ↓wl, nq, evV, ↓reduceIte, sevalprocAttr]
         refine AW.ret ?_
         refine blk0.ret ?_
         refine blkQ.ret ?_
         refine loopQ.ret H ?_ <;> clear H <;> intro H
         try dsimp only at H
         refine blk0.ret ?_
         refine seqQ.ret ?_
         cases H
         exact hqf138_C2 _ _ _ (.inr rfl) (Le.tq 1 [0] [2, 3] rfl) (by simp only [resVs, omap, resV, f138_C2, rrm, ↓wk, ↓wl, evV, ↓reduceIte, sevalprocAttr]) (by simp only [f138_C2, rrm, ↓wk, ↓wl, evV, ↓reduceIte, sevalprocAttr])
        ·refine AW.rseq ?_
         try simp only [↓wk, ↓wl, nq, evV, ↓reduceIte, sevalprocAttr]
         refine AW.ifc H (by rfl) ?_ ?_ <;> clear H <;> intro H
         ·refine AW.exit ?_
          refine blk0.out (by rfl) ?_
          refine blkQ.out (by rfl) ?_
          refine loopQ.exit H ?_ <;> clear H <;> intro H
          try dsimp only at H
          refine blk0.here ?_
          refine seqQ.norm ?_
          refine AW.rseq ?_
          try simp only [↓wk, ↓wl, nq, evV, ↓reduceIte, sevalprocAttr]
          refine rest_shr (by decide) ?_
          try simp only [↓wk, ↓wl, nq, evV, ↓reduceIte, sevalprocAttr]
          refine rest_and ?_
          try simp only [↓wk, ↓wl, nq, evV, ↓reduceIte, sevalprocAttr]
          refine rest_xor ?_
          try simp only [↓wk, ↓wl, nq, evV, ↓reduceIte, sevalprocAttr]
          refine AW.ret ?_
          cases H
          exact hqf138_C2 _ _ _ (.inr rfl) (Le.tq 1 [0] [2, 3] rfl) (by simp only [resVs, omap, resV, f138_C2, rrm, ↓wk, ↓wl, evV, ↓reduceIte, sevalprocAttr]) (by simp only [f138_C2, rrm, ↓wk, ↓wl, evV, ↓reduceIte, sevalprocAttr])
         ·refine AW.skip ?_
          refine blk0.norm ?_
          refine blkQ.norm ?_
          refine AW.rend ?_
          try simp only [↓wk, ↓wl, nq, evV, ↓reduceIte, sevalprocAttr]
          exact loopQ.next H ((Le.tq 1 [0] [0, 4, 5] (by simp only [f138_L3c, rrm, ↓wk, ↓wl, evV, ↓reduceIte, sevalprocAttr] <;> rfl)))
       ·try simp only [↓wk, ↓wl, nq, evV, ↓reduceIte, sevalprocAttr]
        refine seqQ.norm ?_
        refine AW.iff (by rfl) ?_
        refine AW.rseq ?_
        try simp only [↓wk, ↓wl, nq, evV, ↓reduceIte, sevalprocAttr]
        refine AW.ifc H (by rfl) ?_ ?_ <;> clear H <;> intro H
        ·refine AW.exit ?_
         refine blk0.out (by rfl) ?_
         refine blkQ.out (by rfl) ?_
         refine loopQ.exit H ?_ <;> clear H <;> intro H
         try dsimp only at H
         refine blk0.here ?_
         refine seqQ.norm ?_
         refine AW.rseq ?_
         try simp only [↓wk, ↓wl, nq, evV, ↓reduceIte, sevalprocAttr]
         refine rest_shr (by decide) ?_
         try simp only [↓wk, ↓wl, nq, evV, ↓reduceIte, sevalprocAttr]
         refine rest_and ?_
         try simp only [↓wk, ↓wl, nq, evV, ↓reduceIte, sevalprocAttr]
         refine rest_xor ?_
         try simp only [↓wk, ↓wl, nq, evV, ↓reduceIte, sevalprocAttr]
         refine AW.ret ?_
         cases H
         exact hqf138_C2 _ _ _ (.inr rfl) (Le.tq 1 [0] [2, 3] rfl) (by simp only [resVs, omap, resV, f138_C2, rrm, ↓wk, ↓wl, evV, ↓reduceIte, sevalprocAttr]) (by simp only [f138_C2, rrm, ↓wk, ↓wl, evV, ↓reduceIte, sevalprocAttr])
        ·refine AW.skip ?_
         refine blk0.norm ?_
         refine blkQ.norm ?_
         refine AW.rend ?_
         try simp only [↓wk, ↓wl, nq, evV, ↓reduceIte, sevalprocAttr]
         exact loopQ.next H ((Le.tq 1 [0] [0, 4, 5] (by simp only [f138_L3c, rrm, ↓wk, ↓wl, evV, ↓reduceIte, sevalprocAttr] <;> rfl)))
   ·rintro ⟨xb, xc, xd⟩ s_ h_ H hs_ hh_
    simp only [f138_C2] at H hs_ hh_
    subst hs_
    subst hh_
    try simp only [↓wk, ↓wl, nq, evV, ↓reduceIte, sevalprocAttr]
    refine AW.bseq ?_
    refine AW.rseq ?_
    try simp only [↓wk, ↓wl, nq, evV, ↓reduceIte, sevalprocAttr]
    refine AW.ifc H (by rfl) ?_ ?_ <;> clear H <;> intro H
    ·refine AW.rseq ?_
     try simp only [↓wk, ↓wl, nq, evV, ↓reduceIte, sevalprocAttr]
     refine AW.ret ?_
     refine blkQ.ret ?_
     cases H
     exact hqf138_C1 _ _ _ (.inr rfl) (Le.tq 1 [0] [2, 3] rfl) (by simp only [resVs, omap, resV, f138_C1, rrm, ↓wk, ↓wl, evV, ↓reduceIte, sevalprocAttr]) (by simp only [f138_C1, rrm, ↓wk, ↓wl, evV, ↓reduceIte, sevalprocAttr])
    ·refine AW.rseq ?_
     try simp only [↓wk, ↓wl, nq, evV, ↓reduceIte, sevalprocAttr]
     refine evTs_ifg H (by rfl) ?_ ?_ <;> clear H <;> intro H
     ·try simp only [↓wk, ↓wl, nq, evV, ↓reduceIte, sevalprocAttr]
      refine AW.ift (by rfl) ?_
      refine AW.rseq ?_
      try simp only [↓wk, ↓wl, nq, evV, ↓reduceIte, sevalprocAttr]
      refine AW.ret ?_
      refine blkQ.ret ?_
      cases H
      exact hqf138_C1 _ _ _ (.inr rfl) (Le.tq 1 [0] [2, 3] rfl) (by simp only [resVs, omap, resV, f138_C1, rrm, ↓wk, ↓wl, evV, ↓reduceIte, sevalprocAttr]) (by simp only [f138_C1, rrm, ↓wk, ↓wl, evV, ↓reduceIte, sevalprocAttr])
     ·try simp only [↓wk, ↓wl, nq, evV, ↓reduceIte, sevalprocAttr]
      refine AW.ifc H (by rfl) ?_ ?_ <;> clear H <;> intro H
      ·refine AW.rseq ?_
       try simp only [↓wk, ↓wl, nq, evV, ↓reduceIte, sevalprocAttr]
       refine AW.ret ?_
       refine blkQ.ret ?_
       cases H
       exact hqf138_C1 _ _ _ (.inr rfl) (Le.tq 1 [0] [2, 3] rfl) (by simp only [resVs, omap, resV, f138_C1, rrm, ↓wk, ↓wl, evV, ↓reduceIte, sevalprocAttr]) (by simp only [f138_C1, rrm, ↓wk, ↓wl, evV, ↓reduceIte, sevalprocAttr])
      ·refine AW.rseq ?_
       try simp only [↓wk, ↓wl, nq, evV, ↓reduceIte, sevalprocAttr]
       refine evTs_flat hFn H (fun _ h => f162p_ok h) (by rfl) (by rfl) (by simp only [deep_eq, imm_simps, imm_rowE, imm_ptrE, imm_enc, omap_simps, take_map_len, take_map_set, take_map_set2, le_refl_true, Nat.zero_add, and_true, true_and, List.drop_zero, Option.map_some, ↓wk, ↓wl, nq, evV, ↓reduceIte, sevalprocAttr]; rfl) (by rfl) (fun _ => rfl) (fun _ => rfl) ?_ <;> clear H <;> intro xe H
       try simp only [eL, ↓wk, ↓wl, nq, evV, ↓reduceIte, sevalprocAttr]
       refine AW.ifc H (by rfl) ?_ ?_ <;> clear H <;> intro H
       ·refine AW.rseq ?_
        try simp only [↓wk, ↓wl, nq, evV, ↓reduceIte, sevalprocAttr]
        refine AW.ret ?_
        refine blkQ.ret ?_
        cases H
        exact hqf138_C1 _ _ _ (.inr rfl) (Le.tq 1 [0] [2, 3] rfl) (by simp only [resVs, omap, resV, f138_C1, rrm, ↓wk, ↓wl, evV, ↓reduceIte, sevalprocAttr]) (by simp only [f138_C1, rrm, ↓wk, ↓wl, evV, ↓reduceIte, sevalprocAttr])
       ·refine AW.skip ?_
        refine blkQ.norm ?_
        refine AW.rseq ?_
        try simp only [↓wk, ↓wl, nq, evV, ↓reduceIte, sevalprocAttr]
        refine evTs_inl (I := f138_C5 x0 xd xb) (args := [.ptr 0 0, .int .i64 xb]) H (by rfl) fd163 (by rfl) (Nat.le_of_ble_eq_true rfl) ?_ ?_ <;> clear H
        ·rintro v_ Q_ H hqf138_C5
         simp only [f138_C5] at H
         dsimp only [List.length_cons, List.length_nil]
         refine AW.rseq ?_
         try simp only [↓wk, ↓wl, nq, evV, ↓reduceIte, sevalprocAttr]
         refine AW.rseq ?_
         try simp only [↓wk, ↓wl, nq, evV, ↓reduceIte, sevalprocAttr]
         refine AW.rseq ?_
         try simp only [↓wk, ↓wl, nq, evV, ↓reduceIte, sevalprocAttr]
         refine evTs_sslc H (by rfl) (by simp only [loI, hiI, ↓wk, ↓wl, nq, evV, ↓reduceIte, sevalprocAttr]; rfl) (by simp only [loI, hiI, ↓wk, ↓wl, nq, evV, ↓reduceIte, sevalprocAttr]; rfl) ?_ <;> clear H <;> intro xf H
         try simp only [↓wk, ↓wl, nq, evV, ↓reduceIte, sevalprocAttr]
         refine AW.ret ?_
         cases H
         exact hqf138_C5 _ _ _ (.inr rfl) (Le.tq 1 [0] [4] rfl) (by simp only [resVs, omap, resV, f138_C5, rrm, ↓wk, ↓wl, evV, ↓reduceIte, sevalprocAttr]) (by simp only [f138_C5, rrm, ↓wk, ↓wl, evV, ↓reduceIte, sevalprocAttr])
        ·rintro ⟨xg, xh⟩ s_ h_ H hs_ hh_
         simp only [f138_C5] at H hs_ hh_
         subst hs_
         subst hh_
         try simp only [↓wk, ↓wl, nq, evV, ↓reduceIte, sevalprocAttr]
         refine AW.ret ?_
         cases H
         exact hqf138_C1 _ _ _ (.inr rfl) (Le.tq 1 [0] [2, 3] rfl) (by simp only [resVs, omap, resV, f138_C1, rrm, ↓wk, ↓wl, evV, ↓reduceIte, sevalprocAttr]) (by simp only [f138_C1, rrm, ↓wk, ↓wl, evV, ↓reduceIte, sevalprocAttr])
  ·rintro ⟨xi, xj, xk⟩ s_ h_ H hs_ hh_
   simp only [f138_C1] at H hs_ hh_
   subst hs_
   subst hh_
   try simp only [↓wk, ↓wl, nq, evV, ↓reduceIte, sevalprocAttr]
   refine AW.sseq ?_
   refine AW.rseq ?_
   try simp only [↓wk, ↓wl, nq, evV, ↓reduceIte, sevalprocAttr]
   refine AW.ifc H (by rfl) ?_ ?_ <;> clear H <;> intro H
   ·refine AW.rseq ?_
    try simp only [↓wk, ↓wl, nq, evV, ↓reduceIte, sevalprocAttr]
    refine AW.ret ?_
    refine seqQ.ret ?_
    cases H
    exact hQ.fin
   ·refine AW.skip ?_
    refine seqQ.norm ?_
    refine AW.rseq ?_
    try simp only [↓wk, ↓wl, nq, evV, ↓reduceIte, sevalprocAttr]
    refine AW.ret ?_
    cases H
    exact hQ.fin
noncomputable def f89_J1 (x0 : RecordEntry × Int × Int) : Jn (Int × Int × Int × Int × Int × Int × Int) (NetworkPacket × Int) where
  run := fun (x1, x2, x3, x4, x5, x6, x7) => (f138 x0.1.fData x1).bind fun x8 => (if (decide (x8.2.2 ≠ 0)) = true then (some ((NetworkPacket.mk 0 0 0 0 0 false ([])), 3)) else (if (decide (x8.2.1 < ((x0.1.fData.length : Nat) : Int))) = true then (some ((NetworkPacket.mk 0 0 0 0 0 false ([])), 3)) else (if (decide (x6 < 0)) = true then (some ((NetworkPacket.mk 0 0 0 0 0 false ([])), 3)) else (f93 x7 0 1).bind fun x9 => (if (!x9) = true then (some ((NetworkPacket.mk 0 0 0 0 0 false ([])), 3)) else (f59 (NetworkPacket.mk (IntKind.u64.wrap x6) x2 x3 x4 x5 (decide (x7 = 1)) x8.1)).bind fun xa => (if (decide (xa ≠ 0)) = true then (some ((NetworkPacket.mk 0 0 0 0 0 false ([])), xa)) else (some ((NetworkPacket.mk (IntKind.u64.wrap x6) x2 x3 x4 x5 (decide (x7 = 1)) x8.1), 0)))))))
  cst := fun (x1, x2, x3, x4, x5, x6, x7) => ⟨put (put (put (put (put (put (fun _ => .junk) 10 (.int .i64 x1)) 9 (.ptr 4 0)) 8 (.ptr 3 0)) 7 (.ptr 2 0)) 4 (.ptr 1 0)) 2 (.ptr 0 0), [.cel [.int .u64 0, .int .i64 0, .int .i64 0, .int .i64 0, .int .i64 0, .bool false, .str ([])], .cel [.int .i64 x0.1.fKind, .str x0.1.fData], .cel [.int .u64 0, .int .i64 x2, .int .i64 x3, .int .i64 x4, .int .i64 x5, .bool false, .str ([])], .cel [.int .i64 x6], .cel [.int .i64 x7]]⟩
theorem f89_J1c (x0 : RecordEntry × Int × Int) (x1 : Int) (x2 : Int) (x3 : Int) (x4 : Int) (x5 : Int) (x6 : Int) (x7 : Int) : (f89_J1 x0).cst (x1, x2, x3, x4, x5, x6, x7) = ⟨put (put (put (put (put (put (fun _ => .junk) 10 (.int .i64 x1)) 9 (.ptr 4 0)) 8 (.ptr 3 0)) 7 (.ptr 2 0)) 4 (.ptr 1 0)) 2 (.ptr 0 0), [.cel [.int .u64 0, .int .i64 0, .int .i64 0, .int .i64 0, .int .i64 0, .bool false, .str ([])], .cel [.int .i64 x0.1.fKind, .str x0.1.fData], .cel [.int .u64 0, .int .i64 x2, .int .i64 x3, .int .i64 x4, .int .i64 x5, .bool false, .str ([])], .cel [.int .i64 x6], .cel [.int .i64 x7]]⟩ := rfl
def c89_0 : C := .cond (.t 31) (.seq (.reg [iI 35 (.build [(1, (.int .u64 0)), (1, (.int .i64 0)), (1, (.int .i64 0)), (1, (.int .i64 0)), (1, (.int .i64 0)), (1, (.bool false)), (1, (.str []))] []), iN (.store 7 (.t 2) (.t 35)), iI 3 (.mv (.c (.int .i64 1)))]) .ret) (.skip)
def c89_1 : C := .cond (.t 25) (.seq (.reg [iI 30 (.build [(1, (.int .u64 0)), (1, (.int .i64 0)), (1, (.int .i64 0)), (1, (.int .i64 0)), (1, (.int .i64 0)), (1, (.bool false)), (1, (.str []))] []), iN (.store 7 (.t 2) (.t 30)), iI 3 (.mv (.c (.int .i64 13)))]) .ret) (.seq (.reg [iI 32 (.faddr 0 (.t 4)), iI 33 (.load 0 (.t 32)), iI 34 (.bin .neq (.t 33) (.c (.int .i64 85))), iI 31 (.mv (.t 34))]) c89_0)
def c89_2 : C := .cond (.t 20) (.seq (.reg [iI 23 (.build [(1, (.int .u64 0)), (1, (.int .i64 0)), (1, (.int .i64 0)), (1, (.int .i64 0)), (1, (.int .i64 0)), (1, (.bool false)), (1, (.str []))] []), iI 24 (.mv (.t 6)), iN (.store 7 (.t 2) (.t 23)), iI 3 (.mv (.t 24))]) .ret) (.seq (.reg [iI 26 (.mv (.t 5)), iI 27 (.mv (.t 0)), iI 28 (.len 1 (.t 27)), iI 29 (.bin .lss (.t 26) (.t 28)), iI 25 (.mv (.t 29))]) c89_1)
def c89_3 : C := .cond (.t 55) (.seq (.reg [iI 56 (.build [(1, (.int .u64 0)), (1, (.int .i64 0)), (1, (.int .i64 0)), (1, (.int .i64 0)), (1, (.int .i64 0)), (1, (.bool false)), (1, (.str []))] []), iN (.store 7 (.t 2) (.t 56)), iI 3 (.mv (.c (.int .i64 3)))]) .ret) (.skip)
def c89_4 : C := .seq (.reg [iI 54 (.mv (.t 6)), iI 55 (.bin .neq (.t 54) (.c (.int .i64 0)))]) c89_3
def c89_5 : C := .seq (.reg [iI 45 (.mv (.t 12)), iI 46 (.faddr 1 (.t 4)), iI 47 (.load 0 (.t 46)), iI 48 (.mv (.t 10)), iI 49 (.call (.c (.fn 137 [])) [(.t 47), (.t 48)]), iI 44 (.mv (.t 49)), iI 50 (.ext (.t 44) 0), iI 51 (.ext (.t 44) 1), iI 52 (.ext (.t 44) 2), iI 53 (.nilchk (.t 45)), iN (.store 0 (.t 53) (.t 50)), iI 10 (.mv (.t 51)), iI 6 (.mv (.t 52))]) c89_4
def c89_6 : C := .reg [iI 57 (.bin .add (.t 41) (.c (.int .i64 1))), iI 41 (.mv (.t 57))]
def c89_7 : C := .seq (.block 2 (.seq (.reg [iI 43 (.idx 0 6 (.t 40) (.t 41)), iI 12 (.mv (.t 43))]) c89_5)) c89_6
def c89_8 : C := .seq (.cond (.t 42) (.skip) (.exit 1)) c89_7
def c89_9 : C := .block 1 (.loop (.seq (.reg [iI 42 (.bin .lss (.t 41) (.c (.int .i64 6)))]) c89_8))
def c89_10 : C := .cond (.t 84) (.seq (.reg [iI 85 (.build [(1, (.int .u64 0)), (1, (.int .i64 0)), (1, (.int .i64 0)), (1, (.int .i64 0)), (1, (.int .i64 0)), (1, (.bool false)), (1, (.str []))] []), iN (.store 7 (.t 2) (.t 85)), iI 3 (.mv (.c (.int .i64 3)))]) .ret) (.skip)
def c89_11 : C := .cond (.t 95) (.seq (.reg [iI 96 (.build [(1, (.int .u64 0)), (1, (.int .i64 0)), (1, (.int .i64 0)), (1, (.int .i64 0)), (1, (.int .i64 0)), (1, (.bool false)), (1, (.str []))] []), iI 97 (.mv (.t 13)), iN (.store 7 (.t 2) (.t 96)), iI 3 (.mv (.t 97))]) .ret) (.skip)
def c89_12 : C := .seq (.reg [iI 94 (.mv (.t 13)), iI 95 (.bin .neq (.t 94) (.c (.int .i64 0)))]) c89_11
def c89_13 : C := .seq (.reg [iI 98 (.load 7 (.t 7)), iN (.store 7 (.t 2) (.t 98)), iI 3 (.mv (.c (.int .i64 0)))]) .ret
def c89_14 : C := .seq (.seq (.reg [iI 92 (.load 7 (.t 7)), iI 93 (.call (.c (.fn 59 [])) [(.t 92)]), iI 13 (.mv (.t 93))]) c89_12) c89_13
def c89_15 : C := .seq (.reg [iI 86 (.load 0 (.t 8)), iI 87 (.cint .u64 (.t 86)), iI 88 (.load 0 (.t 9)), iI 89 (.bin .eql (.t 88) (.c (.int .i64 1))), iI 90 (.faddr 0 (.t 7)), iN (.store 0 (.t 90) (.t 87)), iI 91 (.faddr 5 (.t 7)), iN (.store 0 (.t 91) (.t 89))]) c89_14
def c89_16 : C := .seq (.seq (.reg [iI 67 (.mv (.t 6)), iI 68 (.bin .neq (.t 67) (.c (.int .i64 0))), iI 69 (.mv (.t 68)), iG (some 70) 69 false (.mv (.t 10)), iG (some 71) 69 false (.faddr 1 (.t 4)), iG (some 72) 69 false (.load 0 (.t 71)), iG (some 73) 69 false (.len 1 (.t 72)), iG (some 74) 69 false (.bin .lss (.t 70) (.t 73)), iI 75 (.pick (.t 69) (.c (.bool true)) (.t 74)), iI 76 (.mv (.t 75)), iG (some 77) 76 false (.load 0 (.t 8)), iG (some 78) 76 false (.bin .lss (.t 77) (.c (.int .i64 0))), iI 79 (.pick (.t 76) (.c (.bool true)) (.t 78)), iI 80 (.mv (.t 79)), iG (some 81) 80 false (.load 0 (.t 9)), iG (some 82) 80 false (.call (.c (.fn 93 [])) [(.t 81), (.c (.int .i64 0)), (.c (.int .i64 1))]), iG (some 83) 80 false (.un .not (.t 82)), iI 84 (.pick (.t 80) (.c (.bool true)) (.t 83))]) c89_10) c89_15
def c89_17 : C := .seq (.reg [iI 59 (.faddr 1 (.t 4)), iI 60 (.load 0 (.t 59)), iI 61 (.mv (.t 10)), iI 62 (.call (.c (.fn 138 [])) [(.t 60), (.t 61)]), iI 58 (.mv (.t 62)), iI 63 (.ext (.t 58) 0), iI 64 (.ext (.t 58) 1), iI 65 (.ext (.t 58) 2), iI 66 (.faddr 6 (.t 7)), iN (.store 0 (.t 66) (.t 63)), iI 10 (.mv (.t 64)), iI 6 (.mv (.t 65))]) c89_16
def c89_18 : C := .seq (.seq (.reg [iI 36 (.faddr 1 (.t 7)), iI 37 (.faddr 2 (.t 7)), iI 38 (.faddr 3 (.t 7)), iI 39 (.faddr 4 (.t 7)), iI 40 (.build [(6, .nilp)] [(0, 0, (.t 8)), (1, 0, (.t 36)), (2, 0, (.t 37)), (3, 0, (.t 38)), (4, 0, (.t 39)), (5, 0, (.t 9))]), iI 41 (.mv (.c (.int .i64 0)))]) c89_9) c89_17
def c89_19 : C := .seq (.reg [iI 8 (.alloc [(1, (.int .i64 0))]), iI 9 (.alloc [(1, (.int .i64 0))]), iN (.store 0 (.t 8) (.c (.int .i64 0))), iN (.store 0 (.t 9) (.c (.int .i64 0))), iI 10 (.mv (.c (.int .i64 0)))]) c89_18
def c89_20 : C := .seq (.reg [iI 7 (.alloc [(1, (.int .u64 0)), (1, (.int .i64 0)), (1, (.int .i64 0)), (1, (.int .i64 0)), (1, (.int .i64 0)), (1, (.bool false)), (1, (.str []))])]) c89_19
def c89_21 : C := .seq (.block 0 (.seq (.reg [iI 21 (.mv (.t 6)), iI 22 (.bin .neq (.t 21) (.c (.int .i64 0))), iI 20 (.mv (.t 22))]) c89_2)) c89_20
def c89_22 : C := .seq (.reg [iI 15 (.mv (.t 0)), iI 16 (.call (.c (.fn 136 [])) [(.t 15), (.c (.int .i64 0))]), iI 14 (.mv (.t 16)), iI 17 (.ext (.t 14) 0), iI 18 (.ext (.t 14) 1), iI 19 (.ext (.t 14) 2), iI 4 (.alloc [(1, (.int .i64 0)), (1, (.str []))]), iN (.store 2 (.t 4) (.t 17)), iI 5 (.mv (.t 18)), iI 6 (.mv (.t 19))]) c89_21
def ir89 : C := .seq (.reg [iI 2 (.alloc [(1, (.int .u64 0)), (1, (.int .i64 0)), (1, (.int .i64 0)), (1, (.int .i64 0)), (1, (.int .i64 0)), (1, (.bool false)), (1, (.str []))]), iI 3 (.mv (.c (.int .i64 0)))]) c89_22
theorem fd89 : fd? Try.prog 89 = some (99, [.cell 2 7, .slot 3], ir89) := by kernel_rfl
noncomputable def f89 (x0 : (List UInt8)) : Option (NetworkPacket × Int) :=
  (f136 x0 0).bind fun x1 => (if (decide (x1.2.2 ≠ 0)) = true then (some ((NetworkPacket.mk 0 0 0 0 0 false ([])), x1.2.2)) else (if (decide (x1.2.1 < ((x0.length : Nat) : Int))) = true then (some ((NetworkPacket.mk 0 0 0 0 0 false ([])), 13)) else (if (decide (x1.1.fKind ≠ 85)) = true then (some ((NetworkPacket.mk 0 0 0 0 0 false ([])), 1)) else (f137 x1.1.fData 0).bind fun x2 => (if (decide (x2.2.2 ≠ 0)) = true then (some ((NetworkPacket.mk 0 0 0 0 0 false ([])), 3)) else (f137 x1.1.fData x2.2.1).bind fun x3 => (if (decide (x3.2.2 ≠ 0)) = true then (some ((NetworkPacket.mk 0 0 0 0 0 false ([])), 3)) else (f137 x1.1.fData x3.2.1).bind fun x4 => (if (decide (x4.2.2 ≠ 0)) = true then (some ((NetworkPacket.mk 0 0 0 0 0 false ([])), 3)) else (f137 x1.1.fData x4.2.1).bind fun x5 => (if (decide (x5.2.2 ≠ 0)) = true then (some ((NetworkPacket.mk 0 0 0 0 0 false ([])), 3)) else (f137 x1.1.fData x5.2.1).bind fun x6 => (if (decide (x6.2.2 ≠ 0)) = true then (some ((NetworkPacket.mk 0 0 0 0 0 false ([])), 3)) else (f137 x1.1.fData x6.2.1).bind fun x7 => (if (decide (x7.2.2 ≠ 0)) = true then (some ((NetworkPacket.mk 0 0 0 0 0 false ([])), 3)) else ((f89_J1 x1).run (x7.2.1, x3.1, x4.1, x5.1, x6.1, x2.1, x7.1)))))))))))
theorem f89_ok {x0 : (List UInt8)} {r_ : NetworkPacket × Int} (H : f89 x0 = some r_) : Pure Try.prog 89 [.str x0] (· = .tup [.agg [.int .u64 r_.1.fSource, .int .i64 r_.1.fUniverse, .int .i64 r_.1.fPriority, .int .i64 r_.1.fSeq, .int .i64 r_.1.fSync, .bool r_.1.fEnd, .str r_.1.fSlots], .int .i64 r_.2]) := by
 refine Pure.walk3 fd89 none (Nat.le_of_ble_eq_true rfl) (by rfl) fun Q hQ => ?_
 simp only [f89] at H
 refine AW.rseq ?_
 try simp only [↓wk, ↓wl, nq, evV, ↓reduceIte, sevalprocAttr]
 refine AW.rseq ?_
 try simp only [↓wk, ↓wl, nq, evV, ↓reduceIte, sevalprocAttr]
 refine evTs_pure hFn H (fun _ h => f136_ok h) (by rfl) (by rfl) (by rfl) (by rfl) (fun _ => rfl) ?_ <;> clear H <;> intro x1 H
 try simp only [eL, eRecordEntry, ↓wk, ↓wl, nq, evV, ↓reduceIte, sevalprocAttr]
 refine AW.bseq ?_
 refine AW.rseq ?_
 try simp only [↓wk, ↓wl, nq, evV, ↓reduceIte, sevalprocAttr]
 refine AW.ifc H (by rfl) ?_ ?_ <;> clear H <;> intro H
 ·refine AW.rseq ?_
  try simp only [↓wk, ↓wl, nq, evV, ↓reduceIte, sevalprocAttr]
  refine AW.ret ?_
  refine blkQ.ret ?_
  cases H
  exact hQ.fin
 ·refine AW.rseq ?_
  try simp only [↓wk, ↓wl, nq, evV, ↓reduceIte, sevalprocAttr]
  refine AW.ifc H (by rfl) ?_ ?_ <;> clear H <;> intro H
  ·refine AW.rseq ?_
   try simp only [↓wk, ↓wl, nq, evV, ↓reduceIte, sevalprocAttr]
   refine AW.ret ?_
   refine blkQ.ret ?_
   cases H
   exact hQ.fin
  ·refine AW.rseq ?_
   try simp only [↓wk, ↓wl, nq, evV, ↓reduceIte, sevalprocAttr]
   refine AW.ifc H (by rfl) ?_ ?_ <;> clear H <;> intro H
   ·refine AW.rseq ?_
    try simp only [↓wk, ↓wl, nq, evV, ↓reduceIte, sevalprocAttr]
    refine AW.ret ?_
    refine blkQ.ret ?_
    cases H
    exact hQ.fin
   ·refine AW.skip ?_
    refine blkQ.norm ?_
    refine AW.rseq ?_
    try simp only [↓wk, ↓wl, nq, evV, ↓reduceIte, sevalprocAttr]
    refine AW.rseq ?_
    try simp only [↓wk, ↓wl, nq, evV, ↓reduceIte, sevalprocAttr]
    refine AW.join (f89_J1 x1) H ?_ fun hf89_J1 => ?_
    ·clear H
     rintro ⟨x2, x3, x4, x5, x6, x7, x8⟩ st0_ H hst_
     rw [f89_J1c] at hst_
     simp only [f89_J1] at H
     subst hst_
     refine AW.rseq ?_
     try simp only [↓wk, ↓wl, nq, evV, ↓reduceIte, sevalprocAttr]
     refine evTs_pure hFn H (fun _ h => f138_ok h) (by rfl) (by rfl) (by rfl) (by rfl) (fun _ => rfl) ?_ <;> clear H <;> intro x9 H
     try simp only [eL, ↓wk, ↓wl, nq, evV, ↓reduceIte, sevalprocAttr]
     refine AW.sseq ?_
     refine AW.rseq ?_
     try simp only [↓wk, ↓wl, nq, evV, ↓reduceIte, sevalprocAttr]
     refine evTs_ifg H (by rfl) ?_ ?_ <;> clear H <;> intro H
     ·try simp only [↓wk, ↓wl, nq, evV, ↓reduceIte, sevalprocAttr]
      refine AW.ift (by rfl) ?_
      refine AW.rseq ?_
      try simp only [↓wk, ↓wl, nq, evV, ↓reduceIte, sevalprocAttr]
      refine AW.ret ?_
      refine seqQ.ret ?_
      cases H
      exact hQ.fin
     ·try simp only [↓wk, ↓wl, nq, evV, ↓reduceIte, sevalprocAttr]
      refine evTs_ifg H (by rfl) ?_ ?_ <;> clear H <;> intro H
      ·try simp only [↓wk, ↓wl, nq, evV, ↓reduceIte, sevalprocAttr]
       refine AW.ift (by rfl) ?_
       refine AW.rseq ?_
       try simp only [↓wk, ↓wl, nq, evV, ↓reduceIte, sevalprocAttr]
       refine AW.ret ?_
       refine seqQ.ret ?_
       cases H
       exact hQ.fin
      ·try simp only [↓wk, ↓wl, nq, evV, ↓reduceIte, sevalprocAttr]
       refine evTs_ifg H (by rfl) ?_ ?_ <;> clear H <;> intro H
       ·try simp only [↓wk, ↓wl, nq, evV, ↓reduceIte, sevalprocAttr]
        refine AW.ift (by rfl) ?_
        refine AW.rseq ?_
        try simp only [↓wk, ↓wl, nq, evV, ↓reduceIte, sevalprocAttr]
        refine AW.ret ?_
        refine seqQ.ret ?_
        cases H
        exact hQ.fin
       ·try simp only [↓wk, ↓wl, nq, evV, ↓reduceIte, sevalprocAttr]
        refine evTs_pure hFn H (fun _ h => f93_ok h) (by rfl) (by rfl) (by rfl) (by rfl) (fun _ => rfl) ?_ <;> clear H <;> intro xa H
        try simp only [eL, ↓wk, ↓wl, nq, evV, ↓reduceIte, sevalprocAttr]
        refine AW.ifc H (by rfl) ?_ ?_ <;> clear H <;> intro H
        ·refine AW.rseq ?_
         try simp only [↓wk, ↓wl, nq, evV, ↓reduceIte, sevalprocAttr]
         refine AW.ret ?_
         refine seqQ.ret ?_
         cases H
         exact hQ.fin
        ·refine AW.skip ?_
         refine seqQ.norm ?_
         refine AW.rseq ?_
         try simp only [↓wk, ↓wl, nq, evV, ↓reduceIte, sevalprocAttr]
         refine AW.sseq ?_
         refine AW.rseq ?_
         try simp only [↓wk, ↓wl, nq, evV, ↓reduceIte, sevalprocAttr]
         refine evTs_pure hFn H (fun _ h => f59_ok h) (by rfl) (by rfl) (by rfl) (by rfl) (fun _ => rfl) ?_ <;> clear H <;> intro xb H
         try simp only [eL, ↓wk, ↓wl, nq, evV, ↓reduceIte, sevalprocAttr]
         refine AW.rseq ?_
         try simp only [↓wk, ↓wl, nq, evV, ↓reduceIte, sevalprocAttr]
         refine AW.ifc H (by rfl) ?_ ?_ <;> clear H <;> intro H
         ·refine AW.rseq ?_
          try simp only [↓wk, ↓wl, nq, evV, ↓reduceIte, sevalprocAttr]
          refine AW.ret ?_
          refine seqQ.ret ?_
          cases H
          exact hQ.fin
         ·refine AW.skip ?_
          refine seqQ.norm ?_
          refine AW.rseq ?_
          try simp only [↓wk, ↓wl, nq, evV, ↓reduceIte, sevalprocAttr]
          refine AW.ret ?_
          cases H
          exact hQ.fin
    ·refine AW.rseq ?_
     try simp only [↓wk, ↓wl, nq, evV, ↓reduceIte, sevalprocAttr]
     refine AW.bend ?_
     refine AW.rounds 40 ?_
     refine Rounds.go ?_
     refine AW.rseq ?_
     try simp only [↓wk, ↓wl, nq, evV, ↓reduceIte, sevalprocAttr]
     refine AW.sseq ?_
     refine AW.ift (by rfl) ?_
     refine AW.skip ?_
     refine seqQ.norm ?_
     refine AW.bseq ?_
     refine AW.rseq ?_
     try simp only [↓wk, ↓wl, nq, evV, ↓reduceIte, sevalprocAttr]
     refine evTs_any (v := .ptr 3 0) rfl (by rfl) ?_
     try simp only [↓wk, ↓wl, nq, evV, ↓reduceIte, sevalprocAttr]
     refine AW.rseq ?_
     try simp only [↓wk, ↓wl, nq, evV, ↓reduceIte, sevalprocAttr]
     refine evTs_pure hFn H (fun _ h => f137_ok h) (by rfl) (by rfl) (by rfl) (by rfl) (fun _ => rfl) ?_ <;> clear H <;> intro xc H
     try simp only [eL, ↓wk, ↓wl, nq, evV, ↓reduceIte, sevalprocAttr]
     refine AW.rseq ?_
     try simp only [↓wk, ↓wl, nq, evV, ↓reduceIte, sevalprocAttr]
     refine AW.ifc H (by rfl) ?_ ?_ <;> clear H <;> intro H
     ·refine AW.rseq ?_
      try simp only [↓wk, ↓wl, nq, evV, ↓reduceIte, sevalprocAttr]
      refine AW.ret ?_
      refine blkQ.ret ?_
      refine roundQ.ret ?_
      refine blk0.ret ?_
      refine seqQ.ret ?_
      cases H
      exact hQ.fin
     ·refine AW.skip ?_
      refine blkQ.norm ?_
      refine AW.rend ?_
      try simp only [↓wk, ↓wl, nq, evV, ↓reduceIte, sevalprocAttr]
      refine roundQ.next (st2 := ⟨put (put (put (put (put (put (put (put (fun _ => .junk) 41 (.int .i64 1)) 40 (.agg [.ptr 3 0, .ptr 2 1, .ptr 2 2, .ptr 2 3, .ptr 2 4, .ptr 4 0])) 10 (.int .i64 xc.2.1)) 9 (.ptr 4 0)) 8 (.ptr 3 0)) 7 (.ptr 2 0)) 4 (.ptr 1 0)) 2 (.ptr 0 0), [.cel [.int .u64 0, .int .i64 0, .int .i64 0, .int .i64 0, .int .i64 0, .bool false, .str ([])], .cel [.int .i64 x1.1.fKind, .str x1.1.fData], .cel [.int .u64 0, .int .i64 0, .int .i64 0, .int .i64 0, .int .i64 0, .bool false, .str ([])], .cel [.int .i64 xc.1], .cel [.int .i64 0]]⟩) (Le.tz [0, 1, 2, 3, 4] [2, 4, 7, 8, 9, 10, 40, 41] (by simp only [rrm, ↓wk, ↓wl, evV, ↓reduceIte, sevalprocAttr] <;> rfl)) ?_
      refine Rounds.go ?_
      refine AW.rseq ?_
      try simp only [↓wk, ↓wl, nq, evV, ↓reduceIte, sevalprocAttr]
      refine AW.sseq ?_
      refine AW.ift (by rfl) ?_
      refine AW.skip ?_
      refine seqQ.norm ?_
      refine AW.bseq ?_
      refine AW.rseq ?_
      try simp only [↓wk, ↓wl, nq, evV, ↓reduceIte, sevalprocAttr]
      refine evTs_any (v := .ptr 2 1) rfl (by rfl) ?_
      try simp only [↓wk, ↓wl, nq, evV, ↓reduceIte, sevalprocAttr]
      refine AW.rseq ?_
      try simp only [↓wk, ↓wl, nq, evV, ↓reduceIte, sevalprocAttr]
      refine evTs_pure hFn H (fun _ h => f137_ok h) (by rfl) (by rfl) (by rfl) (by rfl) (fun _ => rfl) ?_ <;> clear H <;> intro xd H
      try simp only [eL, ↓wk, ↓wl, nq, evV, ↓reduceIte, sevalprocAttr]
      refine AW.rseq ?_
      try simp only [↓wk, ↓wl, nq, evV, ↓reduceIte, sevalprocAttr]
      refine AW.ifc H (by rfl) ?_ ?_ <;> clear H <;> intro H
      ·refine AW.rseq ?_
       try simp only [↓wk, ↓wl, nq, evV, ↓reduceIte, sevalprocAttr]
       refine AW.ret ?_
       refine blkQ.ret ?_
       refine roundQ.ret ?_
       refine blk0.ret ?_
       refine seqQ.ret ?_
       cases H
       exact hQ.fin
      ·refine AW.skip ?_
       refine blkQ.norm ?_
       refine AW.rend ?_
       try simp only [↓wk, ↓wl, nq, evV, ↓reduceIte, sevalprocAttr]
       refine roundQ.next (st2 := ⟨put (put (put (put (put (put (put (put (fun _ => .junk) 41 (.int .i64 2)) 40 (.agg [.ptr 3 0, .ptr 2 1, .ptr 2 2, .ptr 2 3, .ptr 2 4, .ptr 4 0])) 10 (.int .i64 xd.2.1)) 9 (.ptr 4 0)) 8 (.ptr 3 0)) 7 (.ptr 2 0)) 4 (.ptr 1 0)) 2 (.ptr 0 0), [.cel [.int .u64 0, .int .i64 0, .int .i64 0, .int .i64 0, .int .i64 0, .bool false, .str ([])], .cel [.int .i64 x1.1.fKind, .str x1.1.fData], .cel [.int .u64 0, .int .i64 xd.1, .int .i64 0, .int .i64 0, .int .i64 0, .bool false, .str ([])], .cel [.int .i64 xc.1], .cel [.int .i64 0]]⟩) (Le.tz [0, 1, 2, 3, 4] [2, 4, 7, 8, 9, 10, 40, 41] (by simp only [rrm, ↓wk, ↓wl, evV, ↓reduceIte, sevalprocAttr] <;> rfl)) ?_
       refine Rounds.go ?_
       refine AW.rseq ?_
       try simp only [↓wk, ↓wl, nq, evV, ↓reduceIte, sevalprocAttr]
       refine AW.sseq ?_
       refine AW.ift (by rfl) ?_
       refine AW.skip ?_
       refine seqQ.norm ?_
       refine AW.bseq ?_
       refine AW.rseq ?_
       try simp only [↓wk, ↓wl, nq, evV, ↓reduceIte, sevalprocAttr]
       refine evTs_any (v := .ptr 2 2) rfl (by rfl) ?_
       try simp only [↓wk, ↓wl, nq, evV, ↓reduceIte, sevalprocAttr]
       refine AW.rseq ?_
       try simp only [↓wk, ↓wl, nq, evV, ↓reduceIte, sevalprocAttr]
       refine evTs_pure hFn H (fun _ h => f137_ok h) (by rfl) (by rfl) (by rfl) (by rfl) (fun _ => rfl) ?_ <;> clear H <;> intro xe H
       try simp only [eL, ↓wk, ↓wl, nq, evV, ↓reduceIte, sevalprocAttr]
       refine AW.rseq ?_
       try simp only [↓wk, ↓wl, nq, evV, ↓reduceIte, sevalprocAttr]
       refine AW.ifc H (by rfl) ?_ ?_ <;> clear H <;> intro H
       ·refine AW.rseq ?_
        try simp only [↓wk, ↓wl, nq, evV, ↓reduceIte, sevalprocAttr]
        refine AW.ret ?_
        refine blkQ.ret ?_
        refine roundQ.ret ?_
        refine blk0.ret ?_
        refine seqQ.ret ?_
        cases H
        exact hQ.fin
       ·refine AW.skip ?_
        refine blkQ.norm ?_
        refine AW.rend ?_
        try simp only [↓wk, ↓wl, nq, evV, ↓reduceIte, sevalprocAttr]
        refine roundQ.next (st2 := ⟨put (put (put (put (put (put (put (put (fun _ => .junk) 41 (.int .i64 3)) 40 (.agg [.ptr 3 0, .ptr 2 1, .ptr 2 2, .ptr 2 3, .ptr 2 4, .ptr 4 0])) 10 (.int .i64 xe.2.1)) 9 (.ptr 4 0)) 8 (.ptr 3 0)) 7 (.ptr 2 0)) 4 (.ptr 1 0)) 2 (.ptr 0 0), [.cel [.int .u64 0, .int .i64 0, .int .i64 0, .int .i64 0, .int .i64 0, .bool false, .str ([])], .cel [.int .i64 x1.1.fKind, .str x1.1.fData], .cel [.int .u64 0, .int .i64 xd.1, .int .i64 xe.1, .int .i64 0, .int .i64 0, .bool false, .str ([])], .cel [.int .i64 xc.1], .cel [.int .i64 0]]⟩) (Le.tz [0, 1, 2, 3, 4] [2, 4, 7, 8, 9, 10, 40, 41] (by simp only [rrm, ↓wk, ↓wl, evV, ↓reduceIte, sevalprocAttr] <;> rfl)) ?_
        refine Rounds.go ?_
        refine AW.rseq ?_
        try simp only [↓wk, ↓wl, nq, evV, ↓reduceIte, sevalprocAttr]
        refine AW.sseq ?_
        refine AW.ift (by rfl) ?_
        refine AW.skip ?_
        refine seqQ.norm ?_
        refine AW.bseq ?_
        refine AW.rseq ?_
        try simp only [↓wk, ↓wl, nq, evV, ↓reduceIte, sevalprocAttr]
        refine evTs_any (v := .ptr 2 3) rfl (by rfl) ?_
        try simp only [↓wk, ↓wl, nq, evV, ↓reduceIte, sevalprocAttr]
        refine AW.rseq ?_
        try simp only [↓wk, ↓wl, nq, evV, ↓reduceIte, sevalprocAttr]
        refine evTs_pure hFn H (fun _ h => f137_ok h) (by rfl) (by rfl) (by rfl) (by rfl) (fun _ => rfl) ?_ <;> clear H <;> intro xf H
        try simp only [eL, ↓wk, ↓wl, nq, evV, ↓reduceIte, sevalprocAttr]
        refine AW.rseq ?_
        try simp only [↓wk, ↓wl, nq, evV, ↓reduceIte, sevalprocAttr]
        refine AW.ifc H (by rfl) ?_ ?_ <;> clear H <;> intro H
        ·refine AW.rseq ?_
         try simp only [↓wk, ↓wl, nq, evV, ↓reduceIte, sevalprocAttr]
         refine AW.ret ?_
         refine blkQ.ret ?_
         refine roundQ.ret ?_
         refine blk0.ret ?_
         refine seqQ.ret ?_
         cases H
         exact hQ.fin
        ·refine AW.skip ?_
         refine blkQ.norm ?_
         refine AW.rend ?_
         try simp only [↓wk, ↓wl, nq, evV, ↓reduceIte, sevalprocAttr]
         refine roundQ.next (st2 := ⟨put (put (put (put (put (put (put (put (fun _ => .junk) 41 (.int .i64 4)) 40 (.agg [.ptr 3 0, .ptr 2 1, .ptr 2 2, .ptr 2 3, .ptr 2 4, .ptr 4 0])) 10 (.int .i64 xf.2.1)) 9 (.ptr 4 0)) 8 (.ptr 3 0)) 7 (.ptr 2 0)) 4 (.ptr 1 0)) 2 (.ptr 0 0), [.cel [.int .u64 0, .int .i64 0, .int .i64 0, .int .i64 0, .int .i64 0, .bool false, .str ([])], .cel [.int .i64 x1.1.fKind, .str x1.1.fData], .cel [.int .u64 0, .int .i64 xd.1, .int .i64 xe.1, .int .i64 xf.1, .int .i64 0, .bool false, .str ([])], .cel [.int .i64 xc.1], .cel [.int .i64 0]]⟩) (Le.tz [0, 1, 2, 3, 4] [2, 4, 7, 8, 9, 10, 40, 41] (by simp only [rrm, ↓wk, ↓wl, evV, ↓reduceIte, sevalprocAttr] <;> rfl)) ?_
         refine Rounds.go ?_
         refine AW.rseq ?_
         try simp only [↓wk, ↓wl, nq, evV, ↓reduceIte, sevalprocAttr]
         refine AW.sseq ?_
         refine AW.ift (by rfl) ?_
         refine AW.skip ?_
         refine seqQ.norm ?_
         refine AW.bseq ?_
         refine AW.rseq ?_
         try simp only [↓wk, ↓wl, nq, evV, ↓reduceIte, sevalprocAttr]
         refine evTs_any (v := .ptr 2 4) rfl (by rfl) ?_
         try simp only [↓wk, ↓wl, nq, evV, ↓reduceIte, sevalprocAttr]
         refine AW.rseq ?_
         try simp only [↓wk, ↓wl, nq, evV, ↓reduceIte, sevalprocAttr]
         refine evTs_pure hFn H (fun _ h => f137_ok h) (by rfl) (by rfl) (by rfl) (by rfl) (fun _ => rfl) ?_ <;> clear H <;> intro xg H
         try simp only [eL, ↓wk, ↓wl, nq, evV, ↓reduceIte, sevalprocAttr]
         refine AW.rseq ?_
         try simp only [↓wk, ↓wl, nq, evV, ↓reduceIte, sevalprocAttr]
         refine AW.ifc H (by rfl) ?_ ?_ <;> clear H <;> intro H
         ·refine AW.rseq ?_
          try simp only [↓wk, ↓wl, nq, evV, ↓reduceIte, sevalprocAttr]
          refine AW.ret ?_
          refine blkQ.ret ?_
          refine roundQ.ret ?_
          refine blk0.ret ?_
          refine seqQ.ret ?_
          cases H
          exact hQ.fin
         ·refine AW.skip ?_
          refine blkQ.norm ?_
          refine AW.rend ?_
          try simp only [↓wk, ↓wl, nq, evV, ↓reduceIte, sevalprocAttr]
          refine roundQ.next (st2 := ⟨put (put (put (put (put (put (put (put (fun _ => .junk) 41 (.int .i64 5)) 40 (.agg [.ptr 3 0, .ptr 2 1, .ptr 2 2, .ptr 2 3, .ptr 2 4, .ptr 4 0])) 10 (.int .i64 xg.2.1)) 9 (.ptr 4 0)) 8 (.ptr 3 0)) 7 (.ptr 2 0)) 4 (.ptr 1 0)) 2 (.ptr 0 0), [.cel [.int .u64 0, .int .i64 0, .int .i64 0, .int .i64 0, .int .i64 0, .bool false, .str ([])], .cel [.int .i64 x1.1.fKind, .str x1.1.fData], .cel [.int .u64 0, .int .i64 xd.1, .int .i64 xe.1, .int .i64 xf.1, .int .i64 xg.1, .bool false, .str ([])], .cel [.int .i64 xc.1], .cel [.int .i64 0]]⟩) (Le.tz [0, 1, 2, 3, 4] [2, 4, 7, 8, 9, 10, 40, 41] (by simp only [rrm, ↓wk, ↓wl, evV, ↓reduceIte, sevalprocAttr] <;> rfl)) ?_
          refine Rounds.go ?_
          refine AW.rseq ?_
          try simp only [↓wk, ↓wl, nq, evV, ↓reduceIte, sevalprocAttr]
          refine AW.sseq ?_
          refine AW.ift (by rfl) ?_
          refine AW.skip ?_
          refine seqQ.norm ?_
          refine AW.bseq ?_
          refine AW.rseq ?_
          try simp only [↓wk, ↓wl, nq, evV, ↓reduceIte, sevalprocAttr]
          refine evTs_any (v := .ptr 4 0) rfl (by rfl) ?_
          try simp only [↓wk, ↓wl, nq, evV, ↓reduceIte, sevalprocAttr]
          refine AW.rseq ?_
          try simp only [↓wk, ↓wl, nq, evV, ↓reduceIte, sevalprocAttr]
          refine evTs_pure hFn H (fun _ h => f137_ok h) (by rfl) (by rfl) (by rfl) (by rfl) (fun _ => rfl) ?_ <;> clear H <;> intro xh H
          try simp only [eL, ↓wk, ↓wl, nq, evV, ↓reduceIte, sevalprocAttr]
          refine AW.rseq ?_
          try simp only [↓wk, ↓wl, nq, evV, ↓reduceIte, sevalprocAttr]
          refine AW.ifc H (by rfl) ?_ ?_ <;> clear H <;> intro H
          ·refine AW.rseq ?_
           try simp only [↓wk, ↓wl, nq, evV, ↓reduceIte, sevalprocAttr]
           refine AW.ret ?_
           refine blkQ.ret ?_
           refine roundQ.ret ?_
           refine blk0.ret ?_
           refine seqQ.ret ?_
           cases H
           exact hQ.fin
          ·refine AW.skip ?_
           refine blkQ.norm ?_
           refine AW.rend ?_
           try simp only [↓wk, ↓wl, nq, evV, ↓reduceIte, sevalprocAttr]
           refine roundQ.next (st2 := ⟨put (put (put (put (put (put (put (put (fun _ => .junk) 41 (.int .i64 6)) 40 (.agg [.ptr 3 0, .ptr 2 1, .ptr 2 2, .ptr 2 3, .ptr 2 4, .ptr 4 0])) 10 (.int .i64 xh.2.1)) 9 (.ptr 4 0)) 8 (.ptr 3 0)) 7 (.ptr 2 0)) 4 (.ptr 1 0)) 2 (.ptr 0 0), [.cel [.int .u64 0, .int .i64 0, .int .i64 0, .int .i64 0, .int .i64 0, .bool false, .str ([])], .cel [.int .i64 x1.1.fKind, .str x1.1.fData], .cel [.int .u64 0, .int .i64 xd.1, .int .i64 xe.1, .int .i64 xf.1, .int .i64 xg.1, .bool false, .str ([])], .cel [.int .i64 xc.1], .cel [.int .i64 xh.1]]⟩) (Le.tz [0, 1, 2, 3, 4] [2, 4, 7, 8, 9, 10, 40, 41] (by simp only [rrm, ↓wk, ↓wl, evV, ↓reduceIte, sevalprocAttr] <;> rfl)) ?_
           refine Rounds.go ?_
           refine AW.rseq ?_
           try simp only [↓wk, ↓wl, nq, evV, ↓reduceIte, sevalprocAttr]
           refine AW.sseq ?_
           refine AW.iff (by rfl) ?_
           refine AW.exit ?_
           refine seqQ.exit ?_
           refine roundQ.exit ?_
           refine blk0.here ?_
           refine seqQ.norm ?_
           exact hf89_J1 _ _ H ((Le.tz [0, 1, 2, 3, 4] [2, 4, 7, 8, 9, 10] (by simp only [f89_J1c, rrm, ↓wk, ↓wl, evV, ↓reduceIte, sevalprocAttr] <;> rfl)))
noncomputable def f51_L1 (x0 : (List NetworkPacket)) (x1 : Bool) (x2 : Int) : Lp (Int × (List ReceiverInput)) (((List ReceiverInput)) ⊕ ((List ReceiverInput))) where
  body := fun (x3, x4) => (if (decide (x3 < ((x0.length : Nat) : Int))) = true then (at? x0 x3).bind fun x5 => (f88 x5).bind fun x6 => (f89 x6.1).bind fun x7 => (if (decide (x6.2 ≠ 0)) = true then (some (.brk (Sum.inr x4))) else (if (decide (x7.2 ≠ 0)) = true then (some (.brk (Sum.inr x4))) else (if (!((x7.1.fSource == x5.fSource) && ((x7.1.fUniverse == x5.fUniverse) && ((x7.1.fPriority == x5.fPriority) && ((x7.1.fSeq == x5.fSeq) && ((x7.1.fSync == x5.fSync) && ((x7.1.fEnd == x5.fEnd) && ((x7.1.fSlots == x5.fSlots) && true)))))))) = true then (some (.brk (Sum.inr x4))) else (if x1 = true then (some (.next ((IntKind.i64.wrap (x3 + 1)), x4))) else (f16 (ReceiverReceiver.mk x4) x2 x7.1).bind fun x8 => (if (decide (x8.2.2 ≠ 0)) = true then (some (.brk (Sum.inr x4))) else (some (.next ((IntKind.i64.wrap (x3 + 1)), x8.1.fInputs)))))))) else (some (.brk (Sum.inl x4))))
  cst := fun (x3, x4) => ⟨put (put (put (put (put (put (put (fun _ => .junk) 20 (.int .i64 x3)) 19 (.int .i64 ((x0.length : Nat) : Int))) 18 (.sl 7 false (x0.map eNetworkPacket))) 8 (.ptr 1 0)) 4 (.ptr 0 0)) 3 (.bool x1)) 1 (.int .i64 x2), [.cel [.sl 8 false (x4.map eReceiverInput)], .cel [.sl 8 true []]]⟩
theorem f51_L1c (x0 : (List NetworkPacket)) (x1 : Bool) (x2 : Int) (x3 : Int) (x4 : (List ReceiverInput)) : (f51_L1 x0 x1 x2).cst (x3, x4) = ⟨put (put (put (put (put (put (put (fun _ => .junk) 20 (.int .i64 x3)) 19 (.int .i64 ((x0.length : Nat) : Int))) 18 (.sl 7 false (x0.map eNetworkPacket))) 8 (.ptr 1 0)) 4 (.ptr 0 0)) 3 (.bool x1)) 1 (.int .i64 x2), [.cel [.sl 8 false (x4.map eReceiverInput)], .cel [.sl 8 true []]]⟩ := rfl
def c51_0 : C := .cond (.t 44) (.seq (.reg [iI 45 (.load 1 (.t 4)), iN (.store 1 (.t 8) (.t 45)), iI 9 (.mv (.c (.bool false)))]) .ret) (.skip)
def c51_1 : C := .cond (.t 46) (.exit 1) (.skip)
def c51_2 : C := .cond (.t 56) (.seq (.reg [iI 57 (.load 1 (.t 4)), iN (.store 1 (.t 8) (.t 57)), iI 9 (.mv (.c (.bool false)))]) .ret) (.skip)
def c51_3 : C := .reg [iI 58 (.load 1 (.t 16)), iN (.store 1 (.t 4) (.t 58))]
def c51_4 : C := .seq (.seq (.reg [iI 55 (.mv (.t 13)), iI 56 (.bin .neq (.t 55) (.c (.int .i64 0)))]) c51_2) c51_3
def c51_5 : C := .seq (.reg [iI 48 (.load 1 (.t 4)), iI 49 (.mv (.t 1)), iI 50 (.load 7 (.t 14)), iI 51 (.call (.c (.fn 16 [])) [(.t 48), (.t 49), (.t 50)]), iI 47 (.mv (.t 51)), iI 52 (.ext (.t 47) 0), iI 53 (.ext (.t 47) 1), iI 54 (.ext (.t 47) 2), iI 16 (.alloc [(1, (.sl 8 true []))]), iN (.store 1 (.t 16) (.t 52)), iI 17 (.mv (.t 53)), iI 13 (.mv (.t 54))]) c51_4
def c51_6 : C := .seq (.seq (.reg [iI 46 (.mv (.t 3))]) c51_1) c51_5
def c51_7 : C := .seq (.seq (.reg [iI 34 (.mv (.t 13)), iI 35 (.bin .neq (.t 34) (.c (.int .i64 0))), iI 36 (.mv (.t 35)), iG (some 37) 36 false (.mv (.t 15)), iG (some 38) 36 false (.bin .neq (.t 37) (.c (.int .i64 0))), iI 39 (.pick (.t 36) (.c (.bool true)) (.t 38)), iI 40 (.mv (.t 39)), iG (some 41) 40 false (.load 7 (.t 14)), iG (some 42) 40 false (.load 7 (.t 11)), iG (some 43) 40 false (.eqs true [0, 0, 0, 0, 0, 2, 1] (.t 41) (.t 42)), iI 44 (.pick (.t 40) (.c (.bool true)) (.t 43))]) c51_0) c51_6
def c51_8 : C := .seq (.reg [iI 30 (.mv (.t 12)), iI 31 (.call (.c (.fn 89 [])) [(.t 30)]), iI 29 (.mv (.t 31)), iI 32 (.ext (.t 29) 0), iI 33 (.ext (.t 29) 1), iI 14 (.alloc [(1, (.int .u64 0)), (1, (.int .i64 0)), (1, (.int .i64 0)), (1, (.int .i64 0)), (1, (.int .i64 0)), (1, (.bool false)), (1, (.str []))]), iN (.store 7 (.t 14) (.t 32)), iI 15 (.mv (.t 33))]) c51_7
def c51_9 : C := .seq (.reg [iI 25 (.load 7 (.t 11)), iI 26 (.call (.c (.fn 88 [])) [(.t 25)]), iI 24 (.mv (.t 26)), iI 27 (.ext (.t 24) 0), iI 28 (.ext (.t 24) 1), iI 12 (.mv (.t 27)), iI 13 (.mv (.t 28))]) c51_8
def c51_10 : C := .reg [iI 59 (.bin .add (.t 20) (.c (.int .i64 1))), iI 20 (.mv (.t 59))]
def c51_11 : C := .seq (.block 1 (.seq (.reg [iI 22 (.iaddr 7 (.t 18) (.t 20)), iI 23 (.load 7 (.t 22)), iI 11 (.alloc [(1, (.int .u64 0)), (1, (.int .i64 0)), (1, (.int .i64 0)), (1, (.int .i64 0)), (1, (.int .i64 0)), (1, (.bool false)), (1, (.str []))]), iN (.store 7 (.t 11) (.t 23))]) c51_9)) c51_10
def c51_12 : C := .seq (.cond (.t 21) (.skip) (.exit 0)) c51_11
def c51_13 : C := .block 0 (.loop (.seq (.reg [iI 21 (.bin .lss (.t 20) (.t 19))]) c51_12))
def c51_14 : C := .seq (.reg [iI 60 (.load 1 (.t 4)), iN (.store 1 (.t 8) (.t 60)), iI 9 (.mv (.c (.bool true)))]) .ret
def c51_15 : C := .seq (.seq (.reg [iI 18 (.mv (.t 2)), iI 19 (.len 0 (.t 18)), iI 20 (.mv (.c (.int .i64 0)))]) c51_13) c51_14
def ir51 : C := .seq (.reg [iI 4 (.box (.t 0)), iI 8 (.alloc [(1, (.sl 8 true []))]), iI 9 (.mv (.c (.bool false)))]) c51_15
theorem fd51 : fd? Try.prog 51 = some (61, [.cell 8 1, .slot 9], ir51) := by kernel_rfl
noncomputable def f51 (x0 : ReceiverReceiver) (x1 : Int) (x2 : (List NetworkPacket)) (x3 : Bool) : Option (ReceiverReceiver × Bool) :=
  ((Lp.run (f51_L1 x2 x3 x1) (0, x0.fInputs)).bind fun r_ => match r_ with | (Sum.inl x4) => (some ((ReceiverReceiver.mk x4), true)) | (Sum.inr x5) => (some ((ReceiverReceiver.mk x5), false)))
theorem f51_ok {x0 : ReceiverReceiver} {x1 : Int} {x2 : (List NetworkPacket)} {x3 : Bool} {r_ : ReceiverReceiver × Bool} (H : f51 x0 x1 x2 x3 = some r_) : Pure Try.prog 51 [.agg [.sl 8 false (x0.fInputs.map eReceiverInput)], .int .i64 x1, .sl 7 false (x2.map eNetworkPacket), .bool x3] (· = .tup [.agg [.sl 8 false (r_.1.fInputs.map eReceiverInput)], .bool r_.2]) := by
 refine Pure.walk3 fd51 none (Nat.le_of_ble_eq_true rfl) (by rfl) fun Q hQ => ?_
 simp only [f51] at H
 refine AW.rseq ?_
 try simp only [↓wk, ↓wl, nq, evV, ↓reduceIte, sevalprocAttr]
 refine AW.sseq ?_
 refine AW.rseq ?_
 try simp only [↓wk, ↓wl, nq, evV, ↓reduceIte, sevalprocAttr]
 refine AW.bend ?_
 refine AW.iter H ((Le.tz [0, 1] [1, 3, 4, 8, 18, 19, 20] (by simp only [f51_L1c, rrm, ↓wk, ↓wl, evV, ↓reduceIte, sevalprocAttr] <;> rfl))) ?_ <;> clear H
 rintro ⟨x4, x5⟩ x_ st0_ H hst_
 rw [f51_L1c] at hst_
 simp only [f51_L1] at H
 subst hst_
 refine AW.rseq ?_
 try simp only [↓wk, ↓wl, nq, evV, ↓reduceIte, sevalprocAttr]
 refine AW.sseq ?_
 refine AW.ifc H (by rfl) ?_ ?_ <;> clear H <;> intro H
 ·refine AW.skip ?_
  refine seqQ.norm ?_
  refine AW.bseq ?_
  refine AW.rseq ?_
  try simp only [↓wk, ↓wl, nq, evV, ↓reduceIte, sevalprocAttr]
  refine evTs_at (enc := eNetworkPacket) H (by rfl) (by rfl) ?_ <;> clear H <;> intro x6 H
  try simp only [eNetworkPacket, eL, ↓wk, ↓wl, nq, evV, ↓reduceIte, sevalprocAttr]
  refine AW.rseq ?_
  try simp only [↓wk, ↓wl, nq, evV, ↓reduceIte, sevalprocAttr]
  refine evTs_pure hFn H (fun _ h => f88_ok h) (by rfl) (by rfl) (by rfl) (by rfl) (fun _ => rfl) ?_ <;> clear H <;> intro x7 H
  try simp only [eL, ↓wk, ↓wl, nq, evV, ↓reduceIte, sevalprocAttr]
  refine AW.rseq ?_
  try simp only [↓wk, ↓wl, nq, evV, ↓reduceIte, sevalprocAttr]
  refine evTs_pure hFn H (fun _ h => f89_ok h) (by rfl) (by rfl) (by rfl) (by rfl) (fun _ => rfl) ?_ <;> clear H <;> intro x8 H
  try simp only [eL, eNetworkPacket, ↓wk, ↓wl, nq, evV, ↓reduceIte, sevalprocAttr]
  refine AW.sseq ?_
  refine AW.rseq ?_
  try simp only [↓wk, ↓wl, nq, evV, ↓reduceIte, sevalprocAttr]
  refine evTs_ifg H (by rfl) ?_ ?_ <;> clear H <;> intro H
  ·try simp only [↓wk, ↓wl, nq, evV, ↓reduceIte, sevalprocAttr]
   refine AW.ift (by rfl) ?_
   refine AW.rseq ?_
   try simp only [↓wk, ↓wl, nq, evV, ↓reduceIte, sevalprocAttr]
   refine AW.ret ?_
   refine seqQ.ret ?_
   refine blkQ.ret ?_
   refine loopQ.ret H ?_ <;> clear H <;> intro H
   try dsimp only at H
   refine blk0.ret ?_
   refine seqQ.ret ?_
   cases H
   exact hQ.fin
  ·try simp only [↓wk, ↓wl, nq, evV, ↓reduceIte, sevalprocAttr]
   refine evTs_ifg H (by rfl) ?_ ?_ <;> clear H <;> intro H
   ·try simp only [↓wk, ↓wl, nq, evV, ↓reduceIte, sevalprocAttr]
    refine AW.ift (by rfl) ?_
    refine AW.rseq ?_
    try simp only [↓wk, ↓wl, nq, evV, ↓reduceIte, sevalprocAttr]
    refine AW.ret ?_
    refine seqQ.ret ?_
    refine blkQ.ret ?_
    refine loopQ.ret H ?_ <;> clear H <;> intro H
    try dsimp only at H
    refine blk0.ret ?_
    refine seqQ.ret ?_
    cases H
    exact hQ.fin
   ·try simp only [↓wk, ↓wl, nq, evV, ↓reduceIte, sevalprocAttr]
    refine rest_neqs (by rfl) ?_
    try simp only [↓wk, ↓wl, nq, evV, ↓reduceIte, sevalprocAttr]
    refine AW.ifc H (by rfl) ?_ ?_ <;> clear H <;> intro H
    ·refine AW.rseq ?_
     try simp only [↓wk, ↓wl, nq, evV, ↓reduceIte, sevalprocAttr]
     refine AW.ret ?_
     refine seqQ.ret ?_
     refine blkQ.ret ?_
     refine loopQ.ret H ?_ <;> clear H <;> intro H
     try dsimp only at H
     refine blk0.ret ?_
     refine seqQ.ret ?_
     cases H
     exact hQ.fin
    ·refine AW.skip ?_
     refine seqQ.norm ?_
     refine AW.sseq ?_
     refine AW.rseq ?_
     try simp only [↓wk, ↓wl, nq, evV, ↓reduceIte, sevalprocAttr]
     refine AW.ifc H (by rfl) ?_ ?_ <;> clear H <;> intro H
     ·refine AW.exit ?_
      refine seqQ.exit ?_
      refine blkQ.here ?_
      refine AW.rend ?_
      try simp only [↓wk, ↓wl, nq, evV, ↓reduceIte, sevalprocAttr]
      exact loopQ.next H ((Le.tz [0, 1] [1, 3, 4, 8, 18, 19, 20] (by simp only [f51_L1c, rrm, ↓wk, ↓wl, evV, ↓reduceIte, sevalprocAttr] <;> rfl)))
     ·refine AW.skip ?_
      refine seqQ.norm ?_
      refine AW.rseq ?_
      try simp only [↓wk, ↓wl, nq, evV, ↓reduceIte, sevalprocAttr]
      refine evTs_pure hFn H (fun _ h => f16_ok h) (by rfl) (by rfl) (by rfl) (by rfl) (fun _ => rfl) ?_ <;> clear H <;> intro x9 H
      try simp only [eL, eReceiverReceiver, ↓wk, ↓wl, nq, evV, ↓reduceIte, sevalprocAttr]
      refine AW.sseq ?_
      refine AW.rseq ?_
      try simp only [↓wk, ↓wl, nq, evV, ↓reduceIte, sevalprocAttr]
      refine AW.ifc H (by rfl) ?_ ?_ <;> clear H <;> intro H
      ·refine AW.rseq ?_
       try simp only [↓wk, ↓wl, nq, evV, ↓reduceIte, sevalprocAttr]
       refine AW.ret ?_
       refine seqQ.ret ?_
       refine blkQ.ret ?_
       refine loopQ.ret H ?_ <;> clear H <;> intro H
       try dsimp only at H
       refine blk0.ret ?_
       refine seqQ.ret ?_
       cases H
       exact hQ.fin
      ·refine AW.skip ?_
       refine seqQ.norm ?_
       refine AW.rend ?_
       try simp only [↓wk, ↓wl, nq, evV, ↓reduceIte, sevalprocAttr]
       refine blkQ.norm ?_
       refine AW.rend ?_
       try simp only [↓wk, ↓wl, nq, evV, ↓reduceIte, sevalprocAttr]
       exact loopQ.next H ((Le.tz [0, 1] [1, 3, 4, 8, 18, 19, 20] (by simp only [f51_L1c, rrm, ↓wk, ↓wl, evV, ↓reduceIte, sevalprocAttr] <;> rfl)))
 ·refine AW.exit ?_
  refine seqQ.exit ?_
  refine loopQ.exit H ?_ <;> clear H <;> intro H
  try dsimp only at H
  refine blk0.here ?_
  refine seqQ.norm ?_
  refine AW.rseq ?_
  try simp only [↓wk, ↓wl, nq, evV, ↓reduceIte, sevalprocAttr]
  refine AW.ret ?_
  cases H
  exact hQ.fin
noncomputable def f11_L2 (x0 : NetworkSender × (List NetworkPacket) × Int) (x1 : (List ApiFrame)) (x2 : (List ApiFrame)) : Lp (Int × (List ReceiverInput)) ((Unit) ⊕ (Unit)) where
  body := fun (x3, x4) => (if (decide (x3 < ((x0.2.1.length : Nat) : Int))) = true then (at? x0.2.1 x3).bind fun x5 => (f51 (ReceiverReceiver.mk x4) 25 ([x5]) false).bind fun x6 => (if (!x6.2) = true then (some (.brk (Sum.inr ()))) else (f30 x6.1 25).bind fun x7 => (if (decide (x3 = (IntKind.i64.wrap (((x0.2.1.length : Nat) : Int) - 1)))) = true then (if (decide (x7.2 ≠ 0)) = true then (some (.brk (Sum.inr ()))) else (f52 x7.1 x1).bind fun x8 => (if (!x8) = true then (some (.brk (Sum.inr ()))) else (some (.next ((IntKind.i64.wrap (x3 + 1)), x6.1.fInputs))))) else (if (decide (x7.2 ≠ 0)) = true then (some (.brk (Sum.inr ()))) else (f52 x7.1 x2).bind fun x9 => (if (!x9) = true then (some (.brk (Sum.inr ()))) else (some (.next ((IntKind.i64.wrap (x3 + 1)), x6.1.fInputs))))))) else (some (.brk (Sum.inl ()))))
  cst := fun (x3, x4) => ⟨put (put (put (put (put (put (put (fun _ => .junk) 131 (.int .i64 x3)) 130 (.int .i64 ((x0.2.1.length : Nat) : Int))) 129 (.sl 7 false (x0.2.1.map eNetworkPacket))) 15 (.ptr 0 0)) 13 (.sl 7 false (x0.2.1.map eNetworkPacket))) 1 (.sl 2 false (x1.map eApiFrame))) 0 (.sl 2 false (x2.map eApiFrame)), [.cel [.sl 8 false (x4.map eReceiverInput)]]⟩
theorem f11_L2c (x0 : NetworkSender × (List NetworkPacket) × Int) (x1 : (List ApiFrame)) (x2 : (List ApiFrame)) (x3 : Int) (x4 : (List ReceiverInput)) : (f11_L2 x0 x1 x2).cst (x3, x4) = ⟨put (put (put (put (put (put (put (fun _ => .junk) 131 (.int .i64 x3)) 130 (.int .i64 ((x0.2.1.length : Nat) : Int))) 129 (.sl 7 false (x0.2.1.map eNetworkPacket))) 15 (.ptr 0 0)) 13 (.sl 7 false (x0.2.1.map eNetworkPacket))) 1 (.sl 2 false (x1.map eApiFrame))) 0 (.sl 2 false (x2.map eApiFrame)), [.cel [.sl 8 false (x4.map eReceiverInput)]]⟩ := rfl
noncomputable def f11_L1 (x0 : (List ApiFrame)) (x1 : (List ApiFrame)) (x2 : Int) : Lp (Int) ((Unit) ⊕ (Bool)) where
  body := fun x3 => (if (decide (x3 < ((x0.length : Nat) : Int))) = true then (at? x0 x3).bind fun x4 => (at? x1 x3).bind fun x5 => (if (decide (x4.fUniverse ≠ x5.fUniverse)) = true then (f49).bind fun x6 => (some (.brk (Sum.inr x6))) else (some (.next (IntKind.i64.wrap (x3 + 1))))) else (some (.brk (Sum.inl ()))))
  cst := fun x3 => ⟨put (put (put (put (put (fun _ => .junk) 46 (.int .i64 x3)) 45 (.int .i64 ((x0.length : Nat) : Int))) 2 (.int .u8 x2)) 1 (.sl 2 false (x1.map eApiFrame))) 0 (.sl 2 false (x0.map eApiFrame)), []⟩
theorem f11_L1c (x0 : (List ApiFrame)) (x1 : (List ApiFrame)) (x2 : Int) (x3 : Int) : (f11_L1 x0 x1 x2).cst x3 = ⟨put (put (put (put (put (fun _ => .junk) 46 (.int .i64 x3)) 45 (.int .i64 ((x0.length : Nat) : Int))) 2 (.int .u8 x2)) 1 (.sl 2 false (x1.map eApiFrame))) 0 (.sl 2 false (x0.map eApiFrame)), []⟩ := rfl
def c11_0 : C := .cond (.t 42) (.seq (.reg [iI 43 (.call (.c (.fn 49 [])) []), iI 6 (.mv (.t 43))]) .ret) (.skip)
def c11_1 : C := .cond (.t 59) (.seq (.reg [iI 60 (.call (.c (.fn 49 [])) []), iI 6 (.mv (.t 60))]) .ret) (.skip)
def c11_2 : C := .seq (.reg [iI 49 (.mv (.t 0)), iI 50 (.mv (.t 7)), iI 51 (.iaddr 2 (.t 49) (.t 50)), iI 52 (.faddr 0 (.t 51)), iI 53 (.load 0 (.t 52)), iI 54 (.mv (.t 1)), iI 55 (.mv (.t 7)), iI 56 (.iaddr 2 (.t 54) (.t 55)), iI 57 (.faddr 0 (.t 56)), iI 58 (.load 0 (.t 57)), iI 59 (.bin .neq (.t 53) (.t 58))]) c11_1
def c11_3 : C := .reg [iI 61 (.bin .add (.t 46) (.c (.int .i64 1))), iI 46 (.mv (.t 61))]
def c11_4 : C := .seq (.block 1 (.seq (.reg [iI 48 (.mv (.t 46)), iI 7 (.mv (.t 48))]) c11_2)) c11_3
def c11_5 : C := .seq (.cond (.t 47) (.skip) (.exit 0)) c11_4
def c11_6 : C := .block 0 (.loop (.seq (.reg [iI 47 (.bin .lss (.t 46) (.t 45))]) c11_5))
def c11_7 : C := .cond (.t 105) (.seq (.reg [iI 6 (.mv (.c (.bool false)))]) .ret) (.skip)
def c11_8 : C := .cond (.t 128) (.seq (.reg [iI 6 (.mv (.c (.bool false)))]) .ret) (.skip)
def c11_9 : C := .cond (.t 144) (.seq (.reg [iI 6 (.mv (.c (.bool false)))]) .ret) (.skip)
def c11_10 : C := .seq (.reg [iI 143 (.mv (.t 16)), iI 144 (.un .not (.t 143))]) c11_9
def c11_11 : C := .cond (.t 155) (.reg [iI 156 (.mv (.t 1)), iI 22 (.mv (.t 156))]) (.skip)
def c11_12 : C := .cond (.t 164) (.seq (.reg [iI 6 (.mv (.c (.bool false)))]) .ret) (.skip)
def c11_13 : C := .seq (.reg [iI 157 (.mv (.t 21)), iI 158 (.bin .neq (.t 157) (.c (.int .i64 0))), iI 159 (.mv (.t 158)), iG (some 160) 159 false (.mv (.t 20)), iG (some 161) 159 false (.mv (.t 22)), iG (some 162) 159 false (.call (.c (.fn 52 [])) [(.t 160), (.t 161)]), iG (some 163) 159 false (.un .not (.t 162)), iI 164 (.pick (.t 159) (.c (.bool true)) (.t 163))]) c11_12
def c11_14 : C := .seq (.seq (.reg [iI 151 (.mv (.t 18)), iI 152 (.mv (.t 13)), iI 153 (.len 0 (.t 152)), iI 154 (.bin .sub (.t 153) (.c (.int .i64 1))), iI 155 (.bin .eql (.t 151) (.t 154))]) c11_11) c11_13
def c11_15 : C := .seq (.reg [iI 150 (.mv (.t 0)), iI 22 (.mv (.t 150))]) c11_14
def c11_16 : C := .seq (.reg [iI 146 (.load 1 (.t 15)), iI 147 (.call (.c (.fn 30 [])) [(.t 146), (.c (.int .i64 25))]), iI 145 (.mv (.t 147)), iI 148 (.ext (.t 145) 0), iI 149 (.ext (.t 145) 1), iI 20 (.mv (.t 148)), iI 21 (.mv (.t 149))]) c11_15
def c11_17 : C := .seq (.seq (.reg [iI 137 (.load 1 (.t 15)), iI 138 (.load 7 (.t 19)), iI 139 (.mkslp 7 1 (.agg [(.int .u64 0), (.int .i64 0), (.int .i64 0), (.int .i64 0), (.int .i64 0), (.bool false), (.str [])]) [(0, (.t 138))]), iI 140 (.call (.c (.fn 51 [])) [(.t 137), (.c (.int .i64 25)), (.t 139), (.c (.bool false))]), iI 136 (.mv (.t 140)), iI 141 (.ext (.t 136) 0), iI 142 (.ext (.t 136) 1), iN (.store 1 (.t 15) (.t 141)), iI 16 (.mv (.t 142))]) c11_10) c11_16
def c11_18 : C := .reg [iI 165 (.bin .add (.t 131) (.c (.int .i64 1))), iI 131 (.mv (.t 165))]
def c11_19 : C := .seq (.block 3 (.seq (.reg [iI 133 (.mv (.t 131)), iI 134 (.iaddr 7 (.t 129) (.t 131)), iI 135 (.load 7 (.t 134)), iI 19 (.alloc [(1, (.int .u64 0)), (1, (.int .i64 0)), (1, (.int .i64 0)), (1, (.int .i64 0)), (1, (.int .i64 0)), (1, (.bool false)), (1, (.str []))]), iI 18 (.mv (.t 133)), iN (.store 7 (.t 19) (.t 135))]) c11_17)) c11_18
def c11_20 : C := .seq (.cond (.t 132) (.skip) (.exit 2)) c11_19
def c11_21 : C := .block 2 (.loop (.seq (.reg [iI 132 (.bin .lss (.t 131) (.t 130))]) c11_20))
def c11_22 : C := .seq (.reg [iI 166 (.call (.c (.fn 49 [])) []), iI 6 (.mv (.t 166))]) .ret
def c11_23 : C := .seq (.seq (.reg [iI 129 (.mv (.t 13)), iI 130 (.len 0 (.t 129)), iI 131 (.mv (.c (.int .i64 0)))]) c11_21) c11_22
def c11_24 : C := .seq (.seq (.reg [iI 117 (.mv (.t 16)), iI 118 (.un .not (.t 117)), iI 119 (.mv (.t 118)), iG (some 120) 119 false (.mv (.t 9)), iG (some 121) 119 false (.bin .neq (.t 120) (.c (.int .i64 0))), iI 122 (.pick (.t 119) (.c (.bool true)) (.t 121)), iI 123 (.mv (.t 122)), iG (some 124) 123 false (.mv (.t 17)), iG (some 125) 123 false (.mv (.t 0)), iG (some 126) 123 false (.call (.c (.fn 52 [])) [(.t 124), (.t 125)]), iG (some 127) 123 false (.un .not (.t 126)), iI 128 (.pick (.t 123) (.c (.bool true)) (.t 127))]) c11_8) c11_23
def c11_25 : C := .seq (.reg [iI 113 (.load 1 (.t 15)), iI 114 (.call (.c (.fn 30 [])) [(.t 113), (.c (.int .i64 0))]), iI 112 (.mv (.t 114)), iI 115 (.ext (.t 112) 0), iI 116 (.ext (.t 112) 1), iI 17 (.mv (.t 115)), iI 9 (.mv (.t 116))]) c11_24
def c11_26 : C := .seq (.reg [iI 107 (.build [(1, (.sl 8 true []))] []), iI 108 (.mv (.t 10)), iI 109 (.call (.c (.fn 51 [])) [(.t 107), (.c (.int .i64 0)), (.t 108), (.c (.bool false))]), iI 106 (.mv (.t 109)), iI 110 (.ext (.t 106) 0), iI 111 (.ext (.t 106) 1), iI 15 (.alloc [(1, (.sl 8 true []))]), iN (.store 1 (.t 15) (.t 110)), iI 16 (.mv (.t 111))]) c11_25
def c11_27 : C := .seq (.seq (.reg [iI 84 (.mv (.t 9)), iI 85 (.mv (.t 11)), iI 86 (.bin .add (.t 84) (.t 85)), iI 87 (.mv (.t 14)), iI 88 (.bin .add (.t 86) (.t 87)), iI 89 (.bin .neq (.t 88) (.c (.int .i64 0))), iI 90 (.mv (.t 89)), iG (some 91) 90 false (.mv (.t 10)), iG (some 92) 90 false (.len 0 (.t 91)), iG (some 93) 90 false (.mv (.t 0)), iG (some 94) 90 false (.len 0 (.t 93)), iG (some 95) 90 false (.bin .add (.t 94) (.c (.int .i64 1))), iG (some 96) 90 false (.bin .neq (.t 92) (.t 95)), iI 97 (.pick (.t 90) (.c (.bool true)) (.t 96)), iI 98 (.mv (.t 97)), iG (some 99) 98 false (.mv (.t 13)), iG (some 100) 98 false (.len 0 (.t 99)), iG (some 101) 98 false (.mv (.t 1)), iG (some 102) 98 false (.len 0 (.t 101)), iG (some 103) 98 false (.bin .add (.t 102) (.c (.int .i64 1))), iG (some 104) 98 false (.bin .neq (.t 100) (.t 103)), iI 105 (.pick (.t 98) (.c (.bool true)) (.t 104))]) c11_7) c11_26
def c11_28 : C := .seq (.reg [iI 78 (.load 5 (.t 8)), iI 79 (.mv (.t 1)), iI 80 (.call (.c (.fn 43 [])) [(.t 78), (.c (.int .i64 25)), (.t 79)]), iI 77 (.mv (.t 80)), iI 81 (.ext (.t 77) 0), iI 82 (.ext (.t 77) 1), iI 83 (.ext (.t 77) 2), iI 12 (.alloc [(1, (.int .u64 0)), (1, (.int .i64 0)), (1, (.int .i64 0)), (1, (.int .i64 0)), (1, (.sl 5 true []))]), iN (.store 5 (.t 12) (.t 81)), iI 13 (.mv (.t 82)), iI 14 (.mv (.t 83))]) c11_27
def c11_29 : C := .seq (.reg [iI 71 (.load 5 (.t 8)), iI 72 (.mv (.t 0)), iI 73 (.call (.c (.fn 43 [])) [(.t 71), (.c (.int .i64 0)), (.t 72)]), iI 70 (.mv (.t 73)), iI 74 (.ext (.t 70) 0), iI 75 (.ext (.t 70) 1), iI 76 (.ext (.t 70) 2), iN (.store 5 (.t 8) (.t 74)), iI 10 (.mv (.t 75)), iI 11 (.mv (.t 76))]) c11_28
def c11_30 : C := .seq (.reg [iI 63 (.mv (.t 2)), iI 64 (.bin .rem (.t 63) (.c (.int .u8 8))), iI 65 (.cint .i64 (.t 64)), iI 66 (.bin .add (.c (.int .i64 1)) (.t 65)), iI 67 (.call (.c (.fn 42 [])) [(.c (.int .u64 7)), (.c (.int .i64 100)), (.t 66)]), iI 62 (.mv (.t 67)), iI 68 (.ext (.t 62) 0), iI 69 (.ext (.t 62) 1), iI 8 (.alloc [(1, (.int .u64 0)), (1, (.int .i64 0)), (1, (.int .i64 0)), (1, (.int .i64 0)), (1, (.sl 5 true []))]), iN (.store 5 (.t 8) (.t 68)), iI 9 (.mv (.t 69))]) c11_29
def c11_31 : C := .seq (.seq (.reg [iI 44 (.mv (.t 0)), iI 45 (.len 0 (.t 44)), iI 46 (.mv (.c (.int .i64 0)))]) c11_6) c11_30
def c11_32 : C := .seq (.seq (.reg [iI 23 (.mv (.t 0)), iI 24 (.call (.c (.fn 53 [])) [(.t 23)]), iI 25 (.un .not (.t 24)), iI 26 (.mv (.t 25)), iG (some 27) 26 false (.mv (.t 1)), iG (some 28) 26 false (.call (.c (.fn 53 [])) [(.t 27)]), iG (some 29) 26 false (.un .not (.t 28)), iI 30 (.pick (.t 26) (.c (.bool true)) (.t 29)), iI 31 (.mv (.t 30)), iG (some 32) 31 false (.mv (.t 0)), iG (some 33) 31 false (.len 0 (.t 32)), iG (some 34) 31 false (.bin .eql (.t 33) (.c (.int .i64 0))), iI 35 (.pick (.t 31) (.c (.bool true)) (.t 34)), iI 36 (.mv (.t 35)), iG (some 37) 36 false (.mv (.t 0)), iG (some 38) 36 false (.len 0 (.t 37)), iG (some 39) 36 false (.mv (.t 1)), iG (some 40) 36 false (.len 0 (.t 39)), iG (some 41) 36 false (.bin .neq (.t 38) (.t 40)), iI 42 (.pick (.t 36) (.c (.bool true)) (.t 41))]) c11_0) c11_31
def ir11 : C := .seq (.reg [iI 6 (.mv (.c (.bool false)))]) c11_32
theorem fd11 : fd? Try.prog 11 = some (167, [.slot 6], ir11) := by kernel_rfl
noncomputable def f11 (x0 : (List ApiFrame)) (x1 : (List ApiFrame)) (x2 : Int) : Option (Bool) :=
  (f53 x0).bind fun x3 => (if (!x3) = true then (f49).bind fun x4 => (some x4) else (f53 x1).bind fun x5 => (if (!x5) = true then (f49).bind fun x6 => (some x6) else (if (decide (((x0.length : Nat) : Int) = 0)) = true then (f49).bind fun x7 => (some x7) else (if (decide (((x0.length : Nat) : Int) ≠ ((x1.length : Nat) : Int))) = true then (f49).bind fun x8 => (some x8) else ((Lp.run (f11_L1 x0 x1 x2) 0).bind fun r_ => match r_ with | (Sum.inl _) => (f42 7 100 (IntKind.i64.wrap (1 + (IntKind.i64.wrap (x2.tmod 8))))).bind fun x9 => (f43 x9.1 0 x0).bind fun xa => (f43 xa.1 25 x1).bind fun xb => (if (decide ((IntKind.i64.wrap ((IntKind.i64.wrap (x9.2 + xa.2.2)) + xb.2.2)) ≠ 0)) = true then (some false) else (if (decide (((xa.2.1.length : Nat) : Int) ≠ (IntKind.i64.wrap (((x0.length : Nat) : Int) + 1)))) = true then (some false) else (if (decide (((xb.2.1.length : Nat) : Int) ≠ (IntKind.i64.wrap (((x1.length : Nat) : Int) + 1)))) = true then (some false) else (f51 (ReceiverReceiver.mk ([])) 0 xa.2.1 false).bind fun xc => (f30 xc.1 0).bind fun xd => (if (!xc.2) = true then (some false) else (if (decide (xd.2 ≠ 0)) = true then (some false) else (f52 xd.1 x0).bind fun xe => (if (!xe) = true then (some false) else ((Lp.run (f11_L2 xb x1 x0) (0, xc.1.fInputs)).bind fun r_ => match r_ with | (Sum.inl _) => (f49).bind fun xf => (some xf) | (Sum.inr _) => (some false)))))))) | (Sum.inr xg) => (some xg))))))
theorem f11_ok {x0 : (List ApiFrame)} {x1 : (List ApiFrame)} {x2 : Int} {r_ : Bool} (H : f11 x0 x1 x2 = some r_) : Pure Try.prog 11 [.sl 2 false (x0.map eApiFrame), .sl 2 false (x1.map eApiFrame), .int .u8 x2] (· = .bool r_) := by
 refine Pure.walk3 fd11 none (Nat.le_of_ble_eq_true rfl) (by rfl) fun Q hQ => ?_
 simp only [f11] at H
 refine AW.rseq ?_
 try simp only [↓wk, ↓wl, nq, evV, ↓reduceIte, sevalprocAttr]
 refine AW.sseq ?_
 refine AW.rseq ?_
 try simp only [↓wk, ↓wl, nq, evV, ↓reduceIte, sevalprocAttr]
 refine evTs_pure hFn H (fun _ h => f53_ok h) (by rfl) (by rfl) (by rfl) (by rfl) (fun _ => rfl) ?_ <;> clear H <;> intro x3 H
 try simp only [eL, ↓wk, ↓wl, nq, evV, ↓reduceIte, sevalprocAttr]
 refine evTs_ifg H (by rfl) ?_ ?_ <;> clear H <;> intro H
 ·try simp only [↓wk, ↓wl, nq, evV, ↓reduceIte, sevalprocAttr]
  refine AW.ift (by rfl) ?_
  refine AW.rseq ?_
  try simp only [↓wk, ↓wl, nq, evV, ↓reduceIte, sevalprocAttr]
  refine evTs_pure hFn H (fun _ h => f49_ok h) (by rfl) (by rfl) (by rfl) (by rfl) (fun _ => rfl) ?_ <;> clear H <;> intro x4 H
  try simp only [eL, ↓wk, ↓wl, nq, evV, ↓reduceIte, sevalprocAttr]
  refine AW.ret ?_
  refine seqQ.ret ?_
  cases H
  exact hQ.fin
 ·try simp only [↓wk, ↓wl, nq, evV, ↓reduceIte, sevalprocAttr]
  refine evTs_pure hFn H (fun _ h => f53_ok h) (by rfl) (by rfl) (by rfl) (by rfl) (fun _ => rfl) ?_ <;> clear H <;> intro x5 H
  try simp only [eL, ↓wk, ↓wl, nq, evV, ↓reduceIte, sevalprocAttr]
  refine evTs_ifg H (by rfl) ?_ ?_ <;> clear H <;> intro H
  ·try simp only [↓wk, ↓wl, nq, evV, ↓reduceIte, sevalprocAttr]
   refine AW.ift (by rfl) ?_
   refine AW.rseq ?_
   try simp only [↓wk, ↓wl, nq, evV, ↓reduceIte, sevalprocAttr]
   refine evTs_pure hFn H (fun _ h => f49_ok h) (by rfl) (by rfl) (by rfl) (by rfl) (fun _ => rfl) ?_ <;> clear H <;> intro x6 H
   try simp only [eL, ↓wk, ↓wl, nq, evV, ↓reduceIte, sevalprocAttr]
   refine AW.ret ?_
   refine seqQ.ret ?_
   cases H
   exact hQ.fin
  ·try simp only [↓wk, ↓wl, nq, evV, ↓reduceIte, sevalprocAttr]
   refine evTs_ifg H (by rfl) ?_ ?_ <;> clear H <;> intro H
   ·try simp only [↓wk, ↓wl, nq, evV, ↓reduceIte, sevalprocAttr]
    refine AW.ift (by rfl) ?_
    refine AW.rseq ?_
    try simp only [↓wk, ↓wl, nq, evV, ↓reduceIte, sevalprocAttr]
    refine evTs_pure hFn H (fun _ h => f49_ok h) (by rfl) (by rfl) (by rfl) (by rfl) (fun _ => rfl) ?_ <;> clear H <;> intro x7 H
    try simp only [eL, ↓wk, ↓wl, nq, evV, ↓reduceIte, sevalprocAttr]
    refine AW.ret ?_
    refine seqQ.ret ?_
    cases H
    exact hQ.fin
   ·try simp only [↓wk, ↓wl, nq, evV, ↓reduceIte, sevalprocAttr]
    refine AW.ifc H (by rfl) ?_ ?_ <;> clear H <;> intro H
    ·refine AW.rseq ?_
     try simp only [↓wk, ↓wl, nq, evV, ↓reduceIte, sevalprocAttr]
     refine evTs_pure hFn H (fun _ h => f49_ok h) (by rfl) (by rfl) (by rfl) (by rfl) (fun _ => rfl) ?_ <;> clear H <;> intro x8 H
     try simp only [eL, ↓wk, ↓wl, nq, evV, ↓reduceIte, sevalprocAttr]
     refine AW.ret ?_
     refine seqQ.ret ?_
     cases H
     exact hQ.fin
    ·refine AW.skip ?_
     refine seqQ.norm ?_
     refine AW.sseq ?_
     refine AW.rseq ?_
     try simp only [↓wk, ↓wl, nq, evV, ↓reduceIte, sevalprocAttr]
     refine AW.bend ?_
     refine AW.iter H ((Le.tz [] [0, 1, 2, 45, 46] (by simp only [f11_L1c, rrm, ↓wk, ↓wl, evV, ↓reduceIte, sevalprocAttr] <;> rfl))) ?_ <;> clear H
     rintro x9 x_ st0_ H hst_
     rw [f11_L1c] at hst_
     simp only [f11_L1] at H
     subst hst_
     refine AW.rseq ?_
     try simp only [↓wk, ↓wl, nq, evV, ↓reduceIte, sevalprocAttr]
     refine AW.sseq ?_
     refine AW.ifc H (by rfl) ?_ ?_ <;> clear H <;> intro H
     ·refine AW.skip ?_
      refine seqQ.norm ?_
      refine AW.bseq ?_
      refine AW.rseq ?_
      try simp only [↓wk, ↓wl, nq, evV, ↓reduceIte, sevalprocAttr]
      refine AW.rseq ?_
      try simp only [↓wk, ↓wl, nq, evV, ↓reduceIte, sevalprocAttr]
      refine evTs_at (enc := eApiFrame) H (by rfl) (by rfl) ?_ <;> clear H <;> intro xa H
      try simp only [eApiFrame, eL, ↓wk, ↓wl, nq, evV, ↓reduceIte, sevalprocAttr]
      refine evTs_at (enc := eApiFrame) H (by rfl) (by rfl) ?_ <;> clear H <;> intro xb H
      try simp only [eApiFrame, eL, ↓wk, ↓wl, nq, evV, ↓reduceIte, sevalprocAttr]
      refine AW.ifc H (by rfl) ?_ ?_ <;> clear H <;> intro H
      ·refine AW.rseq ?_
       try simp only [↓wk, ↓wl, nq, evV, ↓reduceIte, sevalprocAttr]
       refine evTs_pure hFn H (fun _ h => f49_ok h) (by rfl) (by rfl) (by rfl) (by rfl) (fun _ => rfl) ?_ <;> clear H <;> intro xc H
       try simp only [eL, ↓wk, ↓wl, nq, evV, ↓reduceIte, sevalprocAttr]
       refine AW.ret ?_
       refine blkQ.ret ?_
       refine loopQ.ret H ?_ <;> clear H <;> intro H
       try dsimp only at H
       refine blk0.ret ?_
       refine seqQ.ret ?_
       cases H
       exact hQ.fin
      ·refine AW.skip ?_
       refine blkQ.norm ?_
       refine AW.rend ?_
       try simp only [↓wk, ↓wl, nq, evV, ↓reduceIte, sevalprocAttr]
       exact loopQ.next H ((Le.tz [] [0, 1, 2, 45, 46] (by simp only [f11_L1c, rrm, ↓wk, ↓wl, evV, ↓reduceIte, sevalprocAttr] <;> rfl)))
     ·refine AW.exit ?_
      refine seqQ.exit ?_
      refine loopQ.exit H ?_ <;> clear H <;> intro H
      try dsimp only at H
      refine blk0.here ?_
      refine seqQ.norm ?_
      refine AW.rseq ?_
      try simp only [↓wk, ↓wl, nq, evV, ↓reduceIte, sevalprocAttr]
      refine evTs_pure hFn H (fun _ h => f42_ok h) (by rfl) (by rfl) (by rfl) (by rfl) (fun _ => rfl) ?_ <;> clear H <;> intro xd H
      try simp only [eL, eNetworkSender, ↓wk, ↓wl, nq, evV, ↓reduceIte, sevalprocAttr]
      refine AW.rseq ?_
      try simp only [↓wk, ↓wl, nq, evV, ↓reduceIte, sevalprocAttr]
      refine evTs_pure hFn H (fun _ h => f43_ok h) (by rfl) (by rfl) (by rfl) (by rfl) (fun _ => rfl) ?_ <;> clear H <;> intro xe H
      try simp only [eL, eNetworkSender, ↓wk, ↓wl, nq, evV, ↓reduceIte, sevalprocAttr]
      refine AW.rseq ?_
      try simp only [↓wk, ↓wl, nq, evV, ↓reduceIte, sevalprocAttr]
      refine evTs_pure hFn H (fun _ h => f43_ok h) (by rfl) (by rfl) (by rfl) (by rfl) (fun _ => rfl) ?_ <;> clear H <;> intro xf H
      try simp only [eL, eNetworkSender, ↓wk, ↓wl, nq, evV, ↓reduceIte, sevalprocAttr]
      refine AW.sseq ?_
      refine AW.rseq ?_
      try simp only [↓wk, ↓wl, nq, evV, ↓reduceIte, sevalprocAttr]
      refine evTs_ifg H (by rfl) ?_ ?_ <;> clear H <;> intro H
      ·try simp only [↓wk, ↓wl, nq, evV, ↓reduceIte, sevalprocAttr]
       refine AW.ift (by rfl) ?_
       refine AW.rseq ?_
       try simp only [↓wk, ↓wl, nq, evV, ↓reduceIte, sevalprocAttr]
       refine AW.ret ?_
       refine seqQ.ret ?_
       cases H
       exact hQ.fin
      ·try simp only [↓wk, ↓wl, nq, evV, ↓reduceIte, sevalprocAttr]
       refine evTs_ifg H (by rfl) ?_ ?_ <;> clear H <;> intro H
       ·try simp only [↓wk, ↓wl, nq, evV, ↓reduceIte, sevalprocAttr]
        refine AW.ift (by rfl) ?_
        refine AW.rseq ?_
        try simp only [↓wk, ↓wl, nq, evV, ↓reduceIte, sevalprocAttr]
        refine AW.ret ?_
        refine seqQ.ret ?_
        cases H
        exact hQ.fin
       ·try simp only [↓wk, ↓wl, nq, evV, ↓reduceIte, sevalprocAttr]
        refine AW.ifc H (by rfl) ?_ ?_ <;> clear H <;> intro H
        ·refine AW.rseq ?_
         try simp only [↓wk, ↓wl, nq, evV, ↓reduceIte, sevalprocAttr]
         refine AW.ret ?_
         refine seqQ.ret ?_
         cases H
         exact hQ.fin
        ·refine AW.skip ?_
         refine seqQ.norm ?_
         refine AW.rseq ?_
         try simp only [↓wk, ↓wl, nq, evV, ↓reduceIte, sevalprocAttr]
         refine evTs_pure hFn H (fun _ h => f51_ok h) (by rfl) (by rfl) (by rfl) (by rfl) (fun _ => rfl) ?_ <;> clear H <;> intro xg H
         try simp only [eL, eReceiverReceiver, ↓wk, ↓wl, nq, evV, ↓reduceIte, sevalprocAttr]
         refine AW.rseq ?_
         try simp only [↓wk, ↓wl, nq, evV, ↓reduceIte, sevalprocAttr]
         refine evTs_pure hFn H (fun _ h => f30_im h) (by rfl) (by rfl) (by rfl) (by rfl) (fun _ => rfl) ?_ <;> clear H <;> intro xh H
         try simp only [eL, ↓wk, ↓wl, nq, evV, ↓reduceIte, sevalprocAttr]
         refine AW.sseq ?_
         refine AW.rseq ?_
         try simp only [↓wk, ↓wl, nq, evV, ↓reduceIte, sevalprocAttr]
         refine evTs_ifg H (by rfl) ?_ ?_ <;> clear H <;> intro H
         ·try simp only [↓wk, ↓wl, nq, evV, ↓reduceIte, sevalprocAttr]
          refine AW.ift (by rfl) ?_
          refine AW.rseq ?_
          try simp only [↓wk, ↓wl, nq, evV, ↓reduceIte, sevalprocAttr]
          refine AW.ret ?_
          refine seqQ.ret ?_
          cases H
          exact hQ.fin
         ·try simp only [↓wk, ↓wl, nq, evV, ↓reduceIte, sevalprocAttr]
          refine evTs_ifg H (by rfl) ?_ ?_ <;> clear H <;> intro H
          ·try simp only [↓wk, ↓wl, nq, evV, ↓reduceIte, sevalprocAttr]
           refine AW.ift (by rfl) ?_
           refine AW.rseq ?_
           try simp only [↓wk, ↓wl, nq, evV, ↓reduceIte, sevalprocAttr]
           refine AW.ret ?_
           refine seqQ.ret ?_
           cases H
           exact hQ.fin
          ·try simp only [↓wk, ↓wl, nq, evV, ↓reduceIte, sevalprocAttr]
           refine evTs_pure hFn H (fun _ h => f52_ok h) (by rfl) (by rfl) (by rfl) (by rfl) (fun _ => rfl) ?_ <;> clear H <;> intro xi H
           try simp only [eL, ↓wk, ↓wl, nq, evV, ↓reduceIte, sevalprocAttr]
           refine AW.ifc H (by rfl) ?_ ?_ <;> clear H <;> intro H
           ·refine AW.rseq ?_
            try simp only [↓wk, ↓wl, nq, evV, ↓reduceIte, sevalprocAttr]
            refine AW.ret ?_
            refine seqQ.ret ?_
            cases H
            exact hQ.fin
           ·refine AW.skip ?_
            refine seqQ.norm ?_
            refine AW.sseq ?_
            refine AW.rseq ?_
            try simp only [↓wk, ↓wl, nq, evV, ↓reduceIte, sevalprocAttr]
            refine AW.bend ?_
            refine AW.iter H ((Le.tz [2] [0, 1, 13, 15, 129, 130, 131] (by simp only [f11_L2c, rrm, ↓wk, ↓wl, evV, ↓reduceIte, sevalprocAttr] <;> rfl))) ?_ <;> clear H
            rintro ⟨xj, xk⟩ x_ st0_ H hst_
            rw [f11_L2c] at hst_
            simp only [f11_L2] at H
            subst hst_
            refine AW.rseq ?_
            try simp only [↓wk, ↓wl, nq, evV, ↓reduceIte, sevalprocAttr]
            refine AW.sseq ?_
            refine AW.ifc H (by rfl) ?_ ?_ <;> clear H <;> intro H
            ·refine AW.skip ?_
             refine seqQ.norm ?_
             refine AW.bseq ?_
             refine AW.rseq ?_
             try simp only [↓wk, ↓wl, nq, evV, ↓reduceIte, sevalprocAttr]
             refine evTs_at (enc := eNetworkPacket) H (by rfl) (by rfl) ?_ <;> clear H <;> intro xl H
             try simp only [eNetworkPacket, eL, ↓wk, ↓wl, nq, evV, ↓reduceIte, sevalprocAttr]
             refine AW.sseq ?_
             refine AW.rseq ?_
             try simp only [↓wk, ↓wl, nq, evV, ↓reduceIte, sevalprocAttr]
             refine evTs_pure hFn H (fun _ h => f51_ok h) (by rfl) (by rfl) (by rfl) (by rfl) (fun _ => rfl) ?_ <;> clear H <;> intro xm H
             try simp only [eL, eReceiverReceiver, ↓wk, ↓wl, nq, evV, ↓reduceIte, sevalprocAttr]
             refine AW.rseq ?_
             try simp only [↓wk, ↓wl, nq, evV, ↓reduceIte, sevalprocAttr]
             refine AW.ifc H (by rfl) ?_ ?_ <;> clear H <;> intro H
             ·refine AW.rseq ?_
              try simp only [↓wk, ↓wl, nq, evV, ↓reduceIte, sevalprocAttr]
              refine AW.ret ?_
              refine seqQ.ret ?_
              refine blkQ.ret ?_
              refine loopQ.ret H ?_ <;> clear H <;> intro H
              try dsimp only at H
              refine blk0.ret ?_
              refine seqQ.ret ?_
              cases H
              exact hQ.fin
             ·refine AW.skip ?_
              refine seqQ.norm ?_
              refine AW.rseq ?_
              try simp only [↓wk, ↓wl, nq, evV, ↓reduceIte, sevalprocAttr]
              refine evTs_pure hFn H (fun _ h => f30_im h) (by rfl) (by rfl) (by rfl) (by rfl) (fun _ => rfl) ?_ <;> clear H <;> intro xn H
              try simp only [eL, ↓wk, ↓wl, nq, evV, ↓reduceIte, sevalprocAttr]
              refine AW.rseq ?_
              try simp only [↓wk, ↓wl, nq, evV, ↓reduceIte, sevalprocAttr]
              refine AW.sseq ?_
              refine AW.rseq ?_
              try simp only [↓wk, ↓wl, nq, evV, ↓reduceIte, sevalprocAttr]
              refine AW.ifc H (by rfl) ?_ ?_ <;> clear H <;> intro H
              ·refine AW.rend ?_
               try simp only [↓wk, ↓wl, nq, evV, ↓reduceIte, sevalprocAttr]
               refine seqQ.norm ?_
               refine AW.rseq ?_
               try simp only [↓wk, ↓wl, nq, evV, ↓reduceIte, sevalprocAttr]
               refine evTs_ifg H (by rfl) ?_ ?_ <;> clear H <;> intro H
               ·try simp only [↓wk, ↓wl, nq, evV, ↓reduceIte, sevalprocAttr]
                refine AW.ift (by rfl) ?_
                refine AW.rseq ?_
                try simp only [↓wk, ↓wl, nq, evV, ↓reduceIte, sevalprocAttr]
                refine AW.ret ?_
                refine blkQ.ret ?_
                refine loopQ.ret H ?_ <;> clear H <;> intro H
                try dsimp only at H
                refine blk0.ret ?_
                refine seqQ.ret ?_
                cases H
                exact hQ.fin
               ·try simp only [↓wk, ↓wl, nq, evV, ↓reduceIte, sevalprocAttr]
                refine evTs_pure hFn H (fun _ h => f52_ok h) (by rfl) (by rfl) (by rfl) (by rfl) (fun _ => rfl) ?_ <;> clear H <;> intro xo H
                try simp only [eL, ↓wk, ↓wl, nq, evV, ↓reduceIte, sevalprocAttr]
                refine AW.ifc H (by rfl) ?_ ?_ <;> clear H <;> intro H
                ·refine AW.rseq ?_
                 try simp only [↓wk, ↓wl, nq, evV, ↓reduceIte, sevalprocAttr]
                 refine AW.ret ?_
                 refine blkQ.ret ?_
                 refine loopQ.ret H ?_ <;> clear H <;> intro H
                 try dsimp only at H
                 refine blk0.ret ?_
                 refine seqQ.ret ?_
                 cases H
                 exact hQ.fin
                ·refine AW.skip ?_
                 refine blkQ.norm ?_
                 refine AW.rend ?_
                 try simp only [↓wk, ↓wl, nq, evV, ↓reduceIte, sevalprocAttr]
                 exact loopQ.next H ((Le.tz [0] [0, 1, 13, 15, 129, 130, 131] (by simp only [f11_L2c, rrm, ↓wk, ↓wl, evV, ↓reduceIte, sevalprocAttr] <;> rfl)))
              ·refine AW.skip ?_
               refine seqQ.norm ?_
               refine AW.rseq ?_
               try simp only [↓wk, ↓wl, nq, evV, ↓reduceIte, sevalprocAttr]
               refine evTs_ifg H (by rfl) ?_ ?_ <;> clear H <;> intro H
               ·try simp only [↓wk, ↓wl, nq, evV, ↓reduceIte, sevalprocAttr]
                refine AW.ift (by rfl) ?_
                refine AW.rseq ?_
                try simp only [↓wk, ↓wl, nq, evV, ↓reduceIte, sevalprocAttr]
                refine AW.ret ?_
                refine blkQ.ret ?_
                refine loopQ.ret H ?_ <;> clear H <;> intro H
                try dsimp only at H
                refine blk0.ret ?_
                refine seqQ.ret ?_
                cases H
                exact hQ.fin
               ·try simp only [↓wk, ↓wl, nq, evV, ↓reduceIte, sevalprocAttr]
                refine evTs_pure hFn H (fun _ h => f52_ok h) (by rfl) (by rfl) (by rfl) (by rfl) (fun _ => rfl) ?_ <;> clear H <;> intro xp H
                try simp only [eL, ↓wk, ↓wl, nq, evV, ↓reduceIte, sevalprocAttr]
                refine AW.ifc H (by rfl) ?_ ?_ <;> clear H <;> intro H
                ·refine AW.rseq ?_
                 try simp only [↓wk, ↓wl, nq, evV, ↓reduceIte, sevalprocAttr]
                 refine AW.ret ?_
                 refine blkQ.ret ?_
                 refine loopQ.ret H ?_ <;> clear H <;> intro H
                 try dsimp only at H
                 refine blk0.ret ?_
                 refine seqQ.ret ?_
                 cases H
                 exact hQ.fin
                ·refine AW.skip ?_
                 refine blkQ.norm ?_
                 refine AW.rend ?_
                 try simp only [↓wk, ↓wl, nq, evV, ↓reduceIte, sevalprocAttr]
                 exact loopQ.next H ((Le.tz [0] [0, 1, 13, 15, 129, 130, 131] (by simp only [f11_L2c, rrm, ↓wk, ↓wl, evV, ↓reduceIte, sevalprocAttr] <;> rfl)))
            ·refine AW.exit ?_
             refine seqQ.exit ?_
             refine loopQ.exit H ?_ <;> clear H <;> intro H
             try dsimp only at H
             refine blk0.here ?_
             refine seqQ.norm ?_
             refine AW.rseq ?_
             try simp only [↓wk, ↓wl, nq, evV, ↓reduceIte, sevalprocAttr]
             refine evTs_pure hFn H (fun _ h => f49_ok h) (by rfl) (by rfl) (by rfl) (by rfl) (fun _ => rfl) ?_ <;> clear H <;> intro xq H
             try simp only [eL, ↓wk, ↓wl, nq, evV, ↓reduceIte, sevalprocAttr]
             refine AW.ret ?_
             cases H
             exact hQ.fin
end Go.Proofs.Ytgfohogbechkkaa
