import Derived.Test.YtgfohogbechkkaaYD2
import Derived.Test.YtgfohogbechkkaaM6
import Derived.Test.YtgfohogbechkkaaProg
import Derived.KernelRfl
namespace Go.Proofs.Ytgfohogbechkkaa
open Go Go.Ab

set_option maxHeartbeats 1000000
set_option maxRecDepth 4000
set_option linter.unusedSimpArgs false
set_option linter.unusedVariables false
theorem f137_ok {x0 : (List UInt8)} {x1 : Int} {r_ : Int × Int × Int} (H : f137 x0 x1 = some r_) : Pure Try.prog 137 [.str x0, .int .i64 x1] (· = .tup [.int .i64 r_.1, .int .i64 r_.2.1, .int .i64 r_.2.2]) := by
 refine Pure.walk3 fd137 none (Nat.le_of_ble_eq_true rfl) (by rfl) fun Q hQ => ?_
 simp only [f137] at H
 refine AW.rseq ?_
 try simp only [↓wk, ↓wl, nq, evV, ↓reduceIte, sevalprocAttr]
 refine AW.rseq ?_
 try simp only [↓wk, ↓wl, nq, evV, ↓reduceIte, sevalprocAttr]
 refine AW.sseq ?_
 refine AW.rseq ?_
 try simp only [↓wk, ↓wl, nq, evV, ↓reduceIte, sevalprocAttr]
 refine evTs_flat hFn H (fun _ h => f161p_ok h) (by rfl) (by rfl) (by simp only [deep_eq, imm_simps, imm_rowE, imm_ptrE, imm_enc, omap_simps, take_map_len, take_map_set, take_map_set2, le_refl_true, Nat.zero_add, and_true, true_and, List.drop_zero, Option.map_some, ↓wk, ↓wl, nq, evV, ↓reduceIte, sevalprocAttr]; rfl) (by rfl) (fun _ => rfl) (fun _ => rfl) ?_ <;> clear H <;> intro x2 H
 try simp only [eL, ↓wk, ↓wl, nq, evV, ↓reduceIte, sevalprocAttr]
 refine AW.rseq ?_
 try simp only [↓wk, ↓wl, nq, evV, ↓reduceIte, sevalprocAttr]
 refine AW.ifc H (by rfl) ?_ ?_ <;> clear H <;> intro H
 ·refine AW.rseq ?_
  try simp only [↓wk, ↓wl, nq, evV, ↓reduceIte, sevalprocAttr]
  refine AW.ret ?_
  refine seqQ.ret ?_
  cases H
  exact hQ.fin
 ·refine AW.skip ?_
  refine seqQ.norm ?_
  refine AW.rseq ?_
  try simp only [↓wk, ↓wl, nq, evV, ↓reduceIte, sevalprocAttr]
  refine evTs_inl (I := f137_C1 x0 x1) (args := [.ptr 0 0]) H (by rfl) fd164 (by rfl) (Nat.le_of_ble_eq_true rfl) ?_ ?_ <;> clear H
  ·rintro v_ Q_ H hqf137_C1
   simp only [f137_C1] at H
   dsimp only [List.length_cons, List.length_nil]
   refine AW.rseq ?_
   try simp only [↓wk, ↓wl, nq, evV, ↓reduceIte, sevalprocAttr]
   refine AW.scope ?_
   refine AW.rseq ?_
   try simp only [↓wk, ↓wl, nq, evV, ↓reduceIte, sevalprocAttr]
   refine AW.skseq ?_
   refine AW.sseq ?_
   refine AW.rseq ?_
   try simp only [↓wk, ↓wl, nq, evV, ↓reduceIte, sevalprocAttr]
   refine AW.bend ?_
   refine AW.iter H ((Le.tq 1 [0] [0, 4, 5] (by simp only [f137_L2c, rrm, ↓wk, ↓wl, evV, ↓reduceIte, sevalprocAttr] <;> rfl))) ?_ <;> clear H
   rintro ⟨x3, x4, x5⟩ x_ st0_ H hst_
   rw [f137_L2c] at hst_
   simp only [f137_L2] at H
   subst hst_
   refine AW.bseq ?_
   refine AW.sseq ?_
   refine AW.rseq ?_
   try simp only [↓wk, ↓wl, nq, evV, ↓reduceIte, sevalprocAttr]
   refine evTs_flat hFn H (fun _ h => f162p_ok h) (by rfl) (by rfl) (by simp only [deep_eq, imm_simps, imm_rowE, imm_ptrE, imm_enc, omap_simps, take_map_len, take_map_set, take_map_set2, le_refl_true, Nat.zero_add, and_true, true_and, List.drop_zero, Option.map_some, ↓wk, ↓wl, nq, evV, ↓reduceIte, sevalprocAttr]; rfl) (by rfl) (fun _ => rfl) (fun _ => rfl) ?_ <;> clear H <;> intro x6 H
   try simp only [eL, ↓wk, ↓wl, nq, evV, ↓reduceIte, sevalprocAttr]
   refine AW.ifc H (by rfl) ?_ ?_ <;> clear H <;> intro H
   ·refine AW.rseq ?_
    try simp only [↓wk, ↓wl, nq, evV, ↓reduceIte, sevalprocAttr]
    refine AW.ret ?_
    refine seqQ.ret ?_
    refine blkQ.ret ?_
    refine loopQ.ret H ?_ <;> clear H <;> intro H
    try dsimp only at H
    refine blk0.ret ?_
    refine seqQ.ret ?_
    cases H
    exact hqf137_C1 _ _ _ (.inr rfl) (Le.tq 1 [0] [2, 3] rfl) (by simp only [resVs, omap, resV, f137_C1, rrm, ↓wk, ↓wl, evV, ↓reduceIte, sevalprocAttr]) (by simp only [f137_C1, rrm, ↓wk, ↓wl, evV, ↓reduceIte, sevalprocAttr])
   ·refine AW.skip ?_
    refine seqQ.norm ?_
    refine AW.rseq ?_
    try simp only [↓wk, ↓wl, nq, evV, ↓reduceIte, sevalprocAttr]
    refine evTs_inl (I := f137_C3 x0 x5) (args := [.ptr 0 0, .int .i64 1]) H (by rfl) fd163 (by rfl) (Nat.le_of_ble_eq_true rfl) ?_ ?_ <;> clear H
    ·rintro v_ Q_ H hqf137_C3
     simp only [f137_C3] at H
     dsimp only [List.length_cons, List.length_nil]
     refine AW.rseq ?_
     try simp only [↓wk, ↓wl, nq, evV, ↓reduceIte, sevalprocAttr]
     refine AW.rseq ?_
     try simp only [↓wk, ↓wl, nq, evV, ↓reduceIte, sevalprocAttr]
     refine AW.rseq ?_
     try simp only [↓wk, ↓wl, nq, evV, ↓reduceIte, sevalprocAttr]
     refine evTs_sslc H (by rfl) (by simp only [loI, hiI, ↓wk, ↓wl, nq, evV, ↓reduceIte, sevalprocAttr]; rfl) (by simp only [loI, hiI, ↓wk, ↓wl, nq, evV, ↓reduceIte, sevalprocAttr]; rfl) ?_ <;> clear H <;> intro x7 H
     try simp only [↓wk, ↓wl, nq, evV, ↓reduceIte, sevalprocAttr]
     refine AW.ret ?_
     cases H
     exact hqf137_C3 _ _ _ (.inr rfl) (Le.tq 1 [0] [4] rfl) (by simp only [resVs, omap, resV, f137_C3, rrm, ↓wk, ↓wl, evV, ↓reduceIte, sevalprocAttr]) (by simp only [f137_C3, rrm, ↓wk, ↓wl, evV, ↓reduceIte, sevalprocAttr])
    ·rintro ⟨x8, x9⟩ s_ h_ H hs_ hh_
     simp only [f137_C3] at H hs_ hh_
     subst hs_
     subst hh_
     try simp only [↓wk, ↓wl, nq, evV, ↓reduceIte, sevalprocAttr]
     refine evTs_sat H (by rfl) (by rfl) ?_ <;> clear H <;> intro xa H
     try simp only [↓wk, ↓wl, nq, evV, ↓reduceIte, sevalprocAttr]
     refine AW.rseq ?_
     try simp only [↓wk, ↓wl, nq, evV, ↓reduceIte, sevalprocAttr]
     refine rest_and ?_
     try simp only [↓wk, ↓wl, nq, evV, ↓reduceIte, sevalprocAttr]
     refine rest_shlv H ?_ <;> clear H <;> intro H
     try simp only [↓wk, ↓wl, nq, evV, ↓reduceIte, sevalprocAttr]
     refine rest_or ?_
     try simp only [↓wk, ↓wl, nq, evV, ↓reduceIte, sevalprocAttr]
     refine AW.bend ?_
     refine AW.sseq ?_
     refine AW.rseq ?_
     try simp only [↓wk, ↓wl, nq, evV, ↓reduceIte, sevalprocAttr]
     refine evTs_ifg H (by rfl) ?_ ?_ <;> clear H <;> intro H
     ·try simp only [↓wk, ↓wl, nq, evV, ↓reduceIte, sevalprocAttr]
      refine AW.ifc H (by rfl) ?_ ?_ <;> clear H <;> intro H
      ·refine AW.skip ?_
       refine seqQ.norm ?_
       refine AW.ifc H (by rfl) ?_ ?_ <;> clear H <;> intro H
       ·refine AW.rseq ?_
        try simp only [↓wk, ↓wl, nq, evV, ↓reduceIte, sevalprocAttr]
        refine AW.ret ?_
        refine blk0.ret ?_
        refine blkQ.ret ?_
        refine loopQ.ret H ?_ <;> clear H <;> intro H
        try dsimp only at H
        refine blk0.ret ?_
        refine seqQ.ret ?_
        cases H
        exact hqf137_C1 _ _ _ (.inr rfl) (Le.tq 1 [0] [2, 3] rfl) (by simp only [resVs, omap, resV, f137_C1, rrm, ↓wk, ↓wl, evV, ↓reduceIte, sevalprocAttr]) (by simp only [f137_C1, rrm, ↓wk, ↓wl, evV, ↓reduceIte, sevalprocAttr])
       ·refine AW.rseq ?_
        try simp only [↓wk, ↓wl, nq, evV, ↓reduceIte, sevalprocAttr]
        refine AW.ifc H (by rfl) ?_ ?_ <;> clear H <;> intro H
        ·refine AW.exit ?_
         refine blk0.out (by rfl) ?_
         refine blkQ.out (by rfl) ?_
         refine loopQ.exit H ?_ <;> clear H <;> intro H
         try dsimp only at H
         refine blk0.here ?_
         refine seqQ.norm ?_
         refine AW.rseq ?_
         try simp only [↓wk, ↓wl, nq, evV, ↓reduceIte, sevalprocAttr]
         refine rest_shr (by decide) ?_
         try simp only [↓wk, ↓wl, nq, evV, ↓reduceIte, sevalprocAttr]
         refine rest_and ?_
         try simp only [↓wk, ↓wl, nq, evV, ↓reduceIte, sevalprocAttr]
         refine rest_xor ?_
         try simp only [↓wk, ↓wl, nq, evV, ↓reduceIte, sevalprocAttr]
         refine AW.ret ?_
         cases H
         exact hqf137_C1 _ _ _ (.inr rfl) (Le.tq 1 [0] [2, 3] rfl) (by simp only [resVs, omap, resV, f137_C1, rrm, ↓wk, ↓wl, evV, ↓reduceIte, sevalprocAttr]) (by simp only [f137_C1, rrm, ↓wk, ↓wl, evV, ↓reduceIte, sevalprocAttr])
        ·refine AW.skip ?_
         refine blk0.norm ?_
         refine blkQ.norm ?_
         refine AW.rend ?_
         try simp only [↓wk, ↓wl, nq, evV, ↓reduceIte, sevalprocAttr]
         exact loopQ.next H ((Le.tq 1 [0] [0, 4, 5] (by simp only [f137_L2c, rrm, ↓wk, ↓wl, evV, ↓reduceIte, sevalprocAttr] <;> rfl)))
      ·refine AW.rend ?_
       try simp only [↓wk, ↓wl, nq, evV, ↓reduceIte, sevalprocAttr]
       refine evTs_ifg H (by rfl) ?_ ?_ <;> clear H <;> intro H
       ·try simp only [↓wk, ↓wl, nq, evV, ↓reduceIte, sevalprocAttr]
        refine seqQ.norm ?_
        refine AW.ifc H (by rfl) ?_ ?_ <;> clear H <;> intro H
        ·refine AW.rseq ?_
         try simp only [↓wk, ↓wl, nq, evV, ↓reduceIte, sevalprocAttr]
         refine AW.ret ?_
         refine blk0.ret ?_
         refine blkQ.ret ?_
         refine loopQ.ret H ?_ <;> clear H <;> intro H
         try dsimp only at H
         refine blk0.ret ?_
         refine seqQ.ret ?_
         cases H
         exact hqf137_C1 _ _ _ (.inr rfl) (Le.tq 1 [0] [2, 3] rfl) (by simp only [resVs, omap, resV, f137_C1, rrm, ↓wk, ↓wl, evV, ↓reduceIte, sevalprocAttr]) (by simp only [f137_C1, rrm, ↓wk, ↓wl, evV, ↓reduceIte, sevalprocAttr])
        ·refine AW.rseq ?_
         try simp only [↓wk, ↓wl, nq, evV, ↓reduceIte, sevalprocAttr]
         refine AW.ifc H (by rfl) ?_ ?_ <;> clear H <;> intro H
         ·refine AW.exit ?_
          refine blk0.out (by rfl) ?_
          refine blkQ.out (by rfl) ?_
          refine loopQ.exit H ?_ <;> clear H <;> intro H
          try dsimp only at H
          refine blk0.here ?_
          refine seqQ.norm ?_
          refine AW.rseq ?_
          try simp only [↓wk, ↓wl, nq, evV, ↓reduceIte, sevalprocAttr]
          refine rest_shr (by decide) ?_
          try simp only [↓wk, ↓wl, nq, evV, ↓reduceIte, sevalprocAttr]
          refine rest_and ?_
          try simp only [↓wk, ↓wl, nq, evV, ↓reduceIte, sevalprocAttr]
          refine rest_xor ?_
          try simp only [↓wk, ↓wl, nq, evV, ↓reduceIte, sevalprocAttr]
          refine AW.ret ?_
          cases H
          exact hqf137_C1 _ _ _ (.inr rfl) (Le.tq 1 [0] [2, 3] rfl) (by simp only [resVs, omap, resV, f137_C1, rrm, ↓wk, ↓wl, evV, ↓reduceIte, sevalprocAttr]) (by simp only [f137_C1, rrm, ↓wk, ↓wl, evV, ↓reduceIte, sevalprocAttr])
         ·refine AW.skip ?_
          refine blk0.norm ?_
          refine blkQ.norm ?_
          refine AW.rend ?_
          try simp only [↓wk, ↓wl, nq, evV, ↓reduceIte, sevalprocAttr]
          exact loopQ.next H ((Le.tq 1 [0] [0, 4, 5] (by simp only [f137_L2c, rrm, ↓wk, ↓wl, evV, ↓reduceIte, sevalprocAttr] <;> rfl)))
       ·try simp only [↓wk, ↓wl, nq, evV, ↓reduceIte, sevalprocAttr]
        refine seqQ.norm ?_
        refine AW.iff (by rfl) ?_
        refine AW.rseq ?_
        try simp only [↓wk, ↓wl, nq, evV, ↓reduceIte, sevalprocAttr]
        refine AW.ifc H (by rfl) ?_ ?_ <;> clear H <;> intro H
        ·refine AW.exit ?_
         refine blk0.out (by rfl) ?_
         refine blkQ.out (by rfl) ?_
         refine loopQ.exit H ?_ <;> clear H <;> intro H
         try dsimp only at H
         refine blk0.here ?_
         refine seqQ.norm ?_
         refine AW.rseq ?_
         try simp only [↓wk, ↓wl, nq, evV, ↓reduceIte, sevalprocAttr]
         refine rest_shr (by decide) ?_
         try simp only [↓wk, ↓wl, nq, evV, ↓reduceIte, sevalprocAttr]
         refine rest_and ?_
         try simp only [↓wk, ↓wl, nq, evV, ↓reduceIte, sevalprocAttr]
         refine rest_xor ?_
         try simp only [↓wk, ↓wl, nq, evV, ↓reduceIte, sevalprocAttr]
         refine AW.ret ?_
         cases H
         exact hqf137_C1 _ _ _ (.inr rfl) (Le.tq 1 [0] [2, 3] rfl) (by simp only [resVs, omap, resV, f137_C1, rrm, ↓wk, ↓wl, evV, ↓reduceIte, sevalprocAttr]) (by simp only [f137_C1, rrm, ↓wk, ↓wl, evV, ↓reduceIte, sevalprocAttr])
        ·refine AW.skip ?_
         refine blk0.norm ?_
         refine blkQ.norm ?_
         refine AW.rend ?_
         try simp only [↓wk, ↓wl, nq, evV, ↓reduceIte, sevalprocAttr]
         exact loopQ.next H ((Le.tq 1 [0] [0, 4, 5] (by simp only [f137_L2c, rrm, ↓wk, ↓wl, evV, ↓reduceIte, sevalprocAttr] <;> rfl)))
     ·try simp only [↓wk, ↓wl, nq, evV, ↓reduceIte, sevalprocAttr]
      refine AW.iff (by rfl) ?_
      refine AW.rend ?_
      try simp only [↓wk, ↓wl, nq, evV, ↓reduceIte, sevalprocAttr]
      refine evTs_ifg H (by rfl) ?_ ?_ <;> clear H <;> intro H
      ·try simp only [↓wk, ↓wl, nq, evV, ↓reduceIte, sevalprocAttr]
       refine seqQ.norm ?_
       refine AW.ifc H (by rfl) ?_ ?_ <;> clear H <;> intro H
       ·refine AW.rseq ?_
        try simp only [↓wk, ↓wl, nq, evV, ↓reduceIte, sevalprocAttr]
        refine AW.ret ?_
        refine blk0.ret ?_
        refine blkQ.ret ?_
        refine loopQ.ret H ?_ <;> clear H <;> intro H
        try dsimp only at H
        refine blk0.ret ?_
        refine seqQ.ret ?_
        cases H
        exact hqf137_C1 _ _ _ (.inr rfl) (Le.tq 1 [0] [2, 3] rfl) (by simp only [resVs, omap, resV, f137_C1, rrm, ↓wk, ↓wl, evV, ↓reduceIte, sevalprocAttr]) (by simp only [f137_C1, rrm, ↓wk, ↓wl, evV, ↓reduceIte, sevalprocAttr])
       ·refine AW.rseq ?_
        try simp only [↓wk, ↓wl, nq, evV, ↓reduceIte, sevalprocAttr]
        refine AW.ifc H (by rfl) ?_ ?_ <;> clear H <;> intro H
        ·refine AW.exit ?_
         refine blk0.out (by rfl) ?_
         refine blkQ.out (by rfl) ?_
         refine loopQ.exit H ?_ <;> clear H <;> intro H
         try dsimp only at H
         refine blk0.here ?_
         refine seqQ.norm ?_
         refine AW.rseq ?_
         try simp only [↓wk, ↓wl, nq, evV, ↓reduceIte, sevalprocAttr]
         refine rest_shr (by decide) ?_
         try simp only [↓wk, ↓wl, nq, evV, ↓reduceIte, sevalprocAttr]
         refine rest_and ?_
         try simp only [↓wk, ↓wl, nq, evV, ↓reduceIte, sevalprocAttr]
         refine rest_xor ?_
         try simp only [↓wk, ↓wl, nq, evV, ↓reduceIte, sevalprocAttr]
         refine AW.ret ?_
         cases H
         exact hqf137_C1 _ _ _ (.inr rfl) (Le.tq 1 [0] [2, 3] rfl) (by simp only [resVs, omap, resV, f137_C1, rrm, ↓wk, ↓wl, evV, ↓reduceIte, sevalprocAttr]) (by simp only [f137_C1, rrm, ↓wk, ↓wl, evV, ↓reduceIte, sevalprocAttr])
        ·refine AW.skip ?_
         refine blk0.norm ?_
         refine blkQ.norm ?_
         refine AW.rend ?_
         try simp only [↓wk, ↓wl, nq, evV, ↓reduceIte, sevalprocAttr]
         exact loopQ.next H ((Le.tq 1 [0] [0, 4, 5] (by simp only [f137_L2c, rrm, ↓wk, ↓wl, evV, ↓reduceIte, sevalprocAttr] <;> rfl)))
      ·try simp only [↓wk, ↓wl, nq, evV, ↓reduceIte, sevalprocAttr]
       refine seqQ.norm ?_
       refine AW.iff (by rfl) ?_
       refine AW.rseq ?_
       try simp only [↓wk, ↓wl, nq, evV, ↓reduceIte, sevalprocAttr]
       refine AW.ifc H (by rfl) ?_ ?_ <;> clear H <;> intro H
       ·refine AW.exit ?_
        refine blk0.out (by rfl) ?_
        refine blkQ.out (by rfl) ?_
        refine loopQ.exit H ?_ <;> clear H <;> intro H
        try dsimp only at H
        refine blk0.here ?_
        refine seqQ.norm ?_
        refine AW.rseq ?_
        try simp only [↓wk, ↓wl, nq, evV, ↓reduceIte, sevalprocAttr]
        refine rest_shr (by decide) ?_
        try simp only [↓wk, ↓wl, nq, evV, ↓reduceIte, sevalprocAttr]
        refine rest_and ?_
        try simp only [↓wk, ↓wl, nq, evV, ↓reduceIte, sevalprocAttr]
        refine rest_xor ?_
        try simp only [↓wk, ↓wl, nq, evV, ↓reduceIte, sevalprocAttr]
        refine AW.ret ?_
        cases H
        exact hqf137_C1 _ _ _ (.inr rfl) (Le.tq 1 [0] [2, 3] rfl) (by simp only [resVs, omap, resV, f137_C1, rrm, ↓wk, ↓wl, evV, ↓reduceIte, sevalprocAttr]) (by simp only [f137_C1, rrm, ↓wk, ↓wl, evV, ↓reduceIte, sevalprocAttr])
       ·refine AW.skip ?_
        refine blk0.norm ?_
        refine blkQ.norm ?_
        refine AW.rend ?_
        try simp only [↓wk, ↓wl, nq, evV, ↓reduceIte, sevalprocAttr]
        exact loopQ.next H ((Le.tq 1 [0] [0, 4, 5] (by simp only [f137_L2c, rrm, ↓wk, ↓wl, evV, ↓reduceIte, sevalprocAttr] <;> rfl)))
  ·rintro ⟨xb, xc, xd⟩ s_ h_ H hs_ hh_
   simp only [f137_C1] at H hs_ hh_
   subst hs_
   subst hh_
   try simp only [↓wk, ↓wl, nq, evV, ↓reduceIte, sevalprocAttr]
   refine AW.sseq ?_
   refine AW.rseq ?_
   try simp only [↓wk, ↓wl, nq, evV, ↓reduceIte, sevalprocAttr]
   refine AW.ifc H (by rfl) ?_ ?_ <;> clear H <;> intro H
   ·refine AW.rseq ?_
    try simp only [↓wk, ↓wl, nq, evV, ↓reduceIte, sevalprocAttr]
    refine AW.ret ?_
    refine seqQ.ret ?_
    cases H
    exact hQ.fin
   ·refine AW.skip ?_
    refine seqQ.norm ?_
    refine AW.rseq ?_
    try simp only [↓wk, ↓wl, nq, evV, ↓reduceIte, sevalprocAttr]
    refine AW.ret ?_
    cases H
    exact hQ.fin
def c165_0 : C := .cond (.t 22) (.seq (.reg [iI 2 (.mv (.c (.str []))), iI 3 (.mv (.c (.int .i64 20)))]) .ret) (.skip)
def c165_1 : C := .cond (.t 15) (.seq (.reg [iI 2 (.mv (.c (.str []))), iI 3 (.mv (.c (.int .i64 3)))]) .ret) (.seq (.reg [iI 23 (.mv (.t 0)), iI 24 (.mv (.t 4)), iI 25 (.call (.c (.fn 162 [])) [(.t 23), (.t 24)]), iI 26 (.un .not (.t 25)), iI 22 (.mv (.t 26))]) c165_0)
def c165_2 : C := .cond (.t 11) (.seq (.reg [iI 14 (.mv (.t 5)), iI 2 (.mv (.c (.str []))), iI 3 (.mv (.t 14))]) .ret) (.seq (.reg [iI 16 (.mv (.t 4)), iI 17 (.bin .lss (.t 16) (.c (.int .i64 0))), iI 18 (.mv (.t 17)), iG (some 19) 18 false (.mv (.t 4)), iG (some 20) 18 false (.bin .gtr (.t 19) (.c (.int .i64 65535))), iI 21 (.pick (.t 18) (.c (.bool true)) (.t 20)), iI 15 (.mv (.t 21))]) c165_1)
def c165_3 : C := .seq (.reg [iI 27 (.mv (.t 0)), iI 28 (.mv (.t 4)), iI 29 (.call (.c (.fn 163 [])) [(.t 27), (.t 28)]), iI 2 (.mv (.t 29)), iI 3 (.mv (.c (.int .i64 0)))]) .ret
def c165_4 : C := .seq (.block 0 (.seq (.reg [iI 12 (.mv (.t 5)), iI 13 (.bin .neq (.t 12) (.c (.int .i64 0))), iI 11 (.mv (.t 13))]) c165_2)) c165_3
def c165_5 : C := .seq (.reg [iI 7 (.mv (.t 0)), iI 8 (.call (.c (.fn 164 [])) [(.t 7)]), iI 6 (.mv (.t 8)), iI 9 (.ext (.t 6) 0), iI 10 (.ext (.t 6) 1), iI 4 (.mv (.t 9)), iI 5 (.mv (.t 10))]) c165_4
def ir165 : C := .seq (.reg [iI 2 (.mv (.c (.str []))), iI 3 (.mv (.c (.int .i64 0)))]) c165_5
theorem fd165 : fd? Try.prog 165 = some (30, [.slot 2, .slot 3], ir165) := by kernel_rfl
noncomputable def f138_C4 (x0 : (List UInt8)) (x1 : Int) : Il ((List UInt8) × Int) where
  run := (slc? x0 (IntKind.i64.wrap ((IntKind.i64.wrap (x1 + 1)) - 1)) (IntKind.i64.wrap (x1 + 1))).bind fun x2 => (some (x2, (IntKind.i64.wrap (x1 + 1))))
  res := fun (x3, x4) => .str x3
  hp := fun (x3, x4) => [.cel [.str x0, .int .i64 x4]]
noncomputable def f138_L3 (x0 : (List UInt8)) : Lp (Int × Int × Int) ((Int × Int) ⊕ (Int × Int)) where
  body := fun (x1, x2, x3) => (f162p x0 x3 1).bind fun x4 => (if (!x4) = true then (some (.brk (Sum.inr (x3, 20)))) else ((f138_C4 x0 x3).run.bind fun (x5, x6) => (at? x5 0).bind fun x7 => (must? (0 ≤ x2)).bind fun _ => (if (decide (x2 = 63)) = true then (if (decide (1 < (x7.toNat : Int))) = true then (if (decide (1 < (x7.toNat : Int))) = true then (some (.brk (Sum.inr (x6, 3)))) else (if (decide ((x7.toNat : Int) < 128)) = true then (some (.brk (Sum.inl ((IntKind.u64.wrap ((BitVec.ofInt (IntKind.bits .u64) x1 ||| BitVec.ofInt (IntKind.bits .u64) (IntKind.u64.wrap ((IntKind.u64.wrap (IntKind.u8.wrap ((BitVec.ofInt (IntKind.bits .u8) (x7.toNat : Int) &&& BitVec.ofInt (IntKind.bits .u8) 127).toNat : Int))) * 2 ^ (min (Int.toNat x2) (IntKind.bits .u64))))).toNat : Int)), x6)))) else (some (.next ((IntKind.u64.wrap ((BitVec.ofInt (IntKind.bits .u64) x1 ||| BitVec.ofInt (IntKind.bits .u64) (IntKind.u64.wrap ((IntKind.u64.wrap (IntKind.u8.wrap ((BitVec.ofInt (IntKind.bits .u8) (x7.toNat : Int) &&& BitVec.ofInt (IntKind.bits .u8) 127).toNat : Int))) * 2 ^ (min (Int.toNat x2) (IntKind.bits .u64))))).toNat : Int)), (IntKind.i64.wrap (x2 + 7)), x6))))) else (if (decide ((x7.toNat : Int) = 0)) = true then (if (decide (0 < x2)) = true then (some (.brk (Sum.inr (x6, 3)))) else (if (decide ((x7.toNat : Int) < 128)) = true then (some (.brk (Sum.inl ((IntKind.u64.wrap ((BitVec.ofInt (IntKind.bits .u64) x1 ||| BitVec.ofInt (IntKind.bits .u64) (IntKind.u64.wrap ((IntKind.u64.wrap (IntKind.u8.wrap ((BitVec.ofInt (IntKind.bits .u8) (x7.toNat : Int) &&& BitVec.ofInt (IntKind.bits .u8) 127).toNat : Int))) * 2 ^ (min (Int.toNat x2) (IntKind.bits .u64))))).toNat : Int)), x6)))) else (some (.next ((IntKind.u64.wrap ((BitVec.ofInt (IntKind.bits .u64) x1 ||| BitVec.ofInt (IntKind.bits .u64) (IntKind.u64.wrap ((IntKind.u64.wrap (IntKind.u8.wrap ((BitVec.ofInt (IntKind.bits .u8) (x7.toNat : Int) &&& BitVec.ofInt (IntKind.bits .u8) 127).toNat : Int))) * 2 ^ (min (Int.toNat x2) (IntKind.bits .u64))))).toNat : Int)), (IntKind.i64.wrap (x2 + 7)), x6))))) else (if (decide ((x7.toNat : Int) < 128)) = true then (some (.brk (Sum.inl ((IntKind.u64.wrap ((BitVec.ofInt (IntKind.bits .u64) x1 ||| BitVec.ofInt (IntKind.bits .u64) (IntKind.u64.wrap ((IntKind.u64.wrap (IntKind.u8.wrap ((BitVec.ofInt (IntKind.bits .u8) (x7.toNat : Int) &&& BitVec.ofInt (IntKind.bits .u8) 127).toNat : Int))) * 2 ^ (min (Int.toNat x2) (IntKind.bits .u64))))).toNat : Int)), x6)))) else (some (.next ((IntKind.u64.wrap ((BitVec.ofInt (IntKind.bits .u64) x1 ||| BitVec.ofInt (IntKind.bits .u64) (IntKind.u64.wrap ((IntKind.u64.wrap (IntKind.u8.wrap ((BitVec.ofInt (IntKind.bits .u8) (x7.toNat : Int) &&& BitVec.ofInt (IntKind.bits .u8) 127).toNat : Int))) * 2 ^ (min (Int.toNat x2) (IntKind.bits .u64))))).toNat : Int)), (IntKind.i64.wrap (x2 + 7)), x6)))))) else (if (decide ((x7.toNat : Int) = 0)) = true then (if (decide (0 < x2)) = true then (some (.brk (Sum.inr (x6, 3)))) else (if (decide ((x7.toNat : Int) < 128)) = true then (some (.brk (Sum.inl ((IntKind.u64.wrap ((BitVec.ofInt (IntKind.bits .u64) x1 ||| BitVec.ofInt (IntKind.bits .u64) (IntKind.u64.wrap ((IntKind.u64.wrap (IntKind.u8.wrap ((BitVec.ofInt (IntKind.bits .u8) (x7.toNat : Int) &&& BitVec.ofInt (IntKind.bits .u8) 127).toNat : Int))) * 2 ^ (min (Int.toNat x2) (IntKind.bits .u64))))).toNat : Int)), x6)))) else (some (.next ((IntKind.u64.wrap ((BitVec.ofInt (IntKind.bits .u64) x1 ||| BitVec.ofInt (IntKind.bits .u64) (IntKind.u64.wrap ((IntKind.u64.wrap (IntKind.u8.wrap ((BitVec.ofInt (IntKind.bits .u8) (x7.toNat : Int) &&& BitVec.ofInt (IntKind.bits .u8) 127).toNat : Int))) * 2 ^ (min (Int.toNat x2) (IntKind.bits .u64))))).toNat : Int)), (IntKind.i64.wrap (x2 + 7)), x6))))) else (if (decide ((x7.toNat : Int) < 128)) = true then (some (.brk (Sum.inl ((IntKind.u64.wrap ((BitVec.ofInt (IntKind.bits .u64) x1 ||| BitVec.ofInt (IntKind.bits .u64) (IntKind.u64.wrap ((IntKind.u64.wrap (IntKind.u8.wrap ((BitVec.ofInt (IntKind.bits .u8) (x7.toNat : Int) &&& BitVec.ofInt (IntKind.bits .u8) 127).toNat : Int))) * 2 ^ (min (Int.toNat x2) (IntKind.bits .u64))))).toNat : Int)), x6)))) else (some (.next ((IntKind.u64.wrap ((BitVec.ofInt (IntKind.bits .u64) x1 ||| BitVec.ofInt (IntKind.bits .u64) (IntKind.u64.wrap ((IntKind.u64.wrap (IntKind.u8.wrap ((BitVec.ofInt (IntKind.bits .u8) (x7.toNat : Int) &&& BitVec.ofInt (IntKind.bits .u8) 127).toNat : Int))) * 2 ^ (min (Int.toNat x2) (IntKind.bits .u64))))).toNat : Int)), (IntKind.i64.wrap (x2 + 7)), x6))))))))
  cst := fun (x1, x2, x3) => ⟨put (put (put (fun _ => .junk) 5 (.int .i64 x2)) 4 (.int .u64 x1)) 0 (.ptr 0 0), [.cel [.str x0, .int .i64 x3]]⟩
theorem f138_L3c (x0 : (List UInt8)) (x1 : Int) (x2 : Int) (x3 : Int) : (f138_L3 x0).cst (x1, x2, x3) = ⟨put (put (put (fun _ => .junk) 5 (.int .i64 x2)) 4 (.int .u64 x1)) 0 (.ptr 0 0), [.cel [.str x0, .int .i64 x3]]⟩ := rfl
noncomputable def f138_C2 (x0 : (List UInt8)) (x1 : Int) : Il (Int × Int × Int) where
  run := ((Lp.run (f138_L3 x0) (0, 0, x1)).bind fun r_ => match r_ with | (Sum.inl (x2, x3)) => (some ((IntKind.i64.wrap ((BitVec.ofInt (IntKind.bits .i64) (IntKind.i64.wrap (Int.fdiv x2 (2 ^ (min (Int.toNat 1) (IntKind.bits .u64))))) ^^^ BitVec.ofInt (IntKind.bits .i64) (IntKind.i64.wrap (0 - (IntKind.i64.wrap (IntKind.u64.wrap ((BitVec.ofInt (IntKind.bits .u64) x2 &&& BitVec.ofInt (IntKind.bits .u64) 1).toNat : Int)))))).toNat : Int)), 0, x3)) | (Sum.inr (x4, x5)) => (some (0, x5, x4)))
  res := fun (x6, x7, x8) => .tup [.int .i64 x6, .int .i64 x7]
  hp := fun (x6, x7, x8) => [.cel [.str x0, .int .i64 x8]]
noncomputable def f138_C5 (x0 : (List UInt8)) (x1 : Int) (x2 : Int) : Il ((List UInt8) × Int) where
  run := (slc? x0 (IntKind.i64.wrap ((IntKind.i64.wrap (x1 + x2)) - x2)) (IntKind.i64.wrap (x1 + x2))).bind fun x3 => (some (x3, (IntKind.i64.wrap (x1 + x2))))
  res := fun (x4, x5) => .str x4
  hp := fun (x4, x5) => [.cel [.str x0, .int .i64 x5]]
noncomputable def f138_C1 (x0 : (List UInt8)) (x1 : Int) : Il ((List UInt8) × Int × Int) where
  run := ((f138_C2 x0 x1).run.bind fun (x2, x3, x4) => (if (decide (x3 ≠ 0)) = true then (some ([], x3, x4)) else (if (decide (x2 < 0)) = true then (some ([], 3, x4)) else (if (decide (65535 < x2)) = true then (some ([], 3, x4)) else (f162p x0 x4 x2).bind fun x5 => (if (!x5) = true then (some ([], 20, x4)) else ((f138_C5 x0 x4 x2).run.bind fun (x6, x7) => (some (x6, 0, x7))))))))
  res := fun (x8, x9, xa) => .tup [.str x8, .int .i64 x9]
  hp := fun (x8, x9, xa) => [.cel [.str x0, .int .i64 xa]]
def c138_0 : C := .cond (.t 18) (.seq (.reg [iI 19 (.mv (.t 8)), iI 4 (.mv (.c (.str []))), iI 5 (.mv (.c (.int .i64 0))), iI 6 (.mv (.t 19))]) .ret) (.skip)
def c138_1 : C := .seq (.reg [iI 17 (.mv (.t 8)), iI 18 (.bin .neq (.t 17) (.c (.int .i64 0)))]) c138_0
def c138_2 : C := .cond (.t 26) (.seq (.reg [iI 27 (.mv (.t 10)), iI 4 (.mv (.c (.str []))), iI 5 (.mv (.c (.int .i64 0))), iI 6 (.mv (.t 27))]) .ret) (.skip)
def c138_3 : C := .seq (.reg [iI 28 (.mv (.t 9)), iI 29 (.mv (.t 7)), iI 30 (.nilchk (.t 29)), iI 31 (.faddr 1 (.t 30)), iI 32 (.load 0 (.t 31)), iI 4 (.mv (.t 28)), iI 5 (.mv (.t 32)), iI 6 (.mv (.c (.int .i64 0)))]) .ret
def c138_4 : C := .seq (.seq (.reg [iI 25 (.mv (.t 10)), iI 26 (.bin .neq (.t 25) (.c (.int .i64 0)))]) c138_2) c138_3
def c138_5 : C := .seq (.reg [iI 21 (.mv (.t 7)), iI 22 (.call (.c (.fn 165 [])) [(.t 21)]), iI 20 (.mv (.t 22)), iI 23 (.ext (.t 20) 0), iI 24 (.ext (.t 20) 1), iI 9 (.mv (.t 23)), iI 10 (.mv (.t 24))]) c138_4
def c138_6 : C := .seq (.seq (.reg [iI 15 (.mv (.t 7)), iI 16 (.call (.c (.fn 161 [])) [(.t 15)]), iI 8 (.mv (.t 16))]) c138_1) c138_5
def c138_7 : C := .seq (.reg [iI 11 (.mv (.t 0)), iI 12 (.mv (.t 1)), iI 13 (.build [(1, (.str [])), (1, (.int .i64 0))] [(0, 0, (.t 11)), (1, 0, (.t 12))]), iI 14 (.box (.t 13)), iI 7 (.mv (.t 14))]) c138_6
def ir138 : C := .seq (.reg [iI 4 (.mv (.c (.str []))), iI 5 (.mv (.c (.int .i64 0))), iI 6 (.mv (.c (.int .i64 0)))]) c138_7
theorem fd138 : fd? Try.prog 138 = some (33, [.slot 4, .slot 5, .slot 6], ir138) := by kernel_rfl
noncomputable def f138 (x0 : (List UInt8)) (x1 : Int) : Option ((List UInt8) × Int × Int) :=
  (f161p x0 x1).bind fun x2 => (if (decide (x2 ≠ 0)) = true then (some ([], 0, x2)) else ((f138_C1 x0 x1).run.bind fun (x3, x4, x5) => (if (decide (x4 ≠ 0)) = true then (some ([], 0, x4)) else (some (x3, x5, 0)))))
theorem f138_ok {x0 : (List UInt8)} {x1 : Int} {r_ : (List UInt8) × Int × Int} (H : f138 x0 x1 = some r_) : Pure Try.prog 138 [.str x0, .int .i64 x1] (· = .tup [.str r_.1, .int .i64 r_.2.1, .int .i64 r_.2.2]) := by
 refine Pure.walk3 fd138 none (Nat.le_of_ble_eq_true rfl) (by rfl) fun Q hQ => ?_
 simp only [f138] at H
 refine AW.rseq ?_
 try simp only [↓wk, ↓wl, nq, evV, ↓reduceIte, sevalprocAttr]
 refine AW.rseq ?_
 try simp only [↓wk, ↓wl, nq, evV, ↓reduceIte, sevalprocAttr]
 refine AW.sseq ?_
 refine AW.rseq ?_
 try simp only [↓wk, ↓wl, nq, evV, ↓reduceIte, sevalprocAttr]
 refine evTs_flat hFn H (fun _ h => f161p_ok h) (by rfl) (by rfl) (by simp only [deep_eq, imm_simps, imm_rowE, imm_ptrE, imm_enc, omap_simps, take_map_len, take_map_set, take_map_set2, le_refl_true, Nat.zero_add, and_true, true_and, List.drop_zero, Option.map_some, ↓wk, ↓wl, nq, evV, ↓reduceIte, sevalprocAttr]; rfl) (by rfl) (fun _ => rfl) (fun _ => rfl) ?_ <;> clear H <;> intro x2 H
 try simp only [eL, ↓wk, ↓wl, nq, evV, ↓reduceIte, sevalprocAttr]
 refine AW.rseq ?_
 try simp only [↓wk, ↓wl, nq, evV, ↓reduceIte, sevalprocAttr]
 refine AW.ifc H (by rfl) ?_ ?_ <;> clear H <;> intro H
 ·refine AW.rseq ?_
  try simp only [↓wk, ↓wl, nq, evV, ↓reduceIte, sevalprocAttr]
  refine AW.ret ?_
  refine seqQ.ret ?_
  cases H
  exact hQ.fin
 ·refine AW.skip ?_
  refine seqQ.norm ?_
  refine AW.rseq ?_
  try simp only [↓wk, ↓wl, nq, evV, ↓reduceIte, sevalprocAttr]
  refine evTs_inl (I := f138_C1 x0 x1) (args := [.ptr 0 0]) H (by rfl) fd165 (by rfl) (Nat.le_of_ble_eq_true rfl) ?_ ?_ <;> clear H
  ·rintro v_ Q_ H hqf138_C1
   simp only [f138_C1] at H
   dsimp only [List.length_cons, List.length_nil]
   refine AW.rseq ?_
   try simp only [↓wk, ↓wl, nq, evV, ↓reduceIte, sevalprocAttr]
   refine AW.rseq ?_
   try simp only [↓wk, ↓wl, nq, evV, ↓reduceIte, sevalprocAttr]
   refine evTs_inl (I := f138_C2 x0 x1) (args := [.ptr 0 0]) H (by rfl) fd164 (by rfl) (Nat.le_of_ble_eq_true rfl) ?_ ?_ <;> clear H
   ·rintro v_ Q_ H hqf138_C2
    simp only [f138_C2] at H
    dsimp only [List.length_cons, List.length_nil]
    refine AW.rseq ?_
    try simp only [↓wk, ↓wl, nq, evV, ↓reduceIte, sevalprocAttr]
    refine AW.scope ?_
    refine AW.rseq ?_
    try simp only [↓wk, ↓wl, nq, evV, ↓reduceIte, sevalprocAttr]
    refine AW.skseq ?_
    refine AW.sseq ?_
    refine AW.rseq ?_
    try simp only [↓wk, ↓wl, nq, evV, ↓reduceIte, sevalprocAttr]
    refine AW.bend ?_
    refine AW.iter H ((Le.tq 1 [0] [0, 4, 5] (by simp only [f138_L3c, rrm, ↓wk, ↓wl, evV, ↓reduceIte, sevalprocAttr] <;> rfl))) ?_ <;> clear H
    rintro ⟨x3, x4, x5⟩ x_ st0_ H hst_
    rw [f138_L3c] at hst_
    simp only [f138_L3] at H
    subst hst_
    refine AW.bseq ?_
    refine AW.sseq ?_
    refine AW.rseq ?_
    try simp only [↓wk, ↓wl, nq, evV, ↓reduceIte, sevalprocAttr]
    refine evTs_flat hFn H (fun _ h => f162p_ok h) (by rfl) (by rfl) (by simp only [deep_eq, imm_simps, imm_rowE, imm_ptrE, imm_enc, omap_simps, take_map_len, take_map_set, take_map_set2, le_refl_true, Nat.zero_add, and_true, true_and, List.drop_zero, Option.map_some, ↓wk, ↓wl, nq, evV, ↓reduceIte, sevalprocAttr]; rfl) (by rfl) (fun _ => rfl) (fun _ => rfl) ?_ <;> clear H <;> intro x6 H
    try simp only [eL, ↓wk, ↓wl, nq, evV, ↓reduceIte, sevalprocAttr]
    refine AW.ifc H (by rfl) ?_ ?_ <;> clear H <;> intro H
    ·refine AW.rseq ?_
     try simp only [↓wk, ↓wl, nq, evV, ↓reduceIte, sevalprocAttr]
     refine AW.ret ?_
     refine seqQ.ret ?_
     refine blkQ.ret ?_
     refine loopQ.ret H ?_ <;> clear H <;> intro H
     try dsimp only at H
     refine blk0.ret ?_
     refine seqQ.ret ?_
     cases H
     exact hqf138_C2 _ _ _ (.inr rfl) (Le.tq 1 [0] [2, 3] rfl) (by simp only [resVs, omap, resV, f138_C2, rrm, ↓wk, ↓wl, evV, ↓reduceIte, sevalprocAttr]) (by simp only [f138_C2, rrm, ↓wk, ↓wl, evV, ↓reduceIte, sevalprocAttr])
    ·refine AW.skip ?_
     refine seqQ.norm ?_
     refine AW.rseq ?_
     try simp only [↓wk, ↓wl, nq, evV, ↓reduceIte, sevalprocAttr]
     refine evTs_inl (I := f138_C4 x0 x5) (args := [.ptr 0 0, .int .i64 1]) H (by rfl) fd163 (by rfl) (Nat.le_of_ble_eq_true rfl) ?_ ?_ <;> clear H
     ·rintro v_ Q_ H hqf138_C4
      simp only [f138_C4] at H
      dsimp only [List.length_cons, List.length_nil]
      refine AW.rseq ?_
      try simp only [↓wk, ↓wl, nq, evV, ↓reduceIte, sevalprocAttr]
      refine AW.rseq ?_
      try simp only [↓wk, ↓wl, nq, evV, ↓reduceIte, sevalprocAttr]
      refine AW.rseq ?_
      try simp only [↓wk, ↓wl, nq, evV, ↓reduceIte, sevalprocAttr]
      refine evTs_sslc H (by rfl) (by simp only [loI, hiI, ↓wk, ↓wl, nq, evV, ↓reduceIte, sevalprocAttr]; rfl) (by simp only [loI, hiI, ↓wk, ↓wl, nq, evV, ↓reduceIte, sevalprocAttr]; rfl) ?_ <;> clear H <;> intro x7 H
      try simp only [↓wk, ↓wl, nq, evV, ↓reduceIte, sevalprocAttr]
      refine AW.ret ?_
      cases H
      exact hqf138_C4 _ _ _ (.inr rfl) (Le.tq 1 [0] [4] rfl) (by simp only [resVs, omap, resV, f138_C4, rrm, ↓wk, ↓wl, evV, ↓reduceIte, sevalprocAttr]) (by simp only [f138_C4, rrm, ↓wk, ↓wl, evV, ↓reduceIte, sevalprocAttr])
     ·rintro ⟨x8, x9⟩ s_ h_ H hs_ hh_
      simp only [f138_C4] at H hs_ hh_
      subst hs_
      subst hh_
      try simp only [↓wk, ↓wl, nq, evV, ↓reduceIte, sevalprocAttr]
      refine evTs_sat H (by rfl) (by rfl) ?_ <;> clear H <;> intro xa H
      try simp only [↓wk, ↓wl, nq, evV, ↓reduceIte, sevalprocAttr]
      refine AW.rseq ?_
      try simp only [↓wk, ↓wl, nq, evV, ↓reduceIte, sevalprocAttr]
      refine rest_and ?_
      try simp only [↓wk, ↓wl, nq, evV, ↓reduceIte, sevalprocAttr]
      refine rest_shlv H ?_ <;> clear H <;> intro H
      try simp only [↓wk, ↓wl, nq, evV, ↓reduceIte, sevalprocAttr]
      refine rest_or ?_
      try simp only [↓wk, ↓wl, nq, evV, ↓reduceIte, sevalprocAttr]
      refine AW.bend ?_
      refine AW.sseq ?_
      refine AW.rseq ?_
      try simp only [↓wk, ↓wl, nq, evV, ↓reduceIte, sevalprocAttr]
      refine evTs_ifg H (by rfl) ?_ ?_ <;> clear H <;> intro H
      ·try simp only [↓wk, ↓wl, nq, evV, ↓reduceIte, sevalprocAttr]
       refine AW.ifc H (by rfl) ?_ ?_ <;> clear H <;> intro H
       ·refine AW.skip ?_
        refine seqQ.norm ?_
        refine AW.ifc H (by rfl) ?_ ?_ <;> clear H <;> intro H
        ·refine AW.rseq ?_
         try simp only [↓wk, ↓wl, nq, evV, ↓reduceIte, sevalprocAttr]
         refine AW.ret ?_
         refine blk0.ret ?_
         refine blkQ.ret ?_
         refine loopQ.ret H ?_ <;> clear H <;> intro H
         try dsimp only at H
         refine blk0.ret ?_
         refine seqQ.ret ?_
         cases H
         exact hqf138_C2 _ _ _ (.inr rfl) (Le.tq 1 [0] [2, 3] rfl) (by simp only [resVs, omap, resV, f138_C2, rrm, ↓wk, ↓wl, evV, ↓reduceIte, sevalprocAttr]) (by simp only [f138_C2, rrm, ↓wk, ↓wl, evV, ↓reduceIte, sevalprocAttr])
        ·refine AW.rseq ?_
         try simp only [↓wk, ↓wl, nq, evV, ↓reduceIte, sevalprocAttr]
         refine AW.ifc H (by rfl) ?_ ?_ <;> clear H <;> intro H
         ·refine AW.exit ?_
          refine blk0.out (by rfl) ?_
          refine blkQ.out (by rfl) ?_
          refine loopQ.exit H ?_ <;> clear H <;> intro H
          try dsimp only at H
          refine blk0.here ?_
          refine seqQ.norm ?_
          refine AW.rseq ?_
          try simp only [↓wk, ↓wl, nq, evV, ↓reduceIte, sevalprocAttr]
          refine rest_shr (by decide) ?_
          try simp only [↓wk, ↓wl, nq, evV, ↓reduceIte, sevalprocAttr]
          refine rest_and ?_
          try simp only [↓wk, ↓wl, nq, evV, ↓reduceIte, sevalprocAttr]
          refine rest_xor ?_
          try simp only [↓wk, ↓wl, nq, evV, ↓reduceIte, sevalprocAttr]
          refine AW.ret ?_
          cases H
          exact hqf138_C2 _ _ _ (.inr rfl) (Le.tq 1 [0] [2, 3] rfl) (by simp only [resVs, omap, resV, f138_C2, rrm, ↓wk, ↓wl, evV, ↓reduceIte, sevalprocAttr]) (by simp only [f138_C2, rrm, ↓wk, ↓wl, evV, ↓reduceIte, sevalprocAttr])
         ·refine AW.skip ?_
          refine blk0.norm ?_
          refine blkQ.norm ?_
          refine AW.rend ?_
          try simp only [↓wk, ↓wl, nq, evV, ↓reduceIte, sevalprocAttr]
          exact loopQ.next H ((Le.tq 1 [0] [0, 4, 5] (by simp only [f138_L3c, rrm, ↓wk, ↓wl, evV, ↓reduceIte, sevalprocAttr] <;> rfl)))
       ·refine AW.rend ?_
        try simp only [↓wk, ↓wl, nq, evV, ↓reduceIte, sevalprocAttr]
        refine evTs_ifg H (by rfl) ?_ ?_ <;> clear H <;> intro H
        ·try simp only [↓wk, ↓wl, nq, evV, ↓reduceIte, sevalprocAttr]
         refine seqQ.norm ?_
         refine AW.ifc H (by rfl) ?_ ?_ <;> clear H <;> intro H
         ·refine AW.rseq ?_
          try simp only [↓wk, ↓wl, nq, evV, ↓reduceIte, sevalprocAttr]
          refine AW.ret ?_
          refine blk0.ret ?_
          refine blkQ.ret ?_
          refine loopQ.ret H ?_ <;> clear H <;> intro H
          try dsimp only at H
          refine blk0.ret ?_
          refine seqQ.ret ?_
          cases H
          exact hqf138_C2 _ _ _ (.inr rfl) (Le.tq 1 [0] [2, 3] rfl) (by simp only [resVs, omap, resV, f138_C2, rrm, ↓wk, ↓wl, evV, ↓reduceIte, sevalprocAttr]) (by simp only [f138_C2, rrm, ↓wk, ↓wl, evV, ↓reduceIte, sevalprocAttr])
         ·refine AW.rseq ?_
          try simp only [↓wk, ↓wl, nq, evV, ↓reduceIte, sevalprocAttr]
          refine AW.ifc H (by rfl) ?_ ?_ <;> clear H <;> intro H
          ·refine AW.exit ?_
           refine blk0.out (by rfl) ?_
           refine blkQ.out (by rfl) ?_
           refine loopQ.exit H ?_ <;> clear H <;> intro H
           try dsimp only at H
           refine blk0.here ?_
           refine seqQ.norm ?_
           refine AW.rseq ?_
           try simp only [↓wk, ↓wl, nq, evV, ↓reduceIte, sevalprocAttr]
           refine rest_shr (by decide) ?_
           try simp only [↓wk, ↓wl, nq, evV, ↓reduceIte, sevalprocAttr]
           refine rest_and ?_
           try simp only [↓wk, ↓wl, nq, evV, ↓reduceIte, sevalprocAttr]
           refine rest_xor ?_
           try simp only [↓wk, ↓wl, nq, evV, ↓reduceIte, sevalprocAttr]
           refine AW.ret ?_
           cases H
           exact hqf138_C2 _ _ _ (.inr rfl) (Le.tq 1 [0] [2, 3] rfl) (by simp only [resVs, omap, resV, f138_C2, rrm, ↓wk, ↓wl, evV, ↓reduceIte, sevalprocAttr]) (by simp only [f138_C2, rrm, ↓wk, ↓wl, evV, ↓reduceIte, sevalprocAttr])
          ·refine AW.skip ?_
           refine blk0.norm ?_
           refine blkQ.norm ?_
           refine AW.rend ?_
           try simp only [↓wk, ↓wl, nq, evV, ↓reduceIte, sevalprocAttr]
           exact loopQ.next H ((Le.tq 1 [0] [0, 4, 5] (by simp only [f138_L3c, rrm, ↓wk, ↓wl, evV, ↓reduceIte, sevalprocAttr] <;> rfl)))
        ·try simp only [↓wk, ↓wl, nq, evV, ↓reduceIte, sevalprocAttr]
         refine seqQ.norm ?_
         refine AW.iff (by rfl) ?_
         refine AW.rseq ?_
         try simp only [↓wk, ↓wl, nq, evV, ↓reduceIte, sevalprocAttr]
         refine AW.ifc H (by rfl) ?_ ?_ <;> clear H <;> intro H
         ·refine AW.exit ?_
          refine blk0.out (by rfl) ?_
          refine blkQ.out (by rfl) ?_
          refine loopQ.exit H ?_ <;> clear H <;> intro H
          try dsimp only at H
          refine blk0.here ?_
          refine seqQ.norm ?_
          refine AW.rseq ?_
          try simp only [↓wk, ↓wl, nq, evV, ↓reduceIte, sevalprocAttr]
          refine rest_shr (by decide) ?_
          try simp only [↓wk, ↓wl, nq, evV, ↓reduceIte, sevalprocAttr]
          refine rest_and ?_
          try simp only [↓wk, ↓wl, nq, evV, ↓reduceIte, sevalprocAttr]
          refine rest_xor ?_
          try simp only [↓wk, ↓wl, nq, evV, ↓reduceIte, sevalprocAttr]
          refine AW.ret ?_
          cases H
          exact hqf138_C2 _ _ _ (.inr rfl) (Le.tq 1 [0] [2, 3] rfl) (by simp only [resVs, omap, resV, f138_C2, rrm, ↓wk, ↓wl, evV, ↓reduceIte, sevalprocAttr]) (by simp only [f138_C2, rrm, ↓wk, ↓wl, evV, ↓reduceIte, sevalprocAttr])
         ·refine AW.skip ?_
          refine blk0.norm ?_
          refine blkQ.norm ?_
          refine AW.rend ?_
          try simp only [↓wk, ↓wl, nq, evV, ↓reduceIte, sevalprocAttr]
          exact loopQ.next H ((Le.tq 1 [0] [0, 4, 5] (by simp only [f138_L3c, rrm, ↓wk, ↓wl, evV, ↓reduceIte, sevalprocAttr] <;> rfl)))
      ·try simp only [↓wk, ↓wl, nq, evV, ↓reduceIte, sevalprocAttr]
       refine AW.iff (by rfl) ?_
       refine AW.rend ?_
       try simp only [↓wk, ↓wl, nq, evV, ↓reduceIte, sevalprocAttr]
       refine evTs_ifg H (by rfl) ?_ ?_ <;> clear H <;> intro H
       ·try simp only [↓wk, ↓wl, nq, evV, ↓reduceIte, sevalprocAttr]
        refine seqQ.norm ?_
        refine AW.ifc H (by rfl) ?_ ?_ <;> clear H <;> intro H
        ·refine AW.rseq ?_
         try simp only [↓wk, ↓wl, nq, evV, ↓reduceIte, sevalprocAttr]
         refine AW.ret ?_
         refine blk0.ret ?_
         refine blkQ.ret ?_
         refine loopQ.ret H ?_ <;> clear H <;> intro H
         try dsimp only at H
         refine blk0.ret ?_
         refine seqQ.ret ?_
         cases H
         exact hqf138_C2 _ _ _ (.inr rfl) (Le.tq 1 [0] [2, 3] rfl) (by simp only [resVs, omap, resV, f138_C2, rrm, ↓wk, ↓wl, evV, ↓reduceIte, sevalprocAttr]) (by simp only [f138_C2, rrm, ↓wk, ↓wl, evV, ↓reduceIte, sevalprocAttr])
        ·refine AW.rseq ?_
         try simp only [↓wk, ↓wl, nq, evV, ↓reduceIte, sevalprocAttr]
         refine AW.ifc H (by rfl) ?_ ?_ <;> clear H <;> intro H
         ·refine AW.exit ?_
          refine blk0.out (by rfl) ?_
          refine blkQ.out (by rfl) ?_
          refine loopQ.exit H ?_ <;> clear H <;> intro H
          try dsimp only at H
          refine blk0.here ?_
          refine seqQ.norm ?_
          refine AW.rseq ?_
          try simp only [↓wk, ↓wl, nq, evV, ↓reduceIte, sevalprocAttr]
          refine rest_shr (by decide) ?_
          try simp only [↓wk, ↓wl, nq, evV, ↓reduceIte, sevalprocAttr]
          refine rest_and ?_
          try simp only [↓wk, ↓wl, nq, evV, ↓reduceIte, sevalprocAttr]
          refine rest_xor ?_
          try simp only [↓wk, ↓wl, nq, evV, ↓reduceIte, sevalprocAttr]
          refine AW.ret ?_
          cases H
          exact hqf138_C2 _ _ _ (.inr rfl) (Le.tq 1 [0] [2, 3] rfl) (by simp only [resVs, omap, resV, f138_C2, rrm, ↓wk, ↓wl, evV, ↓reduceIte, sevalprocAttr]) (by simp only [f138_C2, rrm, ↓wk, ↓wl, evV, ↓reduceIte, sevalprocAttr])
         ·refine AW.skip ?_
          refine blk0.norm ?_
          refine blkQ.norm ?_
          refine AW.rend ?_
          try simp only [↓wk, ↓wl, nq, evV, ↓reduceIte, sevalprocAttr]
          exact loopQ.next H ((Le.tq 1 [0] [0, 4, 5] (by simp only [f138_L3c, rrm, ↓wk, ↓wl, evV, ↓reduceIte, sevalprocAttr] <;> rfl)))
       ·try simp only [↓wk, ↓wl, nq, evV, ↓reduceIte, sevalprocAttr]
        refine seqQ.norm ?_
        refine AW.iff (by rfl) ?_
        refine AW.rseq ?_
        try simp only [↓wk, ↓wl, nq, evV, ↓reduceIte, sevalprocAttr]
        refine AW.ifc H (by rfl) ?_ ?_ <;> clear H <;> intro H
        ·refine AW.exit ?_
         refine blk0.out (by rfl) ?_
         refine blkQ.out (by rfl) ?_
         refine loopQ.exit H ?_ <;> clear H <;> intro H
         try dsimp only at H
         refine blk0.here ?_
         refine seqQ.norm ?_
         refine AW.rseq ?_
         try simp only [↓wk, ↓wl, nq, evV, ↓reduceIte, sevalprocAttr]
         refine rest_shr (by decide) ?_
         try simp only [↓wk, ↓wl, nq, evV, ↓reduceIte, sevalprocAttr]
         refine rest_and ?_
         try simp only [↓wk, ↓wl, nq, evV, ↓reduceIte, sevalprocAttr]
         refine rest_xor ?_
         try simp only [↓wk, ↓wl, nq, evV, ↓reduceIte, sevalprocAttr]
         refine AW.ret ?_
         cases H
         exact hqf138_C2 _ _ _ (.inr rfl) (Le.tq 1 [0] [2, 3] rfl) (by simp only [resVs, omap, resV, f138_C2, rrm, ↓wk, ↓wl, evV, ↓reduceIte, sevalprocAttr]) (by simp only [f138_C2, rrm, ↓wk, ↓wl, evV, ↓reduceIte, sevalprocAttr])
        ·refine AW.skip ?_
         refine blk0.norm ?_
         refine blkQ.norm ?_
         refine AW.rend ?_
         try simp only [↓wk, ↓wl, nq, evV, ↓reduceIte, sevalprocAttr]
         exact loopQ.next H ((Le.tq 1 [0] [0, 4, 5] (by simp only [f138_L3c, rrm, ↓wk, ↓wl, evV, ↓reduceIte, sevalprocAttr] <;> rfl)))
   ·rintro ⟨xb, xc, xd⟩ s_ h_ H hs_ hh_
    simp only [f138_C2] at H hs_ hh_
    subst hs_
    subst hh_
    try simp only [↓wk, ↓wl, nq, evV, ↓reduceIte, sevalprocAttr]
    refine AW.bseq ?_
    refine AW.rseq ?_
    try simp only [↓wk, ↓wl, nq, evV, ↓reduceIte, sevalprocAttr]
    refine AW.ifc H (by rfl) ?_ ?_ <;> clear H <;> intro H
    ·refine AW.rseq ?_
     try simp only [↓wk, ↓wl, nq, evV, ↓reduceIte, sevalprocAttr]
     refine AW.ret ?_
     refine blkQ.ret ?_
     cases H
     exact hqf138_C1 _ _ _ (.inr rfl) (Le.tq 1 [0] [2, 3] rfl) (by simp only [resVs, omap, resV, f138_C1, rrm, ↓wk, ↓wl, evV, ↓reduceIte, sevalprocAttr]) (by simp only [f138_C1, rrm, ↓wk, ↓wl, evV, ↓reduceIte, sevalprocAttr])
    ·refine AW.rseq ?_
     try simp only [↓wk, ↓wl, nq, evV, ↓reduceIte, sevalprocAttr]
     refine evTs_ifg H (by rfl) ?_ ?_ <;> clear H <;> intro H
     ·try simp only [↓wk, ↓wl, nq, evV, ↓reduceIte, sevalprocAttr]
      refine AW.ift (by rfl) ?_
      refine AW.rseq ?_
      try simp only [↓wk, ↓wl, nq, evV, ↓reduceIte, sevalprocAttr]
      refine AW.ret ?_
      refine blkQ.ret ?_
      cases H
      exact hqf138_C1 _ _ _ (.inr rfl) (Le.tq 1 [0] [2, 3] rfl) (by simp only [resVs, omap, resV, f138_C1, rrm, ↓wk, ↓wl, evV, ↓reduceIte, sevalprocAttr]) (by simp only [f138_C1, rrm, ↓wk, ↓wl, evV, ↓reduceIte, sevalprocAttr])
     ·try simp only [↓wk, ↓wl, nq, evV, ↓reduceIte, sevalprocAttr]
      refine AW.ifc H (by rfl) ?_ ?_ <;> clear H <;> intro H
      ·refine AW.rseq ?_
       try simp only [↓wk, ↓wl, nq, evV, ↓reduceIte, sevalprocAttr]
       refine AW.ret ?_
       refine blkQ.ret ?_
       cases H
       exact hqf138_C1 _ _ _ (.inr rfl) (Le.tq 1 [0] [2, 3] rfl) (by simp only [resVs, omap, resV, f138_C1, rrm, ↓wk, ↓wl, evV, ↓reduceIte, sevalprocAttr]) (by simp only [f138_C1, rrm, ↓wk, ↓wl, evV, ↓reduceIte, sevalprocAttr])
      ·refine AW.rseq ?_
       try simp only [↓wk, ↓wl, nq, evV, ↓reduceIte, sevalprocAttr]
       refine evTs_flat hFn H (fun _ h => f162p_ok h) (by rfl) (by rfl) (by simp only [deep_eq, imm_simps, imm_rowE, imm_ptrE, imm_enc, omap_simps, take_map_len, take_map_set, take_map_set2, le_refl_true, Nat.zero_add, and_true, true_and, List.drop_zero, Option.map_some, ↓wk, ↓wl, nq, evV, ↓reduceIte, sevalprocAttr]; rfl) (by rfl) (fun _ => rfl) (fun _ => rfl) ?_ <;> clear H <;> intro xe H
       try simp only [eL, ↓wk, ↓wl, nq, evV, ↓reduceIte, sevalprocAttr]
       refine AW.ifc H (by rfl) ?_ ?_ <;> clear H <;> intro H
       ·refine AW.rseq ?_
        try simp only [↓wk, ↓wl, nq, evV, ↓reduceIte, sevalprocAttr]
        refine AW.ret ?_
        refine blkQ.ret ?_
        cases H
        exact hqf138_C1 _ _ _ (.inr rfl) (Le.tq 1 [0] [2, 3] rfl) (by simp only [resVs, omap, resV, f138_C1, rrm, ↓wk, ↓wl, evV, ↓reduceIte, sevalprocAttr]) (by simp only [f138_C1, rrm, ↓wk, ↓wl, evV, ↓reduceIte, sevalprocAttr])
       ·refine AW.skip ?_
        refine blkQ.norm ?_
        refine AW.rseq ?_
        try simp only [↓wk, ↓wl, nq, evV, ↓reduceIte, sevalprocAttr]
        refine evTs_inl (I := f138_C5 x0 xd xb) (args := [.ptr 0 0, .int .i64 xb]) H (by rfl) fd163 (by rfl) (Nat.le_of_ble_eq_true rfl) ?_ ?_ <;> clear H
        ·rintro v_ Q_ H hqf138_C5
         simp only [f138_C5] at H
         dsimp only [List.length_cons, List.length_nil]
         refine AW.rseq ?_
         try simp only [↓wk, ↓wl, nq, evV, ↓reduceIte, sevalprocAttr]
         refine AW.rseq ?_
         try simp only [↓wk, ↓wl, nq, evV, ↓reduceIte, sevalprocAttr]
         refine AW.rseq ?_
         try simp only [↓wk, ↓wl, nq, evV, ↓reduceIte, sevalprocAttr]
         refine evTs_sslc H (by rfl) (by simp only [loI, hiI, ↓wk, ↓wl, nq, evV, ↓reduceIte, sevalprocAttr]; rfl) (by simp only [loI, hiI, ↓wk, ↓wl, nq, evV, ↓reduceIte, sevalprocAttr]; rfl) ?_ <;> clear H <;> intro xf H
         try simp only [↓wk, ↓wl, nq, evV, ↓reduceIte, sevalprocAttr]
         refine AW.ret ?_
         cases H
         exact hqf138_C5 _ _ _ (.inr rfl) (Le.tq 1 [0] [4] rfl) (by simp only [resVs, omap, resV, f138_C5, rrm, ↓wk, ↓wl, evV, ↓reduceIte, sevalprocAttr]) (by simp only [f138_C5, rrm, ↓wk, ↓wl, evV, ↓reduceIte, sevalprocAttr])
        ·rintro ⟨xg, xh⟩ s_ h_ H hs_ hh_
         simp only [f138_C5] at H hs_ hh_
         subst hs_
         subst hh_
         try simp only [↓wk, ↓wl, nq, evV, ↓reduceIte, sevalprocAttr]
         refine AW.ret ?_
         cases H
         exact hqf138_C1 _ _ _ (.inr rfl) (Le.tq 1 [0] [2, 3] rfl) (by simp only [resVs, omap, resV, f138_C1, rrm, ↓wk, ↓wl, evV, ↓reduceIte, sevalprocAttr]) (by simp only [f138_C1, rrm, ↓wk, ↓wl, evV, ↓reduceIte, sevalprocAttr])
  ·rintro ⟨xi, xj, xk⟩ s_ h_ H hs_ hh_
   simp only [f138_C1] at H hs_ hh_
   subst hs_
   subst hh_
   try simp only [↓wk, ↓wl, nq, evV, ↓reduceIte, sevalprocAttr]
   refine AW.sseq ?_
   refine AW.rseq ?_
   try simp only [↓wk, ↓wl, nq, evV, ↓reduceIte, sevalprocAttr]
   refine AW.ifc H (by rfl) ?_ ?_ <;> clear H <;> intro H
   ·refine AW.rseq ?_
    try simp only [↓wk, ↓wl, nq, evV, ↓reduceIte, sevalprocAttr]
    refine AW.ret ?_
    refine seqQ.ret ?_
    cases H
    exact hQ.fin
   ·refine AW.skip ?_
    refine seqQ.norm ?_
    refine AW.rseq ?_
    try simp only [↓wk, ↓wl, nq, evV, ↓reduceIte, sevalprocAttr]
    refine AW.ret ?_
    cases H
    exact hQ.fin
noncomputable def f89_J1 (x0 : RecordEntry × Int × Int) : Jn (Int × Int × Int × Int × Int × Int × Int) (NetworkPacket × Int) where
  run := fun (x1, x2, x3, x4, x5, x6, x7) => (f138 x0.1.fData x1).bind fun x8 => (if (decide (x8.2.2 ≠ 0)) = true then (some ((NetworkPacket.mk 0 0 0 0 0 false ([])), 3)) else (if (decide (x8.2.1 < ((x0.1.fData.length : Nat) : Int))) = true then (some ((NetworkPacket.mk 0 0 0 0 0 false ([])), 3)) else (if (decide (x6 < 0)) = true then (some ((NetworkPacket.mk 0 0 0 0 0 false ([])), 3)) else (f93 x7 0 1).bind fun x9 => (if (!x9) = true then (some ((NetworkPacket.mk 0 0 0 0 0 false ([])), 3)) else (f59 (NetworkPacket.mk (IntKind.u64.wrap x6) x2 x3 x4 x5 (decide (x7 = 1)) x8.1)).bind fun xa => (if (decide (xa ≠ 0)) = true then (some ((NetworkPacket.mk 0 0 0 0 0 false ([])), xa)) else (some ((NetworkPacket.mk (IntKind.u64.wrap x6) x2 x3 x4 x5 (decide (x7 = 1)) x8.1), 0)))))))
  cst := fun (x1, x2, x3, x4, x5, x6, x7) => ⟨put (put (put (put (put (put (fun _ => .junk) 10 (.int .i64 x1)) 9 (.ptr 4 0)) 8 (.ptr 3 0)) 7 (.ptr 2 0)) 4 (.ptr 1 0)) 2 (.ptr 0 0), [.cel [.int .u64 0, .int .i64 0, .int .i64 0, .int .i64 0, .int .i64 0, .bool false, .str ([])], .cel [.int .i64 x0.1.fKind, .str x0.1.fData], .cel [.int .u64 0, .int .i64 x2, .int .i64 x3, .int .i64 x4, .int .i64 x5, .bool false, .str ([])], .cel [.int .i64 x6], .cel [.int .i64 x7]]⟩
theorem f89_J1c (x0 : RecordEntry × Int × Int) (x1 : Int) (x2 : Int) (x3 : Int) (x4 : Int) (x5 : Int) (x6 : Int) (x7 : Int) : (f89_J1 x0).cst (x1, x2, x3, x4, x5, x6, x7) = ⟨put (put (put (put (put (put (fun _ => .junk) 10 (.int .i64 x1)) 9 (.ptr 4 0)) 8 (.ptr 3 0)) 7 (.ptr 2 0)) 4 (.ptr 1 0)) 2 (.ptr 0 0), [.cel [.int .u64 0, .int .i64 0, .int .i64 0, .int .i64 0, .int .i64 0, .bool false, .str ([])], .cel [.int .i64 x0.1.fKind, .str x0.1.fData], .cel [.int .u64 0, .int .i64 x2, .int .i64 x3, .int .i64 x4, .int .i64 x5, .bool false, .str ([])], .cel [.int .i64 x6], .cel [.int .i64 x7]]⟩ := rfl
def c89_0 : C := .cond (.t 31) (.seq (.reg [iI 35 (.build [(1, (.int .u64 0)), (1, (.int .i64 0)), (1, (.int .i64 0)), (1, (.int .i64 0)), (1, (.int .i64 0)), (1, (.bool false)), (1, (.str []))] []), iN (.store 7 (.t 2) (.t 35)), iI 3 (.mv (.c (.int .i64 1)))]) .ret) (.skip)
def c89_1 : C := .cond (.t 25) (.seq (.reg [iI 30 (.build [(1, (.int .u64 0)), (1, (.int .i64 0)), (1, (.int .i64 0)), (1, (.int .i64 0)), (1, (.int .i64 0)), (1, (.bool false)), (1, (.str []))] []), iN (.store 7 (.t 2) (.t 30)), iI 3 (.mv (.c (.int .i64 13)))]) .ret) (.seq (.reg [iI 32 (.faddr 0 (.t 4)), iI 33 (.load 0 (.t 32)), iI 34 (.bin .neq (.t 33) (.c (.int .i64 85))), iI 31 (.mv (.t 34))]) c89_0)
def c89_2 : C := .cond (.t 20) (.seq (.reg [iI 23 (.build [(1, (.int .u64 0)), (1, (.int .i64 0)), (1, (.int .i64 0)), (1, (.int .i64 0)), (1, (.int .i64 0)), (1, (.bool false)), (1, (.str []))] []), iI 24 (.mv (.t 6)), iN (.store 7 (.t 2) (.t 23)), iI 3 (.mv (.t 24))]) .ret) (.seq (.reg [iI 26 (.mv (.t 5)), iI 27 (.mv (.t 0)), iI 28 (.len 1 (.t 27)), iI 29 (.bin .lss (.t 26) (.t 28)), iI 25 (.mv (.t 29))]) c89_1)
def c89_3 : C := .cond (.t 55) (.seq (.reg [iI 56 (.build [(1, (.int .u64 0)), (1, (.int .i64 0)), (1, (.int .i64 0)), (1, (.int .i64 0)), (1, (.int .i64 0)), (1, (.bool false)), (1, (.str []))] []), iN (.store 7 (.t 2) (.t 56)), iI 3 (.mv (.c (.int .i64 3)))]) .ret) (.skip)
def c89_4 : C := .seq (.reg [iI 54 (.mv (.t 6)), iI 55 (.bin .neq (.t 54) (.c (.int .i64 0)))]) c89_3
def c89_5 : C := .seq (.reg [iI 45 (.mv (.t 12)), iI 46 (.faddr 1 (.t 4)), iI 47 (.load 0 (.t 46)), iI 48 (.mv (.t 10)), iI 49 (.call (.c (.fn 137 [])) [(.t 47), (.t 48)]), iI 44 (.mv (.t 49)), iI 50 (.ext (.t 44) 0), iI 51 (.ext (.t 44) 1), iI 52 (.ext (.t 44) 2), iI 53 (.nilchk (.t 45)), iN (.store 0 (.t 53) (.t 50)), iI 10 (.mv (.t 51)), iI 6 (.mv (.t 52))]) c89_4
def c89_6 : C := .reg [iI 57 (.bin .add (.t 41) (.c (.int .i64 1))), iI 41 (.mv (.t 57))]
def c89_7 : C := .seq (.block 2 (.seq (.reg [iI 43 (.idx 0 6 (.t 40) (.t 41)), iI 12 (.mv (.t 43))]) c89_5)) c89_6
def c89_8 : C := .seq (.cond (.t 42) (.skip) (.exit 1)) c89_7
def c89_9 : C := .block 1 (.loop (.seq (.reg [iI 42 (.bin .lss (.t 41) (.c (.int .i64 6)))]) c89_8))
def c89_10 : C := .cond (.t 84) (.seq (.reg [iI 85 (.build [(1, (.int .u64 0)), (1, (.int .i64 0)), (1, (.int .i64 0)), (1, (.int .i64 0)), (1, (.int .i64 0)), (1, (.bool false)), (1, (.str []))] []), iN (.store 7 (.t 2) (.t 85)), iI 3 (.mv (.c (.int .i64 3)))]) .ret) (.skip)
def c89_11 : C := .cond (.t 95) (.seq (.reg [iI 96 (.build [(1, (.int .u64 0)), (1, (.int .i64 0)), (1, (.int .i64 0)), (1, (.int .i64 0)), (1, (.int .i64 0)), (1, (.bool false)), (1, (.str []))] []), iI 97 (.mv (.t 13)), iN (.store 7 (.t 2) (.t 96)), iI 3 (.mv (.t 97))]) .ret) (.skip)
def c89_12 : C := .seq (.reg [iI 94 (.mv (.t 13)), iI 95 (.bin .neq (.t 94) (.c (.int .i64 0)))]) c89_11
def c89_13 : C := .seq (.reg [iI 98 (.load 7 (.t 7)), iN (.store 7 (.t 2) (.t 98)), iI 3 (.mv (.c (.int .i64 0)))]) .ret
def c89_14 : C := .seq (.seq (.reg [iI 92 (.load 7 (.t 7)), iI 93 (.call (.c (.fn 59 [])) [(.t 92)]), iI 13 (.mv (.t 93))]) c89_12) c89_13
def c89_15 : C := .seq (.reg [iI 86 (.load 0 (.t 8)), iI 87 (.cint .u64 (.t 86)), iI 88 (.load 0 (.t 9)), iI 89 (.bin .eql (.t 88) (.c (.int .i64 1))), iI 90 (.faddr 0 (.t 7)), iN (.store 0 (.t 90) (.t 87)), iI 91 (.faddr 5 (.t 7)), iN (.store 0 (.t 91) (.t 89))]) c89_14
def c89_16 : C := .seq (.seq (.reg [iI 67 (.mv (.t 6)), iI 68 (.bin .neq (.t 67) (.c (.int .i64 0))), iI 69 (.mv (.t 68)), iG (some 70) 69 false (.mv (.t 10)), iG (some 71) 69 false (.faddr 1 (.t 4)), iG (some 72) 69 false (.load 0 (.t 71)), iG (some 73) 69 false (.len 1 (.t 72)), iG (some 74) 69 false (.bin .lss (.t 70) (.t 73)), iI 75 (.pick (.t 69) (.c (.bool true)) (.t 74)), iI 76 (.mv (.t 75)), iG (some 77) 76 false (.load 0 (.t 8)), iG (some 78) 76 false (.bin .lss (.t 77) (.c (.int .i64 0))), iI 79 (.pick (.t 76) (.c (.bool true)) (.t 78)), iI 80 (.mv (.t 79)), iG (some 81) 80 false (.load 0 (.t 9)), iG (some 82) 80 false (.call (.c (.fn 93 [])) [(.t 81), (.c (.int .i64 0)), (.c (.int .i64 1))]), iG (some 83) 80 false (.un .not (.t 82)), iI 84 (.pick (.t 80) (.c (.bool true)) (.t 83))]) c89_10) c89_15
def c89_17 : C := .seq (.reg [iI 59 (.faddr 1 (.t 4)), iI 60 (.load 0 (.t 59)), iI 61 (.mv (.t 10)), iI 62 (.call (.c (.fn 138 [])) [(.t 60), (.t 61)]), iI 58 (.mv (.t 62)), iI 63 (.ext (.t 58) 0), iI 64 (.ext (.t 58) 1), iI 65 (.ext (.t 58) 2), iI 66 (.faddr 6 (.t 7)), iN (.store 0 (.t 66) (.t 63)), iI 10 (.mv (.t 64)), iI 6 (.mv (.t 65))]) c89_16
def c89_18 : C := .seq (.seq (.reg [iI 36 (.faddr 1 (.t 7)), iI 37 (.faddr 2 (.t 7)), iI 38 (.faddr 3 (.t 7)), iI 39 (.faddr 4 (.t 7)), iI 40 (.build [(6, .nilp)] [(0, 0, (.t 8)), (1, 0, (.t 36)), (2, 0, (.t 37)), (3, 0, (.t 38)), (4, 0, (.t 39)), (5, 0, (.t 9))]), iI 41 (.mv (.c (.int .i64 0)))]) c89_9) c89_17
def c89_19 : C := .seq (.reg [iI 8 (.alloc [(1, (.int .i64 0))]), iI 9 (.alloc [(1, (.int .i64 0))]), iN (.store 0 (.t 8) (.c (.int .i64 0))), iN (.store 0 (.t 9) (.c (.int .i64 0))), iI 10 (.mv (.c (.int .i64 0)))]) c89_18
def c89_20 : C := .seq (.reg [iI 7 (.alloc [(1, (.int .u64 0)), (1, (.int .i64 0)), (1, (.int .i64 0)), (1, (.int .i64 0)), (1, (.int .i64 0)), (1, (.bool false)), (1, (.str []))])]) c89_19
def c89_21 : C := .seq (.block 0 (.seq (.reg [iI 21 (.mv (.t 6)), iI 22 (.bin .neq (.t 21) (.c (.int .i64 0))), iI 20 (.mv (.t 22))]) c89_2)) c89_20
def c89_22 : C := .seq (.reg [iI 15 (.mv (.t 0)), iI 16 (.call (.c (.fn 136 [])) [(.t 15), (.c (.int .i64 0))]), iI 14 (.mv (.t 16)), iI 17 (.ext (.t 14) 0), iI 18 (.ext (.t 14) 1), iI 19 (.ext (.t 14) 2), iI 4 (.alloc [(1, (.int .i64 0)), (1, (.str []))]), iN (.store 2 (.t 4) (.t 17)), iI 5 (.mv (.t 18)), iI 6 (.mv (.t 19))]) c89_21
def ir89 : C := .seq (.reg [iI 2 (.alloc [(1, (.int .u64 0)), (1, (.int .i64 0)), (1, (.int .i64 0)), (1, (.int .i64 0)), (1, (.int .i64 0)), (1, (.bool false)), (1, (.str []))]), iI 3 (.mv (.c (.int .i64 0)))]) c89_22
theorem fd89 : fd? Try.prog 89 = some (99, [.cell 2 7, .slot 3], ir89) := by kernel_rfl
noncomputable def f89 (x0 : (List UInt8)) : Option (NetworkPacket × Int) :=
  (f136 x0 0).bind fun x1 => (if (decide (x1.2.2 ≠ 0)) = true then (some ((NetworkPacket.mk 0 0 0 0 0 false ([])), x1.2.2)) else (if (decide (x1.2.1 < ((x0.length : Nat) : Int))) = true then (some ((NetworkPacket.mk 0 0 0 0 0 false ([])), 13)) else (if (decide (x1.1.fKind ≠ 85)) = true then (some ((NetworkPacket.mk 0 0 0 0 0 false ([])), 1)) else (f137 x1.1.fData 0).bind fun x2 => (if (decide (x2.2.2 ≠ 0)) = true then (some ((NetworkPacket.mk 0 0 0 0 0 false ([])), 3)) else (f137 x1.1.fData x2.2.1).bind fun x3 => (if (decide (x3.2.2 ≠ 0)) = true then (some ((NetworkPacket.mk 0 0 0 0 0 false ([])), 3)) else (f137 x1.1.fData x3.2.1).bind fun x4 => (if (decide (x4.2.2 ≠ 0)) = true then (some ((NetworkPacket.mk 0 0 0 0 0 false ([])), 3)) else (f137 x1.1.fData x4.2.1).bind fun x5 => (if (decide (x5.2.2 ≠ 0)) = true then (some ((NetworkPacket.mk 0 0 0 0 0 false ([])), 3)) else (f137 x1.1.fData x5.2.1).bind fun x6 => (if (decide (x6.2.2 ≠ 0)) = true then (some ((NetworkPacket.mk 0 0 0 0 0 false ([])), 3)) else (f137 x1.1.fData x6.2.1).bind fun x7 => (if (decide (x7.2.2 ≠ 0)) = true then (some ((NetworkPacket.mk 0 0 0 0 0 false ([])), 3)) else ((f89_J1 x1).run (x7.2.1, x3.1, x4.1, x5.1, x6.1, x2.1, x7.1)))))))))))
theorem f89_ok {x0 : (List UInt8)} {r_ : NetworkPacket × Int} (H : f89 x0 = some r_) : Pure Try.prog 89 [.str x0] (· = .tup [.agg [.int .u64 r_.1.fSource, .int .i64 r_.1.fUniverse, .int .i64 r_.1.fPriority, .int .i64 r_.1.fSeq, .int .i64 r_.1.fSync, .bool r_.1.fEnd, .str r_.1.fSlots], .int .i64 r_.2]) := by
 refine Pure.walk3 fd89 none (Nat.le_of_ble_eq_true rfl) (by rfl) fun Q hQ => ?_
 simp only [f89] at H
 refine AW.rseq ?_
 try simp only [↓wk, ↓wl, nq, evV, ↓reduceIte, sevalprocAttr]
 refine AW.rseq ?_
 try simp only [↓wk, ↓wl, nq, evV, ↓reduceIte, sevalprocAttr]
 refine evTs_pure hFn H (fun _ h => f136_ok h) (by rfl) (by rfl) (by rfl) (by rfl) (fun _ => rfl) ?_ <;> clear H <;> intro x1 H
 try simp only [eL, eRecordEntry, ↓wk, ↓wl, nq, evV, ↓reduceIte, sevalprocAttr]
 refine AW.bseq ?_
 refine AW.rseq ?_
 try simp only [↓wk, ↓wl, nq, evV, ↓reduceIte, sevalprocAttr]
 refine AW.ifc H (by rfl) ?_ ?_ <;> clear H <;> intro H
 ·refine AW.rseq ?_
  try simp only [↓wk, ↓wl, nq, evV, ↓reduceIte, sevalprocAttr]
  refine AW.ret ?_
  refine blkQ.ret ?_
  cases H
  exact hQ.fin
 ·refine AW.rseq ?_
  try simp only [↓wk, ↓wl, nq, evV, ↓reduceIte, sevalprocAttr]
  refine AW.ifc H (by rfl) ?_ ?_ <;> clear H <;> intro H
  ·refine AW.rseq ?_
   try simp only [↓wk, ↓wl, nq, evV, ↓reduceIte, sevalprocAttr]
   refine AW.ret ?_
   refine blkQ.ret ?_
   cases H
   exact hQ.fin
  ·refine AW.rseq ?_
   try simp only [↓wk, ↓wl, nq, evV, ↓reduceIte, sevalprocAttr]
   refine AW.ifc H (by rfl) ?_ ?_ <;> clear H <;> intro H
   ·refine AW.rseq ?_
    try simp only [↓wk, ↓wl, nq, evV, ↓reduceIte, sevalprocAttr]
    refine AW.ret ?_
    refine blkQ.ret ?_
    cases H
    exact hQ.fin
   ·refine AW.skip ?_
    refine blkQ.norm ?_
    refine AW.rseq ?_
    try simp only [↓wk, ↓wl, nq, evV, ↓reduceIte, sevalprocAttr]
    refine AW.rseq ?_
    try simp only [↓wk, ↓wl, nq, evV, ↓reduceIte, sevalprocAttr]
    refine AW.join (f89_J1 x1) H ?_ fun hf89_J1 => ?_
    ·clear H
     rintro ⟨x2, x3, x4, x5, x6, x7, x8⟩ st0_ H hst_
     rw [f89_J1c] at hst_
     simp only [f89_J1] at H
     subst hst_
     refine AW.rseq ?_
     try simp only [↓wk, ↓wl, nq, evV, ↓reduceIte, sevalprocAttr]
     refine evTs_pure hFn H (fun _ h => f138_ok h) (by rfl) (by rfl) (by rfl) (by rfl) (fun _ => rfl) ?_ <;> clear H <;> intro x9 H
     try simp only [eL, ↓wk, ↓wl, nq, evV, ↓reduceIte, sevalprocAttr]
     refine AW.sseq ?_
     refine AW.rseq ?_
     try simp only [↓wk, ↓wl, nq, evV, ↓reduceIte, sevalprocAttr]
     refine evTs_ifg H (by rfl) ?_ ?_ <;> clear H <;> intro H
     ·try simp only [↓wk, ↓wl, nq, evV, ↓reduceIte, sevalprocAttr]
      refine AW.ift (by rfl) ?_
      refine AW.rseq ?_
      try simp only [↓wk, ↓wl, nq, evV, ↓reduceIte, sevalprocAttr]
      refine AW.ret ?_
      refine seqQ.ret ?_
      cases H
      exact hQ.fin
     ·try simp only [↓wk, ↓wl, nq, evV, ↓reduceIte, sevalprocAttr]
      refine evTs_ifg H (by rfl) ?_ ?_ <;> clear H <;> intro H
      ·try simp only [↓wk, ↓wl, nq, evV, ↓reduceIte, sevalprocAttr]
       refine AW.ift (by rfl) ?_
       refine AW.rseq ?_
       try simp only [↓wk, ↓wl, nq, evV, ↓reduceIte, sevalprocAttr]
       refine AW.ret ?_
       refine seqQ.ret ?_
       cases H
       exact hQ.fin
      ·try simp only [↓wk, ↓wl, nq, evV, ↓reduceIte, sevalprocAttr]
       refine evTs_ifg H (by rfl) ?_ ?_ <;> clear H <;> intro H
       ·try simp only [↓wk, ↓wl, nq, evV, ↓reduceIte, sevalprocAttr]
        refine AW.ift (by rfl) ?_
        refine AW.rseq ?_
        try simp only [↓wk, ↓wl, nq, evV, ↓reduceIte, sevalprocAttr]
        refine AW.ret ?_
        refine seqQ.ret ?_
        cases H
        exact hQ.fin
       ·try simp only [↓wk, ↓wl, nq, evV, ↓reduceIte, sevalprocAttr]
        refine evTs_pure hFn H (fun _ h => f93_ok h) (by rfl) (by rfl) (by rfl) (by rfl) (fun _ => rfl) ?_ <;> clear H <;> intro xa H
        try simp only [eL, ↓wk, ↓wl, nq, evV, ↓reduceIte, sevalprocAttr]
        refine AW.ifc H (by rfl) ?_ ?_ <;> clear H <;> intro H
        ·refine AW.rseq ?_
         try simp only [↓wk, ↓wl, nq, evV, ↓reduceIte, sevalprocAttr]
         refine AW.ret ?_
         refine seqQ.ret ?_
         cases H
         exact hQ.fin
        ·refine AW.skip ?_
         refine seqQ.norm ?_
         refine AW.rseq ?_
         try simp only [↓wk, ↓wl, nq, evV, ↓reduceIte, sevalprocAttr]
         refine AW.sseq ?_
         refine AW.rseq ?_
         try simp only [↓wk, ↓wl, nq, evV, ↓reduceIte, sevalprocAttr]
         refine evTs_pure hFn H (fun _ h => f59_ok h) (by rfl) (by rfl) (by rfl) (by rfl) (fun _ => rfl) ?_ <;> clear H <;> intro xb H
         try simp only [eL, ↓wk, ↓wl, nq, evV, ↓reduceIte, sevalprocAttr]
         refine AW.rseq ?_
         try simp only [↓wk, ↓wl, nq, evV, ↓reduceIte, sevalprocAttr]
         refine AW.ifc H (by rfl) ?_ ?_ <;> clear H <;> intro H
         ·refine AW.rseq ?_
          try simp only [↓wk, ↓wl, nq, evV, ↓reduceIte, sevalprocAttr]
          refine AW.ret ?_
          refine seqQ.ret ?_
          cases H
          exact hQ.fin
         ·refine AW.skip ?_
          refine seqQ.norm ?_
          refine AW.rseq ?_
          try simp only [↓wk, ↓wl, nq, evV, ↓reduceIte, sevalprocAttr]
          refine AW.ret ?_
          cases H
          exact hQ.fin
    ·refine AW.rseq ?_
     try simp only [↓wk, ↓wl, nq, evV, ↓reduceIte, sevalprocAttr]
     refine AW.bend ?_
     refine AW.rounds 40 ?_
     refine Rounds.go ?_
     refine AW.rseq ?_
     try simp only [↓wk, ↓wl, nq, evV, ↓reduceIte, sevalprocAttr]
     refine AW.sseq ?_
     refine AW.ift (by rfl) ?_
     refine AW.skip ?_
     refine seqQ.norm ?_
     refine AW.bseq ?_
     refine AW.rseq ?_
     try simp only [↓wk, ↓wl, nq, evV, ↓reduceIte, sevalprocAttr]
     refine evTs_any (v := .ptr 3 0) rfl (by rfl) ?_
     try simp only [↓wk, ↓wl, nq, evV, ↓reduceIte, sevalprocAttr]
     refine AW.rseq ?_
     try simp only [↓wk, ↓wl, nq, evV, ↓reduceIte, sevalprocAttr]
     refine evTs_pure hFn H (fun _ h => f137_ok h) (by rfl) (by rfl) (by rfl) (by rfl) (fun _ => rfl) ?_ <;> clear H <;> intro xc H
     try simp only [eL, ↓wk, ↓wl, nq, evV, ↓reduceIte, sevalprocAttr]
     refine AW.rseq ?_
     try simp only [↓wk, ↓wl, nq, evV, ↓reduceIte, sevalprocAttr]
     refine AW.ifc H (by rfl) ?_ ?_ <;> clear H <;> intro H
     ·refine AW.rseq ?_
      try simp only [↓wk, ↓wl, nq, evV, ↓reduceIte, sevalprocAttr]
      refine AW.ret ?_
      refine blkQ.ret ?_
      refine roundQ.ret ?_
      refine blk0.ret ?_
      refine seqQ.ret ?_
      cases H
      exact hQ.fin
     ·refine AW.skip ?_
      refine blkQ.norm ?_
      refine AW.rend ?_
      try simp only [↓wk, ↓wl, nq, evV, ↓reduceIte, sevalprocAttr]
      refine roundQ.next (st2 := ⟨put (put (put (put (put (put (put (put (fun _ => .junk) 41 (.int .i64 1)) 40 (.agg [.ptr 3 0, .ptr 2 1, .ptr 2 2, .ptr 2 3, .ptr 2 4, .ptr 4 0])) 10 (.int .i64 xc.2.1)) 9 (.ptr 4 0)) 8 (.ptr 3 0)) 7 (.ptr 2 0)) 4 (.ptr 1 0)) 2 (.ptr 0 0), [.cel [.int .u64 0, .int .i64 0, .int .i64 0, .int .i64 0, .int .i64 0, .bool false, .str ([])], .cel [.int .i64 x1.1.fKind, .str x1.1.fData], .cel [.int .u64 0, .int .i64 0, .int .i64 0, .int .i64 0, .int .i64 0, .bool false, .str ([])], .cel [.int .i64 xc.1], .cel [.int .i64 0]]⟩) (Le.tz [0, 1, 2, 3, 4] [2, 4, 7, 8, 9, 10, 40, 41] (by simp only [rrm, ↓wk, ↓wl, evV, ↓reduceIte, sevalprocAttr] <;> rfl)) ?_
      refine Rounds.go ?_
      refine AW.rseq ?_
      try simp only [↓wk, ↓wl, nq, evV, ↓reduceIte, sevalprocAttr]
      refine AW.sseq ?_
      refine AW.ift (by rfl) ?_
      refine AW.skip ?_
      refine seqQ.norm ?_
      refine AW.bseq ?_
      refine AW.rseq ?_
      try simp only [↓wk, ↓wl, nq, evV, ↓reduceIte, sevalprocAttr]
      refine evTs_any (v := .ptr 2 1) rfl (by rfl) ?_
      try simp only [↓wk, ↓wl, nq, evV, ↓reduceIte, sevalprocAttr]
      refine AW.rseq ?_
      try simp only [↓wk, ↓wl, nq, evV, ↓reduceIte, sevalprocAttr]
      refine evTs_pure hFn H (fun _ h => f137_ok h) (by rfl) (by rfl) (by rfl) (by rfl) (fun _ => rfl) ?_ <;> clear H <;> intro xd H
      try simp only [eL, ↓wk, ↓wl, nq, evV, ↓reduceIte, sevalprocAttr]
      refine AW.rseq ?_
      try simp only [↓wk, ↓wl, nq, evV, ↓reduceIte, sevalprocAttr]
      refine AW.ifc H (by rfl) ?_ ?_ <;> clear H <;> intro H
      ·refine AW.rseq ?_
       try simp only [↓wk, ↓wl, nq, evV, ↓reduceIte, sevalprocAttr]
       refine AW.ret ?_
       refine blkQ.ret ?_
       refine roundQ.ret ?_
       refine blk0.ret ?_
       refine seqQ.ret ?_
       cases H
       exact hQ.fin
      ·refine AW.skip ?_
       refine blkQ.norm ?_
       refine AW.rend ?_
       try simp only [↓wk, ↓wl, nq, evV, ↓reduceIte, sevalprocAttr]
       refine roundQ.next (st2 := ⟨put (put (put (put (put (put (put (put (fun _ => .junk) 41 (.int .i64 2)) 40 (.agg [.ptr 3 0, .ptr 2 1, .ptr 2 2, .ptr 2 3, .ptr 2 4, .ptr 4 0])) 10 (.int .i64 xd.2.1)) 9 (.ptr 4 0)) 8 (.ptr 3 0)) 7 (.ptr 2 0)) 4 (.ptr 1 0)) 2 (.ptr 0 0), [.cel [.int .u64 0, .int .i64 0, .int .i64 0, .int .i64 0, .int .i64 0, .bool false, .str ([])], .cel [.int .i64 x1.1.fKind, .str x1.1.fData], .cel [.int .u64 0, .int .i64 xd.1, .int .i64 0, .int .i64 0, .int .i64 0, .bool false, .str ([])], .cel [.int .i64 xc.1], .cel [.int .i64 0]]⟩) (Le.tz [0, 1, 2, 3, 4] [2, 4, 7, 8, 9, 10, 40, 41] (by simp only [rrm, ↓wk, ↓wl, evV, ↓reduceIte, sevalprocAttr] <;> rfl)) ?_
       refine Rounds.go ?_
       refine AW.rseq ?_
       try simp only [↓wk, ↓wl, nq, evV, ↓reduceIte, sevalprocAttr]
       refine AW.sseq ?_
       refine AW.ift (by rfl) ?_
       refine AW.skip ?_
       refine seqQ.norm ?_
       refine AW.bseq ?_
       refine AW.rseq ?_
       try simp only [↓wk, ↓wl, nq, evV, ↓reduceIte, sevalprocAttr]
       refine evTs_any (v := .ptr 2 2) rfl (by rfl) ?_
       try simp only [↓wk, ↓wl, nq, evV, ↓reduceIte, sevalprocAttr]
       refine AW.rseq ?_
       try simp only [↓wk, ↓wl, nq, evV, ↓reduceIte, sevalprocAttr]
       refine evTs_pure hFn H (fun _ h => f137_ok h) (by rfl) (by rfl) (by rfl) (by rfl) (fun _ => rfl) ?_ <;> clear H <;> intro xe H
       try simp only [eL, ↓wk, ↓wl, nq, evV, ↓reduceIte, sevalprocAttr]
       refine AW.rseq ?_
       try simp only [↓wk, ↓wl, nq, evV, ↓reduceIte, sevalprocAttr]
       refine AW.ifc H (by rfl) ?_ ?_ <;> clear H <;> intro H
       ·refine AW.rseq ?_
        try simp only [↓wk, ↓wl, nq, evV, ↓reduceIte, sevalprocAttr]
        refine AW.ret ?_
        refine blkQ.ret ?_
        refine roundQ.ret ?_
        refine blk0.ret ?_
        refine seqQ.ret ?_
        cases H
        exact hQ.fin
       ·refine AW.skip ?_
        refine blkQ.norm ?_
        refine AW.rend ?_
        try simp only [↓wk, ↓wl, nq, evV, ↓reduceIte, sevalprocAttr]
        refine roundQ.next (st2 := ⟨put (put (put (put (put (put (put (put (fun _ => .junk) 41 (.int .i64 3)) 40 (.agg [.ptr 3 0, .ptr 2 1, .ptr 2 2, .ptr 2 3, .ptr 2 4, .ptr 4 0])) 10 (.int .i64 xe.2.1)) 9 (.ptr 4 0)) 8 (.ptr 3 0)) 7 (.ptr 2 0)) 4 (.ptr 1 0)) 2 (.ptr 0 0), [.cel [.int .u64 0, .int .i64 0, .int .i64 0, .int .i64 0, .int .i64 0, .bool false, .str ([])], .cel [.int .i64 x1.1.fKind, .str x1.1.fData], .cel [.int .u64 0, .int .i64 xd.1, .int .i64 xe.1, .int .i64 0, .int .i64 0, .bool false, .str ([])], .cel [.int .i64 xc.1], .cel [.int .i64 0]]⟩) (Le.tz [0, 1, 2, 3, 4] [2, 4, 7, 8, 9, 10, 40, 41] (by simp only [rrm, ↓wk, ↓wl, evV, ↓reduceIte, sevalprocAttr] <;> rfl)) ?_
        refine Rounds.go ?_
        refine AW.rseq ?_
        try simp only [↓wk, ↓wl, nq, evV, ↓reduceIte, sevalprocAttr]
        refine AW.sseq ?_
        refine AW.ift (by rfl) ?_
        refine AW.skip ?_
        refine seqQ.norm ?_
        refine AW.bseq ?_
        refine AW.rseq ?_
        try simp only [↓wk, ↓wl, nq, evV, ↓reduceIte, sevalprocAttr]
        refine evTs_any (v := .ptr 2 3) rfl (by rfl) ?_
        try simp only [↓wk, ↓wl, nq, evV, ↓reduceIte, sevalprocAttr]
        refine AW.rseq ?_
        try simp only [↓wk, ↓wl, nq, evV, ↓reduceIte, sevalprocAttr]
        refine evTs_pure hFn H (fun _ h => f137_ok h) (by rfl) (by rfl) (by rfl) (by rfl) (fun _ => rfl) ?_ <;> clear H <;> intro xf H
        try simp only [eL, ↓wk, ↓wl, nq, evV, ↓reduceIte, sevalprocAttr]
        refine AW.rseq ?_
        try simp only [↓wk, ↓wl, nq, evV, ↓reduceIte, sevalprocAttr]
        refine AW.ifc H (by rfl) ?_ ?_ <;> clear H <;> intro H
        ·refine AW.rseq ?_
         try simp only [↓wk, ↓wl, nq, evV, ↓reduceIte, sevalprocAttr]
         refine AW.ret ?_
         refine blkQ.ret ?_
         refine roundQ.ret ?_
         refine blk0.ret ?_
         refine seqQ.ret ?_
         cases H
         exact hQ.fin
        ·refine AW.skip ?_
         refine blkQ.norm ?_
         refine AW.rend ?_
         try simp only [↓wk, ↓wl, nq, evV, ↓reduceIte, sevalprocAttr]
         refine roundQ.next (st2 := ⟨put (put (put (put (put (put (put (put (fun _ => .junk) 41 (.int .i64 4)) 40 (.agg [.ptr 3 0, .ptr 2 1, .ptr 2 2, .ptr 2 3, .ptr 2 4, .ptr 4 0])) 10 (.int .i64 xf.2.1)) 9 (.ptr 4 0)) 8 (.ptr 3 0)) 7 (.ptr 2 0)) 4 (.ptr 1 0)) 2 (.ptr 0 0), [.cel [.int .u64 0, .int .i64 0, .int .i64 0, .int .i64 0, .int .i64 0, .bool false, .str ([])], .cel [.int .i64 x1.1.fKind, .str x1.1.fData], .cel [.int .u64 0, .int .i64 xd.1, .int .i64 xe.1, .int .i64 xf.1, .int .i64 0, .bool false, .str ([])], .cel [.int .i64 xc.1], .cel [.int .i64 0]]⟩) (Le.tz [0, 1, 2, 3, 4] [2, 4, 7, 8, 9, 10, 40, 41] (by simp only [rrm, ↓wk, ↓wl, evV, ↓reduceIte, sevalprocAttr] <;> rfl)) ?_
         refine Rounds.go ?_
         refine AW.rseq ?_
         try simp only [↓wk, ↓wl, nq, evV, ↓reduceIte, sevalprocAttr]
         refine AW.sseq ?_
         refine AW.ift (by rfl) ?_
         refine AW.skip ?_
         refine seqQ.norm ?_
         refine AW.bseq ?_
         refine AW.rseq ?_
         try simp only [↓wk, ↓wl, nq, evV, ↓reduceIte, sevalprocAttr]
         refine evTs_any (v := .ptr 2 4) rfl (by rfl) ?_
         try simp only [↓wk, ↓wl, nq, evV, ↓reduceIte, sevalprocAttr]
         refine AW.rseq ?_
         try simp only [↓wk, ↓wl, nq, evV, ↓reduceIte, sevalprocAttr]
         refine evTs_pure hFn H (fun _ h => f137_ok h) (by rfl) (by rfl) (by rfl) (by rfl) (fun _ => rfl) ?_ <;> clear H <;> intro xg H
         try simp only [eL, ↓wk, ↓wl, nq, evV, ↓reduceIte, sevalprocAttr]
         refine AW.rseq ?_
         try simp only [↓wk, ↓wl, nq, evV, ↓reduceIte, sevalprocAttr]
         refine AW.ifc H (by rfl) ?_ ?_ <;> clear H <;> intro H
         ·refine AW.rseq ?_
          try simp only [↓wk, ↓wl, nq, evV, ↓reduceIte, sevalprocAttr]
          refine AW.ret ?_
          refine blkQ.ret ?_
          refine roundQ.ret ?_
          refine blk0.ret ?_
          refine seqQ.ret ?_
          cases H
          exact hQ.fin
         ·refine AW.skip ?_
          refine blkQ.norm ?_
          refine AW.rend ?_
          try simp only [↓wk, ↓wl, nq, evV, ↓reduceIte, sevalprocAttr]
          refine roundQ.next (st2 := ⟨put (put (put (put (put (put (put (put (fun _ => .junk) 41 (.int .i64 5)) 40 (.agg [.ptr 3 0, .ptr 2 1, .ptr 2 2, .ptr 2 3, .ptr 2 4, .ptr 4 0])) 10 (.int .i64 xg.2.1)) 9 (.ptr 4 0)) 8 (.ptr 3 0)) 7 (.ptr 2 0)) 4 (.ptr 1 0)) 2 (.ptr 0 0), [.cel [.int .u64 0, .int .i64 0, .int .i64 0, .int .i64 0, .int .i64 0, .bool false, .str ([])], .cel [.int .i64 x1.1.fKind, .str x1.1.fData], .cel [.int .u64 0, .int .i64 xd.1, .int .i64 xe.1, .int .i64 xf.1, .int .i64 xg.1, .bool false, .str ([])], .cel [.int .i64 xc.1], .cel [.int .i64 0]]⟩) (Le.tz [0, 1, 2, 3, 4] [2, 4, 7, 8, 9, 10, 40, 41] (by simp only [rrm, ↓wk, ↓wl, evV, ↓reduceIte, sevalprocAttr] <;> rfl)) ?_
          refine Rounds.go ?_
          refine AW.rseq ?_
          try simp only [↓wk, ↓wl, nq, evV, ↓reduceIte, sevalprocAttr]
          refine AW.sseq ?_
          refine AW.ift (by rfl) ?_
          refine AW.skip ?_
          refine seqQ.norm ?_
          refine AW.bseq ?_
          refine AW.rseq ?_
          try simp only [↓wk, ↓wl, nq, evV, ↓reduceIte, sevalprocAttr]
          refine evTs_any (v := .ptr 4 0) rfl (by rfl) ?_
          try simp only [↓wk, ↓wl, nq, evV, ↓reduceIte, sevalprocAttr]
          refine AW.rseq ?_
          try simp only [↓wk, ↓wl, nq, evV, ↓reduceIte, sevalprocAttr]
          refine evTs_pure hFn H (fun _ h => f137_ok h) (by rfl) (by rfl) (by rfl) (by rfl) (fun _ => rfl) ?_ <;> clear H <;> intro xh H
          try simp only [eL, ↓wk, ↓wl, nq, evV, ↓reduceIte, sevalprocAttr]
          refine AW.rseq ?_
          try simp only [↓wk, ↓wl, nq, evV, ↓reduceIte, sevalprocAttr]
          refine AW.ifc H (by rfl) ?_ ?_ <;> clear H <;> intro H
          ·refine AW.rseq ?_
           try simp only [↓wk, ↓wl, nq, evV, ↓reduceIte, sevalprocAttr]
           refine AW.ret ?_
           refine blkQ.ret ?_
           refine roundQ.ret ?_
           refine blk0.ret ?_
           refine seqQ.ret ?_
           cases H
           exact hQ.fin
          ·refine AW.skip ?_
           refine blkQ.norm ?_
           refine AW.rend ?_
           try simp only [↓wk, ↓wl, nq, evV, ↓reduceIte, sevalprocAttr]
           refine roundQ.next (st2 := ⟨put (put (put (put (put (put (put (put (fun _ => .junk) 41 (.int .i64 6)) 40 (.agg [.ptr 3 0, .ptr 2 1, .ptr 2 2, .ptr 2 3, .ptr 2 4, .ptr 4 0])) 10 (.int .i64 xh.2.1)) 9 (.ptr 4 0)) 8 (.ptr 3 0)) 7 (.ptr 2 0)) 4 (.ptr 1 0)) 2 (.ptr 0 0), [.cel [.int .u64 0, .int .i64 0, .int .i64 0, .int .i64 0, .int .i64 0, .bool false, .str ([])], .cel [.int .i64 x1.1.fKind, .str x1.1.fData], .cel [.int .u64 0, .int .i64 xd.1, .int .i64 xe.1, .int .i64 xf.1, .int .i64 xg.1, .bool false, .str ([])], .cel [.int .i64 xc.1], .cel [.int .i64 xh.1]]⟩) (Le.tz [0, 1, 2, 3, 4] [2, 4, 7, 8, 9, 10, 40, 41] (by simp only [rrm, ↓wk, ↓wl, evV, ↓reduceIte, sevalprocAttr] <;> rfl)) ?_
           refine Rounds.go ?_
           refine AW.rseq ?_
           try simp only [↓wk, ↓wl, nq, evV, ↓reduceIte, sevalprocAttr]
           refine AW.sseq ?_
           refine AW.iff (by rfl) ?_
           refine AW.exit ?_
           refine seqQ.exit ?_
           refine roundQ.exit ?_
           refine blk0.here ?_
           refine seqQ.norm ?_
           exact hf89_J1 _ _ H ((Le.tz [0, 1, 2, 3, 4] [2, 4, 7, 8, 9, 10] (by simp only [f89_J1c, rrm, ↓wk, ↓wl, evV, ↓reduceIte, sevalprocAttr] <;> rfl)))
noncomputable def f51_L1 (x0 : (List NetworkPacket)) (x1 : Bool) (x2 : Int) : Lp (Int × (List ReceiverInput)) (((List ReceiverInput)) ⊕ ((List ReceiverInput))) where
  body := fun (x3, x4) => (if (decide (x3 < ((x0.length : Nat) : Int))) = true then (at? x0 x3).bind fun x5 => (f88 x5).bind fun x6 => (f89 x6.1).bind fun x7 => (if (decide (x6.2 ≠ 0)) = true then (some (.brk (Sum.inr x4))) else (if (decide (x7.2 ≠ 0)) = true then (some (.brk (Sum.inr x4))) else (if (!((x7.1.fSource == x5.fSource) && ((x7.1.fUniverse == x5.fUniverse) && ((x7.1.fPriority == x5.fPriority) && ((x7.1.fSeq == x5.fSeq) && ((x7.1.fSync == x5.fSync) && ((x7.1.fEnd == x5.fEnd) && ((x7.1.fSlots == x5.fSlots) && true)))))))) = true then (some (.brk (Sum.inr x4))) else (if x1 = true then (some (.next ((IntKind.i64.wrap (x3 + 1)), x4))) else (f16 (ReceiverReceiver.mk x4) x2 x7.1).bind fun x8 => (if (decide (x8.2.2 ≠ 0)) = true then (some (.brk (Sum.inr x4))) else (some (.next ((IntKind.i64.wrap (x3 + 1)), x8.1.fInputs)))))))) else (some (.brk (Sum.inl x4))))
  cst := fun (x3, x4) => ⟨put (put (put (put (put (put (put (fun _ => .junk) 20 (.int .i64 x3)) 19 (.int .i64 ((x0.length : Nat) : Int))) 18 (.sl 7 false (x0.map eNetworkPacket))) 8 (.ptr 1 0)) 4 (.ptr 0 0)) 3 (.bool x1)) 1 (.int .i64 x2), [.cel [.sl 8 false (x4.map eReceiverInput)], .cel [.sl 8 true []]]⟩
theorem f51_L1c (x0 : (List NetworkPacket)) (x1 : Bool) (x2 : Int) (x3 : Int) (x4 : (List ReceiverInput)) : (f51_L1 x0 x1 x2).cst (x3, x4) = ⟨put (put (put (put (put (put (put (fun _ => .junk) 20 (.int .i64 x3)) 19 (.int .i64 ((x0.length : Nat) : Int))) 18 (.sl 7 false (x0.map eNetworkPacket))) 8 (.ptr 1 0)) 4 (.ptr 0 0)) 3 (.bool x1)) 1 (.int .i64 x2), [.cel [.sl 8 false (x4.map eReceiverInput)], .cel [.sl 8 true []]]⟩ := rfl
def c51_0 : C := .cond (.t 44) (.seq (.reg [iI 45 (.load 1 (.t 4)), iN (.store 1 (.t 8) (.t 45)), iI 9 (.mv (.c (.bool false)))]) .ret) (.skip)
def c51_1 : C := .cond (.t 46) (.exit 1) (.skip)
def c51_2 : C := .cond (.t 56) (.seq (.reg [iI 57 (.load 1 (.t 4)), iN (.store 1 (.t 8) (.t 57)), iI 9 (.mv (.c (.bool false)))]) .ret) (.skip)
def c51_3 : C := .reg [iI 58 (.load 1 (.t 16)), iN (.store 1 (.t 4) (.t 58))]
def c51_4 : C := .seq (.seq (.reg [iI 55 (.mv (.t 13)), iI 56 (.bin .neq (.t 55) (.c (.int .i64 0)))]) c51_2) c51_3
def c51_5 : C := .seq (.reg [iI 48 (.load 1 (.t 4)), iI 49 (.mv (.t 1)), iI 50 (.load 7 (.t 14)), iI 51 (.call (.c (.fn 16 [])) [(.t 48), (.t 49), (.t 50)]), iI 47 (.mv (.t 51)), iI 52 (.ext (.t 47) 0), iI 53 (.ext (.t 47) 1), iI 54 (.ext (.t 47) 2), iI 16 (.alloc [(1, (.sl 8 true []))]), iN (.store 1 (.t 16) (.t 52)), iI 17 (.mv (.t 53)), iI 13 (.mv (.t 54))]) c51_4
def c51_6 : C := .seq (.seq (.reg [iI 46 (.mv (.t 3))]) c51_1) c51_5
def c51_7 : C := .seq (.seq (.reg [iI 34 (.mv (.t 13)), iI 35 (.bin .neq (.t 34) (.c (.int .i64 0))), iI 36 (.mv (.t 35)), iG (some 37) 36 false (.mv (.t 15)), iG (some 38) 36 false (.bin .neq (.t 37) (.c (.int .i64 0))), iI 39 (.pick (.t 36) (.c (.bool true)) (.t 38)), iI 40 (.mv (.t 39)), iG (some 41) 40 false (.load 7 (.t 14)), iG (some 42) 40 false (.load 7 (.t 11)), iG (some 43) 40 false (.eqs true [0, 0, 0, 0, 0, 2, 1] (.t 41) (.t 42)), iI 44 (.pick (.t 40) (.c (.bool true)) (.t 43))]) c51_0) c51_6
def c51_8 : C := .seq (.reg [iI 30 (.mv (.t 12)), iI 31 (.call (.c (.fn 89 [])) [(.t 30)]), iI 29 (.mv (.t 31)), iI 32 (.ext (.t 29) 0), iI 33 (.ext (.t 29) 1), iI 14 (.alloc [(1, (.int .u64 0)), (1, (.int .i64 0)), (1, (.int .i64 0)), (1, (.int .i64 0)), (1, (.int .i64 0)), (1, (.bool false)), (1, (.str []))]), iN (.store 7 (.t 14) (.t 32)), iI 15 (.mv (.t 33))]) c51_7
def c51_9 : C := .seq (.reg [iI 25 (.load 7 (.t 11)), iI 26 (.call (.c (.fn 88 [])) [(.t 25)]), iI 24 (.mv (.t 26)), iI 27 (.ext (.t 24) 0), iI 28 (.ext (.t 24) 1), iI 12 (.mv (.t 27)), iI 13 (.mv (.t 28))]) c51_8
def c51_10 : C := .reg [iI 59 (.bin .add (.t 20) (.c (.int .i64 1))), iI 20 (.mv (.t 59))]
def c51_11 : C := .seq (.block 1 (.seq (.reg [iI 22 (.iaddr 7 (.t 18) (.t 20)), iI 23 (.load 7 (.t 22)), iI 11 (.alloc [(1, (.int .u64 0)), (1, (.int .i64 0)), (1, (.int .i64 0)), (1, (.int .i64 0)), (1, (.int .i64 0)), (1, (.bool false)), (1, (.str []))]), iN (.store 7 (.t 11) (.t 23))]) c51_9)) c51_10
def c51_12 : C := .seq (.cond (.t 21) (.skip) (.exit 0)) c51_11
def c51_13 : C := .block 0 (.loop (.seq (.reg [iI 21 (.bin .lss (.t 20) (.t 19))]) c51_12))
def c51_14 : C := .seq (.reg [iI 60 (.load 1 (.t 4)), iN (.store 1 (.t 8) (.t 60)), iI 9 (.mv (.c (.bool true)))]) .ret
def c51_15 : C := .seq (.seq (.reg [iI 18 (.mv (.t 2)), iI 19 (.len 0 (.t 18)), iI 20 (.mv (.c (.int .i64 0)))]) c51_13) c51_14
def ir51 : C := .seq (.reg [iI 4 (.box (.t 0)), iI 8 (.alloc [(1, (.sl 8 true []))]), iI 9 (.mv (.c (.bool false)))]) c51_15
theorem fd51 : fd? Try.prog 51 = some (61, [.cell 8 1, .slot 9], ir51) := by kernel_rfl
noncomputable def f51 (x0 : ReceiverReceiver) (x1 : Int) (x2 : (List NetworkPacket)) (x3 : Bool) : Option (ReceiverReceiver × Bool) :=
  ((Lp.run (f51_L1 x2 x3 x1) (0, x0.fInputs)).bind fun r_ => match r_ with | (Sum.inl x4) => (some ((ReceiverReceiver.mk x4), true)) | (Sum.inr x5) => (some ((ReceiverReceiver.mk x5), false)))
theorem f51_ok {x0 : ReceiverReceiver} {x1 : Int} {x2 : (List NetworkPacket)} {x3 : Bool} {r_ : ReceiverReceiver × Bool} (H : f51 x0 x1 x2 x3 = some r_) : Pure Try.prog 51 [.agg [.sl 8 false (x0.fInputs.map eReceiverInput)], .int .i64 x1, .sl 7 false (x2.map eNetworkPacket), .bool x3] (· = .tup [.agg [.sl 8 false (r_.1.fInputs.map eReceiverInput)], .bool r_.2]) := by
 refine Pure.walk3 fd51 none (Nat.le_of_ble_eq_true rfl) (by rfl) fun Q hQ => ?_
 simp only [f51] at H
 refine AW.rseq ?_
 try simp only [↓wk, ↓wl, nq, evV, ↓reduceIte, sevalprocAttr]
 refine AW.sseq ?_
 refine AW.rseq ?_
 try simp only [↓wk, ↓wl, nq, evV, ↓reduceIte, sevalprocAttr]
 refine AW.bend ?_
 refine AW.iter H ((Le.tz [0, 1] [1, 3, 4, 8, 18, 19, 20] (by simp only [f51_L1c, rrm, ↓wk, ↓wl, evV, ↓reduceIte, sevalprocAttr] <;> rfl))) ?_ <;> clear H
 rintro ⟨x4, x5⟩ x_ st0_ H hst_
 rw [f51_L1c] at hst_
 simp only [f51_L1] at H
 subst hst_
 refine AW.rseq ?_
 try simp only [↓wk, ↓wl, nq, evV, ↓reduceIte, sevalprocAttr]
 refine AW.sseq ?_
 refine AW.ifc H (by rfl) ?_ ?_ <;> clear H <;> intro H
 ·refine AW.skip ?_
  refine seqQ.norm ?_
  refine AW.bseq ?_
  refine AW.rseq ?_
  try simp only [↓wk, ↓wl, nq, evV, ↓reduceIte, sevalprocAttr]
  refine evTs_at (enc := eNetworkPacket) H (by rfl) (by rfl) ?_ <;> clear H <;> intro x6 H
  try simp only [eNetworkPacket, eL, ↓wk, ↓wl, nq, evV, ↓reduceIte, sevalprocAttr]
  refine AW.rseq ?_
  try simp only [↓wk, ↓wl, nq, evV, ↓reduceIte, sevalprocAttr]
  refine evTs_pure hFn H (fun _ h => f88_ok h) (by rfl) (by rfl) (by rfl) (by rfl) (fun _ => rfl) ?_ <;> clear H <;> intro x7 H
  try simp only [eL, ↓wk, ↓wl, nq, evV, ↓reduceIte, sevalprocAttr]
  refine AW.rseq ?_
  try simp only [↓wk, ↓wl, nq, evV, ↓reduceIte, sevalprocAttr]
  refine evTs_pure hFn H (fun _ h => f89_ok h) (by rfl) (by rfl) (by rfl) (by rfl) (fun _ => rfl) ?_ <;> clear H <;> intro x8 H
  try simp only [eL, eNetworkPacket, ↓wk, ↓wl, nq, evV, ↓reduceIte, sevalprocAttr]
  refine AW.sseq ?_
  refine AW.rseq ?_
  try simp only [↓wk, ↓wl, nq, evV, ↓reduceIte, sevalprocAttr]
  refine evTs_ifg H (by rfl) ?_ ?_ <;> clear H <;> intro H
  ·try simp only [↓wk, ↓wl, nq, evV, ↓reduceIte, sevalprocAttr]
   refine AW.ift (by rfl) ?_
   refine AW.rseq ?_
   try simp only [↓wk, ↓wl, nq, evV, ↓reduceIte, sevalprocAttr]
   refine AW.ret ?_
   refine seqQ.ret ?_
   refine blkQ.ret ?_
   refine loopQ.ret H ?_ <;> clear H <;> intro H
   try dsimp only at H
   refine blk0.ret ?_
   refine seqQ.ret ?_
   cases H
   exact hQ.fin
  ·try simp only [↓wk, ↓wl, nq, evV, ↓reduceIte, sevalprocAttr]
   refine evTs_ifg H (by rfl) ?_ ?_ <;> clear H <;> intro H
   ·try simp only [↓wk, ↓wl, nq, evV, ↓reduceIte, sevalprocAttr]
    refine AW.ift (by rfl) ?_
    refine AW.rseq ?_
    try simp only [↓wk, ↓wl, nq, evV, ↓reduceIte, sevalprocAttr]
    refine AW.ret ?_
    refine seqQ.ret ?_
    refine blkQ.ret ?_
    refine loopQ.ret H ?_ <;> clear H <;> intro H
    try dsimp only at H
    refine blk0.ret ?_
    refine seqQ.ret ?_
    cases H
    exact hQ.fin
   ·try simp only [↓wk, ↓wl, nq, evV, ↓reduceIte, sevalprocAttr]
    refine rest_neqs (by rfl) ?_
    try simp only [↓wk, ↓wl, nq, evV, ↓reduceIte, sevalprocAttr]
    refine AW.ifc H (by rfl) ?_ ?_ <;> clear H <;> intro H
    ·refine AW.rseq ?_
     try simp only [↓wk, ↓wl, nq, evV, ↓reduceIte, sevalprocAttr]
     refine AW.ret ?_
     refine seqQ.ret ?_
     refine blkQ.ret ?_
     refine loopQ.ret H ?_ <;> clear H <;> intro H
     try dsimp only at H
     refine blk0.ret ?_
     refine seqQ.ret ?_
     cases H
     exact hQ.fin
    ·refine AW.skip ?_
     refine seqQ.norm ?_
     refine AW.sseq ?_
     refine AW.rseq ?_
     try simp only [↓wk, ↓wl, nq, evV, ↓reduceIte, sevalprocAttr]
     refine AW.ifc H (by rfl) ?_ ?_ <;> clear H <;> intro H
     ·refine AW.exit ?_
      refine seqQ.exit ?_
      refine blkQ.here ?_
      refine AW.rend ?_
      try simp only [↓wk, ↓wl, nq, evV, ↓reduceIte, sevalprocAttr]
      exact loopQ.next H ((Le.tz [0, 1] [1, 3, 4, 8, 18, 19, 20] (by simp only [f51_L1c, rrm, ↓wk, ↓wl, evV, ↓reduceIte, sevalprocAttr] <;> rfl)))
     ·refine AW.skip ?_
      refine seqQ.norm ?_
      refine AW.rseq ?_
      try simp only [↓wk, ↓wl, nq, evV, ↓reduceIte, sevalprocAttr]
      refine evTs_pure hFn H (fun _ h => f16_ok h) (by rfl) (by rfl) (by rfl) (by rfl) (fun _ => rfl) ?_ <;> clear H <;> intro x9 H
      try simp only [eL, eReceiverReceiver, ↓wk, ↓wl, nq, evV, ↓reduceIte, sevalprocAttr]
      refine AW.sseq ?_
      refine AW.rseq ?_
      try simp only [↓wk, ↓wl, nq, evV, ↓reduceIte, sevalprocAttr]
      refine AW.ifc H (by rfl) ?_ ?_ <;> clear H <;> intro H
      ·refine AW.rseq ?_
       try simp only [↓wk, ↓wl, nq, evV, ↓reduceIte, sevalprocAttr]
       refine AW.ret ?_
       refine seqQ.ret ?_
       refine blkQ.ret ?_
       refine loopQ.ret H ?_ <;> clear H <;> intro H
       try dsimp only at H
       refine blk0.ret ?_
       refine seqQ.ret ?_
       cases H
       exact hQ.fin
      ·refine AW.skip ?_
       refine seqQ.norm ?_
       refine AW.rend ?_
       try simp only [↓wk, ↓wl, nq, evV, ↓reduceIte, sevalprocAttr]
       refine blkQ.norm ?_
       refine AW.rend ?_
       try simp only [↓wk, ↓wl, nq, evV, ↓reduceIte, sevalprocAttr]
       exact loopQ.next H ((Le.tz [0, 1] [1, 3, 4, 8, 18, 19, 20] (by simp only [f51_L1c, rrm, ↓wk, ↓wl, evV, ↓reduceIte, sevalprocAttr] <;> rfl)))
 ·refine AW.exit ?_
  refine seqQ.exit ?_
  refine loopQ.exit H ?_ <;> clear H <;> intro H
  try dsimp only at H
  refine blk0.here ?_
  refine seqQ.norm ?_
  refine AW.rseq ?_
  try simp only [↓wk, ↓wl, nq, evV, ↓reduceIte, sevalprocAttr]
  refine AW.ret ?_
  cases H
  exact hQ.fin
noncomputable def f10_L4 (x0 : (List (List UInt8))) (x1 : (List Int)) (x2 : Int) (x3 : TopPlayBeat) (x4 : Int) (x5 : (List TopPlayBeat)) (x6 : Int) (x7 : Int) (x8 : Int) (x9 : Int) (xa : (List NetworkStream)) (xb : ReceiverReceiver × Bool) : Lp (Int × (List ApiFrame)) ((List ApiFrame)) where
  body := fun (xc, xd) => (if (decide (xc ≤ 3)) = true then (arr? 4 x0 xc).bind fun xe => (if (!(xe == ([]))) = true then (arr? 4 x1 xc).bind fun xf => (if (decide ((IntKind.i64.wrap ((IntKind.i64.wrap (x2 + (IntKind.i64.wrap (10 * (IntKind.i64.wrap x3.fAfter))))) - xf)) ≤ 2500)) = true then (arr? 4 x0 xc).bind fun xg => (app? 24 xd ([(ApiFrame.mk xc xg)])).bind fun xh => (some (.next ((IntKind.i64.wrap (xc + 1)), xh))) else (some (.next ((IntKind.i64.wrap (xc + 1)), xd)))) else (some (.next ((IntKind.i64.wrap (xc + 1)), xd)))) else (some (.brk xd)))
  cst := fun (xc, xd) => ⟨put (put (put (put (put (put (put (put (put (put (fun _ => .junk) 38 (.int .i64 x4)) 37 (.int .i64 ((x5.length : Nat) : Int))) 36 (.sl 4 false (x5.map eTopPlayBeat))) 17 (.int .i64 xc)) 16 (.row 2 4 0 xd.length)) 8 (.int .i64 (IntKind.i64.wrap (x2 + (IntKind.i64.wrap (10 * (IntKind.i64.wrap x3.fAfter))))))) 7 (.ptr 3 0)) 6 (.ptr 2 0)) 5 (.ptr 1 0)) 3 (.ptr 0 0), [.cel [.int .u64 x6, .int .i64 x7, .int .i64 x8, .int .i64 x9, .sl 5 false (xa.map eNetworkStream)], .cel [.sl 8 false (xb.1.fInputs.map eReceiverInput)], .cel (x0.map AV.str), .cel (x1.map (AV.int .i64)), .els 2 (xd.map eApiFrame)]⟩
theorem f10_L4c (x0 : (List (List UInt8))) (x1 : (List Int)) (x2 : Int) (x3 : TopPlayBeat) (x4 : Int) (x5 : (List TopPlayBeat)) (x6 : Int) (x7 : Int) (x8 : Int) (x9 : Int) (xa : (List NetworkStream)) (xb : ReceiverReceiver × Bool) (xc : Int) (xd : (List ApiFrame)) : (f10_L4 x0 x1 x2 x3 x4 x5 x6 x7 x8 x9 xa xb).cst (xc, xd) = ⟨put (put (put (put (put (put (put (put (put (put (fun _ => .junk) 38 (.int .i64 x4)) 37 (.int .i64 ((x5.length : Nat) : Int))) 36 (.sl 4 false (x5.map eTopPlayBeat))) 17 (.int .i64 xc)) 16 (.row 2 4 0 xd.length)) 8 (.int .i64 (IntKind.i64.wrap (x2 + (IntKind.i64.wrap (10 * (IntKind.i64.wrap x3.fAfter))))))) 7 (.ptr 3 0)) 6 (.ptr 2 0)) 5 (.ptr 1 0)) 3 (.ptr 0 0), [.cel [.int .u64 x6, .int .i64 x7, .int .i64 x8, .int .i64 x9, .sl 5 false (xa.map eNetworkStream)], .cel [.sl 8 false (xb.1.fInputs.map eReceiverInput)], .cel (x0.map AV.str), .cel (x1.map (AV.int .i64)), .els 2 (xd.map eApiFrame)]⟩ := rfl
noncomputable def f10_J3 (x0 : Int) (x1 : TopPlayBeat) (x2 : Int) (x3 : (List TopPlayBeat)) (x4 : Int) (x5 : Int) (x6 : Int) (x7 : Int) (x8 : (List NetworkStream)) (x9 : ReceiverReceiver × Bool) : Jn ((List (List UInt8)) × (List Int)) (Ctl (Int × Int × Int × Int × Int × Int × (List NetworkStream) × (List ReceiverInput) × (List (List UInt8)) × (List Int)) ((Unit) ⊕ (Unit))) where
  run := fun (xa, xb) => (Lp.run (f10_L4 xa xb x0 x1 x2 x3 x4 x5 x6 x7 x8 x9) (1, [])).bind fun xc => (f30 x9.1 (IntKind.i64.wrap (x0 + (IntKind.i64.wrap (10 * (IntKind.i64.wrap x1.fAfter)))))).bind fun xd => (if (decide (xd.2 ≠ 0)) = true then (some (.brk (Sum.inr ()))) else (f52 xd.1 xc).bind fun xe => (if (!xe) = true then (some (.brk (Sum.inr ()))) else (some (.next ((IntKind.i64.wrap (x0 + (IntKind.i64.wrap (10 * (IntKind.i64.wrap x1.fAfter))))), (IntKind.i64.wrap (x2 + 1)), x4, x5, x6, x7, x8, x9.1.fInputs, xa, xb)))))
  cst := fun (xa, xb) => ⟨put (put (put (put (put (put (put (put (fun _ => .junk) 38 (.int .i64 x2)) 37 (.int .i64 ((x3.length : Nat) : Int))) 36 (.sl 4 false (x3.map eTopPlayBeat))) 8 (.int .i64 (IntKind.i64.wrap (x0 + (IntKind.i64.wrap (10 * (IntKind.i64.wrap x1.fAfter))))))) 7 (.ptr 3 0)) 6 (.ptr 2 0)) 5 (.ptr 1 0)) 3 (.ptr 0 0), [.cel [.int .u64 x4, .int .i64 x5, .int .i64 x6, .int .i64 x7, .sl 5 false (x8.map eNetworkStream)], .cel [.sl 8 false (x9.1.fInputs.map eReceiverInput)], .cel (xa.map AV.str), .cel (xb.map (AV.int .i64))]⟩
theorem f10_J3c (x0 : Int) (x1 : TopPlayBeat) (x2 : Int) (x3 : (List TopPlayBeat)) (x4 : Int) (x5 : Int) (x6 : Int) (x7 : Int) (x8 : (List NetworkStream)) (x9 : ReceiverReceiver × Bool) (xa : (List (List UInt8))) (xb : (List Int)) : (f10_J3 x0 x1 x2 x3 x4 x5 x6 x7 x8 x9).cst (xa, xb) = ⟨put (put (put (put (put (put (put (put (fun _ => .junk) 38 (.int .i64 x2)) 37 (.int .i64 ((x3.length : Nat) : Int))) 36 (.sl 4 false (x3.map eTopPlayBeat))) 8 (.int .i64 (IntKind.i64.wrap (x0 + (IntKind.i64.wrap (10 * (IntKind.i64.wrap x1.fAfter))))))) 7 (.ptr 3 0)) 6 (.ptr 2 0)) 5 (.ptr 1 0)) 3 (.ptr 0 0), [.cel [.int .u64 x4, .int .i64 x5, .int .i64 x6, .int .i64 x7, .sl 5 false (x8.map eNetworkStream)], .cel [.sl 8 false (x9.1.fInputs.map eReceiverInput)], .cel (xa.map AV.str), .cel (xb.map (AV.int .i64))]⟩ := rfl
noncomputable def f10_J2 (x0 : (List ReceiverInput)) (x1 : Int) (x2 : TopPlayBeat) (x3 : (List (List UInt8))) (x4 : (List Int)) (x5 : Int) (x6 : (List TopPlayBeat)) (x7 : Int) (x8 : Int) (x9 : Int) (xa : Int) (xb : (List NetworkStream)) : Jn ((List NetworkPacket) × Int × Int × Int × Int × Int × (List NetworkStream)) (Ctl (Int × Int × Int × Int × Int × Int × (List NetworkStream) × (List ReceiverInput) × (List (List UInt8)) × (List Int)) ((Unit) ⊕ (Unit))) where
  run := fun (xc, xd, xe, xf, xg, xh, xi) => (if (decide (xd ≠ 0)) = true then (some (.brk (Sum.inr ()))) else (f51 (ReceiverReceiver.mk x0) (IntKind.i64.wrap (x1 + (IntKind.i64.wrap (10 * (IntKind.i64.wrap x2.fAfter))))) xc x2.fLost).bind fun xj => (if (!xj.2) = true then (some (.brk (Sum.inr ()))) else (if (decide (0 < ((xc.length : Nat) : Int))) = true then (if (!x2.fLost) = true then (at? xc 0).bind fun xk => (arr? 4 x3 (IntKind.i64.wrap (1 + (IntKind.i64.wrap (x2.fUniverse.tmod 3))))).bind fun xl => (arr? 4 x4 (IntKind.i64.wrap (1 + (IntKind.i64.wrap (x2.fUniverse.tmod 3))))).bind fun xm => ((f10_J3 x1 x2 x5 x6 xe xf xg xh xi xj).run ((x3.set (IntKind.i64.wrap (1 + (IntKind.i64.wrap (x2.fUniverse.tmod 3)))).toNat xk.fSlots), (x4.set (IntKind.i64.wrap (1 + (IntKind.i64.wrap (x2.fUniverse.tmod 3)))).toNat (IntKind.i64.wrap (x1 + (IntKind.i64.wrap (10 * (IntKind.i64.wrap x2.fAfter)))))))) else ((f10_J3 x1 x2 x5 x6 xe xf xg xh xi xj).run (x3, x4))) else ((f10_J3 x1 x2 x5 x6 xe xf xg xh xi xj).run (x3, x4)))))
  cst := fun (xc, xd, xe, xf, xg, xh, xi) => ⟨put (put (put (put (put (put (put (put (put (put (put (put (put (fun _ => .junk) 38 (.int .i64 x5)) 37 (.int .i64 ((x6.length : Nat) : Int))) 36 (.sl 4 false (x6.map eTopPlayBeat))) 14 (.int .i64 xd)) 13 (.sl 7 false (xc.map eNetworkPacket))) 12 (.ptr 5 0)) 11 (.int .i64 (IntKind.i64.wrap (1 + (IntKind.i64.wrap (x2.fUniverse.tmod 3)))))) 10 (.ptr 4 0)) 8 (.int .i64 (IntKind.i64.wrap (x1 + (IntKind.i64.wrap (10 * (IntKind.i64.wrap x2.fAfter))))))) 7 (.ptr 3 0)) 6 (.ptr 2 0)) 5 (.ptr 1 0)) 3 (.ptr 0 0), [.cel [.int .u64 x7, .int .i64 x8, .int .i64 x9, .int .i64 xa, .sl 5 false (xb.map eNetworkStream)], .cel [.sl 8 false (x0.map eReceiverInput)], .cel (x3.map AV.str), .cel (x4.map (AV.int .i64)), .cel [.int .u8 x2.fUniverse, .int .u8 x2.fAfter, .int .u8 x2.fValue, .bool x2.fLost], .cel [.int .u64 xe, .int .i64 xf, .int .i64 xg, .int .i64 xh, .sl 5 false (xi.map eNetworkStream)]]⟩
theorem f10_J2c (x0 : (List ReceiverInput)) (x1 : Int) (x2 : TopPlayBeat) (x3 : (List (List UInt8))) (x4 : (List Int)) (x5 : Int) (x6 : (List TopPlayBeat)) (x7 : Int) (x8 : Int) (x9 : Int) (xa : Int) (xb : (List NetworkStream)) (xc : (List NetworkPacket)) (xd : Int) (xe : Int) (xf : Int) (xg : Int) (xh : Int) (xi : (List NetworkStream)) : (f10_J2 x0 x1 x2 x3 x4 x5 x6 x7 x8 x9 xa xb).cst (xc, xd, xe, xf, xg, xh, xi) = ⟨put (put (put (put (put (put (put (put (put (put (put (put (put (fun _ => .junk) 38 (.int .i64 x5)) 37 (.int .i64 ((x6.length : Nat) : Int))) 36 (.sl 4 false (x6.map eTopPlayBeat))) 14 (.int .i64 xd)) 13 (.sl 7 false (xc.map eNetworkPacket))) 12 (.ptr 5 0)) 11 (.int .i64 (IntKind.i64.wrap (1 + (IntKind.i64.wrap (x2.fUniverse.tmod 3)))))) 10 (.ptr 4 0)) 8 (.int .i64 (IntKind.i64.wrap (x1 + (IntKind.i64.wrap (10 * (IntKind.i64.wrap x2.fAfter))))))) 7 (.ptr 3 0)) 6 (.ptr 2 0)) 5 (.ptr 1 0)) 3 (.ptr 0 0), [.cel [.int .u64 x7, .int .i64 x8, .int .i64 x9, .int .i64 xa, .sl 5 false (xb.map eNetworkStream)], .cel [.sl 8 false (x0.map eReceiverInput)], .cel (x3.map AV.str), .cel (x4.map (AV.int .i64)), .cel [.int .u8 x2.fUniverse, .int .u8 x2.fAfter, .int .u8 x2.fValue, .bool x2.fLost], .cel [.int .u64 xe, .int .i64 xf, .int .i64 xg, .int .i64 xh, .sl 5 false (xi.map eNetworkStream)]]⟩ := rfl
noncomputable def f10_L1 (x0 : (List TopPlayBeat)) : Lp (Int × Int × Int × Int × Int × Int × (List NetworkStream) × (List ReceiverInput) × (List (List UInt8)) × (List Int)) ((Unit) ⊕ (Unit)) where
  body := fun (x1, x2, x3, x4, x5, x6, x7, x8, x9, xa) => (if (decide (x2 < ((x0.length : Nat) : Int))) = true then (at? x0 x2).bind fun xb => (f50 (IntKind.i64.wrap (1 + (IntKind.i64.wrap (xb.fUniverse.tmod 3)))) (IntKind.i64.wrap (xb.fValue.tmod 4))).bind fun xc => (f43 (NetworkSender.mk x3 x4 x5 x6 x7) (IntKind.i64.wrap (x1 + (IntKind.i64.wrap (10 * (IntKind.i64.wrap xb.fAfter))))) ([xc])).bind fun xd => ((f10_J2 x8 x1 xb x9 xa x2 x0 x3 x4 x5 x6 x7).run (xd.2.1, xd.2.2, xd.1.fSource, xd.1.fPriority, xd.1.fSync, xd.1.fPulse, xd.1.fStreams)) else (some (.brk (Sum.inl ()))))
  cst := fun (x1, x2, x3, x4, x5, x6, x7, x8, x9, xa) => ⟨put (put (put (put (put (put (put (put (fun _ => .junk) 38 (.int .i64 x2)) 37 (.int .i64 ((x0.length : Nat) : Int))) 36 (.sl 4 false (x0.map eTopPlayBeat))) 8 (.int .i64 x1)) 7 (.ptr 3 0)) 6 (.ptr 2 0)) 5 (.ptr 1 0)) 3 (.ptr 0 0), [.cel [.int .u64 x3, .int .i64 x4, .int .i64 x5, .int .i64 x6, .sl 5 false (x7.map eNetworkStream)], .cel [.sl 8 false (x8.map eReceiverInput)], .cel (x9.map AV.str), .cel (xa.map (AV.int .i64))]⟩
theorem f10_L1c (x0 : (List TopPlayBeat)) (x1 : Int) (x2 : Int) (x3 : Int) (x4 : Int) (x5 : Int) (x6 : Int) (x7 : (List NetworkStream)) (x8 : (List ReceiverInput)) (x9 : (List (List UInt8))) (xa : (List Int)) : (f10_L1 x0).cst (x1, x2, x3, x4, x5, x6, x7, x8, x9, xa) = ⟨put (put (put (put (put (put (put (put (fun _ => .junk) 38 (.int .i64 x2)) 37 (.int .i64 ((x0.length : Nat) : Int))) 36 (.sl 4 false (x0.map eTopPlayBeat))) 8 (.int .i64 x1)) 7 (.ptr 3 0)) 6 (.ptr 2 0)) 5 (.ptr 1 0)) 3 (.ptr 0 0), [.cel [.int .u64 x3, .int .i64 x4, .int .i64 x5, .int .i64 x6, .sl 5 false (x7.map eNetworkStream)], .cel [.sl 8 false (x8.map eReceiverInput)], .cel (x9.map AV.str), .cel (xa.map (AV.int .i64))]⟩ := rfl
def c10_0 : C := .cond (.t 30) (.seq (.reg [iI 31 (.mv (.t 4)), iI 32 (.bin .eql (.t 31) (.c (.int .i64 0))), iI 33 (.mv (.t 32)), iG (some 34) 33 true (.call (.c (.fn 49 [])) []), iI 35 (.pick (.t 33) (.t 34) (.c (.bool false))), iI 2 (.mv (.t 35))]) .ret) (.skip)
def c10_1 : C := .cond (.t 68) (.seq (.reg [iI 2 (.mv (.c (.bool false)))]) .ret) (.skip)
def c10_2 : C := .cond (.t 79) (.seq (.reg [iI 2 (.mv (.c (.bool false)))]) .ret) (.skip)
def c10_3 : C := .seq (.reg [iI 78 (.mv (.t 15)), iI 79 (.un .not (.t 78))]) c10_2
def c10_4 : C := .cond (.t 88) (.reg [iI 89 (.mv (.t 11)), iI 90 (.mv (.t 11)), iI 91 (.mv (.t 13)), iI 92 (.iaddr 7 (.t 91) (.c (.int .i64 0))), iI 93 (.faddr 6 (.t 92)), iI 94 (.load 0 (.t 93)), iI 95 (.mv (.t 8)), iI 96 (.aiaddr 0 4 (.t 6) (.t 89)), iN (.store 0 (.t 96) (.t 94)), iI 97 (.aiaddr 0 4 (.t 7) (.t 90)), iN (.store 0 (.t 97) (.t 95))]) (.skip)
def c10_5 : C := .cond (.t 99) (.skip) (.exit 2)
def c10_6 : C := .cond (.t 113) (.reg [iI 114 (.mv (.t 16)), iI 115 (.mv (.t 17)), iI 116 (.mv (.t 17)), iI 117 (.aiaddr 0 4 (.t 6) (.t 116)), iI 118 (.load 0 (.t 117)), iI 119 (.build [(1, (.int .i64 0)), (1, (.str []))] [(0, 0, (.t 115)), (1, 0, (.t 118))]), iI 120 (.mkslp 2 1 (.agg [(.int .i64 0), (.str [])]) [(0, (.t 119))]), iI 121 (.append 2 24 (.t 114) (.t 120)), iI 16 (.mv (.t 121))]) (.skip)
def c10_7 : C := .reg [iI 100 (.mv (.t 17)), iI 101 (.bin .add (.t 100) (.c (.int .i64 1))), iI 17 (.mv (.t 101))]
def c10_8 : C := .seq (.block 3 (.seq (.reg [iI 102 (.mv (.t 17)), iI 103 (.aiaddr 0 4 (.t 6) (.t 102)), iI 104 (.load 0 (.t 103)), iI 105 (.bin .neq (.t 104) (.c (.str []))), iI 106 (.mv (.t 105)), iG (some 107) 106 true (.mv (.t 8)), iG (some 108) 106 true (.mv (.t 17)), iG (some 109) 106 true (.aiaddr 0 4 (.t 7) (.t 108)), iG (some 110) 106 true (.load 0 (.t 109)), iG (some 111) 106 true (.bin .sub (.t 107) (.t 110)), iG (some 112) 106 true (.bin .leq (.t 111) (.c (.int .i64 2500))), iI 113 (.pick (.t 106) (.t 112) (.c (.bool false)))]) c10_6)) c10_7
def c10_9 : C := .block 2 (.loop (.seq (.seq (.reg [iI 98 (.mv (.t 17)), iI 99 (.bin .leq (.t 98) (.c (.int .i64 3)))]) c10_5) c10_8))
def c10_10 : C := .cond (.t 135) (.seq (.reg [iI 2 (.mv (.c (.bool false)))]) .ret) (.skip)
def c10_11 : C := .seq (.reg [iI 128 (.mv (.t 19)), iI 129 (.bin .neq (.t 128) (.c (.int .i64 0))), iI 130 (.mv (.t 129)), iG (some 131) 130 false (.mv (.t 18)), iG (some 132) 130 false (.mv (.t 16)), iG (some 133) 130 false (.call (.c (.fn 52 [])) [(.t 131), (.t 132)]), iG (some 134) 130 false (.un .not (.t 133)), iI 135 (.pick (.t 130) (.c (.bool true)) (.t 134))]) c10_10
def c10_12 : C := .seq (.reg [iI 123 (.load 1 (.t 5)), iI 124 (.mv (.t 8)), iI 125 (.call (.c (.fn 30 [])) [(.t 123), (.t 124)]), iI 122 (.mv (.t 125)), iI 126 (.ext (.t 122) 0), iI 127 (.ext (.t 122) 1), iI 18 (.mv (.t 126)), iI 19 (.mv (.t 127))]) c10_11
def c10_13 : C := .seq (.seq (.reg [iI 17 (.mv (.c (.int .i64 1)))]) c10_9) c10_12
def c10_14 : C := .seq (.reg [iI 16 (.mv (.c (.sl 2 true [])))]) c10_13
def c10_15 : C := .seq (.seq (.reg [iI 81 (.mv (.t 13)), iI 82 (.len 0 (.t 81)), iI 83 (.bin .gtr (.t 82) (.c (.int .i64 0))), iI 84 (.mv (.t 83)), iG (some 85) 84 true (.faddr 3 (.t 10)), iG (some 86) 84 true (.load 0 (.t 85)), iG (some 87) 84 true (.un .not (.t 86)), iI 88 (.pick (.t 84) (.t 87) (.c (.bool false)))]) c10_4) c10_14
def c10_16 : C := .seq (.reg [iI 80 (.load 5 (.t 12)), iN (.store 5 (.t 3) (.t 80))]) c10_15
def c10_17 : C := .seq (.seq (.reg [iI 70 (.load 1 (.t 5)), iI 71 (.mv (.t 8)), iI 72 (.mv (.t 13)), iI 73 (.faddr 3 (.t 10)), iI 74 (.load 0 (.t 73)), iI 75 (.call (.c (.fn 51 [])) [(.t 70), (.t 71), (.t 72), (.t 74)]), iI 69 (.mv (.t 75)), iI 76 (.ext (.t 69) 0), iI 77 (.ext (.t 69) 1), iN (.store 1 (.t 5) (.t 76)), iI 15 (.mv (.t 77))]) c10_3) c10_16
def c10_18 : C := .seq (.reg [iI 15 (.mv (.c (.bool false)))]) c10_17
def c10_19 : C := .seq (.seq (.reg [iI 67 (.mv (.t 14)), iI 68 (.bin .neq (.t 67) (.c (.int .i64 0)))]) c10_1) c10_18
def c10_20 : C := .seq (.regt (.fork [iI 54 (.load 5 (.t 3)), iI 55 (.mv (.t 8)), iI 56 (.mv (.t 11)), iI 57 (.faddr 2 (.t 10)), iI 58 (.load 0 (.t 57)), iI 59 (.bin .rem (.t 58) (.c (.int .u8 4))), iI 60 (.cint .i64 (.t 59))] (.fork [iI 61 (.call (.c (.fn 50 [])) [(.t 56), (.t 60)]), iI 62 (.mkslp 2 1 (.agg [(.int .i64 0), (.str [])]) [(0, (.t 61))])] (.run [iI 63 (.call (.c (.fn 43 [])) [(.t 54), (.t 55), (.t 62)]), iI 53 (.mv (.t 63)), iI 64 (.ext (.t 53) 0), iI 65 (.ext (.t 53) 1), iI 66 (.ext (.t 53) 2), iI 12 (.alloc [(1, (.int .u64 0)), (1, (.int .i64 0)), (1, (.int .i64 0)), (1, (.int .i64 0)), (1, (.sl 5 true []))]), iN (.store 5 (.t 12) (.t 64)), iI 13 (.mv (.t 65)), iI 14 (.mv (.t 66))]) (.run [iI 12 (.alloc [(1, (.int .u64 0)), (1, (.int .i64 0)), (1, (.int .i64 0)), (1, (.int .i64 0)), (1, (.sl 5 true []))]), iI 63 (.call (.c (.fn 43 [])) [(.t 54), (.t 55), (.t 62)]), iI 53 (.mv (.t 63)), iI 64 (.ext (.t 53) 0), iI 65 (.ext (.t 53) 1), iI 66 (.ext (.t 53) 2), iN (.store 5 (.t 12) (.t 64)), iI 13 (.mv (.t 65)), iI 14 (.mv (.t 66))])) (.run [iI 12 (.alloc [(1, (.int .u64 0)), (1, (.int .i64 0)), (1, (.int .i64 0)), (1, (.int .i64 0)), (1, (.sl 5 true []))]), iI 61 (.call (.c (.fn 50 [])) [(.t 56), (.t 60)]), iI 62 (.mkslp 2 1 (.agg [(.int .i64 0), (.str [])]) [(0, (.t 61))]), iI 63 (.call (.c (.fn 43 [])) [(.t 54), (.t 55), (.t 62)]), iI 53 (.mv (.t 63)), iI 64 (.ext (.t 53) 0), iI 65 (.ext (.t 53) 1), iI 66 (.ext (.t 53) 2), iN (.store 5 (.t 12) (.t 64)), iI 13 (.mv (.t 65)), iI 14 (.mv (.t 66))]))) c10_19
def c10_21 : C := .seq (.reg [iI 48 (.faddr 0 (.t 10)), iI 49 (.load 0 (.t 48)), iI 50 (.bin .rem (.t 49) (.c (.int .u8 3))), iI 51 (.cint .i64 (.t 50)), iI 52 (.bin .add (.c (.int .i64 1)) (.t 51)), iI 11 (.mv (.t 52))]) c10_20
def c10_22 : C := .seq (.reg [iI 42 (.mv (.t 8)), iI 43 (.faddr 1 (.t 10)), iI 44 (.load 0 (.t 43)), iI 45 (.cint .i64 (.t 44)), iI 46 (.bin .mul (.c (.int .i64 10)) (.t 45)), iI 47 (.bin .add (.t 42) (.t 46)), iI 8 (.mv (.t 47))]) c10_21
def c10_23 : C := .reg [iI 136 (.bin .add (.t 38) (.c (.int .i64 1))), iI 38 (.mv (.t 136))]
def c10_24 : C := .seq (.block 1 (.seq (.reg [iI 40 (.iaddr 4 (.t 36) (.t 38)), iI 41 (.load 4 (.t 40)), iI 10 (.alloc [(1, (.int .u8 0)), (1, (.int .u8 0)), (1, (.int .u8 0)), (1, (.bool false))]), iN (.store 4 (.t 10) (.t 41))]) c10_22)) c10_23
def c10_25 : C := .seq (.cond (.t 39) (.skip) (.exit 0)) c10_24
def c10_26 : C := .block 0 (.loop (.seq (.reg [iI 39 (.bin .lss (.t 38) (.t 37))]) c10_25))
def c10_27 : C := .seq (.reg [iI 137 (.call (.c (.fn 49 [])) []), iI 2 (.mv (.t 137))]) .ret
def c10_28 : C := .seq (.seq (.reg [iI 36 (.mv (.t 0)), iI 37 (.len 0 (.t 36)), iI 38 (.mv (.c (.int .i64 0)))]) c10_26) c10_27
def c10_29 : C := .seq (.reg [iI 8 (.mv (.c (.int .i64 0)))]) c10_28
def c10_30 : C := .seq (.reg [iI 7 (.alloc [(4, (.int .i64 0))])]) c10_29
def c10_31 : C := .seq (.reg [iI 6 (.alloc [(4, (.str []))])]) c10_30
def c10_32 : C := .seq (.reg [iI 5 (.alloc [(1, (.sl 8 true []))])]) c10_31
def c10_33 : C := .seq (.seq (.reg [iI 24 (.mv (.t 4)), iI 25 (.bin .neq (.t 24) (.c (.int .i64 0))), iI 26 (.mv (.t 25)), iG (some 27) 26 false (.mv (.t 0)), iG (some 28) 26 false (.len 0 (.t 27)), iG (some 29) 26 false (.bin .gtr (.t 28) (.c (.int .i64 40))), iI 30 (.pick (.t 26) (.c (.bool true)) (.t 29))]) c10_0) c10_32
def c10_34 : C := .seq (.reg [iI 21 (.call (.c (.fn 42 [])) [(.c (.int .u64 7)), (.c (.int .i64 100)), (.c (.int .i64 0))]), iI 20 (.mv (.t 21)), iI 22 (.ext (.t 20) 0), iI 23 (.ext (.t 20) 1), iI 3 (.alloc [(1, (.int .u64 0)), (1, (.int .i64 0)), (1, (.int .i64 0)), (1, (.int .i64 0)), (1, (.sl 5 true []))]), iN (.store 5 (.t 3) (.t 22)), iI 4 (.mv (.t 23))]) c10_33
def ir10 : C := .seq (.reg [iI 2 (.mv (.c (.bool false)))]) c10_34
theorem fd10 : fd? Try.prog 10 = some (138, [.slot 2], ir10) := by kernel_rfl
noncomputable def f10 (x0 : (List TopPlayBeat)) : Option (Bool) :=
  (f42 7 100 0).bind fun x1 => (if (decide (x1.2 ≠ 0)) = true then (if (decide (x1.2 = 0)) = true then (f49).bind fun x2 => (some x2) else (some false)) else (if (decide (40 < ((x0.length : Nat) : Int))) = true then (if (decide (x1.2 = 0)) = true then (f49).bind fun x3 => (some x3) else (some false)) else ((Lp.run (f10_L1 x0) (0, 0, x1.1.fSource, x1.1.fPriority, x1.1.fSync, x1.1.fPulse, x1.1.fStreams, [], (List.replicate 4 ([] : (List UInt8))), (List.replicate 4 (0 : Int)))).bind fun r_ => match r_ with | (Sum.inl _) => (f49).bind fun x4 => (some x4) | (Sum.inr _) => (some false))))
theorem f10_ok {x0 : (List TopPlayBeat)} {r_ : Bool} (H : f10 x0 = some r_) : Pure Try.prog 10 [.sl 4 false (x0.map eTopPlayBeat)] (· = .bool r_) := by
 refine Pure.walk3 fd10 none (Nat.le_of_ble_eq_true rfl) (by rfl) fun Q hQ => ?_
 simp only [f10] at H
 refine AW.rseq ?_
 try simp only [↓wk, ↓wl, nqa, evV, ↓reduceIte, Nat.reduceEqDiff, Nat.reduceAdd, Nat.reduceSub, Nat.reduceLeDiff, Nat.reduceLT, Nat.reduceBEq, reduceCtorEq, Int.reduceEq]
 refine AW.rseq ?_
 try simp only [↓wk, ↓wl, nqa, evV, ↓reduceIte, Nat.reduceEqDiff, Nat.reduceAdd, Nat.reduceSub, Nat.reduceLeDiff, Nat.reduceLT, Nat.reduceBEq, reduceCtorEq, Int.reduceEq]
 refine evTs_pure hFn H (fun _ h => f42_ok h) (by rfl) (by rfl) (by rfl) (by rfl) (fun _ => rfl) ?_ <;> clear H <;> intro x1 H
 try simp only [eL, eNetworkSender, ↓wk, ↓wl, nqa, evV, ↓reduceIte, Nat.reduceEqDiff, Nat.reduceAdd, Nat.reduceSub, Nat.reduceLeDiff, Nat.reduceLT, Nat.reduceBEq, reduceCtorEq, Int.reduceEq]
 refine evTs_any rfl (by simp only [nc, ↓wk, ↓wl, nqa, evV, ↓reduceIte, Nat.reduceEqDiff, Nat.reduceAdd, Nat.reduceSub, Nat.reduceLeDiff, Nat.reduceLT, Nat.reduceBEq, reduceCtorEq, Int.reduceEq, Nat.reduceLeDiff]; rfl) ?_
 try simp only [↓wk, ↓wl, nqa, evV, ↓reduceIte, Nat.reduceEqDiff, Nat.reduceAdd, Nat.reduceSub, Nat.reduceLeDiff, Nat.reduceLT, Nat.reduceBEq, reduceCtorEq, Int.reduceEq]
 refine evTs_st (by simp only [↓wk, ↓wl, nqa, evV, ↓reduceIte, Nat.reduceEqDiff, Nat.reduceAdd, Nat.reduceSub, Nat.reduceLeDiff, Nat.reduceLT, Nat.reduceBEq, reduceCtorEq, Int.reduceEq, Nat.reduceLeDiff]; rfl) ?_
 try simp only [↓wk, ↓wl, nqa, evV, ↓reduceIte, Nat.reduceEqDiff, Nat.reduceAdd, Nat.reduceSub, Nat.reduceLeDiff, Nat.reduceLT, Nat.reduceBEq, reduceCtorEq, Int.reduceEq]
 refine AW.sseq ?_
 refine AW.rseq ?_
 try simp only [↓wk, ↓wl, nqa, evV, ↓reduceIte, Nat.reduceEqDiff, Nat.reduceAdd, Nat.reduceSub, Nat.reduceLeDiff, Nat.reduceLT, Nat.reduceBEq, reduceCtorEq, Int.reduceEq]
 refine evTs_ifg H (by rfl) ?_ ?_ <;> clear H <;> intro H
 ·try simp only [↓wk, ↓wl, nqa, evV, ↓reduceIte, Nat.reduceEqDiff, Nat.reduceAdd, Nat.reduceSub, Nat.reduceLeDiff, Nat.reduceLT, Nat.reduceBEq, reduceCtorEq, Int.reduceEq]
  refine AW.ift (by rfl) ?_
  refine AW.rseq ?_
  try simp only [↓wk, ↓wl, nqa, evV, ↓reduceIte, Nat.reduceEqDiff, Nat.reduceAdd, Nat.reduceSub, Nat.reduceLeDiff, Nat.reduceLT, Nat.reduceBEq, reduceCtorEq, Int.reduceEq]
  refine evTs_ifg H (by rfl) ?_ ?_ <;> clear H <;> intro H
  ·try simp only [↓wk, ↓wl, nqa, evV, ↓reduceIte, Nat.reduceEqDiff, Nat.reduceAdd, Nat.reduceSub, Nat.reduceLeDiff, Nat.reduceLT, Nat.reduceBEq, reduceCtorEq, Int.reduceEq]
   refine evTs_pure hFn H (fun _ h => f49_ok h) (by rfl) (by rfl) (by rfl) (by rfl) (fun _ => rfl) ?_ <;> clear H <;> intro x2 H
   try simp only [eL, ↓wk, ↓wl, nqa, evV, ↓reduceIte, Nat.reduceEqDiff, Nat.reduceAdd, Nat.reduceSub, Nat.reduceLeDiff, Nat.reduceLT, Nat.reduceBEq, reduceCtorEq, Int.reduceEq]
   refine AW.ret ?_
   refine seqQ.ret ?_
   cases H
   exact hQ _ _ _ _ (.inr rfl) (by simp only [resVs, omap, resV, ↓wk, ↓wl, nqa, evV, ↓reduceIte, Nat.reduceEqDiff, Nat.reduceAdd, Nat.reduceSub, Nat.reduceLeDiff, Nat.reduceLT, Nat.reduceBEq, reduceCtorEq, Int.reduceEq]; rfl) (hand_plain (by rfl)) (by first | exact Or.inl rfl | exact Or.inr rfl)
  ·try simp only [↓wk, ↓wl, nqa, evV, ↓reduceIte, Nat.reduceEqDiff, Nat.reduceAdd, Nat.reduceSub, Nat.reduceLeDiff, Nat.reduceLT, Nat.reduceBEq, reduceCtorEq, Int.reduceEq]
   refine AW.ret ?_
   refine seqQ.ret ?_
   cases H
   exact hQ _ _ _ _ (.inr rfl) (by simp only [resVs, omap, resV, ↓wk, ↓wl, nqa, evV, ↓reduceIte, Nat.reduceEqDiff, Nat.reduceAdd, Nat.reduceSub, Nat.reduceLeDiff, Nat.reduceLT, Nat.reduceBEq, reduceCtorEq, Int.reduceEq]; rfl) (hand_plain (by rfl)) (by first | exact Or.inl rfl | exact Or.inr rfl)
 ·try simp only [↓wk, ↓wl, nqa, evV, ↓reduceIte, Nat.reduceEqDiff, Nat.reduceAdd, Nat.reduceSub, Nat.reduceLeDiff, Nat.reduceLT, Nat.reduceBEq, reduceCtorEq, Int.reduceEq]
  refine AW.ifc H (by rfl) ?_ ?_ <;> clear H <;> intro H
  ·refine AW.rseq ?_
   try simp only [↓wk, ↓wl, nqa, evV, ↓reduceIte, Nat.reduceEqDiff, Nat.reduceAdd, Nat.reduceSub, Nat.reduceLeDiff, Nat.reduceLT, Nat.reduceBEq, reduceCtorEq, Int.reduceEq]
   refine evTs_ifg H (by rfl) ?_ ?_ <;> clear H <;> intro H
   ·try simp only [↓wk, ↓wl, nqa, evV, ↓reduceIte, Nat.reduceEqDiff, Nat.reduceAdd, Nat.reduceSub, Nat.reduceLeDiff, Nat.reduceLT, Nat.reduceBEq, reduceCtorEq, Int.reduceEq]
    refine evTs_pure hFn H (fun _ h => f49_ok h) (by rfl) (by rfl) (by rfl) (by rfl) (fun _ => rfl) ?_ <;> clear H <;> intro x3 H
    try simp only [eL, ↓wk, ↓wl, nqa, evV, ↓reduceIte, Nat.reduceEqDiff, Nat.reduceAdd, Nat.reduceSub, Nat.reduceLeDiff, Nat.reduceLT, Nat.reduceBEq, reduceCtorEq, Int.reduceEq]
    refine AW.ret ?_
    refine seqQ.ret ?_
    cases H
    exact hQ _ _ _ _ (.inr rfl) (by simp only [resVs, omap, resV, ↓wk, ↓wl, nqa, evV, ↓reduceIte, Nat.reduceEqDiff, Nat.reduceAdd, Nat.reduceSub, Nat.reduceLeDiff, Nat.reduceLT, Nat.reduceBEq, reduceCtorEq, Int.reduceEq]; rfl) (hand_plain (by rfl)) (by first | exact Or.inl rfl | exact Or.inr rfl)
   ·try simp only [↓wk, ↓wl, nqa, evV, ↓reduceIte, Nat.reduceEqDiff, Nat.reduceAdd, Nat.reduceSub, Nat.reduceLeDiff, Nat.reduceLT, Nat.reduceBEq, reduceCtorEq, Int.reduceEq]
    refine AW.ret ?_
    refine seqQ.ret ?_
    cases H
    exact hQ _ _ _ _ (.inr rfl) (by simp only [resVs, omap, resV, ↓wk, ↓wl, nqa, evV, ↓reduceIte, Nat.reduceEqDiff, Nat.reduceAdd, Nat.reduceSub, Nat.reduceLeDiff, Nat.reduceLT, Nat.reduceBEq, reduceCtorEq, Int.reduceEq]; rfl) (hand_plain (by rfl)) (by first | exact Or.inl rfl | exact Or.inr rfl)
  ·refine AW.skip ?_
   refine seqQ.norm ?_
   refine AW.rseq ?_
   try simp only [↓wk, ↓wl, nqa, evV, ↓reduceIte, Nat.reduceEqDiff, Nat.reduceAdd, Nat.reduceSub, Nat.reduceLeDiff, Nat.reduceLT, Nat.reduceBEq, reduceCtorEq, Int.reduceEq]
   refine evTs_any rfl (by simp only [nc, ↓wk, ↓wl, nqa, evV, ↓reduceIte, Nat.reduceEqDiff, Nat.reduceAdd, Nat.reduceSub, Nat.reduceLeDiff, Nat.reduceLT, Nat.reduceBEq, reduceCtorEq, Int.reduceEq, Nat.reduceLeDiff]; rfl) ?_
   try simp only [↓wk, ↓wl, nqa, evV, ↓reduceIte, Nat.reduceEqDiff, Nat.reduceAdd, Nat.reduceSub, Nat.reduceLeDiff, Nat.reduceLT, Nat.reduceBEq, reduceCtorEq, Int.reduceEq]
   refine AW.rseq ?_
   try simp only [↓wk, ↓wl, nqa, evV, ↓reduceIte, Nat.reduceEqDiff, Nat.reduceAdd, Nat.reduceSub, Nat.reduceLeDiff, Nat.reduceLT, Nat.reduceBEq, reduceCtorEq, Int.reduceEq]
   refine evTs_arr (enc := AV.str) ([]) (by rfl) ?_
   try simp only [↓wk, ↓wl, nqa, evV, ↓reduceIte, Nat.reduceEqDiff, Nat.reduceAdd, Nat.reduceSub, Nat.reduceLeDiff, Nat.reduceLT, Nat.reduceBEq, reduceCtorEq, Int.reduceEq]
   refine AW.rseq ?_
   try simp only [↓wk, ↓wl, nqa, evV, ↓reduceIte, Nat.reduceEqDiff, Nat.reduceAdd, Nat.reduceSub, Nat.reduceLeDiff, Nat.reduceLT, Nat.reduceBEq, reduceCtorEq, Int.reduceEq]
   refine evTs_arr (enc := (AV.int .i64)) 0 (by rfl) ?_
   try simp only [↓wk, ↓wl, nqa, evV, ↓reduceIte, Nat.reduceEqDiff, Nat.reduceAdd, Nat.reduceSub, Nat.reduceLeDiff, Nat.reduceLT, Nat.reduceBEq, reduceCtorEq, Int.reduceEq]
   refine AW.rseq ?_
   try simp only [↓wk, ↓wl, nqa, evV, ↓reduceIte, Nat.reduceEqDiff, Nat.reduceAdd, Nat.reduceSub, Nat.reduceLeDiff, Nat.reduceLT, Nat.reduceBEq, reduceCtorEq, Int.reduceEq]
   refine AW.sseq ?_
   refine AW.rseq ?_
   try simp only [↓wk, ↓wl, nqa, evV, ↓reduceIte, Nat.reduceEqDiff, Nat.reduceAdd, Nat.reduceSub, Nat.reduceLeDiff, Nat.reduceLT, Nat.reduceBEq, reduceCtorEq, Int.reduceEq]
   refine AW.bend ?_
   refine AW.iter H ((Le.trans (Le.unfullCell (b := 1) (o := 0) (by rfl) (by rfl)) (Le.tz [0, 1, 2, 3] [3, 5, 6, 7, 8, 36, 37, 38] (by simp only [f10_L1c, rrm, ↓wk, ↓wl, evV, ↓reduceIte, Nat.reduceEqDiff, Nat.reduceAdd, Nat.reduceSub, Nat.reduceLeDiff, Nat.reduceLT, Nat.reduceBEq, reduceCtorEq, Int.reduceEq] <;> rfl)))) ?_ <;> clear H
   rintro ⟨x4, x5, x6, x7, x8, x9, xa, xb, xc, xd⟩ x_ st0_ H hst_
   rw [f10_L1c] at hst_
   simp only [f10_L1] at H
   subst hst_
   refine AW.rseq ?_
   try simp only [↓wk, ↓wl, nqa, evV, ↓reduceIte, Nat.reduceEqDiff, Nat.reduceAdd, Nat.reduceSub, Nat.reduceLeDiff, Nat.reduceLT, Nat.reduceBEq, reduceCtorEq, Int.reduceEq]
   refine AW.sseq ?_
   refine AW.ifc H (by rfl) ?_ ?_ <;> clear H <;> intro H
   ·refine AW.skip ?_
    refine seqQ.norm ?_
    refine AW.bseq ?_
    refine AW.rseq ?_
    try simp only [↓wk, ↓wl, nqa, evV, ↓reduceIte, Nat.reduceEqDiff, Nat.reduceAdd, Nat.reduceSub, Nat.reduceLeDiff, Nat.reduceLT, Nat.reduceBEq, reduceCtorEq, Int.reduceEq]
    refine evTs_at (enc := eTopPlayBeat) H (by rfl) (by rfl) ?_ <;> clear H <;> intro xe H
    try simp only [eTopPlayBeat, eL, ↓wk, ↓wl, nqa, evV, ↓reduceIte, Nat.reduceEqDiff, Nat.reduceAdd, Nat.reduceSub, Nat.reduceLeDiff, Nat.reduceLT, Nat.reduceBEq, reduceCtorEq, Int.reduceEq]
    refine evTs_any rfl (by simp only [nc, ↓wk, ↓wl, nqa, evV, ↓reduceIte, Nat.reduceEqDiff, Nat.reduceAdd, Nat.reduceSub, Nat.reduceLeDiff, Nat.reduceLT, Nat.reduceBEq, reduceCtorEq, Int.reduceEq, Nat.reduceLeDiff]; rfl) ?_
    try simp only [↓wk, ↓wl, nqa, evV, ↓reduceIte, Nat.reduceEqDiff, Nat.reduceAdd, Nat.reduceSub, Nat.reduceLeDiff, Nat.reduceLT, Nat.reduceBEq, reduceCtorEq, Int.reduceEq]
    refine evTs_any rfl (by simp only [nc, ↓wk, ↓wl, nqa, evV, ↓reduceIte, Nat.reduceEqDiff, Nat.reduceAdd, Nat.reduceSub, Nat.reduceLeDiff, Nat.reduceLT, Nat.reduceBEq, reduceCtorEq, Int.reduceEq, Nat.reduceLeDiff]; rfl) ?_
    try simp only [↓wk, ↓wl, nqa, evV, ↓reduceIte, Nat.reduceEqDiff, Nat.reduceAdd, Nat.reduceSub, Nat.reduceLeDiff, Nat.reduceLT, Nat.reduceBEq, reduceCtorEq, Int.reduceEq]
    refine evTs_st (by simp only [↓wk, ↓wl, nqa, evV, ↓reduceIte, Nat.reduceEqDiff, Nat.reduceAdd, Nat.reduceSub, Nat.reduceLeDiff, Nat.reduceLT, Nat.reduceBEq, reduceCtorEq, Int.reduceEq, Nat.reduceLeDiff]; rfl) ?_
    try simp only [↓wk, ↓wl, nqa, evV, ↓reduceIte, Nat.reduceEqDiff, Nat.reduceAdd, Nat.reduceSub, Nat.reduceLeDiff, Nat.reduceLT, Nat.reduceBEq, reduceCtorEq, Int.reduceEq]
    refine AW.rseq ?_
    try simp only [↓wk, ↓wl, nqa, evV, ↓reduceIte, Nat.reduceEqDiff, Nat.reduceAdd, Nat.reduceSub, Nat.reduceLeDiff, Nat.reduceLT, Nat.reduceBEq, reduceCtorEq, Int.reduceEq]
    refine evTs_any rfl (by simp only [nc, ↓wk, ↓wl, nqa, evV, ↓reduceIte, Nat.reduceEqDiff, Nat.reduceAdd, Nat.reduceSub, Nat.reduceLeDiff, Nat.reduceLT, Nat.reduceBEq, reduceCtorEq, Int.reduceEq, Nat.reduceLeDiff]; rfl) ?_
    try simp only [↓wk, ↓wl, nqa, evV, ↓reduceIte, Nat.reduceEqDiff, Nat.reduceAdd, Nat.reduceSub, Nat.reduceLeDiff, Nat.reduceLT, Nat.reduceBEq, reduceCtorEq, Int.reduceEq]
    refine AW.rseq ?_
    try simp only [↓wk, ↓wl, nqa, evV, ↓reduceIte, Nat.reduceEqDiff, Nat.reduceAdd, Nat.reduceSub, Nat.reduceLeDiff, Nat.reduceLT, Nat.reduceBEq, reduceCtorEq, Int.reduceEq]
    refine evTs_any rfl (by simp only [nc, ↓wk, ↓wl, nqa, evV, ↓reduceIte, Nat.reduceEqDiff, Nat.reduceAdd, Nat.reduceSub, Nat.reduceLeDiff, Nat.reduceLT, Nat.reduceBEq, reduceCtorEq, Int.reduceEq, Nat.reduceLeDiff]; rfl) ?_
    try simp only [↓wk, ↓wl, nqa, evV, ↓reduceIte, Nat.reduceEqDiff, Nat.reduceAdd, Nat.reduceSub, Nat.reduceLeDiff, Nat.reduceLT, Nat.reduceBEq, reduceCtorEq, Int.reduceEq]
    refine AW.join (f10_J2 xb x4 xe xc xd x5 x0 x6 x7 x8 x9 xa) H ?_ fun hf10_J2 => ?_
    ·clear H
     rintro ⟨xf, xg, xh, xi, xj, xk, xl⟩ st0_ H hst_
     rw [f10_J2c] at hst_
     simp only [f10_J2] at H
     subst hst_
     refine AW.sseq ?_
     refine AW.rseq ?_
     try simp only [↓wk, ↓wl, nqa, evV, ↓reduceIte, Nat.reduceEqDiff, Nat.reduceAdd, Nat.reduceSub, Nat.reduceLeDiff, Nat.reduceLT, Nat.reduceBEq, reduceCtorEq, Int.reduceEq]
     refine AW.ifc H (by rfl) ?_ ?_ <;> clear H <;> intro H
     ·refine AW.rseq ?_
      try simp only [↓wk, ↓wl, nqa, evV, ↓reduceIte, Nat.reduceEqDiff, Nat.reduceAdd, Nat.reduceSub, Nat.reduceLeDiff, Nat.reduceLT, Nat.reduceBEq, reduceCtorEq, Int.reduceEq]
      refine AW.ret ?_
      refine seqQ.ret ?_
      refine blkQ.ret ?_
      refine loopQ.ret H ?_ <;> clear H <;> intro H
      try dsimp only at H
      refine blk0.ret ?_
      refine seqQ.ret ?_
      cases H
      exact hQ _ _ _ _ (.inr rfl) (by simp only [resVs, omap, resV, ↓wk, ↓wl, nqa, evV, ↓reduceIte, Nat.reduceEqDiff, Nat.reduceAdd, Nat.reduceSub, Nat.reduceLeDiff, Nat.reduceLT, Nat.reduceBEq, reduceCtorEq, Int.reduceEq]; rfl) (hand_plain (by rfl)) (by first | exact Or.inl rfl | exact Or.inr rfl)
     ·refine AW.skip ?_
      refine seqQ.norm ?_
      refine AW.rseq ?_
      try simp only [↓wk, ↓wl, nqa, evV, ↓reduceIte, Nat.reduceEqDiff, Nat.reduceAdd, Nat.reduceSub, Nat.reduceLeDiff, Nat.reduceLT, Nat.reduceBEq, reduceCtorEq, Int.reduceEq]
      refine AW.sseq ?_
      refine AW.rseq ?_
      try simp only [↓wk, ↓wl, nqa, evV, ↓reduceIte, Nat.reduceEqDiff, Nat.reduceAdd, Nat.reduceSub, Nat.reduceLeDiff, Nat.reduceLT, Nat.reduceBEq, reduceCtorEq, Int.reduceEq]
      refine evTs_any rfl (by simp only [nc, ↓wk, ↓wl, nqa, evV, ↓reduceIte, Nat.reduceEqDiff, Nat.reduceAdd, Nat.reduceSub, Nat.reduceLeDiff, Nat.reduceLT, Nat.reduceBEq, reduceCtorEq, Int.reduceEq, Nat.reduceLeDiff]; rfl) ?_
      try simp only [↓wk, ↓wl, nqa, evV, ↓reduceIte, Nat.reduceEqDiff, Nat.reduceAdd, Nat.reduceSub, Nat.reduceLeDiff, Nat.reduceLT, Nat.reduceBEq, reduceCtorEq, Int.reduceEq]
      refine evTs_any rfl (by simp only [nc, ↓wk, ↓wl, nqa, evV, ↓reduceIte, Nat.reduceEqDiff, Nat.reduceAdd, Nat.reduceSub, Nat.reduceLeDiff, Nat.reduceLT, Nat.reduceBEq, reduceCtorEq, Int.reduceEq, Nat.reduceLeDiff]; rfl) ?_
      try simp only [↓wk, ↓wl, nqa, evV, ↓reduceIte, Nat.reduceEqDiff, Nat.reduceAdd, Nat.reduceSub, Nat.reduceLeDiff, Nat.reduceLT, Nat.reduceBEq, reduceCtorEq, Int.reduceEq]
      refine evTs_pure hFn H (fun _ h => f51_ok h) (by rfl) (by rfl) (by rfl) (by rfl) (fun _ => rfl) ?_ <;> clear H <;> intro xm H
      try simp only [eL, eReceiverReceiver, ↓wk, ↓wl, nqa, evV, ↓reduceIte, Nat.reduceEqDiff, Nat.reduceAdd, Nat.reduceSub, Nat.reduceLeDiff, Nat.reduceLT, Nat.reduceBEq, reduceCtorEq, Int.reduceEq]
      refine evTs_st (by simp only [↓wk, ↓wl, nqa, evV, ↓reduceIte, Nat.reduceEqDiff, Nat.reduceAdd, Nat.reduceSub, Nat.reduceLeDiff, Nat.reduceLT, Nat.reduceBEq, reduceCtorEq, Int.reduceEq, Nat.reduceLeDiff]; rfl) ?_
      try simp only [↓wk, ↓wl, nqa, evV, ↓reduceIte, Nat.reduceEqDiff, Nat.reduceAdd, Nat.reduceSub, Nat.reduceLeDiff, Nat.reduceLT, Nat.reduceBEq, reduceCtorEq, Int.reduceEq]
      refine AW.rseq ?_
      try simp only [↓wk, ↓wl, nqa, evV, ↓reduceIte, Nat.reduceEqDiff, Nat.reduceAdd, Nat.reduceSub, Nat.reduceLeDiff, Nat.reduceLT, Nat.reduceBEq, reduceCtorEq, Int.reduceEq]
      refine AW.ifc H (by rfl) ?_ ?_ <;> clear H <;> intro H
      ·refine AW.rseq ?_
       try simp only [↓wk, ↓wl, nqa, evV, ↓reduceIte, Nat.reduceEqDiff, Nat.reduceAdd, Nat.reduceSub, Nat.reduceLeDiff, Nat.reduceLT, Nat.reduceBEq, reduceCtorEq, Int.reduceEq]
       refine AW.ret ?_
       refine seqQ.ret ?_
       refine blkQ.ret ?_
       refine loopQ.ret H ?_ <;> clear H <;> intro H
       try dsimp only at H
       refine blk0.ret ?_
       refine seqQ.ret ?_
       cases H
       exact hQ _ _ _ _ (.inr rfl) (by simp only [resVs, omap, resV, ↓wk, ↓wl, nqa, evV, ↓reduceIte, Nat.reduceEqDiff, Nat.reduceAdd, Nat.reduceSub, Nat.reduceLeDiff, Nat.reduceLT, Nat.reduceBEq, reduceCtorEq, Int.reduceEq]; rfl) (hand_plain (by rfl)) (by first | exact Or.inl rfl | exact Or.inr rfl)
      ·refine AW.skip ?_
       refine seqQ.norm ?_
       refine AW.rseq ?_
       try simp only [↓wk, ↓wl, nqa, evV, ↓reduceIte, Nat.reduceEqDiff, Nat.reduceAdd, Nat.reduceSub, Nat.reduceLeDiff, Nat.reduceLT, Nat.reduceBEq, reduceCtorEq, Int.reduceEq]
       refine evTs_any rfl (by simp only [nc, ↓wk, ↓wl, nqa, evV, ↓reduceIte, Nat.reduceEqDiff, Nat.reduceAdd, Nat.reduceSub, Nat.reduceLeDiff, Nat.reduceLT, Nat.reduceBEq, reduceCtorEq, Int.reduceEq, Nat.reduceLeDiff]; rfl) ?_
       try simp only [↓wk, ↓wl, nqa, evV, ↓reduceIte, Nat.reduceEqDiff, Nat.reduceAdd, Nat.reduceSub, Nat.reduceLeDiff, Nat.reduceLT, Nat.reduceBEq, reduceCtorEq, Int.reduceEq]
       refine evTs_st (by simp only [↓wk, ↓wl, nqa, evV, ↓reduceIte, Nat.reduceEqDiff, Nat.reduceAdd, Nat.reduceSub, Nat.reduceLeDiff, Nat.reduceLT, Nat.reduceBEq, reduceCtorEq, Int.reduceEq, Nat.reduceLeDiff]; rfl) ?_
       try simp only [↓wk, ↓wl, nqa, evV, ↓reduceIte, Nat.reduceEqDiff, Nat.reduceAdd, Nat.reduceSub, Nat.reduceLeDiff, Nat.reduceLT, Nat.reduceBEq, reduceCtorEq, Int.reduceEq]
       refine AW.join (f10_J3 x4 xe x5 x0 xh xi xj xk xl xm) H ?_ fun hf10_J3 => ?_
       ·clear H
        rintro ⟨xn, xo⟩ st0_ H hst_
        rw [f10_J3c] at hst_
        simp only [f10_J3] at H
        subst hst_
        refine AW.rseq ?_
        try simp only [↓wk, ↓wl, nqa, evV, ↓reduceIte, Nat.reduceEqDiff, Nat.reduceAdd, Nat.reduceSub, Nat.reduceLeDiff, Nat.reduceLT, Nat.reduceBEq, reduceCtorEq, Int.reduceEq]
        refine AW.sseq ?_
        refine AW.rseq ?_
        try simp only [↓wk, ↓wl, nqa, evV, ↓reduceIte, Nat.reduceEqDiff, Nat.reduceAdd, Nat.reduceSub, Nat.reduceLeDiff, Nat.reduceLT, Nat.reduceBEq, reduceCtorEq, Int.reduceEq]
        refine AW.bend ?_
        refine AW.iter H ((Le.trans (Le.nilRow (i := 16) (e := 2) (by simp only [↓wk, ↓wl, nq, evV, ↓reduceIte, sevalprocAttr])) (Le.tz [0, 1, 2, 3, 4] [3, 5, 6, 7, 8, 16, 17, 36, 37, 38] (by simp only [f10_L4c, rrm, ↓wk, ↓wl, evV, ↓reduceIte, Nat.reduceEqDiff, Nat.reduceAdd, Nat.reduceSub, Nat.reduceLeDiff, Nat.reduceLT, Nat.reduceBEq, reduceCtorEq, Int.reduceEq] <;> rfl)))) ?_ <;> clear H
        rintro ⟨xp, xq⟩ x_ st0_ H hst_
        rw [f10_L4c] at hst_
        simp only [f10_L4] at H
        subst hst_
        refine AW.sseq ?_
        refine AW.rseq ?_
        try simp only [↓wk, ↓wl, nqa, evV, ↓reduceIte, Nat.reduceEqDiff, Nat.reduceAdd, Nat.reduceSub, Nat.reduceLeDiff, Nat.reduceLT, Nat.reduceBEq, reduceCtorEq, Int.reduceEq]
        refine AW.ifc H (by rfl) ?_ ?_ <;> clear H <;> intro H
        ·refine AW.skip ?_
         refine seqQ.norm ?_
         refine AW.bseq ?_
         refine AW.rseq ?_
         try simp only [↓wk, ↓wl, nqa, evV, ↓reduceIte, Nat.reduceEqDiff, Nat.reduceAdd, Nat.reduceSub, Nat.reduceLeDiff, Nat.reduceLT, Nat.reduceBEq, reduceCtorEq, Int.reduceEq]
         refine evTs_aat (enc := AV.str) H (by rfl) (by rfl) ?_ <;> clear H <;> intro xr xs H
         try simp only [↓wk, ↓wl, nqa, evV, ↓reduceIte, Nat.reduceEqDiff, Nat.reduceAdd, Nat.reduceSub, Nat.reduceLeDiff, Nat.reduceLT, Nat.reduceBEq, reduceCtorEq, Int.reduceEq]
         refine evTs_ald (enc := AV.str) xr (by rfl) (by rfl) xs ?_
         try simp only [↓wk, ↓wl, nqa, evV, ↓reduceIte, Nat.reduceEqDiff, Nat.reduceAdd, Nat.reduceSub, Nat.reduceLeDiff, Nat.reduceLT, Nat.reduceBEq, reduceCtorEq, Int.reduceEq]
         refine evTs_ifg H (by rfl) ?_ ?_ <;> clear H <;> intro H
         ·try simp only [↓wk, ↓wl, nqa, evV, ↓reduceIte, Nat.reduceEqDiff, Nat.reduceAdd, Nat.reduceSub, Nat.reduceLeDiff, Nat.reduceLT, Nat.reduceBEq, reduceCtorEq, Int.reduceEq]
          refine evTs_aat (enc := (AV.int .i64)) H (by rfl) (by rfl) ?_ <;> clear H <;> intro xt xu H
          try simp only [↓wk, ↓wl, nqa, evV, ↓reduceIte, Nat.reduceEqDiff, Nat.reduceAdd, Nat.reduceSub, Nat.reduceLeDiff, Nat.reduceLT, Nat.reduceBEq, reduceCtorEq, Int.reduceEq]
          refine evTs_ald (enc := (AV.int .i64)) xt (by rfl) (by rfl) xu ?_
          try simp only [↓wk, ↓wl, nqa, evV, ↓reduceIte, Nat.reduceEqDiff, Nat.reduceAdd, Nat.reduceSub, Nat.reduceLeDiff, Nat.reduceLT, Nat.reduceBEq, reduceCtorEq, Int.reduceEq]
          refine AW.ifc H (by rfl) ?_ ?_ <;> clear H <;> intro H
          ·refine AW.rend ?_
           try simp only [↓wk, ↓wl, nqa, evV, ↓reduceIte, Nat.reduceEqDiff, Nat.reduceAdd, Nat.reduceSub, Nat.reduceLeDiff, Nat.reduceLT, Nat.reduceBEq, reduceCtorEq, Int.reduceEq]
           refine evTs_aat (enc := AV.str) H (by rfl) (by rfl) ?_ <;> clear H <;> intro xv xw H
           try simp only [↓wk, ↓wl, nqa, evV, ↓reduceIte, Nat.reduceEqDiff, Nat.reduceAdd, Nat.reduceSub, Nat.reduceLeDiff, Nat.reduceLT, Nat.reduceBEq, reduceCtorEq, Int.reduceEq]
           refine evTs_ald (enc := AV.str) xv (by rfl) (by rfl) xw ?_
           try simp only [↓wk, ↓wl, nqa, evV, ↓reduceIte, Nat.reduceEqDiff, Nat.reduceAdd, Nat.reduceSub, Nat.reduceLeDiff, Nat.reduceLT, Nat.reduceBEq, reduceCtorEq, Int.reduceEq]
           refine evTs_app (enc := eApiFrame) H (by rfl) (by first | rfl | simp only [List.length_set]) (by rfl) (by rfl) ?_ <;> clear H <;> intro xx H
           try simp only [↓wk, ↓wl, nqa, evV, ↓reduceIte, Nat.reduceEqDiff, Nat.reduceAdd, Nat.reduceSub, Nat.reduceLeDiff, Nat.reduceLT, Nat.reduceBEq, reduceCtorEq, Int.reduceEq]
           refine blkQ.norm ?_
           refine AW.rend ?_
           try simp only [↓wk, ↓wl, nqa, evV, ↓reduceIte, Nat.reduceEqDiff, Nat.reduceAdd, Nat.reduceSub, Nat.reduceLeDiff, Nat.reduceLT, Nat.reduceBEq, reduceCtorEq, Int.reduceEq]
           exact loopQ.next H ((Le.tz [0, 1, 2, 3, 5] [3, 5, 6, 7, 8, 16, 17, 36, 37, 38] (by simp only [f10_L4c, rrm, ↓wk, ↓wl, evV, ↓reduceIte, Nat.reduceEqDiff, Nat.reduceAdd, Nat.reduceSub, Nat.reduceLeDiff, Nat.reduceLT, Nat.reduceBEq, reduceCtorEq, Int.reduceEq] <;> rfl)))
          ·refine AW.skip ?_
           refine blkQ.norm ?_
           refine AW.rend ?_
           try simp only [↓wk, ↓wl, nqa, evV, ↓reduceIte, Nat.reduceEqDiff, Nat.reduceAdd, Nat.reduceSub, Nat.reduceLeDiff, Nat.reduceLT, Nat.reduceBEq, reduceCtorEq, Int.reduceEq]
           exact loopQ.next H ((Le.tz [0, 1, 2, 3, 4] [3, 5, 6, 7, 8, 16, 17, 36, 37, 38] (by simp only [f10_L4c, rrm, ↓wk, ↓wl, evV, ↓reduceIte, Nat.reduceEqDiff, Nat.reduceAdd, Nat.reduceSub, Nat.reduceLeDiff, Nat.reduceLT, Nat.reduceBEq, reduceCtorEq, Int.reduceEq] <;> rfl)))
         ·try simp only [↓wk, ↓wl, nqa, evV, ↓reduceIte, Nat.reduceEqDiff, Nat.reduceAdd, Nat.reduceSub, Nat.reduceLeDiff, Nat.reduceLT, Nat.reduceBEq, reduceCtorEq, Int.reduceEq]
          refine AW.iff (by rfl) ?_
          refine AW.skip ?_
          refine blkQ.norm ?_
          refine AW.rend ?_
          try simp only [↓wk, ↓wl, nqa, evV, ↓reduceIte, Nat.reduceEqDiff, Nat.reduceAdd, Nat.reduceSub, Nat.reduceLeDiff, Nat.reduceLT, Nat.reduceBEq, reduceCtorEq, Int.reduceEq]
          exact loopQ.next H ((Le.tz [0, 1, 2, 3, 4] [3, 5, 6, 7, 8, 16, 17, 36, 37, 38] (by simp only [f10_L4c, rrm, ↓wk, ↓wl, evV, ↓reduceIte, Nat.reduceEqDiff, Nat.reduceAdd, Nat.reduceSub, Nat.reduceLeDiff, Nat.reduceLT, Nat.reduceBEq, reduceCtorEq, Int.reduceEq] <;> rfl)))
        ·refine AW.exit ?_
         refine seqQ.exit ?_
         refine loopQ.exit H ?_ <;> clear H <;> intro H
         try dsimp only at H
         refine blk0.here ?_
         refine seqQ.norm ?_
         refine AW.rseq ?_
         try simp only [↓wk, ↓wl, nqa, evV, ↓reduceIte, Nat.reduceEqDiff, Nat.reduceAdd, Nat.reduceSub, Nat.reduceLeDiff, Nat.reduceLT, Nat.reduceBEq, reduceCtorEq, Int.reduceEq]
         refine evTs_any rfl (by simp only [nc, ↓wk, ↓wl, nqa, evV, ↓reduceIte, Nat.reduceEqDiff, Nat.reduceAdd, Nat.reduceSub, Nat.reduceLeDiff, Nat.reduceLT, Nat.reduceBEq, reduceCtorEq, Int.reduceEq, Nat.reduceLeDiff]; rfl) ?_
         try simp only [↓wk, ↓wl, nqa, evV, ↓reduceIte, Nat.reduceEqDiff, Nat.reduceAdd, Nat.reduceSub, Nat.reduceLeDiff, Nat.reduceLT, Nat.reduceBEq, reduceCtorEq, Int.reduceEq]
         refine evTs_pure hFn H (fun _ h => f30_im h) (by rfl) (by rfl) (by rfl) (by rfl) (fun _ => rfl) ?_ <;> clear H <;> intro xy H
         try simp only [eL, ↓wk, ↓wl, nqa, evV, ↓reduceIte, Nat.reduceEqDiff, Nat.reduceAdd, Nat.reduceSub, Nat.reduceLeDiff, Nat.reduceLT, Nat.reduceBEq, reduceCtorEq, Int.reduceEq]
         refine AW.rseq ?_
         try simp only [↓wk, ↓wl, nqa, evV, ↓reduceIte, Nat.reduceEqDiff, Nat.reduceAdd, Nat.reduceSub, Nat.reduceLeDiff, Nat.reduceLT, Nat.reduceBEq, reduceCtorEq, Int.reduceEq]
         refine evTs_ifg H (by rfl) ?_ ?_ <;> clear H <;> intro H
         ·try simp only [↓wk, ↓wl, nqa, evV, ↓reduceIte, Nat.reduceEqDiff, Nat.reduceAdd, Nat.reduceSub, Nat.reduceLeDiff, Nat.reduceLT, Nat.reduceBEq, reduceCtorEq, Int.reduceEq]
          refine AW.ift (by rfl) ?_
          refine AW.rseq ?_
          try simp only [↓wk, ↓wl, nqa, evV, ↓reduceIte, Nat.reduceEqDiff, Nat.reduceAdd, Nat.reduceSub, Nat.reduceLeDiff, Nat.reduceLT, Nat.reduceBEq, reduceCtorEq, Int.reduceEq]
          refine AW.ret ?_
          refine blkQ.ret ?_
          refine loopQ.ret H ?_ <;> clear H <;> intro H
          try dsimp only at H
          refine blk0.ret ?_
          refine seqQ.ret ?_
          cases H
          exact hQ _ _ _ _ (.inr rfl) (by simp only [resVs, omap, resV, ↓wk, ↓wl, nqa, evV, ↓reduceIte, Nat.reduceEqDiff, Nat.reduceAdd, Nat.reduceSub, Nat.reduceLeDiff, Nat.reduceLT, Nat.reduceBEq, reduceCtorEq, Int.reduceEq]; rfl) (hand_plain (by rfl)) (by first | exact Or.inl rfl | exact Or.inr rfl)
         ·try simp only [↓wk, ↓wl, nqa, evV, ↓reduceIte, Nat.reduceEqDiff, Nat.reduceAdd, Nat.reduceSub, Nat.reduceLeDiff, Nat.reduceLT, Nat.reduceBEq, reduceCtorEq, Int.reduceEq]
          refine evTs_flat hFn H (fun _ h => f52_ok h) (by rfl) (by rfl) (by simp only [deep_eq, imm_simps, imm_rowE, imm_ptrE, imm_enc, omap_simps, take_map_len, take_map_set, take_map_set2, le_refl_true, Nat.zero_add, and_true, true_and, List.drop_zero, Option.map_some, ↓wk, ↓wl, nqa, evV, ↓reduceIte, Nat.reduceEqDiff, Nat.reduceAdd, Nat.reduceSub, Nat.reduceLeDiff, Nat.reduceLT, Nat.reduceBEq, reduceCtorEq, Int.reduceEq]; rfl) (by rfl) (fun _ => rfl) (fun _ => rfl) ?_ <;> clear H <;> intro xz H
          try simp only [eL, ↓wk, ↓wl, nqa, evV, ↓reduceIte, Nat.reduceEqDiff, Nat.reduceAdd, Nat.reduceSub, Nat.reduceLeDiff, Nat.reduceLT, Nat.reduceBEq, reduceCtorEq, Int.reduceEq]
          refine AW.ifc H (by rfl) ?_ ?_ <;> clear H <;> intro H
          ·refine AW.rseq ?_
           try simp only [↓wk, ↓wl, nqa, evV, ↓reduceIte, Nat.reduceEqDiff, Nat.reduceAdd, Nat.reduceSub, Nat.reduceLeDiff, Nat.reduceLT, Nat.reduceBEq, reduceCtorEq, Int.reduceEq]
           refine AW.ret ?_
           refine blkQ.ret ?_
           refine loopQ.ret H ?_ <;> clear H <;> intro H
           try dsimp only at H
           refine blk0.ret ?_
           refine seqQ.ret ?_
           cases H
           exact hQ _ _ _ _ (.inr rfl) (by simp only [resVs, omap, resV, ↓wk, ↓wl, nqa, evV, ↓reduceIte, Nat.reduceEqDiff, Nat.reduceAdd, Nat.reduceSub, Nat.reduceLeDiff, Nat.reduceLT, Nat.reduceBEq, reduceCtorEq, Int.reduceEq]; rfl) (hand_plain (by rfl)) (by first | exact Or.inl rfl | exact Or.inr rfl)
          ·refine AW.skip ?_
           refine blkQ.norm ?_
           refine AW.rend ?_
           try simp only [↓wk, ↓wl, nqa, evV, ↓reduceIte, Nat.reduceEqDiff, Nat.reduceAdd, Nat.reduceSub, Nat.reduceLeDiff, Nat.reduceLT, Nat.reduceBEq, reduceCtorEq, Int.reduceEq]
           exact loopQ.next H ((Le.tz [0, 1, 2, 3] [3, 5, 6, 7, 8, 36, 37, 38] (by simp only [f10_L1c, rrm, ↓wk, ↓wl, evV, ↓reduceIte, Nat.reduceEqDiff, Nat.reduceAdd, Nat.reduceSub, Nat.reduceLeDiff, Nat.reduceLT, Nat.reduceBEq, reduceCtorEq, Int.reduceEq] <;> rfl)))
       ·refine AW.rseq ?_
        try simp only [↓wk, ↓wl, nqa, evV, ↓reduceIte, Nat.reduceEqDiff, Nat.reduceAdd, Nat.reduceSub, Nat.reduceLeDiff, Nat.reduceLT, Nat.reduceBEq, reduceCtorEq, Int.reduceEq]
        refine evTs_ifg H (by rfl) ?_ ?_ <;> clear H <;> intro H
        ·try simp only [↓wk, ↓wl, nqa, evV, ↓reduceIte, Nat.reduceEqDiff, Nat.reduceAdd, Nat.reduceSub, Nat.reduceLeDiff, Nat.reduceLT, Nat.reduceBEq, reduceCtorEq, Int.reduceEq]
         refine evTs_any rfl (by simp only [nc, ↓wk, ↓wl, nqa, evV, ↓reduceIte, Nat.reduceEqDiff, Nat.reduceAdd, Nat.reduceSub, Nat.reduceLeDiff, Nat.reduceLT, Nat.reduceBEq, reduceCtorEq, Int.reduceEq, Nat.reduceLeDiff]; rfl) ?_
         try simp only [↓wk, ↓wl, nqa, evV, ↓reduceIte, Nat.reduceEqDiff, Nat.reduceAdd, Nat.reduceSub, Nat.reduceLeDiff, Nat.reduceLT, Nat.reduceBEq, reduceCtorEq, Int.reduceEq]
         refine AW.ifc H (by rfl) ?_ ?_ <;> clear H <;> intro H
         ·refine AW.rend ?_
          try simp only [↓wk, ↓wl, nqa, evV, ↓reduceIte, Nat.reduceEqDiff, Nat.reduceAdd, Nat.reduceSub, Nat.reduceLeDiff, Nat.reduceLT, Nat.reduceBEq, reduceCtorEq, Int.reduceEq]
          refine evTs_at (enc := eNetworkPacket) H (by rfl) (by rfl) ?_ <;> clear H <;> intro x10 H
          try simp only [eNetworkPacket, eL, ↓wk, ↓wl, nqa, evV, ↓reduceIte, Nat.reduceEqDiff, Nat.reduceAdd, Nat.reduceSub, Nat.reduceLeDiff, Nat.reduceLT, Nat.reduceBEq, reduceCtorEq, Int.reduceEq]
          refine evTs_any rfl (by simp only [nc, ↓wk, ↓wl, nqa, evV, ↓reduceIte, Nat.reduceEqDiff, Nat.reduceAdd, Nat.reduceSub, Nat.reduceLeDiff, Nat.reduceLT, Nat.reduceBEq, reduceCtorEq, Int.reduceEq, Nat.reduceLeDiff]; rfl) ?_
          try simp only [↓wk, ↓wl, nqa, evV, ↓reduceIte, Nat.reduceEqDiff, Nat.reduceAdd, Nat.reduceSub, Nat.reduceLeDiff, Nat.reduceLT, Nat.reduceBEq, reduceCtorEq, Int.reduceEq]
          refine evTs_aat (enc := AV.str) H (by rfl) (by rfl) ?_ <;> clear H <;> intro x11 x12 H
          try simp only [↓wk, ↓wl, nqa, evV, ↓reduceIte, Nat.reduceEqDiff, Nat.reduceAdd, Nat.reduceSub, Nat.reduceLeDiff, Nat.reduceLT, Nat.reduceBEq, reduceCtorEq, Int.reduceEq]
          refine evTs_ast (enc := AV.str) x10.fSlots (by rfl) (by rfl) x12 (by rfl) ?_
          try simp only [↓wk, ↓wl, nqa, evV, ↓reduceIte, Nat.reduceEqDiff, Nat.reduceAdd, Nat.reduceSub, Nat.reduceLeDiff, Nat.reduceLT, Nat.reduceBEq, reduceCtorEq, Int.reduceEq]
          refine evTs_aat (enc := (AV.int .i64)) H (by rfl) (by rfl) ?_ <;> clear H <;> intro x13 x14 H
          try simp only [↓wk, ↓wl, nqa, evV, ↓reduceIte, Nat.reduceEqDiff, Nat.reduceAdd, Nat.reduceSub, Nat.reduceLeDiff, Nat.reduceLT, Nat.reduceBEq, reduceCtorEq, Int.reduceEq]
          refine evTs_ast (enc := (AV.int .i64)) (IntKind.i64.wrap (x4 + (IntKind.i64.wrap (10 * (IntKind.i64.wrap xe.fAfter))))) (by rfl) (by rfl) x14 (by rfl) ?_
          try simp only [↓wk, ↓wl, nqa, evV, ↓reduceIte, Nat.reduceEqDiff, Nat.reduceAdd, Nat.reduceSub, Nat.reduceLeDiff, Nat.reduceLT, Nat.reduceBEq, reduceCtorEq, Int.reduceEq]
          refine seqQ.norm ?_
          exact hf10_J3 _ _ H ((Le.tz [0, 1, 2, 3] [3, 5, 6, 7, 8, 36, 37, 38] (by simp only [f10_J3c, rrm, ↓wk, ↓wl, evV, ↓reduceIte, Nat.reduceEqDiff, Nat.reduceAdd, Nat.reduceSub, Nat.reduceLeDiff, Nat.reduceLT, Nat.reduceBEq, reduceCtorEq, Int.reduceEq] <;> rfl)))
         ·refine AW.skip ?_
          refine seqQ.norm ?_
          exact hf10_J3 _ _ H ((Le.tz [0, 1, 2, 3] [3, 5, 6, 7, 8, 36, 37, 38] (by simp only [f10_J3c, rrm, ↓wk, ↓wl, evV, ↓reduceIte, Nat.reduceEqDiff, Nat.reduceAdd, Nat.reduceSub, Nat.reduceLeDiff, Nat.reduceLT, Nat.reduceBEq, reduceCtorEq, Int.reduceEq] <;> rfl)))
        ·try simp only [↓wk, ↓wl, nqa, evV, ↓reduceIte, Nat.reduceEqDiff, Nat.reduceAdd, Nat.reduceSub, Nat.reduceLeDiff, Nat.reduceLT, Nat.reduceBEq, reduceCtorEq, Int.reduceEq]
         refine AW.iff (by rfl) ?_
         refine AW.skip ?_
         refine seqQ.norm ?_
         exact hf10_J3 _ _ H ((Le.tz [0, 1, 2, 3] [3, 5, 6, 7, 8, 36, 37, 38] (by simp only [f10_J3c, rrm, ↓wk, ↓wl, evV, ↓reduceIte, Nat.reduceEqDiff, Nat.reduceAdd, Nat.reduceSub, Nat.reduceLeDiff, Nat.reduceLT, Nat.reduceBEq, reduceCtorEq, Int.reduceEq] <;> rfl)))
    ·refine AW.regt ?_
     refine evR.fork ?_
     try simp only [↓wk, ↓wl, nqa, evV, ↓reduceIte, Nat.reduceEqDiff, Nat.reduceAdd, Nat.reduceSub, Nat.reduceLeDiff, Nat.reduceLT, Nat.reduceBEq, reduceCtorEq, Int.reduceEq]
     refine evTs_any rfl (by simp only [nc, ↓wk, ↓wl, nqa, evV, ↓reduceIte, Nat.reduceEqDiff, Nat.reduceAdd, Nat.reduceSub, Nat.reduceLeDiff, Nat.reduceLT, Nat.reduceBEq, reduceCtorEq, Int.reduceEq, Nat.reduceLeDiff]; rfl) ?_
     try simp only [↓wk, ↓wl, nqa, evV, ↓reduceIte, Nat.reduceEqDiff, Nat.reduceAdd, Nat.reduceSub, Nat.reduceLeDiff, Nat.reduceLT, Nat.reduceBEq, reduceCtorEq, Int.reduceEq]
     refine evTs_any rfl (by simp only [nc, ↓wk, ↓wl, nqa, evV, ↓reduceIte, Nat.reduceEqDiff, Nat.reduceAdd, Nat.reduceSub, Nat.reduceLeDiff, Nat.reduceLT, Nat.reduceBEq, reduceCtorEq, Int.reduceEq, Nat.reduceLeDiff]; rfl) ?_
     try simp only [↓wk, ↓wl, nqa, evV, ↓reduceIte, Nat.reduceEqDiff, Nat.reduceAdd, Nat.reduceSub, Nat.reduceLeDiff, Nat.reduceLT, Nat.reduceBEq, reduceCtorEq, Int.reduceEq]
     refine evR.both ?_ ?_
     ·refine evR.fork ?_
      try simp only [↓wk, ↓wl, nqa, evV, ↓reduceIte, Nat.reduceEqDiff, Nat.reduceAdd, Nat.reduceSub, Nat.reduceLeDiff, Nat.reduceLT, Nat.reduceBEq, reduceCtorEq, Int.reduceEq]
      refine evTs_pure hFnq H (fun _ h => f50_ok h) (by rfl) (by rfl) (by rfl) (by rfl) (fun _ => rfl) ?_ <;> clear H <;> intro x15 H
      try simp only [eL, eApiFrame, ↓wk, ↓wl, nqa, evV, ↓reduceIte, Nat.reduceEqDiff, Nat.reduceAdd, Nat.reduceSub, Nat.reduceLeDiff, Nat.reduceLT, Nat.reduceBEq, reduceCtorEq, Int.reduceEq]
      refine evR.both ?_ ?_
      ·refine evR.run ?_
       try simp only [↓wk, ↓wl, nqa, evV, ↓reduceIte, Nat.reduceEqDiff, Nat.reduceAdd, Nat.reduceSub, Nat.reduceLeDiff, Nat.reduceLT, Nat.reduceBEq, reduceCtorEq, Int.reduceEq]
       refine evTs_pure hFnq H (fun _ h => f43_ok h) (by rfl) (by rfl) (by rfl) (by rfl) (fun _ => rfl) ?_ <;> clear H <;> intro x16 H
       try simp only [eL, eNetworkSender, ↓wk, ↓wl, nqa, evV, ↓reduceIte, Nat.reduceEqDiff, Nat.reduceAdd, Nat.reduceSub, Nat.reduceLeDiff, Nat.reduceLT, Nat.reduceBEq, reduceCtorEq, Int.reduceEq]
       refine evTs_any rfl (by simp only [nc, ↓wk, ↓wl, nqa, evV, ↓reduceIte, Nat.reduceEqDiff, Nat.reduceAdd, Nat.reduceSub, Nat.reduceLeDiff, Nat.reduceLT, Nat.reduceBEq, reduceCtorEq, Int.reduceEq, Nat.reduceLeDiff]; rfl) ?_
       try simp only [↓wk, ↓wl, nqa, evV, ↓reduceIte, Nat.reduceEqDiff, Nat.reduceAdd, Nat.reduceSub, Nat.reduceLeDiff, Nat.reduceLT, Nat.reduceBEq, reduceCtorEq, Int.reduceEq]
       refine evTs_st (by simp only [↓wk, ↓wl, nqa, evV, ↓reduceIte, Nat.reduceEqDiff, Nat.reduceAdd, Nat.reduceSub, Nat.reduceLeDiff, Nat.reduceLT, Nat.reduceBEq, reduceCtorEq, Int.reduceEq, Nat.reduceLeDiff]; rfl) ?_
       try simp only [↓wk, ↓wl, nqa, evV, ↓reduceIte, Nat.reduceEqDiff, Nat.reduceAdd, Nat.reduceSub, Nat.reduceLeDiff, Nat.reduceLT, Nat.reduceBEq, reduceCtorEq, Int.reduceEq]
       refine seqQ.norm ?_
       exact hf10_J2 _ _ H ((Le.tz [0, 1, 2, 3, 4, 5] [3, 5, 6, 7, 8, 10, 11, 12, 13, 14, 36, 37, 38] (by simp only [f10_J2c, rrm, ↓wk, ↓wl, evV, ↓reduceIte, Nat.reduceEqDiff, Nat.reduceAdd, Nat.reduceSub, Nat.reduceLeDiff, Nat.reduceLT, Nat.reduceBEq, reduceCtorEq, Int.reduceEq] <;> rfl)))
      ·refine evR.run ?_
       try simp only [↓wk, ↓wl, nqa, evV, ↓reduceIte, Nat.reduceEqDiff, Nat.reduceAdd, Nat.reduceSub, Nat.reduceLeDiff, Nat.reduceLT, Nat.reduceBEq, reduceCtorEq, Int.reduceEq]
       refine evTs_any rfl (by simp only [nc, ↓wk, ↓wl, nqa, evV, ↓reduceIte, Nat.reduceEqDiff, Nat.reduceAdd, Nat.reduceSub, Nat.reduceLeDiff, Nat.reduceLT, Nat.reduceBEq, reduceCtorEq, Int.reduceEq, Nat.reduceLeDiff]; rfl) ?_
       try simp only [↓wk, ↓wl, nqa, evV, ↓reduceIte, Nat.reduceEqDiff, Nat.reduceAdd, Nat.reduceSub, Nat.reduceLeDiff, Nat.reduceLT, Nat.reduceBEq, reduceCtorEq, Int.reduceEq]
       refine evTs_pure hFnq H (fun _ h => f43_ok h) (by rfl) (by rfl) (by rfl) (by rfl) (fun _ => rfl) ?_ <;> clear H <;> intro x16 H
       try simp only [eL, eNetworkSender, ↓wk, ↓wl, nqa, evV, ↓reduceIte, Nat.reduceEqDiff, Nat.reduceAdd, Nat.reduceSub, Nat.reduceLeDiff, Nat.reduceLT, Nat.reduceBEq, reduceCtorEq, Int.reduceEq]
       refine evTs_st (by simp only [↓wk, ↓wl, nqa, evV, ↓reduceIte, Nat.reduceEqDiff, Nat.reduceAdd, Nat.reduceSub, Nat.reduceLeDiff, Nat.reduceLT, Nat.reduceBEq, reduceCtorEq, Int.reduceEq, Nat.reduceLeDiff]; rfl) ?_
       try simp only [↓wk, ↓wl, nqa, evV, ↓reduceIte, Nat.reduceEqDiff, Nat.reduceAdd, Nat.reduceSub, Nat.reduceLeDiff, Nat.reduceLT, Nat.reduceBEq, reduceCtorEq, Int.reduceEq]
       refine seqQ.norm ?_
       exact hf10_J2 _ _ H ((Le.tz [0, 1, 2, 3, 4, 5] [3, 5, 6, 7, 8, 10, 11, 12, 13, 14, 36, 37, 38] (by simp only [f10_J2c, rrm, ↓wk, ↓wl, evV, ↓reduceIte, Nat.reduceEqDiff, Nat.reduceAdd, Nat.reduceSub, Nat.reduceLeDiff, Nat.reduceLT, Nat.reduceBEq, reduceCtorEq, Int.reduceEq] <;> rfl)))
     ·refine evR.run ?_
      try simp only [↓wk, ↓wl, nqa, evV, ↓reduceIte, Nat.reduceEqDiff, Nat.reduceAdd, Nat.reduceSub, Nat.reduceLeDiff, Nat.reduceLT, Nat.reduceBEq, reduceCtorEq, Int.reduceEq]
      refine evTs_any rfl (by simp only [nc, ↓wk, ↓wl, nqa, evV, ↓reduceIte, Nat.reduceEqDiff, Nat.reduceAdd, Nat.reduceSub, Nat.reduceLeDiff, Nat.reduceLT, Nat.reduceBEq, reduceCtorEq, Int.reduceEq, Nat.reduceLeDiff]; rfl) ?_
      try simp only [↓wk, ↓wl, nqa, evV, ↓reduceIte, Nat.reduceEqDiff, Nat.reduceAdd, Nat.reduceSub, Nat.reduceLeDiff, Nat.reduceLT, Nat.reduceBEq, reduceCtorEq, Int.reduceEq]
      refine evTs_pure hFnq H (fun _ h => f50_ok h) (by rfl) (by rfl) (by rfl) (by rfl) (fun _ => rfl) ?_ <;> clear H <;> intro x15 H
      try simp only [eL, eApiFrame, ↓wk, ↓wl, nqa, evV, ↓reduceIte, Nat.reduceEqDiff, Nat.reduceAdd, Nat.reduceSub, Nat.reduceLeDiff, Nat.reduceLT, Nat.reduceBEq, reduceCtorEq, Int.reduceEq]
      refine evTs_pure hFnq H (fun _ h => f43_ok h) (by rfl) (by rfl) (by rfl) (by rfl) (fun _ => rfl) ?_ <;> clear H <;> intro x16 H
      try simp only [eL, eNetworkSender, ↓wk, ↓wl, nqa, evV, ↓reduceIte, Nat.reduceEqDiff, Nat.reduceAdd, Nat.reduceSub, Nat.reduceLeDiff, Nat.reduceLT, Nat.reduceBEq, reduceCtorEq, Int.reduceEq]
      refine evTs_st (by simp only [↓wk, ↓wl, nqa, evV, ↓reduceIte, Nat.reduceEqDiff, Nat.reduceAdd, Nat.reduceSub, Nat.reduceLeDiff, Nat.reduceLT, Nat.reduceBEq, reduceCtorEq, Int.reduceEq, Nat.reduceLeDiff]; rfl) ?_
      try simp only [↓wk, ↓wl, nqa, evV, ↓reduceIte, Nat.reduceEqDiff, Nat.reduceAdd, Nat.reduceSub, Nat.reduceLeDiff, Nat.reduceLT, Nat.reduceBEq, reduceCtorEq, Int.reduceEq]
      refine seqQ.norm ?_
      exact hf10_J2 _ _ H ((Le.tz [0, 1, 2, 3, 4, 5] [3, 5, 6, 7, 8, 10, 11, 12, 13, 14, 36, 37, 38] (by simp only [f10_J2c, rrm, ↓wk, ↓wl, evV, ↓reduceIte, Nat.reduceEqDiff, Nat.reduceAdd, Nat.reduceSub, Nat.reduceLeDiff, Nat.reduceLT, Nat.reduceBEq, reduceCtorEq, Int.reduceEq] <;> rfl)))
   ·refine AW.exit ?_
    refine seqQ.exit ?_
    refine loopQ.exit H ?_ <;> clear H <;> intro H
    try dsimp only at H
    refine blk0.here ?_
    refine seqQ.norm ?_
    refine AW.rseq ?_
    try simp only [↓wk, ↓wl, nqa, evV, ↓reduceIte, Nat.reduceEqDiff, Nat.reduceAdd, Nat.reduceSub, Nat.reduceLeDiff, Nat.reduceLT, Nat.reduceBEq, reduceCtorEq, Int.reduceEq]
    refine evTs_pure hFn H (fun _ h => f49_ok h) (by rfl) (by rfl) (by rfl) (by rfl) (fun _ => rfl) ?_ <;> clear H <;> intro x17 H
    try simp only [eL, ↓wk, ↓wl, nqa, evV, ↓reduceIte, Nat.reduceEqDiff, Nat.reduceAdd, Nat.reduceSub, Nat.reduceLeDiff, Nat.reduceLT, Nat.reduceBEq, reduceCtorEq, Int.reduceEq]
    refine AW.ret ?_
    cases H
    exact hQ _ _ _ _ (.inr rfl) (by simp only [resVs, omap, resV, ↓wk, ↓wl, nqa, evV, ↓reduceIte, Nat.reduceEqDiff, Nat.reduceAdd, Nat.reduceSub, Nat.reduceLeDiff, Nat.reduceLT, Nat.reduceBEq, reduceCtorEq, Int.reduceEq]; rfl) (hand_plain (by rfl)) (by first | exact Or.inl rfl | exact Or.inr rfl)
end Go.Proofs.Ytgfohogbechkkaa
