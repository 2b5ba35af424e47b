import Derived.Test.YtkbjimfganeooaaShelf
import Derived.Test.YtkbjimfganeooaaM7
import Derived.Test.YtkbjimfganeooaaM6
import Derived.Test.YtkbjimfganeooaaProg
import Derived.KernelRfl
namespace Go.Proofs.Ytkbjimfganeooaa
open Go Go.Ab

set_option maxHeartbeats 1000000
set_option maxRecDepth 4000
set_option linter.unusedSimpArgs false
set_option linter.unusedVariables false
structure ApiToken where
  fKind : Int
  fText : (List UInt8)
  fAt : Int
def eApiToken (x : ApiToken) : AV := .agg [.int .i64 x.fKind, .str x.fText, .int .i64 x.fAt]
instance : IsFlat eApiToken := ⟨fun _ => rfl⟩
instance : IsEnc 3 eApiToken := ⟨fun _ => rfl, fun _ => rfl, fun _ => rfl⟩
structure LexerReader where
  fS : (List UInt8)
  fAt : Int
def eLexerReader (x : LexerReader) : AV := .agg [.str x.fS, .int .i64 x.fAt]
instance : IsFlat eLexerReader := ⟨fun _ => rfl⟩
instance : IsEnc 2 eLexerReader := ⟨fun _ => rfl, fun _ => rfl, fun _ => rfl⟩
structure RecordEntry where
  fKind : Int
  fData : (List UInt8)
def eRecordEntry (x : RecordEntry) : AV := .agg [.int .i64 x.fKind, .str x.fData]
instance : IsFlat eRecordEntry := ⟨fun _ => rfl⟩
instance : IsEnc 2 eRecordEntry := ⟨fun _ => rfl, fun _ => rfl, fun _ => rfl⟩
structure RecordReader where
  fS : (List UInt8)
  fAt : Int
def eRecordReader (x : RecordReader) : AV := .agg [.str x.fS, .int .i64 x.fAt]
instance : IsFlat eRecordReader := ⟨fun _ => rfl⟩
instance : IsEnc 2 eRecordReader := ⟨fun _ => rfl, fun _ => rfl, fun _ => rfl⟩
def c36_0 : C := .seq (.reg [iI 3 (.mv (.t 0)), iI 4 (.bin .eql (.t 3) (.c (.int .u8 32))), iI 2 (.mv (.t 4))]) .ret
def ir36 : C := .seq (.reg [iI 2 (.mv (.c (.bool false)))]) c36_0
theorem fd36 : fd? Try.prog 36 = some (5, [.slot 2], ir36) := by kernel_rfl
noncomputable def f36 (c_17 : Int) : Option (Bool) :=
  (some (decide (c_17 = 32)))
theorem f36_ok {c_17 : Int} {r_ : Bool} (H : f36 c_17 = some r_) : Pure Try.prog 36 [.int .u8 c_17] (· = .bool r_) := by
 refine Pure.walk3 fd36 none (Nat.le_of_ble_eq_true rfl) (by rfl) fun Q hQ => ?_
 simp only [f36] at H
 refine AW.rseq ?_
 try simp only [↓wk, ↓wl, nq, evV, ↓reduceIte, sevalprocAttr]
 refine AW.rseq ?_
 try simp only [↓wk, ↓wl, nq, evV, ↓reduceIte, sevalprocAttr]
 refine AW.ret ?_
 cases H
 exact hQ.fin
def c38_0 : C := .seq (.reg [iI 7 (.mv (.t 0)), iI 8 (.nilchk (.t 7)), iI 9 (.faddr 1 (.t 8)), iI 10 (.load 0 (.t 9)), iI 11 (.mv (.t 1)), iI 12 (.bin .add (.t 10) (.t 11)), iI 13 (.mv (.t 0)), iI 14 (.nilchk (.t 13)), iI 15 (.faddr 0 (.t 14)), iI 16 (.load 0 (.t 15)), iI 17 (.len 1 (.t 16)), iI 18 (.bin .lss (.t 12) (.t 17)), iI 19 (.mv (.t 18)), iG (some 20) 19 true (.mv (.t 2)), iG (some 21) 19 true (.mv (.t 0)), iG (some 22) 19 true (.nilchk (.t 21)), iG (some 23) 19 true (.faddr 0 (.t 22)), iG (some 24) 19 true (.load 0 (.t 23)), iG (some 25) 19 true (.mv (.t 0)), iG (some 26) 19 true (.nilchk (.t 25)), iG (some 27) 19 true (.faddr 1 (.t 26)), iG (some 28) 19 true (.load 0 (.t 27)), iG (some 29) 19 true (.mv (.t 1)), iG (some 30) 19 true (.bin .add (.t 28) (.t 29)), iG (some 31) 19 true (.sidx (.t 24) (.t 30)), iG (some 32) 19 true (.call (.t 20) [(.t 31)]), iI 33 (.pick (.t 19) (.t 32) (.c (.bool false))), iI 6 (.mv (.t 33))]) .ret
def ir38 : C := .seq (.reg [iI 6 (.mv (.c (.bool false)))]) c38_0
theorem fd38 : fd? Try.prog 38 = some (34, [.slot 6], ir38) := by kernel_rfl
noncomputable def f38_36p (r_13 : (List UInt8)) (r_14 : Int) (ahead_15 : Int) : Option (Bool) :=
  (if (decide ((IntKind.i64.wrap (r_14 + ahead_15)) < ((r_13.length : Nat) : Int))) = true then (at? r_13 (IntKind.i64.wrap (r_14 + ahead_15))).bind fun b_16 => (f36 (b_16.toNat : Int)).bind fun r_18 => (some r_18) else (some false))
theorem f38_36p_ok {r_13 : (List UInt8)} {r_14 : Int} {ahead_15 : Int} {r_ : Bool} (H : f38_36p r_13 r_14 ahead_15 = some r_) : Pure Try.prog 38 [.pro [.str r_13, .int .i64 r_14], .int .i64 ahead_15, .fn 36 []] (· = .bool r_) := by
 refine Pure.walk3 fd38 none (Nat.le_of_ble_eq_true rfl) (by rfl) fun Q hQ => ?_
 simp only [f38_36p] at H
 refine AW.rseq ?_
 try simp only [↓wk, ↓wl, nq, evV, ↓reduceIte, sevalprocAttr]
 refine AW.rseq ?_
 try simp only [↓wk, ↓wl, nq, evV, ↓reduceIte, sevalprocAttr]
 refine evTs_ifg H (by rfl) ?_ ?_ <;> clear H <;> intro H
 ·try simp only [↓wk, ↓wl, nq, evV, ↓reduceIte, sevalprocAttr]
  refine evTs_sat H (by rfl) (by rfl) ?_ <;> clear H <;> intro b_16 H
  try simp only [↓wk, ↓wl, nq, evV, ↓reduceIte, sevalprocAttr]
  refine evTs_pure hFn H (fun _ h => f36_ok h) (by rfl) (by rfl) (by rfl) (by rfl) (fun _ => rfl) ?_ <;> clear H <;> intro r_18 H
  try simp only [eL, ↓wk, ↓wl, nq, evV, ↓reduceIte, sevalprocAttr]
  refine AW.ret ?_
  cases H
  exact hQ.fin
 ·try simp only [↓wk, ↓wl, nq, evV, ↓reduceIte, sevalprocAttr]
  refine AW.ret ?_
  cases H
  exact hQ.fin
def c37_0 : C := .seq (.reg [iI 6 (.mv (.t 0)), iI 7 (.load 0 (.t 1)), iI 8 (.nilchk (.t 7)), iI 9 (.faddr 0 (.t 8)), iI 10 (.load 0 (.t 9)), iI 11 (.load 0 (.t 2)), iI 12 (.load 0 (.t 1)), iI 13 (.nilchk (.t 12)), iI 14 (.faddr 1 (.t 13)), iI 15 (.load 0 (.t 14)), iI 16 (.sslice (.t 10) (some (.t 11)) (some (.t 15))), iI 17 (.load 0 (.t 2)), iI 18 (.build [(1, (.int .i64 0)), (1, (.str [])), (1, (.int .i64 0))] [(0, 0, (.t 6)), (1, 0, (.t 16)), (2, 0, (.t 17))]), iN (.store 3 (.t 4) (.t 18)), iI 5 (.mv (.c (.bool true)))]) .ret
def ir37 : C := .seq (.reg [iI 4 (.alloc [(1, (.int .i64 0)), (1, (.str [])), (1, (.int .i64 0))]), iI 5 (.mv (.c (.bool false)))]) c37_0
theorem fd37 : fd? Try.prog 37 = some (19, [.cell 4 3, .slot 5], ir37) := by kernel_rfl
noncomputable def f37p (kind_26 : Int) (c_27 : (List UInt8)) (c_28 : Int) (c_29 : Int) : Option (ApiToken × Bool) :=
  (slc? c_27 c_29 c_28).bind fun s_30 => (some ((ApiToken.mk kind_26 s_30 c_29), true))
theorem f37p_ok {kind_26 : Int} {c_27 : (List UInt8)} {c_28 : Int} {c_29 : Int} {r_ : ApiToken × Bool} (H : f37p kind_26 c_27 c_28 c_29 = some r_) : Pure Try.prog 37 [.int .i64 kind_26, .pro [.pro [.str c_27, .int .i64 c_28]], .pro [.int .i64 c_29]] (· = .tup [.agg [.int .i64 r_.1.fKind, .str r_.1.fText, .int .i64 r_.1.fAt], .bool r_.2]) := by
 refine Pure.walk3 fd37 none (Nat.le_of_ble_eq_true rfl) (by rfl) fun Q hQ => ?_
 simp only [f37p] at H
 refine AW.rseq ?_
 try simp only [↓wk, ↓wl, nq, evV, ↓reduceIte, sevalprocAttr]
 refine AW.rseq ?_
 try simp only [↓wk, ↓wl, nq, evV, ↓reduceIte, sevalprocAttr]
 refine evTs_sslc H (by rfl) (by simp only [loI, hiI, ↓wk, ↓wl, nq, evV, ↓reduceIte, sevalprocAttr]; rfl) (by simp only [loI, hiI, ↓wk, ↓wl, nq, evV, ↓reduceIte, sevalprocAttr]; rfl) ?_ <;> clear H <;> intro s_30 H
 try simp only [↓wk, ↓wl, nq, evV, ↓reduceIte, sevalprocAttr]
 refine AW.ret ?_
 cases H
 exact hQ.fin
def c39_0 : C := .seq (.reg [iI 3 (.mv (.t 0)), iI 4 (.bin .geq (.t 3) (.c (.int .u8 97))), iI 5 (.mv (.t 4)), iG (some 6) 5 true (.mv (.t 0)), iG (some 7) 5 true (.bin .leq (.t 6) (.c (.int .u8 122))), iI 8 (.pick (.t 5) (.t 7) (.c (.bool false))), iI 9 (.mv (.t 8)), iG (some 10) 9 false (.mv (.t 0)), iG (some 11) 9 false (.bin .geq (.t 10) (.c (.int .u8 65))), iG (some 12) 9 false (.mv (.t 11)), iG (some 13) 12 true (.mv (.t 0)), iG (some 14) 12 true (.bin .leq (.t 13) (.c (.int .u8 90))), iG (some 15) 9 false (.pick (.t 12) (.t 14) (.c (.bool false))), iI 16 (.pick (.t 9) (.c (.bool true)) (.t 15)), iI 2 (.mv (.t 16))]) .ret
def ir39 : C := .seq (.reg [iI 2 (.mv (.c (.bool false)))]) c39_0
theorem fd39 : fd? Try.prog 39 = some (17, [.slot 2], ir39) := by kernel_rfl
noncomputable def f39 (c_38 : Int) : Option (Bool) :=
  (if (decide (97 ≤ c_38)) = true then (if (decide (c_38 ≤ 122)) = true then (some true) else (if (decide (65 ≤ c_38)) = true then (some (decide (c_38 ≤ 90))) else (some false))) else (if (decide (65 ≤ c_38)) = true then (some (decide (c_38 ≤ 90))) else (some false)))
theorem f39_ok {c_38 : Int} {r_ : Bool} (H : f39 c_38 = some r_) : Pure Try.prog 39 [.int .u8 c_38] (· = .bool r_) := by
 refine Pure.walk3 fd39 none (Nat.le_of_ble_eq_true rfl) (by rfl) fun Q hQ => ?_
 simp only [f39] at H
 refine AW.rseq ?_
 try simp only [↓wk, ↓wl, nq, evV, ↓reduceIte, sevalprocAttr]
 refine AW.rseq ?_
 try simp only [↓wk, ↓wl, nq, evV, ↓reduceIte, sevalprocAttr]
 refine evTs_ifg H (by rfl) ?_ ?_ <;> clear H <;> intro H
 ·try simp only [↓wk, ↓wl, nq, evV, ↓reduceIte, sevalprocAttr]
  refine evTs_ifg H (by rfl) ?_ ?_ <;> clear H <;> intro H
  ·try simp only [↓wk, ↓wl, nq, evV, ↓reduceIte, sevalprocAttr]
   refine AW.ret ?_
   cases H
   exact hQ.fin
  ·try simp only [↓wk, ↓wl, nq, evV, ↓reduceIte, sevalprocAttr]
   refine evTs_ifg H (by rfl) ?_ ?_ <;> clear H <;> intro H
   ·try simp only [↓wk, ↓wl, nq, evV, ↓reduceIte, sevalprocAttr]
    refine AW.ret ?_
    cases H
    exact hQ.fin
   ·try simp only [↓wk, ↓wl, nq, evV, ↓reduceIte, sevalprocAttr]
    refine AW.ret ?_
    cases H
    exact hQ.fin
 ·try simp only [↓wk, ↓wl, nq, evV, ↓reduceIte, sevalprocAttr]
  refine evTs_ifg H (by rfl) ?_ ?_ <;> clear H <;> intro H
  ·try simp only [↓wk, ↓wl, nq, evV, ↓reduceIte, sevalprocAttr]
   refine AW.ret ?_
   cases H
   exact hQ.fin
  ·try simp only [↓wk, ↓wl, nq, evV, ↓reduceIte, sevalprocAttr]
   refine AW.ret ?_
   cases H
   exact hQ.fin
noncomputable def f38_39p (r_34 : (List UInt8)) (r_35 : Int) (ahead_36 : Int) : Option (Bool) :=
  (if (decide ((IntKind.i64.wrap (r_35 + ahead_36)) < ((r_34.length : Nat) : Int))) = true then (at? r_34 (IntKind.i64.wrap (r_35 + ahead_36))).bind fun b_37 => (f39 (b_37.toNat : Int)).bind fun r_39 => (some r_39) else (some false))
theorem f38_39p_ok {r_34 : (List UInt8)} {r_35 : Int} {ahead_36 : Int} {r_ : Bool} (H : f38_39p r_34 r_35 ahead_36 = some r_) : Pure Try.prog 38 [.pro [.str r_34, .int .i64 r_35], .int .i64 ahead_36, .fn 39 []] (· = .bool r_) := by
 refine Pure.walk3 fd38 none (Nat.le_of_ble_eq_true rfl) (by rfl) fun Q hQ => ?_
 simp only [f38_39p] at H
 refine AW.rseq ?_
 try simp only [↓wk, ↓wl, nq, evV, ↓reduceIte, sevalprocAttr]
 refine AW.rseq ?_
 try simp only [↓wk, ↓wl, nq, evV, ↓reduceIte, sevalprocAttr]
 refine evTs_ifg H (by rfl) ?_ ?_ <;> clear H <;> intro H
 ·try simp only [↓wk, ↓wl, nq, evV, ↓reduceIte, sevalprocAttr]
  refine evTs_sat H (by rfl) (by rfl) ?_ <;> clear H <;> intro b_37 H
  try simp only [↓wk, ↓wl, nq, evV, ↓reduceIte, sevalprocAttr]
  refine evTs_pure hFn H (fun _ h => f39_ok h) (by rfl) (by rfl) (by rfl) (by rfl) (fun _ => rfl) ?_ <;> clear H <;> intro r_39 H
  try simp only [eL, ↓wk, ↓wl, nq, evV, ↓reduceIte, sevalprocAttr]
  refine AW.ret ?_
  cases H
  exact hQ.fin
 ·try simp only [↓wk, ↓wl, nq, evV, ↓reduceIte, sevalprocAttr]
  refine AW.ret ?_
  cases H
  exact hQ.fin
def c44_0 : C := .seq (.reg [iI 3 (.mv (.t 0)), iI 4 (.bin .geq (.t 3) (.c (.int .u8 48))), iI 5 (.mv (.t 4)), iG (some 6) 5 true (.mv (.t 0)), iG (some 7) 5 true (.bin .leq (.t 6) (.c (.int .u8 57))), iI 8 (.pick (.t 5) (.t 7) (.c (.bool false))), iI 2 (.mv (.t 8))]) .ret
def ir44 : C := .seq (.reg [iI 2 (.mv (.c (.bool false)))]) c44_0
theorem fd44 : fd? Try.prog 44 = some (9, [.slot 2], ir44) := by kernel_rfl
noncomputable def f44 (c_59 : Int) : Option (Bool) :=
  (if (decide (48 ≤ c_59)) = true then (some (decide (c_59 ≤ 57))) else (some false))
theorem f44_ok {c_59 : Int} {r_ : Bool} (H : f44 c_59 = some r_) : Pure Try.prog 44 [.int .u8 c_59] (· = .bool r_) := by
 refine Pure.walk3 fd44 none (Nat.le_of_ble_eq_true rfl) (by rfl) fun Q hQ => ?_
 simp only [f44] at H
 refine AW.rseq ?_
 try simp only [↓wk, ↓wl, nq, evV, ↓reduceIte, sevalprocAttr]
 refine AW.rseq ?_
 try simp only [↓wk, ↓wl, nq, evV, ↓reduceIte, sevalprocAttr]
 refine evTs_ifg H (by rfl) ?_ ?_ <;> clear H <;> intro H
 ·try simp only [↓wk, ↓wl, nq, evV, ↓reduceIte, sevalprocAttr]
  refine AW.ret ?_
  cases H
  exact hQ.fin
 ·try simp only [↓wk, ↓wl, nq, evV, ↓reduceIte, sevalprocAttr]
  refine AW.ret ?_
  cases H
  exact hQ.fin
def c40_0 : C := .seq (.reg [iI 3 (.mv (.t 0)), iI 4 (.call (.c (.fn 39 [])) [(.t 3)]), iI 5 (.mv (.t 4)), iG (some 6) 5 false (.mv (.t 0)), iG (some 7) 5 false (.call (.c (.fn 44 [])) [(.t 6)]), iI 8 (.pick (.t 5) (.c (.bool true)) (.t 7)), iI 9 (.mv (.t 8)), iG (some 10) 9 false (.mv (.t 0)), iG (some 11) 9 false (.bin .eql (.t 10) (.c (.int .u8 95))), iI 12 (.pick (.t 9) (.c (.bool true)) (.t 11)), iI 2 (.mv (.t 12))]) .ret
def ir40 : C := .seq (.reg [iI 2 (.mv (.c (.bool false)))]) c40_0
theorem fd40 : fd? Try.prog 40 = some (13, [.slot 2], ir40) := by kernel_rfl
noncomputable def f40 (c_57 : Int) : Option (Bool) :=
  (f39 c_57).bind fun r_58 => (if r_58 = true then (some true) else (f44 c_57).bind fun r_60 => (if r_60 = true then (some true) else (some (decide (c_57 = 95)))))
theorem f40_ok {c_57 : Int} {r_ : Bool} (H : f40 c_57 = some r_) : Pure Try.prog 40 [.int .u8 c_57] (· = .bool r_) := by
 refine Pure.walk3 fd40 none (Nat.le_of_ble_eq_true rfl) (by rfl) fun Q hQ => ?_
 simp only [f40] at H
 refine AW.rseq ?_
 try simp only [↓wk, ↓wl, nq, evV, ↓reduceIte, sevalprocAttr]
 refine AW.rseq ?_
 try simp only [↓wk, ↓wl, nq, evV, ↓reduceIte, sevalprocAttr]
 refine evTs_pure hFn H (fun _ h => f39_ok h) (by rfl) (by rfl) (by rfl) (by rfl) (fun _ => rfl) ?_ <;> clear H <;> intro r_58 H
 try simp only [eL, ↓wk, ↓wl, nq, evV, ↓reduceIte, sevalprocAttr]
 refine evTs_ifg H (by rfl) ?_ ?_ <;> clear H <;> intro H
 ·try simp only [↓wk, ↓wl, nq, evV, ↓reduceIte, sevalprocAttr]
  refine AW.ret ?_
  cases H
  exact hQ.fin
 ·try simp only [↓wk, ↓wl, nq, evV, ↓reduceIte, sevalprocAttr]
  refine evTs_pure hFn H (fun _ h => f44_ok h) (by rfl) (by rfl) (by rfl) (by rfl) (fun _ => rfl) ?_ <;> clear H <;> intro r_60 H
  try simp only [eL, ↓wk, ↓wl, nq, evV, ↓reduceIte, sevalprocAttr]
  refine evTs_ifg H (by rfl) ?_ ?_ <;> clear H <;> intro H
  ·try simp only [↓wk, ↓wl, nq, evV, ↓reduceIte, sevalprocAttr]
   refine AW.ret ?_
   cases H
   exact hQ.fin
  ·try simp only [↓wk, ↓wl, nq, evV, ↓reduceIte, sevalprocAttr]
   refine AW.ret ?_
   cases H
   exact hQ.fin
noncomputable def f38_40p (r_53 : (List UInt8)) (r_54 : Int) (ahead_55 : Int) : Option (Bool) :=
  (if (decide ((IntKind.i64.wrap (r_54 + ahead_55)) < ((r_53.length : Nat) : Int))) = true then (at? r_53 (IntKind.i64.wrap (r_54 + ahead_55))).bind fun b_56 => (f40 (b_56.toNat : Int)).bind fun r_61 => (some r_61) else (some false))
theorem f38_40p_ok {r_53 : (List UInt8)} {r_54 : Int} {ahead_55 : Int} {r_ : Bool} (H : f38_40p r_53 r_54 ahead_55 = some r_) : Pure Try.prog 38 [.pro [.str r_53, .int .i64 r_54], .int .i64 ahead_55, .fn 40 []] (· = .bool r_) := by
 refine Pure.walk3 fd38 none (Nat.le_of_ble_eq_true rfl) (by rfl) fun Q hQ => ?_
 simp only [f38_40p] at H
 refine AW.rseq ?_
 try simp only [↓wk, ↓wl, nq, evV, ↓reduceIte, sevalprocAttr]
 refine AW.rseq ?_
 try simp only [↓wk, ↓wl, nq, evV, ↓reduceIte, sevalprocAttr]
 refine evTs_ifg H (by rfl) ?_ ?_ <;> clear H <;> intro H
 ·try simp only [↓wk, ↓wl, nq, evV, ↓reduceIte, sevalprocAttr]
  refine evTs_sat H (by rfl) (by rfl) ?_ <;> clear H <;> intro b_56 H
  try simp only [↓wk, ↓wl, nq, evV, ↓reduceIte, sevalprocAttr]
  refine evTs_pure hFn H (fun _ h => f40_ok h) (by rfl) (by rfl) (by rfl) (by rfl) (fun _ => rfl) ?_ <;> clear H <;> intro r_61 H
  try simp only [eL, ↓wk, ↓wl, nq, evV, ↓reduceIte, sevalprocAttr]
  refine AW.ret ?_
  cases H
  exact hQ.fin
 ·try simp only [↓wk, ↓wl, nq, evV, ↓reduceIte, sevalprocAttr]
  refine AW.ret ?_
  cases H
  exact hQ.fin
noncomputable def f41_L1 (s_75 : (List UInt8)) : Lp (Int × (List Int)) ((List Int)) where
  body := fun (v_84, b_85) => (if (decide (v_84 < (((b2i s_75).length : Nat) : Int))) = true then (at? b_85 v_84).bind fun x_90 => (if (decide (65 ≤ x_90)) = true then (if (decide (x_90 ≤ 90)) = true then (at? b_85 v_84).bind fun x_91 => (some (.next ((IntKind.i64.wrap (v_84 + 1)), (b_85.set v_84.toNat (IntKind.u8.wrap ((IntKind.u8.wrap (x_90 + 97)) - 65)))))) else (some (.next ((IntKind.i64.wrap (v_84 + 1)), b_85)))) else (some (.next ((IntKind.i64.wrap (v_84 + 1)), b_85)))) else (some (.brk b_85)))
  cst := fun (v_84, b_85) => ⟨put (put (put (put (fun _ => .junk) 10 (.int .i64 v_84)) 9 (.int .i64 (((b2i s_75).length : Nat) : Int))) 8 (.row 0 0 0 b_85.length)) 3 (.row 0 0 0 b_85.length), [.els 0 (b_85.map (AV.int .u8))]⟩
theorem f41_L1c (s_75 : (List UInt8)) (v_84 : Int) (b_85 : (List Int)) : (f41_L1 s_75).cst (v_84, b_85) = ⟨put (put (put (put (fun _ => .junk) 10 (.int .i64 v_84)) 9 (.int .i64 (((b2i s_75).length : Nat) : Int))) 8 (.row 0 0 0 b_85.length)) 3 (.row 0 0 0 b_85.length), [.els 0 (b_85.map (AV.int .u8))]⟩ := rfl
def c41_0 : C := .cond (.t 20) (.reg [iI 21 (.mv (.t 3)), iI 22 (.mv (.t 4)), iI 23 (.mv (.t 5)), iI 24 (.bin .add (.t 23) (.c (.int .u8 97))), iI 25 (.bin .sub (.t 24) (.c (.int .u8 65))), iI 26 (.iaddr 0 (.t 21) (.t 22)), iN (.store 0 (.t 26) (.t 25))]) (.skip)
def c41_1 : C := .seq (.reg [iI 15 (.mv (.t 5)), iI 16 (.bin .geq (.t 15) (.c (.int .u8 65))), iI 17 (.mv (.t 16)), iG (some 18) 17 true (.mv (.t 5)), iG (some 19) 17 true (.bin .leq (.t 18) (.c (.int .u8 90))), iI 20 (.pick (.t 17) (.t 19) (.c (.bool false)))]) c41_0
def c41_2 : C := .reg [iI 27 (.bin .add (.t 10) (.c (.int .i64 1))), iI 10 (.mv (.t 27))]
def c41_3 : C := .seq (.block 1 (.seq (.reg [iI 12 (.mv (.t 10)), iI 13 (.iaddr 0 (.t 8) (.t 10)), iI 14 (.load 0 (.t 13)), iI 4 (.mv (.t 12)), iI 5 (.mv (.t 14))]) c41_1)) c41_2
def c41_4 : C := .seq (.cond (.t 11) (.skip) (.exit 0)) c41_3
def c41_5 : C := .block 0 (.loop (.seq (.reg [iI 11 (.bin .lss (.t 10) (.t 9))]) c41_4))
def c41_6 : C := .seq (.reg [iI 28 (.mv (.t 3)), iI 29 (.cstr (.t 28)), iI 2 (.mv (.t 29))]) .ret
def c41_7 : C := .seq (.seq (.reg [iI 8 (.mv (.t 3)), iI 9 (.len 0 (.t 8)), iI 10 (.mv (.c (.int .i64 0)))]) c41_5) c41_6
def c41_8 : C := .seq (.reg [iI 6 (.mv (.t 0)), iI 7 (.cbytes (.t 6)), iI 3 (.mv (.t 7))]) c41_7
def ir41 : C := .seq (.reg [iI 2 (.mv (.c (.str [])))]) c41_8
theorem fd41 : fd? Try.prog 41 = some (30, [.slot 2], ir41) := by kernel_rfl
noncomputable def f41 (s_75 : (List UInt8)) : Option ((List UInt8)) :=
  (room? s_75.length).bind fun _ => (Lp.run (f41_L1 s_75) (0, (b2i s_75))).bind fun b_89 => (some (b_89.map b8))
theorem f41_ok {s_75 : (List UInt8)} {r_ : (List UInt8)} (H : f41 s_75 = some r_) : Pure Try.prog 41 [.str s_75] (· = .str r_) := by
 refine Pure.walk3 fd41 none (Nat.le_of_ble_eq_true rfl) (by rfl) fun Q hQ => ?_
 simp only [f41] at H
 refine AW.rseq ?_
 try simp only [↓wk, ↓wl, nqs, evV, ↓reduceIte, sevalprocAttr]
 refine AW.rseq ?_
 try simp only [↓wk, ↓wl, nqs, evV, ↓reduceIte, sevalprocAttr]
 refine evTs_cbytes H (by rfl) ?_ <;> clear H <;> intro H
 try simp only [↓wk, ↓wl, nqs, evV, ↓reduceIte, sevalprocAttr]
 refine AW.sseq ?_
 refine AW.rseq ?_
 try simp only [↓wk, ↓wl, nqs, evV, ↓reduceIte, sevalprocAttr]
 refine AW.bend ?_
 refine AW.iter H ((Le.tz [0] [3, 8, 9, 10] (by simp only [f41_L1c, rrm, ↓wk, ↓wl, evV, ↓reduceIte, sevalprocAttr] <;> rfl))) ?_ <;> clear H
 rintro ⟨v_84, b_85⟩ x_ st0_ H hst_
 rw [f41_L1c] at hst_
 simp only [f41_L1] at H
 subst hst_
 refine AW.rseq ?_
 try simp only [↓wk, ↓wl, nqs, evV, ↓reduceIte, sevalprocAttr]
 refine AW.sseq ?_
 refine AW.ifc H (by rfl) ?_ ?_ <;> clear H <;> intro H
 ·refine AW.skip ?_
  refine seqQ.norm ?_
  refine AW.bseq ?_
  refine AW.rseq ?_
  try simp only [↓wk, ↓wl, nqs, evV, ↓reduceIte, sevalprocAttr]
  refine evTs_atr (enc := (AV.int .u8)) H (by rfl) (by first | rfl | simp only [List.length_set]) (by rfl) ?_ <;> clear H <;> intro x_90 hx_90 H
  try simp only [↓wk, ↓wl, nqs, evV, ↓reduceIte, sevalprocAttr, hx_90]
  refine AW.rseq ?_
  try simp only [↓wk, ↓wl, nqs, evV, ↓reduceIte, sevalprocAttr, hx_90]
  refine evTs_ifg H (by rfl) ?_ ?_ <;> clear H <;> intro H
  ·try simp only [↓wk, ↓wl, nqs, evV, ↓reduceIte, sevalprocAttr, hx_90]
   refine AW.ifc H (by rfl) ?_ ?_ <;> clear H <;> intro H
   ·refine AW.rend ?_
    try simp only [↓wk, ↓wl, nqs, evV, ↓reduceIte, sevalprocAttr, hx_90]
    refine evTs_atr (enc := (AV.int .u8)) H (by rfl) (by first | rfl | simp only [List.length_set, hx_90]) (by rfl) ?_ <;> clear H <;> intro x_91 hx_91 H
    try simp only [↓wk, ↓wl, nqs, evV, ↓reduceIte, sevalprocAttr, hx_91]
    refine evTs_stW (enc := (AV.int .u8)) (IntKind.u8.wrap ((IntKind.u8.wrap (x_90 + 97)) - 65)) (by rfl) (by rfl) (by first | exact lt_map hx_91 | (simp only [List.length_set]; exact lt_map hx_91)) (fun _ => by rfl) ?_
    have hw_92 := set_get hx_91 (IntKind.u8.wrap ((IntKind.u8.wrap (x_90 + 97)) - 65))
    try simp only [↓wk, ↓wl, nqs, evV, ↓reduceIte, sevalprocAttr, hx_91, hw_92]
    refine blkQ.norm ?_
    refine AW.rend ?_
    try simp only [↓wk, ↓wl, nqs, evV, ↓reduceIte, sevalprocAttr, hx_91, hw_92]
    exact loopQ.next H ((Le.tz [0] [3, 8, 9, 10] (by simp only [f41_L1c, rrm, ↓wk, ↓wl, evV, ↓reduceIte, sevalprocAttr, hx_91, hw_92] <;> rfl)))
   ·refine AW.skip ?_
    refine blkQ.norm ?_
    refine AW.rend ?_
    try simp only [↓wk, ↓wl, nqs, evV, ↓reduceIte, sevalprocAttr, hx_90]
    exact loopQ.next H ((Le.tz [0] [3, 8, 9, 10] (by simp only [f41_L1c, rrm, ↓wk, ↓wl, evV, ↓reduceIte, sevalprocAttr, hx_90] <;> rfl)))
  ·try simp only [↓wk, ↓wl, nqs, evV, ↓reduceIte, sevalprocAttr, hx_90]
   refine AW.iff (by rfl) ?_
   refine AW.skip ?_
   refine blkQ.norm ?_
   refine AW.rend ?_
   try simp only [↓wk, ↓wl, nqs, evV, ↓reduceIte, sevalprocAttr, hx_90]
   exact loopQ.next H ((Le.tz [0] [3, 8, 9, 10] (by simp only [f41_L1c, rrm, ↓wk, ↓wl, evV, ↓reduceIte, sevalprocAttr, hx_90] <;> rfl)))
 ·refine AW.exit ?_
  refine seqQ.exit ?_
  refine loopQ.exit H ?_ <;> clear H <;> intro H
  try dsimp only at H
  refine blk0.here ?_
  refine seqQ.norm ?_
  refine AW.rseq ?_
  try simp only [↓wk, ↓wl, nqs, evV, ↓reduceIte, sevalprocAttr]
  refine evTs_cstrr (xs := b_85) (by rfl) (by rfl) (by rfl) ?_
  try simp only [↓wk, ↓wl, nqs, evV, ↓reduceIte, sevalprocAttr]
  refine AW.ret ?_
  cases H
  exact hQ _ _ _ _ (.inr rfl) (by simp only [resVs, omap, resV, ↓wk, ↓wl, nqs, evV, ↓reduceIte, sevalprocAttr]; rfl) (hand_plain (by rfl)) (by first | exact Or.inl rfl | exact Or.inr rfl)
def c42_0 : C := .seq (.reg [iI 3 (.mv (.t 0)), iI 4 (.bin .geq (.t 3) (.c (.int .u8 32))), iI 5 (.mv (.t 4)), iG (some 6) 5 true (.mv (.t 0)), iG (some 7) 5 true (.bin .leq (.t 6) (.c (.int .u8 126))), iI 8 (.pick (.t 5) (.t 7) (.c (.bool false))), iI 9 (.mv (.t 8)), iG (some 10) 9 true (.mv (.t 0)), iG (some 11) 9 true (.bin .neq (.t 10) (.c (.int .u8 34))), iI 12 (.pick (.t 9) (.t 11) (.c (.bool false))), iI 2 (.mv (.t 12))]) .ret
def ir42 : C := .seq (.reg [iI 2 (.mv (.c (.bool false)))]) c42_0
theorem fd42 : fd? Try.prog 42 = some (13, [.slot 2], ir42) := by kernel_rfl
noncomputable def f42 (c_108 : Int) : Option (Bool) :=
  (if (decide (32 ≤ c_108)) = true then (if (decide (c_108 ≤ 126)) = true then (some (decide (c_108 ≠ 34))) else (some false)) else (some false))
theorem f42_ok {c_108 : Int} {r_ : Bool} (H : f42 c_108 = some r_) : Pure Try.prog 42 [.int .u8 c_108] (· = .bool r_) := by
 refine Pure.walk3 fd42 none (Nat.le_of_ble_eq_true rfl) (by rfl) fun Q hQ => ?_
 simp only [f42] at H
 refine AW.rseq ?_
 try simp only [↓wk, ↓wl, nq, evV, ↓reduceIte, sevalprocAttr]
 refine AW.rseq ?_
 try simp only [↓wk, ↓wl, nq, evV, ↓reduceIte, sevalprocAttr]
 refine evTs_ifg H (by rfl) ?_ ?_ <;> clear H <;> intro H
 ·try simp only [↓wk, ↓wl, nq, evV, ↓reduceIte, sevalprocAttr]
  refine evTs_ifg H (by rfl) ?_ ?_ <;> clear H <;> intro H
  ·try simp only [↓wk, ↓wl, nq, evV, ↓reduceIte, sevalprocAttr]
   refine AW.ret ?_
   cases H
   exact hQ.fin
  ·try simp only [↓wk, ↓wl, nq, evV, ↓reduceIte, sevalprocAttr]
   refine AW.ret ?_
   cases H
   exact hQ.fin
 ·try simp only [↓wk, ↓wl, nq, evV, ↓reduceIte, sevalprocAttr]
  refine AW.ret ?_
  cases H
  exact hQ.fin
noncomputable def f38_42p (r_104 : (List UInt8)) (r_105 : Int) (ahead_106 : Int) : Option (Bool) :=
  (if (decide ((IntKind.i64.wrap (r_105 + ahead_106)) < ((r_104.length : Nat) : Int))) = true then (at? r_104 (IntKind.i64.wrap (r_105 + ahead_106))).bind fun b_107 => (f42 (b_107.toNat : Int)).bind fun r_109 => (some r_109) else (some false))
theorem f38_42p_ok {r_104 : (List UInt8)} {r_105 : Int} {ahead_106 : Int} {r_ : Bool} (H : f38_42p r_104 r_105 ahead_106 = some r_) : Pure Try.prog 38 [.pro [.str r_104, .int .i64 r_105], .int .i64 ahead_106, .fn 42 []] (· = .bool r_) := by
 refine Pure.walk3 fd38 none (Nat.le_of_ble_eq_true rfl) (by rfl) fun Q hQ => ?_
 simp only [f38_42p] at H
 refine AW.rseq ?_
 try simp only [↓wk, ↓wl, nq, evV, ↓reduceIte, sevalprocAttr]
 refine AW.rseq ?_
 try simp only [↓wk, ↓wl, nq, evV, ↓reduceIte, sevalprocAttr]
 refine evTs_ifg H (by rfl) ?_ ?_ <;> clear H <;> intro H
 ·try simp only [↓wk, ↓wl, nq, evV, ↓reduceIte, sevalprocAttr]
  refine evTs_sat H (by rfl) (by rfl) ?_ <;> clear H <;> intro b_107 H
  try simp only [↓wk, ↓wl, nq, evV, ↓reduceIte, sevalprocAttr]
  refine evTs_pure hFn H (fun _ h => f42_ok h) (by rfl) (by rfl) (by rfl) (by rfl) (fun _ => rfl) ?_ <;> clear H <;> intro r_109 H
  try simp only [eL, ↓wk, ↓wl, nq, evV, ↓reduceIte, sevalprocAttr]
  refine AW.ret ?_
  cases H
  exact hQ.fin
 ·try simp only [↓wk, ↓wl, nq, evV, ↓reduceIte, sevalprocAttr]
  refine AW.ret ?_
  cases H
  exact hQ.fin
def c43_0 : C := .seq (.reg [iI 3 (.mv (.t 0)), iI 4 (.bin .eql (.t 3) (.c (.int .u8 34))), iI 2 (.mv (.t 4))]) .ret
def ir43 : C := .seq (.reg [iI 2 (.mv (.c (.bool false)))]) c43_0
theorem fd43 : fd? Try.prog 43 = some (5, [.slot 2], ir43) := by kernel_rfl
noncomputable def f43 (c_121 : Int) : Option (Bool) :=
  (some (decide (c_121 = 34)))
theorem f43_ok {c_121 : Int} {r_ : Bool} (H : f43 c_121 = some r_) : Pure Try.prog 43 [.int .u8 c_121] (· = .bool r_) := by
 refine Pure.walk3 fd43 none (Nat.le_of_ble_eq_true rfl) (by rfl) fun Q hQ => ?_
 simp only [f43] at H
 refine AW.rseq ?_
 try simp only [↓wk, ↓wl, nq, evV, ↓reduceIte, sevalprocAttr]
 refine AW.rseq ?_
 try simp only [↓wk, ↓wl, nq, evV, ↓reduceIte, sevalprocAttr]
 refine AW.ret ?_
 cases H
 exact hQ.fin
noncomputable def f38_43p (r_117 : (List UInt8)) (r_118 : Int) (ahead_119 : Int) : Option (Bool) :=
  (if (decide ((IntKind.i64.wrap (r_118 + ahead_119)) < ((r_117.length : Nat) : Int))) = true then (at? r_117 (IntKind.i64.wrap (r_118 + ahead_119))).bind fun b_120 => (f43 (b_120.toNat : Int)).bind fun r_122 => (some r_122) else (some false))
theorem f38_43p_ok {r_117 : (List UInt8)} {r_118 : Int} {ahead_119 : Int} {r_ : Bool} (H : f38_43p r_117 r_118 ahead_119 = some r_) : Pure Try.prog 38 [.pro [.str r_117, .int .i64 r_118], .int .i64 ahead_119, .fn 43 []] (· = .bool r_) := by
 refine Pure.walk3 fd38 none (Nat.le_of_ble_eq_true rfl) (by rfl) fun Q hQ => ?_
 simp only [f38_43p] at H
 refine AW.rseq ?_
 try simp only [↓wk, ↓wl, nq, evV, ↓reduceIte, sevalprocAttr]
 refine AW.rseq ?_
 try simp only [↓wk, ↓wl, nq, evV, ↓reduceIte, sevalprocAttr]
 refine evTs_ifg H (by rfl) ?_ ?_ <;> clear H <;> intro H
 ·try simp only [↓wk, ↓wl, nq, evV, ↓reduceIte, sevalprocAttr]
  refine evTs_sat H (by rfl) (by rfl) ?_ <;> clear H <;> intro b_120 H
  try simp only [↓wk, ↓wl, nq, evV, ↓reduceIte, sevalprocAttr]
  refine evTs_pure hFn H (fun _ h => f43_ok h) (by rfl) (by rfl) (by rfl) (by rfl) (fun _ => rfl) ?_ <;> clear H <;> intro r_122 H
  try simp only [eL, ↓wk, ↓wl, nq, evV, ↓reduceIte, sevalprocAttr]
  refine AW.ret ?_
  cases H
  exact hQ.fin
 ·try simp only [↓wk, ↓wl, nq, evV, ↓reduceIte, sevalprocAttr]
  refine AW.ret ?_
  cases H
  exact hQ.fin
noncomputable def f38_44p (r_128 : (List UInt8)) (r_129 : Int) (ahead_130 : Int) : Option (Bool) :=
  (if (decide ((IntKind.i64.wrap (r_129 + ahead_130)) < ((r_128.length : Nat) : Int))) = true then (at? r_128 (IntKind.i64.wrap (r_129 + ahead_130))).bind fun b_131 => (f44 (b_131.toNat : Int)).bind fun r_132 => (some r_132) else (some false))
theorem f38_44p_ok {r_128 : (List UInt8)} {r_129 : Int} {ahead_130 : Int} {r_ : Bool} (H : f38_44p r_128 r_129 ahead_130 = some r_) : Pure Try.prog 38 [.pro [.str r_128, .int .i64 r_129], .int .i64 ahead_130, .fn 44 []] (· = .bool r_) := by
 refine Pure.walk3 fd38 none (Nat.le_of_ble_eq_true rfl) (by rfl) fun Q hQ => ?_
 simp only [f38_44p] at H
 refine AW.rseq ?_
 try simp only [↓wk, ↓wl, nq, evV, ↓reduceIte, sevalprocAttr]
 refine AW.rseq ?_
 try simp only [↓wk, ↓wl, nq, evV, ↓reduceIte, sevalprocAttr]
 refine evTs_ifg H (by rfl) ?_ ?_ <;> clear H <;> intro H
 ·try simp only [↓wk, ↓wl, nq, evV, ↓reduceIte, sevalprocAttr]
  refine evTs_sat H (by rfl) (by rfl) ?_ <;> clear H <;> intro b_131 H
  try simp only [↓wk, ↓wl, nq, evV, ↓reduceIte, sevalprocAttr]
  refine evTs_pure hFn H (fun _ h => f44_ok h) (by rfl) (by rfl) (by rfl) (by rfl) (fun _ => rfl) ?_ <;> clear H <;> intro r_132 H
  try simp only [eL, ↓wk, ↓wl, nq, evV, ↓reduceIte, sevalprocAttr]
  refine AW.ret ?_
  cases H
  exact hQ.fin
 ·try simp only [↓wk, ↓wl, nq, evV, ↓reduceIte, sevalprocAttr]
  refine AW.ret ?_
  cases H
  exact hQ.fin
def c45_0 : C := .seq (.reg [iI 3 (.mv (.t 0)), iI 4 (.bin .eql (.t 3) (.c (.int .u8 46))), iI 2 (.mv (.t 4))]) .ret
def ir45 : C := .seq (.reg [iI 2 (.mv (.c (.bool false)))]) c45_0
theorem fd45 : fd? Try.prog 45 = some (5, [.slot 2], ir45) := by kernel_rfl
noncomputable def f45 (c_148 : Int) : Option (Bool) :=
  (some (decide (c_148 = 46)))
theorem f45_ok {c_148 : Int} {r_ : Bool} (H : f45 c_148 = some r_) : Pure Try.prog 45 [.int .u8 c_148] (· = .bool r_) := by
 refine Pure.walk3 fd45 none (Nat.le_of_ble_eq_true rfl) (by rfl) fun Q hQ => ?_
 simp only [f45] at H
 refine AW.rseq ?_
 try simp only [↓wk, ↓wl, nq, evV, ↓reduceIte, sevalprocAttr]
 refine AW.rseq ?_
 try simp only [↓wk, ↓wl, nq, evV, ↓reduceIte, sevalprocAttr]
 refine AW.ret ?_
 cases H
 exact hQ.fin
noncomputable def f38_45p (r_144 : (List UInt8)) (r_145 : Int) (ahead_146 : Int) : Option (Bool) :=
  (if (decide ((IntKind.i64.wrap (r_145 + ahead_146)) < ((r_144.length : Nat) : Int))) = true then (at? r_144 (IntKind.i64.wrap (r_145 + ahead_146))).bind fun b_147 => (f45 (b_147.toNat : Int)).bind fun r_149 => (some r_149) else (some false))
theorem f38_45p_ok {r_144 : (List UInt8)} {r_145 : Int} {ahead_146 : Int} {r_ : Bool} (H : f38_45p r_144 r_145 ahead_146 = some r_) : Pure Try.prog 38 [.pro [.str r_144, .int .i64 r_145], .int .i64 ahead_146, .fn 45 []] (· = .bool r_) := by
 refine Pure.walk3 fd38 none (Nat.le_of_ble_eq_true rfl) (by rfl) fun Q hQ => ?_
 simp only [f38_45p] at H
 refine AW.rseq ?_
 try simp only [↓wk, ↓wl, nq, evV, ↓reduceIte, sevalprocAttr]
 refine AW.rseq ?_
 try simp only [↓wk, ↓wl, nq, evV, ↓reduceIte, sevalprocAttr]
 refine evTs_ifg H (by rfl) ?_ ?_ <;> clear H <;> intro H
 ·try simp only [↓wk, ↓wl, nq, evV, ↓reduceIte, sevalprocAttr]
  refine evTs_sat H (by rfl) (by rfl) ?_ <;> clear H <;> intro b_147 H
  try simp only [↓wk, ↓wl, nq, evV, ↓reduceIte, sevalprocAttr]
  refine evTs_pure hFn H (fun _ h => f45_ok h) (by rfl) (by rfl) (by rfl) (by rfl) (fun _ => rfl) ?_ <;> clear H <;> intro r_149 H
  try simp only [eL, ↓wk, ↓wl, nq, evV, ↓reduceIte, sevalprocAttr]
  refine AW.ret ?_
  cases H
  exact hQ.fin
 ·try simp only [↓wk, ↓wl, nq, evV, ↓reduceIte, sevalprocAttr]
  refine AW.ret ?_
  cases H
  exact hQ.fin
noncomputable def f51 (s : List UInt8) (c : Int) : Option Int := ixb? s c
theorem f51_ok {s : List UInt8} {c r_ : Int} (H : f51 s c = some r_) : Pure Try.prog 51 [.str s, .int .u8 c] (· = .int .i64 r_) :=
  ixb_pure (fun _ _ => trivial) ixbs51 H
def c46_0 : C := .seq (.reg [iI 3 (.mv (.t 0)), iI 4 (.call (.c (.fn 51 [])) [(.c (.str [43, 45, 47, 46, 44, 64, 58, 61, 37, 40, 41])), (.t 3)]), iI 5 (.bin .geq (.t 4) (.c (.int .i64 0))), iI 2 (.mv (.t 5))]) .ret
def ir46 : C := .seq (.reg [iI 2 (.mv (.c (.bool false)))]) c46_0
theorem fd46 : fd? Try.prog 46 = some (6, [.slot 2], ir46) := by kernel_rfl
noncomputable def f46 (c_172 : Int) : Option (Bool) :=
  (f51 ([43, 45, 47, 46, 44, 64, 58, 61, 37, 40, 41]) c_172).bind fun r_173 => (some (decide (0 ≤ r_173)))
theorem f46_ok {c_172 : Int} {r_ : Bool} (H : f46 c_172 = some r_) : Pure Try.prog 46 [.int .u8 c_172] (· = .bool r_) := by
 refine Pure.walk3 fd46 none (Nat.le_of_ble_eq_true rfl) (by rfl) fun Q hQ => ?_
 simp only [f46] at H
 refine AW.rseq ?_
 try simp only [↓wk, ↓wl, nq, evV, ↓reduceIte, sevalprocAttr]
 refine AW.rseq ?_
 try simp only [↓wk, ↓wl, nq, evV, ↓reduceIte, sevalprocAttr]
 refine evTs_pure hFn H (fun _ h => f51_ok h) (by rfl) (by rfl) (by rfl) (by rfl) (fun _ => rfl) ?_ <;> clear H <;> intro r_173 H
 try simp only [eL, ↓wk, ↓wl, nq, evV, ↓reduceIte, sevalprocAttr]
 refine AW.ret ?_
 cases H
 exact hQ.fin
noncomputable def f38_46p (r_168 : (List UInt8)) (r_169 : Int) (ahead_170 : Int) : Option (Bool) :=
  (if (decide ((IntKind.i64.wrap (r_169 + ahead_170)) < ((r_168.length : Nat) : Int))) = true then (at? r_168 (IntKind.i64.wrap (r_169 + ahead_170))).bind fun b_171 => (f46 (b_171.toNat : Int)).bind fun r_174 => (some r_174) else (some false))
theorem f38_46p_ok {r_168 : (List UInt8)} {r_169 : Int} {ahead_170 : Int} {r_ : Bool} (H : f38_46p r_168 r_169 ahead_170 = some r_) : Pure Try.prog 38 [.pro [.str r_168, .int .i64 r_169], .int .i64 ahead_170, .fn 46 []] (· = .bool r_) := by
 refine Pure.walk3 fd38 none (Nat.le_of_ble_eq_true rfl) (by rfl) fun Q hQ => ?_
 simp only [f38_46p] at H
 refine AW.rseq ?_
 try simp only [↓wk, ↓wl, nq, evV, ↓reduceIte, sevalprocAttr]
 refine AW.rseq ?_
 try simp only [↓wk, ↓wl, nq, evV, ↓reduceIte, sevalprocAttr]
 refine evTs_ifg H (by rfl) ?_ ?_ <;> clear H <;> intro H
 ·try simp only [↓wk, ↓wl, nq, evV, ↓reduceIte, sevalprocAttr]
  refine evTs_sat H (by rfl) (by rfl) ?_ <;> clear H <;> intro b_171 H
  try simp only [↓wk, ↓wl, nq, evV, ↓reduceIte, sevalprocAttr]
  refine evTs_pure hFn H (fun _ h => f46_ok h) (by rfl) (by rfl) (by rfl) (by rfl) (fun _ => rfl) ?_ <;> clear H <;> intro r_174 H
  try simp only [eL, ↓wk, ↓wl, nq, evV, ↓reduceIte, sevalprocAttr]
  refine AW.ret ?_
  cases H
  exact hQ.fin
 ·try simp only [↓wk, ↓wl, nq, evV, ↓reduceIte, sevalprocAttr]
  refine AW.ret ?_
  cases H
  exact hQ.fin
def c24_0 : C := .seq (.reg [iI 44 (.load 3 (.t 6)), iI 45 (.mv (.t 7)), iN (.store 3 (.t 2) (.t 44)), iI 3 (.mv (.t 45))]) .ret
def c24_1 : C := .seq (.reg [iI 40 (.faddr 1 (.t 6)), iI 41 (.load 0 (.t 40)), iI 42 (.call (.c (.fn 41 [])) [(.t 41)]), iI 43 (.faddr 1 (.t 6)), iN (.store 0 (.t 43) (.t 42))]) c24_0
def c24_2 : C := .seq (.reg [iI 36 (.mv (.t 5)), iI 37 (.call (.t 36) [(.c (.int .i64 0))]), iI 35 (.mv (.t 37)), iI 38 (.ext (.t 35) 0), iI 39 (.ext (.t 35) 1), iI 6 (.alloc [(1, (.int .i64 0)), (1, (.str [])), (1, (.int .i64 0))]), iN (.store 3 (.t 6) (.t 38)), iI 7 (.mv (.t 39))]) c24_1
def c24_3 : C := .seq (.reg [iI 73 (.build [(1, (.int .i64 0)), (1, (.str [])), (1, (.int .i64 0))] []), iN (.store 3 (.t 2) (.t 73)), iI 3 (.mv (.c (.bool false)))]) .ret
def c24_4 : C := .cond (.t 68) (.seq (.reg [iI 69 (.load 0 (.t 1)), iI 70 (.load 0 (.t 4)), iI 71 (.nilchk (.t 69)), iI 72 (.faddr 1 (.t 71)), iN (.store 0 (.t 72) (.t 70))]) c24_3) (.skip)
def c24_5 : C := .seq (.reg [iI 81 (.mv (.t 5)), iI 82 (.call (.t 81) [(.c (.int .i64 0))]), iI 83 (.ext (.t 82) 0), iI 84 (.ext (.t 82) 1), iN (.store 3 (.t 2) (.t 83)), iI 3 (.mv (.t 84))]) .ret
def c24_6 : C := .seq (.reg [iI 74 (.load 0 (.t 1)), iI 75 (.nilchk (.t 74)), iI 76 (.faddr 1 (.t 75)), iI 77 (.load 0 (.t 76)), iI 78 (.bin .add (.t 77) (.c (.int .i64 1))), iI 79 (.nilchk (.t 74)), iI 80 (.faddr 1 (.t 79)), iN (.store 0 (.t 80) (.t 78))]) c24_5
def c24_7 : C := .seq (.seq (.reg [iI 66 (.load 0 (.t 1)), iI 67 (.call (.c (.fn 38 [])) [(.t 66), (.c (.int .i64 0)), (.c (.fn 43 []))]), iI 68 (.un .not (.t 67))]) c24_4) c24_6
def c24_8 : C := .seq (.reg [iI 64 (.load 0 (.t 1)), iI 65 (.call (.c (.fn 35 [])) [(.t 64), (.c (.fn 42 []))])]) c24_7
def c24_9 : C := .reg [iI 103 (.load 0 (.t 1)), iI 104 (.call (.c (.fn 35 [])) [(.t 103), (.c (.fn 44 []))])]
def c24_10 : C := .cond (.t 95) (.seq (.reg [iI 96 (.load 0 (.t 1)), iI 97 (.nilchk (.t 96)), iI 98 (.faddr 1 (.t 97)), iI 99 (.load 0 (.t 98)), iI 100 (.bin .add (.t 99) (.c (.int .i64 1))), iI 101 (.nilchk (.t 96)), iI 102 (.faddr 1 (.t 101)), iN (.store 0 (.t 102) (.t 100))]) c24_9) (.skip)
def c24_11 : C := .seq (.reg [iI 105 (.mv (.t 5)), iI 106 (.call (.t 105) [(.c (.int .i64 1))]), iI 107 (.ext (.t 106) 0), iI 108 (.ext (.t 106) 1), iN (.store 3 (.t 2) (.t 107)), iI 3 (.mv (.t 108))]) .ret
def c24_12 : C := .seq (.seq (.reg [iI 90 (.load 0 (.t 1)), iI 91 (.call (.c (.fn 38 [])) [(.t 90), (.c (.int .i64 0)), (.c (.fn 45 []))]), iI 92 (.mv (.t 91)), iG (some 93) 92 true (.load 0 (.t 1)), iG (some 94) 92 true (.call (.c (.fn 38 [])) [(.t 93), (.c (.int .i64 1)), (.c (.fn 44 []))]), iI 95 (.pick (.t 92) (.t 94) (.c (.bool false)))]) c24_10) c24_11
def c24_13 : C := .seq (.reg [iI 119 (.mv (.t 5)), iI 120 (.call (.t 119) [(.c (.int .i64 2))]), iI 121 (.ext (.t 120) 0), iI 122 (.ext (.t 120) 1), iN (.store 3 (.t 2) (.t 121)), iI 3 (.mv (.t 122))]) .ret
def c24_14 : C := .cond (.t 109) (.seq (.reg [iI 112 (.load 0 (.t 1)), iI 113 (.nilchk (.t 112)), iI 114 (.faddr 1 (.t 113)), iI 115 (.load 0 (.t 114)), iI 116 (.bin .add (.t 115) (.c (.int .i64 1))), iI 117 (.nilchk (.t 112)), iI 118 (.faddr 1 (.t 117)), iN (.store 0 (.t 118) (.t 116))]) c24_13) (.skip)
def c24_15 : C := .cond (.t 85) (.seq (.reg [iI 88 (.load 0 (.t 1)), iI 89 (.call (.c (.fn 35 [])) [(.t 88), (.c (.fn 44 []))])]) c24_12) (.seq (.reg [iI 110 (.load 0 (.t 1)), iI 111 (.call (.c (.fn 38 [])) [(.t 110), (.c (.int .i64 0)), (.c (.fn 46 []))]), iI 109 (.mv (.t 111))]) c24_14)
def c24_16 : C := .cond (.t 46) (.seq (.reg [iI 57 (.load 0 (.t 1)), iI 58 (.nilchk (.t 57)), iI 59 (.faddr 1 (.t 58)), iI 60 (.load 0 (.t 59)), iI 61 (.bin .add (.t 60) (.c (.int .i64 1))), iI 62 (.nilchk (.t 57)), iI 63 (.faddr 1 (.t 62)), iN (.store 0 (.t 63) (.t 61))]) c24_8) (.seq (.reg [iI 86 (.load 0 (.t 1)), iI 87 (.call (.c (.fn 38 [])) [(.t 86), (.c (.int .i64 0)), (.c (.fn 44 []))]), iI 85 (.mv (.t 87))]) c24_15)
def c24_17 : C := .cond (.t 30) (.seq (.reg [iI 33 (.load 0 (.t 1)), iI 34 (.call (.c (.fn 35 [])) [(.t 33), (.c (.fn 40 []))])]) c24_2) (.seq (.reg [iI 47 (.load 0 (.t 1)), iI 48 (.nilchk (.t 47)), iI 49 (.faddr 0 (.t 48)), iI 50 (.load 0 (.t 49)), iI 51 (.load 0 (.t 1)), iI 52 (.nilchk (.t 51)), iI 53 (.faddr 1 (.t 52)), iI 54 (.load 0 (.t 53)), iI 55 (.sidx (.t 50) (.t 54)), iI 56 (.bin .eql (.t 55) (.c (.int .u8 34))), iI 46 (.mv (.t 56))]) c24_16)
def c24_18 : C := .cond (.t 15) (.seq (.reg [iI 26 (.mv (.t 5)), iI 27 (.call (.t 26) [(.c (.int .i64 3))]), iI 28 (.ext (.t 27) 0), iI 29 (.ext (.t 27) 1), iN (.store 3 (.t 2) (.t 28)), iI 3 (.mv (.t 29))]) .ret) (.seq (.reg [iI 31 (.load 0 (.t 1)), iI 32 (.call (.c (.fn 38 [])) [(.t 31), (.c (.int .i64 0)), (.c (.fn 39 []))]), iI 30 (.mv (.t 32))]) c24_17)
def c24_19 : C := .seq (.reg [iI 123 (.build [(1, (.int .i64 0)), (1, (.str [])), (1, (.int .i64 0))] []), iN (.store 3 (.t 2) (.t 123)), iI 3 (.mv (.c (.bool false)))]) .ret
def c24_20 : C := .seq (.block 0 (.seq (.reg [iI 16 (.load 0 (.t 1)), iI 17 (.nilchk (.t 16)), iI 18 (.faddr 1 (.t 17)), iI 19 (.load 0 (.t 18)), iI 20 (.load 0 (.t 1)), iI 21 (.nilchk (.t 20)), iI 22 (.faddr 0 (.t 21)), iI 23 (.load 0 (.t 22)), iI 24 (.len 1 (.t 23)), iI 25 (.bin .eql (.t 19) (.t 24)), iI 15 (.mv (.t 25))]) c24_18)) c24_19
def c24_21 : C := .seq (.reg [iI 14 (.mkfn 37 [(.t 1), (.t 4)]), iI 5 (.mv (.t 14))]) c24_20
def c24_22 : C := .seq (.reg [iI 10 (.load 0 (.t 1)), iI 11 (.nilchk (.t 10)), iI 12 (.faddr 1 (.t 11)), iI 13 (.load 0 (.t 12)), iI 4 (.alloc [(1, (.int .i64 0))]), iN (.store 0 (.t 4) (.t 13))]) c24_21
def c24_23 : C := .seq (.reg [iI 8 (.load 0 (.t 1)), iI 9 (.call (.c (.fn 35 [])) [(.t 8), (.c (.fn 36 []))])]) c24_22
def ir24 : C := .seq (.reg [iI 1 (.box (.t 0)), iI 2 (.alloc [(1, (.int .i64 0)), (1, (.str [])), (1, (.int .i64 0))]), iI 3 (.mv (.c (.bool false)))]) c24_23
theorem fd24 : fd? Try.prog 24 = some (124, [.cell 2 3, .slot 3], ir24) := by kernel_rfl
def c35_0 : C := .cond (.t 6) (.skip) (.exit 0)
def c35_1 : C := .block 1 (.reg [iI 7 (.mv (.t 0)), iI 8 (.nilchk (.t 7)), iI 9 (.faddr 1 (.t 8)), iI 10 (.load 0 (.t 9)), iI 11 (.bin .add (.t 10) (.c (.int .i64 1))), iI 12 (.nilchk (.t 7)), iI 13 (.faddr 1 (.t 12)), iN (.store 0 (.t 13) (.t 11))])
def ir35 : C := .block 0 (.loop (.seq (.seq (.reg [iI 4 (.mv (.t 0)), iI 5 (.mv (.t 1)), iI 6 (.call (.c (.fn 38 [])) [(.t 4), (.c (.int .i64 0)), (.t 5)])]) c35_0) c35_1))
theorem fd35 : fd? Try.prog 35 = some (14, [], ir35) := by kernel_rfl
noncomputable def f14_L4 (s_1 : (List UInt8)) (out_330 : (List ApiToken)) : Lp (Int) (Int) where
  body := fun v_485 => (f38_36p s_1 v_485 0).bind fun r_488 => (if r_488 = true then (some (.next (IntKind.i64.wrap (v_485 + 1)))) else (some (.brk v_485)))
  cst := fun v_485 => ⟨put (put (fun _ => .junk) 1 (.fn 36 [])) 0 (.ptr 0 0), [.cel [.str s_1, .int .i64 v_485], .els 3 (out_330.map eApiToken), .cel [.ptr 0 0], .cel [.int .i64 0, .str ([]), .int .i64 0]]⟩
theorem f14_L4c (s_1 : (List UInt8)) (out_330 : (List ApiToken)) (v_485 : Int) : (f14_L4 s_1 out_330).cst v_485 = ⟨put (put (fun _ => .junk) 1 (.fn 36 [])) 0 (.ptr 0 0), [.cel [.str s_1, .int .i64 v_485], .els 3 (out_330.map eApiToken), .cel [.ptr 0 0], .cel [.int .i64 0, .str ([]), .int .i64 0]]⟩ := rfl
noncomputable def f14_C3 (s_1 : (List UInt8)) (out_330 : (List ApiToken)) (r_329 : Int) : Il (Int) where
  run := (Lp.run (f14_L4 s_1 out_330) r_329).bind fun v_487 => (some v_487)
  res := fun v_481 => .tup []
  hp := fun v_481 => [.cel [.str s_1, .int .i64 v_481], .els 3 (out_330.map eApiToken), .cel [.ptr 0 0], .cel [.int .i64 0, .str ([]), .int .i64 0]]
noncomputable def f14_C5 (s_1 : (List UInt8)) (v_481 : Int) (out_330 : (List ApiToken)) : Il ((List UInt8)) where
  run := (slc? s_1 v_481 v_481).bind fun s_492 => (some s_492)
  res := fun v_491 => .tup [.agg [.int .i64 3, .str v_491, .int .i64 v_481], .bool true]
  hp := fun v_491 => [.cel [.str s_1, .int .i64 v_481], .els 3 (out_330.map eApiToken), .cel [.ptr 0 0], .cel [.int .i64 0, .str ([]), .int .i64 0], .cel [.int .i64 v_481], .cel [.int .i64 3, .str v_491, .int .i64 v_481]]
noncomputable def f14_L7 (s_1 : (List UInt8)) (out_330 : (List ApiToken)) (v_481 : Int) : Lp (Int) (Int) where
  body := fun v_504 => (f38_40p s_1 v_504 0).bind fun r_507 => (if r_507 = true then (some (.next (IntKind.i64.wrap (v_504 + 1)))) else (some (.brk v_504)))
  cst := fun v_504 => ⟨put (put (fun _ => .junk) 1 (.fn 40 [])) 0 (.ptr 0 0), [.cel [.str s_1, .int .i64 v_504], .els 3 (out_330.map eApiToken), .cel [.ptr 0 0], .cel [.int .i64 0, .str ([]), .int .i64 0], .cel [.int .i64 v_481]]⟩
theorem f14_L7c (s_1 : (List UInt8)) (out_330 : (List ApiToken)) (v_481 : Int) (v_504 : Int) : (f14_L7 s_1 out_330 v_481).cst v_504 = ⟨put (put (fun _ => .junk) 1 (.fn 40 [])) 0 (.ptr 0 0), [.cel [.str s_1, .int .i64 v_504], .els 3 (out_330.map eApiToken), .cel [.ptr 0 0], .cel [.int .i64 0, .str ([]), .int .i64 0], .cel [.int .i64 v_481]]⟩ := rfl
noncomputable def f14_C6 (s_1 : (List UInt8)) (out_330 : (List ApiToken)) (v_481 : Int) : Il (Int) where
  run := (Lp.run (f14_L7 s_1 out_330 v_481) v_481).bind fun v_506 => (some v_506)
  res := fun v_500 => .tup []
  hp := fun v_500 => [.cel [.str s_1, .int .i64 v_500], .els 3 (out_330.map eApiToken), .cel [.ptr 0 0], .cel [.int .i64 0, .str ([]), .int .i64 0], .cel [.int .i64 v_481]]
noncomputable def f14_C8 (s_1 : (List UInt8)) (v_481 : Int) (v_500 : Int) (out_330 : (List ApiToken)) : Il ((List UInt8)) where
  run := (slc? s_1 v_481 v_500).bind fun s_511 => (some s_511)
  res := fun v_510 => .tup [.agg [.int .i64 0, .str v_510, .int .i64 v_481], .bool true]
  hp := fun v_510 => [.cel [.str s_1, .int .i64 v_500], .els 3 (out_330.map eApiToken), .cel [.ptr 0 0], .cel [.int .i64 0, .str ([]), .int .i64 0], .cel [.int .i64 v_481], .cel [.int .i64 0, .str v_510, .int .i64 v_481]]
noncomputable def f14_L10 (s_1 : (List UInt8)) (out_330 : (List ApiToken)) (v_481 : Int) : Lp (Int) (Int) where
  body := fun v_524 => (f38_42p s_1 v_524 0).bind fun r_527 => (if r_527 = true then (some (.next (IntKind.i64.wrap (v_524 + 1)))) else (some (.brk v_524)))
  cst := fun v_524 => ⟨put (put (fun _ => .junk) 1 (.fn 42 [])) 0 (.ptr 0 0), [.cel [.str s_1, .int .i64 v_524], .els 3 (out_330.map eApiToken), .cel [.ptr 0 0], .cel [.int .i64 0, .str ([]), .int .i64 0], .cel [.int .i64 v_481]]⟩
theorem f14_L10c (s_1 : (List UInt8)) (out_330 : (List ApiToken)) (v_481 : Int) (v_524 : Int) : (f14_L10 s_1 out_330 v_481).cst v_524 = ⟨put (put (fun _ => .junk) 1 (.fn 42 [])) 0 (.ptr 0 0), [.cel [.str s_1, .int .i64 v_524], .els 3 (out_330.map eApiToken), .cel [.ptr 0 0], .cel [.int .i64 0, .str ([]), .int .i64 0], .cel [.int .i64 v_481]]⟩ := rfl
noncomputable def f14_C9 (s_1 : (List UInt8)) (out_330 : (List ApiToken)) (v_481 : Int) : Il (Int) where
  run := (Lp.run (f14_L10 s_1 out_330 v_481) (IntKind.i64.wrap (v_481 + 1))).bind fun v_526 => (some v_526)
  res := fun v_520 => .tup []
  hp := fun v_520 => [.cel [.str s_1, .int .i64 v_520], .els 3 (out_330.map eApiToken), .cel [.ptr 0 0], .cel [.int .i64 0, .str ([]), .int .i64 0], .cel [.int .i64 v_481]]
noncomputable def f14_C11 (s_1 : (List UInt8)) (v_481 : Int) (v_520 : Int) (out_330 : (List ApiToken)) : Il ((List UInt8)) where
  run := (slc? s_1 v_481 (IntKind.i64.wrap (v_520 + 1))).bind fun s_533 => (some s_533)
  res := fun v_532 => .tup [.agg [.int .i64 0, .str v_532, .int .i64 v_481], .bool true]
  hp := fun v_532 => [.cel [.str s_1, .int .i64 (IntKind.i64.wrap (v_520 + 1))], .els 3 (out_330.map eApiToken), .cel [.ptr 0 0], .cel [.int .i64 0, .str ([]), .int .i64 0], .cel [.int .i64 v_481], .cel [.int .i64 0, .str v_532, .int .i64 v_481]]
noncomputable def f14_L13 (s_1 : (List UInt8)) (out_330 : (List ApiToken)) (v_481 : Int) : Lp (Int) (Int) where
  body := fun v_545 => (f38_44p s_1 v_545 0).bind fun r_548 => (if r_548 = true then (some (.next (IntKind.i64.wrap (v_545 + 1)))) else (some (.brk v_545)))
  cst := fun v_545 => ⟨put (put (fun _ => .junk) 1 (.fn 44 [])) 0 (.ptr 0 0), [.cel [.str s_1, .int .i64 v_545], .els 3 (out_330.map eApiToken), .cel [.ptr 0 0], .cel [.int .i64 0, .str ([]), .int .i64 0], .cel [.int .i64 v_481]]⟩
theorem f14_L13c (s_1 : (List UInt8)) (out_330 : (List ApiToken)) (v_481 : Int) (v_545 : Int) : (f14_L13 s_1 out_330 v_481).cst v_545 = ⟨put (put (fun _ => .junk) 1 (.fn 44 [])) 0 (.ptr 0 0), [.cel [.str s_1, .int .i64 v_545], .els 3 (out_330.map eApiToken), .cel [.ptr 0 0], .cel [.int .i64 0, .str ([]), .int .i64 0], .cel [.int .i64 v_481]]⟩ := rfl
noncomputable def f14_C12 (s_1 : (List UInt8)) (out_330 : (List ApiToken)) (v_481 : Int) : Il (Int) where
  run := (Lp.run (f14_L13 s_1 out_330 v_481) v_481).bind fun v_547 => (some v_547)
  res := fun v_541 => .tup []
  hp := fun v_541 => [.cel [.str s_1, .int .i64 v_541], .els 3 (out_330.map eApiToken), .cel [.ptr 0 0], .cel [.int .i64 0, .str ([]), .int .i64 0], .cel [.int .i64 v_481]]
noncomputable def f14_L15 (s_1 : (List UInt8)) (out_330 : (List ApiToken)) (v_481 : Int) : Lp (Int) (Int) where
  body := fun v_561 => (f38_44p s_1 v_561 0).bind fun r_564 => (if r_564 = true then (some (.next (IntKind.i64.wrap (v_561 + 1)))) else (some (.brk v_561)))
  cst := fun v_561 => ⟨put (put (fun _ => .junk) 1 (.fn 44 [])) 0 (.ptr 0 0), [.cel [.str s_1, .int .i64 v_561], .els 3 (out_330.map eApiToken), .cel [.ptr 0 0], .cel [.int .i64 0, .str ([]), .int .i64 0], .cel [.int .i64 v_481]]⟩
theorem f14_L15c (s_1 : (List UInt8)) (out_330 : (List ApiToken)) (v_481 : Int) (v_561 : Int) : (f14_L15 s_1 out_330 v_481).cst v_561 = ⟨put (put (fun _ => .junk) 1 (.fn 44 [])) 0 (.ptr 0 0), [.cel [.str s_1, .int .i64 v_561], .els 3 (out_330.map eApiToken), .cel [.ptr 0 0], .cel [.int .i64 0, .str ([]), .int .i64 0], .cel [.int .i64 v_481]]⟩ := rfl
noncomputable def f14_C14 (s_1 : (List UInt8)) (out_330 : (List ApiToken)) (v_481 : Int) (v_541 : Int) : Il (Int) where
  run := (Lp.run (f14_L15 s_1 out_330 v_481) (IntKind.i64.wrap (v_541 + 1))).bind fun v_563 => (some v_563)
  res := fun v_557 => .tup []
  hp := fun v_557 => [.cel [.str s_1, .int .i64 v_557], .els 3 (out_330.map eApiToken), .cel [.ptr 0 0], .cel [.int .i64 0, .str ([]), .int .i64 0], .cel [.int .i64 v_481]]
noncomputable def f14_C16 (s_1 : (List UInt8)) (v_481 : Int) (v_557 : Int) (out_330 : (List ApiToken)) : Il ((List UInt8)) where
  run := (slc? s_1 v_481 v_557).bind fun s_568 => (some s_568)
  res := fun v_567 => .tup [.agg [.int .i64 1, .str v_567, .int .i64 v_481], .bool true]
  hp := fun v_567 => [.cel [.str s_1, .int .i64 v_557], .els 3 (out_330.map eApiToken), .cel [.ptr 0 0], .cel [.int .i64 0, .str ([]), .int .i64 0], .cel [.int .i64 v_481], .cel [.int .i64 1, .str v_567, .int .i64 v_481]]
noncomputable def f14_C17 (s_1 : (List UInt8)) (v_481 : Int) (v_541 : Int) (out_330 : (List ApiToken)) : Il ((List UInt8)) where
  run := (slc? s_1 v_481 v_541).bind fun s_572 => (some s_572)
  res := fun v_571 => .tup [.agg [.int .i64 1, .str v_571, .int .i64 v_481], .bool true]
  hp := fun v_571 => [.cel [.str s_1, .int .i64 v_541], .els 3 (out_330.map eApiToken), .cel [.ptr 0 0], .cel [.int .i64 0, .str ([]), .int .i64 0], .cel [.int .i64 v_481], .cel [.int .i64 1, .str v_571, .int .i64 v_481]]
noncomputable def f14_C18 (s_1 : (List UInt8)) (v_481 : Int) (v_541 : Int) (out_330 : (List ApiToken)) : Il ((List UInt8)) where
  run := (slc? s_1 v_481 v_541).bind fun s_576 => (some s_576)
  res := fun v_575 => .tup [.agg [.int .i64 1, .str v_575, .int .i64 v_481], .bool true]
  hp := fun v_575 => [.cel [.str s_1, .int .i64 v_541], .els 3 (out_330.map eApiToken), .cel [.ptr 0 0], .cel [.int .i64 0, .str ([]), .int .i64 0], .cel [.int .i64 v_481], .cel [.int .i64 1, .str v_575, .int .i64 v_481]]
noncomputable def f14_C19 (s_1 : (List UInt8)) (v_481 : Int) (out_330 : (List ApiToken)) : Il ((List UInt8)) where
  run := (slc? s_1 v_481 (IntKind.i64.wrap (v_481 + 1))).bind fun s_581 => (some s_581)
  res := fun v_580 => .tup [.agg [.int .i64 2, .str v_580, .int .i64 v_481], .bool true]
  hp := fun v_580 => [.cel [.str s_1, .int .i64 (IntKind.i64.wrap (v_481 + 1))], .els 3 (out_330.map eApiToken), .cel [.ptr 0 0], .cel [.int .i64 0, .str ([]), .int .i64 0], .cel [.int .i64 v_481], .cel [.int .i64 2, .str v_580, .int .i64 v_481]]
noncomputable def f14_C2 (s_1 : (List UInt8)) (out_330 : (List ApiToken)) (r_329 : Int) : Il (Bool × Int × Int × (List UInt8) × Int) where
  run := ((f14_C3 s_1 out_330 r_329).run.bind fun v_481 => (if (decide (v_481 = ((s_1.length : Nat) : Int))) = true then ((f14_C5 s_1 v_481 out_330).run.bind fun v_491 => (some (true, v_481, 3, v_491, v_481))) else (f38_39p s_1 v_481 0).bind fun r_493 => (if r_493 = true then ((f14_C6 s_1 out_330 v_481).run.bind fun v_500 => ((f14_C8 s_1 v_481 v_500 out_330).run.bind fun v_510 => (f41 v_510).bind fun r_512 => (some (true, v_500, 0, r_512, v_481)))) else (at? s_1 v_481).bind fun b_513 => (if (decide ((b_513.toNat : Int) = 34)) = true then ((f14_C9 s_1 out_330 v_481).run.bind fun v_520 => (f38_43p s_1 v_520 0).bind fun r_529 => (if (!r_529) = true then (some (false, v_481, 0, [], 0)) else ((f14_C11 s_1 v_481 v_520 out_330).run.bind fun v_532 => (some (true, (IntKind.i64.wrap (v_520 + 1)), 0, v_532, v_481))))) else (f38_44p s_1 v_481 0).bind fun r_534 => (if r_534 = true then ((f14_C12 s_1 out_330 v_481).run.bind fun v_541 => (f38_45p s_1 v_541 0).bind fun r_549 => (if r_549 = true then (f38_44p s_1 v_541 1).bind fun r_550 => (if r_550 = true then ((f14_C14 s_1 out_330 v_481 v_541).run.bind fun v_557 => ((f14_C16 s_1 v_481 v_557 out_330).run.bind fun v_567 => (some (true, v_557, 1, v_567, v_481)))) else ((f14_C17 s_1 v_481 v_541 out_330).run.bind fun v_571 => (some (true, v_541, 1, v_571, v_481)))) else ((f14_C18 s_1 v_481 v_541 out_330).run.bind fun v_575 => (some (true, v_541, 1, v_575, v_481))))) else (f38_46p s_1 v_481 0).bind fun r_577 => (if r_577 = true then ((f14_C19 s_1 v_481 out_330).run.bind fun v_580 => (some (true, (IntKind.i64.wrap (v_481 + 1)), 2, v_580, v_481))) else (some (false, v_481, 0, [], 0))))))))
  res := fun (v_470, v_471, v_472, v_473, v_474) => .tup [.agg [.int .i64 v_472, .str v_473, .int .i64 v_474], .bool v_470]
  hp := fun (v_470, v_471, v_472, v_473, v_474) => [.cel [.str s_1, .int .i64 v_471], .els 3 (out_330.map eApiToken), .cel [.int .i64 v_472, .str v_473, .int .i64 v_474]]
noncomputable def f14_L1 (s_1 : (List UInt8)) : Lp (Int × (List ApiToken)) ((Int × Int) ⊕ ((List ApiToken))) where
  body := fun (r_329, out_330) => ((f14_C2 s_1 out_330 r_329).run.bind fun (v_470, v_471, v_472, v_473, v_474) => (if (!v_470) = true then (some (.brk (Sum.inl (v_471, 4)))) else (if (decide (((out_330.length : Nat) : Int) = 256)) = true then (some (.brk (Sum.inl (v_474, 5)))) else (app? 32 out_330 ([(ApiToken.mk v_472 v_473 v_474)])).bind fun out_582 => (if (decide (v_472 = 3)) = true then (some (.brk (Sum.inr out_582))) else (some (.next (v_471, out_582)))))))
  cst := fun (r_329, out_330) => ⟨put (put (fun _ => .junk) 6 (.row 3 1 0 out_330.length)) 5 (.ptr 0 0), [.cel [.str s_1, .int .i64 r_329], .els 3 (out_330.map eApiToken)]⟩
theorem f14_L1c (s_1 : (List UInt8)) (r_329 : Int) (out_330 : (List ApiToken)) : (f14_L1 s_1).cst (r_329, out_330) = ⟨put (put (fun _ => .junk) 6 (.row 3 1 0 out_330.length)) 5 (.ptr 0 0), [.cel [.str s_1, .int .i64 r_329], .els 3 (out_330.map eApiToken)]⟩ := rfl
def c14_0 : C := .cond (.t 11) (.seq (.reg [iI 2 (.mv (.c (.sl 3 true []))), iI 3 (.mv (.c (.int .i64 0))), iI 4 (.mv (.c (.int .i64 13)))]) .ret) (.skip)
def c14_1 : C := .cond (.t 27) (.seq (.reg [iI 31 (.faddr 2 (.t 7)), iI 32 (.load 0 (.t 31)), iI 2 (.mv (.c (.sl 3 true []))), iI 3 (.mv (.t 32)), iI 4 (.mv (.c (.int .i64 5)))]) .ret) (.skip)
def c14_2 : C := .cond (.t 20) (.seq (.reg [iI 23 (.mv (.t 5)), iI 24 (.nilchk (.t 23)), iI 25 (.faddr 1 (.t 24)), iI 26 (.load 0 (.t 25)), iI 2 (.mv (.c (.sl 3 true []))), iI 3 (.mv (.t 26)), iI 4 (.mv (.c (.int .i64 4)))]) .ret) (.seq (.reg [iI 28 (.mv (.t 6)), iI 29 (.len 0 (.t 28)), iI 30 (.bin .eql (.t 29) (.c (.int .i64 256))), iI 27 (.mv (.t 30))]) c14_1)
def c14_3 : C := .cond (.t 39) (.seq (.reg [iI 40 (.mv (.t 6)), iI 2 (.mv (.t 40)), iI 3 (.mv (.c (.int .i64 0))), iI 4 (.mv (.c (.int .i64 0)))]) .ret) (.skip)
def c14_4 : C := .seq (.reg [iI 37 (.faddr 0 (.t 7)), iI 38 (.load 0 (.t 37)), iI 39 (.bin .eql (.t 38) (.c (.int .i64 3)))]) c14_3
def c14_5 : C := .seq (.reg [iI 33 (.mv (.t 6)), iI 34 (.load 3 (.t 7)), iI 35 (.mkslp 3 1 (.agg [(.int .i64 0), (.str []), (.int .i64 0)]) [(0, (.t 34))]), iI 36 (.append 3 32 (.t 33) (.t 35)), iI 6 (.mv (.t 36))]) c14_4
def c14_6 : C := .seq (.block 2 (.seq (.reg [iI 21 (.mv (.t 8)), iI 22 (.un .not (.t 21)), iI 20 (.mv (.t 22))]) c14_2)) c14_5
def c14_7 : C := .block 0 (.loop (.block 1 (.seq (.reg [iI 16 (.mv (.t 5)), iI 17 (.call (.c (.fn 24 [])) [(.t 16)]), iI 15 (.mv (.t 17)), iI 18 (.ext (.t 15) 0), iI 19 (.ext (.t 15) 1), iI 7 (.alloc [(1, (.int .i64 0)), (1, (.str [])), (1, (.int .i64 0))]), iN (.store 3 (.t 7) (.t 18)), iI 8 (.mv (.t 19))]) c14_6)))
def c14_8 : C := .seq (.reg [iI 6 (.mv (.c (.sl 3 true [])))]) c14_7
def c14_9 : C := .seq (.reg [iI 12 (.mv (.t 0)), iI 13 (.build [(1, (.str [])), (1, (.int .i64 0))] [(0, 0, (.t 12))]), iI 14 (.box (.t 13)), iI 5 (.mv (.t 14))]) c14_8
def c14_10 : C := .seq (.seq (.reg [iI 9 (.mv (.t 0)), iI 10 (.len 1 (.t 9)), iI 11 (.bin .gtr (.t 10) (.c (.int .i64 4096)))]) c14_0) c14_9
def ir14 : C := .seq (.reg [iI 2 (.mv (.c (.sl 3 true []))), iI 3 (.mv (.c (.int .i64 0))), iI 4 (.mv (.c (.int .i64 0)))]) c14_10
theorem fd14 : fd? Try.prog 14 = some (41, [.slot 2, .slot 3, .slot 4], ir14) := by kernel_rfl
noncomputable def f14 (s_1 : (List UInt8)) : Option ((List ApiToken) × Int × Int) :=
  (if (decide (4096 < ((s_1.length : Nat) : Int))) = true then (some ([], 0, 13)) else ((Lp.run (f14_L1 s_1) (0, [])).bind fun r_ => match r_ with | (Sum.inl (v_402, v_403)) => (some ([], v_402, v_403)) | (Sum.inr v_404) => (some (v_404, 0, 0))))
theorem f14_ok {s_1 : (List UInt8)} {r_ : (List ApiToken) × Int × Int} (H : f14 s_1 = some r_) : Pure Try.prog 14 [.str s_1] (· = .tup [.fr 3 (r_.1.map eApiToken), .int .i64 r_.2.1, .int .i64 r_.2.2]) := by
 refine Pure.walk3 fd14 (some 0) (Nat.le_of_ble_eq_true rfl) (by rfl) fun Q hQ => ?_
 simp only [f14] at H
 refine AW.rseq ?_
 try simp only [↓wk, ↓wl, nq, evV, ↓reduceIte, sevalprocAttr]
 refine AW.sseq ?_
 refine AW.rseq ?_
 try simp only [↓wk, ↓wl, nq, evV, ↓reduceIte, sevalprocAttr]
 refine AW.ifc H (by rfl) ?_ ?_ <;> clear H <;> intro H
 ·refine AW.rseq ?_
  try simp only [↓wk, ↓wl, nq, evV, ↓reduceIte, sevalprocAttr]
  refine AW.ret ?_
  refine seqQ.ret ?_
  cases H
  exact hQ _ _ _ _ (.inr rfl) (by simp only [resVs, omap, resV, ↓wk, ↓wl, nq, evV, ↓reduceIte, sevalprocAttr]; rfl) (hand_k0 (by rfl) (by rfl)) (by first | exact Or.inl rfl | exact Or.inr rfl)
 ·refine AW.skip ?_
  refine seqQ.norm ?_
  refine AW.rseq ?_
  try simp only [↓wk, ↓wl, nq, evV, ↓reduceIte, sevalprocAttr]
  refine AW.rseq ?_
  try simp only [↓wk, ↓wl, nq, evV, ↓reduceIte, sevalprocAttr]
  refine AW.bend ?_
  refine AW.iter H ((Le.trans (Le.nilRow (i := 6) (e := 3) (by simp only [↓wk, ↓wl, nq, evV, ↓reduceIte, sevalprocAttr])) (Le.tz [0, 1] [5, 6] (by simp only [f14_L1c, rrm, ↓wk, ↓wl, evV, ↓reduceIte, sevalprocAttr] <;> rfl)))) ?_ <;> clear H
  rintro ⟨r_329, out_330⟩ x_ st0_ H hst_
  rw [f14_L1c] at hst_
  simp only [f14_L1] at H
  subst hst_
  refine AW.bend ?_
  refine AW.rseq ?_
  try simp only [↓wk, ↓wl, nq, evV, ↓reduceIte, sevalprocAttr]
  refine evTs_inl (I := f14_C2 s_1 out_330 r_329) (args := [.ptr 0 0]) H (by rfl) fd24 (by rfl) (Nat.le_of_ble_eq_true rfl) ?_ ?_ <;> clear H
  ·rintro v_ Q_ H hqf14_C2
   simp only [f14_C2] at H
   dsimp only [List.length_cons, List.length_nil]
   refine AW.rseq ?_
   try simp only [↓wk, ↓wl, nq, evV, ↓reduceIte, sevalprocAttr]
   refine AW.rseq ?_
   try simp only [↓wk, ↓wl, nq, evV, ↓reduceIte, sevalprocAttr]
   refine evTs_inl (I := f14_C3 s_1 out_330 r_329) (args := [.ptr 0 0, .fn 36 []]) H (by rfl) fd35 (by rfl) (Nat.le_of_ble_eq_true rfl) ?_ ?_ <;> clear H
   ·rintro v_ Q_ H hqf14_C3
    simp only [f14_C3] at H
    dsimp only [List.length_cons, List.length_nil]
    refine AW.bend ?_
    refine AW.iter H ((Le.tq 4 [0, 1, 2, 3] [0, 1] (by simp only [f14_L4c, rrm, ↓wk, ↓wl, evV, ↓reduceIte, sevalprocAttr] <;> rfl))) ?_ <;> clear H
    rintro v_485 x_ st0_ H hst_
    rw [f14_L4c] at hst_
    simp only [f14_L4] at H
    subst hst_
    refine AW.sseq ?_
    refine AW.rseq ?_
    try simp only [↓wk, ↓wl, nq, evV, ↓reduceIte, sevalprocAttr]
    refine evTs_flat hFn H (fun _ h => f38_36p_ok h) (by rfl) (by rfl) (by simp only [deep_eq, imm_simps, imm_rowE, imm_ptrE, imm_enc, omap_simps, take_map_len, take_map_set, take_map_set2, List.length_set, le_refl_true, Nat.zero_add, and_true, true_and, List.drop_zero, Option.map_some, ↓wk, ↓wl, nq, evV, ↓reduceIte, sevalprocAttr]; rfl) (by rfl) (fun _ => rfl) (fun _ => rfl) ?_ <;> clear H <;> intro r_488 H
    try simp only [eL, ↓wk, ↓wl, nq, evV, ↓reduceIte, sevalprocAttr]
    refine AW.ifc H (by rfl) ?_ ?_ <;> clear H <;> intro H
    ·refine AW.skip ?_
     refine seqQ.norm ?_
     refine AW.bend ?_
     refine AW.rend ?_
     try simp only [↓wk, ↓wl, nq, evV, ↓reduceIte, sevalprocAttr]
     refine blk0.norm ?_
     exact loopQ.next H ((Le.tq 4 [0, 1, 2, 3] [0, 1] (by simp only [f14_L4c, rrm, ↓wk, ↓wl, evV, ↓reduceIte, sevalprocAttr] <;> rfl)))
    ·refine AW.exit ?_
     refine seqQ.exit ?_
     refine loopQ.exit H ?_ <;> clear H <;> intro H
     try dsimp only at H
     refine blk0.here ?_
     cases H
     exact hqf14_C3 _ _ _ (.inl rfl) (Le.tq 4 [0, 1, 2, 3] [] rfl) (by simp only [resVs, omap, resV, f14_C3, rrm, ↓wk, ↓wl, evV, ↓reduceIte, sevalprocAttr]) (by simp only [f14_C3, rrm, ↓wk, ↓wl, evV, ↓reduceIte, sevalprocAttr])
   ·rintro v_481 s_ h_ H hs_ hh_
    simp only [f14_C3] at H hs_ hh_
    subst hs_
    subst hh_
    try simp only [↓wk, ↓wl, nq, evV, ↓reduceIte, sevalprocAttr]
    refine AW.rseq ?_
    try simp only [↓wk, ↓wl, nq, evV, ↓reduceIte, sevalprocAttr]
    refine AW.rseq ?_
    try simp only [↓wk, ↓wl, nq, evV, ↓reduceIte, sevalprocAttr]
    refine AW.bseq ?_
    refine AW.rseq ?_
    try simp only [↓wk, ↓wl, nq, evV, ↓reduceIte, sevalprocAttr]
    refine AW.ifc H (by rfl) ?_ ?_ <;> clear H <;> intro H
    ·refine AW.rseq ?_
     try simp only [↓wk, ↓wl, nq, evV, ↓reduceIte, sevalprocAttr]
     refine evTs_inl (I := f14_C5 s_1 v_481 out_330) (args := [.int .i64 3, .ptr 2 0, .ptr 4 0]) H (by rfl) fd37 (by rfl) (Nat.le_of_ble_eq_true rfl) ?_ ?_ <;> clear H
     ·rintro v_ Q_ H hqf14_C5
      simp only [f14_C5] at H
      dsimp only [List.length_cons, List.length_nil]
      refine AW.rseq ?_
      try simp only [↓wk, ↓wl, nq, evV, ↓reduceIte, sevalprocAttr]
      refine AW.rseq ?_
      try simp only [↓wk, ↓wl, nq, evV, ↓reduceIte, sevalprocAttr]
      refine evTs_sslc H (by rfl) (by simp only [loI, hiI, ↓wk, ↓wl, nq, evV, ↓reduceIte, sevalprocAttr]; rfl) (by simp only [loI, hiI, ↓wk, ↓wl, nq, evV, ↓reduceIte, sevalprocAttr]; rfl) ?_ <;> clear H <;> intro s_492 H
      try simp only [↓wk, ↓wl, nq, evV, ↓reduceIte, sevalprocAttr]
      refine AW.ret ?_
      cases H
      exact hqf14_C5 _ _ _ (.inr rfl) (Le.tq 5 [0, 1, 2, 3, 4, 5] [4, 5] rfl) (by simp only [resVs, omap, resV, f14_C5, rrm, ↓wk, ↓wl, evV, ↓reduceIte, sevalprocAttr]) (by simp only [f14_C5, rrm, ↓wk, ↓wl, evV, ↓reduceIte, sevalprocAttr])
     ·rintro v_491 s_ h_ H hs_ hh_
      simp only [f14_C5] at H hs_ hh_
      subst hs_
      subst hh_
      try simp only [↓wk, ↓wl, nq, evV, ↓reduceIte, sevalprocAttr]
      refine AW.ret ?_
      refine blkQ.ret ?_
      cases H
      exact hqf14_C2 _ _ _ (.inr rfl) (Le.tq 2 [0, 1, 3] [2, 3] rfl) (by simp only [resVs, omap, resV, f14_C2, rrm, ↓wk, ↓wl, evV, ↓reduceIte, sevalprocAttr]) (by simp only [f14_C2, rrm, ↓wk, ↓wl, evV, ↓reduceIte, sevalprocAttr])
    ·refine AW.rseq ?_
     try simp only [↓wk, ↓wl, nq, evV, ↓reduceIte, sevalprocAttr]
     refine evTs_flat hFn H (fun _ h => f38_39p_ok h) (by rfl) (by rfl) (by simp only [deep_eq, imm_simps, imm_rowE, imm_ptrE, imm_enc, omap_simps, take_map_len, take_map_set, take_map_set2, List.length_set, le_refl_true, Nat.zero_add, and_true, true_and, List.drop_zero, Option.map_some, ↓wk, ↓wl, nq, evV, ↓reduceIte, sevalprocAttr]; rfl) (by rfl) (fun _ => rfl) (fun _ => rfl) ?_ <;> clear H <;> intro r_493 H
     try simp only [eL, ↓wk, ↓wl, nq, evV, ↓reduceIte, sevalprocAttr]
     refine AW.ifc H (by rfl) ?_ ?_ <;> clear H <;> intro H
     ·refine AW.rseq ?_
      try simp only [↓wk, ↓wl, nq, evV, ↓reduceIte, sevalprocAttr]
      refine evTs_inl (I := f14_C6 s_1 out_330 v_481) (args := [.ptr 0 0, .fn 40 []]) H (by rfl) fd35 (by rfl) (Nat.le_of_ble_eq_true rfl) ?_ ?_ <;> clear H
      ·rintro v_ Q_ H hqf14_C6
       simp only [f14_C6] at H
       dsimp only [List.length_cons, List.length_nil]
       refine AW.bend ?_
       refine AW.iter H ((Le.tq 5 [0, 1, 2, 3, 4] [0, 1] (by simp only [f14_L7c, rrm, ↓wk, ↓wl, evV, ↓reduceIte, sevalprocAttr] <;> rfl))) ?_ <;> clear H
       rintro v_504 x_ st0_ H hst_
       rw [f14_L7c] at hst_
       simp only [f14_L7] at H
       subst hst_
       refine AW.sseq ?_
       refine AW.rseq ?_
       try simp only [↓wk, ↓wl, nq, evV, ↓reduceIte, sevalprocAttr]
       refine evTs_flat hFn H (fun _ h => f38_40p_ok h) (by rfl) (by rfl) (by simp only [deep_eq, imm_simps, imm_rowE, imm_ptrE, imm_enc, omap_simps, take_map_len, take_map_set, take_map_set2, List.length_set, le_refl_true, Nat.zero_add, and_true, true_and, List.drop_zero, Option.map_some, ↓wk, ↓wl, nq, evV, ↓reduceIte, sevalprocAttr]; rfl) (by rfl) (fun _ => rfl) (fun _ => rfl) ?_ <;> clear H <;> intro r_507 H
       try simp only [eL, ↓wk, ↓wl, nq, evV, ↓reduceIte, sevalprocAttr]
       refine AW.ifc H (by rfl) ?_ ?_ <;> clear H <;> intro H
       ·refine AW.skip ?_
        refine seqQ.norm ?_
        refine AW.bend ?_
        refine AW.rend ?_
        try simp only [↓wk, ↓wl, nq, evV, ↓reduceIte, sevalprocAttr]
        refine blk0.norm ?_
        exact loopQ.next H ((Le.tq 5 [0, 1, 2, 3, 4] [0, 1] (by simp only [f14_L7c, rrm, ↓wk, ↓wl, evV, ↓reduceIte, sevalprocAttr] <;> rfl)))
       ·refine AW.exit ?_
        refine seqQ.exit ?_
        refine loopQ.exit H ?_ <;> clear H <;> intro H
        try dsimp only at H
        refine blk0.here ?_
        cases H
        exact hqf14_C6 _ _ _ (.inl rfl) (Le.tq 5 [0, 1, 2, 3, 4] [] rfl) (by simp only [resVs, omap, resV, f14_C6, rrm, ↓wk, ↓wl, evV, ↓reduceIte, sevalprocAttr]) (by simp only [f14_C6, rrm, ↓wk, ↓wl, evV, ↓reduceIte, sevalprocAttr])
      ·rintro v_500 s_ h_ H hs_ hh_
       simp only [f14_C6] at H hs_ hh_
       subst hs_
       subst hh_
       try simp only [↓wk, ↓wl, nq, evV, ↓reduceIte, sevalprocAttr]
       refine AW.rseq ?_
       try simp only [↓wk, ↓wl, nq, evV, ↓reduceIte, sevalprocAttr]
       refine evTs_inl (I := f14_C8 s_1 v_481 v_500 out_330) (args := [.int .i64 0, .ptr 2 0, .ptr 4 0]) H (by rfl) fd37 (by rfl) (Nat.le_of_ble_eq_true rfl) ?_ ?_ <;> clear H
       ·rintro v_ Q_ H hqf14_C8
        simp only [f14_C8] at H
        dsimp only [List.length_cons, List.length_nil]
        refine AW.rseq ?_
        try simp only [↓wk, ↓wl, nq, evV, ↓reduceIte, sevalprocAttr]
        refine AW.rseq ?_
        try simp only [↓wk, ↓wl, nq, evV, ↓reduceIte, sevalprocAttr]
        refine evTs_sslc H (by rfl) (by simp only [loI, hiI, ↓wk, ↓wl, nq, evV, ↓reduceIte, sevalprocAttr]; rfl) (by simp only [loI, hiI, ↓wk, ↓wl, nq, evV, ↓reduceIte, sevalprocAttr]; rfl) ?_ <;> clear H <;> intro s_511 H
        try simp only [↓wk, ↓wl, nq, evV, ↓reduceIte, sevalprocAttr]
        refine AW.ret ?_
        cases H
        exact hqf14_C8 _ _ _ (.inr rfl) (Le.tq 5 [0, 1, 2, 3, 4, 5] [4, 5] rfl) (by simp only [resVs, omap, resV, f14_C8, rrm, ↓wk, ↓wl, evV, ↓reduceIte, sevalprocAttr]) (by simp only [f14_C8, rrm, ↓wk, ↓wl, evV, ↓reduceIte, sevalprocAttr])
       ·rintro v_510 s_ h_ H hs_ hh_
        simp only [f14_C8] at H hs_ hh_
        subst hs_
        subst hh_
        try simp only [↓wk, ↓wl, nq, evV, ↓reduceIte, sevalprocAttr]
        refine AW.rseq ?_
        try simp only [↓wk, ↓wl, nq, evV, ↓reduceIte, sevalprocAttr]
        refine evTs_pure hFn H (fun _ h => f41_ok h) (by rfl) (by rfl) (by rfl) (by rfl) (fun _ => rfl) ?_ <;> clear H <;> intro r_512 H
        try simp only [eL, ↓wk, ↓wl, nq, evV, ↓reduceIte, sevalprocAttr]
        refine AW.rseq ?_
        try simp only [↓wk, ↓wl, nq, evV, ↓reduceIte, sevalprocAttr]
        refine AW.ret ?_
        refine blkQ.ret ?_
        cases H
        exact hqf14_C2 _ _ _ (.inr rfl) (Le.tq 2 [0, 1, 3] [2, 3] rfl) (by simp only [resVs, omap, resV, f14_C2, rrm, ↓wk, ↓wl, evV, ↓reduceIte, sevalprocAttr]) (by simp only [f14_C2, rrm, ↓wk, ↓wl, evV, ↓reduceIte, sevalprocAttr])
     ·refine AW.rseq ?_
      try simp only [↓wk, ↓wl, nq, evV, ↓reduceIte, sevalprocAttr]
      refine evTs_sat H (by rfl) (by rfl) ?_ <;> clear H <;> intro b_513 H
      try simp only [↓wk, ↓wl, nq, evV, ↓reduceIte, sevalprocAttr]
      refine AW.ifc H (by rfl) ?_ ?_ <;> clear H <;> intro H
      ·refine AW.rseq ?_
       try simp only [↓wk, ↓wl, nq, evV, ↓reduceIte, sevalprocAttr]
       refine AW.rseq ?_
       try simp only [↓wk, ↓wl, nq, evV, ↓reduceIte, sevalprocAttr]
       refine evTs_inl (I := f14_C9 s_1 out_330 v_481) (args := [.ptr 0 0, .fn 42 []]) H (by rfl) fd35 (by rfl) (Nat.le_of_ble_eq_true rfl) ?_ ?_ <;> clear H
       ·rintro v_ Q_ H hqf14_C9
        simp only [f14_C9] at H
        dsimp only [List.length_cons, List.length_nil]
        refine AW.bend ?_
        refine AW.iter H ((Le.tq 5 [0, 1, 2, 3, 4] [0, 1] (by simp only [f14_L10c, rrm, ↓wk, ↓wl, evV, ↓reduceIte, sevalprocAttr] <;> rfl))) ?_ <;> clear H
        rintro v_524 x_ st0_ H hst_
        rw [f14_L10c] at hst_
        simp only [f14_L10] at H
        subst hst_
        refine AW.sseq ?_
        refine AW.rseq ?_
        try simp only [↓wk, ↓wl, nq, evV, ↓reduceIte, sevalprocAttr]
        refine evTs_flat hFn H (fun _ h => f38_42p_ok h) (by rfl) (by rfl) (by simp only [deep_eq, imm_simps, imm_rowE, imm_ptrE, imm_enc, omap_simps, take_map_len, take_map_set, take_map_set2, List.length_set, le_refl_true, Nat.zero_add, and_true, true_and, List.drop_zero, Option.map_some, ↓wk, ↓wl, nq, evV, ↓reduceIte, sevalprocAttr]; rfl) (by rfl) (fun _ => rfl) (fun _ => rfl) ?_ <;> clear H <;> intro r_527 H
        try simp only [eL, ↓wk, ↓wl, nq, evV, ↓reduceIte, sevalprocAttr]
        refine AW.ifc H (by rfl) ?_ ?_ <;> clear H <;> intro H
        ·refine AW.skip ?_
         refine seqQ.norm ?_
         refine AW.bend ?_
         refine AW.rend ?_
         try simp only [↓wk, ↓wl, nq, evV, ↓reduceIte, sevalprocAttr]
         refine blk0.norm ?_
         exact loopQ.next H ((Le.tq 5 [0, 1, 2, 3, 4] [0, 1] (by simp only [f14_L10c, rrm, ↓wk, ↓wl, evV, ↓reduceIte, sevalprocAttr] <;> rfl)))
        ·refine AW.exit ?_
         refine seqQ.exit ?_
         refine loopQ.exit H ?_ <;> clear H <;> intro H
         try dsimp only at H
         refine blk0.here ?_
         cases H
         exact hqf14_C9 _ _ _ (.inl rfl) (Le.tq 5 [0, 1, 2, 3, 4] [] rfl) (by simp only [resVs, omap, resV, f14_C9, rrm, ↓wk, ↓wl, evV, ↓reduceIte, sevalprocAttr]) (by simp only [f14_C9, rrm, ↓wk, ↓wl, evV, ↓reduceIte, sevalprocAttr])
       ·rintro v_520 s_ h_ H hs_ hh_
        simp only [f14_C9] at H hs_ hh_
        subst hs_
        subst hh_
        try simp only [↓wk, ↓wl, nq, evV, ↓reduceIte, sevalprocAttr]
        refine AW.sseq ?_
        refine AW.rseq ?_
        try simp only [↓wk, ↓wl, nq, evV, ↓reduceIte, sevalprocAttr]
        refine evTs_flat hFn H (fun _ h => f38_43p_ok h) (by rfl) (by rfl) (by simp only [deep_eq, imm_simps, imm_rowE, imm_ptrE, imm_enc, omap_simps, take_map_len, take_map_set, take_map_set2, List.length_set, le_refl_true, Nat.zero_add, and_true, true_and, List.drop_zero, Option.map_some, ↓wk, ↓wl, nq, evV, ↓reduceIte, sevalprocAttr]; rfl) (by rfl) (fun _ => rfl) (fun _ => rfl) ?_ <;> clear H <;> intro r_529 H
        try simp only [eL, ↓wk, ↓wl, nq, evV, ↓reduceIte, sevalprocAttr]
        refine AW.ifc H (by rfl) ?_ ?_ <;> clear H <;> intro H
        ·refine AW.rseq ?_
         try simp only [↓wk, ↓wl, nq, evV, ↓reduceIte, sevalprocAttr]
         refine AW.rseq ?_
         try simp only [↓wk, ↓wl, nq, evV, ↓reduceIte, sevalprocAttr]
         refine AW.ret ?_
         refine seqQ.ret ?_
         refine blkQ.ret ?_
         cases H
         exact hqf14_C2 _ _ _ (.inr rfl) (Le.tq 2 [0, 1, 3] [2, 3] rfl) (by simp only [resVs, omap, resV, f14_C2, rrm, ↓wk, ↓wl, evV, ↓reduceIte, sevalprocAttr]) (by simp only [f14_C2, rrm, ↓wk, ↓wl, evV, ↓reduceIte, sevalprocAttr])
        ·refine AW.skip ?_
         refine seqQ.norm ?_
         refine AW.rseq ?_
         try simp only [↓wk, ↓wl, nq, evV, ↓reduceIte, sevalprocAttr]
         refine AW.rseq ?_
         try simp only [↓wk, ↓wl, nq, evV, ↓reduceIte, sevalprocAttr]
         refine evTs_inl (I := f14_C11 s_1 v_481 v_520 out_330) (args := [.int .i64 0, .ptr 2 0, .ptr 4 0]) H (by rfl) fd37 (by rfl) (Nat.le_of_ble_eq_true rfl) ?_ ?_ <;> clear H
         ·rintro v_ Q_ H hqf14_C11
          simp only [f14_C11] at H
          dsimp only [List.length_cons, List.length_nil]
          refine AW.rseq ?_
          try simp only [↓wk, ↓wl, nq, evV, ↓reduceIte, sevalprocAttr]
          refine AW.rseq ?_
          try simp only [↓wk, ↓wl, nq, evV, ↓reduceIte, sevalprocAttr]
          refine evTs_sslc H (by rfl) (by simp only [loI, hiI, ↓wk, ↓wl, nq, evV, ↓reduceIte, sevalprocAttr]; rfl) (by simp only [loI, hiI, ↓wk, ↓wl, nq, evV, ↓reduceIte, sevalprocAttr]; rfl) ?_ <;> clear H <;> intro s_533 H
          try simp only [↓wk, ↓wl, nq, evV, ↓reduceIte, sevalprocAttr]
          refine AW.ret ?_
          cases H
          exact hqf14_C11 _ _ _ (.inr rfl) (Le.tq 5 [0, 1, 2, 3, 4, 5] [4, 5] rfl) (by simp only [resVs, omap, resV, f14_C11, rrm, ↓wk, ↓wl, evV, ↓reduceIte, sevalprocAttr]) (by simp only [f14_C11, rrm, ↓wk, ↓wl, evV, ↓reduceIte, sevalprocAttr])
         ·rintro v_532 s_ h_ H hs_ hh_
          simp only [f14_C11] at H hs_ hh_
          subst hs_
          subst hh_
          try simp only [↓wk, ↓wl, nq, evV, ↓reduceIte, sevalprocAttr]
          refine AW.ret ?_
          refine blkQ.ret ?_
          cases H
          exact hqf14_C2 _ _ _ (.inr rfl) (Le.tq 2 [0, 1, 3] [2, 3] rfl) (by simp only [resVs, omap, resV, f14_C2, rrm, ↓wk, ↓wl, evV, ↓reduceIte, sevalprocAttr]) (by simp only [f14_C2, rrm, ↓wk, ↓wl, evV, ↓reduceIte, sevalprocAttr])
      ·refine AW.rseq ?_
       try simp only [↓wk, ↓wl, nq, evV, ↓reduceIte, sevalprocAttr]
       refine evTs_flat hFn H (fun _ h => f38_44p_ok h) (by rfl) (by rfl) (by simp only [deep_eq, imm_simps, imm_rowE, imm_ptrE, imm_enc, omap_simps, take_map_len, take_map_set, take_map_set2, List.length_set, le_refl_true, Nat.zero_add, and_true, true_and, List.drop_zero, Option.map_some, ↓wk, ↓wl, nq, evV, ↓reduceIte, sevalprocAttr]; rfl) (by rfl) (fun _ => rfl) (fun _ => rfl) ?_ <;> clear H <;> intro r_534 H
       try simp only [eL, ↓wk, ↓wl, nq, evV, ↓reduceIte, sevalprocAttr]
       refine AW.ifc H (by rfl) ?_ ?_ <;> clear H <;> intro H
       ·refine AW.rseq ?_
        try simp only [↓wk, ↓wl, nq, evV, ↓reduceIte, sevalprocAttr]
        refine evTs_inl (I := f14_C12 s_1 out_330 v_481) (args := [.ptr 0 0, .fn 44 []]) H (by rfl) fd35 (by rfl) (Nat.le_of_ble_eq_true rfl) ?_ ?_ <;> clear H
        ·rintro v_ Q_ H hqf14_C12
         simp only [f14_C12] at H
         dsimp only [List.length_cons, List.length_nil]
         refine AW.bend ?_
         refine AW.iter H ((Le.tq 5 [0, 1, 2, 3, 4] [0, 1] (by simp only [f14_L13c, rrm, ↓wk, ↓wl, evV, ↓reduceIte, sevalprocAttr] <;> rfl))) ?_ <;> clear H
         rintro v_545 x_ st0_ H hst_
         rw [f14_L13c] at hst_
         simp only [f14_L13] at H
         subst hst_
         refine AW.sseq ?_
         refine AW.rseq ?_
         try simp only [↓wk, ↓wl, nq, evV, ↓reduceIte, sevalprocAttr]
         refine evTs_flat hFn H (fun _ h => f38_44p_ok h) (by rfl) (by rfl) (by simp only [deep_eq, imm_simps, imm_rowE, imm_ptrE, imm_enc, omap_simps, take_map_len, take_map_set, take_map_set2, List.length_set, le_refl_true, Nat.zero_add, and_true, true_and, List.drop_zero, Option.map_some, ↓wk, ↓wl, nq, evV, ↓reduceIte, sevalprocAttr]; rfl) (by rfl) (fun _ => rfl) (fun _ => rfl) ?_ <;> clear H <;> intro r_548 H
         try simp only [eL, ↓wk, ↓wl, nq, evV, ↓reduceIte, sevalprocAttr]
         refine AW.ifc H (by rfl) ?_ ?_ <;> clear H <;> intro H
         ·refine AW.skip ?_
          refine seqQ.norm ?_
          refine AW.bend ?_
          refine AW.rend ?_
          try simp only [↓wk, ↓wl, nq, evV, ↓reduceIte, sevalprocAttr]
          refine blk0.norm ?_
          exact loopQ.next H ((Le.tq 5 [0, 1, 2, 3, 4] [0, 1] (by simp only [f14_L13c, rrm, ↓wk, ↓wl, evV, ↓reduceIte, sevalprocAttr] <;> rfl)))
         ·refine AW.exit ?_
          refine seqQ.exit ?_
          refine loopQ.exit H ?_ <;> clear H <;> intro H
          try dsimp only at H
          refine blk0.here ?_
          cases H
          exact hqf14_C12 _ _ _ (.inl rfl) (Le.tq 5 [0, 1, 2, 3, 4] [] rfl) (by simp only [resVs, omap, resV, f14_C12, rrm, ↓wk, ↓wl, evV, ↓reduceIte, sevalprocAttr]) (by simp only [f14_C12, rrm, ↓wk, ↓wl, evV, ↓reduceIte, sevalprocAttr])
        ·rintro v_541 s_ h_ H hs_ hh_
         simp only [f14_C12] at H hs_ hh_
         subst hs_
         subst hh_
         try simp only [↓wk, ↓wl, nq, evV, ↓reduceIte, sevalprocAttr]
         refine AW.sseq ?_
         refine AW.rseq ?_
         try simp only [↓wk, ↓wl, nq, evV, ↓reduceIte, sevalprocAttr]
         refine evTs_flat hFn H (fun _ h => f38_45p_ok h) (by rfl) (by rfl) (by simp only [deep_eq, imm_simps, imm_rowE, imm_ptrE, imm_enc, omap_simps, take_map_len, take_map_set, take_map_set2, List.length_set, le_refl_true, Nat.zero_add, and_true, true_and, List.drop_zero, Option.map_some, ↓wk, ↓wl, nq, evV, ↓reduceIte, sevalprocAttr]; rfl) (by rfl) (fun _ => rfl) (fun _ => rfl) ?_ <;> clear H <;> intro r_549 H
         try simp only [eL, ↓wk, ↓wl, nq, evV, ↓reduceIte, sevalprocAttr]
         refine evTs_ifg H (by rfl) ?_ ?_ <;> clear H <;> intro H
         ·try simp only [↓wk, ↓wl, nq, evV, ↓reduceIte, sevalprocAttr]
          refine evTs_flat hFn H (fun _ h => f38_44p_ok h) (by rfl) (by rfl) (by simp only [deep_eq, imm_simps, imm_rowE, imm_ptrE, imm_enc, omap_simps, take_map_len, take_map_set, take_map_set2, List.length_set, le_refl_true, Nat.zero_add, and_true, true_and, List.drop_zero, Option.map_some, ↓wk, ↓wl, nq, evV, ↓reduceIte, sevalprocAttr]; rfl) (by rfl) (fun _ => rfl) (fun _ => rfl) ?_ <;> clear H <;> intro r_550 H
          try simp only [eL, ↓wk, ↓wl, nq, evV, ↓reduceIte, sevalprocAttr]
          refine AW.ifc H (by rfl) ?_ ?_ <;> clear H <;> intro H
          ·refine AW.rseq ?_
           try simp only [↓wk, ↓wl, nq, evV, ↓reduceIte, sevalprocAttr]
           refine AW.rend ?_
           try simp only [↓wk, ↓wl, nq, evV, ↓reduceIte, sevalprocAttr]
           refine evTs_inl (I := f14_C14 s_1 out_330 v_481 v_541) (args := [.ptr 0 0, .fn 44 []]) H (by rfl) fd35 (by rfl) (Nat.le_of_ble_eq_true rfl) ?_ ?_ <;> clear H
           ·rintro v_ Q_ H hqf14_C14
            simp only [f14_C14] at H
            dsimp only [List.length_cons, List.length_nil]
            refine AW.bend ?_
            refine AW.iter H ((Le.tq 5 [0, 1, 2, 3, 4] [0, 1] (by simp only [f14_L15c, rrm, ↓wk, ↓wl, evV, ↓reduceIte, sevalprocAttr] <;> rfl))) ?_ <;> clear H
            rintro v_561 x_ st0_ H hst_
            rw [f14_L15c] at hst_
            simp only [f14_L15] at H
            subst hst_
            refine AW.sseq ?_
            refine AW.rseq ?_
            try simp only [↓wk, ↓wl, nq, evV, ↓reduceIte, sevalprocAttr]
            refine evTs_flat hFn H (fun _ h => f38_44p_ok h) (by rfl) (by rfl) (by simp only [deep_eq, imm_simps, imm_rowE, imm_ptrE, imm_enc, omap_simps, take_map_len, take_map_set, take_map_set2, List.length_set, le_refl_true, Nat.zero_add, and_true, true_and, List.drop_zero, Option.map_some, ↓wk, ↓wl, nq, evV, ↓reduceIte, sevalprocAttr]; rfl) (by rfl) (fun _ => rfl) (fun _ => rfl) ?_ <;> clear H <;> intro r_564 H
            try simp only [eL, ↓wk, ↓wl, nq, evV, ↓reduceIte, sevalprocAttr]
            refine AW.ifc H (by rfl) ?_ ?_ <;> clear H <;> intro H
            ·refine AW.skip ?_
             refine seqQ.norm ?_
             refine AW.bend ?_
             refine AW.rend ?_
             try simp only [↓wk, ↓wl, nq, evV, ↓reduceIte, sevalprocAttr]
             refine blk0.norm ?_
             exact loopQ.next H ((Le.tq 5 [0, 1, 2, 3, 4] [0, 1] (by simp only [f14_L15c, rrm, ↓wk, ↓wl, evV, ↓reduceIte, sevalprocAttr] <;> rfl)))
            ·refine AW.exit ?_
             refine seqQ.exit ?_
             refine loopQ.exit H ?_ <;> clear H <;> intro H
             try dsimp only at H
             refine blk0.here ?_
             cases H
             exact hqf14_C14 _ _ _ (.inl rfl) (Le.tq 5 [0, 1, 2, 3, 4] [] rfl) (by simp only [resVs, omap, resV, f14_C14, rrm, ↓wk, ↓wl, evV, ↓reduceIte, sevalprocAttr]) (by simp only [f14_C14, rrm, ↓wk, ↓wl, evV, ↓reduceIte, sevalprocAttr])
           ·rintro v_557 s_ h_ H hs_ hh_
            simp only [f14_C14] at H hs_ hh_
            subst hs_
            subst hh_
            try simp only [↓wk, ↓wl, nq, evV, ↓reduceIte, sevalprocAttr]
            refine seqQ.norm ?_
            refine AW.rseq ?_
            try simp only [↓wk, ↓wl, nq, evV, ↓reduceIte, sevalprocAttr]
            refine evTs_inl (I := f14_C16 s_1 v_481 v_557 out_330) (args := [.int .i64 1, .ptr 2 0, .ptr 4 0]) H (by rfl) fd37 (by rfl) (Nat.le_of_ble_eq_true rfl) ?_ ?_ <;> clear H
            ·rintro v_ Q_ H hqf14_C16
             simp only [f14_C16] at H
             dsimp only [List.length_cons, List.length_nil]
             refine AW.rseq ?_
             try simp only [↓wk, ↓wl, nq, evV, ↓reduceIte, sevalprocAttr]
             refine AW.rseq ?_
             try simp only [↓wk, ↓wl, nq, evV, ↓reduceIte, sevalprocAttr]
             refine evTs_sslc H (by rfl) (by simp only [loI, hiI, ↓wk, ↓wl, nq, evV, ↓reduceIte, sevalprocAttr]; rfl) (by simp only [loI, hiI, ↓wk, ↓wl, nq, evV, ↓reduceIte, sevalprocAttr]; rfl) ?_ <;> clear H <;> intro s_568 H
             try simp only [↓wk, ↓wl, nq, evV, ↓reduceIte, sevalprocAttr]
             refine AW.ret ?_
             cases H
             exact hqf14_C16 _ _ _ (.inr rfl) (Le.tq 5 [0, 1, 2, 3, 4, 5] [4, 5] rfl) (by simp only [resVs, omap, resV, f14_C16, rrm, ↓wk, ↓wl, evV, ↓reduceIte, sevalprocAttr]) (by simp only [f14_C16, rrm, ↓wk, ↓wl, evV, ↓reduceIte, sevalprocAttr])
            ·rintro v_567 s_ h_ H hs_ hh_
             simp only [f14_C16] at H hs_ hh_
             subst hs_
             subst hh_
             try simp only [↓wk, ↓wl, nq, evV, ↓reduceIte, sevalprocAttr]
             refine AW.ret ?_
             refine blkQ.ret ?_
             cases H
             exact hqf14_C2 _ _ _ (.inr rfl) (Le.tq 2 [0, 1, 3] [2, 3] rfl) (by simp only [resVs, omap, resV, f14_C2, rrm, ↓wk, ↓wl, evV, ↓reduceIte, sevalprocAttr]) (by simp only [f14_C2, rrm, ↓wk, ↓wl, evV, ↓reduceIte, sevalprocAttr])
          ·refine AW.skip ?_
           refine seqQ.norm ?_
           refine AW.rseq ?_
           try simp only [↓wk, ↓wl, nq, evV, ↓reduceIte, sevalprocAttr]
           refine evTs_inl (I := f14_C17 s_1 v_481 v_541 out_330) (args := [.int .i64 1, .ptr 2 0, .ptr 4 0]) H (by rfl) fd37 (by rfl) (Nat.le_of_ble_eq_true rfl) ?_ ?_ <;> clear H
           ·rintro v_ Q_ H hqf14_C17
            simp only [f14_C17] at H
            dsimp only [List.length_cons, List.length_nil]
            refine AW.rseq ?_
            try simp only [↓wk, ↓wl, nq, evV, ↓reduceIte, sevalprocAttr]
            refine AW.rseq ?_
            try simp only [↓wk, ↓wl, nq, evV, ↓reduceIte, sevalprocAttr]
            refine evTs_sslc H (by rfl) (by simp only [loI, hiI, ↓wk, ↓wl, nq, evV, ↓reduceIte, sevalprocAttr]; rfl) (by simp only [loI, hiI, ↓wk, ↓wl, nq, evV, ↓reduceIte, sevalprocAttr]; rfl) ?_ <;> clear H <;> intro s_572 H
            try simp only [↓wk, ↓wl, nq, evV, ↓reduceIte, sevalprocAttr]
            refine AW.ret ?_
            cases H
            exact hqf14_C17 _ _ _ (.inr rfl) (Le.tq 5 [0, 1, 2, 3, 4, 5] [4, 5] rfl) (by simp only [resVs, omap, resV, f14_C17, rrm, ↓wk, ↓wl, evV, ↓reduceIte, sevalprocAttr]) (by simp only [f14_C17, rrm, ↓wk, ↓wl, evV, ↓reduceIte, sevalprocAttr])
           ·rintro v_571 s_ h_ H hs_ hh_
            simp only [f14_C17] at H hs_ hh_
            subst hs_
            subst hh_
            try simp only [↓wk, ↓wl, nq, evV, ↓reduceIte, sevalprocAttr]
            refine AW.ret ?_
            refine blkQ.ret ?_
            cases H
            exact hqf14_C2 _ _ _ (.inr rfl) (Le.tq 2 [0, 1, 3] [2, 3] rfl) (by simp only [resVs, omap, resV, f14_C2, rrm, ↓wk, ↓wl, evV, ↓reduceIte, sevalprocAttr]) (by simp only [f14_C2, rrm, ↓wk, ↓wl, evV, ↓reduceIte, sevalprocAttr])
         ·try simp only [↓wk, ↓wl, nq, evV, ↓reduceIte, sevalprocAttr]
          refine AW.iff (by rfl) ?_
          refine AW.skip ?_
          refine seqQ.norm ?_
          refine AW.rseq ?_
          try simp only [↓wk, ↓wl, nq, evV, ↓reduceIte, sevalprocAttr]
          refine evTs_inl (I := f14_C18 s_1 v_481 v_541 out_330) (args := [.int .i64 1, .ptr 2 0, .ptr 4 0]) H (by rfl) fd37 (by rfl) (Nat.le_of_ble_eq_true rfl) ?_ ?_ <;> clear H
          ·rintro v_ Q_ H hqf14_C18
           simp only [f14_C18] at H
           dsimp only [List.length_cons, List.length_nil]
           refine AW.rseq ?_
           try simp only [↓wk, ↓wl, nq, evV, ↓reduceIte, sevalprocAttr]
           refine AW.rseq ?_
           try simp only [↓wk, ↓wl, nq, evV, ↓reduceIte, sevalprocAttr]
           refine evTs_sslc H (by rfl) (by simp only [loI, hiI, ↓wk, ↓wl, nq, evV, ↓reduceIte, sevalprocAttr]; rfl) (by simp only [loI, hiI, ↓wk, ↓wl, nq, evV, ↓reduceIte, sevalprocAttr]; rfl) ?_ <;> clear H <;> intro s_576 H
           try simp only [↓wk, ↓wl, nq, evV, ↓reduceIte, sevalprocAttr]
           refine AW.ret ?_
           cases H
           exact hqf14_C18 _ _ _ (.inr rfl) (Le.tq 5 [0, 1, 2, 3, 4, 5] [4, 5] rfl) (by simp only [resVs, omap, resV, f14_C18, rrm, ↓wk, ↓wl, evV, ↓reduceIte, sevalprocAttr]) (by simp only [f14_C18, rrm, ↓wk, ↓wl, evV, ↓reduceIte, sevalprocAttr])
          ·rintro v_575 s_ h_ H hs_ hh_
           simp only [f14_C18] at H hs_ hh_
           subst hs_
           subst hh_
           try simp only [↓wk, ↓wl, nq, evV, ↓reduceIte, sevalprocAttr]
           refine AW.ret ?_
           refine blkQ.ret ?_
           cases H
           exact hqf14_C2 _ _ _ (.inr rfl) (Le.tq 2 [0, 1, 3] [2, 3] rfl) (by simp only [resVs, omap, resV, f14_C2, rrm, ↓wk, ↓wl, evV, ↓reduceIte, sevalprocAttr]) (by simp only [f14_C2, rrm, ↓wk, ↓wl, evV, ↓reduceIte, sevalprocAttr])
       ·refine AW.rseq ?_
        try simp only [↓wk, ↓wl, nq, evV, ↓reduceIte, sevalprocAttr]
        refine evTs_flat hFn H (fun _ h => f38_46p_ok h) (by rfl) (by rfl) (by simp only [deep_eq, imm_simps, imm_rowE, imm_ptrE, imm_enc, omap_simps, take_map_len, take_map_set, take_map_set2, List.length_set, le_refl_true, Nat.zero_add, and_true, true_and, List.drop_zero, Option.map_some, ↓wk, ↓wl, nq, evV, ↓reduceIte, sevalprocAttr]; rfl) (by rfl) (fun _ => rfl) (fun _ => rfl) ?_ <;> clear H <;> intro r_577 H
        try simp only [eL, ↓wk, ↓wl, nq, evV, ↓reduceIte, sevalprocAttr]
        refine AW.ifc H (by rfl) ?_ ?_ <;> clear H <;> intro H
        ·refine AW.rseq ?_
         try simp only [↓wk, ↓wl, nq, evV, ↓reduceIte, sevalprocAttr]
         refine AW.rseq ?_
         try simp only [↓wk, ↓wl, nq, evV, ↓reduceIte, sevalprocAttr]
         refine evTs_inl (I := f14_C19 s_1 v_481 out_330) (args := [.int .i64 2, .ptr 2 0, .ptr 4 0]) H (by rfl) fd37 (by rfl) (Nat.le_of_ble_eq_true rfl) ?_ ?_ <;> clear H
         ·rintro v_ Q_ H hqf14_C19
          simp only [f14_C19] at H
          dsimp only [List.length_cons, List.length_nil]
          refine AW.rseq ?_
          try simp only [↓wk, ↓wl, nq, evV, ↓reduceIte, sevalprocAttr]
          refine AW.rseq ?_
          try simp only [↓wk, ↓wl, nq, evV, ↓reduceIte, sevalprocAttr]
          refine evTs_sslc H (by rfl) (by simp only [loI, hiI, ↓wk, ↓wl, nq, evV, ↓reduceIte, sevalprocAttr]; rfl) (by simp only [loI, hiI, ↓wk, ↓wl, nq, evV, ↓reduceIte, sevalprocAttr]; rfl) ?_ <;> clear H <;> intro s_581 H
          try simp only [↓wk, ↓wl, nq, evV, ↓reduceIte, sevalprocAttr]
          refine AW.ret ?_
          cases H
          exact hqf14_C19 _ _ _ (.inr rfl) (Le.tq 5 [0, 1, 2, 3, 4, 5] [4, 5] rfl) (by simp only [resVs, omap, resV, f14_C19, rrm, ↓wk, ↓wl, evV, ↓reduceIte, sevalprocAttr]) (by simp only [f14_C19, rrm, ↓wk, ↓wl, evV, ↓reduceIte, sevalprocAttr])
         ·rintro v_580 s_ h_ H hs_ hh_
          simp only [f14_C19] at H hs_ hh_
          subst hs_
          subst hh_
          try simp only [↓wk, ↓wl, nq, evV, ↓reduceIte, sevalprocAttr]
          refine AW.ret ?_
          refine blkQ.ret ?_
          cases H
          exact hqf14_C2 _ _ _ (.inr rfl) (Le.tq 2 [0, 1, 3] [2, 3] rfl) (by simp only [resVs, omap, resV, f14_C2, rrm, ↓wk, ↓wl, evV, ↓reduceIte, sevalprocAttr]) (by simp only [f14_C2, rrm, ↓wk, ↓wl, evV, ↓reduceIte, sevalprocAttr])
        ·refine AW.skip ?_
         refine blkQ.norm ?_
         refine AW.rseq ?_
         try simp only [↓wk, ↓wl, nq, evV, ↓reduceIte, sevalprocAttr]
         refine AW.ret ?_
         cases H
         exact hqf14_C2 _ _ _ (.inr rfl) (Le.tq 2 [0, 1, 3] [2, 3] rfl) (by simp only [resVs, omap, resV, f14_C2, rrm, ↓wk, ↓wl, evV, ↓reduceIte, sevalprocAttr]) (by simp only [f14_C2, rrm, ↓wk, ↓wl, evV, ↓reduceIte, sevalprocAttr])
  ·rintro ⟨v_470, v_471, v_472, v_473, v_474⟩ s_ h_ H hs_ hh_
   simp only [f14_C2] at H hs_ hh_
   subst hs_
   subst hh_
   try simp only [↓wk, ↓wl, nq, evV, ↓reduceIte, sevalprocAttr]
   refine AW.bseq ?_
   refine AW.rseq ?_
   try simp only [↓wk, ↓wl, nq, evV, ↓reduceIte, sevalprocAttr]
   refine AW.ifc H (by rfl) ?_ ?_ <;> clear H <;> intro H
   ·refine AW.rseq ?_
    try simp only [↓wk, ↓wl, nq, evV, ↓reduceIte, sevalprocAttr]
    refine AW.ret ?_
    refine blkQ.ret ?_
    refine blk0.ret ?_
    refine loopQ.ret H ?_ <;> clear H <;> intro H
    try dsimp only at H
    refine blk0.ret ?_
    cases H
    exact hQ _ _ _ _ (.inr rfl) (by simp only [resVs, omap, resV, ↓wk, ↓wl, nq, evV, ↓reduceIte, sevalprocAttr]; rfl) (hand_k0 (by rfl) (by rfl)) (by first | exact Or.inl rfl | exact Or.inr rfl)
   ·refine AW.rseq ?_
    try simp only [↓wk, ↓wl, nq, evV, ↓reduceIte, sevalprocAttr]
    refine AW.ifc H (by rfl) ?_ ?_ <;> clear H <;> intro H
    ·refine AW.rseq ?_
     try simp only [↓wk, ↓wl, nq, evV, ↓reduceIte, sevalprocAttr]
     refine AW.ret ?_
     refine blkQ.ret ?_
     refine blk0.ret ?_
     refine loopQ.ret H ?_ <;> clear H <;> intro H
     try dsimp only at H
     refine blk0.ret ?_
     cases H
     exact hQ _ _ _ _ (.inr rfl) (by simp only [resVs, omap, resV, ↓wk, ↓wl, nq, evV, ↓reduceIte, sevalprocAttr]; rfl) (hand_k0 (by rfl) (by rfl)) (by first | exact Or.inl rfl | exact Or.inr rfl)
    ·refine AW.skip ?_
     refine blkQ.norm ?_
     refine AW.rseq ?_
     try simp only [↓wk, ↓wl, nq, evV, ↓reduceIte, sevalprocAttr]
     refine evTs_app (enc := eApiToken) H (by rfl) (by first | rfl | simp only [List.length_set]) (by rfl) (by rfl) ?_ <;> clear H <;> intro out_582 H
     try simp only [↓wk, ↓wl, nq, evV, ↓reduceIte, sevalprocAttr]
     refine AW.rseq ?_
     try simp only [↓wk, ↓wl, nq, evV, ↓reduceIte, sevalprocAttr]
     refine AW.ifc H (by rfl) ?_ ?_ <;> clear H <;> intro H
     ·refine AW.rseq ?_
      try simp only [↓wk, ↓wl, nq, evV, ↓reduceIte, sevalprocAttr]
      refine AW.ret ?_
      refine blk0.ret ?_
      refine loopQ.ret H ?_ <;> clear H <;> intro H
      try dsimp only at H
      refine blk0.ret ?_
      cases H
      exact hQ _ _ _ _ (.inr rfl) (by simp only [resVs, omap, resV, ↓wk, ↓wl, nq, evV, ↓reduceIte, sevalprocAttr]; rfl) (hand_k (by rfl) (by rfl) (by simp) (enc_all _) (by rfl)) (by first | exact Or.inl rfl | exact Or.inr rfl)
     ·refine AW.skip ?_
      refine blk0.norm ?_
      exact loopQ.next H ((Le.tz [0, 4] [5, 6] (by simp only [f14_L1c, rrm, ↓wk, ↓wl, evV, ↓reduceIte, sevalprocAttr] <;> rfl)))
theorem f14_im {s_1 : (List UInt8)} {r_ : (List ApiToken) × Int × Int} (H : f14 s_1 = some r_) : Pure Try.prog 14 [.str s_1] (· = .tup [.sl 3 false (r_.1.map eApiToken), .int .i64 r_.2.1, .int .i64 r_.2.2]) := (f14_ok H).unfr (by first | exact enc_fits _ | simp only [frFits, List.all_cons, List.all_nil, enc_fits, Bool.and_self])
def c28_0 : C := .seq (.reg [iI 3 (.mv (.t 0)), iI 4 (.bin .shr (.t 3) (.c (.int .u64 8))), iI 5 (.cint .u8 (.t 4)), iI 6 (.mv (.t 0)), iI 7 (.cint .u8 (.t 6)), iI 8 (.mkslp 0 2 (.int .u8 0) [(0, (.t 5)), (1, (.t 7))]), iI 9 (.cstr (.t 8)), iI 2 (.mv (.t 9))]) .ret
def ir28 : C := .seq (.reg [iI 2 (.mv (.c (.str [])))]) c28_0
theorem fd28 : fd? Try.prog 28 = some (10, [.slot 2], ir28) := by kernel_rfl
noncomputable def f28 (n_584 : Int) : Option ((List UInt8)) :=
  (some (([(IntKind.u8.wrap (Int.fdiv n_584 (2 ^ (min (Int.toNat 8) (IntKind.bits .i64))))), (IntKind.u8.wrap n_584)]).map b8))
theorem f28_ok {n_584 : Int} {r_ : (List UInt8)} (H : f28 n_584 = some r_) : Pure Try.prog 28 [.int .i64 n_584] (· = .str r_) := by
 refine Pure.walk3 fd28 none (Nat.le_of_ble_eq_true rfl) (by rfl) fun Q hQ => ?_
 simp only [f28] at H
 refine AW.rseq ?_
 try simp only [↓wk, ↓wl, nq, evV, ↓reduceIte, sevalprocAttr]
 refine AW.rseq ?_
 try simp only [↓wk, ↓wl, nq, evV, ↓reduceIte, sevalprocAttr]
 refine rest_shr (by decide) ?_
 try simp only [↓wk, ↓wl, nq, evV, ↓reduceIte, sevalprocAttr]
 refine evTs_cstr (xs := [(IntKind.u8.wrap (Int.fdiv n_584 (2 ^ (min (Int.toNat 8) (IntKind.bits .i64))))), (IntKind.u8.wrap n_584)]) (by rfl) ?_
 try simp only [↓wk, ↓wl, nq, evV, ↓reduceIte, sevalprocAttr]
 refine AW.ret ?_
 cases H
 exact hQ.fin
noncomputable def f29_L1 (s_588 : (List UInt8)) : Lp (Int × Int × Int) (Int × Int) where
  body := fun (a_594, b_595, v_596) => (if (decide (v_596 < ((s_588.length : Nat) : Int))) = true then (at? s_588 v_596).bind fun b_600 => (some (.next (((IntKind.u64.wrap (a_594 + (IntKind.u64.wrap (b_600.toNat : Int)))).tmod 255), ((IntKind.u64.wrap (b_595 + ((IntKind.u64.wrap (a_594 + (IntKind.u64.wrap (b_600.toNat : Int)))).tmod 255))).tmod 255), (IntKind.i64.wrap (v_596 + 1))))) else (some (.brk (a_594, b_595))))
  cst := fun (a_594, b_595, v_596) => ⟨put (put (put (put (put (fun _ => .junk) 8 (.int .i64 v_596)) 7 (.int .i64 ((s_588.length : Nat) : Int))) 4 (.int .u64 b_595)) 3 (.int .u64 a_594)) 0 (.str s_588), []⟩
theorem f29_L1c (s_588 : (List UInt8)) (a_594 : Int) (b_595 : Int) (v_596 : Int) : (f29_L1 s_588).cst (a_594, b_595, v_596) = ⟨put (put (put (put (put (fun _ => .junk) 8 (.int .i64 v_596)) 7 (.int .i64 ((s_588.length : Nat) : Int))) 4 (.int .u64 b_595)) 3 (.int .u64 a_594)) 0 (.str s_588), []⟩ := rfl
def c29_0 : C := .reg [iI 18 (.mv (.t 4)), iI 19 (.mv (.t 3)), iI 20 (.bin .add (.t 18) (.t 19)), iI 21 (.bin .rem (.t 20) (.c (.int .u64 255))), iI 4 (.mv (.t 21))]
def c29_1 : C := .seq (.reg [iI 11 (.mv (.t 3)), iI 12 (.mv (.t 0)), iI 13 (.mv (.t 5)), iI 14 (.sidx (.t 12) (.t 13)), iI 15 (.cint .u64 (.t 14)), iI 16 (.bin .add (.t 11) (.t 15)), iI 17 (.bin .rem (.t 16) (.c (.int .u64 255))), iI 3 (.mv (.t 17))]) c29_0
def c29_2 : C := .reg [iI 22 (.bin .add (.t 8) (.c (.int .i64 1))), iI 8 (.mv (.t 22))]
def c29_3 : C := .seq (.block 1 (.seq (.reg [iI 10 (.mv (.t 8)), iI 5 (.mv (.t 10))]) c29_1)) c29_2
def c29_4 : C := .seq (.cond (.t 9) (.skip) (.exit 0)) c29_3
def c29_5 : C := .block 0 (.loop (.seq (.reg [iI 9 (.bin .lss (.t 8) (.t 7))]) c29_4))
def c29_6 : C := .seq (.reg [iI 23 (.mv (.t 4)), iI 24 (.bin .shl (.t 23) (.c (.int .u64 8))), iI 25 (.mv (.t 3)), iI 26 (.bin .or (.t 24) (.t 25)), iI 27 (.cint .i64 (.t 26)), iI 2 (.mv (.t 27))]) .ret
def c29_7 : C := .seq (.seq (.reg [iI 6 (.mv (.t 0)), iI 7 (.len 1 (.t 6)), iI 8 (.mv (.c (.int .i64 0)))]) c29_5) c29_6
def c29_8 : C := .seq (.reg [iI 3 (.mv (.c (.int .u64 0))), iI 4 (.mv (.c (.int .u64 0)))]) c29_7
def ir29 : C := .seq (.reg [iI 2 (.mv (.c (.int .i64 0)))]) c29_8
theorem fd29 : fd? Try.prog 29 = some (28, [.slot 2], ir29) := by kernel_rfl
noncomputable def f29 (s_588 : (List UInt8)) : Option (Int) :=
  (Lp.run (f29_L1 s_588) (0, 0, 0)).bind fun (a_598, b_599) => (some (IntKind.i64.wrap (IntKind.u64.wrap ((BitVec.ofInt (IntKind.bits .u64) (IntKind.u64.wrap (b_599 * 2 ^ (min (Int.toNat 8) (IntKind.bits .u64)))) ||| BitVec.ofInt (IntKind.bits .u64) a_598).toNat : Int))))
theorem f29_ok {s_588 : (List UInt8)} {r_ : Int} (H : f29 s_588 = some r_) : Pure Try.prog 29 [.str s_588] (· = .int .i64 r_) := by
 refine Pure.walk3 fd29 none (Nat.le_of_ble_eq_true rfl) (by rfl) fun Q hQ => ?_
 simp only [f29] at H
 refine AW.rseq ?_
 try simp only [↓wk, ↓wl, nq, evV, ↓reduceIte, sevalprocAttr]
 refine AW.rseq ?_
 try simp only [↓wk, ↓wl, nq, evV, ↓reduceIte, sevalprocAttr]
 refine AW.sseq ?_
 refine AW.rseq ?_
 try simp only [↓wk, ↓wl, nq, evV, ↓reduceIte, sevalprocAttr]
 refine AW.bend ?_
 refine AW.iter H ((Le.tz [] [0, 3, 4, 7, 8] (by simp only [f29_L1c, rrm, ↓wk, ↓wl, evV, ↓reduceIte, sevalprocAttr] <;> rfl))) ?_ <;> clear H
 rintro ⟨a_594, b_595, v_596⟩ x_ st0_ H hst_
 rw [f29_L1c] at hst_
 simp only [f29_L1] at H
 subst hst_
 refine AW.rseq ?_
 try simp only [↓wk, ↓wl, nq, evV, ↓reduceIte, sevalprocAttr]
 refine AW.sseq ?_
 refine AW.ifc H (by rfl) ?_ ?_ <;> clear H <;> intro H
 ·refine AW.skip ?_
  refine seqQ.norm ?_
  refine AW.bseq ?_
  refine AW.rseq ?_
  try simp only [↓wk, ↓wl, nq, evV, ↓reduceIte, sevalprocAttr]
  refine AW.rseq ?_
  try simp only [↓wk, ↓wl, nq, evV, ↓reduceIte, sevalprocAttr]
  refine evTs_sat H (by rfl) (by rfl) ?_ <;> clear H <;> intro b_600 H
  try simp only [↓wk, ↓wl, nq, evV, ↓reduceIte, sevalprocAttr]
  refine AW.rend ?_
  try simp only [↓wk, ↓wl, nq, evV, ↓reduceIte, sevalprocAttr]
  refine blkQ.norm ?_
  refine AW.rend ?_
  try simp only [↓wk, ↓wl, nq, evV, ↓reduceIte, sevalprocAttr]
  exact loopQ.next H ((Le.tz [] [0, 3, 4, 7, 8] (by simp only [f29_L1c, rrm, ↓wk, ↓wl, evV, ↓reduceIte, sevalprocAttr] <;> rfl)))
 ·refine AW.exit ?_
  refine seqQ.exit ?_
  refine loopQ.exit H ?_ <;> clear H <;> intro H
  try dsimp only at H
  refine blk0.here ?_
  refine seqQ.norm ?_
  refine AW.rseq ?_
  try simp only [↓wk, ↓wl, nq, evV, ↓reduceIte, sevalprocAttr]
  refine rest_shl (by decide) ?_
  try simp only [↓wk, ↓wl, nq, evV, ↓reduceIte, sevalprocAttr]
  refine rest_or ?_
  try simp only [↓wk, ↓wl, nq, evV, ↓reduceIte, sevalprocAttr]
  refine AW.ret ?_
  cases H
  exact hQ.fin
def c17_0 : C := .cond (.t 14) (.seq (.reg [iI 2 (.mv (.c (.str []))), iI 3 (.mv (.c (.int .i64 13)))]) .ret) (.skip)
def c17_1 : C := .cond (.t 5) (.seq (.reg [iI 2 (.mv (.c (.str []))), iI 3 (.mv (.c (.int .i64 2)))]) .ret) (.seq (.reg [iI 15 (.faddr 1 (.t 1)), iI 16 (.load 0 (.t 15)), iI 17 (.len 1 (.t 16)), iI 18 (.bin .gtr (.t 17) (.c (.int .i64 65535))), iI 14 (.mv (.t 18))]) c17_0)
def c17_2 : C := .seq (.reg [iI 32 (.mv (.t 4)), iI 33 (.mv (.t 4)), iI 34 (.call (.c (.fn 29 [])) [(.t 33)]), iI 35 (.call (.c (.fn 28 [])) [(.t 34)]), iI 36 (.bin .add (.t 32) (.t 35)), iI 2 (.mv (.t 36)), iI 3 (.mv (.c (.int .i64 0)))]) .ret
def c17_3 : C := .seq (.regq [iI 19 (.faddr 0 (.t 1)), iI 20 (.load 0 (.t 19)), iI 21 (.cint .u8 (.t 20)), iI 22 (.mkslp 0 1 (.int .u8 0) [(0, (.t 21))]), iI 23 (.cstr (.t 22)), iI 24 (.faddr 1 (.t 1)), iI 25 (.load 0 (.t 24)), iI 26 (.len 1 (.t 25)), iI 27 (.call (.c (.fn 28 [])) [(.t 26)]), iI 28 (.bin .add (.t 23) (.t 27)), iI 29 (.faddr 1 (.t 1)), iI 30 (.load 0 (.t 29)), iI 31 (.bin .add (.t 28) (.t 30)), iI 4 (.mv (.t 31))]) c17_2
def c17_4 : C := .seq (.block 0 (.seq (.reg [iI 6 (.faddr 0 (.t 1)), iI 7 (.load 0 (.t 6)), iI 8 (.bin .lss (.t 7) (.c (.int .i64 0))), iI 9 (.mv (.t 8)), iG (some 10) 9 false (.faddr 0 (.t 1)), iG (some 11) 9 false (.load 0 (.t 10)), iG (some 12) 9 false (.bin .gtr (.t 11) (.c (.int .i64 255))), iI 13 (.pick (.t 9) (.c (.bool true)) (.t 12)), iI 5 (.mv (.t 13))]) c17_1)) c17_3
def ir17 : C := .seq (.reg [iI 1 (.box (.t 0)), iI 2 (.mv (.c (.str []))), iI 3 (.mv (.c (.int .i64 0)))]) c17_4
theorem fd17 : fd? Try.prog 17 = some (37, [.slot 2, .slot 3], ir17) := by kernel_rfl
noncomputable def f17 (x_583 : RecordEntry) : Option ((List UInt8) × Int) :=
  (if (decide (x_583.fKind < 0)) = true then (some ([], 2)) else (if (decide (255 < x_583.fKind)) = true then (some ([], 2)) else (if (decide (65535 < ((x_583.fData.length : Nat) : Int))) = true then (some ([], 13)) else (f28 ((x_583.fData.length : Nat) : Int)).bind fun r_585 => (cat? (([(IntKind.u8.wrap x_583.fKind)]).map b8) r_585).bind fun v_586 => (cat? v_586 x_583.fData).bind fun v_587 => (f29 v_587).bind fun r_601 => (f28 r_601).bind fun r_602 => (cat? v_587 r_602).bind fun v_603 => (some (v_603, 0)))))
theorem f17_ok {x_583 : RecordEntry} {r_ : (List UInt8) × Int} (H : f17 x_583 = some r_) : Pure Try.prog 17 [.agg [.int .i64 x_583.fKind, .str x_583.fData]] (· = .tup [.str r_.1, .int .i64 r_.2]) := by
 refine Pure.walk3 fd17 none (Nat.le_of_ble_eq_true rfl) (by rfl) fun Q hQ => ?_
 simp only [f17] at H
 refine AW.rseq ?_
 try simp only [↓wk, ↓wl, nq, evV, ↓reduceIte, sevalprocAttr]
 refine AW.bseq ?_
 refine AW.rseq ?_
 try simp only [↓wk, ↓wl, nq, evV, ↓reduceIte, sevalprocAttr]
 refine evTs_ifg H (by rfl) ?_ ?_ <;> clear H <;> intro H
 ·try simp only [↓wk, ↓wl, nq, evV, ↓reduceIte, sevalprocAttr]
  refine AW.ift (by rfl) ?_
  refine AW.rseq ?_
  try simp only [↓wk, ↓wl, nq, evV, ↓reduceIte, sevalprocAttr]
  refine AW.ret ?_
  refine blkQ.ret ?_
  cases H
  exact hQ.fin
 ·try simp only [↓wk, ↓wl, nq, evV, ↓reduceIte, sevalprocAttr]
  refine AW.ifc H (by rfl) ?_ ?_ <;> clear H <;> intro H
  ·refine AW.rseq ?_
   try simp only [↓wk, ↓wl, nq, evV, ↓reduceIte, sevalprocAttr]
   refine AW.ret ?_
   refine blkQ.ret ?_
   cases H
   exact hQ.fin
  ·refine AW.rseq ?_
   try simp only [↓wk, ↓wl, nq, evV, ↓reduceIte, sevalprocAttr]
   refine AW.ifc H (by rfl) ?_ ?_ <;> clear H <;> intro H
   ·refine AW.rseq ?_
    try simp only [↓wk, ↓wl, nq, evV, ↓reduceIte, sevalprocAttr]
    refine AW.ret ?_
    refine blkQ.ret ?_
    cases H
    exact hQ.fin
   ·refine AW.skip ?_
    refine blkQ.norm ?_
    refine AW.rqseq ?_
    try simp only [↓wk, ↓wl, nq, evV, ↓reduceIte, sevalprocAttr]
    refine evTs_cstr (xs := [(IntKind.u8.wrap x_583.fKind)]) (by rfl) ?_
    try simp only [↓wk, ↓wl, nq, evV, ↓reduceIte, sevalprocAttr]
    refine evTs_pure hFnq H (fun _ h => f28_ok h) (by rfl) (by rfl) (by rfl) (by rfl) (fun _ => rfl) ?_ <;> clear H <;> intro r_585 H
    try simp only [eL, ↓wk, ↓wl, nq, evV, ↓reduceIte, sevalprocAttr]
    refine rest_cat H ?_ <;> clear H <;> intro v_586 H
    try simp only [↓wk, ↓wl, nq, evV, ↓reduceIte, sevalprocAttr]
    refine rest_cat H ?_ <;> clear H <;> intro v_587 H
    try simp only [↓wk, ↓wl, nq, evV, ↓reduceIte, sevalprocAttr]
    refine AW.rseq ?_
    try simp only [↓wk, ↓wl, nq, evV, ↓reduceIte, sevalprocAttr]
    refine evTs_pure hFn H (fun _ h => f29_ok h) (by rfl) (by rfl) (by rfl) (by rfl) (fun _ => rfl) ?_ <;> clear H <;> intro r_601 H
    try simp only [eL, ↓wk, ↓wl, nq, evV, ↓reduceIte, sevalprocAttr]
    refine evTs_pure hFn H (fun _ h => f28_ok h) (by rfl) (by rfl) (by rfl) (by rfl) (fun _ => rfl) ?_ <;> clear H <;> intro r_602 H
    try simp only [eL, ↓wk, ↓wl, nq, evV, ↓reduceIte, sevalprocAttr]
    refine rest_cat H ?_ <;> clear H <;> intro v_603 H
    try simp only [↓wk, ↓wl, nq, evV, ↓reduceIte, sevalprocAttr]
    refine AW.ret ?_
    cases H
    exact hQ.fin
def c30_0 : C := .cond (.t 19) (.seq (.reg [iI 2 (.mv (.c (.int .i64 2)))]) .ret) (.skip)
def c30_1 : C := .seq (.reg [iI 2 (.mv (.c (.int .i64 0)))]) .ret
def c30_2 : C := .seq (.seq (.reg [iI 3 (.mv (.t 0)), iI 4 (.nilchk (.t 3)), iI 5 (.faddr 1 (.t 4)), iI 6 (.load 0 (.t 5)), iI 7 (.bin .lss (.t 6) (.c (.int .i64 0))), iI 8 (.mv (.t 7)), iG (some 9) 8 false (.mv (.t 0)), iG (some 10) 8 false (.nilchk (.t 9)), iG (some 11) 8 false (.faddr 1 (.t 10)), iG (some 12) 8 false (.load 0 (.t 11)), iG (some 13) 8 false (.mv (.t 0)), iG (some 14) 8 false (.nilchk (.t 13)), iG (some 15) 8 false (.faddr 0 (.t 14)), iG (some 16) 8 false (.load 0 (.t 15)), iG (some 17) 8 false (.len 1 (.t 16)), iG (some 18) 8 false (.bin .gtr (.t 12) (.t 17)), iI 19 (.pick (.t 8) (.c (.bool true)) (.t 18))]) c30_0) c30_1
def ir30 : C := .seq (.reg [iI 2 (.mv (.c (.int .i64 0)))]) c30_2
theorem fd30 : fd? Try.prog 30 = some (20, [.slot 2], ir30) := by kernel_rfl
noncomputable def f30p (r_607 : (List UInt8)) (r_608 : Int) : Option (Int) :=
  (if (decide (r_608 < 0)) = true then (some 2) else (if (decide (((r_607.length : Nat) : Int) < r_608)) = true then (some 2) else (some 0)))
theorem f30p_ok {r_607 : (List UInt8)} {r_608 : Int} {r_ : Int} (H : f30p r_607 r_608 = some r_) : Pure Try.prog 30 [.pro [.str r_607, .int .i64 r_608]] (· = .int .i64 r_) := by
 refine Pure.walk3 fd30 none (Nat.le_of_ble_eq_true rfl) (by rfl) fun Q hQ => ?_
 simp only [f30p] at H
 refine AW.rseq ?_
 try simp only [↓wk, ↓wl, nq, evV, ↓reduceIte, sevalprocAttr]
 refine AW.sseq ?_
 refine AW.rseq ?_
 try simp only [↓wk, ↓wl, nq, evV, ↓reduceIte, sevalprocAttr]
 refine evTs_ifg H (by rfl) ?_ ?_ <;> clear H <;> intro H
 ·try simp only [↓wk, ↓wl, nq, evV, ↓reduceIte, sevalprocAttr]
  refine AW.ift (by rfl) ?_
  refine AW.rseq ?_
  try simp only [↓wk, ↓wl, nq, evV, ↓reduceIte, sevalprocAttr]
  refine AW.ret ?_
  refine seqQ.ret ?_
  cases H
  exact hQ.fin
 ·try simp only [↓wk, ↓wl, nq, evV, ↓reduceIte, sevalprocAttr]
  refine AW.ifc H (by rfl) ?_ ?_ <;> clear H <;> intro H
  ·refine AW.rseq ?_
   try simp only [↓wk, ↓wl, nq, evV, ↓reduceIte, sevalprocAttr]
   refine AW.ret ?_
   refine seqQ.ret ?_
   cases H
   exact hQ.fin
  ·refine AW.skip ?_
   refine seqQ.norm ?_
   refine AW.rseq ?_
   try simp only [↓wk, ↓wl, nq, evV, ↓reduceIte, sevalprocAttr]
   refine AW.ret ?_
   cases H
   exact hQ.fin
def c31_0 : C := .seq (.reg [iI 5 (.mv (.t 1)), iI 6 (.mv (.t 0)), iI 7 (.nilchk (.t 6)), iI 8 (.faddr 0 (.t 7)), iI 9 (.load 0 (.t 8)), iI 10 (.len 1 (.t 9)), iI 11 (.mv (.t 0)), iI 12 (.nilchk (.t 11)), iI 13 (.faddr 1 (.t 12)), iI 14 (.load 0 (.t 13)), iI 15 (.bin .sub (.t 10) (.t 14)), iI 16 (.bin .leq (.t 5) (.t 15)), iI 4 (.mv (.t 16))]) .ret
def ir31 : C := .seq (.reg [iI 4 (.mv (.c (.bool false)))]) c31_0
theorem fd31 : fd? Try.prog 31 = some (17, [.slot 4], ir31) := by kernel_rfl
noncomputable def f31p (r_611 : (List UInt8)) (r_612 : Int) (n_613 : Int) : Option (Bool) :=
  (some (decide (n_613 ≤ (IntKind.i64.wrap (((r_611.length : Nat) : Int) - r_612)))))
theorem f31p_ok {r_611 : (List UInt8)} {r_612 : Int} {n_613 : Int} {r_ : Bool} (H : f31p r_611 r_612 n_613 = some r_) : Pure Try.prog 31 [.pro [.str r_611, .int .i64 r_612], .int .i64 n_613] (· = .bool r_) := by
 refine Pure.walk3 fd31 none (Nat.le_of_ble_eq_true rfl) (by rfl) fun Q hQ => ?_
 simp only [f31p] at H
 refine AW.rseq ?_
 try simp only [↓wk, ↓wl, nq, evV, ↓reduceIte, sevalprocAttr]
 refine AW.rseq ?_
 try simp only [↓wk, ↓wl, nq, evV, ↓reduceIte, sevalprocAttr]
 refine AW.ret ?_
 cases H
 exact hQ.fin
def c32_0 : C := .seq (.reg [iI 13 (.mv (.t 0)), iI 14 (.nilchk (.t 13)), iI 15 (.faddr 0 (.t 14)), iI 16 (.load 0 (.t 15)), iI 17 (.mv (.t 0)), iI 18 (.nilchk (.t 17)), iI 19 (.faddr 1 (.t 18)), iI 20 (.load 0 (.t 19)), iI 21 (.mv (.t 1)), iI 22 (.bin .sub (.t 20) (.t 21)), iI 23 (.mv (.t 0)), iI 24 (.nilchk (.t 23)), iI 25 (.faddr 1 (.t 24)), iI 26 (.load 0 (.t 25)), iI 27 (.sslice (.t 16) (some (.t 22)) (some (.t 26))), iI 4 (.mv (.t 27))]) .ret
def c32_1 : C := .seq (.reg [iI 5 (.mv (.t 0)), iI 6 (.nilchk (.t 5)), iI 7 (.faddr 1 (.t 6)), iI 8 (.load 0 (.t 7)), iI 9 (.mv (.t 1)), iI 10 (.bin .add (.t 8) (.t 9)), iI 11 (.nilchk (.t 5)), iI 12 (.faddr 1 (.t 11)), iN (.store 0 (.t 12) (.t 10))]) c32_0
def ir32 : C := .seq (.reg [iI 4 (.mv (.c (.str [])))]) c32_1
theorem fd32 : fd? Try.prog 32 = some (28, [.slot 4], ir32) := by kernel_rfl
noncomputable def f18_C1 (s_605 : (List UInt8)) (at_606 : Int) : Il ((List UInt8) × Int) where
  run := (slc? s_605 (IntKind.i64.wrap ((IntKind.i64.wrap (at_606 + 3)) - 3)) (IntKind.i64.wrap (at_606 + 3))).bind fun s_622 => (some (s_622, (IntKind.i64.wrap (at_606 + 3))))
  res := fun (v_620, v_621) => .str v_620
  hp := fun (v_620, v_621) => [.cel [.int .i64 0, .str ([])], .cel [.str s_605, .int .i64 v_621]]
noncomputable def f18_C2 (s_605 : (List UInt8)) (v_621 : Int) (b_623 : UInt8) (b_624 : UInt8) : Il ((List UInt8) × Int) where
  run := (slc? s_605 (IntKind.i64.wrap ((IntKind.i64.wrap (v_621 + (IntKind.i64.wrap ((BitVec.ofInt (IntKind.bits .i64) (IntKind.i64.wrap ((IntKind.i64.wrap (b_623.toNat : Int)) * 2 ^ (min (Int.toNat 8) (IntKind.bits .i64)))) ||| BitVec.ofInt (IntKind.bits .i64) (IntKind.i64.wrap (b_624.toNat : Int))).toNat : Int)))) - (IntKind.i64.wrap ((BitVec.ofInt (IntKind.bits .i64) (IntKind.i64.wrap ((IntKind.i64.wrap (b_623.toNat : Int)) * 2 ^ (min (Int.toNat 8) (IntKind.bits .i64)))) ||| BitVec.ofInt (IntKind.bits .i64) (IntKind.i64.wrap (b_624.toNat : Int))).toNat : Int)))) (IntKind.i64.wrap (v_621 + (IntKind.i64.wrap ((BitVec.ofInt (IntKind.bits .i64) (IntKind.i64.wrap ((IntKind.i64.wrap (b_623.toNat : Int)) * 2 ^ (min (Int.toNat 8) (IntKind.bits .i64)))) ||| BitVec.ofInt (IntKind.bits .i64) (IntKind.i64.wrap (b_624.toNat : Int))).toNat : Int))))).bind fun s_630 => (some (s_630, (IntKind.i64.wrap (v_621 + (IntKind.i64.wrap ((BitVec.ofInt (IntKind.bits .i64) (IntKind.i64.wrap ((IntKind.i64.wrap (b_623.toNat : Int)) * 2 ^ (min (Int.toNat 8) (IntKind.bits .i64)))) ||| BitVec.ofInt (IntKind.bits .i64) (IntKind.i64.wrap (b_624.toNat : Int))).toNat : Int))))))
  res := fun (v_628, v_629) => .str v_628
  hp := fun (v_628, v_629) => [.cel [.int .i64 0, .str ([])], .cel [.str s_605, .int .i64 v_629]]
noncomputable def f18_C3 (s_605 : (List UInt8)) (v_629 : Int) : Il ((List UInt8) × Int) where
  run := (slc? s_605 (IntKind.i64.wrap ((IntKind.i64.wrap (v_629 + 2)) - 2)) (IntKind.i64.wrap (v_629 + 2))).bind fun s_640 => (some (s_640, (IntKind.i64.wrap (v_629 + 2))))
  res := fun (v_638, v_639) => .str v_638
  hp := fun (v_638, v_639) => [.cel [.int .i64 0, .str ([])], .cel [.str s_605, .int .i64 v_639]]
noncomputable def f18_J4 (v_628 : (List UInt8)) (v_639 : Int) : Jn (Int) (RecordEntry × Int × Int) where
  run := fun v_645 => (some ((RecordEntry.mk v_645 v_628), v_639, 0))
  cst := fun v_645 => ⟨put (put (put (fun _ => .junk) 6 (.int .i64 0)) 5 (.int .i64 v_639)) 4 (.ptr 0 0), [.cel [.int .i64 v_645, .str v_628]]⟩
theorem f18_J4c (v_628 : (List UInt8)) (v_639 : Int) (v_645 : Int) : (f18_J4 v_628 v_639).cst v_645 = ⟨put (put (put (fun _ => .junk) 6 (.int .i64 0)) 5 (.int .i64 v_639)) 4 (.ptr 0 0), [.cel [.int .i64 v_645, .str v_628]]⟩ := rfl
def c18_0 : C := .cond (.t 19) (.seq (.reg [iI 20 (.build [(1, (.int .i64 0)), (1, (.str []))] []), iI 21 (.mv (.t 8)), iN (.store 2 (.t 4) (.t 20)), iI 5 (.mv (.c (.int .i64 0))), iI 6 (.mv (.t 21))]) .ret) (.skip)
def c18_1 : C := .seq (.reg [iI 18 (.mv (.t 8)), iI 19 (.bin .neq (.t 18) (.c (.int .i64 0)))]) c18_0
def c18_2 : C := .cond (.t 24) (.seq (.reg [iI 25 (.build [(1, (.int .i64 0)), (1, (.str []))] []), iN (.store 2 (.t 4) (.t 25)), iI 5 (.mv (.c (.int .i64 0))), iI 6 (.mv (.c (.int .i64 20)))]) .ret) (.skip)
def c18_3 : C := .cond (.t 40) (.seq (.reg [iI 41 (.build [(1, (.int .i64 0)), (1, (.str []))] []), iN (.store 2 (.t 4) (.t 41)), iI 5 (.mv (.c (.int .i64 0))), iI 6 (.mv (.c (.int .i64 20)))]) .ret) (.skip)
def c18_4 : C := .cond (.t 52) (.seq (.reg [iI 53 (.build [(1, (.int .i64 0)), (1, (.str []))] []), iN (.store 2 (.t 4) (.t 53)), iI 5 (.mv (.c (.int .i64 0))), iI 6 (.mv (.c (.int .i64 17)))]) .ret) (.skip)
def c18_5 : C := .seq (.regt (.fork [iI 54 (.mv (.t 9)), iI 55 (.sidx (.t 54) (.c (.int .i64 0))), iI 56 (.cint .i64 (.t 55)), iI 57 (.mv (.t 11)), iI 58 (.build [(1, (.int .i64 0)), (1, (.str []))] [(0, 0, (.t 56)), (1, 0, (.t 57))]), iI 59 (.mv (.t 7)), iI 60 (.nilchk (.t 59)), iI 61 (.faddr 1 (.t 60))] (.run [iI 62 (.load 0 (.t 61)), iN (.store 2 (.t 4) (.t 58)), iI 5 (.mv (.t 62)), iI 6 (.mv (.c (.int .i64 0)))]) (.run [iN (.store 2 (.t 4) (.t 58)), iI 62 (.load 0 (.t 61)), iI 5 (.mv (.t 62)), iI 6 (.mv (.c (.int .i64 0)))]))) .ret
def c18_6 : C := .seq (.seq (.reg [iI 45 (.mv (.t 7)), iI 46 (.call (.c (.fn 32 [])) [(.t 45), (.c (.int .i64 2))]), iI 47 (.mv (.t 9)), iI 48 (.mv (.t 11)), iI 49 (.bin .add (.t 47) (.t 48)), iI 50 (.call (.c (.fn 29 [])) [(.t 49)]), iI 51 (.call (.c (.fn 28 [])) [(.t 50)]), iI 52 (.bin .neq (.t 46) (.t 51))]) c18_4) c18_5
def c18_7 : C := .seq (.reg [iI 42 (.mv (.t 7)), iI 43 (.mv (.t 10)), iI 44 (.call (.c (.fn 32 [])) [(.t 42), (.t 43)]), iI 11 (.mv (.t 44))]) c18_6
def c18_8 : C := .seq (.seq (.reg [iI 36 (.mv (.t 7)), iI 37 (.mv (.t 10)), iI 38 (.bin .add (.t 37) (.c (.int .i64 2))), iI 39 (.call (.c (.fn 31 [])) [(.t 36), (.t 38)]), iI 40 (.un .not (.t 39))]) c18_3) c18_7
def c18_9 : C := .seq (.reg [iI 28 (.mv (.t 9)), iI 29 (.sidx (.t 28) (.c (.int .i64 1))), iI 30 (.cint .i64 (.t 29)), iI 31 (.bin .shl (.t 30) (.c (.int .u64 8))), iI 32 (.mv (.t 9)), iI 33 (.sidx (.t 32) (.c (.int .i64 2))), iI 34 (.cint .i64 (.t 33)), iI 35 (.bin .or (.t 31) (.t 34)), iI 10 (.mv (.t 35))]) c18_8
def c18_10 : C := .seq (.reg [iI 26 (.mv (.t 7)), iI 27 (.call (.c (.fn 32 [])) [(.t 26), (.c (.int .i64 3))]), iI 9 (.mv (.t 27))]) c18_9
def c18_11 : C := .seq (.seq (.reg [iI 22 (.mv (.t 7)), iI 23 (.call (.c (.fn 31 [])) [(.t 22), (.c (.int .i64 5))]), iI 24 (.un .not (.t 23))]) c18_2) c18_10
def c18_12 : C := .seq (.seq (.reg [iI 16 (.mv (.t 7)), iI 17 (.call (.c (.fn 30 [])) [(.t 16)]), iI 8 (.mv (.t 17))]) c18_1) c18_11
def c18_13 : C := .seq (.reg [iI 12 (.mv (.t 0)), iI 13 (.mv (.t 1)), iI 14 (.build [(1, (.str [])), (1, (.int .i64 0))] [(0, 0, (.t 12)), (1, 0, (.t 13))]), iI 15 (.box (.t 14)), iI 7 (.mv (.t 15))]) c18_12
def ir18 : C := .seq (.reg [iI 4 (.alloc [(1, (.int .i64 0)), (1, (.str []))]), iI 5 (.mv (.c (.int .i64 0))), iI 6 (.mv (.c (.int .i64 0)))]) c18_13
theorem fd18 : fd? Try.prog 18 = some (63, [.cell 4 2, .slot 5, .slot 6], ir18) := by kernel_rfl
noncomputable def f18 (s_605 : (List UInt8)) (at_606 : Int) : Option (RecordEntry × Int × Int) :=
  (f30p s_605 at_606).bind fun r_610 => (if (decide (r_610 ≠ 0)) = true then (some ((RecordEntry.mk 0 ([])), 0, r_610)) else (f31p s_605 at_606 5).bind fun r_615 => (if (!r_615) = true then (some ((RecordEntry.mk 0 ([])), 0, 20)) else ((f18_C1 s_605 at_606).run.bind fun (v_620, v_621) => (at? v_620 1).bind fun b_623 => (at? v_620 2).bind fun b_624 => (f31p s_605 v_621 (IntKind.i64.wrap ((IntKind.i64.wrap ((BitVec.ofInt (IntKind.bits .i64) (IntKind.i64.wrap ((IntKind.i64.wrap (b_623.toNat : Int)) * 2 ^ (min (Int.toNat 8) (IntKind.bits .i64)))) ||| BitVec.ofInt (IntKind.bits .i64) (IntKind.i64.wrap (b_624.toNat : Int))).toNat : Int)) + 2))).bind fun r_626 => (if (!r_626) = true then (some ((RecordEntry.mk 0 ([])), 0, 20)) else ((f18_C2 s_605 v_621 b_623 b_624).run.bind fun (v_628, v_629) => ((f18_C3 s_605 v_629).run.bind fun (v_638, v_639) => (cat? v_620 v_628).bind fun v_641 => (f29 v_641).bind fun r_642 => (f28 r_642).bind fun r_643 => (if (!(v_638 == r_643)) = true then (some ((RecordEntry.mk 0 ([])), 0, 17)) else (at? v_620 0).bind fun b_646 => ((f18_J4 v_628 v_639).run (IntKind.i64.wrap (b_646.toNat : Int))))))))))
theorem f18_ok {s_605 : (List UInt8)} {at_606 : Int} {r_ : RecordEntry × Int × Int} (H : f18 s_605 at_606 = some r_) : Pure Try.prog 18 [.str s_605, .int .i64 at_606] (· = .tup [.agg [.int .i64 r_.1.fKind, .str r_.1.fData], .int .i64 r_.2.1, .int .i64 r_.2.2]) := by
 refine Pure.walk3 fd18 none (Nat.le_of_ble_eq_true rfl) (by rfl) fun Q hQ => ?_
 simp only [f18] at H
 refine AW.rseq ?_
 try simp only [↓wk, ↓wl, nq, evV, ↓reduceIte, sevalprocAttr]
 refine AW.rseq ?_
 try simp only [↓wk, ↓wl, nq, evV, ↓reduceIte, sevalprocAttr]
 refine AW.sseq ?_
 refine AW.rseq ?_
 try simp only [↓wk, ↓wl, nq, evV, ↓reduceIte, sevalprocAttr]
 refine evTs_flat hFn H (fun _ h => f30p_ok h) (by rfl) (by rfl) (by simp only [deep_eq, imm_simps, imm_rowE, imm_ptrE, imm_enc, omap_simps, take_map_len, take_map_set, take_map_set2, List.length_set, le_refl_true, Nat.zero_add, and_true, true_and, List.drop_zero, Option.map_some, ↓wk, ↓wl, nq, evV, ↓reduceIte, sevalprocAttr]; rfl) (by rfl) (fun _ => rfl) (fun _ => rfl) ?_ <;> clear H <;> intro r_610 H
 try simp only [eL, ↓wk, ↓wl, nq, evV, ↓reduceIte, sevalprocAttr]
 refine AW.rseq ?_
 try simp only [↓wk, ↓wl, nq, evV, ↓reduceIte, sevalprocAttr]
 refine AW.ifc H (by rfl) ?_ ?_ <;> clear H <;> intro H
 ·refine AW.rseq ?_
  try simp only [↓wk, ↓wl, nq, evV, ↓reduceIte, sevalprocAttr]
  refine AW.ret ?_
  refine seqQ.ret ?_
  cases H
  exact hQ.fin
 ·refine AW.skip ?_
  refine seqQ.norm ?_
  refine AW.sseq ?_
  refine AW.rseq ?_
  try simp only [↓wk, ↓wl, nq, evV, ↓reduceIte, sevalprocAttr]
  refine evTs_flat hFn H (fun _ h => f31p_ok h) (by rfl) (by rfl) (by simp only [deep_eq, imm_simps, imm_rowE, imm_ptrE, imm_enc, omap_simps, take_map_len, take_map_set, take_map_set2, List.length_set, le_refl_true, Nat.zero_add, and_true, true_and, List.drop_zero, Option.map_some, ↓wk, ↓wl, nq, evV, ↓reduceIte, sevalprocAttr]; rfl) (by rfl) (fun _ => rfl) (fun _ => rfl) ?_ <;> clear H <;> intro r_615 H
  try simp only [eL, ↓wk, ↓wl, nq, evV, ↓reduceIte, sevalprocAttr]
  refine AW.ifc H (by rfl) ?_ ?_ <;> clear H <;> intro H
  ·refine AW.rseq ?_
   try simp only [↓wk, ↓wl, nq, evV, ↓reduceIte, sevalprocAttr]
   refine AW.ret ?_
   refine seqQ.ret ?_
   cases H
   exact hQ.fin
  ·refine AW.skip ?_
   refine seqQ.norm ?_
   refine AW.rseq ?_
   try simp only [↓wk, ↓wl, nq, evV, ↓reduceIte, sevalprocAttr]
   refine evTs_inl (I := f18_C1 s_605 at_606) (args := [.ptr 1 0, .int .i64 3]) H (by rfl) fd32 (by rfl) (Nat.le_of_ble_eq_true rfl) ?_ ?_ <;> clear H
   ·rintro v_ Q_ H hqf18_C1
    simp only [f18_C1] at H
    dsimp only [List.length_cons, List.length_nil]
    refine AW.rseq ?_
    try simp only [↓wk, ↓wl, nq, evV, ↓reduceIte, sevalprocAttr]
    refine AW.rseq ?_
    try simp only [↓wk, ↓wl, nq, evV, ↓reduceIte, sevalprocAttr]
    refine AW.rseq ?_
    try simp only [↓wk, ↓wl, nq, evV, ↓reduceIte, sevalprocAttr]
    refine evTs_sslc H (by rfl) (by simp only [loI, hiI, ↓wk, ↓wl, nq, evV, ↓reduceIte, sevalprocAttr]; rfl) (by simp only [loI, hiI, ↓wk, ↓wl, nq, evV, ↓reduceIte, sevalprocAttr]; rfl) ?_ <;> clear H <;> intro s_622 H
    try simp only [↓wk, ↓wl, nq, evV, ↓reduceIte, sevalprocAttr]
    refine AW.ret ?_
    cases H
    exact hqf18_C1 _ _ _ (.inr rfl) (Le.tq 2 [0, 1] [4] rfl) (by simp only [resVs, omap, resV, f18_C1, rrm, ↓wk, ↓wl, evV, ↓reduceIte, sevalprocAttr]) (by simp only [f18_C1, rrm, ↓wk, ↓wl, evV, ↓reduceIte, sevalprocAttr])
   ·rintro ⟨v_620, v_621⟩ s_ h_ H hs_ hh_
    simp only [f18_C1] at H hs_ hh_
    subst hs_
    subst hh_
    try simp only [↓wk, ↓wl, nq, evV, ↓reduceIte, sevalprocAttr]
    refine AW.rseq ?_
    try simp only [↓wk, ↓wl, nq, evV, ↓reduceIte, sevalprocAttr]
    refine evTs_sat H (by rfl) (by rfl) ?_ <;> clear H <;> intro b_623 H
    try simp only [↓wk, ↓wl, nq, evV, ↓reduceIte, sevalprocAttr]
    refine rest_shl (by decide) ?_
    try simp only [↓wk, ↓wl, nq, evV, ↓reduceIte, sevalprocAttr]
    refine evTs_sat H (by rfl) (by rfl) ?_ <;> clear H <;> intro b_624 H
    try simp only [↓wk, ↓wl, nq, evV, ↓reduceIte, sevalprocAttr]
    refine rest_or ?_
    try simp only [↓wk, ↓wl, nq, evV, ↓reduceIte, sevalprocAttr]
    refine AW.sseq ?_
    refine AW.rseq ?_
    try simp only [↓wk, ↓wl, nq, evV, ↓reduceIte, sevalprocAttr]
    refine evTs_flat hFn H (fun _ h => f31p_ok h) (by rfl) (by rfl) (by simp only [deep_eq, imm_simps, imm_rowE, imm_ptrE, imm_enc, omap_simps, take_map_len, take_map_set, take_map_set2, List.length_set, le_refl_true, Nat.zero_add, and_true, true_and, List.drop_zero, Option.map_some, ↓wk, ↓wl, nq, evV, ↓reduceIte, sevalprocAttr]; rfl) (by rfl) (fun _ => rfl) (fun _ => rfl) ?_ <;> clear H <;> intro r_626 H
    try simp only [eL, ↓wk, ↓wl, nq, evV, ↓reduceIte, sevalprocAttr]
    refine AW.ifc H (by rfl) ?_ ?_ <;> clear H <;> intro H
    ·refine AW.rseq ?_
     try simp only [↓wk, ↓wl, nq, evV, ↓reduceIte, sevalprocAttr]
     refine AW.ret ?_
     refine seqQ.ret ?_
     cases H
     exact hQ.fin
    ·refine AW.skip ?_
     refine seqQ.norm ?_
     refine AW.rseq ?_
     try simp only [↓wk, ↓wl, nq, evV, ↓reduceIte, sevalprocAttr]
     refine evTs_inl (I := f18_C2 s_605 v_621 b_623 b_624) (args := [.ptr 1 0, .int .i64 (IntKind.i64.wrap ((BitVec.ofInt (IntKind.bits .i64) (IntKind.i64.wrap ((IntKind.i64.wrap (b_623.toNat : Int)) * 2 ^ (min (Int.toNat 8) (IntKind.bits .i64)))) ||| BitVec.ofInt (IntKind.bits .i64) (IntKind.i64.wrap (b_624.toNat : Int))).toNat : Int))]) H (by rfl) fd32 (by rfl) (Nat.le_of_ble_eq_true rfl) ?_ ?_ <;> clear H
     ·rintro v_ Q_ H hqf18_C2
      simp only [f18_C2] at H
      dsimp only [List.length_cons, List.length_nil]
      refine AW.rseq ?_
      try simp only [↓wk, ↓wl, nq, evV, ↓reduceIte, sevalprocAttr]
      refine AW.rseq ?_
      try simp only [↓wk, ↓wl, nq, evV, ↓reduceIte, sevalprocAttr]
      refine AW.rseq ?_
      try simp only [↓wk, ↓wl, nq, evV, ↓reduceIte, sevalprocAttr]
      refine evTs_sslc H (by rfl) (by simp only [loI, hiI, ↓wk, ↓wl, nq, evV, ↓reduceIte, sevalprocAttr]; rfl) (by simp only [loI, hiI, ↓wk, ↓wl, nq, evV, ↓reduceIte, sevalprocAttr]; rfl) ?_ <;> clear H <;> intro s_630 H
      try simp only [↓wk, ↓wl, nq, evV, ↓reduceIte, sevalprocAttr]
      refine AW.ret ?_
      cases H
      exact hqf18_C2 _ _ _ (.inr rfl) (Le.tq 2 [0, 1] [4] rfl) (by simp only [resVs, omap, resV, f18_C2, rrm, ↓wk, ↓wl, evV, ↓reduceIte, sevalprocAttr]) (by simp only [f18_C2, rrm, ↓wk, ↓wl, evV, ↓reduceIte, sevalprocAttr])
     ·rintro ⟨v_628, v_629⟩ s_ h_ H hs_ hh_
      simp only [f18_C2] at H hs_ hh_
      subst hs_
      subst hh_
      try simp only [↓wk, ↓wl, nq, evV, ↓reduceIte, sevalprocAttr]
      refine AW.sseq ?_
      refine AW.rseq ?_
      try simp only [↓wk, ↓wl, nq, evV, ↓reduceIte, sevalprocAttr]
      refine evTs_inl (I := f18_C3 s_605 v_629) (args := [.ptr 1 0, .int .i64 2]) H (by rfl) fd32 (by rfl) (Nat.le_of_ble_eq_true rfl) ?_ ?_ <;> clear H
      ·rintro v_ Q_ H hqf18_C3
       simp only [f18_C3] at H
       dsimp only [List.length_cons, List.length_nil]
       refine AW.rseq ?_
       try simp only [↓wk, ↓wl, nq, evV, ↓reduceIte, sevalprocAttr]
       refine AW.rseq ?_
       try simp only [↓wk, ↓wl, nq, evV, ↓reduceIte, sevalprocAttr]
       refine AW.rseq ?_
       try simp only [↓wk, ↓wl, nq, evV, ↓reduceIte, sevalprocAttr]
       refine evTs_sslc H (by rfl) (by simp only [loI, hiI, ↓wk, ↓wl, nq, evV, ↓reduceIte, sevalprocAttr]; rfl) (by simp only [loI, hiI, ↓wk, ↓wl, nq, evV, ↓reduceIte, sevalprocAttr]; rfl) ?_ <;> clear H <;> intro s_640 H
       try simp only [↓wk, ↓wl, nq, evV, ↓reduceIte, sevalprocAttr]
       refine AW.ret ?_
       cases H
       exact hqf18_C3 _ _ _ (.inr rfl) (Le.tq 2 [0, 1] [4] rfl) (by simp only [resVs, omap, resV, f18_C3, rrm, ↓wk, ↓wl, evV, ↓reduceIte, sevalprocAttr]) (by simp only [f18_C3, rrm, ↓wk, ↓wl, evV, ↓reduceIte, sevalprocAttr])
      ·rintro ⟨v_638, v_639⟩ s_ h_ H hs_ hh_
       simp only [f18_C3] at H hs_ hh_
       subst hs_
       subst hh_
       try simp only [↓wk, ↓wl, nq, evV, ↓reduceIte, sevalprocAttr]
       refine rest_cat H ?_ <;> clear H <;> intro v_641 H
       try simp only [↓wk, ↓wl, nq, evV, ↓reduceIte, sevalprocAttr]
       refine evTs_pure hFn H (fun _ h => f29_ok h) (by rfl) (by rfl) (by rfl) (by rfl) (fun _ => rfl) ?_ <;> clear H <;> intro r_642 H
       try simp only [eL, ↓wk, ↓wl, nq, evV, ↓reduceIte, sevalprocAttr]
       refine evTs_pure hFn H (fun _ h => f28_ok h) (by rfl) (by rfl) (by rfl) (by rfl) (fun _ => rfl) ?_ <;> clear H <;> intro r_643 H
       try simp only [eL, ↓wk, ↓wl, nq, evV, ↓reduceIte, sevalprocAttr]
       refine AW.ifc H (by rfl) ?_ ?_ <;> clear H <;> intro H
       ·refine AW.rseq ?_
        try simp only [↓wk, ↓wl, nq, evV, ↓reduceIte, sevalprocAttr]
        refine AW.ret ?_
        refine seqQ.ret ?_
        cases H
        exact hQ.fin
       ·refine AW.skip ?_
        refine seqQ.norm ?_
        refine AW.join (f18_J4 v_628 v_639) H ?_ fun hf18_J4 => ?_
        ·clear H
         rintro v_645 st0_ H hst_
         rw [f18_J4c] at hst_
         simp only [f18_J4] at H
         subst hst_
         refine AW.ret ?_
         cases H
         exact hQ.fin
        ·refine AW.regt ?_
         refine evR.fork ?_
         try simp only [↓wk, ↓wl, nq, evV, ↓reduceIte, sevalprocAttr]
         refine evTs_sat H (by rfl) (by rfl) ?_ <;> clear H <;> intro b_646 H
         try simp only [↓wk, ↓wl, nq, evV, ↓reduceIte, sevalprocAttr]
         refine evR.both ?_ ?_
         ·refine evR.run ?_
          try simp only [↓wk, ↓wl, nq, evV, ↓reduceIte, sevalprocAttr]
          refine seqQ.norm ?_
          exact hf18_J4 _ _ H ((Le.tz [0] [4, 5, 6] (by simp only [f18_J4c, rrm, ↓wk, ↓wl, evV, ↓reduceIte, sevalprocAttr] <;> rfl)))
         ·refine evR.run ?_
          try simp only [↓wk, ↓wl, nq, evV, ↓reduceIte, sevalprocAttr]
          refine seqQ.norm ?_
          exact hf18_J4 _ _ H ((Le.tz [0] [4, 5, 6] (by simp only [f18_J4c, rrm, ↓wk, ↓wl, evV, ↓reduceIte, sevalprocAttr] <;> rfl)))
def c7_0 : C := .seq (.reg [iI 27 (.mv (.t 2)), iI 28 (.mv (.t 5)), iI 29 (.bin .add (.t 27) (.t 28)), iI 30 (.mv (.t 8)), iI 31 (.bin .add (.t 29) (.t 30)), iI 32 (.bin .eql (.t 31) (.c (.int .i64 0))), iI 33 (.mv (.t 32)), iG (some 34) 33 true (.faddr 0 (.t 3)), iG (some 35) 33 true (.load 0 (.t 34)), iG (some 36) 33 true (.bin .eql (.t 35) (.c (.int .i64 3))), iI 37 (.pick (.t 33) (.t 36) (.c (.bool false))), iI 38 (.mv (.t 37)), iG (some 39) 38 true (.mv (.t 6)), iG (some 40) 38 true (.len 0 (.t 39)), iG (some 41) 38 true (.bin .eql (.t 40) (.c (.int .i64 3))), iI 42 (.pick (.t 38) (.t 41) (.c (.bool false))), iI 43 (.mv (.t 42)), iG (some 44) 43 true (.mv (.t 6)), iG (some 45) 43 true (.iaddr 3 (.t 44) (.c (.int .i64 0))), iG (some 46) 43 true (.faddr 1 (.t 45)), iG (some 47) 43 true (.load 0 (.t 46)), iG (some 48) 43 true (.bin .eql (.t 47) (.c (.str [103, 111]))), iI 49 (.pick (.t 43) (.t 48) (.c (.bool false))), iI 50 (.mv (.t 49)), iG (some 51) 50 true (.mv (.t 6)), iG (some 52) 50 true (.iaddr 3 (.t 51) (.c (.int .i64 1))), iG (some 53) 50 true (.faddr 0 (.t 52)), iG (some 54) 50 true (.load 0 (.t 53)), iG (some 55) 50 true (.bin .eql (.t 54) (.c (.int .i64 1))), iI 56 (.pick (.t 50) (.t 55) (.c (.bool false))), iI 57 (.mv (.t 56)), iG (some 58) 57 true (.mv (.t 1)), iG (some 59) 57 true (.len 1 (.t 58)), iG (some 60) 57 true (.bin .eql (.t 59) (.c (.int .i64 9))), iI 61 (.pick (.t 57) (.t 60) (.c (.bool false))), iI 0 (.mv (.t 61))]) .ret
def c7_1 : C := .seq (.reg [iI 21 (.faddr 1 (.t 3)), iI 22 (.load 0 (.t 21)), iI 23 (.call (.c (.fn 14 [])) [(.t 22)]), iI 20 (.mv (.t 23)), iI 24 (.ext (.t 20) 0), iI 25 (.ext (.t 20) 1), iI 26 (.ext (.t 20) 2), iI 6 (.mv (.t 24)), iI 7 (.mv (.t 25)), iI 8 (.mv (.t 26))]) c7_0
def c7_2 : C := .seq (.reg [iI 15 (.mv (.t 1)), iI 16 (.call (.c (.fn 18 [])) [(.t 15), (.c (.int .i64 0))]), iI 14 (.mv (.t 16)), iI 17 (.ext (.t 14) 0), iI 18 (.ext (.t 14) 1), iI 19 (.ext (.t 14) 2), iI 3 (.alloc [(1, (.int .i64 0)), (1, (.str []))]), iN (.store 2 (.t 3) (.t 17)), iI 4 (.mv (.t 18)), iI 5 (.mv (.t 19))]) c7_1
def c7_3 : C := .seq (.reg [iI 10 (.build [(1, (.int .i64 0)), (1, (.str []))] [(0, 0, (.c (.int .i64 3))), (1, 0, (.c (.str [103, 111, 32, 50])))]), iI 11 (.call (.c (.fn 17 [])) [(.t 10)]), iI 9 (.mv (.t 11)), iI 12 (.ext (.t 9) 0), iI 13 (.ext (.t 9) 1), iI 1 (.mv (.t 12)), iI 2 (.mv (.t 13))]) c7_2
def ir7 : C := .seq (.reg [iI 0 (.mv (.c (.bool false)))]) c7_3
theorem fd7 : fd? Try.prog 7 = some (62, [.slot 0], ir7) := by kernel_rfl
noncomputable def f7 : Option (Bool) :=
  (f17 (RecordEntry.mk 3 ([103, 111, 32, 50]))).bind fun r_604 => (f18 r_604.1 0).bind fun r_647 => (f14 r_647.1.fData).bind fun r_648 => (if (decide ((IntKind.i64.wrap ((IntKind.i64.wrap (r_604.2 + r_647.2.2)) + r_648.2.2)) = 0)) = true then (if (decide (r_647.1.fKind = 3)) = true then (if (decide (((r_648.1.length : Nat) : Int) = 3)) = true then (at? r_648.1 0).bind fun x_649 => (if (x_649.fText == ([103, 111])) = true then (at? r_648.1 1).bind fun x_650 => (if (decide (x_650.fKind = 1)) = true then (some (decide (((r_604.1.length : Nat) : Int) = 9))) else (some false)) else (some false)) else (some false)) else (some false)) else (some false))
theorem f7_ok {r_ : Bool} (H : f7 = some r_) : Pure Try.prog 7 [] (· = .bool r_) := by
 refine Pure.walk3 fd7 none (Nat.le_of_ble_eq_true rfl) (by rfl) fun Q hQ => ?_
 simp only [f7] at H
 refine AW.rseq ?_
 try simp only [↓wk, ↓wl, nq, evV, ↓reduceIte, sevalprocAttr]
 refine AW.rseq ?_
 try simp only [↓wk, ↓wl, nq, evV, ↓reduceIte, sevalprocAttr]
 refine evTs_pure hFn H (fun _ h => f17_ok h) (by rfl) (by rfl) (by rfl) (by rfl) (fun _ => rfl) ?_ <;> clear H <;> intro r_604 H
 try simp only [eL, ↓wk, ↓wl, nq, evV, ↓reduceIte, sevalprocAttr]
 refine AW.rseq ?_
 try simp only [↓wk, ↓wl, nq, evV, ↓reduceIte, sevalprocAttr]
 refine evTs_pure hFn H (fun _ h => f18_ok h) (by rfl) (by rfl) (by rfl) (by rfl) (fun _ => rfl) ?_ <;> clear H <;> intro r_647 H
 try simp only [eL, eRecordEntry, ↓wk, ↓wl, nq, evV, ↓reduceIte, sevalprocAttr]
 refine AW.rseq ?_
 try simp only [↓wk, ↓wl, nq, evV, ↓reduceIte, sevalprocAttr]
 refine evTs_pure hFn H (fun _ h => f14_im h) (by rfl) (by rfl) (by rfl) (by rfl) (fun _ => rfl) ?_ <;> clear H <;> intro r_648 H
 try simp only [eL, ↓wk, ↓wl, nq, evV, ↓reduceIte, sevalprocAttr]
 refine AW.rseq ?_
 try simp only [↓wk, ↓wl, nq, evV, ↓reduceIte, sevalprocAttr]
 refine evTs_ifg H (by rfl) ?_ ?_ <;> clear H <;> intro H
 ·try simp only [↓wk, ↓wl, nq, evV, ↓reduceIte, sevalprocAttr]
  refine evTs_ifg H (by rfl) ?_ ?_ <;> clear H <;> intro H
  ·try simp only [↓wk, ↓wl, nq, evV, ↓reduceIte, sevalprocAttr]
   refine evTs_ifg H (by rfl) ?_ ?_ <;> clear H <;> intro H
   ·try simp only [↓wk, ↓wl, nq, evV, ↓reduceIte, sevalprocAttr]
    refine evTs_at (enc := eApiToken) H (by rfl) (by rfl) ?_ <;> clear H <;> intro x_649 H
    try simp only [eApiToken, eL, ↓wk, ↓wl, nq, evV, ↓reduceIte, sevalprocAttr]
    refine evTs_ifg H (by rfl) ?_ ?_ <;> clear H <;> intro H
    ·try simp only [↓wk, ↓wl, nq, evV, ↓reduceIte, sevalprocAttr]
     refine evTs_at (enc := eApiToken) H (by rfl) (by rfl) ?_ <;> clear H <;> intro x_650 H
     try simp only [eApiToken, eL, ↓wk, ↓wl, nq, evV, ↓reduceIte, sevalprocAttr]
     refine evTs_ifg H (by rfl) ?_ ?_ <;> clear H <;> intro H
     ·try simp only [↓wk, ↓wl, nq, evV, ↓reduceIte, sevalprocAttr]
      refine AW.ret ?_
      cases H
      exact hQ.fin
     ·try simp only [↓wk, ↓wl, nq, evV, ↓reduceIte, sevalprocAttr]
      refine AW.ret ?_
      cases H
      exact hQ.fin
    ·try simp only [↓wk, ↓wl, nq, evV, ↓reduceIte, sevalprocAttr]
     refine AW.ret ?_
     cases H
     exact hQ.fin
   ·try simp only [↓wk, ↓wl, nq, evV, ↓reduceIte, sevalprocAttr]
    refine AW.ret ?_
    cases H
    exact hQ.fin
  ·try simp only [↓wk, ↓wl, nq, evV, ↓reduceIte, sevalprocAttr]
   refine AW.ret ?_
   cases H
   exact hQ.fin
 ·try simp only [↓wk, ↓wl, nq, evV, ↓reduceIte, sevalprocAttr]
  refine AW.ret ?_
  cases H
  exact hQ.fin
end Go.Proofs.Ytkbjimfganeooaa
