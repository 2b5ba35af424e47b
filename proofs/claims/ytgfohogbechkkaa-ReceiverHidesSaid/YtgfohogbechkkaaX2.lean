import Derived.Test.YtgfohogbechkkaaX1
import Derived.Test.YtgfohogbechkkaaM6
import Derived.Test.YtgfohogbechkkaaProg
import Derived.KernelRfl
namespace Go.Proofs.Ytgfohogbechkkaa
open Go Go.Ab

set_option maxHeartbeats 1000000
set_option maxRecDepth 4000
set_option linter.unusedSimpArgs false
set_option linter.unusedVariables false
theorem f15_J1c (r_730 : ReceiverReceiver × Int × Int) (e_737 : Int) (late_738 : Bool) : (f15_J1 r_730).cst (e_737, late_738) = ⟨put (put (put (fun _ => .junk) 6 (.bool late_738)) 3 (.int .i64 e_737)) 1 (.ptr 0 0), [.cel [.sl 8 false (r_730.1.fInputs.map eReceiverInput)]]⟩ := rfl
def c15_0 : C := .cond (.t 41) (.seq (.reg [iI 0 (.mv (.c (.bool false)))]) .ret) (.skip)
def c15_1 : C := .cond (.t 74) (.seq (.reg [iI 0 (.mv (.c (.bool false)))]) .ret) (.skip)
def c15_2 : C := .cond (.t 101) (.seq (.reg [iI 0 (.mv (.c (.bool false)))]) .ret) (.skip)
def c15_3 : C := .seq (.reg [iI 136 (.mv (.t 3)), iI 137 (.mv (.t 9)), iI 138 (.bin .add (.t 136) (.t 137)), iI 139 (.mv (.t 14)), iI 140 (.bin .add (.t 138) (.t 139)), iI 141 (.mv (.t 16)), iI 142 (.bin .add (.t 140) (.t 141)), iI 143 (.bin .eql (.t 142) (.c (.int .i64 0))), iI 144 (.mv (.t 143)), iG (some 145) 144 true (.mv (.t 2)), iG (some 146) 144 true (.bin .eql (.t 145) (.c (.int .i64 2))), iI 147 (.pick (.t 144) (.t 146) (.c (.bool false))), iI 148 (.mv (.t 147)), iG (some 149) 148 true (.mv (.t 12)), iG (some 150) 148 true (.len 0 (.t 149)), iG (some 151) 148 true (.bin .eql (.t 150) (.c (.int .i64 0))), iI 152 (.pick (.t 148) (.t 151) (.c (.bool false))), iI 153 (.mv (.t 152)), iG (some 154) 153 true (.mv (.t 13)), iI 155 (.pick (.t 153) (.t 154) (.c (.bool false))), iI 156 (.mv (.t 155)), iG (some 157) 156 true (.mv (.t 15)), iG (some 158) 156 true (.len 0 (.t 157)), iG (some 159) 156 true (.bin .eql (.t 158) (.c (.int .i64 2))), iI 160 (.pick (.t 156) (.t 159) (.c (.bool false))), iI 0 (.mv (.t 160))]) .ret
def c15_4 : C := .seq (.reg [iI 132 (.load 1 (.t 1)), iI 133 (.call (.c (.fn 30 [])) [(.t 132), (.c (.int .i64 5))]), iI 131 (.mv (.t 133)), iI 134 (.ext (.t 131) 0), iI 135 (.ext (.t 131) 1), iI 15 (.mv (.t 134)), iI 16 (.mv (.t 135))]) c15_3
def c15_5 : C := .seq (.reg [iI 125 (.load 1 (.t 1)), iI 126 (.build [(1, (.int .u64 0)), (1, (.int .i64 0)), (1, (.int .i64 0)), (1, (.int .i64 0)), (1, (.int .i64 0)), (1, (.bool false)), (1, (.str []))] [(0, 0, (.c (.int .u64 3))), (4, 0, (.c (.int .i64 3)))]), iI 127 (.call (.c (.fn 16 [])) [(.t 125), (.c (.int .i64 5)), (.t 126)]), iI 124 (.mv (.t 127)), iI 128 (.ext (.t 124) 0), iI 129 (.ext (.t 124) 1), iI 130 (.ext (.t 124) 2), iN (.store 1 (.t 1) (.t 128)), iI 13 (.mv (.t 129)), iI 14 (.mv (.t 130))]) c15_4
def c15_6 : C := .seq (.reg [iI 120 (.load 1 (.t 1)), iI 121 (.call (.c (.fn 30 [])) [(.t 120), (.c (.int .i64 5))]), iI 119 (.mv (.t 121)), iI 122 (.ext (.t 119) 0), iI 123 (.ext (.t 119) 1), iI 12 (.mv (.t 122)), iI 9 (.mv (.t 123))]) c15_5
def c15_7 : C := .seq (.reg [iI 109 (.build [(1, (.sl 8 true []))] []), iI 110 (.load 7 (.t 10)), iI 111 (.build [(1, (.int .i64 0)), (1, (.int .u64 0)), (1, (.int .i64 0)), (1, (.int .i64 0)), (1, (.int .i64 0)), (1, (.int .i64 0)), (1, (.bool false)), (1, (.str []))] [(1, 7, (.t 110))]), iI 112 (.load 7 (.t 11)), iI 113 (.build [(1, (.int .i64 0)), (1, (.int .u64 0)), (1, (.int .i64 0)), (1, (.int .i64 0)), (1, (.int .i64 0)), (1, (.int .i64 0)), (1, (.bool false)), (1, (.str []))] [(1, 7, (.t 112))]), iI 114 (.mkslp 8 2 (.agg [(.int .i64 0), (.int .u64 0), (.int .i64 0), (.int .i64 0), (.int .i64 0), (.int .i64 0), (.bool false), (.str [])]) [(0, (.t 111)), (1, (.t 113))]), iI 115 (.call (.c (.fn 24 [])) [(.t 109), (.t 114)]), iI 108 (.mv (.t 115)), iI 116 (.ext (.t 108) 0), iI 117 (.ext (.t 108) 1), iI 118 (.ext (.t 108) 2), iN (.store 1 (.t 1) (.t 116)), iI 2 (.mv (.t 117)), iI 3 (.mv (.t 118))]) c15_6
def c15_8 : C := .seq (.reg [iI 106 (.faddr 4 (.t 10)), iN (.store 0 (.t 106) (.c (.int .i64 3))), iI 107 (.faddr 4 (.t 11)), iN (.store 0 (.t 107) (.c (.int .i64 3)))]) c15_7
def c15_9 : C := .seq (.reg [iI 102 (.mkslp 0 1 (.int .u8 0) [(0, (.c (.int .u8 7)))]), iI 103 (.call (.c (.fn 56 [])) [(.c (.int .u64 3)), (.c (.int .i64 1)), (.c (.int .i64 0)), (.t 102)]), iI 104 (.mkslp 0 1 (.int .u8 0) [(0, (.c (.int .u8 8)))]), iI 105 (.call (.c (.fn 56 [])) [(.c (.int .u64 3)), (.c (.int .i64 2)), (.c (.int .i64 0)), (.t 104)]), iI 10 (.alloc [(1, (.int .u64 0)), (1, (.int .i64 0)), (1, (.int .i64 0)), (1, (.int .i64 0)), (1, (.int .i64 0)), (1, (.bool false)), (1, (.str []))]), iI 11 (.alloc [(1, (.int .u64 0)), (1, (.int .i64 0)), (1, (.int .i64 0)), (1, (.int .i64 0)), (1, (.int .i64 0)), (1, (.bool false)), (1, (.str []))]), iN (.store 7 (.t 10) (.t 103)), iN (.store 7 (.t 11) (.t 105))]) c15_8
def c15_10 : C := .seq (.seq (.reg [iI 91 (.mv (.t 3)), iI 92 (.mv (.t 9)), iI 93 (.bin .add (.t 91) (.t 92)), iI 94 (.bin .neq (.t 93) (.c (.int .i64 0))), iI 95 (.mv (.t 94)), iG (some 96) 95 false (.mv (.t 6)), iI 97 (.pick (.t 95) (.c (.bool true)) (.t 96)), iI 98 (.mv (.t 97)), iG (some 99) 98 false (.mv (.t 8)), iG (some 100) 98 false (.un .not (.t 99)), iI 101 (.pick (.t 98) (.c (.bool true)) (.t 100))]) c15_2) c15_9
def c15_11 : C := .seq (.regt (.fork [iI 84 (.load 1 (.t 1)), iI 85 (.mkslp 0 1 (.int .u8 0) [(0, (.c (.int .u8 1)))])] (.fork [iI 86 (.call (.c (.fn 56 [])) [(.c (.int .u64 2)), (.c (.int .i64 4)), (.c (.int .i64 200)), (.t 85)])] (.run [iI 87 (.call (.c (.fn 16 [])) [(.t 84), (.c (.int .i64 2600)), (.t 86)]), iI 83 (.mv (.t 87)), iI 88 (.ext (.t 83) 0), iI 89 (.ext (.t 83) 1), iI 90 (.ext (.t 83) 2), iI 7 (.alloc [(1, (.sl 8 true []))]), iN (.store 1 (.t 7) (.t 88)), iI 8 (.mv (.t 89)), iI 9 (.mv (.t 90))]) (.run [iI 7 (.alloc [(1, (.sl 8 true []))]), iI 87 (.call (.c (.fn 16 [])) [(.t 84), (.c (.int .i64 2600)), (.t 86)]), iI 83 (.mv (.t 87)), iI 88 (.ext (.t 83) 0), iI 89 (.ext (.t 83) 1), iI 90 (.ext (.t 83) 2), iN (.store 1 (.t 7) (.t 88)), iI 8 (.mv (.t 89)), iI 9 (.mv (.t 90))])) (.run [iI 7 (.alloc [(1, (.sl 8 true []))]), iI 86 (.call (.c (.fn 56 [])) [(.c (.int .u64 2)), (.c (.int .i64 4)), (.c (.int .i64 200)), (.t 85)]), iI 87 (.call (.c (.fn 16 [])) [(.t 84), (.c (.int .i64 2600)), (.t 86)]), iI 83 (.mv (.t 87)), iI 88 (.ext (.t 83) 0), iI 89 (.ext (.t 83) 1), iI 90 (.ext (.t 83) 2), iN (.store 1 (.t 7) (.t 88)), iI 8 (.mv (.t 89)), iI 9 (.mv (.t 90))]))) c15_10
def c15_12 : C := .seq (.regt (.fork [iI 76 (.load 1 (.t 1)), iI 77 (.mkslp 0 1 (.int .u8 0) [(0, (.c (.int .u8 1)))])] (.fork [iI 78 (.call (.c (.fn 56 [])) [(.c (.int .u64 2)), (.c (.int .i64 4)), (.c (.int .i64 8)), (.t 77)])] (.run [iI 79 (.call (.c (.fn 16 [])) [(.t 76), (.c (.int .i64 2600)), (.t 78)]), iI 75 (.mv (.t 79)), iI 80 (.ext (.t 75) 0), iI 81 (.ext (.t 75) 1), iI 82 (.ext (.t 75) 2), iI 5 (.alloc [(1, (.sl 8 true []))]), iN (.store 1 (.t 5) (.t 80)), iI 6 (.mv (.t 81)), iI 3 (.mv (.t 82))]) (.run [iI 5 (.alloc [(1, (.sl 8 true []))]), iI 79 (.call (.c (.fn 16 [])) [(.t 76), (.c (.int .i64 2600)), (.t 78)]), iI 75 (.mv (.t 79)), iI 80 (.ext (.t 75) 0), iI 81 (.ext (.t 75) 1), iI 82 (.ext (.t 75) 2), iN (.store 1 (.t 5) (.t 80)), iI 6 (.mv (.t 81)), iI 3 (.mv (.t 82))])) (.run [iI 5 (.alloc [(1, (.sl 8 true []))]), iI 78 (.call (.c (.fn 56 [])) [(.c (.int .u64 2)), (.c (.int .i64 4)), (.c (.int .i64 8)), (.t 77)]), iI 79 (.call (.c (.fn 16 [])) [(.t 76), (.c (.int .i64 2600)), (.t 78)]), iI 75 (.mv (.t 79)), iI 80 (.ext (.t 75) 0), iI 81 (.ext (.t 75) 1), iI 82 (.ext (.t 75) 2), iN (.store 1 (.t 5) (.t 80)), iI 6 (.mv (.t 81)), iI 3 (.mv (.t 82))]))) c15_11
def c15_13 : C := .seq (.seq (.reg [iI 57 (.mv (.t 3)), iI 58 (.bin .neq (.t 57) (.c (.int .i64 0))), iI 59 (.mv (.t 58)), iG (some 60) 59 false (.mv (.t 2)), iG (some 61) 59 false (.bin .neq (.t 60) (.c (.int .i64 2))), iI 62 (.pick (.t 59) (.c (.bool true)) (.t 61)), iI 63 (.mv (.t 62)), iG (some 64) 63 false (.load 1 (.t 1)), iG (some 65) 63 false (.mkslp 0 2 (.int .u8 0) [(0, (.c (.int .u8 15))), (1, (.c (.int .u8 5)))]), iG (some 66) 63 false (.call (.c (.fn 57 [])) [(.t 64), (.c (.int .i64 2520)), (.c (.int .i64 4)), (.t 65)]), iG (some 67) 63 false (.un .not (.t 66)), iI 68 (.pick (.t 63) (.c (.bool true)) (.t 67)), iI 69 (.mv (.t 68)), iG (some 70) 69 false (.load 1 (.t 1)), iG (some 71) 69 false (.mkslp 0 2 (.int .u8 0) [(0, (.c (.int .u8 10))), (1, (.c (.int .u8 20)))]), iG (some 72) 69 false (.call (.c (.fn 57 [])) [(.t 70), (.c (.int .i64 2521)), (.c (.int .i64 4)), (.t 71)]), iG (some 73) 69 false (.un .not (.t 72)), iI 74 (.pick (.t 69) (.c (.bool true)) (.t 73))]) c15_1) c15_12
def c15_14 : C := .seq (.regq [iI 46 (.load 1 (.t 1)), iI 47 (.load 7 (.t 4)), iI 48 (.build [(1, (.int .i64 0)), (1, (.int .u64 0)), (1, (.int .i64 0)), (1, (.int .i64 0)), (1, (.int .i64 0)), (1, (.int .i64 0)), (1, (.bool false)), (1, (.str []))] [(0, 0, (.c (.int .i64 20))), (1, 7, (.t 47))]), iI 49 (.mkslp 0 2 (.int .u8 0) [(0, (.c (.int .u8 10))), (1, (.c (.int .u8 20)))]), iI 50 (.call (.c (.fn 56 [])) [(.c (.int .u64 1)), (.c (.int .i64 4)), (.c (.int .i64 1)), (.t 49)]), iI 51 (.build [(1, (.int .i64 0)), (1, (.int .u64 0)), (1, (.int .i64 0)), (1, (.int .i64 0)), (1, (.int .i64 0)), (1, (.int .i64 0)), (1, (.bool false)), (1, (.str []))] [(0, 0, (.c (.int .i64 2000))), (1, 7, (.t 50))]), iI 52 (.mkslp 8 2 (.agg [(.int .i64 0), (.int .u64 0), (.int .i64 0), (.int .i64 0), (.int .i64 0), (.int .i64 0), (.bool false), (.str [])]) [(0, (.t 48)), (1, (.t 51))]), iI 53 (.call (.c (.fn 24 [])) [(.t 46), (.t 52)]), iI 45 (.mv (.t 53)), iI 54 (.ext (.t 45) 0), iI 55 (.ext (.t 45) 1), iI 56 (.ext (.t 45) 2), iN (.store 1 (.t 1) (.t 54)), iI 2 (.mv (.t 55)), iI 3 (.mv (.t 56))]) c15_13
def c15_15 : C := .seq (.reg [iI 44 (.faddr 2 (.t 4)), iN (.store 0 (.t 44) (.c (.int .i64 101)))]) c15_14
def c15_16 : C := .seq (.reg [iI 42 (.mkslp 0 2 (.int .u8 0) [(0, (.c (.int .u8 15))), (1, (.c (.int .u8 5)))]), iI 43 (.call (.c (.fn 56 [])) [(.c (.int .u64 2)), (.c (.int .i64 4)), (.c (.int .i64 10)), (.t 42)]), iI 4 (.alloc [(1, (.int .u64 0)), (1, (.int .i64 0)), (1, (.int .i64 0)), (1, (.int .i64 0)), (1, (.int .i64 0)), (1, (.bool false)), (1, (.str []))]), iN (.store 7 (.t 4) (.t 43))]) c15_15
def c15_17 : C := .seq (.seq (.reg [iI 30 (.mv (.t 3)), iI 31 (.bin .neq (.t 30) (.c (.int .i64 0))), iI 32 (.mv (.t 31)), iG (some 33) 32 false (.mv (.t 2)), iG (some 34) 32 false (.bin .neq (.t 33) (.c (.int .i64 2))), iI 35 (.pick (.t 32) (.c (.bool true)) (.t 34)), iI 36 (.mv (.t 35)), iG (some 37) 36 false (.load 1 (.t 1)), iG (some 38) 36 false (.mkslp 0 2 (.int .u8 0) [(0, (.c (.int .u8 15))), (1, (.c (.int .u8 20)))]), iG (some 39) 36 false (.call (.c (.fn 57 [])) [(.t 37), (.c (.int .i64 10)), (.c (.int .i64 4)), (.t 38)]), iG (some 40) 36 false (.un .not (.t 39)), iI 41 (.pick (.t 36) (.c (.bool true)) (.t 40))]) c15_0) c15_16
def c15_18 : C := .seq (.reg [iI 18 (.build [(1, (.sl 8 true []))] []), iI 19 (.mkslp 0 2 (.int .u8 0) [(0, (.c (.int .u8 10))), (1, (.c (.int .u8 20)))]), iI 20 (.call (.c (.fn 56 [])) [(.c (.int .u64 1)), (.c (.int .i64 4)), (.c (.int .i64 0)), (.t 19)]), iI 21 (.build [(1, (.int .i64 0)), (1, (.int .u64 0)), (1, (.int .i64 0)), (1, (.int .i64 0)), (1, (.int .i64 0)), (1, (.int .i64 0)), (1, (.bool false)), (1, (.str []))] [(0, 0, (.c (.int .i64 0))), (1, 7, (.t 20))]), iI 22 (.mkslp 0 2 (.int .u8 0) [(0, (.c (.int .u8 15))), (1, (.c (.int .u8 5)))]), iI 23 (.call (.c (.fn 56 [])) [(.c (.int .u64 2)), (.c (.int .i64 4)), (.c (.int .i64 9)), (.t 22)]), iI 24 (.build [(1, (.int .i64 0)), (1, (.int .u64 0)), (1, (.int .i64 0)), (1, (.int .i64 0)), (1, (.int .i64 0)), (1, (.int .i64 0)), (1, (.bool false)), (1, (.str []))] [(0, 0, (.c (.int .i64 10))), (1, 7, (.t 23))]), iI 25 (.mkslp 8 2 (.agg [(.int .i64 0), (.int .u64 0), (.int .i64 0), (.int .i64 0), (.int .i64 0), (.int .i64 0), (.bool false), (.str [])]) [(0, (.t 21)), (1, (.t 24))]), iI 26 (.call (.c (.fn 24 [])) [(.t 18), (.t 25)]), iI 17 (.mv (.t 26)), iI 27 (.ext (.t 17) 0), iI 28 (.ext (.t 17) 1), iI 29 (.ext (.t 17) 2), iI 1 (.alloc [(1, (.sl 8 true []))]), iN (.store 1 (.t 1) (.t 27)), iI 2 (.mv (.t 28)), iI 3 (.mv (.t 29))]) c15_17
def ir15 : C := .seq (.reg [iI 0 (.mv (.c (.bool false)))]) c15_18
theorem fd15 : fd? Try.prog 15 = some (161, [.slot 0], ir15) := by kernel_rfl
noncomputable def f15 : Option (Bool) :=
  (f56 1 4 0 ([10, 20])).bind fun r_5 => (f56 2 4 9 ([15, 5])).bind fun r_6 => (f24 (ReceiverReceiver.mk ([])) ([(ReceiverEvent.mk 0 r_5), (ReceiverEvent.mk 10 r_6)])).bind fun r_317 => (if (decide (r_317.2.2 ≠ 0)) = true then (some false) else (if (decide (r_317.2.1 ≠ 2)) = true then (some false) else (f57 r_317.1 10 4 ([15, 20])).bind fun r_727 => (if (!r_727) = true then (some false) else (f56 2 4 10 ([15, 5])).bind fun r_728 => (f56 1 4 1 ([10, 20])).bind fun r_729 => (f24 r_317.1 ([(ReceiverEvent.mk 20 (NetworkPacket.mk r_728.fSource r_728.fUniverse 101 r_728.fSeq r_728.fSync r_728.fEnd r_728.fSlots)), (ReceiverEvent.mk 2000 r_729)])).bind fun r_730 => (if (decide (r_730.2.2 ≠ 0)) = true then (some false) else (if (decide (r_730.2.1 ≠ 2)) = true then (some false) else (f57 r_730.1 2520 4 ([15, 5])).bind fun r_733 => (if (!r_733) = true then (some false) else (f57 r_730.1 2521 4 ([10, 20])).bind fun r_734 => (if (!r_734) = true then (some false) else (f56 2 4 8 ([1])).bind fun r_751 => (f16 r_730.1 2600 r_751).bind fun r_752 => ((f15_J1 r_730).run (r_752.2.2, r_752.2.1)))))))))
theorem f15_ok {r_ : Bool} (H : f15 = some r_) : Pure Try.prog 15 [] (· = .bool r_) := by
 refine Pure.walk3 fd15 none (Nat.le_of_ble_eq_true rfl) (by rfl) fun Q hQ => ?_
 simp only [f15] at H
 refine AW.rseq ?_
 try simp only [↓wk, ↓wl, nq, evV, ↓reduceIte, sevalprocAttr]
 refine AW.rseq ?_
 try simp only [↓wk, ↓wl, nq, evV, ↓reduceIte, sevalprocAttr]
 refine evTs_pure hFn H (fun _ h => f56_ok h) (by rfl) (by rfl) (by rfl) (by rfl) (fun _ => rfl) ?_ <;> clear H <;> intro r_5 H
 try simp only [eL, eNetworkPacket, ↓wk, ↓wl, nq, evV, ↓reduceIte, sevalprocAttr]
 refine evTs_pure hFn H (fun _ h => f56_ok h) (by rfl) (by rfl) (by rfl) (by rfl) (fun _ => rfl) ?_ <;> clear H <;> intro r_6 H
 try simp only [eL, eNetworkPacket, ↓wk, ↓wl, nq, evV, ↓reduceIte, sevalprocAttr]
 refine evTs_pure hFn H (fun _ h => f24_ok h) (by rfl) (by rfl) (by rfl) (by rfl) (fun _ => rfl) ?_ <;> clear H <;> intro r_317 H
 try simp only [eL, eReceiverReceiver, ↓wk, ↓wl, nq, evV, ↓reduceIte, sevalprocAttr]
 refine AW.sseq ?_
 refine AW.rseq ?_
 try simp only [↓wk, ↓wl, nq, evV, ↓reduceIte, sevalprocAttr]
 refine evTs_ifg H (by rfl) ?_ ?_ <;> clear H <;> intro H
 ·try simp only [↓wk, ↓wl, nq, evV, ↓reduceIte, sevalprocAttr]
  refine AW.ift (by rfl) ?_
  refine AW.rseq ?_
  try simp only [↓wk, ↓wl, nq, evV, ↓reduceIte, sevalprocAttr]
  refine AW.ret ?_
  refine seqQ.ret ?_
  cases H
  exact hQ.fin
 ·try simp only [↓wk, ↓wl, nq, evV, ↓reduceIte, sevalprocAttr]
  refine evTs_ifg H (by rfl) ?_ ?_ <;> clear H <;> intro H
  ·try simp only [↓wk, ↓wl, nq, evV, ↓reduceIte, sevalprocAttr]
   refine AW.ift (by rfl) ?_
   refine AW.rseq ?_
   try simp only [↓wk, ↓wl, nq, evV, ↓reduceIte, sevalprocAttr]
   refine AW.ret ?_
   refine seqQ.ret ?_
   cases H
   exact hQ.fin
  ·try simp only [↓wk, ↓wl, nq, evV, ↓reduceIte, sevalprocAttr]
   refine evTs_pure hFn H (fun _ h => f57_ok h) (by rfl) (by rfl) (by rfl) (by rfl) (fun _ => rfl) ?_ <;> clear H <;> intro r_727 H
   try simp only [eL, ↓wk, ↓wl, nq, evV, ↓reduceIte, sevalprocAttr]
   refine AW.ifc H (by rfl) ?_ ?_ <;> clear H <;> intro H
   ·refine AW.rseq ?_
    try simp only [↓wk, ↓wl, nq, evV, ↓reduceIte, sevalprocAttr]
    refine AW.ret ?_
    refine seqQ.ret ?_
    cases H
    exact hQ.fin
   ·refine AW.skip ?_
    refine seqQ.norm ?_
    refine AW.rseq ?_
    try simp only [↓wk, ↓wl, nq, evV, ↓reduceIte, sevalprocAttr]
    refine evTs_pure hFn H (fun _ h => f56_ok h) (by rfl) (by rfl) (by rfl) (by rfl) (fun _ => rfl) ?_ <;> clear H <;> intro r_728 H
    try simp only [eL, eNetworkPacket, ↓wk, ↓wl, nq, evV, ↓reduceIte, sevalprocAttr]
    refine AW.rseq ?_
    try simp only [↓wk, ↓wl, nq, evV, ↓reduceIte, sevalprocAttr]
    refine AW.rqseq ?_
    try simp only [↓wk, ↓wl, nq, evV, ↓reduceIte, sevalprocAttr]
    refine evTs_pure hFnq H (fun _ h => f56_ok h) (by rfl) (by rfl) (by rfl) (by rfl) (fun _ => rfl) ?_ <;> clear H <;> intro r_729 H
    try simp only [eL, eNetworkPacket, ↓wk, ↓wl, nq, evV, ↓reduceIte, sevalprocAttr]
    refine evTs_pure hFnq H (fun _ h => f24_ok h) (by rfl) (by rfl) (by rfl) (by rfl) (fun _ => rfl) ?_ <;> clear H <;> intro r_730 H
    try simp only [eL, eReceiverReceiver, ↓wk, ↓wl, nq, evV, ↓reduceIte, sevalprocAttr]
    refine AW.sseq ?_
    refine AW.rseq ?_
    try simp only [↓wk, ↓wl, nq, evV, ↓reduceIte, sevalprocAttr]
    refine evTs_ifg H (by rfl) ?_ ?_ <;> clear H <;> intro H
    ·try simp only [↓wk, ↓wl, nq, evV, ↓reduceIte, sevalprocAttr]
     refine AW.ift (by rfl) ?_
     refine AW.rseq ?_
     try simp only [↓wk, ↓wl, nq, evV, ↓reduceIte, sevalprocAttr]
     refine AW.ret ?_
     refine seqQ.ret ?_
     cases H
     exact hQ.fin
    ·try simp only [↓wk, ↓wl, nq, evV, ↓reduceIte, sevalprocAttr]
     refine evTs_ifg H (by rfl) ?_ ?_ <;> clear H <;> intro H
     ·try simp only [↓wk, ↓wl, nq, evV, ↓reduceIte, sevalprocAttr]
      refine AW.ift (by rfl) ?_
      refine AW.rseq ?_
      try simp only [↓wk, ↓wl, nq, evV, ↓reduceIte, sevalprocAttr]
      refine AW.ret ?_
      refine seqQ.ret ?_
      cases H
      exact hQ.fin
     ·try simp only [↓wk, ↓wl, nq, evV, ↓reduceIte, sevalprocAttr]
      refine evTs_pure hFn H (fun _ h => f57_ok h) (by rfl) (by rfl) (by rfl) (by rfl) (fun _ => rfl) ?_ <;> clear H <;> intro r_733 H
      try simp only [eL, ↓wk, ↓wl, nq, evV, ↓reduceIte, sevalprocAttr]
      refine evTs_ifg H (by rfl) ?_ ?_ <;> clear H <;> intro H
      ·try simp only [↓wk, ↓wl, nq, evV, ↓reduceIte, sevalprocAttr]
       refine AW.ift (by rfl) ?_
       refine AW.rseq ?_
       try simp only [↓wk, ↓wl, nq, evV, ↓reduceIte, sevalprocAttr]
       refine AW.ret ?_
       refine seqQ.ret ?_
       cases H
       exact hQ.fin
      ·try simp only [↓wk, ↓wl, nq, evV, ↓reduceIte, sevalprocAttr]
       refine evTs_pure hFn H (fun _ h => f57_ok h) (by rfl) (by rfl) (by rfl) (by rfl) (fun _ => rfl) ?_ <;> clear H <;> intro r_734 H
       try simp only [eL, ↓wk, ↓wl, nq, evV, ↓reduceIte, sevalprocAttr]
       refine AW.ifc H (by rfl) ?_ ?_ <;> clear H <;> intro H
       ·refine AW.rseq ?_
        try simp only [↓wk, ↓wl, nq, evV, ↓reduceIte, sevalprocAttr]
        refine AW.ret ?_
        refine seqQ.ret ?_
        cases H
        exact hQ.fin
       ·refine AW.skip ?_
        refine seqQ.norm ?_
        refine AW.join (f15_J1 r_730) H ?_ fun hf15_J1 => ?_
        ·clear H
         rintro ⟨e_737, late_738⟩ st0_ H hst_
         rw [f15_J1c] at hst_
         simp only [f15_J1] at H
         subst hst_
         refine AW.join (f15_J2 e_737 late_738 r_730) H ?_ fun hf15_J2 => ?_
         ·clear H
          rintro ⟨far_741, f_742⟩ st0_ H hst_
          rw [f15_J2c] at hst_
          simp only [f15_J2] at H
          subst hst_
          refine AW.sseq ?_
          refine AW.rseq ?_
          try simp only [↓wk, ↓wl, nq, evV, ↓reduceIte, sevalprocAttr]
          refine evTs_ifg H (by rfl) ?_ ?_ <;> clear H <;> intro H
          ·try simp only [↓wk, ↓wl, nq, evV, ↓reduceIte, sevalprocAttr]
           refine AW.ift (by rfl) ?_
           refine AW.rseq ?_
           try simp only [↓wk, ↓wl, nq, evV, ↓reduceIte, sevalprocAttr]
           refine AW.ret ?_
           refine seqQ.ret ?_
           cases H
           exact hQ.fin
          ·try simp only [↓wk, ↓wl, nq, evV, ↓reduceIte, sevalprocAttr]
           refine evTs_ifg H (by rfl) ?_ ?_ <;> clear H <;> intro H
           ·try simp only [↓wk, ↓wl, nq, evV, ↓reduceIte, sevalprocAttr]
            refine AW.ift (by rfl) ?_
            refine AW.rseq ?_
            try simp only [↓wk, ↓wl, nq, evV, ↓reduceIte, sevalprocAttr]
            refine AW.ret ?_
            refine seqQ.ret ?_
            cases H
            exact hQ.fin
           ·try simp only [↓wk, ↓wl, nq, evV, ↓reduceIte, sevalprocAttr]
            refine AW.ifc H (by rfl) ?_ ?_ <;> clear H <;> intro H
            ·refine AW.rseq ?_
             try simp only [↓wk, ↓wl, nq, evV, ↓reduceIte, sevalprocAttr]
             refine AW.ret ?_
             refine seqQ.ret ?_
             cases H
             exact hQ.fin
            ·refine AW.skip ?_
             refine seqQ.norm ?_
             refine AW.rseq ?_
             try simp only [↓wk, ↓wl, nq, evV, ↓reduceIte, sevalprocAttr]
             refine evTs_pure hFn H (fun _ h => f56_ok h) (by rfl) (by rfl) (by rfl) (by rfl) (fun _ => rfl) ?_ <;> clear H <;> intro r_743 H
             try simp only [eL, eNetworkPacket, ↓wk, ↓wl, nq, evV, ↓reduceIte, sevalprocAttr]
             refine evTs_pure hFn H (fun _ h => f56_ok h) (by rfl) (by rfl) (by rfl) (by rfl) (fun _ => rfl) ?_ <;> clear H <;> intro r_744 H
             try simp only [eL, eNetworkPacket, ↓wk, ↓wl, nq, evV, ↓reduceIte, sevalprocAttr]
             refine AW.rseq ?_
             try simp only [↓wk, ↓wl, nq, evV, ↓reduceIte, sevalprocAttr]
             refine AW.rseq ?_
             try simp only [↓wk, ↓wl, nq, evV, ↓reduceIte, sevalprocAttr]
             refine evTs_pure hFn H (fun _ h => f24_ok h) (by rfl) (by rfl) (by rfl) (by rfl) (fun _ => rfl) ?_ <;> clear H <;> intro r_745 H
             try simp only [eL, eReceiverReceiver, ↓wk, ↓wl, nq, evV, ↓reduceIte, sevalprocAttr]
             refine AW.rseq ?_
             try simp only [↓wk, ↓wl, nq, evV, ↓reduceIte, sevalprocAttr]
             refine evTs_pure hFn H (fun _ h => f30_im h) (by rfl) (by rfl) (by rfl) (by rfl) (fun _ => rfl) ?_ <;> clear H <;> intro r_746 H
             try simp only [eL, ↓wk, ↓wl, nq, evV, ↓reduceIte, sevalprocAttr]
             refine AW.rseq ?_
             try simp only [↓wk, ↓wl, nq, evV, ↓reduceIte, sevalprocAttr]
             refine evTs_pure hFn H (fun _ h => f16_ok h) (by rfl) (by rfl) (by rfl) (by rfl) (fun _ => rfl) ?_ <;> clear H <;> intro r_747 H
             try simp only [eL, eReceiverReceiver, ↓wk, ↓wl, nq, evV, ↓reduceIte, sevalprocAttr]
             refine AW.rseq ?_
             try simp only [↓wk, ↓wl, nq, evV, ↓reduceIte, sevalprocAttr]
             refine evTs_pure hFn H (fun _ h => f30_im h) (by rfl) (by rfl) (by rfl) (by rfl) (fun _ => rfl) ?_ <;> clear H <;> intro r_748 H
             try simp only [eL, ↓wk, ↓wl, nq, evV, ↓reduceIte, sevalprocAttr]
             refine AW.rseq ?_
             try simp only [↓wk, ↓wl, nq, evV, ↓reduceIte, sevalprocAttr]
             refine evTs_ifg H (by rfl) ?_ ?_ <;> clear H <;> intro H
             ·try simp only [↓wk, ↓wl, nq, evV, ↓reduceIte, sevalprocAttr]
              refine evTs_ifg H (by rfl) ?_ ?_ <;> clear H <;> intro H
              ·try simp only [↓wk, ↓wl, nq, evV, ↓reduceIte, sevalprocAttr]
               refine evTs_ifg H (by rfl) ?_ ?_ <;> clear H <;> intro H
               ·try simp only [↓wk, ↓wl, nq, evV, ↓reduceIte, sevalprocAttr]
                refine evTs_ifg H (by rfl) ?_ ?_ <;> clear H <;> intro H
                ·try simp only [↓wk, ↓wl, nq, evV, ↓reduceIte, sevalprocAttr]
                 refine AW.ret ?_
                 cases H
                 exact hQ.fin
                ·try simp only [↓wk, ↓wl, nq, evV, ↓reduceIte, sevalprocAttr]
                 refine AW.ret ?_
                 cases H
                 exact hQ.fin
               ·try simp only [↓wk, ↓wl, nq, evV, ↓reduceIte, sevalprocAttr]
                refine AW.ret ?_
                cases H
                exact hQ.fin
              ·try simp only [↓wk, ↓wl, nq, evV, ↓reduceIte, sevalprocAttr]
               refine AW.ret ?_
               cases H
               exact hQ.fin
             ·try simp only [↓wk, ↓wl, nq, evV, ↓reduceIte, sevalprocAttr]
              refine AW.ret ?_
              cases H
              exact hQ.fin
         ·refine AW.regt ?_
          refine evR.fork ?_
          try simp only [↓wk, ↓wl, nq, evV, ↓reduceIte, sevalprocAttr]
          refine evR.both ?_ ?_
          ·refine evR.fork ?_
           try simp only [↓wk, ↓wl, nq, evV, ↓reduceIte, sevalprocAttr]
           refine evTs_pure hFnq H (fun _ h => f56_ok h) (by rfl) (by rfl) (by rfl) (by rfl) (fun _ => rfl) ?_ <;> clear H <;> intro r_749 H
           try simp only [eL, eNetworkPacket, ↓wk, ↓wl, nq, evV, ↓reduceIte, sevalprocAttr]
           refine evR.both ?_ ?_
           ·refine evR.run ?_
            try simp only [↓wk, ↓wl, nq, evV, ↓reduceIte, sevalprocAttr]
            refine evTs_pure hFnq H (fun _ h => f16_ok h) (by rfl) (by rfl) (by rfl) (by rfl) (fun _ => rfl) ?_ <;> clear H <;> intro r_750 H
            try simp only [eL, eReceiverReceiver, ↓wk, ↓wl, nq, evV, ↓reduceIte, sevalprocAttr]
            refine seqQ.norm ?_
            exact hf15_J2 _ _ H ((Le.tz [0] [1, 3, 6, 8, 9] (by simp only [f15_J2c, rrm, ↓wk, ↓wl, evV, ↓reduceIte, sevalprocAttr] <;> rfl)))
           ·refine evR.run ?_
            try simp only [↓wk, ↓wl, nq, evV, ↓reduceIte, sevalprocAttr]
            refine evTs_pure hFnq H (fun _ h => f16_ok h) (by rfl) (by rfl) (by rfl) (by rfl) (fun _ => rfl) ?_ <;> clear H <;> intro r_750 H
            try simp only [eL, eReceiverReceiver, ↓wk, ↓wl, nq, evV, ↓reduceIte, sevalprocAttr]
            refine seqQ.norm ?_
            exact hf15_J2 _ _ H ((Le.tz [0] [1, 3, 6, 8, 9] (by simp only [f15_J2c, rrm, ↓wk, ↓wl, evV, ↓reduceIte, sevalprocAttr] <;> rfl)))
          ·refine evR.run ?_
           try simp only [↓wk, ↓wl, nq, evV, ↓reduceIte, sevalprocAttr]
           refine evTs_pure hFnq H (fun _ h => f56_ok h) (by rfl) (by rfl) (by rfl) (by rfl) (fun _ => rfl) ?_ <;> clear H <;> intro r_749 H
           try simp only [eL, eNetworkPacket, ↓wk, ↓wl, nq, evV, ↓reduceIte, sevalprocAttr]
           refine evTs_pure hFnq H (fun _ h => f16_ok h) (by rfl) (by rfl) (by rfl) (by rfl) (fun _ => rfl) ?_ <;> clear H <;> intro r_750 H
           try simp only [eL, eReceiverReceiver, ↓wk, ↓wl, nq, evV, ↓reduceIte, sevalprocAttr]
           refine seqQ.norm ?_
           exact hf15_J2 _ _ H ((Le.tz [0] [1, 3, 6, 8, 9] (by simp only [f15_J2c, rrm, ↓wk, ↓wl, evV, ↓reduceIte, sevalprocAttr] <;> rfl)))
        ·refine AW.regt ?_
         refine evR.fork ?_
         try simp only [↓wk, ↓wl, nq, evV, ↓reduceIte, sevalprocAttr]
         refine evR.both ?_ ?_
         ·refine evR.fork ?_
          try simp only [↓wk, ↓wl, nq, evV, ↓reduceIte, sevalprocAttr]
          refine evTs_pure hFnq H (fun _ h => f56_ok h) (by rfl) (by rfl) (by rfl) (by rfl) (fun _ => rfl) ?_ <;> clear H <;> intro r_751 H
          try simp only [eL, eNetworkPacket, ↓wk, ↓wl, nq, evV, ↓reduceIte, sevalprocAttr]
          refine evR.both ?_ ?_
          ·refine evR.run ?_
           try simp only [↓wk, ↓wl, nq, evV, ↓reduceIte, sevalprocAttr]
           refine evTs_pure hFnq H (fun _ h => f16_ok h) (by rfl) (by rfl) (by rfl) (by rfl) (fun _ => rfl) ?_ <;> clear H <;> intro r_752 H
           try simp only [eL, eReceiverReceiver, ↓wk, ↓wl, nq, evV, ↓reduceIte, sevalprocAttr]
           refine seqQ.norm ?_
           exact hf15_J1 _ _ H ((Le.tz [0] [1, 3, 6] (by simp only [f15_J1c, rrm, ↓wk, ↓wl, evV, ↓reduceIte, sevalprocAttr] <;> rfl)))
          ·refine evR.run ?_
           try simp only [↓wk, ↓wl, nq, evV, ↓reduceIte, sevalprocAttr]
           refine evTs_pure hFnq H (fun _ h => f16_ok h) (by rfl) (by rfl) (by rfl) (by rfl) (fun _ => rfl) ?_ <;> clear H <;> intro r_752 H
           try simp only [eL, eReceiverReceiver, ↓wk, ↓wl, nq, evV, ↓reduceIte, sevalprocAttr]
           refine seqQ.norm ?_
           exact hf15_J1 _ _ H ((Le.tz [0] [1, 3, 6] (by simp only [f15_J1c, rrm, ↓wk, ↓wl, evV, ↓reduceIte, sevalprocAttr] <;> rfl)))
         ·refine evR.run ?_
          try simp only [↓wk, ↓wl, nq, evV, ↓reduceIte, sevalprocAttr]
          refine evTs_pure hFnq H (fun _ h => f56_ok h) (by rfl) (by rfl) (by rfl) (by rfl) (fun _ => rfl) ?_ <;> clear H <;> intro r_751 H
          try simp only [eL, eNetworkPacket, ↓wk, ↓wl, nq, evV, ↓reduceIte, sevalprocAttr]
          refine evTs_pure hFnq H (fun _ h => f16_ok h) (by rfl) (by rfl) (by rfl) (by rfl) (fun _ => rfl) ?_ <;> clear H <;> intro r_752 H
          try simp only [eL, eReceiverReceiver, ↓wk, ↓wl, nq, evV, ↓reduceIte, sevalprocAttr]
          refine seqQ.norm ?_
          exact hf15_J1 _ _ H ((Le.tz [0] [1, 3, 6] (by simp only [f15_J1c, rrm, ↓wk, ↓wl, evV, ↓reduceIte, sevalprocAttr] <;> rfl)))
noncomputable def f18_L1 (r_754 : ReceiverReceiver) : Lp (Int × (List Ref57Input)) ((List Ref57Input)) where
  body := fun (v_763, out_764) => (if (decide (v_763 < ((r_754.fInputs.length : Nat) : Int))) = true then (at? r_754.fInputs v_763).bind fun x_768 => (app? 80 out_764 ([(Ref57Input.mk x_768.fUniverse x_768.fSource x_768.fPriority x_768.fSeq x_768.fSync x_768.fLast x_768.fSlots x_768.fWait)])).bind fun out_769 => (some (.next ((IntKind.i64.wrap (v_763 + 1)), out_769))) else (some (.brk out_764)))
  cst := fun (v_763, out_764) => ⟨put (put (put (put (put (fun _ => .junk) 9 (.int .i64 v_763)) 8 (.int .i64 ((r_754.fInputs.length : Nat) : Int))) 7 (.sl 8 false (r_754.fInputs.map eReceiverInput))) 3 (.ptr 1 0)) 2 (.ptr 0 0), [.cel [.sl 8 true []], .cel [.row 8 2 0 out_764.length], .els 8 (out_764.map eRef57Input)]⟩
theorem f18_L1c (r_754 : ReceiverReceiver) (v_763 : Int) (out_764 : (List Ref57Input)) : (f18_L1 r_754).cst (v_763, out_764) = ⟨put (put (put (put (put (fun _ => .junk) 9 (.int .i64 v_763)) 8 (.int .i64 ((r_754.fInputs.length : Nat) : Int))) 7 (.sl 8 false (r_754.fInputs.map eReceiverInput))) 3 (.ptr 1 0)) 2 (.ptr 0 0), [.cel [.sl 8 true []], .cel [.row 8 2 0 out_764.length], .els 8 (out_764.map eRef57Input)]⟩ := rfl
def c18_0 : C := .reg [iI 13 (.faddr 0 (.t 3)), iI 14 (.load 0 (.t 13)), iI 15 (.load 8 (.t 5)), iI 16 (.mkslp 8 1 (.agg [(.int .i64 0), (.int .u64 0), (.int .i64 0), (.int .i64 0), (.int .i64 0), (.int .i64 0), (.str []), (.str [])]) [(0, (.t 15))]), iI 17 (.append 8 80 (.t 14) (.t 16)), iI 18 (.faddr 0 (.t 3)), iN (.store 0 (.t 18) (.t 17))]
def c18_1 : C := .reg [iI 19 (.bin .add (.t 9) (.c (.int .i64 1))), iI 9 (.mv (.t 19))]
def c18_2 : C := .seq (.block 1 (.seq (.reg [iI 11 (.iaddr 8 (.t 7) (.t 9)), iI 12 (.load 8 (.t 11)), iI 5 (.alloc [(1, (.int .i64 0)), (1, (.int .u64 0)), (1, (.int .i64 0)), (1, (.int .i64 0)), (1, (.int .i64 0)), (1, (.int .i64 0)), (1, (.str [])), (1, (.str []))]), iN (.store 8 (.t 5) (.t 12))]) c18_0)) c18_1
def c18_3 : C := .seq (.cond (.t 10) (.skip) (.exit 0)) c18_2
def c18_4 : C := .block 0 (.loop (.seq (.reg [iI 10 (.bin .lss (.t 9) (.t 8))]) c18_3))
def c18_5 : C := .seq (.reg [iI 20 (.load 1 (.t 3)), iN (.store 1 (.t 2) (.t 20))]) .ret
def c18_6 : C := .seq (.seq (.reg [iI 6 (.faddr 0 (.t 1)), iI 7 (.load 0 (.t 6)), iI 8 (.len 0 (.t 7)), iI 9 (.mv (.c (.int .i64 0)))]) c18_4) c18_5
def c18_7 : C := .seq (.reg [iI 3 (.alloc [(1, (.sl 8 true []))])]) c18_6
def ir18 : C := .seq (.reg [iI 1 (.box (.t 0)), iI 2 (.alloc [(1, (.sl 8 true []))])]) c18_7
theorem fd18 : fd? Try.prog 18 = some (21, [.cell 2 1], ir18) := by kernel_rfl
noncomputable def f18 (r_754 : ReceiverReceiver) : Option (Ref57Receiver) :=
  (Lp.run (f18_L1 r_754) (0, [])).bind fun out_767 => (some (Ref57Receiver.mk out_767))
theorem f18_ok {r_754 : ReceiverReceiver} {r_ : Ref57Receiver} (H : f18 r_754 = some r_) : Pure Try.prog 18 [.agg [.sl 8 false (r_754.fInputs.map eReceiverInput)]] (· = .agg [.sl 8 false (r_.fInputs.map eRef57Input)]) := by
 refine Pure.walk3 fd18 none (Nat.le_of_ble_eq_true rfl) (by rfl) fun Q hQ => ?_
 simp only [f18] at H
 refine AW.rseq ?_
 try simp only [↓wk, ↓wl, nq, evV, ↓reduceIte, sevalprocAttr]
 refine AW.rseq ?_
 try simp only [↓wk, ↓wl, nq, evV, ↓reduceIte, sevalprocAttr]
 refine AW.sseq ?_
 refine AW.rseq ?_
 try simp only [↓wk, ↓wl, nq, evV, ↓reduceIte, sevalprocAttr]
 refine AW.bend ?_
 refine AW.iter H ((Le.trans (Le.nilCell (b := 2) (o := 0) (e := 8) (by rfl) (by rfl)) (Le.tz [1, 2, 3] [2, 3, 7, 8, 9] (by simp only [f18_L1c, rrm, ↓wk, ↓wl, evV, ↓reduceIte, sevalprocAttr] <;> rfl)))) ?_ <;> clear H
 rintro ⟨v_763, out_764⟩ x_ st0_ H hst_
 rw [f18_L1c] at hst_
 simp only [f18_L1] at H
 subst hst_
 refine AW.rseq ?_
 try simp only [↓wk, ↓wl, nq, evV, ↓reduceIte, sevalprocAttr]
 refine AW.sseq ?_
 refine AW.ifc H (by rfl) ?_ ?_ <;> clear H <;> intro H
 ·refine AW.skip ?_
  refine seqQ.norm ?_
  refine AW.bseq ?_
  refine AW.rseq ?_
  try simp only [↓wk, ↓wl, nq, evV, ↓reduceIte, sevalprocAttr]
  refine evTs_at (enc := eReceiverInput) H (by rfl) (by rfl) ?_ <;> clear H <;> intro x_768 H
  try simp only [eReceiverInput, eL, ↓wk, ↓wl, nq, evV, ↓reduceIte, sevalprocAttr]
  refine AW.rend ?_
  try simp only [↓wk, ↓wl, nq, evV, ↓reduceIte, sevalprocAttr]
  refine evTs_app (enc := eRef57Input) H (by rfl) (by first | rfl | simp only [List.length_set]) (by rfl) (by rfl) ?_ <;> clear H <;> intro out_769 H
  try simp only [↓wk, ↓wl, nq, evV, ↓reduceIte, sevalprocAttr]
  refine blkQ.norm ?_
  refine AW.rend ?_
  try simp only [↓wk, ↓wl, nq, evV, ↓reduceIte, sevalprocAttr]
  exact loopQ.next H ((Le.tz [0, 1, 4] [2, 3, 7, 8, 9] (by simp only [f18_L1c, rrm, ↓wk, ↓wl, evV, ↓reduceIte, sevalprocAttr] <;> rfl)))
 ·refine AW.exit ?_
  refine seqQ.exit ?_
  refine loopQ.exit H ?_ <;> clear H <;> intro H
  try dsimp only at H
  refine blk0.here ?_
  refine seqQ.norm ?_
  refine AW.rseq ?_
  try simp only [↓wk, ↓wl, nq, evV, ↓reduceIte, sevalprocAttr]
  refine AW.ret ?_
  cases H
  exact hQ _ _ _ _ (.inr rfl) (by simp only [resVs, omap, resV, ↓wk, ↓wl, nq, evV, ↓reduceIte, sevalprocAttr]; rfl) (by simp only [handOver, deep_eq, imm_simps, imm_rowE, imm_ptrE, imm_enc, omap_simps, take_map_len, take_map_set, take_map_set2, List.length_set, le_refl_true, Nat.zero_add, and_true, true_and, List.drop_zero, Option.map_some, ↓wk, ↓wl, nq, evV, ↓reduceIte, sevalprocAttr]; rfl) (by first | exact Or.inl rfl | exact Or.inr rfl)
def c55_0 : C := .seq (.reg [iI 3 (.faddr 0 (.t 1)), iI 4 (.load 0 (.t 3)), iI 5 (.len 0 (.t 4)), iI 6 (.bin .leq (.t 5) (.c (.int .i64 8))), iI 7 (.mv (.t 6)), iG (some 8) 7 false (.faddr 0 (.t 1)), iG (some 9) 7 false (.load 0 (.t 8)), iG (some 10) 7 false (.len 0 (.t 9)), iG (some 11) 7 false (.bin .gtr (.t 10) (.c (.int .i64 62))), iG (some 12) 7 false (.mv (.t 11)), iG (some 13) 12 true (.faddr 0 (.t 1)), iG (some 14) 12 true (.load 0 (.t 13)), iG (some 15) 12 true (.len 0 (.t 14)), iG (some 16) 12 true (.bin .lss (.t 15) (.c (.int .i64 68))), iG (some 17) 7 false (.pick (.t 12) (.t 16) (.c (.bool false))), iI 18 (.pick (.t 7) (.c (.bool true)) (.t 17)), iI 2 (.mv (.t 18))]) .ret
def ir55 : C := .seq (.reg [iI 1 (.box (.t 0)), iI 2 (.mv (.c (.bool false)))]) c55_0
theorem fd55 : fd? Try.prog 55 = some (19, [.slot 2], ir55) := by kernel_rfl
noncomputable def f55 (r_771 : Ref57Receiver) : Option (Bool) :=
  (if (decide (((r_771.fInputs.length : Nat) : Int) ≤ 8)) = true then (some true) else (if (decide (62 < ((r_771.fInputs.length : Nat) : Int))) = true then (some (decide (((r_771.fInputs.length : Nat) : Int) < 68))) else (some false)))
theorem f55_ok {r_771 : Ref57Receiver} {r_ : Bool} (H : f55 r_771 = some r_) : Pure Try.prog 55 [.agg [.sl 8 false (r_771.fInputs.map eRef57Input)]] (· = .bool r_) := by
 refine Pure.walk3 fd55 none (Nat.le_of_ble_eq_true rfl) (by rfl) fun Q hQ => ?_
 simp only [f55] at H
 refine AW.rseq ?_
 try simp only [↓wk, ↓wl, nq, evV, ↓reduceIte, sevalprocAttr]
 refine AW.rseq ?_
 try simp only [↓wk, ↓wl, nq, evV, ↓reduceIte, sevalprocAttr]
 refine evTs_ifg H (by rfl) ?_ ?_ <;> clear H <;> intro H
 ·try simp only [↓wk, ↓wl, nq, evV, ↓reduceIte, sevalprocAttr]
  refine AW.ret ?_
  cases H
  exact hQ.fin
 ·try simp only [↓wk, ↓wl, nq, evV, ↓reduceIte, sevalprocAttr]
  refine evTs_ifg H (by rfl) ?_ ?_ <;> clear H <;> intro H
  ·try simp only [↓wk, ↓wl, nq, evV, ↓reduceIte, sevalprocAttr]
   refine AW.ret ?_
   cases H
   exact hQ.fin
  ·try simp only [↓wk, ↓wl, nq, evV, ↓reduceIte, sevalprocAttr]
   refine AW.ret ?_
   cases H
   exact hQ.fin
def c14_0 : C := .seq (.reg [iI 3 (.load 1 (.t 1)), iI 4 (.call (.c (.fn 18 [])) [(.t 3)]), iI 5 (.call (.c (.fn 55 [])) [(.t 4)]), iI 2 (.mv (.t 5))]) .ret
def ir14 : C := .seq (.reg [iI 1 (.box (.t 0)), iI 2 (.mv (.c (.bool false)))]) c14_0
theorem fd14 : fd? Try.prog 14 = some (6, [.slot 2], ir14) := by kernel_rfl
noncomputable def f14 (r_753 : ReceiverReceiver) : Option (Bool) :=
  (f18 r_753).bind fun r_770 => (f55 r_770).bind fun r_772 => (some r_772)
theorem f14_ok {r_753 : ReceiverReceiver} {r_ : Bool} (H : f14 r_753 = some r_) : Pure Try.prog 14 [.agg [.sl 8 false (r_753.fInputs.map eReceiverInput)]] (· = .bool r_) := by
 refine Pure.walk3 fd14 none (Nat.le_of_ble_eq_true rfl) (by rfl) fun Q hQ => ?_
 simp only [f14] at H
 refine AW.rseq ?_
 try simp only [↓wk, ↓wl, nq, evV, ↓reduceIte, sevalprocAttr]
 refine AW.rseq ?_
 try simp only [↓wk, ↓wl, nq, evV, ↓reduceIte, sevalprocAttr]
 refine evTs_pure hFn H (fun _ h => f18_ok h) (by rfl) (by rfl) (by rfl) (by rfl) (fun _ => rfl) ?_ <;> clear H <;> intro r_770 H
 try simp only [eL, eRef57Receiver, ↓wk, ↓wl, nq, evV, ↓reduceIte, sevalprocAttr]
 refine evTs_pure hFn H (fun _ h => f55_ok h) (by rfl) (by rfl) (by rfl) (by rfl) (fun _ => rfl) ?_ <;> clear H <;> intro r_772 H
 try simp only [eL, ↓wk, ↓wl, nq, evV, ↓reduceIte, sevalprocAttr]
 refine AW.ret ?_
 cases H
 exact hQ.fin
def c70_0 : C := .seq (.reg [iI 3 (.mv (.t 0)), iI 4 (.bin .gtr (.t 3) (.c (.int .u64 0))), iI 5 (.mv (.t 4)), iG (some 6) 5 true (.mv (.t 0)), iG (some 7) 5 true (.bin .lss (.t 6) (.c (.int .u64 281474976710655))), iI 8 (.pick (.t 5) (.t 7) (.c (.bool false))), iI 2 (.mv (.t 8))]) .ret
def ir70 : C := .seq (.reg [iI 2 (.mv (.c (.bool false)))]) c70_0
theorem fd70 : fd? Try.prog 70 = some (9, [.slot 2], ir70) := by kernel_rfl
noncomputable def f70 (id_780 : Int) : Option (Bool) :=
  (if (decide (0 < id_780)) = true then (some (decide (id_780 < 281474976710655))) else (some false))
theorem f70_ok {id_780 : Int} {r_ : Bool} (H : f70 id_780 = some r_) : Pure Try.prog 70 [.int .u64 id_780] (· = .bool r_) := by
 refine Pure.walk3 fd70 none (Nat.le_of_ble_eq_true rfl) (by rfl) fun Q hQ => ?_
 simp only [f70] at H
 refine AW.rseq ?_
 try simp only [↓wk, ↓wl, nq, evV, ↓reduceIte, sevalprocAttr]
 refine AW.rseq ?_
 try simp only [↓wk, ↓wl, nq, evV, ↓reduceIte, sevalprocAttr]
 refine evTs_ifg H (by rfl) ?_ ?_ <;> clear H <;> intro H
 ·try simp only [↓wk, ↓wl, nq, evV, ↓reduceIte, sevalprocAttr]
  refine AW.ret ?_
  cases H
  exact hQ.fin
 ·try simp only [↓wk, ↓wl, nq, evV, ↓reduceIte, sevalprocAttr]
  refine AW.ret ?_
  cases H
  exact hQ.fin
def c71_0 : C := .seq (.reg [iI 7 (.mv (.t 1)), iI 8 (.mv (.t 0)), iI 9 (.bin .leq (.t 7) (.t 8)), iI 10 (.mv (.t 9)), iG (some 11) 10 true (.mv (.t 0)), iG (some 12) 10 true (.mv (.t 2)), iG (some 13) 10 true (.bin .leq (.t 11) (.t 12)), iI 14 (.pick (.t 10) (.t 13) (.c (.bool false))), iI 6 (.mv (.t 14))]) .ret
def ir71 : C := .seq (.reg [iI 6 (.mv (.c (.bool false)))]) c71_0
theorem fd71 : fd? Try.prog 71 = some (15, [.slot 6], ir71) := by kernel_rfl
noncomputable def f71 (n_782 : Int) (low_783 : Int) (high_784 : Int) : Option (Bool) :=
  (if (decide (low_783 ≤ n_782)) = true then (some (decide (n_782 ≤ high_784))) else (some false))
theorem f71_ok {n_782 : Int} {low_783 : Int} {high_784 : Int} {r_ : Bool} (H : f71 n_782 low_783 high_784 = some r_) : Pure Try.prog 71 [.int .i64 n_782, .int .i64 low_783, .int .i64 high_784] (· = .bool r_) := by
 refine Pure.walk3 fd71 none (Nat.le_of_ble_eq_true rfl) (by rfl) fun Q hQ => ?_
 simp only [f71] at H
 refine AW.rseq ?_
 try simp only [↓wk, ↓wl, nq, evV, ↓reduceIte, sevalprocAttr]
 refine AW.rseq ?_
 try simp only [↓wk, ↓wl, nq, evV, ↓reduceIte, sevalprocAttr]
 refine evTs_ifg H (by rfl) ?_ ?_ <;> clear H <;> intro H
 ·try simp only [↓wk, ↓wl, nq, evV, ↓reduceIte, sevalprocAttr]
  refine AW.ret ?_
  cases H
  exact hQ.fin
 ·try simp only [↓wk, ↓wl, nq, evV, ↓reduceIte, sevalprocAttr]
  refine AW.ret ?_
  cases H
  exact hQ.fin
def c23_0 : C := .cond (.t 30) (.seq (.reg [iI 2 (.mv (.c (.int .i64 2)))]) .ret) (.skip)
def c23_1 : C := .cond (.t 34) (.seq (.reg [iI 2 (.mv (.c (.int .i64 13)))]) .ret) (.skip)
def c23_2 : C := .cond (.t 51) (.seq (.reg [iI 2 (.mv (.c (.int .i64 3)))]) .ret) (.skip)
def c23_3 : C := .seq (.reg [iI 2 (.mv (.c (.int .i64 0)))]) .ret
def c23_4 : C := .seq (.seq (.reg [iI 35 (.faddr 1 (.t 1)), iI 36 (.load 0 (.t 35)), iI 37 (.bin .eql (.t 36) (.c (.int .i64 0))), iI 38 (.mv (.t 37)), iG (some 39) 38 true (.faddr 4 (.t 1)), iG (some 40) 38 true (.load 0 (.t 39)), iG (some 41) 38 true (.bin .eql (.t 40) (.c (.int .i64 0))), iG (some 42) 38 true (.mv (.t 41)), iG (some 43) 42 false (.faddr 5 (.t 1)), iG (some 44) 42 false (.load 0 (.t 43)), iG (some 45) 38 true (.pick (.t 42) (.c (.bool true)) (.t 44)), iG (some 46) 38 true (.mv (.t 45)), iG (some 47) 46 false (.faddr 6 (.t 1)), iG (some 48) 46 false (.load 0 (.t 47)), iG (some 49) 46 false (.bin .neq (.t 48) (.c (.str []))), iG (some 50) 38 true (.pick (.t 46) (.c (.bool true)) (.t 49)), iI 51 (.pick (.t 38) (.t 50) (.c (.bool false)))]) c23_2) c23_3
def c23_5 : C := .seq (.seq (.reg [iI 31 (.faddr 6 (.t 1)), iI 32 (.load 0 (.t 31)), iI 33 (.len 1 (.t 32)), iI 34 (.bin .gtr (.t 33) (.c (.int .i64 512)))]) c23_1) c23_4
def c23_6 : C := .seq (.seq (.reg [iI 3 (.faddr 0 (.t 1)), iI 4 (.load 0 (.t 3)), iI 5 (.call (.c (.fn 70 [])) [(.t 4)]), iI 6 (.un .not (.t 5)), iI 7 (.mv (.t 6)), iG (some 8) 7 false (.faddr 1 (.t 1)), iG (some 9) 7 false (.load 0 (.t 8)), iG (some 10) 7 false (.call (.c (.fn 71 [])) [(.t 9), (.c (.int .i64 0)), (.c (.int .i64 8))]), iG (some 11) 7 false (.un .not (.t 10)), iI 12 (.pick (.t 7) (.c (.bool true)) (.t 11)), iI 13 (.mv (.t 12)), iG (some 14) 13 false (.faddr 2 (.t 1)), iG (some 15) 13 false (.load 0 (.t 14)), iG (some 16) 13 false (.call (.c (.fn 71 [])) [(.t 15), (.c (.int .i64 0)), (.c (.int .i64 200))]), iG (some 17) 13 false (.un .not (.t 16)), iI 18 (.pick (.t 13) (.c (.bool true)) (.t 17)), iI 19 (.mv (.t 18)), iG (some 20) 19 false (.faddr 3 (.t 1)), iG (some 21) 19 false (.load 0 (.t 20)), iG (some 22) 19 false (.call (.c (.fn 71 [])) [(.t 21), (.c (.int .i64 0)), (.c (.int .i64 255))]), iG (some 23) 19 false (.un .not (.t 22)), iI 24 (.pick (.t 19) (.c (.bool true)) (.t 23)), iI 25 (.mv (.t 24)), iG (some 26) 25 false (.faddr 4 (.t 1)), iG (some 27) 25 false (.load 0 (.t 26)), iG (some 28) 25 false (.call (.c (.fn 71 [])) [(.t 27), (.c (.int .i64 0)), (.c (.int .i64 8))]), iG (some 29) 25 false (.un .not (.t 28)), iI 30 (.pick (.t 25) (.c (.bool true)) (.t 29))]) c23_0) c23_5
def ir23 : C := .seq (.reg [iI 1 (.box (.t 0)), iI 2 (.mv (.c (.int .i64 0)))]) c23_6
theorem fd23 : fd? Try.prog 23 = some (52, [.slot 2], ir23) := by kernel_rfl
noncomputable def f23 (p_779 : Ref56Packet) : Option (Int) :=
  (f70 p_779.fSource).bind fun r_789 => (if (!r_789) = true then (some 2) else (f71 p_779.fUniverse 0 8).bind fun r_790 => (if (!r_790) = true then (some 2) else (f71 p_779.fPriority 0 200).bind fun r_791 => (if (!r_791) = true then (some 2) else (f71 p_779.fSeq 0 255).bind fun r_792 => (if (!r_792) = true then (some 2) else (f71 p_779.fSync 0 8).bind fun r_793 => (if (!r_793) = true then (some 2) else (if (decide (512 < ((p_779.fSlots.length : Nat) : Int))) = true then (some 13) else (if (decide (p_779.fUniverse = 0)) = true then (if (decide (p_779.fSync = 0)) = true then (some 3) else (if p_779.fEnd = true then (some 3) else (if (!(p_779.fSlots == ([]))) = true then (some 3) else (some 0)))) else (some 0))))))))
theorem f23_ok {p_779 : Ref56Packet} {r_ : Int} (H : f23 p_779 = some r_) : Pure Try.prog 23 [.agg [.int .u64 p_779.fSource, .int .i64 p_779.fUniverse, .int .i64 p_779.fPriority, .int .i64 p_779.fSeq, .int .i64 p_779.fSync, .bool p_779.fEnd, .str p_779.fSlots]] (· = .int .i64 r_) := by
 refine Pure.walk3 fd23 none (Nat.le_of_ble_eq_true rfl) (by rfl) fun Q hQ => ?_
 simp only [f23] at H
 refine AW.rseq ?_
 try simp only [↓wk, ↓wl, nq, evV, ↓reduceIte, sevalprocAttr]
 refine AW.sseq ?_
 refine AW.rseq ?_
 try simp only [↓wk, ↓wl, nq, evV, ↓reduceIte, sevalprocAttr]
 refine evTs_pure hFn H (fun _ h => f70_ok h) (by rfl) (by rfl) (by rfl) (by rfl) (fun _ => rfl) ?_ <;> clear H <;> intro r_789 H
 try simp only [eL, ↓wk, ↓wl, nq, evV, ↓reduceIte, sevalprocAttr]
 refine evTs_ifg H (by rfl) ?_ ?_ <;> clear H <;> intro H
 ·try simp only [↓wk, ↓wl, nq, evV, ↓reduceIte, sevalprocAttr]
  refine AW.ift (by rfl) ?_
  refine AW.rseq ?_
  try simp only [↓wk, ↓wl, nq, evV, ↓reduceIte, sevalprocAttr]
  refine AW.ret ?_
  refine seqQ.ret ?_
  cases H
  exact hQ.fin
 ·try simp only [↓wk, ↓wl, nq, evV, ↓reduceIte, sevalprocAttr]
  refine evTs_pure hFn H (fun _ h => f71_ok h) (by rfl) (by rfl) (by rfl) (by rfl) (fun _ => rfl) ?_ <;> clear H <;> intro r_790 H
  try simp only [eL, ↓wk, ↓wl, nq, evV, ↓reduceIte, sevalprocAttr]
  refine evTs_ifg H (by rfl) ?_ ?_ <;> clear H <;> intro H
  ·try simp only [↓wk, ↓wl, nq, evV, ↓reduceIte, sevalprocAttr]
   refine AW.ift (by rfl) ?_
   refine AW.rseq ?_
   try simp only [↓wk, ↓wl, nq, evV, ↓reduceIte, sevalprocAttr]
   refine AW.ret ?_
   refine seqQ.ret ?_
   cases H
   exact hQ.fin
  ·try simp only [↓wk, ↓wl, nq, evV, ↓reduceIte, sevalprocAttr]
   refine evTs_pure hFn H (fun _ h => f71_ok h) (by rfl) (by rfl) (by rfl) (by rfl) (fun _ => rfl) ?_ <;> clear H <;> intro r_791 H
   try simp only [eL, ↓wk, ↓wl, nq, evV, ↓reduceIte, sevalprocAttr]
   refine evTs_ifg H (by rfl) ?_ ?_ <;> clear H <;> intro H
   ·try simp only [↓wk, ↓wl, nq, evV, ↓reduceIte, sevalprocAttr]
    refine AW.ift (by rfl) ?_
    refine AW.rseq ?_
    try simp only [↓wk, ↓wl, nq, evV, ↓reduceIte, sevalprocAttr]
    refine AW.ret ?_
    refine seqQ.ret ?_
    cases H
    exact hQ.fin
   ·try simp only [↓wk, ↓wl, nq, evV, ↓reduceIte, sevalprocAttr]
    refine evTs_pure hFn H (fun _ h => f71_ok h) (by rfl) (by rfl) (by rfl) (by rfl) (fun _ => rfl) ?_ <;> clear H <;> intro r_792 H
    try simp only [eL, ↓wk, ↓wl, nq, evV, ↓reduceIte, sevalprocAttr]
    refine evTs_ifg H (by rfl) ?_ ?_ <;> clear H <;> intro H
    ·try simp only [↓wk, ↓wl, nq, evV, ↓reduceIte, sevalprocAttr]
     refine AW.ift (by rfl) ?_
     refine AW.rseq ?_
     try simp only [↓wk, ↓wl, nq, evV, ↓reduceIte, sevalprocAttr]
     refine AW.ret ?_
     refine seqQ.ret ?_
     cases H
     exact hQ.fin
    ·try simp only [↓wk, ↓wl, nq, evV, ↓reduceIte, sevalprocAttr]
     refine evTs_pure hFn H (fun _ h => f71_ok h) (by rfl) (by rfl) (by rfl) (by rfl) (fun _ => rfl) ?_ <;> clear H <;> intro r_793 H
     try simp only [eL, ↓wk, ↓wl, nq, evV, ↓reduceIte, sevalprocAttr]
     refine AW.ifc H (by rfl) ?_ ?_ <;> clear H <;> intro H
     ·refine AW.rseq ?_
      try simp only [↓wk, ↓wl, nq, evV, ↓reduceIte, sevalprocAttr]
      refine AW.ret ?_
      refine seqQ.ret ?_
      cases H
      exact hQ.fin
     ·refine AW.skip ?_
      refine seqQ.norm ?_
      refine AW.sseq ?_
      refine AW.rseq ?_
      try simp only [↓wk, ↓wl, nq, evV, ↓reduceIte, sevalprocAttr]
      refine AW.ifc H (by rfl) ?_ ?_ <;> clear H <;> intro H
      ·refine AW.rseq ?_
       try simp only [↓wk, ↓wl, nq, evV, ↓reduceIte, sevalprocAttr]
       refine AW.ret ?_
       refine seqQ.ret ?_
       cases H
       exact hQ.fin
      ·refine AW.skip ?_
       refine seqQ.norm ?_
       refine AW.sseq ?_
       refine AW.rseq ?_
       try simp only [↓wk, ↓wl, nq, evV, ↓reduceIte, sevalprocAttr]
       refine evTs_ifg H (by rfl) ?_ ?_ <;> clear H <;> intro H
       ·try simp only [↓wk, ↓wl, nq, evV, ↓reduceIte, sevalprocAttr]
        refine evTs_ifg H (by rfl) ?_ ?_ <;> clear H <;> intro H
        ·try simp only [↓wk, ↓wl, nq, evV, ↓reduceIte, sevalprocAttr]
         refine AW.ift (by rfl) ?_
         refine AW.rseq ?_
         try simp only [↓wk, ↓wl, nq, evV, ↓reduceIte, sevalprocAttr]
         refine AW.ret ?_
         refine seqQ.ret ?_
         cases H
         exact hQ.fin
        ·try simp only [↓wk, ↓wl, nq, evV, ↓reduceIte, sevalprocAttr]
         refine evTs_ifg H (by rfl) ?_ ?_ <;> clear H <;> intro H
         ·try simp only [↓wk, ↓wl, nq, evV, ↓reduceIte, sevalprocAttr]
          refine AW.ift (by rfl) ?_
          refine AW.rseq ?_
          try simp only [↓wk, ↓wl, nq, evV, ↓reduceIte, sevalprocAttr]
          refine AW.ret ?_
          refine seqQ.ret ?_
          cases H
          exact hQ.fin
         ·try simp only [↓wk, ↓wl, nq, evV, ↓reduceIte, sevalprocAttr]
          refine AW.ifc H (by rfl) ?_ ?_ <;> clear H <;> intro H
          ·refine AW.rseq ?_
           try simp only [↓wk, ↓wl, nq, evV, ↓reduceIte, sevalprocAttr]
           refine AW.ret ?_
           refine seqQ.ret ?_
           cases H
           exact hQ.fin
          ·refine AW.skip ?_
           refine seqQ.norm ?_
           refine AW.rseq ?_
           try simp only [↓wk, ↓wl, nq, evV, ↓reduceIte, sevalprocAttr]
           refine AW.ret ?_
           cases H
           exact hQ.fin
       ·try simp only [↓wk, ↓wl, nq, evV, ↓reduceIte, sevalprocAttr]
        refine AW.iff (by rfl) ?_
        refine AW.skip ?_
        refine seqQ.norm ?_
        refine AW.rseq ?_
        try simp only [↓wk, ↓wl, nq, evV, ↓reduceIte, sevalprocAttr]
        refine AW.ret ?_
        cases H
        exact hQ.fin
def c109_0 : C := .seq (.reg [iI 3 (.mv (.t 0)), iI 4 (.bin .eql (.t 3) (.c (.str []))), iI 5 (.mv (.t 4)), iG (some 6) 5 false (.mv (.t 0)), iG (some 7) 5 false (.len 1 (.t 6)), iG (some 8) 5 false (.bin .eql (.t 7) (.c (.int .i64 512))), iI 9 (.pick (.t 5) (.c (.bool true)) (.t 8)), iI 2 (.mv (.t 9))]) .ret
def ir109 : C := .seq (.reg [iI 2 (.mv (.c (.bool false)))]) c109_0
theorem fd109 : fd? Try.prog 109 = some (10, [.slot 2], ir109) := by kernel_rfl
noncomputable def f109 (s_796 : (List UInt8)) : Option (Bool) :=
  (if (s_796 == ([])) = true then (some true) else (some (decide (((s_796.length : Nat) : Int) = 512))))
theorem f109_ok {s_796 : (List UInt8)} {r_ : Bool} (H : f109 s_796 = some r_) : Pure Try.prog 109 [.str s_796] (· = .bool r_) := by
 refine Pure.walk3 fd109 none (Nat.le_of_ble_eq_true rfl) (by rfl) fun Q hQ => ?_
 simp only [f109] at H
 refine AW.rseq ?_
 try simp only [↓wk, ↓wl, nq, evV, ↓reduceIte, sevalprocAttr]
 refine AW.rseq ?_
 try simp only [↓wk, ↓wl, nq, evV, ↓reduceIte, sevalprocAttr]
 refine evTs_ifg H (by rfl) ?_ ?_ <;> clear H <;> intro H
 ·try simp only [↓wk, ↓wl, nq, evV, ↓reduceIte, sevalprocAttr]
  refine AW.ret ?_
  cases H
  exact hQ.fin
 ·try simp only [↓wk, ↓wl, nq, evV, ↓reduceIte, sevalprocAttr]
  refine AW.ret ?_
  cases H
  exact hQ.fin
def c66_0 : C := .cond (.t 32) (.seq (.reg [iI 2 (.mv (.c (.int .i64 2)))]) .ret) (.skip)
def c66_1 : C := .cond (.t 42) (.seq (.reg [iI 2 (.mv (.c (.int .i64 14)))]) .ret) (.skip)
def c66_2 : C := .cond (.t 50) (.seq (.reg [iI 2 (.mv (.c (.int .i64 3)))]) .ret) (.skip)
def c66_3 : C := .seq (.reg [iI 2 (.mv (.c (.int .i64 0)))]) .ret
def c66_4 : C := .seq (.seq (.reg [iI 43 (.faddr 7 (.t 1)), iI 44 (.load 0 (.t 43)), iI 45 (.bin .neq (.t 44) (.c (.str []))), iI 46 (.mv (.t 45)), iG (some 47) 46 true (.faddr 4 (.t 1)), iG (some 48) 46 true (.load 0 (.t 47)), iG (some 49) 46 true (.bin .eql (.t 48) (.c (.int .i64 0))), iI 50 (.pick (.t 46) (.t 49) (.c (.bool false)))]) c66_2) c66_3
def c66_5 : C := .seq (.seq (.reg [iI 33 (.faddr 6 (.t 1)), iI 34 (.load 0 (.t 33)), iI 35 (.call (.c (.fn 109 [])) [(.t 34)]), iI 36 (.un .not (.t 35)), iI 37 (.mv (.t 36)), iG (some 38) 37 false (.faddr 7 (.t 1)), iG (some 39) 37 false (.load 0 (.t 38)), iG (some 40) 37 false (.call (.c (.fn 109 [])) [(.t 39)]), iG (some 41) 37 false (.un .not (.t 40)), iI 42 (.pick (.t 37) (.c (.bool true)) (.t 41))]) c66_1) c66_4
def c66_6 : C := .seq (.seq (.reg [iI 15 (.faddr 0 (.t 1)), iI 16 (.load 0 (.t 15)), iI 17 (.bin .eql (.t 16) (.c (.int .i64 0))), iI 18 (.mv (.t 17)), iG (some 19) 18 false (.load 7 (.t 3)), iG (some 20) 18 false (.call (.c (.fn 23 [])) [(.t 19)]), iG (some 21) 18 false (.bin .neq (.t 20) (.c (.int .i64 0))), iI 22 (.pick (.t 18) (.c (.bool true)) (.t 21)), iI 23 (.mv (.t 22)), iG (some 24) 23 false (.faddr 5 (.t 1)), iG (some 25) 23 false (.load 0 (.t 24)), iG (some 26) 23 false (.bin .lss (.t 25) (.c (.int .i64 0))), iI 27 (.pick (.t 23) (.c (.bool true)) (.t 26)), iI 28 (.mv (.t 27)), iG (some 29) 28 false (.faddr 5 (.t 1)), iG (some 30) 28 false (.load 0 (.t 29)), iG (some 31) 28 false (.bin .gtr (.t 30) (.c (.int .i64 10000000))), iI 32 (.pick (.t 28) (.c (.bool true)) (.t 31))]) c66_0) c66_5
def c66_7 : C := .seq (.reg [iI 4 (.faddr 1 (.t 1)), iI 5 (.load 0 (.t 4)), iI 6 (.faddr 0 (.t 1)), iI 7 (.load 0 (.t 6)), iI 8 (.faddr 2 (.t 1)), iI 9 (.load 0 (.t 8)), iI 10 (.faddr 3 (.t 1)), iI 11 (.load 0 (.t 10)), iI 12 (.faddr 4 (.t 1)), iI 13 (.load 0 (.t 12)), iI 14 (.build [(1, (.int .u64 0)), (1, (.int .i64 0)), (1, (.int .i64 0)), (1, (.int .i64 0)), (1, (.int .i64 0)), (1, (.bool false)), (1, (.str []))] [(0, 0, (.t 5)), (1, 0, (.t 7)), (2, 0, (.t 9)), (3, 0, (.t 11)), (4, 0, (.t 13))]), iI 3 (.alloc [(1, (.int .u64 0)), (1, (.int .i64 0)), (1, (.int .i64 0)), (1, (.int .i64 0)), (1, (.int .i64 0)), (1, (.bool false)), (1, (.str []))]), iN (.store 7 (.t 3) (.t 14))]) c66_6
def ir66 : C := .seq (.reg [iI 1 (.box (.t 0)), iI 2 (.mv (.c (.int .i64 0)))]) c66_7
theorem fd66 : fd? Try.prog 66 = some (51, [.slot 2], ir66) := by kernel_rfl
noncomputable def f66 (x_778 : Ref57Input) : Option (Int) :=
  (if (decide (x_778.fUniverse = 0)) = true then (some 2) else (f23 (Ref56Packet.mk x_778.fSource x_778.fUniverse x_778.fPriority x_778.fSeq x_778.fSync false ([]))).bind fun r_795 => (if (decide (r_795 ≠ 0)) = true then (some 2) else (if (decide (x_778.fLast < 0)) = true then (some 2) else (if (decide (10000000 < x_778.fLast)) = true then (some 2) else (f109 x_778.fSlots).bind fun r_797 => (if (!r_797) = true then (some 14) else (f109 x_778.fWait).bind fun r_798 => (if (!r_798) = true then (some 14) else (if (!(x_778.fWait == ([]))) = true then (if (decide (x_778.fSync = 0)) = true then (some 3) else (some 0)) else (some 0))))))))
theorem f66_ok {x_778 : Ref57Input} {r_ : Int} (H : f66 x_778 = some r_) : Pure Try.prog 66 [.agg [.int .i64 x_778.fUniverse, .int .u64 x_778.fSource, .int .i64 x_778.fPriority, .int .i64 x_778.fSeq, .int .i64 x_778.fSync, .int .i64 x_778.fLast, .str x_778.fSlots, .str x_778.fWait]] (· = .int .i64 r_) := by
 refine Pure.walk3 fd66 none (Nat.le_of_ble_eq_true rfl) (by rfl) fun Q hQ => ?_
 simp only [f66] at H
 refine AW.rseq ?_
 try simp only [↓wk, ↓wl, nq, evV, ↓reduceIte, sevalprocAttr]
 refine AW.rseq ?_
 try simp only [↓wk, ↓wl, nq, evV, ↓reduceIte, sevalprocAttr]
 refine AW.sseq ?_
 refine AW.rseq ?_
 try simp only [↓wk, ↓wl, nq, evV, ↓reduceIte, sevalprocAttr]
 refine evTs_ifg H (by rfl) ?_ ?_ <;> clear H <;> intro H
 ·try simp only [↓wk, ↓wl, nq, evV, ↓reduceIte, sevalprocAttr]
  refine AW.ift (by rfl) ?_
  refine AW.rseq ?_
  try simp only [↓wk, ↓wl, nq, evV, ↓reduceIte, sevalprocAttr]
  refine AW.ret ?_
  refine seqQ.ret ?_
  cases H
  exact hQ.fin
 ·try simp only [↓wk, ↓wl, nq, evV, ↓reduceIte, sevalprocAttr]
  refine evTs_pure hFn H (fun _ h => f23_ok h) (by rfl) (by rfl) (by rfl) (by rfl) (fun _ => rfl) ?_ <;> clear H <;> intro r_795 H
  try simp only [eL, ↓wk, ↓wl, nq, evV, ↓reduceIte, sevalprocAttr]
  refine evTs_ifg H (by rfl) ?_ ?_ <;> clear H <;> intro H
  ·try simp only [↓wk, ↓wl, nq, evV, ↓reduceIte, sevalprocAttr]
   refine AW.ift (by rfl) ?_
   refine AW.rseq ?_
   try simp only [↓wk, ↓wl, nq, evV, ↓reduceIte, sevalprocAttr]
   refine AW.ret ?_
   refine seqQ.ret ?_
   cases H
   exact hQ.fin
  ·try simp only [↓wk, ↓wl, nq, evV, ↓reduceIte, sevalprocAttr]
   refine evTs_ifg H (by rfl) ?_ ?_ <;> clear H <;> intro H
   ·try simp only [↓wk, ↓wl, nq, evV, ↓reduceIte, sevalprocAttr]
    refine AW.ift (by rfl) ?_
    refine AW.rseq ?_
    try simp only [↓wk, ↓wl, nq, evV, ↓reduceIte, sevalprocAttr]
    refine AW.ret ?_
    refine seqQ.ret ?_
    cases H
    exact hQ.fin
   ·try simp only [↓wk, ↓wl, nq, evV, ↓reduceIte, sevalprocAttr]
    refine AW.ifc H (by rfl) ?_ ?_ <;> clear H <;> intro H
    ·refine AW.rseq ?_
     try simp only [↓wk, ↓wl, nq, evV, ↓reduceIte, sevalprocAttr]
     refine AW.ret ?_
     refine seqQ.ret ?_
     cases H
     exact hQ.fin
    ·refine AW.skip ?_
     refine seqQ.norm ?_
     refine AW.sseq ?_
     refine AW.rseq ?_
     try simp only [↓wk, ↓wl, nq, evV, ↓reduceIte, sevalprocAttr]
     refine evTs_pure hFn H (fun _ h => f109_ok h) (by rfl) (by rfl) (by rfl) (by rfl) (fun _ => rfl) ?_ <;> clear H <;> intro r_797 H
     try simp only [eL, ↓wk, ↓wl, nq, evV, ↓reduceIte, sevalprocAttr]
     refine evTs_ifg H (by rfl) ?_ ?_ <;> clear H <;> intro H
     ·try simp only [↓wk, ↓wl, nq, evV, ↓reduceIte, sevalprocAttr]
      refine AW.ift (by rfl) ?_
      refine AW.rseq ?_
      try simp only [↓wk, ↓wl, nq, evV, ↓reduceIte, sevalprocAttr]
      refine AW.ret ?_
      refine seqQ.ret ?_
      cases H
      exact hQ.fin
     ·try simp only [↓wk, ↓wl, nq, evV, ↓reduceIte, sevalprocAttr]
      refine evTs_pure hFn H (fun _ h => f109_ok h) (by rfl) (by rfl) (by rfl) (by rfl) (fun _ => rfl) ?_ <;> clear H <;> intro r_798 H
      try simp only [eL, ↓wk, ↓wl, nq, evV, ↓reduceIte, sevalprocAttr]
      refine AW.ifc H (by rfl) ?_ ?_ <;> clear H <;> intro H
      ·refine AW.rseq ?_
       try simp only [↓wk, ↓wl, nq, evV, ↓reduceIte, sevalprocAttr]
       refine AW.ret ?_
       refine seqQ.ret ?_
       cases H
       exact hQ.fin
      ·refine AW.skip ?_
       refine seqQ.norm ?_
       refine AW.sseq ?_
       refine AW.rseq ?_
       try simp only [↓wk, ↓wl, nq, evV, ↓reduceIte, sevalprocAttr]
       refine evTs_ifg H (by rfl) ?_ ?_ <;> clear H <;> intro H
       ·try simp only [↓wk, ↓wl, nq, evV, ↓reduceIte, sevalprocAttr]
        refine AW.ifc H (by rfl) ?_ ?_ <;> clear H <;> intro H
        ·refine AW.rseq ?_
         try simp only [↓wk, ↓wl, nq, evV, ↓reduceIte, sevalprocAttr]
         refine AW.ret ?_
         refine seqQ.ret ?_
         cases H
         exact hQ.fin
        ·refine AW.skip ?_
         refine seqQ.norm ?_
         refine AW.rseq ?_
         try simp only [↓wk, ↓wl, nq, evV, ↓reduceIte, sevalprocAttr]
         refine AW.ret ?_
         cases H
         exact hQ.fin
       ·try simp only [↓wk, ↓wl, nq, evV, ↓reduceIte, sevalprocAttr]
        refine AW.iff (by rfl) ?_
        refine AW.skip ?_
        refine seqQ.norm ?_
        refine AW.rseq ?_
        try simp only [↓wk, ↓wl, nq, evV, ↓reduceIte, sevalprocAttr]
        refine AW.ret ?_
        cases H
        exact hQ.fin
def c67_0 : C := .seq (.reg [iI 5 (.faddr 0 (.t 2)), iI 6 (.load 0 (.t 5)), iI 7 (.faddr 0 (.t 3)), iI 8 (.load 0 (.t 7)), iI 9 (.bin .lss (.t 6) (.t 8)), iI 10 (.mv (.t 9)), iG (some 11) 10 false (.faddr 0 (.t 2)), iG (some 12) 10 false (.load 0 (.t 11)), iG (some 13) 10 false (.faddr 0 (.t 3)), iG (some 14) 10 false (.load 0 (.t 13)), iG (some 15) 10 false (.bin .eql (.t 12) (.t 14)), iG (some 16) 10 false (.mv (.t 15)), iG (some 17) 16 true (.faddr 1 (.t 2)), iG (some 18) 16 true (.load 0 (.t 17)), iG (some 19) 16 true (.faddr 1 (.t 3)), iG (some 20) 16 true (.load 0 (.t 19)), iG (some 21) 16 true (.bin .lss (.t 18) (.t 20)), iG (some 22) 10 false (.pick (.t 16) (.t 21) (.c (.bool false))), iI 23 (.pick (.t 10) (.c (.bool true)) (.t 22)), iI 4 (.mv (.t 23))]) .ret
def ir67 : C := .seq (.reg [iI 2 (.box (.t 0)), iI 3 (.box (.t 1)), iI 4 (.mv (.c (.bool false)))]) c67_0
theorem fd67 : fd? Try.prog 67 = some (24, [.slot 4], ir67) := by kernel_rfl
noncomputable def f67 (a_809 : Ref57Input) (b_810 : Ref57Input) : Option (Bool) :=
  (if (decide (a_809.fUniverse < b_810.fUniverse)) = true then (some true) else (if (decide (a_809.fUniverse = b_810.fUniverse)) = true then (some (decide (a_809.fSource < b_810.fSource))) else (some false)))
theorem f67_ok {a_809 : Ref57Input} {b_810 : Ref57Input} {r_ : Bool} (H : f67 a_809 b_810 = some r_) : Pure Try.prog 67 [.agg [.int .i64 a_809.fUniverse, .int .u64 a_809.fSource, .int .i64 a_809.fPriority, .int .i64 a_809.fSeq, .int .i64 a_809.fSync, .int .i64 a_809.fLast, .str a_809.fSlots, .str a_809.fWait], .agg [.int .i64 b_810.fUniverse, .int .u64 b_810.fSource, .int .i64 b_810.fPriority, .int .i64 b_810.fSeq, .int .i64 b_810.fSync, .int .i64 b_810.fLast, .str b_810.fSlots, .str b_810.fWait]] (· = .bool r_) := by
 refine Pure.walk3 fd67 none (Nat.le_of_ble_eq_true rfl) (by rfl) fun Q hQ => ?_
 simp only [f67] at H
 refine AW.rseq ?_
 try simp only [↓wk, ↓wl, nq, evV, ↓reduceIte, sevalprocAttr]
 refine AW.rseq ?_
 try simp only [↓wk, ↓wl, nq, evV, ↓reduceIte, sevalprocAttr]
 refine evTs_ifg H (by rfl) ?_ ?_ <;> clear H <;> intro H
 ·try simp only [↓wk, ↓wl, nq, evV, ↓reduceIte, sevalprocAttr]
  refine AW.ret ?_
  cases H
  exact hQ.fin
 ·try simp only [↓wk, ↓wl, nq, evV, ↓reduceIte, sevalprocAttr]
  refine evTs_ifg H (by rfl) ?_ ?_ <;> clear H <;> intro H
  ·try simp only [↓wk, ↓wl, nq, evV, ↓reduceIte, sevalprocAttr]
   refine AW.ret ?_
   cases H
   exact hQ.fin
  ·try simp only [↓wk, ↓wl, nq, evV, ↓reduceIte, sevalprocAttr]
   refine AW.ret ?_
   cases H
   exact hQ.fin
noncomputable def f20_L1 (r_776 : Ref57Receiver) : Lp (Int) ((Unit) ⊕ (Int)) where
  body := fun i_812 => (if (decide (i_812 < ((r_776.fInputs.length : Nat) : Int))) = true then (at? r_776.fInputs i_812).bind fun x_823 => (f66 x_823).bind fun r_824 => (if (decide (r_824 ≠ 0)) = true then (some (.brk (Sum.inr r_824))) else (if (decide (0 < i_812)) = true then (at? r_776.fInputs (IntKind.i64.wrap (i_812 - 1))).bind fun x_825 => (at? r_776.fInputs i_812).bind fun x_826 => (f67 x_825 x_826).bind fun r_827 => (if (!r_827) = true then (some (.brk (Sum.inr 9))) else (some (.next (IntKind.i64.wrap (i_812 + 1))))) else (some (.next (IntKind.i64.wrap (i_812 + 1)))))) else (some (.brk (Sum.inl ()))))
  cst := fun i_812 => ⟨put (put (fun _ => .junk) 3 (.int .i64 i_812)) 1 (.ptr 0 0), [.cel [.sl 8 false (r_776.fInputs.map eRef57Input)]]⟩
theorem f20_L1c (r_776 : Ref57Receiver) (i_812 : Int) : (f20_L1 r_776).cst i_812 = ⟨put (put (fun _ => .junk) 3 (.int .i64 i_812)) 1 (.ptr 0 0), [.cel [.sl 8 false (r_776.fInputs.map eRef57Input)]]⟩ := rfl
def c20_0 : C := .cond (.t 8) (.seq (.reg [iI 2 (.mv (.c (.int .i64 5)))]) .ret) (.skip)
def c20_1 : C := .cond (.t 13) (.skip) (.exit 0)
def c20_2 : C := .cond (.t 23) (.seq (.reg [iI 24 (.mv (.t 4)), iI 2 (.mv (.t 24))]) .ret) (.skip)
def c20_3 : C := .seq (.reg [iI 22 (.mv (.t 4)), iI 23 (.bin .neq (.t 22) (.c (.int .i64 0)))]) c20_2
def c20_4 : C := .cond (.t 41) (.seq (.reg [iI 2 (.mv (.c (.int .i64 9)))]) .ret) (.skip)
def c20_5 : C := .seq (.reg [iI 25 (.mv (.t 3)), iI 26 (.bin .gtr (.t 25) (.c (.int .i64 0))), iI 27 (.mv (.t 26)), iG (some 28) 27 true (.faddr 0 (.t 1)), iG (some 29) 27 true (.load 0 (.t 28)), iG (some 30) 27 true (.mv (.t 3)), iG (some 31) 27 true (.bin .sub (.t 30) (.c (.int .i64 1))), iG (some 32) 27 true (.iaddr 8 (.t 29) (.t 31)), iG (some 33) 27 true (.load 8 (.t 32)), iG (some 34) 27 true (.faddr 0 (.t 1)), iG (some 35) 27 true (.load 0 (.t 34)), iG (some 36) 27 true (.mv (.t 3)), iG (some 37) 27 true (.iaddr 8 (.t 35) (.t 36)), iG (some 38) 27 true (.load 8 (.t 37)), iG (some 39) 27 true (.call (.c (.fn 67 [])) [(.t 33), (.t 38)]), iG (some 40) 27 true (.un .not (.t 39)), iI 41 (.pick (.t 27) (.t 40) (.c (.bool false)))]) c20_4
def c20_6 : C := .reg [iI 14 (.mv (.t 3)), iI 15 (.bin .add (.t 14) (.c (.int .i64 1))), iI 3 (.mv (.t 15))]
def c20_7 : C := .seq (.block 1 (.seq (.seq (.reg [iI 16 (.faddr 0 (.t 1)), iI 17 (.load 0 (.t 16)), iI 18 (.mv (.t 3)), iI 19 (.iaddr 8 (.t 17) (.t 18)), iI 20 (.load 8 (.t 19)), iI 21 (.call (.c (.fn 66 [])) [(.t 20)]), iI 4 (.mv (.t 21))]) c20_3) c20_5)) c20_6
def c20_8 : C := .block 0 (.loop (.seq (.seq (.reg [iI 9 (.mv (.t 3)), iI 10 (.faddr 0 (.t 1)), iI 11 (.load 0 (.t 10)), iI 12 (.len 0 (.t 11)), iI 13 (.bin .lss (.t 9) (.t 12))]) c20_1) c20_7))
def c20_9 : C := .seq (.reg [iI 2 (.mv (.c (.int .i64 0)))]) .ret
def c20_10 : C := .seq (.seq (.reg [iI 3 (.mv (.c (.int .i64 0)))]) c20_8) c20_9
def c20_11 : C := .seq (.seq (.reg [iI 5 (.faddr 0 (.t 1)), iI 6 (.load 0 (.t 5)), iI 7 (.len 0 (.t 6)), iI 8 (.bin .gtr (.t 7) (.c (.int .i64 64)))]) c20_0) c20_10
def ir20 : C := .seq (.reg [iI 1 (.box (.t 0)), iI 2 (.mv (.c (.int .i64 0)))]) c20_11
theorem fd20 : fd? Try.prog 20 = some (42, [.slot 2], ir20) := by kernel_rfl
noncomputable def f20 (r_776 : Ref57Receiver) : Option (Int) :=
  (if (decide (64 < ((r_776.fInputs.length : Nat) : Int))) = true then (some 5) else ((Lp.run (f20_L1 r_776) 0).bind fun r_ => match r_ with | (Sum.inl _) => (some 0) | (Sum.inr v_820) => (some v_820)))
theorem f20_ok {r_776 : Ref57Receiver} {r_ : Int} (H : f20 r_776 = some r_) : Pure Try.prog 20 [.agg [.sl 8 false (r_776.fInputs.map eRef57Input)]] (· = .int .i64 r_) := by
 refine Pure.walk3 fd20 none (Nat.le_of_ble_eq_true rfl) (by rfl) fun Q hQ => ?_
 simp only [f20] at H
 refine AW.rseq ?_
 try simp only [↓wk, ↓wl, nq, evV, ↓reduceIte, sevalprocAttr]
 refine AW.sseq ?_
 refine AW.rseq ?_
 try simp only [↓wk, ↓wl, nq, evV, ↓reduceIte, sevalprocAttr]
 refine AW.ifc H (by rfl) ?_ ?_ <;> clear H <;> intro H
 ·refine AW.rseq ?_
  try simp only [↓wk, ↓wl, nq, evV, ↓reduceIte, sevalprocAttr]
  refine AW.ret ?_
  refine seqQ.ret ?_
  cases H
  exact hQ.fin
 ·refine AW.skip ?_
  refine seqQ.norm ?_
  refine AW.sseq ?_
  refine AW.rseq ?_
  try simp only [↓wk, ↓wl, nq, evV, ↓reduceIte, sevalprocAttr]
  refine AW.bend ?_
  refine AW.iter H ((Le.tz [0] [1, 3] (by simp only [f20_L1c, rrm, ↓wk, ↓wl, evV, ↓reduceIte, sevalprocAttr] <;> rfl))) ?_ <;> clear H
  rintro i_812 x_ st0_ H hst_
  rw [f20_L1c] at hst_
  simp only [f20_L1] at H
  subst hst_
  refine AW.sseq ?_
  refine AW.rseq ?_
  try simp only [↓wk, ↓wl, nq, evV, ↓reduceIte, sevalprocAttr]
  refine AW.ifc H (by rfl) ?_ ?_ <;> clear H <;> intro H
  ·refine AW.skip ?_
   refine seqQ.norm ?_
   refine AW.bseq ?_
   refine AW.sseq ?_
   refine AW.rseq ?_
   try simp only [↓wk, ↓wl, nq, evV, ↓reduceIte, sevalprocAttr]
   refine evTs_at (enc := eRef57Input) H (by rfl) (by rfl) ?_ <;> clear H <;> intro x_823 H
   try simp only [eRef57Input, eL, ↓wk, ↓wl, nq, evV, ↓reduceIte, sevalprocAttr]
   refine evTs_pure hFn H (fun _ h => f66_ok h) (by rfl) (by rfl) (by rfl) (by rfl) (fun _ => rfl) ?_ <;> clear H <;> intro r_824 H
   try simp only [eL, ↓wk, ↓wl, nq, evV, ↓reduceIte, sevalprocAttr]
   refine AW.rseq ?_
   try simp only [↓wk, ↓wl, nq, evV, ↓reduceIte, sevalprocAttr]
   refine AW.ifc H (by rfl) ?_ ?_ <;> clear H <;> intro H
   ·refine AW.rseq ?_
    try simp only [↓wk, ↓wl, nq, evV, ↓reduceIte, sevalprocAttr]
    refine AW.ret ?_
    refine seqQ.ret ?_
    refine blkQ.ret ?_
    refine loopQ.ret H ?_ <;> clear H <;> intro H
    try dsimp only at H
    refine blk0.ret ?_
    refine seqQ.ret ?_
    cases H
    exact hQ.fin
   ·refine AW.skip ?_
    refine seqQ.norm ?_
    refine AW.rseq ?_
    try simp only [↓wk, ↓wl, nq, evV, ↓reduceIte, sevalprocAttr]
    refine evTs_ifg H (by rfl) ?_ ?_ <;> clear H <;> intro H
    ·try simp only [↓wk, ↓wl, nq, evV, ↓reduceIte, sevalprocAttr]
     refine evTs_at (enc := eRef57Input) H (by rfl) (by rfl) ?_ <;> clear H <;> intro x_825 H
     try simp only [eRef57Input, eL, ↓wk, ↓wl, nq, evV, ↓reduceIte, sevalprocAttr]
     refine evTs_at (enc := eRef57Input) H (by rfl) (by rfl) ?_ <;> clear H <;> intro x_826 H
     try simp only [eRef57Input, eL, ↓wk, ↓wl, nq, evV, ↓reduceIte, sevalprocAttr]
     refine evTs_pure hFn H (fun _ h => f67_ok h) (by rfl) (by rfl) (by rfl) (by rfl) (fun _ => rfl) ?_ <;> clear H <;> intro r_827 H
     try simp only [eL, ↓wk, ↓wl, nq, evV, ↓reduceIte, sevalprocAttr]
     refine AW.ifc H (by rfl) ?_ ?_ <;> clear H <;> intro H
     ·refine AW.rseq ?_
      try simp only [↓wk, ↓wl, nq, evV, ↓reduceIte, sevalprocAttr]
      refine AW.ret ?_
      refine blkQ.ret ?_
      refine loopQ.ret H ?_ <;> clear H <;> intro H
      try dsimp only at H
      refine blk0.ret ?_
      refine seqQ.ret ?_
      cases H
      exact hQ.fin
     ·refine AW.skip ?_
      refine blkQ.norm ?_
      refine AW.rend ?_
      try simp only [↓wk, ↓wl, nq, evV, ↓reduceIte, sevalprocAttr]
      exact loopQ.next H ((Le.tz [0] [1, 3] (by simp only [f20_L1c, rrm, ↓wk, ↓wl, evV, ↓reduceIte, sevalprocAttr] <;> rfl)))
    ·try simp only [↓wk, ↓wl, nq, evV, ↓reduceIte, sevalprocAttr]
     refine AW.iff (by rfl) ?_
     refine AW.skip ?_
     refine blkQ.norm ?_
     refine AW.rend ?_
     try simp only [↓wk, ↓wl, nq, evV, ↓reduceIte, sevalprocAttr]
     exact loopQ.next H ((Le.tz [0] [1, 3] (by simp only [f20_L1c, rrm, ↓wk, ↓wl, evV, ↓reduceIte, sevalprocAttr] <;> rfl)))
  ·refine AW.exit ?_
   refine seqQ.exit ?_
   refine loopQ.exit H ?_ <;> clear H <;> intro H
   try dsimp only at H
   refine blk0.here ?_
   refine seqQ.norm ?_
   refine AW.rseq ?_
   try simp only [↓wk, ↓wl, nq, evV, ↓reduceIte, sevalprocAttr]
   refine AW.ret ?_
   cases H
   exact hQ.fin
def c69_0 : C := .seq (.reg [iI 4 (.load 0 (.t 1)), iI 5 (.faddr 5 (.t 2)), iI 6 (.load 0 (.t 5)), iI 7 (.bin .lss (.t 4) (.t 6)), iI 3 (.mv (.t 7))]) .ret
def ir69 : C := .seq (.reg [iI 2 (.box (.t 0)), iI 3 (.mv (.c (.bool false)))]) c69_0
theorem fd69 : fd? Try.prog 69 = some (8, [.slot 3], ir69) := by kernel_rfl
noncomputable def f69p (x_834 : ReceiverInput) (c_835 : Int) : Option (Bool) :=
  (some (decide (c_835 < x_834.fLast)))
theorem f69p_ok {x_834 : ReceiverInput} {c_835 : Int} {r_ : Bool} (H : f69p x_834 c_835 = some r_) : Pure Try.prog 69 [.agg [.int .i64 x_834.fUniverse, .int .u64 x_834.fSource, .int .i64 x_834.fPriority, .int .i64 x_834.fSeq, .int .i64 x_834.fSync, .int .i64 x_834.fLast, .str x_834.fSlots, .str x_834.fWait], .pro [.int .i64 c_835]] (· = .bool r_) := by
 refine Pure.walk3 fd69 none (Nat.le_of_ble_eq_true rfl) (by rfl) fun Q hQ => ?_
 simp only [f69p] at H
 refine AW.rseq ?_
 try simp only [↓wk, ↓wl, nq, evV, ↓reduceIte, sevalprocAttr]
 refine AW.rseq ?_
 try simp only [↓wk, ↓wl, nq, evV, ↓reduceIte, sevalprocAttr]
 refine AW.ret ?_
 cases H
 exact hQ.fin
noncomputable def f77_69_L1 (s_831 : (List ReceiverInput)) (f_832 : Int) : Lp (Int) ((Unit) ⊕ (Int)) where
  body := fun v_840 => (if (decide (v_840 < ((s_831.length : Nat) : Int))) = true then (at? s_831 v_840).bind fun x_844 => (f69p x_844 f_832).bind fun r_845 => (if r_845 = true then (some (.brk (Sum.inr v_840))) else (some (.next (IntKind.i64.wrap (v_840 + 1))))) else (some (.brk (Sum.inl ()))))
  cst := fun v_840 => ⟨put (put (put (put (fun _ => .junk) 8 (.int .i64 v_840)) 7 (.int .i64 ((s_831.length : Nat) : Int))) 1 (.fn 69 [.pro [.int .i64 f_832]])) 0 (.sl 8 false (s_831.map eReceiverInput)), []⟩
theorem f77_69_L1c (s_831 : (List ReceiverInput)) (f_832 : Int) (v_840 : Int) : (f77_69_L1 s_831 f_832).cst v_840 = ⟨put (put (put (put (fun _ => .junk) 8 (.int .i64 v_840)) 7 (.int .i64 ((s_831.length : Nat) : Int))) 1 (.fn 69 [.pro [.int .i64 f_832]])) 0 (.sl 8 false (s_831.map eReceiverInput)), []⟩ := rfl
noncomputable def f77_69 (s_831 : (List ReceiverInput)) (f_832 : Int) : Option (Int) :=
  ((Lp.run (f77_69_L1 s_831 f_832) 0).bind fun r_ => match r_ with | (Sum.inl _) => (some (-1)) | (Sum.inr v_843) => (some v_843))
theorem f77_69_ok {s_831 : (List ReceiverInput)} {f_832 : Int} {r_ : Int} (H : f77_69 s_831 f_832 = some r_) : Pure Try.prog 77 [.sl 8 false (s_831.map eReceiverInput), .fn 69 [.pro [.int .i64 f_832]]] (· = .int .i64 r_) := by
 refine Pure.walk3 fd77 none (Nat.le_of_ble_eq_true rfl) (by rfl) fun Q hQ => ?_
 simp only [f77_69] at H
 refine AW.rseq ?_
 try simp only [↓wk, ↓wl, nq, evV, ↓reduceIte, sevalprocAttr]
 refine AW.sseq ?_
 refine AW.rseq ?_
 try simp only [↓wk, ↓wl, nq, evV, ↓reduceIte, sevalprocAttr]
 refine AW.bend ?_
 refine AW.iter H ((Le.tz [] [0, 1, 7, 8] (by simp only [f77_69_L1c, rrm, ↓wk, ↓wl, evV, ↓reduceIte, sevalprocAttr] <;> rfl))) ?_ <;> clear H
 rintro v_840 x_ st0_ H hst_
 rw [f77_69_L1c] at hst_
 simp only [f77_69_L1] at H
 subst hst_
 refine AW.rseq ?_
 try simp only [↓wk, ↓wl, nq, evV, ↓reduceIte, sevalprocAttr]
 refine AW.sseq ?_
 refine AW.ifc H (by rfl) ?_ ?_ <;> clear H <;> intro H
 ·refine AW.skip ?_
  refine seqQ.norm ?_
  refine AW.bseq ?_
  refine AW.rseq ?_
  try simp only [↓wk, ↓wl, nq, evV, ↓reduceIte, sevalprocAttr]
  refine AW.rseq ?_
  try simp only [↓wk, ↓wl, nq, evV, ↓reduceIte, sevalprocAttr]
  refine evTs_at (enc := eReceiverInput) H (by rfl) (by rfl) ?_ <;> clear H <;> intro x_844 H
  try simp only [eReceiverInput, eL, ↓wk, ↓wl, nq, evV, ↓reduceIte, sevalprocAttr]
  refine evTs_pure hFn H (fun _ h => f69p_ok h) (by rfl) (by rfl) (by rfl) (by rfl) (fun _ => rfl) ?_ <;> clear H <;> intro r_845 H
  try simp only [eL, ↓wk, ↓wl, nq, evV, ↓reduceIte, sevalprocAttr]
  refine AW.ifc H (by rfl) ?_ ?_ <;> clear H <;> intro H
  ·refine AW.rseq ?_
   try simp only [↓wk, ↓wl, nq, evV, ↓reduceIte, sevalprocAttr]
   refine AW.ret ?_
   refine blkQ.ret ?_
   refine loopQ.ret H ?_ <;> clear H <;> intro H
   try dsimp only at H
   refine blk0.ret ?_
   refine seqQ.ret ?_
   cases H
   exact hQ.fin
  ·refine AW.skip ?_
   refine blkQ.norm ?_
   refine AW.rend ?_
   try simp only [↓wk, ↓wl, nq, evV, ↓reduceIte, sevalprocAttr]
   exact loopQ.next H ((Le.tz [] [0, 1, 7, 8] (by simp only [f77_69_L1c, rrm, ↓wk, ↓wl, evV, ↓reduceIte, sevalprocAttr] <;> rfl)))
 ·refine AW.exit ?_
  refine seqQ.exit ?_
  refine loopQ.exit H ?_ <;> clear H <;> intro H
  try dsimp only at H
  refine blk0.here ?_
  refine seqQ.norm ?_
  refine AW.rseq ?_
  try simp only [↓wk, ↓wl, nq, evV, ↓reduceIte, sevalprocAttr]
  refine AW.ret ?_
  cases H
  exact hQ.fin
noncomputable def f68_69 (s_829 : (List ReceiverInput)) (f_830 : Int) : Option (Bool) :=
  (f77_69 s_829 f_830).bind fun r_846 => (some (decide (0 ≤ r_846)))
theorem f68_69_ok {s_829 : (List ReceiverInput)} {f_830 : Int} {r_ : Bool} (H : f68_69 s_829 f_830 = some r_) : Pure Try.prog 68 [.sl 8 false (s_829.map eReceiverInput), .fn 69 [.pro [.int .i64 f_830]]] (· = .bool r_) := by
 refine Pure.walk3 fd68 none (Nat.le_of_ble_eq_true rfl) (by rfl) fun Q hQ => ?_
 simp only [f68_69] at H
 refine AW.rseq ?_
 try simp only [↓wk, ↓wl, nq, evV, ↓reduceIte, sevalprocAttr]
 refine AW.rseq ?_
 try simp only [↓wk, ↓wl, nq, evV, ↓reduceIte, sevalprocAttr]
 refine evTs_pure hFn H (fun _ h => f77_69_ok h) (by rfl) (by rfl) (by rfl) (by rfl) (fun _ => rfl) ?_ <;> clear H <;> intro r_846 H
 try simp only [eL, ↓wk, ↓wl, nq, evV, ↓reduceIte, sevalprocAttr]
 refine AW.ret ?_
 cases H
 exact hQ.fin
def c22_0 : C := .cond (.t 22) (.seq (.reg [iI 4 (.mv (.c (.bool false)))]) .ret) (.skip)
def c22_1 : C := .seq (.reg [iI 23 (.faddr 0 (.t 2)), iI 24 (.load 0 (.t 23)), iI 25 (.mkfn 69 [(.t 3)]), iI 26 (.call (.c (.fn 68 [])) [(.t 24), (.t 25)]), iI 27 (.un .not (.t 26)), iI 4 (.mv (.t 27))]) .ret
def c22_2 : C := .seq (.seq (.reg [iI 5 (.faddr 0 (.t 2)), iI 6 (.load 0 (.t 5)), iI 7 (.len 0 (.t 6)), iI 8 (.bin .gtr (.t 7) (.c (.int .i64 8))), iI 9 (.mv (.t 8)), iG (some 10) 9 false (.load 1 (.t 2)), iG (some 11) 9 false (.call (.c (.fn 18 [])) [(.t 10)]), iG (some 12) 9 false (.call (.c (.fn 20 [])) [(.t 11)]), iG (some 13) 9 false (.bin .neq (.t 12) (.c (.int .i64 0))), iI 14 (.pick (.t 9) (.c (.bool true)) (.t 13)), iI 15 (.mv (.t 14)), iG (some 16) 15 false (.load 0 (.t 3)), iG (some 17) 15 false (.bin .lss (.t 16) (.c (.int .i64 0))), iI 18 (.pick (.t 15) (.c (.bool true)) (.t 17)), iI 19 (.mv (.t 18)), iG (some 20) 19 false (.load 0 (.t 3)), iG (some 21) 19 false (.bin .gtr (.t 20) (.c (.int .i64 10000000))), iI 22 (.pick (.t 19) (.c (.bool true)) (.t 21))]) c22_0) c22_1
def ir22 : C := .seq (.reg [iI 2 (.box (.t 0)), iI 3 (.box (.t 1)), iI 4 (.mv (.c (.bool false)))]) c22_2
theorem fd22 : fd? Try.prog 22 = some (28, [.slot 4], ir22) := by kernel_rfl
noncomputable def f22 (r_773 : ReceiverReceiver) (t_774 : Int) : Option (Bool) :=
  (if (decide (8 < ((r_773.fInputs.length : Nat) : Int))) = true then (some false) else (f18 r_773).bind fun r_775 => (f20 r_775).bind fun r_828 => (if (decide (r_828 ≠ 0)) = true then (some false) else (if (decide (t_774 < 0)) = true then (some false) else (if (decide (10000000 < t_774)) = true then (some false) else (f68_69 r_773.fInputs t_774).bind fun r_847 => (some (!r_847))))))
theorem f22_ok {r_773 : ReceiverReceiver} {t_774 : Int} {r_ : Bool} (H : f22 r_773 t_774 = some r_) : Pure Try.prog 22 [.agg [.sl 8 false (r_773.fInputs.map eReceiverInput)], .int .i64 t_774] (· = .bool r_) := by
 refine Pure.walk3 fd22 none (Nat.le_of_ble_eq_true rfl) (by rfl) fun Q hQ => ?_
 simp only [f22] at H
 refine AW.rseq ?_
 try simp only [↓wk, ↓wl, nq, evV, ↓reduceIte, sevalprocAttr]
 refine AW.sseq ?_
 refine AW.rseq ?_
 try simp only [↓wk, ↓wl, nq, evV, ↓reduceIte, sevalprocAttr]
 refine evTs_ifg H (by rfl) ?_ ?_ <;> clear H <;> intro H
 ·try simp only [↓wk, ↓wl, nq, evV, ↓reduceIte, sevalprocAttr]
  refine AW.ift (by rfl) ?_
  refine AW.rseq ?_
  try simp only [↓wk, ↓wl, nq, evV, ↓reduceIte, sevalprocAttr]
  refine AW.ret ?_
  refine seqQ.ret ?_
  cases H
  exact hQ.fin
 ·try simp only [↓wk, ↓wl, nq, evV, ↓reduceIte, sevalprocAttr]
  refine evTs_pure hFn H (fun _ h => f18_ok h) (by rfl) (by rfl) (by rfl) (by rfl) (fun _ => rfl) ?_ <;> clear H <;> intro r_775 H
  try simp only [eL, eRef57Receiver, ↓wk, ↓wl, nq, evV, ↓reduceIte, sevalprocAttr]
  refine evTs_pure hFn H (fun _ h => f20_ok h) (by rfl) (by rfl) (by rfl) (by rfl) (fun _ => rfl) ?_ <;> clear H <;> intro r_828 H
  try simp only [eL, ↓wk, ↓wl, nq, evV, ↓reduceIte, sevalprocAttr]
  refine evTs_ifg H (by rfl) ?_ ?_ <;> clear H <;> intro H
  ·try simp only [↓wk, ↓wl, nq, evV, ↓reduceIte, sevalprocAttr]
   refine AW.ift (by rfl) ?_
   refine AW.rseq ?_
   try simp only [↓wk, ↓wl, nq, evV, ↓reduceIte, sevalprocAttr]
   refine AW.ret ?_
   refine seqQ.ret ?_
   cases H
   exact hQ.fin
  ·try simp only [↓wk, ↓wl, nq, evV, ↓reduceIte, sevalprocAttr]
   refine evTs_ifg H (by rfl) ?_ ?_ <;> clear H <;> intro H
   ·try simp only [↓wk, ↓wl, nq, evV, ↓reduceIte, sevalprocAttr]
    refine AW.ift (by rfl) ?_
    refine AW.rseq ?_
    try simp only [↓wk, ↓wl, nq, evV, ↓reduceIte, sevalprocAttr]
    refine AW.ret ?_
    refine seqQ.ret ?_
    cases H
    exact hQ.fin
   ·try simp only [↓wk, ↓wl, nq, evV, ↓reduceIte, sevalprocAttr]
    refine AW.ifc H (by rfl) ?_ ?_ <;> clear H <;> intro H
    ·refine AW.rseq ?_
     try simp only [↓wk, ↓wl, nq, evV, ↓reduceIte, sevalprocAttr]
     refine AW.ret ?_
     refine seqQ.ret ?_
     cases H
     exact hQ.fin
    ·refine AW.skip ?_
     refine seqQ.norm ?_
     refine AW.rseq ?_
     try simp only [↓wk, ↓wl, nq, evV, ↓reduceIte, sevalprocAttr]
     refine evTs_flat hFn H (fun _ h => f68_69_ok h) (by rfl) (by rfl) (by simp only [deep_eq, imm_simps, imm_rowE, imm_ptrE, imm_enc, omap_simps, take_map_len, take_map_set, take_map_set2, List.length_set, le_refl_true, Nat.zero_add, and_true, true_and, List.drop_zero, Option.map_some, ↓wk, ↓wl, nq, evV, ↓reduceIte, sevalprocAttr]; rfl) (by rfl) (fun _ => rfl) (fun _ => rfl) ?_ <;> clear H <;> intro r_847 H
     try simp only [eL, ↓wk, ↓wl, nq, evV, ↓reduceIte, sevalprocAttr]
     refine AW.ret ?_
     cases H
     exact hQ.fin
noncomputable def f61_L1 (r_848 : Ref57Receiver) (t_849 : Int) : Lp (Int) ((Unit) ⊕ (Unit)) where
  body := fun i_855 => (if (decide (i_855 < ((r_848.fInputs.length : Nat) : Int))) = true then (at? r_848.fInputs i_855).bind fun x_857 => (if (decide (t_849 < x_857.fLast)) = true then (some (.brk (Sum.inr ()))) else (some (.next (IntKind.i64.wrap (i_855 + 1))))) else (some (.brk (Sum.inl ()))))
  cst := fun i_855 => ⟨put (put (put (fun _ => .junk) 6 (.int .i64 i_855)) 2 (.ptr 0 0)) 1 (.int .i64 t_849), [.cel [.sl 8 false (r_848.fInputs.map eRef57Input)]]⟩
theorem f61_L1c (r_848 : Ref57Receiver) (t_849 : Int) (i_855 : Int) : (f61_L1 r_848 t_849).cst i_855 = ⟨put (put (put (fun _ => .junk) 6 (.int .i64 i_855)) 2 (.ptr 0 0)) 1 (.int .i64 t_849), [.cel [.sl 8 false (r_848.fInputs.map eRef57Input)]]⟩ := rfl
def c61_0 : C := .cond (.t 10) (.seq (.reg [iI 11 (.mv (.t 5)), iI 4 (.mv (.t 11))]) .ret) (.skip)
def c61_1 : C := .seq (.reg [iI 9 (.mv (.t 5)), iI 10 (.bin .neq (.t 9) (.c (.int .i64 0)))]) c61_0
def c61_2 : C := .cond (.t 17) (.seq (.reg [iI 4 (.mv (.c (.int .i64 2)))]) .ret) (.skip)
def c61_3 : C := .cond (.t 22) (.skip) (.exit 0)
def c61_4 : C := .cond (.t 32) (.seq (.reg [iI 4 (.mv (.c (.int .i64 9)))]) .ret) (.skip)
def c61_5 : C := .reg [iI 23 (.mv (.t 6)), iI 24 (.bin .add (.t 23) (.c (.int .i64 1))), iI 6 (.mv (.t 24))]
def c61_6 : C := .seq (.block 1 (.seq (.reg [iI 25 (.mv (.t 1)), iI 26 (.faddr 0 (.t 2)), iI 27 (.load 0 (.t 26)), iI 28 (.mv (.t 6)), iI 29 (.iaddr 8 (.t 27) (.t 28)), iI 30 (.faddr 5 (.t 29)), iI 31 (.load 0 (.t 30)), iI 32 (.bin .lss (.t 25) (.t 31))]) c61_4)) c61_5
def c61_7 : C := .block 0 (.loop (.seq (.seq (.reg [iI 18 (.mv (.t 6)), iI 19 (.faddr 0 (.t 2)), iI 20 (.load 0 (.t 19)), iI 21 (.len 0 (.t 20)), iI 22 (.bin .lss (.t 18) (.t 21))]) c61_3) c61_6))
def c61_8 : C := .seq (.reg [iI 4 (.mv (.c (.int .i64 0)))]) .ret
def c61_9 : C := .seq (.seq (.reg [iI 6 (.mv (.c (.int .i64 0)))]) c61_7) c61_8
def c61_10 : C := .seq (.seq (.reg [iI 12 (.mv (.t 1)), iI 13 (.bin .lss (.t 12) (.c (.int .i64 0))), iI 14 (.mv (.t 13)), iG (some 15) 14 false (.mv (.t 1)), iG (some 16) 14 false (.bin .gtr (.t 15) (.c (.int .i64 10000000))), iI 17 (.pick (.t 14) (.c (.bool true)) (.t 16))]) c61_2) c61_9
def c61_11 : C := .seq (.seq (.reg [iI 7 (.load 1 (.t 2)), iI 8 (.call (.c (.fn 20 [])) [(.t 7)]), iI 5 (.mv (.t 8))]) c61_1) c61_10
def ir61 : C := .seq (.reg [iI 2 (.box (.t 0)), iI 4 (.mv (.c (.int .i64 0)))]) c61_11
theorem fd61 : fd? Try.prog 61 = some (33, [.slot 4], ir61) := by kernel_rfl
noncomputable def f61 (r_848 : Ref57Receiver) (t_849 : Int) : Option (Int) :=
  (f20 r_848).bind fun r_851 => (if (decide (r_851 ≠ 0)) = true then (some r_851) else (if (decide (t_849 < 0)) = true then (some 2) else (if (decide (10000000 < t_849)) = true then (some 2) else ((Lp.run (f61_L1 r_848 t_849) 0).bind fun r_ => match r_ with | (Sum.inl _) => (some 0) | (Sum.inr _) => (some 9)))))
theorem f61_ok {r_848 : Ref57Receiver} {t_849 : Int} {r_ : Int} (H : f61 r_848 t_849 = some r_) : Pure Try.prog 61 [.agg [.sl 8 false (r_848.fInputs.map eRef57Input)], .int .i64 t_849] (· = .int .i64 r_) := by
 refine Pure.walk3 fd61 none (Nat.le_of_ble_eq_true rfl) (by rfl) fun Q hQ => ?_
 simp only [f61] at H
 refine AW.rseq ?_
 try simp only [↓wk, ↓wl, nq, evV, ↓reduceIte, sevalprocAttr]
 refine AW.sseq ?_
 refine AW.rseq ?_
 try simp only [↓wk, ↓wl, nq, evV, ↓reduceIte, sevalprocAttr]
 refine evTs_pure hFn H (fun _ h => f20_ok h) (by rfl) (by rfl) (by rfl) (by rfl) (fun _ => rfl) ?_ <;> clear H <;> intro r_851 H
 try simp only [eL, ↓wk, ↓wl, nq, evV, ↓reduceIte, sevalprocAttr]
 refine AW.rseq ?_
 try simp only [↓wk, ↓wl, nq, evV, ↓reduceIte, sevalprocAttr]
 refine AW.ifc H (by rfl) ?_ ?_ <;> clear H <;> intro H
 ·refine AW.rseq ?_
  try simp only [↓wk, ↓wl, nq, evV, ↓reduceIte, sevalprocAttr]
  refine AW.ret ?_
  refine seqQ.ret ?_
  cases H
  exact hQ.fin
 ·refine AW.skip ?_
  refine seqQ.norm ?_
  refine AW.sseq ?_
  refine AW.rseq ?_
  try simp only [↓wk, ↓wl, nq, evV, ↓reduceIte, sevalprocAttr]
  refine evTs_ifg H (by rfl) ?_ ?_ <;> clear H <;> intro H
  ·try simp only [↓wk, ↓wl, nq, evV, ↓reduceIte, sevalprocAttr]
   refine AW.ift (by rfl) ?_
   refine AW.rseq ?_
   try simp only [↓wk, ↓wl, nq, evV, ↓reduceIte, sevalprocAttr]
   refine AW.ret ?_
   refine seqQ.ret ?_
   cases H
   exact hQ.fin
  ·try simp only [↓wk, ↓wl, nq, evV, ↓reduceIte, sevalprocAttr]
   refine AW.ifc H (by rfl) ?_ ?_ <;> clear H <;> intro H
   ·refine AW.rseq ?_
    try simp only [↓wk, ↓wl, nq, evV, ↓reduceIte, sevalprocAttr]
    refine AW.ret ?_
    refine seqQ.ret ?_
    cases H
    exact hQ.fin
   ·refine AW.skip ?_
    refine seqQ.norm ?_
    refine AW.sseq ?_
    refine AW.rseq ?_
    try simp only [↓wk, ↓wl, nq, evV, ↓reduceIte, sevalprocAttr]
    refine AW.bend ?_
    refine AW.iter H ((Le.tz [0] [1, 2, 6] (by simp only [f61_L1c, rrm, ↓wk, ↓wl, evV, ↓reduceIte, sevalprocAttr] <;> rfl))) ?_ <;> clear H
    rintro i_855 x_ st0_ H hst_
    rw [f61_L1c] at hst_
    simp only [f61_L1] at H
    subst hst_
    refine AW.sseq ?_
    refine AW.rseq ?_
    try simp only [↓wk, ↓wl, nq, evV, ↓reduceIte, sevalprocAttr]
    refine AW.ifc H (by rfl) ?_ ?_ <;> clear H <;> intro H
    ·refine AW.skip ?_
     refine seqQ.norm ?_
     refine AW.bseq ?_
     refine AW.rseq ?_
     try simp only [↓wk, ↓wl, nq, evV, ↓reduceIte, sevalprocAttr]
     refine evTs_at (enc := eRef57Input) H (by rfl) (by rfl) ?_ <;> clear H <;> intro x_857 H
     try simp only [eRef57Input, eL, ↓wk, ↓wl, nq, evV, ↓reduceIte, sevalprocAttr]
     refine AW.ifc H (by rfl) ?_ ?_ <;> clear H <;> intro H
     ·refine AW.rseq ?_
      try simp only [↓wk, ↓wl, nq, evV, ↓reduceIte, sevalprocAttr]
      refine AW.ret ?_
      refine blkQ.ret ?_
      refine loopQ.ret H ?_ <;> clear H <;> intro H
      try dsimp only at H
      refine blk0.ret ?_
      refine seqQ.ret ?_
      cases H
      exact hQ.fin
     ·refine AW.skip ?_
      refine blkQ.norm ?_
      refine AW.rend ?_
      try simp only [↓wk, ↓wl, nq, evV, ↓reduceIte, sevalprocAttr]
      exact loopQ.next H ((Le.tz [0] [1, 2, 6] (by simp only [f61_L1c, rrm, ↓wk, ↓wl, evV, ↓reduceIte, sevalprocAttr] <;> rfl)))
    ·refine AW.exit ?_
     refine seqQ.exit ?_
     refine loopQ.exit H ?_ <;> clear H <;> intro H
     try dsimp only at H
     refine blk0.here ?_
     refine seqQ.norm ?_
     refine AW.rseq ?_
     try simp only [↓wk, ↓wl, nq, evV, ↓reduceIte, sevalprocAttr]
     refine AW.ret ?_
     cases H
     exact hQ.fin
noncomputable def f21_L1 (a_858 : Ref57Receiver) (b_859 : Ref57Receiver) : Lp (Int) ((Unit) ⊕ (Unit)) where
  body := fun i_865 => (if (decide (i_865 < ((a_858.fInputs.length : Nat) : Int))) = true then (at? a_858.fInputs i_865).bind fun x_868 => (at? b_859.fInputs i_865).bind fun x_869 => (if (!((x_868.fUniverse == x_869.fUniverse) && ((x_868.fSource == x_869.fSource) && ((x_868.fPriority == x_869.fPriority) && ((x_868.fSeq == x_869.fSeq) && ((x_868.fSync == x_869.fSync) && ((x_868.fLast == x_869.fLast) && ((x_868.fSlots == x_869.fSlots) && ((x_868.fWait == x_869.fWait) && true))))))))) = true then (some (.brk (Sum.inr ()))) else (some (.next (IntKind.i64.wrap (i_865 + 1))))) else (some (.brk (Sum.inl ()))))
  cst := fun i_865 => ⟨put (put (put (fun _ => .junk) 5 (.int .i64 i_865)) 3 (.ptr 1 0)) 2 (.ptr 0 0), [.cel [.sl 8 false (a_858.fInputs.map eRef57Input)], .cel [.sl 8 false (b_859.fInputs.map eRef57Input)]]⟩
theorem f21_L1c (a_858 : Ref57Receiver) (b_859 : Ref57Receiver) (i_865 : Int) : (f21_L1 a_858 b_859).cst i_865 = ⟨put (put (put (fun _ => .junk) 5 (.int .i64 i_865)) 3 (.ptr 1 0)) 2 (.ptr 0 0), [.cel [.sl 8 false (a_858.fInputs.map eRef57Input)], .cel [.sl 8 false (b_859.fInputs.map eRef57Input)]]⟩ := rfl
def c21_0 : C := .cond (.t 12) (.seq (.reg [iI 4 (.mv (.c (.bool false)))]) .ret) (.skip)
def c21_1 : C := .cond (.t 17) (.skip) (.exit 0)
def c21_2 : C := .cond (.t 30) (.seq (.reg [iI 4 (.mv (.c (.bool false)))]) .ret) (.skip)
def c21_3 : C := .reg [iI 18 (.mv (.t 5)), iI 19 (.bin .add (.t 18) (.c (.int .i64 1))), iI 5 (.mv (.t 19))]
def c21_4 : C := .seq (.block 1 (.seq (.reg [iI 20 (.faddr 0 (.t 2)), iI 21 (.load 0 (.t 20)), iI 22 (.mv (.t 5)), iI 23 (.iaddr 8 (.t 21) (.t 22)), iI 24 (.load 8 (.t 23)), iI 25 (.faddr 0 (.t 3)), iI 26 (.load 0 (.t 25)), iI 27 (.mv (.t 5)), iI 28 (.iaddr 8 (.t 26) (.t 27)), iI 29 (.load 8 (.t 28)), iI 30 (.eqs true [0, 0, 0, 0, 0, 0, 1, 1] (.t 24) (.t 29))]) c21_2)) c21_3
def c21_5 : C := .block 0 (.loop (.seq (.seq (.reg [iI 13 (.mv (.t 5)), iI 14 (.faddr 0 (.t 2)), iI 15 (.load 0 (.t 14)), iI 16 (.len 0 (.t 15)), iI 17 (.bin .lss (.t 13) (.t 16))]) c21_1) c21_4))
def c21_6 : C := .seq (.reg [iI 4 (.mv (.c (.bool true)))]) .ret
def c21_7 : C := .seq (.seq (.reg [iI 5 (.mv (.c (.int .i64 0)))]) c21_5) c21_6
def c21_8 : C := .seq (.seq (.reg [iI 6 (.faddr 0 (.t 2)), iI 7 (.load 0 (.t 6)), iI 8 (.len 0 (.t 7)), iI 9 (.faddr 0 (.t 3)), iI 10 (.load 0 (.t 9)), iI 11 (.len 0 (.t 10)), iI 12 (.bin .neq (.t 8) (.t 11))]) c21_0) c21_7
def ir21 : C := .seq (.reg [iI 2 (.box (.t 0)), iI 3 (.box (.t 1)), iI 4 (.mv (.c (.bool false)))]) c21_8
theorem fd21 : fd? Try.prog 21 = some (31, [.slot 4], ir21) := by kernel_rfl
noncomputable def f21 (a_858 : Ref57Receiver) (b_859 : Ref57Receiver) : Option (Bool) :=
  (if (decide (((a_858.fInputs.length : Nat) : Int) ≠ ((b_859.fInputs.length : Nat) : Int))) = true then (some false) else ((Lp.run (f21_L1 a_858 b_859) 0).bind fun r_ => match r_ with | (Sum.inl _) => (some true) | (Sum.inr _) => (some false)))
theorem f21_ok {a_858 : Ref57Receiver} {b_859 : Ref57Receiver} {r_ : Bool} (H : f21 a_858 b_859 = some r_) : Pure Try.prog 21 [.agg [.sl 8 false (a_858.fInputs.map eRef57Input)], .agg [.sl 8 false (b_859.fInputs.map eRef57Input)]] (· = .bool r_) := by
 refine Pure.walk3 fd21 none (Nat.le_of_ble_eq_true rfl) (by rfl) fun Q hQ => ?_
 simp only [f21] at H
 refine AW.rseq ?_
 try simp only [↓wk, ↓wl, nq, evV, ↓reduceIte, sevalprocAttr]
 refine AW.sseq ?_
 refine AW.rseq ?_
 try simp only [↓wk, ↓wl, nq, evV, ↓reduceIte, sevalprocAttr]
 refine AW.ifc H (by rfl) ?_ ?_ <;> clear H <;> intro H
 ·refine AW.rseq ?_
  try simp only [↓wk, ↓wl, nq, evV, ↓reduceIte, sevalprocAttr]
  refine AW.ret ?_
  refine seqQ.ret ?_
  cases H
  exact hQ.fin
 ·refine AW.skip ?_
  refine seqQ.norm ?_
  refine AW.sseq ?_
  refine AW.rseq ?_
  try simp only [↓wk, ↓wl, nq, evV, ↓reduceIte, sevalprocAttr]
  refine AW.bend ?_
  refine AW.iter H ((Le.tz [0, 1] [2, 3, 5] (by simp only [f21_L1c, rrm, ↓wk, ↓wl, evV, ↓reduceIte, sevalprocAttr] <;> rfl))) ?_ <;> clear H
  rintro i_865 x_ st0_ H hst_
  rw [f21_L1c] at hst_
  simp only [f21_L1] at H
  subst hst_
  refine AW.sseq ?_
  refine AW.rseq ?_
  try simp only [↓wk, ↓wl, nq, evV, ↓reduceIte, sevalprocAttr]
  refine AW.ifc H (by rfl) ?_ ?_ <;> clear H <;> intro H
  ·refine AW.skip ?_
   refine seqQ.norm ?_
   refine AW.bseq ?_
   refine AW.rseq ?_
   try simp only [↓wk, ↓wl, nq, evV, ↓reduceIte, sevalprocAttr]
   refine evTs_at (enc := eRef57Input) H (by rfl) (by rfl) ?_ <;> clear H <;> intro x_868 H
   try simp only [eRef57Input, eL, ↓wk, ↓wl, nq, evV, ↓reduceIte, sevalprocAttr]
   refine evTs_at (enc := eRef57Input) H (by rfl) (by rfl) ?_ <;> clear H <;> intro x_869 H
   try simp only [eRef57Input, eL, ↓wk, ↓wl, nq, evV, ↓reduceIte, sevalprocAttr]
   refine rest_neqs (by rfl) ?_
   try simp only [↓wk, ↓wl, nq, evV, ↓reduceIte, sevalprocAttr]
   refine AW.ifc H (by rfl) ?_ ?_ <;> clear H <;> intro H
   ·refine AW.rseq ?_
    try simp only [↓wk, ↓wl, nq, evV, ↓reduceIte, sevalprocAttr]
    refine AW.ret ?_
    refine blkQ.ret ?_
    refine loopQ.ret H ?_ <;> clear H <;> intro H
    try dsimp only at H
    refine blk0.ret ?_
    refine seqQ.ret ?_
    cases H
    exact hQ.fin
   ·refine AW.skip ?_
    refine blkQ.norm ?_
    refine AW.rend ?_
    try simp only [↓wk, ↓wl, nq, evV, ↓reduceIte, sevalprocAttr]
    exact loopQ.next H ((Le.tz [0, 1] [2, 3, 5] (by simp only [f21_L1c, rrm, ↓wk, ↓wl, evV, ↓reduceIte, sevalprocAttr] <;> rfl)))
  ·refine AW.exit ?_
   refine seqQ.exit ?_
   refine loopQ.exit H ?_ <;> clear H <;> intro H
   try dsimp only at H
   refine blk0.here ?_
   refine seqQ.norm ?_
   refine AW.rseq ?_
   try simp only [↓wk, ↓wl, nq, evV, ↓reduceIte, sevalprocAttr]
   refine AW.ret ?_
   cases H
   exact hQ.fin
end Go.Proofs.Ytgfohogbechkkaa
