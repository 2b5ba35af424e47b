import Derived.Test.YtgjfhplkochbpaaGreatAHC
import Derived.Test.YtgjfhplkochbpaaGreatASE
import Derived.Test.YtgjfhplkochbpaaGreatAZ1
import Derived.KernelRfl
set_option linter.unusedSimpArgs false
set_option linter.unusedVariables false
set_option maxHeartbeats 1000000
set_option maxRecDepth 4000
namespace Go.Proofs.YtgjfhplkochbpaaGreat
open Go Go.Ab
theorem Le.frz{lo:Nat}{st:St}(i:Nat){τ : Type}{enc : τ → AV}{e b n:Nat}[IsEnc e enc]{xs:List τ}(hi:st.s i=.row e b 0 n)(hn:n=xs.length)(hb:st.h[b]? = some (.els e (xs.map enc))):Le lo st ⟨put st.s i (.sl e false (xs.map enc)),st.h.set b .dead⟩:=by
 refine Le.freeze ?_
 subst hn
 rw[hi]
 have hv:visit st.h (11 + 1) (.row e b 0 xs.length)=[b]:=by
  simp only[visit,hb]
  rw[if_pos (enc_all (enc:=enc) xs)]
 have hi':imm st.h deep (.row e b 0 xs.length)=some (.sl e false (xs.map enc)):=by
  show imm st.h (11 + 1) _=_
  rw[imm_rowE,hb]
  dsimp only
  rw[if_pos ⟨rfl,by simp⟩,List.drop_zero,List.take_of_length_le (by simp),imm_enc st.h 7]
  rfl
 unfold Ab.freeze
 rw[if_neg (by simp[plain,deep]),hi']
 show some (_,kill st.h (visit st.h (11 + 1) _))=_
 rw[hv]
 simp[kill]
theorem AWT.weaken{n lo:Nat}{E0:Env}{w0:World}{K:Exit→Act→World→Prop}{c':Code}{st st2:St}(hl:Le lo st st2)(h:AWT n lo E0 w0 K c' st2):AWT n lo E0 w0 K c' st:=fun E a w hst hn hx=>by
 obtain ⟨E',h1,h2⟩:=hl E a w hst
 exact h E' a w h1 hn (hx.trans h2 (Nat.le_refl _))
noncomputable def bd:Nat→Code
 | 0=>body46
 | k + 1=>sR (bd k)
theorem AWT.step{n lo:Nat}{E0:Env}{w0:World}{K:Exit→Act→World→Prop}(k:Nat){ca:C}{st:St}(hs:bd k=.seq (sL (bd k)) (bd (k + 1)))(hc:compC Tryz.prog n (sL (bd k))=some ca)
  (h:AW Tryz.prog n lo ca (fun ex st'=>ex=.normal∧AWT n lo E0 w0 K (bd (k + 1)) st') st):AWT n lo E0 w0 K (bd k) st:=by
 rw[hs]
 exact AWT.seq hc h
theorem bd0:bd 0=.seq (sL (bd 0)) (bd 1):=by kernel_rfl
theorem bd1:bd 1=.seq (sL (bd 1)) (bd 2):=by kernel_rfl
theorem bd2:bd 2=.seq (sL (bd 2)) (bd 3):=by kernel_rfl
theorem bd3:bd 3=.seq (sL (bd 3)) (bd 4):=by kernel_rfl
theorem bd4:bd 4=.seq (sL (bd 4)) (bd 5):=by kernel_rfl
theorem bd5:bd 5=.seq (sL (bd 5)) (bd 6):=by kernel_rfl
theorem bd6:bd 6=.seq (sL (bd 6)) (bd 7):=by kernel_rfl
theorem bd7:bd 7=.seq (sL (bd 7)) (bd 8):=by kernel_rfl
theorem bd8:bd 8=.seq (sL (bd 8)) (bd 9):=by kernel_rfl
theorem bd9:bd 9=tail46:=by kernel_rfl
def c46_0:C:=.reg [iI 33 (.mv (.t 0)),iI 34 (.mv (.t 0)),iI 35 (.nilchk (.t 34)),iI 36 (.faddr 3 (.t 35)),iI 37 (.faddr 1 (.t 36)),iI 38 (.load 0 (.t 37)),iI 39 (.slice 0 (.t 38) (some (.c (.int .i64 1))) none),iI 40 (.call (.c (.fn 43 [])) [(.t 39)]),iI 41 (.nilchk (.t 33)),iI 42 (.faddr 3 (.t 41)),iI 43 (.faddr 1 (.t 42)),iN (.store 0 (.t 43) (.t 40))]
def c46_1:C:=.cond (.t 25) (.seq (.reg [iI 26 (.mv (.t 0)),iI 27 (.nilchk (.t 26)),iI 28 (.faddr 3 (.t 27)),iI 29 (.faddr 1 (.t 28)),iI 30 (.load 0 (.t 29)),iI 31 (.iaddr 0 (.t 30) (.c (.int .i64 0))),iI 32 (.load 0 (.t 31)),iI 5 (.mv (.t 32))]) c46_0) (.skip)
def c46_2:C:=.reg [iI 78 (.mv (.t 6)),iI 79 (.mv (.t 12)),iI 80 (.mkslp 0 1 (.str []) [(0,(.t 79))]),iI 81 (.append 0 16 (.t 78) (.t 80)),iI 6 (.mv (.t 81))]
def c46_3:C:=.seq (.reg [iI 74 (.load 6 (.t 11)),iI 75 (.call (.c (.fn 67 [])) [(.t 74)]),iI 73 (.mv (.t 75)),iI 76 (.ext (.t 73) 0),iI 77 (.ext (.t 73) 1),iI 12 (.mv (.t 76)),iI 13 (.mv (.t 77))]) c46_2
def c46_4:C:=.reg [iI 82 (.bin .add (.t 69) (.c (.int .i64 1))),iI 69 (.mv (.t 82))]
def c46_5:C:=.seq (.block 1 (.seq (.reg [iI 71 (.iaddr 6 (.t 67) (.t 69)),iI 72 (.load 6 (.t 71)),iI 11 (.alloc [(1,(.int .u64 0)),(1,(.int .u64 0)),(1,(.int .i64 0)),(1,(.int .i64 0)),(1,(.int .i64 0)),(1,(.str []))]),iN (.store 6 (.t 11) (.t 72))]) c46_3)) c46_4
def c46_6:C:=.seq (.cond (.t 70) (.skip) (.exit 0)) c46_5
def c46_7:C:=.block 0 (.loop (.seq (.reg [iI 70 (.bin .lss (.t 69) (.t 68))]) c46_6))
def c46_8:C:=.seq (.reg [iI 67 (.mv (.t 8)),iI 68 (.len 0 (.t 67)),iI 69 (.mv (.c (.int .i64 0)))]) c46_7
def c46_9:C:=.seq (.reg [iI 62 (.mv (.t 0)),iI 63 (.mv (.t 7)),iI 64 (.nilchk (.t 62)),iI 65 (.faddr 3 (.t 64)),iI 66 (.faddr 0 (.t 65)),iN (.store 0 (.t 66) (.t 63))]) c46_8
def c46_10:C:=.cond (.t 45) (.seq (.regq [iI 47 (.mv (.t 0)),iI 48 (.nilchk (.t 47)),iI 49 (.faddr 3 (.t 48)),iI 50 (.faddr 0 (.t 49)),iI 51 (.load 0 (.t 50)),iI 52 (.mv (.t 0)),iI 53 (.nilchk (.t 52)),iI 54 (.faddr 0 (.t 53)),iI 55 (.load 3 (.t 54)),iI 56 (.load 4 (.t 3)),iI 57 (.call (.c (.fn 45 [])) [(.t 55),(.t 56)]),iI 58 (.call (.c (.fn 27 [])) [(.t 51),(.t 57)]),iI 46 (.mv (.t 58)),iI 59 (.ext (.t 46) 0),iI 60 (.ext (.t 46) 1),iI 61 (.ext (.t 46) 2),iI 7 (.mv (.t 59)),iI 8 (.mv (.t 60)),iI 9 (.mv (.t 61))]) c46_9) (.skip)
def c26_0:C:=.cond (.t 15) (.skip) (.exit 0)
def c26_1:C:=.cond (.t 35) (.exit 3) (.skip)
def c26_2:C:=.cond (.t 38) (.seq (.reg [iI 39 (.faddr 5 (.t 8)),iI 40 (.load 0 (.t 39)),iI 41 (.sidx (.t 40) (.c (.int .i64 0))),iI 42 (.cint .i64 (.t 41)),iI 43 (.mv (.t 5)),iI 44 (.build [(1,(.int .i64 0)),(1,(.str [])),(1,(.int .i64 0)),(1,(.int .i64 0))] [(0,0,(.c (.int .i64 1))),(2,0,(.t 42)),(3,0,(.t 43))]),iN (.store 4 (.t 4) (.t 44))]) .ret) (.skip)
def c26_3:C:=.seq (.reg [iI 45 (.faddr 5 (.t 8)),iI 46 (.load 0 (.t 45)),iI 47 (.mv (.t 5)),iI 48 (.build [(1,(.int .i64 0)),(1,(.str [])),(1,(.int .i64 0)),(1,(.int .i64 0))] [(0,0,(.c (.int .i64 0))),(1,0,(.t 46)),(3,0,(.t 47))]),iN (.store 4 (.t 4) (.t 48))]) .ret
def c26_4:C:=.seq (.seq (.reg [iI 36 (.faddr 3 (.t 8)),iI 37 (.load 0 (.t 36)),iI 38 (.bin .eql (.t 37) (.c (.int .i64 7)))]) c26_2) c26_3
def c26_5:C:=.seq (.seq (.reg [iI 32 (.load 6 (.t 6)),iI 33 (.load 6 (.t 8)),iI 34 (.call (.c (.fn 33 [])) [(.t 32),(.t 33)]),iI 35 (.un .not (.t 34))]) c26_1) c26_4
def c26_6:C:=.reg [iI 49 (.bin .add (.t 28) (.c (.int .i64 1))),iI 28 (.mv (.t 49))]
def c26_7:C:=.seq (.block 3 (.seq (.reg [iI 30 (.iaddr 6 (.t 26) (.t 28)),iI 31 (.load 6 (.t 30)),iI 8 (.alloc [(1,(.int .u64 0)),(1,(.int .u64 0)),(1,(.int .i64 0)),(1,(.int .i64 0)),(1,(.int .i64 0)),(1,(.str []))]),iN (.store 6 (.t 8) (.t 31))]) c26_5)) c26_6
def c26_8:C:=.seq (.cond (.t 29) (.skip) (.exit 2)) c26_7
def c26_9:C:=.block 2 (.loop (.seq (.reg [iI 29 (.bin .lss (.t 28) (.t 27))]) c26_8))
def c26_10:C:=.seq (.reg [iI 24 (.mv (.t 0)),iI 25 (.load 4 (.t 3)),iI 26 (.call (.c (.fn 46 [])) [(.t 24),(.t 25)]),iI 27 (.len 0 (.t 26)),iI 28 (.mv (.c (.int .i64 0)))]) c26_9
def c26_11:C:=.reg [iI 16 (.mv (.t 5)),iI 17 (.bin .add (.t 16) (.c (.int .i64 1))),iI 5 (.mv (.t 17))]
def c26_12:C:=.seq (.block 1 (.seq (.regt (.fork [iI 18 (.mv (.t 0)),iI 19 (.nilchk (.t 18)),iI 20 (.faddr 0 (.t 19)),iI 21 (.load 3 (.t 20)),iI 22 (.load 4 (.t 3))] (.run [iI 23 (.call (.c (.fn 45 [])) [(.t 21),(.t 22)]),iI 6 (.alloc [(1,(.int .u64 0)),(1,(.int .u64 0)),(1,(.int .i64 0)),(1,(.int .i64 0)),(1,(.int .i64 0)),(1,(.str []))]),iN (.store 6 (.t 6) (.t 23))]) (.run [iI 6 (.alloc [(1,(.int .u64 0)),(1,(.int .u64 0)),(1,(.int .i64 0)),(1,(.int .i64 0)),(1,(.int .i64 0)),(1,(.str []))]),iI 23 (.call (.c (.fn 45 [])) [(.t 21),(.t 22)]),iN (.store 6 (.t 6) (.t 23))]))) c26_10)) c26_11
def c26_13:C:=.block 0 (.loop (.seq (.seq (.reg [iI 9 (.mv (.t 5)),iI 10 (.mv (.t 0)),iI 11 (.nilchk (.t 10)),iI 12 (.faddr 0 (.t 11)),iI 13 (.faddr 2 (.t 12)),iI 14 (.load 0 (.t 13)),iI 15 (.bin .leq (.t 9) (.t 14))]) c26_0) c26_12))
def c26_14:C:=.seq (.reg [iI 50 (.mv (.t 0)),iI 51 (.nilchk (.t 50)),iI 52 (.faddr 0 (.t 51)),iI 53 (.faddr 2 (.t 52)),iI 54 (.load 0 (.t 53)),iI 55 (.build [(1,(.int .i64 0)),(1,(.str [])),(1,(.int .i64 0)),(1,(.int .i64 0))] [(0,0,(.c (.int .i64 2))),(3,0,(.t 54))]),iN (.store 4 (.t 4) (.t 55))]) .ret
def c26_15:C:=.seq (.seq (.reg [iI 5 (.mv (.c (.int .i64 1)))]) c26_13) c26_14
def ir26:C:=.seq (.reg [iI 3 (.box (.t 1)),iI 4 (.alloc [(1,(.int .i64 0)),(1,(.str [])),(1,(.int .i64 0)),(1,(.int .i64 0))])]) c26_15
theorem fd26:fd? Tryz.prog 26=some (56,[.cell 4 4],ir26):=by kernel_rfl
def c15_0:C:=.cond (.t 18) (.seq (.reg [iI 19 (.build [(1,(.int .u64 0)),(1,(.int .i64 0)),(1,(.int .i64 0))] []),iI 20 (.build [(1,(.sl 7 true [])),(1,(.sl 0 true [])),(1,(.sl 0 true []))] []),iI 21 (.build [(1,(.int .i64 0)),(1,(.str [])),(1,(.int .i64 0)),(1,(.int .i64 0))] []),iI 22 (.mv (.t 10)),iN (.store 3 (.t 6) (.t 19)),iN (.store 3 (.t 7) (.t 20)),iN (.store 4 (.t 8) (.t 21)),iI 9 (.mv (.t 22))]) .ret) (.skip)
def c15_1:C:=.seq (.reg [iI 17 (.mv (.t 10)),iI 18 (.bin .neq (.t 17) (.c (.int .i64 0)))]) c15_0
def c15_2:C:=.seq (.regt (.fork [iI 31 (.mv (.t 11)),iI 32 (.nilchk (.t 31)),iI 33 (.faddr 0 (.t 32)),iI 34 (.load 3 (.t 33)),iI 35 (.mv (.t 11)),iI 36 (.nilchk (.t 35)),iI 37 (.faddr 3 (.t 36))] (.fork [iI 38 (.load 3 (.t 37))] (.run [iI 39 (.load 4 (.t 12)),iN (.store 3 (.t 6) (.t 34)),iN (.store 3 (.t 7) (.t 38)),iN (.store 4 (.t 8) (.t 39)),iI 9 (.mv (.c (.int .i64 0)))]) (.fork [iN (.store 3 (.t 6) (.t 34))] (.run [iI 39 (.load 4 (.t 12)),iN (.store 3 (.t 7) (.t 38)),iN (.store 4 (.t 8) (.t 39)),iI 9 (.mv (.c (.int .i64 0)))]) (.run [iN (.store 3 (.t 7) (.t 38)),iI 39 (.load 4 (.t 12)),iN (.store 4 (.t 8) (.t 39)),iI 9 (.mv (.c (.int .i64 0)))]))) (.fork [] (.fork [iI 39 (.load 4 (.t 12))] (.run [iI 38 (.load 3 (.t 37)),iN (.store 3 (.t 6) (.t 34)),iN (.store 3 (.t 7) (.t 38)),iN (.store 4 (.t 8) (.t 39)),iI 9 (.mv (.c (.int .i64 0)))]) (.run [iN (.store 3 (.t 6) (.t 34)),iI 38 (.load 3 (.t 37)),iN (.store 3 (.t 7) (.t 38)),iN (.store 4 (.t 8) (.t 39)),iI 9 (.mv (.c (.int .i64 0)))])) (.fork [iN (.store 3 (.t 6) (.t 34)),iI 38 (.load 3 (.t 37))] (.run [iI 39 (.load 4 (.t 12)),iN (.store 3 (.t 7) (.t 38)),iN (.store 4 (.t 8) (.t 39)),iI 9 (.mv (.c (.int .i64 0)))]) (.run [iN (.store 3 (.t 7) (.t 38)),iI 39 (.load 4 (.t 12)),iN (.store 4 (.t 8) (.t 39)),iI 9 (.mv (.c (.int .i64 0)))]))))) .ret
def c15_3:C:=.seq (.reg [iI 28 (.mv (.t 11)),iI 29 (.load 4 (.t 5)),iI 30 (.call (.c (.fn 26 [])) [(.t 28),(.t 29)]),iI 12 (.alloc [(1,(.int .i64 0)),(1,(.str [])),(1,(.int .i64 0)),(1,(.int .i64 0))]),iN (.store 4 (.t 12) (.t 30))]) c15_2
def c15_4:C:=.seq (.regq [iI 23 (.load 3 (.t 3)),iI 24 (.load 3 (.t 4)),iI 25 (.call (.c (.fn 25 [])) [(.t 24)]),iI 26 (.build [(1,(.int .u64 0)),(1,(.int .i64 0)),(1,(.int .i64 0)),(1,(.sl 7 true [])),(1,(.sl 0 true [])),(1,(.sl 0 true []))] [(0,3,(.t 23)),(3,3,(.t 25))]),iI 27 (.box (.t 26)),iI 11 (.mv (.t 27))]) c15_3
def c15_5:C:=.seq (.seq (.reg [iI 13 (.load 3 (.t 3)),iI 14 (.load 3 (.t 4)),iI 15 (.load 4 (.t 5)),iI 16 (.call (.c (.fn 24 [])) [(.t 13),(.t 14),(.t 15)]),iI 10 (.mv (.t 16))]) c15_1) c15_4
def ir15:C:=.seq (.reg [iI 3 (.box (.t 0)),iI 4 (.box (.t 1)),iI 5 (.box (.t 2)),iI 6 (.alloc [(1,(.int .u64 0)),(1,(.int .i64 0)),(1,(.int .i64 0))]),iI 7 (.alloc [(1,(.sl 7 true [])),(1,(.sl 0 true [])),(1,(.sl 0 true []))]),iI 8 (.alloc [(1,(.int .i64 0)),(1,(.str [])),(1,(.int .i64 0)),(1,(.int .i64 0))]),iI 9 (.mv (.c (.int .i64 0)))]) c15_5
theorem fd15:fd? Tryz.prog 15=some (40,[.cell 6 3,.cell 7 3,.cell 8 4,.slot 9],ir15):=by kernel_rfl
def c68_0:C:=.seq (.reg [iI 1 (.build [(5,.nilfn)] [(0,0,(.c (.fn 109 []))),(1,0,(.c (.fn 110 []))),(2,0,(.c (.fn 111 []))),(3,0,(.c (.fn 112 []))),(4,0,(.c (.fn 114 [])))]),iN (.store 5 (.t 0) (.t 1))]) .ret
def ir68:C:=.seq (.reg [iI 0 (.alloc [(5,.nilfn)])]) c68_0
theorem fd68:fd? Tryz.prog 68=some (2,[.cell 0 5],ir68):=by kernel_rfl
def c109_0:C:=.seq (.reg [iI 4 (.mv (.t 0)),iI 2 (.mv (.t 4)),iI 3 (.mv (.c (.sl 0 true [])))]) .ret
def ir109:C:=.seq (.reg [iI 2 (.mv (.c (.sl 0 true []))),iI 3 (.mv (.c (.sl 0 true [])))]) c109_0
theorem fd109:fd? Tryz.prog 109=some (5,[.slot 2,.slot 3],ir109):=by kernel_rfl
def c111_0:C:=.seq (.reg [iI 2 (.mv (.c (.sl 0 true []))),iI 3 (.mv (.c (.sl 0 true [])))]) .ret
def ir111:C:=.seq (.reg [iI 2 (.mv (.c (.sl 0 true []))),iI 3 (.mv (.c (.sl 0 true [])))]) c111_0
theorem fd111:fd? Tryz.prog 111=some (4,[.slot 2,.slot 3],ir111):=by kernel_rfl
def b46_0:C:=.reg [iI 3 (.box (.t 1)),iI 4 (.mv (.c (.sl 6 true [])))]
theorem cb46_0:compC Tryz.prog 123 (sL (bd 0))=some b46_0:=by kernel_rfl
def b46_1:C:=.reg [iI 5 (.mv (.c (.int .i64 0)))]
theorem cb46_1:compC Tryz.prog 123 (sL (bd 1))=some b46_1:=by kernel_rfl
def b46_2:C:=.seq (.reg [iI 19 (.mv (.t 0)),iI 20 (.nilchk (.t 19)),iI 21 (.faddr 3 (.t 20)),iI 22 (.faddr 1 (.t 21)),iI 23 (.load 0 (.t 22)),iI 24 (.len 0 (.t 23)),iI 25 (.bin .gtr (.t 24) (.c (.int .i64 0)))]) c46_1
theorem cb46_2:compC Tryz.prog 123 (sL (bd 2))=some b46_2:=by kernel_rfl
def b46_3:C:=.reg [iI 6 (.mv (.c (.sl 0 true [])))]
theorem cb46_3:compC Tryz.prog 123 (sL (bd 3))=some b46_3:=by kernel_rfl
def b46_4:C:=.seq (.reg [iI 44 (.mv (.t 5)),iI 45 (.bin .neq (.t 44) (.c (.int .i64 1)))]) c46_10
theorem cb46_4:compC Tryz.prog 123 (sL (bd 4))=some b46_4:=by kernel_rfl
def b46_5:C:=.reg [iI 84 (.call (.c (.fn 68 [])) []),iI 85 (.mv (.t 5)),iI 86 (.idx 0 5 (.t 84) (.t 85)),iI 87 (.mv (.t 6)),iI 88 (.call (.t 86) [(.t 87)]),iI 83 (.mv (.t 88)),iI 89 (.ext (.t 83) 0),iI 90 (.ext (.t 83) 1),iI 14 (.mv (.t 89)),iI 15 (.mv (.t 90))]
theorem cb46_5:compC Tryz.prog 123 (sL (bd 5))=some b46_5:=by kernel_rfl
def b46_6:C:=.reg [iI 91 (.mv (.t 0)),iI 92 (.nilchk (.t 91)),iI 93 (.faddr 3 (.t 92)),iI 94 (.faddr 2 (.t 93)),iI 95 (.load 0 (.t 94)),iI 96 (.mv (.t 14)),iI 97 (.mksl 0 2 (.sl 0 true []) [(0,(.t 95)),(1,(.t 96))]),iI 98 (.call (.c (.fn 69 [])) [(.t 97)]),iI 16 (.mv (.t 98))]
theorem cb46_6:compC Tryz.prog 123 (sL (bd 6))=some b46_6:=by kernel_rfl
def b46_7:C:=.reg [iI 99 (.mv (.t 0)),iI 100 (.mv (.t 15)),iI 101 (.nilchk (.t 99)),iI 102 (.faddr 3 (.t 101)),iI 103 (.faddr 2 (.t 102)),iN (.store 0 (.t 103) (.t 100))]
theorem cb46_7:compC Tryz.prog 123 (sL (bd 7))=some b46_7:=by kernel_rfl
def b46_8:C:=.reg [iI 104 (.mv (.t 0)),iI 105 (.mv (.t 0)),iI 106 (.nilchk (.t 105)),iI 107 (.faddr 0 (.t 106)),iI 108 (.faddr 1 (.t 107)),iI 109 (.load 0 (.t 108)),iI 110 (.bin .add (.t 109) (.c (.int .i64 1))),iI 111 (.bin .rem (.t 110) (.c (.int .i64 256))),iI 112 (.nilchk (.t 104)),iI 113 (.faddr 0 (.t 112)),iI 114 (.faddr 1 (.t 113)),iN (.store 0 (.t 114) (.t 111))]
theorem cb46_8:compC Tryz.prog 123 (sL (bd 8))=some b46_8:=by kernel_rfl
end Go.Proofs.YtgjfhplkochbpaaGreat
