import Derived.Test.YtgjfhplkochbpaaGreatAM4
set_option linter.unusedSimpArgs false
set_option linter.unusedVariables false
namespace Go.Ab
open Go
variable {P:Program}
section
variable {τ : Type}
end
def isT(e:Nat):C:=.reg [iI 18 (.mv (.t 9)),iI 19 (.mv (.t 1)),iI 20 (.bin .gtr (.t 18) (.t 19)),iI 21 (.mv (.t 20)),iG (some 22) 21 true (.mv (.t 3)),iG (some 23) 21 true (.mv (.t 0)),iG (some 24) 21 true (.mv (.t 9)),iG (some 25) 21 true (.iaddr e (.t 23) (.t 24)),iG (some 26) 21 true (.load e (.t 25)),iG (some 27) 21 true (.mv (.t 0)),iG (some 28) 21 true (.mv (.t 9)),iG (some 29) 21 true (.bin .sub (.t 28) (.c (.int .i64 1))),iG (some 30) 21 true (.iaddr e (.t 27) (.t 29)),iG (some 31) 21 true (.load e (.t 30)),iG (some 32) 21 true (.call (.t 22) [(.t 26),(.t 31)]),iG (some 33) 21 true (.bin .lss (.t 32) (.c (.int .i64 0))),iI 34 (.pick (.t 21) (.t 33) (.c (.bool false)))]
def isS(e:Nat):C:=.reg [iI 37 (.mv (.t 0)),iI 38 (.mv (.t 9)),iI 39 (.mv (.t 0)),iI 40 (.mv (.t 9)),iI 41 (.bin .sub (.t 40) (.c (.int .i64 1))),iI 42 (.mv (.t 0)),iI 43 (.mv (.t 9)),iI 44 (.bin .sub (.t 43) (.c (.int .i64 1))),iI 45 (.iaddr e (.t 42) (.t 44)),iI 46 (.load e (.t 45)),iI 47 (.mv (.t 0)),iI 48 (.mv (.t 9)),iI 49 (.iaddr e (.t 47) (.t 48)),iI 50 (.load e (.t 49)),iI 51 (.iaddr e (.t 37) (.t 38)),iN (.store e (.t 51) (.t 46)),iI 52 (.iaddr e (.t 39) (.t 41)),iN (.store e (.t 52) (.t 50))]
def isI(e:Nat):C:=.seq (.seq (isT e) (.cond (.t 34) .skip (.exit 2))) (.seq (.block 3 (isS e)) (.reg [iI 35 (.mv (.t 9)),iI 36 (.bin .sub (.t 35) (.c (.int .i64 1))),iI 9 (.mv (.t 36))]))
def isO(e:Nat):C:=.seq (.seq (.reg [iI 12 (.mv (.t 8)),iI 13 (.mv (.t 2)),iI 14 (.bin .lss (.t 12) (.t 13))]) (.cond (.t 14) .skip (.exit 0))) (.seq (.block 1 (.seq (.reg [iI 17 (.mv (.t 8)),iI 9 (.mv (.t 17))]) (.block 2 (.loop (isI e))))) (.reg [iI 15 (.mv (.t 8)),iI 16 (.bin .add (.t 15) (.c (.int .i64 1))),iI 8 (.mv (.t 16))]))
def isC(e:Nat):C:=.seq (.reg [iI 10 (.mv (.t 1)),iI 11 (.bin .add (.t 10) (.c (.int .i64 1))),iI 8 (.mv (.t 11))]) (.block 0 (.loop (isO e)))
section
variable {n lo:Nat}{Q:Ex→St→Prop}{τ : Type}{enc : τ → AV}{e:Nat}[IsEnc e enc]
end
def pdHead:C→Option (List Ins×List Ins×List Ins×List Ins×Od×List Ins)
 | .seq (.reg a) (.seq (.reg b) (.block 0 (.loop (.block 1 (.seq (.reg c) (.seq (.seq (.reg d) (.cond x (.seq (.reg f) .ret) .skip)) _))))))=>some (a,b,c,d,x,f)
 | _=>none
def pdC(is:Nat):List Ins×List Ins×List Ins×List Ins×Od×List Ins :=
 ([iI 10 (.mv (.c (.bool true)))],[iI 11 (.mv (.c (.bool true)))],[iI 21 (.mv (.t 2)),iI 22 (.mv (.t 1)),iI 23 (.bin .sub (.t 21) (.t 22)),iI 12 (.mv (.t 23))],[iI 24 (.mv (.t 12)),iI 25 (.bin .leq (.t 24) (.c (.int .i64 12)))],.t 25,
  [iI 26 (.mv (.t 0)),iI 27 (.mv (.t 1)),iI 28 (.mv (.t 2)),iI 29 (.mv (.t 4)),iI 30 (.call (.c (.fn is [])) [(.t 26),(.t 27),(.t 28),(.t 29)])])
def srfC(bl pd:Nat):C:=.seq (.reg [iI 5 (.mv (.t 0)),iI 6 (.len 0 (.t 5)),iI 4 (.mv (.t 6))]) (.reg [iI 7 (.mv (.t 0)),iI 8 (.mv (.t 4)),iI 9 (.mv (.t 4)),iI 10 (.cint .u64 (.t 9)),iI 11 (.call (.c (.fn bl [])) [(.t 10)]),iI 12 (.mv (.t 1)),iI 13 (.call (.c (.fn pd [])) [(.t 7),(.c (.int .i64 0)),(.t 8),(.t 11),(.t 12)])])
structure Sorts (P:Program) (e k pd is bl:Nat):Prop where
 srf:fd? P k=some (14,[],srfC bl pd)
 pdq:(fd? P pd).map (fun q=>(q.1,q.2.1,pdHead q.2.2))=some (148,[],some (pdC is))
 ins:fd? P is=some (53,[],isC e)
 len:∀ n:Nat,n≤12→∃ r:Int,Pure P bl [.int .u64 (n:Int)] (· = .int .i64 r)
section
variable {n lo:Nat}{Q:Ex→St→Prop}{τ : Type}{enc : τ → AV}{e:Nat}[IsEnc e enc]
end
end Go.Ab
namespace Go.Ab
set_option linter.defProp false in
def nq:=And.intro nc @wrapBits_eq
set_option linter.defProp false in
def nqs:=And.intro ncs @wrapBits_eq
set_option linter.defProp false in
def rrm:=And.intro rrl (And.intro @Option.map_some.{0,0} (And.intro @vm (And.intro @List.idxOf?_cons.{0} (And.intro @List.idxOf?_nil.{0} (And.intro @beq_self_eq_true.{0} (And.intro @Option.map_none.{0,0} (And.intro @List.getD_cons_zero.{0} (And.intro @List.getD_cons_succ.{0} nq))))))))
theorem Ends2.fin{rs:List Rv}{R:AV→Prop}{Q:Ex→St→Prop}{st:St}{v:AV}(hQ:Ends2 rs none R Q)(h1:resVs st rs=some v:=by simp only[resVs,omap,resV,↓wk,↓wl,nq,evV,↓reduceIte,sevalprocAttr];rfl)(h2:plain deep v=true:=by rfl)
  (h3:R (unr v):=by first | exact Or.inl rfl | exact Or.inr rfl):Q .ret st:=hQ _ _ _ _ (.inr rfl) h1 (hand_plain h2) h3
theorem Le.tq{lo:Nat}{st st2:St}(n:Nat)(ks live:List Nat)(e:Ab.restrict ks live st=st2)(hn:lo=n:=by rfl)(hnd:ks.Nodup:=by decide)(hlo:∀ b,b<n→ks[b]? = some b:=by decide):Le lo st st2:=Le.toL n hn ks live hnd hlo e
theorem Le.tz{st st2:St}(ks live:List Nat)(e:Ab.restrict ks live st=st2)(hnd:ks.Nodup:=by decide):Le 0 st st2:=Le.none ks live hnd e
end Go.Ab
