import Derived.Test.YtnaemmpcffnbkaaGreatDoorRM6
set_option linter.unusedSimpArgs false
set_option linter.unusedVariables false
namespace Go.Ab
open Go
def mk?{τ : Type}(n:Nat)(d : τ):Option (List τ):=some (List.replicate n d)
theorem evTs_mks{F:CallF}{is:List Ins}{K:St→Prop}{s:Nat→AV}{h:Hp}{d:Option Nat}{α τ : Type}{r : α}{N:Nat}{d0 : τ}{kont:List τ → Option α}(H:(mk? N d0).bind kont=some r){enc : τ → AV}{e bytes:Nat}{z:AV}{n:Int}(hz:enc d0=z)(hn:n=((N:Nat):Int))(h0:decide (0<N∧N * bytes≤room∧N≤maxStr)=true)
  (hk:∀ y,kont y=some r→evTs F is K ⟨put? s d (.row e h.length 0 y.length),h++[.els e (y.map enc)]⟩):evTs F (Ins.mk d none (.appz e bytes z (.c (.sl e true [])) (.c (.int .i64 n)))::is) K ⟨s,h⟩:=by
 obtain ⟨h1,h2,h3⟩:=of_decide_eq_true h0
 subst hz;subst hn
 have hk:=hk (List.replicate N d0) H
 refine step rfl ?_ hk
 simp only[evV,Od.ev]
 rw[if_pos (by simp;omega)]
 simp only[appendL,Int.toNat_natCast]
 rw[if_pos (by simp[h2,h3])]
 simp
end Go.Ab
