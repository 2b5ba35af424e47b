import Derived.Test.YtgfohogbechkkaaBM3
set_option linter.unusedSimpArgs false
set_option linter.unusedVariables false
namespace Go.Ab
open Go
def mk{κ ν : Type}(ek : κ → AV)(m:List (κ × ν)):List AV:=m.map fun p=>ek p.1
def mv{κ ν : Type}(ev : ν → AV)(m:List (κ × ν)):List AV:=m.map fun p=>ev p.2
class IsKey {κ : Type} [DecidableEq κ] (kd:outParam Nat) (ek : κ → AV):Prop where
 key:∀ x,isKey kd (ek x)=true
 eq:∀ x y,eqKind kd (ek x) (ek y)=some (decide (x=y))
instance:IsKey 1 AV.str:=⟨fun _=>rfl,fun x y=>by simp only[eqKind];exact congrArg some (Bool.eq_iff_iff.2 (by simp))⟩
instance (k:IntKind):IsKey 0 (AV.int k):=⟨fun _=>rfl,fun x y=>by simp only[eqKind,if_true];exact congrArg some (Bool.eq_iff_iff.2 (by simp))⟩
def eM{κ ν : Type}(ek : κ → AV)(ev : ν → AV)(m:List (κ × ν)):AV:=.mp (mk ek m) (mv ev m)
instance {κ ν : Type}(ek : κ → AV)(ev : ν → AV):IsEnc 0 (eM ek ev):=⟨fun _=>rfl,fun _=>rfl,fun _=>rfl⟩
section
variable {F:CallF}{is:List Ins}{K:St→Prop}{s:Nat→AV}{h:Hp}{d:Option Nat}{α : Type}{r : α}
class IsOne {τ : Type}(enc : τ → AV):Prop where
 unf:∀ n x,Ab.unf n (enc x)=enc x
instance (k:IntKind):IsOne (AV.int k):=⟨fun n _=>by cases n<;>rfl⟩
instance:IsOne AV.bool:=⟨fun n _=>by cases n<;>rfl⟩
instance:IsOne AV.str:=⟨fun n _=>by cases n<;>rfl⟩
end
end Go.Ab
