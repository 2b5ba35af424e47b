import Derived.Test.YtnaemmpcffnbkaaGreatDoorRM4
import Derived.Shelf.Strings.SlTrimAscii
set_option linter.unusedSimpArgs false
set_option linter.unusedVariables false
namespace Go.Ab
open Go Go.RowKit Go.Proofs Go.Shelf
variable {P:Program}
def trim?(s cs:List UInt8):Option (List UInt8):=if s.length≤9223372036854775807∧2≤cs.length∧cs.length<4294967281∧cs.all (fun b=>decide (b.toNat<128))=true then some (Lib.trimS s cs) else none
structure TrimsS (P:Program) (k:Nat):Prop where
 entered:Entered P k
 run:∀ (s cs:ByteArray) (w:World),s.size≤9223372036854775807→2≤cs.size→cs.size<4294967281→(∀ (j:Nat) b,cs.data.toList[j]? = some b→b.toNat<128) →
  Calls P k #[.string s,.string cs] w fun e w'=>e=.returned (.string ⟨(Lib.trimS s.data.toList cs.data.toList).toArray⟩)∧Below w.heap.size w w'∧w.drawn≤w'.drawn
theorem trims_of{ρ : Ren}(L:Lays.n160 P ρ)(h116:(P.info? (ρ.t 116)).map (fun i=>(i.zero,i.size))=some (some (.agg (Array.replicate 256 (.bool false))),256))(he:Entered P (ρ.f 160)):TrimsS P (ρ.f 160):=by
 refine ⟨he,fun s cs w h1 h2 h3 h4=>?_⟩
 by_cases h0:s.size=0
 ·refine (Any.strings_Trim_empty L s cs w (.inl h0)).mono ?_
  rintro e w' ⟨rfl,rfl⟩
  have hl:s.data.toList=[]:=List.eq_nil_of_length_eq_zero (by rw[← Lib.size_eq];exact h0)
  refine ⟨?_,Below.refl _ _,Nat.le_refl _⟩
  rw[hl]
  congr 2
  rw[← Lib.mk_data s,hl]
  rfl
 ·refine (Any.strings_Trim_set L (zero_of_info h116).1 (zero_of_info h116).2 s cs w h2 (by omega) h1 h3 h4).mono ?_
  rintro e w' ⟨rfl,q,rfl⟩
  refine ⟨rfl,?_,Nat.le_add_right _ _⟩
  have hb:=((Below.refl _ w).alloc (Nat.le_refl _) (.cells (Lib.setCells cs.data.toList) (ρ.t 116))).alloc (by simp) (.cells (Lib.setCells cs.data.toList) (ρ.t 116))
  exact ⟨hb.os,hb.tape,hb.output,hb.size,hb.block⟩
theorem trim_pure{k:Nat}(hc:TrimsS P k){s cs t:List UInt8}(H:trim? s cs=some t):Pure P k [.str s,.str cs] (· = .str t):=by
 unfold trim? at H
 split at H
 case isFalse=>cases H
 rename_i h
 obtain ⟨h1,h2,h3,h4⟩:=h
 injection H with H
 subst H
 refine ⟨hc.entered,⟨_,rfl⟩,fun S w us hS hl hr=>?_⟩
 obtain ⟨us⟩:=us
 match us,hl,hr with
 | [a,b],_,hr =>
  have ha:=hr 0 (.str s) a rfl rfl
  have hb:=hr 1 (.str cs) b rfl rfl
  cases ha
  cases hb
  have z1:(⟨s.toArray⟩:ByteArray).size=s.length:=size_mk s
  have z2:(⟨cs.toArray⟩:ByteArray).size=cs.length:=size_mk cs
  refine Calls.mono (hc.run ⟨s.toArray⟩ ⟨cs.toArray⟩ w (by omega) (by omega) (by omega) (ascii_of_all h4)) ?_
  rintro e w' ⟨rfl,hb,hd⟩
  refine ⟨_,S,.str (Lib.trimS s cs),rfl,rfl,⟨hb.os,hb.tape,hb.output,hb.size,hb.block,fun a ha=>World.frozen?_of_block (hb.block _ ha),.mk hd⟩,Kept.of_block (fun _ _ s=>s) (fun g o s=>hb.block _ (hS g o s)),fun _ _ s=>.inl s,fun g o s=>Nat.lt_of_lt_of_le (hS g o s) hb.size,.inl (.str _)⟩
section
variable {F:CallF}{is:List Ins}{K:St→Prop}{s:Nat→AV}{h:Hp}{d:Option Nat}{α : Type}{r : α}
theorem evTs_aix{A B:Option α}{i z:Int}{m:Nat}(H:(if decide (i=z)=true then A else B)=some r){e n b off:Nat}{k:IntKind}{x y:Od}(hx:x.ev s=.ptr b off)(hy:y.ev s=.int k i)(hz:z=((m:Nat):Int))(hm:m<n)
  (h1:A=some r→evTs F is K ⟨put? s d (.ptr b (off + m * esz e)),h⟩) (h2:B=some r→evTs F (Ins.mk d none (.aiaddr e n x y)::is) K ⟨s,h⟩):evTs F (Ins.mk d none (.aiaddr e n x y)::is) K ⟨s,h⟩:=by
 by_cases hc:i=z
 ·rw[if_pos (decide_eq_true hc)] at H
  subst hc
  subst hz
  refine step rfl ?_ (h1 H)
  simp only[evV,hx,hy]
  rw[if_pos ⟨by omega,by omega⟩,Int.toNat_natCast]
 ·rw[if_neg (by simpa using hc)] at H
  exact h2 H
end
end Go.Ab
