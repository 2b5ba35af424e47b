/-
  The law SelectionParams of the seat holds for every input: called with any values of its parameter types,the function returns true,and its arguments read as before.
  Conditions: none.
-/
import Derived.Test.YtnaemmpcffnbkaaGreatDoorHPP
import Derived.Test.YtnaemmpcffnbkaaGreatDoorRows
import Derived.WalkKit
import Derived.ProofKit
import Derived.OpenShut
import Derived.Test.YtnaemmpcffnbkaaGreatDoorTie
import Derived.Test.YtnaemmpcffnbkaaGreatDoorCards
import Derived.LaidMore
import Derived.Lay
import Derived.SevenTiedAt
import Derived.Stop.Joined
import Derived.Deep.DeepHandedRow
namespace Go.Proofs.YtnaemmpcffnbkaaGreatDoor.selectionParams
open Go Go.ChangeShapes Go.WideShapes Go.ChangeAt Go.RowKit Go.Ab Go.WideElems
set_option linter.unusedVariables false

theorem own:ownKnob Tryz.prog.godebug=none:=by kernel_rfl
theorem laid:laidOutB Tryz.prog=true:=by kernel_rfl
theorem op3:Opens Tryz.prog 3 0 (AV.int .i64) (fun n=>(Lit.int .i64 n).wf=true):=opens_int Tryz.underlying3 (by kernel_rfl)
theorem op182:Opens Tryz.prog 182 2 eApiPoint (fun x=>(fun n=>(Lit.int .i64 n).wf=true) x.fX∧(fun n=>(Lit.int .i64 n).wf=true) x.fY):=Opens.struct Tryz.underlying182 (by kernel_rfl) (by decide) fun encH W n cs xs hlt hl hn hf hw=>by
  have hl:cs.length=2:=hl
  rcases cs with _ | ⟨c0,_ | ⟨c1,_ | ⟨_,_⟩⟩⟩
  all_goals first | (simp only[List.length_cons,List.length_nil] at hl;omega) | skip
  obtain ⟨x0,w0,r0⟩:=op3.field hlt hn hf hw 0 rfl rfl rfl
  obtain ⟨x1,w1,r1⟩:=op3.field hlt hn hf hw 1 rfl rfl rfl
  exact ⟨⟨x0,x1⟩,⟨w0,w1⟩,RIL.append r0 (r1)⟩
theorem op148:Opens Tryz.prog 148 0 (eL 2 eApiPoint) (fun xs=>xs.length * 16≤140737488351232∧∀ x ∈ xs,(fun x=>(fun n=>(Lit.int .i64 n).wf=true) x.fX∧(fun n=>(Lit.int .i64 n).wf=true) x.fY) x):=opens_sl op182 Tryz.underlying148 (by kernel_rfl) (B:=16) (by kernel_rfl)
theorem op35:Opens Tryz.prog 35 0 (eL 0 (eL 2 eApiPoint)) (fun xs=>xs.length * 24≤140737488351232∧∀ x ∈ xs,(fun xs=>xs.length * 16≤140737488351232∧∀ x ∈ xs,(fun x=>(fun n=>(Lit.int .i64 n).wf=true) x.fX∧(fun n=>(Lit.int .i64 n).wf=true) x.fY) x) x):=opens_sl op148 Tryz.underlying35 (by kernel_rfl) (B:=24) (by kernel_rfl)
theorem op9:Opens Tryz.prog 9 0 AV.str (fun s=>s.length≤140737488351232):=opens_str Tryz.underlying9 (by kernel_rfl)
theorem op4:Opens Tryz.prog 4 0 AV.bool (fun _=>True):=opens_bool Tryz.underlying4 (by kernel_rfl)
theorem op282:Opens Tryz.prog 282 3 eApiSlot (fun x=>(fun s=>s.length≤140737488351232) x.fName∧(fun n=>(Lit.int .i64 n).wf=true) x.fFrom∧(fun n=>(Lit.int .i64 n).wf=true) x.fTo):=Opens.struct Tryz.underlying282 (by kernel_rfl) (by decide) fun encH W n cs xs hlt hl hn hf hw=>by
  have hl:cs.length=3:=hl
  rcases cs with _ | ⟨c0,_ | ⟨c1,_ | ⟨c2,_ | ⟨_,_⟩⟩⟩⟩
  all_goals first | (simp only[List.length_cons,List.length_nil] at hl;omega) | skip
  obtain ⟨x0,w0,r0⟩:=op9.field hlt hn hf hw 0 rfl rfl rfl
  obtain ⟨x1,w1,r1⟩:=op3.field hlt hn hf hw 1 rfl rfl rfl
  obtain ⟨x2,w2,r2⟩:=op3.field hlt hn hf hw 2 rfl rfl rfl
  exact ⟨⟨x0,x1,x2⟩,⟨w0,w1,w2⟩,RIL.append r0 (RIL.append r1 (r2))⟩
theorem op136:Opens Tryz.prog 136 0 (eL 3 eApiSlot) (fun xs=>xs.length * 32≤140737488351232∧∀ x ∈ xs,(fun x=>(fun s=>s.length≤140737488351232) x.fName∧(fun n=>(Lit.int .i64 n).wf=true) x.fFrom∧(fun n=>(Lit.int .i64 n).wf=true) x.fTo) x):=opens_sl op282 Tryz.underlying136 (by kernel_rfl) (B:=32) (by kernel_rfl)
theorem op138:Opens Tryz.prog 138 10 eApiFeature (fun x=>(fun n=>(Lit.int .i64 n).wf=true) x.fAttr∧(fun n=>(Lit.int .i64 n).wf=true) x.fBits∧(fun n=>(Lit.int .i64 n).wf=true) x.fCoarse∧(fun n=>(Lit.int .i64 n).wf=true) x.fFine∧(fun n=>(Lit.int .i64 n).wf=true) x.fCurve∧(fun n=>(Lit.int .i64 n).wf=true) x.fHome∧(fun n=>(Lit.int .i64 n).wf=true) x.fLow∧(fun n=>(Lit.int .i64 n).wf=true) x.fHigh∧(fun _=>True) x.fSnap∧(fun xs=>xs.length * 32≤140737488351232∧∀ x ∈ xs,(fun x=>(fun s=>s.length≤140737488351232) x.fName∧(fun n=>(Lit.int .i64 n).wf=true) x.fFrom∧(fun n=>(Lit.int .i64 n).wf=true) x.fTo) x) x.fWheel):=Opens.struct Tryz.underlying138 (by kernel_rfl) (by decide) fun encH W n cs xs hlt hl hn hf hw=>by
  have hl:cs.length=10:=hl
  rcases cs with _ | ⟨c0,_ | ⟨c1,_ | ⟨c2,_ | ⟨c3,_ | ⟨c4,_ | ⟨c5,_ | ⟨c6,_ | ⟨c7,_ | ⟨c8,_ | ⟨c9,_ | ⟨_,_⟩⟩⟩⟩⟩⟩⟩⟩⟩⟩⟩
  all_goals first | (simp only[List.length_cons,List.length_nil] at hl;omega) | skip
  obtain ⟨x0,w0,r0⟩:=op3.field hlt hn hf hw 0 rfl rfl rfl
  obtain ⟨x1,w1,r1⟩:=op3.field hlt hn hf hw 1 rfl rfl rfl
  obtain ⟨x2,w2,r2⟩:=op3.field hlt hn hf hw 2 rfl rfl rfl
  obtain ⟨x3,w3,r3⟩:=op3.field hlt hn hf hw 3 rfl rfl rfl
  obtain ⟨x4,w4,r4⟩:=op3.field hlt hn hf hw 4 rfl rfl rfl
  obtain ⟨x5,w5,r5⟩:=op3.field hlt hn hf hw 5 rfl rfl rfl
  obtain ⟨x6,w6,r6⟩:=op3.field hlt hn hf hw 6 rfl rfl rfl
  obtain ⟨x7,w7,r7⟩:=op3.field hlt hn hf hw 7 rfl rfl rfl
  obtain ⟨x8,w8,r8⟩:=op4.field hlt hn hf hw 8 rfl rfl rfl
  obtain ⟨x9,w9,r9⟩:=op136.field hlt hn hf hw 9 rfl rfl rfl
  exact ⟨⟨x0,x1,x2,x3,x4,x5,x6,x7,x8,x9⟩,⟨w0,w1,w2,w3,w4,w5,w6,w7,w8,w9⟩,RIL.append r0 (RIL.append r1 (RIL.append r2 (RIL.append r3 (RIL.append r4 (RIL.append r5 (RIL.append r6 (RIL.append r7 (RIL.append r8 (r9)))))))))⟩
theorem op106:Opens Tryz.prog 106 0 (eL 10 eApiFeature) (fun xs=>xs.length * 96≤140737488351232∧∀ x ∈ xs,(fun x=>(fun n=>(Lit.int .i64 n).wf=true) x.fAttr∧(fun n=>(Lit.int .i64 n).wf=true) x.fBits∧(fun n=>(Lit.int .i64 n).wf=true) x.fCoarse∧(fun n=>(Lit.int .i64 n).wf=true) x.fFine∧(fun n=>(Lit.int .i64 n).wf=true) x.fCurve∧(fun n=>(Lit.int .i64 n).wf=true) x.fHome∧(fun n=>(Lit.int .i64 n).wf=true) x.fLow∧(fun n=>(Lit.int .i64 n).wf=true) x.fHigh∧(fun _=>True) x.fSnap∧(fun xs=>xs.length * 32≤140737488351232∧∀ x ∈ xs,(fun x=>(fun s=>s.length≤140737488351232) x.fName∧(fun n=>(Lit.int .i64 n).wf=true) x.fFrom∧(fun n=>(Lit.int .i64 n).wf=true) x.fTo) x) x.fWheel) x):=opens_sl op138 Tryz.underlying106 (by kernel_rfl) (B:=96) (by kernel_rfl)
theorem op108:Opens Tryz.prog 108 4 eApiProfile (fun x=>(fun s=>s.length≤140737488351232) x.fName∧(fun n=>(Lit.int .i64 n).wf=true) x.fFootprint∧(fun n=>(Lit.int .i64 n).wf=true) x.fWatts∧(fun xs=>xs.length * 96≤140737488351232∧∀ x ∈ xs,(fun x=>(fun n=>(Lit.int .i64 n).wf=true) x.fAttr∧(fun n=>(Lit.int .i64 n).wf=true) x.fBits∧(fun n=>(Lit.int .i64 n).wf=true) x.fCoarse∧(fun n=>(Lit.int .i64 n).wf=true) x.fFine∧(fun n=>(Lit.int .i64 n).wf=true) x.fCurve∧(fun n=>(Lit.int .i64 n).wf=true) x.fHome∧(fun n=>(Lit.int .i64 n).wf=true) x.fLow∧(fun n=>(Lit.int .i64 n).wf=true) x.fHigh∧(fun _=>True) x.fSnap∧(fun xs=>xs.length * 32≤140737488351232∧∀ x ∈ xs,(fun x=>(fun s=>s.length≤140737488351232) x.fName∧(fun n=>(Lit.int .i64 n).wf=true) x.fFrom∧(fun n=>(Lit.int .i64 n).wf=true) x.fTo) x) x.fWheel) x) x.fFeatures):=Opens.struct Tryz.underlying108 (by kernel_rfl) (by decide) fun encH W n cs xs hlt hl hn hf hw=>by
  have hl:cs.length=4:=hl
  rcases cs with _ | ⟨c0,_ | ⟨c1,_ | ⟨c2,_ | ⟨c3,_ | ⟨_,_⟩⟩⟩⟩⟩
  all_goals first | (simp only[List.length_cons,List.length_nil] at hl;omega) | skip
  obtain ⟨x0,w0,r0⟩:=op9.field hlt hn hf hw 0 rfl rfl rfl
  obtain ⟨x1,w1,r1⟩:=op3.field hlt hn hf hw 1 rfl rfl rfl
  obtain ⟨x2,w2,r2⟩:=op3.field hlt hn hf hw 2 rfl rfl rfl
  obtain ⟨x3,w3,r3⟩:=op106.field hlt hn hf hw 3 rfl rfl rfl
  exact ⟨⟨x0,x1,x2,x3⟩,⟨w0,w1,w2,w3⟩,RIL.append r0 (RIL.append r1 (RIL.append r2 (r3)))⟩
theorem op36:Opens Tryz.prog 36 0 (eL 4 eApiProfile) (fun xs=>xs.length * 56≤140737488351232∧∀ x ∈ xs,(fun x=>(fun s=>s.length≤140737488351232) x.fName∧(fun n=>(Lit.int .i64 n).wf=true) x.fFootprint∧(fun n=>(Lit.int .i64 n).wf=true) x.fWatts∧(fun xs=>xs.length * 96≤140737488351232∧∀ x ∈ xs,(fun x=>(fun n=>(Lit.int .i64 n).wf=true) x.fAttr∧(fun n=>(Lit.int .i64 n).wf=true) x.fBits∧(fun n=>(Lit.int .i64 n).wf=true) x.fCoarse∧(fun n=>(Lit.int .i64 n).wf=true) x.fFine∧(fun n=>(Lit.int .i64 n).wf=true) x.fCurve∧(fun n=>(Lit.int .i64 n).wf=true) x.fHome∧(fun n=>(Lit.int .i64 n).wf=true) x.fLow∧(fun n=>(Lit.int .i64 n).wf=true) x.fHigh∧(fun _=>True) x.fSnap∧(fun xs=>xs.length * 32≤140737488351232∧∀ x ∈ xs,(fun x=>(fun s=>s.length≤140737488351232) x.fName∧(fun n=>(Lit.int .i64 n).wf=true) x.fFrom∧(fun n=>(Lit.int .i64 n).wf=true) x.fTo) x) x.fWheel) x) x.fFeatures) x):=opens_sl op108 Tryz.underlying36 (by kernel_rfl) (B:=56) (by kernel_rfl)
theorem op141:Opens Tryz.prog 141 7 eApiFixture (fun x=>(fun n=>(Lit.int .i64 n).wf=true) x.fChannel∧(fun n=>(Lit.int .i64 n).wf=true) x.fPart∧(fun s=>s.length≤140737488351232) x.fProfile∧(fun n=>(Lit.int .i64 n).wf=true) x.fUniverse∧(fun n=>(Lit.int .i64 n).wf=true) x.fAddress∧(fun n=>(Lit.int .i64 n).wf=true) x.fPhase∧(fun s=>s.length≤140737488351232) x.fCable):=Opens.struct Tryz.underlying141 (by kernel_rfl) (by decide) fun encH W n cs xs hlt hl hn hf hw=>by
  have hl:cs.length=7:=hl
  rcases cs with _ | ⟨c0,_ | ⟨c1,_ | ⟨c2,_ | ⟨c3,_ | ⟨c4,_ | ⟨c5,_ | ⟨c6,_ | ⟨_,_⟩⟩⟩⟩⟩⟩⟩⟩
  all_goals first | (simp only[List.length_cons,List.length_nil] at hl;omega) | skip
  obtain ⟨x0,w0,r0⟩:=op3.field hlt hn hf hw 0 rfl rfl rfl
  obtain ⟨x1,w1,r1⟩:=op3.field hlt hn hf hw 1 rfl rfl rfl
  obtain ⟨x2,w2,r2⟩:=op9.field hlt hn hf hw 2 rfl rfl rfl
  obtain ⟨x3,w3,r3⟩:=op3.field hlt hn hf hw 3 rfl rfl rfl
  obtain ⟨x4,w4,r4⟩:=op3.field hlt hn hf hw 4 rfl rfl rfl
  obtain ⟨x5,w5,r5⟩:=op3.field hlt hn hf hw 5 rfl rfl rfl
  obtain ⟨x6,w6,r6⟩:=op9.field hlt hn hf hw 6 rfl rfl rfl
  exact ⟨⟨x0,x1,x2,x3,x4,x5,x6⟩,⟨w0,w1,w2,w3,w4,w5,w6⟩,RIL.append r0 (RIL.append r1 (RIL.append r2 (RIL.append r3 (RIL.append r4 (RIL.append r5 (r6))))))⟩
theorem op37:Opens Tryz.prog 37 0 (eL 7 eApiFixture) (fun xs=>xs.length * 72≤140737488351232∧∀ x ∈ xs,(fun x=>(fun n=>(Lit.int .i64 n).wf=true) x.fChannel∧(fun n=>(Lit.int .i64 n).wf=true) x.fPart∧(fun s=>s.length≤140737488351232) x.fProfile∧(fun n=>(Lit.int .i64 n).wf=true) x.fUniverse∧(fun n=>(Lit.int .i64 n).wf=true) x.fAddress∧(fun n=>(Lit.int .i64 n).wf=true) x.fPhase∧(fun s=>s.length≤140737488351232) x.fCable) x):=opens_sl op141 Tryz.underlying37 (by kernel_rfl) (B:=72) (by kernel_rfl)
theorem op39:Opens Tryz.prog 39 3 eUniverseRig (fun x=>(fun xs=>xs.length * 24≤140737488351232∧∀ x ∈ xs,(fun xs=>xs.length * 16≤140737488351232∧∀ x ∈ xs,(fun x=>(fun n=>(Lit.int .i64 n).wf=true) x.fX∧(fun n=>(Lit.int .i64 n).wf=true) x.fY) x) x) x.fCurves∧(fun xs=>xs.length * 56≤140737488351232∧∀ x ∈ xs,(fun x=>(fun s=>s.length≤140737488351232) x.fName∧(fun n=>(Lit.int .i64 n).wf=true) x.fFootprint∧(fun n=>(Lit.int .i64 n).wf=true) x.fWatts∧(fun xs=>xs.length * 96≤140737488351232∧∀ x ∈ xs,(fun x=>(fun n=>(Lit.int .i64 n).wf=true) x.fAttr∧(fun n=>(Lit.int .i64 n).wf=true) x.fBits∧(fun n=>(Lit.int .i64 n).wf=true) x.fCoarse∧(fun n=>(Lit.int .i64 n).wf=true) x.fFine∧(fun n=>(Lit.int .i64 n).wf=true) x.fCurve∧(fun n=>(Lit.int .i64 n).wf=true) x.fHome∧(fun n=>(Lit.int .i64 n).wf=true) x.fLow∧(fun n=>(Lit.int .i64 n).wf=true) x.fHigh∧(fun _=>True) x.fSnap∧(fun xs=>xs.length * 32≤140737488351232∧∀ x ∈ xs,(fun x=>(fun s=>s.length≤140737488351232) x.fName∧(fun n=>(Lit.int .i64 n).wf=true) x.fFrom∧(fun n=>(Lit.int .i64 n).wf=true) x.fTo) x) x.fWheel) x) x.fFeatures) x) x.fProfiles∧(fun xs=>xs.length * 72≤140737488351232∧∀ x ∈ xs,(fun x=>(fun n=>(Lit.int .i64 n).wf=true) x.fChannel∧(fun n=>(Lit.int .i64 n).wf=true) x.fPart∧(fun s=>s.length≤140737488351232) x.fProfile∧(fun n=>(Lit.int .i64 n).wf=true) x.fUniverse∧(fun n=>(Lit.int .i64 n).wf=true) x.fAddress∧(fun n=>(Lit.int .i64 n).wf=true) x.fPhase∧(fun s=>s.length≤140737488351232) x.fCable) x) x.fFixtures):=Opens.struct Tryz.underlying39 (by kernel_rfl) (by decide) fun encH W n cs xs hlt hl hn hf hw=>by
  have hl:cs.length=3:=hl
  rcases cs with _ | ⟨c0,_ | ⟨c1,_ | ⟨c2,_ | ⟨_,_⟩⟩⟩⟩
  all_goals first | (simp only[List.length_cons,List.length_nil] at hl;omega) | skip
  obtain ⟨x0,w0,r0⟩:=op35.field hlt hn hf hw 0 rfl rfl rfl
  obtain ⟨x1,w1,r1⟩:=op36.field hlt hn hf hw 1 rfl rfl rfl
  obtain ⟨x2,w2,r2⟩:=op37.field hlt hn hf hw 2 rfl rfl rfl
  exact ⟨⟨x0,x1,x2⟩,⟨w0,w1,w2⟩,RIL.append r0 (RIL.append r1 (r2))⟩
theorem op63:Opens Tryz.prog 63 4 eApiSelect (fun x=>(fun n=>(Lit.int .i64 n).wf=true) x.fOp∧(fun n=>(Lit.int .i64 n).wf=true) x.fGroup∧(fun n=>(Lit.int .i64 n).wf=true) x.fFrom∧(fun n=>(Lit.int .i64 n).wf=true) x.fTo):=Opens.struct Tryz.underlying63 (by kernel_rfl) (by decide) fun encH W n cs xs hlt hl hn hf hw=>by
  have hl:cs.length=4:=hl
  rcases cs with _ | ⟨c0,_ | ⟨c1,_ | ⟨c2,_ | ⟨c3,_ | ⟨_,_⟩⟩⟩⟩⟩
  all_goals first | (simp only[List.length_cons,List.length_nil] at hl;omega) | skip
  obtain ⟨x0,w0,r0⟩:=op3.field hlt hn hf hw 0 rfl rfl rfl
  obtain ⟨x1,w1,r1⟩:=op3.field hlt hn hf hw 1 rfl rfl rfl
  obtain ⟨x2,w2,r2⟩:=op3.field hlt hn hf hw 2 rfl rfl rfl
  obtain ⟨x3,w3,r3⟩:=op3.field hlt hn hf hw 3 rfl rfl rfl
  exact ⟨⟨x0,x1,x2,x3⟩,⟨w0,w1,w2,w3⟩,RIL.append r0 (RIL.append r1 (RIL.append r2 (r3)))⟩
theorem op22:Opens Tryz.prog 22 0 (eL 4 eApiSelect) (fun xs=>xs.length * 32≤140737488351232∧∀ x ∈ xs,(fun x=>(fun n=>(Lit.int .i64 n).wf=true) x.fOp∧(fun n=>(Lit.int .i64 n).wf=true) x.fGroup∧(fun n=>(Lit.int .i64 n).wf=true) x.fFrom∧(fun n=>(Lit.int .i64 n).wf=true) x.fTo) x):=opens_sl op63 Tryz.underlying22 (by kernel_rfl) (B:=32) (by kernel_rfl)
theorem op26:Opens Tryz.prog 26 0 (eL 0 (AV.int .i64)) (fun xs=>xs.length * 8≤140737488351232∧∀ x ∈ xs,(fun n=>(Lit.int .i64 n).wf=true) x):=opens_sl op3 Tryz.underlying26 (by kernel_rfl) (B:=8) (by kernel_rfl)
theorem op91:Opens Tryz.prog 91 2 eApiGroup (fun x=>(fun n=>(Lit.int .i64 n).wf=true) x.fNumber∧(fun xs=>xs.length * 8≤140737488351232∧∀ x ∈ xs,(fun n=>(Lit.int .i64 n).wf=true) x) x.fChannels):=Opens.struct Tryz.underlying91 (by kernel_rfl) (by decide) fun encH W n cs xs hlt hl hn hf hw=>by
  have hl:cs.length=2:=hl
  rcases cs with _ | ⟨c0,_ | ⟨c1,_ | ⟨_,_⟩⟩⟩
  all_goals first | (simp only[List.length_cons,List.length_nil] at hl;omega) | skip
  obtain ⟨x0,w0,r0⟩:=op3.field hlt hn hf hw 0 rfl rfl rfl
  obtain ⟨x1,w1,r1⟩:=op26.field hlt hn hf hw 1 rfl rfl rfl
  exact ⟨⟨x0,x1⟩,⟨w0,w1⟩,RIL.append r0 (r1)⟩
theorem op23:Opens Tryz.prog 23 0 (eL 2 eApiGroup) (fun xs=>xs.length * 32≤140737488351232∧∀ x ∈ xs,(fun x=>(fun n=>(Lit.int .i64 n).wf=true) x.fNumber∧(fun xs=>xs.length * 8≤140737488351232∧∀ x ∈ xs,(fun n=>(Lit.int .i64 n).wf=true) x) x.fChannels) x):=opens_sl op91 Tryz.underlying23 (by kernel_rfl) (B:=32) (by kernel_rfl)
theorem op46:Opens Tryz.prog 46 3 eLaw41Choice (fun x=>(fun xs=>xs.length * 32≤140737488351232∧∀ x ∈ xs,(fun x=>(fun n=>(Lit.int .i64 n).wf=true) x.fOp∧(fun n=>(Lit.int .i64 n).wf=true) x.fGroup∧(fun n=>(Lit.int .i64 n).wf=true) x.fFrom∧(fun n=>(Lit.int .i64 n).wf=true) x.fTo) x) x.fSelect∧(fun xs=>xs.length * 32≤140737488351232∧∀ x ∈ xs,(fun x=>(fun n=>(Lit.int .i64 n).wf=true) x.fNumber∧(fun xs=>xs.length * 8≤140737488351232∧∀ x ∈ xs,(fun n=>(Lit.int .i64 n).wf=true) x) x.fChannels) x) x.fGroups∧(fun n=>(Lit.int .i64 n).wf=true) x.fKind):=Opens.struct Tryz.underlying46 (by kernel_rfl) (by decide) fun encH W n cs xs hlt hl hn hf hw=>by
  have hl:cs.length=3:=hl
  rcases cs with _ | ⟨c0,_ | ⟨c1,_ | ⟨c2,_ | ⟨_,_⟩⟩⟩⟩
  all_goals first | (simp only[List.length_cons,List.length_nil] at hl;omega) | skip
  obtain ⟨x0,w0,r0⟩:=op22.field hlt hn hf hw 0 rfl rfl rfl
  obtain ⟨x1,w1,r1⟩:=op23.field hlt hn hf hw 1 rfl rfl rfl
  obtain ⟨x2,w2,r2⟩:=op3.field hlt hn hf hw 2 rfl rfl rfl
  exact ⟨⟨x0,x1,x2⟩,⟨w0,w1,w2⟩,RIL.append r0 (RIL.append r1 (r2))⟩
set_option maxRecDepth 100000 in
theorem lifted(os:Os)(started:os.Started)(H:Type)(enc:TypeId×Value→H) :
    ReturnsInHanded {} Tryz.checked os 5 .any (fun w args=>(Rows.selectionParamsSpec.pre enc Tryz.prog Tryz.f5 Rows.selectionParamsRow.domain false w args∧laidMetH Tryz.prog Rows.selectionParamsRow.laid w)∧sizedMet enc Tryz.prog Tryz.f5 (OpenSpec.ofChange Rows.selectionParamsSpec) false w args) (Rows.selectionParamsSpec.post enc Tryz.prog Tryz.f5 false true false false):=by
  refine returnsInHanded_of_change_and (C:=Tryz.checked) (X:=fun w _=>laidMetH Tryz.prog Rows.selectionParamsRow.laid w) (fun _ _ _ hh h=>h.of_heap hh) own started (by kernel_rfl) Tryz.func5
    (ChangeSpec.witness_shaped (enc:=enc) (C:=Tryz.checked) (os:=os) (X:=fun w _=>laidMetH Tryz.prog Rows.selectionParamsRow.laid w) false (World.laidAll Tryz.prog os Rows.selectionParamsRow.laid) #[.agg #[.slice none 0 0,.slice none 0 0,.slice none 0 0],.agg #[.slice none 0 0,.slice none 0 0,.int .i64 0]] 8 (World.laidAll_os _ _ _)
      (World.shaped_of_ZipB (by kernel_rfl) (by kernel_rfl)) (by kernel_rfl) (by kernel_rfl) (by kernel_rfl)
      (by rw[MakeChecks.laidMetH_plain _ _ _ (by kernel_rfl)];exact laidMet_laidAll _ (by kernel_rfl) (by kernel_rfl))) ?_
  intro W base args ds gs before hval0 hW hcnd hsz _ _
  have hval:∀ (j:Nat) t v,Tryz.f5.params[j]? = some t→args[j]? = some v→Value.okWide Tryz.prog W .any base t v:=hval0
  have hW':=hW
  obtain ⟨p,q,hA0,hV,rfl,hfz,hnd⟩:=hW
  have hA:DataW.TrodAll enc Tryz.prog W 0 (fun _=>true) true Tryz.f5.params.toList args.toList ds p:=hA0
  rw[Tryz.params5] at hA hval
  obtain ⟨v0,vs0,d0,ds0,p0,q0,hargs,rfl,rfl,h0,r0⟩:=trodAll_cons hA
  obtain ⟨v1,vs1,d1,ds1,p1,q1,rfl,rfl,rfl,h1,r1⟩:=trodAll_cons r0
  obtain ⟨rfl,rfl,rfl⟩:=trodAll_nil r1
  obtain rfl:args = #[v0,v1]:=by cases args;simp_all
  obtain ⟨rfl,rfl⟩:=trodVars_none hV
  have hlt:∀ x ∈ (p0++(p1++[])),x.block<W.heap.size:=fun x hx=>by simpa using hW'.lt x (List.mem_append_left _ hx)
  have l0:∀ x ∈ p0,x.block<W.heap.size:=fun x hx=>hlt x (List.mem_append_left _ hx)
  obtain ⟨x0,w0,i0⟩:=op39.val (hval 0 39 v0 rfl rfl) h0 l0 (fun n hn=>of_decide_eq_true (List.all_eq_true.1 hsz n (DataW.weights_mem_each (j:=0) rfl rfl n hn)))
  have l1:∀ x ∈ p1,x.block<W.heap.size:=fun x hx=>hlt x (List.mem_append_right _ (List.mem_append_left _ hx))
  obtain ⟨x1,w1,i1⟩:=op46.val (hval 1 46 v1 rfl rfl) h1 l1 (fun n hn=>of_decide_eq_true (List.all_eq_true.1 hsz n (DataW.weights_mem_each (j:=1) rfl rfl n hn)))
  refine (Pure.below (f5_ok (f5_eq x0 x1 ⟨fun p hp=>⟨Nat.le_trans (w0.2.1.2 p hp).1 (by decide),fun f hf s hs=>Nat.le_trans ((((w0.2.1.2 p hp).2.2.2.2 f hf).2.2.2.2.2.2.2.2.2.2 s hs).1) (by decide)⟩,fun x hx=>Nat.le_trans (w0.2.2.2 x hx).2.2.2.2.2.2 (by decide)⟩ (by have:=w1.2.1.1;omega))) (w:=W) (us:=#[v0,v1]) ⟨i0,i1,trivial⟩).mono fun e W' ⟨he,hb,hz⟩=>?_
  subst he
  exact ⟨_,rfl,post_still (pa:=(p0++(p1++[]))) hW' (fun _ _ _=>(trodAll_cons_mk (shut_bool Tryz.underlying4 _) trodAll_mk0)) (fun sp hsp=>(trodAll_cons_mk (Trod_stays laid (by kernel_rfl) (of_decide_eq_true (by kernel_rfl)) h0 (fun x hx=>hb.same (l0 x hx)) (fun x hx=>hsp x (List.mem_append_left _ (List.mem_append_left _ hx)))) (trodAll_cons_mk (Trod_stays laid (by kernel_rfl) (of_decide_eq_true (by kernel_rfl)) h1 (fun x hx=>hb.same (l1 x hx)) (fun x hx=>hsp x (List.mem_append_left _ (List.mem_append_right _ (List.mem_append_left _ hx))))) trodAll_mk0))) (fun _=>rfl) rfl
    (hb.frame _) hz (ok_one (by kernel_rfl) rfl (okWide_bool_mk Tryz.underlying4 _))⟩

theorem j0:(Rows.selectionParamsRow.inPlace == Tryz.prog.inPlace 5)=true:=by kernel_rfl
theorem j1:(Rows.selectionParamsRow.unfollowed == Tryz.prog.unfollowed 5)=true:=by kernel_rfl
theorem j2:(Rows.selectionParamsRow.recurses == Tryz.prog.recurses 5)=true:=by kernel_rfl
theorem j3:(Rows.selectionParamsRow.named == Tryz.prog.varsNamed 5)=true:=by kernel_rfl
theorem j4:(Tryz.prog.stops == [])=true:=by kernel_rfl
theorem j5:Tryz.prog.stopsHeard=true:=by kernel_rfl
theorem j6:Tryz.prog.mayEnter=true:=by kernel_rfl
theorem j7:(Rows.selectionParamsRow.lifted == Tryz.prog.liftsFinal)=true:=by kernel_rfl
theorem j8:mapsRowed Tryz.prog=true:=by kernel_rfl
theorem j9:(Tryz.prog.stopKnobs == [])=true:=by kernel_rfl
theorem j10:(Rows.selectionParamsRow.plainKeys == Tryz.prog.plainKeys)=true:=by kernel_rfl
theorem closed:joinedFacts Tryz.prog 5 Tryz.f5 Rows.selectionParamsSpec Rows.selectionParamsRow=true:=by
  unfold joinedFacts
  rw[laid,j0,j1,j2,j3,j4,j5,j6,j7,j8,j9,j10]
  kernel_rfl

theorem over:Rows.selectionParamsRow.holds Tryz.pinned (OpenSpec.ofChange Rows.selectionParamsSpec) :=
  OpenClaim.holds_of_wide 5 Tryz.f5 rfl rfl rfl rfl rfl rfl rfl ⟨rfl,rfl,rfl,rfl,rfl⟩ rfl rfl rfl rfl rfl (by kernel_rfl) Tryz.func5 closed
    (of_decide_eq_true (by kernel_rfl)) (by unfold Func.isWrapper;first | (rw[if_pos (by decide +kernel)];kernel_rfl) | (rw[if_neg (by decide +kernel)];exact ⟨rfl,rfl⟩))
    (fun os started H enc _=>lifted os started H enc)

/-- The statement. -/
theorem proved:Rows.SelectionParamsSaid :=
  over

theorem plain (f : FuncId) (fn : Func) (hf : Tryz.pinned.checked.prog.funcNamed "luminaire/luminairelaw41.SelectionParams" = some f) (hfn : Tryz.pinned.checked.prog.funcs[f]? = some fn) :
    false=Tryz.pinned.checked.prog.looks []∧∀ (j:Nat) t,fn.params[j]? = some t→Tryz.pinned.checked.prog.wantsStandIn t=false:=by
  obtain rfl : f = 5 := Option.some.inj ((show Tryz.prog.funcNamed "luminaire/luminairelaw41.SelectionParams" = some 5 by kernel_rfl).symm.trans hf) |>.symm
  obtain rfl:fn=Tryz.f5:=(Option.some.inj (Tryz.func5.symm.trans hfn)).symm
  refine ⟨by kernel_rfl,fun j t ht=>?_⟩
  rw[Tryz.params5] at ht
  have hm:=Array.mem_of_getElem? ht
  simp only[List.mem_toArray,List.mem_cons,List.not_mem_nil,or_false] at hm
  rcases hm with rfl | rfl
  · exact (show Tryz.prog.wantsStandIn 39=false by kernel_rfl)
  · exact (show Tryz.prog.wantsStandIn 46=false by kernel_rfl)

/-- The card. -/
theorem card:Rows.SelectionParamsCardSaid :=
  Claim7.holds_tied_plain_at .later [] _ _ _ _ proved (fun _ h=>by cases h) (by kernel_rfl) (fun _ h=>by cases h) selectionParams_row_tie rfl ⟨rfl,rfl⟩ (by kernel_rfl) rfl plain (by kernel_rfl)
end Go.Proofs.YtnaemmpcffnbkaaGreatDoor.selectionParams
