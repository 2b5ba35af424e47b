import Derived.Test.YtgjfhplkochbpaaGreatASE
import Derived.Test.YtgjfhplkochbpaaGreatAU1
namespace Go.Proofs.YtgjfhplkochbpaaGreat
open Go Go.Ab
noncomputable def f7(l:List ResponderDevice)(frm:Int):Option (List ResponderDevice×DiscoveryFinding×Int):=(find7 f53 l frm).map fun σ => (σ.devs,⟨σ.found,σ.msgs⟩,0)
theorem f7_ok{l:List ResponderDevice}{frm:Int}{r_:List ResponderDevice×DiscoveryFinding×Int}(H:f7 l frm=some r_):Pure Tryz.prog 7 [.sl 7 false (l.map eResponderDevice),.int .u64 frm] (· = .tup [.sl 7 false (r_.1.map eResponderDevice),.agg [.sl 0 false (r_.2.1.fFound.map (AV.int .u64)),.int .i64 r_.2.1.fMessages],.int .i64 r_.2.2]):=by
 obtain ⟨σ,hσ,rfl⟩:=Option.map_eq_some_iff.1 H
 exact find7_ok (fun h=>f53_ok h) hσ
end Go.Proofs.YtgjfhplkochbpaaGreat
