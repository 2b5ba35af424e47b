import Derived.Test.YtgjfhplkochbpaaGreatAL4
import Derived.Test.YtgjfhplkochbpaaGreatAAK
import Derived.KernelRfl
namespace Go.Proofs.YtgjfhplkochbpaaGreat
open Go Go.Ab
set_option linter.unusedSimpArgs false
set_option linter.unusedVariables false
abbrev left:List UInt8:=[108,101,102,116]
abbrev d5:ResponderDevice:=⟨5,1,1,[],0,true,false⟩
abbrev d6:ResponderDevice:=⟨6,1,1,[],0,true,false⟩
abbrev d5l:ResponderDevice:=⟨5,1,1,left,0,true,false⟩
abbrev rq1:ManagerRequest:=⟨5,5,130,left⟩
abbrev rq2:ManagerRequest:=⟨5,4,130,[]⟩
theorem x24a:f24 ⟨9,0,3⟩ ⟨[d5,d6],[2],[]⟩ rq1=some 0:=by kernel_rfl
theorem x24b:f24 ⟨9,2,3⟩ ⟨[d5l,d6],[],[]⟩ rq2=some 0:=by kernel_rfl
theorem xt1:tryOnce ⟨9,0,3⟩ [d5,d6] rq1=some (⟨5,9,0,5,130,left⟩,[d5l,d6],⟨9,5,0,6,130,[]⟩):=by kernel_rfl
theorem xt2:tryOnce ⟨9,1,3⟩ [d5l,d6] rq1=some (⟨5,9,1,5,130,left⟩,[d5l,d6],⟨9,5,1,6,130,[]⟩):=by kernel_rfl
theorem xt3:tryOnce ⟨9,2,3⟩ [d5l,d6] rq2=some (⟨5,9,2,4,130,[]⟩,[d5l,d6],⟨9,5,2,6,130,left⟩):=by kernel_rfl
theorem x33a:f33 ⟨5,9,1,5,130,left⟩ ⟨9,5,1,6,130,[]⟩=some true:=by kernel_rfl
theorem x33b:f33 ⟨5,9,2,4,130,[]⟩ ⟨9,5,2,6,130,left⟩=some true:=by kernel_rfl
theorem nil_app{τ : Type}{b:Nat}{xs:List τ}(hb:b≤100)(hl:xs.length≤1000):(nil? xs false fun q=>if q=true then some [] else (app? b [] xs).bind fun out=>some out)=some xs:=by
 have hm:(0 + xs.length) * b≤1000 * 100:=Nat.mul_le_mul (by omega) hb
 have h:app? b ([]:List τ) xs=some xs:=by rw[app_some (by simp only[List.length_nil];omega) (by simp;omega)];simp
 unfold nil?
 by_cases hn:xs=[]
 ·rw[if_pos hn]
  subst hn
  simp[h]
 ·rw[if_neg hn]
  simp[h]
theorem f25_eq{w:ManagerWire}(h1:w.fDevices.length≤1000)(h2:w.fFaults.length≤1000)(h3:w.fLate.length≤1000):f25 w=some w:=by
 have a1:=f29_eq h1
 have a2:f43 w.fFaults=some w.fFaults:=nil_app (by omega) h2
 have a3:f44 w.fLate=some w.fLate:=nil_app (by omega) h3
 unfold f25
 rw[a1,Option.bind_some,a2,Option.bind_some,a3,Option.bind_some]
theorem x15a:f15 ⟨9,0,3⟩ ⟨[d5,d6],[2],[]⟩ rq1=some (⟨9,2,3⟩,⟨[d5l,d6],[],[]⟩,⟨0,[],0,2⟩,0):=by
 unfold f15
 rw[if_pos ⟨x24a,f25_eq (by simp) (by simp) (by simp),rfl⟩,if_neg (by simp),if_pos rfl,xt1,Option.bind_some]
 simp only
 rw[show nextM ⟨9,0,3⟩=⟨9,1,3⟩ by kernel_rfl,xt2,Option.bind_some,if_pos ⟨x33a,by decide,by decide⟩]
 rfl
theorem x15b:f15 ⟨9,2,3⟩ ⟨[d5l,d6],[],[]⟩ rq2=some (⟨9,3,3⟩,⟨[d5l,d6],[],[]⟩,⟨0,left,0,1⟩,0):=by
 unfold f15
 rw[if_pos ⟨x24b,f25_eq (by simp) (by simp) (by simp),rfl⟩,if_pos rfl,xt3,Option.bind_some,if_pos ⟨x33b,by decide,by decide⟩]
 rfl
end Go.Proofs.YtgjfhplkochbpaaGreat
