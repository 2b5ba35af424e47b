import Derived.Test.YtgfohogbechkkaaBSTA
set_option linter.unusedSimpArgs false
set_option linter.unusedVariables false
namespace Go.Proofs.Ytgfohogbechkkaa.Net
open Go Go.Ab
theorem low7(b:UInt8):IntKind.u8.wrap ((BitVec.ofInt (IntKind.bits .u8) (b.toNat:Int) &&& BitVec.ofInt (IntKind.bits .u8) 127).toNat:Int)=(b.toNat:Int).tmod 128:=by
 have h:∀ n:Fin 256,IntKind.u8.wrap ((BitVec.ofInt (IntKind.bits .u8) ((n.1:Nat):Int) &&& BitVec.ofInt (IntKind.bits .u8) 127).toNat:Int)=((n.1:Nat):Int).tmod 128:=by decide +kernel
 exact h ⟨b.toNat,b.toNat_lt⟩
def nz(z c sh:Int):Int:=IntKind.u64.wrap ((BitVec.ofInt (IntKind.bits .u64) z ||| BitVec.ofInt (IntKind.bits .u64) (IntKind.u64.wrap ((IntKind.u64.wrap (c.tmod 128)) * 2 ^ (min (Int.toNat sh) (IntKind.bits .u64))))).toNat:Int)
theorem nz_def(z c sh:Int):IntKind.u64.wrap ((BitVec.ofInt (IntKind.bits .u64) z ||| BitVec.ofInt (IntKind.bits .u64) (IntKind.u64.wrap ((IntKind.u64.wrap (c.tmod 128)) * 2 ^ (min (Int.toNat sh) (IntKind.bits .u64))))).toNat:Int)=nz z c sh:=rfl
def unz(z:Int):Int:=if z.tmod 2=1 then IntKind.i64.wrap ((BitVec.ofInt (IntKind.bits .i64) (-1) ^^^ BitVec.ofInt (IntKind.bits .i64) (IntKind.i64.wrap (Int.fdiv z (2 ^ (min (Int.toNat 1) (IntKind.bits .u64)))))).toNat:Int)
 else IntKind.i64.wrap (Int.fdiv z (2 ^ (min (Int.toNat 1) (IntKind.bits .u64))))
theorem and1{z:Int}(h:0≤z∧z<18446744073709551616):((BitVec.ofInt (IntKind.bits .u64) z &&& BitVec.ofInt (IntKind.bits .u64) 1).toNat:Int)=z % 2:=by
 obtain ⟨n,rfl⟩:∃ n:Nat,z=n:=⟨z.toNat,by omega⟩
 show (((BitVec.ofInt 64 (n:Int)) &&& BitVec.ofInt 64 1).toNat:Int)=_
 rw[BitVec.toNat_and,BitVec.toNat_ofInt,BitVec.toNat_ofInt]
 have e1:((n:Int) % ((2 ^ 64:Nat):Int)).toNat=n:=by omega
 have e2:((1:Int) % ((2 ^ 64:Nat):Int)).toNat=1:=by decide
 rw[e1,e2,Nat.and_one_is_mod]
 omega
theorem unz58{z:Int}(h:0≤z∧z<18446744073709551616) :
  (IntKind.i64.wrap ((BitVec.ofInt (IntKind.bits .i64) (IntKind.i64.wrap (Int.fdiv z (2 ^ (min (Int.toNat 1) (IntKind.bits .u64))))) ^^^ BitVec.ofInt (IntKind.bits .i64) (IntKind.i64.wrap (0 - (IntKind.i64.wrap (IntKind.u64.wrap ((BitVec.ofInt (IntKind.bits .u64) z &&& BitVec.ofInt (IntKind.bits .u64) 1).toNat:Int)))))).toNat:Int))=unz z:=by
 rw[and1 h]
 unfold unz
 rw[Int.tmod_eq_emod_of_nonneg h.1]
 generalize hw:IntKind.i64.wrap (Int.fdiv z (2 ^ (min (Int.toNat 1) (IntKind.bits .u64))))=w
 have hwr : -9223372036854775808≤w∧w≤9223372036854775807:=by
  rw[← hw,IntKind.wrap_i64];omega
 have hp:z % 2=0∨z % 2=1:=by omega
 rcases hp with hp | hp
 ·rw[hp,if_neg (by decide)]
  have e:IntKind.i64.wrap (0 - IntKind.i64.wrap (IntKind.u64.wrap 0))=0:=by decide
  rw[e]
  show IntKind.i64.wrap (((BitVec.ofInt 64 w) ^^^ BitVec.ofInt 64 0).toNat:Int)=w
  rw[show BitVec.ofInt 64 0=0#64 by decide,BitVec.xor_zero,BitVec.toNat_ofInt,IntKind.wrap_i64]
  omega
 ·rw[hp,if_pos rfl]
  have e:IntKind.i64.wrap (0 - IntKind.i64.wrap (IntKind.u64.wrap 1)) = -1:=by decide
  rw[e,BitVec.xor_comm]
def sumS(s:List UInt8):Int×Int:=s.foldl (fun p c=>((p.1 + (c.toNat:Int)) % 255,(p.2 + (p.1 + (c.toNat:Int)) % 255) % 255)) (0,0)
theorem sum_range(s:List UInt8):(0≤(sumS s).1∧(sumS s).1<255)∧(0≤(sumS s).2∧(sumS s).2<255):=by
 have key:∀ (l:List UInt8) (p:Int×Int),((0≤p.1∧p.1<255)∧(0≤p.2∧p.2<255))→((0≤(l.foldl (fun p c=>((p.1 + (c.toNat:Int)) % 255,(p.2 + (p.1 + (c.toNat:Int)) % 255) % 255)) p).1∧(l.foldl (fun p c=>((p.1 + (c.toNat:Int)) % 255,(p.2 + (p.1 + (c.toNat:Int)) % 255) % 255)) p).1<255) ∧
   (0≤(l.foldl (fun p c=>((p.1 + (c.toNat:Int)) % 255,(p.2 + (p.1 + (c.toNat:Int)) % 255) % 255)) p).2∧(l.foldl (fun p c=>((p.1 + (c.toNat:Int)) % 255,(p.2 + (p.1 + (c.toNat:Int)) % 255) % 255)) p).2<255)):=by
  intro l
  induction l with
  | nil=>intro p h;exact h
  | cons c l ih =>
   intro p _
   rw[List.foldl_cons]
   exact ih _ ⟨⟨by simp only;omega,by simp only;omega⟩,⟨by simp only;omega,by simp only;omega⟩⟩
 exact key s (0,0) (by simp)
theorem sum_succ{s:List UInt8}{k:Nat}(hk:k<s.length):sumS (s.take (k + 1))=(((sumS (s.take k)).1 + (s[k].toNat:Int)) % 255,((sumS (s.take k)).2 + ((sumS (s.take k)).1 + (s[k].toNat:Int)) % 255) % 255):=by
 unfold sumS
 rw[List.take_succ_eq_append_getElem hk,List.foldl_append]
 rfl
theorem or8{x y:Int}(hx:0≤x∧x<256)(hy:0≤y∧y<256):(((BitVec.ofInt 64 (x * 256)) ||| BitVec.ofInt 64 y).toNat:Int)=256 * x + y:=by
 obtain ⟨n,rfl⟩:∃ n:Nat,x=n:=⟨x.toNat,by omega⟩
 obtain ⟨m,rfl⟩:∃ m:Nat,y=m:=⟨y.toNat,by omega⟩
 rw[BitVec.toNat_or,BitVec.toNat_ofInt,BitVec.toNat_ofInt]
 have e1:((n:Int) * 256 % ((2 ^ 64:Nat):Int)).toNat=2 ^ 8 * n:=by omega
 have e2:((m:Int) % ((2 ^ 64:Nat):Int)).toNat=m:=by omega
 rw[e1,e2,← Nat.two_pow_add_eq_or_of_lt (by omega)]
 omega
theorem f160_eq{s:List UInt8}(hs:s.length≤2000):f160 s=some (256 * (sumS s).2 + (sumS s).1):=by
 unfold f160
 have hrun:=run_count (L:=f160_L1 s) (e:=((sumS s).1,(sumS s).2)) (fun k=>((sumS (s.take k)).1,(sumS (s.take k)).2,(k:Int))) s.length (by
  simp only[f160_L1]
  rw[if_neg (by simp),List.take_length]) 0 (Nat.zero_le _) (fun k _ hk=>by
  have hx:=List.getElem?_eq_getElem hk
  obtain ⟨⟨a1,a2⟩,b1,b2⟩:=sum_range (s.take k)
  have hc:(0:Int)≤(s[k].toNat:Int)∧(s[k].toNat:Int)<256:=⟨by omega,by have:=s[k].toNat_lt;omega⟩
  have hw:IntKind.i64.wrap ((k:Int) + 1)=((k + 1:Nat):Int):=by rw[w64 (by omega) (by omega)];omega
  simp only[f160_L1]
  rw[if_pos (by simp;omega),at_nat hx,sum_succ hk]
  simp only[Option.bind_some]
  generalize (s[k].toNat:Int)=c at *
  generalize (sumS (s.take k)).1=a at *
  generalize (sumS (s.take k)).2=b at *
  have e1:IntKind.u64.wrap c=c:=by rw[IntKind.wrap_u64];omega
  have e2:IntKind.u64.wrap (a + c)=a + c:=by rw[IntKind.wrap_u64];omega
  have e3:(a + c).tmod 255=(a + c) % 255:=Int.tmod_eq_emod_of_nonneg (by omega)
  have e4:IntKind.u64.wrap (b + (a + c) % 255)=b + (a + c) % 255:=by rw[IntKind.wrap_u64];omega
  have e5:(b + (a + c) % 255).tmod 255=(b + (a + c) % 255) % 255:=Int.tmod_eq_emod_of_nonneg (by omega)
  simp only[e1,e2,e3,e4,e5,hw])
 have h0:((sumS (s.take 0)).1,(sumS (s.take 0)).2,((0:Nat):Int))=((0:Int),(0:Int),(0:Int)):=by simp[sumS]
 rw[h0] at hrun
 rw[hrun]
 obtain ⟨⟨a1,a2⟩,b1,b2⟩:=sum_range s
 generalize (sumS s).1=a at *
 generalize (sumS s).2=b at *
 simp only[Option.bind_some]
 have e0:(2:Int) ^ (min (Int.toNat 8) (IntKind.bits .u64))=256:=by decide
 have e1:IntKind.u64.wrap (b * 256)=b * 256:=by rw[IntKind.wrap_u64];omega
 rw[e0,e1,show IntKind.bits .u64=64 from rfl,or8 (by omega) (by omega)]
 have e2:IntKind.u64.wrap (256 * b + a)=256 * b + a:=by rw[IntKind.wrap_u64];omega
 rw[e2,w64 (by omega) (by omega)]
def ckS(r:Int):List UInt8:=[b8 (IntKind.u8.wrap (r / 256)),b8 (IntKind.u8.wrap r)]
theorem f159_eq{r:Int}(h:0≤r∧r<65536):f159 r=some (ckS r):=by
 unfold f159 ckS
 have e0:(2:Int) ^ (min (Int.toNat 8) (IntKind.bits .i64))=256:=by decide
 rw[e0,Int.fdiv_eq_ediv_of_nonneg _ (by decide)]
 rfl
theorem hi7(z:Int)(h:0≤z):b8 (IntKind.u8.wrap ((BitVec.ofInt (IntKind.bits .u8) (IntKind.u8.wrap z) ||| BitVec.ofInt (IntKind.bits .u8) 128).toNat:Int))=b8 (IntKind.u8.wrap (z % 128 + 128)):=by
 have key:∀ n:Fin 256,((BitVec.ofInt (IntKind.bits .u8) ((n.1:Nat):Int) ||| BitVec.ofInt (IntKind.bits .u8) 128).toNat:Int)=((n.1:Nat):Int) % 128 + 128:=by decide +kernel
 have h1:IntKind.u8.wrap z=(((z % 256).toNat:Nat):Int):=by rw[IntKind.wrap_u8];omega
 have h2:=key ⟨(z % 256).toNat,by omega⟩
 simp only at h2
 rw[h1,h2]
 congr 2
 omega
theorem chk_range{p:NetworkPacket}(h:f59 p=some 0):(0<p.fSource∧p.fSource<281474976710655)∧(0≤p.fUniverse∧p.fUniverse≤8)∧(0≤p.fPriority∧p.fPriority≤200)∧(0≤p.fSeq∧p.fSeq≤255)∧(0≤p.fSync∧p.fSync≤8)∧p.fSlots.length≤512:=by
 unfold f59 at h
 simp only[f78_eq,f93_eq,f94_eq,Option.bind_some,namedS] at h
 cases h1:wi p.fUniverse 0 8
 ·simp[h1] at h
 cases h2:wi p.fPriority 0 200
 ·simp[h2] at h
 cases h3:wi p.fSeq 0 255
 ·simp[h3] at h
 cases h4:wi p.fSync 0 8
 ·simp[h4] at h
 by_cases h5:0<p.fSource
 case neg=>simp[h5] at h
 by_cases h6:p.fSource<281474976710655
 case neg=>simp[h6] at h
 by_cases h7:512<(p.fSlots.length:Int)
 ·simp[h1,h2,h3,h4,h5,h6,h7] at h
 exact ⟨⟨h5,h6⟩,wi_iff.1 h1,wi_iff.1 h2,wi_iff.1 h3,wi_iff.1 h4,by omega⟩
theorem nz_val{z c:Int}{j:Nat}(hj:j≤56)(hz:0≤z∧z<((2 ^ j:Nat):Int))(hc:0≤c∧c<256):nz z c (j:Int)=z + (c % 128) * ((2 ^ j:Nat):Int):=by
 unfold nz
 rw[Int.tmod_eq_emod_of_nonneg hc.1]
 obtain ⟨n,rfl⟩:∃ n:Nat,z=n:=⟨z.toNat,by omega⟩
 obtain ⟨m,hm⟩:∃ m:Nat,c % 128=m:=⟨(c % 128).toNat,by omega⟩
 have hm7:m<128:=by omega
 have hn:n<2 ^ j:=by omega
 have hpow:2 ^ j≤2 ^ 56:=Nat.pow_le_pow_right (by decide) hj
 have hprod:m * 2 ^ j≤127 * 2 ^ 56:=Nat.mul_le_mul (by omega) hpow
 have e1:IntKind.u64.wrap (m:Int)=m:=by rw[IntKind.wrap_u64];omega
 have e2:min (Int.toNat (j:Int)) (IntKind.bits .u64)=j:=by
  rw[show IntKind.bits .u64=64 from rfl];omega
 have e3:(m:Int) * 2 ^ j=((m * 2 ^ j:Nat):Int):=by simp
 have e4:IntKind.u64.wrap ((m * 2 ^ j:Nat):Int)=((m * 2 ^ j:Nat):Int):=by rw[IntKind.wrap_u64];omega
 rw[hm,e1,e2,e3,e4,show IntKind.bits .u64=64 from rfl,BitVec.toNat_or,BitVec.toNat_ofInt,BitVec.toNat_ofInt]
 have f1:((n:Int) % ((2 ^ 64:Nat):Int)).toNat=n:=by omega
 have f2:(((m * 2 ^ j:Nat):Int) % ((2 ^ 64:Nat):Int)).toNat=2 ^ j * m:=by rw[Nat.mul_comm m];rw[Nat.mul_comm m] at hprod;omega
 rw[f1,f2,Nat.or_comm,← Nat.two_pow_add_eq_or_of_lt hn,IntKind.wrap_u64]
 have f3:((2 ^ j * m + n:Nat):Int) % 18446744073709551616=((2 ^ j * m + n:Nat):Int):=by rw[Nat.mul_comm m] at hprod;omega
 rw[f3]
 push_cast
 rw[Int.mul_comm,Int.add_comm]
theorem b8_nat{m:Int}(h:0≤m∧m<256):((b8 m).toNat:Int)=m:=by
 unfold b8
 have:(UInt8.ofNat m.toNat).toNat=m.toNat % 256:=by simp
 rw[this]
 omega
def vE:Nat→Int→List UInt8
 | 0,z=>[b8 z]
 | k + 1,z=>if z<128 then [b8 z] else b8 (z % 128 + 128)::vE k (z / 128)
theorem vE_len:∀ k z,1≤(vE k z).length∧(vE k z).length≤k + 1
 | 0,z=>by simp[vE]
 | k + 1,z=>by
  have:=vE_len k (z / 128)
  unfold vE
  split
  ·simp
  ·simp only[List.length_cons];omega
theorem venc:∀ (k:Nat) (z:Int) (out:List Int),0≤z→z<128 ^ (k + 1)→out.length + k≤100→∃ zf out',f133_L1.run (z,out)=some (zf,out')∧out'.map b8++[b8 (IntKind.u8.wrap zf)]=out.map b8++vE k z∧out'.length≤out.length + k:=by
 intro k
 induction k with
 | zero =>
  intro z out h1 h2 h4
  have h5:z<128:=by simpa using h2
  refine ⟨z,out,iter_brk ?_,?_,by omega⟩
  ·simp only[f133_L1];rw[if_neg (by simp;omega)]
  ·rw[IntKind.wrap_u8,show z % 256=z by omega];rfl
 | succ k ih =>
  intro z out h1 h2 h4
  by_cases h5:z<128
  ·refine ⟨z,out,iter_brk ?_,?_,by omega⟩
   ·simp only[f133_L1];rw[if_neg (by simp;omega)]
   ·rw[IntKind.wrap_u8,show z % 256=z by omega];unfold vE;rw[if_pos h5]
  ·have hz:z / 128<128 ^ (k + 1):=by
    have:(128:Int) ^ (k + 1 + 1)=128 ^ (k + 1) * 128:=Int.pow_succ _ _
    rw[this] at h2
    omega
   obtain ⟨zf,out',r1,r2,r4⟩:=ih (z / 128) (out++[IntKind.u8.wrap ((BitVec.ofInt (IntKind.bits .u8) (IntKind.u8.wrap z) ||| BitVec.ofInt (IntKind.bits .u8) 128).toNat:Int)]) (by omega) hz (by simp;omega)
   have b1:f133_L1.body (z,out)=some (.next (z / 128,out++[IntKind.u8.wrap ((BitVec.ofInt (IntKind.bits .u8) (IntKind.u8.wrap z) ||| BitVec.ofInt (IntKind.bits .u8) 128).toNat:Int)])):=by
    have e0:(2:Int) ^ (min (Int.toNat 7) (IntKind.bits .u64))=128:=by decide
    simp only[f133_L1]
    rw[if_pos (by simp;omega),app_some (by simp;omega) (by simp;omega),Option.bind_some,e0,Int.fdiv_eq_ediv_of_nonneg _ (by decide)]
   refine ⟨zf,out',(iter_next b1).trans r1,?_,?_⟩
   ·rw[r2,List.map_append,List.map_cons,List.map_nil,hi7 z h1,IntKind.wrap_u8,show (z % 128 + 128) % 256=z % 128 + 128 by omega]
    rw[show vE (k + 1) z=b8 (z % 128 + 128)::vE k (z / 128) by rw[vE,if_neg h5]]
    simp
   ·simp only[List.length_append,List.length_cons,List.length_nil] at r4
    omega
theorem f133_eq{n:Int}(h:0≤n∧n<281474976710656):f133 n=some (vE 7 (2 * n)):=by
 obtain ⟨zf,out,r1,r2,r4⟩:=venc 7 (2 * n) [] (by omega) (by rw[show (128:Int) ^ (7 + 1)=72057594037927936 by decide];omega) (by simp)
 have e1:IntKind.u64.wrap n=n:=by rw[IntKind.wrap_u64];omega
 have e0:(2:Int) ^ (min (Int.toNat 1) (IntKind.bits .u64))=2:=by decide
 have e2:IntKind.u64.wrap (n * 2)=2 * n:=by rw[IntKind.wrap_u64];omega
 have e3:(2:Int) ^ (min (Int.toNat 63) (IntKind.bits .i64))=9223372036854775808:=by decide
 have e4:Int.fdiv n 9223372036854775808=0:=by rw[Int.fdiv_eq_ediv_of_nonneg _ (by decide)];omega
 have e5:IntKind.u64.wrap ((BitVec.ofInt 64 (2 * n) ^^^ BitVec.ofInt 64 (IntKind.u64.wrap 0)).toNat:Int)=2 * n:=by
  rw[show IntKind.u64.wrap 0=0 from rfl,show BitVec.ofInt 64 0=0#64 by decide,BitVec.xor_zero,BitVec.toNat_ofInt,IntKind.wrap_u64]
  omega
 unfold f133
 rw[e1,e0,e2,e3,e4,show IntKind.bits .u64=64 from rfl,e5,r1,Option.bind_some]
 simp only[]
 rw[app_some (by simp;simp at r4;omega) (by simp;simp at r4;omega),Option.bind_some,List.map_append,List.map_cons,List.map_nil,r2]
 rfl
theorem drop_cons{s:List UInt8}{p:Nat}{c:UInt8}{r:List UInt8}(h:s.drop p=c::r):s[p]? = some c∧s.drop (p + 1)=r∧p<s.length:=by
 have h1:s[p]? = some c:=by
  have:=congrArg (·[0]?) h
  simpa using this
 refine ⟨h1,?_,(List.getElem?_eq_some_iff.1 h1).1⟩
 have:=congrArg (List.drop 1) h
 simpa[List.drop_drop] using this
theorem body58{s:List UInt8}(hs:s.length≤1500){p:Nat}{b:UInt8}(hx:s[p]? = some b){i:Nat}(hi:i≤8)(z:Int) :
  (f137_L2 s).body (z,7 * (i:Int),(p:Int))=(if (b.toNat:Int)=0 then (if 0<i then some (.brk (.inr (((p + 1:Nat):Int),3))) else some (.brk (.inl (nz z b.toNat (7 * (i:Int)),((p + 1:Nat):Int)))))
   else if (b.toNat:Int)<128 then some (.brk (.inl (nz z b.toNat (7 * (i:Int)),((p + 1:Nat):Int)))) else some (.next (nz z b.toNat (7 * (i:Int)),7 * ((i + 1:Nat):Int),((p + 1:Nat):Int)))):=by
 have hlt:=(List.getElem?_eq_some_iff.1 hx).1
 have w1:IntKind.i64.wrap ((s.length:Int) - (p:Int))=(s.length:Int) - (p:Int):=w64 (by omega) (by omega)
 have w3:IntKind.i64.wrap ((p:Int) + 1)=(p:Int) + 1:=w64 (by omega) (by omega)
 have w4:IntKind.i64.wrap ((p:Int) + 1 - 1)=(p:Int):=by rw[w64 (by omega) (by omega)];omega
 have w6:IntKind.i64.wrap (7 * (i:Int) + 7)=7 * ((i + 1:Nat):Int):=by rw[w64 (by omega) (by omega)];omega
 have wq:(p:Int) + 1=((p + 1:Nat):Int):=by omega
 have hslc:slc? s (p:Int) ((p:Int) + 1)=some [b]:=by
  rw[slc_some ⟨by omega,by omega,by omega⟩]
  have e1:((p:Int) + 1).toNat=p + 1:=by omega
  rw[e1,Int.toNat_natCast,List.take_add_one,hx,List.drop_append_of_le_length (by simp;omega)]
  simp
 have hb:at? [b] 0=some b:=rfl
 simp only[f137_L2,f137_C3,f162p,w1,w3,w4,w6,hslc,hb,low7,Option.bind_some]
 rw[if_neg (by simp;omega),must_true (by omega)]
 simp only[wq,nz_def]
 have h63:¬ 7 * (i:Int)=63:=by omega
 generalize (b.toNat:Int)=c at *
 by_cases h0:c=0
 ·by_cases hi0:0<i
  ·have:(0:Int)<7 * (i:Int):=by omega
   simp[h63,h0,hi0,this]
  ·have:¬ (0:Int)<7 * (i:Int):=by omega
   simp[h63,h0,hi0,this]
 ·by_cases h8:c<128<;>simp[h63,h0,h8]
theorem vdec{s:List UInt8}(hs:s.length≤1500):∀ (k:Nat) (z:Int) (i:Nat) (acc:Int) (p:Nat) (post:List UInt8),i + k≤7→0≤z→z<128 ^ (k + 1)→(0<i→0<z)→(0≤acc∧acc<((2 ^ (7 * i):Nat):Int))→s.drop p=vE k z++post →
  (f137_L2 s).run (acc,7 * (i:Int),(p:Int))=some (.inl (acc + z * ((2 ^ (7 * i):Nat):Int),((p + (vE k z).length:Nat):Int))):=by
 have last:∀ (z:Int) (i:Nat) (acc:Int) (p:Nat) (post:List UInt8),i≤7→0≤z→z<128→(0<i→0<z)→(0≤acc∧acc<((2 ^ (7 * i):Nat):Int))→s.drop p=b8 z::post →
   (f137_L2 s).run (acc,7 * (i:Int),(p:Int))=some (.inl (acc + z * ((2 ^ (7 * i):Nat):Int),((p + 1:Nat):Int))):=by
  intro z i acc p post hi h1 h2 h3 ha hd
  obtain ⟨hx,_,_⟩:=drop_cons hd
  have hb:=body58 hs hx (show i≤8 by omega) acc
  rw[b8_nat (by omega)] at hb
  have hn:=nz_val (z:=acc) (c:=z) (j:=7 * i) (by omega) ha (by omega)
  rw[show ((7 * i:Nat):Int)=7 * (i:Int) by omega,show z % 128=z by omega] at hn
  rw[hn] at hb
  refine iter_brk (hb.trans ?_)
  by_cases h0:z=0
  ·have:¬ 0<i:=fun h=>by have:=h3 h;omega
   rw[if_pos h0,if_neg this]
  ·rw[if_neg h0,if_pos h2]
 intro k
 induction k with
 | zero =>
  intro z i acc p post hi h1 h2 h3 ha hd
  exact last z i acc p post (by omega) h1 (by simpa using h2) h3 ha hd
 | succ k ih =>
  intro z i acc p post hi h1 h2 h3 ha hd
  by_cases h5:z<128
  ·have e:vE (k + 1) z=[b8 z]:=by rw[vE,if_pos h5]
   rw[e] at hd ⊢
   exact last z i acc p post (by omega) h1 h5 h3 ha hd
  ·have e:vE (k + 1) z=b8 (z % 128 + 128)::vE k (z / 128):=by rw[vE,if_neg h5]
   rw[e] at hd ⊢
   obtain ⟨hx,hd',_⟩:=drop_cons hd
   have hb:=body58 hs hx (show i≤8 by omega) acc
   rw[b8_nat (by omega)] at hb
   have hn:=nz_val (z:=acc) (c:=z % 128 + 128) (j:=7 * i) (by omega) ha (by omega)
   rw[show ((7 * i:Nat):Int)=7 * (i:Int) by omega,show (z % 128 + 128) % 128=z % 128 by omega] at hn
   rw[hn,if_neg (by omega),if_neg (by omega)] at hb
   have hz:z / 128<128 ^ (k + 1):=by
    have:(128:Int) ^ (k + 1 + 1)=128 ^ (k + 1) * 128:=Int.pow_succ _ _
    rw[this] at h2
    omega
   have hP:((2 ^ (7 * (i + 1)):Nat):Int)=128 * ((2 ^ (7 * i):Nat):Int):=by
    rw[show 7 * (i + 1)=7 * i + 7 by omega,Nat.pow_add];push_cast;rw[Int.mul_comm]
   have hP0:(0:Int)<((2 ^ (7 * i):Nat):Int):=by exact_mod_cast Nat.pow_pos (by decide)
   have hm:0≤z % 128∧z % 128≤127:=by omega
   have hmul:(z % 128) * ((2 ^ (7 * i):Nat):Int)≤127 * ((2 ^ (7 * i):Nat):Int):=Int.mul_le_mul_of_nonneg_right hm.2 (by omega)
   have hmul0:0≤(z % 128) * ((2 ^ (7 * i):Nat):Int):=Int.mul_nonneg hm.1 (by omega)
   have hr:=ih (z / 128) (i + 1) (acc + z % 128 * ((2 ^ (7 * i):Nat):Int)) (p + 1) post (by omega) (by omega) hz (fun _=>by omega) (by rw[hP];omega) hd'
   refine (iter_next hb).trans (hr.trans ?_)
   rw[hP]
   have hz2:z=128 * (z / 128) + z % 128:=by omega
   have key:acc + z % 128 * ((2 ^ (7 * i):Nat):Int) + z / 128 * (128 * ((2 ^ (7 * i):Nat):Int))=acc + z * ((2 ^ (7 * i):Nat):Int):=by
    generalize ((2 ^ (7 * i):Nat):Int)=P
    have:z * P=(128 * (z / 128) + z % 128) * P:=by rw[← hz2]
    rw[this,Int.add_mul,← Int.mul_assoc,Int.mul_comm (z / 128) 128]
    omega
   rw[key,List.length_cons]
   congr 3
   omega
theorem at_ok{s:List UInt8}{a:Nat}(ha:a≤s.length):f161p s (a:Int)=some 0:=by
 unfold f161p;rw[if_neg (by simp),if_neg (by simp;omega)]
theorem unz2{n:Int}(h:0≤n∧n<281474976710656):unz (2 * n)=n:=by
 unfold unz
 rw[Int.tmod_eq_emod_of_nonneg (by omega),if_neg (by omega),show (2:Int) ^ (min (Int.toNat 1) (IntKind.bits .u64))=2 by decide,Int.fdiv_eq_ediv_of_nonneg _ (by decide),w64 (by omega) (by omega)]
 omega
theorem drop_len{s a b:List UInt8}{p:Nat}(h:s.drop p=a++b):s.drop (p + a.length)=b∧(a≠[]→p + a.length≤s.length)∧(a≠[]→p≤s.length):=by
 refine ⟨?_,fun ha=>?_,fun ha=>?_⟩
 ·rw[← List.drop_drop,h,List.drop_left]
 ·have h1:=congrArg List.length h
  have h2:0<a.length:=List.length_pos_iff.2 ha
  simp only[List.length_drop,List.length_append] at h1
  omega
 ·have h1:=congrArg List.length h
  have h2:0<a.length:=List.length_pos_iff.2 ha
  simp only[List.length_drop,List.length_append] at h1
  omega
theorem vE_ne(k:Nat)(z:Int):vE k z≠[]:=fun h=>by have:=(vE_len k z).1;rw[h] at this;simp at this
theorem run58{s:List UInt8}(hs:s.length≤1500){n:Int}(hn:0≤n∧n<281474976710656){p:Nat}{post:List UInt8}(h:s.drop p=vE 7 (2 * n)++post) :
  (f137_L2 s).run (0,0,(p:Int))=some (.inl (2 * n,((p + (vE 7 (2 * n)).length:Nat):Int))):=by
 have:=vdec hs 7 (2 * n) 0 0 p post (by omega) (by omega) (by rw[show (128:Int) ^ (7 + 1)=72057594037927936 by decide];omega) (fun h=>absurd h (by omega)) (by simp) h
 simpa using this
theorem int_dec{s:List UInt8}(hs:s.length≤1500){n:Int}(hn:0≤n∧n<281474976710656){p:Nat}{post:List UInt8}(h:s.drop p=vE 7 (2 * n)++post) :
  f137 s (p:Int)=some (n,((p + (vE 7 (2 * n)).length:Nat):Int),0)∧s.drop (p + (vE 7 (2 * n)).length)=post:=by
 obtain ⟨d1,_,d3⟩:=drop_len h
 refine ⟨?_,d1⟩
 unfold f137
 rw[at_ok (d3 (vE_ne _ _))]
 simp only[Option.bind_some,ne_eq,not_true_eq_false,decide_false,Bool.false_eq_true,if_false,f137_C1,run58 hs hn h,unz58 (show 0≤2 * n∧2 * n<18446744073709551616 by omega),unz2 hn]
theorem str_dec{s t:List UInt8}(hs:s.length≤1500)(ht:t.length≤600){p:Nat}(h:s.drop p=vE 7 (2 * (t.length:Int))++t) :
  f138 s (p:Int)=some (t,(s.length:Int),0):=by
 obtain ⟨d1,d2,d3⟩:=drop_len h
 have hq:=d2 (vE_ne _ _)
 have hrun:(f138_L3 s).run (0,0,(p:Int))=some (.inl (2 * (t.length:Int),((p + (vE 7 (2 * (t.length:Int))).length:Nat):Int))):=run58 hs (by omega) h
 generalize p + (vE 7 (2 * (t.length:Int))).length=q at *
 have hlen:s.length=q + t.length:=by
  have:=congrArg List.length d1
  simp only[List.length_drop] at this
  omega
 unfold f138
 rw[at_ok (d3 (vE_ne _ _))]
 have hC2:(f138_C2 s (p:Int)).run=some ((t.length:Int),0,(q:Int)):=by
  simp only[f138_C2,hrun,Option.bind_some,unz58 (show 0≤2 * (t.length:Int)∧2 * (t.length:Int)<18446744073709551616 by omega),unz2 (show 0≤(t.length:Int)∧(t.length:Int)<281474976710656 by omega)]
 have w1:IntKind.i64.wrap ((s.length:Int) - (q:Int))=(t.length:Int):=by rw[w64 (by omega) (by omega)];omega
 have w2:IntKind.i64.wrap ((q:Int) + (t.length:Int))=(s.length:Int):=by rw[w64 (by omega) (by omega)];omega
 have w3:IntKind.i64.wrap ((s.length:Int) - (t.length:Int))=(q:Int):=by rw[w64 (by omega) (by omega)];omega
 have hf:f162p s (q:Int) (t.length:Int)=some true:=by simp[f162p,w1]
 have hC5:(f138_C5 s (q:Int) (t.length:Int)).run=some (t,(s.length:Int)):=by
  simp only[f138_C5,w2,w3]
  rw[slc_some ⟨by omega,by omega,by omega⟩]
  simp[d1]
 have hC1:(f138_C1 s (p:Int)).run=some (t,0,(s.length:Int)):=by
  simp only[f138_C1]
  rw[hC2,Option.bind_some]
  simp only[]
  rw[if_neg (by simp),if_neg (by simp),if_neg (by simp;omega),hf,Option.bind_some,if_neg (by simp),hC5,Option.bind_some]
 rw[Option.bind_some,if_neg (by simp),hC1,Option.bind_some]
 simp only[]
 rw[if_neg (by simp)]
theorem ent_short{s:List UInt8}(h5:s.length<5):f136 s 0=some (RecordEntry.mk 0 [],0,20):=by
 have o1:f161p s 0=some 0:=at_ok (s:=s) (a:=0) (Nat.zero_le _)
 have wl:IntKind.i64.wrap ((s.length:Int) - 0)=(s.length:Int):=by rw[w64 (by omega) (by omega)];omega
 have h:¬ 5≤(s.length:Int):=by omega
 simp only[f136,o1,Option.bind_some,f162p,wl,h]
 simp
theorem ent_flow{b0 b1 b2:UInt8}{rest s:List UInt8}(hS:b0::b1::b2::rest=s)(hs:s.length≤1500)(h5:5≤s.length){W:Nat}(hW:(W:Int)=256 * (b1.toNat:Int) + (b2.toNat:Int)) :
  (s.length<5 + W→f136 s 0=some (RecordEntry.mk 0 [],0,20)) ∧
  (∀ d ck post,rest=d++ck++post→d.length=W→ck=ckS (256 * (sumS ([b0,b1,b2]++d)).2 + (sumS ([b0,b1,b2]++d)).1)→f136 s 0=some (RecordEntry.mk (b0.toNat:Int) d,((5 + W:Nat):Int),0)):=by
 have o1:f161p s 0=some 0:=at_ok (s:=s) (a:=0) (Nat.zero_le _)
 have wl:IntKind.i64.wrap ((s.length:Int) - 0)=(s.length:Int):=by rw[w64 (by omega) (by omega)];omega
 have c1:IntKind.i64.wrap (0 + 3)=3:=rfl
 have c2:IntKind.i64.wrap (3 - 3)=0:=rfl
 have h3:slc? s 0 3=some [b0,b1,b2]:=by rw[slc_some ⟨by omega,by omega,by omega⟩,← hS];rfl
 have hc0:(0:Int)≤(b0.toNat:Int)∧(b0.toNat:Int)<256:=⟨by omega,by have:=b0.toNat_lt;omega⟩
 have hc1:(0:Int)≤(b1.toNat:Int)∧(b1.toNat:Int)<256:=⟨by omega,by have:=b1.toNat_lt;omega⟩
 have hc2:(0:Int)≤(b2.toNat:Int)∧(b2.toNat:Int)<256:=⟨by omega,by have:=b2.toNat_lt;omega⟩
 have hg1:at? [b0,b1,b2] 1=some b1:=rfl
 have hg2:at? [b0,b1,b2] 2=some b2:=rfl
 have hg0:at? [b0,b1,b2] 0=some b0:=rfl
 have v0:IntKind.i64.wrap (b0.toNat:Int)=(b0.toNat:Int):=w64 (by omega) (by omega)
 have v1:IntKind.i64.wrap (b1.toNat:Int)=(b1.toNat:Int):=w64 (by omega) (by omega)
 have v2:IntKind.i64.wrap (b2.toNat:Int)=(b2.toNat:Int):=w64 (by omega) (by omega)
 have hword:IntKind.i64.wrap ((BitVec.ofInt (IntKind.bits .i64) (IntKind.i64.wrap ((IntKind.i64.wrap (b1.toNat:Int)) * 2 ^ (min (Int.toNat 8) (IntKind.bits .i64)))) ||| BitVec.ofInt (IntKind.bits .i64) (IntKind.i64.wrap (b2.toNat:Int))).toNat:Int)=W:=by
  have e0:(2:Int) ^ (min (Int.toNat 8) (IntKind.bits .i64))=256:=by decide
  rw[e0,v1,v2,w64 (a:=(b1.toNat:Int) * 256) (by omega) (by omega),show IntKind.bits .i64=64 from rfl,or8 hc1 hc2,w64 (by omega) (by omega),hW]
 have x1:IntKind.i64.wrap (3 + (W:Int))=3 + W:=w64 (by omega) (by omega)
 have x2:IntKind.i64.wrap (3 + (W:Int) - W)=3:=by rw[w64 (by omega) (by omega)];omega
 have x4:IntKind.i64.wrap (3 + (W:Int) + 2)=5 + W:=by rw[w64 (by omega) (by omega)];omega
 have x5:IntKind.i64.wrap (5 + (W:Int) - 2)=3 + W:=by rw[w64 (by omega) (by omega)];omega
 have x6:IntKind.i64.wrap ((W:Int) + 2)=W + 2:=w64 (by omega) (by omega)
 have x7:IntKind.i64.wrap ((s.length:Int) - 3)=(s.length:Int) - 3:=w64 (by omega) (by omega)
 have hC1:(f136_C1 s 0).run=some ([b0,b1,b2],3):=by simp only[f136_C1,c1,c2,h3,Option.bind_some]
 have h5':(5:Int)≤(s.length:Int):=by omega
 have g1:f162p s 0 5=some true:=by simp only[f162p,wl,h5',decide_true]
 refine ⟨fun hf=>?_,fun d ck post hrest hd hck=>?_⟩
 ·have hf':¬ (W:Int) + 2≤(s.length:Int) - 3:=by omega
  have g2:f162p s 3 ((W:Int) + 2)=some false:=by simp only[f162p,x7,hf',decide_false]
  unfold f136
  rw[o1]
  simp only[Option.bind_some]
  rw[if_neg (by simp),g1]
  simp only[Option.bind_some]
  rw[if_neg (by simp),hC1]
  rw[Option.bind_some]
  simp only[]
  rw[hg1,Option.bind_some,hg2,Option.bind_some,hword,x6,g2,Option.bind_some]
  rw[if_pos (by simp)]
 ·have hckl:ck.length=2:=by rw[hck];rfl
  have hlen:s.length=5 + W + post.length:=by
   rw[← hS,hrest];simp only[List.length_cons,List.length_append,hd,hckl];omega
  have hf':(W:Int) + 2≤(s.length:Int) - 3:=by omega
  have g2:f162p s 3 ((W:Int) + 2)=some true:=by simp only[f162p,x7,hf',decide_true]
  have hs3:slc? s 3 (3 + (W:Int))=some d:=by
   rw[slc_some ⟨by omega,by omega,by omega⟩,show (3 + (W:Int)).toNat=W + 3 by omega,← hS,hrest]
   simp[← hd]
  have hs5:slc? s (3 + (W:Int)) (5 + (W:Int))=some ck:=by
   rw[slc_some ⟨by omega,by omega,by omega⟩,show (3 + (W:Int)).toNat=W + 3 by omega,show (5 + (W:Int)).toNat=W + 2 + 3 by omega,← hS,hrest]
   have e:(d++ck++post).take (W + 2)=d++ck:=by rw[List.take_append_of_le_length (by simp;omega),List.take_of_length_le (by simp;omega)]
   simp only[List.take_succ_cons,List.drop_succ_cons]
   rw[e,← hd,List.drop_left]
  have hcl:([b0,b1,b2]++d).length≤2000:=by rw[List.length_append];simp only[List.length_cons,List.length_nil];omega
  obtain ⟨⟨a1,a2⟩,a3,a4⟩:=sum_range ([b0,b1,b2]++d)
  have hcat:cat? [b0,b1,b2] d=some ([b0,b1,b2]++d):=cat_some (by simp only[List.length_cons,List.length_nil];omega)
  have h77:=f160_eq hcl
  obtain ⟨r,hr⟩:∃ r:Int,r=256 * (sumS ([b0,b1,b2]++d)).2 + (sumS ([b0,b1,b2]++d)).1:=⟨_,rfl⟩
  rw[← hr] at h77 hck
  have hrr:0≤r∧r<65536:=by omega
  have hC2:(f136_C2 s 3 b1 b2).run=some (d,3 + (W:Int)):=by simp only[f136_C2,hword,x1,x2,hs3,Option.bind_some]
  have hC3:(f136_C3 s (3 + (W:Int))).run=some (ck,5 + (W:Int)):=by simp only[f136_C3,x4,x5,hs5,Option.bind_some]
  unfold f136
  rw[o1]
  simp only[Option.bind_some]
  rw[if_neg (by simp),g1]
  simp only[Option.bind_some]
  rw[if_neg (by simp),hC1]
  rw[Option.bind_some]
  simp only[]
  rw[hg1,Option.bind_some,hg2,Option.bind_some,hword,x6,g2,Option.bind_some]
  rw[if_neg (by simp),hC2,Option.bind_some]
  simp only[]
  rw[hC3,Option.bind_some]
  simp only[]
  rw[hcat,Option.bind_some,h77,Option.bind_some,f159_eq hrr,Option.bind_some]
  rw[if_neg (by simp[hck]),hg0,Option.bind_some,v0]
  simp only[f136_J4]
  rw[show (5 + (W:Int))=((5 + W:Nat):Int) by omega]
def entS(d:List UInt8):List UInt8:=b8 85::b8 (IntKind.u8.wrap ((d.length:Int) / 256))::b8 (IntKind.u8.wrap (d.length:Int))::(d++ckS (256 * (sumS ([b8 85,b8 (IntKind.u8.wrap ((d.length:Int) / 256)),b8 (IntKind.u8.wrap (d.length:Int))]++d)).2 + (sumS ([b8 85,b8 (IntKind.u8.wrap ((d.length:Int) / 256)),b8 (IntKind.u8.wrap (d.length:Int))]++d)).1))
theorem entS_len(d:List UInt8):(entS d).length=d.length + 5:=by
 unfold entS ckS
 simp
theorem ent_enc{d:List UInt8}(hd:d.length≤1000):f135 (RecordEntry.mk 85 d)=some (entS d,0):=by
 have hck:∀ r,(ckS r).length=2:=fun r=>rfl
 have hc1:cat? (List.map b8 [IntKind.u8.wrap 85]) (ckS (d.length:Int))=some (List.map b8 [IntKind.u8.wrap 85]++ckS (d.length:Int)):=cat_some (by simp[hck])
 have hc2:cat? (List.map b8 [IntKind.u8.wrap 85]++ckS (d.length:Int)) d=some (List.map b8 [IntKind.u8.wrap 85]++ckS (d.length:Int)++d):=cat_some (by simp[hck];omega)
 have hl:(List.map b8 [IntKind.u8.wrap 85]++ckS (d.length:Int)++d).length≤2000:=by simp[hck];omega
 have h1:=f160_eq hl
 obtain ⟨⟨a1,a2⟩,a3,a4⟩:=sum_range (List.map b8 [IntKind.u8.wrap 85]++ckS (d.length:Int)++d)
 have hx:List.map b8 [IntKind.u8.wrap 85]++ckS (d.length:Int)++d=[b8 85,b8 (IntKind.u8.wrap ((d.length:Int) / 256)),b8 (IntKind.u8.wrap (d.length:Int))]++d:=rfl
 unfold f135
 simp only[Option.bind_some]
 rw[if_neg (by simp),if_neg (by simp),if_neg (by simp;omega),f159_eq (by omega)]
 simp only[Option.bind_some,hc1,hc2]
 rw[h1]
 simp only[Option.bind_some]
 rw[f159_eq (by omega)]
 simp only[Option.bind_some]
 rw[cat_some (by rw[hck];omega)]
 rw[hx]
 unfold entS
 simp
theorem ent_dec{d:List UInt8}(hd:d.length≤1000):f136 (entS d) 0=some (RecordEntry.mk 85 d,((entS d).length:Int),0)∧f136 (entS d++[97]) 0=some (RecordEntry.mk 85 d,((entS d).length:Int),0) ∧
  ∀ k,k<(entS d).length→f136 ((entS d).take k) 0=some (RecordEntry.mk 0 [],0,20):=by
 have hl:=entS_len d
 have h1:IntKind.u8.wrap ((d.length:Int) / 256)=(d.length:Int) / 256:=by rw[IntKind.wrap_u8];omega
 have h2:IntKind.u8.wrap (d.length:Int)=(d.length:Int) % 256:=IntKind.wrap_u8 _
 have hb0:((b8 85).toNat:Int)=85:=b8_nat (by omega)
 have hW:((d.length:Nat):Int)=256 * ((b8 (IntKind.u8.wrap ((d.length:Int) / 256))).toNat:Int) + ((b8 (IntKind.u8.wrap (d.length:Int))).toNat:Int):=by
  rw[h1,h2,b8_nat (by omega),b8_nat (by omega)];omega
 have hlast:((5 + d.length:Nat):Int)=((entS d).length:Int):=by omega
 refine ⟨?_,?_,fun k hk=>?_⟩
 ·have:=(ent_flow (s:=entS d) rfl (by omega) (by omega) hW).2 d _ [] (by rw[List.append_nil]) rfl rfl
  rw[hb0,hlast] at this
  exact this
 ·have:=(ent_flow (s:=entS d++[97]) rfl (by simp;omega) (by simp;omega) hW).2 d _ [97] rfl rfl rfl
  rw[hb0,hlast] at this
  exact this
 ·by_cases h5:k<5
  ·exact ent_short (by rw[List.length_take];omega)
  ·obtain ⟨k',rfl⟩:∃ k',k=k' + 3:=⟨k - 3,by omega⟩
   have hlk:((entS d).take (k' + 3)).length=k' + 3:=by rw[List.length_take];omega
   exact (ent_flow (b0:=b8 85) (rest:=((entS d).drop 3).take k') (s:=(entS d).take (k' + 3)) (by unfold entS;rfl) (by omega) (by omega) hW).1 (by omega)
def endI(p:NetworkPacket):Int:=if p.fEnd=true then 1 else 0
def datS(p:NetworkPacket):List UInt8:=vE 7 (2 * p.fSource)++(vE 7 (2 * p.fUniverse)++(vE 7 (2 * p.fPriority)++(vE 7 (2 * p.fSeq)++(vE 7 (2 * p.fSync)++(vE 7 (2 * endI p)++(vE 7 (2 * (p.fSlots.length:Int))++p.fSlots))))))
theorem dat_len{p:NetworkPacket}(h:p.fSlots.length≤512):(datS p).length≤600:=by
 have l:=fun z=>(vE_len 7 z).2
 have l1:=l (2 * p.fSource)
 have l2:=l (2 * p.fUniverse)
 have l3:=l (2 * p.fPriority)
 have l4:=l (2 * p.fSeq)
 have l5:=l (2 * p.fSync)
 have l6:=l (2 * endI p)
 have l7:=l (2 * (p.fSlots.length:Int))
 unfold datS
 simp only[List.length_append]
 omega
theorem f88_eq{p:NetworkPacket}(c1:f59 p=some 0):f88 p=some (entS (datS p),0):=by
 obtain ⟨r1,r2,r3,r4,r5,r6⟩:=chk_range c1
 have key:∀ n:Int,n=endI p→(f88_J1 p).run n=some (entS (datS p),0):=fun n hn=>by
  have hn01:0≤n∧n<281474976710656:=by rw[hn];unfold endI;split<;>omega
  have es:IntKind.i64.wrap p.fSource=p.fSource:=w64 (by omega) (by omega)
  have a1:=f133_eq (n:=p.fSource) (by omega)
  have a2:=f133_eq (n:=p.fUniverse) (by omega)
  have a3:=f133_eq (n:=p.fPriority) (by omega)
  have a4:=f133_eq (n:=p.fSeq) (by omega)
  have a5:=f133_eq (n:=p.fSync) (by omega)
  have a6:=f133_eq hn01
  have a7:=f133_eq (n:=(p.fSlots.length:Int)) (by omega)
  have hdat:datS p=vE 7 (2 * p.fSource)++(vE 7 (2 * p.fUniverse)++(vE 7 (2 * p.fPriority)++(vE 7 (2 * p.fSeq)++(vE 7 (2 * p.fSync)++(vE 7 (2 * n)++(vE 7 (2 * (p.fSlots.length:Int))++p.fSlots)))))):=by unfold datS;rw[hn]
  have hdl:=dat_len r6
  have l:=fun z=>(vE_len 7 z).2
  have l1:=l (2 * p.fSource)
  have l2:=l (2 * p.fUniverse)
  have l3:=l (2 * p.fPriority)
  have l4:=l (2 * p.fSeq)
  have l5:=l (2 * p.fSync)
  have l6:=l (2 * n)
  have l7:=l (2 * (p.fSlots.length:Int))
  generalize vE 7 (2 * p.fSource)=v1 at *
  generalize vE 7 (2 * p.fUniverse)=v2 at *
  generalize vE 7 (2 * p.fPriority)=v3 at *
  generalize vE 7 (2 * p.fSeq)=v4 at *
  generalize vE 7 (2 * p.fSync)=v5 at *
  generalize vE 7 (2 * n)=v6 at *
  generalize vE 7 (2 * (p.fSlots.length:Int))=v7 at *
  have b7:f134 p.fSlots=some (v7++p.fSlots,0):=by
   unfold f134
   rw[if_neg (by simp;omega),a7]
   simp only[Option.bind_some]
   rw[cat_some (by omega)]
   rfl
  have k0:cat? [] v1=some v1:=by rw[cat_some (by simp;omega)];rfl
  have k1:cat? v1 v2=some (v1++v2):=cat_some (by omega)
  have k2:cat? (v1++v2) v3=some (v1++v2++v3):=cat_some (by simp;omega)
  have k3:cat? (v1++v2++v3) v4=some (v1++v2++v3++v4):=cat_some (by simp;omega)
  have k4:cat? (v1++v2++v3++v4) v5=some (v1++v2++v3++v4++v5):=cat_some (by simp;omega)
  have k5:cat? (v1++v2++v3++v4++v5) v6=some (v1++v2++v3++v4++v5++v6):=cat_some (by simp;omega)
  have k6:cat? (v1++v2++v3++v4++v5++v6) (v7++p.fSlots)=some (datS p):=by
   rw[cat_some (by simp;omega),hdat];simp
  have hent:=ent_enc (d:=datS p) (by omega)
  simp only[f88_J1,es,a1,a2,a3,a4,a5,a6,b7,k0,k1,k2,k3,k4,k5,k6,hent,Option.bind_some]
  simp
 unfold f88
 rw[c1]
 simp only[Option.bind_some]
 rw[if_neg (by simp)]
 cases he:p.fEnd
 ·simp[key 0 (by unfold endI;rw[he];rfl)]
 ·simp[key 1 (by unfold endI;rw[he];rfl)]
theorem f89_eq{p:NetworkPacket}(c1:f59 p=some 0){s:List UInt8}(h:f136 s 0=some (RecordEntry.mk 85 (datS p),(s.length:Int),0)):f89 s=some (p,0):=by
 obtain ⟨r1,r2,r3,r4,r5,r6⟩:=chk_range c1
 have hd:(datS p).length≤1500:=by have:=dat_len r6;omega
 have he01:0≤endI p∧endI p≤1:=by unfold endI;split<;>omega
 obtain ⟨i1,d1⟩:=int_dec hd (n:=p.fSource) (by omega) (p:=0) (post:=_) (by rw[List.drop_zero];unfold datS;rfl)
 obtain ⟨i2,d2⟩:=int_dec hd (n:=p.fUniverse) (by omega) d1
 obtain ⟨i3,d3⟩:=int_dec hd (n:=p.fPriority) (by omega) d2
 obtain ⟨i4,d4⟩:=int_dec hd (n:=p.fSeq) (by omega) d3
 obtain ⟨i5,d5⟩:=int_dec hd (n:=p.fSync) (by omega) d4
 obtain ⟨i6,d6⟩:=int_dec hd (n:=endI p) (by omega) d5
 have i7:=str_dec hd (by omega) d6
 have i1':f137 (datS p) 0=some (p.fSource,((0 + (vE 7 (2 * p.fSource)).length:Nat):Int),0):=i1
 unfold f89
 rw[h]
 simp only[Option.bind_some]
 rw[if_neg (by simp),if_neg (by simp),if_neg (by simp),i1']
 simp only[Option.bind_some]
 rw[if_neg (by simp),i2]
 simp only[Option.bind_some]
 rw[if_neg (by simp),i3]
 simp only[Option.bind_some]
 rw[if_neg (by simp),i4]
 simp only[Option.bind_some]
 rw[if_neg (by simp),i5]
 simp only[Option.bind_some]
 rw[if_neg (by simp),i6]
 simp only[Option.bind_some]
 rw[if_neg (by simp)]
 simp only[f89_J1,i7,Option.bind_some]
 rw[if_neg (by simp),if_neg (by simp),if_neg (by simp;omega),f93_eq,wi_iff.2 he01]
 simp only[Option.bind_some]
 rw[if_neg (by simp)]
 have hsrc:IntKind.u64.wrap p.fSource=p.fSource:=by rw[IntKind.wrap_u64];omega
 have hend:decide (endI p=1)=p.fEnd:=by unfold endI;cases p.fEnd<;>rfl
 rw[hsrc,hend,show NetworkPacket.mk p.fSource p.fUniverse p.fPriority p.fSeq p.fSync p.fEnd p.fSlots=p from rfl,c1]
 simp
end Go.Proofs.Ytgfohogbechkkaa.Net
