import Derived.Test.YtgjfhplkochbpaaGreatAU1
namespace Go.Proofs.YtgjfhplkochbpaaGreat
open Go Go.Ab
set_option linter.unusedSimpArgs false
set_option linter.unusedVariables false
set_option maxHeartbeats 400000
theorem or8{x y:Int}(hx:0≤x∧x<72057594037927936)(hy:0≤y∧y<256):(((BitVec.ofInt 64 (x * 256)) ||| BitVec.ofInt 64 y).toNat:Int)=256 * x + y:=by
 obtain ⟨n,rfl⟩:=Int.eq_ofNat_of_zero_le hx.1
 obtain ⟨k,rfl⟩:=Int.eq_ofNat_of_zero_le hy.1
 rw[BitVec.toNat_or,BitVec.toNat_ofInt,BitVec.toNat_ofInt]
 have h1:(((n:Int) * 256) % ((2 ^ 64:Nat):Int)).toNat=2 ^ 8 * n:=by omega
 have h2:(((k:Int)) % ((2 ^ 64:Nat):Int)).toNat=k:=by omega
 rw[h1,h2,← Nat.two_pow_add_eq_or_of_lt (by omega)]
 omega
def numStep(n:Int)(b:UInt8):Int:=(n * 256 + b.toNat) % 18446744073709551616
def num(s:List UInt8):Int:=s.foldl numStep 0
theorem numStep_eq(n:Int)(b:UInt8):IntKind.u64.wrap ((BitVec.ofInt (IntKind.bits .u64) (IntKind.u64.wrap (n * 2 ^ (min (Int.toNat 8) (IntKind.bits .u64)))) ||| BitVec.ofInt (IntKind.bits .u64) (IntKind.u64.wrap (b.toNat:Int))).toNat:Int)=numStep n b:=by
 have hb:b.toNat<256:=b.toNat_lt
 have e1:(2:Int) ^ (min (Int.toNat 8) (IntKind.bits .u64))=256:=by decide
 rw[e1,show IntKind.bits .u64=64 from rfl]
 have e2:IntKind.u64.wrap (n * 256)=(n % 72057594037927936) * 256:=by rw[IntKind.wrap_u64];omega
 have e3:IntKind.u64.wrap (b.toNat:Int)=b.toNat:=by rw[IntKind.wrap_u64];omega
 rw[e2,e3,or8 ⟨by omega,by omega⟩ ⟨by omega,by omega⟩,IntKind.wrap_u64]
 unfold numStep
 omega
theorem walk_fold{τ A E:Type}(f:A → τ → A)(g:A→E):∀ (xs:List τ) (k:Nat) (a:A),walkL (fun _ a x=>.inl (f a x)) g k a xs=g (xs.foldl f a)
 | [],_,_=>rfl
 | x::xs,k,a=>by simp only[walkL];rw[walk_fold f g xs];rfl
theorem run_fold{τ A E:Type}{L:Lp (A×Int) E}(xs:List τ)(f:A → τ → A)(g:A→E)(hl:xs.length≤9223372036854775807)
  (hs:∀ (k:Nat) (a:A) x,Rnd xs k x→L.body (a,(k:Int))=some (.next (f a x,((k + 1:Nat):Int)))) (he:∀ a,L.body (a,((xs.length:Nat):Int))=some (.brk (g a))) (a0:A):L.run (a0,0)=some (g (xs.foldl f a0)):=by
 have hrun:=run_walk (L:=L) xs (fun k (a:A)=>(a,(k:Int))) (fun _ a x=>.inl (f a x)) g (fun _ _=>True) (fun k a x hx _=>⟨hs k a x (Rnd.mk' hx hl),fun _ _=>trivial⟩) (fun a _=>he a) a0 trivial
 rw[show ((a0,0):A×Int)=(a0,((0:Nat):Int)) from rfl,hrun,walk_fold]
theorem f76_eq{s:List UInt8}(hl:s.length≤9223372036854775807):f76 s=some (num s):=by
 unfold f76
 rw[run_fold (L:=f76_L1 s) s numStep (fun n=>n) hl (fun k a x hr=>by
  simp only[f76_L1]
  rw[if_pos hr.lt,hr.at',hr.nxt,Option.bind_some,numStep_eq]) (fun a=>by simp[f76_L1])]
 rfl
theorem f53L2_eq{r:ApiMessage×Int}{m:ApiMessage}(hl:r.1.fData.length≤9223372036854775807):(f53_L2 r m).run (0,0)=some (num r.1.fData):=by
 rw[run_fold (L:=f53_L2 r m) r.1.fData numStep (fun n=>n) hl (fun k a x hr=>by
  simp only[f53_L2]
  rw[if_pos hr.lt,hr.at',hr.nxt,Option.bind_some,numStep_eq]) (fun a=>by simp[f53_L2])]
 rfl
theorem num_nonneg(s:List UInt8):0≤num s∧num s<18446744073709551616:=by
 have key:∀ (s:List UInt8) (a:Int),(0≤a∧a<18446744073709551616)→0≤s.foldl numStep a∧s.foldl numStep a<18446744073709551616:=fun s=>by
  induction s with
  | nil=>intro a h;exact h
  | cons b s ih=>intro a h;exact ih _ (by unfold numStep;omega)
 exact key s 0 (by omega)
theorem num_lt{s:List UInt8}(k:Nat)(hs:s.length≤k)(hk:k≤7):num s<256 ^ k:=by
 have key:∀ (s:List UInt8) (a:Int) (j:Nat),0≤a→a<256 ^ j→s.length + j≤k→s.foldl numStep a<256 ^ k:=fun s=>by
  induction s with
  | nil =>
   intro a j h0 h hj
   have h1:256 ^ j≤256 ^ k:=Nat.pow_le_pow_right (by decide) (by simpa using hj)
   have h2:((256 ^ j:Nat):Int)≤((256 ^ k:Nat):Int):=by omega
   rw[Int.natCast_pow,Int.natCast_pow] at h2
   exact Int.lt_of_lt_of_le h h2
  | cons b s ih =>
   intro a j h0 h hj
   have hb:b.toNat<256:=b.toNat_lt
   refine ih _ (j + 1) (by unfold numStep;omega) ?_ (by simp at hj;omega)
   unfold numStep
   have:(256:Int) ^ (j + 1)=256 ^ j * 256:=Int.pow_succ ..
   have hm:(a * 256 + b.toNat) % 18446744073709551616≤a * 256 + b.toNat:=by omega
   omega
 exact key s 0 0 (by decide) (by decide) (by omega)
def be(k:Nat)(n:Int):List UInt8:=(List.range k).map fun i=>b8 (n / 256 ^ (k - 1 - i) % 256)
theorem be_len(k:Nat)(n:Int):(be k n).length=k:=by simp[be]
theorem set_map{k:Nat}{f:Nat→Int}{p:Nat}{v:Int}:((List.range k).map f).set p v=(List.range k).map fun j=>if j=p then v else f j:=by
 apply List.ext_getElem (by simp)
 intro i h1 h2
 rw[List.getElem_set]
 simp only[List.getElem_map,List.getElem_range]
 by_cases h:p=i
 ·subst h;simp
 ·rw[if_neg h,if_neg (by omega)]
theorem b8_u8(x:Int):b8 (IntKind.u8.wrap x)=b8 (x % 256):=by rw[IntKind.wrap_u8]
theorem shr{n:Int}(h:0≤n){j:Nat}(hj:j≤7):Int.fdiv n (2 ^ (min (Int.toNat (IntKind.i64.wrap (8 * (j:Int)))) (IntKind.bits .u64)))=n / 256 ^ j:=by
 rw[w64 (by omega) (by omega),Int.fdiv_eq_ediv_of_nonneg _ (Int.le_of_lt (Int.pow_pos (by decide)))]
 have:min (Int.toNat (8 * (j:Int))) (IntKind.bits .u64)=8 * j:=by show min _ 64=_;omega
 rw[this,Int.pow_mul]
 rfl
theorem must_some{p:Prop}[Decidable p](h:p):must? p=some ():=if_pos h
theorem mkv_some{τ : Type}{k:Nat}{bytes:Nat}{d : τ}(h:0<k∧k≤100)(hb:bytes≤100):mkv? (k:Int) bytes d=some (List.replicate k d):=by
 unfold mkv?
 have:k * bytes≤100 * 100:=Nat.mul_le_mul h.2 hb
 rw[if_pos ⟨by omega,by unfold maxStr;omega,by unfold room;simp only[Int.toNat_natCast];omega⟩]
 simp
theorem f83_eq{n:Int}{k:Nat}(hn:0≤n)(hk:0<k∧k≤8):f83 n k=some (be k n):=by
 unfold f83
 rw[mkv_some (by omega) (by omega),Option.bind_some]
 let g:Nat→Int:=fun i=>IntKind.u8.wrap (n / 256 ^ (k - 1 - i))
 let st:Nat→Int×List Int:=fun i=>((i:Int),(List.range k).map fun j=>if j<i then g j else 0)
 have hL:(f83_L1 (List.replicate k 0) k n).run (0,List.replicate k 0)=some ((List.range k).map g):=by
  have h0:((0,List.replicate k 0):Int×List Int)=st 0:=by
   simp only[st]
   refine Prod.ext rfl ?_
   apply List.ext_getElem (by simp)
   intro i h1 h2;simp
  rw[h0]
  refine run_count st k ?_ 0 (by omega) ?_
  ·simp only[f83_L1,st,List.length_replicate]
   rw[if_neg (by simp)]
   refine congrArg some (congrArg Ctl.brk ?_)
   apply List.map_congr_left
   intro j hj
   rw[if_pos (List.mem_range.1 hj)]
  ·intro i _ hi
   have hat:at? ((List.range k).map fun j=>if j<i then g j else 0) (i:Int)=some (0:Int):=at_nat (by simp[hi])
   have hw:IntKind.i64.wrap ((IntKind.i64.wrap ((k:Int) - 1)) - (i:Int))=((k - 1 - i:Nat):Int):=by
    rw[w64 (a:=(k:Int) - 1) (by omega) (by omega),w64 (by omega) (by omega)];omega
   simp only[f83_L1,st,List.length_replicate]
   rw[if_pos (by simpa using hi),hw,must_some (p:=(0:Int)≤_) (by rw[w64 (by omega) (by omega)];omega),Option.bind_some,hat,Option.bind_some,shr hn (by omega),w64_succ (by omega),Int.toNat_natCast,set_map]
   refine congrArg some (congrArg Ctl.next (Prod.ext rfl ?_))
   apply List.map_congr_left
   intro j _
   by_cases h:j=i
   ·subst h;simp[g]
   ·rw[if_neg h]
    by_cases h2:j<i
    ·rw[if_pos h2,if_pos (by omega)]
    ·rw[if_neg h2,if_neg (by omega)]
 rw[hL,Option.bind_some]
 refine congrArg some ?_
 unfold be
 rw[List.map_map]
 apply List.map_congr_left
 intro j hj
 simp only[Function.comp,g,b8_u8]
theorem f79_eq{n:Int}{k:Nat}(hn:0≤n)(hk:0<k∧k≤8):f79 n k=some (be k n):=by
 unfold f79
 rw[mkv_some (by omega) (by omega),Option.bind_some]
 let g:Nat→Int:=fun i=>IntKind.u8.wrap (n / 256 ^ (k - 1 - i))
 let st:Nat→Int×List Int:=fun i=>((i:Int),(List.range k).map fun j=>if k - 1 - j<i then g j else 0)
 have hL:(f79_L1 (List.replicate k 0) k n).run (0,List.replicate k 0)=some ((List.range k).map g):=by
  have h0:((0,List.replicate k 0):Int×List Int)=st 0:=by
   simp only[st]
   refine Prod.ext rfl ?_
   apply List.ext_getElem (by simp)
   intro i h1 h2;simp
  rw[h0]
  refine run_count st k ?_ 0 (by omega) ?_
  ·simp only[f79_L1,st,List.length_replicate]
   rw[if_neg (by simp)]
   refine congrArg some (congrArg Ctl.brk ?_)
   apply List.map_congr_left
   intro j hj
   rw[if_pos (by omega)]
  ·intro i _ hi
   have hat:at? ((List.range k).map fun j=>if k - 1 - j<i then g j else 0) ((k - 1 - i:Nat):Int)=some (0:Int):=at_nat (by
    rw[List.getElem?_map,List.getElem?_range (by omega),Option.map_some,if_neg (by omega)])
   have hw:IntKind.i64.wrap ((IntKind.i64.wrap ((k:Int) - 1)) - (i:Int))=((k - 1 - i:Nat):Int):=by
    rw[w64 (a:=(k:Int) - 1) (by omega) (by omega),w64 (by omega) (by omega)];omega
   simp only[f79_L1,st,List.length_replicate]
   rw[if_pos (by simpa using hi),must_some (p:=(0:Int)≤_) (by rw[w64 (by omega) (by omega)];omega),Option.bind_some,hw,hat,Option.bind_some,shr hn (by omega),w64_succ (by omega),Int.toNat_natCast,set_map]
   refine congrArg some (congrArg Ctl.next (Prod.ext rfl ?_))
   apply List.map_congr_left
   intro j hj
   have hj:=List.mem_range.1 hj
   by_cases h:j=k - 1 - i
   ·have h3:k - 1 - j=i:=by omega
    rw[if_pos h,if_pos (by omega)]
    simp only[g]
    rw[h3]
   ·rw[if_neg h]
    by_cases h2:k - 1 - j<i
    ·rw[if_pos h2,if_pos (by omega)]
    ·rw[if_neg h2,if_neg (by omega)]
 rw[hL,Option.bind_some]
 refine congrArg some ?_
 unfold be
 rw[List.map_map]
 apply List.map_congr_left
 intro j hj
 simp only[Function.comp,g,b8_u8]
theorem b8_toNat{x:Int}(h:0≤x∧x<256):((b8 x).toNat:Int)=x:=by
 unfold b8
 rw[UInt8.toNat_ofNat']
 omega
theorem num_be1{n:Int}(h:0≤n∧n<256):num (be 1 n)=n:=by
 simp only[be,num,List.range,List.range.loop,List.map,List.foldl,numStep]
 rw[b8_toNat (by omega)]
 omega
theorem num_be2{n:Int}(h:0≤n∧n<65536):num (be 2 n)=n:=by
 simp only[be,num,List.range,List.range.loop,List.map,List.foldl,numStep]
 rw[b8_toNat (by omega),b8_toNat (by omega)]
 omega
theorem num_be6{n:Int}(h:0≤n∧n<281474976710656):num (be 6 n)=n:=by
 simp only[be,num,List.range,List.range.loop,List.map,List.foldl,numStep]
 rw[b8_toNat (by omega),b8_toNat (by omega),b8_toNat (by omega),b8_toNat (by omega),b8_toNat (by omega),b8_toNat (by omega)]
 omega
def isId(x:Int):Bool:=decide (0<x) && decide (x<281474976710655)
theorem f74_eq(x:Int):f74 x=some (isId x):=by
 unfold f74 isId
 by_cases h:0<x<;>simp[h]
theorem isId_iff{x:Int}:isId x=true↔0<x∧x<281474976710655:=by simp[isId]
theorem f75_eq(k:Int):f75 k=some (if k=1 then (12,true) else if k=2 then (0,true) else if k=3 then (0,true) else if k=7 then (1,true) else (0,false)):=by
 unfold f75
 simp only[look?,mset,mget]
 by_cases h1:k=1
 ·subst h1;rfl
 by_cases h2:k=2
 ·subst h2;rfl
 by_cases h3:k=3
 ·subst h3;rfl
 by_cases h7:k=7
 ·subst h7;rfl
 have e:(mset (mset (mset (mset ([]:List (Int×Int)) 1 12) 2 0) 3 0) 7 1)=[(1,12),(2,0),(3,0),(7,1)]:=by decide
 simp only[mset] at e
 simp only[h1,h2,h3,h7,if_false]
 have e2:∀ m:List (Int×Int),m=[(1,12),(2,0),(3,0),(7,1)]→mget m k=none:=fun m hm=>by subst hm;simp[mget,h1,h2,h3,h7]
 rw[e2 _ (by decide)]
 rfl
structure GoodM (m:ApiMessage):Prop where
 to:isId m.fTo=true∨m.fTo=281474976710655
 from_:isId m.fFrom=true
 seq:0≤m.fSeq∧m.fSeq≤255
 kind:1≤m.fKind∧m.fKind≤7
 param:0≤m.fParam∧m.fParam≤65535
 len:m.fData.length≤255
 k1:m.fKind=1→m.fData.length=12∧isId (num (m.fData.take 6))=true∧isId (num (m.fData.drop 6))=true∧num (m.fData.take 6)≤num (m.fData.drop 6)
 k2:m.fKind=2→m.fData.length=0
 k3:m.fKind=3→m.fData.length=0
 k7:m.fKind=7→m.fData.length=1
theorem J2_run{m:ApiMessage}(h:m.fKind=1→m.fData.length=12):(f48_J2 m).run ()=some (if m.fKind≠1 then 0 else if isId (num (m.fData.take 6))=false then 2 else if isId (num (m.fData.drop 6))=false then 2 else if num (m.fData.drop 6)<num (m.fData.take 6) then 9 else 0):=by
 simp only[f48_J2]
 by_cases h1:m.fKind=1
 ·have hl:=h h1
  have e1:slc? m.fData 0 6=some (m.fData.take 6):=by rw[slc_some (by omega)];rfl
  have e2:slc? m.fData 6 ((m.fData.length:Nat):Int)=some (m.fData.drop 6):=by
   rw[slc_some (by omega),Int.toNat_natCast,List.take_length];rfl
  rw[e1,e2]
  simp only[h1,Option.bind_some,f76_eq (s:=m.fData.take 6) (by simp;omega),f76_eq (s:=m.fData.drop 6) (by simp;omega),f74_eq]
  cases h2:isId (num (m.fData.take 6))
  ·simp
  cases h3:isId (num (m.fData.drop 6))
  ·simp
  by_cases h4:num (m.fData.drop 6)<num (m.fData.take 6)<;>simp[h4]
 ·simp[h1]
theorem J1_run(m:ApiMessage):∃ e,(f48_J1 m).run ()=some e:=by
 simp only[f48_J1]
 rw[f75_eq,Option.bind_some]
 by_cases h1:m.fKind=1
 ·by_cases hl:m.fData.length=12
  ·have hl':((m.fData.length:Nat):Int)=12:=by omega
   simp only[h1,if_true,hl']
   exact ⟨_,J2_run fun _=>hl⟩
  ·have hl':((m.fData.length:Nat):Int)≠12:=by omega
   simp only[h1,if_true,hl',ne_eq,not_false_eq_true,decide_true]
   exact ⟨_,rfl⟩
 ·have hJ:=J2_run (m:=m) fun h=>absurd h h1
  rw[if_neg h1]
  generalize (if m.fKind=2 then ((0:Int),true) else if m.fKind=3 then (0,true) else if m.fKind=7 then (1,true) else (0,false))=q
  obtain ⟨a,b⟩:=q
  cases b
  ·exact ⟨_,hJ⟩
  ·by_cases h:((m.fData.length:Nat):Int)≠a
   ·exact ⟨14,by simp[h]⟩
   ·refine ⟨_,Eq.trans ?_ hJ⟩
    simp[h]
theorem J1_good{m:ApiMessage}(g:GoodM m):(f48_J1 m).run ()=some 0:=by
 simp only[f48_J1]
 rw[f75_eq,Option.bind_some]
 have hJ:=J2_run (m:=m) fun h=>(g.k1 h).1
 have hz:(if m.fKind≠1 then (0:Int) else if isId (num (m.fData.take 6))=false then 2 else if isId (num (m.fData.drop 6))=false then 2 else if num (m.fData.drop 6)<num (m.fData.take 6) then 9 else 0)=0:=by
  by_cases h1:m.fKind=1
  ·obtain ⟨_,h2,h3,h4⟩:=g.k1 h1
   have:¬ num (m.fData.drop 6)<num (m.fData.take 6):=by omega
   simp[h1,h2,h3,this]
  ·simp[h1]
 rw[hz] at hJ
 rw[hJ]
 by_cases h1:m.fKind=1
 ·have:=(g.k1 h1).1
  simp[h1,this]
 by_cases h2:m.fKind=2
 ·have:=g.k2 h2
  simp[h2,this]
 by_cases h3:m.fKind=3
 ·have:=g.k3 h3
  simp[h3,this]
 by_cases h7:m.fKind=7
 ·have:=g.k7 h7
  simp[h7,this]
 simp[h1,h2,h3,h7]
theorem f48_tot(m:ApiMessage):∃ e,f48 m=some e:=by
 obtain ⟨e,hJ⟩:=J1_run m
 unfold f48
 simp only[f74_eq,Option.bind_some,hJ]
 repeat' split
 all_goals exact ⟨_,rfl⟩
theorem f48_good{m:ApiMessage}(g:GoodM m):f48 m=some 0:=by
 unfold f48
 have hs:=g.seq
 have hk:=g.kind
 have hp:=g.param
 have hl:=g.len
 have c1:¬ m.fSeq<0:=by omega
 have c2:¬ 255<m.fSeq:=by omega
 have c3:¬ m.fKind<1:=by omega
 have c4:¬ 7<m.fKind:=by omega
 have c5:¬ m.fParam<0:=by omega
 have c6:¬ 65535<m.fParam:=by omega
 have c7:¬ (255:Int)<((m.fData.length:Nat):Int):=by omega
 simp only[f74_eq,Option.bind_some,J1_good g,g.from_,c1,c2,c3,c4,c5,c6,c7,decide_false,Bool.not_true,Bool.false_eq_true,if_false]
 rcases g.to with h | h
 ·simp[h]
 ·simp[h]
theorem f84_good{m:ApiMessage}(g:GoodM m):f84 m=some (m,0):=by simp[f84,f48_good g]
theorem f84_tot(m:ApiMessage):∃ e,f84 m=some (if e=0 then m else ⟨0,0,0,0,0,[]⟩,e):=by
 obtain ⟨e,h⟩:=f48_tot m
 refine ⟨e,?_⟩
 simp only[f84,h,Option.bind_some]
 by_cases he:e=0<;>simp[he]
theorem f51_eq(k:Int):f51 k=some (decide (k=6) || decide (k=7)):=by
 unfold f51
 by_cases h:k=6<;>simp[h]
theorem f119_good{m:ApiMessage}(g:GoodM m)(h6:m.fKind≠6)(h7:m.fKind≠7):f119 m=some 0:=by
 simp[f119,f48_good g,f51_eq,h6,h7]
theorem f33_tot(a b:ApiMessage):∃ r,f33 a b=some r:=by
 obtain ⟨x,hx⟩:=f48_tot a
 obtain ⟨y,hy⟩:=f48_tot b
 unfold f33
 simp only[hx,hy,f51_eq,Option.bind_some]
 repeat' split
 all_goals exact ⟨_,rfl⟩
def ansM(m:ApiMessage)(id:Int)(data:List UInt8):ApiMessage:=⟨m.fFrom,id,m.fSeq,6,m.fParam,data⟩
theorem ansM_good{m:ApiMessage}(g:GoodM m){id:Int}(hi:isId id=true){data:List UInt8}(hl:data.length≤255):GoodM (ansM m id data) where
 to:=.inl g.from_
 from_:=hi
 seq:=g.seq
 kind:=by simp[ansM]
 param:=g.param
 len:=hl
 k1 h:=by simp[ansM] at h
 k2 h:=by simp[ansM] at h
 k3 h:=by simp[ansM] at h
 k7 h:=by simp[ansM] at h
theorem f78_good{m:ApiMessage}(g:GoodM m)(h6:m.fKind≠6)(h7:m.fKind≠7){id:Int}(hi:isId id=true){data:List UInt8}(hl:data.length≤255):f78 m id data=some (ansM m id data,0):=by
 have:=f84_good (ansM_good g hi hl)
 simp only[f78,f119_good g h6 h7,Option.bind_some,ne_eq,not_true_eq_false,decide_false,Bool.false_eq_true,if_false]
 rw[show ApiMessage.mk m.fFrom id m.fSeq 6 m.fParam data=ansM m id data from rfl,this]
 rfl
theorem f33_ans{m:ApiMessage}(g:GoodM m)(h6:m.fKind≠6)(h7:m.fKind≠7){id:Int}(hi:isId id=true){data:List UInt8}(hl:data.length≤255)(ht:m.fTo=281474976710655∨m.fTo=id):f33 m (ansM m id data)=some true:=by
 have hg:=f48_good (ansM_good g hi hl)
 simp only[f33,f48_good g,hg,f51_eq,Option.bind_some]
 rcases ht with h | h<;>simp[h6,h7,ansM,h]
def seekM(frm seq lo hi:Int):ApiMessage:=⟨281474976710655,frm,seq,1,0,be 6 lo++be 6 hi⟩
theorem be_split(lo hi:Int):(be 6 lo++be 6 hi).take 6=be 6 lo∧(be 6 lo++be 6 hi).drop 6=be 6 hi:=by
 have:=be_len 6 lo
 exact ⟨by rw[List.take_append_of_le_length (by omega),List.take_of_length_le (by omega)],by rw[List.drop_append_of_le_length (by omega),List.drop_of_length_le (by omega)];rfl⟩
theorem seekM_good{frm seq lo hi:Int}(hf:isId frm=true)(hs:0≤seq∧seq≤255)(hl:isId lo=true)(hh:isId hi=true)(ho:lo≤hi):GoodM (seekM frm seq lo hi):=by
 have a:=isId_iff.1 hl
 have b:=isId_iff.1 hh
 have c1:=num_be6 (n:=lo) (by omega)
 have c2:=num_be6 (n:=hi) (by omega)
 obtain ⟨s1,s2⟩:=be_split lo hi
 refine ⟨.inr rfl,hf,hs,by simp[seekM],by simp[seekM],by simp[seekM,be_len],fun _=>?_,fun h=>?_,fun h=>?_,fun h=>?_⟩
 ·simp only[seekM,s1,s2,c1,c2]
  exact ⟨by simp[be_len],hl,hh,ho⟩
 all_goals simp[seekM] at h
theorem f52_eq{frm seq lo hi:Int}(hf:isId frm=true)(hs:0≤seq∧seq≤255)(hl:isId lo=true)(hh:isId hi=true)(ho:lo≤hi):f52 frm seq lo hi=some (seekM frm seq lo hi,0):=by
 have a:=isId_iff.1 hl
 have b:=isId_iff.1 hh
 have e1:=f83_eq (n:=lo) (k:=6) (by omega) (by omega)
 have e2:=f83_eq (n:=hi) (k:=6) (by omega) (by omega)
 have e3:cat? (be 6 lo) (be 6 hi)=some (be 6 lo++be 6 hi):=cat_some (by simp[be_len])
 have e4:=f84_good (seekM_good hf hs hl hh ho)
 unfold f52
 rw[show f83 lo 6=some (be 6 lo) from e1,show f83 hi 6=some (be 6 hi) from e2]
 simp only[Option.bind_some,e3,f74_eq,hl,hh,Bool.not_true,Bool.false_eq_true,if_false]
 rw[show ApiMessage.mk 281474976710655 frm seq 1 0 (be 6 lo++be 6 hi)=seekM frm seq lo hi from rfl,e4]
 rfl
theorem f77_seek{frm seq lo hi:Int}(hf:isId frm=true)(hs:0≤seq∧seq≤255)(hl:isId lo=true)(hh:isId hi=true)(ho:lo≤hi):f77 (seekM frm seq lo hi)=some (lo,hi,0):=by
 have a:=isId_iff.1 hl
 have b:=isId_iff.1 hh
 have c1:=num_be6 (n:=lo) (by omega)
 have c2:=num_be6 (n:=hi) (by omega)
 obtain ⟨s1,s2⟩:=be_split lo hi
 have e1:slc? (seekM frm seq lo hi).fData 0 6=some (be 6 lo):=by
  rw[slc_some (by simp[seekM,be_len])];exact congrArg some s1
 have e2:slc? (seekM frm seq lo hi).fData 6 (((seekM frm seq lo hi).fData.length:Nat):Int)=some (be 6 hi):=by
  rw[slc_some (by simp[seekM,be_len]),Int.toNat_natCast,List.take_length];exact congrArg some s2
 simp only[f77,f48_good (seekM_good hf hs hl hh ho),Option.bind_some,e1,e2]
 rw[f76_eq (by simp[be_len]),f76_eq (by simp[be_len]),c1,c2]
 simp[seekM]
end Go.Proofs.YtgjfhplkochbpaaGreat
