import Derived.WalkKit
set_option linter.unusedSimpArgs false
set_option linter.unusedVariables false
namespace Go.Ab
inductive AV where
 | junk
 | bool (b:Bool)
 | int (k:IntKind) (n:Int)
 | str (s:List UInt8)
 | nilp
 | ptr (b off:Nat)
 | eptr (b i off:Nat)
 | pro (cs:List AV)
 | sl (e:Nat) (full:Bool) (xs:List AV)
 | row (e b off len:Nat)
 | arow (e b off len:Nat)
 | crow (e b off len cap:Nat)
 | fr (e:Nat) (xs:List AV)
 | fn (f:Nat) (cs:List AV)
 | bnd (f:Nat) (cs:List AV)
 | nilfn
 | agg (cs:List AV)
 | tup (cs:List AV)
 | mref (b:Nat)
 | mp (ks vs:List AV)
 | nilmp
 deriving Inhabited
inductive HB where
 | dead
 | cel (cs:List AV)
 | els (e:Nat) (xs:List AV)
 | map (ks vs:List AV)
 | itr (s:List UInt8) (pos:Nat)
 deriving Inhabited
abbrev Hp:=List HB
def esz(e:Nat):Nat:=if e=0 then 1 else e
def AV.cells:AV→List AV
 | .agg cs=>cs
 | v=>[v]
def AV.one:AV→Bool
 | .junk | .agg _ | .tup _ | .fr _ _=>false
 | _=>true
def onesB(cs:List AV):Bool:=cs.all AV.one
def AV.fits(e:Nat):AV→Bool
 | .agg cs=>e == cs.length && e != 0 && onesB cs
 | v=>e == 0 && v.one
def pick?(e off:Nat)(cs:List AV):Option AV :=
 if e=0 then cs[off]? else if off + e≤cs.length then some (.agg ((cs.drop off).take e)) else none
def elems(e:Nat):Nat→List AV→Option (List AV)
 | 0,_=>some []
 | n + 1,cs=>match pick? e 0 cs,elems e n (cs.drop (esz e)) with
  | some x,some xs=>some (x::xs)
  | _,_=>none
inductive Od where
 | t (i:Nat)
 | c (v:AV)
 deriving Inhabited
def Od.ev(s:Nat→AV):Od→AV
 | .t i=>s i
 | .c v=>v
inductive Op1 where
 | mv (x:Od)
 | pick (c a b:Od)
 | box (x:Od)
 | alloc (z:List (Nat×AV))
 | build (z:List (Nat×AV)) (ps:List (Nat×Nat×Od))
 | mksl (e n:Nat) (z:AV) (ps:List (Nat×Od))
 | mkslp (e n:Nat) (z:AV) (ps:List (Nat×Od))
 | load (e:Nat) (a:Od)
 | store (e:Nat) (a v:Od)
 | nilchk (x:Od)
 | bin (op:BinOp) (x y:Od)
 | binb (op:BinOp) (x y:Od)
 | eqs (neg:Bool) (ks:List Nat) (x y:Od)
 | eqp (neg:Bool) (x y:Od)
 | un (op:UnOp) (x:Od)
 | cint (k:IntKind) (x:Od)
 | cstr (x:Od)
 | cbytes (x:Od)
 | mkfn (f:Nat) (caps:List Od)
 | mkbnd (f:Nat) (fs:List Od)
 | mkslc (e bytes:Nat) (z:AV) (len cap:Od)
 | slice (e:Nat) (x:Od) (lo hi:Option Od)
 | sslice (x:Od) (lo hi:Option Od)
 | aslice (e n:Nat) (x:Od) (lo hi:Option Od)
 | faddr (off:Nat) (x:Od)
 | fld (off e:Nat) (x:Od)
 | iaddr (e:Nat) (x i:Od)
 | aiaddr (e n:Nat) (x i:Od)
 | idx (e n:Nat) (x i:Od)
 | sidx (x i:Od)
 | ext (x:Od) (i:Nat)
 | call (f:Od) (args:List Od)
 | len (k:Nat) (x:Od)
 | alen (n:Nat)
 | maxmin (mx:Bool) (x:Od) (xs:List Od)
 | append (e bytes:Nat) (x y:Od)
 | mkmap
 | lookup (kd:Nat) (z:AV) (ok:Bool) (m k:Od)
 | mapset (kd:Nat) (m k v:Od)
 | isnil (neg:Bool) (x:Od)
 | cap (x:Od)
 | copy (e:Nat) (x y:Od)
 | clear (e:Nat) (z:AV) (x:Od)
 | appz (e bytes:Nat) (z:AV) (x n:Od)
 | ovl (x y:Od)
 | slice3 (e:Nat) (x:Od) (lo hi mx:Option Od)
 | rng (x:Od)
 | next (x:Od)
 | bad
 deriving Inhabited
structure Ins where
 d:Option Nat
 g:Option (Nat×Bool)
 o:Op1
 deriving Inhabited
inductive RT where
 | run (is:List Ins)
 | fork (is:List Ins) (a b:RT)
inductive C where
 | skip
 | reg (is:List Ins)
 | regq (is:List Ins)
 | regt (t:RT)
 | seq (a b:C)
 | cond (x:Od) (a b:C)
 | block (id:Nat) (b:C)
 | loop (b:C)
 | scope (b:C)
 | exit (id:Nat)
 | ret
 | bad
 deriving Inhabited
inductive Ex where
 | normal
 | exit (id:Nat)
 | ret
 deriving DecidableEq,Inhabited
structure St where
 s:Nat→AV
 h:Hp
def put(s:Nat→AV)(i:Nat)(v:AV):Nat→AV:=fun j=>if j=i then v else s j
def omap{α β : Type}(f : α → Option β):List α → Option (List β)
 | []=>some []
 | c::cs=>match f c,omap f cs with
  | some x,some xs=>some (x::xs)
  | _,_=>none
def imm(h:Hp):Nat→AV→Option AV
 | 0,_=>none
 | n + 1,v=>match v with
  | .bool b=>some (.bool b)
  | .int k n=>some (.int k n)
  | .str s=>some (.str s)
  | .nilp=>some .nilp
  | .nilfn=>some .nilfn
  | .nilmp=>some .nilmp
  | .pro cs=>some (.pro cs)
  | .sl e f xs=>some (.sl e f xs)
  | .mp ks vs=>some (.mp ks vs)
  | .ptr b off=>match h[b]? with
   | some (.cel cs)=>(omap (imm h n) (cs.drop off)).map .pro
   | _=>none
  | .eptr b i off=>match h[b]? with
   | some (.els _ xs)=>match xs[i]? with
    | some x=>(omap (imm h n) (x.cells.drop off)).map .pro
    | none=>none
   | _=>none
  | .row e b off len=>match h[b]? with
   | some (.els e' xs)=>if e'=e∧off + len≤xs.length then (omap (imm h n) ((xs.drop off).take len)).map (.sl e false) else none
   | _=>none
  | .crow _ _ _ _ _=>none
  | .arow e b off len=>match h[b]? with
   | some (.cel cs)=>match elems e len (cs.drop off) with
    | some xs=>(omap (imm h n) xs).map (.sl e false)
    | none=>none
   | _=>none
  | .mref b=>match h[b]? with
   | some (.map ks vs)=>some (.mp ks vs)
   | _=>none
  | .agg cs=>(omap (imm h n) cs).map .agg
  | .tup cs=>(omap (imm h n) cs).map .tup
  | .fn f cs=>(omap (imm h n) cs).map (.fn f)
  | .bnd _ _=>none
  | .junk=>none
  | .fr _ _=>none
def deep:Nat:=12
def plain:Nat→AV→Bool
 | 0,_=>false
 | n + 1,v=>match v with
  | .bool _ | .int _ _ | .str _ | .nilp | .nilfn | .nilmp | .pro _ | .sl _ _ _ | .mp _ _=>true
  | .agg cs | .tup cs | .fn _ cs=>cs.all (plain n)
  | _=>false
def flat:Nat→AV→Bool
 | 0,_=>false
 | n + 1,v=>match v with
  | .bool _ | .int _ _ | .str _ | .nilp | .nilfn | .nilmp=>true
  | .agg cs | .tup cs=>cs.all (flat n)
  | _=>false
def visit(h:Hp):Nat→AV→List Nat
 | 0,_=>[]
 | n + 1,v=>match v with
  | .ptr b _ | .eptr b _ _ | .row _ b _ _ | .arow _ b _ _ | .crow _ b _ _ _ | .mref b=>b::(match h[b]? with
   | some (.cel cs)=>if cs.all (plain deep) then [] else cs.flatMap (visit h n)
   | some (.els _ xs)=>if xs.all (plain deep) then [] else xs.flatMap fun x=>visit h n x++x.cells.flatMap (visit h n)
   | _=>[])
  | .agg cs | .tup cs | .fn _ cs=>cs.flatMap (visit h n)
  | _=>[]
def kill(h:Hp):List Nat→Hp
 | []=>h
 | b::bs=>kill (h.set b .dead) bs
def freeze(h:Hp)(v:AV):Option (AV×Hp) :=
 if plain deep v then some (v,h) else match imm h deep v with
  | some x=>some (x,kill h (visit h deep v))
  | none=>none
def AV.isFr:AV→Bool
 | .fr _ _=>true
 | _=>false
def adoptL(h:Hp):List AV→Option (List AV×Hp)
 | []=>some ([],h)
 | .fr e xs::cs=>if cs.any AV.isFr then none else some (.row e h.length 0 xs.length::cs,h++[.els e xs])
 | c::cs=>(adoptL h cs).map fun p=>(c::p.1,p.2)
def adopt(h:Hp):AV→Option (AV×Hp)
 | .fr e xs=>some (.row e h.length 0 xs.length,h++[.els e xs])
 | .tup cs=>(adoptL h cs).map fun p=>(.tup p.1,p.2)
 | v=>some (v,h)
def wrapBits(k:IntKind)(r:BitVec k.bits):AV:=.int k (k.wrap r.toNat)
def binI(op:BinOp)(k:IntKind)(a b:Int):Option AV :=
 match op with
 | .add=>some (.int k (k.wrap (a + b)))
 | .sub=>some (.int k (k.wrap (a - b)))
 | .mul=>some (.int k (k.wrap (a * b)))
 | .quo=>if b=0 then none else some (.int k (k.wrap (a.tdiv b)))
 | .rem=>if b=0 then none else some (.int k (a.tmod b))
 | .and=>some (wrapBits k (BitVec.ofInt k.bits a &&& BitVec.ofInt k.bits b))
 | .or=>some (wrapBits k (BitVec.ofInt k.bits a ||| BitVec.ofInt k.bits b))
 | .xor=>some (wrapBits k (BitVec.ofInt k.bits a ^^^ BitVec.ofInt k.bits b))
 | .andNot=>some (wrapBits k (BitVec.ofInt k.bits a &&& ~~~ BitVec.ofInt k.bits b))
 | .eql=>some (.bool (a == b))
 | .neq=>some (.bool (a != b))
 | .lss=>some (.bool (decide (a<b)))
 | .leq=>some (.bool (decide (a≤b)))
 | .gtr=>some (.bool (decide (a > b)))
 | .geq=>some (.bool (decide (a ≥ b)))
 | .shl | .shr=>none
def shiftI(op:BinOp)(k:IntKind)(a b:Int):Option AV :=
 if b<0 then none else
  match op with
  | .shl=>some (.int k (k.wrap (a * 2 ^ (min b.toNat k.bits))))
  | .shr=>some (.int k (a.fdiv (2 ^ (min b.toNat k.bits))))
  | _=>none
def isShift:BinOp→Bool
 | .shl | .shr=>true
 | _=>false
def maxStr:Nat:=2 ^ 63 - 1
def binS(op:BinOp)(a b:List UInt8):Option AV :=
 match op with
 | .add=>if a.length + b.length≤maxStr then some (.str (a++b)) else none
 | .eql=>some (.bool (a == b))
 | .neq=>some (.bool (!(a == b)))
 | .lss=>some (.bool (Op.bytesLess a b))
 | .leq=>some (.bool (Op.bytesLess a b || a == b))
 | .gtr=>some (.bool (!(Op.bytesLess a b || a == b)))
 | .geq=>some (.bool (!Op.bytesLess a b))
 | _=>none
def bin(op:BinOp):AV→AV→Option AV
 | .int k a,.int k' b=>if isShift op then shiftI op k a b else if k=k' then binI op k a b else none
 | .str a,.str b=>binS op a b
 | _,_=>none
def binb(op:BinOp):AV→AV→Option AV
 | .bool a,.bool b=>match op with
  | .eql=>some (.bool (a == b))
  | .neq=>some (.bool (!(a == b)))
  | _=>none
 | _,_=>none
def eqKind(k:Nat)(x y:AV):Option Bool :=
 match k,x,y with
 | 0,.int k a,.int k' b=>if k=k' then some (a == b) else none
 | 1,.str a,.str b=>some (a == b)
 | 2,.bool a,.bool b=>some (a == b)
 | _,_,_=>none
def eqCells:List Nat→List AV→List AV→Option Bool
 | [],[],[]=>some true
 | k::ks,a::as,b::bs=>match eqKind k a b,eqCells ks as bs with
  | some x,some y=>some (x && y)
  | _,_=>none
 | _,_,_=>none
def eqS(ks:List Nat):AV→AV→Option Bool
 | .agg as,.agg bs=>eqCells ks as bs
 | x,y=>if ks=[9] then (match x,y with
  | .nilfn,.nilfn=>some true
  | .fn _ _,.nilfn=>some false
  | _,_=>none) else none
def eqP:AV→AV→Option Bool
 | .nilp,.nilp=>some true
 | .nilp,.ptr _ _ | .nilp,.pro _ | .nilp,.eptr _ _ _ | .ptr _ _,.nilp | .pro _,.nilp | .eptr _ _ _,.nilp=>some false
 | _,_=>none
def maxI(mx:Bool)(x y:AV):Option AV :=
 match x,y with
 | .int k a,.int k' b=>if k=k' then some (.int k (if mx then (if b > a then b else a) else (if b<a then b else a))) else none
 | _,_=>none
def foldMax(mx:Bool):AV→List AV→Option AV
 | x,[]=>some x
 | x,y::ys=>match maxI mx x y with
  | some z=>foldMax mx z ys
  | none=>none
def bytesOf:List AV→Option (List UInt8)
 | []=>some []
 | .int .u8 n::cs=>(bytesOf cs).map (UInt8.ofNat n.toNat::·)
 | _::_=>none
def byteCells(s:List UInt8):List AV:=s.map fun b=>.int .u8 (b.toNat:Int)
def splice(cs:List AV)(off:Nat):AV→List AV
 | .agg us=>cs.take off++us++cs.drop (off + us.length)
 | u=>cs.set off u
def fill(s:Nat→AV):List AV→List (Nat×Nat×Od)→Option (List AV)
 | z,[]=>some z
 | z,(off,e,x)::ps=>if (x.ev s).fits e=true∧off + esz e≤z.length then fill s (splice z off (x.ev s)) ps else none
def fillE(s:Nat→AV)(e:Nat):List AV→List (Nat×Od)→Option (List AV)
 | z,[]=>some z
 | z,(i,x)::ps=>if (x.ev s).fits e=true∧i<z.length then fillE s e (z.set i (x.ev s)) ps else none
def expand(z:List (Nat×AV)):List AV:=z.flatMap fun p=>List.replicate p.1 p.2
def srcElems(e:Nat)(h:Hp):AV→Option (List AV)
 | .sl e' _ xs=>if e'=e then some xs else none
 | .row e' b off len=>match h[b]? with
  | some (.els e'' xs)=>if e'=e∧e''=e∧off + len≤xs.length∧((xs.drop off).take len).all (plain deep)=true then some ((xs.drop off).take len) else none
  | _=>none
 | .crow e' b off len _=>match h[b]? with
  | some (.els e'' xs)=>if e'=e∧e''=e∧off + len≤xs.length∧((xs.drop off).take len).all (plain deep)=true then some ((xs.drop off).take len) else none
  | _=>none
 | .arow e' b off len=>match h[b]? with
  | some (.cel cs)=>if e'=e then match elems e len (cs.drop off) with
   | some xs=>if xs.all (plain deep)=true then some xs else none
   | none=>none else none
  | _=>none
 | .str s=>if e=0 then some (byteCells s) else none
 | _=>none
def lookKey(kd:Nat)(k:AV):List AV→List AV→Option (Option AV)
 | [],[]=>some none
 | k'::ks,v::vs=>match eqKind kd k k' with
  | some true=>some (some v)
  | some false=>lookKey kd k ks vs
  | none=>none
 | _,_=>none
def setKey(kd:Nat)(k v:AV):List AV→List AV→Option (List AV×List AV)
 | [],[]=>some ([k],[v])
 | k'::ks,u::vs=>match eqKind kd k k' with
  | some true=>some (k'::ks,v::vs)
  | some false=>(setKey kd k v ks vs).map fun p=>(k'::p.1,u::p.2)
  | none=>none
 | _,_=>none
def isKey:Nat→AV→Bool
 | 0,.int _ _ | 1,.str _ | 2,.bool _=>true
 | _,_=>false
def room:Nat:=2 ^ 47
def bounds(s:Nat→AV)(n:Nat)(lo hi:Option Od):Option (Nat×Nat) :=
 match (match lo with | none=>AV.int .i64 0 | some x=>x.ev s),(match hi with | none=>AV.int .i64 n | some x=>x.ev s) with
 | .int _ a,.int _ b=>if 0≤a∧a≤b∧b≤n then some (a.toNat,b.toNat) else none
 | _,_=>none
def bounds2(s:Nat→AV)(n cap:Nat)(lo hi:Option Od):Option (Nat×Nat) :=
 match (match lo with | none=>AV.int .i64 0 | some x=>x.ev s),(match hi with | none=>AV.int .i64 n | some x=>x.ev s) with
 | .int _ a,.int _ b=>if 0≤a∧a≤b∧b≤cap then some (a.toNat,b.toNat) else none
 | _,_=>none
def appendL(h:Hp)(e bytes:Nat)(x:AV)(ys:List AV):Option (AV×Hp) :=
  match x with
  | .sl e' true xs=>if e'=e∧(xs=[]∨ys≠[])∧(xs.length + ys.length) * bytes≤room∧xs.length + ys.length≤maxStr then
    some (.row e h.length 0 (xs.length + ys.length),h++[.els e (xs++ys)]) else none
  | .row e' b 0 len=>match h[b]? with
   | some (.els e'' xs)=>if e'=e∧e''=e∧len=xs.length∧(xs.length + ys.length) * bytes≤room∧xs.length + ys.length≤maxStr then
     some (.row e h.length 0 (xs.length + ys.length),h.set b .dead++[.els e (xs++ys)]) else
    if e'=e∧e''=e∧len<xs.length∧len + ys.length≤xs.length then some (.row e b 0 (len + ys.length),h.set b (.els e (xs.take len++(ys++xs.drop (len + ys.length))))) else none
   | _=>none
  | .crow e' b 0 len cap=>match h[b]? with
   | some (.els e'' xs)=>if e'=e∧e''=e∧len≤xs.length∧cap=xs.length∧(ys≠[]∨len<xs.length) then
     if len + ys.length≤cap then some (.crow e b 0 (len + ys.length) cap,h.set b (.els e (xs.take len++(ys++xs.drop (len + ys.length)))))
     else if (len + ys.length) * bytes≤room∧len + ys.length≤maxStr then some (.row e h.length 0 (len + ys.length),h++[.els e (xs.take len++ys)]) else none
    else none
   | _=>none
  | _=>none
def append(h:Hp)(e bytes:Nat)(x y:AV):Option (AV×Hp) :=
 match srcElems e h y with
 | none=>none
 | some ys=>appendL h e bytes x ys
def overwrite(xs:List AV)(off:Nat)(ys:List AV):List AV:=xs.take off++(ys++xs.drop (off + ys.length))
def AV.rowOf:AV→Option (Nat×Nat×Nat×Nat)
 | .row e b off len=>some (e,b,off,len)
 | .crow e b off len _=>some (e,b,off,len)
 | _=>none
def AV.cut(m:Nat):AV→AV
 | .row e b off len=>.row e b off (min m len)
 | .crow e b off len _=>.row e b off (min m len)
 | v=>v
def copyTo(h:Hp)(e:Nat)(x:AV)(ys:List AV):Option (AV×Hp) :=
 match x.rowOf with
 | some (e',b,off,len)=>match h[b]? with
  | some (.els e'' xs)=>if e'=e∧e''=e∧off + len≤xs.length then some (.int .i64 (min len ys.length:Nat),h.set b (.els e (overwrite xs off (ys.take len)))) else none
  | _=>none
 | none=>none
def lowZ:Nat→AV→AV
 | 0,v=>v
 | n + 1,v=>match v with
  | .sl e _ []=>.sl e false []
  | .agg cs=>.agg (cs.map (lowZ n))
  | v=>v
def dcd(s:List UInt8)(pos:Nat):Nat×Nat:=Utf8.decode ⟨s.toArray⟩ pos
def evV(s:Nat→AV)(h:Hp):Op1→Option (AV×Hp)
 | .mv x=>some (x.ev s,h)
 | .pick c a b=>match c.ev s with
  | .bool t=>some (if t then a.ev s else b.ev s,h)
  | _=>none
 | .box x=>if onesB (x.ev s).cells then some (.ptr h.length 0,h++[.cel (x.ev s).cells]) else none
 | .alloc z=>some (.ptr h.length 0,h++[.cel (expand z)])
 | .build z ps=>(fill s (expand z) ps).map fun cs=>(.agg cs,h)
 | .mksl e n z ps=>match fillE s e (List.replicate n z) ps with
  | some xs=>if plain deep (.tup xs)=true then some (.sl e true xs,h) else some (.row e h.length 0 n,h++[.els e xs])
  | none=>none
 | .mkslp e n z ps=>match fillE s e (List.replicate n z) ps with
  | some xs=>if plain deep (.tup xs)=true then some (.sl e true xs,h) else none
  | none=>none
 | .load e a=>match a.ev s with
  | .ptr b off=>match h[b]? with
   | some (.cel cs)=>(pick? e off cs).map (·,h)
   | _=>none
  | .eptr b i off=>match h[b]? with
   | some (.els _ xs)=>match xs[i]? with
    | some x=>(pick? e off x.cells).map (·,h)
    | none=>none
   | _=>none
  | .pro cs=>(pick? e 0 cs).map (·,h)
  | _=>none
 | .store e a v=>if (v.ev s).fits e then match a.ev s with
  | .ptr b off=>match h[b]? with
   | some (.cel cs)=>if off + esz e≤cs.length then some (.junk,h.set b (.cel (splice cs off (v.ev s)))) else none
   | _=>none
  | .eptr b i off=>match h[b]? with
   | some (.els e' xs)=>match xs[i]? with
    | some (.agg cs)=>if off + esz e≤cs.length then some (.junk,h.set b (.els e' (xs.set i (.agg (splice cs off (v.ev s)))))) else none
    | some _=>if off=0∧e=0 then some (.junk,h.set b (.els e' (xs.set i (v.ev s)))) else none
    | none=>none
   | _=>none
  | _=>none
  else none
 | .nilchk x=>match x.ev s with
  | .junk | .nilp | .nilfn | .fr _ _=>none
  | v=>some (v,h)
 | .bin op x y=>(bin op (x.ev s) (y.ev s)).map (·,h)
 | .binb op x y=>(binb op (x.ev s) (y.ev s)).map (·,h)
 | .eqs neg ks x y=>(eqS ks (x.ev s) (y.ev s)).map fun b=>(.bool (if neg then !b else b),h)
 | .eqp neg x y=>(eqP (x.ev s) (y.ev s)).map fun b=>(.bool (if neg then !b else b),h)
 | .un op x=>match op,x.ev s with
  | .not,.bool b=>some (.bool (!b),h)
  | .neg,.int k n=>some (.int k (k.wrap (0 - n)),h)
  | .xor,.int k n=>some (wrapBits k (BitVec.ofInt k.bits (if k.signed then -1 else k.max) ^^^ BitVec.ofInt k.bits n),h)
  | _,_=>none
 | .cint k x=>match x.ev s with
  | .int _ n=>some (.int k (k.wrap n),h)
  | _=>none
 | .cstr x=>match x.ev s with
  | .str _=>none
  | y=>match srcElems 0 h y with
   | some xs=>(bytesOf xs).map (fun t=>(.str t,h))
   | none=>none
 | .cbytes x=>match x.ev s with
  | .str t=>if t.length≤room then some (.row 0 h.length 0 t.length,h++[.els 0 (byteCells t)]) else none
  | _=>none
 | .mkfn f caps=>some (.fn f (caps.map (Od.ev s)),h)
 | .mkbnd f fs=>some (.bnd f (fs.map (Od.ev s)),h)
 | .mkslc e bytes z len cap=>match len.ev s,cap.ev s with
  | .int _ n,.int _ c=>if 0≤n∧n=c∧n.toNat * bytes≤room∧n.toNat≤maxStr then some (.row e h.length 0 n.toNat,h++[.els e (List.replicate n.toNat z)]) else none
  | _,_=>none
 | .slice e x lo hi=>match x.ev s with
  | .sl e' f xs=>if e'=e then (bounds s xs.length lo hi).map (fun p=>(.sl e (f && xs.isEmpty) ((xs.take p.2).drop p.1),h)) else none
  | .row e' b off len=>if e'=e then (bounds s len lo hi).map (fun p=>(.row e b (off + p.1) (p.2 - p.1),h)) else none
  | .crow e' b off len cap=>if e'=e then (bounds2 s len cap lo hi).map (fun p=>(.crow e b (off + p.1) (p.2 - p.1) (cap - p.1),h)) else none
  | _=>none
 | .sslice x lo hi=>match x.ev s with
  | .str t=>(bounds s t.length lo hi).map (fun p=>(.str ((t.take p.2).drop p.1),h))
  | _=>none
 | .aslice e n x lo hi=>match x.ev s with
  | .ptr b off=>(bounds s n lo hi).map (fun p=>(.arow e b (off + p.1 * esz e) (p.2 - p.1),h))
  | _=>none
 | .faddr off x=>match x.ev s with
  | .ptr b o=>some (.ptr b (o + off),h)
  | .eptr b i o=>some (.eptr b i (o + off),h)
  | .pro cs=>some (.pro (cs.drop off),h)
  | _=>none
 | .fld off e x=>match x.ev s with
  | .agg cs=>(pick? e off cs).map (·,h)
  | _=>none
 | .iaddr e x i=>match i.ev s with
  | .int _ n=>if 0≤n then match x.ev s with
   | .sl e' _ xs=>if e'=e then (xs[n.toNat]?).map (fun v=>(.pro v.cells,h)) else none
   | .row e' b off len=>if e'=e∧n.toNat<len then some (.eptr b (off + n.toNat) 0,h) else none
   | .arow e' b off len=>if e'=e∧n.toNat<len then some (.ptr b (off + n.toNat * esz e),h) else none
   | _=>none else none
  | _=>none
 | .aiaddr e n x i=>match i.ev s with
  | .int _ k=>if 0≤k∧k.toNat<n then match x.ev s with
   | .ptr b off=>some (.ptr b (off + k.toNat * esz e),h)
   | .eptr b j off=>some (.eptr b j (off + k.toNat * esz e),h)
   | .pro cs=>some (.pro (cs.drop (k.toNat * esz e)),h)
   | _=>none else none
  | _=>none
 | .idx e n x i=>match i.ev s,x.ev s with
  | .int _ k,.agg cs=>if 0≤k∧k.toNat<n then (pick? e (k.toNat * esz e) cs).map (·,h) else none
  | _,_=>none
 | .sidx x i=>match i.ev s,x.ev s with
  | .int _ k,.str t=>if 0≤k then (t[k.toNat]?).map (fun b=>(.int .u8 (b.toNat:Int),h)) else none
  | _,_=>none
 | .ext x i=>match x.ev s with
  | .tup cs=>(cs[i]?).map (·,h)
  | _=>none
 | .call _ _=>none
 | .len k x=>match k,x.ev s with
  | 0,.sl _ _ xs=>some (.int .i64 xs.length,h)
  | 0,.row _ _ _ n=>some (.int .i64 n,h)
  | 0,.arow _ _ _ n=>some (.int .i64 n,h)
  | 0,.crow _ _ _ n _=>some (.int .i64 n,h)
  | 1,.str t=>some (.int .i64 t.length,h)
  | 2,.nilmp=>some (.int .i64 0,h)
  | 2,.mp ks _=>some (.int .i64 ks.length,h)
  | 2,.mref b=>match h[b]? with
   | some (.map ks _)=>some (.int .i64 ks.length,h)
   | _=>none
  | _,_=>none
 | .alen n=>some (.int .i64 n,h)
 | .maxmin mx x xs=>(foldMax mx (x.ev s) (xs.map (Od.ev s))).map (·,h)
 | .append e bytes x y=>append h e bytes (x.ev s) (y.ev s)
 | .mkmap=>some (.mref h.length,h++[.map [] []])
 | .lookup kd z ok m k =>
  let r:=match m.ev s with
   | .nilmp=>if isKey kd (k.ev s) then some none else none
   | .mp ks vs=>if isKey kd (k.ev s) then lookKey kd (k.ev s) ks vs else none
   | .mref b=>match h[b]? with
    | some (.map ks vs)=>if isKey kd (k.ev s) then lookKey kd (k.ev s) ks vs else none
    | _=>none
   | _=>none
  match r with
  | some r=>some (if ok then .tup [r.getD (lowZ 4 z),.bool r.isSome] else r.getD (lowZ 4 z),h)
  | none=>none
 | .mapset kd m k v=>match freeze h (v.ev s) with
  | some (u,h)=>match m.ev s with
   | .mref b=>match h[b]? with
    | some (.map ks vs)=>if isKey kd (k.ev s) then (setKey kd (k.ev s) u ks vs).map (fun p=>(.junk,h.set b (.map p.1 p.2))) else none
    | _=>none
   | _=>none
  | none=>none
 | .isnil _ _=>none
 | .cap x=>match x.ev s with
  | .sl _ true xs=>some (.int .i64 xs.length,h)
  | .crow _ _ _ _ c=>some (.int .i64 c,h)
  | _=>none
 | .copy e x y=>match (x.ev s).rowOf with
  | some (_,_,_,len)=>match srcElems e h ((y.ev s).cut len) with
   | some ys=>copyTo h e (x.ev s) ys
   | none=>none
  | none=>none
 | .clear e z x=>match (x.ev s).rowOf with
  | some (_,_,_,len)=>(copyTo h e (x.ev s) (List.replicate len z)).map fun p=>(.junk,p.2)
  | none=>none
 | .appz e bytes z x n=>match n.ev s with
  | .int _ k=>if 0<k∧k.toNat≤maxStr∧k.toNat * bytes≤room then appendL h e bytes (x.ev s) (List.replicate k.toNat z) else none
  | _=>none
 | .ovl x y=>match x.ev s,(y.ev s).rowOf with
  | .sl _ true (_::_),some (_,b,_,len + 1)=>match h[b]? with
   | some (.els _ _)=>some (.bool false,h)
   | _=>none
  | _,_=>none
 | .slice3 e x lo hi mx=>match x.ev s with
  | .row e' b off len=>if e'=e then match (match mx with | none=>AV.int .i64 len | some m=>m.ev s) with
   | .int _ m=>if 0≤m∧m≤len∧hi.isSome=true∧mx.isSome=true then (bounds s m.toNat lo hi).map (fun _=>(.junk,h)) else none
   | _=>none else none
  | _=>none
 | .rng x=>match x.ev s with
  | .str t=>some (.ptr h.length 0,h++[.itr t 0])
  | _=>none
 | .next x=>match x.ev s with
  | .ptr b 0=>match h[b]? with
   | some (.itr t pos)=>if pos<t.length then some (.tup [.bool true,.int .i64 pos,.int .i32 (dcd t pos).1],h.set b (.itr t (pos + (dcd t pos).2))) else some (.tup [.bool false],h)
   | _=>none
  | _=>none
 | .bad=>none
abbrev CallF:=Nat→List AV→Hp→(AV→Hp→Prop)→Prop
def put?(s:Nat→AV)(d:Option Nat)(v:AV):Nat→AV :=
 match d with
 | some d=>put s d v
 | none=>s
def Op1.isCall:Op1→Bool
 | .call _ _=>true
 | .isnil _ _=>true
 | _=>false
def evO(F:CallF)(s:Nat→AV)(h:Hp)(o:Op1)(K:AV→Hp→Prop):Prop :=
 match o with
 | .call f args=>match f.ev s with
  | .fn k caps=>F k (args.map (Od.ev s)++caps) h K
  | .bnd k fs=>F k (fs++args.map (Od.ev s)) h K
  | _=>False
 | .isnil neg x=>match x.ev s with
  | .sl _ _ []=>K (.bool true) h∧K (.bool false) h
  | .sl _ _ (_::_)=>K (.bool neg) h
  | .row _ _ _ 0=>K (.bool true) h∧K (.bool false) h
  | .row _ _ _ (_ + 1)=>K (.bool neg) h
  | _=>False
 | o=>match evV s h o with
  | some p=>K p.1 p.2
  | none=>False
def act(F:CallF)(i:Ins)(s:Nat→AV)(h:Hp)(K:AV→Hp→Prop):Prop :=
 match i.g with
 | none=>evO F s h i.o K
 | some (j,want)=>match s j with
  | .bool b=>if b=want then evO F s h i.o K else K (.tup []) h
  | .tup []=>K (.tup []) h
  | _=>False
def evT(F:CallF)(i:Ins)(K:St→Prop)(st:St):Prop:=act F i st.s st.h fun v h=>K ⟨put? st.s i.d v,h⟩
def evTs(F:CallF):List Ins→(St→Prop)→St→Prop
 | [],K,st=>K st
 | i::is,K,st=>evT F i (evTs F is K) st
def ren(ks:List Nat):Nat→AV→AV
 | 0,_=>.junk
 | n + 1,v=>match v with
  | .ptr b o=>match ks.idxOf? b with | some b=>.ptr b o | none=>.junk
  | .eptr b i o=>match ks.idxOf? b with | some b=>.eptr b i o | none=>.junk
  | .row e b o l=>match ks.idxOf? b with | some b=>.row e b o l | none=>.junk
  | .arow e b o l=>match ks.idxOf? b with | some b=>.arow e b o l | none=>.junk
  | .crow e b o l c=>match ks.idxOf? b with | some b=>.crow e b o l c | none=>.junk
  | .mref b=>match ks.idxOf? b with | some b=>.mref b | none=>.junk
  | .agg cs=>.agg (cs.map (ren ks n))
  | .tup cs=>.tup (cs.map (ren ks n))
  | .fn f cs=>.fn f (cs.map (ren ks n))
  | .bnd f cs=>.bnd f (cs.map (ren ks n))
  | .fr _ _=>.junk
  | v=>v
def renB(ks:List Nat):HB→HB
 | .cel cs=>.cel (cs.map (ren ks deep))
 | .els e xs=>.els e (xs.map (ren ks deep))
 | b=>b
def renS(ks:List Nat)(s:Nat→AV):List Nat→Nat→AV
 | []=>fun _=>.junk
 | i::is=>put (renS ks s is) i (ren ks deep (s i))
def restrict(ks live:List Nat)(st:St):St:={ s:=renS ks st.s live,h:=ks.map fun b=>renB ks (st.h.getD b .dead) }
inductive Rv where
 | slot (i:Nat)
 | cell (i e:Nat)
 deriving Inhabited
def slotsOf:List AV→Nat→AV
 | []=>fun _=>.junk
 | v::vs=>fun i=>match i with
  | 0=>v
  | i + 1=>slotsOf vs i
def resV(st:St):Rv→Option AV
 | .slot i=>some (st.s i)
 | .cell i e=>(evV st.s st.h (.load e (.t i))).map (·.1)
def resVs(st:St)(rs:List Rv):Option AV :=
 match omap (resV st) rs with
 | some [v]=>some v
 | some vs=>some (.tup vs)
 | none=>none
def handRow(h:Hp)(v:AV)(os:List AV):Option (AV×List AV) :=
 match v with
 | .row e b 0 len=>match h[b]? with
  | some (.els e' xs)=>if e'=e∧len=xs.length∧(xs.flatMap (visit h deep)).contains b=false∧(os.flatMap (visit h deep)).contains b=false then match omap (imm h deep) xs,omap (imm h deep) os with
   | some ys,some ds=>some (.fr e ys,ds)
   | _,_=>none else none
  | _=>none
 | .sl e true []=>(omap (imm h deep) os).map fun ds=>(.fr e [],ds)
 | v=>match imm h deep v,omap (imm h deep) os with
  | some y,some ds=>some (y,ds)
  | _,_=>none
def handOver(fresh:Option Nat)(h:Hp)(v:AV):Option AV :=
 match fresh with
 | none=>imm h deep v
 | some k=>match v with
  | .tup cs=>match cs[k]? with
   | some c=>(handRow h c (cs.eraseIdx k)).map fun p=>.tup (p.2.insertIdx k p.1)
   | none=>none
  | v=>(handRow h v []).map (·.1)
end Go.Ab
namespace Go.Ab
open Go
inductive RI (S:Nat→Nat→Prop) (w:World):AV→Value→Prop where
 | bool (b:Bool):RI S w (.bool b) (.bool b)
 | int (k:IntKind) (n:Int):RI S w (.int k n) (.int k n)
 | str (s:List UInt8):RI S w (.str s) (.string ⟨s.toArray⟩)
 | nilp:RI S w .nilp (.pointer none)
 | nilfn:RI S w .nilfn .nilFunc
 | nilmp:RI S w .nilmp (.map none)
 | pro (cs:List AV) (g o:Nat) (u:Nat→Value) (hc:∀ (i:Nat) c,cs[i]? = some c→S g (o + i)∧w.cell? ⟨g,o + i,none⟩=some (u i))
   (hr:∀ (i:Nat) c,cs[i]? = some c→RI S w c (u i)):RI S w (.pro cs) (.pointer (some ⟨g,o,none⟩))
 | sl (e:Nat) (full:Bool) (xs:List AV) (A:Option Addr) (cap g o:Nat) (u:Nat→Value) (hl:xs.length≤cap) (hm:cap≤maxLen) (hf:full=true→cap=xs.length)
   (hA:xs=[]∨A=some ⟨g,o,none⟩) (hx:∀ (i:Nat) x,xs[i]? = some x→AV.fits e x=true)
   (hc:∀ (i:Nat) x,xs[i]? = some x→∀ (j:Nat) c,(u i).cells[j]? = some c→S g (o + (i * esz e + j))∧w.cell? ⟨g,o + (i * esz e + j),none⟩=some c)
   (hr:∀ (i:Nat) x,xs[i]? = some x→RI S w x (u i)) (hn:full=true→xs≠[]→∀ k,w.frozen? ⟨g,k,none⟩=false):RI S w (.sl e full xs) (.slice A xs.length cap)
 | fn (f:Nat) (cs:List AV) (us:Array Value) (hs:us.size=cs.length) (hr:∀ (i:Nat) c u,cs[i]? = some c→us[i]? = some u→RI S w c u):RI S w (.fn f cs) (.func (.func f) #[] us)
 | agg (cs:List AV) (us:Array Value) (hs:us.size=cs.length) (hr:∀ (i:Nat) c u,cs[i]? = some c→us[i]? = some u→RI S w c u):RI S w (.agg cs) (.agg us)
 | tup (cs:List AV) (us:Array Value) (hs:us.size=cs.length) (hr:∀ (i:Nat) c u,cs[i]? = some c→us[i]? = some u→RI S w c u):RI S w (.tup cs) (.tuple us)
 | mp (ks vs:List AV) (g:Nat) (es:Array MapEntry) (cl:Nat) (hS:S g 0) (hg:w.heap[g]? = some (.map es cl)) (h1:es.size=ks.length) (h2:es.size=vs.length)
   (hk:∀ (i:Nat) k (x:MapEntry),ks[i]? = some k→es[i]? = some x→RI S w k x.key) (hv:∀ (i:Nat) v (x:MapEntry),vs[i]? = some v→es[i]? = some x→RI S w v x.val) :
   RI S w (.mp ks vs) (.map (some g))
 | mpn:RI S w (.mp [] []) (.map none)
structure Kept (S S':Nat→Nat→Prop) (w w':World):Prop where
 sub:∀ g o,S g o→S' g o
 cell:∀ g o,S g o→w'.cell? ⟨g,o,none⟩=w.cell? ⟨g,o,none⟩
 map:∀ g o es cl,S g o→w.heap[g]? = some (.map es cl)→w'.heap[g]? = some (.map es cl)
 frz:∀ g o,S g o→∀ k,w'.frozen? ⟨g,k,none⟩=w.frozen? ⟨g,k,none⟩
theorem Kept.refl(S:Nat→Nat→Prop)(w:World):Kept S S w w:=⟨fun _ _ h=>h,fun _ _ _=>rfl,fun _ _ _ _ _ h=>h,fun _ _ _ _=>rfl⟩
theorem Kept.trans{S S' S'':Nat→Nat→Prop}{w w' w'':World}(h:Kept S S' w w')(k:Kept S' S'' w' w''):Kept S S'' w w'' :=
 ⟨fun g o s=>k.sub g o (h.sub g o s),fun g o s=>(k.cell g o (h.sub g o s)).trans (h.cell g o s),fun g o es cl s e=>k.map g o es cl (h.sub g o s) (h.map g o es cl s e),
  fun g o s j=>(k.frz g o (h.sub g o s) j).trans (h.frz g o s j)⟩
theorem Kept.of_block{S S':Nat→Nat→Prop}{w w':World}(hs:∀ g o,S g o→S' g o)(h:∀ g o,S g o→w'.heap[g]? = w.heap[g]?):Kept S S' w w' :=
 ⟨hs,fun g o s=>World.cell?_of_block (h g o s),fun g o _ _ s e=>(h g o s).trans e,fun g o s k=>World.frozen?_of_block (a:=⟨g,k,none⟩) (h g o s)⟩
theorem RI.cell0{S:Nat→Nat→Prop}{w:World}{v:AV}{u:Value}(hr:RI S w v u){e:Nat}(hf:v.fits e=true):∃ c,u.cells[0]? = some c:=by
 cases hr with
 | agg cs us hs _ =>
  simp only[AV.fits,Bool.and_eq_true,beq_iff_eq,bne_iff_ne] at hf
  have:0<us.size:=by omega
  exact ⟨us[0],by show us[0]? = _;simp[this]⟩
 | tup cs us hs _=>simp[AV.fits,AV.one] at hf
 | _=>exact ⟨_,rfl⟩
theorem RI.kept{S S':Nat→Nat→Prop}{w w':World}(h:Kept S S' w w'){v:AV}{u:Value}(hr:RI S w v u):RI S' w' v u:=by
 induction hr with
 | bool b=>exact .bool b
 | int k n=>exact .int k n
 | str s=>exact .str s
 | nilp=>exact .nilp
 | nilfn=>exact .nilfn
 | nilmp=>exact .nilmp
 | pro cs g o u hc _ ih=>exact .pro cs g o u (fun i c hi=>⟨h.sub _ _ (hc i c hi).1,(h.cell _ _ (hc i c hi).1).trans (hc i c hi).2⟩) ih
 | sl e full xs A cap g o u hl hm hf hA hx hc hr hn ih =>
  refine .sl e full xs A cap g o u hl hm hf hA hx (fun i x hi j c hj=>⟨h.sub _ _ (hc i x hi j c hj).1,(h.cell _ _ (hc i x hi j c hj).1).trans (hc i x hi j c hj).2⟩) ih (fun h1 h2 k=>?_)
  cases xs with
  | nil=>exact absurd rfl h2
  | cons x xs =>
   obtain ⟨c,hc0⟩:∃ c,(u 0).cells[0]? = some c:=(hr 0 x rfl).cell0 (hx 0 x rfl)
   exact (h.frz _ _ (hc 0 x rfl 0 c hc0).1 k).trans (hn h1 h2 k)
 | fn f cs us hs _ ih=>exact .fn f cs us hs ih
 | agg cs us hs _ ih=>exact .agg cs us hs ih
 | tup cs us hs _ ih=>exact .tup cs us hs ih
 | mp ks vs g es cl hS hg h1 h2 _ _ ihk ihv=>exact .mp ks vs g es cl (h.sub _ _ hS) (h.map _ _ _ _ hS hg) h1 h2 ihk ihv
 | mpn=>exact .mpn
theorem RI.low{S:Nat→Nat→Prop}{w:World}:∀ (n:Nat) {v:AV}{u:Value},RI S w v u→RI S w (lowZ n v) u
 | 0,_,_,h=>h
 | n + 1,v,u,h=>by
  cases h with
  | sl e full xs A cap g o uu hl hm hf hA hx hc hr hn =>
   cases xs with
   | nil=>exact .sl e false [] A cap g o uu hl hm (fun h=>by cases h) hA hx hc hr (fun h=>by cases h)
   | cons x xs=>exact .sl e full (x::xs) A cap g o uu hl hm hf hA hx hc hr hn
  | agg cs us hs hr =>
   refine .agg _ us (by simpa using hs) fun i c z hc hz=>?_
   simp only[List.getElem?_map,Option.map_eq_some_iff] at hc
   obtain ⟨c',hc',rfl⟩:=hc
   exact (hr i c' z hc' hz).low n
  | bool b=>exact .bool b
  | int k n=>exact .int k n
  | str s=>exact .str s
  | nilp=>exact .nilp
  | nilfn=>exact .nilfn
  | nilmp=>exact .nilmp
  | pro cs g o u hc hr=>exact .pro cs g o u hc hr
  | fn f cs us hs hr=>exact .fn f cs us hs hr
  | tup cs us hs hr=>exact .tup cs us hs hr
  | mp ks vs g es cl hS hg h1 h2 hk hv=>exact .mp ks vs g es cl hS hg h1 h2 hk hv
  | mpn=>exact .mpn
structure Env where
 S:Nat→Nat→Prop
 rho:Nat→Option (Option Nat)
 ke:Nat→Nat
 ca:Nat→Nat
 base:Nat
inductive RV (E:Env) (w:World):AV→Value→Prop where
 | imm {v:AV}{u:Value}(h:RI E.S w v u):RV E w v u
 | junk (u:Value):RV E w .junk u
 | ptr (b off g:Nat) (h:E.rho b=some (some g)):RV E w (.ptr b off) (.pointer (some ⟨g,off,none⟩))
 | eptr (b i off g:Nat) (h:E.rho b=some (some g)):RV E w (.eptr b i off) (.pointer (some ⟨g,i * esz (E.ke b) + off,none⟩))
 | row0 (e b:Nat) (A:Option Addr) (h:E.rho b=some none) (he:E.ke b=e):RV E w (.row e b 0 0) (.slice A 0 0)
 | row (e b off len g cap:Nat) (A:Option Addr) (h:E.rho b=some (some g)) (he:E.ke b=e) (hA:A=some ⟨g,off * esz e,none⟩∨(off≠0∧len=0))
   (hl:len≤cap) (hc:off + cap=E.ca b) (hm:E.ca b≤maxLen):RV E w (.row e b off len) (.slice A len cap)
 | arow (e b off len g cap:Nat) (A:Option Addr) (h:E.rho b=some (some g)) (hA:A=some ⟨g,off,none⟩∨len=0)
   (hl:len≤cap) (hm:cap≤maxLen):RV E w (.arow e b off len) (.slice A len cap)
 | crow0 (e b:Nat) (A:Option Addr) (h:E.rho b=some none) (he:E.ke b=e):RV E w (.crow e b 0 0 0) (.slice A 0 0)
 | crow (e b off len g cap:Nat) (A:Option Addr) (h:E.rho b=some (some g)) (he:E.ke b=e) (hA:A=some ⟨g,off * esz e,none⟩∨(off≠0∧cap=0))
   (hl:len≤cap) (hc:off + cap=E.ca b) (hm:E.ca b≤maxLen):RV E w (.crow e b off len cap) (.slice A len cap)
 | fn (f:Nat) (cs:List AV) (us:Array Value) (hs:us.size=cs.length) (hr:∀ (i:Nat) c u,cs[i]? = some c→us[i]? = some u→RV E w c u):RV E w (.fn f cs) (.func (.func f) #[] us)
 | agg (cs:List AV) (us:Array Value) (hs:us.size=cs.length) (hr:∀ (i:Nat) c u,cs[i]? = some c→us[i]? = some u→RV E w c u):RV E w (.agg cs) (.agg us)
 | tup (cs:List AV) (us:Array Value) (hs:us.size=cs.length) (hr:∀ (i:Nat) c u,cs[i]? = some c→us[i]? = some u→RV E w c u):RV E w (.tup cs) (.tuple us)
 | mref (b g:Nat) (h:E.rho b=some (some g)):RV E w (.mref b) (.map (some g))
 | bnd (f:Nat) (cs:List AV) (us:Array Value) (hs:us.size=cs.length) (hr:∀ (i:Nat) c u,cs[i]? = some c→us[i]? = some u→RV E w c u):RV E w (.bnd f cs) (.func (.func f) us #[])
def Dr(_ _:World):Prop:=True
theorem Dr.mk{w w':World}(h:w.drawn≤w'.drawn):Dr w w':=by first | exact h | trivial
theorem Dr.trans{w w' w'':World}(h:Dr w w')(k:Dr w' w''):Dr w w'':=by first | exact Nat.le_trans h k | trivial
structure Blw (B:Nat) (w w':World):Prop where
 os:w'.os=w.os
 tape:w'.tape=w.tape
 output:w'.output=w.output
 size:w.heap.size≤w'.heap.size
 block:∀ k,k<B→w'.heap[k]? = w.heap[k]?
 frz:∀ a:Addr,a.block<w.heap.size→w'.frozen? a=w.frozen? a
 drawn:Dr w w'
theorem Blw.refl(B:Nat)(w:World):Blw B w w:=⟨rfl,rfl,rfl,Nat.le_refl _,fun _ _=>rfl,fun _ _=>rfl,.mk (Nat.le_refl _)⟩
theorem Blw.trans{B:Nat}{w w' w'':World}(h:Blw B w w')(k:Blw B w' w''):Blw B w w'' :=
 ⟨k.os.trans h.os,k.tape.trans h.tape,k.output.trans h.output,Nat.le_trans h.size k.size,fun i hi=>(k.block i hi).trans (h.block i hi),fun a ha=>(k.frz a (Nat.lt_of_lt_of_le ha h.size)).trans (h.frz a ha),h.drawn.trans k.drawn⟩
structure Ext (n:Nat) (E:Env) (w:World) (E':Env) (w':World):Prop where
 below:Blw E.base w w'
 base:E'.base=E.base
 kept:Kept E.S E'.S w w'
 new:∀ g o,E'.S g o→E.S g o∨E.base≤g
 rho:∀ b r,b<n→E.rho b=some r→E'.rho b=some r∧E'.ke b=E.ke b∧E'.ca b=E.ca b
theorem Ext.refl(n:Nat)(E:Env)(w:World):Ext n E w E w:=⟨Blw.refl _ _,rfl,Kept.refl _ _,fun _ _ h=>.inl h,fun _ _ _ h=>⟨h,rfl,rfl⟩⟩
theorem Ext.trans{n m:Nat}{E E' E'':Env}{w w' w'':World}(h:Ext n E w E' w')(k:Ext m E' w' E'' w'')(hm:n≤m):Ext n E w E'' w'':=by
 refine ⟨h.below.trans (h.base ▸ k.below),k.base.trans h.base,h.kept.trans k.kept,fun g o s=>?_,fun b r hb e=>?_⟩
 ·rcases k.new g o s with s | s
  ·exact h.new g o s
  ·exact .inr (h.base ▸ s)
 ·obtain ⟨e1,e2,e3⟩:=h.rho b r hb e
  obtain ⟨f1,f2,f3⟩:=k.rho b r (Nat.lt_of_lt_of_le hb hm) e1
  exact ⟨f1,f2.trans e2,f3.trans e3⟩
theorem Ext.mono{n m:Nat}{E E':Env}{w w':World}(h:Ext n E w E' w')(hm:m≤n):Ext m E w E' w' :=
 ⟨h.below,h.base,h.kept,h.new,fun b r hb e=>h.rho b r (Nat.lt_of_lt_of_le hb hm) e⟩
theorem RV.ext{n:Nat}{E E':Env}{w w':World}(h:Ext n E w E' w')(hd:∀ b r,E.rho b=some r→b<n){v:AV}{u:Value}(hr:RV E w v u):RV E' w' v u:=by
 have key:∀ b r,E.rho b=some r→E'.rho b=some r∧E'.ke b=E.ke b∧E'.ca b=E.ca b:=fun b r e=>h.rho b r (hd b r e) e
 induction hr with
 | imm h'=>exact .imm (h'.kept h.kept)
 | junk u=>exact .junk u
 | ptr b off g e=>exact .ptr b off g (key _ _ e).1
 | eptr b i off g e=>rw[← (key _ _ e).2.1];exact .eptr b i off g (key _ _ e).1
 | row0 e b A hb he=>exact .row0 e b A (key _ _ hb).1 ((key _ _ hb).2.1.trans he)
 | row e b off len g cap A hb he hA hl hc hm =>
  obtain ⟨k1,k2,k3⟩:=key _ _ hb
  exact .row e b off len g cap A k1 (k2.trans he) hA hl (k3 ▸ hc) (k3 ▸ hm)
 | arow e b off len g cap A hb hA hl hm=>exact .arow e b off len g cap A (key _ _ hb).1 hA hl hm
 | crow0 e b A hb he=>exact .crow0 e b A (key _ _ hb).1 ((key _ _ hb).2.1.trans he)
 | crow e b off len g cap A hb he hA hl hc hm =>
  obtain ⟨k1,k2,k3⟩:=key _ _ hb
  exact .crow e b off len g cap A k1 (k2.trans he) hA hl (k3 ▸ hc) (k3 ▸ hm)
 | fn f cs us hs _ ih=>exact .fn f cs us hs ih
 | bnd f cs us hs _ ih=>exact .bnd f cs us hs ih
 | agg cs us hs _ ih=>exact .agg cs us hs ih
 | tup cs us hs _ ih=>exact .tup cs us hs ih
 | mref b g hb=>exact .mref b g (key _ _ hb).1
def Soft(vals:Array Value)(fz:Nat×Nat):Prop:=∀ o,o<vals.size→¬ (fz.1≤o∧o<fz.2)
def Ok1(c:AV):Prop:=c.one=true∨c=.junk
def CellsOK(E:Env)(w:World)(cs:List AV)(vals:Array Value):Prop :=
 cs.length≤vals.size∧(∀ c ∈ cs,Ok1 c)∧∀ (i:Nat) c u,cs[i]? = some c→vals[i]? = some u→RV E w c u
def Shape(e:Nat)(x:AV):Prop:=if e=0 then Ok1 x else ∃ cs,x=.agg cs∧cs.length=e∧∀ c ∈ cs,Ok1 c
def ElsOK(E:Env)(w:World)(e:Nat)(xs:List AV)(vals:Array Value):Prop :=
 xs.length * esz e≤vals.size∧∀ (i:Nat) x,xs[i]? = some x→Shape e x∧∃ u:Value,RV E w x u∧u.cells.size=esz e∧∀ (j:Nat) c,u.cells[j]? = some c→vals[i * esz e + j]? = some c
def BOK(E:Env)(w:World)(b:Nat):HB→Prop
 | .dead=>True
 | .cel cs=>∃ g vals t fz,E.rho b=some (some g)∧w.heap[g]? = some (.cells vals t fz)∧Soft vals fz∧CellsOK E w cs vals
 | .els e xs=>E.ke b=e∧((E.rho b=some none∧xs=[])∨∃ g vals t fz,E.rho b=some (some g)∧w.heap[g]? = some (.cells vals t fz)∧Soft vals fz ∧
   vals.size=E.ca b * esz e∧xs.length≤E.ca b∧E.ca b≤maxLen∧ElsOK E w e xs vals)
 | .itr s pos=>∃ g,E.rho b=some (some g)∧w.heap[g]? = some (.stringIter ⟨s.toArray⟩ pos)
 | .map ks vs=>∃ g es cl,E.rho b=some (some g)∧w.heap[g]? = some (.map es cl)∧es.size=ks.length∧es.size=vs.length ∧
   (∀ (i:Nat) k (x:MapEntry),ks[i]? = some k→es[i]? = some x→RI E.S w k x.key)∧(∀ (i:Nat) v (x:MapEntry),vs[i]? = some v→es[i]? = some x→RI E.S w v x.val)
def HB.alive:HB→Prop
 | .dead=>False
 | _=>True
structure HOK (E:Env) (h:Hp) (w:World):Prop where
 blocks:∀ (b:Nat) x,h[b]? = some x→BOK E w b x
 dom:∀ b r,E.rho b=some r→b<h.length
 own:∀ (b:Nat) x g,h[b]? = some x→x.alive→E.rho b=some (some g)→E.base≤g∧g<w.heap.size∧∀ o,¬ E.S g o
 inj:∀ (b b':Nat) x x' g,h[b]? = some x→h[b']? = some x'→x.alive→x'.alive→E.rho b=some (some g)→E.rho b'=some (some g)→b=b'
 old:∀ g o,E.S g o→g<w.heap.size
 size:E.base≤w.heap.size
def SOK(E:Env)(w:World)(s:Nat→AV)(a:Act):Prop:=∀ i,RV E w (s i) (a.tmps.getD i undef)
structure StOK (E:Env) (st:St) (a:Act) (w:World):Prop where
 slots:SOK E w st.s a
 defers:a.defers=[]
 heap:HOK E st.h w
theorem HOK.ext{E E':Env}{h:Hp}{w w':World}(hh:HOK E h w)(x:Ext h.length E w E' w'){v:AV}{u:Value}(hr:RV E w v u):RV E' w' v u:=hr.ext x hh.dom
theorem esz_pos(e:Nat):0<esz e:=by unfold esz;split<;>omega
@[simp] theorem esz_zero:esz 0=1:=rfl
end Go.Ab
namespace Go.Ab
open Go
variable (P:Program)
def aggD:TypeDesc→Bool
 | .struct _=>true
 | .array _ _=>true
 | _=>false
def ecode(t:TypeId):Option Nat :=
 match P.info? t with
 | none=>none
 | some i=>match P.underlying t with
  | none=>none
  | some d=>if aggD d then (if 0<i.size then some i.size else none) else (if i.size=1 then some 0 else none)
def constAV(t:TypeId):Value→Option AV
 | .bool b=>some (.bool b)
 | .int k n=>some (.int k n)
 | .string s=>some (.str s.data.toList)
 | .pointer none=>some .nilp
 | .nilFunc=>some .nilfn
 | .map none=>some .nilmp
 | .slice none 0 0=>match P.underlying t with
  | some (.slice e)=>(ecode P e).map fun e=>.sl e true []
  | _=>none
 | _=>none
def relC:AV→Value→Bool
 | .bool b,.bool c=>b == c
 | .int k n,.int j m=>k == j && n == m
 | .str s,.string t=>s == t.data.toList
 | .nilp,.pointer none=>true
 | .nilfn,.nilFunc=>true
 | .nilmp,.map none=>true
 | .sl _ true [],.slice none 0 0=>true
 | _,_=>false
def relCs:List AV→List Value→Bool
 | [],[]=>true
 | a::as,v::vs=>relC a v && relCs as vs
 | _,_=>false
def zRuns:Nat→TypeId→Option (List (Nat×AV))
 | 0,_=>none
 | n + 1,t=>match P.underlying t with
  | some (.struct fs)=>(omap (fun f=>zRuns n f.type) fs.toList).map List.flatten
  | some (.array k e)=>match zRuns n e with
   | some [(m,v)]=>some [(k * m,v)]
   | some z=>some (List.replicate k z).flatten
   | none=>none
  | some _=>match (P.info? t).bind (·.zero) with
   | some v=>(constAV P t v).map fun a=>[(1,a)]
   | none=>none
  | none=>none
def zero?(t:TypeId):Option (List (Nat×AV)) :=
 match zRuns P 8 t,(P.info? t).bind (·.zero) with
 | some z,some v=>if relCs (expand z) v.cells.toList then some z else none
 | _,_=>none
def vAgg:Value→Bool
 | .agg _=>true
 | _=>false
def zeroE(t:TypeId):Option AV :=
 match ecode P t,zero? P t,(P.info? t).bind (·.zero) with
 | some e,some z,some v=>if vAgg v=(e != 0)∧v.cells.size=esz e then (if e=0 then (match expand z with
  | [a]=>some a
  | _=>none) else some (.agg (expand z))) else none
 | _,_,_=>none
def od(t:TypeId):Operand→Option Od
 | .tmp i=>some (.t i)
 | .const v=>(constAV P t v).map .c
 | .func f=>some (.c (.fn f []))
 | .global _=>none
def odO(t:TypeId):Option Operand→Option (Option Od)
 | none=>some none
 | some x=>(od P t x).map some
def ods:List TypeId→List Operand→Option (List Od)
 | [],[]=>some []
 | t::ts,x::xs=>match od P t x,ods ts xs with
  | some y,some ys=>some (y::ys)
  | _,_=>none
 | _,_=>none
def kindOf:TypeDesc→Option Nat
 | .int _=>some 0
 | .string=>some 1
 | .bool=>some 2
 | _=>none
def kindsF(K:TypeId→Option (List Nat))(i:Nat):List Field→Option (List Nat)
 | []=>some []
 | f :: fs => if f.offset = i ∧ f.name ≠ "_" then match K f.type with
  | some k=>match kindsF K (i + k.length) fs with
   | some ks=>some (k++ks)
   | none=>none
  | none=>none else none
def kindsT:Nat→TypeId→Option (List Nat)
 | 0,t=>((P.underlying t).bind kindOf).map fun k=>[k]
 | n + 1,t=>match P.underlying t with
  | some (.struct fs)=>if P.stoodInHeld t=false then match kindsF (kindsT n) 0 fs.toList with
   | some ks=>if (P.info? t).map (·.size)=some ks.length then some ks else none
   | none=>none else none
  | some d=>(kindOf d).map fun k=>[k]
  | none=>none
def cmpKinds(t:TypeId):Option (List Nat) :=
 match P.underlying t with
 | some (.struct _)=>if P.eqGuardType P.depth t=false then kindsT P 4 t else none
 | _=>none
def plainT(t:TypeId):Bool:=((P.underlying t).bind kindOf).isSome || (cmpKinds P t).isSome
def partsS(fs:Array Field):List (Nat×Operand)→Option (List (Nat×Nat×Od))
 | []=>some []
 | (i,x)::ps=>match fs[i]? with
  | some f=>match ecode P f.type,od P f.type x,partsS fs ps with
   | some e,some y,some qs=>some ((f.offset,e,y)::qs)
   | _,_,_=>none
  | none=>none
def partsA(t:TypeId)(e:Nat):List (Nat×Operand)→Option (List (Nat×Nat×Od))
 | []=>some []
 | (i,x)::ps=>match od P t x,partsA t e ps with
  | some y,some qs=>some ((i * esz e,e,y)::qs)
  | _,_=>none
def partsL(t:TypeId):List (Nat×Operand)→Option (List (Nat×Od))
 | []=>some []
 | (i,x)::ps=>match od P t x,partsL t ps with
  | some y,some qs=>some ((i,y)::qs)
  | _,_=>none
def ovlF(f:Od):Bool :=
 match f with
 | .c (.fn f [])=>match P.funcs[f]? with
  | some fn => fn.body.isNone && (fn.origin == "slices.overlaps" && (fn.name != "runtime.NumGoroutine" && ((Extern.allNextRows.lookup fn.name).isNone && ((Extern.allGenericRows.lookup fn.name).isNone &&
    ((Extern.allTypedRows.lookup fn.name).isNone && ((Extern.allRows.lookup fn.name).isNone && (match fn.params.toList,fn.resultTypes.toList with
     | [t,t'],[_]=>t == t' && (match P.underlying t with
      | some (.slice el)=>(ecode P el).isSome
      | _=>false)
     | _,_=>false)))))))
  | none=>false
 | _=>false
def compCall(ty:TypeId)(c:Call):Option Op1 :=
 match c.callee with
 | .value f=>match od P 0 f,ods P c.argTypes.toList c.args.toList with
  | some f,some as=>match ovlF P f,as,c.argTypes.toList with
   | true,[x,y],[_,_]=>some (.ovl x y)
   | _,_,_=>some (.call f as)
  | _,_=>none
 | .invoke _ _=>none
 | .builtin b=>match b,c.argTypes.toList,c.args.toList with
  | .len,t::_,[x]=>match P.underlying t with
   | some (.array n _)=>some (.alen n)
   | some .string=>(od P t x).map (.len 1)
   | some (.slice _)=>(od P t x).map (.len 0)
   | some (.map _ _)=>(od P t x).map (.len 2)
   | _=>none
  | .append,[t,u],[x,y]=>match P.underlying t with
   | some (.slice e)=>match ecode P e,P.info? e,(P.info? e).bind (·.zero),od P t x,od P u y,P.underlying u with
    | some k,some i,some z,some x,some y,some (.slice _)=>if z.cells.size=esz k then some (.append k i.bytes x y) else none
    | some k,some i,some z,some x,some y,some .string=>if z.cells.size=esz k then some (.append k i.bytes x y) else none
    | some k,some i,some z,some x,some y,some (.int _)=>match zeroE P e with
     | some z'=>if z.cells.size=esz k then some (.appz k i.bytes z' x y) else none
     | none=>none
    | _,_,_,_,_,_=>none
   | _=>none
  | .cap,t::_,[x]=>match P.underlying t with
   | some (.slice _)=>(od P t x).map .cap
   | _=>none
  | .copy,t::u::_,[x,y]=>match P.underlying t with
   | some (.slice e)=>match ecode P e,od P t x,od P u y with
    | some k,some x,some y=>some (.copy k x y)
    | _,_,_=>none
   | _=>none
  | .clear,t::_,[x]=>match P.underlying t with
   | some (.slice e)=>match ecode P e,zeroE P e,od P t x with
    | some k,some z,some x=>some (.clear k z x)
    | _,_,_=>none
   | _=>none
  | .max,_,x::xs=>match od P ty x,omap (od P ty) xs with
   | some x,some xs=>some (.maxmin true x xs)
   | _,_=>none
  | .min,_,x::xs=>match od P ty x,omap (od P ty) xs with
   | some x,some xs=>some (.maxmin false x xs)
   | _,_=>none
  | _,_,_=>none
def compBin(op:BinOp)(t:TypeId)(x y:Operand)(yt:TypeId):Option Op1 :=
 match od P t x,od P (if isShift op then yt else t) y with
 | some x,some y=>match P.underlying t with
  | some (.int _)=>some (.bin op x y)
  | some .string=>some (.bin op x y)
  | some .bool=>some (.binb op x y)
  | some (.struct _)=>match cmpKinds P t,op with
   | some ks,.eql=>some (.eqs false ks x y)
   | some ks,.neq=>some (.eqs true ks x y)
   | _,_=>none
  | some (.pointer _)=>match op with
   | .eql=>some (.eqp false x y)
   | .neq=>some (.eqp true x y)
   | _=>none
  | some (.slice _)=>match op,y with
   | .eql,.c (.sl _ true [])=>some (.isnil false x)
   | .neq,.c (.sl _ true [])=>some (.isnil true x)
   | _,_=>none
  | some (.func _ _ _)=>match op with
   | .eql=>some (.eqs false [9] x y)
   | .neq=>some (.eqs true [9] x y)
   | _=>none
  | _=>none
 | _,_=>none
def compConv(src dst:TypeId)(x:Operand):Option Op1 :=
 match od P src x with
 | some x=>match P.underlying src,P.underlying dst with
  | some (.int _),some (.int k)=>some (.cint k x)
  | some .string,some .string=>some (.sslice x none none)
  | some (.slice e),some .string=>match P.underlying e with
   | some (.int .u8)=>some (.cstr x)
   | _=>none
  | some .string,some (.slice e)=>match P.underlying e,ecode P e with
   | some (.int .u8),some 0=>some (.cbytes x)
   | _,_=>none
  | _,_=>none
 | none=>none
def compO1(o:Oper):Option Op1 :=
 match o.op with
 | .move x=>(od P o.type x).map .mv
 | .assign x=>(od P o.type x).map .mv
 | .pick c a b=>match od P 0 c,od P o.type a,od P o.type b with
  | some c,some a,some b=>some (.pick c a b)
  | _,_,_=>none
 | .alloc t=>(zero? P t).map .alloc
 | .box t x=>(od P t x).map .box
 | .build t ps=>match zero? P t,P.underlying t with
  | some z,some (.struct fs)=>if fs.toList.all (fun f=>(P.info? f.type).isSome) then (partsS P fs ps.toList).map (.build z) else none
  | some z,some (.array _ el)=>match ecode P el with
   | some e=>(partsA P el e ps.toList).map (.build z)
   | none=>none
  | _,_=>none
 | .buildSlice t n ps=>match P.underlying t with
  | some (.slice el)=>match ecode P el,zeroE P el with
   | some e,some z=>if n * esz e≤2 ^ 24 then (partsL P el ps.toList).map (if plainT P el=true then .mkslp e n z else .mksl e n z) else none
   | _,_=>none
  | _=>none
 | .load t a=>match ecode P t,od P 0 a with
  | some e,some a=>some (.load e a)
  | _,_=>none
 | .store t a v=>match ecode P t,od P 0 a,od P t v with
  | some e,some a,some v=>some (.store e a v)
  | _,_,_=>none
 | .nilCheck x=>(od P 0 x).map .nilchk
 | .binOp op t x y yt=>compBin P op t x y yt
 | .unOp op t x=>(od P t x).map (.un op)
 | .convert s d x=>compConv P s d x
 | .makeFunc (.func f) first caps=>if first.size=0 then (omap (od P 0) caps.toList).map (.mkfn f) else if caps.size=0 then (omap (od P 0) first.toList).map (.mkbnd f) else none
 | .slice t x lo hi none=>match P.underlying t,odO P 0 lo,odO P 0 hi with
  | some (.slice el),some lo,some hi=>match ecode P el,od P t x with
   | some e,some x=>some (.slice e x lo hi)
   | _,_=>none
  | some .string,some lo,some hi=>(od P t x).map fun x=>.sslice x lo hi
  | some (.array n el),some lo,some hi=>match ecode P el,od P 0 x with
   | some e,some x=>if n≤maxLen then some (.aslice e n x lo hi) else none
   | _,_=>none
  | _,_,_=>none
 | .slice t x lo hi mx=>match P.underlying t,odO P 0 lo,odO P 0 hi,odO P 0 mx with
  | some (.slice el),some lo,some hi,some mx=>match ecode P el,od P t x with
   | some e,some x=>some (.slice3 e x lo hi mx)
   | _,_=>none
  | _,_,_,_=>none
 | .fieldAddr t x f=>match P.underlying t,od P 0 x with
  | some (.struct fs),some x=>match fs[f]? with
   | some fd=>if P.cellsOf fd.type=0 then none else some (.faddr fd.offset x)
   | none=>none
  | _,_=>none
 | .field t x f=>match P.underlying t,od P 0 x with
  | some (.struct fs),some x=>match fs[f]? with
   | some fd=>(ecode P fd.type).map fun e=>.fld fd.offset e x
   | none=>none
  | _,_=>none
 | .indexAddr t x i=>match P.underlying t,od P 0 i with
  | some (.slice el),some i=>match ecode P el,od P t x with
   | some e,some x=>some (.iaddr e x i)
   | _,_=>none
  | some (.array n el),some i=>match ecode P el,od P 0 x with
   | some e,some x=>some (.aiaddr e n x i)
   | _,_=>none
  | _,_=>none
 | .index t x i=>match P.underlying t,od P t x,od P 0 i with
  | some (.array n el),some x,some i=>(ecode P el).map fun e=>.idx e n x i
  | some .string,some x,some i=>some (.sidx x i)
  | _,_,_=>none
 | .extract x i=>(od P 0 x).map fun x=>.ext x i
 | .call c=>compCall P o.type c
 | .makeSlice t l c=>match P.underlying t with
  | some (.slice el)=>match ecode P el,P.info? el,(P.info? el).bind (·.zero),zeroE P el,od P 0 l,od P 0 c with
   | some k,some i,some z,some z',some (.c (.int _ n)),some (.c (.int _ m))=>if m=n∧z.cells.size=esz k then some (.appz k i.bytes z' (.c (.sl k true [])) (.c (.int .i64 n))) else none
   | some k,some i,some z,some z',some (.t n),some (.t m)=>if m=n∧z.cells.size=esz k then some (.appz k i.bytes z' (.c (.sl k true [])) (.t n)) else none
   | _,_,_,_,_,_=>none
  | _=>none
 | .makeMap t none=>match P.underlying t with
  | some (.map _ _)=>some .mkmap
  | _=>none
 | .lookup t x i ok=>match P.underlying t with
  | some (.map kt el)=>match (P.underlying kt).bind kindOf,zeroE P el,od P t x,od P kt i with
   | some kd,some z,some x,some i=>some (.lookup kd z ok x i)
   | _,_,_,_=>none
  | _=>none
 | .mapUpdate t m k v=>match P.underlying t with
  | some (.map kt el)=>match (P.underlying kt).bind kindOf,od P t m,od P kt k,od P el v with
   | some kd,some m,some k,some v=>some (.mapset kd m k v)
   | _,_,_,_=>none
  | _=>none
 | .insert t m k v=>match P.underlying t with
  | some (.map kt el)=>match (P.underlying kt).bind kindOf,od P t m,od P kt k,od P el v with
   | some kd,some m,some k,some v=>some (.mapset kd m k v)
   | _,_,_,_=>none
  | _=>none
 | .range t x=>match P.underlying t with
  | some .string=>(od P t x).map .rng
  | _=>none
 | .next x true=>(od P 0 x).map .next
 | _=>none
def compO(o:Oper):Option Op1:=some ((compO1 P o).getD .bad)
def slotOf(ops:Array Oper)(j:Nat):Option Nat:=(ops[j]?).bind (·.dst)
def compI(n:Nat)(ops:Array Oper)(o:Oper):Option Ins :=
 match compO P o,(match o.dst with | some d=>decide (d<n) | none=>true) with
 | some p,true=>match o.guard with
  | none=>some { d:=o.dst,g:=none,o:=p }
  | some (j,want)=>match slotOf ops j with
   | some s=>if s<n then some { d:=o.dst,g:=some (s,want),o:=p } else none
   | none=>none
 | _,_=>none
def odReads:Od→List Nat
 | .t i=>[i]
 | .c _=>[]
def odOReads:Option Od→List Nat
 | some x=>odReads x
 | none=>[]
def Op1.reads:Op1→List Nat
 | .mv x | .box x | .nilchk x | .un _ x | .cint _ x | .cstr x | .cbytes x | .faddr _ x | .fld _ _ x | .ext x _ | .len _ x | .load _ x | .isnil _ x | .cap x | .clear _ _ x | .rng x | .next x=>odReads x
 | .copy _ x y | .appz _ _ _ x y | .ovl x y=>odReads x++odReads y
 | .slice3 _ x lo hi mx=>odReads x++odOReads lo++odOReads hi++odOReads mx
 | .pick c a b=>odReads c++odReads a++odReads b
 | .alloc _ | .alen _ | .mkmap | .bad=>[]
 | .build _ ps=>ps.flatMap fun p=>odReads p.2.2
 | .mksl _ _ _ ps | .mkslp _ _ _ ps=>ps.flatMap fun p=>odReads p.2
 | .store _ a v=>odReads a++odReads v
 | .bin _ x y | .binb _ x y | .eqs _ _ x y | .eqp _ x y | .iaddr _ x y | .aiaddr _ _ x y | .idx _ _ x y | .sidx x y | .append _ _ x y | .mkslc _ _ _ x y=>odReads x++odReads y
 | .mkfn _ cs | .mkbnd _ cs=>cs.flatMap odReads
 | .slice _ x lo hi | .sslice x lo hi | .aslice _ _ x lo hi=>odReads x++odOReads lo++odOReads hi
 | .call f as=>odReads f++as.flatMap odReads
 | .maxmin _ x xs=>odReads x++xs.flatMap odReads
 | .lookup _ _ _ m k=>odReads m++odReads k
 | .mapset _ m k v=>odReads m++odReads k++odReads v
def Ins.reads(i:Ins):List Nat:=(match i.g with | some (j,_)=>[j] | none=>[])++i.o.reads
def Op1.blind:Op1→Bool
 | .mv _ | .pick _ _ _ | .build _ _ | .mkslp _ _ _ _ | .nilchk _ | .bin _ _ _ | .binb _ _ _ | .eqs _ _ _ _ | .eqp _ _ _ | .sslice _ _ _ | .un _ _ | .cint _ _ | .mkfn _ _ | .mkbnd _ _ | .slice _ _ _ _ | .aslice _ _ _ _ _ | .faddr _ _ | .fld _ _ _ | .iaddr _ _ _
 | .aiaddr _ _ _ _ | .idx _ _ _ _ | .sidx _ _ | .ext _ _ | .alen _ | .maxmin _ _ _ | .cap _ | .slice3 _ _ _ _ _=>true
 | _=>false
def Op1.still:Op1→Bool
 | .load _ _ | .len _ _ | .lookup _ _ _ _ _ | .cstr _ | .ovl _ _=>true
 | o=>o.blind
def Op1.grows:Op1→Bool
 | .alloc _ | .box _=>true
 | _=>false
def apart(q:Bool)(i j:Ins):Bool :=
 (match i.d with | some d => !j.reads.contains d && j.d != some d | none=>true) &&
 (match j.d with | some d => !i.reads.contains d | none=>true) &&
 ((i.o.still && (j.o.still || (j.o.grows && j.g.isNone))) || i.o.blind || j.o.blind || (q && (i.o.still && j.o.isCall || i.o.isCall && j.o.still)))
def orB(acc:List Nat):List Edge→Nat
 | []=>0
 | e::es=>(if Region.binds .any e then 2 ^ e.on ||| acc.getD e.on 0 else 0) ||| orB acc es
def befs:List Oper→List Nat→List Nat
 | [],acc=>acc
 | o::os,acc=>befs os (acc++[orB acc o.after.toList])
def drawOK(q:Bool)(ops:Array Oper)(is:List Ins):Bool :=
 let b:=befs ops.toList []
 (List.range ops.size).all fun j=>(match ops[j]? with | some o=>o.after.toList.all fun e => !Region.binds .any e || decide (e.on<j) | none=>true) &&
  (List.range j).all fun i=>(b.getD j 0).testBit i || apart q (is.getD i default) (is.getD j default)
def rdy(ops:Array Oper)(rest:List Nat):List Nat:=rest.filter fun i=>match ops[i]? with
 | some o=>o.after.toList.all fun e => !Region.binds .any e || !rest.contains e.on
 | none=>false
def loneI(q:Bool)(b:List Nat)(is:List Ins)(rest:List Nat)(i:Nat):Bool :=
 rest.all fun j=>j == i || (b.getD j 0).testBit i || apart q (is.getD i default) (is.getD j default)
def RT.cons(i:Ins):RT→RT
 | .run is=>.run (i::is)
 | .fork is a b=>.fork (i::is) a b
def RT.forks:List RT→RT
 | []=>.run []
 | [t]=>t
 | t::ts=>.fork [] t (RT.forks ts)
def grow(q:Bool)(ops:Array Oper)(b:List Nat)(is:List Ins):Nat→List Nat→RT
 | 0,_=>.run []
 | f + 1,rest=>match rest with
  | []=>.run []
  | _=>match (rdy ops rest).find? (loneI q b is rest) with
   | some i=>(grow q ops b is f (rest.erase i)).cons (is.getD i default)
   | none=>RT.forks ((rdy ops rest).map fun i=>(grow q ops b is f (rest.erase i)).cons (is.getD i default))
def fwd(ops:Array Oper):Bool:=(List.range ops.size).all fun j=>match ops[j]? with
 | some o=>o.after.toList.all fun e => !Region.binds .any e || decide (e.on<j)
 | none=>true
def compC(n:Nat):Code→Option C
 | .skip=>some .skip
 | .label _=>some .skip
 | .region _ ops draw=>match omap (compI P n ops) ops.toList with
  | some is=>if draw=true then (if (P.follows .mixedOrders || !Region.departs ops)=true then (if drawOK false ops is=true then some (.reg is) else if drawOK true ops is=true then some (.regq is) else if fwd ops=true then some (.regt (grow true ops (befs ops.toList []) is ops.size (List.range ops.size))) else none) else none) else some (.reg is)
  | none=>none
 | .seq a b=>match compC n a,compC n b with
  | some a,some b=>some (.seq a b)
  | _,_=>none
 | .cond c a b=>match od P 0 c,compC n a,compC n b with
  | some c,some a,some b=>some (.cond c a b)
  | _,_,_=>none
 | .block id b=>(compC n b).map (.block id)
 | .loop b=>(compC n b).map .loop
 | .scope b=>(compC n b).map .scope
 | .exit id=>some (.exit id)
 | .ret=>some .ret
 | _=>some .bad
end Go.Ab
namespace Go.Ab
open Go Go.RowKit
section
variable {S:Nat→Nat→Prop}{E:Env}{w:World}
theorem RV.int_inv{k:IntKind}{n:Int}{u:Value}(h:RV E w (.int k n) u):u=.int k n:=by
 cases h with | imm h=>cases h;rfl
theorem RV.bool_inv{b:Bool}{u:Value}(h:RV E w (.bool b) u):u=.bool b:=by
 cases h with | imm h=>cases h;rfl
theorem RV.str_inv{s:List UInt8}{u:Value}(h:RV E w (.str s) u):u=.string ⟨s.toArray⟩:=by
 cases h with | imm h=>cases h;rfl
theorem RV.nilp_inv{u:Value}(h:RV E w .nilp u):u=.pointer none:=by
 cases h with | imm h=>cases h;rfl
theorem RV.nilfn_inv{u:Value}(h:RV E w .nilfn u):u=.nilFunc:=by
 cases h with | imm h=>cases h;rfl
theorem RV.nilmp_inv{u:Value}(h:RV E w .nilmp u):u=.map none:=by
 cases h with | imm h=>cases h;rfl
theorem RV.ptr_inv{b off:Nat}{u:Value}(h:RV E w (.ptr b off) u):∃ g,E.rho b=some (some g)∧u=.pointer (some ⟨g,off,none⟩):=by
 cases h with
 | imm h=>cases h
 | ptr _ _ g h=>exact ⟨g,h,rfl⟩
theorem RV.eptr_inv{b i off:Nat}{u:Value}(h:RV E w (.eptr b i off) u):∃ g,E.rho b=some (some g)∧u=.pointer (some ⟨g,i * esz (E.ke b) + off,none⟩):=by
 cases h with
 | imm h=>cases h
 | eptr _ _ _ g h=>exact ⟨g,h,rfl⟩
theorem RV.mref_inv{b:Nat}{u:Value}(h:RV E w (.mref b) u):∃ g,E.rho b=some (some g)∧u=.map (some g):=by
 cases h with
 | imm h=>cases h
 | mref _ g h=>exact ⟨g,h,rfl⟩
theorem RV.row_inv{e b off len:Nat}{u:Value}(h:RV E w (.row e b off len) u):E.ke b=e∧((E.rho b=some none∧off=0∧len=0∧∃ A,u=.slice A 0 0) ∨
  ∃ g cap A,E.rho b=some (some g)∧u=.slice A len cap∧(A=some ⟨g,off * esz e,none⟩∨(off≠0∧len=0))∧len≤cap∧off + cap=E.ca b∧E.ca b≤maxLen):=by
 cases h with
 | imm h=>cases h
 | row0 _ _ A h he=>exact ⟨he,.inl ⟨h,rfl,rfl,A,rfl⟩⟩
 | row _ _ _ _ g cap A h he hA hl hc hm=>exact ⟨he,.inr ⟨g,cap,A,h,rfl,hA,hl,hc,hm⟩⟩
theorem RV.arow_inv{e b off len:Nat}{u:Value}(h:RV E w (.arow e b off len) u):∃ g cap A,E.rho b=some (some g)∧u=.slice A len cap∧(A=some ⟨g,off,none⟩∨len=0)∧len≤cap∧cap≤maxLen:=by
 cases h with
 | imm h=>cases h
 | arow _ _ _ _ g cap A h hA hl hm=>exact ⟨g,cap,A,h,rfl,hA,hl,hm⟩
theorem RV.crow_inv{e b off len cap:Nat}{u:Value}(h:RV E w (.crow e b off len cap) u):E.ke b=e∧((E.rho b=some none∧off=0∧len=0∧cap=0∧∃ A,u=.slice A 0 0) ∨
  ∃ g A,E.rho b=some (some g)∧u=.slice A len cap∧(A=some ⟨g,off * esz e,none⟩∨(off≠0∧cap=0))∧len≤cap∧off + cap=E.ca b∧E.ca b≤maxLen):=by
 cases h with
 | imm h=>cases h
 | crow0 _ _ A h he=>exact ⟨he,.inl ⟨h,rfl,rfl,rfl,A,rfl⟩⟩
 | crow _ _ _ _ g _ A h he hA hl hc hm=>exact ⟨he,.inr ⟨g,A,h,rfl,hA,hl,hc,hm⟩⟩
theorem RV.crow_row{e b off len cap:Nat}{u:Value}(h:RV E w (.crow e b off len cap) u):RV E w (.row e b off len) u:=by
 obtain ⟨he,⟨hr,rfl,rfl,rfl,A,rfl⟩ | ⟨g,A,hr,rfl,hA,hl,hc,hm⟩⟩:=h.crow_inv
 ·exact .row0 e b A hr he
 ·refine .row e b off len g cap A hr he ?_ hl hc hm
  rcases hA with hA | ⟨h1,h2⟩
  ·exact .inl hA
  ·exact .inr ⟨h1,by omega⟩
theorem RV.pro_inv{cs:List AV}{u:Value}(h:RV E w (.pro cs) u):RI E.S w (.pro cs) u:=by
 cases h with | imm h=>exact h
theorem RV.sl_inv{e:Nat}{f:Bool}{xs:List AV}{u:Value}(h:RV E w (.sl e f xs) u):RI E.S w (.sl e f xs) u:=by
 cases h with | imm h=>exact h
theorem RV.mp_inv{ks vs:List AV}{u:Value}(h:RV E w (.mp ks vs) u):RI E.S w (.mp ks vs) u:=by
 cases h with | imm h=>exact h
theorem RV.fr_inv{e:Nat}{xs:List AV}{u:Value}(h:RV E w (.fr e xs) u):False:=by
 cases h with | imm h=>cases h
theorem RV.agg_inv{cs:List AV}{u:Value}(h:RV E w (.agg cs) u):∃ us:Array Value,u=.agg us∧us.size=cs.length∧∀ (i:Nat) c v,cs[i]? = some c→us[i]? = some v→RV E w c v:=by
 cases h with
 | imm h=>cases h with | agg _ us hs hr=>exact ⟨us,rfl,hs,fun i c v h1 h2=>.imm (hr i c v h1 h2)⟩
 | agg _ us hs hr=>exact ⟨us,rfl,hs,hr⟩
theorem RV.tup_inv{cs:List AV}{u:Value}(h:RV E w (.tup cs) u):∃ us:Array Value,u=.tuple us∧us.size=cs.length∧∀ (i:Nat) c v,cs[i]? = some c→us[i]? = some v→RV E w c v:=by
 cases h with
 | imm h=>cases h with | tup _ us hs hr=>exact ⟨us,rfl,hs,fun i c v h1 h2=>.imm (hr i c v h1 h2)⟩
 | tup _ us hs hr=>exact ⟨us,rfl,hs,hr⟩
theorem RV.fn_inv{f:Nat}{cs:List AV}{u:Value}(h:RV E w (.fn f cs) u):∃ us:Array Value,u=.func (.func f) #[] us∧us.size=cs.length∧∀ (i:Nat) c v,cs[i]? = some c→us[i]? = some v→RV E w c v:=by
 cases h with
 | imm h=>cases h with | fn _ _ us hs hr=>exact ⟨us,rfl,hs,fun i c v h1 h2=>.imm (hr i c v h1 h2)⟩
 | fn _ _ us hs hr=>exact ⟨us,rfl,hs,hr⟩
theorem RV.bnd_inv{f:Nat}{cs:List AV}{u:Value}(h:RV E w (.bnd f cs) u):∃ us:Array Value,u=.func (.func f) us #[]∧us.size=cs.length∧∀ (i:Nat) c v,cs[i]? = some c→us[i]? = some v→RV E w c v:=by
 cases h with
 | imm h=>cases h
 | bnd _ _ us hs hr=>exact ⟨us,rfl,hs,hr⟩
theorem RV.one{v:AV}{u:Value}(h:RV E w v u)(ho:v.one=true):u.oneCell'=true∧u.cells = #[u]:=by
 cases h with
 | imm h=>cases h<;>simp_all [AV.one,Value.oneCell',Value.cells]
 | junk=>simp[AV.one] at ho
 | agg=>simp[AV.one] at ho
 | tup=>simp[AV.one] at ho
 | _=>simp[Value.oneCell',Value.cells]
theorem RV.fits{e:Nat}{v:AV}{u:Value}(h:RV E w v u)(hf:v.fits e=true):u.cells.size=esz e∧v.cells.length=esz e∧(∀ (j:Nat) c x,v.cells[j]? = some c→u.cells[j]? = some x→RV E w c x) ∧
  (∀ x ∈ u.cells.toList,x.oneCell'=true)∧(∀ c ∈ v.cells,c.one=true):=by
 have plain:∀ v':AV,v'=v→(∀ cs,v'≠.agg cs)→u.cells.size=esz e∧v.cells.length=esz e∧(∀ (j:Nat) c x,v.cells[j]? = some c→u.cells[j]? = some x→RV E w c x) ∧
   (∀ x ∈ u.cells.toList,x.oneCell'=true)∧(∀ c ∈ v.cells,c.one=true):=by
  rintro v' rfl hn
  have hfo:e=0∧v'.one=true:=by
   cases v'<;>simp_all [AV.fits]
  have hvc:v'.cells=[v']:=by cases v'<;>simp_all [AV.cells]
  obtain ⟨h1,h2⟩:=h.one hfo.2
  obtain ⟨rfl,ho⟩:=hfo
  refine ⟨by simp[h2],by simp[hvc],?_,by simp[h2,h1],by simp[hvc,ho]⟩
  intro j c x hc hx
  rw[hvc] at hc
  rw[h2] at hx
  cases j with
  | zero=>simp at hc hx;subst hc;subst hx;exact h
  | succ j=>simp at hc
 by_cases ha:∃ cs,v=.agg cs
 ·obtain ⟨cs,rfl⟩:=ha
  obtain ⟨us,rfl,hs,hr⟩:=h.agg_inv
  simp only[AV.fits,Bool.and_eq_true,beq_iff_eq,bne_iff_ne,ne_eq,onesB,List.all_eq_true] at hf
  obtain ⟨⟨h1,h2⟩,h3⟩:=hf
  have he:esz e=e:=by unfold esz;rw[if_neg h2]
  refine ⟨by rw[he];simp[Value.cells,hs,h1],by rw[he];simp[AV.cells,h1],fun j c x hc hx=>hr j c x hc (by simpa[Value.cells] using hx),?_,by simpa[AV.cells] using h3⟩
  intro x hx
  simp only[Value.cells] at hx
  obtain ⟨j,hj⟩:=List.getElem?_of_mem hx
  have hjl:j<cs.length:=by
   have:=(List.getElem?_eq_some_iff.1 hj).1
   simp at this
   omega
  exact ((hr j cs[j] x (List.getElem?_eq_getElem hjl) (by simpa using hj)).one (h3 _ (List.getElem_mem hjl))).1
 ·exact plain v rfl fun cs e=>ha ⟨cs,e⟩
end
theorem RI_cells{S:Nat→Nat→Prop}{w:World}{e:Nat}{v:AV}{u:Value}(h:RI S w v u)(hf:v.fits e=true)(j:Nat)(c:AV)(x:Value)(hc:v.cells[j]? = some c)(hx:u.cells[j]? = some x):RI S w c x:=by
 by_cases ha:∃ cs,v=.agg cs
 ·obtain ⟨cs,rfl⟩:=ha
  cases h with | agg _ us hs hr=>exact hr j c x hc hx
 ·have hvc:v.cells=[v]:=by cases v<;>first | rfl | exact absurd ⟨_,rfl⟩ ha
  have ho:v.one=true:=by cases v<;>simp_all [AV.fits]
  have huc:=((RV.imm (E:={ S:=S,rho:=fun _=>none,ke:=fun _=>0,ca:=fun _=>0,base:=0 }) h).one ho).2
  rw[hvc] at hc
  rw[huc] at hx
  cases j with
  | zero=>simp at hc hx;subst hc;subst hx;exact h
  | succ j=>simp at hc
section
variable {P:Program}{S:Nat→Nat→Prop}{E:Env}{w:World}{s:Nat→AV}{a:Act}
theorem bytes_mk(s:ByteArray):(⟨s.data.toList.toArray⟩:ByteArray)=s:=by
 obtain ⟨d⟩:=s
 simp
theorem relC_ok{x:AV}{v:Value}(h:relC x v=true):RI S w x v:=by
 unfold relC at h
 split at h
 ·simp only[beq_iff_eq] at h;subst h;exact .bool _
 ·simp only[Bool.and_eq_true,beq_iff_eq] at h;obtain ⟨rfl,rfl⟩:=h;exact .int _ _
 ·simp only[beq_iff_eq] at h;subst h;rename_i t;have:=RI.str (S:=S) (w:=w) t.data.toList;rwa [bytes_mk] at this
 ·exact .nilp
 ·exact .nilfn
 ·exact .nilmp
 ·exact .sl _ true [] none 0 0 0 (fun _=>undef) (Nat.le_refl _) (Nat.zero_le _) (fun _=>rfl) (.inl rfl) (fun i x h=>by simp at h) (fun i x h=>by simp at h) (fun i x h=>by simp at h) (fun _ h=>absurd rfl h)
 ·cases h
theorem constAV_ok{t:TypeId}{v:Value}{x:AV}(h:constAV P t v=some x):RI S w x v:=by
 unfold constAV at h
 split at h
 ·injection h with h;subst h;exact .bool _
 ·injection h with h;subst h;exact .int _ _
 ·injection h with h;subst h;rename_i t;have:=RI.str (S:=S) (w:=w) t.data.toList;rwa [bytes_mk] at this
 ·injection h with h;subst h;exact .nilp
 ·injection h with h;subst h;exact .nilfn
 ·injection h with h;subst h;exact .nilmp
 ·split at h
  ·simp only[Option.map_eq_some_iff] at h
   obtain ⟨e,_,rfl⟩:=h
   exact relC_ok (by rfl)
  ·cases h
 ·cases h
theorem od_ok{t:TypeId}{x:Operand}{y:Od}(hs:SOK E w s a)(h:od P t x=some y):RV E w (y.ev s) (a.eval x):=by
 unfold od at h
 split at h
 ·injection h with h;subst h;exact hs _
 ·simp only[Option.map_eq_some_iff] at h
  obtain ⟨c,hc,rfl⟩:=h
  exact .imm (constAV_ok hc)
 ·injection h with h;subst h
  exact .imm (.fn _ [] #[] rfl (fun i c u h _=>by simp at h))
 ·cases h
theorem relCs_ok:∀ {xs:List AV}{vs:List Value},relCs xs vs=true→xs.length=vs.length∧∀ (i:Nat) c u,xs[i]? = some c→vs[i]? = some u→RI S w c u
 | [],[],_=>⟨rfl,fun i c u h=>by simp at h⟩
 | x::xs,v::vs,h=>by
  simp only[relCs,Bool.and_eq_true] at h
  obtain ⟨h1,h2⟩:=relCs_ok (xs:=xs) (vs:=vs) h.2
  refine ⟨by simp[h1],fun i c u hc hu=>?_⟩
  cases i with
  | zero=>simp at hc hu;subst hc;subst hu;exact relC_ok h.1
  | succ i=>exact h2 i c u (by simpa using hc) (by simpa using hu)
 | [],_::_,h=>by simp[relCs] at h
 | _::_,[],h=>by simp[relCs] at h
theorem relC_one{x:AV}{v:Value}(h:relC x v=true):x.one=true:=by
 unfold relC at h
 split at h<;>first | rfl | cases h
theorem relCs_one:∀ {xs:List AV}{vs:List Value},relCs xs vs=true→∀ c ∈ xs,c.one=true
 | [],_,_,c,hc=>by cases hc
 | x::xs,v::vs,h,c,hc=>by
  simp only[relCs,Bool.and_eq_true] at h
  rcases List.mem_cons.1 hc with rfl | hc
  ·exact relC_one h.1
  ·exact relCs_one h.2 c hc
 | _::_,[],h,_,_=>by simp[relCs] at h
theorem ecode_cases{t:TypeId}{e:Nat}(h:ecode P t=some e):∃ i d,P.info? t=some i∧P.underlying t=some d∧i.size=esz e∧aggD d=(e != 0):=by
 unfold ecode at h
 cases hi:P.info? t with
 | none=>rw[hi] at h;cases h
 | some i =>
  cases hu:P.underlying t with
  | none=>rw[hi,hu] at h;cases h
  | some d =>
   rw[hi,hu] at h
   simp only at h
   refine ⟨i,d,rfl,rfl,?_⟩
   by_cases ha:aggD d=true
   ·rw[if_pos ha] at h
    split at h
    ·injection h with h;subst h
     refine ⟨by unfold esz;rw[if_neg (by omega)],?_⟩
     rw[ha];simp;omega
    ·cases h
   ·rw[if_neg ha] at h
    split at h
    ·rename_i h1
     injection h with h;subst h
     exact ⟨by simpa using h1,by simpa using ha⟩
    ·cases h
theorem ecode_info{t:TypeId}{e:Nat}(h:ecode P t=some e):∃ i,P.info? t=some i∧i.size=esz e:=by
 obtain ⟨i,d,hi,_,hs,_⟩:=ecode_cases h
 exact ⟨i,hi,hs⟩
theorem run_sizeOf_e{t:TypeId}{e:Nat}(h:ecode P t=some e)(w:World):(sizeOf t).run P w=.ok (esz e) w:=by
 obtain ⟨i,hi,hs⟩:=ecode_info h
 simp[sizeOf,typeInfo,hi,hs]
theorem run_isAgg_e{t:TypeId}{e:Nat}(h:ecode P t=some e)(w:World):(isAgg t).run P w=.ok (e != 0) w:=by
 obtain ⟨i,d,_,hu,_,ha⟩:=ecode_cases h
 rw[← ha]
 simp only[isAgg,Go.underlying,Sem.run_bind,run_program,Result.andThen_ok,hu]
 cases d<;>rfl
theorem zero?_ok{t:TypeId}{z:List (Nat×AV)}(h:zero? P t=some z):∃ i v,P.info? t=some i∧i.zero=some v∧v.cells.size=(expand z).length ∧
  ∀ (S:Nat→Nat→Prop) (w:World) (j:Nat) c u,(expand z)[j]? = some c→v.cells[j]? = some u→RI S w c u:=by
 unfold zero? at h
 split at h
 ·rename_i z' v hz hv
  split at h
  ·rename_i hr
   injection h with h;subst h
   cases hi:P.info? t with
   | none=>rw[hi] at hv;cases hv
   | some i =>
    rw[hi] at hv
    refine ⟨i,v,rfl,hv,?_,fun S w j c u hc hu=>(relCs_ok (S:=S) (w:=w) hr).2 j c u hc (by simpa using hu)⟩
    have:=(relCs_ok (S:=fun _ _=>True) (w:=default) hr).1
    simpa using this.symm
  ·cases h
 ·cases h
end
section
variable {P:Program}
theorem add_addr(g o k:Nat):(⟨g,o,none⟩:Addr).add k=⟨g,o + k,none⟩:=by unfold Addr.add;split<;>simp_all
def realPick(e:Nat)(f:Nat→Value):Value:=if e=0 then f 0 else .agg ((List.range e).map f).toArray
theorem run_loadVar_e{t:TypeId}{e:Nat}(he:ecode P t=some e)(w:World)(g o:Nat)(f:Nat→Value)(hf:∀ j,j<esz e→w.cell? ⟨g,o + j,none⟩=some (f j)) :
  (loadVar t ⟨g,o,none⟩).run P w=.ok (realPick e f) w:=by
 by_cases h0:e=0
 ·subst h0
  have:=hf 0 (by simp)
  simp only[Nat.add_zero] at this
  simp[loadVar,run_isAgg_e he,realPick,this]
 ·have hz:esz e=e:=by unfold esz;rw[if_neg h0]
  have hl:=run_loadCells (P:=P) w ⟨g,o,none⟩ e f (fun j hj=>by rw[add_addr];exact hf j (by omega))
  simp[loadVar,run_isAgg_e he,h0,run_sizeOf_e he,hz,hl,realPick]
structure Upd (w w':World) (g:Nat) (vals:Array Value) (t:TypeId) (fz:Nat×Nat):Prop where
 os:w'.os=w.os
 tape:w'.tape=w.tape
 output:w'.output=w.output
 size:w'.heap.size=w.heap.size
 here:w'.heap[g]? = some (.cells vals t fz)
 other:∀ k,k≠g→w'.heap[k]? = w.heap[k]?
 drawn:Dr w w'
theorem Upd.frz{w w':World}{g:Nat}{vals vals':Array Value}{t t':TypeId}{fz:Nat×Nat}(h:Upd w w' g vals' t fz)(hg:w.heap[g]? = some (.cells vals t' fz))(a:Addr):w'.frozen? a=w.frozen? a:=by
 unfold World.frozen?
 by_cases ha:a.block=g
 ·rw[ha,h.here,hg]
 ·rw[h.other _ ha]
theorem run_storeRow(g:Nat)(t:TypeId)(fz:Nat×Nat):∀ (vs:List Value) (o i:Nat) (vals:Array Value) (w:World),w.heap[g]? = some (.cells vals t fz)→Soft vals fz→o + i + vs.length≤vals.size→(∀ v ∈ vs,v.oneCell'=true) →
  ∃ w' vals',(storeCells ⟨g,o,none⟩ vs i).run P w=.ok () w'∧Upd w w' g vals' t fz∧vals'.size=vals.size∧∀ j,vals'[j]? = if o + i≤j∧j<o + i + vs.length then vs[j - (o + i)]? else vals[j]?
 | [],o,i,vals,w,hg,_,_,_=>⟨w,vals,rfl,⟨rfl,rfl,rfl,rfl,hg,fun _ _=>rfl,.mk (Nat.le_refl _)⟩,rfl,fun j=>by rw[if_neg (by simp)]⟩
 | v::vs,o,i,vals,w,hg,hs,hl,h1=>by
  have hi:o + i<vals.size:=by simp at hl;omega
  have hcell:w.cell? ⟨g,o + i,none⟩=some vals[o + i]:=by simp[World.cell?,hg,hi]
  have hfro:w.frozen? ⟨g,o + i,none⟩=false:=by
   have:=hs (o + i) hi
   simp only[World.frozen?,hg]
   simpa using this
  have hst:(store ((⟨g,o,none⟩:Addr).add i) v).run P w=.ok () (w.setCell ⟨g,o + i,none⟩ v):=by
   rw[add_addr,run_store P w _ v _ (h1 v (by simp)),hcell]
   simp[hfro]
  have hg':(w.setCell ⟨g,o + i,none⟩ v).heap[g]? = some (.cells (vals.setIfInBounds (o + i) v) t fz):=by
   simp[World.setCell,Array.getElem?_modify,hg]
  have hs':Soft (vals.setIfInBounds (o + i) v) fz:=fun k hk=>hs k (by simpa using hk)
  obtain ⟨w',vals',hr,hu,hz,hv⟩:=run_storeRow g t fz vs o (i + 1) _ _ hg' hs' (by simp at hl ⊢;omega) (fun x hx=>h1 x (by simp[hx]))
  refine ⟨w',vals',?_,⟨hu.os,hu.tape,hu.output,hu.size.trans (by simp),hu.here,fun k hk=>(hu.other k hk).trans (heap_setCell_other w _ k v hk),hu.drawn⟩,by simpa using hz,fun j=>?_⟩
  ·simp only[storeCells,Sem.run_bind,hst,Result.andThen_ok,hr]
  ·rw[hv j]
   by_cases hj:j=o + i
   ·subst hj
    rw[if_neg (by omega),if_pos (by simp)]
    simp[hi]
   ·by_cases hj2:o + i≤j∧j<o + i + (v::vs).length
    ·rw[if_pos (by simp at hj2;omega),if_pos hj2,show j - (o + i)=(j - (o + (i + 1))) + 1 by omega]
     simp
    ·rw[if_neg (by simp at hj2;omega),if_neg hj2]
     rw[Array.getElem?_setIfInBounds]
     rw[if_neg (by omega)]
end
end Go.Ab
namespace Go.Ab
open Go Go.RowKit
section
variable {E:Env}{w w':World}{h:Hp}
theorem getElem?_set_self'{α : Type}{l:List α}{b:Nat}{x y : α}(hb:l[b]? = some x):(l.set b y)[b]? = some y:=by
 rw[List.getElem?_set_self (by exact (List.getElem?_eq_some_iff.1 hb).1)]
theorem BOK.ext{n:Nat}{E E':Env}{b:Nat}{x:HB}(hb:b<n)(hd:∀ b r,E.rho b=some r→b<n)(he:Ext n E w E' w')
  (hh:∀ g,x.alive→E.rho b=some (some g)→w'.heap[g]? = w.heap[g]?) (hk:BOK E w b x):BOK E' w' b x:=by
 cases x with
 | dead=>trivial
 | cel cs =>
  obtain ⟨g,vals,t,fz,h1,h2,h3,h4,h5,h6⟩:=hk
  exact ⟨g,vals,t,fz,(he.rho b _ hb h1).1,(hh g trivial h1).trans h2,h3,h4,h5,fun i c u hc hu=>(h6 i c u hc hu).ext he hd⟩
 | els e xs =>
  obtain ⟨hke,hk⟩:=hk
  rcases hk with ⟨h1,h2⟩ | ⟨g,vals,t,fz,h1,h2,h3,h4,h5,h6,h7,h8⟩
  ·obtain ⟨k1,k2,k3⟩:=he.rho b _ hb h1
   exact ⟨k2.trans hke,.inl ⟨k1,h2⟩⟩
  ·obtain ⟨k1,k2,k3⟩:=he.rho b _ hb h1
   refine ⟨k2.trans hke,.inr ⟨g,vals,t,fz,k1,(hh g trivial h1).trans h2,h3,by rw[k3];exact h4,by rw[k3];exact h5,by rw[k3];exact h6,h7,fun i x hx=>?_⟩⟩
   obtain ⟨s1,u,s2,s3,s4⟩:=h8 i x hx
   exact ⟨s1,u,s2.ext he hd,s3,s4⟩
 | itr s pos =>
  obtain ⟨g,h1,h2⟩:=hk
  exact ⟨g,(he.rho b _ hb h1).1,(hh g trivial h1).trans h2⟩
 | map ks vs =>
  obtain ⟨g,es,cl,h1,h2,h3,h4,h5,h6⟩:=hk
  exact ⟨g,es,cl,(he.rho b _ hb h1).1,(hh g trivial h1).trans h2,h3,h4,fun i k x hi hx=>(h5 i k x hi hx).kept he.kept,fun i v x hi hx=>(h6 i v x hi hx).kept he.kept⟩
theorem HOK.ext_upd(hok:HOK E h w){b g:Nat}{x:HB}(hb:h[b]? = some x)(ha:x.alive)(hr:E.rho b=some (some g))(n:Nat)
  (ho:w'.os=w.os) (ht:w'.tape=w.tape) (hout:w'.output=w.output) (hz:w.heap.size≤w'.heap.size) (hk:∀ k,k≠g→k<w.heap.size→w'.heap[k]? = w.heap[k]?) (hf:∀ a,w'.frozen? a=w.frozen? a) (hdr:Dr w w':=by first | exact Dr.mk (Nat.le_refl _) | exact Dr.mk (Nat.le_succ _) | exact Dr.mk (Nat.le_add_right _ _) | assumption):Ext n E w E w':=by
 obtain ⟨h1,h2,h3⟩:=hok.own b x g hb ha hr
 refine ⟨⟨ho,ht,hout,hz,fun k hkb=>hk k (by omega) (by have:=hok.size;omega),fun a _=>hf a,hdr⟩,rfl,?_,fun _ _ s=>.inl s,fun b r _ e=>⟨e,rfl,rfl⟩⟩
 exact Kept.of_block (fun _ _ s=>s) fun g' o s=>hk g' (fun e=>h3 o (e ▸ s)) (hok.old g' o s)
theorem HOK.set(hok:HOK E h w){b g:Nat}{x y:HB}(hb:h[b]? = some x)(ha:x.alive)(hr:E.rho b=some (some g))
  (ho:w'.os=w.os) (ht:w'.tape=w.tape) (hout:w'.output=w.output) (hz:w.heap.size≤w'.heap.size) (hk:∀ k,k≠g→k<w.heap.size→w'.heap[k]? = w.heap[k]?) (hf:∀ a,w'.frozen? a=w.frozen? a)
  (hy:BOK E w' b y) (hdr:Dr w w':=by first | exact Dr.mk (Nat.le_refl _) | exact Dr.mk (Nat.le_succ _) | exact Dr.mk (Nat.le_add_right _ _) | assumption):HOK E (h.set b y) w':=by
 have he:Ext h.length E w E w':=hok.ext_upd hb ha hr _ ho ht hout hz hk hf hdr
 have old:∀ (b':Nat) (x':HB),(h.set b y)[b']? = some x'→b'≠b→h[b']? = some x':=fun b' x' hx hne=>by
  rwa [List.getElem?_set_ne (fun e=>hne e.symm)] at hx
 have some_alive:∀ (b':Nat) (x':HB),(h.set b y)[b']? = some x'→x'.alive→∃ x'',h[b']? = some x''∧x''.alive:=fun b' x' hx hal=>by
  by_cases hbb:b'=b
  ·subst hbb;exact ⟨x,hb,ha⟩
  ·exact ⟨x',old b' x' hx hbb,hal⟩
 refine ⟨fun b' x' hx=>?_,fun b' r e=>by simpa using hok.dom b' r e,fun b' x' g' hx hal e=>?_,fun b1 b2 x1 x2 g' e1 e2 a1 a2 r1 r2=>?_,fun g' o s=>Nat.lt_of_lt_of_le (hok.old g' o s) hz,Nat.le_trans hok.size hz⟩
 ·by_cases hbb:b'=b
  ·subst hbb
   rw[getElem?_set_self' hb] at hx
   injection hx with hx
   exact hx ▸ hy
  ·have hx':=old b' x' hx hbb
   refine BOK.ext (List.getElem?_eq_some_iff.1 hx').1 hok.dom he (fun g' hal e=>hk g' (fun eg=>?_) (hok.own b' x' g' hx' hal e).2.1) (hok.blocks b' x' hx')
   subst eg
   exact hbb (hok.inj b' b x' x g' hx' hb hal ha e hr)
 ·obtain ⟨x'',hx'',hal''⟩:=some_alive b' x' hx hal
  obtain ⟨k1,k2,k3⟩:=hok.own b' x'' g' hx'' hal'' e
  exact ⟨k1,by omega,k3⟩
 ·obtain ⟨y1,f1,b1'⟩:=some_alive b1 x1 e1 a1
  obtain ⟨y2,f2,b2'⟩:=some_alive b2 x2 e2 a2
  exact hok.inj b1 b2 y1 y2 g' f1 f2 b1' b2' r1 r2
theorem HOK.give(hok:HOK E h w)(b:Nat):HOK E (h.set b .dead) w:=by
 have old:∀ (b':Nat) (x':HB),(h.set b .dead)[b']? = some x'→x'=.dead∨h[b']? = some x':=fun b' x' hx=>by
  by_cases hbb:b'=b
  ·subst hbb
   by_cases hl:b'<h.length
   ·rw[List.getElem?_set_self hl] at hx;injection hx with hx;exact .inl hx.symm
   ·rw[List.getElem?_eq_none (by simp;omega)] at hx;cases hx
  ·rw[List.getElem?_set_ne (fun e=>hbb e.symm)] at hx;exact .inr hx
 refine ⟨fun b' x' hx=>?_,fun b' r e=>by simpa using hok.dom b' r e,fun b' x' g' hx hal e=>?_,fun b1 b2 x1 x2 g' e1 e2 a1 a2 r1 r2=>?_,hok.old,hok.size⟩
 ·rcases old b' x' hx with rfl | hx
  ·trivial
  ·exact hok.blocks b' x' hx
 ·rcases old b' x' hx with rfl | hx
  ·exact hal.elim
  ·exact hok.own b' x' g' hx hal e
 ·rcases old b1 x1 e1 with rfl | f1
  ·exact a1.elim
  ·rcases old b2 x2 e2 with rfl | f2
   ·exact a2.elim
   ·exact hok.inj b1 b2 x1 x2 g' f1 f2 a1 a2 r1 r2
def Env.push(E:Env)(n:Nat)(r:Option Nat)(e c:Nat):Env :=
 { E with rho:=fun b=>if b=n then some r else E.rho b,ke:=fun b=>if b=n then e else E.ke b,ca:=fun b=>if b=n then c else E.ca b }
@[simp] theorem Env.push_rho (E:Env) (n:Nat) (r:Option Nat) (e c:Nat):(E.push n r e c).rho n=some r:=by simp[Env.push]
@[simp] theorem Env.push_ke (E:Env) (n:Nat) (r:Option Nat) (e c:Nat):(E.push n r e c).ke n=e:=by simp[Env.push]
@[simp] theorem Env.push_ca (E:Env) (n:Nat) (r:Option Nat) (e c:Nat):(E.push n r e c).ca n=c:=by simp[Env.push]
structure More (w w':World):Prop where
 os:w'.os=w.os
 tape:w'.tape=w.tape
 output:w'.output=w.output
 size:w.heap.size≤w'.heap.size
 old:∀ k,k<w.heap.size→w'.heap[k]? = w.heap[k]?
 frz:∀ a:Addr,a.block<w.heap.size→w'.frozen? a=w.frozen? a
 drawn:Dr w w'
theorem frozen_alloc(w:World)(c:Array Value)(t:TypeId)(a:Addr):(w.alloc (.cells c t)).frozen? a=w.frozen? a:=by
 unfold World.frozen?
 rcases Nat.lt_trichotomy a.block w.heap.size with h | h | h
 ·rw[Below.heap_alloc w _ _ h]
 ·rw[h,heap_alloc_new,Array.getElem?_eq_none (Nat.le_refl _)]
  simp
 ·rw[Array.getElem?_eq_none (by simp;omega),Array.getElem?_eq_none (by omega)]
theorem not_frozen_new(w:World)(c:Array Value)(t:TypeId)(k:Nat):(w.alloc (.cells c t)).frozen? ⟨w.heap.size,k,none⟩=false:=by
 rw[frozen_alloc]
 unfold World.frozen?
 rw[Array.getElem?_eq_none (Nat.le_refl _)]
theorem More.refl(w:World):More w w:=⟨rfl,rfl,rfl,Nat.le_refl _,fun _ _=>rfl,fun _ _=>rfl,.mk (Nat.le_refl _)⟩
theorem More.alloc(w:World)(c:Array Value)(t:TypeId):More w (w.alloc (.cells c t)):=⟨rfl,rfl,rfl,by simp,fun k hk=>Below.heap_alloc w _ k hk,fun a _=>frozen_alloc w c t a,.mk (Nat.le_refl _)⟩
theorem More.drew{w w':World}(m:More w w'):More w w'.drew:=⟨m.os,m.tape,m.output,m.size,m.old,m.frz,m.drawn.trans (.mk (Nat.le_succ _))⟩
theorem More.drew_alloc(w:World)(c:Array Value)(t:TypeId):More w (w.drew.alloc (.cells c t)):=⟨rfl,rfl,rfl,by simp,fun k hk=>Below.heap_alloc w.drew _ k hk,fun a _=>frozen_alloc w.drew c t a,.mk (Nat.le_succ _)⟩
theorem More.trans{w w' w'':World}(m:More w w')(k:More w' w''):More w w'' :=
 ⟨k.os.trans m.os,k.tape.trans m.tape,k.output.trans m.output,Nat.le_trans m.size k.size,fun i hi=>(k.old i (Nat.lt_of_lt_of_le hi m.size)).trans (m.old i hi),fun a ha=>(k.frz a (Nat.lt_of_lt_of_le ha m.size)).trans (m.frz a ha),m.drawn.trans k.drawn⟩
theorem HOK.ext_more(hok:HOK E h w)(m:More w w')(r:Option Nat)(e c:Nat):Ext h.length E w (E.push h.length r e c) w':=by
 refine ⟨⟨m.os,m.tape,m.output,m.size,fun k hk=>m.old k (by have:=hok.size;omega),m.frz,m.drawn⟩,rfl,Kept.of_block (fun _ _ s=>s) fun g o s=>m.old g (hok.old g o s),fun _ _ s=>.inl s,fun b r' hb e'=>?_⟩
 have:b≠h.length:=by omega
 simp[Env.push,this,e']
theorem HOK.push(hok:HOK E h w)(m:More w w')(r:Option Nat)(e c:Nat)(y:HB)(hy:BOK (E.push h.length r e c) w' h.length y)
  (hg:∀ g,r=some g→w.heap.size≤g∧g<w'.heap.size):HOK (E.push h.length r e c) (h++[y]) w':=by
 have he:Ext h.length E w (E.push h.length r e c) w':=hok.ext_more m r e c
 have cases_:∀ (b:Nat) (x:HB),(h++[y])[b]? = some x→(b<h.length∧h[b]? = some x)∨(b=h.length∧x=y):=fun b x hx=>by
  rcases Nat.lt_trichotomy b h.length with hb | hb | hb
  ·rw[List.getElem?_append_left hb] at hx;exact .inl ⟨hb,hx⟩
  ·subst hb;simp at hx;exact .inr ⟨rfl,hx.symm⟩
  ·rw[List.getElem?_eq_none (by simp;omega)] at hx;cases hx
 have rho_old:∀ b r',b<h.length→(E.push h.length r e c).rho b=some r'→E.rho b=some r':=fun b r' hb e'=>by
  simpa[Env.push,show b≠h.length by omega] using e'
 refine ⟨fun b x hx=>?_,fun b r' e'=>?_,fun b x g hx hal e'=>?_,fun b1 b2 x1 x2 g e1 e2 a1 a2 r1 r2=>?_,fun g o s=>Nat.lt_of_lt_of_le (hok.old g o s) m.size,Nat.le_trans hok.size m.size⟩
 ·rcases cases_ b x hx with ⟨hb,hx⟩ | ⟨rfl,rfl⟩
  ·exact BOK.ext hb hok.dom he (fun g hal e'=>m.old g (hok.own b x g hx hal e').2.1) (hok.blocks b x hx)
  ·exact hy
 ·by_cases hb:b=h.length
  ·simp[hb]
  ·have:=hok.dom b r' (by simpa[Env.push,hb] using e')
   simp;omega
 ·rcases cases_ b x hx with ⟨hb,hx⟩ | ⟨rfl,rfl⟩
  ·obtain ⟨k1,k2,k3⟩:=hok.own b x g hx hal (rho_old b _ hb e')
   exact ⟨k1,Nat.lt_of_lt_of_le k2 m.size,k3⟩
  ·simp only[Env.push_rho,Option.some.injEq] at e'
   obtain ⟨k1,k2⟩:=hg g e'
   exact ⟨Nat.le_trans hok.size k1,k2,fun o s=>by have:=hok.old g o s;omega⟩
 ·rcases cases_ b1 x1 e1 with ⟨hb1,f1⟩ | ⟨rfl,rfl⟩<;>rcases cases_ b2 x2 e2 with ⟨hb2,f2⟩ | ⟨rfl,rfl⟩
  ·exact hok.inj b1 b2 x1 x2 g f1 f2 a1 a2 (rho_old _ _ hb1 r1) (rho_old _ _ hb2 r2)
  ·simp only[Env.push_rho,Option.some.injEq] at r2
   have:=(hok.own b1 x1 g f1 a1 (rho_old _ _ hb1 r1)).2.1
   have:=(hg g r2).1
   omega
  ·simp only[Env.push_rho,Option.some.injEq] at r1
   have:=(hok.own b2 x2 g f2 a2 (rho_old _ _ hb2 r2)).2.1
   have:=(hg g r1).1
   omega
  ·rfl
theorem HOK.more(hok:HOK E h w)(m:More w w'):HOK E h w'∧∀ n,Ext n E w E w':=by
 have he:∀ n,Ext n E w E w':=fun n=>⟨⟨m.os,m.tape,m.output,m.size,fun k hk=>m.old k (by have:=hok.size;omega),m.frz,m.drawn⟩,rfl,Kept.of_block (fun _ _ s=>s) fun g o s=>m.old g (hok.old g o s),fun _ _ s=>.inl s,fun b r' _ e'=>⟨e',rfl,rfl⟩⟩
 refine ⟨⟨fun b x hx=>BOK.ext (List.getElem?_eq_some_iff.1 hx).1 hok.dom (he _) (fun g hal e'=>m.old g (hok.own b x g hx hal e').2.1) (hok.blocks b x hx),hok.dom,fun b x g hx hal e'=>?_,hok.inj,fun g o s=>Nat.lt_of_lt_of_le (hok.old g o s) m.size,Nat.le_trans hok.size m.size⟩,he⟩
 obtain ⟨k1,k2,k3⟩:=hok.own b x g hx hal e'
 exact ⟨k1,Nat.lt_of_lt_of_le k2 m.size,k3⟩
end
section
variable {E:Env}{w:World}{h:Hp}
def Env.stable(E:Env)(B:Nat→Prop):Nat→Nat→Prop:=fun g o=>E.S g o∨∃ b,B b∧E.rho b=some (some g)
theorem omap_some{α β : Type}{f : α → Option β}:∀ {l:List α}{r:List β},omap f l=some r→r.length=l.length∧∀ (i:Nat) (a : α),l[i]? = some a→∃ b,r[i]? = some b∧f a=some b
 | [],r,h=>by simp[omap] at h;subst h;exact ⟨rfl,fun i a h=>by simp at h⟩
 | x::l,r,h=>by
  simp only[omap] at h
  split at h
  ·rename_i y ys hy hys
   injection h with h;subst h
   obtain ⟨h1,h2⟩:=omap_some hys
   refine ⟨by simp[h1],fun i a ha=>?_⟩
   cases i with
   | zero=>simp at ha;subst ha;exact ⟨y,rfl,hy⟩
   | succ i=>exact h2 i a (by simpa using ha)
  ·cases h
theorem omap_back{α β : Type}{f : α → Option β}{l:List α}{r:List β}(h:omap f l=some r)(i:Nat)(b : β)(hb:r[i]? = some b):∃ a,l[i]? = some a∧f a=some b:=by
 obtain ⟨h1,h2⟩:=omap_some h
 have hl:i<l.length:=by have:=(List.getElem?_eq_some_iff.1 hb).1;omega
 obtain ⟨b',hb',hf⟩:=h2 i l[i] (List.getElem?_eq_getElem hl)
 rw[hb'] at hb
 injection hb with hb
 exact ⟨l[i],List.getElem?_eq_getElem hl,hb ▸ hf⟩
theorem imm_one{n:Nat}{c x:AV}(h':imm h n c=some x)(hc:Ok1 c):x.one=true:=by
 have hc1:c.one=true:=by
  rcases hc with hc | rfl
  ·exact hc
  ·cases n<;>simp[imm] at h'
 cases n with
 | zero=>simp[imm] at h'
 | succ n =>
  cases c<;>simp only[imm] at h'<;>(try (injection h' with h';subst h';simp[AV.one];done))<;>(try (split at h'<;>(try split at h')<;>simp_all<;>obtain ⟨y,_,rfl⟩:=h'<;>simp[AV.one];done))<;>simp_all [AV.one]
  all_goals (obtain ⟨y,_,rfl⟩:=h';simp)
theorem imm_fits{n e:Nat}{x y:AV}(h':imm h n x=some y)(hs:Shape e x):y.fits e=true:=by
 unfold Shape at hs
 by_cases he:e=0
 ·rw[if_pos he] at hs
  have h1:=imm_one h' hs
  subst he
  cases y<;>simp_all [AV.fits,AV.one]
 ·rw[if_neg he] at hs
  obtain ⟨cs,rfl,hl,hc⟩:=hs
  cases n with
  | zero=>simp[imm] at h'
  | succ n =>
   simp only[imm,Option.map_eq_some_iff] at h'
   obtain ⟨ys,hys,rfl⟩:=h'
   obtain ⟨k1,k2⟩:=omap_some hys
   have hone:onesB ys=true:=by
    simp only[onesB,List.all_eq_true]
    intro y hy
    obtain ⟨i,hi⟩:=List.getElem?_of_mem hy
    obtain ⟨c,hc1,hc2⟩:=omap_back hys i y hi
    exact imm_one hc2 (hc c (List.mem_of_getElem? hc1))
   simp[AV.fits,hone,k1,hl,he]
theorem shape_of_fits{e:Nat}{x:AV}(hf:x.fits e=true):Shape e x:=by
 unfold Shape
 by_cases ha:∃ cs,x=.agg cs
 ·obtain ⟨cs,rfl⟩:=ha
  simp only[AV.fits,Bool.and_eq_true,beq_iff_eq,bne_iff_ne,ne_eq,onesB,List.all_eq_true] at hf
  rw[if_neg hf.1.2]
  exact ⟨cs,rfl,hf.1.1.symm,fun c hc=>.inl (hf.2 c hc)⟩
 ·have h0:e=0∧x.one=true:=by cases x<;>first | exact absurd ⟨_,rfl⟩ ha | simpa[AV.fits] using hf
  rw[if_pos h0.1]
  exact .inl h0.2
theorem visit_plain:∀ (n m:Nat) (v:AV),plain m v=true→visit h n v=[]
 | 0,_,_,_=>rfl
 | n + 1,0,v,hp=>by simp[plain] at hp
 | n + 1,m + 1,v,hp=>by
  have list:∀ cs:List AV,cs.all (plain m)=true→cs.flatMap (visit h n)=[]:=fun cs hc=>by
   rw[List.flatMap_eq_nil_iff]
   exact fun c hm=>visit_plain n m c (List.all_eq_true.1 hc c hm)
  cases v<;>simp only[plain] at hp<;>simp only[visit]<;>first | rfl | exact list _ hp | cases hp
theorem visit_mono:∀ (n:Nat) (v:AV) (b:Nat),b ∈ visit h n v→b ∈ visit h (n + 1) v
 | 0,_,_,hb=>by simp[visit] at hb
 | n + 1,v,b,hb=>by
  have list:∀ cs:List AV,b ∈ cs.flatMap (visit h n)→b ∈ cs.flatMap (visit h (n + 1)):=fun cs hc=>by
   obtain ⟨c,h1,h2⟩:=List.mem_flatMap.1 hc
   exact List.mem_flatMap.2 ⟨c,h1,visit_mono n c b h2⟩
  have block:∀ b':Nat,b ∈ (b'::(match h[b']? with
    | some (.cel cs)=>if cs.all (plain deep) then [] else cs.flatMap (visit h n)
    | some (.els _ xs)=>if xs.all (plain deep) then [] else xs.flatMap fun x=>visit h n x++x.cells.flatMap (visit h n)
    | _=>[]))→b ∈ (b'::(match h[b']? with
    | some (.cel cs)=>if cs.all (plain deep) then [] else cs.flatMap (visit h (n + 1))
    | some (.els _ xs)=>if xs.all (plain deep) then [] else xs.flatMap fun x=>visit h (n + 1) x++x.cells.flatMap (visit h (n + 1))
    | _=>[])):=fun b' hm=>by
   rcases List.mem_cons.1 hm with rfl | hm
   ·exact List.mem_cons_self
   refine List.mem_cons_of_mem _ ?_
   split at hm
   ·split at hm
    ·exact absurd hm (by simp)
    ·rw[if_neg ‹_›]
     exact list _ hm
   ·split at hm
    ·exact absurd hm (by simp)
    ·rw[if_neg ‹_›]
     obtain ⟨x,h1,h2⟩:=List.mem_flatMap.1 hm
     refine List.mem_flatMap.2 ⟨x,h1,?_⟩
     rcases List.mem_append.1 h2 with h2 | h2
     ·exact List.mem_append_left _ (visit_mono n x b h2)
     ·exact List.mem_append_right _ (list _ h2)
   ·exact absurd hm (by simp)
  cases v<;>simp only[visit] at hb ⊢ <;> first | exact block _ hb | exact list _ hb | exact hb
theorem mem_visit_agg{n b:Nat}{cs:List AV}{c:AV}(hc:c ∈ cs)(hb:b ∈ visit h n c):b ∈ cs.flatMap (visit h n):=List.mem_flatMap.2 ⟨c,hc,hb⟩
theorem visit_cel{n b b':Nat}{v c:AV}{cs:List AV}(hb:h[b]? = some (.cel cs))(hv:visit h (n + 1) v=b::(match h[b]? with
   | some (.cel cs)=>if cs.all (plain deep) then [] else cs.flatMap (visit h n)
   | some (.els _ xs)=>if xs.all (plain deep) then [] else xs.flatMap fun x=>visit h n x++x.cells.flatMap (visit h n)
   | _=>[])) (hc:c ∈ cs) (h':b' ∈ visit h n c):b' ∈ visit h (n + 1) v:=by
 rw[hv]
 refine List.mem_cons_of_mem _ ?_
 rw[hb]
 simp only
 by_cases hp:cs.all (plain deep)=true
 ·rw[visit_plain n deep c (List.all_eq_true.1 hp c hc)] at h'
  cases h'
 ·rw[if_neg hp]
  exact List.mem_flatMap.2 ⟨c,hc,h'⟩
theorem visit_els{n b b' e:Nat}{v x:AV}{xs:List AV}(hb:h[b]? = some (.els e xs))(hv:visit h (n + 1) v=b::(match h[b]? with
   | some (.cel cs)=>if cs.all (plain deep) then [] else cs.flatMap (visit h n)
   | some (.els _ xs)=>if xs.all (plain deep) then [] else xs.flatMap fun x=>visit h n x++x.cells.flatMap (visit h n)
   | _=>[])) (hc:x ∈ xs) (h':b' ∈ visit h n x++x.cells.flatMap (visit h n)):b' ∈ visit h (n + 1) v:=by
 rw[hv]
 refine List.mem_cons_of_mem _ ?_
 rw[hb]
 simp only
 by_cases hp:xs.all (plain deep)=true
 ·have hx:=List.all_eq_true.1 hp x hc
  have h0:x.cells.flatMap (visit h n)=[]:=by
   rw[List.flatMap_eq_nil_iff]
   intro c hm
   obtain ⟨m,hd⟩:∃ m,deep=m + 1:=⟨11,rfl⟩
   rw[hd] at hx
   cases x<;>simp only[AV.cells,List.mem_singleton] at hm<;>try (subst hm;exact visit_plain n _ _ hx)
   simp only[plain] at hx
   exact visit_plain n _ c (List.all_eq_true.1 hx c hm)
  rw[visit_plain n deep x hx,h0] at h'
  cases h'
 ·rw[if_neg hp]
  exact List.mem_flatMap.2 ⟨x,hc,h'⟩
theorem shape_cells{e:Nat}{x:AV}{u:Value}(hs:Shape e x)(hr:RV E w x u)(hz:u.cells.size=esz e) :
  x.cells.length=esz e∧(∀ c ∈ x.cells,Ok1 c)∧∀ (j:Nat) c v,x.cells[j]? = some c→u.cells[j]? = some v→RV E w c v:=by
 unfold Shape at hs
 by_cases he:e=0
 ·rw[if_pos he] at hs
  subst he
  have hx:x.cells=[x]:=by
   rcases hs with hs | rfl
   ·cases x<;>simp_all [AV.cells,AV.one]
   ·rfl
  refine ⟨by simp[hx],by simpa[hx] using hs,fun j c v hc hv=>?_⟩
  rw[hx] at hc
  cases j with
  | succ j=>simp at hc
  | zero =>
   simp at hc
   subst hc
   rcases hs with hs | rfl
   ·rw[(hr.one hs).2] at hv
    simp at hv
    exact hv ▸ hr
   ·exact .junk v
 ·rw[if_neg he] at hs
  obtain ⟨cs,rfl,hl,hc⟩:=hs
  obtain ⟨us,rfl,hus,hrr⟩:=hr.agg_inv
  exact ⟨by simp[AV.cells,hl,esz,he],hc,fun j c v h1 h2=>hrr j c v h1 (by simpa[Value.cells] using h2)⟩
theorem elems_some{e:Nat}:∀ {n:Nat}{cs xs:List AV},elems e n cs=some xs→xs.length=n∧∀ (i:Nat) x,xs[i]? = some x→pick? e (i * esz e) cs=some x
 | 0,cs,xs,h=>by simp[elems] at h;subst h;exact ⟨rfl,fun i x h=>by simp at h⟩
 | n + 1,cs,xs,h=>by
  simp only[elems] at h
  split at h
  ·rename_i y ys hy hys
   injection h with h;subst h
   obtain ⟨h1,h2⟩:=elems_some hys
   refine ⟨by simp[h1],fun i x hx=>?_⟩
   cases i with
   | zero=>simp at hx;subst hx;simpa using hy
   | succ i =>
    have:=h2 i x (by simpa using hx)
    unfold pick? at this ⊢
    by_cases he:e=0
    ·subst he
     simp only[if_true,esz_zero,Nat.mul_one,List.getElem?_drop] at this ⊢
     rw[← this,Nat.add_comm]
    ·rw[if_neg he] at this ⊢
     have hz:esz e=e:=by simp[esz,he]
     rw[hz] at this ⊢
     split at this
     ·rename_i hl
      rw[if_pos (by simp at hl;have:(i + 1) * e=i * e + e:=Nat.succ_mul i e;omega)]
      rw[← this,List.drop_drop,Nat.succ_mul,Nat.add_comm e]
     ·cases this
  ·cases h
theorem pick_ok{e off:Nat}{cs:List AV}{v:AV}{f:Nat→Value}(hp:pick? e off cs=some v)(hr:∀ (i:Nat) c,cs[i]? = some c→RV E w c (f i)) :
  (∀ j,j<esz e→off + j<cs.length)∧RV E w v (realPick e fun j=>f (off + j)):=by
 unfold pick? at hp
 by_cases he:e=0
 ·rw[if_pos he] at hp
  subst he
  have hl:=(List.getElem?_eq_some_iff.1 hp).1
  exact ⟨fun j hj=>by simp at hj;omega,by simpa[realPick] using hr off v hp⟩
 ·rw[if_neg he] at hp
  have hz:esz e=e:=by simp[esz,he]
  split at hp
  ·rename_i hl
   injection hp with hp;subst hp
   refine ⟨fun j hj=>by omega,?_⟩
   unfold realPick
   rw[if_neg he]
   refine .agg _ _ (by simp;omega) fun i c u hc hu=>?_
   have hi:i<e:=by
    have:=(List.getElem?_eq_some_iff.1 hc).1
    simp at this
    omega
   simp[hi] at hu
   subst hu
   refine hr (off + i) c ?_
   rw[List.getElem?_take,if_pos hi,List.getElem?_drop] at hc
   exact hc
  ·cases hp
theorem pick_shape{e off:Nat}{cs:List AV}{v:AV}(hp:pick? e off cs=some v)(hc:∀ c ∈ cs,Ok1 c):Shape e v:=by
 unfold pick? at hp
 unfold Shape
 by_cases he:e=0
 ·rw[if_pos he] at hp ⊢
  exact hc v (List.mem_of_getElem? hp)
 ·rw[if_neg he] at hp ⊢
  split at hp
  ·injection hp with hp;subst hp
   exact ⟨_,rfl,by simp;omega,fun c hm=>hc c (List.mem_of_mem_drop (List.mem_of_mem_take hm))⟩
  ·cases hp
theorem imm_ok(hok:HOK E h w)(B:Nat→Prop):∀ (n:Nat) (v x:AV) (u:Value),(∀ b ∈ visit h n v,(∃ y,h[b]? = some y∧y.alive)→B b)→RV E w v u→imm h n v=some x→RI (E.stable B) w x u
 | 0,_,_,_,_,_,h'=>by simp[imm] at h'
 | n + 1,v,x,u,hB,hr,h'=>by
  have kept:Kept E.S (E.stable B) w w:=⟨fun _ _ s=>.inl s,fun _ _ _=>rfl,fun _ _ _ _ _ e=>e,fun _ _ _ _=>rfl⟩
  have list:∀ (cs ys:List AV) (us:Array Value),(∀ c ∈ cs,∀ b ∈ visit h n c,(∃ y,h[b]? = some y∧y.alive)→B b)→us.size=cs.length→(∀ (i:Nat) c v,cs[i]? = some c→us[i]? = some v→RV E w c v) →
    omap (imm h n) cs=some ys→us.size=ys.length∧∀ (i:Nat) c v,ys[i]? = some c→us[i]? = some v→RI (E.stable B) w c v:=by
   intro cs ys us hb hs hrr hm
   refine ⟨by rw[hs,(omap_some hm).1],fun i y v hy hv=>?_⟩
   obtain ⟨c,hc,hi⟩:=omap_back hm i y hy
   exact imm_ok hok B n c y v (hb c (List.mem_of_getElem? hc)) (hrr i c v hc hv) hi
  cases v with
  | junk=>simp[imm] at h'
  | fr e xs=>simp[imm] at h'
  | crow e b off len c=>simp[imm] at h'
  | bool b=>simp only[imm,Option.some.injEq] at h';subst h';cases hr with | imm hr=>exact hr.kept kept
  | int k m=>simp only[imm,Option.some.injEq] at h';subst h';cases hr with | imm hr=>exact hr.kept kept
  | str t=>simp only[imm,Option.some.injEq] at h';subst h';cases hr with | imm hr=>exact hr.kept kept
  | nilp=>simp only[imm,Option.some.injEq] at h';subst h';cases hr with | imm hr=>exact hr.kept kept
  | nilfn=>simp only[imm,Option.some.injEq] at h';subst h';cases hr with | imm hr=>exact hr.kept kept
  | nilmp=>simp only[imm,Option.some.injEq] at h';subst h';cases hr with | imm hr=>exact hr.kept kept
  | pro cs=>simp only[imm,Option.some.injEq] at h';subst h';exact hr.pro_inv.kept kept
  | sl e f xs=>simp only[imm,Option.some.injEq] at h';subst h';exact hr.sl_inv.kept kept
  | mp ks vs=>simp only[imm,Option.some.injEq] at h';subst h';exact hr.mp_inv.kept kept
  | ptr b off =>
   obtain ⟨g,hg,rfl⟩:=hr.ptr_inv
   simp only[imm] at h'
   split at h'
   ·rename_i cs hb
    simp only[Option.map_eq_some_iff] at h'
    obtain ⟨ys,hys,rfl⟩:=h'
    obtain ⟨g',vals,t,fz,k1,k2,_,k3,_,k4⟩:=hok.blocks b _ hb
    rw[hg] at k1;injection k1 with k1;injection k1 with k1;subst k1
    have hBb:B b:=hB b (by simp[visit]) ⟨_,hb,trivial⟩
    have at_:∀ (i:Nat) y,ys[i]? = some y→∃ c v,cs[off + i]? = some c∧imm h n c=some y∧vals[off + i]? = some v:=fun i y hy=>by
     obtain ⟨c,hc,hi⟩:=omap_back hys i y hy
     rw[List.getElem?_drop] at hc
     have hl:off + i<vals.size:=by have:=(List.getElem?_eq_some_iff.1 hc).1;omega
     exact ⟨c,vals[off + i],hc,hi,Array.getElem?_eq_getElem hl⟩
    refine .pro ys g off (fun i=>vals.getD (off + i) undef) (fun i y hy=>⟨.inr ⟨b,hBb,hg⟩,?_⟩) fun i y hy=>?_
    ·obtain ⟨c,v,_,_,hv⟩:=at_ i y hy
     simp[World.cell?,k2,hv]
    ·obtain ⟨c,v,hc,hi,hv⟩:=at_ i y hy
     have:vals.getD (off + i) undef=v:=by simp[hv]
     rw[this]
     refine imm_ok hok B n c y v (fun b' hb'=>hB b' ?_) (k4 _ c v hc hv) hi
     exact visit_cel hb rfl (List.mem_of_getElem? hc) hb'
   ·cases h'
  | eptr b i off =>
   obtain ⟨g,hg,rfl⟩:=hr.eptr_inv
   simp only[imm] at h'
   split at h'
   ·rename_i e xs hb
    split at h'
    ·rename_i z hz
     simp only[Option.map_eq_some_iff] at h'
     obtain ⟨ys,hys,rfl⟩:=h'
     obtain ⟨ke,hbb⟩:=hok.blocks b _ hb
     rcases hbb with ⟨k0,rfl⟩ | ⟨g',vals,t,fz,k1,k2,_,k3,k4,k5,k6,k7⟩
     ·simp at hz
     rw[hg] at k1;injection k1 with k1;injection k1 with k1;subst k1
     obtain ⟨s1,v,s2,s3,s4⟩:=k7 i z hz
     obtain ⟨c1,c2,c3⟩:=shape_cells s1 s2 s3
     have hBb:B b:=hB b (by simp[visit]) ⟨_,hb,trivial⟩
     have at_:∀ (j:Nat) y,ys[j]? = some y→∃ c x,z.cells[off + j]? = some c∧imm h n c=some y∧v.cells[off + j]? = some x:=fun j y hy=>by
      obtain ⟨c,hc,hi⟩:=omap_back hys j y hy
      rw[List.getElem?_drop] at hc
      have hl:off + j<v.cells.size:=by have:=(List.getElem?_eq_some_iff.1 hc).1;omega
      exact ⟨c,v.cells[off + j],hc,hi,Array.getElem?_eq_getElem hl⟩
     refine .pro ys g _ (fun j=>v.cells.getD (off + j) undef) (fun j y hy=>⟨.inr ⟨b,hBb,hg⟩,?_⟩) fun j y hy=>?_
     ·obtain ⟨c,x,_,_,hx⟩:=at_ j y hy
      have:=s4 _ x hx
      simp only[World.cell?,k2,ke]
      simp[Nat.add_assoc,this,hx]
     ·obtain ⟨c,x,hc,hi,hx⟩:=at_ j y hy
      have e1:v.cells.getD (off + j) undef=x:=by simp[hx]
      rw[e1]
      refine imm_ok hok B n c y x (fun b' hb'=>hB b' ?_) (c3 _ c x hc hx) hi
      exact visit_els hb rfl (List.mem_of_getElem? hz) (List.mem_append_right _ (List.mem_flatMap.2 ⟨c,List.mem_of_getElem? hc,hb'⟩))
    ·cases h'
   ·cases h'
  | row e b off len =>
   obtain ⟨ke,hrow⟩:=hr.row_inv
   simp only[imm] at h'
   split at h'
   ·rename_i e' xs hb
    split at h'
    ·rename_i hcond
     obtain ⟨rfl,hlen⟩:=hcond
     simp only[Option.map_eq_some_iff] at h'
     obtain ⟨ys,hys,rfl⟩:=h'
     have hl:ys.length=len:=by rw[(omap_some hys).1];simp;omega
     rcases hrow with ⟨k0,rfl,rfl,A,rfl⟩ | ⟨g,cap,A,hg,rfl,hA,hlc,hc,hm⟩
     ·have:ys=[]:=List.eq_nil_of_length_eq_zero hl
      subst this
      exact .sl _ false [] A 0 0 0 (fun _=>undef) (Nat.le_refl _) (Nat.zero_le _) (fun _=>rfl) (.inl rfl) (fun i x h=>by simp at h) (fun i x h=>by simp at h) (fun i x h=>by simp at h) (fun _ h=>absurd rfl h)
     obtain ⟨_,hbb⟩:=hok.blocks b _ hb
     rcases hbb with ⟨k0,rfl⟩ | ⟨g',vals,t,fz,k1,k2,_,k3,k4,k5,k6,k7⟩
     ·rw[k0] at hg;cases hg
     rw[hg] at k1;injection k1 with k1;injection k1 with k1;subst k1
     have hBb:B b:=hB b (by simp[visit]) ⟨_,hb,trivial⟩
     have at_:∀ (i:Nat) y,ys[i]? = some y→∃ x v,xs[off + i]? = some x∧imm h n x=some y∧Shape e' x∧RV E w x v∧v.cells.size=esz e'∧∀ (j:Nat) c,v.cells[j]? = some c→vals[(off + i) * esz e' + j]? = some c:=fun i y hy=>by
      obtain ⟨x,hx,hi⟩:=omap_back hys i y hy
      rw[List.getElem?_take] at hx
      split at hx
      ·rw[List.getElem?_drop] at hx
       obtain ⟨s1,v,s2,s3,s4⟩:=k7 _ x hx
       exact ⟨x,v,hx,hi,s1,s2,s3,s4⟩
      ·cases hx
     have hu:∃ uf:Nat→Value,∀ (i:Nat) y,ys[i]? = some y→∃ x,xs[off + i]? = some x∧imm h n x=some y∧Shape e' x∧RV E w x (uf i)∧(uf i).cells.size=esz e'∧∀ (j:Nat) c,(uf i).cells[j]? = some c→vals[(off + i) * esz e' + j]? = some c:=by
      have:∀ i:Nat,∃ v:Value,∀ y,ys[i]? = some y→∃ x,xs[off + i]? = some x∧imm h n x=some y∧Shape e' x∧RV E w x v∧v.cells.size=esz e'∧∀ (j:Nat) c,v.cells[j]? = some c→vals[(off + i) * esz e' + j]? = some c:=fun i=>by
       cases hy:ys[i]? with
       | none=>exact ⟨undef,fun y h=>by cases h⟩
       | some y =>
        obtain ⟨x,v,r⟩:=at_ i y hy
        exact ⟨v,fun y' e=>by injection e with e;subst e;exact ⟨x,r⟩⟩
      exact ⟨fun i=>(this i).choose,fun i=>(this i).choose_spec⟩
     obtain ⟨uf,huf⟩:=hu
     rw[← hl]
     refine .sl e' false ys A cap g (off * esz e') uf (by omega) (by omega) (fun h=>by cases h) ?_ (fun i y hy=>?_) (fun i y hy j c hc=>⟨.inr ⟨b,hBb,hg⟩,?_⟩) (fun i y hy=>?_) (fun h=>by cases h)
     ·rcases hA with hA | ⟨_,h0⟩
      ·exact .inr hA
      ·exact .inl (List.eq_nil_of_length_eq_zero (by omega))
     ·obtain ⟨x,_,hi,hs,_⟩:=huf i y hy
      exact imm_fits hi hs
     ·obtain ⟨x,_,_,_,_,_,hv⟩:=huf i y hy
      have:=hv j c hc
      simp only[World.cell?,k2]
      rw[Nat.add_mul] at this
      simp[← Nat.add_assoc,this]
     ·obtain ⟨x,hx,hi,_,hrv,_⟩:=huf i y hy
      refine imm_ok hok B n x y _ (fun b' hb'=>hB b' ?_) hrv hi
      exact visit_els hb rfl (List.mem_of_getElem? hx) (List.mem_append_left _ hb')
    ·cases h'
   ·cases h'
  | arow e b off len =>
   obtain ⟨g,cap,A,hg,rfl,hA,hlc,hm⟩:=hr.arow_inv
   simp only[imm] at h'
   split at h'
   ·rename_i cs hb
    split at h'
    ·rename_i xs hxs
     simp only[Option.map_eq_some_iff] at h'
     obtain ⟨ys,hys,rfl⟩:=h'
     obtain ⟨e1,e2⟩:=elems_some hxs
     have hl:ys.length=len:=by rw[(omap_some hys).1,e1]
     obtain ⟨g',vals,t,fz,k1,k2,_,k3,k3',k4⟩:=hok.blocks b _ hb
     rw[hg] at k1;injection k1 with k1;injection k1 with k1;subst k1
     have hBb:B b:=hB b (by simp[visit]) ⟨_,hb,trivial⟩
     have hf:∀ (i:Nat) c,(cs.drop off)[i]? = some c→RV E w c (vals.getD (off + i) undef):=fun i c hc=>by
      rw[List.getElem?_drop] at hc
      have hl:off + i<vals.size:=by have:=(List.getElem?_eq_some_iff.1 hc).1;omega
      refine k4 _ c _ hc ?_
      simp[hl]
     rw[← hl]
     refine .sl e false ys A cap g off (fun i=>realPick e fun j=>vals.getD (off + (i * esz e + j)) undef) (by omega) hm (fun h=>by cases h) ?_ (fun i y hy=>?_) (fun i y hy j c hc=>⟨.inr ⟨b,hBb,hg⟩,?_⟩) (fun i y hy=>?_) (fun h=>by cases h)
     ·rcases hA with hA | h0
      ·exact .inr hA
      ·exact .inl (List.eq_nil_of_length_eq_zero (by omega))
     ·obtain ⟨x,hx,hi⟩:=omap_back hys i y hy
      exact imm_fits hi (pick_shape (e2 i x hx) fun c hc=>k3' c (List.mem_of_mem_drop hc))
     ·obtain ⟨x,hx,hi⟩:=omap_back hys i y hy
      obtain ⟨p1,p2⟩:=pick_ok (e2 i x hx) hf
      have hsh:=pick_shape (e2 i x hx) fun c hc=>k3' c (List.mem_of_mem_drop hc)
      have hlen:∀ j,j<esz e→off + (i * esz e + j)<vals.size:=fun j hj=>by
       have:=p1 j hj
       simp at this
       omega
      unfold realPick at hc p2
      by_cases h0:e=0
      ·rw[if_pos h0] at hc p2
       unfold Shape at hsh
       rw[if_pos h0] at hsh
       have ho:x.one=true:=by
        rcases hsh with ho | rfl
        ·exact ho
        ·cases n<;>simp[imm] at hi
       rw[(p2.one ho).2] at hc
       have hj0:j=0:=by
        have:=(Array.getElem?_eq_some_iff.1 hc).1
        simp at this
        exact this
       subst hj0
       have hl0:=hlen 0 (esz_pos e)
       simp only[Nat.add_zero] at hl0
       simp[hl0] at hc
       subst hc
       simp[World.cell?,k2,hl0]
      ·rw[if_neg h0] at hc
       have hj:j<e:=by
        have:=(Array.getElem?_eq_some_iff.1 hc).1
        simpa[Value.cells] using this
       have hlj:=hlen j (by simpa[esz,h0] using hj)
       simp[Value.cells,hj,hlj] at hc
       subst hc
       simp[World.cell?,k2,hlj]
     ·obtain ⟨x,hx,hi⟩:=omap_back hys i y hy
      obtain ⟨p1,p2⟩:=pick_ok (e2 i x hx) hf
      refine imm_ok hok B n x y _ (fun b' hb'=>hB b' ?_) (by simpa[Nat.add_assoc] using p2) hi
      have hpk:=e2 i x hx
      unfold pick? at hpk
      by_cases h0:e=0
      ·rw[if_pos h0] at hpk
       exact visit_cel hb rfl (List.mem_of_mem_drop (List.mem_of_getElem? hpk)) hb'
      ·rw[if_neg h0] at hpk
       split at hpk
       ·injection hpk with hpk
        subst hpk
        cases n with
        | zero=>simp[visit] at hb'
        | succ n =>
         simp only[visit] at hb'
         obtain ⟨c,hc1,hc2⟩:=List.mem_flatMap.1 hb'
         exact visit_cel hb rfl (List.mem_of_mem_drop (List.mem_of_mem_drop (List.mem_of_mem_take hc1))) (visit_mono n c b' hc2)
       ·cases hpk
    ·cases h'
   ·cases h'
  | mref b =>
   obtain ⟨g,hg,rfl⟩:=hr.mref_inv
   simp only[imm] at h'
   split at h'
   ·rename_i ks vs hb
    injection h' with h';subst h'
    obtain ⟨g',es,cl,k1,k2,k3,k4,k5,k6⟩:=hok.blocks b _ hb
    rw[hg] at k1;injection k1 with k1;injection k1 with k1;subst k1
    have hBb:B b:=hB b (by simp[visit]) ⟨_,hb,trivial⟩
    exact .mp ks vs g es cl (.inr ⟨b,hBb,hg⟩) k2 k3 k4 (fun i k x hk hx=>(k5 i k x hk hx).kept kept) fun i v x hv hx=>(k6 i v x hv hx).kept kept
   ·cases h'
  | agg cs =>
   obtain ⟨us,rfl,hs,hrr⟩:=hr.agg_inv
   simp only[imm,Option.map_eq_some_iff] at h'
   obtain ⟨ys,hys,rfl⟩:=h'
   obtain ⟨l1,l2⟩:=list cs ys us (fun c hc b hb=>hB b (by simp only[visit];exact mem_visit_agg hc hb)) hs hrr hys
   exact .agg ys us l1 l2
  | tup cs =>
   obtain ⟨us,rfl,hs,hrr⟩:=hr.tup_inv
   simp only[imm,Option.map_eq_some_iff] at h'
   obtain ⟨ys,hys,rfl⟩:=h'
   obtain ⟨l1,l2⟩:=list cs ys us (fun c hc b hb=>hB b (by simp only[visit];exact mem_visit_agg hc hb)) hs hrr hys
   exact .tup ys us l1 l2
  | bnd f cs=>simp[imm] at h'
  | fn f cs =>
   obtain ⟨us,rfl,hs,hrr⟩:=hr.fn_inv
   simp only[imm,Option.map_eq_some_iff] at h'
   obtain ⟨ys,hys,rfl⟩:=h'
   obtain ⟨l1,l2⟩:=list cs ys us (fun c hc b hb=>hB b (by simp only[visit];exact mem_visit_agg hc hb)) hs hrr hys
   exact .fn f ys us l1 l2
end
end Go.Ab
namespace Go.Ab
open Go Go.RowKit
section
variable {E:Env}{w:World}{h:Hp}
theorem plain_RI:∀ (n:Nat) (v:AV) (u:Value),plain n v=true→RV E w v u→RI E.S w v u
 | 0,v,_,hp,_=>by simp[plain] at hp
 | n + 1,v,u,hp,hr=>by
  cases v with
  | agg cs =>
   obtain ⟨us,rfl,hs,hrr⟩:=hr.agg_inv
   simp only[plain,List.all_eq_true] at hp
   exact .agg cs us hs fun i c u hc hu=>plain_RI n c u (hp c (List.mem_of_getElem? hc)) (hrr i c u hc hu)
  | tup cs =>
   obtain ⟨us,rfl,hs,hrr⟩:=hr.tup_inv
   simp only[plain,List.all_eq_true] at hp
   exact .tup cs us hs fun i c u hc hu=>plain_RI n c u (hp c (List.mem_of_getElem? hc)) (hrr i c u hc hu)
  | fn f cs =>
   obtain ⟨us,rfl,hs,hrr⟩:=hr.fn_inv
   simp only[plain,List.all_eq_true] at hp
   exact .fn f cs us hs fun i c u hc hu=>plain_RI n c u (hp c (List.mem_of_getElem? hc)) (hrr i c u hc hu)
  | junk=>simp[plain] at hp
  | ptr=>simp[plain] at hp
  | eptr=>simp[plain] at hp
  | row=>simp[plain] at hp
  | arow=>simp[plain] at hp
  | crow=>simp[plain] at hp
  | fr=>simp[plain] at hp
  | mref=>simp[plain] at hp
  | bnd=>simp[plain] at hp
  | _=>cases hr with | imm h=>exact h
theorem flat_RI{S S':Nat→Nat→Prop}{w w':World}:∀ (n:Nat) (v:AV) (u:Value),flat n v=true→RI S w v u→RI S' w' v u
 | 0,v,_,hp,_=>by simp[flat] at hp
 | n + 1,v,u,hp,hr=>by
  cases hr with
  | bool b=>exact .bool b
  | int k m=>exact .int k m
  | str t=>exact .str t
  | nilp=>exact .nilp
  | nilfn=>exact .nilfn
  | nilmp=>exact .nilmp
  | agg cs us hs hrr =>
   simp only[flat,List.all_eq_true] at hp
   exact .agg cs us hs fun i c u hc hu=>flat_RI n c u (hp c (List.mem_of_getElem? hc)) (hrr i c u hc hu)
  | tup cs us hs hrr =>
   simp only[flat,List.all_eq_true] at hp
   exact .tup cs us hs fun i c u hc hu=>flat_RI n c u (hp c (List.mem_of_getElem? hc)) (hrr i c u hc hu)
  | pro=>simp[flat] at hp
  | sl=>simp[flat] at hp
  | fn=>simp[flat] at hp
  | mp=>simp[flat] at hp
  | mpn=>simp[flat] at hp
theorem kill_getElem:∀ (bs:List Nat) (h:Hp) (b:Nat) (x:HB),(kill h bs)[b]? = some x→x=.dead∨(h[b]? = some x∧b ∉ bs)
 | [],h,b,x,hx=>.inr ⟨hx,by simp⟩
 | c::bs,h,b,x,hx=>by
  rcases kill_getElem bs (h.set c .dead) b x hx with rfl | ⟨h1,h2⟩
  ·exact .inl rfl
  ·by_cases hbc:b=c
   ·subst hbc
    by_cases hl:b<h.length
    ·rw[List.getElem?_set_self hl] at h1;injection h1 with h1;exact .inl h1.symm
    ·rw[List.getElem?_eq_none (by simp;omega)] at h1;cases h1
   ·rw[List.getElem?_set_ne (fun e=>hbc e.symm)] at h1
    exact .inr ⟨h1,by simp[hbc,h2]⟩
theorem kill_length:∀ (bs:List Nat) (h:Hp),(kill h bs).length=h.length
 | [],_=>rfl
 | c::bs,h=>by rw[kill,kill_length bs];simp
def Live(h:Hp)(bs:List Nat):Nat→Prop:=fun b=>b ∈ bs∧∃ y,h[b]? = some y∧y.alive
def Env.give(E:Env)(h:Hp)(bs:List Nat):Env:={ E with S:=E.stable (Live h bs) }
theorem HOK.kill(hok:HOK E h w)(bs:List Nat):HOK (E.give h bs) (Ab.kill h bs) w∧∀ n,Ext n E w (E.give h bs) w:=by
 have hkept:Kept E.S (E.stable (Live h bs)) w w:=⟨fun _ _ s=>.inl s,fun _ _ _=>rfl,fun _ _ _ _ _ e=>e,fun _ _ _ _=>rfl⟩
 have he:∀ n,Ext n E w (E.give h bs) w:=fun n=>⟨Blw.refl _ _,rfl,hkept,fun g o s=>by
  rcases s with s | ⟨b,⟨_,y,hy,hal⟩,hr⟩
  ·exact .inl s
  ·exact .inr (hok.own b y g hy hal hr).1,fun b r _ e=>⟨e,rfl,rfl⟩⟩
 refine ⟨⟨fun b x hx=>?_,fun b r e=>by rw[kill_length];exact hok.dom b r e,fun b x g hx hal e=>?_,fun b1 b2 x1 x2 g e1 e2 a1 a2 r1 r2=>?_,fun g o s=>?_,hok.size⟩,he⟩
 ·rcases kill_getElem bs h b x hx with rfl | ⟨h1,_⟩
  ·trivial
  ·exact BOK.ext (List.getElem?_eq_some_iff.1 h1).1 hok.dom (he _) (fun _ _ _=>rfl) (hok.blocks b x h1)
 ·rcases kill_getElem bs h b x hx with rfl | ⟨h1,h2⟩
  ·exact hal.elim
  ·obtain ⟨k1,k2,k3⟩:=hok.own b x g h1 hal e
   refine ⟨k1,k2,fun o s=>?_⟩
   rcases s with s | ⟨b',⟨hm,y,hy,hal'⟩,hr⟩
   ·exact k3 o s
   ·exact h2 (hok.inj b b' x y g h1 hy hal hal' e hr ▸ hm)
 ·rcases kill_getElem bs h b1 x1 e1 with rfl | ⟨f1,_⟩
  ·exact a1.elim
  ·rcases kill_getElem bs h b2 x2 e2 with rfl | ⟨f2,_⟩
   ·exact a2.elim
   ·exact hok.inj b1 b2 x1 x2 g f1 f2 a1 a2 r1 r2
 ·rcases s with s | ⟨b,⟨_,y,hy,hal⟩,hr⟩
  ·exact hok.old g o s
  ·exact (hok.own b y g hy hal hr).2.1
theorem freeze_ok(hok:HOK E h w){v x:AV}{u:Value}{h':Hp}(hr:RV E w v u)(hf:freeze h v=some (x,h')) :
  ∃ E',HOK E' h' w∧(∀ n,Ext n E w E' w)∧RI E'.S w x u∧h'.length=h.length∧E'.base=E.base:=by
 unfold freeze at hf
 split at hf
 ·rename_i hp
  injection hf with hf;injection hf with h1 h2;subst h1;subst h2
  exact ⟨E,hok,fun n=>Ext.refl n E w,plain_RI deep v u hp hr,rfl,rfl⟩
 ·split at hf
  ·rename_i y hy
   injection hf with hf;injection hf with h1 h2;subst h1;subst h2
   obtain ⟨k1,k2⟩:=hok.kill (visit h deep v)
   exact ⟨_,k1,k2,imm_ok hok _ deep v y u (fun b hb hy=>⟨hb,hy⟩) hr hy,kill_length _ _,rfl⟩
  ·cases hf
def Fresh(S:Nat→Nat→Prop)(w:World)(lo e:Nat)(xs:List AV)(u:Value):Prop :=
 ∃ A cap,u=.slice A xs.length cap∧((xs=[]∧cap=0)∨∃ g vals t fz,A=some ⟨g,0,none⟩∧lo≤g∧w.heap[g]? = some (.cells vals t fz)∧Soft vals fz∧vals.size=cap * esz e∧xs.length≤cap∧cap≤maxLen ∧
  (∀ o,¬ S g o)∧∀ (i:Nat) x,xs[i]? = some x→Shape e x∧∃ v:Value,RI S w x v∧v.cells.size=esz e∧∀ (j:Nat) c,v.cells[j]? = some c→vals[i * esz e + j]? = some c)
def ResOK(S:Nat→Nat→Prop)(w:World)(lo:Nat)(r:AV)(u:Value):Prop :=
 RI S w r u∨(∃ e xs,r=.fr e xs∧Fresh S w lo e xs u) ∨
 ∃ cs us,r=.tup cs∧u=.tuple us∧us.size=cs.length∧∀ (i:Nat) c v,cs[i]? = some c→us[i]? = some v→RI S w c v∨∃ e xs,c=.fr e xs∧Fresh S w lo e xs v
theorem fresh_push(hok:HOK E h w){e:Nat}{xs:List AV}{u:Value}{lo:Nat}(hlo:∀ (b:Nat) x g,h[b]? = some x→x.alive→E.rho b=some (some g)→g<lo)(hl:E.base≤lo)(hf:Fresh E.S w lo e xs u) :
  ∃ E',HOK E' (h++[.els e xs]) w∧Ext h.length E w E' w∧RV E' w (.row e h.length 0 xs.length) u:=by
 obtain ⟨A,cap,rfl,hf⟩:=hf
 have cases_:∀ (b:Nat) (x:HB),(h++[HB.els e xs])[b]? = some x→(b<h.length∧h[b]? = some x)∨(b=h.length∧x=.els e xs):=fun b x hx=>by
  rcases Nat.lt_trichotomy b h.length with hb | hb | hb
  ·rw[List.getElem?_append_left hb] at hx;exact .inl ⟨hb,hx⟩
  ·subst hb;simp at hx;exact .inr ⟨rfl,hx.symm⟩
  ·rw[List.getElem?_eq_none (by simp;omega)] at hx;cases hx
 have main:∀ (r:Option Nat),(∀ g,r=some g→lo≤g∧g<w.heap.size∧∀ o,¬ E.S g o)→BOK (E.push h.length r e cap) w h.length (.els e xs)→HOK (E.push h.length r e cap) (h++[.els e xs]) w∧Ext h.length E w (E.push h.length r e cap) w:=by
  intro r hg hy
  have he:Ext h.length E w (E.push h.length r e cap) w:=hok.ext_more (More.refl w) r e cap
  have rho_old:∀ b r',b<h.length→(E.push h.length r e cap).rho b=some r'→E.rho b=some r':=fun b r' hb e'=>by
   simpa[Env.push,show b≠h.length by omega] using e'
  refine ⟨⟨fun b x hx=>?_,fun b r' e'=>?_,fun b x g hx hal e'=>?_,fun b1 b2 x1 x2 g e1 e2 a1 a2 r1 r2=>?_,hok.old,hok.size⟩,he⟩
  ·rcases cases_ b x hx with ⟨hb,hx⟩ | ⟨rfl,rfl⟩
   ·exact BOK.ext hb hok.dom he (fun _ _ _=>rfl) (hok.blocks b x hx)
   ·exact hy
  ·by_cases hb:b=h.length
   ·simp[hb]
   ·have:=hok.dom b r' (by simpa[Env.push,hb] using e')
    simp;omega
  ·rcases cases_ b x hx with ⟨hb,hx⟩ | ⟨rfl,rfl⟩
   ·exact hok.own b x g hx hal (rho_old b _ hb e')
   ·simp only[Env.push_rho,Option.some.injEq] at e'
    obtain ⟨k1,k2,k3⟩:=hg g e'
    exact ⟨Nat.le_trans hl k1,k2,k3⟩
  ·rcases cases_ b1 x1 e1 with ⟨hb1,f1⟩ | ⟨rfl,rfl⟩<;>rcases cases_ b2 x2 e2 with ⟨hb2,f2⟩ | ⟨rfl,rfl⟩
   ·exact hok.inj b1 b2 x1 x2 g f1 f2 a1 a2 (rho_old _ _ hb1 r1) (rho_old _ _ hb2 r2)
   ·simp only[Env.push_rho,Option.some.injEq] at r2
    have:=hlo b1 x1 g f1 a1 (rho_old _ _ hb1 r1)
    have:=(hg g r2).1
    omega
   ·simp only[Env.push_rho,Option.some.injEq] at r1
    have:=hlo b2 x2 g f2 a2 (rho_old _ _ hb2 r2)
    have:=(hg g r1).1
    omega
   ·rfl
 rcases hf with ⟨rfl,rfl⟩ | ⟨g,vals,t,fz,rfl,k1,k2,k3,k4,k5,k6,k7,k8⟩
 ·obtain ⟨m1,m2⟩:=main none (fun g h=>by cases h) ⟨by simp,.inl ⟨by simp,rfl⟩⟩
  exact ⟨_,m1,m2,.row0 e h.length A (by simp) (by simp)⟩
 ·have hgs:g<w.heap.size:=(Array.getElem?_eq_some_iff.1 k2).1
  have he:Ext h.length E w (E.push h.length (some g) e cap) w:=hok.ext_more (More.refl w) (some g) e cap
  obtain ⟨m1,m2⟩:=main (some g) (fun g' h=>by injection h with h;subst h;exact ⟨k1,hgs,k7⟩)
   ⟨by simp,.inr ⟨g,vals,t,fz,by simp,k2,k3,by simpa using k4,by simpa using k5,by simpa using k6,by rw[k4];exact Nat.mul_le_mul_right _ k5,fun i x hx=>by
    obtain ⟨s1,v,s2,s3,s4⟩:=k8 i x hx
    exact ⟨s1,v,.imm s2,s3,s4⟩⟩⟩
  exact ⟨_,m1,m2,.row e h.length 0 xs.length g cap _ (by simp) (by simp) (.inl (by simp)) k5 (by simp) (by simpa using k6)⟩
theorem adoptL_ok{lo:Nat}:∀ {cs:List AV}{h:Hp}{E:Env}{ds:List AV}{h':Hp},HOK E h w→(∀ (b:Nat) x g,h[b]? = some x→x.alive→E.rho b=some (some g)→g<lo)→E.base≤lo→adoptL h cs=some (ds,h') →
  ∀ us:List Value,us.length=cs.length→(∀ (i:Nat) c v,cs[i]? = some c→us[i]? = some v→RI E.S w c v∨∃ e xs,c=.fr e xs∧Fresh E.S w lo e xs v) →
  ∃ E',HOK E' h' w∧Ext h.length E w E' w∧ds.length=cs.length∧∀ (i:Nat) c v,ds[i]? = some c→us[i]? = some v→RV E' w c v
 | [],h,E,ds,h',hok,_,_,ha,us,_,_=>by
  simp[adoptL] at ha
  obtain ⟨rfl,rfl⟩:=ha
  exact ⟨E,hok,Ext.refl _ _ _,rfl,fun i c v h=>by simp at h⟩
 | c::cs,h,E,ds,h',hok,hlo,hl,ha,us,hu,hr=>by
  match us,hu with
  | u::us,hu =>
  have hr0:=hr 0 c u rfl rfl
  have hrs:∀ (i:Nat) c v,cs[i]? = some c→us[i]? = some v→RI E.S w c v∨∃ e xs,c=.fr e xs∧Fresh E.S w lo e xs v:=fun i c' v h1 h2=>hr (i + 1) c' v (by simpa using h1) (by simpa using h2)
  by_cases hc:∃ e xs,c=.fr e xs
  ·obtain ⟨e,xs,rfl⟩:=hc
   simp only[adoptL] at ha
   split at ha
   ·cases ha
   ·rename_i hany
    injection ha with ha;injection ha with h1 h2;subst h1;subst h2
    rcases hr0 with hr0 | ⟨e',xs',he,hf⟩
    ·cases hr0
    ·injection he with h1 h2;subst h1;subst h2
     obtain ⟨E',p1,p2,p3⟩:=fresh_push hok hlo hl hf
     refine ⟨E',p1,p2,by simp,fun i c v h1 h2=>?_⟩
     cases i with
     | zero=>simp at h1 h2;subst h1;subst h2;exact p3
     | succ i =>
      rcases hrs i c v (by simpa using h1) (by simpa using h2) with hi | ⟨e,xs,rfl,_⟩
      ·exact .imm (hi.kept p2.kept)
      ·exact absurd (List.any_eq_true.2 ⟨_,List.mem_of_getElem? (by simpa using h1),rfl⟩) hany
  ·have hrest:∃ p,adoptL h cs=some p∧ds=c::p.1∧h'=p.2:=by
    cases c<;>simp only[adoptL,Option.map_eq_some_iff] at ha<;>first
     | (obtain ⟨p,h1,h2⟩:=ha;injection h2 with h2 h3;exact ⟨p,h1,h2.symm,h3.symm⟩)
     | exact absurd ⟨_,_,rfl⟩ hc
   obtain ⟨p,hp,rfl,rfl⟩:=hrest
   obtain ⟨E',p1,p2,p3,p4⟩:=adoptL_ok (cs:=cs) hok hlo hl hp us (by simpa using hu) hrs
   refine ⟨E',p1,p2,by simp[p3],fun i c' v h1 h2=>?_⟩
   cases i with
   | zero =>
    simp at h1 h2
    subst h1;subst h2
    rcases hr0 with hi | ⟨e,xs,rfl,_⟩
    ·exact .imm (hi.kept p2.kept)
    ·exact absurd ⟨_,_,rfl⟩ hc
   | succ i=>exact p4 i c' v (by simpa using h1) (by simpa using h2)
theorem adopt_ok(hok:HOK E h w){lo:Nat}(hlo:∀ (b:Nat) x g,h[b]? = some x→x.alive→E.rho b=some (some g)→g<lo)(hl:E.base≤lo){r v:AV}{u:Value}{h':Hp}(hr:ResOK E.S w lo r u)(ha:adopt h r=some (v,h')) :
  ∃ E',HOK E' h' w∧Ext h.length E w E' w∧RV E' w v u:=by
 by_cases hfr:∃ e xs,r=.fr e xs
 ·obtain ⟨e,xs,rfl⟩:=hfr
  simp only[adopt,Option.some.injEq,Prod.mk.injEq] at ha
  obtain ⟨rfl,rfl⟩:=ha
  rcases hr with hr | ⟨e',xs',he,hf⟩ | ⟨cs,us,he,_⟩
  ·cases hr
  ·injection he with h1 h2;subst h1;subst h2
   exact fresh_push hok hlo hl hf
  ·cases he
 by_cases htup:∃ cs,r=.tup cs
 ·obtain ⟨cs,rfl⟩:=htup
  simp only[adopt,Option.map_eq_some_iff] at ha
  obtain ⟨p,hp,he⟩:=ha
  injection he with h1 h2;subst h1;subst h2
  have key:∃ us:Array Value,u=.tuple us∧us.size=cs.length∧∀ (i:Nat) c v,cs[i]? = some c→us[i]? = some v→RI E.S w c v∨∃ e xs,c=.fr e xs∧Fresh E.S w lo e xs v:=by
   rcases hr with hr | ⟨e',xs',he,hf⟩ | ⟨cs',us,he,rfl,h1,h2⟩
   ·cases hr with | tup _ us hs hrr=>exact ⟨us,rfl,hs,fun i c v h1 h2=>.inl (hrr i c v h1 h2)⟩
   ·cases he
   ·injection he with he;subst he;exact ⟨us,rfl,h1,h2⟩
  obtain ⟨us,rfl,h1,h2⟩:=key
  obtain ⟨E',p1,p2,p3,p4⟩:=adoptL_ok hok hlo hl hp us.toList (by simpa using h1) (fun i c v h3 h4=>h2 i c v h3 (by simpa using h4))
  exact ⟨E',p1,p2,.tup _ us (by rw[p3,h1]) fun i c v h3 h4=>p4 i c v h3 (by simpa using h4)⟩
 ·have:v=r∧h'=h:=by
   cases r<;>simp only[adopt,Option.some.injEq,Prod.mk.injEq] at ha<;>first
    | exact ⟨ha.1.symm,ha.2.symm⟩
    | exact absurd ⟨_,_,rfl⟩ hfr
    | exact absurd ⟨_,rfl⟩ htup
  obtain ⟨rfl,rfl⟩:=this
  rcases hr with hr | ⟨e',xs',he,_⟩ | ⟨cs,us,he,_⟩
  ·exact ⟨E,hok,Ext.refl _ _ _,.imm hr⟩
  ·exact absurd ⟨_,_,he⟩ hfr
  ·exact absurd ⟨_,he⟩ htup
end
end Go.Ab
namespace Go.Ab
open Go Go.RowKit
variable {P:Program}
def Yields(P:Program)(o:Oper)(a:Act)(E:Env)(n:Nat)(w:World)(v:AV)(h':Hp):Prop :=
 ∃ u w' E' nx,(execOp a.eval o).run P w=.ok nx w'∧(nx=.value u∨(nx=.skip∧u=undef))∧HOK E' h' w'∧Ext n E w E' w'∧RV E' w' v u
section
variable {E:Env}{w:World}{h:Hp}{s:Nat→AV}{a:Act}{o:Oper}
theorem Yields.still(hok:HOK E h w){v:AV}{u:Value}(hr:(execOp a.eval o).run P w=.ok (.value u) w)(hv:RV E w v u):Yields P o a E h.length w v h :=
 ⟨u,w,E,_,hr,.inl rfl,hok,Ext.refl _ _ _,hv⟩
theorem ok_mv(hok:HOK E h w)(hs:SOK E w s a){x:Operand}{y:Od}{t:TypeId}(ho:o.op=.move x∨o.op=.assign x)(hx:od P t x=some y):Yields P o a E h.length w (y.ev s) h :=
 .still hok (u:=a.eval x) (by rcases ho with ho | ho<;>simp[execOp,ho]) (od_ok hs hx)
theorem ok_pick(hok:HOK E h w)(hs:SOK E w s a){c x y:Operand}{c' x' y':Od}{t0 t:TypeId}(ho:o.op=.pick c x y)(hc:od P t0 c=some c')(hx:od P t x=some x')(hy:od P t y=some y'){b:Bool}
  (hb:c'.ev s=.bool b):Yields P o a E h.length w (if b then x'.ev s else y'.ev s) h:=by
 have h1:=od_ok hs hc
 rw[hb] at h1
 refine .still hok (u:=if b then a.eval x else a.eval y) (by simp[execOp,ho,h1.bool_inv,asBool]) ?_
 cases b
 ·exact od_ok hs hy
 ·exact od_ok hs hx
theorem run_eqGuard_int{op:BinOp}{t:TypeId}{x y:Operand}{k j:IntKind}{m n:Int}:(eqGuard op t x y (.int k m) (.int j n)).run P w=.ok () w:=by
 cases op<;>simp[eqGuard]
theorem run_eqGuard_str{op:BinOp}{t:TypeId}{x y:Operand}{m n:ByteArray}:(eqGuard op t x y (.string m) (.string n)).run P w=.ok () w:=by
 cases op<;>simp[eqGuard]
theorem run_eqGuard_bool{op:BinOp}{t:TypeId}{x y:Operand}{m n:Bool}:(eqGuard op t x y (.bool m) (.bool n)).run P w=.ok () w:=by
 cases op<;>simp[eqGuard]
theorem run_eqGuard_ptr{op:BinOp}{t:TypeId}{x y:Operand}{m n:Option Addr}:(eqGuard op t x y (.pointer m) (.pointer n)).run P w=.ok () w:=by
 cases op<;>simp[eqGuard]
theorem run_binI{op:BinOp}{t:TypeId}{k j:IntKind}{m n:Int}{v:AV}(hb:bin op (.int k m) (.int j n)=some v) :
  ∃ u,(binOp op t (.int k m) (.int j n)).run P w=.ok u w∧RV E w v u:=by
 simp only[bin] at hb
 by_cases hsh:isShift op=true
 ·rw[if_pos hsh] at hb
  unfold shiftI at hb
  split at hb
  ·cases hb
  ·rename_i hn
   cases op<;>simp only[isShift,Bool.false_eq_true] at hsh
   ·injection hb with hb;subst hb
    exact ⟨_,by simp only[binOp,Op.shift];rw[if_neg hn];rfl,.imm (.int _ _)⟩
   ·injection hb with hb;subst hb
    exact ⟨_,by simp only[binOp,Op.shift];rw[if_neg hn];rfl,.imm (.int _ _)⟩
 ·rw[if_neg hsh] at hb
  split at hb
  ·rename_i hk
   subst hk
   cases op<;>simp only[binI] at hb<;>simp only[isShift,not_true_eq_false,Bool.false_eq_true,not_false_eq_true] at hsh
   case quo =>
    split at hb
    ·cases hb
    ·rename_i h0
     injection hb with hb;subst hb
     exact ⟨_,by simp[binOp,Op.intDiv,h0],.imm (.int _ _)⟩
   case rem =>
    split at hb
    ·cases hb
    ·rename_i h0
     injection hb with hb;subst hb
     exact ⟨_,by simp[binOp,Op.intDiv,h0],.imm (.int _ _)⟩
   case and=>injection hb with hb;subst hb;exact ⟨_,by simp only[binOp,ne_eq,not_true_eq_false,if_false];rfl,.imm (.int _ _)⟩
   case or=>injection hb with hb;subst hb;exact ⟨_,by simp only[binOp,ne_eq,not_true_eq_false,if_false];rfl,.imm (.int _ _)⟩
   case xor=>injection hb with hb;subst hb;exact ⟨_,by simp only[binOp,ne_eq,not_true_eq_false,if_false];rfl,.imm (.int _ _)⟩
   case andNot=>injection hb with hb;subst hb;exact ⟨_,by simp only[binOp,ne_eq,not_true_eq_false,if_false];rfl,.imm (.int _ _)⟩
   case add=>injection hb with hb;subst hb;exact ⟨_,by simp[binOp,Op.intArith],.imm (.int _ _)⟩
   case sub=>injection hb with hb;subst hb;exact ⟨_,by simp[binOp,Op.intArith],.imm (.int _ _)⟩
   case mul=>injection hb with hb;subst hb;exact ⟨_,by simp[binOp,Op.intArith],.imm (.int _ _)⟩
   all_goals (injection hb with hb;subst hb;exact ⟨_,by simp[binOp,Op.intCmp],.imm (.bool _)⟩)
  ·cases hb
theorem toList_mk(l:List UInt8):(⟨l.toArray⟩:ByteArray).toList=l:=by
 rw[ByteArray.toList_eq]
theorem size_mk(l:List UInt8):(⟨l.toArray⟩:ByteArray).size=l.length:=by
 simp[ByteArray.size]
theorem append_mk(l m:List UInt8):(⟨l.toArray⟩:ByteArray)++⟨m.toArray⟩=⟨(l++m).toArray⟩:=by
 apply ByteArray.ext
 simp
theorem run_binS{op:BinOp}{t:TypeId}{m n:List UInt8}{v:AV}(hb:bin op (.str m) (.str n)=some v) :
  ∃ u,(binOp op t (.string ⟨m.toArray⟩) (.string ⟨n.toArray⟩)).run P w=.ok u w∧RV E w v u:=by
 simp only[bin] at hb
 cases op<;>simp only[binS] at hb<;>(try (cases hb;done))
 case add =>
  split at hb
  ·rename_i hl
   injection hb with hb;subst hb
   refine ⟨_,?_,.imm (.str _)⟩
   simp only[binOp,Op.stringOp,size_mk,append_mk]
   rw[if_neg (by simp only[IntKind.max_i64];unfold maxStr at hl;omega)]
   rfl
  ·cases hb
 all_goals (injection hb with hb;subst hb;exact ⟨_,by simp only[binOp,Op.stringOp,toList_mk];rfl,.imm (.bool _)⟩)
theorem run_binB{op:BinOp}{t:TypeId}(ht:P.underlying t=some .bool){m n:Bool}{v:AV}(hb:binb op (.bool m) (.bool n)=some v) :
  ∃ u,(binOp op t (.bool m) (.bool n)).run P w=.ok u w∧RV E w v u:=by
 simp only[binb] at hb
 have he:(Op.equal t (.bool m) (.bool n)).run P w=.ok (m == n) w:=run_equalIn_bool' w _ t m n ht
 cases op<;>simp only at hb<;>(try (cases hb;done))
 ·injection hb with hb;subst hb
  exact ⟨_,by simp only[binOp,Sem.run_bind,he,Result.andThen_ok,Sem.run_pure],.imm (.bool _)⟩
 ·injection hb with hb;subst hb
  exact ⟨_,by simp only[binOp,Sem.run_bind,he,Result.andThen_ok,Sem.run_pure],.imm (.bool _)⟩
theorem bin_kinds{op:BinOp}{x y v:AV}(h:bin op x y=some v):(∃ k m j n,x=.int k m∧y=.int j n)∨∃ m n,x=.str m∧y=.str n:=by
 unfold bin at h
 split at h
 ·exact .inl ⟨_,_,_,_,rfl,rfl⟩
 ·exact .inr ⟨_,_,rfl,rfl⟩
 ·cases h
theorem ok_bin(hok:HOK E h w)(hs:SOK E w s a){op:BinOp}{x y:Operand}{x' y':Od}{t t1 t2 yt:TypeId}(ho:o.op=.binOp op t x y yt)(hx:od P t1 x=some x')(hy:od P t2 y=some y')
  {v:AV}{h':Hp}(hb:evV s h (.bin op x' y')=some (v,h')):Yields P o a E h.length w v h':=by
 have h1:=od_ok hs hx
 have h2:=od_ok hs hy
 simp only[evV,Option.map_eq_some_iff] at hb
 obtain ⟨v',hb,he⟩:=hb
 injection he with e1 e2;subst e1;subst e2
 rcases bin_kinds hb with ⟨k,m,j,n,e1,e2⟩ | ⟨m,n,e1,e2⟩
 ·rw[e1] at h1 hb;rw[e2] at h2 hb
  obtain ⟨u,r1,r2⟩:=run_binI (P:=P) (t:=t) (w:=w) (E:=E) hb
  exact .still hok (by simp only[execOp,ho,h1.int_inv,h2.int_inv,Sem.run_bind,run_eqGuard_int,Result.andThen_ok,r1,Sem.run_pure]) r2
 ·rw[e1] at h1 hb;rw[e2] at h2 hb
  obtain ⟨u,r1,r2⟩:=run_binS (P:=P) (t:=t) (w:=w) (E:=E) hb
  exact .still hok (by simp only[execOp,ho,h1.str_inv,h2.str_inv,Sem.run_bind,run_eqGuard_str,Result.andThen_ok,r1,Sem.run_pure]) r2
theorem ok_binb(hok:HOK E h w)(hs:SOK E w s a){op:BinOp}{x y:Operand}{x' y':Od}{t t1 t2 yt:TypeId}(ho:o.op=.binOp op t x y yt)(hx:od P t1 x=some x')(hy:od P t2 y=some y')(ht:P.underlying t=some .bool)
  {v:AV}{h':Hp}(hb:evV s h (.binb op x' y')=some (v,h')):Yields P o a E h.length w v h':=by
 have h1:=od_ok hs hx
 have h2:=od_ok hs hy
 simp only[evV,Option.map_eq_some_iff] at hb
 obtain ⟨v',hb,he⟩:=hb
 injection he with e1 e2;subst e1;subst e2
 have hk:∃ m n,x'.ev s=.bool m∧y'.ev s=.bool n:=by
  unfold binb at hb
  split at hb
  ·rename_i m n e1 e2;exact ⟨m,n,e1,e2⟩
  ·cases hb
 obtain ⟨m,n,e1,e2⟩:=hk
 rw[e1] at h1 hb;rw[e2] at h2 hb
 obtain ⟨u,r1,r2⟩:=run_binB (P:=P) (t:=t) (w:=w) (E:=E) ht hb
 exact .still hok (by simp only[execOp,ho,h1.bool_inv,h2.bool_inv,Sem.run_bind,run_eqGuard_bool,Result.andThen_ok,r1,Sem.run_pure]) r2
theorem ok_un(hok:HOK E h w)(hs:SOK E w s a){op:UnOp}{x:Operand}{x':Od}{t t1:TypeId}(ho:o.op=.unOp op t x)(hx:od P t1 x=some x'){v:AV}{h':Hp}(hb:evV s h (.un op x')=some (v,h')) :
  Yields P o a E h.length w v h':=by
 have h1:=od_ok hs hx
 simp only[evV] at hb
 split at hb
 ·rename_i b e
  rw[e] at h1
  injection hb with hb;injection hb with e1 e2;subst e1;subst e2
  exact .still hok (by simp only[execOp,ho,h1.bool_inv,Op.unary,Sem.run_bind,Sem.run_pure,Result.andThen_ok]) (.imm (.bool _))
 ·rename_i k n e
  rw[e] at h1
  injection hb with hb;injection hb with e1 e2;subst e1;subst e2
  exact .still hok (by simp only[execOp,ho,h1.int_inv,Op.unary,Op.intArith,Sem.run_bind,Sem.run_pure,Result.andThen_ok]) (.imm (.int _ _))
 ·rename_i k n e
  rw[e] at h1
  injection hb with hb;injection hb with e1 e2;subst e1;subst e2
  exact .still hok (by simp only[execOp,ho,h1.int_inv,Op.unary,Op.intBits,Sem.run_bind,Sem.run_pure,Result.andThen_ok]) (.imm (.int _ _))
 ·cases hb
theorem cell_vals{g o:Nat}{vals:Array Value}{t:TypeId}{fz:Nat×Nat}(hg:w.heap[g]? = some (.cells vals t fz)):w.cell? ⟨g,o,none⟩=vals[o]? := by
 simp[World.cell?,hg]
theorem load_core(hok:HOK E h w){t:TypeId}{x':Od}{e:Nat}{ux:Value}(he:ecode P t=some e)(h1:RV E w (x'.ev s) ux){v:AV}{h':Hp}
  (hb:evV s h (.load e x')=some (v,h')):∃ g off u,ux=.pointer (some ⟨g,off,none⟩)∧(loadVar t ⟨g,off,none⟩).run P w=.ok u w∧RV E w v u∧h'=h:=by
 simp only[evV] at hb
 have fin:∀ (g off:Nat) (f:Nat→Value),ux=.pointer (some ⟨g,off,none⟩)→(∀ j,j<esz e→w.cell? ⟨g,off + j,none⟩=some (f j))→RV E w v (realPick e f)→h'=h →
   ∃ g off u,ux=.pointer (some ⟨g,off,none⟩)∧(loadVar t ⟨g,off,none⟩).run P w=.ok u w∧RV E w v u∧h'=h:=by
  rintro g off f hp hf hv rfl
  exact ⟨g,off,_,hp,run_loadVar_e he w g off f hf,hv,rfl⟩
 split at hb
 ·rename_i b off e1
  rw[e1] at h1
  obtain ⟨g,hg,hp⟩:=h1.ptr_inv
  split at hb
  ·rename_i cs hcs
   simp only[Option.map_eq_some_iff] at hb
   obtain ⟨v',hv,hb⟩:=hb
   injection hb with e2 e3;subst e2;subst e3
   obtain ⟨g',vals,t',fz,k1,k2,_,k3,_,k4⟩:=hok.blocks b _ hcs
   rw[hg] at k1;injection k1 with k1;injection k1 with k1;subst k1
   obtain ⟨p1,p2⟩:=pick_ok hv (f:=fun i=>vals.getD i undef) (E:=E) (w:=w) fun i c hc=>by
    have hl:i<vals.size:=by have:=(List.getElem?_eq_some_iff.1 hc).1;omega
    refine k4 i c _ hc ?_
    simp[hl]
   refine fin g off _ hp (fun j hj=>?_) p2 rfl
   have hl:off + j<vals.size:=by have:=p1 j hj;omega
   simp[cell_vals k2,hl]
  ·cases hb
 ·rename_i b i off e1
  rw[e1] at h1
  obtain ⟨g,hg,hp⟩:=h1.eptr_inv
  split at hb
  ·rename_i e' xs hxs
   split at hb
   ·rename_i z hz
    simp only[Option.map_eq_some_iff] at hb
    obtain ⟨v',hv,hb⟩:=hb
    injection hb with e2 e3;subst e2;subst e3
    obtain ⟨ke,hbb⟩:=hok.blocks b _ hxs
    rcases hbb with ⟨k0,rfl⟩ | ⟨g',vals,t',fz,k1,k2,_,k3,k4,k5,k6,k7⟩
    ·simp at hz
    rw[hg] at k1;injection k1 with k1;injection k1 with k1;subst k1
    obtain ⟨s1,u,s2,s3,s4⟩:=k7 i z hz
    obtain ⟨c1,c2,c3⟩:=shape_cells s1 s2 s3
    obtain ⟨p1,p2⟩:=pick_ok hv (f:=fun i=>u.cells.getD i undef) (E:=E) (w:=w) fun i c hc=>by
     have hl:i<u.cells.size:=by have:=(List.getElem?_eq_some_iff.1 hc).1;omega
     refine c3 i c _ hc ?_
     simp[hl]
    refine fin g _ _ hp (fun j hj=>?_) p2 rfl
    have hl:off + j<u.cells.size:=by have:=p1 j hj;omega
    have:=s4 (off + j) u.cells[off + j] (Array.getElem?_eq_getElem hl)
    rw[cell_vals k2,ke,Nat.add_assoc,this]
    simp[hl]
   ·cases hb
  ·cases hb
 ·rename_i cs e1
  rw[e1] at h1
  simp only[Option.map_eq_some_iff] at hb
  obtain ⟨v',hv,hb⟩:=hb
  injection hb with e2 e3;subst e2;subst e3
  cases h1.pro_inv with
  | pro _ g off f hc hr =>
   obtain ⟨p1,p2⟩:=pick_ok hv (f:=f) (E:=E) (w:=w) fun i c hc=>.imm (hr i c hc)
   refine fin g off _ rfl (fun j hj=>?_) p2 rfl
   have:=p1 j hj
   simp only[Nat.zero_add] at this ⊢
   exact (hc j cs[j] (List.getElem?_eq_getElem this)).2
 ·cases hb
theorem ok_load(hok:HOK E h w)(hs:SOK E w s a){t t0:TypeId}{x:Operand}{x':Od}{e:Nat}(ho:o.op=.load t x)(he:ecode P t=some e)(hx:od P t0 x=some x'){v:AV}{h':Hp}
  (hb:evV s h (.load e x')=some (v,h')):Yields P o a E h.length w v h':=by
 obtain ⟨g,off,u,hp,hrun,hv,rfl⟩:=load_core (P:=P) hok he (od_ok hs hx) hb
 exact .still hok (by simp only[execOp,ho,hp,Instr.loadAt,Instr.sureAddr,Sem.run_bind,Sem.run_pure,Result.andThen_ok,hrun]) hv
theorem getElem?_splice{cs us:List AV}{off:Nat}(hl:off + us.length≤cs.length)(i:Nat) :
  (cs.take off++us++cs.drop (off + us.length))[i]? = if off≤i∧i<off + us.length then us[i - off]? else cs[i]? := by
 have h1:(cs.take off).length=off:=by simp;omega
 by_cases h2:i<off
 ·rw[if_neg (by omega),List.append_assoc,List.getElem?_append_left (by omega),List.getElem?_take,if_pos h2]
 ·by_cases h3:i<off + us.length
  ·rw[if_pos ⟨by omega,h3⟩,List.append_assoc,List.getElem?_append_right (by omega),h1,List.getElem?_append_left (by omega)]
  ·rw[if_neg (by omega),List.getElem?_append_right (by simp;omega)]
   simp only[List.length_append,h1,List.getElem?_drop]
   congr 1
   omega
theorem getElem?_splice'{cs:List AV}{off e:Nat}{v:AV}(hf:v.fits e=true)(hl:off + esz e≤cs.length)(i:Nat) :
  (splice cs off v)[i]? = if off≤i∧i<off + esz e then v.cells[i - off]? else cs[i]? := by
 by_cases ha:∃ us,v=.agg us
 ·obtain ⟨us,rfl⟩:=ha
  simp only[AV.fits,Bool.and_eq_true,beq_iff_eq,bne_iff_ne,ne_eq] at hf
  have hz:esz e=us.length:=by unfold esz;rw[if_neg hf.1.2];exact hf.1.1
  rw[hz] at hl ⊢
  exact getElem?_splice hl i
 ·have he:e=0:=by cases v<;>simp_all [AV.fits]
  subst he
  have hz1:esz 0=1:=rfl
  have hsp:splice cs off v=cs.set off v:=by cases v<;>first | rfl | exact absurd ⟨_,rfl⟩ ha
  have hvc:v.cells=[v]:=by cases v<;>first | rfl | exact absurd ⟨_,rfl⟩ ha
  rw[hsp,hvc,List.getElem?_set]
  by_cases h1:off=i
  ·subst h1;rw[if_pos rfl,if_pos (by omega),if_pos ⟨Nat.le_refl _,by omega⟩];simp
  ·rw[if_neg h1,if_neg (by omega)]
theorem length_splice{cs:List AV}{off e:Nat}{v:AV}(hf:v.fits e=true)(hl:off + esz e≤cs.length):(splice cs off v).length=cs.length:=by
 by_cases ha:∃ us,v=.agg us
 ·obtain ⟨us,rfl⟩:=ha
  simp only[AV.fits,Bool.and_eq_true,beq_iff_eq,bne_iff_ne,ne_eq] at hf
  have hz:esz e=us.length:=by unfold esz;rw[if_neg hf.1.2];exact hf.1.1
  rw[hz] at hl
  simp[splice];omega
 ·have hsp:splice cs off v=cs.set off v:=by cases v<;>first | rfl | exact absurd ⟨_,rfl⟩ ha
  rw[hsp];simp
theorem fits_zero{v:AV}(h:v.fits 0=true):v.one=true∧∀ cs,v≠.agg cs:=by
 cases v<;>first
  | (simp[AV.fits] at h;done)
  | exact ⟨by simpa[AV.fits] using h,fun cs e=>by cases e⟩
theorem cells_one{v:AV}(h:∀ cs,v≠.agg cs):v.cells=[v]:=by
 cases v<;>first | rfl | exact absurd rfl (h _)
set_option maxHeartbeats 2000000 in
theorem ok_store(hok:HOK E h w)(hs:SOK E w s a){t t0 t1:TypeId}{x y:Operand}{x' y':Od}{e:Nat}(ho:o.op=.store t x y)(he:ecode P t=some e)(hx:od P t0 x=some x')(hy:od P t1 y=some y'){v:AV}{h':Hp}
  (hb:evV s h (.store e x' y')=some (v,h')):Yields P o a E h.length w v h':=by
 have h1:=od_ok hs hx
 have h2:=od_ok hs hy
 simp only[evV] at hb
 split at hb
 case isFalse=>cases hb
 rename_i hfit
 obtain ⟨f1,f2,f3,f4,f5⟩:=h2.fits hfit
 have fin:∀ (b g off:Nat) (x0 y0:HB) (vals:Array Value) (t':TypeId) (fz:Nat×Nat),a.eval x=.pointer (some ⟨g,off,none⟩)→h[b]? = some x0→x0.alive→E.rho b=some (some g)→w.heap[g]? = some (.cells vals t' fz)→Soft vals fz →
   off + esz e≤vals.size→(∀ (w':World) (vals':Array Value),Ext h.length E w E w'→w'.heap[g]? = some (.cells vals' t' fz)→vals'.size=vals.size→(∀ (j:Nat),vals'[j]? = if off≤j∧j<off + esz e then (a.eval y).cells[j - off]? else vals[j]?)→BOK E w' b y0) →
   v=.junk→h'=h.set b y0→Yields P o a E h.length w v h':=by
  rintro b g off x0 y0 vals t' fz hp hb0 hal hr hg hsoft hl hnew rfl rfl
  have hsz:(a.eval y).cells.toList.length=esz e:=by simpa using f1
  obtain ⟨w',vals',r1,r2,r3,r4⟩:=run_storeRow (P:=P) g t' fz (a.eval y).cells.toList off 0 vals w hg hsoft (by rw[hsz];omega) f4
  have hext:Ext h.length E w E w':=hok.ext_upd hb0 hal hr _ r2.os r2.tape r2.output (Nat.le_of_eq r2.size.symm) (fun k hk _=>r2.other k hk) (r2.frz hg) r2.drawn
  have hbok:=hnew w' vals' hext r2.here r3 (fun j=>by rw[r4 j,hsz];simp)
  have hok':=hok.set hb0 hal hr r2.os r2.tape r2.output (Nat.le_of_eq r2.size.symm) (fun k hk _=>r2.other k hk) (r2.frz hg) hbok r2.drawn
  refine ⟨undef,w',E,.skip,?_,.inr ⟨rfl,rfl⟩,hok',hext,.junk _⟩
  simp only[execOp,ho,hp,Instr.storeAt,Instr.sureAddr,Sem.run_bind,Sem.run_pure,Result.andThen_ok,storeVar,run_sizeOf_e he,f1,ne_eq,not_true_eq_false,if_false,r1]
 split at hb
 ·rename_i b off e1
  rw[e1] at h1
  obtain ⟨g,hg,hp⟩:=h1.ptr_inv
  split at hb
  ·rename_i cs hcs
   split at hb
   ·rename_i hl
    injection hb with hb;injection hb with e2 e3
    obtain ⟨g',vals,t',fz,k1,k2,k2',k3,k3',k4⟩:=hok.blocks b _ hcs
    rw[hg] at k1;injection k1 with k1;injection k1 with k1;subst k1
    refine fin b g off _ _ vals t' fz hp hcs trivial hg k2 k2' (by omega) (fun w' vals' hext hh hz hv=>?_) e2.symm e3.symm
    refine ⟨g,vals',t',fz,hg,hh,fun j hj=>k2' j (by omega),by rw[length_splice hfit hl];omega,fun c hc=>?_,fun i c u hc hu=>?_⟩
    ·obtain ⟨i,hi⟩:=List.getElem?_of_mem hc
     rw[getElem?_splice' hfit hl] at hi
     split at hi
     ·exact .inl (f5 c (List.mem_of_getElem? hi))
     ·exact k3' c (List.mem_of_getElem? hi)
    ·rw[getElem?_splice' hfit hl] at hc
     rw[hv i] at hu
     split at hc
     ·rename_i hi
      rw[if_pos hi] at hu
      exact (f3 _ c u hc hu).ext hext hok.dom
     ·rename_i hi
      rw[if_neg hi] at hu
      exact (k4 i c u hc hu).ext hext hok.dom
   ·cases hb
  ·cases hb
 ·rename_i b i off e1
  rw[e1] at h1
  obtain ⟨g,hg,hp⟩:=h1.eptr_inv
  split at hb
  ·rename_i e' xs hxs
   obtain ⟨ke,hbb⟩:=hok.blocks b _ hxs
   have elem:∀ (z z':AV),xs[i]? = some z→Shape e' z'→off + esz e≤esz e'→(∀ (j:Nat),z'.cells[j]? = if off≤j∧j<off + esz e then (y'.ev s).cells[j - off]? else z.cells[j]?)→(∀ cs,z'=.agg cs→∃ cs0,z=.agg cs0∧cs.length=cs0.length)→(e'=0→z'=y'.ev s) →
     v=.junk→h'=h.set b (.els e' (xs.set i z'))→Yields P o a E h.length w v h':=by
    intro z z' hz hsh' hle hcells hag he0 hv1 hh1
    rcases hbb with ⟨k0,rfl⟩ | ⟨g',vals,t',fz,k1,k2,k2',k3,k4,k5,k6,k7⟩
    ·simp at hz
    rw[hg] at k1;injection k1 with k1;injection k1 with k1;subst k1
    have hil:i<xs.length:=(List.getElem?_eq_some_iff.1 hz).1
    have hmul:(i + 1) * esz e'≤xs.length * esz e':=Nat.mul_le_mul_right _ hil
    rw[Nat.succ_mul] at hmul
    refine fin b g (i * esz (E.ke b) + off) _ _ vals t' fz hp hxs trivial hg k2 k2' (by rw[ke];omega) (fun w' vals' hext hh hz' hv=>?_) hv1 hh1
    rw[ke] at hv
    refine ⟨ke,.inr ⟨g,vals',t',fz,hg,hh,fun j hj=>k2' j (by omega),by omega,by simpa using k4,k5,by simp;omega,fun i' x' hx'=>?_⟩⟩
    rw[List.getElem?_set] at hx'
    by_cases hii:i=i'
    ·subst hii
     rw[if_pos rfl,if_pos hil] at hx'
     injection hx' with hx';subst hx'
     obtain ⟨s1,u,s2,s3,s4⟩:=k7 i z hz
     obtain ⟨c1,c2,c3⟩:=shape_cells s1 s2 s3
     by_cases h0:e'=0
     ·have hz':=he0 h0
      subst hz'
      subst h0
      simp only[esz_zero] at hle
      have hes:esz e=1:=by have:=esz_pos e;omega
      have hoff:off=0:=by omega
      subst hoff
      refine ⟨hsh',a.eval y,h2.ext hext hok.dom,by rw[f1,hes];rfl,fun j c hc=>?_⟩
      have hj:j=0:=by have:=(Array.getElem?_eq_some_iff.1 hc).1;omega
      subst hj
      rw[hv,if_pos (by simp;omega)]
      simpa using hc
     ·have hsz:esz e'=e':=by simp[esz,h0]
      unfold Shape at hsh'
      rw[if_neg h0] at hsh'
      obtain ⟨cs',rfl,hl',hok1⟩:=hsh'
      let us:Array Value:=((List.range (esz e')).map fun j=>vals'.getD (i * esz e' + j) undef).toArray
      have hus:us.size=esz e':=by simp[us]
      have husj:∀ (j:Nat) c,us[j]? = some c→j<esz e'∧vals'[i * esz e' + j]? = some c:=fun j c hc=>by
       have hj:j<esz e':=by have:=(Array.getElem?_eq_some_iff.1 hc).1;omega
       have hjl:i * esz e' + j<vals'.size:=by omega
       simp[us,hj,hjl] at hc
       exact ⟨hj,by simp[hjl,hc]⟩
      refine ⟨by unfold Shape;rw[if_neg h0];exact ⟨cs',rfl,hl',hok1⟩,.agg us,.agg cs' us (by rw[hus,hsz,hl']) fun j c x hc hx=>?_,hus,fun j c hc=>(husj j c hc).2⟩
      obtain ⟨hj,hx⟩:=husj j x hx
      have hcj:=hcells j
      simp only[AV.cells] at hcj
      rw[hc] at hcj
      rw[hv] at hx
      by_cases hin:off≤j∧j<off + esz e
      ·rw[if_pos hin] at hcj
       rw[if_pos (by omega),show i * esz e' + j - (i * esz e' + off)=j - off by omega] at hx
       exact (f3 _ c x hcj.symm hx).ext hext hok.dom
      ·rw[if_neg hin] at hcj
       rw[if_neg (by omega)] at hx
       have hjl:j<u.cells.size:=by omega
       have h4:=s4 j u.cells[j] (Array.getElem?_eq_getElem hjl)
       rw[hx] at h4;injection h4 with h4
       exact (c3 j c x hcj.symm (by rw[Array.getElem?_eq_getElem hjl,h4])).ext hext hok.dom
    ·rw[if_neg hii] at hx'
     obtain ⟨s1,u,s2,s3,s4⟩:=k7 i' x' hx'
     refine ⟨s1,u,s2.ext hext hok.dom,s3,fun j c hc=>?_⟩
     have hj:j<esz e':=by have:=(Array.getElem?_eq_some_iff.1 hc).1;omega
     rw[hv,if_neg (fun hin=>?_)]
     ·exact s4 j c hc
     ·rcases Nat.lt_or_gt_of_ne hii with hlt | hgt
      ·have:=Nat.mul_le_mul_right (esz e') hlt
       rw[Nat.succ_mul] at this
       omega
      ·have:=Nat.mul_le_mul_right (esz e') hgt
       rw[Nat.succ_mul] at this
       omega
   have shape_of:∀ z,xs[i]? = some z→Shape e' z:=fun z hz=>by
    rcases hbb with ⟨_,rfl⟩ | ⟨_,_,_,_,_,_,_,_,_,_,_,k7⟩
    ·simp at hz
    ·exact (k7 i z hz).1
   split at hb
   ·rename_i cs hz
    split at hb
    ·rename_i hl
     injection hb with hb;injection hb with e2 e3
     have hsh:=shape_of _ hz
     have h0:e'≠0:=by
      intro h0
      unfold Shape at hsh
      rw[if_pos h0] at hsh
      rcases hsh with hsh | hsh
      ·simp[AV.one] at hsh
      ·cases hsh
     unfold Shape at hsh
     rw[if_neg h0] at hsh
     obtain ⟨cs0,hcs0,hl0,hok1⟩:=hsh
     injection hcs0 with hcs0;subst hcs0
     have hsz:esz e'=e':=by simp[esz,h0]
     refine elem (.agg cs) (.agg (splice cs off (y'.ev s))) hz ?_ (by omega) (fun j=>?_) (fun cs' hc=>?_) (fun h=>absurd h h0) e2.symm e3.symm
     ·unfold Shape
      rw[if_neg h0]
      refine ⟨_,rfl,by rw[length_splice hfit hl,hl0],fun c hc=>?_⟩
      obtain ⟨j,hj⟩:=List.getElem?_of_mem hc
      rw[getElem?_splice' hfit hl] at hj
      split at hj
      ·exact .inl (f5 c (List.mem_of_getElem? hj))
      ·exact hok1 c (List.mem_of_getElem? hj)
     ·simp only[AV.cells]
      exact getElem?_splice' hfit hl j
     ·injection hc with hc
      exact ⟨cs,rfl,by rw[← hc,length_splice hfit hl]⟩
    ·cases hb
   ·rename_i z hnag hz
    split at hb
    ·rename_i hcond
     obtain ⟨rfl,rfl⟩:=hcond
     injection hb with hb;injection hb with e2 e3
     have hsh:=shape_of _ hz
     have h0:e'=0:=by
      by_cases h0:e'=0
      ·exact h0
      ·unfold Shape at hsh
       rw[if_neg h0] at hsh
       obtain ⟨cs,rfl,_⟩:=hsh
       exact absurd rfl (hnag cs)
     subst h0
     have hone:=fits_zero hfit
     refine elem z (y'.ev s) hz (by unfold Shape;rw[if_pos rfl];exact .inl hone.1) (by simp) (fun j=>?_) (fun cs hc=>absurd hc (hone.2 cs)) (fun _=>rfl) e2.symm e3.symm
     have hvc:=cells_one hone.2
     have hzc:=cells_one hnag
     rw[hvc,hzc]
     by_cases hj:j=0
     ·subst hj;simp
     ·rw[if_neg (by simp;omega)]
      cases j with
      | zero=>exact absurd rfl hj
      | succ j=>simp
    ·cases hb
   ·cases hb
  ·cases hb
 ·cases hb
end
end Go.Ab
namespace Go.Ab
open Go Go.RowKit
variable {P:Program}
section
variable {E:Env}{w:World}{h:Hp}{s:Nat→AV}{a:Act}{o:Oper}
def Match(E:Env)(w:World)(cs:List AV)(us:Array Value):Prop:=us.size=cs.length∧∀ (i:Nat) c u,cs[i]? = some c→us[i]? = some u→RV E w c u
theorem match_cells{v:AV}{u:Value}(hr:RV E w v u)(ho:onesB v.cells=true):Match E w v.cells u.cells:=by
 by_cases ha:∃ cs,v=.agg cs
 ·obtain ⟨cs,rfl⟩:=ha
  obtain ⟨us,rfl,h1,h2⟩:=hr.agg_inv
  exact ⟨h1,h2⟩
 ·have hc:v.cells=[v]:=cells_one fun cs e=>ha ⟨cs,e⟩
  rw[hc] at ho ⊢
  have h1:=(hr.one (by simpa[onesB] using ho)).2
  refine ⟨by simp[h1],fun i c x hc hx=>?_⟩
  rw[h1] at hx
  cases i with
  | zero=>simp at hc hx;subst hc;subst hx;exact hr
  | succ i=>simp at hc
theorem push_cel(hok:HOK E h w){cs:List AV}{us:Array Value}{t:TypeId}(hm:Match E w cs us)(h1:∀ c ∈ cs,Ok1 c) :
  HOK (E.push h.length (some w.heap.size) 0 0) (h++[.cel cs]) (w.alloc (.cells us t))∧Ext h.length E w (E.push h.length (some w.heap.size) 0 0) (w.alloc (.cells us t)):=by
 have m:=More.alloc w us t
 have he:=hok.ext_more m (some w.heap.size) 0 0
 refine ⟨hok.push m _ _ _ _ ⟨w.heap.size,us,t,(0,0),by simp,heap_alloc_new w _,fun o _=>by simp,by rw[hm.1];exact Nat.le_refl _,h1,fun i c u hc hu=>(hm.2 i c u hc hu).ext he hok.dom⟩ (fun g hg=>by injection hg with hg;subst hg;simp),he⟩
theorem ok_box(hok:HOK E h w)(hs:SOK E w s a){t t1:TypeId}{x:Operand}{x':Od}(ho:o.op=.box t x)(hx:od P t1 x=some x'){v:AV}{h':Hp}(hb:evV s h (.box x')=some (v,h')) :
  Yields P o a E h.length w v h':=by
 have h1:=od_ok hs hx
 simp only[evV] at hb
 split at hb
 ·rename_i hone
  injection hb with hb;injection hb with e1 e2;subst e1;subst e2
  obtain ⟨k1,k2⟩:=push_cel hok (t:=t) (match_cells h1 hone) (fun c hc=>.inl (List.all_eq_true.1 hone c hc))
  refine ⟨_,_,_,_,?_,.inl rfl,k1,k2,.ptr h.length 0 w.heap.size (by simp)⟩
  simp[execOp,ho,Instr.box,newVar,newRow]
 ·cases hb
theorem ok_alloc(hok:HOK E h w){t:TypeId}{z:List (Nat×AV)}(ho:o.op=.alloc t)(hz:zero? P t=some z){v:AV}{h':Hp}(hb:evV s h (.alloc z)=some (v,h')) :
  Yields P o a E h.length w v h':=by
 simp only[evV,Option.some.injEq,Prod.mk.injEq] at hb
 obtain ⟨rfl,rfl⟩:=hb
 obtain ⟨i,zv,hi,hzv,hl,hr⟩:=zero?_ok hz
 have hone:∀ c ∈ expand z,Ok1 c:=by
  intro c hc
  obtain ⟨j,hj⟩:=List.getElem?_of_mem hc
  have hjl:j<zv.cells.size:=by have:=(List.getElem?_eq_some_iff.1 hj).1;omega
  have:=hr E.S w j c _ hj (Array.getElem?_eq_getElem hjl)
  unfold zero? at hz
  split at hz
  ·split at hz
   ·injection hz with hz;subst hz
    rename_i z' v' _ hv' hrel
    rw[hi] at hv'
    simp only[Option.bind_some,hzv,Option.some.injEq] at hv'
    subst hv'
    exact .inl (relCs_one hrel c hc)
   ·cases hz
  ·cases hz
 obtain ⟨k1,k2⟩:=push_cel hok (t:=t) (cs:=expand z) (us:=zv.cells) ⟨hl,fun i c u hc hu=>.imm (hr E.S w i c u hc hu)⟩ hone
 refine ⟨_,_,_,_,?_,.inl rfl,k1,k2,.ptr h.length 0 w.heap.size (by simp)⟩
 simp[execOp,ho,Instr.alloc,zeroValue,typeInfo,hi,hzv,newVar,newRow]
theorem ok_nilchk(hok:HOK E h w)(hs:SOK E w s a){t1:TypeId}{x:Operand}{x':Od}(ho:o.op=.nilCheck x)(hx:od P t1 x=some x'){v:AV}{h':Hp}(hb:evV s h (.nilchk x')=some (v,h')) :
  Yields P o a E h.length w v h':=by
 have h1:=od_ok hs hx
 simp only[evV] at hb
 have fin:∀ u,a.eval x=u→(execOp a.eval o).run P w=.ok (.value u) w→x'.ev s=v→h=h'→Yields P o a E h.length w v h':=by
  rintro u hu hrun rfl rfl
  exact .still hok hrun (hu ▸ h1)
 generalize hu:a.eval x=u at h1
 generalize hv:x'.ev s=x0 at h1 hb fin
 have hrun:(∀ p,u≠.pointer none∧u≠.nilIface∧u≠.nilFunc∧∀ n f c,p=n→u≠.func (.method n) f c)→(execOp a.eval o).run P w=.ok (.value u) w:=by
  intro hne
  simp only[execOp,ho,hu]
  have := hne ""
  cases u with
  | pointer p=>cases p with
   | none=>exact absurd rfl this.1
   | some p=>rfl
  | nilIface=>exact absurd rfl this.2.1
  | nilFunc=>exact absurd rfl this.2.2.1
  | func fn f c=>cases fn with
   | method n=>exact absurd rfl ((hne n).2.2.2 n f c rfl)
   | _=>rfl
  | _=>rfl
 cases x0<;>simp only[Option.some.injEq,Prod.mk.injEq,reduceCtorEq] at hb<;>obtain ⟨e1,e2⟩:=hb
 case bool b=>exact fin u hu (hrun fun _=>by rw[h1.bool_inv];simp) e1 e2
 case int k n=>exact fin u hu (hrun fun _=>by rw[h1.int_inv];simp) e1 e2
 case str t=>exact fin u hu (hrun fun _=>by rw[h1.str_inv];simp) e1 e2
 case nilmp=>exact fin u hu (hrun fun _=>by rw[h1.nilmp_inv];simp) e1 e2
 case ptr b off=>obtain ⟨g,_,hp⟩:=h1.ptr_inv;exact fin u hu (hrun fun _=>by rw[hp];simp) e1 e2
 case eptr b i off=>obtain ⟨g,_,hp⟩:=h1.eptr_inv;exact fin u hu (hrun fun _=>by rw[hp];simp) e1 e2
 case pro cs=>cases h1.pro_inv with | pro _ g off f hc hr=>exact fin _ hu (hrun fun _=>by simp) e1 e2
 case sl e f xs=>cases h1.sl_inv;exact fin _ hu (hrun fun _=>by simp) e1 e2
 case row e b off len=>obtain ⟨_,⟨_,_,_,A,hp⟩ | ⟨g,cap,A,_,hp,_⟩⟩:=h1.row_inv<;>exact fin u hu (hrun fun _=>by rw[hp];simp) e1 e2
 case crow e b off len cap=>obtain ⟨_,⟨_,_,_,_,A,hp⟩ | ⟨g,A,_,hp,_⟩⟩:=h1.crow_inv<;>exact fin u hu (hrun fun _=>by rw[hp];simp) e1 e2
 case arow e b off len=>obtain ⟨g,cap,A,_,hp,_⟩:=h1.arow_inv;exact fin u hu (hrun fun _=>by rw[hp];simp) e1 e2
 case bnd f cs=>obtain ⟨us,hp,_⟩:=h1.bnd_inv;exact fin u hu (hrun fun _=>by rw[hp];simp) e1 e2
 case fn f cs=>obtain ⟨us,hp,_⟩:=h1.fn_inv;exact fin u hu (hrun fun _=>by rw[hp];simp) e1 e2
 case agg cs=>obtain ⟨us,hp,_⟩:=h1.agg_inv;exact fin u hu (hrun fun _=>by rw[hp];simp) e1 e2
 case tup cs=>obtain ⟨us,hp,_⟩:=h1.tup_inv;exact fin u hu (hrun fun _=>by rw[hp];simp) e1 e2
 case mref b=>obtain ⟨g,_,hp⟩:=h1.mref_inv;exact fin u hu (hrun fun _=>by rw[hp];simp) e1 e2
 case mp ks vs=>cases h1.mp_inv<;>exact fin _ hu (hrun fun _=>by simp) e1 e2
theorem ok_cint(hok:HOK E h w)(hs:SOK E w s a){t1 src dst:TypeId}{k k0:IntKind}{x:Operand}{x':Od}(ho:o.op=.convert src dst x)(hsrc:P.underlying src=some (.int k0))(hdst:P.underlying dst=some (.int k))
  (hx:od P t1 x=some x') {v:AV}{h':Hp}(hb:evV s h (.cint k x')=some (v,h')):Yields P o a E h.length w v h':=by
 have h1:=od_ok hs hx
 simp only[evV] at hb
 split at hb
 ·rename_i k1 n e
  rw[e] at h1
  injection hb with hb;injection hb with e1 e2;subst e1;subst e2
  exact .still hok (by simp[execOp,ho,h1.int_inv,convert,run_underlying hsrc,run_underlying hdst,Conv.intToInt]) (.imm (.int _ _))
 ·cases hb
theorem ok_idconv(hok:HOK E h w)(hs:SOK E w s a){t1 src dst:TypeId}{x:Operand}{x':Od}(ho:o.op=.convert src dst x)(hsrc:P.underlying src=some .string)(hdst:P.underlying dst=some .string)
  (hx:od P t1 x=some x') {t:List UInt8}(hb:x'.ev s=.str t):Yields P o a E h.length w (x'.ev s) h:=by
 have h1:=od_ok hs hx
 have h2:=h1
 rw[hb] at h2
 exact .still hok (u:=a.eval x) (by simp[execOp,ho,h2.str_inv,convert,run_underlying hsrc,run_underlying hdst]) h1
theorem ods_ok{E:Env}{w:World}{s:Nat→AV}{a:Act}(hs:SOK E w s a):∀ {ts:List TypeId}{xs:List Operand}{ys:List Od},ods P ts xs=some ys→ys.length=xs.length∧∀ (i:Nat) x y,xs[i]? = some x→ys[i]? = some y→RV E w (y.ev s) (a.eval x)
 | [],[],ys,h=>by simp[ods] at h;subst h;exact ⟨rfl,fun i x y h=>by simp at h⟩
 | t::ts,x::xs,ys,h=>by
  simp only[ods] at h
  split at h
  ·rename_i y ys' hy hys
   injection h with h;subst h
   obtain ⟨h1,h2⟩:=ods_ok hs hys
   refine ⟨by simp[h1],fun i x' y' hx' hy'=>?_⟩
   cases i with
   | zero=>simp at hx' hy';subst hx';subst hy';exact od_ok hs hy
   | succ i=>exact h2 i x' y' (by simpa using hx') (by simpa using hy')
  ·cases h
 | [],_::_,_,h=>by simp[ods] at h
 | _::_,[],_,h=>by simp[ods] at h
theorem omap_od_ok{t:TypeId}(hs:SOK E w s a){xs:List Operand}{ys:List Od}(h:omap (od P t) xs=some ys):ys.length=xs.length∧∀ (i:Nat) x y,xs[i]? = some x→ys[i]? = some y→RV E w (y.ev s) (a.eval x):=by
 obtain ⟨h1,h2⟩:=omap_some h
 refine ⟨h1,fun i x y hx hy=>?_⟩
 obtain ⟨y',hy',he⟩:=h2 i x hx
 rw[hy'] at hy;injection hy with hy;subst hy
 exact od_ok hs he
theorem ok_mkfn(hok:HOK E h w)(hs:SOK E w s a){f:FuncId}{first caps:Array Operand}{t1:TypeId}{ys:List Od}(ho:o.op=.makeFunc (.func f) first caps)(hf:first.size=0)(hx:omap (od P t1) caps.toList=some ys) :
  Yields P o a E h.length w (.fn f (ys.map (Od.ev s))) h:=by
 obtain ⟨h1,h2⟩:=omap_od_ok hs hx
 have hfe:first = #[]:=Array.eq_empty_of_size_eq_zero hf
 refine .still hok (u:=.func (.func f) #[] (caps.map a.eval)) (by simp[execOp,ho,Instr.makeFunc,hfe]) ?_
 refine .fn f _ _ (by simp[h1]) fun i c u hc hu=>?_
 rw[List.getElem?_map] at hc
 rw[Array.getElem?_map] at hu
 cases hy:ys[i]? with
 | none=>rw[hy] at hc;cases hc
 | some y =>
  rw[hy] at hc
  cases hx':caps[i]? with
  | none=>rw[hx'] at hu;cases hu
  | some x =>
   rw[hx'] at hu
   simp at hc hu
   subst hc;subst hu
   exact h2 i x y (by simpa using hx') hy
theorem ok_mkbnd(hok:HOK E h w)(hs:SOK E w s a){f:FuncId}{first caps:Array Operand}{t1:TypeId}{ys:List Od}(ho:o.op=.makeFunc (.func f) first caps)(hf:caps.size=0)(hx:omap (od P t1) first.toList=some ys) :
  Yields P o a E h.length w (.bnd f (ys.map (Od.ev s))) h:=by
 obtain ⟨h1,h2⟩:=omap_od_ok hs hx
 have hfe:caps = #[]:=Array.eq_empty_of_size_eq_zero hf
 refine .still hok (u:=.func (.func f) (first.map a.eval) #[]) (by simp[execOp,ho,Instr.makeFunc,hfe]) ?_
 refine .bnd f _ _ (by simp[h1]) fun i c u hc hu=>?_
 rw[List.getElem?_map] at hc
 rw[Array.getElem?_map] at hu
 cases hy:ys[i]? with
 | none=>rw[hy] at hc;cases hc
 | some y =>
  rw[hy] at hc
  cases hx':first[i]? with
  | none=>rw[hx'] at hu;cases hu
  | some x =>
   rw[hx'] at hu
   simp at hc hu
   subst hc;subst hu
   exact h2 i x y (by simpa using hx') hy
theorem ok_faddr(hok:HOK E h w)(hs:SOK E w s a){t t1:TypeId}{x:Operand}{x':Od}{f:Nat}{fs:Array Field}{fd:Field}(ho:o.op=.fieldAddr t x f)(ht:P.underlying t=some (.struct fs))(hf:fs[f]? = some fd)(hz:P.cellsOf fd.type≠0)
  (hx:od P t1 x=some x') {v:AV}{h':Hp}(hb:evV s h (.faddr fd.offset x')=some (v,h')):Yields P o a E h.length w v h':=by
 have h1:=od_ok hs hx
 simp only[evV] at hb
 have hinfo:∃ i,P.info? fd.type=some i∧i.size≠0:=by
  unfold Program.cellsOf at hz
  cases hi:P.info? fd.type with
  | none=>rw[hi] at hz;simp at hz
  | some i=>exact ⟨i,rfl,by simpa[hi] using hz⟩
 obtain ⟨i,hi,hi0⟩:=hinfo
 have run:∀ g off,a.eval x=.pointer (some ⟨g,off,none⟩)→(execOp a.eval o).run P w=.ok (.value (.pointer (some ⟨g,off + fd.offset,none⟩))) w:=by
  intro g off hp
  simp[execOp,ho,hp,Instr.fieldAt,run_underlying ht,hf,Instr.sureAddr,fieldPlace,sizeOf,typeInfo,hi,hi0,add_addr]
 split at hb
 ·rename_i b off e
  rw[e] at h1
  obtain ⟨g,hg,hp⟩:=h1.ptr_inv
  injection hb with hb;injection hb with e1 e2;subst e1;subst e2
  exact .still hok (run _ _ hp) (.ptr _ _ g hg)
 ·rename_i b j off e
  rw[e] at h1
  obtain ⟨g,hg,hp⟩:=h1.eptr_inv
  injection hb with hb;injection hb with e1 e2;subst e1;subst e2
  refine .still hok (run _ _ hp) ?_
  rw[Nat.add_assoc]
  exact .eptr _ _ _ g hg
 ·rename_i cs e
  rw[e] at h1
  injection hb with hb;injection hb with e1 e2;subst e1;subst e2
  generalize hu:a.eval x=u at h1
  cases h1.pro_inv with
  | pro _ g off u hc hr =>
   refine .still hok (run _ _ hu) (.imm (.pro _ g (off + fd.offset) (fun j=>u (fd.offset + j)) (fun j c hj=>?_) fun j c hj=>?_))
   ·rw[List.getElem?_drop] at hj
    rw[Nat.add_assoc]
    exact hc _ c hj
   ·rw[List.getElem?_drop] at hj
    exact hr _ c hj
 ·cases hb
theorem run_part_e{t:TypeId}{e:Nat}(he:ecode P t=some e){us:Array Value}{cs:List AV}{off:Nat}{v:AV}(hm:Match E w cs us)(hp:pick? e off cs=some v):∃ u,(part t us off).run P w=.ok u w∧RV E w v u:=by
 unfold pick? at hp
 by_cases h0:e=0
 ·rw[if_pos h0] at hp
  subst h0
  have hl:off<us.size:=by have:=(List.getElem?_eq_some_iff.1 hp).1;have:=hm.1;omega
  refine ⟨us[off],?_,hm.2 off v _ hp (Array.getElem?_eq_getElem hl)⟩
  simp[part,run_isAgg_e he,hl]
 ·rw[if_neg h0] at hp
  have hz:esz e=e:=by simp[esz,h0]
  split at hp
  ·rename_i hl
   injection hp with hp;subst hp
   have hus:=hm.1
   refine ⟨.agg (us.extract off (off + e)),by simp[part,run_isAgg_e he,h0,run_sizeOf_e he,hz],.agg _ _ (by simp;omega) fun i c u hc hu=>?_⟩
   rw[List.getElem?_take] at hc
   split at hc
   ·rw[List.getElem?_drop] at hc
    refine hm.2 (off + i) c u hc ?_
    rw[Array.getElem?_extract] at hu
    split at hu
    ·exact hu
    ·cases hu
   ·cases hc
  ·cases hp
theorem ok_fld(hok:HOK E h w)(hs:SOK E w s a){t t1:TypeId}{x:Operand}{x':Od}{f e:Nat}{fs:Array Field}{fd:Field}(ho:o.op=.field t x f)(ht:P.underlying t=some (.struct fs))(hf:fs[f]? = some fd)(he:ecode P fd.type=some e)
  (hx:od P t1 x=some x') {v:AV}{h':Hp}(hb:evV s h (.fld fd.offset e x')=some (v,h')):Yields P o a E h.length w v h':=by
 have h1:=od_ok hs hx
 simp only[evV] at hb
 split at hb
 ·rename_i cs ec
  rw[ec] at h1
  simp only[Option.map_eq_some_iff] at hb
  obtain ⟨v',hv,hb⟩:=hb
  injection hb with e1 e2;subst e1;subst e2
  obtain ⟨us,hu,k1,k2⟩:=h1.agg_inv
  obtain ⟨u,r1,r2⟩:=run_part_e he ⟨k1,k2⟩ hv
  exact .still hok (by simp[execOp,ho,hu,Instr.field,run_underlying ht,hf,asAgg,r1]) r2
 ·cases hb
theorem ok_ext(hok:HOK E h w)(hs:SOK E w s a){t1:TypeId}{x:Operand}{x':Od}{i:Nat}(ho:o.op=.extract x i)(hx:od P t1 x=some x'){v:AV}{h':Hp}(hb:evV s h (.ext x' i)=some (v,h')):Yields P o a E h.length w v h':=by
 have h1:=od_ok hs hx
 simp only[evV] at hb
 split at hb
 ·rename_i cs ec
  rw[ec] at h1
  simp only[Option.map_eq_some_iff] at hb
  obtain ⟨v',hv,hb⟩:=hb
  injection hb with e1 e2;subst e1;subst e2
  obtain ⟨us,hu,k1,k2⟩:=h1.tup_inv
  have hl:i<us.size:=by have:=(List.getElem?_eq_some_iff.1 hv).1;omega
  exact .still hok (u:=us[i]) (by simp[execOp,ho,hu,Instr.extract,hl]) (k2 i v' _ hv (Array.getElem?_eq_getElem hl))
 ·cases hb
theorem ok_iaddr(hok:HOK E h w)(hs:SOK E w s a){t t1 t2 el:TypeId}{x i:Operand}{x' i':Od}{e:Nat}(ho:o.op=.indexAddr t x i)(ht:P.underlying t=some (.slice el))(he:ecode P el=some e)
  (hx:od P t1 x=some x') (hi:od P t2 i=some i') {v:AV}{h':Hp}(hb:evV s h (.iaddr e x' i')=some (v,h')):Yields P o a E h.length w v h':=by
 have h1:=od_ok hs hx
 have h2:=od_ok hs hi
 simp only[evV] at hb
 split at hb
 case h_2=>cases hb
 rename_i k n en
 rw[en] at h2
 have hn:=h2.int_inv
 split at hb
 case isFalse=>cases hb
 rename_i hn0
 have run:∀ g off len cap,a.eval x=.slice (some ⟨g,off,none⟩) len cap→n.toNat<len→(execOp a.eval o).run P w=.ok (.value (.pointer (some ⟨g,off + n.toNat * esz e,none⟩))) w:=by
  intro g off len cap hp hlt
  have hlt':n<(len:Int):=by omega
  simp[execOp,ho,hp,hn,Instr.indexAt,asIntOf,run_underlying ht,hn0,hlt',run_sizeOf_e he,add_addr]
 split at hb
 ·rename_i e' f xs ex
  rw[ex] at h1
  split at hb
  ·rename_i hee
   subst hee
   simp only[Option.map_eq_some_iff] at hb
   obtain ⟨z,hz,hb⟩:=hb
   injection hb with e1 e2;subst e1;subst e2
   have hlt:=(List.getElem?_eq_some_iff.1 hz).1
   generalize hu:a.eval x=u at h1
   cases h1.sl_inv with
   | sl _ _ _ A cap g off uf hl hm hf hA hfit hc hr =>
    rcases hA with hA | hA
    ·subst hA;simp at hlt
    subst hA
    have hzf:=hfit _ z hz
    have hzr:RV E w z (uf n.toNat):=.imm (hr _ z hz)
    obtain ⟨f1,f2,f3,f4,f5⟩:=hzr.fits hzf
    refine .still hok (run g off _ _ hu hlt) (.imm (.pro _ g (off + n.toNat * esz e') (fun j=>(uf n.toNat).cells.getD j undef) (fun j c hj=>?_) fun j c hj=>?_))
    ·have hjl:j<(uf n.toNat).cells.size:=by have:=(List.getElem?_eq_some_iff.1 hj).1;omega
     have:=hc _ z hz j _ (Array.getElem?_eq_getElem hjl)
     rw[← Nat.add_assoc] at this
     exact ⟨this.1,by rw[this.2];simp[hjl]⟩
    ·have hjl:j<(uf n.toNat).cells.size:=by have:=(List.getElem?_eq_some_iff.1 hj).1;omega
     have hz2:=hr _ z hz
     have e3:(uf n.toNat).cells.getD j undef=(uf n.toNat).cells[j]:=by simp[hjl]
     rw[e3]
     exact RI_cells hz2 hzf j c _ hj (Array.getElem?_eq_getElem hjl)
  ·cases hb
 ·rename_i e' b off len ex
  rw[ex] at h1
  split at hb
  ·rename_i hcond
   obtain ⟨rfl,hlt⟩:=hcond
   injection hb with hb;injection hb with e1 e2;subst e1;subst e2
   obtain ⟨hke,⟨_,_,rfl,_⟩ | ⟨g,cap,A,hg,hp,hA,hl,hc,hm⟩⟩:=h1.row_inv
   ·omega
   ·rcases hA with hA | ⟨_,h0⟩
    ·subst hA
     refine .still hok (run g _ _ _ hp hlt) ?_
     have:=RV.eptr (E:=E) (w:=w) b (off + n.toNat) 0 g hg
     rw[hke,Nat.add_zero,Nat.add_mul] at this
     exact this
    ·omega
  ·cases hb
 ·rename_i e' b off len ex
  rw[ex] at h1
  split at hb
  ·rename_i hcond
   obtain ⟨rfl,hlt⟩:=hcond
   injection hb with hb;injection hb with e1 e2;subst e1;subst e2
   obtain ⟨g,cap,A,hg,hp,hA,hl,hm⟩:=h1.arow_inv
   rcases hA with hA | h0
   ·subst hA
    exact .still hok (run g _ _ _ hp hlt) (.ptr _ _ g hg)
   ·omega
  ·cases hb
 ·cases hb
theorem ok_aiaddr(hok:HOK E h w)(hs:SOK E w s a){t t1 t2 el:TypeId}{x i:Operand}{x' i':Od}{e len:Nat}(ho:o.op=.indexAddr t x i)(ht:P.underlying t=some (.array len el))(he:ecode P el=some e)
  (hx:od P t1 x=some x') (hi:od P t2 i=some i') {v:AV}{h':Hp}(hb:evV s h (.aiaddr e len x' i')=some (v,h')):Yields P o a E h.length w v h':=by
 have h1:=od_ok hs hx
 have h2:=od_ok hs hi
 simp only[evV] at hb
 split at hb
 case h_2=>cases hb
 rename_i k n en
 rw[en] at h2
 have hn:=h2.int_inv
 split at hb
 case isFalse=>cases hb
 rename_i hcond
 obtain ⟨hn0,hlt⟩:=hcond
 have run:∀ g off,a.eval x=.pointer (some ⟨g,off,none⟩)→(execOp a.eval o).run P w=.ok (.value (.pointer (some ⟨g,off + n.toNat * esz e,none⟩))) w:=by
  intro g off hp
  have hlt':n<(len:Int):=by omega
  simp[execOp,ho,hp,hn,Instr.indexAt,asIntOf,run_underlying ht,hn0,hlt',run_sizeOf_e he,add_addr,Instr.sureAddr]
 split at hb
 ·rename_i b off ex
  rw[ex] at h1
  obtain ⟨g,hg,hp⟩:=h1.ptr_inv
  injection hb with hb;injection hb with e1 e2;subst e1;subst e2
  exact .still hok (run _ _ hp) (.ptr _ _ g hg)
 ·rename_i b j off ex
  rw[ex] at h1
  obtain ⟨g,hg,hp⟩:=h1.eptr_inv
  injection hb with hb;injection hb with e1 e2;subst e1;subst e2
  refine .still hok (run _ _ hp) ?_
  rw[Nat.add_assoc]
  exact .eptr _ _ _ g hg
 ·rename_i cs ex
  rw[ex] at h1
  injection hb with hb;injection hb with e1 e2;subst e1;subst e2
  generalize hu:a.eval x=u at h1
  cases h1.pro_inv with
  | pro _ g off u hc hr =>
   refine .still hok (run _ _ hu) (.imm (.pro _ g (off + n.toNat * esz e) (fun j=>u (n.toNat * esz e + j)) (fun j c hj=>?_) fun j c hj=>?_))
   ·rw[List.getElem?_drop] at hj
    rw[Nat.add_assoc]
    exact hc _ c hj
   ·rw[List.getElem?_drop] at hj
    exact hr _ c hj
 ·cases hb
theorem ok_idx(hok:HOK E h w)(hs:SOK E w s a){t t1 t2 el:TypeId}{x i:Operand}{x' i':Od}{e len:Nat}(ho:o.op=.index t x i)(ht:P.underlying t=some (.array len el))(he:ecode P el=some e)
  (hx:od P t1 x=some x') (hi:od P t2 i=some i') {v:AV}{h':Hp}(hb:evV s h (.idx e len x' i')=some (v,h')):Yields P o a E h.length w v h':=by
 have h1:=od_ok hs hx
 have h2:=od_ok hs hi
 simp only[evV] at hb
 split at hb
 ·rename_i k n cs en ex
  rw[en] at h2
  rw[ex] at h1
  have hn:=h2.int_inv
  split at hb
  ·rename_i hcond
   obtain ⟨hn0,hlt⟩:=hcond
   simp only[Option.map_eq_some_iff] at hb
   obtain ⟨v',hv,hb⟩:=hb
   injection hb with e1 e2;subst e1;subst e2
   obtain ⟨us,hu,k1,k2⟩:=h1.agg_inv
   obtain ⟨u,r1,r2⟩:=run_part_e he ⟨k1,k2⟩ hv
   have hlt':n<(len:Int):=by omega
   exact .still hok (by simp[execOp,ho,hu,hn,Instr.index,asIntOf,run_underlying ht,hn0,hlt',run_sizeOf_e he,r1]) r2
  ·cases hb
 ·cases hb
theorem ok_sidx(hok:HOK E h w)(hs:SOK E w s a){t t1 t2:TypeId}{x i:Operand}{x' i':Od}(ho:o.op=.index t x i)(ht:P.underlying t=some .string)
  (hx:od P t1 x=some x') (hi:od P t2 i=some i') {v:AV}{h':Hp}(hb:evV s h (.sidx x' i')=some (v,h')):Yields P o a E h.length w v h':=by
 have h1:=od_ok hs hx
 have h2:=od_ok hs hi
 simp only[evV] at hb
 split at hb
 ·rename_i k n l en ex
  rw[en] at h2
  rw[ex] at h1
  have hn:=h2.int_inv
  have hx':=h1.str_inv
  split at hb
  ·rename_i hn0
   simp only[Option.map_eq_some_iff] at hb
   obtain ⟨b,hv,hb⟩:=hb
   injection hb with e1 e2;subst e1;subst e2
   have hl:=(List.getElem?_eq_some_iff.1 hv).1
   have hget:(⟨l.toArray⟩:ByteArray)[n.toNat]? = some b:=by
    show (if hh:n.toNat<(⟨l.toArray⟩:ByteArray).size then some ((⟨l.toArray⟩:ByteArray)[n.toNat]'hh) else none)=some b
    rw[dif_pos (by rw[size_mk];exact hl)]
    rw[← hv,List.getElem?_eq_getElem hl]
    rfl
   exact .still hok (by simp[execOp,ho,hx',hn,Instr.index,asIntOf,run_underlying ht,hn0,hget]) (.imm (.int _ _))
  ·cases hb
 ·cases hb
end
end Go.Ab
namespace Go.Ab
open Go Go.RowKit
variable {P:Program}
section
variable {E:Env}{w:World}{h:Hp}{s:Nat→AV}{a:Act}{o:Oper}
theorem run_bounds(hs:SOK E w s a){t1 t2:TypeId}{lo hi:Option Operand}{lo' hi':Option Od}(hlo:odO P t1 lo=some lo')(hhi:odO P t2 hi=some hi'){n cap l m:Nat}(hn:n≤cap)(b:Bool)
  (hb:bounds s n lo' hi'=some (l,m)):(Instr.sliceBounds b n cap (lo.map a.eval) (hi.map a.eval) none).run P w=.ok (l,m,cap) w∧l≤m∧m≤n:=by
 unfold bounds at hb
 split at hb
 case h_2=>cases hb
 rename_i k1 x k2 y e1 e2
 split at hb
 case isFalse=>cases hb
 rename_i hc
 obtain ⟨h0,h1,h2⟩:=hc
 injection hb with hb;injection hb with e3 e4;subst e3;subst e4
 have ey:(y.toNat:Int)=y:=Int.toNat_of_nonneg (by omega)
 refine ⟨?_,by omega,by omega⟩
 cases lo with
 | none =>
  simp only[odO,Option.some.injEq] at hlo
  subst hlo
  injection e1 with _ e1;subst e1
  cases hi with
  | none =>
   simp only[odO,Option.some.injEq] at hhi
   subst hhi
   injection e2 with _ e2;subst e2
   simp[Instr.sliceBounds]
  | some hi =>
   simp only[odO,Option.map_eq_some_iff] at hhi
   obtain ⟨hi',hh,rfl⟩:=hhi
   have:=od_ok hs hh
   simp only at e2
   rw[e2] at this
   simp[Instr.sliceBounds,this.int_inv,run_sliceBound w k2 y cap _ (by omega) (by omega)]
 | some lo =>
  simp only[odO,Option.map_eq_some_iff] at hlo
  obtain ⟨lo',hl,rfl⟩:=hlo
  have h3:=od_ok hs hl
  simp only at e1
  rw[e1] at h3
  cases hi with
  | none =>
   simp only[odO,Option.some.injEq] at hhi
   subst hhi
   injection e2 with _ e2;subst e2
   simp[Instr.sliceBounds,h3.int_inv,run_sliceBound w k1 x n _ (by omega) (by omega)]
  | some hi =>
   simp only[odO,Option.map_eq_some_iff] at hhi
   obtain ⟨hi',hh,rfl⟩:=hhi
   have h4:=od_ok hs hh
   simp only at e2
   rw[e2] at h4
   simp[Instr.sliceBounds,h3.int_inv,h4.int_inv,run_sliceBound w k2 y cap _ (by omega) (by omega),run_sliceBound w k1 x y.toNat _ (by omega) (by omega)]
theorem run_bounds2(hs:SOK E w s a){t1 t2:TypeId}{lo hi:Option Operand}{lo' hi':Option Od}(hlo:odO P t1 lo=some lo')(hhi:odO P t2 hi=some hi'){n cap l m:Nat}(b:Bool)
  (hb:bounds2 s n cap lo' hi'=some (l,m)):(Instr.sliceBounds b n cap (lo.map a.eval) (hi.map a.eval) none).run P w=.ok (l,m,cap) w∧l≤m∧m≤cap:=by
 unfold bounds2 at hb
 split at hb
 case h_2=>cases hb
 rename_i k1 x k2 y e1 e2
 split at hb
 case isFalse=>cases hb
 rename_i hc
 obtain ⟨h0,h1,h2⟩:=hc
 injection hb with hb;injection hb with e3 e4;subst e3;subst e4
 have ey:(y.toNat:Int)=y:=Int.toNat_of_nonneg (by omega)
 refine ⟨?_,by omega,by omega⟩
 cases lo with
 | none =>
  simp only[odO,Option.some.injEq] at hlo
  subst hlo
  injection e1 with _ e1;subst e1
  cases hi with
  | none =>
   simp only[odO,Option.some.injEq] at hhi
   subst hhi
   injection e2 with _ e2;subst e2
   simp[Instr.sliceBounds]
  | some hi =>
   simp only[odO,Option.map_eq_some_iff] at hhi
   obtain ⟨hi',hh,rfl⟩:=hhi
   have:=od_ok hs hh
   simp only at e2
   rw[e2] at this
   simp[Instr.sliceBounds,this.int_inv,run_sliceBound w k2 y cap _ (by omega) (by omega)]
 | some lo =>
  simp only[odO,Option.map_eq_some_iff] at hlo
  obtain ⟨lo',hl,rfl⟩:=hlo
  have h3:=od_ok hs hl
  simp only at e1
  rw[e1] at h3
  cases hi with
  | none =>
   simp only[odO,Option.some.injEq] at hhi
   subst hhi
   injection e2 with _ e2;subst e2
   simp[Instr.sliceBounds,h3.int_inv,run_sliceBound w k1 x n _ (by omega) (by omega)]
  | some hi =>
   simp only[odO,Option.map_eq_some_iff] at hhi
   obtain ⟨hi',hh,rfl⟩:=hhi
   have h4:=od_ok hs hh
   simp only at e2
   rw[e2] at h4
   simp[Instr.sliceBounds,h3.int_inv,h4.int_inv,run_sliceBound w k2 y cap _ (by omega) (by omega),run_sliceBound w k1 x y.toNat _ (by omega) (by omega)]
theorem extract_mk(t:List UInt8)(l m:Nat):(⟨t.toArray⟩:ByteArray).extract l m=⟨((t.take m).drop l).toArray⟩:=by
 apply ByteArray.ext
 simp[ByteArray.data_extract,List.drop_take]
theorem ok_slice(hok:HOK E h w)(hs:SOK E w s a){t t1 t2 t3 el:TypeId}{x:Operand}{lo hi:Option Operand}{x':Od}{lo' hi':Option Od}{e:Nat}(ho:o.op=.slice t x lo hi none)(ht:P.underlying t=some (.slice el))(he:ecode P el=some e)
  (hx:od P t1 x=some x') (hlo:odO P t2 lo=some lo') (hhi:odO P t3 hi=some hi') {v:AV}{h':Hp}(hb:evV s h (.slice e x' lo' hi')=some (v,h')):Yields P o a E h.length w v h':=by
 have h1:=od_ok hs hx
 simp only[evV] at hb
 have run:∀ A n cap l m,a.eval x=.slice A n cap→n≤cap→bounds s n lo' hi'=some (l,m)→(execOp a.eval o).run P w=.ok (.value (.slice (if cap=l then A else A.map (·.add (l * esz e))) (m - l) (cap - l))) w∧l≤m∧m≤n:=by
  intro A n cap l m hp hn hbd
  obtain ⟨r,r1,r2⟩:=run_bounds (w:=w) hs hlo hhi hn true hbd
  exact ⟨by simp[execOp,ho,hp,Instr.sliceAt,run_underlying ht,Instr.slice,r,run_sizeOf_e he],r1,r2⟩
 have run2:∀ A n cap l m,a.eval x=.slice A n cap→bounds2 s n cap lo' hi'=some (l,m)→(execOp a.eval o).run P w=.ok (.value (.slice (if cap=l then A else A.map (·.add (l * esz e))) (m - l) (cap - l))) w∧l≤m∧m≤cap:=by
  intro A n cap l m hp hbd
  obtain ⟨r,r1,r2⟩:=run_bounds2 (w:=w) hs hlo hhi true hbd
  exact ⟨by simp[execOp,ho,hp,Instr.sliceAt,run_underlying ht,Instr.slice,r,run_sizeOf_e he],r1,r2⟩
 split at hb
 ·rename_i e' f xs ex
  rw[ex] at h1
  split at hb
  ·rename_i hee
   subst hee
   simp only[Option.map_eq_some_iff] at hb
   obtain ⟨⟨l,m⟩,hbd,hb⟩:=hb
   injection hb with e1 e2;subst e1;subst e2
   generalize hu:a.eval x=u at h1
   cases h1.sl_inv with
   | sl _ _ _ A cap g off uf hl hm hf hA hfit hc hr =>
    obtain ⟨r,hlm,hmn⟩:=run A _ cap l m hu hl hbd
    have hlen:((xs.take m).drop l).length=m - l:=by simp;omega
    have at_:∀ (i:Nat) z,((xs.take m).drop l)[i]? = some z→xs[l + i]? = some z:=fun i z hz=>by
     rw[List.getElem?_drop,List.getElem?_take] at hz
     split at hz
     ·exact hz
     ·cases hz
    refine .still hok r (.imm ?_)
    simp only
    rw[← hlen]
    refine .sl e' _ _ _ (cap - l) g (off + l * esz e') (fun i=>uf (l + i)) (by omega) (by omega) (fun h=>?_) ?_ (fun i z hz=>hfit _ z (at_ i z hz)) (fun i z hz j c hj=>?_) (fun i z hz=>hr _ z (at_ i z hz)) (fun h h'=>?_)
    ·rw[Bool.and_eq_true,List.isEmpty_iff] at h
     have h3:=hf h.1
     obtain rfl:=h.2
     simp at hlen h3 ⊢
     omega
    ·by_cases h0:(xs.take m).drop l=[]
     ·exact .inl h0
     ·right
      have:0<((xs.take m).drop l).length:=List.length_pos_iff.2 h0
      rcases hA with hA | hA
      ·subst hA;simp at this
      ·subst hA
       rw[if_neg (by omega)]
       simp[add_addr]
    ·have:=hc _ z (at_ i z hz) j c hj
     rw[Nat.add_mul] at this
     rw[show off + l * esz e' + (i * esz e' + j)=off + (l * esz e' + i * esz e' + j) by omega]
     exact this
    ·rw[Bool.and_eq_true,List.isEmpty_iff] at h
     obtain rfl:=h.2
     exact absurd (by simp) h'
  ·cases hb
 ·rename_i e' b off len ex
  rw[ex] at h1
  split at hb
  ·rename_i hee
   subst hee
   simp only[Option.map_eq_some_iff] at hb
   obtain ⟨⟨l,m⟩,hbd,hb⟩:=hb
   injection hb with e1 e2;subst e1;subst e2
   obtain ⟨hke,⟨h0,rfl,rfl,A,hp⟩ | ⟨g,cap,A,hg,hp,hA,hl,hc,hm⟩⟩:=h1.row_inv
   ·obtain ⟨r,hlm,hmn⟩:=run A 0 0 l m hp (Nat.le_refl _) hbd
    have:l=0:=by omega
    subst this
    have:m=0:=by omega
    subst this
    exact .still hok r (.row0 e' b _ h0 hke)
   ·obtain ⟨r,hlm,hmn⟩:=run A len cap l m hp hl hbd
    refine .still hok r (.row e' b (off + l) (m - l) g (cap - l) _ hg hke ?_ (by omega) (by omega) hm)
    by_cases hcl:cap=l
    ·rw[if_pos hcl]
     by_cases h00:off + l=0
     ·have:off=0:=by omega
      subst this
      have:l=0:=by omega
      subst this
      rcases hA with hA | ⟨hA,_⟩
      ·left;simpa using hA
      ·exact absurd rfl hA
     ·right;exact ⟨h00,by omega⟩
    ·rw[if_neg hcl]
     rcases hA with hA | ⟨hA,hA2⟩
     ·left
      subst hA
      simp[add_addr,Nat.add_mul]
     ·right;exact ⟨by omega,by omega⟩
  ·cases hb
 ·rename_i e' b off len cap ex
  rw[ex] at h1
  split at hb
  ·rename_i hee
   subst hee
   simp only[Option.map_eq_some_iff] at hb
   obtain ⟨⟨l,m⟩,hbd,hb⟩:=hb
   injection hb with e1 e2;subst e1;subst e2
   obtain ⟨hke,⟨h0,rfl,rfl,rfl,A,hp⟩ | ⟨g,A,hg,hp,hA,hl,hc,hm⟩⟩:=h1.crow_inv
   ·obtain ⟨r,hlm,hmn⟩:=run2 A 0 0 l m hp hbd
    have:l=0:=by omega
    subst this
    have:m=0:=by omega
    subst this
    exact .still hok r (.crow0 e' b _ h0 hke)
   ·obtain ⟨r,hlm,hmn⟩:=run2 A len cap l m hp hbd
    refine .still hok r (.crow e' b (off + l) (m - l) g (cap - l) _ hg hke ?_ (by omega) (by omega) hm)
    by_cases hcl:cap=l
    ·rw[if_pos hcl]
     by_cases h00:off + l=0
     ·have:off=0:=by omega
      subst this
      have:l=0:=by omega
      subst this
      rcases hA with hA | ⟨hA,_⟩
      ·left;simpa using hA
      ·exact absurd rfl hA
     ·right;exact ⟨h00,by omega⟩
    ·rw[if_neg hcl]
     rcases hA with hA | ⟨hA,hA2⟩
     ·left
      subst hA
      simp[add_addr,Nat.add_mul]
     ·right;exact ⟨by omega,by omega⟩
  ·cases hb
 ·cases hb
theorem ok_slice3(hok:HOK E h w)(hs:SOK E w s a){t t1 t2 t3 t4 el:TypeId}{x:Operand}{lo hi mx:Option Operand}{x':Od}{lo' hi' mx':Option Od}{e:Nat}(ho:o.op=.slice t x lo hi mx)(ht:P.underlying t=some (.slice el))(he:ecode P el=some e)
  (hx:od P t1 x=some x') (hlo:odO P t2 lo=some lo') (hhi:odO P t3 hi=some hi') (hmx:odO P t4 mx=some mx') {v:AV}{h':Hp}(hb:evV s h (.slice3 e x' lo' hi' mx')=some (v,h')):Yields P o a E h.length w v h':=by
 have h1:=od_ok hs hx
 simp only[evV] at hb
 split at hb
 case h_2=>cases hb
 rename_i e' b off len ex
 rw[ex] at h1
 split at hb
 case isFalse=>cases hb
 split at hb
 case h_2=>cases hb
 rename_i km m em
 split at hb
 case isFalse=>cases hb
 rename_i hc
 obtain ⟨c0,c1,c2,c3⟩:=hc
 simp only[Option.map_eq_some_iff] at hb
 obtain ⟨⟨l,q⟩,hbd,hb⟩:=hb
 injection hb with e1 e2;subst e1;subst e2
 cases mx with
 | none=>simp only[odO,Option.some.injEq] at hmx;subst hmx;cases c3
 | some mx =>
 cases hi with
 | none=>simp only[odO,Option.some.injEq] at hhi;subst hhi;cases c2
 | some hi =>
 simp only[odO,Option.map_eq_some_iff] at hmx
 obtain ⟨mx'',hm,rfl⟩:=hmx
 simp only[odO,Option.map_eq_some_iff] at hhi
 obtain ⟨hi'',hh,rfl⟩:=hhi
 have h4:=od_ok hs hm
 simp only at em
 rw[em] at h4
 have h5:=od_ok hs hh
 unfold bounds at hbd
 split at hbd
 case h_2=>cases hbd
 rename_i k1 x1 k2 y1 e1 e2
 split at hbd
 case isFalse=>cases hbd
 rename_i hbc
 obtain ⟨d0,d1,d2⟩:=hbc
 simp only at e2
 rw[e2] at h5
 have emn:(m.toNat:Int)=m:=Int.toNat_of_nonneg c0
 obtain ⟨A,cap,hp,hcap⟩:∃ A cap,a.eval x=.slice A len cap∧len≤cap:=by
  obtain ⟨_,⟨_,_,rfl,A,hp⟩ | ⟨g,cap,A,_,hp,_,hl,_⟩⟩:=h1.row_inv
  ·exact ⟨A,0,hp,Nat.le_refl _⟩
  ·exact ⟨A,cap,hp,hl⟩
 have run:(Instr.sliceBounds true len cap (lo.map a.eval) (some (a.eval hi)) (some (a.eval mx))).run P w=.ok (x1.toNat,y1.toNat,m.toNat) w:=by
  cases lo with
  | none =>
   simp only[odO,Option.some.injEq] at hlo
   subst hlo
   injection e1 with _ e1;subst e1
   simp[Instr.sliceBounds,h4.int_inv,h5.int_inv,run_sliceBound w km m cap _ (by omega) (by omega),run_sliceBound w k2 y1 m.toNat _ (by omega) (by omega)]
  | some lo =>
   simp only[odO,Option.map_eq_some_iff] at hlo
   obtain ⟨lo'',hl,rfl⟩:=hlo
   have h6:=od_ok hs hl
   simp only at e1
   rw[e1] at h6
   simp[Instr.sliceBounds,h4.int_inv,h5.int_inv,h6.int_inv,run_sliceBound w km m cap _ (by omega) (by omega),run_sliceBound w k2 y1 m.toNat _ (by omega) (by omega),run_sliceBound w k1 x1 y1.toNat _ (by omega) (by omega)]
 refine .still hok (u:=.slice (if m.toNat=x1.toNat then A else A.map (·.add (x1.toNat * esz e))) (y1.toNat - x1.toNat) (m.toNat - x1.toNat)) ?_ (.junk _)
 simp[execOp,ho,hp,Instr.sliceAt,run_underlying ht,Instr.slice,run,run_sizeOf_e he]
theorem ok_sslice(hok:HOK E h w)(hs:SOK E w s a){t t1 t2 t3:TypeId}{x:Operand}{lo hi:Option Operand}{x':Od}{lo' hi':Option Od}(ho:o.op=.slice t x lo hi none)(ht:P.underlying t=some .string)
  (hx:od P t1 x=some x') (hlo:odO P t2 lo=some lo') (hhi:odO P t3 hi=some hi') {v:AV}{h':Hp}(hb:evV s h (.sslice x' lo' hi')=some (v,h')):Yields P o a E h.length w v h':=by
 have h1:=od_ok hs hx
 simp only[evV] at hb
 split at hb
 case h_2=>cases hb
 rename_i q hq
 simp only[Option.map_eq_some_iff] at hb
 obtain ⟨⟨l,m⟩,hbd,hb⟩:=hb
 injection hb with e1 e2;subst e1;subst e2
 rw[hq] at h1
 obtain ⟨r,r1,r2⟩:=run_bounds (w:=w) hs hlo hhi (Nat.le_refl _) false hbd
 refine .still hok (u:=.string ⟨((q.take m).drop l).toArray⟩) ?_ (.imm (.str _))
 simp[execOp,ho,h1.str_inv,Instr.sliceAt,run_underlying ht,Instr.slice,size_mk,r,extract_mk]
theorem ok_aslice(hok:HOK E h w)(hs:SOK E w s a){t t1 t2 t3 el:TypeId}{x:Operand}{lo hi:Option Operand}{x':Od}{lo' hi':Option Od}{e n:Nat}(ho:o.op=.slice t x lo hi none)(ht:P.underlying t=some (.array n el))(he:ecode P el=some e)
  (hx:od P t1 x=some x') (hlo:odO P t2 lo=some lo') (hhi:odO P t3 hi=some hi') (hn:n≤maxLen) {v:AV}{h':Hp}(hb:evV s h (.aslice e n x' lo' hi')=some (v,h')):Yields P o a E h.length w v h':=by
 have h1:=od_ok hs hx
 simp only[evV] at hb
 split at hb
 ·rename_i b off ex
  rw[ex] at h1
  simp only[Option.map_eq_some_iff] at hb
  obtain ⟨⟨l,m⟩,hbd,hb⟩:=hb
  injection hb with e1 e2;subst e1;subst e2
  obtain ⟨g,hg,hp⟩:=h1.ptr_inv
  obtain ⟨r,r1,r2⟩:=run_bounds (w:=w) hs hlo hhi (Nat.le_refl _) false hbd
  refine .still hok (u:=.slice (some (if n=l then ⟨g,off,none⟩ else ⟨g,off + l * esz e,none⟩)) (m - l) (n - l)) ?_ (.arow e b _ _ g (n - l) _ hg ?_ (by omega) (by omega))
  ·simp only[execOp,ho,hp,Instr.sliceAt,run_underlying ht,Sem.run_bind,Result.andThen_ok,Instr.sureAddr,Sem.run_pure,Option.map_none,r,run_sizeOf_e he,add_addr]
  ·by_cases hnl:n=l
   ·right;show m - l=0;omega
   ·left;rw[if_neg hnl]
 ·cases hb
theorem ok_len(hok:HOK E h w)(hs:SOK E w s a){t t1:TypeId}{ts:Array TypeId}{x:Operand}{x':Od}{k:Nat}(ho:o.op=.call { callee:=.builtin .len,args := #[x],argTypes:=ts })(hts:ts[0]? = some t)
  (ht:(k=1∧P.underlying t=some .string)∨(k=0∧∃ e,P.underlying t=some (.slice e))∨(k=2∧∃ k e,P.underlying t=some (.map k e)))
  (hx:od P t1 x=some x') {v:AV}{h':Hp}(hb:evV s h (.len k x')=some (v,h')):Yields P o a E h.length w v h':=by
 have h1:=od_ok hs hx
 have run:∀ n:Nat,(Builtin.len_ ts o.type #[a.eval x]).run P w=.ok (goInt n) w→(execOp a.eval o).run P w=.ok (.value (.int .i64 n)) w:=by
  intro n hr
  simp[execOp,ho,resolve,invoke,builtin,hr,goInt]
 simp only[evV] at hb
 split at hb
 ·rename_i e f xs ex
  rw[ex] at h1
  injection hb with hb;injection hb with e1 e2;subst e1;subst e2
  obtain ⟨el,hu⟩:∃ e,P.underlying t=some (.slice e):=by rcases ht with ⟨h,_⟩ | ⟨_,h⟩ | ⟨h,_⟩<;>first | exact h | cases h
  generalize hxu:a.eval x=u at h1 run
  cases h1.sl_inv with
  | sl _ _ _ A cap g off uf hl hm hf hA hfit hc hr=>exact .still hok (run _ (by simp[Builtin.len_,hts,run_underlying hu])) (.imm (.int _ _))
 ·rename_i e b f n ex
  rw[ex] at h1
  injection hb with hb;injection hb with e1 e2;subst e1;subst e2
  obtain ⟨el,hu⟩:∃ e,P.underlying t=some (.slice e):=by rcases ht with ⟨h,_⟩ | ⟨_,h⟩ | ⟨h,_⟩<;>first | exact h | cases h
  obtain ⟨_,⟨_,_,rfl,A,hp⟩ | ⟨g,cap,A,_,hp,_⟩⟩:=h1.row_inv<;>exact .still hok (run _ (by simp[Builtin.len_,hts,run_underlying hu,hp])) (.imm (.int _ _))
 ·rename_i e b f n ex
  rw[ex] at h1
  injection hb with hb;injection hb with e1 e2;subst e1;subst e2
  obtain ⟨el,hu⟩:∃ e,P.underlying t=some (.slice e):=by rcases ht with ⟨h,_⟩ | ⟨_,h⟩ | ⟨h,_⟩<;>first | exact h | cases h
  obtain ⟨g,cap,A,_,hp,_⟩:=h1.arow_inv
  exact .still hok (run _ (by simp[Builtin.len_,hts,run_underlying hu,hp])) (.imm (.int _ _))
 ·rename_i e b f n c ex
  rw[ex] at h1
  injection hb with hb;injection hb with e1 e2;subst e1;subst e2
  obtain ⟨el,hu⟩:∃ e,P.underlying t=some (.slice e):=by rcases ht with ⟨h,_⟩ | ⟨_,h⟩ | ⟨h,_⟩<;>first | exact h | cases h
  obtain ⟨_,⟨_,_,rfl,_,A,hp⟩ | ⟨g,A,_,hp,_⟩⟩:=h1.crow_inv<;>exact .still hok (run _ (by simp[Builtin.len_,hts,run_underlying hu,hp])) (.imm (.int _ _))
 ·rename_i q ex
  rw[ex] at h1
  injection hb with hb;injection hb with e1 e2;subst e1;subst e2
  have hu:P.underlying t=some .string:=by rcases ht with ⟨_,h⟩ | ⟨h,_⟩ | ⟨h,_⟩<;>first | exact h | cases h
  exact .still hok (run _ (by simp[Builtin.len_,hts,run_underlying hu,h1.str_inv,size_mk])) (.imm (.int _ _))
 ·rename_i ex
  rw[ex] at h1
  injection hb with hb;injection hb with e1 e2;subst e1;subst e2
  obtain ⟨k,el,hu⟩:∃ k e,P.underlying t=some (.map k e):=by rcases ht with ⟨h,_⟩ | ⟨h,_⟩ | ⟨_,h⟩<;>first | exact h | cases h
  exact .still hok (run 0 (by simp[Builtin.len_,hts,run_underlying hu,h1.nilmp_inv])) (.imm (.int _ _))
 ·rename_i ks vs ex
  rw[ex] at h1
  injection hb with hb;injection hb with e1 e2;subst e1;subst e2
  obtain ⟨k,el,hu⟩:∃ k e,P.underlying t=some (.map k e):=by rcases ht with ⟨h,_⟩ | ⟨h,_⟩ | ⟨_,h⟩<;>first | exact h | cases h
  generalize hxu:a.eval x=u at h1 run
  cases h1.mp_inv with
  | mp _ _ g es cl hS hg h2 h3 hk hv =>
   refine .still hok (run ks.length ?_) (.imm (.int _ _))
   simp[Builtin.len_,hts,run_underlying hu,getObj,Sem.run,hg,h2]
  | mpn=>exact .still hok (run 0 (by simp[Builtin.len_,hts,run_underlying hu])) (.imm (.int _ _))
 ·rename_i b ex
  rw[ex] at h1
  split at hb
  ·rename_i ks vs hbk
   injection hb with hb;injection hb with e1 e2;subst e1;subst e2
   obtain ⟨k,el,hu⟩:∃ k e,P.underlying t=some (.map k e):=by rcases ht with ⟨h,_⟩ | ⟨h,_⟩ | ⟨_,h⟩<;>first | exact h | cases h
   obtain ⟨g,hg,hp⟩:=h1.mref_inv
   obtain ⟨g',es,cl,k1,k2,k3,_⟩:=hok.blocks b _ hbk
   rw[hg] at k1;injection k1 with k1;injection k1 with k1;subst k1
   refine .still hok (run ks.length ?_) (.imm (.int _ _))
   simp[Builtin.len_,hts,run_underlying hu,hp,getObj,Sem.run,k2,k3]
  ·cases hb
 ·cases hb
theorem ok_alen(hok:HOK E h w){t:TypeId}{ts:Array TypeId}{x:Operand}{n:Nat}{el:TypeId}(ho:o.op=.call { callee:=.builtin .len,args := #[x],argTypes:=ts })(hts:ts[0]? = some t)(ht:P.underlying t=some (.array n el)) :
  Yields P o a E h.length w (.int .i64 n) h:=by
 refine .still hok (u:=.int .i64 n) ?_ (.imm (.int _ _))
 simp[execOp,ho,resolve,invoke,builtin,Builtin.len_,hts,run_underlying ht,goInt]
theorem run_max2{k:IntKind}{m n:Int}:(Builtin.max2 (.int k m) (.int k n)).run P w=.ok (.int k (if n > m then n else m)) w:=by simp[Builtin.max2]
theorem run_min2{k:IntKind}{m n:Int}:(Builtin.min2 (.int k m) (.int k n)).run P w=.ok (.int k (if n<m then n else m)) w:=by simp[Builtin.min2]
theorem foldMax_ok(mx:Bool):∀ {ys:List AV}{us:List Value}{x:AV}{u:Value}{v:AV},ys.length=us.length→(∀ (i:Nat) c z,ys[i]? = some c→us[i]? = some z→RV E w c z)→RV E w x u→foldMax mx x ys=some v →
  ∃ z,(us.foldlM (if mx then Builtin.max2 else Builtin.min2) u).run P w=.ok z w∧RV E w v z
 | [],[],x,u,v,_,_,hx,hf=>by
  simp only[foldMax,Option.some.injEq] at hf
  subst hf
  exact ⟨u,by simp,hx⟩
 | y::ys,z::us,x,u,v,hl,hr,hx,hf=>by
  simp only[foldMax] at hf
  split at hf
  ·rename_i q hq
   unfold maxI at hq
   split at hq
   ·rename_i k m k' n
    split at hq
    ·rename_i hk
     subst hk
     injection hq with hq;subst hq
     have hz:=hr 0 _ z rfl rfl
     obtain ⟨r,r1,r2⟩:=foldMax_ok mx (ys:=ys) (us:=us) (u:=.int k (if mx then (if n > m then n else m) else (if n<m then n else m))) (by simpa using hl) (fun i c z' h1 h2=>hr (i + 1) c z' (by simpa using h1) (by simpa using h2)) (.imm (.int _ _)) hf
     refine ⟨r,?_,r2⟩
     rw[hx.int_inv,hz.int_inv]
     simp only[List.foldlM_cons,Sem.run_bind]
     cases mx
     ·simp only[Bool.false_eq_true,if_false,run_min2,Result.andThen_ok] at r1 ⊢;exact r1
     ·simp only[if_true,run_max2,Result.andThen_ok] at r1 ⊢;exact r1
    ·cases hq
   ·cases hq
  ·cases hf
 | [],_::_,_,_,_,hl,_,_,_=>by simp at hl
 | _::_,[],_,_,_,hl,_,_,_=>by simp at hl
theorem ok_maxmin(hok:HOK E h w)(hs:SOK E w s a)(mx:Bool){t1:TypeId}{ts:Array TypeId}{args:Array Operand}{x:Operand}{xs:List Operand}{x':Od}{xs':List Od}(ho:o.op=.call { callee:=.builtin (if mx then .max else .min),args:=args,argTypes:=ts })
  (hargs:args.toList=x::xs) (hx:od P t1 x=some x') (hxs:omap (od P t1) xs=some xs') {v:AV}{h':Hp}(hb:evV s h (.maxmin mx x' xs')=some (v,h')):Yields P o a E h.length w v h':=by
 simp only[evV,Option.map_eq_some_iff] at hb
 obtain ⟨v',hf,hb⟩:=hb
 injection hb with e1 e2;subst e1;subst e2
 obtain ⟨k1,k2⟩:=omap_od_ok hs hxs
 obtain ⟨z,r1,r2⟩:=foldMax_ok (P:=P) mx (us:=xs.map a.eval) (by simp[k1]) (fun i c z hc hz=>by
  rw[List.getElem?_map] at hc hz
  cases hy:xs'[i]? with
  | none=>rw[hy] at hc;cases hc
  | some y =>
   cases hx':xs[i]? with
   | none=>rw[hx'] at hz;cases hz
   | some y' =>
    rw[hy] at hc;rw[hx'] at hz
    simp at hc hz
    subst hc;subst hz
    exact k2 i y' y hx' hy) (od_ok hs hx) hf
 refine .still hok (u:=z) ?_ r2
 have hargs':args=(x::xs).toArray:=by rw[← hargs]
 cases mx
 ·simp only[Bool.false_eq_true,if_false] at ho r1
  simp[execOp,ho,resolve,invoke,builtin,Builtin.min_,hargs',r1]
 ·simp only[if_true] at ho r1
  simp[execOp,ho,resolve,invoke,builtin,Builtin.max_,hargs',r1]
theorem eqKind_run{t:TypeId}{d k:Nat}{x y:AV}{u z:Value}{b:Bool}{td:TypeDesc}(hx:RV E w x u)(hy:RV E w y z)(ht:P.underlying t=some td)(hk:kindOf td=some k)
  (hb:eqKind k x y=some b):(Op.equalIn (d + 1) t u z).run P w=.ok b w:=by
 unfold eqKind at hb
 split at hb
 ·split at hb
  ·rename_i k m k' n hkk
   subst hkk
   injection hb with hb;subst hb
   cases td<;>simp only[kindOf,Option.some.injEq,reduceCtorEq] at hk<;>try (cases hk;done)
   rw[hx.int_inv,hy.int_inv]
   exact run_equalIn_int w d t k _ m n ht
  ·cases hb
 ·injection hb with hb;subst hb
  cases td<;>simp only[kindOf,Option.some.injEq,reduceCtorEq] at hk<;>try (cases hk;done)
  rw[hx.str_inv,hy.str_inv,run_equalIn_string w d t _ _ ht,toList_mk,toList_mk]
 ·injection hb with hb;subst hb
  cases td<;>simp only[kindOf,Option.some.injEq,reduceCtorEq] at hk<;>try (cases hk;done)
  rw[hx.bool_inv,hy.bool_inv]
  exact run_equalIn_bool' w d t _ _ ht
 ·cases hb
theorem eqCells_append:∀ {k ks:List Nat}{as bs:List AV}{b:Bool},eqCells (k++ks) as bs=some b →
  ∃ b1 b2,eqCells k (as.take k.length) (bs.take k.length)=some b1∧eqCells ks (as.drop k.length) (bs.drop k.length)=some b2∧b=(b1 && b2)
 | [],ks,as,bs,b,h=>⟨true,b,by simp[eqCells],by simpa using h,by simp⟩
 | q::k,ks,[],bs,b,h=>by simp[eqCells] at h
 | q::k,ks,x::as,[],b,h=>by simp[eqCells] at h
 | q::k,ks,x::as,y::bs,b,h=>by
  simp only[List.cons_append,eqCells] at h
  split at h
  case h_2=>cases h
  rename_i c1 c2 e1 e2
  injection h with h;subst h
  obtain ⟨b1,b2,h1,h2,rfl⟩:=eqCells_append e2
  exact ⟨c1 && b1,b2,by simp[eqCells,e1,h1],by simpa using h2,by simp[Bool.and_assoc]⟩
theorem eqCells_length:∀ {ks:List Nat}{as bs:List AV}{b:Bool},eqCells ks as bs=some b→as.length=ks.length∧bs.length=ks.length
 | [],[],[],_,_=>⟨rfl,rfl⟩
 | [],[],_::_,_,h=>by simp[eqCells] at h
 | [],_::_,_,_,h=>by simp[eqCells] at h
 | q::k,[],bs,b,h=>by simp[eqCells] at h
 | q::k,x::as,[],b,h=>by simp[eqCells] at h
 | q::k,x::as,y::bs,b,h=>by
  simp only[eqCells] at h
  split at h
  case h_2=>cases h
  rename_i c1 c2 e1 e2
  obtain ⟨h1,h2⟩:=eqCells_length e2
  simp[h1,h2]
def EqT(P:Program)(E:Env)(w:World)(d:Nat)(t:TypeId)(ks:List Nat):Prop :=
 ∀ (cs ds:List AV) (us zs:Array Value) (i:Nat) (b:Bool),Match E w cs us→Match E w ds zs→eqCells ks ((cs.drop i).take ks.length) ((ds.drop i).take ks.length)=some b →
  ∃ u z,(part t us i).run P w=.ok u w∧(part t zs i).run P w=.ok z w∧(Op.equalIn (d + 1) t u z).run P w=.ok b w
theorem eqFields_run{d:Nat}{K:TypeId→Option (List Nat)}(hK:∀ t ks,K t=some ks→EqT P E w d t ks){cs ds:List AV}{us zs:Array Value}(h1:Match E w cs us)(h2:Match E w ds zs) :
  ∀ (fs:List Field) (i:Nat) (ks:List Nat) (b:Bool),kindsF K i fs=some ks→eqCells ks (cs.drop i) (ds.drop i)=some b →
  (Op.eqFields (d + 1) us zs fs).run P w=.ok b w
 | [],i,ks,b,hk,hb=>by
  simp only[kindsF,Option.some.injEq] at hk
  subst hk
  cases hc:cs.drop i with
  | nil =>
   cases hd:ds.drop i with
   | nil=>rw[hc,hd] at hb;simp only[eqCells,Option.some.injEq] at hb;subst hb;simp[Op.eqFields]
   | cons y ys=>rw[hc,hd] at hb;simp[eqCells] at hb
  | cons x xs=>rw[hc] at hb;simp[eqCells] at hb
 | f::fs,i,ks,b,hk,hb=>by
  simp only[kindsF] at hk
  split at hk
  case isFalse=>cases hk
  rename_i hcond
  obtain ⟨hoff,hname⟩:=hcond
  split at hk
  case h_2=>cases hk
  rename_i k hkk
  split at hk
  case h_2=>cases hk
  rename_i ks' hks
  injection hk with hk;subst hk
  obtain ⟨b1,b2,e1,e2,rfl⟩:=eqCells_append hb
  obtain ⟨u,z,hpx,hpy,he⟩:=hK _ _ hkk _ _ _ _ _ _ h1 h2 e1
  rw[← hoff] at hpx hpy
  rw[List.drop_drop,List.drop_drop] at e2
  have hrest:=eqFields_run hK h1 h2 fs (i + k.length) ks' b2 hks e2
  simp only[Op.eqFields]
  rw[if_pos hname]
  simp only[Sem.run_bind,hpx,hpy,he,Result.andThen_ok]
  cases b1
  ·simp
  ·simp[hrest]
theorem Match.part{cs:List AV}{us:Array Value}(h:Match E w cs us){i n:Nat}(hn:((cs.drop i).take n).length=n):Match E w ((cs.drop i).take n) (us.extract i (i + n)):=by
 rw[List.length_take,List.length_drop] at hn
 have hl:=h.1
 refine ⟨?_,fun j c u hc hu=>?_⟩
 ·rw[List.length_take,List.length_drop,Array.size_extract];omega
 ·rw[List.getElem?_take] at hc
  split at hc
  case isFalse=>cases hc
  rw[List.getElem?_drop] at hc
  have hj:i + j<us.size:=by have:=(List.getElem?_eq_some_iff.1 hc).1;omega
  have:(us.extract i (i + n))[j]? = us[i + j]? := by
   rw[Array.getElem?_extract]
   rw[if_pos (by omega)]
  rw[this] at hu
  exact h.2 _ c u hc hu
theorem eqLeaf_run{d k:Nat}{t:TypeId}{td:TypeDesc}(ht:P.underlying t=some td)(hkt:kindOf td=some k):EqT P E w d t [k]:=by
 intro cs ds us zs i b h1 h2 hb
 cases hc:cs.drop i with
 | nil=>rw[hc] at hb;simp[eqCells] at hb
 | cons x xs =>
  cases hd:ds.drop i with
  | nil=>rw[hc,hd] at hb;simp[eqCells] at hb
  | cons y ys =>
   rw[hc,hd] at hb
   simp only[List.length_singleton,List.take_succ_cons,List.take_zero,eqCells] at hb
   split at hb
   case h_2=>cases hb
   rename_i b1 b2 e1 e2
   injection hb with hb;subst hb
   injection e2 with e2;subst e2
   have hx:cs[i]? = some x:=by rw[← List.head?_drop,hc];rfl
   have hy:ds[i]? = some y:=by rw[← List.head?_drop,hd];rfl
   have hxl:i<us.size:=by have:=(List.getElem?_eq_some_iff.1 hx).1;have:=h1.1;omega
   have hyl:i<zs.size:=by have:=(List.getElem?_eq_some_iff.1 hy).1;have:=h2.1;omega
   have hrx:=h1.2 i x _ hx (Array.getElem?_eq_getElem hxl)
   have hry:=h2.2 i y _ hy (Array.getElem?_eq_getElem hyl)
   have hagg:(isAgg t).run P w=.ok false w:=by
    simp only[isAgg,Go.underlying,Sem.run_bind,run_program,Result.andThen_ok,ht]
    cases td<;>first | rfl | (simp[kindOf] at hkt)
   refine ⟨us[i],zs[i],by simp[Go.part,hagg,hxl],by simp[Go.part,hagg,hyl],?_⟩
   rw[Bool.and_true]
   exact eqKind_run (P:=P) (d:=d) hrx hry ht hkt e1
theorem kindOf_lt{d:TypeDesc}{k:Nat}(h:kindOf d=some k):k<3:=by
 unfold kindOf at h
 split at h<;>first | (cases h;done) | (injection h with h;omega)
theorem kindsF_lt{K:TypeId→Option (List Nat)}(hK:∀ t ks,K t=some ks→∀ k ∈ ks,k<3):∀ (fs:List Field) (i:Nat) (ks:List Nat),kindsF K i fs=some ks→∀ k ∈ ks,k<3
 | [],i,ks,h,k,hk=>by injection h with h;subst h;cases hk
 | f::fs,i,ks,h,k,hk=>by
  unfold kindsF at h
  split at h
  case isFalse=>cases h
  split at h
  case h_2=>cases h
  rename_i k1 h1
  split at h
  case h_2=>cases h
  rename_i ks1 h2
  injection h with h;subst h
  rcases List.mem_append.1 hk with hk | hk
  ·exact hK _ _ h1 k hk
  ·exact kindsF_lt hK fs _ ks1 h2 k hk
theorem kindsT_lt:∀ (n:Nat) (t:TypeId) {ks:List Nat},kindsT P n t=some ks→∀ k ∈ ks,k<3
 | 0,t,ks,h,k,hk=>by
  simp only[kindsT,Option.map_eq_some_iff,Option.bind_eq_some_iff] at h
  obtain ⟨k',⟨d,_,hd⟩,rfl⟩:=h
  rw[List.mem_singleton.1 hk]
  exact kindOf_lt hd
 | n + 1,t,ks,h,k,hk=>by
  simp only[kindsT] at h
  split at h
  ·split at h
   case isFalse=>cases h
   split at h
   case h_2=>cases h
   rename_i ks1 h1
   split at h
   case isFalse=>cases h
   injection h with h;subst h
   exact kindsF_lt (fun t ks h=>kindsT_lt n t h) _ _ _ h1 k hk
  ·rename_i d _ _
   obtain ⟨k',hd,rfl⟩:=Option.map_eq_some_iff.1 h
   rw[List.mem_singleton.1 hk]
   exact kindOf_lt hd
  ·cases h
theorem eqT_run:∀ (n d:Nat),n≤d→∀ t ks,kindsT P n t=some ks→EqT P E w d t ks
 | 0,d,_,t,ks,hk=>by
  simp only[kindsT,Option.map_eq_some_iff,Option.bind_eq_some_iff] at hk
  obtain ⟨k,⟨td,h1,h2⟩,rfl⟩:=hk
  exact eqLeaf_run h1 h2
 | n + 1,d,hd,t,ks,hk=>by
  simp only[kindsT] at hk
  split at hk
  ·rename_i fs hfs
   split at hk
   case isFalse=>cases hk
   rename_i hst
   split at hk
   case h_2=>cases hk
   rename_i ks' hks
   split at hk
   case isFalse=>cases hk
   rename_i hsz
   injection hk with hk;subst hk
   intro cs ds us zs i b h1 h2 hb
   obtain ⟨l1,l2⟩:=eqCells_length hb
   have m1:=h1.part l1
   have m2:=h2.part l2
   have hfo:P.fieldsOf t=fs:=by simp[Program.fieldsOf,hfs]
   obtain ⟨inf,hinf,hs⟩:=Option.map_eq_some_iff.1 hsz
   have hagg:(isAgg t).run P w=.ok true w:=by
    simp only[isAgg,Go.underlying,Sem.run_bind,run_program,Result.andThen_ok,hfs,Sem.run_pure]
   have hso:(sizeOf t).run P w=.ok ks'.length w:=by
    simp[sizeOf,typeInfo,hinf,hs]
   obtain ⟨d,rfl⟩:∃ d',d=d' + 1:=⟨d - 1,by omega⟩
   refine ⟨.agg (us.extract i (i + ks'.length)),.agg (zs.extract i (i + ks'.length)),by simp[Go.part,hagg,hso],by simp[Go.part,hagg,hso],?_⟩
   rw[run_equalIn_agg w (d + 1) t _ _ (by rw[hfo];exact hfs) hst,hfo]
   exact eqFields_run (fun t ks h=>eqT_run n d (by omega) t ks h) m1 m2 fs.toList 0 ks' b hks (by simpa using hb)
  ·rename_i td _ htd
   obtain ⟨k,h2,rfl⟩:=Option.map_eq_some_iff.1 hk
   exact eqLeaf_run htd h2
  ·cases hk
theorem ok_eqs(hok:HOK E h w)(hs:SOK E w s a){neg:Bool}{ks:List Nat}{x y:Operand}{x' y':Od}{t t1 t2 yt:TypeId}(ho:o.op=.binOp (if neg then .neq else .eql) t x y yt)(hx:od P t1 x=some x')(hy:od P t2 y=some y')
  (hk:cmpKinds P t=some ks) {v:AV}{h':Hp}(hb:evV s h (.eqs neg ks x' y')=some (v,h')):Yields P o a E h.length w v h':=by
 have h1:=od_ok hs hx
 have h2:=od_ok hs hy
 simp only[evV,Option.map_eq_some_iff] at hb
 obtain ⟨b,hb,he⟩:=hb
 injection he with e1 e2;subst e1;subst e2
 unfold eqS at hb
 split at hb
 case h_2 =>
  split at hb
  ·rename_i hks
   subst hks
   unfold cmpKinds at hk
   split at hk
   case h_2=>cases hk
   split at hk
   case isFalse=>cases hk
   have:=kindsT_lt _ _ hk 9 (by simp)
   omega
  ·cases hb
 rename_i cs ds ex ey
 rw[ex] at h1
 rw[ey] at h2
 obtain ⟨us,hu,u1,u2⟩:=h1.agg_inv
 obtain ⟨zs,hz,z1,z2⟩:=h2.agg_inv
 unfold cmpKinds at hk
 split at hk
 case h_2=>cases hk
 rename_i fs hfs
 split at hk
 case isFalse=>cases hk
 rename_i hc2
 simp only[kindsT,hfs] at hk
 split at hk
 case isFalse=>cases hk
 rename_i hc1
 split at hk
 case h_2=>cases hk
 rename_i ks' hks
 split at hk
 case isFalse=>cases hk
 injection hk with hk;subst hk
 have hfo:P.fieldsOf t=fs:=by simp[Program.fieldsOf,hfs]
 have hr:=eqFields_run (P:=P) (d:=9998) (fun t ks h=>eqT_run 3 9998 (by omega) t ks h) ⟨u1,u2⟩ ⟨z1,z2⟩ fs.toList 0 ks' b hks (by simpa using hb)
 have heq:(Op.equalIn 10000 t (.agg us) (.agg zs)).run P w=.ok b w:=by
  rw[run_equalIn_agg w 9999 t us zs (by rw[hfo];exact hfs) hc1,hfo]
  exact hr
 refine .still hok (u:=.bool (if neg then !b else b)) ?_ (.imm (.bool _))
 cases neg
 ·simp only[Bool.false_eq_true,if_false] at ho ⊢
  simp only[execOp,ho,hu,hz,Sem.run_bind,run_eqGuard_agg w _ t x y us zs hc2,Result.andThen_ok,run_eql_struct,heq,Sem.run_pure]
 ·simp only[if_true] at ho ⊢
  simp only[execOp,ho,hu,hz,Sem.run_bind,run_eqGuard_agg w _ t x y us zs hc2,Result.andThen_ok,run_neq_struct,heq,Sem.run_pure]
theorem ok_eqf(hok:HOK E h w)(hs:SOK E w s a){neg:Bool}{x y:Operand}{x' y':Od}{t t1 t2 yt:TypeId}{ps rs:Array TypeId}{vr:Bool}(ho:o.op=.binOp (if neg then .neq else .eql) t x y yt)(hx:od P t1 x=some x')(hy:od P t2 y=some y')
  (ht:P.underlying t=some (.func ps rs vr)) {v:AV}{h':Hp}(hb:evV s h (.eqs neg [9] x' y')=some (v,h')):Yields P o a E h.length w v h':=by
 have h1:=od_ok hs hx
 have h2:=od_ok hs hy
 simp only[evV,Option.map_eq_some_iff] at hb
 obtain ⟨b,hb,he⟩:=hb
 injection he with e1 e2;subst e1;subst e2
 have fin:∀ p q:Value,a.eval x=p→a.eval y=q→(∀ d,(Op.equalIn (d + 1) t p q).run P w=.ok b w)→(∀ op,(eqGuard op t x y p q).run P w=.ok () w)→(∀ r,(binOp .eql t p q).run P w=r↔((Op.equal t p q).run P w).andThen (fun b w=>.ok (.bool b) w)=r)→(∀ r,(binOp .neq t p q).run P w=r↔((Op.equal t p q).run P w).andThen (fun b w=>.ok (.bool (!b)) w)=r)→Yields P o a E h.length w (.bool (if neg then !b else b)) h:=by
  intro p q hp hq heq hg hbe hbn
  have heq:(Op.equal t p q).run P w=.ok b w:=heq 9999
  refine .still hok (u:=.bool (if neg then !b else b)) ?_ (.imm (.bool _))
  cases neg
  ·simp only[Bool.false_eq_true,if_false] at ho ⊢
   have:=(hbe (.ok (.bool b) w)).2 (by rw[heq];rfl)
   simp only[execOp,ho,hp,hq,Sem.run_bind,hg,Result.andThen_ok,this,Sem.run_pure]
  ·simp only[if_true] at ho ⊢
   have:=(hbn (.ok (.bool (!b)) w)).2 (by rw[heq];rfl)
   simp only[execOp,ho,hp,hq,Sem.run_bind,hg,Result.andThen_ok,this,Sem.run_pure]
 unfold eqS at hb
 split at hb
 ·rename_i as bs ex ey
  cases as<;>cases bs<;>simp[eqCells,eqKind] at hb
 rw[if_pos rfl] at hb
 split at hb
 ·rename_i ex ey
  injection hb with hb;subst hb
  rw[ex] at h1;rw[ey] at h2
  have hp:=h1.nilfn_inv
  have hq:=h2.nilfn_inv
  refine fin _ _ hp hq (fun d=>by simp[Op.equalIn,run_underlying ht]) (fun op=>by cases op<;>simp[eqGuard,Sem.run_pure]) (fun r=>by simp[binOp,Sem.run_bind,Sem.run_pure]) (fun r=>by simp[binOp,Sem.run_bind,Sem.run_pure])
 ·rename_i f cs ex ey
  injection hb with hb;subst hb
  rw[ex] at h1;rw[ey] at h2
  obtain ⟨us,hp,_⟩:=h1.fn_inv
  have hq:=h2.nilfn_inv
  refine fin _ _ hp hq (fun d=>by simp[Op.equalIn,run_underlying ht]) (fun op=>by cases op<;>simp[eqGuard,Sem.run_pure]) (fun r=>by simp[binOp,Sem.run_bind,Sem.run_pure]) (fun r=>by simp[binOp,Sem.run_bind,Sem.run_pure])
 ·cases hb
theorem run_equalIn_nil1{t el:TypeId}(ht:P.underlying t=some (.pointer el))(d:Nat)(q:Option Addr):(Op.equalIn (d + 1) t (.pointer none) (.pointer q)).run P w=.ok q.isNone w:=by
 simp[Op.equalIn,run_underlying ht]
theorem run_equalIn_nil2{t el:TypeId}(ht:P.underlying t=some (.pointer el))(d:Nat)(q:Option Addr):(Op.equalIn (d + 1) t (.pointer q) (.pointer none)).run P w=.ok q.isNone w:=by
 cases q<;>simp[Op.equalIn,run_underlying ht]
theorem ok_eqp(hok:HOK E h w)(hs:SOK E w s a){neg:Bool}{x y:Operand}{x' y':Od}{t t1 t2 yt el:TypeId}(ho:o.op=.binOp (if neg then .neq else .eql) t x y yt)(hx:od P t1 x=some x')(hy:od P t2 y=some y')
  (ht:P.underlying t=some (.pointer el)) {v:AV}{h':Hp}(hb:evV s h (.eqp neg x' y')=some (v,h')):Yields P o a E h.length w v h':=by
 have h1:=od_ok hs hx
 have h2:=od_ok hs hy
 simp only[evV,Option.map_eq_some_iff] at hb
 obtain ⟨b,hb,he⟩:=hb
 injection he with e1 e2;subst e1;subst e2
 have fin:∀ p q:Option Addr,a.eval x=.pointer p→a.eval y=.pointer q→(p=none∧b=q.isNone∨q=none∧b=p.isNone)→Yields P o a E h.length w (.bool (if neg then !b else b)) h:=by
  intro p q hp hq hpq
  have heq:(Op.equal t (.pointer p) (.pointer q)).run P w=.ok b w:=by
   rcases hpq with ⟨rfl,rfl⟩ | ⟨rfl,rfl⟩
   ·exact run_equalIn_nil1 ht 9999 q
   ·exact run_equalIn_nil2 ht 9999 p
  refine .still hok (u:=.bool (if neg then !b else b)) ?_ (.imm (.bool _))
  cases neg
  ·simp only[Bool.false_eq_true,if_false] at ho ⊢
   simp only[execOp,ho,hp,hq,Sem.run_bind,run_eqGuard_ptr,Result.andThen_ok,binOp,heq,Sem.run_pure]
  ·simp only[if_true] at ho ⊢
   simp only[execOp,ho,hp,hq,Sem.run_bind,run_eqGuard_ptr,Result.andThen_ok,binOp,heq,Sem.run_pure]
 have anp:∀ (z:AV) (u:Value),RV E w z u→(z=.nilp∨(∃ b o,z=.ptr b o)∨(∃ cs,z=.pro cs)∨∃ b i o,z=.eptr b i o)→∃ p:Option Addr,u=.pointer p∧(p.isNone↔z=.nilp):=by
  intro z u hz hk
  rcases hk with rfl | ⟨b,o,rfl⟩ | ⟨cs,rfl⟩ | ⟨b,i,o,rfl⟩
  ·exact ⟨none,hz.nilp_inv,by simp⟩
  ·obtain ⟨g,_,hp⟩:=hz.ptr_inv;exact ⟨_,hp,by simp⟩
  ·cases hz.pro_inv with | pro _ g o u hc hr=>exact ⟨_,rfl,by simp⟩
  ·obtain ⟨g,_,hp⟩:=hz.eptr_inv;exact ⟨_,hp,by simp⟩
 unfold eqP at hb
 split at hb<;>(try (cases hb;done))<;>rename_i ex ey<;>injection hb with hb<;>subst hb<;>rw[ex] at h1<;>rw[ey] at h2
 all_goals
  obtain ⟨p,hp,hpn⟩:=anp _ _ h1 (by simp)
  obtain ⟨q,hq,hqn⟩:=anp _ _ h2 (by simp)
  refine fin p q hp hq ?_
  cases p<;>cases q<;>simp_all
end
end Go.Ab
namespace Go.Ab
open Go Go.RowKit
variable {P:Program}
section
variable {E:Env}{w:World}{h:Hp}{s:Nat→AV}{a:Act}{o:Oper}
theorem foldl_set(off:Nat):∀ (vs:List Value) (k:Nat) (cells:Array Value),off + k + vs.length≤cells.size →
  ((vs.zipIdx k).foldl (fun (cs:Array Value) (p:Value×Nat)=>cs.setIfInBounds (off + p.2) p.1) cells).size=cells.size ∧
  ∀ m:Nat,((vs.zipIdx k).foldl (fun (cs:Array Value) (p:Value×Nat)=>cs.setIfInBounds (off + p.2) p.1) cells)[m]? = if off + k≤m∧m<off + k + vs.length then vs[m - (off + k)]? else cells[m]?
 | [],k,cells,_=>⟨rfl,fun m=>by simp;intro h1 h2;omega⟩
 | v::vs,k,cells,hl=>by
  simp only[List.length_cons] at hl
  obtain ⟨h1,h2⟩:=foldl_set off vs (k + 1) (cells.setIfInBounds (off + k) v) (by simp;omega)
  simp only[List.zipIdx_cons,List.foldl_cons]
  refine ⟨by simpa using h1,fun m=>?_⟩
  rw[h2 m]
  by_cases hm:m=off + k
  ·subst hm
   rw[if_neg (by omega),if_pos (by simp)]
   have:off + k<cells.size:=by omega
   simp[this]
  ·by_cases hm2:off + k≤m∧m<off + k + (v::vs).length
   ·rw[if_pos (by simp at hm2;omega),if_pos hm2,show m - (off + k)=(m - (off + (k + 1))) + 1 by omega]
    simp
   ·rw[if_neg (by simp at hm2;omega),if_neg hm2,Array.getElem?_setIfInBounds,if_neg (by omega)]
theorem fill1{z:List AV}{cells:Array Value}{v:AV}{u:Value}{e off:Nat}(hm:Match E w z cells)(hr:RV E w v u)(hf:v.fits e=true)(hl:off + esz e≤z.length) :
  u.cells.size=esz e∧off + u.cells.size≤cells.size∧Match E w (splice z off v) (u.cells.zipIdx.foldl (fun cs (c,j)=>cs.setIfInBounds (off + j) c) cells):=by
 obtain ⟨f1,f2,f3,f4,f5⟩:=hr.fits hf
 refine ⟨f1,by rw[f1,hm.1];exact hl,?_⟩
 have hfold:(u.cells.zipIdx.foldl (fun cs (c,j)=>cs.setIfInBounds (off + j) c) cells)=(u.cells.toList.zipIdx 0).foldl (fun (cs:Array Value) (p:Value×Nat)=>cs.setIfInBounds (off + p.2) p.1) cells:=by
  rw[← Array.foldl_toList,Array.toList_zipIdx]
 have hlen:u.cells.toList.length=esz e:=by simpa using f1
 obtain ⟨g1,g2⟩:=foldl_set off u.cells.toList 0 cells (by rw[hlen,hm.1];omega)
 rw[hfold]
 refine ⟨by rw[g1,hm.1,length_splice hf hl],fun i c x hc hx=>?_⟩
 rw[getElem?_splice' hf hl] at hc
 rw[g2 i,hlen] at hx
 split at hc
 ·rename_i hi
  rw[if_pos (by omega)] at hx
  exact f3 _ c x hc (by simpa using hx)
 ·rename_i hi
  rw[if_neg (by omega)] at hx
  exact hm.2 i c x hc hx
theorem fillS_ok(hs:SOK E w s a){fs:Array Field}{places:Array (Nat×Nat)}(hp:∀ (i:Nat) (f:Field),fs[i]? = some f→places[i]? = some (f.offset,P.cellsOf f.type)):∀ (ps:List (Nat×Operand)) (qs:List (Nat×Nat×Od)) (z z':List AV) (cells:Array Value),
  partsS P fs ps=some qs→Match E w z cells→fill s z qs=some z'→∃ cells',Instr.fill (places[·]?) cells (ps.map fun p=>(p.1,a.eval p.2))=some cells'∧Match E w z' cells'
 | [],qs,z,z',cells,hq,hm,hf=>by
  simp only[partsS,Option.some.injEq] at hq
  subst hq
  simp only[fill,Option.some.injEq] at hf
  subst hf
  exact ⟨cells,rfl,hm⟩
 | (i,x)::ps,qs,z,z',cells,hq,hm,hf=>by
  simp only[partsS] at hq
  split at hq
  case h_2=>cases hq
  rename_i f hfi
  split at hq
  case h_2=>cases hq
  rename_i e y qs' he hy hqs
  injection hq with hq;subst hq
  simp only[fill] at hf
  split at hf
  case isFalse=>cases hf
  rename_i hc
  obtain ⟨f1,f2,f3⟩:=fill1 hm (od_ok hs hy) hc.1 hc.2
  obtain ⟨cells',r1,r2⟩:=fillS_ok hs hp ps qs' _ z' _ hqs f3 hf
  obtain ⟨inf,hi,hsz⟩:=ecode_info he
  have hco:P.cellsOf f.type=esz e:=by simp[Program.cellsOf,hi,hsz]
  refine ⟨cells',?_,r2⟩
  simp only[List.map_cons,Instr.fill,hp i f hfi,hco]
  rw[if_neg (by simp only[f1,ne_eq,not_true_eq_false,false_or,Bool.or_eq_true,decide_eq_true_eq];omega)]
  exact r1
theorem fillA_ok(hs:SOK E w s a){t:TypeId}{e:Nat}:∀ (ps:List (Nat×Operand)) (qs:List (Nat×Nat×Od)) (z z':List AV) (cells:Array Value),
  partsA P t e ps=some qs→Match E w z cells→fill s z qs=some z'→∃ cells',Instr.fill (fun i=>some (i * esz e,esz e)) cells (ps.map fun p=>(p.1,a.eval p.2))=some cells'∧Match E w z' cells'
 | [],qs,z,z',cells,hq,hm,hf=>by
  simp only[partsA,Option.some.injEq] at hq
  subst hq
  simp only[fill,Option.some.injEq] at hf
  subst hf
  exact ⟨cells,rfl,hm⟩
 | (i,x)::ps,qs,z,z',cells,hq,hm,hf=>by
  simp only[partsA] at hq
  split at hq
  case h_2=>cases hq
  rename_i y qs' hy hqs
  injection hq with hq;subst hq
  simp only[fill] at hf
  split at hf
  case isFalse=>cases hf
  rename_i hc
  obtain ⟨f1,f2,f3⟩:=fill1 hm (od_ok hs hy) hc.1 hc.2
  obtain ⟨cells',r1,r2⟩:=fillA_ok hs ps qs' _ z' _ hqs f3 hf
  refine ⟨cells',?_,r2⟩
  simp only[List.map_cons,Instr.fill]
  rw[if_neg (by simp only[f1,ne_eq,not_true_eq_false,false_or,Bool.or_eq_true,decide_eq_true_eq];omega)]
  exact r1
theorem run_places{fs:Array Field}(hf:∀ f ∈ fs.toList,(P.info? f.type).isSome=true)(w:World) :
  (fs.mapM (m:=Sem) fun f=>do pure (f.offset,← sizeOf f.type)).run P w=.ok (fs.map fun f=>(f.offset,P.cellsOf f.type)) w:=by
 rw[Array.mapM_eq_mapM_toList]
 have:∀ l:List Field,(∀ f ∈ l,(P.info? f.type).isSome=true)→(l.mapM (m:=Sem) fun f=>do pure (f.offset,← sizeOf f.type)).run P w=.ok (l.map fun f=>(f.offset,P.cellsOf f.type)) w:=by
  intro l
  induction l with
  | nil=>intro _;simp
  | cons f l ih =>
   intro hl
   obtain ⟨i,hi⟩:=Option.isSome_iff_exists.1 (hl f (by simp))
   have h1:(sizeOf f.type).run P w=.ok (P.cellsOf f.type) w:=by simp[sizeOf,typeInfo,hi,Program.cellsOf]
   simp only[List.mapM_cons,Sem.run_bind,h1,Result.andThen_ok,Sem.run_pure,ih (fun f hf=>hl f (by simp[hf])),List.map_cons]
 simp only[Sem.run_map,this fs.toList hf,Result.andThen_ok]
 congr 1
 apply Array.ext'
 simp
theorem zero_match{t:TypeId}{z:List (Nat×AV)}(hz:zero? P t=some z):∃ v,(zeroValue t).run P w=.ok v w∧Match E w (expand z) v.cells:=by
 obtain ⟨i,v,hi,hv,hl,hr⟩:=zero?_ok hz
 exact ⟨v,by simp[zeroValue,typeInfo,hi,hv],hl,fun j c u hc hu=>.imm (hr E.S w j c u hc hu)⟩
theorem ok_buildS(hok:HOK E h w)(hs:SOK E w s a){t:TypeId}{fs:Array Field}{ps:Array (Nat×Operand)}{qs:List (Nat×Nat×Od)}{z:List (Nat×AV)}(ho:o.op=.build t ps)(hz:zero? P t=some z)(ht:P.underlying t=some (.struct fs))
  (hf:fs.toList.all (fun f=>(P.info? f.type).isSome)=true) (hq:partsS P fs ps.toList=some qs) {v:AV}{h':Hp}(hb:evV s h (.build z qs)=some (v,h')):Yields P o a E h.length w v h':=by
 simp only[evV,Option.map_eq_some_iff] at hb
 obtain ⟨cs,hfill,hb⟩:=hb
 injection hb with e1 e2;subst e1;subst e2
 obtain ⟨zv,hzv,hm⟩:=zero_match (P:=P) (E:=E) (w:=w) hz
 obtain ⟨cells',r1,r2⟩:=fillS_ok (P:=P) hs (places:=fs.map fun f=>(f.offset,P.cellsOf f.type)) (fun i f hi=>by rw[Array.getElem?_map,hi];rfl) ps.toList qs _ cs _ hq hm hfill
 refine .still hok (u:=.agg cells') ?_ (.agg _ _ r2.1 r2.2)
 have hpl:=run_places (P:=P) (List.all_eq_true.1 hf) w
 simp only[execOp,ho,Instr.build,Sem.run_bind,hzv,Result.andThen_ok,run_underlying ht,hpl]
 rw[show ((ps.map fun x=>match x with | (i,x)=>(i,a.eval x)).toList)=ps.toList.map fun p=>(p.1,a.eval p.2) from by simp]
 rw[r1]
 rfl
theorem ok_buildA(hok:HOK E h w)(hs:SOK E w s a){t el:TypeId}{n e:Nat}{ps:Array (Nat×Operand)}{qs:List (Nat×Nat×Od)}{z:List (Nat×AV)}(ho:o.op=.build t ps)(hz:zero? P t=some z)(ht:P.underlying t=some (.array n el))
  (he:ecode P el=some e) (hq:partsA P el e ps.toList=some qs) {v:AV}{h':Hp}(hb:evV s h (.build z qs)=some (v,h')):Yields P o a E h.length w v h':=by
 simp only[evV,Option.map_eq_some_iff] at hb
 obtain ⟨cs,hfill,hb⟩:=hb
 injection hb with e1 e2;subst e1;subst e2
 obtain ⟨zv,hzv,hm⟩:=zero_match (P:=P) (E:=E) (w:=w) hz
 obtain ⟨cells',r1,r2⟩:=fillA_ok (P:=P) hs ps.toList qs _ cs _ hq hm hfill
 refine .still hok (u:=.agg cells') ?_ (.agg _ _ r2.1 r2.2)
 simp only[execOp,ho,Instr.build,Sem.run_bind,hzv,Result.andThen_ok,run_underlying ht,run_sizeOf_e he]
 rw[show ((ps.map fun x=>match x with | (i,x)=>(i,a.eval x)).toList)=ps.toList.map fun p=>(p.1,a.eval p.2) from by simp]
 rw[r1]
 rfl
def EMatch(E:Env)(w:World)(e:Nat)(xs:List AV)(us:Array Value):Prop :=
 us.size=xs.length * esz e∧∀ (i:Nat) x,xs[i]? = some x→x.fits e=true∧∃ u:Value,RV E w x u∧u.cells.size=esz e∧∀ (j:Nat) c,u.cells[j]? = some c→us[i * esz e + j]? = some c
theorem zeroE_ok{t:TypeId}{e:Nat}{z:AV}(he:ecode P t=some e)(hz:zeroE P t=some z):∃ v:Value,(∀ w,(zeroValue t).run P w=.ok v w)∧(∀ S w,RI S w z v)∧z.fits e=true∧v.cells.size=esz e:=by
 unfold zeroE at hz
 rw[he] at hz
 split at hz
 case h_2=>cases hz
 rename_i e' zz v0 h0 hzz hv0
 injection h0 with h0;subst h0
 obtain ⟨i,v,k1,k2,k3,k5⟩:=zero?_ok hzz
 rw[k1] at hv0
 simp only[Option.bind_some,k2,Option.some.injEq] at hv0
 subst hv0
 have k4:∀ c ∈ expand zz,c.one=true:=by
  unfold zero? at hzz
  split at hzz
  ·split at hzz
   ·injection hzz with hzz;subst hzz
    rename_i z' v' _ hv' hrel
    rw[k1] at hv'
    simp only[Option.bind_some,k2,Option.some.injEq] at hv'
    subst hv'
    exact relCs_one hrel
   ·cases hzz
  ·cases hzz
 split at hz
 case isFalse=>cases hz
 rename_i hc
 obtain ⟨hc1,hc2⟩:=hc
 have hrun:∀ w,(zeroValue t).run P w=.ok v w:=fun w=>by simp[zeroValue,typeInfo,k1,k2]
 split at hz
 ·rename_i h00
  subst h00
  split at hz
  case h_2=>cases hz
  rename_i x hx
  injection hz with hz;subst hz
  rw[hx] at k3 k4 k5
  have hxo:=k4 x (by simp)
  have hvc:v.cells = #[v]:=by cases v<;>first | rfl | (simp[vAgg] at hc1)
  have hr0:=fun S w=>k5 S w 0 x v rfl (by rw[hvc];rfl)
  refine ⟨v,hrun,hr0,?_,hc2⟩
  cases x<;>first | rfl | (simp[AV.one] at hxo)
 ·rename_i h00
  injection hz with hz;subst hz
  cases v<;>simp only[vAgg,bne_iff_ne,ne_eq,eq_comm] at hc1<;>first
   | (exfalso;revert hc1;simp[h00];done)
   | skip
  rename_i us
  simp only[Value.cells] at k3 k5 hc2
  have hez:esz e=e:=by simp[esz,h00]
  refine ⟨.agg us,hrun,fun S w=>.agg _ us k3 (k5 S w),?_,hc2⟩
  simp only[AV.fits,Bool.and_eq_true,beq_iff_eq,bne_iff_ne,ne_eq,onesB,List.all_eq_true]
  exact ⟨⟨by omega,h00⟩,k4⟩
theorem replicate_match{e n:Nat}{z:AV}{v:Value}(hr:RV E w z v)(hf:z.fits e=true)(hz:v.cells.size=esz e) :
  EMatch E w e (List.replicate n z) ((Array.range (n * esz e)).map (v.cells[· % v.cells.size]!)):=by
 refine ⟨by simp,fun i x hx=>?_⟩
 have hi:i<n:=by have:=(List.getElem?_eq_some_iff.1 hx).1;simpa using this
 simp[List.getElem?_replicate,hi] at hx
 subst hx
 refine ⟨hf,v,hr,hz,fun j c hc=>?_⟩
 have hj:j<esz e:=by have:=(Array.getElem?_eq_some_iff.1 hc).1;omega
 have hlt:i * esz e + j<n * esz e:=by
  have:=Nat.mul_le_mul_right (esz e) hi
  rw[Nat.succ_mul] at this
  omega
 have hmod:(i * esz e + j) % esz e=j:=by rw[Nat.mul_comm,Nat.mul_add_mod,Nat.mod_eq_of_lt hj]
 have hjv:j<v.cells.size:=by omega
 rw[Array.getElem?_eq_getElem hjv] at hc
 injection hc with hc
 rw[Array.getElem?_map,Array.getElem?_range]
 simp only[hlt,if_true,Option.map_some,hz,hmod]
 rw[getElem!_pos v.cells j hjv,hc]
theorem fillE_ok(hs:SOK E w s a){t:TypeId}{e:Nat}(he:ecode P t=some e):∀ (ps:List (Nat×Operand)) (qs:List (Nat×Od)) (z z':List AV) (cells:Array Value),
  partsL P t ps=some qs→EMatch E w e z cells→fillE s e z qs=some z'→∃ cells',Instr.fill (fun i=>some (i * esz e,esz e)) cells (ps.map fun p=>(p.1,a.eval p.2))=some cells'∧EMatch E w e z' cells'∧z'.length=z.length
 | [],qs,z,z',cells,hq,hm,hf=>by
  simp only[partsL,Option.some.injEq] at hq
  subst hq
  simp only[fillE,Option.some.injEq] at hf
  subst hf
  exact ⟨cells,rfl,hm,rfl⟩
 | (i,x)::ps,qs,z,z',cells,hq,hm,hf=>by
  simp only[partsL] at hq
  split at hq
  case h_2=>cases hq
  rename_i y qs' hy hqs
  injection hq with hq;subst hq
  simp only[fillE] at hf
  split at hf
  case isFalse=>cases hf
  rename_i hc
  obtain ⟨hfit,hil⟩:=hc
  have hrv:=od_ok hs hy
  obtain ⟨f1,f2,f3,f4,f5⟩:=hrv.fits hfit
  have hmul:(i + 1) * esz e≤z.length * esz e:=Nat.mul_le_mul_right _ hil
  rw[Nat.succ_mul] at hmul
  have hsz:=hm.1
  have hlen:(a.eval x).cells.toList.length=esz e:=by simpa using f1
  obtain ⟨g1,g2⟩:=foldl_set (i * esz e) (a.eval x).cells.toList 0 cells (by rw[hlen];omega)
  have hfold:((a.eval x).cells.zipIdx.foldl (fun cs (c,j)=>cs.setIfInBounds (i * esz e + j) c) cells)=((a.eval x).cells.toList.zipIdx 0).foldl (fun (cs:Array Value) (p:Value×Nat)=>cs.setIfInBounds (i * esz e + p.2) p.1) cells:=by
   rw[← Array.foldl_toList,Array.toList_zipIdx]
  have hm':EMatch E w e (z.set i (y.ev s)) ((a.eval x).cells.zipIdx.foldl (fun cs (c,j)=>cs.setIfInBounds (i * esz e + j) c) cells):=by
   rw[hfold]
   refine ⟨by rw[g1,hsz];simp,fun k v hv=>?_⟩
   rw[List.getElem?_set] at hv
   by_cases hki:i=k
   ·subst hki
    rw[if_pos rfl,if_pos hil] at hv
    injection hv with hv;subst hv
    refine ⟨hfit,a.eval x,hrv,f1,fun j c hc=>?_⟩
    have hj:j<esz e:=by have:=(Array.getElem?_eq_some_iff.1 hc).1;omega
    rw[g2,hlen,if_pos (by omega),show i * esz e + j - (i * esz e + 0)=j by omega]
    simpa using hc
   ·rw[if_neg hki] at hv
    obtain ⟨m1,u,m2,m3,m4⟩:=hm.2 k v hv
    refine ⟨m1,u,m2,m3,fun j c hc=>?_⟩
    have hj:j<esz e:=by have:=(Array.getElem?_eq_some_iff.1 hc).1;omega
    rw[g2,hlen,if_neg (fun hin=>?_)]
    ·exact m4 j c hc
    ·rcases Nat.lt_or_gt_of_ne hki with hlt | hgt
     ·have:=Nat.mul_le_mul_right (esz e) hlt
      rw[Nat.succ_mul] at this
      omega
     ·have:=Nat.mul_le_mul_right (esz e) hgt
      rw[Nat.succ_mul] at this
      omega
  obtain ⟨cells',r1,r2,r3⟩:=fillE_ok hs he ps qs' _ z' _ hqs hm' hf
  refine ⟨cells',?_,r2,by simpa using r3⟩
  simp only[List.map_cons,Instr.fill]
  rw[if_neg (by simp only[f1,ne_eq,not_true_eq_false,false_or,Bool.or_eq_true,decide_eq_true_eq];omega)]
  exact r1
theorem ok_mkslF(hok:HOK E h w)(hs:SOK E w s a){t el:TypeId}{n e:Nat}{z:AV}{ps:Array (Nat×Operand)}{qs:List (Nat×Od)}(ho:o.op=.buildSlice t n ps)(ht:P.underlying t=some (.slice el))(he:ecode P el=some e)
  (hz:zeroE P el=some z) (hn:n * esz e≤2 ^ 24) (hq:partsL P el ps.toList=some qs) {v:AV}{h':Hp}(hb:(match fillE s e (List.replicate n z) qs with | some xs=>(freeze h (.tup xs)).map (fun p=>match p.1 with | .tup xs=>(AV.sl e true xs,p.2) | v=>(v,p.2)) | none=>none)=some (v,h')):Yields P o a E h.length w v h':=by
 obtain ⟨zv,z1,z2,z3,z4⟩:=zeroE_ok he hz
 split at hb
 case h_2=>cases hb
 rename_i xs hfill
 simp only[Option.map_eq_some_iff] at hb
 obtain ⟨⟨fz,h1⟩,hfr,hb⟩:=hb
 have hm0:=replicate_match (E:=E) (w:=w) (n:=n) (.imm (z2 E.S w)) z3 z4
 obtain ⟨cells,r1,r2,r3⟩:=fillE_ok (P:=P) hs he ps.toList qs _ xs _ hq hm0 hfill
 have hxl:xs.length=n:=by simpa using r3
 have hu:∃ uf:Nat→Value,∀ (i:Nat) x,xs[i]? = some x→x.fits e=true∧RV E w x (uf i)∧(uf i).cells.size=esz e∧∀ (j:Nat) c,(uf i).cells[j]? = some c→cells[i * esz e + j]? = some c:=by
  have:∀ i:Nat,∃ v:Value,∀ x,xs[i]? = some x→x.fits e=true∧RV E w x v∧v.cells.size=esz e∧∀ (j:Nat) c,v.cells[j]? = some c→cells[i * esz e + j]? = some c:=fun i=>by
   cases hx:xs[i]? with
   | none=>exact ⟨undef,fun y h=>by cases h⟩
   | some x =>
    obtain ⟨m1,u,m2,m3,m4⟩:=r2.2 i x hx
    exact ⟨u,fun y e=>by injection e with e;subst e;exact ⟨m1,m2,m3,m4⟩⟩
  exact ⟨fun i=>(this i).choose,fun i=>(this i).choose_spec⟩
 obtain ⟨uf,huf⟩:=hu
 have htup:RV E w (.tup xs) (.tuple ((List.range xs.length).map uf).toArray):=by
  refine .tup xs _ (by simp) fun i c u hc hu=>?_
  have hi:i<xs.length:=(List.getElem?_eq_some_iff.1 hc).1
  simp[hi] at hu
  subst hu
  exact (huf i c hc).2.1
 obtain ⟨E1,k1,k2,k3,k4,k5⟩:=freeze_ok hok htup hfr
 have m:=More.alloc w cells el
 obtain ⟨l1,l2⟩:=k1.more m
 have hext:=(k2 h.length).trans (l2 h1.length) (Nat.le_of_eq k4.symm)
 let E2:Env:={ E1 with S:=fun g o=>E1.S g o∨g=w.heap.size }
 have hkept:Kept E1.S E2.S (w.alloc (.cells cells el)) (w.alloc (.cells cells el)):=⟨fun _ _ s=>.inl s,fun _ _ _=>rfl,fun _ _ _ _ _ e=>e,fun _ _ _ _=>rfl⟩
 have hE2:∀ n,Ext n E1 (w.alloc (.cells cells el)) E2 (w.alloc (.cells cells el)):=fun n=>⟨Blw.refl _ _,rfl,hkept,fun g o s=>by
  rcases s with s | rfl
  ·exact .inl s
  ·exact .inr k1.size,fun b r _ e=>⟨e,rfl,rfl⟩⟩
 have hok2:HOK E2 h1 (w.alloc (.cells cells el)):=by
  refine ⟨fun b x hx=>BOK.ext (List.getElem?_eq_some_iff.1 hx).1 l1.dom (hE2 _) (fun _ _ _=>rfl) (l1.blocks b x hx),l1.dom,fun b x g hx hal e=>?_,l1.inj,fun g o s=>?_,l1.size⟩
  ·obtain ⟨q1,q2,q3⟩:=l1.own b x g hx hal e
   refine ⟨q1,q2,fun o s=>?_⟩
   rcases s with s | rfl
   ·exact q3 o s
   ·have:=(k1.own b x _ hx hal e).2.1
    omega
  ·rcases s with s | rfl
   ·exact l1.old g o s
   ·simp
 have hrun:(execOp a.eval o).run P w=.ok (.value (.slice (some ⟨w.heap.size,0,none⟩) n n)) (w.alloc (.cells cells el)):=by
  have hmap:(ps.map fun x=>match x with | (i,x)=>(i,a.eval x)).toList=ps.toList.map fun p=>(p.1,a.eval p.2):=by simp
  simp only[execOp,ho,Instr.buildSlice,Sem.run_bind,run_underlying ht,Result.andThen_ok,run_sizeOf_e he]
  rw[if_neg (by omega)]
  by_cases h0:n * esz e=0
  ·have hr0:(Array.map (fun x=>(#[]:Array Value)[x % (#[]:Array Value).size]!) (Array.range (n * esz e)))=(Array.range (n * esz e)).map (zv.cells[· % zv.cells.size]!):=by simp[h0]
   simp only[if_pos h0,Sem.run_bind,Sem.run_pure,Result.andThen_ok]
   rw[hmap,hr0,r1]
   simp[newRow]
  ·simp only[if_neg h0,Sem.run_bind,Sem.run_pure,Result.andThen_ok,z1]
   rw[hmap,r1]
   simp[newRow]
 have hfx:∃ ys,fz=.tup ys∧ys.length=xs.length∧(∀ (i:Nat) y,ys[i]? = some y→y.fits e=true):=by
  unfold freeze at hfr
  split at hfr
  ·injection hfr with hfr;injection hfr with e1 e2;subst e1
   exact ⟨xs,rfl,rfl,fun i y hy=>(huf i y hy).1⟩
  ·split at hfr
   ·rename_i y hy
    injection hfr with hfr;injection hfr with e1 e2;subst e1
    obtain ⟨m,hd⟩:∃ m,deep=m + 1:=⟨11,rfl⟩
    rw[hd] at hy
    simp only[imm,Option.map_eq_some_iff] at hy
    obtain ⟨ys,hys,rfl⟩:=hy
    refine ⟨ys,rfl,(omap_some hys).1,fun i y hyi=>?_⟩
    obtain ⟨x,hx,hi⟩:=omap_back hys i y hyi
    exact imm_fits hi (shape_of_fits (huf i x hx).1)
   ·cases hfr
 obtain ⟨ys,rfl,hyl,hyf⟩:=hfx
 injection hb with e1 e2;subst e1;subst e2
 refine ⟨_,_,E2,_,hrun,.inl rfl,hok2,hext.trans (hE2 h1.length) (by rw[k4];exact Nat.le_refl _),.imm ?_⟩
 cases k3 with
 | tup _ us q1 q2 =>
  have hy2:∀ (i:Nat) y,ys[i]? = some y→RI E1.S w y (uf i):=fun i y hy=>by
   have hi:i<ys.length:=(List.getElem?_eq_some_iff.1 hy).1
   have hix:i<xs.length:=by omega
   exact q2 i y (uf i) hy (by simp[hix])
  have hnm:n=ys.length:=by omega
  subst hnm
  refine .sl e true ys _ _ w.heap.size 0 uf (Nat.le_refl _) ?_ (fun _=>rfl) (.inr rfl) hyf (fun i y hy j c hc=>⟨.inr rfl,?_⟩) (fun i y hy=>((hy2 i y hy).kept (l2 0).kept).kept hkept) ?_
  ·unfold maxLen
   have:=Nat.le_mul_of_pos_right ys.length (esz_pos e)
   have h24:ys.length≤2 ^ 24:=Nat.le_trans this hn
   exact Nat.le_trans h24 (by decide)
  ·have hi:i<ys.length:=(List.getElem?_eq_some_iff.1 hy).1
   have hix:i<xs.length:=by omega
   have:=(huf i xs[i] (List.getElem?_eq_getElem hix)).2.2.2 j c hc
   rw[World.cell?_alloc_new]
   simpa using this
  ·exact fun _ _ k=>not_frozen_new w _ _ k
theorem ok_mkslR(hok:HOK E h w)(hs:SOK E w s a){t el:TypeId}{n e:Nat}{z:AV}{ps:Array (Nat×Operand)}{qs:List (Nat×Od)}(ho:o.op=.buildSlice t n ps)(ht:P.underlying t=some (.slice el))(he:ecode P el=some e)
  (hz:zeroE P el=some z) (hn:n * esz e≤2 ^ 24) (hq:partsL P el ps.toList=some qs) {xs:List AV}(hfill:fillE s e (List.replicate n z) qs=some xs):Yields P o a E h.length w (.row e h.length 0 n) (h++[.els e xs]):=by
 obtain ⟨zv,z1,z2,z3,z4⟩:=zeroE_ok he hz
 have hm0:=replicate_match (E:=E) (w:=w) (n:=n) (.imm (z2 E.S w)) z3 z4
 obtain ⟨cells,r1,r2,r3⟩:=fillE_ok (P:=P) hs he ps.toList qs _ xs _ hq hm0 hfill
 have hxl:xs.length=n:=by simpa using r3
 have hu:∃ uf:Nat→Value,∀ (i:Nat) x,xs[i]? = some x→x.fits e=true∧RV E w x (uf i)∧(uf i).cells.size=esz e∧∀ (j:Nat) c,(uf i).cells[j]? = some c→cells[i * esz e + j]? = some c:=by
  have:∀ i:Nat,∃ v:Value,∀ x,xs[i]? = some x→x.fits e=true∧RV E w x v∧v.cells.size=esz e∧∀ (j:Nat) c,v.cells[j]? = some c→cells[i * esz e + j]? = some c:=fun i=>by
   cases hx:xs[i]? with
   | none=>exact ⟨undef,fun y h=>by cases h⟩
   | some x =>
    obtain ⟨m1,u,m2,m3,m4⟩:=r2.2 i x hx
    exact ⟨u,fun y e=>by injection e with e;subst e;exact ⟨m1,m2,m3,m4⟩⟩
  exact ⟨fun i=>(this i).choose,fun i=>(this i).choose_spec⟩
 obtain ⟨uf,huf⟩:=hu
 have hrun:(execOp a.eval o).run P w=.ok (.value (.slice (some ⟨w.heap.size,0,none⟩) n n)) (w.alloc (.cells cells el)):=by
  have hmap:(ps.map fun x=>match x with | (i,x)=>(i,a.eval x)).toList=ps.toList.map fun p=>(p.1,a.eval p.2):=by simp
  simp only[execOp,ho,Instr.buildSlice,Sem.run_bind,run_underlying ht,Result.andThen_ok,run_sizeOf_e he]
  rw[if_neg (by omega)]
  by_cases h0:n * esz e=0
  ·have hr0:(Array.map (fun x=>(#[]:Array Value)[x % (#[]:Array Value).size]!) (Array.range (n * esz e)))=(Array.range (n * esz e)).map (zv.cells[· % zv.cells.size]!):=by simp[h0]
   simp only[if_pos h0,Sem.run_bind,Sem.run_pure,Result.andThen_ok]
   rw[hmap,hr0,r1]
   simp[newRow]
  ·simp only[if_neg h0,Sem.run_bind,Sem.run_pure,Result.andThen_ok,z1]
   rw[hmap,r1]
   simp[newRow]
 have hm:=More.alloc w cells el
 have hex:=hok.ext_more hm (some w.heap.size) e n
 have hcs:cells.size=n * esz e:=by rw[r2.1,hxl]
 have hpos:=esz_pos e
 have hn2:n≤maxLen:=by
  have h1:n * 1≤n * esz e:=Nat.mul_le_mul_left _ hpos
  unfold maxLen
  omega
 refine ⟨_,_,_,_,hrun,.inl rfl,hok.push hm (some w.heap.size) e n (.els e xs) ⟨by simp,.inr ⟨w.heap.size,cells,el,(0,0),by simp,?_,fun o _=>by simp,by simpa using hcs,by simp;omega,by simpa using hn2,?_,fun i v hv=>?_⟩⟩ (fun g hg=>by injection hg with hg;subst hg;simp),hex,.row e h.length 0 n w.heap.size n _ (by simp) (by simp) (.inl (by simp)) (Nat.le_refl _) (by simp) (by simpa using hn2)⟩
 ·first | exact heap_alloc_new w _ | simp[World.alloc]
 ·rw[hcs,hxl];exact Nat.le_refl _
 ·obtain ⟨q1,q2,q3,q4⟩:=huf i v hv
  exact ⟨shape_of_fits q1,uf i,q2.ext hex hok.dom,q3,q4⟩
end
end Go.Ab
