/-
  The abstract machine: a pure, deterministic evaluator over values in which slices that are only read are lists.
  No program stands here. Its soundness for the model's own runs is proved in the later parts.
-/
import Derived.WalkKit
set_option linter.unusedSimpArgs false
set_option linter.unusedVariables false
namespace Go.Ab

/-- Abstract values. `sl e full xs`: a slice whose cells are never written again (`full`: its capacity is its length). `pro cs`: an address from which these cells can be read.
`ptr b off`: an address in block b of the abstract heap; `eptr b i off`: in element i of a row; `row e b off len`: a slice over the row b; `arow`: a slice over the cells of block b.
`crow`: a row whose capacity is known.
`fr e xs`: a slice in new memory that is handed over whole. e: 0: elements of one cell; k+1: structs or arrays of k+1 cells. -/
inductive AV where
  | junk
  | bool (b : Bool)
  | int (k : IntKind) (n : Int)
  | str (s : List UInt8)
  | nilp
  | ptr (b off : Nat)
  | eptr (b i off : Nat)
  | pro (cs : List AV)
  | sl (e : Nat) (full : Bool) (xs : List AV)
  | row (e b off len : Nat)
  | arow (e b off len : Nat)
  | crow (e b off len cap : Nat)
  | fr (e : Nat) (xs : List AV)
  | fn (f : Nat) (cs : List AV)
  | nilfn
  | agg (cs : List AV)
  | tup (cs : List AV)
  | mref (b : Nat)
  | mp (ks vs : List AV)
  | nilmp
  deriving Inhabited

/-- A block of the abstract heap: cells, a row of elements, a map. -/
inductive HB where
  | dead
  | cel (cs : List AV)
  | els (e : Nat) (xs : List AV)
  | map (ks vs : List AV)
  deriving Inhabited

abbrev Hp := List HB

def esz (e : Nat) : Nat := if e = 0 then 1 else e

/-- The cells of a value: a struct or an array is the row of its cells. -/
def AV.cells : AV → List AV
  | .agg cs => cs
  | v => [v]

/-- May this value stand in one cell? -/
def AV.one : AV → Bool
  | .junk | .agg _ | .tup _ | .fr _ _ => false
  | _ => true

def onesB (cs : List AV) : Bool := cs.all AV.one

/-- A value of one cell, or of e cells. -/
def AV.fits (e : Nat) : AV → Bool
  | .agg cs => e == cs.length && e != 0 && onesB cs
  | v => e == 0 && v.one

/-- What stands at an offset in cells: one cell, or e of them. -/
def pick? (e off : Nat) (cs : List AV) : Option AV :=
  if e = 0 then cs[off]? else if off + e ≤ cs.length then some (.agg ((cs.drop off).take e)) else none

/-- n elements, out of their cells. -/
def elems (e : Nat) : Nat → List AV → Option (List AV)
  | 0, _ => some []
  | n + 1, cs => match pick? e 0 cs, elems e n (cs.drop (esz e)) with
    | some x, some xs => some (x :: xs)
    | _, _ => none

/-- Operands. -/
inductive Od where
  | t (i : Nat)
  | c (v : AV)
  deriving Inhabited

def Od.ev (s : Nat → AV) : Od → AV
  | .t i => s i
  | .c v => v

/-- Operations. -/
inductive Op1 where
  | mv (x : Od)
  | pick (c a b : Od)
  | box (x : Od)
  | alloc (z : List (Nat × AV))
  | build (z : List (Nat × AV)) (ps : List (Nat × Nat × Od))
  | mksl (e n : Nat) (z : AV) (ps : List (Nat × Od))
  | mkslp (e n : Nat) (z : AV) (ps : List (Nat × Od))
  | load (e : Nat) (a : Od)
  | store (e : Nat) (a v : Od)
  | nilchk (x : Od)
  | bin (op : BinOp) (x y : Od)
  | binb (op : BinOp) (x y : Od)
  | eqs (neg : Bool) (ks : List Nat) (x y : Od)
  | eqp (neg : Bool) (x y : Od)
  | un (op : UnOp) (x : Od)
  | cint (k : IntKind) (x : Od)
  | cstr (x : Od)
  | cbytes (x : Od)
  | mkfn (f : Nat) (caps : List Od)
  | mkslc (e bytes : Nat) (z : AV) (len cap : Od)
  | slice (e : Nat) (x : Od) (lo hi : Option Od)
  | sslice (x : Od) (lo hi : Option Od)
  | aslice (e n : Nat) (x : Od) (lo hi : Option Od)
  | faddr (off : Nat) (x : Od)
  | fld (off e : Nat) (x : Od)
  | iaddr (e : Nat) (x i : Od)
  | aiaddr (e n : Nat) (x i : Od)
  | idx (e n : Nat) (x i : Od)
  | sidx (x i : Od)
  | ext (x : Od) (i : Nat)
  | call (f : Od) (args : List Od)
  | len (k : Nat) (x : Od)
  | alen (n : Nat)
  | maxmin (mx : Bool) (x : Od) (xs : List Od)
  | append (e bytes : Nat) (x y : Od)
  | mkmap
  | lookup (z : AV) (ok : Bool) (m k : Od)
  | mapset (m k v : Od)
  | isnil (neg : Bool) (x : Od)
  | cap (x : Od)
  | copy (e : Nat) (x y : Od)
  | clear (e : Nat) (z : AV) (x : Od)
  | appz (e bytes : Nat) (z : AV) (x n : Od)
  | ovl (x y : Od)
  | slice3 (e : Nat) (x : Od) (lo hi mx : Option Od)
  | bad
  deriving Inhabited

/-- An operation with the slot that it writes and its guard (a slot, and what it must hold). -/
structure Ins where
  d : Option Nat
  g : Option (Nat × Bool)
  o : Op1
  deriving Inhabited

/-- A region whose order is drawn: what is done, and the orders that there are behind it. -/
inductive RT where
  | run (is : List Ins)
  | fork (is : List Ins) (a b : RT)

/-- Code. -/
inductive C where
  | skip
  | reg (is : List Ins)
  | regq (is : List Ins)
  | regt (t : RT)
  | seq (a b : C)
  | cond (x : Od) (a b : C)
  | block (id : Nat) (b : C)
  | loop (b : C)
  | scope (b : C)
  | exit (id : Nat)
  | ret
  | bad
  deriving Inhabited

/-- How a piece of code ends. -/
inductive Ex where
  | normal
  | exit (id : Nat)
  | ret
  deriving DecidableEq, Inhabited

/-- A state: the slots, the heap. -/
structure St where
  s : Nat → AV
  h : Hp

def put (s : Nat → AV) (i : Nat) (v : AV) : Nat → AV := fun j => if j = i then v else s j

/-! ## Values as data that nobody writes any more -/

def omap {α β : Type} (f : α → Option β) : List α → Option (List β)
  | [] => some []
  | c :: cs => match f c, omap f cs with
    | some x, some xs => some (x :: xs)
    | _, _ => none

/-- The value, read through the heap, as one that is not written any more. The number bounds the way through the heap. -/
def imm (h : Hp) : Nat → AV → Option AV
  | 0, _ => none
  | n + 1, v => match v with
    | .bool b => some (.bool b)
    | .int k n => some (.int k n)
    | .str s => some (.str s)
    | .nilp => some .nilp
    | .nilfn => some .nilfn
    | .nilmp => some .nilmp
    | .pro cs => some (.pro cs)
    | .sl e f xs => some (.sl e f xs)
    | .mp ks vs => some (.mp ks vs)
    | .ptr b off => match h[b]? with
      | some (.cel cs) => (omap (imm h n) (cs.drop off)).map .pro
      | _ => none
    | .eptr b i off => match h[b]? with
      | some (.els _ xs) => match xs[i]? with
        | some x => (omap (imm h n) (x.cells.drop off)).map .pro
        | none => none
      | _ => none
    | .row e b off len => match h[b]? with
      | some (.els e' xs) => if e' = e ∧ off + len ≤ xs.length then (omap (imm h n) ((xs.drop off).take len)).map (.sl e false) else none
      | _ => none
    | .crow _ _ _ _ _ => none
    | .arow e b off len => match h[b]? with
      | some (.cel cs) => match elems e len (cs.drop off) with
        | some xs => (omap (imm h n) xs).map (.sl e false)
        | none => none
      | _ => none
    | .mref b => match h[b]? with
      | some (.map ks vs) => some (.mp ks vs)
      | _ => none
    | .agg cs => (omap (imm h n) cs).map .agg
    | .tup cs => (omap (imm h n) cs).map .tup
    | .fn f cs => (omap (imm h n) cs).map (.fn f)
    | .junk => none
    | .fr _ _ => none

/-- How deep `imm` looks. -/
def deep : Nat := 12

/-- Has the value no address in the heap? -/
def plain : Nat → AV → Bool
  | 0, _ => false
  | n + 1, v => match v with
    | .bool _ | .int _ _ | .str _ | .nilp | .nilfn | .nilmp | .pro _ | .sl _ _ _ | .mp _ _ => true
    | .agg cs | .tup cs | .fn _ cs => cs.all (plain n)
    | _ => false

/-- Is the value made of numbers, texts and truth values alone? -/
def flat : Nat → AV → Bool
  | 0, _ => false
  | n + 1, v => match v with
    | .bool _ | .int _ _ | .str _ | .nilp | .nilfn | .nilmp => true
    | .agg cs | .tup cs => cs.all (flat n)
    | _ => false

/-- The blocks that a value leads to. -/
def visit (h : Hp) : Nat → AV → List Nat
  | 0, _ => []
  | n + 1, v => match v with
    | .ptr b _ | .eptr b _ _ | .row _ b _ _ | .arow _ b _ _ | .crow _ b _ _ _ | .mref b => b :: (match h[b]? with
      | some (.cel cs) => if cs.all (plain deep) then [] else cs.flatMap (visit h n)
      | some (.els _ xs) => if xs.all (plain deep) then [] else xs.flatMap fun x => visit h n x ++ x.cells.flatMap (visit h n)
      | _ => [])
    | .agg cs | .tup cs | .fn _ cs => cs.flatMap (visit h n)
    | _ => []

def kill (h : Hp) : List Nat → Hp
  | [] => h
  | b :: bs => kill (h.set b .dead) bs

/-- A value made one that is not written any more: the blocks that it leads to are given up. -/
def freeze (h : Hp) (v : AV) : Option (AV × Hp) :=
  if plain deep v then some (v, h) else match imm h deep v with
    | some x => some (x, kill h (visit h deep v))
    | none => none

def AV.isFr : AV → Bool
  | .fr _ _ => true
  | _ => false

def adoptL (h : Hp) : List AV → Option (List AV × Hp)
  | [] => some ([], h)
  | .fr e xs :: cs => if cs.any AV.isFr then none else some (.row e h.length 0 xs.length :: cs, h ++ [.els e xs])
  | c :: cs => (adoptL h cs).map fun p => (c :: p.1, p.2)

/-- A row that is handed over becomes a row of this heap. -/
def adopt (h : Hp) : AV → Option (AV × Hp)
  | .fr e xs => some (.row e h.length 0 xs.length, h ++ [.els e xs])
  | .tup cs => (adoptL h cs).map fun p => (.tup p.1, p.2)
  | v => some (v, h)

/-! ## Single operations -/

def wrapBits (k : IntKind) (r : BitVec k.bits) : AV := .int k (k.wrap r.toNat)

def binI (op : BinOp) (k : IntKind) (a b : Int) : Option AV :=
  match op with
  | .add => some (.int k (k.wrap (a + b)))
  | .sub => some (.int k (k.wrap (a - b)))
  | .mul => some (.int k (k.wrap (a * b)))
  | .quo => if b = 0 then none else some (.int k (k.wrap (a.tdiv b)))
  | .rem => if b = 0 then none else some (.int k (a.tmod b))
  | .and => some (wrapBits k (BitVec.ofInt k.bits a &&& BitVec.ofInt k.bits b))
  | .or => some (wrapBits k (BitVec.ofInt k.bits a ||| BitVec.ofInt k.bits b))
  | .xor => some (wrapBits k (BitVec.ofInt k.bits a ^^^ BitVec.ofInt k.bits b))
  | .andNot => some (wrapBits k (BitVec.ofInt k.bits a &&& ~~~ BitVec.ofInt k.bits b))
  | .eql => some (.bool (a == b))
  | .neq => some (.bool (a != b))
  | .lss => some (.bool (decide (a < b)))
  | .leq => some (.bool (decide (a ≤ b)))
  | .gtr => some (.bool (decide (a > b)))
  | .geq => some (.bool (decide (a ≥ b)))
  | .shl | .shr => none

def shiftI (op : BinOp) (k : IntKind) (a b : Int) : Option AV :=
  if b < 0 then none else
    match op with
    | .shl => some (.int k (k.wrap (a * 2 ^ (min b.toNat k.bits))))
    | .shr => some (.int k (a.fdiv (2 ^ (min b.toNat k.bits))))
    | _ => none

def isShift : BinOp → Bool
  | .shl | .shr => true
  | _ => false

def maxStr : Nat := 2 ^ 63 - 1

def binS (op : BinOp) (a b : List UInt8) : Option AV :=
  match op with
  | .add => if a.length + b.length ≤ maxStr then some (.str (a ++ b)) else none
  | .eql => some (.bool (a == b))
  | .neq => some (.bool (!(a == b)))
  | .lss => some (.bool (Op.bytesLess a b))
  | .leq => some (.bool (Op.bytesLess a b || a == b))
  | .gtr => some (.bool (!(Op.bytesLess a b || a == b)))
  | .geq => some (.bool (!Op.bytesLess a b))
  | _ => none

def bin (op : BinOp) : AV → AV → Option AV
  | .int k a, .int k' b => if isShift op then shiftI op k a b else if k = k' then binI op k a b else none
  | .str a, .str b => binS op a b
  | _, _ => none

def binb (op : BinOp) : AV → AV → Option AV
  | .bool a, .bool b => match op with
    | .eql => some (.bool (a == b))
    | .neq => some (.bool (!(a == b)))
    | _ => none
  | _, _ => none

/-- Are two cells that hold numbers, texts or truth values equal? -/
def eqCell : AV → AV → Option Bool
  | .int k a, .int k' b => if k = k' then some (a == b) else none
  | .str a, .str b => some (a == b)
  | .bool a, .bool b => some (a == b)
  | _, _ => none

/-- As `eqCell`, for a cell of a known kind (0: a number; 1: a text; 2: a truth value). -/
def eqKind (k : Nat) (x y : AV) : Option Bool :=
  match k, x, y with
  | 0, .int k a, .int k' b => if k = k' then some (a == b) else none
  | 1, .str a, .str b => some (a == b)
  | 2, .bool a, .bool b => some (a == b)
  | _, _, _ => none

def eqCells : List Nat → List AV → List AV → Option Bool
  | [], [], [] => some true
  | k :: ks, a :: as, b :: bs => match eqKind k a b, eqCells ks as bs with
    | some x, some y => some (x && y)
    | _, _ => none
  | _, _, _ => none

/-- '==' of two structs of plain cells. -/
def eqS (ks : List Nat) : AV → AV → Option Bool
  | .agg as, .agg bs => eqCells ks as bs
  | _, _ => none

/-- '==' of two addresses, one of which is nil. -/
def eqP : AV → AV → Option Bool
  | .nilp, .nilp => some true
  | .nilp, .ptr _ _ | .nilp, .pro _ | .nilp, .eptr _ _ _ | .ptr _ _, .nilp | .pro _, .nilp | .eptr _ _ _, .nilp => some false
  | _, _ => none

def maxI (mx : Bool) (x y : AV) : Option AV :=
  match x, y with
  | .int k a, .int k' b => if k = k' then some (.int k (if mx then (if b > a then b else a) else (if b < a then b else a))) else none
  | _, _ => none

def foldMax (mx : Bool) : AV → List AV → Option AV
  | x, [] => some x
  | x, y :: ys => match maxI mx x y with
    | some z => foldMax mx z ys
    | none => none

def bytesOf : List AV → Option (List UInt8)
  | [] => some []
  | .int .u8 n :: cs => (bytesOf cs).map (UInt8.ofNat n.toNat :: ·)
  | _ :: _ => none

def byteCells (s : List UInt8) : List AV := s.map fun b => .int .u8 (b.toNat : Int)

/-- Cells with others put in at an offset. -/
def splice (cs : List AV) (off : Nat) : AV → List AV
  | .agg us => cs.take off ++ us ++ cs.drop (off + us.length)
  | u => cs.set off u

/-- Puts parts into the cells of a value: (offset, 0 or the number of cells, the part). -/
def fill (s : Nat → AV) : List AV → List (Nat × Nat × Od) → Option (List AV)
  | z, [] => some z
  | z, (off, e, x) :: ps => if (x.ev s).fits e = true ∧ off + esz e ≤ z.length then fill s (splice z off (x.ev s)) ps else none

/-- Puts elements into a row. -/
def fillE (s : Nat → AV) (e : Nat) : List AV → List (Nat × Od) → Option (List AV)
  | z, [] => some z
  | z, (i, x) :: ps => if (x.ev s).fits e = true ∧ i < z.length then fillE s e (z.set i (x.ev s)) ps else none

def expand (z : List (Nat × AV)) : List AV := z.flatMap fun p => List.replicate p.1 p.2

/-- The elements of a slice, or of a text, that are copied; they hold no address of this heap. -/
def srcElems (e : Nat) (h : Hp) : AV → Option (List AV)
  | .sl e' _ xs => if e' = e then some xs else none
  | .row e' b off len => match h[b]? with
    | some (.els e'' xs) => if e' = e ∧ e'' = e ∧ off + len ≤ xs.length ∧ ((xs.drop off).take len).all (plain deep) = true then some ((xs.drop off).take len) else none
    | _ => none
  | .crow e' b off len _ => match h[b]? with
    | some (.els e'' xs) => if e' = e ∧ e'' = e ∧ off + len ≤ xs.length ∧ ((xs.drop off).take len).all (plain deep) = true then some ((xs.drop off).take len) else none
    | _ => none
  | .arow e' b off len => match h[b]? with
    | some (.cel cs) => if e' = e then match elems e len (cs.drop off) with
      | some xs => if xs.all (plain deep) = true then some xs else none
      | none => none else none
    | _ => none
  | .str s => if e = 0 then some (byteCells s) else none
  | _ => none

def lookKey (k : AV) : List AV → List AV → Option (Option AV)
  | [], [] => some none
  | k' :: ks, v :: vs => match eqCell k k' with
    | some true => some (some v)
    | some false => lookKey k ks vs
    | none => none
  | _, _ => none

def setKey (k v : AV) : List AV → List AV → Option (List AV × List AV)
  | [], [] => some ([k], [v])
  | k' :: ks, u :: vs => match eqCell k k' with
    | some true => some (k' :: ks, v :: vs)
    | some false => (setKey k v ks vs).map fun p => (k' :: p.1, u :: p.2)
    | none => none
  | _, _ => none

def isKey : AV → Bool
  | .int _ _ | .str _ | .bool _ => true
  | _ => false

def room : Nat := 2 ^ 47

/-- The two bounds of a slice expression, within a length. -/
def bounds (s : Nat → AV) (n : Nat) (lo hi : Option Od) : Option (Nat × Nat) :=
  match (match lo with | none => AV.int .i64 0 | some x => x.ev s), (match hi with | none => AV.int .i64 n | some x => x.ev s) with
  | .int _ a, .int _ b => if 0 ≤ a ∧ a ≤ b ∧ b ≤ n then some (a.toNat, b.toNat) else none
  | _, _ => none

/-- The same, where the capacity is another one than the length. -/
def bounds2 (s : Nat → AV) (n cap : Nat) (lo hi : Option Od) : Option (Nat × Nat) :=
  match (match lo with | none => AV.int .i64 0 | some x => x.ev s), (match hi with | none => AV.int .i64 n | some x => x.ev s) with
  | .int _ a, .int _ b => if 0 ≤ a ∧ a ≤ b ∧ b ≤ cap then some (a.toNat, b.toNat) else none
  | _, _ => none

/-- Elements ys are added to a row, or to a slice in memory that is full. -/
def appendL (h : Hp) (e bytes : Nat) (x : AV) (ys : List AV) : Option (AV × Hp) :=
    match x with
    | .sl e' true xs => if e' = e ∧ (xs = [] ∨ ys ≠ []) ∧ (xs.length + ys.length) * bytes ≤ room ∧ xs.length + ys.length ≤ maxStr then
        some (.row e h.length 0 (xs.length + ys.length), h ++ [.els e (xs ++ ys)]) else none
    | .row e' b 0 len => match h[b]? with
      | some (.els e'' xs) => if e' = e ∧ e'' = e ∧ len = xs.length ∧ (xs.length + ys.length) * bytes ≤ room ∧ xs.length + ys.length ≤ maxStr then
          some (.row e h.length 0 (xs.length + ys.length), h.set b .dead ++ [.els e (xs ++ ys)]) else
        if e' = e ∧ e'' = e ∧ len < xs.length ∧ len + ys.length ≤ xs.length then some (.row e b 0 (len + ys.length), h.set b (.els e (xs.take len ++ (ys ++ xs.drop (len + ys.length))))) else none
      | _ => none
    | .crow e' b 0 len cap => match h[b]? with
      | some (.els e'' xs) => if e' = e ∧ e'' = e ∧ len ≤ xs.length ∧ cap = xs.length ∧ (ys ≠ [] ∨ len < xs.length) then
          if len + ys.length ≤ cap then some (.crow e b 0 (len + ys.length) cap, h.set b (.els e (xs.take len ++ (ys ++ xs.drop (len + ys.length)))))
          else if (len + ys.length) * bytes ≤ room ∧ len + ys.length ≤ maxStr then some (.row e h.length 0 (len + ys.length), h ++ [.els e (xs.take len ++ ys)]) else none
        else none
      | _ => none
    | _ => none

def append (h : Hp) (e bytes : Nat) (x y : AV) : Option (AV × Hp) :=
  match srcElems e h y with
  | none => none
  | some ys => appendL h e bytes x ys

/-- The elements ys are written into a row from an offset on. -/
def overwrite (xs : List AV) (off : Nat) (ys : List AV) : List AV := xs.take off ++ (ys ++ xs.drop (off + ys.length))

/-- A row, or a part of one: its elements' code, block, offset and length. -/
def AV.rowOf : AV → Option (Nat × Nat × Nat × Nat)
  | .row e b off len => some (e, b, off, len)
  | .crow e b off len _ => some (e, b, off, len)
  | _ => none

/-- A row's first m elements; another value as it is. -/
def AV.cut (m : Nat) : AV → AV
  | .row e b off len => .row e b off (min m len)
  | .crow e b off len _ => .row e b off (min m len)
  | v => v

/-- 'copy': the elements ys are written into a row, as many as it has room for. -/
def copyTo (h : Hp) (e : Nat) (x : AV) (ys : List AV) : Option (AV × Hp) :=
  match x.rowOf with
  | some (e', b, off, len) => match h[b]? with
    | some (.els e'' xs) => if e' = e ∧ e'' = e ∧ off + len ≤ xs.length then some (.int .i64 (min len ys.length : Nat), h.set b (.els e (overwrite xs off (ys.take len)))) else none
    | _ => none
  | none => none

/-- What an operation that is no call yields, and what it makes of the heap. -/
def evV (s : Nat → AV) (h : Hp) : Op1 → Option (AV × Hp)
  | .mv x => some (x.ev s, h)
  | .pick c a b => match c.ev s with
    | .bool t => some (if t then a.ev s else b.ev s, h)
    | _ => none
  | .box x => if onesB (x.ev s).cells then some (.ptr h.length 0, h ++ [.cel (x.ev s).cells]) else none
  | .alloc z => some (.ptr h.length 0, h ++ [.cel (expand z)])
  | .build z ps => (fill s (expand z) ps).map fun cs => (.agg cs, h)
  | .mksl e n z ps => match fillE s e (List.replicate n z) ps with
    | some xs => (freeze h (.tup xs)).map fun p => match p.1 with
      | .tup xs => (.sl e true xs, p.2)
      | v => (v, p.2)
    | none => none
  | .mkslp e n z ps => match fillE s e (List.replicate n z) ps with
    | some xs => if plain deep (.tup xs) = true then some (.sl e true xs, h) else none
    | none => none
  | .load e a => match a.ev s with
    | .ptr b off => match h[b]? with
      | some (.cel cs) => (pick? e off cs).map (·, h)
      | _ => none
    | .eptr b i off => match h[b]? with
      | some (.els _ xs) => match xs[i]? with
        | some x => (pick? e off x.cells).map (·, h)
        | none => none
      | _ => none
    | .pro cs => (pick? e 0 cs).map (·, h)
    | _ => none
  | .store e a v => if (v.ev s).fits e then match a.ev s with
    | .ptr b off => match h[b]? with
      | some (.cel cs) => if off + esz e ≤ cs.length then some (.junk, h.set b (.cel (splice cs off (v.ev s)))) else none
      | _ => none
    | .eptr b i off => match h[b]? with
      | some (.els e' xs) => match xs[i]? with
        | some (.agg cs) => if off + esz e ≤ cs.length then some (.junk, h.set b (.els e' (xs.set i (.agg (splice cs off (v.ev s)))))) else none
        | some _ => if off = 0 ∧ e = 0 then some (.junk, h.set b (.els e' (xs.set i (v.ev s)))) else none
        | none => none
      | _ => none
    | _ => none
    else none
  | .nilchk x => match x.ev s with
    | .junk | .nilp | .nilfn | .fr _ _ => none
    | v => some (v, h)
  | .bin op x y => (bin op (x.ev s) (y.ev s)).map (·, h)
  | .binb op x y => (binb op (x.ev s) (y.ev s)).map (·, h)
  | .eqs neg ks x y => (eqS ks (x.ev s) (y.ev s)).map fun b => (.bool (if neg then !b else b), h)
  | .eqp neg x y => (eqP (x.ev s) (y.ev s)).map fun b => (.bool (if neg then !b else b), h)
  | .un op x => match op, x.ev s with
    | .not, .bool b => some (.bool (!b), h)
    | .neg, .int k n => some (.int k (k.wrap (0 - n)), h)
    | .xor, .int k n => some (wrapBits k (BitVec.ofInt k.bits (if k.signed then -1 else k.max) ^^^ BitVec.ofInt k.bits n), h)
    | _, _ => none
  | .cint k x => match x.ev s with
    | .int _ n => some (.int k (k.wrap n), h)
    | _ => none
  | .cstr x => match x.ev s with
    | .str _ => none
    | y => match srcElems 0 h y with
      | some xs => (bytesOf xs).map (fun t => (.str t, h))
      | none => none
  | .cbytes x => match x.ev s with
    | .str t => if t.length ≤ room then some (.row 0 h.length 0 t.length, h ++ [.els 0 (byteCells t)]) else none
    | _ => none
  | .mkfn f caps => some (.fn f (caps.map (Od.ev s)), h)
  | .mkslc e bytes z len cap => match len.ev s, cap.ev s with
    | .int _ n, .int _ c => if 0 ≤ n ∧ n = c ∧ n.toNat * bytes ≤ room ∧ n.toNat ≤ maxStr then some (.row e h.length 0 n.toNat, h ++ [.els e (List.replicate n.toNat z)]) else none
    | _, _ => none
  | .slice e x lo hi => match x.ev s with
    | .sl e' f xs => if e' = e then (bounds s xs.length lo hi).map (fun p => (.sl e (f && xs.isEmpty) ((xs.take p.2).drop p.1), h)) else none
    | .row e' b off len => if e' = e then (bounds s len lo hi).map (fun p => (.row e b (off + p.1) (p.2 - p.1), h)) else none
    | .crow e' b off len cap => if e' = e then (bounds2 s len cap lo hi).map (fun p => (.crow e b (off + p.1) (p.2 - p.1) (cap - p.1), h)) else none
    | _ => none
  | .sslice x lo hi => match x.ev s with
    | .str t => (bounds s t.length lo hi).map (fun p => (.str ((t.take p.2).drop p.1), h))
    | _ => none
  | .aslice e n x lo hi => match x.ev s with
    | .ptr b off => (bounds s n lo hi).map (fun p => (.arow e b (off + p.1 * esz e) (p.2 - p.1), h))
    | _ => none
  | .faddr off x => match x.ev s with
    | .ptr b o => some (.ptr b (o + off), h)
    | .eptr b i o => some (.eptr b i (o + off), h)
    | .pro cs => some (.pro (cs.drop off), h)
    | _ => none
  | .fld off e x => match x.ev s with
    | .agg cs => (pick? e off cs).map (·, h)
    | _ => none
  | .iaddr e x i => match i.ev s with
    | .int _ n => if 0 ≤ n then match x.ev s with
      | .sl e' _ xs => if e' = e then (xs[n.toNat]?).map (fun v => (.pro v.cells, h)) else none
      | .row e' b off len => if e' = e ∧ n.toNat < len then some (.eptr b (off + n.toNat) 0, h) else none
      | .arow e' b off len => if e' = e ∧ n.toNat < len then some (.ptr b (off + n.toNat * esz e), h) else none
      | _ => none else none
    | _ => none
  | .aiaddr e n x i => match i.ev s with
    | .int _ k => if 0 ≤ k ∧ k.toNat < n then match x.ev s with
      | .ptr b off => some (.ptr b (off + k.toNat * esz e), h)
      | .eptr b j off => some (.eptr b j (off + k.toNat * esz e), h)
      | .pro cs => some (.pro (cs.drop (k.toNat * esz e)), h)
      | _ => none else none
    | _ => none
  | .idx e n x i => match i.ev s, x.ev s with
    | .int _ k, .agg cs => if 0 ≤ k ∧ k.toNat < n then (pick? e (k.toNat * esz e) cs).map (·, h) else none
    | _, _ => none
  | .sidx x i => match i.ev s, x.ev s with
    | .int _ k, .str t => if 0 ≤ k then (t[k.toNat]?).map (fun b => (.int .u8 (b.toNat : Int), h)) else none
    | _, _ => none
  | .ext x i => match x.ev s with
    | .tup cs => (cs[i]?).map (·, h)
    | _ => none
  | .call _ _ => none
  | .len k x => match k, x.ev s with
    | 0, .sl _ _ xs => some (.int .i64 xs.length, h)
    | 0, .row _ _ _ n => some (.int .i64 n, h)
    | 0, .arow _ _ _ n => some (.int .i64 n, h)
    | 0, .crow _ _ _ n _ => some (.int .i64 n, h)
    | 1, .str t => some (.int .i64 t.length, h)
    | 2, .nilmp => some (.int .i64 0, h)
    | 2, .mp ks _ => some (.int .i64 ks.length, h)
    | 2, .mref b => match h[b]? with
      | some (.map ks _) => some (.int .i64 ks.length, h)
      | _ => none
    | _, _ => none
  | .alen n => some (.int .i64 n, h)
  | .maxmin mx x xs => (foldMax mx (x.ev s) (xs.map (Od.ev s))).map (·, h)
  | .append e bytes x y => append h e bytes (x.ev s) (y.ev s)
  | .mkmap => some (.mref h.length, h ++ [.map [] []])
  | .lookup z ok m k =>
    let r := match m.ev s with
      | .nilmp => if isKey (k.ev s) then some none else none
      | .mp ks vs => if isKey (k.ev s) then lookKey (k.ev s) ks vs else none
      | .mref b => match h[b]? with
        | some (.map ks vs) => if isKey (k.ev s) then lookKey (k.ev s) ks vs else none
        | _ => none
      | _ => none
    match r with
    | some r => some (if ok then .tup [r.getD z, .bool r.isSome] else r.getD z, h)
    | none => none
  | .mapset m k v => match freeze h (v.ev s) with
    | some (u, h) => match m.ev s with
      | .mref b => match h[b]? with
        | some (.map ks vs) => if isKey (k.ev s) then (setKey (k.ev s) u ks vs).map (fun p => (.junk, h.set b (.map p.1 p.2))) else none
        | _ => none
      | _ => none
    | none => none
  | .isnil _ _ => none
  | .cap x => match x.ev s with
    | .sl _ true xs => some (.int .i64 xs.length, h)
    | .crow _ _ _ _ c => some (.int .i64 c, h)
    | _ => none
  | .copy e x y => match (x.ev s).rowOf with
    | some (_, _, _, len) => match srcElems e h ((y.ev s).cut len) with
      | some ys => copyTo h e (x.ev s) ys
      | none => none
    | none => none
  | .clear e z x => match (x.ev s).rowOf with
    | some (_, _, _, len) => (copyTo h e (x.ev s) (List.replicate len z)).map fun p => (.junk, p.2)
    | none => none
  | .appz e bytes z x n => match n.ev s with
    | .int _ k => if 0 < k ∧ k.toNat ≤ maxStr ∧ k.toNat * bytes ≤ room then appendL h e bytes (x.ev s) (List.replicate k.toNat z) else none
    | _ => none
  | .ovl x y => match x.ev s, (y.ev s).rowOf with
    | .sl _ true (_ :: _), some (_, b, _, len + 1) => match h[b]? with
      | some (.els _ _) => some (.bool false, h)
      | _ => none
    | _, _ => none
  | .slice3 e x lo hi mx => match x.ev s with
    | .row e' b off len => if e' = e then match (match mx with | none => AV.int .i64 len | some m => m.ev s) with
      | .int _ m => if 0 ≤ m ∧ m ≤ len ∧ hi.isSome = true ∧ mx.isSome = true then (bounds s m.toNat lo hi).map (fun _ => (.junk, h)) else none
      | _ => none else none
    | _ => none
  | .bad => none

/-! ## Regions and code -/

/-- Calls of functions: what they yield, and what they make of the heap. -/
abbrev CallF := Nat → List AV → Hp → (AV → Hp → Prop) → Prop

def put? (s : Nat → AV) (d : Option Nat) (v : AV) : Nat → AV :=
  match d with
  | some d => put s d v
  | none => s

def Op1.isCall : Op1 → Bool
  | .call _ _ => true
  | .isnil _ _ => true
  | _ => false

def evO (F : CallF) (s : Nat → AV) (h : Hp) (o : Op1) (K : AV → Hp → Prop) : Prop :=
  match o with
  | .call f args => match f.ev s with
    | .fn k caps => F k (args.map (Od.ev s) ++ caps) h K
    | _ => False
  | .isnil neg x => match x.ev s with
    | .sl _ _ [] => K (.bool true) h ∧ K (.bool false) h
    | .sl _ _ (_ :: _) => K (.bool neg) h
    | .row _ _ _ 0 => K (.bool true) h ∧ K (.bool false) h
    | .row _ _ _ (_ + 1) => K (.bool neg) h
    | _ => False
  | o => match evV s h o with
    | some p => K p.1 p.2
    | none => False

/-- A guarded operation. -/
def act (F : CallF) (i : Ins) (s : Nat → AV) (h : Hp) (K : AV → Hp → Prop) : Prop :=
  match i.g with
  | none => evO F s h i.o K
  | some (j, want) => match s j with
    | .bool b => if b = want then evO F s h i.o K else K (.tup []) h
    | .tup [] => K (.tup []) h
    | _ => False

def evT (F : CallF) (i : Ins) (K : St → Prop) (st : St) : Prop := act F i st.s st.h fun v h => K ⟨put? st.s i.d v, h⟩

def evTs (F : CallF) : List Ins → (St → Prop) → St → Prop
  | [], K, st => K st
  | i :: is, K, st => evT F i (evTs F is K) st

/-! ## Fewer blocks under new numbers -/

/-- A value with the blocks' new numbers; what is not kept is junk. -/
def ren (ks : List Nat) : Nat → AV → AV
  | 0, _ => .junk
  | n + 1, v => match v with
    | .ptr b o => match ks.idxOf? b with | some b => .ptr b o | none => .junk
    | .eptr b i o => match ks.idxOf? b with | some b => .eptr b i o | none => .junk
    | .row e b o l => match ks.idxOf? b with | some b => .row e b o l | none => .junk
    | .arow e b o l => match ks.idxOf? b with | some b => .arow e b o l | none => .junk
    | .crow e b o l c => match ks.idxOf? b with | some b => .crow e b o l c | none => .junk
    | .mref b => match ks.idxOf? b with | some b => .mref b | none => .junk
    | .agg cs => .agg (cs.map (ren ks n))
    | .tup cs => .tup (cs.map (ren ks n))
    | .fn f cs => .fn f (cs.map (ren ks n))
    | .fr _ _ => .junk
    | v => v

def renB (ks : List Nat) : HB → HB
  | .cel cs => .cel (cs.map (ren ks deep))
  | .els e xs => .els e (xs.map (ren ks deep))
  | b => b

def renS (ks : List Nat) (s : Nat → AV) : List Nat → Nat → AV
  | [] => fun _ => .junk
  | i :: is => put (renS ks s is) i (ren ks deep (s i))

/-- The state with these blocks and these slots alone. -/
def restrict (ks live : List Nat) (st : St) : St := { s := renS ks st.s live, h := ks.map fun b => renB ks (st.h.getD b .dead) }

/-! ## Functions -/

inductive Rv where
  | slot (i : Nat)
  | cell (i e : Nat)
  deriving Inhabited

def slotsOf : List AV → Nat → AV
  | [] => fun _ => .junk
  | v :: vs => fun i => match i with
    | 0 => v
    | i + 1 => slotsOf vs i

def resV (st : St) : Rv → Option AV
  | .slot i => some (st.s i)
  | .cell i e => (evV st.s st.h (.load e (.t i))).map (·.1)

def resVs (st : St) (rs : List Rv) : Option AV :=
  match omap (resV st) rs with
  | some [v] => some v
  | some vs => some (.tup vs)
  | none => none

/-- A row that is handed over as it is, for the caller to write, and other results. -/
def handRow (h : Hp) (v : AV) (os : List AV) : Option (AV × List AV) :=
  match v with
  | .row e b 0 len => match h[b]? with
    | some (.els e' xs) => if e' = e ∧ len = xs.length ∧ (xs.flatMap (visit h deep)).contains b = false ∧ (os.flatMap (visit h deep)).contains b = false then match omap (imm h deep) xs, omap (imm h deep) os with
      | some ys, some ds => some (.fr e ys, ds)
      | _, _ => none else none
    | _ => none
  | .sl e true [] => (omap (imm h deep) os).map fun ds => (.fr e [], ds)
  | v => match imm h deep v, omap (imm h deep) os with
    | some y, some ds => some (y, ds)
    | _, _ => none

/-- The results of a function, handed to its caller (`fresh`: which one of them is handed over as a row). -/
def handOver (fresh : Option Nat) (h : Hp) (v : AV) : Option AV :=
  match fresh with
  | none => imm h deep v
  | some k => match v with
    | .tup cs => match cs[k]? with
      | some c => (handRow h c (cs.eraseIdx k)).map fun p => .tup (p.2.insertIdx k p.1)
      | none => none
    | v => (handRow h v []).map (·.1)

end Go.Ab
