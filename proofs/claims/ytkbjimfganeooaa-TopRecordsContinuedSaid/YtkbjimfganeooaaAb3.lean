/-
  The abstract machine, third part: the model's code, read as code of the abstract machine.
-/
import Derived.Test.YtkbjimfganeooaaAb2
set_option linter.unusedSimpArgs false
set_option linter.unusedVariables false
namespace Go.Ab
open Go

variable (P : Program)

/-- Structs and arrays. -/
def aggD : TypeDesc → Bool
  | .struct _ => true
  | .array _ _ => true
  | _ => false

/-- How many cells an element of a type has: 0: one cell that is no struct or array; else their number. -/
def ecode (t : TypeId) : Option Nat :=
  match P.info? t with
  | none => none
  | some i => match P.underlying t with
    | none => none
    | some d => if aggD d then (if 0 < i.size then some i.size else none) else (if i.size = 1 then some 0 else none)

def constAV (t : TypeId) : Value → Option AV
  | .bool b => some (.bool b)
  | .int k n => some (.int k n)
  | .string s => some (.str s.data.toList)
  | .pointer none => some .nilp
  | .nilFunc => some .nilfn
  | .map none => some .nilmp
  | .slice none 0 0 => match P.underlying t with
    | some (.slice e) => (ecode P e).map fun e => .sl e true []
    | _ => none
  | _ => none

/-- Does the constant stand for the value? -/
def relC : AV → Value → Bool
  | .bool b, .bool c => b == c
  | .int k n, .int j m => k == j && n == m
  | .str s, .string t => s == t.data.toList
  | .nilp, .pointer none => true
  | .nilfn, .nilFunc => true
  | .nilmp, .map none => true
  | .sl _ true [], .slice none 0 0 => true
  | _, _ => false

def relCs : List AV → List Value → Bool
  | [], [] => true
  | a :: as, v :: vs => relC a v && relCs as vs
  | _, _ => false

/-- The zero value of a type, in runs of equal cells. -/
def zRuns : Nat → TypeId → Option (List (Nat × AV))
  | 0, _ => none
  | n + 1, t => match P.underlying t with
    | some (.struct fs) => (omap (fun f => zRuns n f.type) fs.toList).map List.flatten
    | some (.array k e) => match zRuns n e with
      | some [(m, v)] => some [(k * m, v)]
      | some z => some (List.replicate k z).flatten
      | none => none
    | some _ => match (P.info? t).bind (·.zero) with
      | some v => (constAV P t v).map fun a => [(1, a)]
      | none => none
    | none => none

/-- The same, held against the model's own zero value. -/
def zero? (t : TypeId) : Option (List (Nat × AV)) :=
  match zRuns P 8 t, (P.info? t).bind (·.zero) with
  | some z, some v => if relCs (expand z) v.cells.toList then some z else none
  | _, _ => none

def vAgg : Value → Bool
  | .agg _ => true
  | _ => false

/-- The zero value as an element. -/
def zeroE (t : TypeId) : Option AV :=
  match ecode P t, zero? P t, (P.info? t).bind (·.zero) with
  | some e, some z, some v => if vAgg v = (e != 0) ∧ v.cells.size = esz e then (if e = 0 then (match expand z with
    | [a] => some a
    | _ => none) else some (.agg (expand z))) else none
  | _, _, _ => none

def od (t : TypeId) : Operand → Option Od
  | .tmp i => some (.t i)
  | .const v => (constAV P t v).map .c
  | .func f => some (.c (.fn f []))
  | .global _ => none

def odO (t : TypeId) : Option Operand → Option (Option Od)
  | none => some none
  | some x => (od P t x).map some

def ods : List TypeId → List Operand → Option (List Od)
  | [], [] => some []
  | t :: ts, x :: xs => match od P t x, ods ts xs with
    | some y, some ys => some (y :: ys)
    | _, _ => none
  | _, _ => none

/-- The kinds of the cells of a struct of plain cells, which '==' compares cell by cell. -/
def kindOf : TypeDesc → Option Nat
  | .int _ => some 0
  | .string => some 1
  | .bool => some 2
  | _ => none

def kindsF (K : TypeId → Option (List Nat)) (i : Nat) : List Field → Option (List Nat)
  | [] => some []
  | f :: fs => if f.offset = i ∧ f.name ≠ "_" then match K f.type with
    | some k => match kindsF K (i + k.length) fs with
      | some ks => some (k ++ ks)
      | none => none
    | none => none else none

/-- The same of a type; the number bounds how deep structs lie in structs. -/
def kindsT : Nat → TypeId → Option (List Nat)
  | 0, t => ((P.underlying t).bind kindOf).map fun k => [k]
  | n + 1, t => match P.underlying t with
    | some (.struct fs) => if P.stoodInHeld t = false then match kindsF (kindsT n) 0 fs.toList with
      | some ks => if (P.info? t).map (·.size) = some ks.length then some ks else none
      | none => none else none
    | some d => (kindOf d).map fun k => [k]
    | none => none

def cmpKinds (t : TypeId) : Option (List Nat) :=
  match P.underlying t with
  | some (.struct _) => if P.eqGuardType P.depth t = false then kindsT P 4 t else none
  | _ => none

/-- Numbers, texts, truth values, or structs of these. -/
def plainT (t : TypeId) : Bool := ((P.underlying t).bind kindOf).isSome || (cmpKinds P t).isSome

def partsS (fs : Array Field) : List (Nat × Operand) → Option (List (Nat × Nat × Od))
  | [] => some []
  | (i, x) :: ps => match fs[i]? with
    | some f => match ecode P f.type, od P f.type x, partsS fs ps with
      | some e, some y, some qs => some ((f.offset, e, y) :: qs)
      | _, _, _ => none
    | none => none

def partsA (t : TypeId) (e : Nat) : List (Nat × Operand) → Option (List (Nat × Nat × Od))
  | [] => some []
  | (i, x) :: ps => match od P t x, partsA t e ps with
    | some y, some qs => some ((i * esz e, e, y) :: qs)
    | _, _ => none

def partsL (t : TypeId) : List (Nat × Operand) → Option (List (Nat × Od))
  | [] => some []
  | (i, x) :: ps => match od P t x, partsL t ps with
    | some y, some qs => some ((i, y) :: qs)
    | _, _ => none

def intT : TypeId := 0

/-- Is it the library's function that compares where two slices lie, for slices of a known kind? -/
def ovlF (f : Od) : Bool :=
  match f with
  | .c (.fn f []) => match P.funcs[f]? with
    | some fn => fn.body.isNone && (fn.origin == "slices.overlaps" && (fn.name != "runtime.NumGoroutine" && ((Extern.allNextRows.lookup fn.name).isNone && ((Extern.allGenericRows.lookup fn.name).isNone &&
        ((Extern.allTypedRows.lookup fn.name).isNone && ((Extern.allRows.lookup fn.name).isNone && (match fn.params.toList, fn.resultTypes.toList with
          | [t, t'], [_] => t == t' && (match P.underlying t with
            | some (.slice el) => (ecode P el).isSome
            | _ => false)
          | _, _ => false)))))))
    | none => false
  | _ => false

def compCall (ty : TypeId) (c : Call) : Option Op1 :=
  match c.callee with
  | .value f => match od P 0 f, ods P c.argTypes.toList c.args.toList with
    | some f, some as => match ovlF P f, as, c.argTypes.toList with
      | true, [x, y], [_, _] => some (.ovl x y)
      | _, _, _ => some (.call f as)
    | _, _ => none
  | .invoke _ _ => none
  | .builtin b => match b, c.argTypes.toList, c.args.toList with
    | .len, t :: _, [x] => match P.underlying t with
      | some (.array n _) => some (.alen n)
      | some .string => (od P t x).map (.len 1)
      | some (.slice _) => (od P t x).map (.len 0)
      | some (.map _ _) => (od P t x).map (.len 2)
      | _ => none
    | .append, [t, u], [x, y] => match P.underlying t with
      | some (.slice e) => match ecode P e, P.info? e, (P.info? e).bind (·.zero), od P t x, od P u y, P.underlying u with
        | some k, some i, some z, some x, some y, some (.slice _) => if z.cells.size = esz k then some (.append k i.bytes x y) else none
        | some k, some i, some z, some x, some y, some .string => if z.cells.size = esz k then some (.append k i.bytes x y) else none
        | some k, some i, some z, some x, some y, some (.int _) => match zeroE P e with
          | some z' => if z.cells.size = esz k then some (.appz k i.bytes z' x y) else none
          | none => none
        | _, _, _, _, _, _ => none
      | _ => none
    | .cap, t :: _, [x] => match P.underlying t with
      | some (.slice _) => (od P t x).map .cap
      | _ => none
    | .copy, t :: u :: _, [x, y] => match P.underlying t with
      | some (.slice e) => match ecode P e, od P t x, od P u y with
        | some k, some x, some y => some (.copy k x y)
        | _, _, _ => none
      | _ => none
    | .clear, t :: _, [x] => match P.underlying t with
      | some (.slice e) => match ecode P e, zeroE P e, od P t x with
        | some k, some z, some x => some (.clear k z x)
        | _, _, _ => none
      | _ => none
    | .max, _, x :: xs => match od P ty x, omap (od P ty) xs with
      | some x, some xs => some (.maxmin true x xs)
      | _, _ => none
    | .min, _, x :: xs => match od P ty x, omap (od P ty) xs with
      | some x, some xs => some (.maxmin false x xs)
      | _, _ => none
    | _, _, _ => none

def compBin (op : BinOp) (t : TypeId) (x y : Operand) (yt : TypeId) : Option Op1 :=
  match od P t x, od P (if isShift op then yt else t) y with
  | some x, some y => match P.underlying t with
    | some (.int _) => some (.bin op x y)
    | some .string => some (.bin op x y)
    | some .bool => some (.binb op x y)
    | some (.struct _) => match cmpKinds P t, op with
      | some ks, .eql => some (.eqs false ks x y)
      | some ks, .neq => some (.eqs true ks x y)
      | _, _ => none
    | some (.pointer _) => match op with
      | .eql => some (.eqp false x y)
      | .neq => some (.eqp true x y)
      | _ => none
    | some (.slice _) => match op, y with
      | .eql, .c (.sl _ true []) => some (.isnil false x)
      | .neq, .c (.sl _ true []) => some (.isnil true x)
      | _, _ => none
    | _ => none
  | _, _ => none

def compConv (src dst : TypeId) (x : Operand) : Option Op1 :=
  match od P src x with
  | some x => match P.underlying src, P.underlying dst with
    | some (.int _), some (.int k) => some (.cint k x)
    | some .string, some .string => some (.sslice x none none)
    | some (.slice e), some .string => match P.underlying e with
      | some (.int .u8) => some (.cstr x)
      | _ => none
    | some .string, some (.slice e) => match P.underlying e, ecode P e with
      | some (.int .u8), some 0 => some (.cbytes x)
      | _, _ => none
    | _, _ => none
  | none => none

/-- One operation. -/
def compO1 (o : Oper) : Option Op1 :=
  match o.op with
  | .move x => (od P o.type x).map .mv
  | .assign x => (od P o.type x).map .mv
  | .pick c a b => match od P 0 c, od P o.type a, od P o.type b with
    | some c, some a, some b => some (.pick c a b)
    | _, _, _ => none
  | .alloc t => (zero? P t).map .alloc
  | .box t x => (od P t x).map .box
  | .build t ps => match zero? P t, P.underlying t with
    | some z, some (.struct fs) => if fs.toList.all (fun f => (P.info? f.type).isSome) then (partsS P fs ps.toList).map (.build z) else none
    | some z, some (.array _ el) => match ecode P el with
      | some e => (partsA P el e ps.toList).map (.build z)
      | none => none
    | _, _ => none
  | .buildSlice t n ps => match P.underlying t with
    | some (.slice el) => match ecode P el, zeroE P el with
      | some e, some z => if n * esz e ≤ 2 ^ 24 then (partsL P el ps.toList).map (if plainT P el = true then .mkslp e n z else .mksl e n z) else none
      | _, _ => none
    | _ => none
  | .load t a => match ecode P t, od P 0 a with
    | some e, some a => some (.load e a)
    | _, _ => none
  | .store t a v => match ecode P t, od P 0 a, od P t v with
    | some e, some a, some v => some (.store e a v)
    | _, _, _ => none
  | .nilCheck x => (od P 0 x).map .nilchk
  | .binOp op t x y yt => compBin P op t x y yt
  | .unOp op t x => (od P t x).map (.un op)
  | .convert s d x => compConv P s d x
  | .makeFunc (.func f) first caps => if first.size = 0 then (omap (od P 0) caps.toList).map (.mkfn f) else none
  | .slice t x lo hi none => match P.underlying t, odO P 0 lo, odO P 0 hi with
    | some (.slice el), some lo, some hi => match ecode P el, od P t x with
      | some e, some x => some (.slice e x lo hi)
      | _, _ => none
    | some .string, some lo, some hi => (od P t x).map fun x => .sslice x lo hi
    | some (.array n el), some lo, some hi => match ecode P el, od P 0 x with
      | some e, some x => if n ≤ maxLen then some (.aslice e n x lo hi) else none
      | _, _ => none
    | _, _, _ => none
  | .slice t x lo hi mx => match P.underlying t, odO P 0 lo, odO P 0 hi, odO P 0 mx with
    | some (.slice el), some lo, some hi, some mx => match ecode P el, od P t x with
      | some e, some x => some (.slice3 e x lo hi mx)
      | _, _ => none
    | _, _, _, _ => none
  | .fieldAddr t x f => match P.underlying t, od P 0 x with
    | some (.struct fs), some x => match fs[f]? with
      | some fd => if P.cellsOf fd.type = 0 then none else some (.faddr fd.offset x)
      | none => none
    | _, _ => none
  | .field t x f => match P.underlying t, od P 0 x with
    | some (.struct fs), some x => match fs[f]? with
      | some fd => (ecode P fd.type).map fun e => .fld fd.offset e x
      | none => none
    | _, _ => none
  | .indexAddr t x i => match P.underlying t, od P 0 i with
    | some (.slice el), some i => match ecode P el, od P t x with
      | some e, some x => some (.iaddr e x i)
      | _, _ => none
    | some (.array n el), some i => match ecode P el, od P 0 x with
      | some e, some x => some (.aiaddr e n x i)
      | _, _ => none
    | _, _ => none
  | .index t x i => match P.underlying t, od P t x, od P 0 i with
    | some (.array n el), some x, some i => (ecode P el).map fun e => .idx e n x i
    | some .string, some x, some i => some (.sidx x i)
    | _, _, _ => none
  | .extract x i => (od P 0 x).map fun x => .ext x i
  | .call c => compCall P o.type c
  | _ => none

/-- One operation; what is not known is read as one that does not end. -/
def compO (o : Oper) : Option Op1 := some ((compO1 P o).getD .bad)

def slotOf (ops : Array Oper) (j : Nat) : Option Nat := (ops[j]?).bind (·.dst)

/-- An operation of a region with n slots. -/
def compI (n : Nat) (ops : Array Oper) (o : Oper) : Option Ins :=
  match compO P o, (match o.dst with | some d => decide (d < n) | none => true) with
  | some p, true => match o.guard with
    | none => some { d := o.dst, g := none, o := p }
    | some (j, want) => match slotOf ops j with
      | some s => if s < n then some { d := o.dst, g := some (s, want), o := p } else none
      | none => none
  | _, _ => none

/-! ### Regions whose order is drawn -/

def odReads : Od → List Nat
  | .t i => [i]
  | .c _ => []

def odOReads : Option Od → List Nat
  | some x => odReads x
  | none => []

def Op1.reads : Op1 → List Nat
  | .mv x | .box x | .nilchk x | .un _ x | .cint _ x | .cstr x | .cbytes x | .faddr _ x | .fld _ _ x | .ext x _ | .len _ x | .load _ x | .isnil _ x | .cap x | .clear _ _ x => odReads x
  | .copy _ x y | .appz _ _ _ x y | .ovl x y => odReads x ++ odReads y
  | .slice3 _ x lo hi mx => odReads x ++ odOReads lo ++ odOReads hi ++ odOReads mx
  | .pick c a b => odReads c ++ odReads a ++ odReads b
  | .alloc _ | .alen _ | .mkmap | .bad => []
  | .build _ ps => ps.flatMap fun p => odReads p.2.2
  | .mksl _ _ _ ps | .mkslp _ _ _ ps => ps.flatMap fun p => odReads p.2
  | .store _ a v => odReads a ++ odReads v
  | .bin _ x y | .binb _ x y | .eqs _ _ x y | .eqp _ x y | .iaddr _ x y | .aiaddr _ _ x y | .idx _ _ x y | .sidx x y | .append _ _ x y | .mkslc _ _ _ x y => odReads x ++ odReads y
  | .mkfn _ cs => cs.flatMap odReads
  | .slice _ x lo hi | .sslice x lo hi | .aslice _ _ x lo hi => odReads x ++ odOReads lo ++ odOReads hi
  | .call f as => odReads f ++ as.flatMap odReads
  | .maxmin _ x xs => odReads x ++ xs.flatMap odReads
  | .lookup _ _ m k => odReads m ++ odReads k
  | .mapset m k v => odReads m ++ odReads k ++ odReads v

def Ins.reads (i : Ins) : List Nat := (match i.g with | some (j, _) => [j] | none => []) ++ i.o.reads

/-- Operations that neither read nor write the heap. -/
def Op1.blind : Op1 → Bool
  | .mv _ | .pick _ _ _ | .build _ _ | .mkslp _ _ _ _ | .nilchk _ | .bin _ _ _ | .binb _ _ _ | .eqs _ _ _ _ | .eqp _ _ _ | .sslice _ _ _ | .un _ _ | .cint _ _ | .mkfn _ _ | .slice _ _ _ _ | .aslice _ _ _ _ _ | .faddr _ _ | .fld _ _ _ | .iaddr _ _ _
  | .aiaddr _ _ _ _ | .idx _ _ _ _ | .sidx _ _ | .ext _ _ | .alen _ | .maxmin _ _ _ | .cap _ | .slice3 _ _ _ _ _ => true
  | _ => false

/-- Operations that write no heap. -/
def Op1.still : Op1 → Bool
  | .load _ _ | .len _ _ | .lookup _ _ _ _ | .cstr _ | .ovl _ _ => true
  | o => o.blind

/-- Operations that make a block and leave all others as they are. -/
def Op1.grows : Op1 → Bool
  | .alloc _ | .box _ => true
  | _ => false

/-- Two operations, of which i comes first, that may change places (q: where calls leave the heap as it is). -/
def apart (q : Bool) (i j : Ins) : Bool :=
  (match i.d with | some d => !j.reads.contains d && j.d != some d | none => true) &&
  (match j.d with | some d => !i.reads.contains d | none => true) &&
  ((i.o.still && (j.o.still || (j.o.grows && j.g.isNone))) || i.o.blind || j.o.blind || (q && (i.o.still && j.o.isCall || i.o.isCall && j.o.still)))

def orB (acc : List Nat) : List Edge → Nat
  | [] => 0
  | e :: es => (if Region.binds .any e then 2 ^ e.on ||| acc.getD e.on 0 else 0) ||| orB acc es

/-- For each operation the set of those that it is bound to come behind. -/
def befs : List Oper → List Nat → List Nat
  | [], acc => acc
  | o :: os, acc => befs os (acc ++ [orB acc o.after.toList])

def drawOK (q : Bool) (ops : Array Oper) (is : List Ins) : Bool :=
  let b := befs ops.toList []
  (List.range ops.size).all fun j => (match ops[j]? with | some o => o.after.toList.all fun e => !Region.binds .any e || decide (e.on < j) | none => true) &&
    (List.range j).all fun i => (b.getD j 0).testBit i || apart q (is.getD i default) (is.getD j default)

/-- Those of the rest that wait for none of the rest. -/
def rdy (ops : Array Oper) (rest : List Nat) : List Nat := rest.filter fun i => match ops[i]? with
  | some o => o.after.toList.all fun e => !Region.binds .any e || !rest.contains e.on
  | none => false

/-- May i come ahead of all the rest? -/
def loneI (q : Bool) (b : List Nat) (is : List Ins) (rest : List Nat) (i : Nat) : Bool :=
  rest.all fun j => j == i || (b.getD j 0).testBit i || apart q (is.getD i default) (is.getD j default)

def RT.cons (i : Ins) : RT → RT
  | .run is => .run (i :: is)
  | .fork is a b => .fork (i :: is) a b

def RT.forks : List RT → RT
  | [] => .run []
  | [t] => t
  | t :: ts => .fork [] t (RT.forks ts)

def grow (q : Bool) (ops : Array Oper) (b : List Nat) (is : List Ins) : Nat → List Nat → RT
  | 0, _ => .run []
  | f + 1, rest => match rest with
    | [] => .run []
    | _ => match (rdy ops rest).find? (loneI q b is rest) with
      | some i => (grow q ops b is f (rest.erase i)).cons (is.getD i default)
      | none => RT.forks ((rdy ops rest).map fun i => (grow q ops b is f (rest.erase i)).cons (is.getD i default))

/-- Operations wait for earlier ones alone. -/
def fwd (ops : Array Oper) : Bool := (List.range ops.size).all fun j => match ops[j]? with
  | some o => o.after.toList.all fun e => !Region.binds .any e || decide (e.on < j)
  | none => true

/-- Code. -/
def compC (n : Nat) : Code → Option C
  | .skip => some .skip
  | .label _ => some .skip
  | .region _ ops draw => match omap (compI P n ops) ops.toList with
    | some is => if draw = true then (if (P.follows .mixedOrders || !Region.departs ops) = true then (if drawOK false ops is = true then some (.reg is) else if drawOK true ops is = true then some (.regq is) else if fwd ops = true then some (.regt (grow true ops (befs ops.toList []) is ops.size (List.range ops.size))) else none) else none) else some (.reg is)
    | none => none
  | .seq a b => match compC n a, compC n b with
    | some a, some b => some (.seq a b)
    | _, _ => none
  | .cond c a b => match od P 0 c, compC n a, compC n b with
    | some c, some a, some b => some (.cond c a b)
    | _, _, _ => none
  | .block id b => (compC n b).map (.block id)
  | .loop b => (compC n b).map .loop
  | .scope b => (compC n b).map .scope
  | .exit id => some (.exit id)
  | .ret => some .ret
  | _ => some .bad

end Go.Ab
