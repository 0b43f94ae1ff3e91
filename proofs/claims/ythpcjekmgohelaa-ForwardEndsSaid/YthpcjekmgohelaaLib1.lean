/- ABSTRACT RUNS, 1: values without addresses, a small operation language, and what a piece of code does to them (a weakest precondition, by structural recursion). No program in sight. Nothing here is trusted: XAb2 to XAb6 show that the machine follows. -/
import Derived.Orders
import Derived.Below
import Derived.Laws.Append
set_option linter.unusedVariables false
set_option linter.unusedSimpArgs false
namespace Go.Proofs.Ythpcjekmgohelaa.Ab
open Go

/-- A value as the code sees it: a slice that nobody writes any more is its rows of cells; what is still being made lies under a number in a heap of its own. -/
inductive AVal where
  | u
  | b (x : Bool)
  | i (k : IntKind) (n : Int)
  | s (l : List UInt8)
  | agg (cs : List AVal)
  | tup (vs : List AVal)
  | sl (rows : List (List AVal))
  | nilS
  | row (id len : Nat)
  | ptr (id off : Nat)
  | eptr (id esz i off : Nat)
  | cptr (cs : List AVal) (off : Nat)
  | mp (id : Nat)
  | nilM
  | fn (f : FuncId) (cap : List AVal)
  | nilF
  | nilP
  | nilI
  | ifc (t : TypeId) (v : AVal)
  deriving Inhabited

inductive AObj where
  | box (cs : List AVal)
  | row (esz : Nat) (rows : List (List AVal)) (fz : Bool)
  | map (es : List (AVal × AVal))
  | dead
  deriving Inhabited

abbrev Env := Nat → AVal
abbrev Heap := List AObj

def Env.set (e : Env) (d : Option Nat) (v : AVal) : Env :=
  match d with
  | some t => fun j => if j = t then v else e j
  | none => e

inductive LOpd where
  | t (n : Nat)
  | c (v : AVal)
  deriving Inhabited

def LOpd.ev (e : Env) : LOpd → AVal
  | .t n => e n
  | .c v => v

/-- Kinds of cells that can be compared. -/
inductive LK where
  | int | bool | str
  deriving DecidableEq, Inhabited

/-- How '==' is asked. -/
inductive EK where
  | leaf (k : LK)
  | ifc
  | agg (ks : List LK)
  | none
  deriving Inhabited

inductive LOp where
  | mv (x : LOpd)
  | pick (c a b : LOpd)
  | alloc (zero : List AVal)
  | box (x : LOpd)
  | build (zero : List AVal) (parts : List (Nat × Nat × LOpd))
  | bsl (esz : Nat) (zero : List AVal) (len : Nat) (parts : List (Nat × LOpd))
  | load (n : Nat) (ag : Bool) (p : LOpd)
  | store (n : Nat) (p x : LOpd)
  | nilc (x : LOpd)
  | bin (op : BinOp) (ek : EK) (x y : LOpd)
  | un (op : UnOp) (x : LOpd)
  | cint (k : IntKind) (x : LOpd)
  | cstr (x : LOpd)
  | mki (t : TypeId) (x : LOpd)
  | mkf (f : FuncId) (caps : List LOpd)
  | msl (esz bytes : Nat) (zero : List AVal) (l c : LOpd)
  | slc (x : LOpd) (lo hi : Option LOpd)
  | sls (esz : Nat) (x : LOpd) (lo hi : Option LOpd)
  | fad (off : Nat) (p : LOpd)
  | fld (off n : Nat) (ag : Bool) (x : LOpd)
  | iad (esz : Nat) (x i : LOpd)
  | iaa (esz len : Nat) (x i : LOpd)
  | idx (x i : LOpd)
  | ida (esz len : Nat) (ag : Bool) (x i : LOpd)
  | ext (x : LOpd) (i : Nat)
  | lens (x : LOpd)
  | lenl (x : LOpd)
  | mx (xs : List LOpd)
  | mn (xs : List LOpd)
  | app (esz bytes : Nat) (s x : LOpd)
  | cpy (esz : Nat) (d s : LOpd)
  | call (mk : Bool) (f : FuncId) (args : List LOpd)
  | callv (mk : Bool) (fx : LOpd) (args : List LOpd)
  | mkm
  | lkp (kk : EK) (zero : AVal) (ok : Bool) (m k : LOpd)
  | mup (kk : EK) (m k x : LOpd)
  | lenm (m : LOpd)
  deriving Inhabited

structure LOper where
  dst : Option Nat
  op : LOp
  guard : Option (Nat × Bool)
  deriving Inhabited

inductive LCode where
  | skip
  | reg (ops : List LOper)
  | seq (a b : LCode)
  | cond (c : LOpd) (t e : LCode)
  | block (id : Nat) (c : LCode)
  | loop (c : LCode)
  | exit (id : Nat)
  | scope (c : LCode)
  | regD (ops : List LOper) (conf : List (Nat × Nat))
  | ret
  deriving Inhabited

/-! ### Cells -/
/-- The value of one cell. -/
def leafA : AVal → Bool
  | .agg _ => false
  | .tup _ => false
  | .u => false
  | _ => true

def AVal.cells? : AVal → Option (List AVal)
  | .agg cs => some cs
  | .u => none
  | .tup _ => none
  | v => some [v]

def setSeg (cs : List AVal) (off : Nat) : List AVal → List AVal
  | [] => cs
  | c :: new => setSeg (cs.set off c) (off + 1) new

def ldCells (cs : List AVal) (off n : Nat) (ag : Bool) : Option AVal :=
  if ag then (if off + n ≤ cs.length then some (.agg ((cs.drop off).take n)) else none) else cs[off]?

def fillA (cs : List AVal) : List (Nat × Nat × AVal) → Option (List AVal)
  | [] => some cs
  | (off, sz, v) :: rest =>
    match v.cells? with
    | some vs => if vs.length = sz ∧ off + sz ≤ cs.length then fillA (setSeg cs off vs) rest else none
    | none => none

def fillR (rows : List (List AVal)) (esz : Nat) : List (Nat × AVal) → Option (List (List AVal))
  | [] => some rows
  | (i, v) :: rest =>
    match v.cells? with
    | some vs => if vs.length = esz ∧ i < rows.length then fillR (rows.set i vs) esz rest else none
    | none => none

/-! ### Arithmetic -/
def intBin (op : BinOp) (k : IntKind) (a b : Int) : Option AVal :=
  match op with
  | .add => some (.i k (k.wrap (a + b)))
  | .sub => some (.i k (k.wrap (a - b)))
  | .mul => some (.i k (k.wrap (a * b)))
  | .quo => if b = 0 then none else some (.i k (k.wrap (a.tdiv b)))
  | .rem => if b = 0 then none else some (.i k (a.tmod b))
  | .and => some (.i k (k.wrap ((BitVec.ofInt k.bits a &&& BitVec.ofInt k.bits b).toNat)))
  | .or => some (.i k (k.wrap ((BitVec.ofInt k.bits a ||| BitVec.ofInt k.bits b).toNat)))
  | .xor => some (.i k (k.wrap ((BitVec.ofInt k.bits a ^^^ BitVec.ofInt k.bits b).toNat)))
  | .andNot => some (.i k (k.wrap ((BitVec.ofInt k.bits a &&& ~~~(BitVec.ofInt k.bits b)).toNat)))
  | .eql => some (.b (a == b))
  | .neq => some (.b (a != b))
  | .lss => some (.b (decide (a < b)))
  | .leq => some (.b (decide (a ≤ b)))
  | .gtr => some (.b (decide (b < a)))
  | .geq => some (.b (decide (b ≤ a)))
  | _ => none

def strBin (op : BinOp) (a b : List UInt8) : Option AVal :=
  match op with
  | .add => if ((a.length + b.length : Nat) : Int) ≤ 9223372036854775807 then some (.s (a ++ b)) else none
  | .eql => some (.b (a == b))
  | .neq => some (.b (!(a == b)))
  | .lss => some (.b (Op.bytesLess a b))
  | .leq => some (.b (Op.bytesLess a b || a == b))
  | .gtr => some (.b (!(Op.bytesLess a b || a == b)))
  | .geq => some (.b (!(Op.bytesLess a b)))
  | _ => none

def leafEq : LK → AVal → AVal → Option Bool
  | .int, .i k a, .i k' b => if k = k' then some (a == b) else none
  | .bool, .b a, .b b => some (a == b)
  | .str, .s a, .s b => some (a == b)
  | _, _, _ => none

def aggEq : List LK → List AVal → List AVal → Option Bool
  | [], [], [] => some true
  | k :: ks, x :: xs, y :: ys =>
    match leafEq k x y, aggEq ks xs ys with
    | some p, some q => some (p && q)
    | _, _ => none
  | _, _, _ => none

def eqA : EK → AVal → AVal → Option Bool
  | .leaf k, x, y => leafEq k x y
  | .ifc, .nilI, .nilI => some true
  | .ifc, .nilI, .ifc _ _ => some false
  | .ifc, .ifc _ _, .nilI => some false
  | .agg ks, .agg a, .agg b => aggEq ks a b
  | _, _, _ => none

def binA (op : BinOp) (ek : EK) (x y : AVal) : Option AVal :=
  match x, y with
  | .i k a, .i k' b =>
    match op with
    | .shl => if b < 0 then none else some (.i k (k.wrap (a * 2 ^ (min b.toNat k.bits))))
    | .shr => if b < 0 then none else some (.i k (a.fdiv (2 ^ (min b.toNat k.bits))))
    | op => if k = k' then intBin op k a b else none
  | .s a, .s b => strBin op a b
  | x, y =>
    match op with
    | .eql => (eqA ek x y).map .b
    | .neq => (eqA ek x y).map fun t => .b (!t)
    | _ => none

def unA (op : UnOp) (x : AVal) : Option AVal :=
  match op, x with
  | .neg, .i k n => some (.i k (k.wrap (0 - n)))
  | .xor, .i k n => some (.i k (k.wrap ((BitVec.ofInt k.bits (if k.signed then -1 else k.max) ^^^ BitVec.ofInt k.bits n).toNat)))
  | .not, .b b => some (.b (!b))
  | _, _ => none

def maxA (k : IntKind) (x : Int) : List AVal → Option AVal
  | [] => some (.i k x)
  | AVal.i k' y :: rest => if k = k' then maxA k (if y > x then y else x) rest else none
  | _ => none
def minA (k : IntKind) (x : Int) : List AVal → Option AVal
  | [] => some (.i k x)
  | AVal.i k' y :: rest => if k = k' then minA k (if y < x then y else x) rest else none
  | _ => none

def AVal.rows? : AVal → Option (List (List AVal))
  | .sl rows => some rows
  | .nilS => some []
  | _ => none

def lowOf (e : Env) : Option LOpd → Option Int
  | some x => match x.ev e with | .i _ n => some n | _ => none
  | none => some 0
def highOf (e : Env) (len : Nat) : Option LOpd → Option Int
  | some x => match x.ev e with | .i _ n => some n | _ => none
  | none => some len

/-! ### Operations that look at nothing but their operands -/
def evalP (e : Env) : LOp → Option AVal
  | .mv x => some (x.ev e)
  | .pick c a b => match c.ev e with
    | .b true => some (a.ev e)
    | .b false => some (b.ev e)
    | _ => none
  | .build zero parts => (fillA zero (parts.map fun (o, n, x) => (o, n, x.ev e))).map .agg
  | .bsl esz zero len parts => (fillR (List.replicate len zero) esz (parts.map fun (i, x) => (i, x.ev e))).map .sl
  | .nilc x => match x.ev e with
    | .ptr a b => some (.ptr a b)
    | .eptr a b c d => some (.eptr a b c d)
    | .cptr cs o => some (.cptr cs o)
    | _ => none
  | .bin op ek x y => binA op ek (x.ev e) (y.ev e)
  | .un op x => unA op (x.ev e)
  | .cint k x => match x.ev e with
    | .i _ n => some (.i k (k.wrap n))
    | _ => none
  | .cstr x => match x.ev e with
    | .i _ n => some (.s (Utf8.encode n).data.toList)
    | .s l => some (.s l)
    | _ => none
  | .mki t x => match x.ev e with
    | .u => none
    | v => some (.ifc t v)
  | .mkf f caps => some (.fn f (caps.map (·.ev e)))
  | .slc x lo hi => match x.ev e with
    | .s l => match lowOf e lo, highOf e l.length hi with
      | some a, some b => if 0 ≤ a ∧ a ≤ b ∧ b ≤ l.length then some (.s ((l.take b.toNat).drop a.toNat)) else none
      | _, _ => none
    | _ => none
  | .sls esz x lo hi => match x.ev e with
    | .sl rows => match lowOf e lo, highOf e rows.length hi with
      | some a, some b => if 0 ≤ a ∧ a ≤ b ∧ b ≤ rows.length ∧ (rows.headD (List.replicate esz .u)).length = esz then some (.sl ((rows.take b.toNat).drop a.toNat)) else none
      | _, _ => none
    | _ => none
  | .fad off p => match p.ev e with
    | .ptr id o => some (.ptr id (o + off))
    | .eptr id esz i o => some (.eptr id esz i (o + off))
    | .cptr cs o => some (.cptr cs (o + off))
    | _ => none
  | .fld off n ag x => match x.ev e with
    | .agg cs => ldCells cs off n ag
    | _ => none
  | .iad esz x i => match x.ev e, i.ev e with
    | .sl rows, .i _ n => if 0 ≤ n then (match rows[n.toNat]? with
        | some r => if r.length = esz then some (.cptr r 0) else none
        | none => none) else none
    | .row id len, .i _ n => if 0 ≤ n ∧ n < len then some (.eptr id esz n.toNat 0) else none
    | _, _ => none
  | .iaa esz len x i => match x.ev e, i.ev e with
    | .ptr id o, .i _ n => if 0 ≤ n ∧ n < len then some (.ptr id (o + n.toNat * esz)) else none
    | .eptr id es j o, .i _ n => if 0 ≤ n ∧ n < len then some (.eptr id es j (o + n.toNat * esz)) else none
    | .cptr cs o, .i _ n => if 0 ≤ n ∧ n < len then some (.cptr cs (o + n.toNat * esz)) else none
    | _, _ => none
  | .idx x i => match x.ev e, i.ev e with
    | .s l, .i _ n => if 0 ≤ n then (l[n.toNat]?).map fun c => .i .u8 c.toNat else none
    | _, _ => none
  | .ida esz len ag x i => match x.ev e, i.ev e with
    | .agg cs, .i _ n => if 0 ≤ n ∧ n < len then ldCells cs (n.toNat * esz) esz ag else none
    | _, _ => none
  | .ext x i => match x.ev e with
    | .tup vs => vs[i]?
    | _ => none
  | .lens x => match x.ev e with
    | .s l => some (.i .i64 l.length)
    | _ => none
  | .lenl x => match x.ev e with
    | .sl rows => some (.i .i64 rows.length)
    | .nilS => some (.i .i64 0)
    | .row _ n => some (.i .i64 n)
    | _ => none
  | .mx xs => match xs.map (·.ev e) with
    | AVal.i k x :: rest => maxA k x rest
    | _ => none
  | .mn xs => match xs.map (·.ev e) with
    | AVal.i k x :: rest => minA k x rest
    | _ => none
  | _ => none

/-! ### Operations that look at the heap -/
def rowsOf (H : Heap) : AVal → Option (List (List AVal))
  | .sl rows => some rows
  | .nilS => some []
  | .row id len => match H[id]? with
    | some (.row _ rows _) => if rows.length = len then some rows else none
    | _ => none
  | .s l => some (l.map fun c => [.i .u8 c.toNat])
  | _ => none

def AVal.int? : AVal → Option Int
  | .i _ n => some n
  | _ => none

def findM (kk : EK) (k : AVal) : List (AVal × AVal) → Option (Option AVal)
  | [] => some none
  | (k', v) :: es => match eqA kk k k' with
    | some true => some (some v)
    | some false => findM kk k es
    | none => none

def putM (kk : EK) (k x : AVal) : List (AVal × AVal) → Option (List (AVal × AVal))
  | [] => some [(k, x)]
  | (k', v) :: es => match eqA kk k k' with
    | some true => some ((k', x) :: es)
    | some false => (putM kk k x es).map ((k', v) :: ·)
    | none => none

def evalH (e : Env) (H : Heap) : LOp → Option (AVal × Heap)
  | .alloc zero => some (.ptr H.length 0, H ++ [.box zero])
  | .box x => match (x.ev e).cells? with
    | some cs => some (.ptr H.length 0, H ++ [.box cs])
    | none => none
  | .load n ag p => match p.ev e with
    | .cptr cs o => (ldCells cs o n ag).map (·, H)
    | .ptr id o => match H[id]? with
      | some (.box cs) => (ldCells cs o n ag).map (·, H)
      | _ => none
    | .eptr id esz i o => match H[id]? with
      | some (.row esz' rows _) => if esz = esz' then (match rows[i]? with
          | some r => (ldCells r o n ag).map (·, H)
          | none => none) else none
      | _ => none
    | _ => none
  | .store n p x => match (x.ev e).cells? with
    | some vs => if vs.length = n then (match p.ev e with
        | .ptr id o => match H[id]? with
          | some (.box cs) => if o + n ≤ cs.length then some (.u, H.set id (.box (setSeg cs o vs))) else none
          | _ => none
        | .eptr id esz i o => match H[id]? with
          | some (.row esz' rows false) => if esz = esz' ∧ o + n ≤ esz then (match rows[i]? with
              | some r => some (.u, H.set id (.row esz (rows.set i (setSeg r o vs)) false))
              | none => none) else none
          | _ => none
        | _ => none) else none
    | none => none
  | .msl esz bytes zero l c => match l.ev e, c.ev e with
    | .i _ n, .i _ m => if n = m ∧ 0 ≤ n ∧ n ≤ 9223372036854775807 ∧ bytes * n ≤ 281474976710656 ∧ zero.length = esz then
        some (.row H.length n.toNat, H ++ [.row esz (List.replicate n.toNat zero) false]) else none
    | _, _ => none
  | .app esz bytes s x => match rowsOf H (x.ev e) with
    | some new => if new.all (fun r => r.length == esz) then (match s.ev e with
        | .nilS => if new = [] then some (.nilS, H) else if new.length * bytes ≤ 140737488355328 ∧ new.length ≤ 9223372036854775807 then
            some (.row H.length new.length, H ++ [.row esz new false]) else none
        | .row id len => match H[id]? with
          | some (.row esz' rows false) => if esz = esz' ∧ rows.length = len ∧ (len + new.length) * bytes ≤ 140737488355328 ∧ len + new.length ≤ 9223372036854775807 then
              some (.row H.length (len + new.length), H.set id .dead ++ [.row esz (rows ++ new) false]) else none
          | _ => none
        | _ => none) else none
    | none => none
  | .cpy esz d s => match rowsOf H (s.ev e), d.ev e with
    | some new, .row id len => match H[id]? with
      | some (.row esz' rows false) => if esz = esz' ∧ rows.length = len ∧ new.all (fun r => r.length == esz) then
          some (.i .i64 (min new.length len), H.set id (.row esz (new.take len ++ rows.drop new.length) false)) else none
      | _ => none
    | _, _ => none
  | .mkm => some (.mp H.length, H ++ [.map []])
  | .lkp kk zero ok m k => match m.ev e with
    | .mp id => match H[id]? with
      | some (.map es) => match findM kk (k.ev e) es with
        | some (some v) => some (if ok then .tup [v, .b true] else v, H)
        | some none => some (if ok then .tup [zero, .b false] else zero, H)
        | none => none
      | _ => none
    | _ => none
  | .mup kk m k x => match m.ev e with
    | .mp id => match H[id]? with
      | some (.map es) => match putM kk (k.ev e) (x.ev e) es with
        | some es' => some (.u, H.set id (.map es'))
        | none => none
      | _ => none
    | _ => none
  | .lenm m => match m.ev e with
    | .mp id => match H[id]? with
      | some (.map es) => some (.i .i64 es.length, H)
      | _ => none
    | .nilM => some (.i .i64 0, H)
    | _ => none
  | _ => none

/-! ### Freezing: a value without numbers of the heap -/
mutual
def clean : AVal → Bool
  | .u => false
  | .agg cs => cleanL cs
  | .tup vs => cleanL vs
  | .sl rows => cleanLL rows
  | .nilS => false
  | .row _ _ => false
  | .ptr _ _ => false
  | .eptr _ _ _ _ => false
  | .cptr _ _ => false
  | .mp _ => false
  | .fn _ cap => cleanL cap
  | .ifc _ v => clean v
  | .b _ => true
  | .i _ _ => true
  | .s _ => true
  | .nilM => true
  | .nilF => true
  | .nilP => true
  | .nilI => true
def cleanL : List AVal → Bool
  | [] => true
  | v :: vs => clean v && cleanL vs
def cleanLL : List (List AVal) → Bool
  | [] => true
  | v :: vs => cleanL v && cleanLL vs
end

mutual
/-- One step: each number of a row becomes its rows. -/
def thaw (H : Heap) : AVal → AVal
  | .agg cs => .agg (thawL H cs)
  | .tup vs => .tup (thawL H vs)
  | .sl rows => .sl (thawLL H rows)
  | .nilS => .sl []
  | .row id len => match H[id]? with
    | some (.row _ rows _) => if rows.length = len then .sl rows else .row id len
    | _ => .row id len
  | .fn f cap => .fn f (thawL H cap)
  | .ifc t v => .ifc t (thaw H v)
  | .u => .u
  | .ptr a b => .ptr a b
  | .eptr a b c d => .eptr a b c d
  | .cptr a b => .cptr a b
  | .mp a => .mp a
  | .b x => .b x
  | .i k n => .i k n
  | .s l => .s l
  | .nilM => .nilM
  | .nilF => .nilF
  | .nilP => .nilP
  | .nilI => .nilI
def thawL (H : Heap) : List AVal → List AVal
  | [] => []
  | v :: vs => thaw H v :: thawL H vs
def thawLL (H : Heap) : List (List AVal) → List (List AVal)
  | [] => []
  | v :: vs => thawL H v :: thawLL H vs
end

/-- A value without numbers: itself, or what three steps make of it. -/
def frz (H : Heap) (v : AVal) : Option AVal :=
  if clean v then some v else
    let v' := thaw H (thaw H (thaw H v))
    if clean v' then some v' else none

def frzAll (H : Heap) : List AVal → Option (List AVal)
  | [] => some []
  | v :: vs => match frz H v, frzAll H vs with
    | some x, some xs => some (x :: xs)
    | _, _ => none

/-- No memory behind it. -/
def flat : AVal → Bool
  | .b _ => true
  | .i _ _ => true
  | .s _ => true
  | .nilI => true
  | .nilM => true
  | .nilF => true
  | .nilP => true
  | .ifc _ v => flat v
  | .agg cs => cs.attach.all fun ⟨c, _⟩ => flat c
  | .tup cs => cs.attach.all fun ⟨c, _⟩ => flat c
  | .sl rows => rows.isEmpty
  | _ => false

mutual
/-- The numbers of rows in a value. -/
def refs : AVal → List Nat
  | .row id _ => [id]
  | .agg cs => refsL cs
  | .tup vs => refsL vs
  | .sl rows => refsLL rows
  | .fn _ cap => refsL cap
  | .ifc _ v => refs v
  | _ => []
def refsL : List AVal → List Nat
  | [] => []
  | v :: vs => refs v ++ refsL vs
def refsLL : List (List AVal) → List Nat
  | [] => []
  | v :: vs => refsL v ++ refsLL vs
end

def fixOne (H : Heap) (id : Nat) : Heap :=
  match H[id]? with
  | some (.row esz rows _) => H.set id (.row esz rows true)
  | _ => H
def rowsIn (H : Heap) (id : Nat) : List Nat :=
  match H[id]? with
  | some (.row _ rows _) => refsLL rows
  | _ => []
/-- The rows that a value leads to are written no more. -/
def fix (H : Heap) (v : AVal) : Heap :=
  let r0 := refs v
  let r1 := r0.flatMap (rowsIn H)
  let r2 := r1.flatMap (rowsIn H)
  (r0 ++ r1 ++ r2).foldl fixOne H

end Go.Proofs.Ythpcjekmgohelaa.Ab

/- ABSTRACT RUNS, 2: how values and heaps of the abstract run stand to those of the machine; contracts. -/
namespace Go.Proofs.Ythpcjekmgohelaa.Ab
open Go Go.RowKit

/-- What of a program's own variables a run leans on: a fact on the first NG blocks. -/
structure GI where
  NG : Nat
  GW : World → Prop
  keep : ∀ w w' : World, GW w → (∀ b, b < NG → w'.heap[b]? = w.heap[b]?) → GW w'

/-- The frame of a relation: blocks that stay, the world, where numbers lie, capacities, how many numbers. -/
structure RP where
  F : Nat → Prop
  w : World
  β : Nat → Nat
  κ : Nat → Nat
  N : Nat

inductive Rel (R : RP) : Value → AVal → Prop
  | u (v : Value) : Rel R v .u
  | b (x : Bool) : Rel R (.bool x) (.b x)
  | i (k : IntKind) (n : Int) : Rel R (.int k n) (.i k n)
  | s (t : ByteArray) : Rel R (.string t) (.s t.data.toList)
  | agg (vs : Array Value) (cs : List AVal) (hn : vs.size = cs.length) (hl : ∀ j, j < cs.length → leafA (cs.getD j .u) = true)
      (h : ∀ j, j < cs.length → Rel R (vs.getD j undef) (cs.getD j .u)) : Rel R (.agg vs) (.agg cs)
  | tup (vs : Array Value) (cs : List AVal) (hn : vs.size = cs.length) (h : ∀ j, j < cs.length → Rel R (vs.getD j undef) (cs.getD j .u)) : Rel R (.tuple vs) (.tup cs)
  | sl (A : Option Addr) (c : Nat) (rows : List (List AVal)) (esz : Nat) (blk o : Nat) (cv : Nat → Nat → Value)
      (hc : rows.length ≤ c) (hA : rows ≠ [] → A = some ⟨blk, o, none⟩ ∧ R.F blk) (hr : ∀ r ∈ rows, r.length = esz)
      (hl : ∀ i j, i < rows.length → j < esz → leafA ((rows.getD i []).getD j .u) = true)
      (hcell : ∀ i j, i < rows.length → j < esz → R.w.cell? ⟨blk, o + (i * esz + j), none⟩ = some (cv i j))
      (h : ∀ i j, i < rows.length → j < esz → Rel R (cv i j) ((rows.getD i []).getD j .u)) : Rel R (.slice A rows.length c) (.sl rows)
  | nilS : Rel R (.slice none 0 0) .nilS
  | row (id len : Nat) (hid : id < R.N) : Rel R (.slice (some ⟨R.β id, 0, none⟩) len (R.κ id)) (.row id len)
  | ptr (id off : Nat) (hid : id < R.N) : Rel R (.pointer (some ⟨R.β id, off, none⟩)) (.ptr id off)
  | eptr (id esz i off : Nat) (hid : id < R.N) : Rel R (.pointer (some ⟨R.β id, i * esz + off, none⟩)) (.eptr id esz i off)
  | cptr (blk o : Nat) (cs : List AVal) (off : Nat) (cv : Nat → Value) (hF : R.F blk)
      (hl : ∀ j, j < cs.length → leafA (cs.getD j .u) = true)
      (hcell : ∀ j, j < cs.length → R.w.cell? ⟨blk, o + j, none⟩ = some (cv j))
      (h : ∀ j, j < cs.length → Rel R (cv j) (cs.getD j .u)) : Rel R (.pointer (some ⟨blk, o + off, none⟩)) (.cptr cs off)
  | mp (id : Nat) (hid : id < R.N) : Rel R (.map (some (R.β id))) (.mp id)
  | nilM : Rel R (.map none) .nilM
  | fn (f : FuncId) (vs : Array Value) (cs : List AVal) (hn : vs.size = cs.length) (h : ∀ j, j < cs.length → Rel R (vs.getD j undef) (cs.getD j .u)) : Rel R (.func (.func f) #[] vs) (.fn f cs)
  | nilF : Rel R .nilFunc .nilF
  | nilP : Rel R (.pointer none) .nilP
  | nilI : Rel R .nilIface .nilI
  | ifc (t : TypeId) (x : Value) (v : AVal) (h : Rel R x v) : Rel R (.iface t x) (.ifc t v)

/-- What holds in one frame holds in a later one. -/
structure RP.Le (R R' : RP) : Prop where
  F : ∀ b, R.F b → R'.F b
  same : ∀ b, R.F b → R'.w.heap[b]? = R.w.heap[b]?
  N : R.N ≤ R'.N
  β : ∀ id, id < R.N → R'.β id = R.β id
  κ : ∀ id, id < R.N → R'.κ id = R.κ id

theorem RP.Le.refl (R : RP) : R.Le R := ⟨fun _ h => h, fun _ _ => rfl, Nat.le_refl _, fun _ _ => rfl, fun _ _ => rfl⟩
theorem RP.Le.trans {A B C : RP} (h : A.Le B) (k : B.Le C) : A.Le C :=
  ⟨fun b hb => k.F b (h.F b hb), fun b hb => (k.same b (h.F b hb)).trans (h.same b hb), Nat.le_trans h.N k.N,
   fun id hi => (k.β id (Nat.lt_of_lt_of_le hi h.N)).trans (h.β id hi), fun id hi => (k.κ id (Nat.lt_of_lt_of_le hi h.N)).trans (h.κ id hi)⟩

theorem cell_same {w w' : World} {b : Nat} (h : w'.heap[b]? = w.heap[b]?) (o : Nat) : w'.cell? ⟨b, o, none⟩ = w.cell? ⟨b, o, none⟩ := by
  unfold World.cell?; rw [h]

theorem Rel.le {R R' : RP} (hle : R.Le R') {v : Value} {a : AVal} (h : Rel R v a) : Rel R' v a := by
  induction h with
  | u v => exact .u v
  | b x => exact .b x
  | i k n => exact .i k n
  | s t => exact .s t
  | agg vs cs hn hl _ ih => exact .agg vs cs hn hl ih
  | tup vs cs hn _ ih => exact .tup vs cs hn ih
  | sl A c rows esz blk o cv hc hA hr hl hcell _ ih =>
    refine .sl A c rows esz blk o cv hc (fun hne => ⟨(hA hne).1, hle.F _ (hA hne).2⟩) hr hl (fun i j hi hj => ?_) ih
    have hne : rows ≠ [] := by intro e; subst e; simp at hi
    rw [cell_same (hle.same _ (hA hne).2)]; exact hcell i j hi hj
  | nilS => exact .nilS
  | row id len hid => rw [← hle.β id hid, ← hle.κ id hid]; exact .row id len (Nat.lt_of_lt_of_le hid hle.N)
  | ptr id off hid => rw [← hle.β id hid]; exact .ptr id off (Nat.lt_of_lt_of_le hid hle.N)
  | eptr id esz i off hid => rw [← hle.β id hid]; exact .eptr id esz i off (Nat.lt_of_lt_of_le hid hle.N)
  | cptr blk o cs off cv hF hl hcell _ ih =>
    refine .cptr blk o cs off cv (hle.F _ hF) hl (fun j hj => ?_) ih
    rw [cell_same (hle.same _ hF)]; exact hcell j hj
  | mp id hid => rw [← hle.β id hid]; exact .mp id (Nat.lt_of_lt_of_le hid hle.N)
  | nilM => exact .nilM
  | fn f vs cs hn _ ih => exact .fn f vs cs hn ih
  | nilF => exact .nilF
  | nilP => exact .nilP
  | nilI => exact .nilI
  | ifc t x v _ ih => exact .ifc t x v ih

/-! ### Objects, heaps -/
def AObj.mut : AObj → Bool
  | .box _ => true
  | .row _ _ fz => !fz
  | .map _ => true
  | .dead => false
def AObj.alive : AObj → Bool
  | .dead => false
  | _ => true

def Mut (β : Nat → Nat) (H : Heap) (b : Nat) : Prop := ∃ id o, H[id]? = some o ∧ o.mut = true ∧ b = β id

def RPof (F0 : Nat → Prop) (B0 : Nat) (w : World) (β κ : Nat → Nat) (H : Heap) : RP :=
  { F := fun b => (F0 b ∨ B0 ≤ b) ∧ b < w.heap.size ∧ ¬ Mut β H b, w, β, κ, N := H.length }

def RelL (R : RP) (vs : Array Value) (cs : List AVal) : Prop :=
  vs.size = cs.length ∧ ∀ j, j < cs.length → Rel R (vs.getD j undef) (cs.getD j .u)
/-- Cells: values of one cell each. -/
def RelC (R : RP) (vs : Array Value) (cs : List AVal) : Prop :=
  vs.size = cs.length ∧ ∀ j, j < cs.length → leafA (cs.getD j .u) = true ∧ Rel R (vs.getD j undef) (cs.getD j .u)

theorem RelL.le {R R' : RP} (hle : R.Le R') {vs : Array Value} {cs : List AVal} (h : RelL R vs cs) : RelL R' vs cs := ⟨h.1, fun j hj => (h.2 j hj).le hle⟩

def ORel (R : RP) (id : Nat) : AObj → Prop
  | .box cs => ∃ vs T, R.w.heap[R.β id]? = some (.cells vs T (0, 0)) ∧ RelC R vs cs
  | .row esz rows _ => ∃ vs T, R.w.heap[R.β id]? = some (.cells vs T (0, 0)) ∧ rows.length ≤ R.κ id ∧ R.κ id * esz ≤ vs.size ∧ (∀ r ∈ rows, r.length = esz) ∧
      ∀ i j, i < rows.length → j < esz → leafA ((rows.getD i []).getD j .u) = true ∧ Rel R (vs.getD (i * esz + j) undef) ((rows.getD i []).getD j .u)
  | .map es => ∃ (ents : Array MapEntry) (clock : Nat), R.w.heap[R.β id]? = some (.map ents clock) ∧ ents.size = es.length ∧
      ∀ j, j < es.length → Rel R (ents.getD j default).key (es.getD j (.u, .u)).1 ∧ Rel R (ents.getD j default).val (es.getD j (.u, .u)).2
  | .dead => True

structure HS (G : GI) (F0 : Nat → Prop) (B0 : Nat) (w : World) (β κ : Nat → Nat) (H : Heap) : Prop where
  gw : G.GW w
  ng : G.NG ≤ w.heap.size
  b0 : B0 ≤ w.heap.size
  f0 : ∀ b, F0 b → b < w.heap.size
  obj : ∀ id o, H[id]? = some o → ORel (RPof F0 B0 w β κ H) id o
  lt : ∀ id o, H[id]? = some o → o.alive = true → β id < w.heap.size ∧ G.NG ≤ β id
  inj : ∀ id id' o o', H[id]? = some o → H[id']? = some o' → o.alive = true → o'.alive = true → (o.mut = true ∨ o'.mut = true) → β id = β id' → id = id'
  al : ∀ id o, H[id]? = some o → o.alive = true → F0 (β id) ∨ B0 ≤ β id

/-- Outside of some blocks the world is as it was. -/
structure Kept (M : Nat → Prop) (w w' : World) : Prop where
  os : w'.os = w.os
  tape : w'.tape = w.tape
  output : w'.output = w.output
  size : w.heap.size ≤ w'.heap.size
  block : ∀ b, b < w.heap.size → ¬ M b → w'.heap[b]? = w.heap[b]?

theorem Kept.refl (M : Nat → Prop) (w : World) : Kept M w w := ⟨rfl, rfl, rfl, Nat.le_refl _, fun _ _ _ => rfl⟩
theorem Kept.trans {M M' : Nat → Prop} {a b c : World} (h : Kept M a b) (k : Kept M' b c) (hM : ∀ x, x < a.heap.size → M' x → M x) : Kept M a c :=
  ⟨k.os.trans h.os, k.tape.trans h.tape, k.output.trans h.output, Nat.le_trans h.size k.size,
   fun x hx hn => (k.block x (Nat.lt_of_lt_of_le hx h.size) (fun hm => hn (hM x hx hm))).trans (h.block x hx hn)⟩
theorem Kept.below {w w' : World} (h : Kept (fun _ => False) w w') : Below w.heap.size w w' := ⟨h.os, h.tape, h.output, h.size, fun k hk => h.block k hk (fun x => x)⟩
theorem Kept.of_below {M : Nat → Prop} {w w' : World} (h : Below w.heap.size w w') : Kept M w w' := ⟨h.os, h.tape, h.output, h.size, fun k hk _ => h.block k hk⟩

theorem RelC.le {R R' : RP} (hle : R.Le R') {vs : Array Value} {cs : List AVal} (h : RelC R vs cs) : RelC R' vs cs := ⟨h.1, fun j hj => ⟨(h.2 j hj).1, (h.2 j hj).2.le hle⟩⟩

/-! ### Contracts -/
/-- A call that is handed values without numbers, and hands back such. -/
def EvP (P : Program) (G : GI) (f : FuncId) (args : List AVal) (r : AVal) : Prop :=
  ∀ (F0 : Nat → Prop) (w : World) (vals : Array Value), G.GW w → G.NG ≤ w.heap.size → (∀ b, F0 b → b < w.heap.size) →
    RelL (RPof F0 w.heap.size w id id []) vals args →
    Calls P f vals w fun e w' => ∃ rv, e = .returned rv ∧ Below w.heap.size w w' ∧ Rel (RPof F0 w.heap.size w' id id []) rv r

/-- A call that works on a heap. -/
def EvS (P : Program) (G : GI) (f : FuncId) (args : List AVal) (H : Heap) (r : AVal) (H' : Heap) : Prop :=
  ∀ (F0 : Nat → Prop) (B0 : Nat) (w : World) (β κ : Nat → Nat) (vals : Array Value), HS G F0 B0 w β κ H → RelL (RPof F0 B0 w β κ H) vals args →
    Calls P f vals w fun e w' => ∃ rv β' κ', e = .returned rv ∧ HS G F0 B0 w' β' κ' H' ∧ Kept (Mut β H) w w' ∧
      (∀ b, Mut β' H' b → Mut β H b ∨ w.heap.size ≤ b) ∧ H.length ≤ H'.length ∧ (∀ i, i < H.length → β' i = β i ∧ κ' i = κ i) ∧
      Rel (RPof F0 B0 w' β' κ' H') rv r

end Go.Proofs.Ythpcjekmgohelaa.Ab

/- ABSTRACT RUNS, 3: from the machine's code to ours (checked by the kernel, function by function), and the weakest precondition. -/
namespace Go.Proofs.Ythpcjekmgohelaa.Ab
open Go Go.RowKit

/-! ### From the machine's code -/
def rowD : TypeDesc → Bool
  | .slice _ => true
  | .string => true
  | _ => false
theorem rowD_or {d : TypeDesc} (h : rowD d = true) : (∃ e, d = .slice e) ∨ d = .string := by
  cases d <;> simp_all [rowD]

def ofLeaf : Value → Option AVal
  | .bool x => some (.b x)
  | .int k n => some (.i k n)
  | .string t => some (.s t.data.toList)
  | .slice none 0 0 => some .nilS
  | .pointer none => some .nilP
  | .map none => some .nilM
  | .nilFunc => some .nilF
  | .nilIface => some .nilI
  | _ => none

def ofLeaves : List Value → Option (List AVal)
  | [] => some []
  | v :: vs => match ofLeaf v, ofLeaves vs with
    | some x, some xs => some (x :: xs)
    | _, _ => none

def ofVal : Value → Option AVal
  | .agg cs => (ofLeaves cs.toList).map .agg
  | .tuple vs => if vs.isEmpty then some .u else none
  | v => ofLeaf v

def cOpd : Operand → Option LOpd
  | .tmp t => some (.t t)
  | .const v => (ofVal v).map .c
  | .func f => some (.c (.fn f []))
  | .global _ => none

def cOpds : List Operand → Option (List LOpd)
  | [] => some []
  | x :: xs => match cOpd x, cOpds xs with
    | some y, some ys => some (y :: ys)
    | _, _ => none

def cParts : List (Nat × Operand) → Option (List (Nat × LOpd))
  | [] => some []
  | (i, x) :: xs => match cOpd x, cParts xs with
    | some y, some ys => some ((i, y) :: ys)
    | _, _ => none

def cOpdO : Option Operand → Option (Option LOpd)
  | none => some none
  | some x => (cOpd x).map some

def szOf (P : Program) (t : TypeId) : Option Nat := (P.info? t).map (·.size)
def agOf (P : Program) (t : TypeId) : Option Bool :=
  match P.underlying t with
  | some (.struct _) => some true
  | some (.array _ _) => some true
  | some _ => some false
  | none => none
/-- A type's zero cells, if there are as many as its size says. -/
def zeroC (P : Program) (t : TypeId) : Option (List AVal) :=
  match P.info? t with
  | some i => match i.zero with
    | some z => match ofLeaves z.cells.toList with
      | some cs => if cs.length = i.size then some cs else none
      | none => none
    | none => none
  | none => none
def zeroV (P : Program) (t : TypeId) : Option AVal :=
  match P.info? t with
  | some i => match i.zero with
    | some z => ofVal z
    | none => none
  | none => none

def leafK (P : Program) (t : TypeId) : Option LK :=
  match P.underlying t with
  | some (.int _) => some .int
  | some .bool => some .bool
  | some .string => some .str
  | _ => none

/-- The kinds of a struct's cells, field by field. -/
def ksF (P : Program) (rec : TypeId → Option (List LK)) : List Field → Nat → Option (List LK)
  | [], _ => some []
  | f :: fs, off =>
    if f.name = "_" ∨ f.offset ≠ off then none else
    match rec f.type with
    | some l => if szOf P f.type = some l.length then (ksF P rec fs (off + l.length)).map (l ++ ·) else none
    | none => none
/-- The kinds of a type's cells, in their order, if all are whole numbers, bools and texts. -/
def leafKs (P : Program) : Nat → TypeId → Option (List LK)
  | 0, _ => none
  | d + 1, t => match P.underlying t with
    | some (.struct fields) => if P.stoodInHeld t then none else ksF P (leafKs P d) fields.toList 0
    | some (.array _ _) => none
    | _ => (leafK P t).map fun k => [k]

def isC : Operand → Bool
  | .const _ => true
  | _ => false

def eqK (P : Program) (t : TypeId) (x y : Operand) : EK :=
  match P.underlying t with
  | some (.int _) => .leaf .int
  | some .bool => .leaf .bool
  | some .string => .leaf .str
  | some (.interface _) => if isC x || isC y then .ifc else .none
  | some (.struct _) => if P.eqGuardType P.depth t then .none else match leafKs P 6 t with
    | some ks => .agg ks
    | none => .none
  | _ => .none

/-- A function that may be called: it is there, has a body, and is none that the machine counts with. -/
def callOk (P : Program) (f : FuncId) : Bool :=
  match P.funcs[f]? with
  | some fn => !(fn.name == "runtime.NumGoroutine") && fn.body.isSome
  | none => false

def okb {α : Type} (b : Bool) (x : Option α) : Option α := if b then x else none

def cOp (P : Program) (dr : Bool) : Op → Option LOp
  | .move x => (cOpd x).map .mv
  | .assign x => (cOpd x).map .mv
  | .pick c a b => match cOpd c, cOpd a, cOpd b with
    | some c, some a, some b => some (.pick c a b)
    | _, _, _ => none
  | .alloc t => (zeroC P t).map .alloc
  | .box _ x => (cOpd x).map .box
  | .build t parts => match P.underlying t, zeroC P t, cParts parts.toList with
    | some (.struct fields), some z, some ps => okb (fields.toList.all fun f => (szOf P f.type).isSome) <|
      (ps.foldr (fun (i, x) acc => match acc, fields[i]? with
        | some l, some f => (szOf P f.type).map fun n => (f.offset, n, x) :: l
        | _, _ => none) (some [])).map (.build z)
    | some (.array _ elem), some z, some ps => (szOf P elem).map fun n => .build z (ps.map fun (i, x) => (i * n, n, x))
    | _, _, _ => none
  | .buildSlice t len parts => match P.underlying t, cParts parts.toList with
    | some (.slice elem), some ps => match zeroC P elem, szOf P elem with
      | some z, some n => okb (len * n ≤ 16777216 && n ≠ 0) (some (.bsl n z len ps))
      | _, _ => none
    | _, _ => none
  | .load t p => match szOf P t, agOf P t, cOpd p with
    | some n, some ag, some p => okb (ag || n == 1) (some (.load n ag p))
    | _, _, _ => none
  | .store t p x => match szOf P t, cOpd p, cOpd x with
    | some n, some p, some x => some (.store n p x)
    | _, _, _ => none
  | .nilCheck x => (cOpd x).map .nilc
  | .binOp op t x y _ => match cOpd x, cOpd y with
    | some a, some b => some (.bin op (eqK P t x y) a b)
    | _, _ => none
  | .unOp op _ x => (cOpd x).map (.un op)
  | .convert src dst x => match P.underlying src, P.underlying dst, cOpd x with
    | some _, some (.int k), some x => some (.cint k x)
    | some _, some .string, some x => some (.cstr x)
    | _, _, _ => none
  | .makeInterface t x => match P.underlying t, cOpd x with
    | some (.interface _), _ => none
    | some _, some x => some (.mki t x)
    | _, _ => none
  | .makeFunc fn first captured => match fn with
    | .func f => if first.isEmpty then (cOpds captured.toList).map (.mkf f) else none
    | _ => none
  | .makeSlice t l c => match P.underlying t, cOpd l, cOpd c with
    | some (.slice elem), some l, some c => match P.info? elem, zeroC P elem with
      | some i, some z => okb (i.size ≠ 0) (some (.msl i.size i.bytes z l c))
      | _, _ => none
    | _, _, _ => none
  | .slice t x lo hi mx => match mx with
    | none => match P.underlying t, cOpd x, cOpdO lo, cOpdO hi with
      | some .string, some x, some lo, some hi => some (.slc x lo hi)
      | some (.slice elem), some x, some lo, some hi => (szOf P elem).map fun n => .sls n x lo hi
      | _, _, _, _ => none
    | some _ => none
  | .fieldAddr t p f => match P.underlying t, cOpd p with
    | some (.struct fields), some p => match fields[f]? with
      | some fd => match szOf P fd.type with
        | some n => okb (n ≠ 0) (some (.fad fd.offset p))
        | none => none
      | none => none
    | _, _ => none
  | .field t x f => match P.underlying t, cOpd x with
    | some (.struct fields), some x => match fields[f]? with
      | some fd => match szOf P fd.type, agOf P fd.type with
        | some n, some ag => okb (ag || n == 1) (some (.fld fd.offset n ag x))
        | _, _ => none
      | none => none
    | _, _ => none
  | .indexAddr t x i => match P.underlying t, cOpd x, cOpd i with
    | some (.slice elem), some x, some i => (szOf P elem).map fun n => .iad n x i
    | some (.array len elem), some x, some i => (szOf P elem).map fun n => .iaa n len x i
    | _, _, _ => none
  | .index t x i => match P.underlying t, cOpd x, cOpd i with
    | some .string, some x, some i => some (.idx x i)
    | some (.array len elem), some x, some i => match szOf P elem, agOf P elem with
      | some n, some ag => okb (ag || n == 1) (some (.ida n len ag x i))
      | _, _ => none
    | _, _, _ => none
  | .extract x i => (cOpd x).map fun x => .ext x i
  | .call c => match c.callee with
    | .builtin .len => match c.argTypes[0]?, c.args[0]? with
      | some t, some x => match P.underlying t, cOpd x with
        | some .string, some x => some (.lens x)
        | some (.slice _), some x => some (.lenl x)
        | some (.array n _), _ => some (.mv (.c (.i .i64 n)))
        | some (.map _ _), some x => some (.lenm x)
        | _, _ => none
      | _, _ => none
    | .builtin .append => match c.argTypes[0]?, c.argTypes[1]?, c.args[0]?, c.args[1]? with
      | some t, some t', some s, some x => match P.underlying t, P.underlying t', cOpd s, cOpd x with
        | some (.slice elem), some d, some s, some x => match P.info? elem with
          | some i => okb (rowD d && (zeroC P elem).isSome && i.size ≠ 0) (some (.app i.size i.bytes s x))
          | none => none
        | _, _, _, _ => none
      | _, _, _, _ => none
    | .builtin .copy => match c.argTypes[0]?, c.args[0]?, c.args[1]? with
      | some t, some d, some s => match P.underlying t, cOpd d, cOpd s with
        | some (.slice elem), some d, some s => match szOf P elem with
          | some n => okb (n ≠ 0) (some (.cpy n d s))
          | none => none
        | _, _, _ => none
      | _, _, _ => none
    | .builtin .max => (cOpds c.args.toList).map .mx
    | .builtin .min => (cOpds c.args.toList).map .mn
    | .builtin _ => none
    | .invoke _ _ => none
    | .value (.func f) => okb (callOk P f) ((cOpds c.args.toList).map (.call (!dr) f))
    | .value x => match cOpd x, cOpds c.args.toList with
      | some x, some as => some (.callv (!dr) x as)
      | _, _ => none
  | .makeMap t r => match r with
    | none => okb ((P.underlying t).isSome) (some .mkm)
    | some _ => none
  | .lookup t x k ok => match P.underlying t, cOpd x, cOpd k with
    | some (.map key elem), some x, some k => match leafK P key, zeroV P elem with
      | some lk, some z => some (.lkp (.leaf lk) z ok x k)
      | _, _ => none
    | _, _, _ => none
  | .mapUpdate t m k x => match P.underlying t, cOpd m, cOpd k, cOpd x with
    | some (.map key _), some m, some k, some x => match leafK P key with
      | some lk => some (.mup (.leaf lk) m k x)
      | none => none
    | _, _, _, _ => none
  | _ => none

def cGuard (ops : Array Oper) : Option (Nat × Bool) → Option (Option (Nat × Bool))
  | none => some none
  | some (g, t) => match ops[g]? with
    | some o => match o.dst with
      | some d => some (some (d, t))
      | none => none
    | none => none

def cOper (P : Program) (dr : Bool) (nt : Nat) (ops : Array Oper) (o : Oper) : Option LOper :=
  match cGuard ops o.guard, cOp P dr o.op with
  | some g, some l => match o.dst with
    | some d => if d < nt then some { dst := some d, op := l, guard := g } else none
    | none => some { dst := none, op := l, guard := g }
  | _, _ => none

def cOpers (P : Program) (dr : Bool) (nt : Nat) (ops : Array Oper) : List Oper → Option (List LOper)
  | [] => some []
  | o :: os => match cOper P dr nt ops o, cOpers P dr nt ops os with
    | some l, some ls => some (l :: ls)
    | _, _ => none

/-! ### Regions whose order is open: which operations could stand in each other's way -/
def LOp.opds : LOp → List LOpd
  | .mv x => [x]
  | .pick c a b => [c, a, b]
  | .alloc _ => []
  | .box x => [x]
  | .build _ ps => ps.map (·.2.2)
  | .bsl _ _ _ ps => ps.map (·.2)
  | .load _ _ p => [p]
  | .store _ p x => [p, x]
  | .nilc x => [x]
  | .bin _ _ x y => [x, y]
  | .un _ x => [x]
  | .cint _ x => [x]
  | .cstr x => [x]
  | .mki _ x => [x]
  | .mkf _ xs => xs
  | .msl _ _ _ l c => [l, c]
  | .slc x lo hi => x :: (lo.toList ++ hi.toList)
  | .sls _ x lo hi => x :: (lo.toList ++ hi.toList)
  | .fad _ p => [p]
  | .fld _ _ _ x => [x]
  | .iad _ x i => [x, i]
  | .iaa _ _ x i => [x, i]
  | .idx x i => [x, i]
  | .ida _ _ _ x i => [x, i]
  | .ext x _ => [x]
  | .lens x => [x]
  | .lenl x => [x]
  | .mx xs => xs
  | .mn xs => xs
  | .app _ _ s x => [s, x]
  | .cpy _ d s => [d, s]
  | .call _ _ as => as
  | .callv _ f as => f :: as
  | .mkm => []
  | .lkp _ _ _ m k => [m, k]
  | .mup _ m k x => [m, k, x]
  | .lenm m => [m]

def tmpOf : LOpd → Option Nat
  | .t n => some n
  | .c _ => none

def LOper.uses (o : LOper) (t : Nat) : Bool :=
  o.op.opds.any (fun x => tmpOf x == some t) || (match o.guard with | some (g, _) => g == t | none => false)

/-- Does it look at the heap? -/
def LOp.heapy : LOp → Bool
  | .alloc _ | .box _ | .load _ _ _ | .store _ _ _ | .msl _ _ _ _ _ | .app _ _ _ _ | .cpy _ _ _ | .call _ _ _ | .callv _ _ _ | .mkm | .lkp _ _ _ _ _ | .mup _ _ _ _ | .lenm _ => true
  | _ => false
/-- Does it turn the heap? -/
def LOp.turns : LOp → Bool
  | .alloc _ | .box _ | .store _ _ _ | .msl _ _ _ _ _ | .app _ _ _ _ | .cpy _ _ _ | .mkm | .mup _ _ _ _ => true
  | .call mk _ _ => mk
  | .callv mk _ _ => mk
  | _ => false

/-- Does operation j wait for operation i, by the edges that hold in any order? -/
def waits (ops : Array Oper) : Nat → Nat → Nat → Bool
  | 0, _, _ => false
  | n + 1, i, j => match ops[j]? with
    | some o => o.after.toList.any fun e => Region.binds .any e && (e.on == i || waits ops n i e.on)
    | none => false

/-- Two operations, the first ahead of the second in the text, that could stand in each other's way. (What only reads may come up ahead of a new variable or behind it.) -/
def LOp.isAlloc : LOp → Bool
  | .alloc _ => true
  | _ => false
def clashE (a b : LOper) : Bool :=
  (match a.dst with | some d => b.uses d | none => false) || (match b.dst with | some d => a.uses d | none => false)
def clashH (a b : LOper) : Bool := a.op.heapy && b.op.heapy && (a.op.turns || (b.op.turns && !b.op.isAlloc))
def clashes (a b : LOper) : Bool := clashE a b || clashH a b
/-- The pointer of a plain load or store. -/
def LOper.boxy (o : LOper) : Option LOpd :=
  match o.guard with
  | some _ => none
  | none => match o.op with
    | .load _ _ p => some p
    | .store _ p _ => some p
    | _ => none

def ordered (ops : Array Oper) (ls : List LOper) : Bool :=
  ls.zipIdx.all fun (b, j) => ls.zipIdx.all fun (a, i) =>
    if i < j then (a.dst.isNone || a.dst != b.dst) && (!clashes a b || waits ops ops.size i j) else true

/-- The same, where loads and stores through pointers to different variables may change places. -/
def orderedD (ops : Array Oper) (ls : List LOper) : Bool :=
  ls.zipIdx.all fun (b, j) => ls.zipIdx.all fun (a, i) =>
    if i < j then (a.dst.isNone || a.dst != b.dst) && (waits ops ops.size i j || (!clashE a b && (!clashH a b || (a.boxy.isSome && b.boxy.isSome)))) else true
/-- Which pairs must be of different variables. -/
def confl (ops : Array Oper) (ls : List LOper) : List (Nat × Nat) :=
  ls.zipIdx.flatMap fun (b, j) => (ls.zipIdx.filter fun (a, i) => decide (i < j) && !waits ops ops.size i j && clashH a b).map fun (_, i) => (i, j)

/-- What is waited for stands earlier in the text. -/
def fwd (ops : Array Oper) : Bool :=
  ops.toList.zipIdx.all fun (o, j) => o.after.toList.all fun e => !Region.binds .any e || decide (e.on < j)

def cCode (P : Program) (nt : Nat) : Code → Option LCode
  | .skip => some .skip
  | .region _ ops draw => match cOpers P draw nt ops ops.toList with
    | some ls => if draw then (if P.follows .mixedOrders && fwd ops then (if ordered ops ls then some (.reg ls) else if orderedD ops ls then some (.regD ls (confl ops ls)) else none) else none) else some (.reg ls)
    | none => none
  | .seq a b => match cCode P nt a, cCode P nt b with
    | some x, some y => some (.seq x y)
    | _, _ => none
  | .cond c x y => match cOpd c, cCode P nt x, cCode P nt y with
    | some c, some x, some y => some (.cond c x y)
    | _, _, _ => none
  | .block id c => (cCode P nt c).map (.block id)
  | .loop c => (cCode P nt c).map .loop
  | .exit id => some (.exit id)
  | .ret => some .ret
  | .label _ => some .skip
  | .scope c => (cCode P nt c).map .scope
  | _ => none

/-- A function's code, and where its results lie: a slot, or a variable of so many cells. -/
structure LFunc where
  np : Nat
  nt : Nat
  res : List (Nat × Option (Nat × Bool))
  body : LCode
  deriving Inhabited

def cRes (P : Program) : List ResultVar → Option (List (Nat × Option (Nat × Bool)))
  | [] => some []
  | .tmp t :: rs => (cRes P rs).map ((t, none) :: ·)
  | .cell t ty :: rs => match szOf P ty, agOf P ty, cRes P rs with
    | some n, some ag, some l => okb (ag || n == 1) (some ((t, some (n, ag)) :: l))
    | _, _, _ => none

def cFunc (P : Program) (f : FuncId) : Option LFunc :=
  match P.funcs[f]? with
  | some fn => match fn.body with
    | some body =>
      match cCode P fn.ntmps body, cRes P fn.results.toList with
      | some c, some r => okb (fn.nfree + fn.params.size ≤ fn.ntmps) (some { np := fn.params.size + fn.nfree, nt := fn.ntmps, res := r, body := c })
      | _, _ => none
    | none => none
  | none => none

/-! ### The weakest precondition -/
inductive AExit where
  | normal
  | exit (id : Nat)
  | ret

section
variable (P : Program) (G : GI)

def cleanAll (as : List AVal) : Bool := as.all clean

def CallK (mk : Bool) (f : FuncId) (args : List AVal) (H : Heap) (K : AVal → Heap → Prop) : Prop :=
  (∃ args' r, frzAll H args = some args' ∧ EvP P G f args' r ∧ (if cleanAll args || flat r then K r H else mk = true ∧ K r (args.foldl fix H))) ∨
  (mk = true ∧ ∃ r H', EvS P G f args H r H' ∧ K r H')

def doOp (e : Env) (H : Heap) (op : LOp) (K : AVal → Heap → Prop) : Prop :=
  match op with
  | .call mk f args => CallK P G mk f (args.map (·.ev e)) H K
  | .callv mk fx args => match fx.ev e with
    | .fn f cap => callOk P f = true ∧ CallK P G mk f (args.map (·.ev e) ++ cap) H K
    | _ => False
  | op => match evalP e op with
    | some v => K v H
    | none => match evalH e H op with
      | some (v, H') => K v H'
      | none => False

def wpO (o : LOper) (e : Env) (H : Heap) (K : Env → Heap → Prop) : Prop :=
  match o.guard with
  | none => doOp P G e H o.op fun v H' => K (e.set o.dst v) H'
  | some (g, t) => match e g with
    | .b t' => if t' = t then doOp P G e H o.op fun v H' => K (e.set o.dst v) H' else K (e.set o.dst (.tup [])) H
    | .tup _ => K (e.set o.dst (.tup [])) H
    | _ => False

def wpR : List LOper → Env → Heap → (Env → Heap → Prop) → Prop
  | [], e, H, K => K e H
  | o :: os, e, H, K => wpO P G o e H fun e' H' => wpR os e' H' K

/-- What variable a plain load or store is at. -/
def foot (o : LOper) (s : Nat) (e : Env) : Prop := ∀ p, o.boxy = some p → ∃ off, p.ev e = .ptr s off
def wpRD : List (LOper × Nat) → Env → Heap → (Env → Heap → Prop) → Prop
  | [], e, H, K => K e H
  | (o, s) :: os, e, H, K => foot o s e ∧ wpO P G o e H fun e' H' => wpRD os e' H' K

/-- So many rounds of a loop. -/
def rounds (body : Env → Heap → (AExit → Env → Heap → Prop) → Prop) : Nat → Env → Heap → (AExit → Env → Heap → Prop) → Prop
  | 0, _, _, _ => False
  | n + 1, e, H, Q => body e H fun x e' H' => match x with
    | .normal => rounds body n e' H' Q
    | x => Q x e' H'

def wpC : LCode → Env → Heap → (AExit → Env → Heap → Prop) → Prop
  | .skip, e, H, Q => Q .normal e H
  | .reg ops, e, H, Q => wpR P G ops e H (Q .normal)
  | .seq a b, e, H, Q => wpC a e H fun x e' H' => match x with
    | .normal => wpC b e' H' Q
    | x => Q x e' H'
  | .cond c a b, e, H, Q => match c.ev e with
    | .b t => (t = true → wpC a e H Q) ∧ (t = false → wpC b e H Q)
    | _ => False
  | .block id c, e, H, Q => wpC c e H fun x e' H' => match x with
    | .exit j => if j = id then Q .normal e' H' else Q (.exit j) e' H'
    | x => Q x e' H'
  | .loop c, e, H, Q => ∃ n, rounds (wpC c) n e H Q
  | .scope c, e, H, Q => wpC c e H Q
  | .regD ops conf, e, H, Q => ∃ s : List Nat, (∀ p ∈ conf, s.getD p.1 0 ≠ s.getD p.2 0) ∧ wpRD P G ((List.range ops.length).map fun i => (ops.getD i default, s.getD i 0)) e H (Q .normal)
  | .exit id, e, H, Q => Q (.exit id) e H
  | .ret, e, H, Q => Q .ret e H
end

/-- The slots at a function's begin. -/
def env0 (args : List AVal) : Env := fun j => args.getD j .u

/-- A function's results, out of slots and heap. -/
def resOf (e : Env) (H : Heap) : List (Nat × Option (Nat × Bool)) → Option (List AVal)
  | [] => some []
  | (t, none) :: rs => (resOf e H rs).map (e t :: ·)
  | (t, some (n, ag)) :: rs => match e t with
    | .ptr id o => match H[id]? with
      | some (.box cs) => match ldCells cs o n ag, resOf e H rs with
        | some v, some vs => some (v :: vs)
        | _, _ => none
      | _ => none
    | _ => none
def oneRes : List AVal → AVal
  | [v] => v
  | vs => .tup vs
end Go.Proofs.Ythpcjekmgohelaa.Ab
