/-
  SL: the evaluator over abstract values. No claim by itself.
-/
import Derived.Test.YtdgikagnkbphoaaDoorSlTag
namespace Go.Proofs.SL
open Go

inductive TK where
  | int (k : IntKind) | bool | str
  | ptr (e : Nat) | slice (e : Nat) | arr (n e : Nat)
  | struct (fs : List (Nat × Nat))
  | map (k e : Nat) | iface | func | other

/-- A type as the evaluator sees it: its kind, its cells, whether it is a struct or an array, its bytes, its zero value. -/
structure TD where
  k : TK
  size : Nat
  agg : Bool
  bytes : Nat
  zero : PV
  tags : Option (List Tag) := none

def ofScalar : Value → PV
  | .bool b => .bool b
  | .int k n => .int k n
  | .string s => .str s
  | .pointer none => .nilp
  | .slice none 0 0 => .nils
  | .nilFunc => .nilf
  | .nilIface => .nili
  | _ => .any
def ofValue : Value → PV
  | .agg cs => .agg (cs.toList.map ofScalar)
  | v => ofScalar v

def opn (σ : Env) : Operand → PV
  | .tmp t => σ.getD t .any
  | .const v => ofValue v
  | .func f => .func (.func f) [] []
  | .global _ => .any

/-- Whether a value takes one cell, and may be stored there. -/
def PV.one : PV → Bool
  | .any | .agg _ | .tup _ => false
  | _ => true

def bitOp (op : BinOp) (k : IntKind) (a b : Int) : Int :=
  let x := BitVec.ofInt k.bits a
  let y := BitVec.ofInt k.bits b
  match op with
  | .and => k.wrap (x &&& y).toNat
  | .or => k.wrap (x ||| y).toNat
  | .xor => k.wrap (x ^^^ y).toNat
  | _ => k.wrap (x &&& ~~~y).toNat

def slt (a b : ByteArray) : Bool := Op.bytesLess a.toList b.toList

def intBin (op : BinOp) (k : IntKind) (a b : Int) : Bool × PV :=
  match op with
  | .add => (true, .int k (k.wrap (a + b)))
  | .sub => (true, .int k (k.wrap (a - b)))
  | .mul => (true, .int k (k.wrap (a * b)))
  | .quo => (!decide (b = 0), .int k (k.wrap (a.tdiv b)))
  | .rem => (!decide (b = 0), .int k (a.tmod b))
  | .and => (true, .int k (bitOp .and k a b))
  | .or => (true, .int k (bitOp .or k a b))
  | .xor => (true, .int k (bitOp .xor k a b))
  | .andNot => (true, .int k (bitOp .andNot k a b))
  | .shl => (decide (0 ≤ b), .int k (k.wrap (a * 2 ^ (min b.toNat k.bits))))
  | .shr => (decide (0 ≤ b), .int k (a.fdiv (2 ^ (min b.toNat k.bits))))
  | .eql => (true, .bool (decide (a = b)))
  | .neq => (true, .bool (!decide (a = b)))
  | .lss => (true, .bool (decide (a < b)))
  | .leq => (true, .bool (decide (a ≤ b)))
  | .gtr => (true, .bool (decide (b < a)))
  | .geq => (true, .bool (decide (b ≤ a)))

def strBin (op : BinOp) (a b : ByteArray) : Bool × PV :=
  match op with
  | .add => (decide (a.size + b.size < 9223372036854775808), .str (a ++ b))
  | .eql => (true, .bool (decide (a = b)))
  | .neq => (true, .bool (!decide (a = b)))
  | .lss => (true, .bool (slt a b))
  | .leq => (true, .bool (slt a b || decide (a = b)))
  | .gtr => (true, .bool (!(slt a b || decide (a = b))))
  | .geq => (true, .bool (!slt a b))
  | _ => (false, .any)

def no : Bool × PV := (false, .any)

/-- '==' of two values of one comparable type. -/
def eqBin (k : TK) (x y : PV) : Bool × PV :=
  match k, x, y with
  | .bool, .bool a, .bool b => (true, .bool (a == b))
  | .slice _, .nils, .nils => (true, .bool true)
  | .slice _, .nils, .sl _ xs => (!decide (xs.length = 0), .bool false)
  | .slice _, .sl _ xs, .nils => (!decide (xs.length = 0), .bool false)
  | .func, .nilf, .nilf => (true, .bool true)
  | .func, .func _ _ _, .nilf => (true, .bool false)
  | .func, .nilf, .func _ _ _ => (true, .bool false)
  | .ptr _, .nilp, .nilp => (true, .bool true)
  | .ptr _, .nilp, .ptr _ _ _ => (true, .bool false)
  | .ptr _, .ptr _ _ _, .nilp => (true, .bool false)
  | .map _ _, .nilm, .nilm => (true, .bool true)
  | .map _ _, .nilm, .mp _ => (true, .bool false)
  | .map _ _, .mp _, .nilm => (true, .bool false)
  | _, _, _ => no

open Classical in
/-- '==' of two structs or arrays of numbers, texts and truths. -/
noncomputable def eqAgg (d : TD) (cs ds : List PV) : Bool × PV :=
  match d.tags with
  | some l => (d.agg && (decide (cs.map tagP = l.map some) && decide (ds.map tagP = l.map some)), .bool (decide (cs = ds)))
  | none => no

def notB : Bool × PV → Bool × PV
  | (c, .bool b) => (c, .bool !b)
  | _ => no

noncomputable def binV (T : Nat → Option TD) (op : BinOp) (t : Nat) (x y : PV) : Bool × PV :=
  match x, y with
  | .int k a, .int k' b => match op with
    | .shl => intBin .shl k a b
    | .shr => intBin .shr k a b
    | op => if k = k' then intBin op k a b else no
  | .str a, .str b => strBin op a b
  | .agg cs, .agg ds => match op, T t with
    | .eql, some d => eqAgg d cs ds
    | .neq, some d => notB (eqAgg d cs ds)
    | _, _ => no
  | x, y => match op, T t with
    | .eql, some d => eqBin d.k x y
    | .neq, some d => notB (eqBin d.k x y)
    | _, _ => no

def subCells (cs : List PV) (off n : Nat) : List PV := (cs.drop off).take n

/-- A part of an aggregate: of type 'd', from cell 'off' on. -/
def partV (d : TD) (cs : List PV) (off : Nat) : Bool × PV :=
  if d.agg then (decide (off + d.size ≤ cs.length), .agg (subCells cs off d.size)) else (decide (off < cs.length), cs.getD off .any)

def idx (i : Int) (n : Nat) : Bool := decide (0 ≤ i) && decide (i < n)

def lim (d : Nat) : Option PV → Option Int
  | none => some d
  | some (.int _ n) => some n
  | _ => none

/-- The address of an element. -/
def elemAddr (T : Nat → Option TD) (t : Nat) (x i : PV) : Bool × PV :=
  match T t, x, i with
  | some d, .ptr j ver off, .int _ i => match d.k with
    | .arr n e => match T e with
      | some de => (idx i n && decide (2 ≤ n), .ptr j ver (off + i.toNat * de.size))
      | none => no
    | _ => no
  | some d, .sl m xs, .int _ i => match d.k with
    | .slice e => match T e with
      | some de => (idx i xs.length && decide (de.size = m), .cptr (xs.getD i.toNat .any))
      | none => no
    | _ => no
  | some d, .buf j ver off len m _, .int _ i => match d.k with
    | .slice e => match T e with
      | some de => (idx i len && decide (de.size = m), .ptr j ver (off + i.toNat * m))
      | none => no
    | _ => no
  | _, _, _ => no

/-- The cells of an aggregate, parts laid in. -/
def fillV (place : Nat → Option (Nat × Nat)) (cs : List PV) : List (Nat × PV) → Bool × PV
  | [] => (true, .agg cs)
  | (i, p) :: rest => match place i, p with
    | _, .any => no
    | none, _ => no
    | some (off, n), p => let (c, r) := fillV place (cs.take off ++ p.cells ++ cs.drop (off + n)) rest
      (decide (p.cells.length = n) && (decide (off + n ≤ cs.length) && c), r)

def unV (op : UnOp) (p : PV) : Bool × PV :=
  match op, p with
  | .not, .bool b => (true, .bool !b)
  | .neg, .int k n => (true, .int k (k.wrap (0 - n)))
  | .xor, .int k n => (true, .int k (bitOp .xor k (if k.signed then -1 else k.max) n))
  | _, _ => no

def pickV (c a b : PV) : Bool × PV :=
  match c with
  | .bool true => (true, a)
  | .bool false => (true, b)
  | _ => no

/-- Conversions that need no memory: 'none' says that it is another one. -/
def convV (s d : TK) (p : PV) : Option (Bool × PV) :=
  match d, p with
  | .int k, .int _ n => some (true, .int k (k.wrap n))
  | .str, .str s => some (true, .str s)
  | .str, .int _ n => some (true, .str (Utf8.encode n))
  | .slice _, _ => none
  | .str, _ => match s with
    | .slice _ => none
    | _ => some no
  | _, _ => some no

def indexV (T : Nat → Option TD) (t : Nat) (p q : PV) : Bool × PV :=
  match T t with
  | none => no
  | some d => match p, q with
    | .str s, .int _ i => match d.k with
      | .str => (idx i s.size, .int .u8 (s.get! i.toNat).toNat)
      | _ => no
    | .agg cs, .int _ i => match d.k with
      | .arr n e => match T e with
        | some de => (idx i n && (partV de cs (i.toNat * de.size)).1, (partV de cs (i.toNat * de.size)).2)
        | none => no
      | _ => no
    | _, _ => no

def extractV (p : PV) (i : Nat) : Bool × PV :=
  match p with
  | .tup vs => (decide (i < vs.length), vs.getD i .any)
  | _ => no

/-- Field f of a struct type: where it begins, its type. -/
def fieldOf (T : Nat → Option TD) (t f : Nat) : Option (Nat × TD) :=
  match T t with
  | none => none
  | some d => match d.k with
    | .struct fs => match fs[f]? with
      | some (off, ft) => match T ft with
        | some df => some (off, df)
        | none => none
      | none => none
    | _ => none

def fieldV (T : Nat → Option TD) (t f : Nat) (p : PV) : Bool × PV :=
  match fieldOf T t f with
  | none => no
  | some (off, df) => match p with
    | .agg cs => partV df cs off
    | _ => no

def fieldAddrV (T : Nat → Option TD) (t f : Nat) (p : PV) : Bool × PV :=
  match fieldOf T t f with
  | none => no
  | some (fo, df) => match p with
    | .ptr i ver off => (!decide (df.size = 0), .ptr i ver (off + fo))
    | .cptr (.agg cs) => (!decide (df.size = 0) && ((partV df cs fo).1 && (df.agg || (partV df cs fo).2.one)), .cptr (partV df cs fo).2)
    | _ => no

def buildV (T : Nat → Option TD) (t : Nat) (parts : List (Nat × PV)) : Bool × PV :=
  match T t with
  | none => no
  | some d => match d.zero with
    | .agg cs => match d.k with
      | .struct fs => if (fs.all fun x => (T x.2).isSome) = true then fillV (fun i => (fieldOf T t i).map fun x => (x.1, x.2.size)) cs parts else no
      | .arr _ e => match T e with
        | some de => fillV (fun i => some (i * de.size, de.size)) cs parts
        | none => no
      | _ => no
    | _ => no

/-- The array that a slice is the beginning of, by its address. -/
def arrayAtV (T : Nat → Option TD) (t : Nat) (p : PV) : Bool × PV :=
  match T t with
  | some d => match d.k, p with
    | .arr n _, .buf i ver off len _ _ => (decide (n ≤ len) && !decide (len = 0), .ptr i ver off)
    | _, _ => no
  | none => no

def makeIfaceV (T : Nat → Option TD) (t : Nat) (p : PV) : Bool × PV :=
  match T t with
  | none => no
  | some d => match d.k with
    | .iface => no
    | _ => (true, .iface t p)

def zeroLit : Option PV → Bool
  | some (.int _ n) => decide (n = 0)
  | _ => false

def sliceV (T : Nat → Option TD) (t : Nat) (p : PV) (lo hi mx : Option PV) : Bool × PV :=
  match T t with
  | none => no
  | some d => match mx with
    | some m => match d.k with
      | .slice e => match T e with
        | none => no
        | some _ => match p with
          | .nils => (zeroLit lo && (zeroLit hi && zeroLit (some m)), .empt)
          | .empt => (zeroLit lo && (zeroLit hi && zeroLit (some m)), .empt)
          | .sl _ _ => (zeroLit lo && (zeroLit hi && zeroLit (some m)), .empt)
          | .buf _ _ _ _ _ _ => (zeroLit lo && (zeroLit hi && zeroLit (some m)), .empt)
          | _ => no
      | _ => no
    | none => match p with
      | .str s => match d.k, lim 0 lo, lim s.size hi with
        | .str, some l, some h => (decide (0 ≤ l) && (decide (l ≤ h) && decide (h ≤ s.size)), .str (s.extract l.toNat h.toNat))
        | _, _, _ => no
      | .sl m xs => match d.k, lim 0 lo, lim xs.length hi with
        | .slice e, some l, some h => match T e with
          | some de => (decide (0 ≤ l) && (decide (l ≤ h) && (decide (h ≤ xs.length) && decide (de.size = m))), .sl m ((xs.take h.toNat).drop l.toNat))
          | none => no
        | _, _, _ => no
      | .buf i ver off len m tip => match d.k, lim 0 lo, lim len hi with
        | .slice e, some l, some h => match T e with
          | some de => (decide (0 ≤ l) && (decide (l ≤ h) && (decide (h ≤ len) && decide (de.size = m))), .buf i ver (off + l.toNat * m) (h.toNat - l.toNat) m (tip && lo.isNone))
          | none => no
        | _, _, _ => no
      | _ => no

def lenV (T : Nat → Option TD) (ts : List Nat) (ps : List PV) : Bool × PV :=
  match ts, ps with
  | t :: _, p :: _ => match T t with
    | none => no
    | some d => match d.k, p with
      | .str, .str s => (true, .int .i64 s.size)
      | .slice _, .sl _ xs => (true, .int .i64 xs.length)
      | .slice _, .buf _ _ _ n _ _ => (true, .int .i64 n)
      | .slice _, .nils => (true, .int .i64 0)
      | .slice _, .empt => (true, .int .i64 0)
      | .arr n _, _ => (true, .int .i64 n)
      | _, _ => no
  | _, _ => no

def minV : List PV → Bool × PV
  | [.int k a, .int _ b] => (true, .int k (if b < a then b else a))
  | _ => no
def maxV : List PV → Bool × PV
  | [.int k a, .int _ b] => (true, .int k (if b > a then b else a))
  | _ => no

def nilCheckV (p : PV) : Bool × PV :=
  match p with
  | .ptr i ver off => (true, .ptr i ver off)
  | .cptr p => (true, .cptr p)
  | _ => no

/-- What hangs on the operands alone. -/
noncomputable def pureOp (T : Nat → Option TD) (g : Operand → PV) : Op → Option (Bool × PV)
  | .move x => some (true, g x)
  | .assign x => some (true, g x)
  | .pick c a b => some (pickV (g c) (g a) (g b))
  | .binOp op t x y _ => some (binV T op t (g x) (g y))
  | .unOp op _ x => some (unV op (g x))
  | .nilCheck x => some (nilCheckV (g x))
  | .convert src dst x => match T src, T dst with
    | some s, some d => convV s.k d.k (g x)
    | _, _ => some no
  | .index t x i => some (indexV T t (g x) (g i))
  | .extract x i => some (extractV (g x) i)
  | .field t x f => some (fieldV T t f (g x))
  | .fieldAddr t x f => some (fieldAddrV T t f (g x))
  | .indexAddr t x i => some (elemAddr T t (g x) (g i))
  | .build t parts => some (buildV T t (parts.toList.map fun p => (p.1, g p.2)))
  | .makeFunc fn a c => some (true, .func fn (a.toList.map g) (c.toList.map g))
  | .makeInterface t x => some (makeIfaceV T t (g x))
  | .sliceToArrayPointer t x => some (arrayAtV T t (g x))
  | .slice t x lo hi mx => match T t with
    | none => some no
    | some d => match d.k with
      | .arr _ _ => none
      | .ptr _ => none
      | _ => some (sliceV T t (g x) (lo.map g) (hi.map g) (mx.map g))
  | .call c => match c.callee with
    | .builtin .len => some (lenV T c.argTypes.toList (c.args.toList.map g))
    | .builtin .min => some (minV (c.args.toList.map g))
    | .builtin .max => some (maxV (c.args.toList.map g))
    | _ => none
  | _ => none

def isU8 : PV → Bool
  | .int .u8 n => decide (0 ≤ n ∧ n < 256)
  | _ => false
def bytesOf (xs : List PV) : ByteArray := ⟨(xs.map fun
  | .int _ n => UInt8.ofNat n.toNat
  | _ => 0).toArray⟩

def obj (H : Heap) (i ver : Nat) : Option (List PV) :=
  match H[i]? with
  | some (some (.cells v cs)) => if v = ver then some cs else none
  | _ => none

def loadV (d : TD) (H : Heap) (p : PV) : Bool × PV :=
  match p with
  | .ptr i ver off => match obj H i ver with
    | some cs => partV d cs off
    | none => no
  | .cptr p => if d.agg then (match p with
      | .agg cs => (decide (cs.length = d.size), .agg cs)
      | _ => no) else (p.one, p)
  | _ => no

/-- A slice of an array of n elements of m cells, at an address. -/
def arrSliceV (H : Heap) (n m : Nat) (p : PV) (lo hi : Option PV) : Bool × PV :=
  match p with
  | .ptr i ver off => match obj H i ver, lim 0 lo, lim n hi with
    | some cs, some l, some h => (decide (0 ≤ l) && (decide (l ≤ h) && (decide (h ≤ n) && decide (off + n * m ≤ cs.length))), .buf i ver (off + l.toNat * m) (h.toNat - l.toNat) m false)
    | _, _, _ => no
  | _ => no

def toStrV (H : Heap) (d : TK) (p : PV) : Option (Bool × PV) :=
  match d with
  | .str => match p with
    | .sl m xs => some (decide (m = 1) && xs.all isU8, .str (bytesOf xs))
    | .nils => some (true, .str ⟨#[]⟩)
    | .buf i ver off len m _ => some (match obj H i ver with
      | some cs => (decide (m = 1) && (decide (off + len ≤ cs.length) && (subCells cs off len).all isU8), .str (bytesOf (subCells cs off len)))
      | none => no)
    | _ => none
  | _ => none

/-- What reads the heap, and leaves it. -/
def readOp (T : Nat → Option TD) (g : Operand → PV) (H : Heap) : Op → Option (Bool × PV)
  | .load t a => some (match T t with
    | some d => loadV d H (g a)
    | none => no)
  | .convert s dst x => match T s, T dst with
    | some ds, some d => match ds.k with
      | .slice e => match T e with
        | some de => match de.k with
          | .int .u8 => toStrV H d.k (g x)
          | _ => none
        | none => none
      | _ => none
    | _, _ => none
  | .slice t x lo hi mx => match T t, mx with
    | some d, none => match d.k with
      | .arr n e => match T e with
        | some de => some (arrSliceV H n de.size (g x) (lo.map g) (hi.map g))
        | none => some no
      | .ptr a => match T a with
        | some da => match da.k with
          | .arr n e => match T e with
            | some de => some (arrSliceV H n de.size (g x) (lo.map g) (hi.map g))
            | none => some no
          | _ => some no
        | none => some no
      | _ => some no
    | _, _ => some no
  | _ => none

inductive R where
  | val (b : Bool) (v : PV) (H : Heap)
  | br (c : Bool) (v1 : PV) (H1 : Heap) (v2 : PV) (H2 : Heap)
  | call (f : Nat) (args : List PV)
  | bad

def chunk (m : Nat) (agg : Bool) : Nat → List PV → List PV
  | 0, _ => []
  | n + 1, cs => (if agg then .agg (cs.take m) else cs.getD 0 .any) :: chunk m agg n (cs.drop m)

/-- The elements of a slice or a string that is appended or copied. -/
def elemsOf (H : Heap) (d : TD) : PV → Option (Bool × List PV)
  | .sl m xs => some (decide (m = d.size), xs)
  | .str s => some (decide (d.size = 1) && !d.agg, s.toList.map fun b => .int .u8 b.toNat)
  | .nils => some (true, [])
  | .empt => some (true, [])
  | .buf i ver off len m _ => match obj H i ver with
    | some cs => some (decide (m = d.size) && (decide (off + len * m ≤ cs.length) && (d.agg || decide (d.size = 1))), chunk m d.agg len (subCells cs off (len * m)))
    | none => none
  | _ => none

/-- A new slice: to be changed later, or not. -/
def newSlice (mu : Bool) (c : Bool) (H : Heap) (m : Nat) (xs : List PV) : R :=
  if mu then .val c (.buf H.length 0 0 xs.length m true) (H ++ [some (.cells 0 (flat xs))]) else .val c (.sl m xs) H

def most : Nat := 70368744177664

def storeV (d : TD) (cs : List PV) (off : Nat) (v : PV) : Bool × List PV :=
  if d.agg then match v with
    | .agg vs => (decide (vs.length = d.size) && (decide (off + d.size ≤ cs.length) && vs.all PV.one), cs.take off ++ vs ++ cs.drop (off + d.size))
    | _ => (false, [])
  else (decide (off < cs.length) && (v.one && decide (d.size = 1)), cs.set off v)

def storeE (T : Nat → Option TD) (H : Heap) (t : Nat) (a x : PV) : R :=
  match T t with
  | none => .bad
  | some d => match a with
    | .ptr i ver off => match obj H i ver with
      | some cs => .val (storeV d cs off x).1 .any (H.set i (some (.cells ver (storeV d cs off x).2)))
      | none => .bad
    | _ => .bad

def boxE (H : Heap) (p : PV) : R :=
  match p with
  | .any => .bad
  | p => .val (p.cells.all PV.one) (.ptr H.length 0 0) (H ++ [some (.cells 0 p.cells)])

/-- A slice type's element. -/
def elemTy (T : Nat → Option TD) (t : Nat) : Option (Nat × TD) :=
  match T t with
  | none => none
  | some d => match d.k with
    | .slice e => match T e with
      | some de => some (e, de)
      | none => none
    | _ => none

def buildSliceE (T : Nat → Option TD) (mu : Bool) (H : Heap) (t n : Nat) (parts : List (Nat × PV)) : R :=
  match elemTy T t with
  | none => .bad
  | some (_, de) => match fillV (fun i => some (i * de.size, de.size)) (List.replicate (n * de.size) .any) parts with
    | (c, .agg cs) => newSlice mu (c && (cs.all PV.one && (decide (n * de.size ≤ 16777216) && (de.agg || decide (de.size = 1))))) H de.size (chunk de.size de.agg n cs)
    | _ => .bad

def bytesE (T : Nat → Option TD) (mu : Bool) (H : Heap) (t : Nat) (p : PV) : R :=
  match elemTy T t with
  | none => .bad
  | some (_, de) => match de.k, p with
    | .int .u8, .str s => newSlice mu (decide (de.size = 1)) H 1 (s.toList.map fun b => .int .u8 b.toNat)
    | _, _ => .bad

def rangeE (T : Nat → Option TD) (H : Heap) (t : Nat) (p : PV) : R :=
  match T t with
  | none => .bad
  | some d => match d.k, p with
    | .str, .str s => .val true (.ptr H.length 0 0) (H ++ [some (.striter s 0)])
    | _, _ => .bad

def nextE (H : Heap) (isStr : Bool) (p : PV) : R :=
  match isStr, p with
  | true, .ptr i 0 0 => match H[i]? with
    | some (some (.striter s pos)) => .br (decide (pos < s.size))
        (.tup [.bool true, .int .i64 pos, .int .i32 (Utf8.decode s pos).1]) (H.set i (some (.striter s (pos + (Utf8.decode s pos).2))))
        (.tup [.bool false]) H
    | _ => .bad
  | _, _ => .bad

def appendable : TK → Bool
  | .slice _ => true
  | .str => true
  | _ => false

def appendE (T : Nat → Option TD) (mu : Bool) (H : Heap) (t u : Nat) (s x : PV) : R :=
  match elemTy T t, T u with
  | some (_, de), some du => match elemsOf H de x with
    | none => .bad
    | some (c, xs) => match s with
      | .nils => newSlice mu (c && (appendable du.k && (decide (xs.length * de.bytes ≤ most) && decide (xs.length ≤ most)))) H de.size xs
      | .empt => newSlice mu (c && (appendable du.k && (decide (xs.length * de.bytes ≤ most) && decide (xs.length ≤ most)))) H de.size xs
      | .buf i ver off len m true => match obj H i ver with
        | some cs => .val (c && (appendable du.k && (decide (de.size = m) && (decide (off = 0) && (decide (len * m = cs.length) && (decide ((len + xs.length) * de.bytes ≤ most) && decide (len + xs.length ≤ most)))))))
            (.buf i (ver + 1) 0 (len + xs.length) m true) (H.set i (some (.cells (ver + 1) (cs ++ flat xs))))
        | none => .bad
      | _ => .bad
  | _, _ => .bad

def copyE (T : Nat → Option TD) (H : Heap) (t : Nat) (d x : PV) : R :=
  match elemTy T t, d with
  | some (_, de), .buf i ver off len m _ => match elemsOf H de x, obj H i ver with
    | some (c, xs), some cs => .val (c && (decide (de.size = m) && (decide (off + len * m ≤ cs.length) && (xs.all fun x => decide (x.cells.length = m) && x.cells.all PV.one))))
        (.int .i64 (min xs.length len : Nat)) (H.set i (some (.cells ver (cs.take off ++ flat (xs.take (min xs.length len)) ++ cs.drop (off + min xs.length len * m)))))
    | _, _ => .bad
  | _, _ => .bad

def makeSliceE (T : Nat → Option TD) (mu : Bool) (H : Heap) (t : Nat) (l c : PV) : R :=
  match elemTy T t, l, c with
  | some (_, de), .int _ n, .int _ n' => newSlice mu (decide (n = n') && (decide (0 ≤ n) && (decide (n.toNat * de.bytes ≤ most) && (decide (n.toNat ≤ most) && (de.zero.cells.all PV.one && (decide (0 < de.size) && decide (de.zero.cells.length = de.size)))))))
      H de.size (List.replicate n.toNat de.zero)
  | _, _, _ => .bad

def callE (f : PV) (args : List PV) : R :=
  match f with
  | .func (.func n) a b => .call n (a ++ args ++ b)
  | _ => .bad

def effOp (T : Nat → Option TD) (mu : Bool) (g : Operand → PV) (H : Heap) : Op → R
  | .store t a x => storeE T H t (g a) (g x)
  | .box _ x => boxE H (g x)
  | .alloc t => match T t with
    | some d => boxE H d.zero
    | none => .bad
  | .buildSlice t n parts => buildSliceE T mu H t n (parts.toList.map fun p => (p.1, g p.2))
  | .convert _ dst x => bytesE T mu H dst (g x)
  | .range t x => rangeE T H t (g x)
  | .makeSlice t l c => makeSliceE T mu H t (g l) (g c)
  | .next it isStr => nextE H isStr (g it)
  | .call c => match c.callee with
    | .value f => callE (g f) (c.args.toList.map g)
    | .builtin .append => match c.argTypes.toList, c.args.toList.map g with
      | [t, u], [s, x] => appendE T mu H t u s x
      | _, _ => .bad
    | .builtin .copy => match c.argTypes.toList, c.args.toList.map g with
      | t :: _, [d, x] => copyE T H t d x
      | _, _ => .bad
    | _ => .bad
  | _ => .bad

noncomputable def aop (T : Nat → Option TD) (mu : Bool) (g : Operand → PV) (H : Heap) (o : Op) : R :=
  match pureOp T g o with
  | some (b, v) => .val b v H
  | none => match readOp T g H o with
    | some (b, v) => .val b v H
    | none => effOp T mu g H o

/-- Items that wait: code, a block's end, a loop's next round, operations in their row, operations of a region whose order is drawn (by their numbers, in an order that will do). -/
inductive It where
  | code (c : Code)
  | blk (id : Nat)
  | loop (c : Code)
  | ops (all rest : List Oper)
  | op (all : List Oper) (o : Oper) (rest : List Oper)
  | dr (all : List Oper) (l : List Nat)
  | dop (all : List Oper) (i : Nat) (o : Oper) (l : List Nat)
  | dq (all : List Oper) (i : Nat) (rest : List Oper)
  | dqop (all : List Oper) (i : Nat) (o : Oper) (rest : List Oper)

inductive AEx where
  | normal
  | exit (id : Nat)
  | ret

inductive Ev where
  | need (b : Bool) (e : Ev)
  | call (f : Nat) (args : List PV) (dst : Option Nat) (its : List It) (σ : Env) (H : Heap)
  | callq (f : Nat) (args : List PV) (dst : Option Nat) (its : List It) (σ : Env) (H : Heap)
  | loop (c : Code) (its : List It) (σ : Env) (H : Heap)
  | done (x : AEx) (σ : Env) (H : Heap)
  | more (its : List It) (σ : Env) (H : Heap)
  | stuck

def upd (σ : Env) (d : Option Nat) (v : PV) : Env :=
  match d with
  | none => σ
  | some t => σ.set t v

def toBlk (id : Nat) : List It → Option (List It)
  | [] => none
  | .blk i :: k => if i = id then some k else toBlk id k
  | _ :: k => toBlk id k

def guardOf (all : List Oper) (o : Oper) : Option (Option Nat × Bool) :=
  match o.guard with
  | none => none
  | some (j, want) => some ((all[j]?).bind (·.dst), want)

/-- An operation that stores what a statement has come to. -/
def isSet : Op → Bool
  | .assign _ => true
  | .store _ _ _ => true
  | _ => false
def idxs : Nat → List Oper → List Nat
  | _, [] => []
  | i, _ :: l => i :: idxs (i + 1) l

/-- Goes on till something is to be known: a test, a condition, a call, a loop, the end. 'ord': for each region whose order is drawn, an order. -/
noncomputable def eval (T : Nat → Option TD) (mu : Nat → Bool) (ord : Nat → List Nat) : Nat → List It → Env → Heap → Ev
  | 0, its, σ, H => .more its σ H
  | _ + 1, [], σ, H => .done .normal σ H
  | n + 1, .blk _ :: k, σ, H => eval T mu ord n k σ H
  | _ + 1, .loop c :: k, σ, H => .loop c k σ H
  | n + 1, .ops _ [] :: k, σ, H => eval T mu ord n k σ H
  | n + 1, .ops all (o :: rest) :: k, σ, H => match guardOf all o with
    | none => eval T mu ord n (.op all o rest :: k) σ H
    | some (some t, want) => match σ.getD t .any with
      | .bool b => if b = want then eval T mu ord n (.op all o rest :: k) (σ.set t (.bool want)) H
        else eval T mu ord n (.ops all rest :: k) (upd (σ.set t (.bool !want)) o.dst (.tup [])) H
      | .tup [] => eval T mu ord n (.ops all rest :: k) (upd σ o.dst (.tup [])) H
      | _ => .stuck
    | some (none, _) => .stuck
  | n + 1, .op all o rest :: k, σ, H => match aop T ((o.dst.map mu).getD false) (opn σ) H o.op with
    | .val b v H' => .need b (eval T mu ord n (.ops all rest :: k) (upd σ o.dst v) H')
    | .br c v1 H1 v2 H2 => if c = true then eval T mu ord n (.ops all rest :: k) (upd σ o.dst v1) H1 else eval T mu ord n (.ops all rest :: k) (upd σ o.dst v2) H2
    | .call f l => .call f l o.dst (.ops all rest :: k) σ H
    | .bad => .stuck
  | n + 1, .dr _ [] :: k, σ, H => eval T mu ord n k σ H
  | n + 1, .dr all (i :: l) :: k, σ, H => match all[i]? with
    | none => .stuck
    | some o => match guardOf all o with
      | none => eval T mu ord n (.dop all i o l :: k) σ H
      | some (some t, want) => match σ.getD t .any with
        | .bool b => if b = want then eval T mu ord n (.dop all i o l :: k) (σ.set t (.bool want)) H
          else eval T mu ord n (.dr all l :: k) (upd (σ.set t (.bool !want)) o.dst (.tup [])) H
        | .tup [] => eval T mu ord n (.dr all l :: k) (upd σ o.dst (.tup [])) H
        | _ => .stuck
      | some (none, _) => .stuck
  | n + 1, .dop all _ o l :: k, σ, H => match aop T ((o.dst.map mu).getD false) (opn σ) H o.op with
    | .val b v H' => .need b (eval T mu ord n (.dr all l :: k) (upd σ o.dst v) H')
    | .br c v1 H1 v2 H2 => if c = true then eval T mu ord n (.dr all l :: k) (upd σ o.dst v1) H1 else eval T mu ord n (.dr all l :: k) (upd σ o.dst v2) H2
    | .call f as_ => .call f as_ o.dst (.dr all l :: k) σ H
    | .bad => .stuck
  | n + 1, .dq _ _ [] :: k, σ, H => eval T mu ord n k σ H
  | n + 1, .dq all i (o :: rest) :: k, σ, H => if isSet o.op = true then eval T mu ord n (.dr all (idxs i (o :: rest)) :: k) σ H else match guardOf all o with
    | none => eval T mu ord n (.dqop all i o rest :: k) σ H
    | some (some t, want) => match σ.getD t .any with
      | .bool b => if b = want then eval T mu ord n (.dqop all i o rest :: k) (σ.set t (.bool want)) H
        else eval T mu ord n (.dq all (i + 1) rest :: k) (upd (σ.set t (.bool !want)) o.dst (.tup [])) H
      | .tup [] => eval T mu ord n (.dq all (i + 1) rest :: k) (upd σ o.dst (.tup [])) H
      | _ => .stuck
    | some (none, _) => .stuck
  | n + 1, .dqop all i o rest :: k, σ, H => match pureOp T (opn σ) o.op with
    | some (b, v) => .need b (eval T mu ord n (.dq all (i + 1) rest :: k) (upd σ o.dst v) H)
    | none => match readOp T (opn σ) H o.op with
      | some (b, v) => .need b (eval T mu ord n (.dq all (i + 1) rest :: k) (upd σ o.dst v) H)
      | none => match effOp T false (opn σ) H o.op with
        | .call f as_ => .callq f as_ o.dst (.dq all (i + 1) rest :: k) σ H
        | _ => .stuck
  | n + 1, .code .skip :: k, σ, H => eval T mu ord n k σ H
  | n + 1, .code (.seq a b) :: k, σ, H => eval T mu ord n (.code a :: .code b :: k) σ H
  | n + 1, .code (.region _ ops false) :: k, σ, H => eval T mu ord n (.ops ops.toList ops.toList :: k) σ H
  | n + 1, .code (.region id ops true) :: k, σ, H => match ord id with
    | [] => eval T mu ord n (.dq ops.toList 0 ops.toList :: k) σ H
    | i :: l => eval T mu ord n (.dr ops.toList (i :: l) :: k) σ H
  | n + 1, .code (.cond c a b) :: k, σ, H => match opn σ c with
    | .bool t => if t = true then eval T mu ord n (.code a :: k) σ H else eval T mu ord n (.code b :: k) σ H
    | _ => .stuck
  | n + 1, .code (.block id c) :: k, σ, H => eval T mu ord n (.code c :: .blk id :: k) σ H
  | _ + 1, .code (.loop c) :: k, σ, H => .loop c k σ H
  | n + 1, .code (.exit id) :: k, σ, H => match toBlk id k with
    | some k' => eval T mu ord n k' σ H
    | none => .done (.exit id) σ H
  | _ + 1, .code .ret :: _, σ, H => .done .ret σ H
  | _ + 1, _ :: _, _, _ => .stuck

def slots (n : Nat) (args : List PV) : Env := args ++ List.replicate (n - args.length) .any

end Go.Proofs.SL
