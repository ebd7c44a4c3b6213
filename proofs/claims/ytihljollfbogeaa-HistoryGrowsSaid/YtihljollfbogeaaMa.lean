/- The abstract machine: values, operations and what they say of the machine. No condition. -/
import Derived.OrdersIn
import Derived.RangeFuncIn
import Derived.Below
import Derived.KernelRfl
import Derived.Laws.StructEq
import Derived.Laws.CopyRow
import Derived.Laws.Slices
import Derived.Laws.AppendOwn
import Derived.Laws.MakeOwn
import Derived.Laws.OwnMore
import Derived.Laws.BytesString

/- The abstract machine: abstract values, own blocks with names, and what each operation does to them. No condition. -/
namespace Go.Proofs.Ytihljollfbogeaa
open Go Go.RowKit

/-- An abstract value. -/
inductive AV where
  /-- a value that needs no memory -/
  | sc (v : Value)
  /-- a struct or an array: its cells -/
  | agg (cs : List AV)
  | tup (vs : List AV)
  /-- an empty slice without capacity -/
  | nl
  /-- a slice that nobody of us writes: its elements -/
  | imm (xs : List AV)
  /-- the same, without spare capacity -/
  | full (xs : List AV)
  /-- a slice on a block of our own -/
  | ref (n ver i len : Nat)
  /-- the address of a cell of a block of our own: element e, cell c -/
  | ptr (n ver e c : Nat)
  /-- the address of cell c of some cells that nobody of us writes -/
  | ipt (cs : List AV) (c : Nat)
  | fn (f : FuncId) (first caps : List AV)
  | mp (n ver : Nat)
  | junk

inductive Blk where
  | dead
  | row (sz : Nat) (els : List AV)
  | map (es : List (Int × AV))

abbrev Env := Nat → AV
abbrev Hp := Nat → Nat × Blk

def eset (e : Env) (d : Nat) (v : AV) : Env := fun t => if t = d then v else e t
def edst (e : Env) (d : Option Nat) (v : AV) : Env := match d with | some d => eset e d v | none => e
def hset (h : Hp) (n : Nat) (x : Nat × Blk) : Hp := fun m => if m = n then x else h m
def hemp : Hp := fun _ => (0, .dead)

def AV.cells : AV → List AV
  | .agg cs => cs
  | v => [v]

/-- What may stand in one cell. -/
def AV.one : AV → Bool
  | .agg _ | .tup _ | .junk => false
  | _ => true

/-- A value that can be stored: no tuple, nothing unknown. -/
def AV.storable (v : AV) : Bool := v.cells.all AV.one

/-- A value that holds no address of our own blocks. -/
def AV.pure1 : AV → Bool
  | .sc _ | .nl | .imm _ => true
  | _ => false
def AV.pure (v : AV) : Bool := v.cells.all AV.pure1

/-- The empty slice in the one form that results and elements have. -/
def norm1 : AV → AV
  | .nl => .imm []
  | v => v
def norm : AV → AV
  | .agg cs => .agg (cs.map norm1)
  | v => norm1 v

def ofCell : Value → AV
  | .slice none 0 0 => .nl
  | .int k n => .sc (.int k n)
  | .bool b => .sc (.bool b)
  | .string s => .sc (.string s)
  | .pointer none => .sc (.pointer none)
  | .nilFunc => .sc .nilFunc
  | .nilIface => .sc .nilIface
  | _ => .junk
def ofVal : Value → AV
  | .agg cs => if cs.toList.all Value.oneCell' then .agg (cs.toList.map ofCell) else .junk
  | v => ofCell v

/-! ### Operations -/
def oPick (c a b : AV) : Option AV :=
  match c with
  | .sc (.bool t) => some (if t then a else b)
  | _ => none

def oNot : AV → Option AV
  | .sc (.bool b) => some (.sc (.bool !b))
  | _ => none

def binInt (op : BinOp) (k : IntKind) (a b : Int) : Option Value :=
  match op with
  | .add => some (.int k (k.wrap (a + b)))
  | .sub => some (.int k (k.wrap (a - b)))
  | .mul => some (.int k (k.wrap (a * b)))
  | .rem => if b = 0 then none else some (.int k (a.tmod b))
  | .eql => some (.bool (a == b))
  | .neq => some (.bool (a != b))
  | .lss => some (.bool (decide (a < b)))
  | .leq => some (.bool (decide (a ≤ b)))
  | .gtr => some (.bool (decide (a > b)))
  | .geq => some (.bool (decide (a ≥ b)))
  | _ => none

def sameCells : List AV → List AV → Option Bool
  | [], [] => some true
  | .sc (.int k a) :: xs, .sc (.int k' b) :: ys => if k = k' then (sameCells xs ys).map fun r => a == b && r else none
  | _, _ => none

/-- A type whose values are equal if their cells, whole numbers, are: an array of whole numbers, or a struct of whole numbers. -/
def flatEq (P : Program) (t : TypeId) : Bool :=
  !P.eqGuardType P.depth t &&
  match P.underlying t with
  | some (.array n e) => (match P.underlying e with | some (.int _) => true | _ => false) && (match P.info? e with | some i => i.size == 1 | none => false) && (match P.info? t with | some i => i.size == n | none => false)
  | some (.struct fs) => !P.stoodInHeld t && fs.toList.zipIdx.all (fun (f, i) => f.name != "_" && f.offset == i && (match P.underlying f.type with | some (.int _) => true | _ => false)) && (match P.info? t with | some i => i.size == fs.size | none => false)
  | _ => false

def oBin (P : Program) (op : BinOp) (t : TypeId) (x y : AV) : Option AV :=
  match x, y with
  | .sc (.int k a), .sc (.int k' b) => if k = k' then (binInt op k a b).map .sc else none
  | .sc (.bool a), .sc (.bool b) =>
    match P.underlying t, op with
    | some .bool, .eql => some (.sc (.bool (a == b)))
    | some .bool, .neq => some (.sc (.bool (!(a == b))))
    | _, _ => none
  | .sc (.string a), .sc (.string b) =>
    match op with
    | .eql => some (.sc (.bool (a.toList == b.toList)))
    | .neq => some (.sc (.bool !(a.toList == b.toList)))
    | _ => none
  | .agg a, .agg b =>
    if flatEq P t && decide (a.length = P.cellsOf t) then
      match op with
      | .eql => (sameCells a b).map fun r => .sc (.bool r)
      | .neq => (sameCells a b).map fun r => .sc (.bool (!r))
      | _ => none
    else none
  | _, _ => none

def oNil : AV → Option AV
  | .ptr n v e c => some (.ptr n v e c)
  | .ipt cs c => some (.ipt cs c)
  | .fn f a b => some (.fn f a b)
  | _ => none

/-- Cells c, .., c + k - 1, as a value of a type. -/
def partA (agg : Bool) (k c : Nat) (cs : List AV) : Option AV :=
  if agg then (if c + k ≤ cs.length then some (.agg ((cs.drop c).take k)) else none) else cs[c]?

/-- The element that an address leads to. -/
def rowAt? (h : Hp) (n ver : Nat) : Option (Nat × List AV) :=
  match h n with
  | (v, .row sz els) => if v = ver then some (sz, els) else none
  | _ => none

def oLoad (agg : Bool) (k : Nat) (h : Hp) : AV → Option AV
  | .ptr n ver e c => (rowAt? h n ver).bind fun r => (r.2[e]?).bind fun el => partA agg k c el.cells
  | .ipt cs c => partA agg k c cs
  | _ => none

/-- Cells written over cells, from place c on. -/
def setCellsA (cs : List AV) (c : Nat) (new : List AV) : List AV := cs.take c ++ new ++ cs.drop (c + new.length)
/-- The element with other cells. -/
def reshape (old : AV) (cs : List AV) : AV :=
  match old with
  | .agg _ => .agg cs
  | _ => cs.headD .junk

def oStore (k : Nat) (h : Hp) (p v : AV) : Option Hp :=
  match p with
  | .ptr n ver e c => (rowAt? h n ver).bind fun r => (r.2[e]?).bind fun el =>
      if v.cells.length = k ∧ c + k ≤ el.cells.length ∧ v.storable = true then some (hset h n (ver, .row r.1 (r.2.set e (reshape el (setCellsA el.cells c v.cells))))) else none
  | _ => none

/-- A new block of one element. -/
def oNew (h : Hp) (n : Nat) (v : AV) : Option (AV × Hp) :=
  if v.storable = true then some (.ptr n ((h n).1 + 1) 0 0, hset h n ((h n).1 + 1, .row v.cells.length [v])) else none

def oFieldAddr (off : Nat) : AV → Option AV
  | .ptr n v e c => some (.ptr n v e (c + off))
  | .ipt cs c => some (.ipt cs (c + off))
  | _ => none

def asNum : AV → Option Int
  | .sc (.int _ i) => some i
  | _ => none

/-- &xs[i], xs a slice with elements of k cells. -/
def oIndexS (k : Nat) (h : Hp) (x i : AV) : Option AV :=
  match x with
  | .imm xs | .full xs => (asNum i).bind fun i => if 0 ≤ i ∧ i < xs.length then (xs[i.toNat]?).bind fun el => if el.cells.length = k then some (.ipt el.cells 0) else none else none
  | .ref n ver i0 len => (asNum i).bind fun i => if 0 ≤ i ∧ i < len then (rowAt? h n ver).bind fun r => if r.1 = k then some (.ptr n ver (i0 + i.toNat) 0) else none else none
  | _ => none
/-- &x[i], x an array of len elements of k cells, by its address. -/
def oIndexA (len k : Nat) (x i : AV) : Option AV :=
  (asNum i).bind fun i => if 0 ≤ i ∧ i < len then
    match x with
    | .ptr n v e c => some (.ptr n v e (c + i.toNat * k))
    | .ipt cs c => some (.ipt cs (c + i.toNat * k))
    | _ => none
  else none

/-- The elements of a slice. -/
def oElems (h : Hp) : AV → Option (List AV)
  | .nl => some []
  | .sc (.slice _ 0 _) => some []
  | .imm xs | .full xs => some xs
  | .ref n ver i len => (rowAt? h n ver).bind fun r => if i + len ≤ r.2.length then some ((r.2.drop i).take len) else none
  | _ => none

def oLen : AV → Option AV
  | .nl => some (.sc (.int .i64 0))
  | .imm xs | .full xs => some (.sc (.int .i64 xs.length))
  | .ref _ _ _ len => some (.sc (.int .i64 len))
  | _ => none
def oCap : AV → Option AV
  | .nl => some (.sc (.int .i64 0))
  | .full xs => some (.sc (.int .i64 xs.length))
  | _ => none

def oMin : AV → AV → Option AV
  | .sc (.int k a), .sc (.int k' b) => if k = k' then some (.sc (.int k (if b < a then b else a))) else none
  | _, _ => none
def oMax : AV → AV → Option AV
  | .sc (.int k a), .sc (.int k' b) => if k = k' then some (.sc (.int k (if b > a then b else a))) else none
  | _, _ => none

/-- How long what grows may become. -/
def LIM : Nat := 1073741824

def oMake (h : Hp) (n k : Nat) (zero x : AV) : Option (AV × Hp) :=
  match x with
  | .sc (.int _ m) => if 0 ≤ m ∧ m ≤ LIM ∧ zero.storable = true ∧ zero.cells.length = k then some (.ref n ((h n).1 + 1) 0 m.toNat, hset h n ((h n).1 + 1, .row k (List.replicate m.toNat zero))) else none
  | _ => none

/-- A literal of a slice. -/
def oLit (h : Hp) (n k : Nat) (vs : List AV) : Option (AV × Hp) :=
  if vs.all (fun v => v.storable && decide (v.cells.length = k)) then
    match vs with
    | [] => some (.nl, h)
    | _ => if vs.all AV.pure then some (.full (vs.map norm), h) else some (.ref n ((h n).1 + 1) 0 vs.length, hset h n ((h n).1 + 1, .row k vs))
  else none

def Blk.isDead : Blk → Bool
  | .dead => true
  | _ => false
/-- append(s, ys...). Nothing appended to nothing: a block that is in use is left alone. -/
def oAppend (h : Hp) (n k : Nat) (s : AV) (ys : List AV) : Option (AV × Hp) :=
  if ys.all (fun v => v.storable && decide (v.cells.length = k)) then
    match s with
    | .nl => if (ys.isEmpty && !(h n).2.isDead) = true then some (.nl, h) else if ys.length ≤ LIM then some (.ref n ((h n).1 + 1) 0 ys.length, hset h n ((h n).1 + 1, .row k ys)) else none
    | .full xs => match ys with
      | [] => some (.full xs, h)
      | _ => if xs.length + ys.length ≤ LIM ∧ xs.all (fun v => v.storable && decide (v.cells.length = k)) then some (.ref n ((h n).1 + 1) 0 (xs.length + ys.length), hset h n ((h n).1 + 1, .row k (xs ++ ys))) else none
    | .ref m ver i len => (rowAt? h m ver).bind fun r =>
      if r.1 = k ∧ i + len ≤ r.2.length then
        if i + len + ys.length ≤ r.2.length then some (.ref m ver i (len + ys.length), hset h m (ver, .row k (r.2.take (i + len) ++ ys ++ r.2.drop (i + len + ys.length))))
        else if len + ys.length ≤ LIM then some (.ref m (ver + 1) 0 (len + ys.length), hset h m (ver + 1, .row k ((r.2.drop i).take len ++ ys)))
        else none
      else none
    | _ => none
  else none

/-- copy(dst, xs): what is copied goes over the first elements. -/
def oCopy (h : Hp) (k : Nat) (d : AV) (xs : List AV) : Option (AV × Hp) :=
  if xs.all (fun v => v.storable && decide (v.cells.length = k)) then
    match d with
    | .ref m ver i len => (rowAt? h m ver).bind fun r =>
      if r.1 = k ∧ i + len ≤ r.2.length then
        some (.sc (.int .i64 (min xs.length len : Nat)), hset h m (ver, .row k (r.2.take i ++ xs.take len ++ r.2.drop (i + min xs.length len))))
      else none
    | _ => none
  else none

def oClear (h : Hp) (k : Nat) (zero d : AV) : Option Hp :=
  if zero.storable = true ∧ zero.cells.length = k then
    match d with
    | .nl => some h
    | .ref m ver i len => (rowAt? h m ver).bind fun r =>
      if r.1 = k ∧ i + len ≤ r.2.length then some (hset h m (ver, .row k (r.2.take i ++ List.replicate len zero ++ r.2.drop (i + len)))) else none
    | _ => none
  else none

/-- x[lo:hi], x[lo:hi:max] of a slice of elements of k cells. What is not given: none. -/
def oSlice (h : Hp) (k : Nat) (x : AV) (lo hi mx : Option AV) : Option AV :=
  match x with
  | .imm xs | .full xs =>
    (match lo with | none => some (0 : Int) | some v => asNum v).bind fun l => (match hi with | none => some (xs.length : Int) | some v => asNum v).bind fun u =>
      if 0 ≤ l ∧ l ≤ u ∧ u ≤ xs.length ∧ (l = 0 ∨ xs.all (fun el => el.cells.length == k) = true) then
        match mx with
        | none => some (.imm ((xs.drop l.toNat).take (u - l).toNat))
        | some m => (asNum m).bind fun m => if m = u then some (if l = u then .nl else .full ((xs.drop l.toNat).take (u - l).toNat)) else none
      else none
  | .ref n ver i len =>
    (match lo with | none => some (0 : Int) | some v => asNum v).bind fun l => (match hi with | none => some (len : Int) | some v => asNum v).bind fun u => (rowAt? h n ver).bind fun r =>
      if 0 ≤ l ∧ l ≤ u ∧ i + u.toNat ≤ r.2.length ∧ r.1 = k then
        match mx with
        | none => some (.ref n ver (i + l.toNat) (u - l).toNat)
        | some m => (asNum m).bind fun m => if u ≤ m ∧ i + m.toNat ≤ r.2.length then some .junk else none
      else none
  | .nl =>
    (match lo with | none => some (0 : Int) | some v => asNum v).bind fun l => (match hi with | none => some (0 : Int) | some v => asNum v).bind fun u =>
      if l = 0 ∧ u = 0 then (match mx with | none => some .nl | some m => (asNum m).bind fun m => if m = 0 then some .nl else none) else none
  | _ => none

def oExtract (i : Nat) : AV → Option AV
  | .tup vs => vs[i]?
  | _ => none

def oConvInt (k : IntKind) : AV → Option AV
  | .sc (.int _ n) => some (.sc (.int k (k.wrap n)))
  | _ => none
def bytesOfA : List AV → Option ByteArray
  | [] => some ByteArray.empty
  | .sc (.int .u8 n) :: r => (bytesOfA r).map fun s => ⟨#[UInt8.ofNat n.toNat] ++ s.data⟩
  | _ => none
def oConvStr (h : Hp) (x : AV) : Option AV := (oElems h x).bind fun xs => (bytesOfA xs).map fun s => .sc (.string s)

/-- A literal of a struct or an array: parts laid over the zero value. -/
def fillA (places : Nat → Option (Nat × Nat)) (cells : List AV) : List (Nat × AV) → Option (List AV)
  | [] => some cells
  | (i, v) :: rest =>
    match places i with
    | none => none
    | some (off, size) => if v.cells.length = size ∧ off + size ≤ cells.length ∧ v.storable = true then fillA places (setCellsA cells off v.cells) rest else none

/-- x == nil, of a slice. -/
def oIsNil (h : Hp) : AV → Option AV
  | .sc (.slice A _ _) => some (.sc (.bool A.isNone))
  | .imm (_ :: _) | .full (_ :: _) => some (.sc (.bool false))
  | .ref n ver _ (_ + 1) => (rowAt? h n ver).map fun _ => .sc (.bool false)
  | _ => none

/-! ### Maps with whole numbers as keys, made by a literal and asked once -/
def oMapNew (h : Hp) (n : Nat) : AV × Hp := (.mp n ((h n).1 + 1), hset h n ((h n).1 + 1, .map []))
def oMapPut (h : Hp) (m key v : AV) : Option Hp :=
  match m, key with
  | .mp n ver, .sc (.int .i64 i) =>
    match h n with
    | (v0, .map es) => if v0 = ver ∧ v.one = true ∧ (es.all fun e => e.1 != i) = true then some (hset h n (ver, .map (es ++ [(i, v)]))) else none
    | _ => none
  | _, _ => none
def findA (i : Int) (zero : AV) : List (Int × AV) → AV × Bool
  | [] => (zero, false)
  | (j, v) :: r => if i == j then (v, true) else findA i zero r
def oMapGet (h : Hp) (zero m key : AV) : Option AV :=
  match m, key with
  | .mp n ver, .sc (.int .i64 i) =>
    match h n with
    | (v0, .map es) => if v0 = ver then some (.tup [(findA i zero es).1, .sc (.bool (findA i zero es).2)]) else none
    | _ => none
  | _, _ => none

/-! ### What leaves a function: no address of its own blocks -/
def frz1 (h : Hp) : AV → AV
  | .ref n ver i len =>
    match rowAt? h n ver with
    | some (_, els) => if i + len ≤ els.length ∧ els.all AV.pure = true then .imm (((els.drop i).take len).map norm) else .junk
    | none => .junk
  | .nl => .imm []
  | .full xs => .imm xs
  | .ptr n ver e c =>
    match rowAt? h n ver with
    | some (_, els) => match els[e]? with
      | some el => .ipt (el.cells.map fun x => match x with
          | .ref n ver i len => (match rowAt? h n ver with
            | some (_, els) => if i + len ≤ els.length ∧ els.all AV.pure = true then .imm (((els.drop i).take len).map norm) else .junk
            | none => .junk)
          | .nl => .imm []
          | .full xs => .imm xs
          | .sc v => .sc v
          | .imm xs => .imm xs
          | _ => .junk) c
      | none => .junk
    | none => .junk
  | .sc v => .sc v
  | .imm xs => .imm xs
  | .ipt cs c => .ipt cs c
  | _ => .junk
def frz (h : Hp) : AV → AV
  | .agg cs => .agg (cs.map (frz1 h))
  | .tup vs => .tup (vs.map fun v => match v with | .agg cs => .agg (cs.map (frz1 h)) | v => frz1 h v)
  | v => frz1 h v

/-- Needs no memory at all. -/
def AV.scalar1 : AV → Bool
  | .sc _ => true
  | _ => false
def AV.scalar : AV → Bool
  | .tup vs => vs.all fun v => match v with | .agg cs => cs.all AV.scalar1 | v => v.scalar1
  | .agg cs => cs.all AV.scalar1
  | v => v.scalar1

/-- The blocks of ours that a value names at its top. -/
def AV.nms1 : AV → List Nat
  | .ref n _ _ _ => [n]
  | .ptr n _ _ _ => [n]
  | .mp n _ => [n]
  | _ => []
def AV.nms : AV → List Nat
  | .agg cs => cs.flatMap AV.nms1
  | .tup vs => vs.flatMap fun v => v.cells.flatMap AV.nms1
  | v => v.nms1

/-- Blocks that are ours no more. -/
def kill (h : Hp) : List Nat → Hp
  | [] => h
  | n :: r => kill (hset h n ((h n).1 + 1, .dead)) r

end Go.Proofs.Ytihljollfbogeaa

/- What an abstract value says of a value of the machine, in a world; what is kept when the world grows. No condition. -/
namespace Go.Proofs.Ytihljollfbogeaa
open Go Go.RowKit

/-- Where a block of our own lies: its version, the cells of an element, how many elements; the block, the first cell, for how many elements there is room (none: nowhere, it is empty). -/
structure AE where
  ver : Nat
  sz : Nat
  len : Nat
  blk : Option (Nat × Nat × Nat)
/-- Our own blocks by their names, and which blocks we may know of at all. -/
structure Al where
  f : Nat → Option AE
  G : Nat → Prop
instance : CoeFun Al (fun _ => Nat → Option AE) := ⟨Al.f⟩

/-- One cell, without memory of ours. -/
inductive V0 (w : World) (ok : Nat → Prop) : AV → Value → Prop
  | sc (v : Value) (h : v.oneCell' = true) : V0 w ok (.sc v) v
  | nl (A : Option Addr) : V0 w ok .nl (.slice A 0 0)
  | imm (xs : List AV) (A : Option Addr) (cap sz b o : Nat) (U : Nat → Nat → Value) (hcap : xs.length ≤ cap)
      (h : ∀ (j : Nat) (el : AV), xs[j]? = some el → el.cells.length = sz ∧ A = some ⟨b, o, none⟩ ∧ ok b)
      (hc : ∀ (j : Nat) (el : AV) (c : Nat) (a : AV), xs[j]? = some el → el.cells[c]? = some a → w.cell? ⟨b, o + (j * sz + c), none⟩ = some (U j c))
      (hv : ∀ (j : Nat) (el : AV) (c : Nat) (a : AV), xs[j]? = some el → el.cells[c]? = some a → V0 w ok a (U j c)) :
      V0 w ok (.imm xs) (.slice A xs.length cap)
  | full (xs : List AV) (A : Option Addr) (sz b o : Nat) (U : Nat → Nat → Value)
      (h : ∀ (j : Nat) (el : AV), xs[j]? = some el → el.cells.length = sz ∧ A = some ⟨b, o, none⟩ ∧ ok b)
      (hc : ∀ (j : Nat) (el : AV) (c : Nat) (a : AV), xs[j]? = some el → el.cells[c]? = some a → w.cell? ⟨b, o + (j * sz + c), none⟩ = some (U j c))
      (hv : ∀ (j : Nat) (el : AV) (c : Nat) (a : AV), xs[j]? = some el → el.cells[c]? = some a → V0 w ok a (U j c)) :
      V0 w ok (.full xs) (.slice A xs.length xs.length)
  | ipt (cs : List AV) (c b o : Nat) (U : Nat → Value) (hok : ok b) (hc : ∀ (i : Nat) (a : AV), cs[i]? = some a → w.cell? ⟨b, o + i, none⟩ = some (U i))
      (hv : ∀ (i : Nat) (a : AV), cs[i]? = some a → V0 w ok a (U i)) :
      V0 w ok (.ipt cs c) (.pointer (some ⟨b, o + c, none⟩))

/-- One cell. -/
inductive V1 (w : World) (ok : Nat → Prop) (α : Al) : AV → Value → Prop
  | low (a : AV) (u : Value) (h : V0 w ok a u) : V1 w ok α a u
  | ref (n ver i len : Nat) (A : Option Addr) (cap : Nat) (ae : AE) (hl : len ≤ cap) (ha : α n = some ae) (hv : ver ≤ ae.ver)
      (h : ver = ae.ver → i + len ≤ ae.len ∧ ae.len ≤ i + cap ∧ match ae.blk with
        | some (b, off, room) => i + cap ≤ room ∧ (0 < cap → A = some ⟨b, off + i * ae.sz, none⟩)
        | none => cap = 0) :
      V1 w ok α (.ref n ver i len) (.slice A len cap)
  | ptr (n ver e c : Nat) (a : Addr) (ae : AE) (ha : α n = some ae) (hv : ver ≤ ae.ver)
      (h : ver = ae.ver → ∃ b off room, ae.blk = some (b, off, room) ∧ a = ⟨b, off + e * ae.sz + c, none⟩) :
      V1 w ok α (.ptr n ver e c) (.pointer (some a))
  | mp (n ver b : Nat) (ae : AE) (ha : α n = some ae) (hv : ver ≤ ae.ver) (h : ver = ae.ver → ∃ off room, ae.blk = some (b, off, room)) :
      V1 w ok α (.mp n ver) (.map (some b))
  | fn (f : FuncId) (first caps : List AV) (us vs : List Value) (h1 : us.length = first.length) (h2 : vs.length = caps.length)
      (hf : ∀ (i : Nat) (a : AV) (u : Value), first[i]? = some a → us[i]? = some u → V1 w ok α a u) (hc : ∀ (i : Nat) (a : AV) (u : Value), caps[i]? = some a → vs[i]? = some u → V1 w ok α a u) :
      V1 w ok α (.fn f first caps) (.func (.func f) us.toArray vs.toArray)
  | junk (u : Value) : V1 w ok α .junk u

/-- Cells. -/
def VC (w : World) (ok : Nat → Prop) (α : Al) (cs : List AV) (us : List Value) : Prop :=
  us.length = cs.length ∧ ∀ (i : Nat) (a : AV) (u : Value), cs[i]? = some a → us[i]? = some u → V1 w ok α a u ∧ u.oneCell' = true

/-- A value of one cell, or a struct or array. -/
def VA (w : World) (ok : Nat → Prop) (α : Al) : AV → Value → Prop
  | .agg cs, u => ∃ us, u = .agg us ∧ VC w ok α cs us.toList
  | a, u => V1 w ok α a u

/-- Any value. -/
def V (w : World) (ok : Nat → Prop) (α : Al) : AV → Value → Prop
  | .tup vs, u => ∃ us : List Value, u = .tuple us.toArray ∧ us.length = vs.length ∧ ∀ (i : Nat) (a : AV) (x : Value), vs[i]? = some a → us[i]? = some x → VA w ok α a x
  | a, u => VA w ok α a u

theorem V.of_VA {w : World} {ok : Nat → Prop} {α : Al} {a : AV} {u : Value} (h : VA w ok α a u) (ht : ∀ vs, a ≠ .tup vs) : V w ok α a u := by
  cases a <;> first | exact h | exact absurd rfl (ht _)
theorem V.of_V1 {w : World} {ok : Nat → Prop} {α : Al} {a : AV} {u : Value} (h : V1 w ok α a u) : V w ok α a u := by
  cases a with
  | agg cs => cases h with | low _ _ h => cases h
  | tup cs => cases h with | low _ _ h => cases h
  | _ => exact h
theorem VA.of_V1 {w : World} {ok : Nat → Prop} {α : Al} {a : AV} {u : Value} (h : V1 w ok α a u) : VA w ok α a u := by
  cases a with
  | agg cs => cases h with | low _ _ h => cases h
  | _ => exact h
theorem V.sc {w : World} {ok : Nat → Prop} {α : Al} {v : Value} (h : v.oneCell' = true) : V w ok α (.sc v) v := V.of_V1 (.low _ _ (.sc v h))
theorem V.junk {w : World} {ok : Nat → Prop} {α : Al} {u : Value} : V w ok α .junk u := V.of_V1 (.junk u)
/-- A scalar is itself. -/
theorem V1.sc_eq {w : World} {ok : Nat → Prop} {α : Al} {v u : Value} (h : V1 w ok α (.sc v) u) : u = v := by cases h with | low _ _ h => cases h; rfl
theorem V.sc_eq {w : World} {ok : Nat → Prop} {α : Al} {v u : Value} (h : V w ok α (.sc v) u) : u = v := V1.sc_eq h
theorem V1.sc_one {w : World} {ok : Nat → Prop} {α : Al} {v u : Value} (h : V1 w ok α (.sc v) u) : v.oneCell' = true := by cases h with | low _ _ h => cases h; assumption

theorem V0.one {w : World} {ok : Nat → Prop} {a : AV} {u : Value} (h : V0 w ok a u) : u.oneCell' = true := by
  cases h <;> first | assumption | rfl
theorem V1.one {w : World} {ok : Nat → Prop} {α : Al} {a : AV} {u : Value} (h : V1 w ok α a u) (h1 : a.one = true) : u.oneCell' = true := by
  cases h <;> first | (rename_i h; exact h.one) | rfl | (simp [AV.one] at h1)

/-- The cells of a value, abstract and not, fit. -/
theorem VA.cells {w : World} {ok : Nat → Prop} {α : Al} {a : AV} {u : Value} (h : VA w ok α a u) (hs : a.storable = true) : VC w ok α a.cells u.cells.toList := by
  have key : ∀ (b : AV), V1 w ok α b u → b.one = true → VC w ok α [b] u.cells.toList := by
    intro b hb h1
    have := hb.one h1
    have hu : u.cells = #[u] := by cases u <;> first | rfl | (simp [Value.oneCell'] at this)
    rw [hu]
    refine ⟨rfl, fun i a x ha hx => ?_⟩
    match i, ha, hx with
    | 0, ha, hx => simp at ha hx; subst ha; subst hx; exact ⟨hb, this⟩
  cases a with
  | agg cs => obtain ⟨us, rfl, h⟩ := h; exact h
  | tup vs => simp [AV.storable, AV.cells, AV.one] at hs
  | _ => exact key _ h (by simpa [AV.storable, AV.cells] using hs)
theorem V.cells {w : World} {ok : Nat → Prop} {α : Al} {a : AV} {u : Value} (h : V w ok α a u) (hs : a.storable = true) : VC w ok α a.cells u.cells.toList := by
  cases a with
  | tup vs => simp [AV.storable, AV.cells, AV.one] at hs
  | _ => exact VA.cells h hs

/-! ### The world grows -/
theorem V0.mono {w w' : World} {ok ok' : Nat → Prop} {a : AV} {u : Value} (h : V0 w ok a u) (hb : ∀ b, ok b → ok' b ∧ w'.heap[b]? = w.heap[b]?) : V0 w' ok' a u := by
  have hc : ∀ b o, ok b → w'.cell? ⟨b, o, none⟩ = w.cell? ⟨b, o, none⟩ := fun b o hb' => by unfold World.cell?; rw [(hb b hb').2]
  induction h with
  | sc v h => exact .sc v h
  | nl A => exact .nl A
  | imm xs A cap sz b o U hcap h hcell _ ih =>
    exact .imm xs A cap sz b o U hcap (fun j el he => ⟨(h j el he).1, (h j el he).2.1, (hb b (h j el he).2.2).1⟩)
      (fun j el c a he ha => (hc _ _ (h j el he).2.2).trans (hcell j el c a he ha)) ih
  | full xs A sz b o U h hcell _ ih =>
    exact .full xs A sz b o U (fun j el he => ⟨(h j el he).1, (h j el he).2.1, (hb b (h j el he).2.2).1⟩)
      (fun j el c a he ha => (hc _ _ (h j el he).2.2).trans (hcell j el c a he ha)) ih
  | ipt cs c b o U hok hcell _ ih =>
    exact .ipt cs c b o U (hb b hok).1 (fun i a ha => (hc _ _ hok).trans (hcell i a ha)) ih

/-- What is old is kept, in our own bookkeeping. -/
def Later (α α' : Al) : Prop := ∀ n ae, α n = some ae → ∃ ae', α' n = some ae' ∧ ae.ver ≤ ae'.ver ∧ (ae'.ver = ae.ver → ae' = ae)
theorem Later.refl (α : Al) : Later α α := fun _ ae h => ⟨ae, h, Nat.le_refl _, fun _ => rfl⟩
theorem Later.trans {α β γ : Al} (h : Later α β) (k : Later β γ) : Later α γ := fun n ae ha => by
  obtain ⟨b, hb, h1, h2⟩ := h n ae ha
  obtain ⟨c, hc, k1, k2⟩ := k n b hb
  refine ⟨c, hc, Nat.le_trans h1 k1, fun e => ?_⟩
  have e1 : b.ver = ae.ver := by omega
  rw [k2 (by omega), h2 e1]

theorem V1.mono {w w' : World} {ok ok' : Nat → Prop} {α α' : Al} {a : AV} {u : Value} (h : V1 w ok α a u) (hb : ∀ b, ok b → ok' b ∧ w'.heap[b]? = w.heap[b]?) (hl : Later α α') : V1 w' ok' α' a u := by
  induction h with
  | low a u h => exact .low a u (h.mono hb)
  | ref n ver i len A cap ae hle ha hv h =>
    obtain ⟨ae', ha', h1, h2⟩ := hl n ae ha
    refine .ref n ver i len A cap ae' hle ha' (by omega) fun e => ?_
    have e1 : ae'.ver = ae.ver := by omega
    rw [h2 e1]
    exact h (by omega)
  | ptr n ver e c a ae ha hv h =>
    obtain ⟨ae', ha', h1, h2⟩ := hl n ae ha
    refine .ptr n ver e c a ae' ha' (by omega) fun e => ?_
    have e1 : ae'.ver = ae.ver := by omega
    rw [h2 e1]
    exact h (by omega)
  | mp n ver b ae ha hv h =>
    obtain ⟨ae', ha', h1, h2⟩ := hl n ae ha
    refine .mp n ver b ae' ha' (by omega) fun e => ?_
    have e1 : ae'.ver = ae.ver := by omega
    rw [h2 e1]
    exact h (by omega)
  | fn f first caps us vs h1 h2 _ _ ih1 ih2 => exact .fn f first caps us vs h1 h2 ih1 ih2
  | junk u => exact .junk u

theorem VC.mono {w w' : World} {ok ok' : Nat → Prop} {α α' : Al} {cs : List AV} {us : List Value} (h : VC w ok α cs us) (hb : ∀ b, ok b → ok' b ∧ w'.heap[b]? = w.heap[b]?) (hl : Later α α') : VC w' ok' α' cs us :=
  ⟨h.1, fun i a u ha hu => ⟨(h.2 i a u ha hu).1.mono hb hl, (h.2 i a u ha hu).2⟩⟩
theorem VA.mono {w w' : World} {ok ok' : Nat → Prop} {α α' : Al} {a : AV} {u : Value} (h : VA w ok α a u) (hb : ∀ b, ok b → ok' b ∧ w'.heap[b]? = w.heap[b]?) (hl : Later α α') : VA w' ok' α' a u := by
  cases a with
  | agg cs => obtain ⟨us, rfl, h⟩ := h; exact ⟨us, rfl, h.mono hb hl⟩
  | _ => exact V1.mono h hb hl
theorem V.mono {w w' : World} {ok ok' : Nat → Prop} {α α' : Al} {a : AV} {u : Value} (h : V w ok α a u) (hb : ∀ b, ok b → ok' b ∧ w'.heap[b]? = w.heap[b]?) (hl : Later α α') : V w' ok' α' a u := by
  cases a with
  | tup vs =>
    obtain ⟨us, rfl, hn, h⟩ := h
    exact ⟨us, rfl, hn, fun i a x ha hx => (h i a x ha hx).mono hb hl⟩
  | _ => exact V.of_VA (VA.mono (ok := ok) (α := α) (show VA w ok α _ u from h) hb hl) (by intro vs e; cases e)

/-! ### The heap of ours -/
/-- Block b is not ours, and it is there. -/
def okA (w : World) (α : Al) (b : Nat) : Prop := (b < w.heap.size ∧ α.G b) ∧ ∀ n ae o r, α n = some ae → ae.blk ≠ some (b, o, r)

/-- What lies at a block of ours. -/
def At (w : World) (ok : Nat → Prop) (α : Al) (ae : AE) : Blk → Prop
  | .dead => ae.blk = none
  | .row sz els => ae.sz = sz ∧ ae.len = els.length ∧ match ae.blk with
    | none => els = []
    | some (b, off, room) => els.length ≤ room ∧ ∃ cs t, w.heap[b]? = some (.cells cs t (0, 0)) ∧ off + room * sz ≤ cs.size ∧
        ∀ (e : Nat) (el : AV), els[e]? = some el → el.cells.length = sz ∧ ∀ (c : Nat) (a : AV), el.cells[c]? = some a → a.one = true ∧ ∃ x, cs[off + e * sz + c]? = some x ∧ V1 w ok α a x
  | .map es => ∃ (b o r : Nat) (ms : Array MapEntry) (clock : Nat), ae.blk = some (b, o, r) ∧ w.heap[b]? = some (.map ms clock) ∧ ms.size = es.length ∧
      ∀ (i : Nat) (e : Int × AV), es[i]? = some e → e.2.one = true ∧ ∃ m, ms[i]? = some m ∧ m.key = .int .i64 e.1 ∧ V1 w ok α e.2 m.val

/-- Block b is there and not ours. -/
def free (w : World) (α : Al) (b : Nat) : Prop := b < w.heap.size ∧ ∀ n ae o r, α n = some ae → ae.blk ≠ some (b, o, r)
theorem okA_of_free {w w' : World} {α α' : Al} (hf : ∀ k, free w α k → free w' α' k ∧ w'.heap[k]? = w.heap[k]?) (hG : α'.G = α.G) : ∀ k, okA w α k → okA w' α' k ∧ w'.heap[k]? = w.heap[k]? := fun k hk =>
  let ⟨h1, h2⟩ := hf k ⟨hk.1.1, hk.2⟩
  ⟨⟨⟨h1.1, by rw [hG]; exact hk.1.2⟩, h1.2⟩, h2⟩

structure Rel (bs : Nat) (h : Hp) (w : World) (α : Al) : Prop where
  ver : ∀ n ae, α n = some ae → (h n).1 = ae.ver
  at_ : ∀ n ae, α n = some ae → At w (okA w α) α ae (h n).2
  inj : ∀ n m ae ae' b o r o' r', α n = some ae → α m = some ae' → ae.blk = some (b, o, r) → ae'.blk = some (b, o', r') → n = m
  base : ∀ n ae b o r, α n = some ae → ae.blk = some (b, o, r) → bs ≤ b ∧ b < w.heap.size
  grant : ∀ b, bs ≤ b → α.G b

/-- From one world of ours to a later one. -/
structure Ext (w : World) (α : Al) (w' : World) (α' : Al) : Prop where
  os : w'.os = w.os
  tape : w'.tape = w.tape
  output : w'.output = w.output
  size : w.heap.size ≤ w'.heap.size
  keepF : ∀ b, free w α b → free w' α' b ∧ w'.heap[b]? = w.heap[b]?
  later : Later α α'
  same : α'.G = α.G
theorem Ext.keep {w w' : World} {α α' : Al} (k : Ext w α w' α') : ∀ b, okA w α b → okA w' α' b ∧ w'.heap[b]? = w.heap[b]? := okA_of_free k.keepF k.same
theorem Ext.refl (w : World) (α : Al) : Ext w α w α := ⟨rfl, rfl, rfl, Nat.le_refl _, fun _ h => ⟨h, rfl⟩, Later.refl α, rfl⟩
theorem Ext.trans {w w' w'' : World} {α α' α'' : Al} (h : Ext w α w' α') (k : Ext w' α' w'' α'') : Ext w α w'' α'' :=
  ⟨k.os.trans h.os, k.tape.trans h.tape, k.output.trans h.output, Nat.le_trans h.size k.size,
   fun b hb => ⟨(k.keepF b (h.keepF b hb).1).1, (k.keepF b (h.keepF b hb).1).2.trans (h.keepF b hb).2⟩, h.later.trans k.later, k.same.trans h.same⟩
theorem V.ext {w w' : World} {α α' : Al} {a : AV} {u : Value} (h : V w (okA w α) α a u) (k : Ext w α w' α') : V w' (okA w' α') α' a u := h.mono k.keep k.later
theorem V1.ext {w w' : World} {α α' : Al} {a : AV} {u : Value} (h : V1 w (okA w α) α a u) (k : Ext w α w' α') : V1 w' (okA w' α') α' a u := h.mono k.keep k.later
theorem VC.ext {w w' : World} {α α' : Al} {a : List AV} {u : List Value} (h : VC w (okA w α) α a u) (k : Ext w α w' α') : VC w' (okA w' α') α' a u := h.mono k.keep k.later

theorem Ext.drew (w : World) (α : Al) : Ext w α w.drew α := ⟨rfl, rfl, rfl, Nat.le_refl _, fun _ h => ⟨h, rfl⟩, Later.refl α, rfl⟩
theorem okA_drew {w : World} {α : Al} : okA w.drew α = okA w α := rfl
theorem At.mono {w w' : World} {ok ok' : Nat → Prop} {α α' : Al} {ae : AE} {bl : Blk} (h : At w ok α ae bl) (hh : ∀ b o r, ae.blk = some (b, o, r) → w'.heap[b]? = w.heap[b]?)
    (hb : ∀ b, ok b → ok' b ∧ w'.heap[b]? = w.heap[b]?) (hl : Later α α') : At w' ok' α' ae bl := by
  cases bl with
  | dead => exact h
  | row sz els =>
    obtain ⟨h1, h2, h3⟩ := h
    refine ⟨h1, h2, ?_⟩
    cases hk : ae.blk with
    | none => rw [hk] at h3; exact h3
    | some x =>
      obtain ⟨b, off, room⟩ := x
      rw [hk] at h3
      obtain ⟨h4, cs, t, h5, h6, h7⟩ := h3
      refine ⟨h4, cs, t, (hh b off room hk).trans h5, h6, fun e el he => ?_⟩
      refine ⟨(h7 e el he).1, fun c a ha => ?_⟩
      obtain ⟨h8, x, h9, h10⟩ := (h7 e el he).2 c a ha
      exact ⟨h8, x, h9, h10.mono hb hl⟩
  | map es =>
    obtain ⟨b, o, r, ms, clock, h1, h2, h3, h4⟩ := h
    refine ⟨b, o, r, ms, clock, h1, (hh b o r h1).trans h2, h3, fun i e he => ?_⟩
    obtain ⟨h5, m, h6, h7, h8⟩ := h4 i e he
    exact ⟨h5, m, h6, h7, h8.mono hb hl⟩
theorem Rel.drew {base : Nat} {h : Hp} {w : World} {α : Al} (r : Rel base h w α) : Rel base h w.drew α :=
  ⟨r.ver, fun n ae hn => (r.at_ n ae hn).mono (fun _ _ _ _ => rfl) (fun _ h => ⟨h, rfl⟩) (Later.refl α), r.inj, r.base, r.grant⟩

theorem okA_not {w : World} {α : Al} {b : Nat} (h : okA w α b) {n : Nat} {ae : AE} (ha : α n = some ae) {b' o r : Nat} (hb : ae.blk = some (b', o, r)) : b ≠ b' := by
  intro e
  subst e
  exact h.2 n ae o r ha hb

end Go.Proofs.Ytihljollfbogeaa

/- The abstract operations without writes are those of the machine. No condition. -/
namespace Go.Proofs.Ytihljollfbogeaa
open Go Go.RowKit

def aEval (e : Env) : Operand → AV
  | .tmp t => e t
  | .const v => ofVal v
  | .func f => .fn f [] []
  | .global _ => .junk

section
variable {P : Program} {w : World} {ok : Nat → Prop} {α : Al}

theorem ofCell_ok (u : Value) : V1 w ok α (ofCell u) u := by
  unfold ofCell
  split <;> first | exact .low _ _ (.sc _ rfl) | exact .low _ _ (.nl none) | exact .junk _
theorem ofVal_ok (v : Value) : V w ok α (ofVal v) v := by
  cases v with
  | agg cs =>
    simp only [ofVal]
    split
    · rename_i hall
      refine ⟨cs, rfl, by simp, fun i a u ha hu => ?_⟩
      rw [List.getElem?_map, hu] at ha
      simp at ha
      subst ha
      exact ⟨ofCell_ok u, List.all_eq_true.1 hall u (List.mem_of_getElem? hu)⟩
    · exact V.junk
  | _ => exact V.of_V1 (by unfold ofVal; exact ofCell_ok _)
theorem eval_ok {a : Act} {e : Env} (h : ∀ t, V w ok α (e t) (a.tmps.getD t undef)) (x : Operand) : V w ok α (aEval e x) (a.eval x) := by
  cases x with
  | tmp t => exact h t
  | const v => exact ofVal_ok v
  | func f => exact V.of_V1 (V1.fn f [] [] [] [] rfl rfl (fun _ _ _ h => by simp at h) (fun _ _ _ h => by simp at h))
  | global g => exact V.junk

theorem pick_ok {c a b v : AV} {uc ua ub : Value} (h : oPick c a b = some v) (hc : V w ok α c uc) (ha : V w ok α a ua) (hb : V w ok α b ub) :
    ∃ t : Bool, uc = .bool t ∧ V w ok α v (if t then ua else ub) := by
  unfold oPick at h
  split at h
  · rename_i t
    cases h
    refine ⟨t, hc.sc_eq, ?_⟩
    cases t <;> assumption
  · cases h

theorem not_ok {x v : AV} {u : Value} (h : oNot x = some v) (hx : V w ok α x u) : ∃ r, (Op.unary .not u).run P w = .ok r w ∧ V w ok α v r := by
  unfold oNot at h
  split at h
  · cases h
    rw [hx.sc_eq]
    exact ⟨_, rfl, V.sc rfl⟩
  · cases h

theorem intBin_ok {op : BinOp} {k : IntKind} {a b : Int} {v : Value} (h : binInt op k a b = some v) (t : TypeId) : (binOp op t (.int k a) (.int k b)).run P w = .ok v w ∧ v.oneCell' = true := by
  unfold binInt at h
  cases op <;> simp only at h <;> first
    | (cases h; done)
    | (cases h; exact ⟨by simp [binOp, Op.intArith, Op.intCmp], rfl⟩)
    | skip
  split at h
  · cases h
  · rename_i hb
    cases h
    exact ⟨by simp [binOp, Op.intDiv, hb], rfl⟩


theorem eqGuard_plain (op : BinOp) (t : TypeId) (x y : Operand) (a b : Value) (h1 : ∀ cs ds, a = .agg cs → b = .agg ds → False) (h2 : a = .nilIface → b = .nilIface → False) :
    (eqGuard op t x y a b).run P w = .ok () w := by
  unfold eqGuard
  have key : ∀ (c : Prop) [Decidable c] (X : Sem Unit), X.run P w = .ok () w → (if c then pure () else X : Sem Unit).run P w = .ok () w := fun c _ X h => by split <;> first | rfl | exact h
  refine key _ _ ?_
  split <;> first | rfl | exact (h2 rfl rfl).elim | exact (h1 _ _ rfl rfl).elim
theorem eqGuard_agg (op : BinOp) (t : TypeId) (x y : Operand) (a b : Array Value) (h : P.eqGuardType P.depth t = false) :
    (eqGuard op t x y (.agg a) (.agg b)).run P w = .ok () w := by
  unfold eqGuard
  have key : ∀ (c : Prop) [Decidable c] (X : Sem Unit), X.run P w = .ok () w → (if c then pure () else X : Sem Unit).run P w = .ok () w := fun c _ X h => by split <;> first | rfl | exact h
  refine key _ _ ?_
  simp [h]

theorem sameCells_len : ∀ {a b : List AV} {r : Bool}, sameCells a b = some r → a.length = b.length
  | [], [], _, _ => rfl
  | [], _ :: _, _, h => by simp [sameCells] at h
  | x :: xs, [], _, h => by cases x <;> simp [sameCells] at h
  | x :: xs, y :: ys, r, h => by
    unfold sameCells at h
    split at h
    · rename_i h1 h2; cases h1
    · rename_i h1 h2
      cases h1; cases h2
      split at h
      · obtain ⟨r', h3, _⟩ := Option.map_eq_some_iff.1 h
        simp [sameCells_len h3]
      · cases h
    · cases h

/-- Cells that are whole numbers. -/
theorem sameCells_ok : ∀ {a b : List AV} {r : Bool} {ua ub : List Value}, sameCells a b = some r → VC w ok α a ua → VC w ok α b ub →
    (∀ i, i < a.length → ∃ (k : IntKind) (m n : Int), ua[i]? = some (Value.int k m) ∧ ub[i]? = some (Value.int k n)) ∧
    (r = true ↔ ∀ (i : Nat) (k k' : IntKind) (m n : Int), ua[i]? = some (Value.int k m) → ub[i]? = some (Value.int k' n) → m = n)
  | [], [], r, ua, ub, h, ha, hb => by
    simp [sameCells] at h
    subst h
    have : ua = [] := List.eq_nil_of_length_eq_zero ha.1
    subst this
    exact ⟨fun i hi => by simp at hi, by simp⟩
  | [], _ :: _, _, _, _, h, _, _ => by simp [sameCells] at h
  | x :: xs, [], _, _, _, h, _, _ => by cases x <;> simp [sameCells] at h
  | x :: xs, y :: ys, r, ua, ub, h, ha, hb => by
    unfold sameCells at h
    split at h
    · rename_i h1 _; cases h1
    · rename_i k m xs' k' n ys' h1 h2
      cases h1; cases h2
      split at h
      · rename_i hk
        subst hk
        obtain ⟨r', h3, rfl⟩ := Option.map_eq_some_iff.1 h
        obtain ⟨la, ha⟩ := ha
        obtain ⟨lb, hb⟩ := hb
        match ua, ub, la, lb, ha, hb with
        | u :: us, v :: vs, la, lb, ha, hb =>
          have e1 : u = .int k m := (ha 0 _ u rfl rfl).1.sc_eq
          have e2 : v = .int k n := (hb 0 _ v rfl rfl).1.sc_eq
          subst e1; subst e2
          obtain ⟨i1, i2⟩ := sameCells_ok (ua := us) (ub := vs) h3 ⟨by simpa using la, fun i a u h1 h2 => ha (i + 1) a u (by simpa using h1) (by simpa using h2)⟩
            ⟨by simpa using lb, fun i a u h1 h2 => hb (i + 1) a u (by simpa using h1) (by simpa using h2)⟩
          refine ⟨fun i hi => ?_, ?_⟩
          · match i with
            | 0 => exact ⟨k, m, n, rfl, rfl⟩
            | i + 1 => exact i1 i (by simpa using hi)
          · rw [Bool.and_eq_true, i2, beq_iff_eq]
            constructor
            · rintro ⟨rfl, h5⟩ i k1 k2 p q hp hq
              match i, hp, hq with
              | 0, hp, hq => simp at hp hq; omega
              | i + 1, hp, hq => exact h5 i k1 k2 p q (by simpa using hp) (by simpa using hq)
            · intro h5
              exact ⟨h5 0 k k m n rfl rfl, fun i k1 k2 p q hp hq => h5 (i + 1) k1 k2 p q (by simpa using hp) (by simpa using hq)⟩
      · cases h
    · cases h

theorem part_int {t : TypeId} {cs : Array Value} {off : Nat} {k : IntKind} {kk : IntKind} {n : Int} (ht : P.underlying t = some (.int kk)) (h : cs[off]? = some (.int k n)) : (part t cs off).run P w = .ok (.int k n) w := by
  simp [part, isAgg, run_underlying ht, h]
theorem equalIn_array {t e : TypeId} {n : Nat} {kk : IntKind} {a b : Array Value} {r : Bool} (ht : P.underlying t = some (.array n e)) (he : P.underlying e = some (.int kk)) {inf : TypeInfo} (hi : P.info? e = some inf) (hs : inf.size = 1)
    (d : Nat) (h1 : ∀ i, i < n → ∃ (k : IntKind) (m m' : Int), a[i]? = some (Value.int k m) ∧ b[i]? = some (Value.int k m'))
    (h2 : r = true ↔ ∀ (i : Nat) (k k' : IntKind) (m m' : Int), i < n → a[i]? = some (Value.int k m) → b[i]? = some (Value.int k' m') → m = m') :
    (Op.equalIn (d + 2) t (.agg a) (.agg b)).run P w = .ok r w := by
  unfold Op.equalIn
  simp only [Sem.run_bind, run_underlying ht, Result.andThen_ok]
  have hsz : (sizeOf e).run P w = .ok 1 w := by simp [sizeOf, typeInfo, hi, hs]
  simp only [hsz, Result.andThen_ok, Nat.mul_one]
  rw [Std.Legacy.Range.forIn_eq_forIn_range']
  have key : ∀ l : List Nat, (∀ i ∈ l, i < n) → ∀ F : Nat → Option Bool × PUnit → Sem (ForInStep (Option Bool × PUnit)),
      (∀ i s, F i s = (do
            let x ← part e a i
            let y ← part e b i
            let z ← Op.equalIn (d + 1) e x y
            if (!z) = true then pure (ForInStep.done (some false, PUnit.unit)) else pure (ForInStep.yield (none, PUnit.unit)))) →
      ∃ o, (forIn l (none, PUnit.unit) F).run P w = .ok (o, PUnit.unit) w ∧ ((o = none ∧ ∀ i ∈ l, ∀ (k k' : IntKind) (m m' : Int), a[i]? = some (Value.int k m) → b[i]? = some (Value.int k' m') → m = m') ∨
        (o = some false ∧ ∃ i ∈ l, ∃ (k : IntKind) (m m' : Int), a[i]? = some (Value.int k m) ∧ b[i]? = some (Value.int k m') ∧ m ≠ m')) := by
    intro l
    induction l with
    | nil => intro _ F _; exact ⟨none, rfl, .inl ⟨rfl, fun i hi => by simp at hi⟩⟩
    | cons i l ih =>
      intro hl F hF
      obtain ⟨k, m, m', e1, e2⟩ := h1 i (hl i (by simp))
      have r1 := part_int (P := P) (w := w) he e1
      have r2 := part_int (P := P) (w := w) he e2
      have r3 : (Op.equalIn (d + 1) e (.int k m) (.int k m')).run P w = .ok (m == m') w := run_equalIn_int w d e k kk m m' he
      simp only [List.forIn_cons, hF, Sem.run_bind, r1, r2, r3, Result.andThen_ok]
      by_cases hm : m = m'
      · have hm' : (m == m') = true := by simpa using hm
        simp only [hm', Bool.not_true, Bool.false_eq_true, if_false, Sem.run_pure, Result.andThen_ok]
        obtain ⟨o, h3, h4⟩ := ih (fun j hj => hl j (by simp [hj])) F hF
        refine ⟨o, h3, ?_⟩
        rcases h4 with ⟨rfl, h4⟩ | ⟨rfl, j, hj, h4⟩
        · refine .inl ⟨rfl, fun j hj k1 k2 p q hp hq => ?_⟩
          rcases List.mem_cons.1 hj with rfl | hj
          · rw [e1] at hp; rw [e2] at hq; cases hp; cases hq; exact hm
          · exact h4 j hj k1 k2 p q hp hq
        · exact .inr ⟨rfl, j, by simp [hj], h4⟩
      · have hm' : (m == m') = false := by simpa using hm
        simp only [hm', Bool.not_false, if_true, Sem.run_pure, Result.andThen_ok]
        exact ⟨some false, rfl, .inr ⟨rfl, i, by simp, k, m, m', e1, e2, hm⟩⟩
  have hr0 : List.range' [0:n].start [0:n].size [0:n].step = List.range' 0 n := by simp [Std.Legacy.Range.size]
  obtain ⟨o, h3, h4⟩ := key (List.range' 0 n) (fun i hi => by simpa using hi) _ (fun i s => rfl)
  rw [hr0]
  refine (congrArg (fun r => Result.andThen r _) h3).trans ?_
  rcases h4 with ⟨rfl, h4⟩ | ⟨rfl, j, hj, k, m, m', e1, e2, hm⟩
  · have : r = true := h2.2 fun i k k' m m' hi hp hq => h4 i (by simpa using hi) k k' m m' hp hq
    simp [this]
  · have : r = false := by
      cases hr : r
      · rfl
      · exact absurd (h2.1 hr j k k m m' (by simpa using hj) e1 e2) hm
    simp [this]

theorem eqFields_ok (d : Nat) {a b : Array Value} : ∀ (fs : List Field) (o : Nat) {r : Bool},
    (∀ j f, fs[j]? = some f → f.name ≠ "_" ∧ f.offset = o + j ∧ ∃ kk, P.underlying f.type = some (.int kk)) →
    (∀ i, o ≤ i → i < o + fs.length → ∃ (k : IntKind) (m m' : Int), a[i]? = some (Value.int k m) ∧ b[i]? = some (Value.int k m')) →
    (r = true ↔ ∀ (i : Nat) (k k' : IntKind) (m m' : Int), o ≤ i → i < o + fs.length → a[i]? = some (Value.int k m) → b[i]? = some (Value.int k' m') → m = m') →
    (Op.eqFields (d + 1) a b fs).run P w = .ok r w
  | [], o, r, _, _, h => by
    have : r = true := h.2 fun i _ _ _ _ h1 h2 => by simp at h2; omega
    simp [Op.eqFields, this]
  | f :: fs, o, r, hf, h1, h => by
    obtain ⟨hn, ho, kk, hk⟩ := hf 0 f rfl
    obtain ⟨k, m, m', e1, e2⟩ := h1 o (Nat.le_refl _) (by simp)
    have r1 := part_int (P := P) (w := w) hk (show a[f.offset]? = some (.int k m) by rw [ho]; simpa using e1)
    have r2 := part_int (P := P) (w := w) hk (show b[f.offset]? = some (.int k m') by rw [ho]; simpa using e2)
    have r3 : (Op.equalIn (d + 1) f.type (.int k m) (.int k m')).run P w = .ok (m == m') w := run_equalIn_int w d f.type k kk m m' hk
    simp only [Op.eqFields, if_pos hn, Sem.run_bind, r1, r2, r3, Result.andThen_ok]
    by_cases hm : m = m'
    · have hm' : (m == m') = true := by simpa using hm
      simp only [hm', Bool.not_true, Bool.false_eq_true, if_false]
      refine eqFields_ok d fs (o + 1) (fun j g hg => ?_) (fun i h2 h3 => h1 i (by omega) (by simp; omega)) ?_
      · obtain ⟨g1, g2, g3⟩ := hf (j + 1) g (by simpa using hg)
        exact ⟨g1, by omega, g3⟩
      · rw [h]
        constructor
        · intro h4 i k1 k2 p q h5 h6 hp hq
          exact h4 i k1 k2 p q (by omega) (by simp; omega) hp hq
        · intro h4 i k1 k2 p q h5 h6 hp hq
          by_cases hi : i = o
          · subst hi; rw [e1] at hp; rw [e2] at hq; cases hp; cases hq; exact hm
          · exact h4 i k1 k2 p q (by omega) (by simp at h6; omega) hp hq
    · have hm' : (m == m') = false := by simpa using hm
      have : r = false := by
        cases hr : r
        · rfl
        · exact absurd (h.1 hr o k k m m' (Nat.le_refl _) (by simp) e1 e2) hm
      simp [hm', this]

theorem aggEq_ok {t : TypeId} {a b : List AV} {r : Bool} {ua ub : Array Value} (hf : flatEq P t = true) (hl : a.length = P.cellsOf t) (h : sameCells a b = some r) (ha : VC w ok α a ua.toList) (hb : VC w ok α b ub.toList) :
    (Op.equal t (.agg ua) (.agg ub)).run P w = .ok r w ∧ P.eqGuardType P.depth t = false := by
  obtain ⟨s1, s2⟩ := sameCells_ok h ha hb
  unfold flatEq at hf
  rw [Bool.and_eq_true] at hf
  obtain ⟨hg, hf⟩ := hf
  refine ⟨?_, by simpa using hg⟩
  have s1' : ∀ i, i < a.length → ∃ (k : IntKind) (m m' : Int), ua[i]? = some (Value.int k m) ∧ ub[i]? = some (Value.int k m') := fun i hi => by
    obtain ⟨k, m, n, h1, h2⟩ := s1 i hi
    exact ⟨k, m, n, by simpa using h1, by simpa using h2⟩
  split at hf
  · rename_i n e ht
    simp only [Bool.and_eq_true] at hf
    obtain ⟨⟨h1, h2⟩, h3⟩ := hf
    split at h1
    · rename_i kk he
      split at h2
      · rename_i inf hi
        split at h3
        · rename_i inf2 hi2
          have hn : P.cellsOf t = n := by simp [Program.cellsOf, hi2]; simpa using h3
          exact equalIn_array ht he hi (by simpa using h2) 9998 (fun i hi => s1' i (by omega)) (by
            rw [s2]
            constructor
            · intro h4 i k k' m m' _ hp hq; exact h4 i k k' m m' (by simpa using hp) (by simpa using hq)
            · intro h4 i k k' m m' hp hq
              have : i < a.length := by
                have := (List.getElem?_eq_some_iff.1 hp).1
                rw [ha.1] at this; exact this
              exact h4 i k k' m m' (by omega) (by simpa using hp) (by simpa using hq))
        · cases h3
      · cases h2
    · cases h1
  · rename_i fs ht
    simp only [Bool.and_eq_true] at hf
    obtain ⟨⟨h1, h2⟩, h3⟩ := hf
    split at h3
    · rename_i inf2 hi2
      have hn : P.cellsOf t = fs.size := by simp [Program.cellsOf, hi2]; simpa using h3
      have hfs : P.fieldsOf t = fs := by simp [Program.fieldsOf, ht]
      show (Op.equalIn (9999 + 1) t (.agg ua) (.agg ub)).run P w = .ok r w
      rw [run_equalIn_struct w 9999 t ua ub (by rw [hfs]; exact ht) (by simpa using h1), hfs]
      refine eqFields_ok 9998 fs.toList 0 (fun j f hj => ?_) (fun i _ hi => s1' i (by simp at hi; omega)) ?_
      · have := List.all_eq_true.1 h2 (f, j) (List.mk_mem_zipIdx_iff_getElem?.2 hj)
        simp only [Bool.and_eq_true, bne_iff_ne, beq_iff_eq] at this
        obtain ⟨⟨g1, g2⟩, g3⟩ := this
        refine ⟨by simpa using g1, by omega, ?_⟩
        split at g3
        · rename_i kk hk; exact ⟨kk, hk⟩
        · cases g3
      · rw [s2]
        constructor
        · intro h4 i k k' m m' _ _ hp hq; exact h4 i k k' m m' (by simpa using hp) (by simpa using hq)
        · intro h4 i k k' m m' hp hq
          have : i < a.length := by
            have := (List.getElem?_eq_some_iff.1 hp).1
            rw [ha.1] at this; exact this
          exact h4 i k k' m m' (by omega) (by simp; omega) (by simpa using hp) (by simpa using hq)
    · cases h3
  · cases hf

theorem boolEq_ok {t : TypeId} {a b : Bool} (ht : P.underlying t = some .bool) : (Op.equal t (.bool a) (.bool b)).run P w = .ok (a == b) w :=
  run_equalIn_bool' w 9999 t a b ht

theorem bin_ok {op : BinOp} {t : TypeId} {x y v : AV} {ux uy : Value} (h : oBin P op t x y = some v) (hx : V w ok α x ux) (hy : V w ok α y uy) (xo yo : Operand) :
    ∃ u, (do eqGuard op t xo yo ux uy; binOp op t ux uy : Sem Value).run P w = .ok u w ∧ V w ok α v u := by
  unfold oBin at h
  split at h
  · rename_i k a k' b
    split at h
    · rename_i hk
      subst hk
      obtain ⟨u, hu, rfl⟩ := Option.map_eq_some_iff.1 h
      rw [hx.sc_eq, hy.sc_eq]
      obtain ⟨h1, h2⟩ := intBin_ok (P := P) (w := w) hu t
      exact ⟨u, by rw [Sem.run_bind, eqGuard_plain _ _ _ _ _ _ (by simp) (by simp), Result.andThen_ok, h1], V.sc h2⟩
    · cases h
  · rename_i a b
    split at h
    · rename_i ht
      cases h
      rw [hx.sc_eq, hy.sc_eq]
      refine ⟨.bool (a == b), ?_, V.sc rfl⟩
      rw [Sem.run_bind, eqGuard_plain _ _ _ _ _ _ (by simp) (by simp), Result.andThen_ok]
      show (do pure (Value.bool (← Op.equal t (.bool a) (.bool b))) : Sem Value).run P w = _
      rw [Sem.run_bind, boolEq_ok ht]
      rfl
    · rename_i ht
      cases h
      rw [hx.sc_eq, hy.sc_eq]
      refine ⟨.bool (!(a == b)), ?_, V.sc rfl⟩
      rw [Sem.run_bind, eqGuard_plain _ _ _ _ _ _ (by simp) (by simp), Result.andThen_ok]
      show (do pure (Value.bool (!(← Op.equal t (.bool a) (.bool b)))) : Sem Value).run P w = _
      rw [Sem.run_bind, boolEq_ok ht]
      rfl
    · cases h
  · rename_i a b
    split at h
    · cases h
      rw [hx.sc_eq, hy.sc_eq]
      exact ⟨_, by rw [Sem.run_bind, eqGuard_plain _ _ _ _ _ _ (by simp) (by simp), Result.andThen_ok]; rfl, V.sc rfl⟩
    · cases h
      rw [hx.sc_eq, hy.sc_eq]
      exact ⟨_, by rw [Sem.run_bind, eqGuard_plain _ _ _ _ _ _ (by simp) (by simp), Result.andThen_ok]; rfl, V.sc rfl⟩
    · cases h
  · rename_i a b
    split at h
    · rename_i hc
      simp only [Bool.and_eq_true, decide_eq_true_eq] at hc
      obtain ⟨ua, rfl, ha⟩ := hx
      obtain ⟨ub, rfl, hb⟩ := hy
      split at h
      · obtain ⟨r, hr, rfl⟩ := Option.map_eq_some_iff.1 h
        obtain ⟨h1, h2⟩ := aggEq_ok hc.1 hc.2 hr ha hb
        refine ⟨.bool r, ?_, V.sc rfl⟩
        rw [Sem.run_bind, eqGuard_agg _ _ _ _ _ _ h2, Result.andThen_ok]
        show (do pure (Value.bool (← Op.equal t (.agg ua) (.agg ub))) : Sem Value).run P w = _
        rw [Sem.run_bind, h1]
        rfl
      · obtain ⟨r, hr, rfl⟩ := Option.map_eq_some_iff.1 h
        obtain ⟨h1, h2⟩ := aggEq_ok hc.1 hc.2 hr ha hb
        refine ⟨.bool (!r), ?_, V.sc rfl⟩
        rw [Sem.run_bind, eqGuard_agg _ _ _ _ _ _ h2, Result.andThen_ok]
        show (do pure (Value.bool (!(← Op.equal t (.agg ua) (.agg ub)))) : Sem Value).run P w = _
        rw [Sem.run_bind, h1]
        rfl
      · cases h
    · cases h
  · cases h

end
end Go.Proofs.Ytihljollfbogeaa

/- Reading memory: addresses, loads, lengths, parts of slices, strings. No condition. -/
namespace Go.Proofs.Ytihljollfbogeaa
open Go Go.RowKit

def aggB (P : Program) (t : TypeId) : Bool := match P.underlying t with | some (.struct _) | some (.array _ _) => true | _ => false
def hasT (P : Program) (t : TypeId) : Bool := (P.underlying t).isSome && (P.info? t).isSome

section
variable {P : Program} {w : World} {ok : Nat → Prop} {α : Al}

theorem run_isAgg' {t : TypeId} (h : hasT P t = true) : (isAgg t).run P w = .ok (aggB P t) w := by
  simp only [hasT, Bool.and_eq_true, Option.isSome_iff_exists] at h
  obtain ⟨⟨d, hd⟩, _⟩ := h
  simp only [isAgg, Sem.run_bind, run_underlying hd, Result.andThen_ok, aggB, hd]
  cases d <;> rfl
theorem run_size' {t : TypeId} (h : hasT P t = true) : (sizeOf t).run P w = .ok (P.cellsOf t) w := by
  simp only [hasT, Bool.and_eq_true, Option.isSome_iff_exists] at h
  obtain ⟨_, i, hi⟩ := h
  simp [sizeOf, typeInfo, hi, Program.cellsOf]

theorem add_at (b o j : Nat) : (⟨b, o, none⟩ : Addr).add j = ⟨b, o + j, none⟩ := by unfold Addr.add; split <;> simp_all

/-- Some cells lie there. -/
def Lie (w : World) (ok : Nat → Prop) (α : Al) (b o : Nat) (cs : List AV) : Prop :=
  ∀ (i : Nat) (a : AV), cs[i]? = some a → ∃ x, w.cell? ⟨b, o + i, none⟩ = some x ∧ V1 w ok α a x ∧ x.oneCell' = true

theorem load_part {t : TypeId} {k b o c : Nat} {cs : List AV} {v : AV} (ht : hasT P t = true) (hk : k = P.cellsOf t) (h : partA (aggB P t) k c cs = some v) (hl : Lie w ok α b o cs) :
    ∃ u, (loadVar t ⟨b, o + c, none⟩).run P w = .ok u w ∧ V w ok α v u := by
  subst hk
  unfold loadVar
  simp only [Sem.run_bind, run_isAgg' ht, Result.andThen_ok]
  unfold partA at h
  cases hagg : aggB P t
  · simp only [hagg, Bool.false_eq_true, if_false] at h ⊢
    obtain ⟨x, hx, hv, h1⟩ := hl c v h
    exact ⟨x, by simp [hx], V.of_V1 hv⟩
  · simp only [hagg, if_true] at h ⊢
    split at h
    · rename_i hle
      cases h
      obtain ⟨us, hus⟩ : ∃ us : List Value, us = (List.range (P.cellsOf t)).map fun j => (w.cell? ⟨b, o + c + j, none⟩).getD undef := ⟨_, rfl⟩
      have hlen : us.length = P.cellsOf t := by simp [hus]
      have hget : ∀ j u, us[j]? = some u → w.cell? ⟨b, o + c + j, none⟩ = some u ∧ ∃ a, cs[c + j]? = some a ∧ V1 w ok α a u ∧ u.oneCell' = true := fun j u hu => by
        have hj : j < P.cellsOf t := by rw [← hlen]; exact (List.getElem?_eq_some_iff.1 hu).1
        have hcs : c + j < cs.length := by omega
        obtain ⟨x, hx, hv, h1⟩ := hl (c + j) cs[c + j] (List.getElem?_eq_getElem hcs)
        rw [← Nat.add_assoc] at hx
        rw [hus] at hu
        simp [hj, hx] at hu
        subst hu
        exact ⟨hx, _, List.getElem?_eq_getElem hcs, hv, h1⟩
      have hrun := run_loadCells_list (P := P) w ⟨b, o + c, none⟩ us (fun j u hu => by rw [add_at]; exact (hget j u hu).1)
      rw [hlen] at hrun
      refine ⟨.agg us.toArray, by simp [run_size' ht, hrun], us.toArray, rfl, by simp [hlen]; omega, fun i a u ha hu => ?_⟩
      simp at hu
      obtain ⟨_, a', ha', hv, h1⟩ := hget i u hu
      have : a' = a := by
        rw [List.getElem?_take] at ha
        split at ha
        · rw [List.getElem?_drop] at ha; rw [ha] at ha'; exact (Option.some.inj ha').symm
        · cases ha
      subst this
      exact ⟨hv, h1⟩
    · cases h


theorem rowAt_spec {h : Hp} {n ver sz : Nat} {els : List AV} (hr : rowAt? h n ver = some (sz, els)) : h n = (ver, .row sz els) := by
  unfold rowAt? at hr
  split at hr
  · rename_i v sz' els' he
    split at hr
    · rename_i hv; cases hr; rw [he, hv]
    · cases hr
  · cases hr

/-- A block of our own that is there. -/
structure Own (w : World) (ok : Nat → Prop) (α : Al) (b off room sz : Nat) (els : List AV) : Prop where
  le : els.length ≤ room
  cells : ∃ cs t, w.heap[b]? = some (.cells cs t (0, 0)) ∧ off + room * sz ≤ cs.size
  len : ∀ (e : Nat) (el : AV), els[e]? = some el → el.cells.length = sz
  one : ∀ (e : Nat) (el : AV), els[e]? = some el → ∀ (c : Nat) (a : AV), el.cells[c]? = some a → a.one = true
  lie : ∀ (e : Nat) (el : AV), els[e]? = some el → Lie w ok α b (off + e * sz) el.cells

theorem Rel.row {base : Nat} {h : Hp} (r : Rel base h w α) {n ver sz : Nat} {els : List AV} (hr : rowAt? h n ver = some (sz, els)) {ae : AE} (ha : α n = some ae) :
    ae.ver = ver ∧ ae.sz = sz ∧ ae.len = els.length ∧ (ae.blk = none → els = []) ∧ ∀ b off room, ae.blk = some (b, off, room) → Own w (okA w α) α b off room sz els := by
  have h1 := r.ver n ae ha
  have h2 := r.at_ n ae ha
  rw [rowAt_spec hr] at h1 h2
  obtain ⟨h3, h4, h5⟩ := h2
  refine ⟨h1.symm, h3, h4, fun hb => ?_, fun b off room hb => ?_⟩
  · rw [hb] at h5; exact h5
  · rw [hb] at h5
    obtain ⟨h6, cs, t, h7, h8, h9⟩ := h5
    refine ⟨h6, ⟨cs, t, h7, h8⟩, fun e el he => (h9 e el he).1, fun e el he c a hc => ((h9 e el he).2 c a hc).1, fun e el he c a hc => ?_⟩
    obtain ⟨h10, x, hx, hv⟩ := (h9 e el he).2 c a hc
    exact ⟨x, by rw [cell_of_row w b _ cs t (0, 0) h7]; exact hx, hv, hv.one h10⟩

theorem sure_ok (a : Addr) : (Instr.sureAddr (.pointer (some a))).run P w = .ok a w := rfl

theorem load_ok {base : Nat} {h : Hp} (r : Rel base h w α) {t : TypeId} {k : Nat} {p v : AV} {u : Value} (ht : hasT P t = true) (hk : k = P.cellsOf t) (ho : oLoad (aggB P t) k h p = some v) (hp : V w (okA w α) α p u) :
    ∃ x, (Instr.loadAt t u).run P w = .ok x w ∧ V w (okA w α) α v x := by
  unfold oLoad at ho
  split at ho
  · rename_i n ver e c
    obtain ⟨⟨sz, els⟩, h1, h2⟩ := Option.bind_eq_some_iff.1 ho
    obtain ⟨el, h3, h4⟩ := Option.bind_eq_some_iff.1 h2
    cases hp with
    | low _ _ h => cases h
    | ptr _ _ _ _ a ae ha hv hh =>
      obtain ⟨e1, e2, e3, e4, e5⟩ := r.row h1 ha
      obtain ⟨b, off, room, hb, rfl⟩ := hh e1.symm
      have O := e5 b off room hb
      have L := O.lie e el h3
      rw [e2]
      obtain ⟨x, hx, hv⟩ := load_part (P := P) ht hk h4 L
      exact ⟨x, by rw [Instr.loadAt, Sem.run_bind, sure_ok]; exact hx, hv⟩
  · rename_i cs c
    cases hp with
    | low _ _ h =>
      cases h with
      | ipt _ _ b o U hok hc hv =>
        obtain ⟨x, hx, hv⟩ := load_part (P := P) (ok := okA w α) (α := α) ht hk ho (b := b) (o := o) (fun i a ha => ⟨U i, hc i a ha, .low _ _ (hv i a ha), (hv i a ha).one⟩)
        exact ⟨x, by rw [Instr.loadAt, Sem.run_bind, sure_ok]; exact hx, hv⟩
  · cases ho

theorem oNil_ok {x v : AV} {u : Value} (h : oNil x = some v) (hx : V w ok α x u) : v = x ∧ ∀ (P : Program) (o : Operand) (ρ : Operand → Value), ρ o = u →
    (match ρ o with
    | .pointer none | .nilIface | .nilFunc => (runtimePanic .nilDeref : Sem Next)
    | .func (.method name) first captured =>
      match (first[0]? : Option Value) with
      | some .nilIface => runtimePanic .nilDeref
      | some (.iface t w) => do
        if (← nilAhead ((← program).types.size + Made.depth) t w name) != some false then
          unsupported (.noEntry "op/nilCheck.the method's receiver behind this interface value is a nil pointer, or cannot be seen to be none, and the arguments act or may panic (ledger 612)")
        pure (.value (.func (.method name) first captured))
      | _ => pure (.value (.func (.method name) first captured))
    | x => pure (.value x)).run P w = .ok (.value u) w := by
  unfold oNil at h
  split at h
  · cases h
    refine ⟨rfl, fun P o ρ e => ?_⟩
    cases hx with
    | low _ _ h => cases h
    | ptr => rw [e]; rfl
  · cases h
    refine ⟨rfl, fun P o ρ e => ?_⟩
    cases hx with
    | low _ _ h => cases h; rw [e]; rfl
  · cases h
    refine ⟨rfl, fun P o ρ e => ?_⟩
    cases hx with
    | low _ _ h => cases h
    | fn => rw [e]; rfl
  · cases h

theorem fieldPlace_ok {b o : Nat} {f : Field} (ht : hasT P f.type = true) (h0 : P.cellsOf f.type ≠ 0) : (fieldPlace ⟨b, o, none⟩ f).run P w = .ok ⟨b, o + f.offset, none⟩ w := by
  simp [fieldPlace, run_size' ht, h0, add_at]
theorem fieldAddr_ok {s : TypeId} {fs : Array Field} {i : Nat} {f : Field} {x v : AV} {u : Value} (hs : P.underlying s = some (.struct fs)) (hf : fs[i]? = some f) (ht : hasT P f.type = true) (h0 : P.cellsOf f.type ≠ 0)
    (h : oFieldAddr f.offset x = some v) (hx : V w ok α x u) : ∃ r, (Instr.fieldAt s u i).run P w = .ok r w ∧ V w ok α v r := by
  unfold oFieldAddr at h
  split at h
  · rename_i n ver e c
    cases h
    cases hx with
    | low _ _ h => cases h
    | ptr _ _ _ _ a ae ha hv hh =>
      by_cases hver : ver = ae.ver
      · obtain ⟨b, off, room, hb, rfl⟩ := hh hver
        refine ⟨.pointer (some ⟨b, off + e * ae.sz + c + f.offset, none⟩), ?_, V.of_V1 (.ptr _ _ _ _ _ ae ha hv fun _ => ⟨b, off, room, hb, by simp [Nat.add_assoc]⟩)⟩
        simp [Instr.fieldAt, run_underlying hs, hf, Instr.sureAddr, fieldPlace_ok ht h0]
      · refine ⟨.pointer (some (a.add f.offset)), ?_, V.of_V1 (.ptr _ _ _ _ _ ae ha hv fun e => absurd e hver)⟩
        simp [Instr.fieldAt, run_underlying hs, hf, Instr.sureAddr, fieldPlace, run_size' ht, h0]
  · rename_i cs c
    cases h
    cases hx with
    | low _ _ h =>
      cases h with
      | ipt _ _ b o U hok hc hv =>
        refine ⟨.pointer (some ⟨b, o + (c + f.offset), none⟩), ?_, V.of_V1 (.low _ _ (.ipt _ _ b o U hok hc hv))⟩
        simp [Instr.fieldAt, run_underlying hs, hf, Instr.sureAddr, fieldPlace_ok ht h0, Nat.add_assoc]
  · cases h

theorem asNum_ok {x : AV} {u : Value} {i : Int} (h : asNum x = some i) (hx : V w ok α x u) : ∃ k, u = .int k i := by
  unfold asNum at h
  split at h
  · cases h; exact ⟨_, hx.sc_eq⟩
  · cases h

theorem indexS_ok {base : Nat} {h : Hp} (r : Rel base h w α) {t e : TypeId} {k : Nat} {x i v : AV} {ux ui : Value} (ht : P.underlying t = some (.slice e)) (he : hasT P e = true) (hk : k = P.cellsOf e)
    (ho : oIndexS k h x i = some v) (hx : V w (okA w α) α x ux) (hi : V w (okA w α) α i ui) : ∃ p, (Instr.indexAt t ux ui).run P w = .ok p w ∧ V w (okA w α) α v p := by
  subst hk
  have imm : ∀ (xs : List AV) (A : Option Addr) (cap sz b o : Nat) (U : Nat → Nat → Value)
      (_ : ∀ (j : Nat) (el : AV), xs[j]? = some el → el.cells.length = sz ∧ A = some ⟨b, o, none⟩ ∧ okA w α b)
      (_ : ∀ (j : Nat) (el : AV) (c : Nat) (a : AV), xs[j]? = some el → el.cells[c]? = some a → w.cell? ⟨b, o + (j * sz + c), none⟩ = some (U j c))
      (_ : ∀ (j : Nat) (el : AV) (c : Nat) (a : AV), xs[j]? = some el → el.cells[c]? = some a → V0 w (okA w α) a (U j c)),
      ((asNum i).bind fun i => if 0 ≤ i ∧ i < xs.length then (xs[i.toNat]?).bind fun el => if el.cells.length = P.cellsOf e then some (AV.ipt el.cells 0) else none else none) = some v →
      ∃ p, (Instr.indexAt t (.slice A xs.length cap) ui).run P w = .ok p w ∧ V w (okA w α) α v p := by
    intro xs A cap sz b o U hh hc hv ho
    obtain ⟨n, h1, h2⟩ := Option.bind_eq_some_iff.1 ho
    split at h2
    · rename_i hb
      obtain ⟨el, h3, h4⟩ := Option.bind_eq_some_iff.1 h2
      split at h4
      · rename_i hlen
        cases h4
        obtain ⟨k, rfl⟩ := asNum_ok h1 hi
        obtain ⟨h5, rfl, hok⟩ := hh _ _ h3
        refine ⟨.pointer (some ⟨b, o + n.toNat * P.cellsOf e, none⟩), ?_, V.of_V1 (.low _ _ ?_)⟩
        · simp [Instr.indexAt, asIntOf, run_underlying ht, hb, run_size' he, add_at]
        · have := V0.ipt (w := w) (ok := okA w α) el.cells 0 b (o + n.toNat * sz) (fun c => U n.toNat c) hok (fun c a ha => by rw [Nat.add_assoc]; exact hc _ _ c a h3 ha) (fun c a ha => hv _ _ c a h3 ha)
          rw [show P.cellsOf e = sz by omega]
          exact this
      · cases h4
    · cases h2
  unfold oIndexS at ho
  split at ho
  · rename_i xs
    cases hx with
    | low _ _ h => cases h with | imm _ A cap sz b o U hcap hh hc hv => exact imm xs A cap sz b o U hh hc hv ho
  · rename_i xs
    cases hx with
    | low _ _ h => cases h with | full _ A sz b o U hh hc hv => exact imm xs A xs.length sz b o U hh hc hv ho
  · rename_i n ver i0 len
    obtain ⟨m, h1, h2⟩ := Option.bind_eq_some_iff.1 ho
    split at h2
    · rename_i hb
      obtain ⟨⟨sz, els⟩, h3, h4⟩ := Option.bind_eq_some_iff.1 h2
      split at h4
      · rename_i hsz
        cases h4
        obtain ⟨k, rfl⟩ := asNum_ok h1 hi
        cases hx with
        | low _ _ h => cases h
        | ref _ _ _ _ A cap ae hl ha hv hh =>
          obtain ⟨e1, e2, e3, e4, e5⟩ := r.row h3 ha
          obtain ⟨g1, g2, g3⟩ := hh e1.symm
          cases hblk : ae.blk with
          | none => rw [hblk] at g3; omega
          | some z =>
            obtain ⟨b, off, room⟩ := z
            rw [hblk] at g3
            obtain ⟨g4, g5⟩ := g3
            have hA := g5 (by omega)
            subst hA
            refine ⟨.pointer (some ⟨b, off + i0 * ae.sz + m.toNat * P.cellsOf e, none⟩), ?_, V.of_V1 (.ptr _ _ _ _ _ ae ha hv fun _ => ⟨b, off, room, hblk, ?_⟩)⟩
            · simp [Instr.indexAt, asIntOf, run_underlying ht, hb, run_size' he, add_at]
            · have : P.cellsOf e = ae.sz := by rw [e2]; exact hsz.symm
              simp [this, Nat.add_mul, Nat.add_assoc]
      · cases h4
    · cases h2
  · cases ho

theorem indexA_ok {t e : TypeId} {len k : Nat} {x i v : AV} {ux ui : Value} (ht : P.underlying t = some (.array len e)) (he : hasT P e = true) (hk : k = P.cellsOf e)
    (ho : oIndexA len k x i = some v) (hx : V w ok α x ux) (hi : V w ok α i ui) : ∃ p, (Instr.indexAt t ux ui).run P w = .ok p w ∧ V w ok α v p := by
  subst hk
  unfold oIndexA at ho
  obtain ⟨m, h1, h2⟩ := Option.bind_eq_some_iff.1 ho
  split at h2
  · rename_i hb
    obtain ⟨k, rfl⟩ := asNum_ok h1 hi
    split at h2
    · rename_i n ver e0 c
      cases h2
      cases hx with
      | low _ _ h => cases h
      | ptr _ _ _ _ a ae ha hv hh =>
        by_cases hver : ver = ae.ver
        · obtain ⟨b, off, room, hblk, rfl⟩ := hh hver
          refine ⟨.pointer (some ⟨b, off + e0 * ae.sz + c + m.toNat * P.cellsOf e, none⟩), ?_, V.of_V1 (.ptr _ _ _ _ _ ae ha hv fun _ => ⟨b, off, room, hblk, by simp [Nat.add_assoc]⟩)⟩
          simp [Instr.indexAt, asIntOf, run_underlying ht, hb, run_size' he, add_at, Instr.sureAddr]
        · refine ⟨.pointer (some (a.add (m.toNat * P.cellsOf e))), ?_, V.of_V1 (.ptr _ _ _ _ _ ae ha hv fun e => absurd e hver)⟩
          simp [Instr.indexAt, asIntOf, run_underlying ht, hb, run_size' he, Instr.sureAddr]
    · rename_i cs c
      cases h2
      cases hx with
      | low _ _ h =>
        cases h with
        | ipt _ _ b o U hok hc hv =>
          refine ⟨.pointer (some ⟨b, o + (c + m.toNat * P.cellsOf e), none⟩), ?_, V.of_V1 (.low _ _ (.ipt _ _ b o U hok hc hv))⟩
          simp [Instr.indexAt, asIntOf, run_underlying ht, hb, run_size' he, add_at, Instr.sureAddr, Nat.add_assoc]
    · cases h2
  · cases h2

theorem len_ok {t ty e : TypeId} {x v : AV} {u : Value} (ht : P.underlying t = some (.slice e)) (ho : oLen x = some v) (hx : V w ok α x u) : (Builtin.len_ #[t] ty #[u]).run P w = .ok (match v with | .sc n => n | _ => undef) w ∧ V w ok α v (match v with | .sc n => n | _ => undef) := by
  have key : ∀ (A : Option Addr) (n c : Nat), (Builtin.len_ #[t] ty #[.slice A n c]).run P w = .ok (.int .i64 n) w := fun A n c => by simp [Builtin.len_, run_underlying ht, goInt]
  unfold oLen at ho
  split at ho
  · cases ho
    cases hx with | low _ _ h => cases h; exact ⟨key _ _ _, V.sc rfl⟩
  · cases ho
    cases hx with | low _ _ h => cases h; exact ⟨key _ _ _, V.sc rfl⟩
  · cases ho
    cases hx with | low _ _ h => cases h; exact ⟨key _ _ _, V.sc rfl⟩
  · cases ho
    cases hx with
    | low _ _ h => cases h
    | ref => exact ⟨key _ _ _, V.sc rfl⟩
  · cases ho
theorem cap_ok {t ty e : TypeId} {x v : AV} {u : Value} (ht : P.underlying t = some (.slice e)) (ho : oCap x = some v) (hx : V w ok α x u) : (Builtin.cap_ #[t] ty #[u]).run P w = .ok (match v with | .sc n => n | _ => undef) w ∧ V w ok α v (match v with | .sc n => n | _ => undef) := by
  have key : ∀ (A : Option Addr) (n c : Nat), (Builtin.cap_ #[t] ty #[.slice A n c]).run P w = .ok (.int .i64 c) w := fun A n c => by simp [Builtin.cap_, run_underlying ht, goInt]
  unfold oCap at ho
  split at ho
  · cases ho
    cases hx with | low _ _ h => cases h; exact ⟨key _ _ _, V.sc rfl⟩
  · cases ho
    cases hx with | low _ _ h => cases h; exact ⟨key _ _ _, V.sc rfl⟩
  · cases ho

theorem min_ok {tys : Array TypeId} {ty : TypeId} {x y v : AV} {ux uy : Value} (h : oMin x y = some v) (hx : V w ok α x ux) (hy : V w ok α y uy) : ∃ r, (Builtin.min_ tys ty #[ux, uy]).run P w = .ok r w ∧ V w ok α v r := by
  unfold oMin at h
  split at h
  · split at h
    · rename_i hk
      subst hk
      cases h
      rw [hx.sc_eq, hy.sc_eq]
      exact ⟨_, rfl, V.sc rfl⟩
    · cases h
  · cases h
theorem max_ok {tys : Array TypeId} {ty : TypeId} {x y v : AV} {ux uy : Value} (h : oMax x y = some v) (hx : V w ok α x ux) (hy : V w ok α y uy) : ∃ r, (Builtin.max_ tys ty #[ux, uy]).run P w = .ok r w ∧ V w ok α v r := by
  unfold oMax at h
  split at h
  · split at h
    · rename_i hk
      subst hk
      cases h
      rw [hx.sc_eq, hy.sc_eq]
      exact ⟨_, rfl, V.sc rfl⟩
    · cases h
  · cases h

theorem extract_ok {i : Nat} {x v : AV} {u : Value} (h : oExtract i x = some v) (hx : V w ok α x u) : ∃ r, (Instr.extract u i).run P w = .ok r w ∧ V w ok α v r := by
  unfold oExtract at h
  split at h
  · rename_i vs
    obtain ⟨us, rfl, hn, hh⟩ := hx
    have hi := (List.getElem?_eq_some_iff.1 h).1
    have hu : us[i]? = some us[i] := List.getElem?_eq_getElem (by omega)
    refine ⟨us[i], ?_, V.of_VA (hh i v us[i] h hu) ?_⟩
    · simp [Instr.extract, hu]
    · intro ws e
      subst e
      have := hh i _ us[i] h hu
      cases this with | low _ _ h => cases h
  · cases h

theorem convInt_ok {src dst : TypeId} {k : IntKind} {x v : AV} {u : Value} (hs : (P.underlying src).isSome = true) (hd : P.underlying dst = some (.int k)) (h : oConvInt k x = some v) (hx : V w ok α x u) :
    ∃ r, (convert src dst u).run P w = .ok r w ∧ V w ok α v r := by
  unfold oConvInt at h
  split at h
  · cases h
    rw [hx.sc_eq]
    obtain ⟨d, hd'⟩ := Option.isSome_iff_exists.mp hs
    exact ⟨_, by simp [convert, run_underlying hd', run_underlying hd, Conv.intToInt], V.sc rfl⟩
  · cases h

end
end Go.Proofs.Ytihljollfbogeaa

/- Our own blocks: new ones, written ones; what is kept. No condition. -/
namespace Go.Proofs.Ytihljollfbogeaa
open Go Go.RowKit

def upd (α : Al) (n : Nat) (ae : AE) : Al := ⟨fun m => if m = n then some ae else α m, α.G⟩
theorem upd_same (α : Al) (n : Nat) (ae : AE) : upd α n ae n = some ae := if_pos rfl
theorem upd_ne (α : Al) {n m : Nat} (ae : AE) (h : m ≠ n) : upd α n ae m = α m := if_neg h
theorem upd_self {α : Al} {n : Nat} {ae : AE} (ha : α n = some ae) : upd α n ae = α := by
  have : (fun m => if m = n then some ae else α m) = α.f := by
    funext m
    split
    · rename_i e; rw [e, ha]
    · rfl
  unfold upd
  rw [this]

section
variable {P : Program} {w : World} {α : Al} {base : Nat} {h : Hp}

theorem later_upd (r : Rel base h w α) {n : Nat} {ae' : AE} (hv : (h n).1 < ae'.ver ∨ α n = some ae') : Later α (upd α n ae') := fun m ae ha => by
  by_cases e : m = n
  · subst e
    refine ⟨ae', upd_same _ _ _, ?_, fun e => ?_⟩
    · rcases hv with hv | hv
      · have := r.ver m ae ha; omega
      · rw [ha] at hv; cases hv; exact Nat.le_refl _
    · rcases hv with hv | hv
      · have := r.ver m ae ha; omega
      · rw [ha] at hv; exact (Option.some.inj hv).symm
  · exact ⟨ae, by rw [upd_ne _ _ e]; exact ha, Nat.le_refl _, fun _ => rfl⟩

/-- Some cells of ours that fit abstract ones: of elements of sz cells, from place off on. -/
def Fit (w : World) (ok : Nat → Prop) (α : Al) (cs : List Value) (off sz : Nat) (els : List AV) : Prop :=
  ∀ (e : Nat) (el : AV), els[e]? = some el → el.cells.length = sz ∧ ∀ (c : Nat) (a : AV), el.cells[c]? = some a → a.one = true ∧ ∃ x, cs[off + e * sz + c]? = some x ∧ V1 w ok α a x

/-- A block's row under a name is another one now. -/
theorem Rel.turn (r : Rel base h w α) {w' : World} {n sz b off room : Nat} {els : List AV} {ae' : AE} {cs : Array Value} {t : TypeId}
    (hv : (h n).1 < ae'.ver ∨ α n = some ae') (hsz : ae'.sz = sz) (hlen : ae'.len = els.length) (hblk : ae'.blk = some (b, off, room)) (hroom : els.length ≤ room)
    (hcs : w'.heap[b]? = some (.cells cs t (0, 0))) (hsize : off + room * sz ≤ cs.size) (hfit : Fit w (okA w α) α cs.toList off sz els)
    (hbase : base ≤ b) (hfresh : ∀ m ae b' o r', α m = some ae → ae.blk = some (b', o, r') → b' = b → m = n)
    (hos : w'.os = w.os) (htape : w'.tape = w.tape) (hout : w'.output = w.output) (hgrow : w.heap.size ≤ w'.heap.size) (hnew : free w α b → False)
    (hkeep : ∀ k, k < w.heap.size → k ≠ b → w'.heap[k]? = w.heap[k]?) :
    Rel base (hset h n (ae'.ver, .row sz els)) w' (upd α n ae') ∧ Ext w α w' (upd α n ae') := by
  have hl := later_upd r hv
  have hbF : ∀ k, free w α k → free w' (upd α n ae') k ∧ w'.heap[k]? = w.heap[k]? := fun k hk => by
    have hkb : k ≠ b := fun e => hnew (e ▸ hk)
    refine ⟨⟨Nat.lt_of_lt_of_le hk.1 hgrow, fun m ae o r' ha => ?_⟩, hkeep k hk.1 hkb⟩
    by_cases e : m = n
    · subst e
      rw [upd_same] at ha
      cases ha
      rw [hblk]
      simp
      exact fun e => absurd e.symm hkb
    · rw [upd_ne _ _ e] at ha
      exact hk.2 m ae o r' ha
  have hb := okA_of_free hbF rfl
  refine ⟨⟨fun m ae ha => ?_, fun m ae ha => ?_, fun m m' ae ae1 b1 o1 r1 o2 r2 h1 h2 h3 h4 => ?_, fun m ae b1 o1 r1 h1 h2 => ?_, r.grant⟩, hos, htape, hout, hgrow, hbF, hl, rfl⟩
  · by_cases e : m = n
    · subst e
      rw [upd_same] at ha
      cases ha
      simp [hset]
    · rw [upd_ne _ _ e] at ha
      simp [hset, e]
      exact r.ver m ae ha
  · by_cases e : m = n
    · subst e
      rw [upd_same] at ha
      cases ha
      simp only [hset, if_true]
      refine ⟨hsz, hlen, ?_⟩
      rw [hblk]
      refine ⟨hroom, cs, t, hcs, hsize, fun e el he => ?_⟩
      obtain ⟨h1, h2⟩ := hfit e el he
      refine ⟨h1, fun c a ha => ?_⟩
      obtain ⟨h3, x, hx, hv⟩ := h2 c a ha
      exact ⟨h3, x, by simpa using hx, hv.mono hb hl⟩
    · rw [upd_ne _ _ e] at ha
      simp only [hset, if_neg e]
      refine (r.at_ m ae ha).mono (fun b' o r' hb' => ?_) hb hl
      exact hkeep b' (r.base m ae b' o r' ha hb').2 (fun e' => e (hfresh m ae b' o r' ha hb' e'))
  · by_cases e : m = n
    · by_cases e' : m' = n
      · rw [e, e']
      · subst e
        rw [upd_same] at h1
        cases h1
        rw [upd_ne _ _ e'] at h2
        rw [hblk] at h3
        cases h3
        exact absurd (hfresh m' ae1 b o2 r2 h2 h4 rfl) e'
    · rw [upd_ne _ _ e] at h1
      by_cases e' : m' = n
      · subst e'
        rw [upd_same] at h2
        cases h2
        rw [hblk] at h4
        cases h4
        exact absurd (hfresh m ae b o1 r1 h1 h3 rfl) e
      · rw [upd_ne _ _ e'] at h2
        exact r.inj m m' ae ae1 b1 o1 r1 o2 r2 h1 h2 h3 h4
  · by_cases e : m = n
    · subst e
      rw [upd_same] at h1
      cases h1
      rw [hblk] at h2
      cases h2
      exact ⟨hbase, (Array.getElem?_eq_some_iff.1 hcs).1⟩
    · rw [upd_ne _ _ e] at h1
      have := r.base m ae b1 o1 r1 h1 h2
      exact ⟨this.1, Nat.lt_of_lt_of_le this.2 hgrow⟩

/-- A new block under a name. -/
theorem Rel.new (r : Rel base h w α) (n sz room : Nat) {els : List AV} {cs : Array Value} (t : TypeId) (hbase : base ≤ w.heap.size) (hroom : els.length ≤ room) (hsize : room * sz ≤ cs.size) (hfit : Fit w (okA w α) α cs.toList 0 sz els) :
    Rel base (hset h n ((h n).1 + 1, .row sz els)) (w.alloc (.cells cs t)) (upd α n ⟨(h n).1 + 1, sz, els.length, some (w.heap.size, 0, room)⟩) ∧
      Ext w α (w.alloc (.cells cs t)) (upd α n ⟨(h n).1 + 1, sz, els.length, some (w.heap.size, 0, room)⟩) :=
  r.turn (ae' := ⟨(h n).1 + 1, sz, els.length, some (w.heap.size, 0, room)⟩) (b := w.heap.size) (off := 0) (room := room) (.inl (Nat.lt_succ_self _)) rfl rfl rfl hroom (heap_alloc_new w _) (by omega) (by simpa using hfit) hbase
    (fun m ae b' o r' ha hb e => absurd (r.base m ae b' o r' ha hb).2 (by omega)) rfl rfl rfl (by simp) (fun h => absurd h.1 (by omega)) (fun k hk _ => heap_alloc_old w _ k hk)

/-- A name for an empty row that lies nowhere. -/
theorem Rel.virt (r : Rel base h w α) (n sz : Nat) :
    Rel base (hset h n ((h n).1 + 1, .row sz [])) w (upd α n ⟨(h n).1 + 1, sz, 0, none⟩) ∧ Ext w α w (upd α n ⟨(h n).1 + 1, sz, 0, none⟩) := by
  have hl := later_upd r (n := n) (ae' := ⟨(h n).1 + 1, sz, 0, none⟩) (.inl (Nat.lt_succ_self _))
  have hbF : ∀ k, free w α k → free w (upd α n ⟨(h n).1 + 1, sz, 0, none⟩) k ∧ w.heap[k]? = w.heap[k]? := fun k hk => by
    refine ⟨⟨hk.1, fun m ae o r' ha => ?_⟩, rfl⟩
    by_cases e : m = n
    · subst e; rw [upd_same] at ha; cases ha; simp
    · rw [upd_ne _ _ e] at ha; exact hk.2 m ae o r' ha
  have hb := okA_of_free hbF rfl
  refine ⟨⟨fun m ae ha => ?_, fun m ae ha => ?_, fun m m' ae ae1 b1 o1 r1 o2 r2 h1 h2 h3 h4 => ?_, fun m ae b1 o1 r1 h1 h2 => ?_, r.grant⟩, rfl, rfl, rfl, Nat.le_refl _, hbF, hl, rfl⟩
  · by_cases e : m = n
    · subst e; rw [upd_same] at ha; cases ha; simp [hset]
    · rw [upd_ne _ _ e] at ha; simp [hset, e]; exact r.ver m ae ha
  · by_cases e : m = n
    · subst e; rw [upd_same] at ha; cases ha; simp only [hset, if_true]; exact ⟨rfl, rfl, rfl⟩
    · rw [upd_ne _ _ e] at ha
      simp only [hset, if_neg e]
      exact (r.at_ m ae ha).mono (fun _ _ _ _ => rfl) hb hl
  · by_cases e : m = n
    · subst e; rw [upd_same] at h1; cases h1; cases h3
    · by_cases e' : m' = n
      · subst e'; rw [upd_same] at h2; cases h2; cases h4
      · rw [upd_ne _ _ e] at h1; rw [upd_ne _ _ e'] at h2
        exact r.inj m m' ae ae1 b1 o1 r1 o2 r2 h1 h2 h3 h4
  · by_cases e : m = n
    · subst e; rw [upd_same] at h1; cases h1; cases h2
    · rw [upd_ne _ _ e] at h1; exact r.base m ae b1 o1 r1 h1 h2

/-- A name that is given up. -/
theorem Rel.drop (r : Rel base h w α) (n : Nat) :
    Rel base (hset h n ((h n).1 + 1, .dead)) w (upd α n ⟨(h n).1 + 1, 0, 0, none⟩) ∧ Ext w α w (upd α n ⟨(h n).1 + 1, 0, 0, none⟩) := by
  have hl := later_upd r (n := n) (ae' := ⟨(h n).1 + 1, 0, 0, none⟩) (.inl (Nat.lt_succ_self _))
  have hbF : ∀ k, free w α k → free w (upd α n ⟨(h n).1 + 1, 0, 0, none⟩) k ∧ w.heap[k]? = w.heap[k]? := fun k hk => by
    refine ⟨⟨hk.1, fun m ae o r' ha => ?_⟩, rfl⟩
    by_cases e : m = n
    · subst e; rw [upd_same] at ha; cases ha; simp
    · rw [upd_ne _ _ e] at ha; exact hk.2 m ae o r' ha
  have hb := okA_of_free hbF rfl
  refine ⟨⟨fun m ae ha => ?_, fun m ae ha => ?_, fun m m' ae ae1 b1 o1 r1 o2 r2 h1 h2 h3 h4 => ?_, fun m ae b1 o1 r1 h1 h2 => ?_, r.grant⟩, rfl, rfl, rfl, Nat.le_refl _, hbF, hl, rfl⟩
  · by_cases e : m = n
    · subst e; rw [upd_same] at ha; cases ha; simp [hset]
    · rw [upd_ne _ _ e] at ha; simp [hset, e]; exact r.ver m ae ha
  · by_cases e : m = n
    · subst e; rw [upd_same] at ha; cases ha; simp only [hset, if_true]; rfl
    · rw [upd_ne _ _ e] at ha
      simp only [hset, if_neg e]
      exact (r.at_ m ae ha).mono (fun _ _ _ _ => rfl) hb hl
  · by_cases e : m = n
    · subst e; rw [upd_same] at h1; cases h1; cases h3
    · by_cases e' : m' = n
      · subst e'; rw [upd_same] at h2; cases h2; cases h4
      · rw [upd_ne _ _ e] at h1; rw [upd_ne _ _ e'] at h2
        exact r.inj m m' ae ae1 b1 o1 r1 o2 r2 h1 h2 h3 h4
  · by_cases e : m = n
    · subst e; rw [upd_same] at h1; cases h1; cases h2
    · rw [upd_ne _ _ e] at h1; exact r.base m ae b1 o1 r1 h1 h2

/-- A row of ours written over, in its place. -/
theorem Rel.write (r : Rel base h w α) {n sz b off room off' room' : Nat} {els : List AV} {ae ae' : AE} {cs cs' : Array Value} {t : TypeId}
    (ha : α n = some ae) (hblk0 : ae.blk = some (b, off, room)) (hcs : w.heap[b]? = some (.cells cs t (0, 0))) (hsize' : cs'.size = cs.size)
    (hv : (h n).1 < ae'.ver ∨ α n = some ae') (hsz : ae'.sz = sz) (hlen : ae'.len = els.length) (hblk : ae'.blk = some (b, off', room')) (hroom : els.length ≤ room')
    (hsize : off' + room' * sz ≤ cs.size) (hfit : Fit w (okA w α) α cs'.toList off' sz els) :
    Rel base (hset h n (ae'.ver, .row sz els)) (w.setRow b cs') (upd α n ae') ∧ Ext w α (w.setRow b cs') (upd α n ae') :=
  r.turn (w' := w.setRow b cs') hv hsz hlen hblk hroom (setRow_heap w b cs cs' t (0, 0) hcs) (by omega) hfit (r.base n ae b off room ha hblk0).1
    (fun m ae1 b' o r' hm hb e => by subst e; exact r.inj m n ae1 ae b' o r' off room hm ha hb hblk0) rfl rfl rfl (by simp) (fun hk => hk.2 n ae off room ha hblk0)
    (fun k _ hk => by simp [World.setRow, Array.getElem?_modify, Ne.symm hk])

end
end Go.Proofs.Ytihljollfbogeaa

/- The abstract operations that make or write memory are those of the machine: new variables, stores, make, literals. No condition. -/
namespace Go.Proofs.Ytihljollfbogeaa
open Go Go.RowKit

section
variable {P : Program} {w : World} {α : Al} {base : Nat} {h : Hp}

/-- What an operation comes to. -/
def Done (base : Nat) (w : World) (α : Al) (v : AV) (h' : Hp) (u : Value) (w' : World) : Prop :=
  ∃ α', Rel base h' w' α' ∧ Ext w α w' α' ∧ V w' (okA w' α') α' v u

theorem Done.same (r : Rel base h w α) {v : AV} {u : Value} (hv : V w (okA w α) α v u) : Done base w α v h u w := ⟨α, r, Ext.refl _ _, hv⟩

theorem storable_one {v : AV} (hs : v.storable = true) {c : Nat} {a : AV} (h : v.cells[c]? = some a) : a.one = true :=
  List.all_eq_true.1 hs a (List.mem_of_getElem? h)

theorem fit_one {ok : Nat → Prop} {v : AV} {u : Value} (hs : v.storable = true) (hv : V w ok α v u) : Fit w ok α u.cells.toList 0 v.cells.length [v] := fun e el he => by
  match e, he with
  | 0, he =>
    simp at he
    subst he
    refine ⟨rfl, fun c a ha => ⟨storable_one hs ha, ?_⟩⟩
    have := hv.cells hs
    have hc : c < u.cells.toList.length := by rw [this.1]; exact (List.getElem?_eq_some_iff.1 ha).1
    exact ⟨u.cells.toList[c], by simp [List.getElem?_eq_getElem hc], (this.2 c a _ ha (List.getElem?_eq_getElem hc)).1⟩

theorem new_ok (r : Rel base h w α) (hb : base ≤ w.heap.size) {n : Nat} {v p : AV} {h' : Hp} {u : Value} (ho : oNew h n v = some (p, h')) (hv : V w (okA w α) α v u) (t : TypeId) :
    Done base w α p h' (.pointer (some ⟨w.heap.size, 0, none⟩)) (w.alloc (.cells u.cells t)) := by
  unfold oNew at ho
  split at ho
  · rename_i hs
    cases ho
    have hc := hv.cells hs
    obtain ⟨r', e'⟩ := r.new n v.cells.length 1 (els := [v]) (cs := u.cells) t hb (by simp) (by have := hc.1; simp at this; omega) (fit_one hs hv)
    refine ⟨_, r', e', V.of_V1 (.ptr n _ 0 0 _ _ (upd_same _ _ _) (Nat.le_refl _) fun _ => ⟨_, _, _, rfl, by simp⟩)⟩
  · cases ho

theorem box_ok (r : Rel base h w α) (hb : base ≤ w.heap.size) {n : Nat} {v p : AV} {h' : Hp} {u : Value} (ho : oNew h n v = some (p, h')) (hv : V w (okA w α) α v u) (t : TypeId) :
    ∃ x w', (Instr.box t u).run P w = .ok x w' ∧ Done base w α p h' x w' :=
  ⟨_, _, by simp [Instr.box, newVar, newRow], new_ok r hb ho hv t⟩
theorem alloc_ok (r : Rel base h w α) (hb : base ≤ w.heap.size) {n : Nat} {p : AV} {h' : Hp} {t : TypeId} {inf : TypeInfo} {z : Value} (hi : P.info? t = some inf) (hz : inf.zero = some z) (ho : oNew h n (ofVal z) = some (p, h')) :
    ∃ x w', (Instr.alloc t true (.tuple #[])).run P w = .ok x w' ∧ Done base w α p h' x w' :=
  ⟨_, _, by simp [Instr.alloc, zeroValue, typeInfo, hi, hz, newVar, newRow], new_ok r hb ho (ofVal_ok z) t⟩

/-! ### Stores -/
theorem splice_get {β : Type} (L vs : List β) (o j : Nat) (hle : o + vs.length ≤ L.length) :
    (L.take o ++ vs ++ L.drop (o + vs.length))[j]? = if o ≤ j ∧ j < o + vs.length then vs[j - o]? else L[j]? := by
  rw [List.append_assoc, List.getElem?_append, List.getElem?_append, List.getElem?_take, List.getElem?_drop]
  have hm : (L.take o).length = o := by simp; omega
  rw [hm]
  by_cases h1 : j < o
  · rw [if_pos h1, if_pos h1, if_neg (by omega)]
  · rw [if_neg h1]
    by_cases h2 : j - o < vs.length
    · rw [if_pos h2, if_pos (by omega)]
    · rw [if_neg h2, if_neg (by omega)]
      congr 1
      omega

theorem splice_size (cs : Array Value) (vs : List Value) (o : Nat) (hle : o + vs.length ≤ cs.size) : (cs.toList.take o ++ vs ++ cs.toList.drop (o + vs.length)).toArray.size = cs.size := by
  have : cs.toList.length = cs.size := Array.length_toList
  simp only [List.size_toArray, List.length_append, List.length_take, List.length_drop]
  omega
theorem length_setCellsA {cs new : List AV} {c : Nat} (hle : c + new.length ≤ cs.length) : (setCellsA cs c new).length = cs.length := by
  simp [setCellsA]; omega
theorem reshape_cells {el : AV} {cs : List AV} (hl : cs.length = el.cells.length) (h1 : ∀ a ∈ cs, a.one = true) : (reshape el cs).cells = cs := by
  have key : cs.length = 1 → (cs.headD .junk).cells = cs := fun hl => by
    match cs, hl with
    | [a], _ =>
      have := h1 a (by simp)
      cases a <;> first | rfl | (simp [AV.one] at this)
  cases el <;> first | rfl | exact key hl

/-- Where a cell of a row lies. -/
theorem row_far {sz e e' c c' k : Nat} (hne : e ≠ e') (hc : c + k ≤ sz) (hc' : c' < sz) : ¬ (e * sz + c ≤ e' * sz + c' ∧ e' * sz + c' < e * sz + c + k) := by
  rcases Nat.lt_or_gt_of_ne hne with h | h
  · have : (e + 1) * sz ≤ e' * sz := Nat.mul_le_mul_right _ h
    rw [Nat.add_mul] at this
    omega
  · have : (e' + 1) * sz ≤ e * sz := Nat.mul_le_mul_right _ h
    rw [Nat.add_mul] at this
    omega

theorem store_ok (r : Rel base h w α) {t : TypeId} {k : Nat} {p v : AV} {h' : Hp} {up uv : Value} (ht : hasT P t = true) (hk : k = P.cellsOf t) (ho : oStore k h p v = some h') (hp : V w (okA w α) α p up) (hv : V w (okA w α) α v uv) :
    ∃ w', (Instr.storeAt t up uv).run P w = .ok () w' ∧ ∃ α', Rel base h' w' α' ∧ Ext w α w' α' := by
  subst hk
  unfold oStore at ho
  split at ho
  · rename_i n ver e c
    obtain ⟨⟨sz, els⟩, h1, h2⟩ := Option.bind_eq_some_iff.1 ho
    obtain ⟨el, h3, h4⟩ := Option.bind_eq_some_iff.1 h2
    split at h4
    · rename_i hc
      obtain ⟨hlen, hfit, hst⟩ := hc
      cases h4
      cases hp with
      | low _ _ h => cases h
      | ptr _ _ _ _ a ae ha hver hh =>
        obtain ⟨e1, e2, e3, e4, e5⟩ := r.row h1 ha
        obtain ⟨b, off, room, hb, rfl⟩ := hh e1.symm
        have O := e5 b off room hb
        obtain ⟨cs, ct, hcs, hroom⟩ := O.cells
        have hvc := hv.cells hst
        have hul : uv.cells.toList.length = v.cells.length := hvc.1
        have hu1 : ∀ x ∈ uv.cells.toList, x.oneCell' = true := fun x hx => by
          obtain ⟨i, hi, rfl⟩ := List.getElem_of_mem hx
          have hi' : i < v.cells.length := by omega
          exact (hvc.2 i v.cells[i] _ (List.getElem?_eq_getElem hi') (List.getElem?_eq_getElem hi)).2
        have hesz : el.cells.length = sz := O.len e el h3
        have helt : e < els.length := (List.getElem?_eq_some_iff.1 h3).1
        have hle := O.le
        have hin : (e + 1) * sz ≤ room * sz := Nat.mul_le_mul_right _ (by omega)
        rw [Nat.add_mul, Nat.one_mul] at hin
        rw [e2]
        have hbound : off + e * sz + c + uv.cells.toList.length ≤ cs.size := by omega
        have hrun := run_storeCells_at P b (off + e * sz + c) ct uv.cells.toList 0 cs w hcs (by omega) hu1
        simp only [Nat.add_zero] at hrun
        refine ⟨w.setRow b (cs.toList.take (off + e * sz + c) ++ uv.cells.toList ++ cs.toList.drop (off + e * sz + c + uv.cells.toList.length)).toArray, ?_, ?_⟩
        rotate_left
        · have hsl := splice_get cs.toList uv.cells.toList (off + e * sz + c) (hle := by simpa using hbound)
          have key := r.write (cs' := (cs.toList.take (off + e * sz + c) ++ uv.cells.toList ++ cs.toList.drop (off + e * sz + c + uv.cells.toList.length)).toArray) (sz := sz) (off' := off) (room' := room)
            (els := els.set e (reshape el (setCellsA el.cells c v.cells))) ha hb hcs (splice_size _ _ _ (by simpa using hbound)) (ae' := ae) (.inr ha) e2 (by simp; exact e3) hb (by simp; exact hle) hroom ?_
          · have hupd : upd α n ae = α := upd_self ha
            rw [hupd, e1] at key
            exact ⟨α, key⟩
          · intro e' el' he'
            by_cases hee : e = e'
            · subst hee
              rw [List.getElem?_set_self helt] at he'
              cases he'
              have hone : ∀ a ∈ setCellsA el.cells c v.cells, a.one = true := fun a ha => by
                simp only [setCellsA, List.mem_append] at ha
                rcases ha with (ha | ha) | ha
                · obtain ⟨i, hi⟩ := List.mem_iff_getElem?.1 (List.mem_of_mem_take ha)
                  exact O.one e el h3 i a hi
                · obtain ⟨i, hi⟩ := List.mem_iff_getElem?.1 ha
                  exact storable_one hst hi
                · obtain ⟨i, hi⟩ := List.mem_iff_getElem?.1 (List.mem_of_mem_drop ha)
                  exact O.one e el h3 i a hi
              have hl2 : (setCellsA el.cells c v.cells).length = el.cells.length := length_setCellsA (by omega)
              rw [reshape_cells hl2 hone]
              refine ⟨by omega, fun c' a ha => ⟨hone a (List.mem_of_getElem? ha), ?_⟩⟩
              rw [hsl]
              have hs2 := splice_get el.cells v.cells c c' (by omega)
              rw [show setCellsA el.cells c v.cells = el.cells.take c ++ v.cells ++ el.cells.drop (c + v.cells.length) from rfl, hs2] at ha
              by_cases hcc : c ≤ c' ∧ c' < c + v.cells.length
              · rw [if_pos hcc] at ha
                rw [if_pos (by omega), show off + e * sz + c' - (off + e * sz + c) = c' - c by omega]
                have hx : c' - c < uv.cells.toList.length := by omega
                exact ⟨_, List.getElem?_eq_getElem hx, (hvc.2 (c' - c) a _ ha (List.getElem?_eq_getElem hx)).1⟩
              · rw [if_neg hcc] at ha
                rw [if_neg (by omega)]
                obtain ⟨x, hx, hv1, _⟩ := O.lie e el h3 c' a ha
                rw [cell_of_row w b _ cs ct (0, 0) hcs] at hx
                exact ⟨x, by simpa using hx, hv1⟩
            · rw [List.getElem?_set_ne hee] at he'
              refine ⟨O.len e' el' he', fun c' a ha => ⟨O.one e' el' he' c' a ha, ?_⟩⟩
              have hc' : c' < sz := by rw [← O.len e' el' he']; exact (List.getElem?_eq_some_iff.1 ha).1
              have hfar := row_far (sz := sz) (c := c) (c' := c') (k := uv.cells.toList.length) hee (by omega) hc'
              rw [hsl, if_neg (by omega)]
              obtain ⟨x, hx, hv1, _⟩ := O.lie e' el' he' c' a ha
              rw [cell_of_row w b _ cs ct (0, 0) hcs] at hx
              exact ⟨x, by simpa using hx, hv1⟩
        · simp only [Instr.storeAt, Sem.run_bind, sure_ok, Result.andThen_ok, storeVar, run_size' ht, Sem.run_ite]
          rw [if_neg (by simp at hul; omega), hrun]
    · cases h4
  · cases ho

end
end Go.Proofs.Ytihljollfbogeaa

/- The abstract operations on slices are those of the machine: make, literals, parts, append, copy, clear. No condition. -/
namespace Go.Proofs.Ytihljollfbogeaa
open Go Go.RowKit

section
variable {P : Program} {w : World} {α : Al} {base : Nat} {h : Hp}

/-! ### The cells of elements -/
/-- Cells us hold elements ys of k cells. -/
def Hold (w : World) (ok : Nat → Prop) (α : Al) (k : Nat) (ys : List AV) (us : List Value) : Prop :=
  us.length = ys.length * k ∧ (∀ u ∈ us, u.oneCell' = true) ∧ ∀ (j : Nat) (el : AV), ys[j]? = some el → el.cells.length = k ∧ ∀ (c : Nat) (a : AV), el.cells[c]? = some a → ∃ x, us[j * k + c]? = some x ∧ V1 w ok α a x

theorem Hold.mono {w' : World} {ok ok' : Nat → Prop} {α' : Al} {k : Nat} {ys : List AV} {us : List Value} (hh : Hold w ok α k ys us) (hb : ∀ b, ok b → ok' b ∧ w'.heap[b]? = w.heap[b]?) (hl : Later α α') : Hold w' ok' α' k ys us :=
  ⟨hh.1, hh.2.1, fun j el he => ⟨(hh.2.2 j el he).1, fun c a ha => let ⟨x, hx, hv⟩ := (hh.2.2 j el he).2 c a ha; ⟨x, hx, hv.mono hb hl⟩⟩⟩
theorem row_lt {j n c k : Nat} (hj : j < n) (hc : c < k) : j * k + c < n * k := by
  have : (j + 1) * k ≤ n * k := Nat.mul_le_mul_right _ hj
  rw [Nat.add_mul] at this
  omega
theorem row_divmod {i n k : Nat} (h : i < n * k) : i / k < n ∧ i % k < k ∧ i = i / k * k + i % k := by
  have hk : 0 < k := by
    rcases Nat.eq_zero_or_pos k with rfl | h0
    · simp at h
    · exact h0
  exact ⟨(Nat.div_lt_iff_lt_mul hk).2 h, Nat.mod_lt _ hk, by rw [Nat.mul_comm]; exact (Nat.div_add_mod i k).symm⟩

/-- The elements of a slice, read. -/
theorem elems_ok (r : Rel base h w α) {k : Nat} {x : AV} {ys : List AV} {u : Value} (ho : oElems h x = some ys) (hx : V w (okA w α) α x u) (hk : ∀ y ∈ ys, y.cells.length = k) :
    ∃ A n c, u = .slice A n c ∧ n = ys.length ∧ ∃ us, Hold w (okA w α) α k ys us ∧
      ∀ w' : World, (∀ b, b < w.heap.size → w'.heap[b]? = w.heap[b]?) → (Builtin.firstCells k n u).run P w' = .ok us.toArray w' := by
  have hcell : ∀ w' : World, (∀ b, b < w.heap.size → w'.heap[b]? = w.heap[b]?) → ∀ (b o : Nat) (x : Value), w.cell? ⟨b, o, none⟩ = some x → w'.cell? ⟨b, o, none⟩ = some x := fun w' hw b o x hx => by
    have := World.block_lt_of_cell? w _ hx
    unfold World.cell? at hx ⊢
    rw [hw b this]
    exact hx
  -- elements at an address
  have lies : ∀ (A : Option Addr) (cap b o : Nat) (U : Nat → Nat → Value), (∀ j, j < ys.length → A = some ⟨b, o, none⟩) →
      (∀ (j : Nat) (el : AV) (c : Nat) (a : AV), ys[j]? = some el → el.cells[c]? = some a → w.cell? ⟨b, o + (j * k + c), none⟩ = some (U j c) ∧ V1 w (okA w α) α a (U j c) ∧ (U j c).oneCell' = true) →
      ∃ us, Hold w (okA w α) α k ys us ∧ ∀ w' : World, (∀ b, b < w.heap.size → w'.heap[b]? = w.heap[b]?) → (Builtin.firstCells k ys.length (.slice A ys.length cap)).run P w' = .ok us.toArray w' := by
    intro A cap b o U hA hU
    have hl : ((List.range (ys.length * k)).map fun i => U (i / k) (i % k)).length = ys.length * k := by simp
    have hget : ∀ i, i < ys.length * k → ((List.range (ys.length * k)).map fun i => U (i / k) (i % k))[i]? = some (U (i / k) (i % k)) := fun i hi => by simp [hi]
    have hbyk : ∀ i, i < ys.length * k → w.cell? ⟨b, o + i, none⟩ = some (U (i / k) (i % k)) ∧ (U (i / k) (i % k)).oneCell' = true := fun i hi => by
      obtain ⟨h1, h2, h3⟩ := row_divmod hi
      have h4 : ys[i / k].cells.length = k := hk _ (List.getElem_mem _)
      obtain ⟨h5, h6, h7⟩ := hU (i / k) ys[i / k] (i % k) (ys[i / k].cells[i % k]'(by omega)) (List.getElem?_eq_getElem h1) (List.getElem?_eq_getElem (by omega))
      rw [← h3] at h5
      exact ⟨h5, h7⟩
    refine ⟨(List.range (ys.length * k)).map fun i => U (i / k) (i % k), ⟨hl, fun u hu => ?_, fun j el he => ⟨hk _ (List.mem_of_getElem? he), fun c a ha => ?_⟩⟩, fun w' hw => ?_⟩
    · obtain ⟨i, hi, rfl⟩ := List.mem_map.1 hu
      exact (hbyk i (by simpa using hi)).2
    · have hj : j < ys.length := (List.getElem?_eq_some_iff.1 he).1
      have hc : c < k := by rw [← hk _ (List.mem_of_getElem? he)]; exact (List.getElem?_eq_some_iff.1 ha).1
      have hlt := row_lt hj hc
      refine ⟨U j c, ?_, (hU j el c a he ha).2.1⟩
      rw [hget _ hlt]
      have h1 : (j * k + c) / k = j := by rw [Nat.mul_comm, Nat.mul_add_div (by omega), Nat.div_eq_of_lt hc]; omega
      have h2 : (j * k + c) % k = c := by rw [Nat.mul_comm, Nat.mul_add_mod, Nat.mod_eq_of_lt hc]
      rw [h1, h2]
    · rcases Nat.eq_zero_or_pos ys.length with h0 | h0
      · rw [h0]
        cases A with
        | none => simp [Builtin.firstCells]
        | some a => simp [Builtin.firstCells, loadCells, loadCellsFrom]
      · rw [hA 0 h0]
        refine run_firstCells_some (P := P) w' k ys.length ⟨b, o, none⟩ ys.length cap _ hl fun i v hv => ?_
        have hi : i < ys.length * k := by rw [← hl]; exact (List.getElem?_eq_some_iff.1 hv).1
        rw [hget i hi] at hv
        cases hv
        rw [add_at]
        exact hcell w' hw _ _ _ (hbyk i hi).1
  unfold oElems at ho
  split at ho
  · cases ho
    cases hx with
    | low _ _ h =>
      cases h with
      | nl A => exact ⟨A, 0, 0, rfl, rfl, lies A 0 0 0 (fun _ _ => undef) (fun j hj => by simp at hj) (fun j el c a he => by simp at he)⟩
  · cases ho
    have := V.sc_eq hx
    subst this
    rename_i A c
    exact ⟨A, 0, c, rfl, rfl, lies A c 0 0 (fun _ _ => undef) (fun j hj => by simp at hj) (fun j el c a he => by simp at he)⟩
  · cases ho
    cases hx with
    | low _ _ h =>
      cases h with
      | imm _ A cap sz b o U hcap hh hc hv =>
        have hsz : ∀ (j : Nat) (el : AV), ys[j]? = some el → sz = k := fun j el he => by rw [← (hh j el he).1]; exact hk _ (List.mem_of_getElem? he)
        exact ⟨A, _, cap, rfl, rfl, lies A cap b o U (fun j hj => (hh j ys[j] (List.getElem?_eq_getElem hj)).2.1) (fun j el c a he ha => by
          have := hsz j el he; subst this
          exact ⟨hc j el c a he ha, .low _ _ (hv j el c a he ha), (hv j el c a he ha).one⟩)⟩
  · cases ho
    cases hx with
    | low _ _ h =>
      cases h with
      | full _ A sz b o U hh hc hv =>
        have hsz : ∀ (j : Nat) (el : AV), ys[j]? = some el → sz = k := fun j el he => by rw [← (hh j el he).1]; exact hk _ (List.mem_of_getElem? he)
        exact ⟨A, _, _, rfl, rfl, lies A ys.length b o U (fun j hj => (hh j ys[j] (List.getElem?_eq_getElem hj)).2.1) (fun j el c a he ha => by
          have := hsz j el he; subst this
          exact ⟨hc j el c a he ha, .low _ _ (hv j el c a he ha), (hv j el c a he ha).one⟩)⟩
  · rename_i n ver i len
    obtain ⟨⟨sz, els⟩, h1, h2⟩ := Option.bind_eq_some_iff.1 ho
    split at h2
    · rename_i hle
      cases h2
      cases hx with
      | low _ _ h => cases h
      | ref _ _ _ _ A cap ae hl ha hv hh =>
        obtain ⟨e1, e2, e3, e4, e5⟩ := r.row h1 ha
        obtain ⟨g1, g2, g3⟩ := hh e1.symm
        have hlen : ((els.drop i).take len).length = len := by simp at hle ⊢; omega
        refine ⟨A, len, cap, rfl, hlen.symm, ?_⟩
        have hget : ∀ (j : Nat) (el : AV), ((els.drop i).take len)[j]? = some el → els[i + j]? = some el := fun j el he => by
          rw [List.getElem?_take] at he
          split at he
          · rw [List.getElem?_drop] at he; exact he
          · cases he
        cases hblk : ae.blk with
        | none =>
          rw [hblk] at g3
          have h0 : len = 0 := by omega
          have := lies A cap 0 0 (fun _ _ => undef) (fun j hj => by rw [hlen] at hj; omega) (fun j el c a he => by
            have := (List.getElem?_eq_some_iff.1 he).1; rw [hlen] at this; omega)
          rw [hlen] at this
          exact this
        | some z =>
          obtain ⟨b, off, room⟩ := z
          rw [hblk] at g3
          have O := e5 b off room hblk
          have := lies A cap b (off + i * ae.sz) (fun j c => (w.cell? ⟨b, off + i * ae.sz + (j * k + c), none⟩).getD undef) (fun j hj => g3.2 (by rw [hlen] at hj; omega)) (fun j el c a he ha => by
            have hek := hk _ (List.mem_of_getElem? he)
            have hes := O.len (i + j) el (hget j el he)
            obtain ⟨x, hx, hv, h1⟩ := O.lie (i + j) el (hget j el he) c a ha
            have : off + (i + j) * sz + c = off + i * ae.sz + (j * k + c) := by rw [e2, ← hek, hes, Nat.add_mul]; omega
            rw [this] at hx
            simp [hx]
            exact ⟨hv, h1⟩)
          rw [hlen] at this
          exact this
    · cases h2
  · cases ho

/-! ### append -/
theorem append_in_run {t ty e : TypeId} {inf : TypeInfo} {k : Nat} (ht : P.underlying t = some (.slice e)) (hi : P.info? e = some inf) (hk : inf.size = k) {base' : Option Addr} {sLen sCap n : Nat} {x : Value} {A : Option Addr} {c : Nat} (hxe : x = .slice A n c)
    {news : List Value} (hx : (Builtin.firstCells k n x).run P w = .ok news.toArray w) (hle : sLen + n ≤ sCap) {w' : World}
    (hst : ∀ a, base' = some a → (storeCells (a.add (sLen * k)) news).run P w = .ok () w') (hno : base' = none → w' = w) :
    (Builtin.append_ #[t, t] ty #[.slice base' sLen sCap, x]).run P w = .ok (.slice base' (sLen + n) sCap) w' := by
  subst hxe
  cases base' with
  | none =>
    rw [hno rfl]
    simp [Builtin.append_, run_underlying ht, sizeOf, typeInfo, hi, hk, Builtin.lenOf, hle, hx]
  | some a =>
    have := hst a rfl
    simp [Builtin.append_, run_underlying ht, sizeOf, typeInfo, hi, hk, Builtin.lenOf, hle, hx, this]

theorem append_grow_run {t ty e : TypeId} {inf : TypeInfo} {k : Nat} {z : Value} (ht : P.underlying t = some (.slice e)) (hi : P.info? e = some inf) (hk : inf.size = k) (hz : inf.zero = some z) {base' : Option Addr} {sLen sCap n : Nat} {x : Value} {A : Option Addr} {c : Nat} (hxe : x = .slice A n c)
    {news olds : List Value} (hx : (Builtin.firstCells k n x).run P w.drew = .ok news.toArray w.drew) (ho : (Builtin.firstCells k sLen (.slice base' sLen sCap)).run P w.drew = .ok olds.toArray w.drew)
    (hg : sCap < sLen + n) (h63 : ((sLen + n : Nat) : Int) ≤ 9223372036854775807) (hfit : Builtin.nextslicecap (sLen + n) sCap * inf.bytes ≤ 281474976710656) :
    (Builtin.append_ #[t, t] ty #[.slice base' sLen sCap, x]).run P w =
      .ok (.slice (some ⟨w.heap.size, 0, none⟩) (sLen + n) (grownCap w (sLen + n) sCap e))
        (w.drew.alloc (.cells (olds ++ news ++ (Builtin.zeroCells z.cells (grownCap w (sLen + n) sCap e - (sLen + n))).toList).toArray e)) := by
  subst hxe
  have hn : ¬ (sLen + n ≤ sCap) := by omega
  have h63' : ¬ (9223372036854775807 < ((sLen : Int) + (n : Int))) := by omega
  have h48' : ¬ (281474976710656 < Builtin.nextslicecap (sLen + n) sCap * inf.bytes) := by omega
  simp [Builtin.append_, run_underlying ht, sizeOf, typeInfo, zeroValue, hi, hk, hz, Builtin.lenOf, hn, h63', h48', Question.forced, hx, ho, newRow, grownCap]
  congr 2
  apply Array.ext'
  simp

/-- What a type that is appended must be. -/
def rowT (P : Program) (e : TypeId) : Bool :=
  match P.info? e with
  | some i => i.zero.isSome && decide (i.bytes ≤ 65536) && decide (0 < i.size) && (match i.zero with | some z => z.cells.size == i.size | none => false)
  | none => false
theorem rowT_spec {e : TypeId} (h : rowT P e = true) : ∃ inf z, P.info? e = some inf ∧ inf.zero = some z ∧ inf.bytes ≤ 65536 ∧ 0 < inf.size ∧ z.cells.size = inf.size ∧ P.cellsOf e = inf.size := by
  unfold rowT at h
  split at h
  · rename_i inf hi
    simp only [Bool.and_eq_true, decide_eq_true_eq, Option.isSome_iff_exists] at h
    obtain ⟨⟨⟨⟨z, hz⟩, h1⟩, h2⟩, h3⟩ := h
    rw [hz] at h3
    exact ⟨inf, z, hi, hz, h1, h2, by simpa using h3, by simp [Program.cellsOf, hi]⟩
  · cases h

theorem grows_fit {need old bytes : Nat} (h : old < need) (hn : need ≤ LIM) (hb : bytes ≤ 65536) : Builtin.nextslicecap need old * bytes ≤ 281474976710656 := by
  refine growslice_fits h ?_
  have : need * bytes ≤ LIM * 65536 := Nat.mul_le_mul hn hb
  simp only [LIM] at this
  omega

theorem Hold.fit {ok : Nat → Prop} {k : Nat} {ys : List AV} {us rest pre : List Value} {off : Nat} (hh : Hold w ok α k ys us) (hs : ∀ y ∈ ys, y.storable = true) (hp : pre.length = off) : Fit w ok α (pre ++ us ++ rest) off k ys := fun j el he => by
  refine ⟨(hh.2.2 j el he).1, fun c a ha => ⟨storable_one (hs el (List.mem_of_getElem? he)) ha, ?_⟩⟩
  obtain ⟨x, hx, hv⟩ := (hh.2.2 j el he).2 c a ha
  refine ⟨x, ?_, hv⟩
  have hlt := (List.getElem?_eq_some_iff.1 hx).1
  rw [List.append_assoc, List.getElem?_append_right (by omega), List.getElem?_append_left (by omega)]
  rw [show off + j * k + c - pre.length = j * k + c by omega]
  exact hx

theorem Hold.append {ok : Nat → Prop} {k : Nat} {xs ys : List AV} {us vs : List Value} (h1 : Hold w ok α k xs us) (h2 : Hold w ok α k ys vs) : Hold w ok α k (xs ++ ys) (us ++ vs) := by
  refine ⟨by simp [h1.1, h2.1, Nat.add_mul], fun u hu => ?_, fun j el he => ?_⟩
  · rcases List.mem_append.1 hu with hu | hu
    · exact h1.2.1 u hu
    · exact h2.2.1 u hu
  · by_cases hj : j < xs.length
    · rw [List.getElem?_append_left hj] at he
      refine ⟨(h1.2.2 j el he).1, fun c a ha => ?_⟩
      obtain ⟨x, hx, hv⟩ := (h1.2.2 j el he).2 c a ha
      exact ⟨x, by rw [List.getElem?_append_left (List.getElem?_eq_some_iff.1 hx).1]; exact hx, hv⟩
    · rw [List.getElem?_append_right (by omega)] at he
      refine ⟨(h2.2.2 _ el he).1, fun c a ha => ?_⟩
      obtain ⟨x, hx, hv⟩ := (h2.2.2 _ el he).2 c a ha
      refine ⟨x, ?_, hv⟩
      have : us.length + ((j - xs.length) * k + c) = j * k + c := by
        rw [h1.1, ← Nat.add_assoc, ← Nat.add_mul]
        congr 2
        omega
      rw [← this, List.getElem?_append_right (by omega), show us.length + ((j - xs.length) * k + c) - us.length = (j - xs.length) * k + c by omega]
      exact hx

/-- A new row under a name, behind a draw. -/
theorem grow_done (r : Rel base h w α) (hb : base ≤ w.heap.size) {n k : Nat} {els : List AV} {us rest : List Value} {e : TypeId} {cap : Nat} (hh : Hold w (okA w α) α k els us) (hs : ∀ y ∈ els, y.storable = true) (hc : els.length ≤ cap)
    (hr : rest.length = (cap - els.length) * k) :
    Done base w α (.ref n ((h n).1 + 1) 0 els.length) (hset h n ((h n).1 + 1, .row k els)) (.slice (some ⟨w.heap.size, 0, none⟩) els.length cap) (w.drew.alloc (.cells (us ++ rest).toArray e)) := by
  have hfit : Fit w.drew (okA w.drew α) α (us ++ rest) 0 k els := by
    have := (hh.fit (rest := rest) (pre := []) hs rfl)
    simp only [List.nil_append] at this
    intro e el he
    obtain ⟨h1, h2⟩ := this e el he
    exact ⟨h1, fun c a ha => let ⟨h3, x, hx, hv⟩ := h2 c a ha; ⟨h3, x, hx, hv.mono (fun b hb => ⟨hb, rfl⟩) (Later.refl α)⟩⟩
  have hsz : cap * k ≤ (us ++ rest).toArray.size := by
    simp [hh.1, hr]
    rw [← Nat.add_mul]
    exact Nat.le_of_eq (by congr 1; omega)
  obtain ⟨r', e'⟩ := r.drew.new n k cap (els := els) (cs := (us ++ rest).toArray) e hb hc hsz (by simpa using hfit)
  exact ⟨_, r', (Ext.drew w α).trans e', V.of_V1 (.ref _ _ _ _ _ _ _ hc (upd_same _ _ _) (Nat.le_refl _) fun _ => ⟨by simp, by simpa using hc, by simp⟩)⟩

theorem hset_self {n ver : Nat} {b : Blk} (he : h n = (ver, b)) : hset h n (ver, b) = h := by
  funext m
  unfold hset
  split
  · rename_i e; rw [e, he]
  · rfl

/-- Elements written over elements of a row of ours, from element p on. -/
theorem fit_splice {b off room sz p : Nat} {els ys : List AV} {cs : Array Value} {t : TypeId} {news : List Value} (O : Own w (okA w α) α b off room sz els) (hcs : w.heap[b]? = some (.cells cs t (0, 0)))
    (hh : Hold w (okA w α) α sz ys news) (hst : ∀ y ∈ ys, y.storable = true) (hle : off + p * sz + news.length ≤ cs.size) :
    (∀ (e : Nat) (el : AV), e < p ∨ p + ys.length ≤ e → els[e]? = some el → el.cells.length = sz ∧ ∀ (c : Nat) (a : AV), el.cells[c]? = some a → a.one = true ∧
      ∃ x, (cs.toList.take (off + p * sz) ++ news ++ cs.toList.drop (off + p * sz + news.length))[off + e * sz + c]? = some x ∧ V1 w (okA w α) α a x) ∧
    (∀ (j : Nat) (el : AV), ys[j]? = some el → el.cells.length = sz ∧ ∀ (c : Nat) (a : AV), el.cells[c]? = some a → a.one = true ∧
      ∃ x, (cs.toList.take (off + p * sz) ++ news ++ cs.toList.drop (off + p * sz + news.length))[off + (p + j) * sz + c]? = some x ∧ V1 w (okA w α) α a x) := by
  have hsl := splice_get cs.toList news (off + p * sz) (hle := by simpa using hle)
  have hn := hh.1
  refine ⟨fun e el he hel => ⟨O.len e el hel, fun c a ha => ⟨O.one e el hel c a ha, ?_⟩⟩, fun j el hel => ⟨(hh.2.2 j el hel).1, fun c a ha => ⟨storable_one (hst el (List.mem_of_getElem? hel)) ha, ?_⟩⟩⟩
  · have hc : c < sz := by rw [← O.len e el hel]; exact (List.getElem?_eq_some_iff.1 ha).1
    rw [hsl, if_neg ?_]
    · obtain ⟨x, hx, hv1, _⟩ := O.lie e el hel c a ha
      rw [cell_of_row w b _ cs t (0, 0) hcs] at hx
      exact ⟨x, by simpa using hx, hv1⟩
    · rcases he with he | he
      · have : (e + 1) * sz ≤ p * sz := Nat.mul_le_mul_right _ he
        rw [Nat.add_mul] at this
        omega
      · have : (p + ys.length) * sz ≤ e * sz := Nat.mul_le_mul_right _ he
        rw [Nat.add_mul] at this
        omega
  · have hc : c < sz := by rw [← (hh.2.2 j el hel).1]; exact (List.getElem?_eq_some_iff.1 ha).1
    obtain ⟨x, hx, hv⟩ := (hh.2.2 j el hel).2 c a ha
    have hlt := (List.getElem?_eq_some_iff.1 hx).1
    refine ⟨x, ?_, hv⟩
    have e1 : off + (p + j) * sz + c = off + p * sz + (j * sz + c) := by rw [Nat.add_mul]; omega
    rw [hsl, e1, if_pos (by omega), show off + p * sz + (j * sz + c) - (off + p * sz) = j * sz + c by omega]
    exact hx

theorem append_ok (r : Rel base h w α) (hb : base ≤ w.heap.size) {t ty e : TypeId} {n k : Nat} {s x v : AV} {ys : List AV} {h' : Hp} {us ux : Value}
    (ht : P.underlying t = some (.slice e)) (he : rowT P e = true) (hk : k = P.cellsOf e) (hel : oElems h x = some ys) (ho : oAppend h n k s ys = some (v, h')) (hs : V w (okA w α) α s us) (hx : V w (okA w α) α x ux) :
    ∃ r w', (Builtin.append_ #[t, t] ty #[us, ux]).run P w = .ok r w' ∧ Done base w α v h' r w' := by
  obtain ⟨inf, z, hi, hz, hbytes, hpos, hzs, hke⟩ := rowT_spec he
  have hsize : inf.size = k := by omega
  have hkpos : 0 < k := by omega
  unfold oAppend at ho
  split at ho
  case isFalse => cases ho
  rename_i hall
  have hst : ∀ y ∈ ys, y.storable = true := fun y hy => by have := List.all_eq_true.1 hall y hy; simp at this; exact this.1
  have hky : ∀ y ∈ ys, y.cells.length = k := fun y hy => by have := List.all_eq_true.1 hall y hy; simp at this; exact this.2
  obtain ⟨A, m, c, rfl, rfl, news, hold, hread⟩ := elems_ok (P := P) r hel hx hky
  have hr0 := hread w (fun _ _ => rfl)
  have hr1 := hread w.drew (fun _ _ => rfl)
  have zlen : ∀ j, (Builtin.zeroCells z.cells j).toList.length = j * k := fun j => by rw [Array.length_toList, size_zeroCells]; congr 1; omega
  -- grow, from some old elements
  have grow : ∀ (xs : List AV) (olds : List Value) (base' : Option Addr) (sCap nm : Nat), Hold w (okA w α) α k xs olds → (∀ y ∈ xs, y.storable = true) → xs.length + ys.length ≤ LIM → sCap < xs.length + ys.length →
      (Builtin.firstCells k xs.length (.slice base' xs.length sCap)).run P w.drew = .ok olds.toArray w.drew →
      ∃ r w', (Builtin.append_ #[t, t] ty #[.slice base' xs.length sCap, .slice A ys.length c]).run P w = .ok r w' ∧
        Done base w α (.ref nm ((h nm).1 + 1) 0 (xs.length + ys.length)) (hset h nm ((h nm).1 + 1, .row k (xs ++ ys))) r w' := by
    intro xs olds base' sCap nm ho1 hst1 hlim hg hrd
    have hgc := grownCap_ge w (xs.length + ys.length) sCap e
    refine ⟨_, _, append_grow_run ht hi hsize hz rfl hr1 hrd hg (by simp only [LIM] at hlim; omega) (grows_fit hg hlim hbytes), ?_⟩
    have := grow_done r hb (n := nm) (e := e) (cap := grownCap w (xs.length + ys.length) sCap e) (rest := (Builtin.zeroCells z.cells (grownCap w (xs.length + ys.length) sCap e - (xs.length + ys.length))).toList)
      (ho1.append hold) (fun y hy => by rcases List.mem_append.1 hy with hy | hy; exact hst1 y hy; exact hst y hy) (by simpa using hgc) (by rw [zlen]; simp)
    simpa using this
  split at ho
  · -- nil
    split at ho
    · rename_i hnone
      simp only [Bool.and_eq_true, List.isEmpty_iff] at hnone
      have hys := hnone.1
      subst hys
      cases ho
      have hs0 := hs
      have hnews : news = [] := List.eq_nil_of_length_eq_zero (by simpa using hold.1)
      subst hnews
      cases hs with
      | low _ _ hs =>
        cases hs with
        | nl A0 =>
          refine ⟨_, w, append_in_run (w' := w) ht hi hsize rfl hr0 (by simp) (fun a _ => by simp [storeCells]) (fun _ => rfl), Done.same r ?_⟩
          simpa using hs0
    split at ho
    · rename_i hlim
      cases ho
      cases hs with
      | low _ _ hs =>
        cases hs with
        | nl A0 =>
          by_cases h0 : ys.length = 0
          · have hys : ys = [] := List.eq_nil_of_length_eq_zero h0
            subst hys
            have hnews : news = [] := List.eq_nil_of_length_eq_zero (by simpa using hold.1)
            subst hnews
            refine ⟨_, w, append_in_run (w' := w) ht hi hsize rfl hr0 (by simp) (fun a _ => by simp [storeCells]) (fun _ => rfl), ?_⟩
            obtain ⟨r', e'⟩ := r.virt n k
            exact ⟨_, r', e', V.of_V1 (.ref _ _ _ _ _ _ _ (by simp) (upd_same _ _ _) (Nat.le_refl _) fun _ => ⟨by simp, by simp, by simp⟩)⟩
          · have := grow [] [] A0 0 n ⟨by simp, by simp, fun j el he => by simp at he⟩ (by simp) (by simpa using hlim) (by simp; omega) (by
              cases A0 with
              | none => simp [Builtin.firstCells]
              | some a => simp [Builtin.firstCells, loadCells, loadCellsFrom])
            simpa using this
    · cases ho
  · -- without spare
    rename_i xs
    split at ho
    · cases ho
      have hnews : news = [] := List.eq_nil_of_length_eq_zero (by simpa using hold.1)
      subst hnews
      have hs0 := hs
      cases hs with
      | low _ _ hs =>
        cases hs with
        | full _ A0 sz b o U hh hc hv =>
          refine ⟨_, w, append_in_run (w' := w) ht hi hsize rfl hr0 (by simp) (fun a _ => by simp [storeCells]) (fun _ => rfl), Done.same r ?_⟩
          simpa using hs0
    · rename_i hne
      split at ho
      · rename_i hc
        obtain ⟨hlim, hall'⟩ := hc
        cases ho
        have hst1 : ∀ y ∈ xs, y.storable = true := fun y hy => by have := List.all_eq_true.1 hall' y hy; simp at this; exact this.1
        have hk1 : ∀ y ∈ xs, y.cells.length = k := fun y hy => by have := List.all_eq_true.1 hall' y hy; simp at this; exact this.2
        obtain ⟨A1, n1, c1, rfl, rfl, olds, hold1, hread1⟩ := elems_ok (P := P) r (x := .full xs) rfl hs hk1
        have hcap : c1 = xs.length := by cases hs with | low _ _ hs => cases hs; rfl
        subst hcap
        have hpos' : 0 < ys.length := by
          rcases Nat.eq_zero_or_pos ys.length with h0 | h0
          · exact absurd (List.eq_nil_of_length_eq_zero h0) hne
          · exact h0
        exact grow xs olds A1 xs.length n hold1 hst1 hlim (by omega) (hread1 w.drew (fun _ _ => rfl))
      · cases ho
  · -- a row of ours
    rename_i m ver i len
    obtain ⟨⟨sz, els⟩, h1, h2⟩ := Option.bind_eq_some_iff.1 ho
    split at h2
    case isFalse => cases h2
    rename_i hc0
    obtain ⟨hszk, hile⟩ := hc0
    simp only at hszk hile h2
    subst hszk
    have hs0 := hs
    cases hs with
    | low _ _ h => cases h
    | ref _ _ _ _ A0 cap ae hl ha hver hh =>
      obtain ⟨e1, e2, e3, e4, e5⟩ := r.row h1 ha
      obtain ⟨g1, g2, g3⟩ := hh e1.symm
      have hver1 : (h m).1 = ver := by rw [rowAt_spec h1]
      -- written in its place
      have place : ∀ (b off room : Nat), ae.blk = some (b, off, room) → 0 < ys.length → len + ys.length ≤ cap →
          ∃ (cs : Array Value) (ct : TypeId), w.heap[b]? = some (.cells cs ct (0, 0)) ∧ off + (i + len) * sz + news.length ≤ cs.size ∧ off + room * sz ≤ cs.size ∧ A0 = some ⟨b, off + i * sz, none⟩ ∧ i + cap ≤ room ∧
            (Builtin.append_ #[t, t] ty #[.slice A0 len cap, .slice A ys.length c]).run P w = .ok (.slice A0 (len + ys.length) cap)
              (w.setRow b (cs.toList.take (off + (i + len) * sz) ++ news ++ cs.toList.drop (off + (i + len) * sz + news.length)).toArray) := by
        intro b off room hblk hp hfit
        rw [hblk] at g3
        have O := e5 b off room hblk
        obtain ⟨cs, ct, hcs, hroom⟩ := O.cells
        have hA := g3.2 (by omega)
        rw [e2] at hA
        have hb1 : (i + len + ys.length) * sz ≤ room * sz := Nat.mul_le_mul_right _ (by omega)
        rw [Nat.add_mul] at hb1
        have hbound : off + (i + len) * sz + news.length ≤ cs.size := by rw [hold.1]; omega
        refine ⟨cs, ct, hcs, hbound, hroom, hA, g3.1, append_in_run ht hi hsize rfl hr0 hfit (fun a ha => ?_) (fun hn => by rw [hA] at hn; cases hn)⟩
        rw [hA] at ha
        cases ha
        have hst' := run_storeCells_at P b (off + (i + len) * sz) ct news 0 cs w hcs (by omega) hold.2.1
        simp only [Nat.add_zero] at hst'
        rw [add_at, show off + i * sz + len * sz = off + (i + len) * sz by rw [Nat.add_mul]; omega]
        exact hst'
      split at h2
      · -- it fits
        rename_i hfit
        cases h2
        by_cases h0 : ys.length = 0
        · have hys : ys = [] := List.eq_nil_of_length_eq_zero h0
          subst hys
          have hnews : news = [] := List.eq_nil_of_length_eq_zero (by simpa using hold.1)
          subst hnews
          refine ⟨_, w, append_in_run (w' := w) ht hi hsize rfl hr0 (by simpa using hl) (fun a _ => by simp [storeCells]) (fun _ => rfl), ?_⟩
          have : els.take (i + len) ++ [] ++ els.drop (i + len + 0) = els := by simp
          rw [show ([] : List AV).length = 0 from rfl, this, hset_self (rowAt_spec h1)]
          exact Done.same r hs0
        · cases hblk : ae.blk with
          | none => rw [hblk] at g3; rw [e3] at g2; omega
          | some q =>
            obtain ⟨b, off, room⟩ := q
            obtain ⟨cs, ct, hcs, hbound, hroom, hA, hcr, hrun⟩ := place b off room hblk (by omega) (by rw [e3] at g2; omega)
            have O := e5 b off room hblk
            obtain ⟨f1, f2⟩ := fit_splice O hcs hold hst hbound
            refine ⟨_, _, hrun, ?_⟩
            have hlen' : (els.take (i + len) ++ ys ++ els.drop (i + len + ys.length)).length = els.length := by simp; omega
            have key := r.write (cs' := (cs.toList.take (off + (i + len) * sz) ++ news ++ cs.toList.drop (off + (i + len) * sz + news.length)).toArray) (sz := sz) (off' := off) (room' := room)
              (els := els.take (i + len) ++ ys ++ els.drop (i + len + ys.length)) ha hblk hcs (splice_size _ _ _ hbound) (ae' := ae) (.inr ha) e2 (by rw [hlen']; exact e3) hblk (by rw [hlen']; exact O.le) hroom (by
                intro e el hel
                rw [List.append_assoc] at hel
                by_cases q1 : e < i + len
                · rw [List.getElem?_append_left (by simp; omega), List.getElem?_take, if_pos q1] at hel
                  exact f1 e el (.inl q1) hel
                · rw [List.getElem?_append_right (by simp; omega)] at hel
                  have q2 : (els.take (i + len)).length = i + len := by simp; omega
                  rw [q2] at hel
                  by_cases q3 : e - (i + len) < ys.length
                  · rw [List.getElem?_append_left q3] at hel
                    have := f2 _ el hel
                    rw [show i + len + (e - (i + len)) = e by omega] at this
                    exact this
                  · rw [List.getElem?_append_right (by omega), List.getElem?_drop, show i + len + ys.length + (e - (i + len) - ys.length) = e by omega] at hel
                    exact f1 e el (.inr (by omega)) hel)
            have hupd : upd α m ae = α := upd_self ha
            rw [hupd, e1] at key
            refine ⟨α, key.1, key.2, V.of_V1 (.ref _ _ _ _ _ _ ae (by omega) ha hver fun _ => ⟨by omega, g2, ?_⟩)⟩
            rw [hblk] at g3 ⊢
            exact g3
      · rename_i hnofit
        split at h2
        case isFalse => cases h2
        rename_i hlim
        cases h2
        by_cases hcap : len + ys.length ≤ cap
        · -- there was room
          cases hblk : ae.blk with
          | none => rw [hblk] at g3; omega
          | some q =>
            obtain ⟨b, off, room⟩ := q
            obtain ⟨cs, ct, hcs, hbound, hroom, hA, hcr, hrun⟩ := place b off room hblk (by omega) hcap
            have O := e5 b off room hblk
            obtain ⟨f1, f2⟩ := fit_splice O hcs hold hst hbound
            refine ⟨_, _, hrun, ?_⟩
            have q2 : ((els.drop i).take len).length = len := by simp; omega
            have hlen' : ((els.drop i).take len ++ ys).length = len + ys.length := by simp; omega
            have hcap' : off + i * sz + cap * sz ≤ cs.size := by
              have : (i + cap) * sz ≤ room * sz := Nat.mul_le_mul_right _ hcr
              rw [Nat.add_mul] at this
              omega
            have key := r.write (cs' := (cs.toList.take (off + (i + len) * sz) ++ news ++ cs.toList.drop (off + (i + len) * sz + news.length)).toArray) (sz := sz) (off' := off + i * sz) (room' := cap)
              (els := (els.drop i).take len ++ ys) ha hblk hcs (splice_size _ _ _ hbound) (ae' := ⟨ver + 1, sz, len + ys.length, some (b, off + i * sz, cap)⟩) (.inl (by simp [hver1])) rfl hlen'.symm rfl (by rw [hlen']; exact hcap) hcap' (by
                intro e el hel
                by_cases q1 : e < len
                · rw [List.getElem?_append_left (by omega), List.getElem?_take, if_pos q1, List.getElem?_drop] at hel
                  have := f1 (i + e) el (.inl (by omega)) hel
                  rw [show off + (i + e) * sz = off + i * sz + e * sz by rw [Nat.add_mul]; omega] at this
                  exact this
                · rw [List.getElem?_append_right (by omega), q2] at hel
                  have := f2 _ el hel
                  rw [show i + len + (e - len) = i + e by omega, show off + (i + e) * sz = off + i * sz + e * sz by rw [Nat.add_mul]; omega] at this
                  exact this)
            refine ⟨_, key.1, key.2, V.of_V1 (.ref _ _ _ _ _ _ _ hcap (upd_same _ _ _) (Nat.le_refl _) fun _ => ⟨by simp, by simpa using hcap, ?_⟩)⟩
            simp
            intro _
            rw [hA]
        · -- a new row
          have hxs : oElems h (.ref m ver i len) = some ((els.drop i).take len) := by
            simp only [oElems, h1, Option.bind_some, if_pos hile]
          have hst1 : ∀ y ∈ (els.drop i).take len, y.storable = true := fun y hy => by
            obtain ⟨j, hj⟩ := List.mem_iff_getElem?.1 (List.mem_of_mem_drop (List.mem_of_mem_take hy))
            cases hblk : ae.blk with
            | none => rw [e4 hblk] at hj; simp at hj
            | some q =>
              have O := e5 q.1 q.2.1 q.2.2 hblk
              exact List.all_eq_true.2 fun a ha => by
                obtain ⟨c', hc'⟩ := List.mem_iff_getElem?.1 ha
                exact O.one j y hj c' a hc'
          have hk1 : ∀ y ∈ (els.drop i).take len, y.cells.length = sz := fun y hy => by
            obtain ⟨j, hj⟩ := List.mem_iff_getElem?.1 (List.mem_of_mem_drop (List.mem_of_mem_take hy))
            cases hblk : ae.blk with
            | none => rw [e4 hblk] at hj; simp at hj
            | some q => exact (e5 q.1 q.2.1 q.2.2 hblk).len j y hj
          obtain ⟨A1, n1, c1, hA1, rfl, olds, hold1, hread1⟩ := elems_ok (P := P) r hxs hs0 hk1
          have q2 : ((els.drop i).take len).length = len := by simp; omega
          rw [q2] at hA1
          cases hA1
          have hr2 := hread1 w.drew (fun _ _ => rfl)
          rw [q2] at hr2
          have := grow ((els.drop i).take len) olds A0 cap m hold1 hst1 (by rw [q2]; exact hlim) (by rw [q2]; omega) (by rw [q2]; exact hr2)
          rw [q2, hver1] at this
          exact this
  · cases ho

end
end Go.Proofs.Ytihljollfbogeaa

/- The abstract operations on slices, structs, strings and maps are those of the machine: the rest. No condition. -/
namespace Go.Proofs.Ytihljollfbogeaa
open Go Go.RowKit

section
variable {P : Program} {w : World} {α : Al} {base : Nat} {h : Hp}

/-! ### make -/
theorem LIM_nat : LIM = 1073741824 := rfl
theorem mul_cast_le {a b c : Nat} (h : a * b ≤ c) : (a : Int) * (b : Int) ≤ (c : Int) := by
  rw [← Int.natCast_mul]; omega
theorem LIM_64k : LIM * 65536 ≤ 281474976710656 := by decide
theorem LIM_int : (LIM : Int) = 1073741824 := rfl
theorem hold_zeros {ok : Nat → Prop} {k m : Nat} {z : Value} (hk : (ofVal z).cells.length = k) (hs : (ofVal z).storable = true) (hzs : z.cells.size = k) : Hold w ok α k (List.replicate m (ofVal z)) (madeCells z.cells (m * k)).toList := by
  have hv : V w ok α (ofVal z) z := ofVal_ok z
  have hc := hv.cells hs
  have hget : ∀ i, i < m * k → ∃ x, z.cells.toList[i % k]? = some x ∧ (madeCells z.cells (m * k)).toList[i]? = some x := fun i hi => by
    obtain ⟨_, h2, _⟩ := row_divmod hi
    have h3 : i % k < z.cells.size := by omega
    refine ⟨z.cells[i % k], by simp [h3], ?_⟩
    simp [madeCells, hi, hzs]
    rw [getElem!_pos z.cells (i % k) h3]
  refine ⟨by simp [size_madeCells], fun u hu => ?_, fun j el he => ?_⟩
  · obtain ⟨i, hi⟩ := List.mem_iff_getElem?.1 hu
    have hlt := (List.getElem?_eq_some_iff.1 hi).1
    simp [size_madeCells] at hlt
    obtain ⟨x, h1, h2⟩ := hget i hlt
    rw [hi] at h2
    cases h2
    have hx : i % k < (ofVal z).cells.length := by rw [hk]; exact (row_divmod hlt).2.1
    exact (hc.2 (i % k) _ u (List.getElem?_eq_getElem hx) h1).2
  · have hj : j < m := by have := (List.getElem?_eq_some_iff.1 he).1; simpa using this
    have hel : el = ofVal z := by simp [hj] at he; exact he.symm
    subst hel
    refine ⟨hk, fun c a ha => ?_⟩
    have hck : c < k := by rw [← hk]; exact (List.getElem?_eq_some_iff.1 ha).1
    obtain ⟨x, h1, h2⟩ := hget (j * k + c) (row_lt hj hck)
    refine ⟨x, h2, ?_⟩
    have : (j * k + c) % k = c := by rw [Nat.mul_comm, Nat.mul_add_mod, Nat.mod_eq_of_lt hck]
    rw [this] at h1
    exact (hc.2 c a x ha h1).1

theorem zeroCells_made (z : Array Value) (n k : Nat) (h : z.size = k) : Builtin.zeroCells z n = madeCells z (n * k) := by simp [Builtin.zeroCells, madeCells, h]

theorem make_ok (r : Rel base h w α) (hb : base ≤ w.heap.size) {t e : TypeId} {n k : Nat} {x v : AV} {h' : Hp} {u z : Value} (ht : P.underlying t = some (.slice e)) (he : rowT P e = true) (hk : k = P.cellsOf e)
    (hz : (P.info? e).bind (·.zero) = some z) (ho : oMake h n k (ofVal z) x = some (v, h')) (hx : V w (okA w α) α x u) :
    ∃ r w', (Instr.makeSlice t u u).run P w = .ok r w' ∧ Done base w α v h' r w' := by
  obtain ⟨inf, z', hi, hz', hbytes, hpos, hzs, hke⟩ := rowT_spec he
  have hzz : z' = z := by rw [hi] at hz; simp [hz'] at hz; exact hz
  subst hzz
  have hsize : inf.size = k := by omega
  unfold oMake at ho
  split at ho
  · rename_i kk m
    split at ho
    · rename_i hc
      obtain ⟨h0, hlim, hs, hkz⟩ := hc
      cases ho
      rw [hx.sc_eq]
      have hb1 : (inf.bytes : Int) * m ≤ 281474976710656 := by
        obtain ⟨q, rfl⟩ := Int.eq_ofNat_of_zero_le h0
        have : inf.bytes * q ≤ 65536 * LIM := Nat.mul_le_mul hbytes (by omega)
        have h2 := LIM_nat
        have h3 : inf.bytes * q ≤ 281474976710656 := by omega
        exact mul_cast_le h3
      have hrun := run_make (P := P) w t e inf z' ht hi hz' kk kk m m h0 (Int.le_refl _) hb1 (by have := LIM_int; omega)
      refine ⟨_, _, hrun, ?_⟩
      have hh := hold_zeros (w := w) (ok := okA w α) (α := α) (m := m.toNat) hkz hs (by omega)
      have hfit := hh.fit (rest := []) (pre := []) (fun y hy => by rw [List.eq_of_mem_replicate hy]; exact hs) rfl
      simp only [List.nil_append, List.append_nil] at hfit
      rw [hsize]
      obtain ⟨r', e'⟩ := r.new n k m.toNat (els := List.replicate m.toNat (ofVal z')) (cs := madeCells z'.cells (m.toNat * k)) e hb (by simp) (by simp [size_madeCells]) (by simpa using hfit)
      exact ⟨_, r', e', V.of_V1 (.ref _ _ _ _ _ _ _ (Nat.le_refl _) (upd_same _ _ _) (Nat.le_refl _) fun _ => ⟨by simp, by simp, by simp⟩)⟩
    · cases ho
  · cases ho

/-! ### append(s, make([]T, n)...) -/
theorem appendZ_ok (r : Rel base h w α) (hb : base ≤ w.heap.size) {t tx ty e : TypeId} {kx : IntKind} {n k : Nat} {v : AV} {m : Int} {h' : Hp} {us z : Value}
    (ht : P.underlying t = some (.slice e)) (htx : P.underlying tx = some (.int kx)) (he : rowT P e = true) (hk : k = P.cellsOf e) (hz : (P.info? e).bind (·.zero) = some z)
    (hm : 0 < m) (hml : m ≤ LIM) (ho : oAppend h n k .nl (List.replicate m.toNat (ofVal z)) = some (v, h')) (hs : V w (okA w α) α .nl us) :
    ∃ r w', (Builtin.append_ #[t, tx] ty #[us, .int .i64 m]).run P w = .ok r w' ∧ Done base w α v h' r w' := by
  obtain ⟨inf, z', hi, hz', hbytes, hpos, hzs, hke⟩ := rowT_spec he
  have hzz : z' = z := by rw [hi] at hz; simp [hz'] at hz; exact hz
  subst hzz
  have hsize : inf.size = k := by omega
  unfold oAppend at ho
  split at ho
  case isFalse => cases ho
  rename_i hall
  obtain ⟨q, rfl⟩ := Int.eq_ofNat_of_zero_le (Int.le_of_lt hm)
  simp only [Int.toNat_natCast] at ho hall ⊢
  have hq : 0 < q := by omega
  have hall0 := List.all_eq_true.1 hall (ofVal z') (by simp [List.mem_replicate]; omega)
  simp at hall0
  simp only [List.length_replicate] at ho
  rw [if_neg (by simp; omega)] at ho
  split at ho
  · rename_i hlim
    cases ho
    cases hs with
    | low _ _ hs =>
      cases hs with
      | nl A0 =>
        have hw : IntKind.i64.wrap (q : Int) = q := by rw [IntKind.wrap_i64]; have := LIM_int; omega
        have hgc := grownCap_ge w (0 + q) 0 e
        have hfc : (Builtin.firstCells k 0 (.slice A0 0 0)).run P w.drew = .ok #[] w.drew := by
          cases A0 with
          | none => simp [Builtin.firstCells]
          | some a => simp [Builtin.firstCells, loadCells, loadCellsFrom]
        have hlim' : q ≤ 1073741824 := hlim
        clear hml
        have g1 : ¬ ((q : Int) < 0) := by omega
        have hb2 : q * inf.bytes ≤ LIM * 65536 := Nat.mul_le_mul (show q ≤ LIM by omega) hbytes
        have g2 : ¬ (281474976710656 < (q : Int) * (inf.bytes : Int)) := by
          exact Int.not_lt.2 (mul_cast_le (Nat.le_trans hb2 LIM_64k))
        have g3 : q ≠ 0 := by omega
        have g4 : ¬ (9223372036854775807 < (q : Int)) := by have := LIM_int; omega
        have g5 : ¬ (281474976710656 < Builtin.nextslicecap q 0 * inf.bytes) := by
          have := grows_fit (old := 0) hq hlim hbytes
          omega
        have g6 : ¬ (q * k = 0) := by
          rw [Nat.mul_eq_zero]; omega
        have hcap : q ≤ grownCap w q 0 e := by simpa using hgc
        refine ⟨.slice (some ⟨w.heap.size, 0, none⟩) q (grownCap w q 0 e), w.drew.alloc (.cells (Builtin.zeroCells z'.cells q ++ Builtin.zeroCells z'.cells (grownCap w q 0 e - q)) e), ?_, ?_⟩
        · simp [Builtin.append_, run_underlying ht, run_underlying htx, asInt, asIntOf, hw, g1, typeInfo, hi, g2, sizeOf, hsize, g3, g4, g5, g6, Question.forced, hfc, zeroValue, hz', newRow, grownCap]
        · have hh := hold_zeros (w := w) (ok := okA w α) (α := α) (m := q) hall0.2 hall0.1 (by omega)
          have := grow_done r hb (n := n) (e := e) (cap := grownCap w q 0 e) (rest := (Builtin.zeroCells z'.cells (grownCap w q 0 e - q)).toList) hh
            (fun y hy => by rw [List.eq_of_mem_replicate hy]; exact hall0.1) (by simpa using hcap) (by rw [Array.length_toList, size_zeroCells, List.length_replicate]; congr 1; omega)
          simp only [List.length_replicate] at this
          have e1 : ((madeCells z'.cells (q * k)).toList ++ (Builtin.zeroCells z'.cells (grownCap w q 0 e - q)).toList).toArray = Builtin.zeroCells z'.cells q ++ Builtin.zeroCells z'.cells (grownCap w q 0 e - q) := by
            rw [zeroCells_made z'.cells q k (by omega)]
            apply Array.ext'
            simp
          rw [e1] at this
          exact this
  · cases ho

end
end Go.Proofs.Ytihljollfbogeaa

/- The abstract operations on literals, copies, parts of slices, strings and maps are those of the machine. No condition. -/
namespace Go.Proofs.Ytihljollfbogeaa
open Go Go.RowKit

section
variable {P : Program} {w : World} {α : Al} {base : Nat} {h : Hp}

/-- A new block that has no name. -/
theorem Rel.fresh (r : Rel base h w α) (ob : Obj) : Rel base h (w.alloc ob) α ∧ Ext w α (w.alloc ob) α := by
  have hbF : ∀ k, free w α k → free (w.alloc ob) α k ∧ (w.alloc ob).heap[k]? = w.heap[k]? := fun k hk => ⟨⟨by have := hk.1; simp; omega, hk.2⟩, heap_alloc_old w _ k hk.1⟩
  have hb := okA_of_free hbF rfl
  refine ⟨⟨r.ver, fun m ae ha => ?_, r.inj, fun n ae b o r' h1 h2 => ?_, r.grant⟩, rfl, rfl, rfl, by simp, hbF, Later.refl α, rfl⟩
  · exact (r.at_ m ae ha).mono (fun b o r' hb' => heap_alloc_old w _ b (r.base m ae b o r' ha hb').2) hb (Later.refl α)
  · have := r.base n ae b o r' h1 h2
    exact ⟨this.1, by simp; omega⟩

/-! ### Literals -/
theorem foldset_list : ∀ (l : List Value) (s off : Nat) (cells : Array Value), off + s + l.length ≤ cells.size →
    (l.zipIdx s).foldl (fun cs (x : Value × Nat) => cs.setIfInBounds (off + x.2) x.1) cells = (cells.toList.take (off + s) ++ l ++ cells.toList.drop (off + s + l.length)).toArray
  | [], s, off, cells, _ => by simp
  | v :: l, s, off, cells, hle => by
    have ih := foldset_list l (s + 1) off (cells.setIfInBounds (off + s) v) (by simp at hle ⊢; omega)
    simp only [List.zipIdx_cons, List.foldl_cons]
    rw [ih]
    have e := list_seg_step cells.toList (off + s) v l (by simp at hle ⊢; omega)
    congr 1
    simpa [Array.toList_setIfInBounds, Nat.add_assoc] using e
theorem foldset (u : Array Value) (off : Nat) (cells : Array Value) (hle : off + u.size ≤ cells.size) :
    u.zipIdx.foldl (fun cs (c, j) => cs.setIfInBounds (off + j) c) cells = (cells.toList.take off ++ u.toList ++ cells.toList.drop (off + u.size)).toArray := by
  have := foldset_list u.toList 0 off cells (by simpa using hle)
  rw [← Array.foldl_toList, Array.toList_zipIdx]
  simpa using this

theorem fill_seq (k : Nat) : ∀ (us : List Value) (m : Nat) (pre zs : List Value), pre.length = m * k → zs.length = us.length * k → (∀ u ∈ us, u.cells.size = k) →
    Instr.fill (fun i => some (i * k, k)) (pre ++ zs).toArray ((List.range' m us.length).zip us) = some (pre ++ us.flatMap (fun u => u.cells.toList)).toArray
  | [], m, pre, zs, _, hz, _ => by
    have : zs = [] := List.eq_nil_of_length_eq_zero (by simpa using hz)
    subst this
    simp [Instr.fill]
  | u :: us, m, pre, zs, hp, hz, hk => by
    have hu := hk u (by simp)
    simp only [List.length_cons, List.range'_succ, List.zip_cons_cons, Instr.fill]
    have h1 : ¬ (u.cells.size ≠ k) := by simp [hu]
    have hz' : zs.length = us.length * k + k := by rw [hz]; simp [Nat.add_mul]
    have h2 : ¬ (m * k + u.cells.size > (pre ++ zs).toArray.size) := by simp; omega
    simp only [h1, h2, decide_false, Bool.or_self, Bool.false_eq_true, if_false]
    rw [foldset _ _ _ (by simp; omega)]
    have e1 : (pre ++ zs).take (m * k) = pre := by rw [← hp]; simp
    have e0 : (pre ++ zs).drop (m * k) = zs := by rw [← hp]; simp
    have e2 : (pre ++ zs).drop (m * k + u.cells.size) = zs.drop k := by rw [hu, ← List.drop_drop, e0]
    have ih := fill_seq k us (m + 1) (pre ++ u.cells.toList) (zs.drop k) (by simp [hp, hu, Nat.add_mul]) (by simp [hz']) (fun x hx => hk x (by simp [hx]))
    rw [show (pre ++ zs).toArray.toList = pre ++ zs from rfl, e1, e2, ih]
    simp

theorem flat_get (k : Nat) : ∀ (us : List Value) (j c : Nat), (∀ u ∈ us, u.cells.size = k) → c < k → (us.flatMap (fun u => u.cells.toList))[j * k + c]? = (us[j]?).bind fun u => u.cells.toList[c]?
  | [], j, c, _, _ => by simp
  | u :: us, 0, c, hk, hc => by
    have := hk u (by simp)
    simp only [Nat.zero_mul, Nat.zero_add, List.flatMap_cons, List.getElem?_cons_zero, Option.bind_some]
    rw [List.getElem?_append_left (by simp; omega)]
  | u :: us, j + 1, c, hk, hc => by
    have hu := hk u (by simp)
    have := flat_get k us j c (fun x hx => hk x (by simp [hx])) hc
    simp only [List.flatMap_cons, List.getElem?_cons_succ]
    rw [List.getElem?_append_right (by simp [hu, Nat.add_mul]; omega)]
    rw [show (j + 1) * k + c - u.cells.toList.length = j * k + c by simp [hu, Nat.add_mul]; omega]
    exact this

/-- Elements in a row, each with its value. -/
theorem hold_flat {ok : Nat → Prop} {k : Nat} {vs : List AV} {us : List Value} (hl : us.length = vs.length) (hs : ∀ v ∈ vs, v.storable = true) (hk : ∀ v ∈ vs, v.cells.length = k)
    (hv : ∀ (i : Nat) (v : AV) (u : Value), vs[i]? = some v → us[i]? = some u → V w ok α v u) : (∀ u ∈ us, u.cells.size = k) ∧ Hold w ok α k vs (us.flatMap fun u => u.cells.toList) := by
  have hsz : ∀ u ∈ us, u.cells.size = k := fun u hu => by
    obtain ⟨i, hi⟩ := List.mem_iff_getElem?.1 hu
    have hlt := (List.getElem?_eq_some_iff.1 hi).1
    have hvi : vs[i]? = some vs[i] := List.getElem?_eq_getElem (by omega)
    have := ((hv i _ u hvi hi).cells (hs _ (List.mem_of_getElem? hvi))).1
    rw [hk _ (List.mem_of_getElem? hvi)] at this
    simpa using this
  refine ⟨hsz, ?_, fun x hx => ?_, fun j el he => ⟨hk el (List.mem_of_getElem? he), fun c a ha => ?_⟩⟩
  · have : ∀ l : List Value, (∀ u ∈ l, u.cells.size = k) → (l.flatMap fun u => u.cells.toList).length = l.length * k := by
      intro l
      induction l with
      | nil => simp
      | cons u l ih => intro hh; simp only [List.flatMap_cons, List.length_append, ih (fun x hx => hh x (by simp [hx])), List.length_cons, Nat.add_mul]; have := hh u (by simp); simp [this]; omega
    rw [this us hsz, hl]
  · obtain ⟨u, hu, hx'⟩ := List.mem_flatMap.1 hx
    obtain ⟨i, hi⟩ := List.mem_iff_getElem?.1 hu
    have hlt := (List.getElem?_eq_some_iff.1 hi).1
    have hvi : vs[i]? = some vs[i] := List.getElem?_eq_getElem (by omega)
    have hc := (hv i _ u hvi hi).cells (hs _ (List.mem_of_getElem? hvi))
    obtain ⟨q, hq⟩ := List.mem_iff_getElem?.1 hx'
    have hqlt := (List.getElem?_eq_some_iff.1 hq).1
    exact (hc.2 q _ x (List.getElem?_eq_getElem (by rw [← hc.1]; exact hqlt)) hq).2
  · have hj := (List.getElem?_eq_some_iff.1 he).1
    have huj : us[j]? = some us[j] := List.getElem?_eq_getElem (by omega)
    have hc := (hv j el _ he huj).cells (hs el (List.mem_of_getElem? he))
    have hck : c < k := by rw [← hk el (List.mem_of_getElem? he)]; exact (List.getElem?_eq_some_iff.1 ha).1
    have hcu : us[j].cells.toList[c]? = some (us[j].cells.toList[c]'(by rw [hc.1, hk el (List.mem_of_getElem? he)]; exact hck)) := List.getElem?_eq_getElem _
    refine ⟨_, ?_, (hc.2 c a _ ha hcu).1⟩
    rw [flat_get k us j c hsz hck, huj, Option.bind_some, hcu]

theorem pure1_V0 {ok : Nat → Prop} {a : AV} {u : Value} (hp : a.pure1 = true) (hv : V1 w ok α a u) : V0 w ok (norm1 a) u := by
  cases hv with
  | low _ _ h =>
    cases h with
    | nl A => exact V0.imm [] A 0 0 0 0 (fun _ _ => undef) (by simp) (fun j el h => by simp at h) (fun j el c a h => by simp at h) (fun j el c a h => by simp at h)
    | sc _ h => exact .sc _ h
    | imm xs A cap sz b o U h1 h2 h3 h4 => exact .imm xs A cap sz b o U h1 h2 h3 h4
    | full => simp [AV.pure1] at hp
    | ipt => simp [AV.pure1] at hp
  | _ => simp [AV.pure1] at hp
theorem norm_cells {v : AV} (hs : v.storable = true) : (norm v).cells = v.cells.map norm1 := by
  cases v <;> first | rfl | (simp [AV.storable, AV.cells, AV.one] at hs)
theorem norm_get {v : AV} (hs : v.storable = true) {c : Nat} {a : AV} (h : (norm v).cells[c]? = some a) : ∃ a', v.cells[c]? = some a' ∧ a = norm1 a' := by
  rw [norm_cells hs, List.getElem?_map] at h
  obtain ⟨a', h1, h2⟩ := Option.map_eq_some_iff.1 h
  exact ⟨a', h1, h2.symm⟩

theorem lit_ok (r : Rel base h w α) (hb : base ≤ w.heap.size) {t e : TypeId} {n k len : Nat} {vs : List AV} {us : List Value} {v : AV} {h' : Hp} (ht : P.underlying t = some (.slice e)) (he : rowT P e = true) (hk : k = P.cellsOf e)
    (ho : oLit h n k vs = some (v, h')) (hl : us.length = vs.length) (hlen : vs.length = len) (hbig : len * k ≤ 16777216) (hv : ∀ (i : Nat) (a : AV) (u : Value), vs[i]? = some a → us[i]? = some u → V w (okA w α) α a u) :
    ∃ r w', (Instr.buildSlice t len ((List.range len).zip us).toArray).run P w = .ok r w' ∧ Done base w α v h' r w' := by
  obtain ⟨inf, z, hi, hz, hbytes, hpos, hzs, hke⟩ := rowT_spec he
  have hsize : inf.size = k := by omega
  unfold oLit at ho
  split at ho
  case isFalse => cases ho
  rename_i hall
  have hst : ∀ y ∈ vs, y.storable = true := fun y hy => by have := List.all_eq_true.1 hall y hy; simp at this; exact this.1
  have hkv : ∀ y ∈ vs, y.cells.length = k := fun y hy => by have := List.all_eq_true.1 hall y hy; simp at this; exact this.2
  obtain ⟨husz, hh⟩ := hold_flat hl hst hkv hv
  have hrun : (Instr.buildSlice t len ((List.range len).zip us).toArray).run P w = .ok (.slice (some ⟨w.heap.size, 0, none⟩) len len) (w.alloc (.cells (us.flatMap fun u => u.cells.toList).toArray e)) := by
    have hf := fill_seq k us 0 [] (madeCells z.cells (len * k)).toList (by simp) (by simp [size_madeCells]; rw [hl, hlen]) husz
    simp only [List.nil_append, Array.toArray_toList] at hf
    rw [← List.range_eq_range', hl, hlen] at hf
    have hbig' : ¬ (16777216 < len * k) := by omega
    by_cases h0 : len * k = 0
    · have hmade : (madeCells z.cells (len * k)) = #[] := by rw [h0]; simp [madeCells]
      rw [hmade] at hf
      simp [Instr.buildSlice, run_underlying ht, sizeOf, typeInfo, hi, hsize, h0, newRow]
      rw [show Array.map (fun _ => (default : Value)) (Array.range 0) = #[] by simp, hf]
      simp
    · simp only [madeCells] at hf
      simp [Instr.buildSlice, run_underlying ht, sizeOf, typeInfo, hi, hsize, hbig', h0, zeroValue, hz, newRow]
      rw [hf]
      simp
  refine ⟨_, _, hrun, ?_⟩
  obtain ⟨rf, ef⟩ := r.fresh (.cells (us.flatMap fun u => u.cells.toList).toArray e)
  cases vs with
  | nil =>
    simp at ho
    obtain ⟨rfl, rfl⟩ := ho
    have hlen0 : len = 0 := by simpa using hlen.symm
    subst hlen0
    exact ⟨α, rf, ef, V.of_V1 (.low _ _ (.nl _))⟩
  | cons v0 vs0 =>
    simp only at ho
    split at ho
    · rename_i hpure
      cases ho
      refine ⟨α, rf, ef, V.of_V1 (.low _ _ ?_)⟩
      have hok : okA (w.alloc (.cells (us.flatMap fun u => u.cells.toList).toArray e)) α w.heap.size := ⟨⟨by simp, r.grant _ hb⟩, fun n' ae o r' ha hb => absurd (r.base n' ae _ o r' ha hb).2 (by omega)⟩
      have hgc : ∀ (j : Nat) (el : AV) (c : Nat) (a : AV), ((v0 :: vs0).map norm)[j]? = some el → el.cells[c]? = some a → ∃ el' a', (v0 :: vs0)[j]? = some el' ∧ el'.cells[c]? = some a' ∧ a = norm1 a' := fun j el c a he ha => by
        rw [List.getElem?_map] at he
        obtain ⟨el', h1, rfl⟩ := Option.map_eq_some_iff.1 he
        obtain ⟨a', h2, h3⟩ := norm_get (hst el' (List.mem_of_getElem? h1)) ha
        exact ⟨el', a', h1, h2, h3⟩
      have := V0.full (w := w.alloc (.cells (us.flatMap fun u => u.cells.toList).toArray e)) (ok := okA (w.alloc (.cells (us.flatMap fun u => u.cells.toList).toArray e)) α)
        ((v0 :: vs0).map norm) (some ⟨w.heap.size, 0, none⟩) k w.heap.size 0 (fun j c => ((us.flatMap fun u => u.cells.toList)[j * k + c]?).getD undef)
        (fun j el he => by
          rw [List.getElem?_map] at he
          obtain ⟨el', h1, rfl⟩ := Option.map_eq_some_iff.1 he
          refine ⟨?_, rfl, hok⟩
          rw [norm_cells (hst el' (List.mem_of_getElem? h1)), List.length_map]
          exact hkv el' (List.mem_of_getElem? h1))
        (fun j el c a he ha => by
          obtain ⟨el', a', h1, h2, h3⟩ := hgc j el c a he ha
          obtain ⟨x, hx, _⟩ := (hh.2.2 j el' h1).2 c a' h2
          unfold World.cell?
          rw [heap_alloc_new]
          simp [hx])
        (fun j el c a he ha => by
          obtain ⟨el', a', h1, h2, h3⟩ := hgc j el c a he ha
          obtain ⟨x, hx, hv1⟩ := (hh.2.2 j el' h1).2 c a' h2
          rw [hx, h3]
          have hp1 : a'.pure1 = true := List.all_eq_true.1 (List.all_eq_true.1 hpure el' (List.mem_of_getElem? h1)) a' (List.mem_of_getElem? h2)
          exact (pure1_V0 hp1 hv1).mono ef.keep)
      simp only [List.length_map] at this
      rw [hlen] at this
      exact this
    · cases ho
      have hfit := hh.fit (rest := []) (pre := []) hst rfl
      simp only [List.nil_append, List.append_nil] at hfit
      obtain ⟨r', e'⟩ := r.new n k (v0 :: vs0).length (els := v0 :: vs0) (cs := (us.flatMap fun u => u.cells.toList).toArray) e hb (Nat.le_refl _) (by simp only [List.size_toArray]; rw [hh.1]; exact Nat.le_refl _) (by simpa using hfit)
      rw [← hlen]
      exact ⟨_, r', e', V.of_V1 (.ref _ _ _ _ _ _ _ (Nat.le_refl _) (upd_same _ _ _) (Nat.le_refl _) fun _ => ⟨by simp, by simp, by simp⟩)⟩

end
end Go.Proofs.Ytihljollfbogeaa
