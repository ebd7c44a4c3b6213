/- The abstract machine: abstract values, own blocks with names, and what each operation does to them. No condition. -/
import Derived.OrdersIn
import Derived.RangeFuncIn
import Derived.Below
import Derived.KernelRfl
namespace Go.Proofs.Ytihljollfbogeaa
open Go Go.RowKit

/-- An abstract value. -/
inductive AV where
  /-- a value that needs no memory -/
  | sc (v : Value)
  /-- a struct or an array: its cells -/
  | agg (cs : List AV)
  | tup (vs : List AV)
  /-- an empty slice without capacity -/
  | nl
  /-- a slice that nobody of us writes: its elements -/
  | imm (xs : List AV)
  /-- the same, without spare capacity -/
  | full (xs : List AV)
  /-- a slice on a block of our own -/
  | ref (n ver i len : Nat)
  /-- the address of a cell of a block of our own: element e, cell c -/
  | ptr (n ver e c : Nat)
  /-- the address of cell c of some cells that nobody of us writes -/
  | ipt (cs : List AV) (c : Nat)
  | fn (f : FuncId) (first caps : List AV)
  | mp (n ver : Nat)
  | junk

inductive Blk where
  | dead
  | row (sz : Nat) (els : List AV)
  | map (es : List (Int × AV))

abbrev Env := Nat → AV
abbrev Hp := Nat → Nat × Blk

def eset (e : Env) (d : Nat) (v : AV) : Env := fun t => if t = d then v else e t
def edst (e : Env) (d : Option Nat) (v : AV) : Env := match d with | some d => eset e d v | none => e
def hset (h : Hp) (n : Nat) (x : Nat × Blk) : Hp := fun m => if m = n then x else h m
def hemp : Hp := fun _ => (0, .dead)

def AV.cells : AV → List AV
  | .agg cs => cs
  | v => [v]

/-- What may stand in one cell. -/
def AV.one : AV → Bool
  | .agg _ | .tup _ | .junk => false
  | _ => true

/-- A value that can be stored: no tuple, nothing unknown. -/
def AV.storable (v : AV) : Bool := v.cells.all AV.one

/-- A value that holds no address of our own blocks. -/
def AV.pure1 : AV → Bool
  | .sc _ | .nl | .imm _ => true
  | _ => false
def AV.pure (v : AV) : Bool := v.cells.all AV.pure1

/-- The empty slice in the one form that results and elements have. -/
def norm1 : AV → AV
  | .nl => .imm []
  | v => v
def norm : AV → AV
  | .agg cs => .agg (cs.map norm1)
  | v => norm1 v

def ofCell : Value → AV
  | .slice none 0 0 => .nl
  | .int k n => .sc (.int k n)
  | .bool b => .sc (.bool b)
  | .string s => .sc (.string s)
  | .pointer none => .sc (.pointer none)
  | .nilFunc => .sc .nilFunc
  | .nilIface => .sc .nilIface
  | _ => .junk
def ofVal : Value → AV
  | .agg cs => if cs.toList.all Value.oneCell' then .agg (cs.toList.map ofCell) else .junk
  | v => ofCell v

/-! ### Operations -/
def oPick (c a b : AV) : Option AV :=
  match c with
  | .sc (.bool t) => some (if t then a else b)
  | _ => none

def oNot : AV → Option AV
  | .sc (.bool b) => some (.sc (.bool !b))
  | _ => none

def binInt (op : BinOp) (k : IntKind) (a b : Int) : Option Value :=
  match op with
  | .add => some (.int k (k.wrap (a + b)))
  | .sub => some (.int k (k.wrap (a - b)))
  | .mul => some (.int k (k.wrap (a * b)))
  | .rem => if b = 0 then none else some (.int k (a.tmod b))
  | .eql => some (.bool (a == b))
  | .neq => some (.bool (a != b))
  | .lss => some (.bool (decide (a < b)))
  | .leq => some (.bool (decide (a ≤ b)))
  | .gtr => some (.bool (decide (a > b)))
  | .geq => some (.bool (decide (a ≥ b)))
  | _ => none

def sameCells : List AV → List AV → Option Bool
  | [], [] => some true
  | .sc (.int k a) :: xs, .sc (.int k' b) :: ys => if k = k' then (sameCells xs ys).map fun r => a == b && r else none
  | _, _ => none

/-- A type whose values are equal if their cells, whole numbers, are: an array of whole numbers, or a struct of whole numbers. -/
def flatEq (P : Program) (t : TypeId) : Bool :=
  !P.eqGuardType P.depth t &&
  match P.underlying t with
  | some (.array n e) => (match P.underlying e with | some (.int _) => true | _ => false) && (match P.info? e with | some i => i.size == 1 | none => false) && (match P.info? t with | some i => i.size == n | none => false)
  | some (.struct fs) => !P.stoodInHeld t && fs.toList.zipIdx.all (fun (f, i) => f.name != "_" && f.offset == i && (match P.underlying f.type with | some (.int _) => true | _ => false)) && (match P.info? t with | some i => i.size == fs.size | none => false)
  | _ => false

def oBin (P : Program) (op : BinOp) (t : TypeId) (x y : AV) : Option AV :=
  match x, y with
  | .sc (.int k a), .sc (.int k' b) => if k = k' then (binInt op k a b).map .sc else none
  | .sc (.bool a), .sc (.bool b) =>
    match P.underlying t, op with
    | some .bool, .eql => some (.sc (.bool (a == b)))
    | some .bool, .neq => some (.sc (.bool (!(a == b))))
    | _, _ => none
  | .sc (.string a), .sc (.string b) =>
    match op with
    | .eql => some (.sc (.bool (a.toList == b.toList)))
    | .neq => some (.sc (.bool !(a.toList == b.toList)))
    | _ => none
  | .agg a, .agg b =>
    if flatEq P t && decide (a.length = P.cellsOf t) then
      match op with
      | .eql => (sameCells a b).map fun r => .sc (.bool r)
      | .neq => (sameCells a b).map fun r => .sc (.bool (!r))
      | _ => none
    else none
  | _, _ => none

def oNil : AV → Option AV
  | .ptr n v e c => some (.ptr n v e c)
  | .ipt cs c => some (.ipt cs c)
  | .fn f a b => some (.fn f a b)
  | _ => none

/-- Cells c, .., c + k - 1, as a value of a type. -/
def partA (agg : Bool) (k c : Nat) (cs : List AV) : Option AV :=
  if agg then (if c + k ≤ cs.length then some (.agg ((cs.drop c).take k)) else none) else cs[c]?

/-- The element that an address leads to. -/
def rowAt? (h : Hp) (n ver : Nat) : Option (Nat × List AV) :=
  match h n with
  | (v, .row sz els) => if v = ver then some (sz, els) else none
  | _ => none

def oLoad (agg : Bool) (k : Nat) (h : Hp) : AV → Option AV
  | .ptr n ver e c => (rowAt? h n ver).bind fun r => (r.2[e]?).bind fun el => partA agg k c el.cells
  | .ipt cs c => partA agg k c cs
  | _ => none

/-- Cells written over cells, from place c on. -/
def setCellsA (cs : List AV) (c : Nat) (new : List AV) : List AV := cs.take c ++ new ++ cs.drop (c + new.length)
/-- The element with other cells. -/
def reshape (old : AV) (cs : List AV) : AV :=
  match old with
  | .agg _ => .agg cs
  | _ => cs.headD .junk

def oStore (k : Nat) (h : Hp) (p v : AV) : Option Hp :=
  match p with
  | .ptr n ver e c => (rowAt? h n ver).bind fun r => (r.2[e]?).bind fun el =>
      if v.cells.length = k ∧ c + k ≤ el.cells.length ∧ v.storable = true then some (hset h n (ver, .row r.1 (r.2.set e (reshape el (setCellsA el.cells c v.cells))))) else none
  | _ => none

/-- A new block of one element. -/
def oNew (h : Hp) (n : Nat) (v : AV) : Option (AV × Hp) :=
  if v.storable = true then some (.ptr n ((h n).1 + 1) 0 0, hset h n ((h n).1 + 1, .row v.cells.length [v])) else none

def oFieldAddr (off : Nat) : AV → Option AV
  | .ptr n v e c => some (.ptr n v e (c + off))
  | .ipt cs c => some (.ipt cs (c + off))
  | _ => none

def asNum : AV → Option Int
  | .sc (.int _ i) => some i
  | _ => none

/-- &xs[i], xs a slice with elements of k cells. -/
def oIndexS (k : Nat) (h : Hp) (x i : AV) : Option AV :=
  match x with
  | .imm xs | .full xs => (asNum i).bind fun i => if 0 ≤ i ∧ i < xs.length then (xs[i.toNat]?).bind fun el => if el.cells.length = k then some (.ipt el.cells 0) else none else none
  | .ref n ver i0 len => (asNum i).bind fun i => if 0 ≤ i ∧ i < len then (rowAt? h n ver).bind fun r => if r.1 = k then some (.ptr n ver (i0 + i.toNat) 0) else none else none
  | _ => none
/-- &x[i], x an array of len elements of k cells, by its address. -/
def oIndexA (len k : Nat) (x i : AV) : Option AV :=
  (asNum i).bind fun i => if 0 ≤ i ∧ i < len then
    match x with
    | .ptr n v e c => some (.ptr n v e (c + i.toNat * k))
    | .ipt cs c => some (.ipt cs (c + i.toNat * k))
    | _ => none
  else none

/-- The elements of a slice. -/
def oElems (h : Hp) : AV → Option (List AV)
  | .nl => some []
  | .sc (.slice _ 0 _) => some []
  | .imm xs | .full xs => some xs
  | .ref n ver i len => (rowAt? h n ver).bind fun r => if i + len ≤ r.2.length then some ((r.2.drop i).take len) else none
  | _ => none

def oLen : AV → Option AV
  | .nl => some (.sc (.int .i64 0))
  | .imm xs | .full xs => some (.sc (.int .i64 xs.length))
  | .ref _ _ _ len => some (.sc (.int .i64 len))
  | _ => none
def oCap : AV → Option AV
  | .nl => some (.sc (.int .i64 0))
  | .full xs => some (.sc (.int .i64 xs.length))
  | _ => none

def oMin : AV → AV → Option AV
  | .sc (.int k a), .sc (.int k' b) => if k = k' then some (.sc (.int k (if b < a then b else a))) else none
  | _, _ => none
def oMax : AV → AV → Option AV
  | .sc (.int k a), .sc (.int k' b) => if k = k' then some (.sc (.int k (if b > a then b else a))) else none
  | _, _ => none

/-- How long what grows may become. -/
def LIM : Nat := 1073741824

def oMake (h : Hp) (n k : Nat) (zero x : AV) : Option (AV × Hp) :=
  match x with
  | .sc (.int _ m) => if 0 ≤ m ∧ m ≤ LIM ∧ zero.storable = true ∧ zero.cells.length = k then some (.ref n ((h n).1 + 1) 0 m.toNat, hset h n ((h n).1 + 1, .row k (List.replicate m.toNat zero))) else none
  | _ => none

/-- A literal of a slice. -/
def oLit (h : Hp) (n k : Nat) (vs : List AV) : Option (AV × Hp) :=
  if vs.all (fun v => v.storable && decide (v.cells.length = k)) then
    match vs with
    | [] => some (.nl, h)
    | _ => if vs.all AV.pure then some (.full (vs.map norm), h) else some (.ref n ((h n).1 + 1) 0 vs.length, hset h n ((h n).1 + 1, .row k vs))
  else none

def Blk.isDead : Blk → Bool
  | .dead => true
  | _ => false
/-- append(s, ys...). Nothing appended to nothing: a block that is in use is left alone. -/
def oAppend (h : Hp) (n k : Nat) (s : AV) (ys : List AV) : Option (AV × Hp) :=
  if ys.all (fun v => v.storable && decide (v.cells.length = k)) then
    match s with
    | .nl => if (ys.isEmpty && !(h n).2.isDead) = true then some (.nl, h) else if ys.length ≤ LIM then some (.ref n ((h n).1 + 1) 0 ys.length, hset h n ((h n).1 + 1, .row k ys)) else none
    | .full xs => match ys with
      | [] => some (.full xs, h)
      | _ => if xs.length + ys.length ≤ LIM ∧ xs.all (fun v => v.storable && decide (v.cells.length = k)) then some (.ref n ((h n).1 + 1) 0 (xs.length + ys.length), hset h n ((h n).1 + 1, .row k (xs ++ ys))) else none
    | .ref m ver i len => (rowAt? h m ver).bind fun r =>
      if r.1 = k ∧ i + len ≤ r.2.length then
        if i + len + ys.length ≤ r.2.length then some (.ref m ver i (len + ys.length), hset h m (ver, .row k (r.2.take (i + len) ++ ys ++ r.2.drop (i + len + ys.length))))
        else if len + ys.length ≤ LIM then some (.ref m (ver + 1) 0 (len + ys.length), hset h m (ver + 1, .row k ((r.2.drop i).take len ++ ys)))
        else none
      else none
    | _ => none
  else none

/-- copy(dst, xs): what is copied goes over the first elements. -/
def oCopy (h : Hp) (k : Nat) (d : AV) (xs : List AV) : Option (AV × Hp) :=
  if xs.all (fun v => v.storable && decide (v.cells.length = k)) then
    match d with
    | .ref m ver i len => (rowAt? h m ver).bind fun r =>
      if r.1 = k ∧ i + len ≤ r.2.length then
        some (.sc (.int .i64 (min xs.length len : Nat)), hset h m (ver, .row k (r.2.take i ++ xs.take len ++ r.2.drop (i + min xs.length len))))
      else none
    | _ => none
  else none

def oClear (h : Hp) (k : Nat) (zero d : AV) : Option Hp :=
  if zero.storable = true ∧ zero.cells.length = k then
    match d with
    | .nl => some h
    | .ref m ver i len => (rowAt? h m ver).bind fun r =>
      if r.1 = k ∧ i + len ≤ r.2.length then some (hset h m (ver, .row k (r.2.take i ++ List.replicate len zero ++ r.2.drop (i + len)))) else none
    | _ => none
  else none

/-- x[lo:hi], x[lo:hi:max] of a slice of elements of k cells. What is not given: none. -/
def oSlice (h : Hp) (k : Nat) (x : AV) (lo hi mx : Option AV) : Option AV :=
  match x with
  | .imm xs | .full xs =>
    (match lo with | none => some (0 : Int) | some v => asNum v).bind fun l => (match hi with | none => some (xs.length : Int) | some v => asNum v).bind fun u =>
      if 0 ≤ l ∧ l ≤ u ∧ u ≤ xs.length ∧ (l = 0 ∨ xs.all (fun el => el.cells.length == k) = true) then
        match mx with
        | none => some (.imm ((xs.drop l.toNat).take (u - l).toNat))
        | some m => (asNum m).bind fun m => if m = u then some (if l = u then .nl else .full ((xs.drop l.toNat).take (u - l).toNat)) else none
      else none
  | .ref n ver i len =>
    (match lo with | none => some (0 : Int) | some v => asNum v).bind fun l => (match hi with | none => some (len : Int) | some v => asNum v).bind fun u => (rowAt? h n ver).bind fun r =>
      if 0 ≤ l ∧ l ≤ u ∧ i + u.toNat ≤ r.2.length ∧ r.1 = k then
        match mx with
        | none => some (.ref n ver (i + l.toNat) (u - l).toNat)
        | some m => (asNum m).bind fun m => if u ≤ m ∧ i + m.toNat ≤ r.2.length then some .junk else none
      else none
  | .nl =>
    (match lo with | none => some (0 : Int) | some v => asNum v).bind fun l => (match hi with | none => some (0 : Int) | some v => asNum v).bind fun u =>
      if l = 0 ∧ u = 0 then (match mx with | none => some .nl | some m => (asNum m).bind fun m => if m = 0 then some .nl else none) else none
  | _ => none

def oExtract (i : Nat) : AV → Option AV
  | .tup vs => vs[i]?
  | _ => none

def oConvInt (k : IntKind) : AV → Option AV
  | .sc (.int _ n) => some (.sc (.int k (k.wrap n)))
  | _ => none
def bytesOfA : List AV → Option ByteArray
  | [] => some ByteArray.empty
  | .sc (.int .u8 n) :: r => (bytesOfA r).map fun s => ⟨#[UInt8.ofNat n.toNat] ++ s.data⟩
  | _ => none
def oConvStr (h : Hp) (x : AV) : Option AV := (oElems h x).bind fun xs => (bytesOfA xs).map fun s => .sc (.string s)

/-- A literal of a struct or an array: parts laid over the zero value. -/
def fillA (places : Nat → Option (Nat × Nat)) (cells : List AV) : List (Nat × AV) → Option (List AV)
  | [] => some cells
  | (i, v) :: rest =>
    match places i with
    | none => none
    | some (off, size) => if v.cells.length = size ∧ off + size ≤ cells.length ∧ v.storable = true then fillA places (setCellsA cells off v.cells) rest else none

/-- x == nil, of a slice. -/
def oIsNil (h : Hp) : AV → Option AV
  | .sc (.slice A _ _) => some (.sc (.bool A.isNone))
  | .imm (_ :: _) | .full (_ :: _) => some (.sc (.bool false))
  | .ref n ver _ (_ + 1) => (rowAt? h n ver).map fun _ => .sc (.bool false)
  | _ => none

/-! ### Maps with whole numbers as keys, made by a literal and asked once -/
def oMapNew (h : Hp) (n : Nat) : AV × Hp := (.mp n ((h n).1 + 1), hset h n ((h n).1 + 1, .map []))
def oMapPut (h : Hp) (m key v : AV) : Option Hp :=
  match m, key with
  | .mp n ver, .sc (.int .i64 i) =>
    match h n with
    | (v0, .map es) => if v0 = ver ∧ v.one = true ∧ (es.all fun e => e.1 != i) = true then some (hset h n (ver, .map (es ++ [(i, v)]))) else none
    | _ => none
  | _, _ => none
def findA (i : Int) (zero : AV) : List (Int × AV) → AV × Bool
  | [] => (zero, false)
  | (j, v) :: r => if i == j then (v, true) else findA i zero r
def oMapGet (h : Hp) (zero m key : AV) : Option AV :=
  match m, key with
  | .mp n ver, .sc (.int .i64 i) =>
    match h n with
    | (v0, .map es) => if v0 = ver then some (.tup [(findA i zero es).1, .sc (.bool (findA i zero es).2)]) else none
    | _ => none
  | _, _ => none

/-! ### What leaves a function: no address of its own blocks -/
def frz1 (h : Hp) : AV → AV
  | .ref n ver i len =>
    match rowAt? h n ver with
    | some (_, els) => if i + len ≤ els.length ∧ els.all AV.pure = true then .imm (((els.drop i).take len).map norm) else .junk
    | none => .junk
  | .nl => .imm []
  | .full xs => .imm xs
  | .ptr n ver e c =>
    match rowAt? h n ver with
    | some (_, els) => match els[e]? with
      | some el => .ipt (el.cells.map fun x => match x with
          | .ref n ver i len => (match rowAt? h n ver with
            | some (_, els) => if i + len ≤ els.length ∧ els.all AV.pure = true then .imm (((els.drop i).take len).map norm) else .junk
            | none => .junk)
          | .nl => .imm []
          | .full xs => .imm xs
          | .sc v => .sc v
          | .imm xs => .imm xs
          | _ => .junk) c
      | none => .junk
    | none => .junk
  | .sc v => .sc v
  | .imm xs => .imm xs
  | .ipt cs c => .ipt cs c
  | _ => .junk
def frz (h : Hp) : AV → AV
  | .agg cs => .agg (cs.map (frz1 h))
  | .tup vs => .tup (vs.map fun v => match v with | .agg cs => .agg (cs.map (frz1 h)) | v => frz1 h v)
  | v => frz1 h v

/-- Needs no memory at all. -/
def AV.scalar1 : AV → Bool
  | .sc _ => true
  | _ => false
def AV.scalar : AV → Bool
  | .tup vs => vs.all fun v => match v with | .agg cs => cs.all AV.scalar1 | v => v.scalar1
  | .agg cs => cs.all AV.scalar1
  | v => v.scalar1

/-- The blocks of ours that a value names at its top. -/
def AV.nms1 : AV → List Nat
  | .ref n _ _ _ => [n]
  | .ptr n _ _ _ => [n]
  | .mp n _ => [n]
  | _ => []
def AV.nms : AV → List Nat
  | .agg cs => cs.flatMap AV.nms1
  | .tup vs => vs.flatMap fun v => v.cells.flatMap AV.nms1
  | v => v.nms1

/-- Blocks that are ours no more. -/
def kill (h : Hp) : List Nat → Hp
  | [] => h
  | n :: r => kill (hset h n ((h n).1 + 1, .dead)) r

end Go.Proofs.Ytihljollfbogeaa
