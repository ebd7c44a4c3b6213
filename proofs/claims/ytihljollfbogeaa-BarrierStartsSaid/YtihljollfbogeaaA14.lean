/- A small language for the operations, what they do to abstract values, and when an operation of the program is one of them. No condition. -/
import Derived.Test.YtihljollfbogeaaA13
namespace Go.Proofs.Ytihljollfbogeaa
open Go Go.RowKit

inductive COp where
  | mv (x : Operand)
  | pick (c a b : Operand)
  | inv (x : Operand)
  | isnil (x : Operand)
  | bin (op : BinOp) (bl : Bool) (fl : Option Nat) (x y : Operand)
  | chk (x : Operand)
  | alloc (z : Value)
  | box (x : Operand)
  | load (agg : Bool) (k : Nat) (p : Operand)
  | store (k : Nat) (p v : Operand)
  | faddr (off : Nat) (x : Operand)
  | iaddrS (k : Nat) (x i : Operand)
  | iaddrA (len k : Nat) (x i : Operand)
  | field (agg : Bool) (k off : Nat) (x : Operand)
  | ext (i : Nat) (x : Operand)
  | cint (k : IntKind) (x : Operand)
  | cstr (x : Operand)
  | make (k : Nat) (z : Value) (x : Operand)
  | mk0 (k : Nat) (x : Operand)
  | lit (k : Nat) (xs : List Operand)
  | build (z : Value) (parts : List (Nat × Nat × Operand))
  | slc (k : Nat) (x : Operand) (lo hi mx : Option Operand)
  | len (x : Operand)
  | cap (x : Operand)
  | mn (x y : Operand)
  | mx (x y : Operand)
  | app (k : Nat) (s x : Operand)
  | appZ (k : Nat) (z : Value) (s x : Operand)
  | cpy (k : Nat) (d x : Operand)
  | clr (k : Nat) (z : Value) (d : Operand)
  | mnew
  | mput (m k v : Operand)
  | mget (z : Value) (m k : Operand)
  | fn (f : FuncId) (first caps : List Operand)
  | call (f : FuncId) (args : List Operand)
  | callv (x : Operand) (args : List Operand)

/-- One change of the heap. -/
abbrev Dl := Option (Nat × (Nat × Blk))
def appD (h : Hp) : Dl → Hp
  | none => h
  | some (n, x) => hset h n x
def dl (n : Nat) (r : Option (AV × Hp)) : Option (AV × Dl) := r.map fun q => (q.1, some (n, q.2 n))
def dl0 (n : Nat) (r : Option Hp) : Option (AV × Dl) := r.map fun h => (.junk, some (n, h n))
def pu (r : Option AV) : Option (AV × Dl) := r.map fun v => (v, none)
/-- The block that an operation on a value writes; else the operation's own. -/
def nameOr (n : Nat) : AV → Nat
  | .ptr m _ _ _ => m
  | .ref m _ _ _ => m
  | .mp m _ => m
  | _ => n

def oBinC (op : BinOp) (bl : Bool) (fl : Option Nat) (x y : AV) : Option AV :=
  match x, y with
  | .sc (.int k a), .sc (.int k' b) => if k = k' then (binInt op k a b).map .sc else none
  | .sc (.bool a), .sc (.bool b) =>
    if bl then
      match op with
      | .eql => some (.sc (.bool (a == b)))
      | .neq => some (.sc (.bool (!(a == b))))
      | _ => none
    else none
  | .sc (.string a), .sc (.string b) =>
    match op with
    | .eql => some (.sc (.bool (a.toList == b.toList)))
    | .neq => some (.sc (.bool !(a.toList == b.toList)))
    | _ => none
  | .agg a, .agg b =>
    match fl with
    | some k => if a.length = k then
        match op with
        | .eql => (sameCells a b).map fun r => .sc (.bool r)
        | .neq => (sameCells a b).map fun r => .sc (.bool (!r))
        | _ => none
      else none
    | none => none
  | _, _ => none
def boolT (P : Program) (t : TypeId) : Bool := match P.underlying t with | some .bool => true | _ => false
def flatK (P : Program) (t : TypeId) : Option Nat := if flatEq P t then some (P.cellsOf t) else none
theorem oBin_eq (P : Program) (op : BinOp) (t : TypeId) (x y : AV) (v : AV) (h : oBinC op (boolT P t) (flatK P t) x y = some v) : oBin P op t x y = some v := by
  unfold oBinC at h
  unfold oBin
  split at h
  · exact h
  · simp only
    unfold boolT at h
    split at h
    · rename_i hu
      simp only [if_true] at h
      rw [hu]
      split at h <;> simp_all
    · simp at h
  · exact h
  · simp only
    unfold flatK at h
    cases hf : flatEq P t
    · simp [hf] at h
    · simp only [hf, if_true] at h
      split at h
      · rename_i hl
        simp [hl]
        exact h
      · cases h
  · cases h

def oMk0 (h : Hp) (n k : Nat) (x : AV) : Option (AV × Hp) :=
  match x with
  | .sc (.int _ m) => if 0 ≤ m ∧ m ≤ LIM then some (.ref n ((h n).1 + 1) 0 0, hset h n ((h n).1 + 1, .row k [])) else none
  | _ => none

/-- Parts laid over the zero value, their places given. -/
def fillC (cells : List AV) : List (Nat × Nat × AV) → Option (List AV)
  | [] => some cells
  | (off, size, v) :: rest => if v.cells.length = size ∧ off + size ≤ cells.length ∧ v.storable = true then fillC (setCellsA cells off v.cells) rest else none

def oBuildC (z : Value) (parts : List (Nat × Nat × AV)) : Option AV :=
  match ofVal z with
  | .agg cs => (fillC cs parts).map .agg
  | _ => none

/-- Of one cell. -/
def AV.single : AV → Bool
  | .agg _ | .tup _ => false
  | _ => true

/-- What an operation that is no call does. -/
def COp.ev (n : Nat) (e : Env) (h : Hp) : COp → Option (AV × Dl)
  | .mv x => some (aEval e x, none)
  | .pick c a b => pu (oPick (aEval e c) (aEval e a) (aEval e b))
  | .inv x => pu (oNot (aEval e x))
  | .isnil x => pu (oIsNil h (aEval e x))
  | .bin op bl fl x y => pu (oBinC op bl fl (aEval e x) (aEval e y))
  | .chk x => pu (oNil (aEval e x))
  | .alloc z => dl n (oNew h n (ofVal z))
  | .box x => dl n (oNew h n (aEval e x))
  | .load agg k p => pu (oLoad agg k h (aEval e p))
  | .store k p v => dl0 (nameOr n (aEval e p)) (oStore k h (aEval e p) (aEval e v))
  | .faddr off x => pu (oFieldAddr off (aEval e x))
  | .iaddrS k x i => pu (oIndexS k h (aEval e x) (aEval e i))
  | .iaddrA l k x i => pu (oIndexA l k (aEval e x) (aEval e i))
  | .field agg k off x => pu (match aEval e x with | .agg cs => partA agg k off cs | _ => none)
  | .ext i x => pu (oExtract i (aEval e x))
  | .cint k x => pu (oConvInt k (aEval e x))
  | .cstr x => pu (oConvStr h (aEval e x))
  | .make k z x => dl n (oMake h n k (ofVal z) (aEval e x))
  | .mk0 k x => dl n (oMk0 h n k (aEval e x))
  | .lit k xs => dl n (oLit h n k (xs.map (aEval e)))
  | .build z ps => pu (oBuildC z (ps.map fun p => (p.1, p.2.1, aEval e p.2.2)))
  | .slc k x lo hi m => pu (oSlice h k (aEval e x) (lo.map (aEval e)) (hi.map (aEval e)) (m.map (aEval e)))
  | .len x => pu (oLen (aEval e x))
  | .cap x => pu (oCap (aEval e x))
  | .mn x y => pu (oMin (aEval e x) (aEval e y))
  | .mx x y => pu (oMax (aEval e x) (aEval e y))
  | .app k s x => dl (nameOr n (aEval e s)) ((oElems h (aEval e x)).bind fun ys => oAppend h n k (aEval e s) ys)
  | .appZ k z s x =>
    match aEval e s, aEval e x with
    | .nl, .sc (.int .i64 m) => if 0 < m ∧ m ≤ LIM then dl n (oAppend h n k .nl (List.replicate m.toNat (ofVal z))) else none
    | _, _ => none
  | .cpy k d x => dl (nameOr n (aEval e d)) ((oElems h (aEval e x)).bind fun ys => oCopy h k (aEval e d) ys)
  | .clr k z d => dl0 (nameOr n (aEval e d)) (oClear h k (ofVal z) (aEval e d))
  | .mnew => dl n (some (oMapNew h n))
  | .mput m k v => dl0 (nameOr n (aEval e m)) (oMapPut h (aEval e m) (aEval e k) (aEval e v))
  | .mget z m k => pu (oMapGet h (ofVal z) (aEval e m) (aEval e k))
  | .fn f first caps => if (first.map (aEval e) ++ caps.map (aEval e)).all AV.single = true then some (.fn f (first.map (aEval e)) (caps.map (aEval e)), none) else none
  | .call .. => none
  | .callv .. => none

/-! ### Only one block is written -/
theorem hset_at (h : Hp) (n : Nat) (x : Nat × Blk) : hset h n x = hset h n (hset h n x n) := by
  funext m; simp [hset]
theorem hset_none (h : Hp) (n : Nat) : h = hset h n (h n) := by
  funext m; unfold hset; split
  · rename_i e; rw [e]
  · rfl

def Only (h : Hp) (n : Nat) (h' : Hp) : Prop := h' = hset h n (h' n)
theorem Only.set (h : Hp) (n : Nat) (x : Nat × Blk) : Only h n (hset h n x) := hset_at h n x
theorem Only.same (h : Hp) (n : Nat) : Only h n h := hset_none h n
theorem Only.new {h h' : Hp} {n : Nat} {v p : AV} (ho : oNew h n v = some (p, h')) : Only h n h' := by
  unfold oNew at ho; split at ho <;> cases ho; exact Only.set ..
theorem Only.store {h h' : Hp} {n k : Nat} {p v : AV} (ho : oStore k h p v = some h') : Only h (nameOr n p) h' := by
  unfold oStore at ho
  split at ho
  · obtain ⟨_, _, ho⟩ := Option.bind_eq_some_iff.1 ho
    obtain ⟨_, _, ho⟩ := Option.bind_eq_some_iff.1 ho
    split at ho <;> cases ho; exact Only.set ..
  · cases ho
theorem Only.make {h h' : Hp} {n k : Nat} {z x v : AV} (ho : oMake h n k z x = some (v, h')) : Only h n h' := by
  unfold oMake at ho
  split at ho
  · split at ho <;> cases ho; exact Only.set ..
  · cases ho
theorem Only.mk0 {h h' : Hp} {n k : Nat} {x v : AV} (ho : oMk0 h n k x = some (v, h')) : Only h n h' := by
  unfold oMk0 at ho
  split at ho
  · split at ho <;> cases ho; exact Only.set ..
  · cases ho
theorem Only.lit {h h' : Hp} {n k : Nat} {vs : List AV} {v : AV} (ho : oLit h n k vs = some (v, h')) : Only h n h' := by
  unfold oLit at ho
  split at ho
  · split at ho
    · cases ho; exact Only.same ..
    · split at ho <;> cases ho
      · exact Only.same ..
      · exact Only.set ..
  · cases ho
theorem Only.append {h h' : Hp} {n k : Nat} {s v : AV} {ys : List AV} (ho : oAppend h n k s ys = some (v, h')) : Only h (nameOr n s) h' := by
  unfold oAppend at ho
  split at ho
  case isFalse => cases ho
  split at ho
  · split at ho
    · cases ho; exact Only.same ..
    · split at ho <;> cases ho; exact Only.set ..
  · split at ho
    · cases ho; exact Only.same ..
    · split at ho <;> cases ho; exact Only.set ..
  · obtain ⟨_, _, ho⟩ := Option.bind_eq_some_iff.1 ho
    split at ho
    case isFalse => cases ho
    split at ho
    · cases ho; exact Only.set ..
    · split at ho <;> cases ho; exact Only.set ..
  · cases ho
theorem Only.copy {h h' : Hp} {n k : Nat} {d v : AV} {ys : List AV} (ho : oCopy h k d ys = some (v, h')) : Only h (nameOr n d) h' := by
  unfold oCopy at ho
  split at ho
  case isFalse => cases ho
  split at ho
  · obtain ⟨_, _, ho⟩ := Option.bind_eq_some_iff.1 ho
    split at ho <;> cases ho; exact Only.set ..
  · cases ho
theorem Only.clear {h h' : Hp} {n k : Nat} {d z : AV} (ho : oClear h k z d = some h') : Only h (nameOr n d) h' := by
  unfold oClear at ho
  split at ho
  case isFalse => cases ho
  split at ho
  · cases ho; exact Only.same ..
  · obtain ⟨_, _, ho⟩ := Option.bind_eq_some_iff.1 ho
    split at ho <;> cases ho; exact Only.set ..
  · cases ho
theorem Only.mapPut {h h' : Hp} {n : Nat} {m k v : AV} (ho : oMapPut h m k v = some h') : Only h (nameOr n m) h' := by
  unfold oMapPut at ho
  split at ho
  · split at ho
    · split at ho <;> cases ho; exact Only.set ..
    · cases ho
  · cases ho

theorem dl_some {h : Hp} {n : Nat} {r : Option (AV × Hp)} {v : AV} {d : Dl} (hd : dl n r = some (v, d)) (ho : ∀ v h', r = some (v, h') → Only h n h') : ∃ h', r = some (v, h') ∧ appD h d = h' := by
  unfold dl at hd
  obtain ⟨⟨v', h'⟩, h1, h2⟩ := Option.map_eq_some_iff.1 hd
  cases h2
  exact ⟨h', h1, (ho v' h' h1).symm⟩
theorem dl0_some {h : Hp} {n : Nat} {r : Option Hp} {v : AV} {d : Dl} (hd : dl0 n r = some (v, d)) (ho : ∀ h', r = some h' → Only h n h') : ∃ h', r = some h' ∧ appD h d = h' ∧ v = .junk := by
  unfold dl0 at hd
  obtain ⟨h', h1, h2⟩ := Option.map_eq_some_iff.1 hd
  cases h2
  exact ⟨h', h1, (ho h' h1).symm, rfl⟩
theorem pu_some {r : Option AV} {v : AV} {d : Dl} (hd : pu r = some (v, d)) : r = some v ∧ d = none := by
  unfold pu at hd
  obtain ⟨v', h1, h2⟩ := Option.map_eq_some_iff.1 hd
  cases h2
  exact ⟨h1, rfl⟩

end Go.Proofs.Ytihljollfbogeaa
