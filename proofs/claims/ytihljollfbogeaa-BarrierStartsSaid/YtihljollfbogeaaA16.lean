/- The small language: code, and its run on abstract values. No condition. -/
import Derived.Test.YtihljollfbogeaaA15
namespace Go.Proofs.Ytihljollfbogeaa
open Go Go.RowKit

/-- An operation with its place and its guard: the place that it hangs on, and what must stand there. -/
structure CIns where
  dst : Option Nat
  guard : Option (Nat × Bool)
  op : COp

inductive CC where
  | skip
  | reg (ops : List CIns)
  | draw (ops : List CIns) (pairs : List (Nat × Nat))
  | seq (a b : CC)
  | cond (c : Operand) (a b : CC)
  | block (id : Nat) (b : CC)
  | loop (b : CC)
  | exit (id : Nat)
  | ret

inductive CEx where
  | norm
  | exit (id : Nat)
  | ret

inductive CRes where
  | tmp (t : Nat)
  | cell (agg : Bool) (k : Nat) (t : Nat)

structure CFn where
  results : List CRes
  body : CC

abbrev St := Env × Hp
/-- How a function is entered: its frame's number, its arguments, the heap. -/
abbrev Inl := Nat → FuncId → List AV → Hp → Option (AV × Hp)
/-- What is known of functions that are not entered. -/
abbrev Hand := FuncId → List AV → Option AV

def argEnv (as : List AV) : Env := fun t => (as[t]?).getD .junk

/-- A call. -/
def callA (H : Hand) (I : Inl) (n : Nat) (f : FuncId) (as : List AV) (s : St) : Option (AV × St) :=
  match H f (as.map (fz s.2)) with
  | some r =>
    if r.scalar = true then some (r, s)
    else match as.flatMap (nm s.2) with
      | [] => some (r, s)
      | ns => some (r, fun t => thaw s.2 ns (s.1 t), kills (thawH s.2 ns) ns)
  | none => (I n f as s.2).map fun q => (q.1, s.1, q.2)

/-- The function and the arguments of a call of a value. -/
def valueA (x : AV) (as : List AV) : Option (FuncId × List AV) :=
  match x with
  | .fn f first caps => some (f, first ++ as ++ caps)
  | _ => none

/-- An operation, calls too. -/
def opA (H : Hand) (I : Inl) (n : Nat) (c : COp) (s : St) : Option (AV × St) :=
  match c with
  | .call f as => callA H I n f (as.map (aEval s.1)) s
  | .callv x as => (valueA (aEval s.1 x) (as.map (aEval s.1))).bind fun q => callA H I n q.1 q.2 s
  | c => (c.ev n s.1 s.2).map fun q => (q.1, s.1, appD s.2 q.2)

/-- The operation's own name. -/
def nameOf (q : Nat) (d : Option Nat) : Nat := q * 512 + d.getD 511

def insA (H : Hand) (I : Inl) (q : Nat) (i : CIns) (s : St) : Option St :=
  match i.guard with
  | none => (opA H I (nameOf q i.dst) i.op s).map fun r => (edst r.2.1 i.dst r.1, r.2.2)
  | some (g, want) =>
    match s.1 g with
    | .sc (.bool b) => if b = want then (opA H I (nameOf q i.dst) i.op s).map fun r => (edst r.2.1 i.dst r.1, r.2.2) else some (edst s.1 i.dst (.tup []), s.2)
    | .tup [] => some (edst s.1 i.dst (.tup []), s.2)
    | _ => none

def regA (H : Hand) (I : Inl) (q : Nat) : List CIns → St → Option St
  | [], s => some s
  | i :: r, s => (insA H I q i s).bind (regA H I q r)

/-! ### Regions that are drawn -/
/-- The blocks that an operation looks at. -/
def COp.rd (n : Nat) (e : Env) : COp → List Nat
  | .alloc _ | .box _ | .make .. | .mk0 .. | .lit .. | .mnew | .appZ .. => [n]
  | .load _ _ p => (aEval e p).nms
  | .store _ p _ => [nameOr n (aEval e p)]
  | .iaddrS _ x _ => (aEval e x).nms
  | .cstr x => (aEval e x).nms
  | .isnil x => (aEval e x).nms
  | .slc _ x _ _ _ => (aEval e x).nms
  | .app _ s x => nameOr n (aEval e s) :: (aEval e x).nms
  | .cpy _ d x => nameOr n (aEval e d) :: (aEval e x).nms
  | .clr _ _ d => [nameOr n (aEval e d)]
  | .mput m _ _ => [nameOr n (aEval e m)]
  | .mget _ m _ => (aEval e m).nms
  | _ => []
/-- The block that it writes. -/
def COp.wr (n : Nat) (e : Env) : COp → Option Nat
  | .alloc _ | .box _ | .make .. | .mk0 .. | .lit .. | .mnew | .appZ .. => some n
  | .store _ p _ => some (nameOr n (aEval e p))
  | .app _ s _ => some (nameOr n (aEval e s))
  | .cpy _ d _ => some (nameOr n (aEval e d))
  | .clr _ _ d => some (nameOr n (aEval e d))
  | .mput m _ _ => some (nameOr n (aEval e m))
  | _ => none

/-- What an operation did to the heap: it looked at blocks and perhaps wrote one; or it was a call. -/
inductive Ev where
  | nothing
  | simple (rd : List Nat) (wr : Option Nat)
  | call (h h' : Hp)

def COp.isCall : COp → Bool
  | .call .. | .callv .. => true
  | _ => false

/-- In a drawn region a call may not take blocks of ours away. -/
def callD (H : Hand) (I : Inl) (n : Nat) (f : FuncId) (as : List AV) (s : St) : Option (AV × St) :=
  match H f (as.map (fz s.2)) with
  | some r =>
    if r.scalar = true then some (r, s)
    else match as.flatMap (nm s.2) with
      | [] => some (r, s)
      | _ => none
  | none => (I n f as s.2).map fun q => (q.1, s.1, q.2)
/-- What a call did: of a function that is told it looks at its arguments alone. -/
def evC (H : Hand) (f : FuncId) (as : List AV) (s : St) (h' : Hp) : Ev := if (H f (as.map (fz s.2))).isSome = true then .simple (as.flatMap (nm s.2)) none else .call s.2 h'
def opD (H : Hand) (I : Inl) (n : Nat) (c : COp) (s : St) : Option (AV × Hp × Ev) :=
  match c with
  | .call f as => (callD H I n f (as.map (aEval s.1)) s).map fun r => (r.1, r.2.2, evC H f (as.map (aEval s.1)) s r.2.2)
  | .callv x as => (valueA (aEval s.1 x) (as.map (aEval s.1))).bind fun q => (callD H I n q.1 q.2 s).map fun r => (r.1, r.2.2, evC H q.1 q.2 s r.2.2)
  | c => (c.ev n s.1 s.2).map fun q => (q.1, appD s.2 q.2, .simple (c.rd n s.1) (c.wr n s.1))
def insD (H : Hand) (I : Inl) (q : Nat) (i : CIns) (s : St) : Option (St × Ev) :=
  match i.guard with
  | none => (opD H I (nameOf q i.dst) i.op s).map fun r => ((edst s.1 i.dst r.1, r.2.1), r.2.2)
  | some (g, want) =>
    match s.1 g with
    | .sc (.bool b) => if b = want then (opD H I (nameOf q i.dst) i.op s).map fun r => ((edst s.1 i.dst r.1, r.2.1), r.2.2) else some ((edst s.1 i.dst (.tup []), s.2), .nothing)
    | .tup [] => some ((edst s.1 i.dst (.tup []), s.2), .nothing)
    | _ => none
def drawA (H : Hand) (I : Inl) (q : Nat) : List CIns → St → Option (St × List Ev)
  | [], s => some (s, [])
  | i :: r, s => (insD H I q i s).bind fun x => (drawA H I q r x.1).map fun y => (y.1, x.2 :: y.2)

/-! Blocks that are seen to be the same. -/
def valEq : Value → Value → Bool
  | .int k a, .int k' b => decide (k = k') && a == b
  | .bool a, .bool b => a == b
  | .pointer none, .pointer none => true
  | _, _ => false
def allEq (f : AV → AV → Bool) : List AV → List AV → Bool
  | [], [] => true
  | a :: as, b :: bs => f a b && allEq f as bs
  | _, _ => false
def AV.eqb : Nat → AV → AV → Bool
  | 0, _, _ => false
  | n + 1, x, y => match x, y with
    | .sc a, .sc b => valEq a b
    | .agg a, .agg b => allEq (AV.eqb n) a b
    | .nl, .nl => true
    | .imm a, .imm b => allEq (AV.eqb n) a b
    | .full a, .full b => allEq (AV.eqb n) a b
    | .ref a b c d, .ref a' b' c' d' => a == a' && b == b' && c == c' && d == d'
    | .ptr a b c d, .ptr a' b' c' d' => a == a' && b == b' && c == c' && d == d'
    | .ipt a c, .ipt b d => allEq (AV.eqb n) a b && c == d
    | _, _ => false
def Blk.eqb : Blk → Blk → Bool
  | .dead, .dead => true
  | .row k a, .row l b => k == l && allEq (AV.eqb 8) a b
  | _, _ => false
def quick (r : List Nat) (h h' : Hp) : Bool := r.all fun n => (h' n).1 == (h n).1 && Blk.eqb (h' n).2 (h n).2
theorem valEq_eq {a b : Value} (h : valEq a b = true) : a = b := by
  unfold valEq at h
  split at h <;> simp_all
theorem allEq_eq {f : AV → AV → Bool} (hf : ∀ a b, f a b = true → a = b) : ∀ {xs ys : List AV}, allEq f xs ys = true → xs = ys
  | [], [], _ => rfl
  | a :: as, b :: bs, h => by
    simp only [allEq, Bool.and_eq_true] at h
    rw [hf a b h.1, allEq_eq hf h.2]
  | [], _ :: _, h => by cases h
  | _ :: _, [], h => by cases h
theorem AV.eqb_eq : ∀ (n : Nat) (a b : AV), AV.eqb n a b = true → a = b
  | 0, _, _, h => by cases h
  | n + 1, a, b, h => by
    have ih := AV.eqb_eq n
    unfold AV.eqb at h
    split at h
    · rw [valEq_eq h]
    · rw [allEq_eq ih h]
    · rfl
    · rw [allEq_eq ih h]
    · rw [allEq_eq ih h]
    · simp at h; obtain ⟨⟨⟨rfl, rfl⟩, rfl⟩, rfl⟩ := h; rfl
    · simp at h; obtain ⟨⟨⟨rfl, rfl⟩, rfl⟩, rfl⟩ := h; rfl
    · simp at h; rw [allEq_eq ih h.1, h.2]
    · cases h
theorem Blk.eqb_eq {a b : Blk} (h : Blk.eqb a b = true) : a = b := by
  unfold Blk.eqb at h
  split at h
  · rfl
  · simp at h; rw [h.1, allEq_eq (AV.eqb_eq 8) h.2]
  · cases h
theorem quick_eq {r : List Nat} {h h' : Hp} (hq : quick r h h' = true) : ∀ n ∈ r, h' n = h n := fun n hn => by
  have := List.all_eq_true.1 hq n hn
  simp only [Bool.and_eq_true, beq_iff_eq] at this
  exact Prod.ext this.1 (Blk.eqb_eq this.2)
open Classical in
theorem quick_or {r : List Nat} {h h' : Hp} (hq : (quick r h h' || decide (∀ n ∈ r, h' n = h n)) = true) : ∀ n ∈ r, h' n = h n := by
  rw [Bool.or_eq_true] at hq
  rcases hq with hq | hq
  · exact quick_eq hq
  · exact of_decide_eq_true hq

open Classical in
/-- Neither minds whether the other comes first. -/
noncomputable def indep : Ev → Ev → Bool
  | .nothing, _ => true
  | _, .nothing => true
  | .simple r1 w1, .simple r2 w2 => (match w1 with | some n => !r2.contains n | none => true) && (match w2 with | some n => !r1.contains n | none => true)
  | .simple r none, .call h h' => quick r h h' || decide (∀ n ∈ r, h' n = h n)
  | .call h h', .simple r none => quick r h h' || decide (∀ n ∈ r, h' n = h n)
  | _, _ => false
noncomputable def indeps (evs : List Ev) (pairs : List (Nat × Nat)) : Bool :=
  pairs.all fun p => match evs[p.1]?, evs[p.2]? with
    | some x, some y => indep x y
    | _, _ => false

/-- A loop: so many rounds at most. -/
def iter (f : St → Option (CEx × St)) : Nat → St → Option (CEx × St)
  | 0, _ => none
  | k + 1, s => match f s with
    | some (.norm, s') => iter f k s'
    | r => r

noncomputable def run (H : Hand) (I : Inl) (N : Nat) (q : Nat) : CC → St → Option (CEx × St)
  | .skip, s => some (.norm, s)
  | .reg ops, s => (regA H I q ops s).map fun s => (.norm, s)
  | .draw ops pairs, s => (drawA H I q ops s).bind fun r => if indeps r.2 pairs = true then some (.norm, r.1) else none
  | .seq a b, s => (run H I N q a s).bind fun r => match r with
    | (.norm, s') => run H I N q b s'
    | r => some r
  | .cond c a b, s => match aEval s.1 c with
    | .sc (.bool t) => if t then run H I N q a s else run H I N q b s
    | _ => none
  | .block id b, s => (run H I N q b s).map fun r => match r with
    | (.exit i, s') => if i = id then (.norm, s') else (.exit i, s')
    | r => r
  | .loop b, s => iter (run H I N q b) N s
  | .exit id, s => some (.exit id, s)
  | .ret, s => some (.ret, s)

def resA (s : St) : CRes → Option AV
  | .tmp t => some (s.1 t)
  | .cell agg k t => oLoad agg k s.2 (s.1 t)
def ressA (s : St) : List CRes → Option (List AV)
  | [] => some []
  | r :: rs => (resA s r).bind fun v => (ressA s rs).map fun vs => v :: vs
def tupA : List AV → Option AV
  | [v] => some v
  | vs => if vs.all (fun v => match v with | .tup _ => false | _ => true) = true then some (.tup vs) else none

/-- A function's run: nothing but 'normal' and 'return' leaves its body. -/
noncomputable def fnA (H : Hand) (I : Inl) (N : Nat) (q : Nat) (c : CFn) (as : List AV) (h : Hp) : Option (AV × Hp) :=
  (run H I N q c.body (argEnv as, h)).bind fun r => match r.1 with
    | .exit _ => none
    | _ => (ressA r.2 c.results).bind fun vs => (tupA vs).map fun v => (v, r.2.2)

/-- Functions that are entered, so deep at most. -/
noncomputable def inl (T : FuncId → Option CFn) (H : Hand) (N : Nat) : Nat → Inl
  | 0 => fun _ _ _ _ => none
  | d + 1 => fun q f as h => match T f with
    | some c => fnA H (inl T H N d) N q c as h
    | none => none

/-! ### When code of the program is code of the small language -/
def dstOk (nt : Nat) : Option Nat → Bool
  | some d => decide (d < nt)
  | none => true
def compIns (P : Program) (nt : Nat) (ops : List Oper) (o : Oper) : Option CIns :=
  match compOp P o.op with
  | none => none
  | some c =>
    if dstOk nt o.dst = true then
      match o.guard with
      | none => some ⟨o.dst, none, c⟩
      | some (j, want) => match (ops[j]?).bind (·.dst) with
        | some g => some ⟨o.dst, some (g, want), c⟩
        | none => none
    else none
def compAll (P : Program) (nt : Nat) (ops : List Oper) : List Oper → Option (List CIns)
  | [] => some []
  | o :: r => match compIns P nt ops o, compAll P nt ops r with
    | some i, some l => some (i :: l)
    | _, _ => none

end Go.Proofs.Ytihljollfbogeaa
