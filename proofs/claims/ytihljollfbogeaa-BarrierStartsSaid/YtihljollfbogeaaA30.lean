/- Tables of answers at given arguments, for runs without arguments of their own. No condition. -/
import Derived.Test.YtihljollfbogeaaA29
namespace Go.Proofs.Ytihljollfbogeaa
open Go Go.RowKit

def iA (n : Int) : AV := .sc (.int .i64 n)
def uA (n : Int) : AV := .sc (.int .u8 n)
def tabH (l : List (FuncId × List AV × AV)) : Hand := fun f args =>
  match l with
  | [] => none
  | (g, bs, r) :: t => if f = g ∧ allEq (AV.eqb 9) bs args = true then some r else tabH t f args
theorem tabH_ok {P : Program} : ∀ {l : List (FuncId × List AV × AV)}, (∀ p ∈ l, Enters P p.1 ∧ Good P p.1 p.2.1 p.2.2) → HandOk P (tabH l)
  | [], _, f, args, r, hr => by cases hr
  | (g, bs, r0) :: l, h, f, args, r, hr => by
    simp only [tabH] at hr
    split at hr
    · rename_i e
      obtain ⟨e1, e2⟩ := e
      subst e1
      have := allEq_eq (AV.eqb_eq 9) e2
      subst this
      cases hr
      exact h _ List.mem_cons_self
    · exact tabH_ok (fun p hp => h p (List.mem_cons_of_mem _ hp)) f args r hr

theorem mkT_nil {P : Program} : ∀ p ∈ ([] : List (FuncId × CFn)), ∃ fn, P.funcs[p.1]? = some fn ∧ compFn P fn = some p.2 := fun p hp => by cases hp
theorem mkT_more {P : Program} {g : FuncId} {c : CFn} {fn : Func} {l : List (FuncId × CFn)} (h1 : P.funcs[g]? = some fn) (h2 : compFn P fn = some c) (h : ∀ p ∈ l, ∃ fn, P.funcs[p.1]? = some fn ∧ compFn P fn = some p.2) : ∀ p ∈ (g, c) :: l, ∃ fn, P.funcs[p.1]? = some fn ∧ compFn P fn = some p.2 := fun p hp => by
  rcases List.mem_cons.1 hp with rfl | hp
  · exact ⟨fn, h1, h2⟩
  · exact h p hp
theorem cl_nil {P : Program} : ∀ p ∈ ([] : List (FuncId × Nat)), ∃ fn, P.funcs[p.1]? = some fn ∧ compFn P fn = some (cloneC p.2) := fun p hp => by cases hp
theorem cl_more {P : Program} {g : FuncId} {k : Nat} {fn : Func} {l : List (FuncId × Nat)} (h1 : P.funcs[g]? = some fn) (h2 : compFn P fn = some (cloneC k)) (h : ∀ p ∈ l, ∃ fn, P.funcs[p.1]? = some fn ∧ compFn P fn = some (cloneC p.2)) : ∀ p ∈ (g, k) :: l, ∃ fn, P.funcs[p.1]? = some fn ∧ compFn P fn = some (cloneC p.2) := fun p hp => by
  rcases List.mem_cons.1 hp with rfl | hp
  · exact ⟨fn, h1, h2⟩
  · exact h p hp
theorem tab_nil {P : Program} : ∀ p ∈ ([] : List (FuncId × List AV × AV)), Enters P p.1 ∧ Good P p.1 p.2.1 p.2.2 := fun p hp => by cases hp
theorem tab_more {P : Program} {g : FuncId} {bs : List AV} {r : AV} {l : List (FuncId × List AV × AV)} (h1 : Enters P g ∧ Good P g bs r) (h : ∀ p ∈ l, Enters P p.1 ∧ Good P p.1 p.2.1 p.2.2) : ∀ p ∈ (g, bs, r) :: l, Enters P p.1 ∧ Good P p.1 p.2.1 p.2.2 := fun p hp => by
  rcases List.mem_cons.1 hp with rfl | hp
  · exact h1
  · exact h p hp

/-! ### A slice of ours that grows from nothing -/
theorem hset_id (h : Hp) (n : Nat) : hset h n (h n) = h := (hset_none h n).symm
theorem hset_twice (h : Hp) (n : Nat) (x y : Nat × Blk) : hset (hset h n x) n y = hset h n y := by
  funext t; simp only [hset]; split <;> rfl
def grown (n v i : Nat) : AV := if i = 0 then .nl else .ref n (v + i) 0 i
def grownH (h : Hp) (n k : Nat) (L : List AV) : Hp := if L.length = 0 then h else hset h n ((h n).1 + L.length, .row k L)
theorem grown_zero (n v : Nat) : grown n v 0 = .nl := rfl
theorem grown_pos (n v i : Nat) (hi : 0 < i) : grown n v i = .ref n (v + i) 0 i := if_neg (by omega)
theorem grownH_nil (h : Hp) (n k : Nat) : grownH h n k [] = h := rfl
theorem grownH_ne {h : Hp} {n k m : Nat} {L : List AV} (hm : m ≠ n) : grownH h n k L m = h m := by
  unfold grownH; split
  · rfl
  · simp [hset, hm]
theorem nameOr_grown (n v i : Nat) : nameOr n (grown n v i) = n := by
  unfold grown; split <;> rfl
theorem app_grown {h : Hp} {n k i : Nat} {L : List AV} {x : AV} (hL : L.length = i) (hx : okEl k x = true) (hi : i < LIM) :
    oAppend (grownH h n k L) n k (grown n (h n).1 i) [x] = some (grown n (h n).1 (i + 1), grownH h n k (L ++ [x])) := by
  have hx' : ([x].all fun v => v.storable && decide (v.cells.length = k)) = true := by simpa [okEl] using hx
  unfold oAppend
  rw [if_pos hx']
  by_cases h0 : i = 0
  · subst h0
    have : L = [] := List.eq_nil_of_length_eq_zero hL
    subst this
    have hl : ¬ LIM = 0 := by omega
    simp [grown, grownH, hl]
  · have h1 : 0 < i := by omega
    have hl : i + 1 ≤ LIM := hi
    rw [grown_pos _ _ _ h1, grown_pos _ _ _ (by omega : 0 < i + 1)]
    have hG : grownH h n k L = hset h n ((h n).1 + i, .row k L) := by unfold grownH; rw [if_neg (by omega), hL]
    rw [hG]
    simp [rowAt?, hset, hL, hl, grownH, Nat.add_assoc]
    rw [← hL, List.take_length, if_neg (by omega), hset_twice]
theorem grownH_at {h : Hp} {n k : Nat} {L : List AV} {x : AV} : hset (grownH h n k L) n (grownH h n k (L ++ [x]) n) = grownH h n k (L ++ [x]) := by
  have h1 : ¬ (L ++ [x]).length = 0 := by simp
  have h2 : ∀ y, hset (grownH h n k L) n y = hset h n y := fun y => by
    unfold grownH; split
    · rfl
    · exact hset_twice ..
  rw [h2]
  unfold grownH
  rw [if_neg h1]
  funext t; simp only [hset]; split <;> rfl
theorem nameOr_ptr (n m v e c : Nat) : nameOr n (.ptr m v e c) = m := rfl
theorem nameOr_ref (n m v i l : Nat) : nameOr n (.ref m v i l) = m := rfl
theorem nameOr_mp (n m v : Nat) : nameOr n (.mp m v) = m := rfl
theorem nameOr_nl (n : Nat) : nameOr n .nl = n := rfl
theorem nameOr_full (n : Nat) (xs : List AV) : nameOr n (.full xs) = n := rfl
theorem fzRow_all {k i : Nat} {L : List AV} (hi : L.length = i) (hp : L.all AV.pure = true) : fzRow (some (k, L)) 0 i = .imm (L.map norm) := by
  subst hi
  rw [fzRow_some, if_pos ⟨by omega, hp⟩, List.drop_zero, List.take_length]
/-! ### Conditions and guards, known or not -/
def isBool : AV → Bool
  | .sc (.bool _) => true
  | _ => false
def boolOf : AV → Bool
  | .sc (.bool b) => b
  | _ => false
theorem isBool_eq {a : AV} (h : isBool a = true) : a = .sc (.bool (boolOf a)) := by
  unfold isBool at h
  split at h
  · rfl
  · cases h
theorem run_condB {H : Hand} {I : Inl} {N q : Nat} {c : Operand} {e : Env} {h : Hp} (a b : CC) (hc : isBool (aEval e c) = true) : run H I N q (.cond c a b) (e, h) = if boolOf (aEval e c) = true then run H I N q a (e, h) else run H I N q b (e, h) := run_cond (isBool_eq hc) a b
theorem insA_b {H : Hand} {I : Inl} {q g : Nat} {want : Bool} {e : Env} {h : Hp} (d : Option Nat) (c : COp) (hg : isBool (e g) = true) : insA H I q ⟨d, some (g, want), c⟩ (e, h) = if boolOf (e g) = want then (opA H I (nameOf q d) c (e, h)).map (putA d) else some (edst e d (.tup []), h) := insA_split d c (isBool_eq hg)
theorem insD_b {H : Hand} {I : Inl} {q g : Nat} {want : Bool} {e : Env} {h : Hp} (d : Option Nat) (c : COp) (hg : isBool (e g) = true) : insD H I q ⟨d, some (g, want), c⟩ (e, h) = if boolOf (e g) = want then (opD H I (nameOf q d) c (e, h)).map (putD e d) else some ((edst e d (.tup []), h), .nothing) := by
  have := isBool_eq hg
  generalize boolOf (e g) = b at this
  simp only [insD, this]
  rfl
theorem range_map_succ {β : Type} (f : Nat → β) (i : Nat) : (List.range (i + 1)).map f = (List.range i).map f ++ [f i] := by rw [List.range_succ, List.map_append]; rfl
end Go.Proofs.Ytihljollfbogeaa
