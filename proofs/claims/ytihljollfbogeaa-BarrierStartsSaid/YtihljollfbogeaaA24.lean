/- The equations by which an abstract run is worked out. No condition. -/
import Derived.Test.YtihljollfbogeaaA23
namespace Go.Proofs.Ytihljollfbogeaa
open Go Go.RowKit

section
variable {H : Hand} {I : Inl} {N q : Nat}

/-- What comes behind. -/
noncomputable def thn (H : Hand) (I : Inl) (N q : Nat) (b : CC) : CEx × St → Option (CEx × St)
  | (.norm, s') => run H I N q b s'
  | r => some r
/-- The end of a block. -/
def endB (id : Nat) : CEx × St → CEx × St
  | (.exit i, s') => if i = id then (.norm, s') else (.exit i, s')
  | r => r
theorem run_skip (s : St) : run H I N q .skip s = some (.norm, s) := rfl
theorem run_ret (s : St) : run H I N q .ret s = some (.ret, s) := rfl
theorem run_exit (id : Nat) (s : St) : run H I N q (.exit id) s = some (.exit id, s) := rfl
theorem run_seq (a b : CC) (s : St) : run H I N q (.seq a b) s = (run H I N q a s).bind (thn H I N q b) := by
  simp only [run]
  cases run H I N q a s with
  | none => rfl
  | some r => obtain ⟨x, s'⟩ := r; cases x <;> rfl
theorem run_block (id : Nat) (b : CC) (s : St) : run H I N q (.block id b) s = (run H I N q b s).map (endB id) := by
  simp only [run]
  cases run H I N q b s with
  | none => rfl
  | some r => obtain ⟨x, s'⟩ := r; cases x <;> rfl
theorem run_loop (b : CC) (s : St) : run H I N q (.loop b) s = iter (run H I N q b) N s := rfl
def toNorm (s : St) : CEx × St := (.norm, s)
theorem run_reg (ops : List CIns) (s : St) : run H I N q (.reg ops) s = (regA H I q ops s).map toNorm := rfl
theorem run_cond {c : Operand} {t : Bool} {e : Env} {h : Hp} (hc : aEval e c = .sc (.bool t)) (a b : CC) : run H I N q (.cond c a b) (e, h) = if t = true then run H I N q a (e, h) else run H I N q b (e, h) := by
  simp only [run, hc]
theorem run_cond_true {c : Operand} {e : Env} {h : Hp} (a b : CC) (hc : aEval e c = .sc (.bool true)) : run H I N q (.cond c a b) (e, h) = run H I N q a (e, h) := by rw [run_cond hc]; rfl
theorem run_cond_false {c : Operand} {e : Env} {h : Hp} (a b : CC) (hc : aEval e c = .sc (.bool false)) : run H I N q (.cond c a b) (e, h) = run H I N q b (e, h) := by rw [run_cond hc]; rfl
theorem thn_norm (b : CC) (s : St) : thn H I N q b (.norm, s) = run H I N q b s := rfl
theorem thn_toNorm (b : CC) (s : St) : thn H I N q b (toNorm s) = run H I N q b s := rfl
theorem thn_ret (b : CC) (s : St) : thn H I N q b (.ret, s) = some (.ret, s) := rfl
theorem thn_exit (b : CC) (i : Nat) (s : St) : thn H I N q b (.exit i, s) = some (.exit i, s) := rfl
theorem endB_norm (id : Nat) (s : St) : endB id (.norm, s) = (.norm, s) := rfl
theorem endB_toNorm (id : Nat) (s : St) : endB id (toNorm s) = (.norm, s) := rfl
theorem endB_ret (id : Nat) (s : St) : endB id (.ret, s) = (.ret, s) := rfl
theorem endB_exit (id i : Nat) (s : St) : endB id (.exit i, s) = if i = id then (.norm, s) else (.exit i, s) := rfl

theorem regA_nil (s : St) : regA H I q [] s = some s := rfl
theorem regA_cons (i : CIns) (r : List CIns) (s : St) : regA H I q (i :: r) s = (insA H I q i s).bind (regA H I q r) := rfl

/-- The result stands in its place. -/
def putA (d : Option Nat) (r : AV × St) : St := (edst r.2.1 d r.1, r.2.2)
theorem putA_some (d : Nat) (v : AV) (e : Env) (h : Hp) : putA (some d) (v, (e, h)) = (eset e d v, h) := rfl
theorem putA_none (v : AV) (e : Env) (h : Hp) : putA none (v, (e, h)) = (e, h) := rfl
theorem insA_plain (d : Option Nat) (c : COp) (s : St) : insA H I q ⟨d, none, c⟩ s = (opA H I (nameOf q d) c s).map (putA d) := rfl
theorem insA_yes {g : Nat} {want : Bool} {e : Env} {h : Hp} (d : Option Nat) (c : COp) (hg : e g = .sc (.bool want)) : insA H I q ⟨d, some (g, want), c⟩ (e, h) = (opA H I (nameOf q d) c (e, h)).map (putA d) := by
  simp only [insA, hg]; rfl
theorem insA_no {g : Nat} {want : Bool} {e : Env} {h : Hp} (d : Option Nat) (c : COp) (hg : e g = .sc (.bool (!want))) : insA H I q ⟨d, some (g, want), c⟩ (e, h) = some (edst e d (.tup []), h) := by
  simp only [insA, hg]; cases want <;> rfl
theorem insA_skip {g : Nat} {want : Bool} {e : Env} {h : Hp} (d : Option Nat) (c : COp) (hg : e g = .tup []) : insA H I q ⟨d, some (g, want), c⟩ (e, h) = some (edst e d (.tup []), h) := by
  simp only [insA, hg]

/-- A change told of the heap. -/
def withS (e : Env) (h : Hp) (x : AV × Dl) : AV × St := (x.1, (e, appD h x.2))
theorem withS_pu (e : Env) (h : Hp) (v : AV) : withS e h (v, none) = (v, (e, h)) := rfl
theorem opA_ev {c : COp} (hc : c.isCall = false) (n : Nat) (e : Env) (h : Hp) : opA H I n c (e, h) = (c.ev n e h).map (withS e h) := by
  cases c <;> first | rfl | (simp [COp.isCall] at hc)
theorem map_withS_pu (e : Env) (h : Hp) (r : Option AV) : (pu r).map (withS e h) = r.map fun v => (v, (e, h)) := by cases r <;> rfl

theorem aEval_tmp (e : Env) (t : Nat) : aEval e (.tmp t) = e t := rfl
theorem aEval_func (e : Env) (f : FuncId) : aEval e (.func f) = .fn f [] [] := rfl
theorem aEval_int (e : Env) (k : IntKind) (n : Int) : aEval e (.const (.int k n)) = .sc (.int k n) := rfl
theorem aEval_bool (e : Env) (b : Bool) : aEval e (.const (.bool b)) = .sc (.bool b) := rfl
theorem aEval_nil (e : Env) : aEval e (.const (.slice none 0 0)) = .nl := rfl
theorem eset_same (e : Env) (d : Nat) (v : AV) : eset e d v d = v := if_pos rfl
theorem eset_ne (e : Env) (d t : Nat) (v : AV) (h : t ≠ d) : eset e d v t = e t := if_neg h
theorem oBinC_int (op : BinOp) (bl : Bool) (fl : Option Nat) (k : IntKind) (a b : Int) : oBinC op bl fl (.sc (.int k a)) (.sc (.int k b)) = (binInt op k a b).map .sc := by simp [oBinC]

end
end Go.Proofs.Ytihljollfbogeaa
