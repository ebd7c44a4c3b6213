/- The equations by which a drawn region's abstract run is worked out. No condition. -/
import Derived.Test.YtihljollfbogeaaA26
namespace Go.Proofs.Ytihljollfbogeaa
open Go Go.RowKit

section
variable {H : Hand} {I : Inl} {N q : Nat}

noncomputable def endD (pairs : List (Nat × Nat)) (r : St × List Ev) : Option (CEx × St) := if indeps r.2 pairs = true then some (.norm, r.1) else none
def consE (ev : Ev) (y : St × List Ev) : St × List Ev := (y.1, ev :: y.2)
def nextD (H : Hand) (I : Inl) (q : Nat) (r : List CIns) (x : St × Ev) : Option (St × List Ev) := (drawA H I q r x.1).map (consE x.2)
def putD (e : Env) (d : Option Nat) (r : AV × Hp × Ev) : St × Ev := ((edst e d r.1, r.2.1), r.2.2)

theorem run_drawn (ops : List CIns) (pairs : List (Nat × Nat)) (s : St) : run H I N q (.draw ops pairs) s = (drawA H I q ops s).bind (endD pairs) := rfl
theorem endD_mk (pairs : List (Nat × Nat)) (s : St) (evs : List Ev) : endD pairs (s, evs) = if indeps evs pairs = true then some (toNorm s) else none := rfl
theorem drawA_nil (s : St) : drawA H I q [] s = some (s, []) := rfl
theorem drawA_cons (i : CIns) (r : List CIns) (s : St) : drawA H I q (i :: r) s = (insD H I q i s).bind (nextD H I q r) := rfl
theorem nextD_mk (r : List CIns) (s : St) (ev : Ev) : nextD H I q r (s, ev) = (drawA H I q r s).map (consE ev) := rfl
theorem consE_mk (ev : Ev) (s : St) (evs : List Ev) : consE ev (s, evs) = (s, ev :: evs) := rfl
theorem putD_some (e : Env) (d : Nat) (v : AV) (h : Hp) (ev : Ev) : putD e (some d) (v, h, ev) = ((eset e d v, h), ev) := rfl
theorem putD_none (e : Env) (v : AV) (h : Hp) (ev : Ev) : putD e none (v, h, ev) = ((e, h), ev) := rfl
theorem insD_plain (d : Option Nat) (c : COp) (e : Env) (h : Hp) : insD H I q ⟨d, none, c⟩ (e, h) = (opD H I (nameOf q d) c (e, h)).map (putD e d) := rfl
theorem insD_yes {g : Nat} {want : Bool} {e : Env} {h : Hp} (d : Option Nat) (c : COp) (hg : e g = .sc (.bool want)) : insD H I q ⟨d, some (g, want), c⟩ (e, h) = (opD H I (nameOf q d) c (e, h)).map (putD e d) := by
  simp only [insD, hg]; rfl
theorem insD_no {g : Nat} {want : Bool} {e : Env} {h : Hp} (d : Option Nat) (c : COp) (hg : e g = .sc (.bool (!want))) : insD H I q ⟨d, some (g, want), c⟩ (e, h) = some ((edst e d (.tup []), h), .nothing) := by
  simp only [insD, hg]; cases want <;> rfl
theorem insD_skip {g : Nat} {want : Bool} {e : Env} {h : Hp} (d : Option Nat) (c : COp) (hg : e g = .tup []) : insD H I q ⟨d, some (g, want), c⟩ (e, h) = some ((edst e d (.tup []), h), .nothing) := by
  simp only [insD, hg]

/-- A row, frozen. -/
def fzRow : Option (Nat × List AV) → Nat → Nat → AV
  | some (_, els), i, len => if i + len ≤ els.length ∧ els.all AV.pure = true then .imm (((els.drop i).take len).map norm) else .junk
  | none, _, _ => .junk
theorem fz0_ref (h : Hp) (n ver i len : Nat) : fz0 h (.ref n ver i len) = fzRow (rowAt? h n ver) i len := by
  simp only [fz0]; cases rowAt? h n ver <;> rfl
theorem fz1_ref (h : Hp) (n ver i len : Nat) : fz1 h (.ref n ver i len) = fzRow (rowAt? h n ver) i len := fz0_ref h n ver i len
theorem fzA_ref (h : Hp) (n ver i len : Nat) : fzA h (.ref n ver i len) = fzRow (rowAt? h n ver) i len := fz0_ref h n ver i len
theorem fz_ref (h : Hp) (n ver i len : Nat) : fz h (.ref n ver i len) = fzRow (rowAt? h n ver) i len := fz0_ref h n ver i len
theorem outA_ref (h : Hp) (n ver i len : Nat) : outA (.ref n ver i len, h) = fzRow (rowAt? h n ver) i len := fz0_ref h n ver i len
theorem outA_nl (h : Hp) : outA (.nl, h) = .imm [] := rfl
theorem outA_full (xs : List AV) (h : Hp) : outA (.full xs, h) = .imm xs := rfl
theorem fzRow_some (sz : Nat) (els : List AV) (i len : Nat) : fzRow (some (sz, els)) i len = if i + len ≤ els.length ∧ els.all AV.pure = true then .imm (((els.drop i).take len).map norm) else .junk := rfl

/-! ### Whole numbers and truth values, in lists -/
def encI (n : Int) : AV := .sc (.int .i64 n)
def encB (b : Bool) : AV := .sc (.bool b)
theorem encI_pure (xs : List Int) : (xs.map encI).all AV.pure = true := by simp [encI, AV.pure, AV.cells, AV.pure1]
theorem encB_pure (xs : List Bool) : (xs.map encB).all AV.pure = true := by simp [encB, AV.pure, AV.cells, AV.pure1]
theorem encI_norm (xs : List Int) : (xs.map encI).map norm = xs.map encI := by simp [encI, norm, norm1]
theorem encB_norm (xs : List Bool) : (xs.map encB).map norm = xs.map encB := by simp [encB, norm, norm1]
theorem wrap_small {n : Int} (h0 : -9223372036854775808 ≤ n) (h1 : n < 9223372036854775808) : IntKind.i64.wrap n = n := by rw [IntKind.wrap_i64]; omega

end
end Go.Proofs.Ytihljollfbogeaa
