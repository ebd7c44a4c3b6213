/- Shapes of numbers and lists of numbers; facts of the program. No condition. -/
import Derived.Test.YtihljollfbogeaaE0
import Derived.Test.YtihljollfbogeaaR1
namespace Go.Proofs.Ytihljollfbogeaa
open Go Go.RowKit
theorem fits_int {l : List AV} (h : Fits (.int .i64) l) : ∃ n, in64 n ∧ l = [encI n] := by
  obtain ⟨n, hw, rfl⟩ := h
  simp only [Lit.wf, Bool.and_eq_true, decide_eq_true_eq] at hw
  have e1 : IntKind.i64.min = -9223372036854775808 := rfl
  have e2 : IntKind.i64.max = 9223372036854775807 := rfl
  exact ⟨n, ⟨by omega, by omega⟩, rfl⟩
theorem fits_bool {l : List AV} (h : Fits .bool l) : ∃ b, l = [encB b] := by
  obtain ⟨n, rfl⟩ := h
  exact ⟨n, rfl⟩
theorem list_of {β : Type} (f : β → AV) (p : β → Prop) : ∀ {xs : List AV}, (∀ x ∈ xs, ∃ y, p y ∧ x = f y) → ∃ ys : List β, xs = ys.map f ∧ ∀ y ∈ ys, p y
  | [], _ => ⟨[], rfl, fun y hy => by cases hy⟩
  | x :: xs, h => by
    obtain ⟨ys, h1, h2⟩ := list_of f p (xs := xs) fun z hz => h z (List.mem_cons_of_mem _ hz)
    obtain ⟨y, h3, h4⟩ := h x List.mem_cons_self
    exact ⟨y :: ys, by rw [h4, h1]; rfl, fun z hz => by
      rcases List.mem_cons.1 hz with rfl | hz
      · exact h3
      · exact h2 z hz⟩
theorem fits_ints {l : List AV} (h : Fits (.slice (.int .i64)) l) : ∃ xs : List Int, l = [.imm (xs.map encI)] ∧ ∀ x ∈ xs, in64 x := by
  obtain ⟨xs, hx, rfl⟩ := h
  obtain ⟨ys, rfl, hy⟩ := list_of encI in64 (xs := xs) fun x hx' => by
    obtain ⟨l, h1, _, rfl⟩ := hx x hx'
    obtain ⟨n, hn, rfl⟩ := fits_int h1
    exact ⟨n, hn, rfl⟩
  exact ⟨ys, rfl, hy⟩
theorem fits_bools {l : List AV} (h : Fits (.slice .bool) l) : ∃ xs : List Bool, l = [.imm (xs.map encB)] := by
  obtain ⟨xs, hx, rfl⟩ := h
  obtain ⟨ys, rfl, _⟩ := list_of encB (fun _ => True) (xs := xs) fun x hx' => by
    obtain ⟨l, h1, _, rfl⟩ := hx x hx'
    obtain ⟨n, rfl⟩ := fits_bool h1
    exact ⟨n, trivial, rfl⟩
  exact ⟨ys, rfl⟩
theorem fits_intV {a : AV} (h : FitsV (.int .i64) a) : ∃ n, in64 n ∧ a = encI n := by
  obtain ⟨l, h, _, rfl⟩ := h
  obtain ⟨n, hn, rfl⟩ := fits_int h
  exact ⟨n, hn, rfl⟩

theorem Try.own : ownKnob Try.prog.godebug = none := by kernel_rfl
theorem Try.laidOut : laidOutB Try.prog = true := by kernel_rfl
end Go.Proofs.Ytihljollfbogeaa
