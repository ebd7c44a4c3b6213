/- Tables of what is known of functions. No condition. -/
import Derived.Test.YtihljollfbogeaaC2
namespace Go.Proofs.Ytihljollfbogeaa
open Go Go.RowKit
abbrev X := List AV → Option AV
/-- Known, and kept as a table's row. -/
def Known (f : FuncId) (k : X) : Prop := ∀ l r, k l = some r → Enters Try.prog f ∧ Good Try.prog f l r
theorem known_nil : ∀ p ∈ ([] : List (FuncId × X)), ∀ l r, p.2 l = some r → Enters Try.prog p.1 ∧ Good Try.prog p.1 l r := fun p hp => by cases hp
theorem known_more {f : FuncId} {k : X} {t : List (FuncId × X)} (h : Known f k) (ht : ∀ p ∈ t, ∀ l r, p.2 l = some r → Enters Try.prog p.1 ∧ Good Try.prog p.1 l r) : ∀ p ∈ (f, k) :: t, ∀ l r, p.2 l = some r → Enters Try.prog p.1 ∧ Good Try.prog p.1 l r := fun p hp => by
  rcases List.mem_cons.1 hp with rfl | hp
  · exact h
  · exact ht p hp

theorem know {Y : Type} {enc : Y → List AV} {pre : Y → Prop} {res : Y → AV} {f : FuncId} (h : ∀ x, pre x → Enters Try.prog f ∧ Good Try.prog f (enc x) (res x)) : Known f (hnd enc pre res) := fun l r hr => hnd_ok (Q := fun l r => Enters Try.prog f ∧ Good Try.prog f l r) h l r hr
theorem none_ok : HandOk Try.prog (mkH []) := mkH_ok known_nil
theorem one_inj (x y : Int) (h : [encI x] = [encI y]) : x = y := encI_inj x y (by simpa using h)
def in64 (n : Int) : Prop := -9223372036854775808 ≤ n ∧ n < 9223372036854775808
theorem hClone_ints {xs : List Int} (hx : xs.length ≤ 1073741824) : hClone 1 [.imm (xs.map encI)] = some (.imm (xs.map encI)) := by
  have h1 : (xs.map encI).all (okEl 1) = true := by simp [okEl, encI, AV.storable, AV.cells, AV.one]
  have h2 := encI_pure xs
  have h3 : (xs.map encI).length ≤ LIM := by simpa [LIM] using hx
  simp only [hClone]
  rw [if_pos ⟨h1, h2, h3⟩, encI_norm]
end Go.Proofs.Ytihljollfbogeaa
