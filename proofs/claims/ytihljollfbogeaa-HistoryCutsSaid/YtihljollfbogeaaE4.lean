/- Plain laws of the order of writes. No condition. -/
import Derived.Test.YtihljollfbogeaaE3
namespace Go.Proofs.Ytihljollfbogeaa
open Go Go.RowKit
theorem beforeE_iff {l : List Evt} {a b : Int} : beforeE l a b = true ↔ 0 ≤ atE l ⟨1, a⟩ ∧ atE l ⟨1, a⟩ < atE l ⟨0, b⟩ := by
  unfold beforeE; simp
/-- Writes are issued in the order of their numbers. -/
theorem EvOk.order {nw : Nat} {l : List Evt} (h : EvOk nw l) : ∀ a b : Int, 0 ≤ a → a < b → 0 ≤ atE l ⟨0, b⟩ → atE l ⟨0, a⟩ < atE l ⟨0, b⟩ := by
  induction h with
  | nil => intro a b _ _ hb; rw [atE_nil] at hb; omega
  | snoc l x h hx ih =>
    intro a b h0 hab hb
    have hi := h.issued.2
    rw [atE_snoc] at hb
    by_cases hb' : 0 ≤ atE l ⟨0, b⟩
    · have hal := (hi a).2 ⟨h0, by have := (hi b).1 hb'; omega⟩
      rw [atE_snoc, if_pos hal, atE_snoc, if_pos hb']
      exact ih a b h0 hab hb'
    · rw [if_neg hb'] at hb
      by_cases hxe : x = ⟨0, b⟩
      · rcases evE_zero hx with ⟨h1, h2, h3⟩ | ⟨h1, _, _⟩
        · have hbc : b = (cnt l : Int) := by rw [hxe] at h2; exact h2
          have hal := (hi a).2 ⟨h0, by omega⟩
          rw [atE_snoc, if_pos hal, atE_snoc, if_neg hb', if_pos hxe]
          exact atE_lt _ _
        · rw [hxe] at h1; simp at h1
      · rw [if_neg hxe] at hb; omega
theorem before_lt {nw : Nat} {l : List Evt} (h : EvOk nw l) {a b : Int} (hab : beforeE l a b = true) : a < b := by
  obtain ⟨h1, h2⟩ := beforeE_iff.1 hab
  have h3 := h.acked a h1
  by_cases c : a < b
  · exact c
  · have hi := (h.issued.2 b).1 (by omega)
    by_cases e : a = b
    · subst e; omega
    · have := h.order b a hi.1 (by omega) h3.1
      omega
theorem before_self {nw : Nat} {l : List Evt} (h : EvOk nw l) (a : Int) : beforeE l a a = false := by
  rcases e : beforeE l a a with _ | _
  · rfl
  · have := before_lt h e; omega
theorem before_trans {nw : Nat} {l : List Evt} (h : EvOk nw l) {a b c : Int} (h1 : beforeE l a b = true) (h2 : beforeE l b c = true) : beforeE l a c = true := by
  rw [beforeE_iff] at *
  have := h.acked b h2.1
  omega
theorem before_cross {l : List Evt} {a b c d : Int} (h1 : beforeE l a b = true) (h2 : beforeE l c d = true) (h3 : beforeE l a d = false) : beforeE l c b = true := by
  have h3' : ¬ (0 ≤ atE l ⟨1, a⟩ ∧ atE l ⟨1, a⟩ < atE l ⟨0, d⟩) := fun e => by rw [beforeE_iff.2 e] at h3; cases h3
  rw [beforeE_iff] at *
  omega
theorem beforeH_eq {h : Hist} (r : Right h) (a b : Int) : beforeH h a b = beforeE h.events a b := by
  unfold beforeH; rw [(checkH_zero h).2 r]; simp
end Go.Proofs.Ytihljollfbogeaa
