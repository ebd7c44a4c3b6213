/- Plain laws of closed sets. No condition. -/
import Derived.Test.YtihljollfbogeaaE4
import Derived.Test.YtihljollfbogeaaB45
namespace Go.Proofs.Ytihljollfbogeaa
open Go Go.RowKit
/-- Growing, and within the range. -/
def SetOk (nw : Nat) (l : List Int) : Prop := (∀ x ∈ l, 0 ≤ x ∧ x < nw) ∧ l.Pairwise (· < ·)
theorem anyS_false_of {nw : Nat} {l : List Int} (h : SetOk nw l) : anyS nw l = false := by
  unfold anyS
  refine List.any_eq_false.2 fun i hi => ?_
  have hi := List.mem_range.1 hi
  unfold badS
  have hget : l.getD i 0 = l[i] := by simp [hi]
  have h1 := h.1 _ (List.getElem_mem hi)
  rw [hget]
  simp only [Bool.not_eq_true, Bool.or_eq_false_iff, decide_eq_false_iff_not, Bool.and_eq_false_iff]
  refine ⟨⟨by omega, by omega⟩, ?_⟩
  by_cases c : 0 < i
  · right
    have hp := List.pairwise_iff_getElem.1 h.2 (i - 1) i (by omega) hi (by omega)
    rw [show l.getD (i - 1) 0 = l[i - 1] by rw [List.getD_eq_getElem?_getD, List.getElem?_eq_getElem (by omega), Option.getD_some]]
    omega
  · left; exact c
theorem selL_mem {p : Int → Bool} {n : Nat} {x : Int} : x ∈ selL p n ↔ (0 ≤ x ∧ x < n) ∧ p x = true := by
  unfold selL
  rw [List.mem_filter, List.mem_map]
  constructor
  · rintro ⟨⟨a, ha, rfl⟩, h⟩
    have := List.mem_range.1 ha
    exact ⟨⟨by omega, by omega⟩, h⟩
  · rintro ⟨⟨h1, h2⟩, h⟩
    exact ⟨⟨x.toNat, List.mem_range.2 (by omega), by omega⟩, h⟩
theorem selL_set (p : Int → Bool) {n m : Nat} (hm : n ≤ m) : SetOk m (selL p n) := by
  refine ⟨fun x hx => by have := (selL_mem.1 hx).1; omega, ?_⟩
  unfold selL
  refine List.Pairwise.filter _ ?_
  rw [List.pairwise_map]
  exact List.Pairwise.imp (fun {a b} h => by omega) (List.pairwise_lt_range (n := n))
theorem anyC_false {l : List Evt} {nw : Nat} {set : List Int} : anyC l nw set = false ↔ ∀ b ∈ set, ∀ a : Nat, a < nw → beforeE l a b = true → (a : Int) ∈ set := by
  unfold anyC
  rw [List.any_eq_false]
  constructor
  · intro h b hb a ha hab
    obtain ⟨i, hi, rfl⟩ := List.getElem_of_mem hb
    have := h i (List.mem_range.2 hi)
    unfold badC at this
    rw [Bool.not_eq_true, List.any_eq_false] at this
    have := this a (List.mem_range.2 ha)
    unfold badA at this
    rw [show set.getD i 0 = set[i] by simp [hi], hab] at this
    simpa using this
  · intro h i hi
    have hi := List.mem_range.1 hi
    unfold badC
    rw [Bool.not_eq_true, List.any_eq_false]
    intro a ha
    have ha := List.mem_range.1 ha
    unfold badA
    rw [show set.getD i 0 = set[i] by simp [hi]]
    by_cases c : beforeE l a set[i] = true
    · simp [h _ (List.getElem_mem hi) a ha c]
    · simp [c]
theorem closedH_of {h : Hist} (r : Right h) {set : List Int} (hs : SetOk h.writes.length set) (hc : ∀ b ∈ set, ∀ a : Nat, a < h.writes.length → beforeE h.events a b = true → (a : Int) ∈ set) : closedH h set = true := by
  unfold closedH
  rw [(checkH_zero h).2 r, anyS_false_of hs, anyC_false.2 hc]
  rfl
theorem closedH_cl {h : Hist} {set : List Int} (hc : closedH h set = true) : ∀ b ∈ set, ∀ a : Nat, a < h.writes.length → beforeE h.events a b = true → (a : Int) ∈ set := by
  unfold closedH at hc
  simp only [Bool.and_eq_true, Bool.not_eq_true'] at hc
  exact anyC_false.1 hc.2.2
theorem closed_first {h : Hist} (r : Right h) {i : Nat} (hi : i ≤ h.writes.length) : closedH h (selL (fun _ => true) i) = true :=
  closedH_of r (selL_set _ hi) fun b hb a ha hab => by
    have h1 := before_lt r.evs hab
    have h2 := (selL_mem.1 hb).1
    exact selL_mem.2 ⟨⟨by omega, by omega⟩, rfl⟩
theorem ackH_sel {h : Hist} (r : Right h) (n : Int) : ackH h n = selL (fun a => decide (0 ≤ atE h.events ⟨1, a⟩) && decide (atE h.events ⟨1, a⟩ < n)) h.writes.length := by
  unfold ackH
  rw [if_pos ((checkH_zero h).2 r)]
  rfl
theorem closed_ack {h : Hist} (r : Right h) (n : Int) : closedH h (ackH h n) = true := by
  rw [ackH_sel r]
  refine closedH_of r (selL_set _ (Nat.le_refl _)) fun b hb a ha hab => ?_
  have h2 := (selL_mem.1 hb).2
  simp only [Bool.and_eq_true, decide_eq_true_eq] at h2
  have h3 := r.evs.acked b h2.1
  have h4 := beforeE_iff.1 hab
  refine selL_mem.2 ⟨⟨by omega, by omega⟩, ?_⟩
  simp only [Bool.and_eq_true, decide_eq_true_eq]
  omega
theorem closed_union {h : Hist} (r : Right h) {s t : List Int} (hs : closedH h s = true) (ht : closedH h t = true) : closedH h (selL (inU s t) h.writes.length) = true :=
  closedH_of r (selL_set _ (Nat.le_refl _)) fun b hb a ha hab => by
    have h2 := (selL_mem.1 hb).2
    simp only [inU, Bool.or_eq_true, decide_eq_true_eq] at h2
    refine selL_mem.2 ⟨⟨by omega, by omega⟩, ?_⟩
    simp only [inU, Bool.or_eq_true, decide_eq_true_eq]
    rcases h2 with h2 | h2
    · exact .inl (closedH_cl hs b h2 a ha hab)
    · exact .inr (closedH_cl ht b h2 a ha hab)
theorem closed_both {h : Hist} (r : Right h) {s t : List Int} (hs : closedH h s = true) (ht : closedH h t = true) : closedH h (selL (inV s t) h.writes.length) = true :=
  closedH_of r (selL_set _ (Nat.le_refl _)) fun b hb a ha hab => by
    have h2 := (selL_mem.1 hb).2
    simp only [inV, Bool.and_eq_true, decide_eq_true_eq] at h2
    refine selL_mem.2 ⟨⟨by omega, by omega⟩, ?_⟩
    simp only [inV, Bool.and_eq_true, decide_eq_true_eq]
    exact ⟨closedH_cl hs b h2.1 a ha hab, closedH_cl ht b h2.2 a ha hab⟩
end Go.Proofs.Ytihljollfbogeaa
