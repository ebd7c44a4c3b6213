/- What repeated events answer. No condition. -/
import Derived.Test.YtihljollfbogeaaE3
import Derived.Test.YtihljollfbogeaaD12
namespace Go.Proofs.Ytihljollfbogeaa
open Go Go.RowKit
theorem inv_okH {sizes : List Int} {ws : List Wr} {i : Nat} {s : Hist × Nat} (r : RInv sizes ws i s) (h1 : sizes.length ≤ big) (h2 : ws.length ≤ big) (h3 : i ≤ big) (h4 : ∀ w ∈ ws, w.data.length ≤ big) : OkH s.1 :=
  ⟨by rw [r.sz]; exact h1, Nat.le_trans r.le (Nat.le_trans r.nx h2), Nat.le_trans r.ev h3, fun w hw => h4 w (r.mem w hw)⟩
def enc85 (p : Hist) : List AV := [encIs p.sizes, encWs p.writes, encEs p.events]
theorem enc85_inj (x y : Hist) (h : enc85 x = enc85 y) : x = y := by
  obtain ⟨a1, a2, a3⟩ := x
  obtain ⟨b1, b2, b3⟩ := y
  simp only [enc85, List.cons.injEq, and_true] at h
  rw [encIs_inj _ _ h.1, encWs_inj _ _ h.2.1, encEs_inj _ _ h.2.2]
noncomputable def G31 : Hand := mkH [(53, x53), (74, x74), (76, x76)]
theorem G31_ok : HandOk Try.prog G31 := mkH_ok <| known_more x53_ok <| known_more x74_ok <| known_more x76_ok known_nil
theorem newH_iff {l : List Int} (h : (newH l).2 = 0) : sizesE l = 0 := by
  by_cases c : sizesE l = 0
  · exact c
  · rw [newH_err c] at h; exact h
theorem rAt_ok {p : Hist} (hp : OkH p) (h0 : (newH p.sizes).2 = 0) {i : Nat} (hi : i ≤ p.events.length) : OkH (rAt p.writes p.events ((newH p.sizes).1, 0) i).1 := by
  have h1 := newH_iff h0
  rw [newH_zero h1]
  exact inv_okH (rInv p.writes p.events h1 i hi) hp.sizes hp.writes (Nat.le_trans hi hp.events) hp.data
noncomputable def x85 : X := hnd enc85 OkH (fun p => .tup [(rplH p.sizes p.writes p.events).1.enc, encB (rplH p.sizes p.writes p.events).2])
theorem x85_ok : Known 85 x85 := know fun p hp => by
  have b1 := hp.writes
  have b2 := hp.events
  simp only [big] at b1 b2
  refine good_of_ends G31_ok no_inl mixed Try.func85 k85 (replay85_run G31 (fun _ _ _ _ => none) (NH p) p.sizes p.writes p.events (by omega) (by omega) (by unfold NH; omega) (x53_eq hp.sizes) (fun h0 i hi => ?_) (fun h0 i w hi hw => ?_))
  · exact x76_eq (rAt_ok hp h0 (Nat.le_of_lt hi)) _
  · exact x74_eq (rAt_ok hp h0 (Nat.le_of_lt hi)) (hp.data w (List.mem_of_getElem? hw))
theorem x85_eq {p : Hist} (hp : OkH p) : x85 [encIs p.sizes, encWs p.writes, encEs p.events] = some (.tup [(rplH p.sizes p.writes p.events).1.enc, encB (rplH p.sizes p.writes p.events).2]) := hnd_eq (enc := enc85) (x := p) enc85_inj hp
noncomputable def G32 : Hand := mkH [(28, x28), (85, x85)]
theorem G32_ok : HandOk Try.prog G32 := mkH_ok <| known_more x28_ok <| known_more x85_ok known_nil
noncomputable def x78 : X := hnd oneH (fun _ => True) (fun p => .tup [(stepsH p).1.enc, encB (stepsH p).2])
theorem x78_ok : Known 78 x78 := know fun p _ => good_of_ends G32_ok no_inl mixed Try.func78 k78 (steps78_run G32 (fun _ _ _ _ => none) 0 0 p (x28_eq p) (fun hf => x85_eq (fewH_ok hf)))
theorem x78_eq (p : Hist) : x78 [p.enc] = some (.tup [(stepsH p).1.enc, encB (stepsH p).2]) := hnd_eq (enc := oneH) oneH_inj trivial
theorem rplH_okH {p : Hist} (hp : OkH p) : OkH (rplH p.sizes p.writes p.events).1 := by
  by_cases h0 : sizesE p.sizes = 0
  · obtain ⟨_, h2, h3, h4, h5⟩ := rplH_inv h0 p.writes p.events
    exact ⟨by rw [h4]; exact hp.sizes, Nat.le_trans h2 hp.writes, Nat.le_trans h3 hp.events, fun w hw => hp.data w (h5 w hw)⟩
  · rw [rplH_err h0]; exact okZero
/-- What the steps of the laws result in. -/
theorem stepsH_ok (p : Hist) : OkH (stepsH p).1 ∧ ((stepsH p).2 = true → Right (stepsH p).1 ∧ (stepsH p).1.writes.length ≤ 40 ∧ (stepsH p).1.events.length ≤ 90) := by
  unfold stepsH
  by_cases hf : fewH p = true
  · rw [if_pos hf]
    refine ⟨rplH_okH (fewH_ok hf), fun h => ?_⟩
    have h0 : sizesE p.sizes = 0 := by
      by_cases c : sizesE p.sizes = 0
      · exact c
      · rw [rplH_err c] at h; cases h
    obtain ⟨h1, h2, h3, _⟩ := rplH_inv h0 p.writes p.events
    unfold fewH at hf
    simp only [Bool.and_eq_true, decide_eq_true_eq, Bool.not_eq_true'] at hf
    exact ⟨h1, by omega, by omega⟩
  · rw [if_neg hf]
    exact ⟨okZero, fun h => by cases h⟩
end Go.Proofs.Ytihljollfbogeaa
