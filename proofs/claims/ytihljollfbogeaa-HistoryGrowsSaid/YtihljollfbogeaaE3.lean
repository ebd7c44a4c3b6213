/- Plain laws: histories that result from repeated events. No condition. -/
import Derived.Test.YtihljollfbogeaaB42
namespace Go.Proofs.Ytihljollfbogeaa
open Go Go.RowKit
theorem evE_mono {n m : Nat} {l : List Evt} {x : Evt} (h : evE n l x = 0) (hm : n ≤ m) : evE m l x = 0 := by
  unfold evE at h ⊢
  by_cases c : x.kind = 0
  · rw [if_pos c] at h ⊢
    split at h
    · cases h
    · rename_i h1
      rw [if_neg (by omega)]
  · rw [if_neg c] at h ⊢
    exact h
theorem EvOk.mono {n m : Nat} {l : List Evt} (h : EvOk n l) (hm : n ≤ m) : EvOk m l := by
  induction h with
  | nil => exact .nil
  | snoc l x h hx ih => exact .snoc l x ih (evE_mono hx hm)
theorem evE_iss {n : Nat} {l : List Evt} (h : cnt l < n) : evE n l ⟨0, (cnt l : Nat)⟩ = 0 := by
  unfold evE
  rw [if_pos rfl, if_neg (by simp; omega)]
theorem evE_ack {n : Nat} {l : List Evt} {a : Int} (h0 : 0 ≤ atE l ⟨0, a⟩) (h1 : ¬ 0 ≤ atE l ⟨1, a⟩) : evE n l ⟨1, a⟩ = 0 := by
  unfold evE
  rw [if_neg (by simp), if_neg (by simp), if_neg (by simp only; omega), if_neg (by omega)]
theorem Right.issue {h : Hist} (r : Right h) {w : Wr} (hl : h.writes.length < 4096) (hf : fitsE h.sizes w = 0) : Right ⟨h.sizes, h.writes ++ [w], h.events ++ [Evt.mk 0 h.writes.length]⟩ := by
  have hc := r.all
  refine ⟨r.sizes, by simp; omega, fun x hx => ?_, ?_, ?_⟩
  · rcases List.mem_append.1 hx with hx | hx
    · exact r.fits x hx
    · simp at hx; subst hx; exact hf
  · rw [← hc]
    exact .snoc _ _ (r.evs.mono (by simp)) (evE_iss (by simp; omega))
  · rw [cnt_snoc, if_pos rfl]; simp; omega
theorem Right.ack {h : Hist} (r : Right h) {a : Int} (h0 : 0 ≤ a) (h1 : a < h.writes.length) (hn : ¬ 0 ≤ atE h.events ⟨1, a⟩) : Right ⟨h.sizes, h.writes, h.events ++ [Evt.mk 1 a]⟩ := by
  have hc := r.all
  refine ⟨r.sizes, r.few, r.fits, .snoc _ _ r.evs (evE_ack ((r.evs.issued.2 a).2 ⟨h0, by omega⟩) hn), ?_⟩
  rw [cnt_snoc, if_neg (by simp)]; exact hc
theorem rIss_of {h : Hist} (r : Right h) (w : Wr) : (rIss h w = h ∧ ¬ (h.writes.length < 4096 ∧ fitsE h.sizes w = 0)) ∨ (h.writes.length < 4096 ∧ fitsE h.sizes w = 0 ∧ rIss h w = ⟨h.sizes, h.writes ++ [w], h.events ++ [Evt.mk 0 h.writes.length]⟩) := by
  have hc := (checkH_zero h).2 r
  have hi : issueH h w = if 4096 ≤ (h.writes.length : Int) then (Hist.zero, 0, 6) else if fitsE h.sizes w ≠ 0 then (Hist.zero, 0, fitsE h.sizes w) else (Hist.mk h.sizes (h.writes ++ [w]) (h.events ++ [Evt.mk 0 h.writes.length]), (h.writes.length : Int), 0) := by unfold issueH; rw [if_neg (by simp [hc])]
  unfold rIss
  rw [hi]
  by_cases c1 : 4096 ≤ (h.writes.length : Int)
  · rw [if_pos c1]; exact .inl ⟨rfl, by omega⟩
  · rw [if_neg c1]
    by_cases c2 : fitsE h.sizes w = 0
    · rw [if_neg (show ¬ fitsE h.sizes w ≠ 0 by simp [c2]), if_pos rfl]
      exact .inr ⟨by omega, c2, rfl⟩
    · rw [if_pos c2]
      simp only
      rw [if_neg c2]
      exact .inl ⟨rfl, fun h => c2 h.2⟩
theorem rAck_of {h : Hist} (r : Right h) (a : Int) : (rAck h a = h ∧ ¬ (0 ≤ a ∧ a < h.writes.length ∧ ¬ 0 ≤ atE h.events ⟨1, a⟩)) ∨ (0 ≤ a ∧ a < h.writes.length ∧ ¬ 0 ≤ atE h.events ⟨1, a⟩ ∧ rAck h a = ⟨h.sizes, h.writes, h.events ++ [Evt.mk 1 a]⟩) := by
  have hc := (checkH_zero h).2 r
  have hi : ackOf h a = if a < 0 ∨ (h.writes.length : Int) ≤ a then (Hist.zero, 7) else if 0 ≤ atE h.events ⟨1, a⟩ then (Hist.zero, 8) else (Hist.mk h.sizes h.writes (h.events ++ [Evt.mk 1 a]), 0) := by unfold ackOf; rw [if_neg (by simp [hc])]
  unfold rAck
  rw [hi]
  by_cases c1 : a < 0 ∨ (h.writes.length : Int) ≤ a
  · rw [if_pos c1]; exact .inl ⟨rfl, by omega⟩
  · rw [if_neg c1]
    by_cases c2 : 0 ≤ atE h.events ⟨1, a⟩
    · rw [if_pos c2]; exact .inl ⟨rfl, fun h => h.2.2 c2⟩
    · rw [if_neg c2]
      exact .inr ⟨by omega, by omega, c2, rfl⟩
/-- What holds while events are repeated. -/
structure RInv (sizes : List Int) (ws : List Wr) (i : Nat) (s : Hist × Nat) : Prop where
  right : Right s.1
  sz : s.1.sizes = sizes
  le : s.1.writes.length ≤ s.2
  nx : s.2 ≤ ws.length
  ev : s.1.events.length ≤ i
  mem : ∀ w ∈ s.1.writes, w ∈ ws
theorem rInv {sizes : List Int} (ws : List Wr) (es : List Evt) (h0 : sizesE sizes = 0) : ∀ i, i ≤ es.length → RInv sizes ws i (rAt ws es (⟨sizes, [], []⟩, 0) i) := by
  intro i
  induction i with
  | zero =>
    intro _
    rw [rAt_zero]
    exact ⟨⟨h0, Nat.zero_le _, fun w hw => (by cases hw), .nil, rfl⟩, rfl, Nat.le_refl _, Nat.zero_le _, Nat.le_refl _, fun w hw => by cases hw⟩
  | succ i ih =>
    intro hi
    have r := ih (by omega)
    rw [rAt_succ _ _ _ _ (by omega)]
    generalize rAt ws es (⟨sizes, [], []⟩, 0) i = s at *
    obtain ⟨h, nx⟩ := s
    obtain ⟨r1, r2, r3, r4, r5, r6⟩ := r
    simp only at r1 r2 r3 r4 r5 r6
    unfold rStep
    by_cases c1 : es[i].kind = 1
    · rw [if_pos c1]
      rcases rAck_of r1 es[i].wr with ⟨h1, _⟩ | ⟨h1, h2, h3, h4⟩
      · simp only [h1]
        exact ⟨r1, r2, r3, r4, by simp only; omega, r6⟩
      · simp only [h4]
        exact ⟨r1.ack h1 h2 h3, r2, r3, r4, by simp; omega, r6⟩
    · rw [if_neg c1]
      by_cases c2 : nx < ws.length
      · rw [List.getElem?_eq_getElem c2]
        simp only
        rcases rIss_of r1 ws[nx] with ⟨h1, _⟩ | ⟨h1, h2, h3⟩
        · rw [h1]
          exact ⟨r1, r2, by simp only; omega, by simp only; omega, by simp only; omega, r6⟩
        · rw [h3]
          refine ⟨r1.issue h1 h2, r2, by simp; omega, by simp only; omega, by simp; omega, fun w hw => ?_⟩
          rcases List.mem_append.1 hw with hw | hw
          · exact r6 w hw
          · simp at hw; subst hw; exact List.getElem_mem c2
      · rw [List.getElem?_eq_none (by omega)]
        exact ⟨r1, r2, r3, r4, by simp only; omega, r6⟩
theorem cnt_nil : cnt [] = 0 := rfl
/-- The events of a correct history, repeated, come to it. -/
theorem rAt_right {h : Hist} (r : Right h) : ∀ i, i ≤ h.events.length → rAt h.writes h.events (⟨h.sizes, [], []⟩, 0) i = (⟨h.sizes, h.writes.take (cnt (h.events.take i)), h.events.take i⟩, cnt (h.events.take i)) := by
  intro i
  induction i with
  | zero => intro _; rw [rAt_zero]; simp [cnt]
  | succ i ih =>
    intro hi
    have hlt : i < h.events.length := by omega
    have inv := rInv h.writes h.events r.sizes i (by omega)
    have hev := r.evs.take i hlt
    rw [rAt_succ _ _ _ _ hlt]
    rw [ih (by omega)] at inv ⊢
    unfold evN at hev
    rw [List.getElem?_eq_getElem hlt] at hev
    simp only at hev
    have htake : h.events.take (i + 1) = h.events.take i ++ [h.events[i]] := by rw [List.take_add_one, List.getElem?_eq_getElem hlt]; rfl
    rw [htake, cnt_snoc]
    have hiss := (inv.right.evs).issued
    generalize h.events[i] = x at *
    generalize h.events.take i = l at *
    have hlen : (h.writes.take (cnt l)).length = cnt l := inv.right.all.symm
    unfold rStep
    rcases evE_zero hev with ⟨h1, h2, h3⟩ | ⟨h1, h2, h3⟩
    · rw [if_neg (by omega), if_pos h1, List.getElem?_eq_getElem h3]
      simp only
      have hf := r.fits h.writes[cnt l] (List.getElem_mem h3)
      have h4 := r.few
      rcases rIss_of inv.right h.writes[cnt l] with ⟨_, hn⟩ | ⟨_, _, hE⟩
      · exact absurd ⟨by simp only; rw [hlen]; omega, hf⟩ hn
      · rw [hE]
        simp only
        rw [hlen, List.take_add_one, List.getElem?_eq_getElem h3]
        have : x = ⟨0, (cnt l : Nat)⟩ := by obtain ⟨k, v⟩ := x; simp only at h1 h2; rw [h1, h2]
        rw [← this]; rfl
    · rw [if_pos h1, if_neg (by omega)]
      simp only
      have hx : x = ⟨1, x.wr⟩ := by obtain ⟨k, v⟩ := x; simp only at h1; rw [h1]
      have h4 := (hiss.2 x.wr).1 h2
      rcases rAck_of inv.right x.wr with ⟨_, hn⟩ | ⟨_, _, _, hE⟩
      · exact absurd ⟨h4.1, by simp only; rw [hlen]; exact h4.2, by simp only; omega⟩ hn
      · rw [hE]
        simp only
        rw [← hx]
theorem newH_zero {l : List Int} (h : sizesE l = 0) : newH l = (⟨l, [], []⟩, 0) := by unfold newH; rw [if_neg (by simp [h])]
theorem newH_err {l : List Int} (h : sizesE l ≠ 0) : newH l = (.zero, sizesE l) := by unfold newH; rw [if_pos h]
theorem rplH_ok {sizes : List Int} (h : sizesE sizes = 0) (ws : List Wr) (es : List Evt) : rplH sizes ws es = ((rAt ws es (⟨sizes, [], []⟩, 0) es.length).1, true) := by
  unfold rplH; rw [newH_zero h, if_neg (by simp)]
theorem rplH_err {sizes : List Int} (h : sizesE sizes ≠ 0) (ws : List Wr) (es : List Evt) : rplH sizes ws es = (.zero, false) := by
  unfold rplH; rw [newH_err h, if_pos h]
theorem rplH_right {h : Hist} (r : Right h) : rplH h.sizes h.writes h.events = (h, true) := by
  rw [rplH_ok r.sizes, rAt_right r _ (Nat.le_refl _), List.take_length, r.all, List.take_length]
theorem rplH_inv {sizes : List Int} (h : sizesE sizes = 0) (ws : List Wr) (es : List Evt) : Right (rplH sizes ws es).1 ∧ (rplH sizes ws es).1.writes.length ≤ ws.length ∧ (rplH sizes ws es).1.events.length ≤ es.length ∧ (rplH sizes ws es).1.sizes = sizes ∧ ∀ w ∈ (rplH sizes ws es).1.writes, w ∈ ws := by
  have r := rInv ws es h es.length (Nat.le_refl _)
  rw [rplH_ok h]
  exact ⟨r.right, Nat.le_trans r.le r.nx, r.ev, r.sz, r.mem⟩
end Go.Proofs.Ytihljollfbogeaa
