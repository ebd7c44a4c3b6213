/- When a history is correct: plain laws. No condition. -/
import Derived.Test.YtihljollfbogeaaE1
namespace Go.Proofs.Ytihljollfbogeaa
open Go Go.RowKit

/-- The first of n numbers that is not zero. -/
def firstN : Nat → (Nat → Int) → Int
  | 0, _ => 0
  | n + 1, f => if firstN n f ≠ 0 then firstN n f else f n
theorem firstN_zero {n : Nat} {f : Nat → Int} : firstN n f = 0 ↔ ∀ j, j < n → f j = 0 := by
  induction n with
  | zero => simp [firstN]
  | succ n ih =>
    simp only [firstN]
    constructor
    · intro h
      split at h
      · rename_i h1; exact absurd h h1
      · rename_i h1
        have h2 := ih.1 (by simpa using h1)
        intro j hj
        by_cases e : j = n
        · subst e; exact h
        · exact h2 j (by omega)
    · intro h
      have h1 := ih.2 fun j hj => h j (by omega)
      rw [if_neg (by simp [h1])]
      exact h n (by omega)
theorem firstN_at {n i : Nat} {f : Nat → Int} (hi : i < n) (h : ∀ j, j < i → f j = 0) (h0 : f i ≠ 0) : firstN n f = f i := by
  induction n with
  | zero => omega
  | succ n ih =>
    simp only [firstN]
    by_cases e : i = n
    · subst e
      rw [if_neg (by simp [firstN_zero.2 h])]
    · rw [if_pos (by rw [ih (by omega)]; exact h0), ih (by omega)]
theorem firstN_congr {n : Nat} {f g : Nat → Int} (h : ∀ j, j < n → f j = g j) : firstN n f = firstN n g := by
  induction n with
  | zero => rfl
  | succ n ih => simp only [firstN]; rw [ih fun j hj => h j (by omega), h n (by omega)]

/-- The first place where it holds; -1 if there is none. -/
def idxP {β : Type} (p : β → Bool) (l : List β) : Int := match l.findIdx? p with | some i => (i : Nat) | none => -1
theorem idxP_none {β : Type} {p : β → Bool} {l : List β} (h : ∀ j (hj : j < l.length), p l[j] = false) : idxP p l = -1 := by
  have : l.findIdx? p = none := List.findIdx?_eq_none_iff.2 fun n hn => by
    obtain ⟨j, hj0, rfl⟩ := List.getElem_of_mem hn
    exact h j hj0
  simp [idxP, this]
theorem idxP_at {β : Type} {p : β → Bool} {l : List β} {i : Nat} (hi : i < l.length) (h : ∀ j (hj : j < l.length), j < i → p l[j] = false) (h0 : p l[i] = true) : idxP p l = i := by
  have : l.findIdx? p = some i := List.findIdx?_eq_some_iff_getElem.2 ⟨hi, h0, fun j hji => by simp [h j (by omega) hji]⟩
  simp [idxP, this]
theorem idxP_cases {β : Type} (p : β → Bool) (l : List β) : (idxP p l = -1 ∧ ∀ x ∈ l, p x = false) ∨ ∃ i : Nat, ∃ h : i < l.length, idxP p l = i ∧ p l[i] = true ∧ ∀ j (hj : j < l.length), j < i → p l[j] = false := by
  unfold idxP
  cases h : l.findIdx? p with
  | none => exact .inl ⟨rfl, List.findIdx?_eq_none_iff.1 h⟩
  | some i =>
    obtain ⟨h1, h2, h3⟩ := List.findIdx?_eq_some_iff_getElem.1 h
    exact .inr ⟨i, h1, rfl, h2, fun j hj hji => by simpa using h3 j hji⟩
theorem idxP_lt {β : Type} (p : β → Bool) (l : List β) : idxP p l < l.length := by
  rcases idxP_cases p l with ⟨h, _⟩ | ⟨i, h1, h2, _⟩ <;> omega
theorem idxP_nonneg {β : Type} {p : β → Bool} {l : List β} : 0 ≤ idxP p l ↔ ∃ x ∈ l, p x = true := by
  rcases idxP_cases p l with ⟨h, h1⟩ | ⟨i, h1, h2, h3, _⟩
  · constructor
    · intro h0; omega
    · rintro ⟨x, hx, hp⟩; rw [h1 x hx] at hp; cases hp
  · constructor
    · intro _; exact ⟨_, List.getElem_mem h1, h3⟩
    · intro _; omega
theorem idxP_snoc {β : Type} {p : β → Bool} {l : List β} {x : β} : idxP p (l ++ [x]) = if 0 ≤ idxP p l then idxP p l else if p x = true then (l.length : Int) else -1 := by
  rcases idxP_cases p l with ⟨h, h1⟩ | ⟨i, h1, h2, h3, h4⟩
  · rw [if_neg (by omega)]
    split
    · rename_i hx
      refine (idxP_at (i := l.length) (by simp) (fun j hj hji => ?_) (by simpa using hx)).trans (by simp)
      rw [List.getElem_append_left hji]
      exact h1 _ (List.getElem_mem _)
    · rename_i hx
      refine idxP_none fun j hj => ?_
      by_cases hjl : j < l.length
      · rw [List.getElem_append_left hjl]; exact h1 _ (List.getElem_mem _)
      · have : j = l.length := by simp at hj; omega
        subst this
        simpa using hx
  · rw [if_pos (by omega), h2]
    refine idxP_at (i := i) (by simp; omega) (fun j hj hji => ?_) ?_
    · rw [List.getElem_append_left (by omega)]; exact h4 j (by omega) hji
    · rw [List.getElem_append_left h1]; exact h3

def badSz (n : Int) : Bool := decide (n < 1) || decide (4096 < n)
def sizesE (l : List Int) : Int := if (l.length : Int) < 1 ∨ 8 < (l.length : Int) then 6 else if l.any badSz = true then 2 else 0
def fitsE (l : List Int) (w : Wr) : Int :=
  if w.vol < 0 ∨ (l.length : Int) ≤ w.vol then 7 else if w.data.length = 0 then 1 else if w.start < 0 ∨ l.getD w.vol.toNat 0 - (w.data.length : Int) < w.start then 2 else 0
/-- The place of an event. -/
def atE (l : List Evt) (e : Evt) : Int := idxP (fun x => decide (x = e)) l
/-- How many writes were issued. -/
def cnt (l : List Evt) : Nat := l.countP fun x => decide (x.kind = 0)
def evE (nw : Nat) (pre : List Evt) (x : Evt) : Int :=
  if x.kind = 0 then (if x.wr ≠ (cnt pre : Int) ∨ (nw : Int) ≤ (cnt pre : Int) then 3 else 0)
  else if x.kind ≠ 1 then 3
  else if atE pre ⟨0, x.wr⟩ < 0 then 7
  else if 0 ≤ atE pre x then 8 else 0
def evN (nw : Nat) (l : List Evt) (i : Nat) : Int := match l[i]? with | some x => evE nw (l.take i) x | none => 0
def wrN (sizes : List Int) (l : List Wr) (i : Nat) : Int := match l[i]? with | some w => fitsE sizes w | none => 0
def checkH (h : Hist) : Int :=
  if sizesE h.sizes ≠ 0 then sizesE h.sizes
  else if 4096 < (h.writes.length : Int) then 6
  else if firstN h.writes.length (wrN h.sizes h.writes) ≠ 0 then firstN h.writes.length (wrN h.sizes h.writes)
  else if firstN h.events.length (evN h.writes.length h.events) ≠ 0 then firstN h.events.length (evN h.writes.length h.events)
  else if (cnt h.events : Int) < (h.writes.length : Int) then 3 else 0
/-- The places at which writes were issued and acknowledged. -/
def tlI (l : List Evt) : List Int := (List.range (cnt l)).map fun w => atE l ⟨0, (w : Nat)⟩
def tlA (l : List Evt) : List Int := (List.range (cnt l)).map fun w => atE l ⟨1, (w : Nat)⟩
theorem tlI_len (l : List Evt) : (tlI l).length = cnt l := by simp [tlI]
theorem tlA_len (l : List Evt) : (tlA l).length = cnt l := by simp [tlA]
/-- Events that are possible, one after the other. -/
inductive EvOk (nw : Nat) : List Evt → Prop
  | nil : EvOk nw []
  | snoc (l : List Evt) (x : Evt) (h : EvOk nw l) (hx : evE nw l x = 0) : EvOk nw (l ++ [x])
theorem cnt_snoc (l : List Evt) (x : Evt) : cnt (l ++ [x]) = if x.kind = 0 then cnt l + 1 else cnt l := by
  unfold cnt
  rw [List.countP_append]
  by_cases h : x.kind = 0 <;> simp [h]
theorem atE_snoc (l : List Evt) (x e : Evt) : atE (l ++ [x]) e = if 0 ≤ atE l e then atE l e else if x = e then (l.length : Int) else -1 := by
  unfold atE; rw [idxP_snoc]; simp
theorem atE_lt (l : List Evt) (e : Evt) : atE l e < l.length := idxP_lt _ _
theorem atE_ge (l : List Evt) (e : Evt) : -1 ≤ atE l e := by
  unfold atE
  rcases idxP_cases (fun x => decide (x = e)) l with ⟨h, _⟩ | ⟨i, h1, h2, _⟩ <;> omega
theorem atE_nil (e : Evt) : atE [] e = -1 := rfl
theorem evE_zero {nw : Nat} {l : List Evt} {x : Evt} (h : evE nw l x = 0) : (x.kind = 0 ∧ x.wr = (cnt l : Int) ∧ cnt l < nw) ∨ (x.kind = 1 ∧ 0 ≤ atE l ⟨0, x.wr⟩ ∧ atE l ⟨1, x.wr⟩ < 0) := by
  unfold evE at h
  split at h
  · rename_i h0
    split at h
    · cases h
    · rename_i h1
      exact .inl ⟨h0, by omega, by omega⟩
  · split at h
    · cases h
    · rename_i h1
      split at h
      · cases h
      · split at h
        · cases h
        · rename_i h2 h3
          have hk : x.kind = 1 := by simpa using h1
          refine .inr ⟨hk, by omega, ?_⟩
          have : x = ⟨1, x.wr⟩ := by rw [← hk]
          rw [← this]; omega
/-- A write was issued exactly if its number is below the count. -/
theorem EvOk.issued {nw : Nat} {l : List Evt} (h : EvOk nw l) : cnt l ≤ nw ∧ ∀ w : Int, 0 ≤ atE l ⟨0, w⟩ ↔ 0 ≤ w ∧ w < (cnt l : Int) := by
  induction h with
  | nil => exact ⟨Nat.zero_le _, fun w => by rw [atE_nil]; simp [cnt]⟩
  | snoc l x h hx ih =>
    rcases evE_zero hx with ⟨h1, h2, h3⟩ | ⟨h1, h2, h3⟩
    · refine ⟨by rw [cnt_snoc, if_pos h1]; omega, fun w => ?_⟩
      rw [atE_snoc, cnt_snoc, if_pos h1]
      have := ih.2 w
      have hxe : x = ⟨0, w⟩ ↔ w = (cnt l : Int) := by
        obtain ⟨k, v⟩ := x
        simp only at h1 h2
        subst h1
        simp only [Evt.mk.injEq, true_and]; omega
      split
      · omega
      · split
        · rename_i h5; have := hxe.1 h5; omega
        · rename_i h5; have : ¬ w = (cnt l : Int) := fun e => h5 (hxe.2 e); omega
    · have hc : cnt (l ++ [x]) = cnt l := by rw [cnt_snoc, if_neg (by omega)]
      rw [hc]
      refine ⟨ih.1, fun w => ?_⟩
      rw [atE_snoc]
      have := ih.2 w
      have hxe : x ≠ ⟨0, w⟩ := fun e => by rw [e] at h1; simp at h1
      split
      · omega
      · first | omega | (rw [if_neg hxe]; omega)
/-- What is acknowledged was issued before. -/
theorem EvOk.acked {nw : Nat} {l : List Evt} (h : EvOk nw l) : ∀ w : Int, 0 ≤ atE l ⟨1, w⟩ → 0 ≤ atE l ⟨0, w⟩ ∧ atE l ⟨0, w⟩ < atE l ⟨1, w⟩ := by
  induction h with
  | nil => intro w hw; rw [atE_nil] at hw; omega
  | snoc l x h hx ih =>
    intro w hw
    rw [atE_snoc] at hw
    by_cases h0 : 0 ≤ atE l ⟨1, w⟩
    · have := ih w h0
      rw [atE_snoc, if_pos this.1, atE_snoc, if_pos h0]
      exact this
    · rw [if_neg h0] at hw
      by_cases hxe : x = ⟨1, w⟩
      · rcases evE_zero hx with ⟨h1, _, _⟩ | ⟨h1, h2, h3⟩
        · rw [hxe] at h1; simp at h1
        · have : x.wr = w := by rw [hxe]
          rw [this] at h2
          rw [atE_snoc, if_pos h2, atE_snoc, if_neg h0, if_pos hxe]
          exact ⟨h2, atE_lt _ _⟩
      · rw [if_neg hxe] at hw; omega
theorem getD_range {n i : Nat} {f : Nat → Int} (h : i < n) : ((List.range n).map f)[i]? = some (f i) := by simp [h]
theorem tlI_snoc0 {nw : Nat} {l : List Evt} {x : Evt} (h : EvOk nw l) (h1 : x.kind = 0) (h2 : x.wr = (cnt l : Int)) : tlI (l ++ [x]) = tlI l ++ [(l.length : Int)] ∧ tlA (l ++ [x]) = tlA l ++ [-1] := by
  unfold tlI tlA
  rw [cnt_snoc, if_pos h1, List.range_succ, List.map_append, List.map_append]
  have hx : x = ⟨0, (cnt l : Nat)⟩ := by obtain ⟨k, v⟩ := x; simp only at h1 h2; rw [h1, h2]
  have hk : ∀ w : Int, x ≠ ⟨1, w⟩ := fun w e => by rw [e] at h1; simp at h1
  constructor
  · congr 1
    · refine List.map_congr_left fun w hw => ?_
      have := (h.issued.2 (w : Nat)).2 ⟨by omega, by have := List.mem_range.1 hw; omega⟩
      rw [atE_snoc, if_pos this]
    · simp only [List.map_cons, List.map_nil]
      rw [atE_snoc, if_neg (by rw [h.issued.2]; omega), if_pos hx]
  · congr 1
    · refine List.map_congr_left fun w hw => ?_
      rw [atE_snoc]
      split
      · rfl
      · rw [if_neg (hk _)]
        have := atE_ge l ⟨1, (w : Nat)⟩
        omega
    · simp only [List.map_cons, List.map_nil]
      rw [atE_snoc, if_neg (fun e => by have := (h.acked _ e).1; rw [h.issued.2] at this; omega), if_neg (hk _)]
theorem tlA_snoc1 {nw : Nat} {l : List Evt} {x : Evt} (h : EvOk nw l) (h1 : x.kind = 1) (h3 : atE l ⟨1, x.wr⟩ < 0) (h0 : 0 ≤ x.wr) : tlI (l ++ [x]) = tlI l ∧ tlA (l ++ [x]) = (tlA l).set x.wr.toNat (l.length : Int) := by
  unfold tlI tlA
  rw [cnt_snoc, if_neg (by omega)]
  have hk : ∀ w : Int, x ≠ ⟨0, w⟩ := fun w e => by rw [e] at h1; simp at h1
  constructor
  · refine List.map_congr_left fun w hw => ?_
    have := (h.issued.2 (w : Nat)).2 ⟨by omega, by have := List.mem_range.1 hw; omega⟩
    rw [atE_snoc, if_pos this]
  · apply List.ext_getElem
    · simp
    · intro i hi1 hi2
      simp only [List.getElem_map, List.getElem_range, List.getElem_set]
      rw [atE_snoc]
      by_cases e : x.wr.toNat = i
      · have hw : x.wr = (i : Nat) := by omega
        rw [if_pos e]
        have hx : x = ⟨1, (i : Nat)⟩ := by obtain ⟨k, v⟩ := x; simp only at h1 hw; rw [h1, hw]
        rw [← hw, if_neg (by omega), hw, if_pos hx]
      · rw [if_neg e]
        have hx : x ≠ ⟨1, (i : Nat)⟩ := fun e' => e (by rw [e']; simp)
        rw [if_neg hx]
        have := atE_ge l ⟨1, (i : Nat)⟩
        split <;> omega
/-- The event, as the timeline sees it. -/
theorem evE_tl {nw : Nat} {l : List Evt} {x : Evt} (h : EvOk nw l) : evE nw l x =
    if x.kind = 0 then (if x.wr ≠ ((tlI l).length : Int) ∨ (nw : Int) ≤ x.wr then 3 else 0)
    else if x.kind = 1 then (if x.wr < 0 ∨ ((tlI l).length : Int) ≤ x.wr then 7 else if 0 ≤ (tlA l).getD x.wr.toNat 0 then 8 else 0) else 3 := by
  unfold evE
  rw [tlI_len]
  by_cases h0 : x.kind = 0
  · rw [if_pos h0, if_pos h0]
    by_cases h1 : x.wr = (cnt l : Int)
    · rw [h1]
    · rw [if_pos (.inl h1), if_pos (.inl h1)]
  · rw [if_neg h0, if_neg h0]
    by_cases h1 : x.kind = 1
    · rw [if_neg (by omega), if_pos h1]
      have hi := h.issued.2 x.wr
      by_cases h2 : 0 ≤ x.wr ∧ x.wr < (cnt l : Int)
      · rw [if_neg (by have := hi.2 h2; omega)]
        have hg : (tlA l).getD x.wr.toNat 0 = atE l x := by
          have hx : x = ⟨1, x.wr⟩ := by obtain ⟨k, v⟩ := x; simp only at h1; rw [h1]
          unfold tlA
          rw [List.getD_eq_getElem?_getD, getD_range (by omega)]
          simp only [Option.getD_some]
          rw [show ((x.wr.toNat : Nat) : Int) = x.wr from by omega, ← hx]
        rw [hg, if_neg (show ¬ (x.wr < 0 ∨ (cnt l : Int) ≤ x.wr) by omega)]
      · rw [if_pos (by have : ¬ 0 ≤ atE l ⟨0, x.wr⟩ := fun e => h2 (hi.1 e); omega), if_pos (by omega)]
    · rw [if_pos h1, if_neg h1]
theorem EvOk.of_take {nw : Nat} {l : List Evt} : ∀ {i : Nat}, (∀ j, j < i → evN nw l j = 0) → i ≤ l.length → EvOk nw (l.take i)
  | 0, _, _ => by simpa using EvOk.nil
  | i + 1, h, hi => by
    have ih := EvOk.of_take (i := i) (fun j hj => h j (by omega)) (by omega)
    have hx := h i (by omega)
    have hl : l[i]? = some l[i] := List.getElem?_eq_getElem (by omega)
    unfold evN at hx
    rw [hl] at hx
    rw [List.take_add_one, hl]
    exact .snoc _ _ ih hx
theorem EvOk.take {nw : Nat} {l : List Evt} (h : EvOk nw l) : ∀ j, j < l.length → evN nw l j = 0 := by
  induction h with
  | nil => intro j hj; simp at hj
  | snoc l x h hx ih =>
    intro j hj
    by_cases e : j < l.length
    · have := ih j e
      unfold evN at this ⊢
      rw [List.getElem?_append_left e, List.take_append_of_le_length (by omega)]
      exact this
    · have e : j = l.length := by simp at hj; omega
      subst e
      unfold evN
      simp [hx]
theorem evOk_iff {nw : Nat} {l : List Evt} : EvOk nw l ↔ firstN l.length (evN nw l) = 0 := by
  rw [firstN_zero]
  constructor
  · exact EvOk.take
  · intro h
    have := EvOk.of_take (nw := nw) (l := l) (i := l.length) h (Nat.le_refl _)
    rwa [List.take_length] at this
/-- What a correct history is. -/
structure Right (h : Hist) : Prop where
  sizes : sizesE h.sizes = 0
  few : h.writes.length ≤ 4096
  fits : ∀ w ∈ h.writes, fitsE h.sizes w = 0
  evs : EvOk h.writes.length h.events
  all : cnt h.events = h.writes.length
theorem checkH_zero (h : Hist) : checkH h = 0 ↔ Right h := by
  unfold checkH
  constructor
  · intro hc
    split at hc
    · rename_i h1; exact absurd hc h1
    rename_i h1
    split at hc
    · cases hc
    rename_i h2
    split at hc
    · rename_i h3; exact absurd hc h3
    rename_i h3
    split at hc
    · rename_i h4; exact absurd hc h4
    rename_i h4
    split at hc
    · cases hc
    rename_i h5
    have e := evOk_iff.2 (by simpa using h4)
    refine ⟨by simpa using h1, by omega, fun w hw => ?_, e, by have := e.issued.1; omega⟩
    obtain ⟨j, hj, rfl⟩ := List.getElem_of_mem hw
    have := firstN_zero.1 (show firstN h.writes.length (wrN h.sizes h.writes) = 0 by simpa using h3) j hj
    unfold wrN at this
    rwa [List.getElem?_eq_getElem hj] at this
  · rintro ⟨h1, h2, h3, h4, h5⟩
    rw [if_neg (by simp [h1]), if_neg (by omega), if_neg, if_neg (by simp [evOk_iff.1 h4]), if_neg (by omega)]
    simp only [ne_eq, Decidable.not_not]
    refine firstN_zero.2 fun j hj => ?_
    unfold wrN
    rw [List.getElem?_eq_getElem hj]
    exact h3 _ (List.getElem_mem hj)
end Go.Proofs.Ytihljollfbogeaa
