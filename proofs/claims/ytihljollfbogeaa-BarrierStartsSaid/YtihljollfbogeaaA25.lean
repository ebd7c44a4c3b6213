/- A drawn region that writes nothing and calls nobody is a plain one. No condition. -/
import Derived.Test.YtihljollfbogeaaA24
namespace Go.Proofs.Ytihljollfbogeaa
open Go Go.RowKit

/-- Writes nothing, calls nobody. -/
def COp.mute : COp → Bool
  | .alloc _ | .box _ | .make .. | .mk0 .. | .lit .. | .mnew | .appZ .. | .store .. | .app .. | .cpy .. | .clr .. | .mput .. | .call .. | .callv .. => false
  | _ => true
def Ev.reads : Ev → Bool
  | .nothing => true
  | .simple _ none => true
  | _ => false
def muteIn (ops : List CIns) (pairs : List (Nat × Nat)) : Bool := (ops.all fun i => i.op.mute) && pairs.all fun p => decide (p.1 < ops.length) && decide (p.2 < ops.length)

section
variable {H : Hand} {I : Inl} {N q : Nat}

theorem mute_spec {c : COp} (h : c.mute = true) : c.isCall = false ∧ ∀ n e, c.wr n e = none := by
  cases c <;> first | exact ⟨rfl, fun _ _ => rfl⟩ | (simp [COp.mute] at h)
theorem opD_mute {c : COp} (h : c.mute = true) (n : Nat) (s : St) : (opD H I n c s).map (fun r => (r.1, (s.1, r.2.1))) = opA H I n c s ∧ ∀ r, opD H I n c s = some r → r.2.2.reads = true := by
  obtain ⟨h1, h2⟩ := mute_spec h
  have e1 : opD H I n c s = ((c.ev n s.1 s.2).map fun q => (q.1, appD s.2 q.2, .simple (c.rd n s.1) (c.wr n s.1))) := by cases c <;> first | rfl | (simp [COp.isCall] at h1)
  have e2 : opA H I n c s = ((c.ev n s.1 s.2).map fun q => (q.1, ((s.1, appD s.2 q.2) : St))) := by cases c <;> first | rfl | (simp [COp.isCall] at h1)
  rw [e1, e2, h2]
  refine ⟨by cases c.ev n s.1 s.2 <;> rfl, fun r hr => ?_⟩
  obtain ⟨x, _, rfl⟩ := Option.map_eq_some_iff.1 hr
  rfl
theorem insD_mute {i : CIns} (h : i.op.mute = true) (s : St) : (insD H I q i s).map (·.1) = insA H I q i s ∧ ∀ r, insD H I q i s = some r → r.2.reads = true := by
  obtain ⟨d, g, c⟩ := i
  obtain ⟨h1, h2⟩ := opD_mute (H := H) (I := I) (c := c) h (nameOf q d) s
  have key : ((opD H I (nameOf q d) c s).map fun r => (((edst s.1 d r.1, r.2.1) : St), r.2.2)).map (·.1) = (opA H I (nameOf q d) c s).map fun r => (edst r.2.1 d r.1, r.2.2) := by
    rw [← h1]; cases opD H I (nameOf q d) c s <;> rfl
  have key2 : ∀ r, ((opD H I (nameOf q d) c s).map fun r => (((edst s.1 d r.1, r.2.1) : St), r.2.2)) = some r → r.2.reads = true := fun r hr => by
    obtain ⟨x, hx, rfl⟩ := Option.map_eq_some_iff.1 hr
    exact h2 x hx
  cases g with
  | none => exact ⟨key, key2⟩
  | some g =>
    obtain ⟨g, want⟩ := g
    simp only [insD, insA]
    split
    · split
      · exact ⟨key, key2⟩
      · exact ⟨rfl, fun r hr => by cases hr; rfl⟩
    · exact ⟨rfl, fun r hr => by cases hr; rfl⟩
    · exact ⟨rfl, fun r hr => by cases hr⟩
theorem drawA_mute : ∀ {ops : List CIns} (s : St), (ops.all fun i => i.op.mute) = true → (drawA H I q ops s).map (·.1) = regA H I q ops s ∧ ∀ r, drawA H I q ops s = some r → r.2.length = ops.length ∧ ∀ x ∈ r.2, x.reads = true
  | [], s, _ => ⟨rfl, fun r hr => by cases hr; exact ⟨rfl, fun x hx => by cases hx⟩⟩
  | i :: ops, s, h => by
    simp only [List.all_cons, Bool.and_eq_true] at h
    obtain ⟨h1, h2⟩ := insD_mute (H := H) (I := I) (q := q) h.1 s
    simp only [drawA, regA]
    rw [← h1]
    cases hd : insD H I q i s with
    | none => exact ⟨rfl, fun r hr => by cases hr⟩
    | some x =>
      obtain ⟨h3, h4⟩ := drawA_mute x.1 h.2
      simp only [Option.bind_some, Option.map_some]
      rw [← h3]
      refine ⟨by cases drawA H I q ops x.1 <;> rfl, fun r hr => ?_⟩
      obtain ⟨y, hy, rfl⟩ := Option.map_eq_some_iff.1 hr
      obtain ⟨h5, h6⟩ := h4 y hy
      refine ⟨by simp [h5], fun z hz => ?_⟩
      rcases List.mem_cons.1 hz with rfl | hz
      · exact h2 x hd
      · exact h6 z hz
theorem indep_reads {x y : Ev} (hx : x.reads = true) (hy : y.reads = true) : indep x y = true := by
  cases x with
  | nothing => rfl
  | simple r w => cases w with
    | some _ => cases hx
    | none => cases y with
      | nothing => rfl
      | simple r' w' => cases w' with
        | some _ => cases hy
        | none => rfl
      | call => cases hy
  | call => cases hx

theorem run_draw {ops : List CIns} {pairs : List (Nat × Nat)} (h : muteIn ops pairs = true) (s : St) : run H I N q (.draw ops pairs) s = (regA H I q ops s).map toNorm := by
  simp only [muteIn, Bool.and_eq_true] at h
  obtain ⟨h1, h2⟩ := drawA_mute (H := H) (I := I) (q := q) s h.1
  simp only [run]
  rw [← h1]
  cases hd : drawA H I q ops s with
  | none => rfl
  | some r =>
    obtain ⟨h3, h4⟩ := h2 r hd
    have : indeps r.2 pairs = true := List.all_eq_true.2 fun p hp => by
      have := List.all_eq_true.1 h.2 p hp
      simp only [Bool.and_eq_true, decide_eq_true_eq] at this
      rw [List.getElem?_eq_getElem (by omega), List.getElem?_eq_getElem (by omega)]
      exact indep_reads (h4 _ (List.getElem_mem _)) (h4 _ (List.getElem_mem _))
    simp only [Option.bind_some, Option.map_some, this, if_true]
    rfl

end
end Go.Proofs.Ytihljollfbogeaa
