/- The abstract operations on structs and maps are those of the machine. No condition. -/
import Derived.Test.YtihljollfbogeaaA10
import Derived.MapKept
namespace Go.Proofs.Ytihljollfbogeaa
open Go Go.RowKit

/-- A part of a struct. -/
def oField (P : Program) (t : TypeId) (off : Nat) (x : AV) : Option AV :=
  match x with
  | .agg cs => partA (aggB P t) (P.cellsOf t) off cs
  | _ => none

def zeroOf (P : Program) (t : TypeId) : Option Value := (P.info? t).bind (·.zero)
/-- Where the parts of a struct or an array lie: place and size. -/
def placesA (P : Program) (t : TypeId) (i : Nat) : Option (Nat × Nat) :=
  match P.underlying t with
  | some (.struct fs) => (fs[i]?).map fun f => (f.offset, P.cellsOf f.type)
  | some (.array _ e) => some (i * P.cellsOf e, P.cellsOf e)
  | _ => none
def buildT (P : Program) (t : TypeId) : Bool :=
  (match P.info? t with | some i => i.zero.isSome | none => false) &&
  match P.underlying t with
  | some (.struct fs) => fs.all fun f => hasT P f.type
  | some (.array _ e) => hasT P e
  | _ => false
def oBuild (P : Program) (t : TypeId) (parts : List (Nat × AV)) : Option AV :=
  match zeroOf P t with
  | some z => match ofVal z with
    | .agg cs => (fillA (placesA P t) cs parts).map .agg
    | _ => none
  | none => none

section
variable {P : Program} {w : World} {α : Al} {base : Nat} {h : Hp} {ok : Nat → Prop}

theorem field_ok {s : TypeId} {fs : Array Field} {i : Nat} {f : Field} {x v : AV} {u : Value} (hs : P.underlying s = some (.struct fs)) (hf : fs[i]? = some f) (ht : hasT P f.type = true)
    (ho : oField P f.type f.offset x = some v) (hx : V w ok α x u) : ∃ r, (Instr.field s u i).run P w = .ok r w ∧ V w ok α v r := by
  unfold oField at ho
  split at ho
  · rename_i cs
    obtain ⟨us, rfl, hc⟩ := hx
    have hrun : (Instr.field s (.agg us) i).run P w = (part f.type us f.offset).run P w := by simp [Instr.field, run_underlying hs, hf, asAgg]
    rw [hrun]
    unfold part
    simp only [Sem.run_bind, run_isAgg' ht, Result.andThen_ok]
    unfold partA at ho
    cases hagg : aggB P f.type
    · simp only [hagg, Bool.false_eq_true, if_false] at ho ⊢
      have hlt : f.offset < us.size := by have := (List.getElem?_eq_some_iff.1 ho).1; have := hc.1; simp at this; omega
      have hu : us.toList[f.offset]? = some us[f.offset] := by simp [hlt]
      refine ⟨us[f.offset], by simp [hlt], V.of_V1 (hc.2 _ _ _ ho hu).1⟩
    · simp only [hagg, if_true] at ho ⊢
      split at ho
      · rename_i hle
        cases ho
        refine ⟨.agg (us.extract f.offset (f.offset + P.cellsOf f.type)), by simp [run_size' ht], _, rfl, ?_, fun j a u ha hu => ?_⟩
        · have := hc.1; simp at this ⊢; omega
        · rw [List.getElem?_take] at ha
          split at ha
          · rename_i hj
            rw [List.getElem?_drop] at ha
            refine hc.2 (f.offset + j) a u ha ?_
            simp [Array.toList_extract, List.extract_eq_take_drop, List.getElem?_take] at hu
            have := hu.2
            simpa using this
          · cases ha
      · cases ho
  · cases ho

theorem VC.splice {cs new : List AV} {us news : List Value} {c : Nat} (h1 : VC w ok α cs us) (h2 : VC w ok α new news) (hle : c + new.length ≤ cs.length) :
    VC w ok α (setCellsA cs c new) (us.take c ++ news ++ us.drop (c + news.length)) := by
  have hn := h2.1
  have hu := h1.1
  refine ⟨by rw [length_setCellsA hle]; simp; omega, fun i a u ha hu' => ?_⟩
  rw [setCellsA, splice_get cs new c i hle] at ha
  rw [splice_get us news c i (by omega)] at hu'
  rw [hn] at hu'
  split at ha
  · rename_i hc
    rw [if_pos hc] at hu'
    exact h2.2 _ a u ha hu'
  · rename_i hc
    rw [if_neg hc] at hu'
    exact h1.2 _ a u ha hu'

theorem fill_ok {places : Nat → Option (Nat × Nat)} : ∀ {parts : List (Nat × AV)} {uparts : List (Nat × Value)} {cs cs' : List AV} {us : Array Value}, fillA places cs parts = some cs' → VC w ok α cs us.toList →
    uparts.length = parts.length → (∀ (i : Nat) (a : Nat × AV) (u : Nat × Value), parts[i]? = some a → uparts[i]? = some u → u.1 = a.1 ∧ V w ok α a.2 u.2) →
    ∃ us', Instr.fill places us uparts = some us' ∧ VC w ok α cs' us'.toList
  | [], uparts, cs, cs', us, hf, hc, hl, hp => by
    have : uparts = [] := List.eq_nil_of_length_eq_zero (by simpa using hl)
    subst this
    cases hf
    exact ⟨us, rfl, hc⟩
  | (i, v) :: parts, [], cs, cs', us, hf, hc, hl, hp => by simp at hl
  | (i, v) :: parts, (i', u) :: uparts, cs, cs', us, hf, hc, hl, hp => by
    obtain ⟨h1, h2⟩ := hp 0 (i, v) (i', u) rfl rfl
    simp only at h1 h2
    subst h1
    unfold fillA at hf
    unfold Instr.fill
    cases hpl : places i' with
    | none => rw [hpl] at hf; cases hf
    | some q =>
      obtain ⟨off, size⟩ := q
      rw [hpl] at hf
      simp only at hf ⊢
      split at hf
      case isFalse => cases hf
      rename_i hcond
      obtain ⟨c1, c2, c3⟩ := hcond
      have hvc := h2.cells c3
      have hus : u.cells.size = size := by have := hvc.1; simp at this; omega
      have husz : us.size = cs.length := by have := hc.1; simpa using this
      have hnot : ¬ ((u.cells.size ≠ size || off + u.cells.size > us.size) = true) := by simp [hus]; omega
      rw [if_neg (by simpa using hnot), foldset u.cells off us (by omega)]
      have hsp := hc.splice hvc (c := off) (by omega)
      refine fill_ok hf ?_ (by simpa using hl) (fun j a x ha hx => hp (j + 1) a x (by simpa using ha) (by simpa using hx))
      have e : u.cells.toList.length = u.cells.size := by simp
      rw [e] at hsp
      exact hsp

theorem mapM_sizes : ∀ (fs : List Field), (fs.all fun f => hasT P f.type) = true → (fs.mapM (fun f => do pure (f.offset, ← sizeOf f.type) : Field → Sem (Nat × Nat))).run P w = .ok (fs.map fun f => (f.offset, P.cellsOf f.type)) w
  | [], _ => by simp
  | f :: fs, h => by
    simp at h
    have ih := mapM_sizes fs (by simpa using h.2)
    simp only [List.mapM_cons, Sem.run_bind, run_size' h.1, Result.andThen_ok, Sem.run_pure, ih, List.map_cons]

theorem build_ok {t : TypeId} {parts : List (Nat × AV)} {uparts : Array (Nat × Value)} {v : AV} (ht : buildT P t = true) (ho : oBuild P t parts = some v) (hl : uparts.size = parts.length)
    (hp : ∀ (i : Nat) (a : Nat × AV) (u : Nat × Value), parts[i]? = some a → uparts[i]? = some u → u.1 = a.1 ∧ V w ok α a.2 u.2) :
    ∃ r, (Instr.build t uparts).run P w = .ok r w ∧ V w ok α v r := by
  unfold oBuild at ho
  cases hz : zeroOf P t with
  | none => rw [hz] at ho; cases ho
  | some z =>
    rw [hz] at ho
    simp only at ho
    split at ho
    case h_2 => cases ho
    rename_i cs hcs
    obtain ⟨cs', hf, rfl⟩ := Option.map_eq_some_iff.1 ho
    have hzv : V w ok α (ofVal z) z := ofVal_ok z
    rw [hcs] at hzv
    obtain ⟨us, rfl, hc⟩ := hzv
    obtain ⟨us', hfill, hvc⟩ := fill_ok (uparts := uparts.toList) hf hc (by simpa using hl) (fun i a u ha hu => hp i a u ha (by simpa using hu))
    unfold buildT at ht
    simp only [Bool.and_eq_true] at ht
    obtain ⟨t1, t2⟩ := ht
    cases hi : P.info? t with
    | none => rw [hi] at t1; cases t1
    | some inf =>
      have hzz : inf.zero = some (.agg us) := by unfold zeroOf at hz; rw [hi] at hz; exact hz
      have hzr : (zeroValue t).run P w = .ok (.agg us) w := by simp [zeroValue, typeInfo, hi, hzz]
      refine ⟨.agg us', ?_, us', rfl, hvc⟩
      unfold placesA at hfill
      unfold Instr.build
      simp only [Sem.run_bind, hzr, Result.andThen_ok]
      cases hu : P.underlying t with
      | none => rw [hu] at t2; cases t2
      | some d =>
        rw [hu] at t2 hfill
        cases d with
        | struct fs =>
          simp only at t2 hfill
          simp only [run_underlying hu, Result.andThen_ok]
          have hm : (fs.mapM (fun f => do pure (f.offset, ← sizeOf f.type) : Field → Sem (Nat × Nat))).run P w = .ok (fs.map fun f => (f.offset, P.cellsOf f.type)) w := by
            rw [Array.mapM_eq_mapM_toList]
            have := mapM_sizes (P := P) (w := w) fs.toList (by simpa using t2)
            simp only [Sem.run_map, this]
            simp
            apply Array.ext'
            simp
          simp only [Sem.run_bind, hm, Result.andThen_ok]
          have e : (fun i => (fs.map fun f : Field => (f.offset, P.cellsOf f.type))[i]?) = fun i : Nat => (fs[i]?).map fun f : Field => (f.offset, P.cellsOf f.type) := by
            funext i; simp
          simp only [Value.cells]
          rw [show (fun x : Nat => (fs.map fun f : Field => (f.offset, P.cellsOf f.type))[x]?) = fun i => (fs[i]?).map fun f : Field => (f.offset, P.cellsOf f.type) from e, hfill]
          simp
        | array n e =>
          simp only at t2 hfill
          simp only [run_underlying hu, Result.andThen_ok, Sem.run_bind, run_size' t2, Value.cells]
          rw [hfill]
          simp
        | _ => cases t2

end
end Go.Proofs.Ytihljollfbogeaa
