/- The abstract operations that make or write memory are those of the machine: new variables, stores, make, literals. No condition. -/
import Derived.Test.YtihljollfbogeaaA4
namespace Go.Proofs.Ytihljollfbogeaa
open Go Go.RowKit

section
variable {P : Program} {w : World} {α : Al} {base : Nat} {h : Hp}

/-- What an operation comes to. -/
def Done (base : Nat) (w : World) (α : Al) (v : AV) (h' : Hp) (u : Value) (w' : World) : Prop :=
  ∃ α', Rel base h' w' α' ∧ Ext w α w' α' ∧ V w' (okA w' α') α' v u

theorem Done.same (r : Rel base h w α) {v : AV} {u : Value} (hv : V w (okA w α) α v u) : Done base w α v h u w := ⟨α, r, Ext.refl _ _, hv⟩

theorem storable_one {v : AV} (hs : v.storable = true) {c : Nat} {a : AV} (h : v.cells[c]? = some a) : a.one = true :=
  List.all_eq_true.1 hs a (List.mem_of_getElem? h)

theorem fit_one {ok : Nat → Prop} {v : AV} {u : Value} (hs : v.storable = true) (hv : V w ok α v u) : Fit w ok α u.cells.toList 0 v.cells.length [v] := fun e el he => by
  match e, he with
  | 0, he =>
    simp at he
    subst he
    refine ⟨rfl, fun c a ha => ⟨storable_one hs ha, ?_⟩⟩
    have := hv.cells hs
    have hc : c < u.cells.toList.length := by rw [this.1]; exact (List.getElem?_eq_some_iff.1 ha).1
    exact ⟨u.cells.toList[c], by simp [List.getElem?_eq_getElem hc], (this.2 c a _ ha (List.getElem?_eq_getElem hc)).1⟩

theorem new_ok (r : Rel base h w α) (hb : base ≤ w.heap.size) {n : Nat} {v p : AV} {h' : Hp} {u : Value} (ho : oNew h n v = some (p, h')) (hv : V w (okA w α) α v u) (t : TypeId) :
    Done base w α p h' (.pointer (some ⟨w.heap.size, 0, none⟩)) (w.alloc (.cells u.cells t)) := by
  unfold oNew at ho
  split at ho
  · rename_i hs
    cases ho
    have hc := hv.cells hs
    obtain ⟨r', e'⟩ := r.new n v.cells.length 1 (els := [v]) (cs := u.cells) t hb (by simp) (by have := hc.1; simp at this; omega) (fit_one hs hv)
    refine ⟨_, r', e', V.of_V1 (.ptr n _ 0 0 _ _ (upd_same _ _ _) (Nat.le_refl _) fun _ => ⟨_, _, _, rfl, by simp⟩)⟩
  · cases ho

theorem box_ok (r : Rel base h w α) (hb : base ≤ w.heap.size) {n : Nat} {v p : AV} {h' : Hp} {u : Value} (ho : oNew h n v = some (p, h')) (hv : V w (okA w α) α v u) (t : TypeId) :
    ∃ x w', (Instr.box t u).run P w = .ok x w' ∧ Done base w α p h' x w' :=
  ⟨_, _, by simp [Instr.box, newVar, newRow], new_ok r hb ho hv t⟩
theorem alloc_ok (r : Rel base h w α) (hb : base ≤ w.heap.size) {n : Nat} {p : AV} {h' : Hp} {t : TypeId} {inf : TypeInfo} {z : Value} (hi : P.info? t = some inf) (hz : inf.zero = some z) (ho : oNew h n (ofVal z) = some (p, h')) :
    ∃ x w', (Instr.alloc t true (.tuple #[])).run P w = .ok x w' ∧ Done base w α p h' x w' :=
  ⟨_, _, by simp [Instr.alloc, zeroValue, typeInfo, hi, hz, newVar, newRow], new_ok r hb ho (ofVal_ok z) t⟩

/-! ### Stores -/
theorem splice_get {β : Type} (L vs : List β) (o j : Nat) (hle : o + vs.length ≤ L.length) :
    (L.take o ++ vs ++ L.drop (o + vs.length))[j]? = if o ≤ j ∧ j < o + vs.length then vs[j - o]? else L[j]? := by
  rw [List.append_assoc, List.getElem?_append, List.getElem?_append, List.getElem?_take, List.getElem?_drop]
  have hm : (L.take o).length = o := by simp; omega
  rw [hm]
  by_cases h1 : j < o
  · rw [if_pos h1, if_pos h1, if_neg (by omega)]
  · rw [if_neg h1]
    by_cases h2 : j - o < vs.length
    · rw [if_pos h2, if_pos (by omega)]
    · rw [if_neg h2, if_neg (by omega)]
      congr 1
      omega

theorem splice_size (cs : Array Value) (vs : List Value) (o : Nat) (hle : o + vs.length ≤ cs.size) : (cs.toList.take o ++ vs ++ cs.toList.drop (o + vs.length)).toArray.size = cs.size := by
  have : cs.toList.length = cs.size := Array.length_toList
  simp only [List.size_toArray, List.length_append, List.length_take, List.length_drop]
  omega
theorem length_setCellsA {cs new : List AV} {c : Nat} (hle : c + new.length ≤ cs.length) : (setCellsA cs c new).length = cs.length := by
  simp [setCellsA]; omega
theorem reshape_cells {el : AV} {cs : List AV} (hl : cs.length = el.cells.length) (h1 : ∀ a ∈ cs, a.one = true) : (reshape el cs).cells = cs := by
  have key : cs.length = 1 → (cs.headD .junk).cells = cs := fun hl => by
    match cs, hl with
    | [a], _ =>
      have := h1 a (by simp)
      cases a <;> first | rfl | (simp [AV.one] at this)
  cases el <;> first | rfl | exact key hl

/-- Where a cell of a row lies. -/
theorem row_far {sz e e' c c' k : Nat} (hne : e ≠ e') (hc : c + k ≤ sz) (hc' : c' < sz) : ¬ (e * sz + c ≤ e' * sz + c' ∧ e' * sz + c' < e * sz + c + k) := by
  rcases Nat.lt_or_gt_of_ne hne with h | h
  · have : (e + 1) * sz ≤ e' * sz := Nat.mul_le_mul_right _ h
    rw [Nat.add_mul] at this
    omega
  · have : (e' + 1) * sz ≤ e * sz := Nat.mul_le_mul_right _ h
    rw [Nat.add_mul] at this
    omega

theorem store_ok (r : Rel base h w α) {t : TypeId} {k : Nat} {p v : AV} {h' : Hp} {up uv : Value} (ht : hasT P t = true) (hk : k = P.cellsOf t) (ho : oStore k h p v = some h') (hp : V w (okA w α) α p up) (hv : V w (okA w α) α v uv) :
    ∃ w', (Instr.storeAt t up uv).run P w = .ok () w' ∧ ∃ α', Rel base h' w' α' ∧ Ext w α w' α' := by
  subst hk
  unfold oStore at ho
  split at ho
  · rename_i n ver e c
    obtain ⟨⟨sz, els⟩, h1, h2⟩ := Option.bind_eq_some_iff.1 ho
    obtain ⟨el, h3, h4⟩ := Option.bind_eq_some_iff.1 h2
    split at h4
    · rename_i hc
      obtain ⟨hlen, hfit, hst⟩ := hc
      cases h4
      cases hp with
      | low _ _ h => cases h
      | ptr _ _ _ _ a ae ha hver hh =>
        obtain ⟨e1, e2, e3, e4, e5⟩ := r.row h1 ha
        obtain ⟨b, off, room, hb, rfl⟩ := hh e1.symm
        have O := e5 b off room hb
        obtain ⟨cs, ct, hcs, hroom⟩ := O.cells
        have hvc := hv.cells hst
        have hul : uv.cells.toList.length = v.cells.length := hvc.1
        have hu1 : ∀ x ∈ uv.cells.toList, x.oneCell' = true := fun x hx => by
          obtain ⟨i, hi, rfl⟩ := List.getElem_of_mem hx
          have hi' : i < v.cells.length := by omega
          exact (hvc.2 i v.cells[i] _ (List.getElem?_eq_getElem hi') (List.getElem?_eq_getElem hi)).2
        have hesz : el.cells.length = sz := O.len e el h3
        have helt : e < els.length := (List.getElem?_eq_some_iff.1 h3).1
        have hle := O.le
        have hin : (e + 1) * sz ≤ room * sz := Nat.mul_le_mul_right _ (by omega)
        rw [Nat.add_mul, Nat.one_mul] at hin
        rw [e2]
        have hbound : off + e * sz + c + uv.cells.toList.length ≤ cs.size := by omega
        have hrun := run_storeCells_at P b (off + e * sz + c) ct uv.cells.toList 0 cs w hcs (by omega) hu1
        simp only [Nat.add_zero] at hrun
        refine ⟨w.setRow b (cs.toList.take (off + e * sz + c) ++ uv.cells.toList ++ cs.toList.drop (off + e * sz + c + uv.cells.toList.length)).toArray, ?_, ?_⟩
        rotate_left
        · have hsl := splice_get cs.toList uv.cells.toList (off + e * sz + c) (hle := by simpa using hbound)
          have key := r.write (cs' := (cs.toList.take (off + e * sz + c) ++ uv.cells.toList ++ cs.toList.drop (off + e * sz + c + uv.cells.toList.length)).toArray) (sz := sz) (off' := off) (room' := room)
            (els := els.set e (reshape el (setCellsA el.cells c v.cells))) ha hb hcs (splice_size _ _ _ (by simpa using hbound)) (ae' := ae) (.inr ha) e2 (by simp; exact e3) hb (by simp; exact hle) hroom ?_
          · have hupd : upd α n ae = α := upd_self ha
            rw [hupd, e1] at key
            exact ⟨α, key⟩
          · intro e' el' he'
            by_cases hee : e = e'
            · subst hee
              rw [List.getElem?_set_self helt] at he'
              cases he'
              have hone : ∀ a ∈ setCellsA el.cells c v.cells, a.one = true := fun a ha => by
                simp only [setCellsA, List.mem_append] at ha
                rcases ha with (ha | ha) | ha
                · obtain ⟨i, hi⟩ := List.mem_iff_getElem?.1 (List.mem_of_mem_take ha)
                  exact O.one e el h3 i a hi
                · obtain ⟨i, hi⟩ := List.mem_iff_getElem?.1 ha
                  exact storable_one hst hi
                · obtain ⟨i, hi⟩ := List.mem_iff_getElem?.1 (List.mem_of_mem_drop ha)
                  exact O.one e el h3 i a hi
              have hl2 : (setCellsA el.cells c v.cells).length = el.cells.length := length_setCellsA (by omega)
              rw [reshape_cells hl2 hone]
              refine ⟨by omega, fun c' a ha => ⟨hone a (List.mem_of_getElem? ha), ?_⟩⟩
              rw [hsl]
              have hs2 := splice_get el.cells v.cells c c' (by omega)
              rw [show setCellsA el.cells c v.cells = el.cells.take c ++ v.cells ++ el.cells.drop (c + v.cells.length) from rfl, hs2] at ha
              by_cases hcc : c ≤ c' ∧ c' < c + v.cells.length
              · rw [if_pos hcc] at ha
                rw [if_pos (by omega), show off + e * sz + c' - (off + e * sz + c) = c' - c by omega]
                have hx : c' - c < uv.cells.toList.length := by omega
                exact ⟨_, List.getElem?_eq_getElem hx, (hvc.2 (c' - c) a _ ha (List.getElem?_eq_getElem hx)).1⟩
              · rw [if_neg hcc] at ha
                rw [if_neg (by omega)]
                obtain ⟨x, hx, hv1, _⟩ := O.lie e el h3 c' a ha
                rw [cell_of_row w b _ cs ct (0, 0) hcs] at hx
                exact ⟨x, by simpa using hx, hv1⟩
            · rw [List.getElem?_set_ne hee] at he'
              refine ⟨O.len e' el' he', fun c' a ha => ⟨O.one e' el' he' c' a ha, ?_⟩⟩
              have hc' : c' < sz := by rw [← O.len e' el' he']; exact (List.getElem?_eq_some_iff.1 ha).1
              have hfar := row_far (sz := sz) (c := c) (c' := c') (k := uv.cells.toList.length) hee (by omega) hc'
              rw [hsl, if_neg (by omega)]
              obtain ⟨x, hx, hv1, _⟩ := O.lie e' el' he' c' a ha
              rw [cell_of_row w b _ cs ct (0, 0) hcs] at hx
              exact ⟨x, by simpa using hx, hv1⟩
        · simp only [Instr.storeAt, Sem.run_bind, sure_ok, Result.andThen_ok, storeVar, run_size' ht, Sem.run_ite]
          rw [if_neg (by simp at hul; omega), hrun]
    · cases h4
  · cases ho

end
end Go.Proofs.Ytihljollfbogeaa
