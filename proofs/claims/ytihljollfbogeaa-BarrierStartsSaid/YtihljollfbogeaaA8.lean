/- The abstract operations on literals, copies, parts of slices, strings and maps are those of the machine. No condition. -/
import Derived.Test.YtihljollfbogeaaA7
namespace Go.Proofs.Ytihljollfbogeaa
open Go Go.RowKit

section
variable {P : Program} {w : World} {α : Al} {base : Nat} {h : Hp}

/-- A new block that has no name. -/
theorem Rel.fresh (r : Rel base h w α) (ob : Obj) : Rel base h (w.alloc ob) α ∧ Ext w α (w.alloc ob) α := by
  have hbF : ∀ k, free w α k → free (w.alloc ob) α k ∧ (w.alloc ob).heap[k]? = w.heap[k]? := fun k hk => ⟨⟨by have := hk.1; simp; omega, hk.2⟩, heap_alloc_old w _ k hk.1⟩
  have hb := okA_of_free hbF rfl
  refine ⟨⟨r.ver, fun m ae ha => ?_, r.inj, fun n ae b o r' h1 h2 => ?_, r.grant⟩, rfl, rfl, rfl, by simp, hbF, Later.refl α, rfl⟩
  · exact (r.at_ m ae ha).mono (fun b o r' hb' => heap_alloc_old w _ b (r.base m ae b o r' ha hb').2) hb (Later.refl α)
  · have := r.base n ae b o r' h1 h2
    exact ⟨this.1, by simp; omega⟩

/-! ### Literals -/
theorem foldset_list : ∀ (l : List Value) (s off : Nat) (cells : Array Value), off + s + l.length ≤ cells.size →
    (l.zipIdx s).foldl (fun cs (x : Value × Nat) => cs.setIfInBounds (off + x.2) x.1) cells = (cells.toList.take (off + s) ++ l ++ cells.toList.drop (off + s + l.length)).toArray
  | [], s, off, cells, _ => by simp
  | v :: l, s, off, cells, hle => by
    have ih := foldset_list l (s + 1) off (cells.setIfInBounds (off + s) v) (by simp at hle ⊢; omega)
    simp only [List.zipIdx_cons, List.foldl_cons]
    rw [ih]
    have e := list_seg_step cells.toList (off + s) v l (by simp at hle ⊢; omega)
    congr 1
    simpa [Array.toList_setIfInBounds, Nat.add_assoc] using e
theorem foldset (u : Array Value) (off : Nat) (cells : Array Value) (hle : off + u.size ≤ cells.size) :
    u.zipIdx.foldl (fun cs (c, j) => cs.setIfInBounds (off + j) c) cells = (cells.toList.take off ++ u.toList ++ cells.toList.drop (off + u.size)).toArray := by
  have := foldset_list u.toList 0 off cells (by simpa using hle)
  rw [← Array.foldl_toList, Array.toList_zipIdx]
  simpa using this

theorem fill_seq (k : Nat) : ∀ (us : List Value) (m : Nat) (pre zs : List Value), pre.length = m * k → zs.length = us.length * k → (∀ u ∈ us, u.cells.size = k) →
    Instr.fill (fun i => some (i * k, k)) (pre ++ zs).toArray ((List.range' m us.length).zip us) = some (pre ++ us.flatMap (fun u => u.cells.toList)).toArray
  | [], m, pre, zs, _, hz, _ => by
    have : zs = [] := List.eq_nil_of_length_eq_zero (by simpa using hz)
    subst this
    simp [Instr.fill]
  | u :: us, m, pre, zs, hp, hz, hk => by
    have hu := hk u (by simp)
    simp only [List.length_cons, List.range'_succ, List.zip_cons_cons, Instr.fill]
    have h1 : ¬ (u.cells.size ≠ k) := by simp [hu]
    have hz' : zs.length = us.length * k + k := by rw [hz]; simp [Nat.add_mul]
    have h2 : ¬ (m * k + u.cells.size > (pre ++ zs).toArray.size) := by simp; omega
    simp only [h1, h2, decide_false, Bool.or_self, Bool.false_eq_true, if_false]
    rw [foldset _ _ _ (by simp; omega)]
    have e1 : (pre ++ zs).take (m * k) = pre := by rw [← hp]; simp
    have e0 : (pre ++ zs).drop (m * k) = zs := by rw [← hp]; simp
    have e2 : (pre ++ zs).drop (m * k + u.cells.size) = zs.drop k := by rw [hu, ← List.drop_drop, e0]
    have ih := fill_seq k us (m + 1) (pre ++ u.cells.toList) (zs.drop k) (by simp [hp, hu, Nat.add_mul]) (by simp [hz']) (fun x hx => hk x (by simp [hx]))
    rw [show (pre ++ zs).toArray.toList = pre ++ zs from rfl, e1, e2, ih]
    simp

theorem flat_get (k : Nat) : ∀ (us : List Value) (j c : Nat), (∀ u ∈ us, u.cells.size = k) → c < k → (us.flatMap (fun u => u.cells.toList))[j * k + c]? = (us[j]?).bind fun u => u.cells.toList[c]?
  | [], j, c, _, _ => by simp
  | u :: us, 0, c, hk, hc => by
    have := hk u (by simp)
    simp only [Nat.zero_mul, Nat.zero_add, List.flatMap_cons, List.getElem?_cons_zero, Option.bind_some]
    rw [List.getElem?_append_left (by simp; omega)]
  | u :: us, j + 1, c, hk, hc => by
    have hu := hk u (by simp)
    have := flat_get k us j c (fun x hx => hk x (by simp [hx])) hc
    simp only [List.flatMap_cons, List.getElem?_cons_succ]
    rw [List.getElem?_append_right (by simp [hu, Nat.add_mul]; omega)]
    rw [show (j + 1) * k + c - u.cells.toList.length = j * k + c by simp [hu, Nat.add_mul]; omega]
    exact this

/-- Elements in a row, each with its value. -/
theorem hold_flat {ok : Nat → Prop} {k : Nat} {vs : List AV} {us : List Value} (hl : us.length = vs.length) (hs : ∀ v ∈ vs, v.storable = true) (hk : ∀ v ∈ vs, v.cells.length = k)
    (hv : ∀ (i : Nat) (v : AV) (u : Value), vs[i]? = some v → us[i]? = some u → V w ok α v u) : (∀ u ∈ us, u.cells.size = k) ∧ Hold w ok α k vs (us.flatMap fun u => u.cells.toList) := by
  have hsz : ∀ u ∈ us, u.cells.size = k := fun u hu => by
    obtain ⟨i, hi⟩ := List.mem_iff_getElem?.1 hu
    have hlt := (List.getElem?_eq_some_iff.1 hi).1
    have hvi : vs[i]? = some vs[i] := List.getElem?_eq_getElem (by omega)
    have := ((hv i _ u hvi hi).cells (hs _ (List.mem_of_getElem? hvi))).1
    rw [hk _ (List.mem_of_getElem? hvi)] at this
    simpa using this
  refine ⟨hsz, ?_, fun x hx => ?_, fun j el he => ⟨hk el (List.mem_of_getElem? he), fun c a ha => ?_⟩⟩
  · have : ∀ l : List Value, (∀ u ∈ l, u.cells.size = k) → (l.flatMap fun u => u.cells.toList).length = l.length * k := by
      intro l
      induction l with
      | nil => simp
      | cons u l ih => intro hh; simp only [List.flatMap_cons, List.length_append, ih (fun x hx => hh x (by simp [hx])), List.length_cons, Nat.add_mul]; have := hh u (by simp); simp [this]; omega
    rw [this us hsz, hl]
  · obtain ⟨u, hu, hx'⟩ := List.mem_flatMap.1 hx
    obtain ⟨i, hi⟩ := List.mem_iff_getElem?.1 hu
    have hlt := (List.getElem?_eq_some_iff.1 hi).1
    have hvi : vs[i]? = some vs[i] := List.getElem?_eq_getElem (by omega)
    have hc := (hv i _ u hvi hi).cells (hs _ (List.mem_of_getElem? hvi))
    obtain ⟨q, hq⟩ := List.mem_iff_getElem?.1 hx'
    have hqlt := (List.getElem?_eq_some_iff.1 hq).1
    exact (hc.2 q _ x (List.getElem?_eq_getElem (by rw [← hc.1]; exact hqlt)) hq).2
  · have hj := (List.getElem?_eq_some_iff.1 he).1
    have huj : us[j]? = some us[j] := List.getElem?_eq_getElem (by omega)
    have hc := (hv j el _ he huj).cells (hs el (List.mem_of_getElem? he))
    have hck : c < k := by rw [← hk el (List.mem_of_getElem? he)]; exact (List.getElem?_eq_some_iff.1 ha).1
    have hcu : us[j].cells.toList[c]? = some (us[j].cells.toList[c]'(by rw [hc.1, hk el (List.mem_of_getElem? he)]; exact hck)) := List.getElem?_eq_getElem _
    refine ⟨_, ?_, (hc.2 c a _ ha hcu).1⟩
    rw [flat_get k us j c hsz hck, huj, Option.bind_some, hcu]

theorem pure1_V0 {ok : Nat → Prop} {a : AV} {u : Value} (hp : a.pure1 = true) (hv : V1 w ok α a u) : V0 w ok (norm1 a) u := by
  cases hv with
  | low _ _ h =>
    cases h with
    | nl A => exact V0.imm [] A 0 0 0 0 (fun _ _ => undef) (by simp) (fun j el h => by simp at h) (fun j el c a h => by simp at h) (fun j el c a h => by simp at h)
    | sc _ h => exact .sc _ h
    | imm xs A cap sz b o U h1 h2 h3 h4 => exact .imm xs A cap sz b o U h1 h2 h3 h4
    | full => simp [AV.pure1] at hp
    | ipt => simp [AV.pure1] at hp
  | _ => simp [AV.pure1] at hp
theorem norm_cells {v : AV} (hs : v.storable = true) : (norm v).cells = v.cells.map norm1 := by
  cases v <;> first | rfl | (simp [AV.storable, AV.cells, AV.one] at hs)
theorem norm_get {v : AV} (hs : v.storable = true) {c : Nat} {a : AV} (h : (norm v).cells[c]? = some a) : ∃ a', v.cells[c]? = some a' ∧ a = norm1 a' := by
  rw [norm_cells hs, List.getElem?_map] at h
  obtain ⟨a', h1, h2⟩ := Option.map_eq_some_iff.1 h
  exact ⟨a', h1, h2.symm⟩

theorem lit_ok (r : Rel base h w α) (hb : base ≤ w.heap.size) {t e : TypeId} {n k len : Nat} {vs : List AV} {us : List Value} {v : AV} {h' : Hp} (ht : P.underlying t = some (.slice e)) (he : rowT P e = true) (hk : k = P.cellsOf e)
    (ho : oLit h n k vs = some (v, h')) (hl : us.length = vs.length) (hlen : vs.length = len) (hbig : len * k ≤ 16777216) (hv : ∀ (i : Nat) (a : AV) (u : Value), vs[i]? = some a → us[i]? = some u → V w (okA w α) α a u) :
    ∃ r w', (Instr.buildSlice t len ((List.range len).zip us).toArray).run P w = .ok r w' ∧ Done base w α v h' r w' := by
  obtain ⟨inf, z, hi, hz, hbytes, hpos, hzs, hke⟩ := rowT_spec he
  have hsize : inf.size = k := by omega
  unfold oLit at ho
  split at ho
  case isFalse => cases ho
  rename_i hall
  have hst : ∀ y ∈ vs, y.storable = true := fun y hy => by have := List.all_eq_true.1 hall y hy; simp at this; exact this.1
  have hkv : ∀ y ∈ vs, y.cells.length = k := fun y hy => by have := List.all_eq_true.1 hall y hy; simp at this; exact this.2
  obtain ⟨husz, hh⟩ := hold_flat hl hst hkv hv
  have hrun : (Instr.buildSlice t len ((List.range len).zip us).toArray).run P w = .ok (.slice (some ⟨w.heap.size, 0, none⟩) len len) (w.alloc (.cells (us.flatMap fun u => u.cells.toList).toArray e)) := by
    have hf := fill_seq k us 0 [] (madeCells z.cells (len * k)).toList (by simp) (by simp [size_madeCells]; rw [hl, hlen]) husz
    simp only [List.nil_append, Array.toArray_toList] at hf
    rw [← List.range_eq_range', hl, hlen] at hf
    have hbig' : ¬ (16777216 < len * k) := by omega
    by_cases h0 : len * k = 0
    · have hmade : (madeCells z.cells (len * k)) = #[] := by rw [h0]; simp [madeCells]
      rw [hmade] at hf
      simp [Instr.buildSlice, run_underlying ht, sizeOf, typeInfo, hi, hsize, h0, newRow]
      rw [show Array.map (fun _ => (default : Value)) (Array.range 0) = #[] by simp, hf]
      simp
    · simp only [madeCells] at hf
      simp [Instr.buildSlice, run_underlying ht, sizeOf, typeInfo, hi, hsize, hbig', h0, zeroValue, hz, newRow]
      rw [hf]
      simp
  refine ⟨_, _, hrun, ?_⟩
  obtain ⟨rf, ef⟩ := r.fresh (.cells (us.flatMap fun u => u.cells.toList).toArray e)
  cases vs with
  | nil =>
    simp at ho
    obtain ⟨rfl, rfl⟩ := ho
    have hlen0 : len = 0 := by simpa using hlen.symm
    subst hlen0
    exact ⟨α, rf, ef, V.of_V1 (.low _ _ (.nl _))⟩
  | cons v0 vs0 =>
    simp only at ho
    split at ho
    · rename_i hpure
      cases ho
      refine ⟨α, rf, ef, V.of_V1 (.low _ _ ?_)⟩
      have hok : okA (w.alloc (.cells (us.flatMap fun u => u.cells.toList).toArray e)) α w.heap.size := ⟨⟨by simp, r.grant _ hb⟩, fun n' ae o r' ha hb => absurd (r.base n' ae _ o r' ha hb).2 (by omega)⟩
      have hgc : ∀ (j : Nat) (el : AV) (c : Nat) (a : AV), ((v0 :: vs0).map norm)[j]? = some el → el.cells[c]? = some a → ∃ el' a', (v0 :: vs0)[j]? = some el' ∧ el'.cells[c]? = some a' ∧ a = norm1 a' := fun j el c a he ha => by
        rw [List.getElem?_map] at he
        obtain ⟨el', h1, rfl⟩ := Option.map_eq_some_iff.1 he
        obtain ⟨a', h2, h3⟩ := norm_get (hst el' (List.mem_of_getElem? h1)) ha
        exact ⟨el', a', h1, h2, h3⟩
      have := V0.full (w := w.alloc (.cells (us.flatMap fun u => u.cells.toList).toArray e)) (ok := okA (w.alloc (.cells (us.flatMap fun u => u.cells.toList).toArray e)) α)
        ((v0 :: vs0).map norm) (some ⟨w.heap.size, 0, none⟩) k w.heap.size 0 (fun j c => ((us.flatMap fun u => u.cells.toList)[j * k + c]?).getD undef)
        (fun j el he => by
          rw [List.getElem?_map] at he
          obtain ⟨el', h1, rfl⟩ := Option.map_eq_some_iff.1 he
          refine ⟨?_, rfl, hok⟩
          rw [norm_cells (hst el' (List.mem_of_getElem? h1)), List.length_map]
          exact hkv el' (List.mem_of_getElem? h1))
        (fun j el c a he ha => by
          obtain ⟨el', a', h1, h2, h3⟩ := hgc j el c a he ha
          obtain ⟨x, hx, _⟩ := (hh.2.2 j el' h1).2 c a' h2
          unfold World.cell?
          rw [heap_alloc_new]
          simp [hx])
        (fun j el c a he ha => by
          obtain ⟨el', a', h1, h2, h3⟩ := hgc j el c a he ha
          obtain ⟨x, hx, hv1⟩ := (hh.2.2 j el' h1).2 c a' h2
          rw [hx, h3]
          have hp1 : a'.pure1 = true := List.all_eq_true.1 (List.all_eq_true.1 hpure el' (List.mem_of_getElem? h1)) a' (List.mem_of_getElem? h2)
          exact (pure1_V0 hp1 hv1).mono ef.keep)
      simp only [List.length_map] at this
      rw [hlen] at this
      exact this
    · cases ho
      have hfit := hh.fit (rest := []) (pre := []) hst rfl
      simp only [List.nil_append, List.append_nil] at hfit
      obtain ⟨r', e'⟩ := r.new n k (v0 :: vs0).length (els := v0 :: vs0) (cs := (us.flatMap fun u => u.cells.toList).toArray) e hb (Nat.le_refl _) (by simp only [List.size_toArray]; rw [hh.1]; exact Nat.le_refl _) (by simpa using hfit)
      rw [← hlen]
      exact ⟨_, r', e', V.of_V1 (.ref _ _ _ _ _ _ _ (Nat.le_refl _) (upd_same _ _ _) (Nat.le_refl _) fun _ => ⟨by simp, by simp, by simp⟩)⟩

end
end Go.Proofs.Ytihljollfbogeaa
