/- The abstract operations on slices, structs, strings and maps are those of the machine: the rest. No condition. -/
import Derived.Test.YtihljollfbogeaaA6
import Derived.Laws.BytesString
namespace Go.Proofs.Ytihljollfbogeaa
open Go Go.RowKit

section
variable {P : Program} {w : World} {α : Al} {base : Nat} {h : Hp}

/-! ### make -/
theorem LIM_nat : LIM = 1073741824 := rfl
theorem mul_cast_le {a b c : Nat} (h : a * b ≤ c) : (a : Int) * (b : Int) ≤ (c : Int) := by
  rw [← Int.natCast_mul]; omega
theorem LIM_64k : LIM * 65536 ≤ 281474976710656 := by decide
theorem LIM_int : (LIM : Int) = 1073741824 := rfl
theorem hold_zeros {ok : Nat → Prop} {k m : Nat} {z : Value} (hk : (ofVal z).cells.length = k) (hs : (ofVal z).storable = true) (hzs : z.cells.size = k) : Hold w ok α k (List.replicate m (ofVal z)) (madeCells z.cells (m * k)).toList := by
  have hv : V w ok α (ofVal z) z := ofVal_ok z
  have hc := hv.cells hs
  have hget : ∀ i, i < m * k → ∃ x, z.cells.toList[i % k]? = some x ∧ (madeCells z.cells (m * k)).toList[i]? = some x := fun i hi => by
    obtain ⟨_, h2, _⟩ := row_divmod hi
    have h3 : i % k < z.cells.size := by omega
    refine ⟨z.cells[i % k], by simp [h3], ?_⟩
    simp [madeCells, hi, hzs]
    rw [getElem!_pos z.cells (i % k) h3]
  refine ⟨by simp [size_madeCells], fun u hu => ?_, fun j el he => ?_⟩
  · obtain ⟨i, hi⟩ := List.mem_iff_getElem?.1 hu
    have hlt := (List.getElem?_eq_some_iff.1 hi).1
    simp [size_madeCells] at hlt
    obtain ⟨x, h1, h2⟩ := hget i hlt
    rw [hi] at h2
    cases h2
    have hx : i % k < (ofVal z).cells.length := by rw [hk]; exact (row_divmod hlt).2.1
    exact (hc.2 (i % k) _ u (List.getElem?_eq_getElem hx) h1).2
  · have hj : j < m := by have := (List.getElem?_eq_some_iff.1 he).1; simpa using this
    have hel : el = ofVal z := by simp [hj] at he; exact he.symm
    subst hel
    refine ⟨hk, fun c a ha => ?_⟩
    have hck : c < k := by rw [← hk]; exact (List.getElem?_eq_some_iff.1 ha).1
    obtain ⟨x, h1, h2⟩ := hget (j * k + c) (row_lt hj hck)
    refine ⟨x, h2, ?_⟩
    have : (j * k + c) % k = c := by rw [Nat.mul_comm, Nat.mul_add_mod, Nat.mod_eq_of_lt hck]
    rw [this] at h1
    exact (hc.2 c a x ha h1).1

theorem zeroCells_made (z : Array Value) (n k : Nat) (h : z.size = k) : Builtin.zeroCells z n = madeCells z (n * k) := by simp [Builtin.zeroCells, madeCells, h]

theorem make_ok (r : Rel base h w α) (hb : base ≤ w.heap.size) {t e : TypeId} {n k : Nat} {x v : AV} {h' : Hp} {u z : Value} (ht : P.underlying t = some (.slice e)) (he : rowT P e = true) (hk : k = P.cellsOf e)
    (hz : (P.info? e).bind (·.zero) = some z) (ho : oMake h n k (ofVal z) x = some (v, h')) (hx : V w (okA w α) α x u) :
    ∃ r w', (Instr.makeSlice t u u).run P w = .ok r w' ∧ Done base w α v h' r w' := by
  obtain ⟨inf, z', hi, hz', hbytes, hpos, hzs, hke⟩ := rowT_spec he
  have hzz : z' = z := by rw [hi] at hz; simp [hz'] at hz; exact hz
  subst hzz
  have hsize : inf.size = k := by omega
  unfold oMake at ho
  split at ho
  · rename_i kk m
    split at ho
    · rename_i hc
      obtain ⟨h0, hlim, hs, hkz⟩ := hc
      cases ho
      rw [hx.sc_eq]
      have hb1 : (inf.bytes : Int) * m ≤ 281474976710656 := by
        obtain ⟨q, rfl⟩ := Int.eq_ofNat_of_zero_le h0
        have : inf.bytes * q ≤ 65536 * LIM := Nat.mul_le_mul hbytes (by omega)
        have h2 := LIM_nat
        have h3 : inf.bytes * q ≤ 281474976710656 := by omega
        exact mul_cast_le h3
      have hrun := run_make (P := P) w t e inf z' ht hi hz' kk kk m m h0 (Int.le_refl _) hb1 (by have := LIM_int; omega)
      refine ⟨_, _, hrun, ?_⟩
      have hh := hold_zeros (w := w) (ok := okA w α) (α := α) (m := m.toNat) hkz hs (by omega)
      have hfit := hh.fit (rest := []) (pre := []) (fun y hy => by rw [List.eq_of_mem_replicate hy]; exact hs) rfl
      simp only [List.nil_append, List.append_nil] at hfit
      rw [hsize]
      obtain ⟨r', e'⟩ := r.new n k m.toNat (els := List.replicate m.toNat (ofVal z')) (cs := madeCells z'.cells (m.toNat * k)) e hb (by simp) (by simp [size_madeCells]) (by simpa using hfit)
      exact ⟨_, r', e', V.of_V1 (.ref _ _ _ _ _ _ _ (Nat.le_refl _) (upd_same _ _ _) (Nat.le_refl _) fun _ => ⟨by simp, by simp, by simp⟩)⟩
    · cases ho
  · cases ho

/-! ### append(s, make([]T, n)...) -/
theorem appendZ_ok (r : Rel base h w α) (hb : base ≤ w.heap.size) {t tx ty e : TypeId} {kx : IntKind} {n k : Nat} {v : AV} {m : Int} {h' : Hp} {us z : Value}
    (ht : P.underlying t = some (.slice e)) (htx : P.underlying tx = some (.int kx)) (he : rowT P e = true) (hk : k = P.cellsOf e) (hz : (P.info? e).bind (·.zero) = some z)
    (hm : 0 < m) (hml : m ≤ LIM) (ho : oAppend h n k .nl (List.replicate m.toNat (ofVal z)) = some (v, h')) (hs : V w (okA w α) α .nl us) :
    ∃ r w', (Builtin.append_ #[t, tx] ty #[us, .int .i64 m]).run P w = .ok r w' ∧ Done base w α v h' r w' := by
  obtain ⟨inf, z', hi, hz', hbytes, hpos, hzs, hke⟩ := rowT_spec he
  have hzz : z' = z := by rw [hi] at hz; simp [hz'] at hz; exact hz
  subst hzz
  have hsize : inf.size = k := by omega
  unfold oAppend at ho
  split at ho
  case isFalse => cases ho
  rename_i hall
  obtain ⟨q, rfl⟩ := Int.eq_ofNat_of_zero_le (Int.le_of_lt hm)
  simp only [Int.toNat_natCast] at ho hall ⊢
  have hq : 0 < q := by omega
  have hall0 := List.all_eq_true.1 hall (ofVal z') (by simp [List.mem_replicate]; omega)
  simp at hall0
  simp only [List.length_replicate] at ho
  rw [if_neg (by simp; omega)] at ho
  split at ho
  · rename_i hlim
    cases ho
    cases hs with
    | low _ _ hs =>
      cases hs with
      | nl A0 =>
        have hw : IntKind.i64.wrap (q : Int) = q := by rw [IntKind.wrap_i64]; have := LIM_int; omega
        have hgc := grownCap_ge w (0 + q) 0 e
        have hfc : (Builtin.firstCells k 0 (.slice A0 0 0)).run P w.drew = .ok #[] w.drew := by
          cases A0 with
          | none => simp [Builtin.firstCells]
          | some a => simp [Builtin.firstCells, loadCells, loadCellsFrom]
        have hlim' : q ≤ 1073741824 := hlim
        clear hml
        have g1 : ¬ ((q : Int) < 0) := by omega
        have hb2 : q * inf.bytes ≤ LIM * 65536 := Nat.mul_le_mul (show q ≤ LIM by omega) hbytes
        have g2 : ¬ (281474976710656 < (q : Int) * (inf.bytes : Int)) := by
          exact Int.not_lt.2 (mul_cast_le (Nat.le_trans hb2 LIM_64k))
        have g3 : q ≠ 0 := by omega
        have g4 : ¬ (9223372036854775807 < (q : Int)) := by have := LIM_int; omega
        have g5 : ¬ (281474976710656 < Builtin.nextslicecap q 0 * inf.bytes) := by
          have := grows_fit (old := 0) hq hlim hbytes
          omega
        have g6 : ¬ (q * k = 0) := by
          rw [Nat.mul_eq_zero]; omega
        have hcap : q ≤ grownCap w q 0 e := by simpa using hgc
        refine ⟨.slice (some ⟨w.heap.size, 0, none⟩) q (grownCap w q 0 e), w.drew.alloc (.cells (Builtin.zeroCells z'.cells q ++ Builtin.zeroCells z'.cells (grownCap w q 0 e - q)) e), ?_, ?_⟩
        · simp [Builtin.append_, run_underlying ht, run_underlying htx, asInt, asIntOf, hw, g1, typeInfo, hi, g2, sizeOf, hsize, g3, g4, g5, g6, Question.forced, hfc, zeroValue, hz', newRow, grownCap]
        · have hh := hold_zeros (w := w) (ok := okA w α) (α := α) (m := q) hall0.2 hall0.1 (by omega)
          have := grow_done r hb (n := n) (e := e) (cap := grownCap w q 0 e) (rest := (Builtin.zeroCells z'.cells (grownCap w q 0 e - q)).toList) hh
            (fun y hy => by rw [List.eq_of_mem_replicate hy]; exact hall0.1) (by simpa using hcap) (by rw [Array.length_toList, size_zeroCells, List.length_replicate]; congr 1; omega)
          simp only [List.length_replicate] at this
          have e1 : ((madeCells z'.cells (q * k)).toList ++ (Builtin.zeroCells z'.cells (grownCap w q 0 e - q)).toList).toArray = Builtin.zeroCells z'.cells q ++ Builtin.zeroCells z'.cells (grownCap w q 0 e - q) := by
            rw [zeroCells_made z'.cells q k (by omega)]
            apply Array.ext'
            simp
          rw [e1] at this
          exact this
  · cases ho

end
end Go.Proofs.Ytihljollfbogeaa
