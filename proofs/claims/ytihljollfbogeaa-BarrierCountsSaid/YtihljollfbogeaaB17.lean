/- Runs of Durable. No condition. -/
import Derived.Test.YtihljollfbogeaaB15
set_option linter.unusedSimpArgs false
namespace Go.Proofs.Ytihljollfbogeaa
open Go Go.RowKit
attribute [local simp] run_skip run_ret run_exit run_seq run_block run_reg thn_norm thn_toNorm thn_ret thn_exit endB_norm endB_toNorm endB_ret endB_exit regA_nil regA_cons putA_some putA_none insA_plain opA COp.ev pu dl dl0 appD nameOf nameOr_ptr nameOr_ref nameOr_mp nameOr_nl nameOr_full nameOr_grown grown_zero grownH_nil hset_id toNorm putA aEval_tmp aEval_func aEval_int aEval_bool aEval_nil edst eset_same eset_ne cmp_lss cmp_leq cmp_gtr cmp_geq cmp_eql cmp_neq num_add num_sub num_mul num_rem cmp_beql cmp_bneq cmp_seql cmp_sneq ite_map ite_bind ends_some ends_none ends_ite ends_bind ends_map rnd_norm rnd_toNorm rnd_exit rnd_ret norm_encI norm_encB oLit oAppend Blk.isDead oElems oSlice oExtract oIndexA oMk0 oConvInt oMin oMax oMapNew oMapPut oMapGet findA oNil AV.single valueA oPick oNot argEnv ressA resA tupA oNew oLoad oStore oFieldAddr oLen oIndexS asNum rowAt? hset partA AV.cells AV.storable AV.one hemp callA callD outA_sc outA_imm outA_agg outA_tup outA_ref outA_nl outA_full fz_sc fz_imm fz_full fz_nl fz_fn fz_agg fz_tup fz_ref fzA_sc fzA_imm fzA_full fzA_nl fzA_agg fzA_ref fz1_sc fz1_imm fz1_full fz1_nl fz1_ref fzRow_all AV.scalar AV.scalar1 evC nm nmA nm1 nm0 insA_b insA_skip run_condB isBool boolOf run_drawn endD_mk drawA_nil drawA_cons nextD_mk consE_mk putD_some putD_none insD_plain insD_b insD_skip opD COp.rd COp.wr AV.nms AV.nms1 indeps indep oMake oBuildC fillC setCellsA ofVal ofCell Value.oneCell' reshape LIM AV.pure AV.pure1 norm norm1 run_loop
def T90 : List (FuncId × CFn) := [(189, c189)]
theorem i189 (B : Inl) (H : Hand) (N d q : Nat) (l : List AV) (h : Hp) : inlB B (mkT T90) H N (d + 1) q 189 l h = fnA H (inlB B (mkT T90) H N d) N q c189 l h := rfl
theorem i137' (B : Inl) (H : Hand) (N d q : Nat) (l : List AV) (h : Hp) : inlB B (mkT T90) H N (d + 1) q 137 l h = B q 137 l h := rfl
/-- Delete of one element of a slice of ours: what stays, and a zero behind. -/
theorem delete_run (H : Hand) (I : Inl) (N q : Nat) (w : List Int) (i : Nat) (hi : i < w.length) (hw : w.length ≤ 1073741824) (n v : Nat) (h : Hp) (hm : h n = (v, .row 1 (w.map encI))) :
    Ends (fnA H I N q c189 [.ref n v 0 w.length, .sc (.int .i64 (i : Nat)), .sc (.int .i64 ((i : Nat) + 1))] h) (fun p => p.1 = .ref n v 0 (w.length - 1) ∧ p.2 = hset h n (v, .row 1 ((w.eraseIdx i).map encI ++ [.sc (.int .i64 0)]))) := by
  have ht1 : ((i : Int) + 1).toNat = i + 1 := by omega
  have ht2 : ((w.length : Int) - ((i : Int) + 1)).toNat = w.length - (i + 1) := by omega
  have ht3 : i + (w.length - (i + 1)) = w.length - 1 := by omega
  have ht4 : (i : Int) + 1 ≤ (w.length : Int) := by omega
  have ht5 : (i : Int) ≤ (i : Int) + 1 := by omega
  have ht6 : i + 1 ≤ w.length := by omega
  have ht7 : (0 : Int) ≤ (i : Int) + 1 := by omega
  have ht8 : i ≤ w.length := by omega
  have ht9 : ¬ ((i : Int) = (i : Int) + 1) := by omega
  have ht10 : w.length - 1 ≤ w.length := by omega
  have ht11 : ((w.length : Int) - ((w.length - 1 : Nat) : Int)).toNat = 1 := by omega
  have ht12 : w.length - 1 + 1 = w.length := by omega
  have hys : List.take (w.length - (i + 1)) (List.drop (i + 1) (List.map encI w)) = (w.drop (i + 1)).map encI := by rw [List.take_of_length_le (by simp), List.map_drop]
  have ht13 : w.length - (w.length - 1) = 1 := by omega
  have ht14 : i + (w.length - 1 - i + 1) = w.length := by omega
  have ht15 : w.length - (i + 1) = w.length - 1 - i := by omega
  simp -implicitDefEqProofs [fnA, c189, hm, ht1, ht2, ht3, ht4, ht5, ht6, ht7, ht8, ht9, ht10, ht11, ht12, hi, oClear, hys, ht13, encI]
  have hE : (w.eraseIdx i).map encI = List.take i (List.map encI w) ++ List.drop (i + 1) (List.map encI w) := by rw [List.eraseIdx_eq_take_drop_succ, List.map_append, List.map_take, List.map_drop]
  have hEl : ((w.eraseIdx i).map encI).length = w.length - 1 := by rw [List.length_map, List.length_eraseIdx_of_lt hi]
  refine ⟨fun _ => ⟨fun _ => ⟨fun _ => ?_, by omega⟩, by omega⟩, ?_⟩
  · rw [hset_twice, ← List.append_assoc, ← hE, List.take_left' hEl, List.drop_eq_nil_of_le (by rw [List.length_append, hEl]; simp)]
  · intro x hx
    obtain ⟨n, _, rfl⟩ := List.mem_map.1 (List.mem_of_mem_drop hx)
    simp [encI]
/-- The filter of what is strictly rising takes out one. -/
theorem filter_erase : ∀ (w : List Int) (i : Nat) (hi : i < w.length), (∀ j (hj : j < w.length), j ≠ i → w[j] ≠ w[i]) → w.filter (fun y => decide (y ≠ w[i])) = w.eraseIdx i
  | [], i, hi, _ => by simp at hi
  | x :: w, 0, hi, h => by
    simp only [List.getElem_cons_zero, List.eraseIdx_cons_zero]
    rw [List.filter_cons_of_neg (by simp)]
    refine List.filter_eq_self.2 fun y hy => ?_
    obtain ⟨j, hj, rfl⟩ := List.getElem_of_mem hy
    exact decide_eq_true (show w[j] ≠ x from h (j + 1) (by simpa using hj) (by omega))
  | x :: w, i + 1, hi, h => by
    have h0 := h 0 (by simp) (by omega)
    simp only [List.getElem_cons_succ, List.getElem_cons_zero] at h0 ⊢
    rw [List.filter_cons_of_pos (by simpa using h0), List.eraseIdx_cons_succ]
    rw [filter_erase w i (by simpa using hi) fun j hj hji => by
      exact h (j + 1) (by simpa using hj) (by omega)]
theorem rising_ne {iss : Int} {w : List Int} (h : anyW iss w = false) : ∀ (i : Nat) (hi : i < w.length) (j : Nat) (hj : j < i), w[j] < w[i] := by
  intro i
  induction i with
  | zero => intro _ j hj; omega
  | succ i ih =>
    intro hi j hj
    have := List.any_eq_false.1 h (i + 1) (List.mem_range.2 hi)
    have hb : w[i] < w[i + 1] := by
      simp only [badW, getD_lt hi, Nat.add_sub_cancel, getD_lt (by omega : i < w.length)] at this
      simp at this
      omega
    rcases Nat.lt_or_ge j i with hji | hji
    · exact Int.lt_trans (ih (by omega) j hji) hb
    · have : j = i := by omega
      subst this
      exact hb
theorem checkMem_rise {m : Mem} (h : checkMem m = 0) : anyW m.issued m.waiting = false := by
  unfold checkMem at h
  split at h
  · cases h
  split at h
  · cases h
  split at h
  · cases h
  · rename_i h3
    simpa using h3
end Go.Proofs.Ytihljollfbogeaa
