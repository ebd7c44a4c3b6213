/- Runs of every and seen: are all nodes counted? No condition. -/
import Derived.Test.YtihljollfbogeaaB15
import Derived.Test.YtihljollfbogeaaC6
set_option linter.unusedSimpArgs false
namespace Go.Proofs.Ytihljollfbogeaa
open Go Go.RowKit
attribute [local simp] run_skip run_ret run_exit run_seq run_block run_reg thn_norm thn_toNorm thn_ret thn_exit endB_norm endB_toNorm endB_ret endB_exit regA_nil regA_cons putA_some putA_none insA_plain opA COp.ev pu dl dl0 appD nameOf nameOr_ptr nameOr_ref nameOr_mp nameOr_nl nameOr_full nameOr_grown grown_zero grownH_nil hset_id toNorm putA aEval_tmp aEval_func aEval_int aEval_bool aEval_nil edst eset_same eset_ne cmp_lss cmp_leq cmp_gtr cmp_geq cmp_eql cmp_neq num_add num_sub num_mul num_rem cmp_beql cmp_bneq cmp_seql cmp_sneq ite_map ite_bind ends_some ends_none ends_ite ends_bind ends_map rnd_norm rnd_toNorm rnd_exit rnd_ret norm_encI norm_encB oLit oAppend Blk.isDead oElems oSlice oExtract oIndexA oMk0 oConvInt oMin oMax oMapNew oMapPut oMapGet findA oNil AV.single valueA oPick oNot argEnv ressA resA tupA oNew oLoad oStore oFieldAddr oLen oIndexS asNum rowAt? hset partA AV.cells AV.storable AV.one hemp callA callD outA_sc outA_imm outA_agg outA_tup outA_ref outA_nl outA_full fz_sc fz_imm fz_full fz_nl fz_fn fz_agg fz_tup fz_ref fzA_sc fzA_imm fzA_full fzA_nl fzA_agg fzA_ref fz1_sc fz1_imm fz1_full fz1_nl fz1_ref fzRow_all AV.scalar AV.scalar1 evC nm nmA nm1 nm0 insA_b insA_skip run_condB isBool boolOf run_drawn endD_mk drawA_nil drawA_cons nextD_mk consE_mk putD_some putD_none insD_plain insD_b insD_skip opD COp.rd COp.wr AV.nms AV.nms1 indeps indep oMake oBuildC fillC setCellsA ofVal ofCell Value.oneCell' reshape LIM AV.pure AV.pure1 norm norm1 run_loop
theorem every_false {l : List Bool} {i : Nat} (hi : i < l.length) (h : l[i] = false) : l.all id = false := by
  rw [← Bool.not_eq_true]
  intro hh
  have := List.all_eq_true.1 hh _ (List.getElem_mem hi)
  rw [h] at this
  cases this
theorem every_true {l : List Bool} (h : ∀ j (hj : j < l.length), l[j] = true) : l.all id = true := List.all_eq_true.2 fun y hy => by
  obtain ⟨j, hj, rfl⟩ := List.getElem_of_mem hy
  exact h j hj
theorem loop153 (H : Hand) (I : Inl) (N q : Nat) (l : List Bool) (hx : l.length < 4294967296) (h : Hp) (hN : l.length < N) (e : Env) (e0 : e 0 = .imm (l.map encB)) (e3 : e 3 = encI 0) :
    Ends (iter (run H I N q b153_0) N (e, h)) (fun r => (r.1 = .exit 0 ∧ l.all id = true) ∨ (r.1 = .ret ∧ r.2.1 2 = encB false ∧ l.all id = false)) := by
  refine Ends.mono (for_loop l.length (fun i s => s.1 0 = .imm (l.map encB) ∧ s.1 3 = encI i ∧ ∀ j (hj : j < l.length), j < i → l[j] = true) (fun y s => (y = .exit 0 ∧ l.all id = true) ∨ (y = .ret ∧ s.1 2 = encB false ∧ l.all id = false)) ?_ ?_ hN ⟨e0, e3, fun j _ hj => absurd hj (by omega)⟩) (fun r hr => hr.2)
  · rintro i e h' hi ⟨g0, g3, gj⟩
    simp only [encI] at g0 g3
    have hlt : (i : Int) < (l.length : Int) := by omega
    have hw : IntKind.i64.wrap ((i : Int) + 1) = (i : Int) + 1 := wrap_small (by omega) (by omega)
    cases hb : l[i] with
    | false =>
      have := every_false hi hb
      simp -implicitDefEqProofs [b153_0, g0, g3, hlt, hi, hb, encB, encI, hw, this, -List.all_eq_false, -List.all_eq_true]
    | true =>
      simp -implicitDefEqProofs [b153_0, g0, g3, hlt, hi, hb, encB, encI, hw]
      intro j hj hji
      by_cases e1 : j = i
      · subst e1; exact hb
      · exact gj j hj (by omega)
  · rintro e h' ⟨g0, g3, gj⟩
    simp only [encI] at g0 g3
    have := every_true fun j hj => gj j hj hj
    simp -implicitDefEqProofs [b153_0, g0, g3, this, -List.all_eq_false, -List.all_eq_true]
theorem every153_run (H : Hand) (I : Inl) (N : Nat) (l : List Bool) (hx : l.length < 4294967296) (hN : l.length < N) : Ends (fnA H I N 1 c153 [.imm (l.map encB)] hemp) (fun p => outA p = encB (l.all id)) := by
  simp -implicitDefEqProofs [fnA, c153, -List.all_eq_false, -List.all_eq_true]
  refine Ends.mono (loop153 H I N 1 l hx _ hN _ (by simp) (by simp [encI])) ?_
  rintro ⟨y, e', h'⟩ (⟨rfl, k⟩ | ⟨rfl, k1, k⟩)
  · rw [k]; simp -implicitDefEqProofs [encB]
  · rw [k]
    simp only [encB] at k1
    simp -implicitDefEqProofs [encB, k1]
/-- Falses among the first i. -/
def falses (l : List Bool) : Nat := (l.filter (fun b => !b)).length
theorem falses_zero {l : List Bool} : falses l = 0 ↔ l.all id = true := by
  unfold falses
  rw [List.length_eq_zero_iff, List.filter_eq_nil_iff, List.all_eq_true]
  constructor
  · intro h x hx; have := h x hx; simpa using this
  · intro h x hx; have := h x hx; simpa using this
theorem loop219 (H : Hand) (I : Inl) (N q : Nat) (l : List Bool) (hx : l.length < 1073741824) (n v k w : Nat) (h : Hp) (hm : h n = (v, .row 1 (l.map encB))) (hne : n ≠ k) (hN : l.length < N) (e : Env)
    (e5 : e 5 = .ptr k w 0 0) (e19 : e 19 = .ref n v 0 l.length) (e20 : e 20 = encI l.length) (e21 : e 21 = encI 0) (hk : h k = (w, .row 2 [.agg [encI 0, encI 0]])) :
    Ends (iter (run H I N q b219_0) N (e, h)) (fun r => r.1 = .exit 0 ∧ r.2.1 5 = .ptr k w 0 0 ∧ r.2.2 = hset h k (w, .row 2 [.agg [encI (falses l : Nat), encI ((l.length - falses l : Nat) : Int)]])) := by
  refine Ends.mono (for_loop l.length (fun i s => s.1 5 = .ptr k w 0 0 ∧ s.1 19 = .ref n v 0 l.length ∧ s.1 20 = encI l.length ∧ s.1 21 = encI i ∧ s.2 = hset h k (w, .row 2 [.agg [encI (falses (l.take i) : Nat), encI ((i - falses (l.take i) : Nat) : Int)]]))
    (fun y s => y = .exit 0 ∧ s.1 5 = .ptr k w 0 0 ∧ s.2 = hset h k (w, .row 2 [.agg [encI (falses l : Nat), encI ((l.length - falses l : Nat) : Int)]])) ?_ ?_ hN ⟨e5, e19, e20, e21, ?_⟩) (fun r hr => hr.2)
  · rintro i e h' hi ⟨g5, g19, g20, g21, rfl⟩
    have hf : falses (l.take (i + 1)) = falses (l.take i) + (if l[i] = true then 0 else 1) := by
      unfold falses
      rw [← List.take_append_getElem hi, List.filter_append, List.length_append]
      cases l[i] <;> simp
    have hle : falses (l.take i) ≤ i := by
      unfold falses
      exact Nat.le_trans (List.length_filter_le _ _) (by simp; omega)
    rw [hf]
    generalize falses (l.take i) = f at hle ⊢
    simp only [encI] at g5 g19 g20 g21
    have hlt : (i : Int) < (l.length : Int) := by omega
    have hw1 : IntKind.i64.wrap ((i : Int) + 1) = (i : Int) + 1 := wrap_small (by omega) (by omega)
    have hw2 : IntKind.i64.wrap ((f : Int) + 1) = (f : Int) + 1 := wrap_small (by omega) (by omega)
    have hw3 : IntKind.i64.wrap (((i - f : Nat) : Int) + 1) = ((i + 1 - f : Nat) : Int) := by rw [wrap_small (by omega) (by omega)]; omega
    have hs : i + 1 - (f + 1) = i - f := by omega
    cases hb : l[i] <;> simp -implicitDefEqProofs [b219_0, g5, g19, g20, g21, hlt, hi, hb, encB, encI, hw1, hw2, hw3, hs, hm, hne, hset_twice]
  · rintro e h' ⟨g5, g19, g20, g21, rfl⟩
    rw [List.take_length]
    simp only [encI] at g5 g19 g20 g21
    simp -implicitDefEqProofs [b219_0, g5, g19, g20, g21, encI]
  · have : (w, Blk.row 2 [AV.agg [encI ((falses (l.take 0) : Nat) : Int), encI (((0 - falses (l.take 0) : Nat)) : Int)]]) = h k := by rw [hk]; simp [falses]
    rw [this, hset_id]
end Go.Proofs.Ytihljollfbogeaa
