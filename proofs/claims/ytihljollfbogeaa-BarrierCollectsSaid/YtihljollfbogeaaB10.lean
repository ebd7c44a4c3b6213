/- Runs of Contains and has. No condition. -/
import Derived.Test.YtihljollfbogeaaB9
import Derived.Test.YtihljollfbogeaaC5
set_option linter.unusedSimpArgs false
namespace Go.Proofs.Ytihljollfbogeaa
open Go Go.RowKit
attribute [local simp] run_skip run_ret run_exit run_seq run_block run_reg thn_norm thn_toNorm thn_ret thn_exit endB_norm endB_toNorm endB_ret endB_exit regA_nil regA_cons putA_some putA_none insA_plain opA COp.ev pu dl dl0 appD nameOf nameOr_ptr nameOr_ref nameOr_mp nameOr_nl nameOr_full nameOr_grown grown_zero grownH_nil hset_id toNorm putA aEval_tmp aEval_func aEval_int aEval_bool aEval_nil edst eset_same eset_ne cmp_lss cmp_leq cmp_gtr cmp_geq cmp_eql cmp_neq num_add num_sub num_mul num_rem cmp_beql cmp_bneq cmp_seql cmp_sneq ite_map ite_bind ends_some ends_none ends_ite ends_bind ends_map rnd_norm rnd_toNorm rnd_exit rnd_ret norm_encI norm_encB oLit oAppend Blk.isDead oElems oSlice oExtract oIndexA oMk0 oConvInt oMin oMax oMapNew oMapPut oMapGet findA oNil AV.single valueA oPick oNot argEnv ressA resA tupA oNew oLoad oStore oFieldAddr oLen oIndexS asNum rowAt? hset partA AV.cells AV.storable AV.one hemp callA callD outA_sc outA_imm outA_agg outA_tup outA_ref outA_nl outA_full fz_sc fz_imm fz_full fz_nl fz_fn fz_agg fz_tup fz_ref fzA_sc fzA_imm fzA_full fzA_nl fzA_agg fzA_ref fz1_sc fz1_imm fz1_full fz1_nl fz1_ref fzRow_all AV.scalar AV.scalar1 evC nm nmA nm1 nm0 insA_b insA_skip run_condB isBool boolOf run_drawn endD_mk drawA_nil drawA_cons nextD_mk consE_mk putD_some putD_none insD_plain insD_b insD_skip opD COp.rd COp.wr AV.nms AV.nms1 indeps indep oMake oBuildC fillC setCellsA ofVal ofCell Value.oneCell' reshape LIM AV.pure AV.pure1 norm norm1 run_loop
theorem loop188 (H : Hand) (I : Inl) (N q : Nat) (l : List Int) (x : Int) (bad : Bool) (ht : ∀ i (hi : i < l.length), l[i] = x → bad = true) (hf : (∀ i (hi : i < l.length), l[i] ≠ x) → bad = false) (hx : l.length < 4294967296) (h : Hp) (hN : l.length < N) (e : Env)
    (e0 : e 0 = .imm (l.map encI)) (e1 : e 1 = encI x) (e5 : e 5 = encI 0) :
    Ends (iter (run H I N q b188_0) N (e, h)) (fun r => (r.1 = .exit 0 ∧ bad = false) ∨ (r.1 = .ret ∧ r.2.1 4 = encB true ∧ bad = true)) := by
  refine Ends.mono (for_loop l.length (fun i s => s.1 0 = .imm (l.map encI) ∧ s.1 1 = encI x ∧ s.1 5 = encI i ∧ ∀ j (hj : j < l.length), j < i → l[j] ≠ x) (fun y s => (y = .exit 0 ∧ bad = false) ∨ (y = .ret ∧ s.1 4 = encB true ∧ bad = true)) ?_ ?_ hN ⟨e0, e1, e5, fun j _ hj => absurd hj (by omega)⟩) (fun r hr => hr.2)
  · rintro i e h' hi ⟨g0, g1, g5, gj⟩
    simp only [encI] at g0 g1 g5
    have hlt : (i : Int) < (l.length : Int) := by omega
    have hw : IntKind.i64.wrap ((i : Int) + 1) = (i : Int) + 1 := wrap_small (by omega) (by omega)
    by_cases he : l[i] = x
    · have := ht i hi he
      simp -implicitDefEqProofs [b188_0, g0, g1, g5, hlt, hi, he, encI, encB, hw, this]
    · simp -implicitDefEqProofs [b188_0, g0, g1, g5, hlt, hi, he, encI, encB, hw]
      intro j hj hji
      by_cases e1 : j = i
      · subst e1; exact he
      · exact gj j hj (by omega)
  · rintro e h' ⟨g0, g1, g5, gj⟩
    simp only [encI] at g0 g1 g5
    have := hf fun i hi => gj i hi hi
    simp -implicitDefEqProofs [b188_0, g0, g1, g5, this]
theorem has188_run (H : Hand) (I : Inl) (N : Nat) (l : List Int) (x : Int) (hx : l.length < 4294967296) (hN : l.length < N) : Ends (fnA H I N 1 c188 [.imm (l.map encI), encI x] hemp) (fun p => outA p = encB (decide (x ∈ l))) := by
  simp -implicitDefEqProofs [fnA, c188, encI]
  refine Ends.mono (loop188 H I N 1 l x (decide (x ∈ l)) (fun i hi he => by simp; rw [← he]; exact List.getElem_mem hi) (fun h => by
    simp only [decide_eq_false_iff_not]
    intro hm
    obtain ⟨i, hi, he⟩ := List.getElem_of_mem hm
    exact h i hi he) hx _ hN _ (by simp) (by simp [encI]) (by simp [encI])) ?_
  rintro ⟨y, e', h'⟩ (⟨rfl, k⟩ | ⟨rfl, k1, k⟩)
  · rw [k]; simp -implicitDefEqProofs [encB]
  · rw [k]
    simp only [encB] at k1
    simp -implicitDefEqProofs [encB, k1]
theorem loop160 (H : Hand) (I : Inl) (N q : Nat) (l : List Int) (x : Int) (hx : l.length < 4294967296) (h : Hp) (hN : l.length < N) (e : Env)
    (e0 : e 0 = .imm (l.map encI)) (e1 : e 1 = encI x) (e7 : e 7 = encI l.length) (e8 : e 8 = encI 0) :
    Ends (iter (run H I N q b160_0) N (e, h)) (fun r => (r.1 = .exit 0 ∧ idxF (fun y => decide (x = y)) l = -1) ∨ (r.1 = .ret ∧ r.2.1 4 = encI (idxF (fun y => decide (x = y)) l))) := by
  refine Ends.mono (for_loop l.length (fun i s => s.1 0 = .imm (l.map encI) ∧ s.1 1 = encI x ∧ s.1 7 = encI l.length ∧ s.1 8 = encI i ∧ ∀ j (hj : j < l.length), j < i → x ≠ l[j]) (fun y s => (y = .exit 0 ∧ idxF (fun y => decide (x = y)) l = -1) ∨ (y = .ret ∧ s.1 4 = encI (idxF (fun y => decide (x = y)) l))) ?_ ?_ hN ⟨e0, e1, e7, e8, fun j _ hj => absurd hj (by omega)⟩) (fun r hr => hr.2)
  · rintro i e h' hi ⟨g0, g1, g7, g8, gj⟩
    simp only [encI] at g0 g1 g7 g8
    have hlt : (i : Int) < (l.length : Int) := by omega
    have hw : IntKind.i64.wrap ((i : Int) + 1) = (i : Int) + 1 := wrap_small (by omega) (by omega)
    by_cases he : x = l[i]
    · have hidx : idxF (fun y => decide (x = y)) l = i := by
        have : l.findIdx? (fun y => decide (x = y)) = some i := List.findIdx?_eq_some_iff_getElem.2 ⟨hi, by simpa using he, fun j hji => by simpa using gj j (by omega) hji⟩
        simp [idxF, this]
      simp -implicitDefEqProofs [b160_0, g0, g1, g7, g8, hlt, hi, ← he, encI, encB, hw, hidx]
    · simp -implicitDefEqProofs [b160_0, g0, g1, g7, g8, hlt, hi, he, encI, encB, hw]
      intro j hj hji
      by_cases e1 : j = i
      · subst e1; exact he
      · exact gj j hj (by omega)
  · rintro e h' ⟨g0, g1, g7, g8, gj⟩
    simp only [encI] at g0 g1 g7 g8
    have hidx : idxF (fun y => decide (x = y)) l = -1 := by
      have : l.findIdx? (fun y => decide (x = y)) = none := List.findIdx?_eq_none_iff.2 fun n hn => by
        obtain ⟨j, hj0, rfl⟩ := List.getElem_of_mem hn
        simpa using gj j hj0 hj0
      simp [idxF, this]
    simp -implicitDefEqProofs [b160_0, g0, g1, g7, g8, hidx]
theorem index160_run (H : Hand) (I : Inl) (N : Nat) (l : List Int) (x : Int) (hx : l.length < 4294967296) (hN : l.length < N) : Ends (fnA H I N 1 c160 [.imm (l.map encI), encI x] hemp) (fun p => outA p = encI (idxF (fun y => decide (x = y)) l)) := by
  simp -implicitDefEqProofs [fnA, c160, encI]
  refine Ends.mono (loop160 H I N 1 l x hx _ hN _ (by simp) (by simp [encI]) (by simp [encI]) (by simp [encI])) ?_
  rintro ⟨y, e', h'⟩ (⟨rfl, k⟩ | ⟨rfl, k1⟩)
  · rw [k]; simp -implicitDefEqProofs
  · simp only [encI] at k1
    simp -implicitDefEqProofs [k1]
theorem contains83_run (H : Hand) (I : Inl) (N : Nat) (l : List Int) (x : Int) (h160 : H 160 [.imm (l.map encI), encI x] = some (encI (idxF (fun y => decide (x = y)) l))) : Ends (fnA H I N 1 c83 [.imm (l.map encI), encI x] hemp) (fun p => outA p = encB (decide (x ∈ l))) := by
  have h1 := idxF_any (fun y => decide (x = y)) l
  have h2 : l.any (fun y => decide (x = y)) = decide (x ∈ l) := by
    by_cases h : x ∈ l
    · simp [h]
    · simp [h]; intro y hy e; exact h (e ▸ hy)
  rw [h2] at h1
  rw [← h1]
  simp only [encI] at h160
  simp -implicitDefEqProofs [fnA, c83, encI, encB, h160]
end Go.Proofs.Ytihljollfbogeaa
