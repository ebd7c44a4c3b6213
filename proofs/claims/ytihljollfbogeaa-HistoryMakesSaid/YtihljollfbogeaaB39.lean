/- The law HistoryMakes, run. No condition. -/
import Derived.Test.YtihljollfbogeaaB38
import Derived.Test.YtihljollfbogeaaL6
set_option linter.unusedSimpArgs false
namespace Go.Proofs.Ytihljollfbogeaa
open Go Go.RowKit
attribute [local simp] run_skip run_ret run_exit run_seq run_block run_reg thn_norm thn_toNorm thn_ret thn_exit endB_norm endB_toNorm endB_ret endB_exit regA_nil regA_cons putA_some putA_none insA_plain opA COp.ev pu dl dl0 appD nameOf nameOr_ptr nameOr_ref nameOr_mp nameOr_nl nameOr_full nameOr_grown grown_zero grownH_nil hset_id toNorm putA aEval_tmp aEval_func aEval_int aEval_bool aEval_nil edst eset_same eset_ne cmp_lss cmp_leq cmp_gtr cmp_geq cmp_eql cmp_neq num_add num_sub num_mul num_rem cmp_beql cmp_bneq cmp_seql cmp_sneq ite_map ite_bind ends_some ends_none ends_ite ends_bind ends_map rnd_norm rnd_toNorm rnd_exit rnd_ret norm_encI norm_encB oLit oAppend Blk.isDead oElems oSlice oExtract oIndexA oMk0 oConvInt oMin oMax oMapNew oMapPut oMapGet findA oNil AV.single valueA oPick oNot argEnv ressA resA tupA oNew oLoad oStore oFieldAddr oLen oIndexS asNum rowAt? hset partA AV.cells AV.storable AV.one hemp callA callD outA_sc outA_imm outA_agg outA_tup outA_ref outA_nl outA_full fz_sc fz_imm fz_full fz_nl fz_fn fz_agg fz_tup fz_ref fzA_sc fzA_imm fzA_full fzA_nl fzA_agg fzA_ref fz1_sc fz1_imm fz1_full fz1_nl fz1_ref fzRow_all AV.scalar AV.scalar1 evC nm nmA nm1 nm0 insA_b insA_skip run_condB isBool boolOf run_drawn endD_mk drawA_nil drawA_cons nextD_mk consE_mk putD_some putD_none insD_plain insD_b insD_skip opD COp.rd COp.wr AV.nms AV.nms1 indeps indep oMake oBuildC fillC setCellsA ofVal ofCell Value.oneCell' reshape LIM AV.pure AV.pure1 norm norm1 run_loop
theorem law6_run (H : Hand) (I : Inl) (N : Nat) (h : Hist) (sizes : List Int) (few : Bool) (g : Hist) (x y : Int) (h28 : H 28 [h.enc] = some (encB few)) (h29 : H 29 [] = some (encB true))
    (hh : few = true → sizes.length ≤ 20 → H 53 [encIs sizes] = some (.tup [g.enc, encI x]) ∧ H 54 [encIs sizes] = some (.tup [g.enc, encI x]) ∧ H 55 [g.enc, g.enc] = some (encB true) ∧ H 56 [h.enc] = some (encI y) ∧ H 57 [h.enc] = some (encI y)) :
    Ends (fnA H I N 1 c6 [encIs sizes, h.enc] hemp) (fun p => outA p = encB true) := by
  have he : h.enc = .agg [encIs h.sizes, encWs h.writes, encEs h.events] := rfl
  have hg : g.enc = .agg [encIs g.sizes, encWs g.writes, encEs g.events] := rfl
  cases few with
  | false =>
    simp only [he, encIs, encWs, encEs, encI, encB] at h28 h29
    simp -implicitDefEqProofs [fnA, c6, he, encIs, encWs, encEs, encI, encB, h28, h29]
  | true =>
    by_cases c1 : 20 < (sizes.length : Int)
    · simp only [he, encIs, encWs, encEs, encI, encB] at h28 h29
      simp -implicitDefEqProofs [fnA, c6, he, encIs, encWs, encEs, encI, encB, h28, h29, c1]
    · obtain ⟨k1, k2, k3, k4, k5⟩ := hh rfl (by omega)
      simp only [he, hg, encIs, encWs, encEs, encI, encB] at h28 h29 k1 k2 k3 k4 k5
      simp -implicitDefEqProofs [fnA, c6, he, encIs, encWs, encEs, encI, encB, h28, h29, c1, k1, k2, k3, k4, k5]
end Go.Proofs.Ytihljollfbogeaa
