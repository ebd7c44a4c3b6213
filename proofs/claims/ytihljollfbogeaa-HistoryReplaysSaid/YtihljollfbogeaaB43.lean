/- Runs: the law HistoryReplays. No condition. -/
import Derived.Test.YtihljollfbogeaaD15
import Derived.Test.YtihljollfbogeaaL13
set_option linter.unusedSimpArgs false
set_option maxHeartbeats 1000000
namespace Go.Proofs.Ytihljollfbogeaa
open Go Go.RowKit
attribute [local simp] run_skip run_ret run_exit run_seq run_block run_reg thn_norm thn_toNorm thn_ret thn_exit endB_norm endB_toNorm endB_ret endB_exit regA_nil regA_cons putA_some putA_none insA_plain opA COp.ev pu dl dl0 appD nameOf nameOr_ptr nameOr_ref nameOr_mp nameOr_nl nameOr_full nameOr_grown grown_zero grownH_nil hset_id toNorm putA aEval_tmp aEval_func aEval_int aEval_bool aEval_nil edst eset_same eset_ne cmp_lss cmp_leq cmp_gtr cmp_geq cmp_eql cmp_neq num_add num_sub num_mul num_rem cmp_beql cmp_bneq cmp_seql cmp_sneq ite_map ite_bind ends_some ends_none ends_ite ends_bind ends_map rnd_norm rnd_toNorm rnd_exit rnd_ret norm_encI norm_encB oLit oAppend Blk.isDead oElems oSlice oExtract oIndexA oMk0 oConvInt oMin oMax oMapNew oMapPut oMapGet findA oNil AV.single valueA oPick oNot argEnv ressA resA tupA oNew oLoad oStore oFieldAddr oLen oIndexS asNum rowAt? hset partA AV.cells AV.storable AV.one hemp callA isMk copyA callD outA_sc outA_imm outA_agg outA_tup outA_ref outA_nl outA_full fz_sc fz_imm fz_full fz_nl fz_fn fz_agg fz_tup fz_ref fzA_sc fzA_imm fzA_full fzA_nl fzA_agg fzA_ref fz1_sc fz1_imm fz1_full fz1_nl fz1_ref fzRow_all AV.scalar AV.scalar1 evC nm nmA nm1 nm0 insA_b insA_skip run_condB isBool boolOf run_drawn endD_mk drawA_nil drawA_cons nextD_mk consE_mk putD_some putD_none insD_plain insD_b insD_skip opD COp.rd COp.wr AV.nms AV.nms1 indeps indep oMake oBuildC fillC setCellsA ofVal ofCell Value.oneCell' reshape LIM AV.pure AV.pure1 norm norm1 run_loop
theorem law13_run (H : Hand) (I : Inl) (N : Nat) (h R : Hist) (few ok : Bool) (C : Int) (h28 : H 28 [h.enc] = some (encB few)) (h29 : H 29 [] = some (encB true))
    (hf : few = true → H 85 [encIs h.sizes, encWs h.writes, encEs h.events] = some (.tup [R.enc, encB ok]) ∧ H 56 [h.enc] = some (encI C) ∧ (ok = false → C ≠ 0) ∧ (ok = true → H 56 [R.enc] = some (encI 0) ∧ H 55 [R.enc, h.enc] = some (encB (decide (C = 0))))) :
    Ends (fnA H I N 1 c13 [h.enc] hemp) (fun r => outA r = encB true) := by
  obtain ⟨p1, p2, p3⟩ := h
  obtain ⟨r1, r2, r3⟩ := R
  simp only [Hist.enc, encIs, encWs, encEs, encB, encI] at h28 h29 hf
  cases few
  · simp -implicitDefEqProofs [fnA, c13, h28, h29, encIs, encWs, encEs, encI, encB, Hist.enc]
  obtain ⟨h85, h56, hn, hy⟩ := hf rfl
  cases ok
  · have hc := hn rfl
    simp -implicitDefEqProofs [fnA, c13, h28, h29, h85, h56, hc, encIs, encWs, encEs, encI, encB, Hist.enc]
  obtain ⟨h56R, h55⟩ := hy rfl
  by_cases c : C = 0
  · subst c
    simp -implicitDefEqProofs [fnA, c13, h28, h29, h85, h56, h56R, h55, encIs, encWs, encEs, encI, encB, Hist.enc]
  · rw [decide_eq_false c] at h55
    simp -implicitDefEqProofs [fnA, c13, h28, h29, h85, h56, h56R, h55, c, encIs, encWs, encEs, encI, encB, Hist.enc]
end Go.Proofs.Ytihljollfbogeaa
