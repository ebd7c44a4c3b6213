/- Runs: the law HistoryGrows. No condition. -/
import Derived.Test.YtihljollfbogeaaB47
import Derived.Test.YtihljollfbogeaaL10
set_option linter.unusedSimpArgs false
set_option maxHeartbeats 1000000
namespace Go.Proofs.Ytihljollfbogeaa
open Go Go.RowKit
attribute [local simp] run_skip run_ret run_exit run_seq run_block run_reg thn_norm thn_toNorm thn_ret thn_exit endB_norm endB_toNorm endB_ret endB_exit regA_nil regA_cons putA_some putA_none insA_plain opA COp.ev pu dl dl0 appD nameOf nameOr_ptr nameOr_ref nameOr_mp nameOr_nl nameOr_full nameOr_grown grown_zero grownH_nil hset_id toNorm putA aEval_tmp aEval_func aEval_int aEval_bool aEval_nil edst eset_same eset_ne cmp_lss cmp_leq cmp_gtr cmp_geq cmp_eql cmp_neq num_add num_sub num_mul num_rem cmp_beql cmp_bneq cmp_seql cmp_sneq ite_map ite_bind ends_some ends_none ends_ite ends_bind ends_map rnd_norm rnd_toNorm rnd_exit rnd_ret norm_encI norm_encB oLit oAppend frzD_no Blk.isDead oElems oSlice oExtract oIndexA oMk0 oConvInt oMin oMax oMapNew oMapPut oMapGet findA oNil AV.single valueA oPick oNot argEnv ressA resA tupA oNew oLoad oStore oFieldAddr oLen oIndexS asNum rowAt? hset partA AV.cells AV.storable AV.one hemp callA isMk copyA callD outA_sc outA_imm outA_agg outA_tup outA_ref outA_nl outA_full fz_sc fz_imm fz_full fz_nl fz_fn fz_agg fz_tup fz_ref fzA_sc fzA_imm fzA_full fzA_nl fzA_agg fzA_ref fz1_sc fz1_imm fz1_full fz1_nl fz1_ref fzRow_all AV.scalar AV.scalar1 evC nm nmA nm1 nm0 insA_b insA_skip run_condB isBool boolOf run_drawn endD_mk drawA_nil drawA_cons nextD_mk consE_mk putD_some putD_none insD_plain insD_b insD_skip opD COp.rd COp.wr AV.nms AV.nms1 indeps indep oMake oBuildC fillC setCellsA ofVal ofCell Value.oneCell' reshape LIM AV.pure AV.pure1 norm norm1 run_loop
theorem law10_run (H : Hand) (I : Inl) (N : Nat) (h : Hist) (w : Wr) (k : Int) (few : Bool) (A : Hist × Int × Int) (B : Hist × Int) (h28 : H 28 [h.enc] = some (encB few)) (h29 : H 29 [] = some (encB true))
    (hf : few = true → w.data.length ≤ 30 → H 74 [h.enc, w.enc] = some (.tup [A.1.enc, encI A.2.1, encI A.2.2]) ∧ H 75 [h.enc, w.enc] = some (.tup [A.1.enc, encI A.2.1, encI A.2.2]) ∧ H 76 [h.enc, encI k] = some (.tup [B.1.enc, encI B.2]) ∧ H 77 [h.enc, encI k] = some (.tup [B.1.enc, encI B.2]) ∧ H 55 [A.1.enc, A.1.enc] = some (encB true) ∧ H 55 [B.1.enc, B.1.enc] = some (encB true)) :
    Ends (fnA H I N 1 c10 [h.enc, w.enc, encI k] hemp) (fun r => outA r = encB true) := by
  obtain ⟨p1, p2, p3⟩ := h
  obtain ⟨⟨a1, a2, a3⟩, an, ae⟩ := A
  obtain ⟨⟨b1, b2, b3⟩, be⟩ := B
  obtain ⟨wv, ws, wd⟩ := w
  simp only [Hist.enc, Wr.enc, encIs, encWs, encEs, encSs, encB, encI] at h28 h29 hf
  cases few
  · simp -implicitDefEqProofs [fnA, c10, h28, h29, encIs, encWs, encEs, encSs, encI, encB, Hist.enc, Wr.enc]
  by_cases c : 30 < (wd.length : Int)
  · simp -implicitDefEqProofs [fnA, c10, h28, h29, c, encIs, encWs, encEs, encSs, encI, encB, Hist.enc, Wr.enc]
  obtain ⟨h74, h75, h76, h77, h55a, h55b⟩ := hf rfl (by omega)
  simp -implicitDefEqProofs [fnA, c10, h28, h29, c, h74, h75, h76, h77, h55a, h55b, encIs, encWs, encEs, encSs, encI, encB, Hist.enc, Wr.enc]
end Go.Proofs.Ytihljollfbogeaa
