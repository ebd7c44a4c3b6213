/- Runs of SameMember at equal members and of the law BarrierObeys. No condition. -/
import Derived.Test.YtihljollfbogeaaB14
set_option linter.unusedSimpArgs false
namespace Go.Proofs.Ytihljollfbogeaa
open Go Go.RowKit
attribute [local simp] run_skip run_ret run_exit run_seq run_block run_reg thn_norm thn_toNorm thn_ret thn_exit endB_norm endB_toNorm endB_ret endB_exit regA_nil regA_cons putA_some putA_none insA_plain opA COp.ev pu dl dl0 appD nameOf nameOr_ptr nameOr_ref nameOr_mp nameOr_nl nameOr_full nameOr_grown grown_zero grownH_nil hset_id toNorm putA aEval_tmp aEval_func aEval_int aEval_bool aEval_nil edst eset_same eset_ne cmp_lss cmp_leq cmp_gtr cmp_geq cmp_eql cmp_neq num_add num_sub num_mul num_rem cmp_beql cmp_bneq cmp_seql cmp_sneq ite_map ite_bind ends_some ends_none ends_ite ends_bind ends_map rnd_norm rnd_toNorm rnd_exit rnd_ret norm_encI norm_encB oLit oAppend Blk.isDead oElems oSlice oExtract oIndexA oMk0 oConvInt oMin oMax oMapNew oMapPut oMapGet findA oNil AV.single valueA oPick oNot argEnv ressA resA tupA oNew oLoad oStore oFieldAddr oLen oIndexS asNum rowAt? hset partA AV.cells AV.storable AV.one hemp callA callD outA_sc outA_imm outA_agg outA_tup outA_ref outA_nl outA_full fz_sc fz_imm fz_full fz_nl fz_fn fz_agg fz_tup fz_ref fzA_sc fzA_imm fzA_full fzA_nl fzA_agg fzA_ref fz1_sc fz1_imm fz1_full fz1_nl fz1_ref fzRow_all AV.scalar AV.scalar1 evC nm nmA nm1 nm0 insA_b insA_skip run_condB isBool boolOf run_drawn endD_mk drawA_nil drawA_cons nextD_mk consE_mk putD_some putD_none insD_plain insD_b insD_skip opD COp.rd COp.wr AV.nms AV.nms1 indeps indep oMake oBuildC fillC setCellsA ofVal ofCell Value.oneCell' reshape LIM AV.pure AV.pure1 norm norm1 run_loop
theorem same52_run (H : Hand) (I : Inl) (N : Nat) (m : Mem) (h1 : H 49 [.imm (m.waiting.map encI), .imm (m.waiting.map encI)] = some (.sc (.bool true))) (h2 : H 49 [.imm (m.held.map encI), .imm (m.held.map encI)] = some (.sc (.bool true))) :
    Ends (fnA H I N 1 c52 [m.enc, m.enc] hemp) (fun p => outA p = encB true) := by
  obtain ⟨mr, mp, mt, mi, mf, ml, w, hl⟩ := m
  simp only at h1 h2
  cases mf <;> simp -implicitDefEqProofs [fnA, c52, Mem.enc, encI, encB, h1, h2]
def callEnc (g : Msg) (now patience : Int) : AV := .agg [encI g.kind, encI g.src, encI g.dst, encI g.number, encI g.value, encI g.epoch, .imm (g.values.map encI), .imm (g.body.map encU), encI now, encI patience]
theorem law5_run (H : Hand) (I : Inl) (N : Nat) (m : Mem) (g : Msg) (now patience : Int) (fw : Bool) (r : Mem × List Int × List Msg)
    (h37 : H 37 [Coord.zero.enc, m.enc] = some (encB fw)) (h38 : H 38 [] = some (encB true))
    (hh : fw = true → g.values.length ≤ 20 → g.body.length ≤ 20 → H 50 [m.enc, encI now, encI patience, g.enc] = some (encO r) ∧ H 51 [m.enc, encI now, encI patience, g.enc] = some (encO r) ∧ H 52 [r.1.enc, r.1.enc] = some (encB true)
      ∧ H 49 [.imm (r.2.1.map encI), .imm (r.2.1.map encI)] = some (encB true) ∧ H 42 [encMs r.2.2, encMs r.2.2] = some (encB true)) :
    Ends (fnA H I N 1 c5 [m.enc, callEnc g now patience] hemp) (fun p => outA p = encB true) := by
  obtain ⟨mr, mp, mt, mi, mf, ml, w, hl⟩ := m
  obtain ⟨gk, gs, gd, gn, gv, ge, gvs, gb⟩ := g
  obtain ⟨⟨b1, b2, b3, b4, b5, b6, b7, b8⟩, acks, ms⟩ := r
  simp only [Coord.enc, Coord.zero, Mem.enc, encI, encB, List.map_nil] at h37 h38
  simp only at hh
  cases fw with
  | false => simp -implicitDefEqProofs [fnA, c5, callEnc, Mem.enc, encI, encB, h37, h38]
  | true =>
    by_cases c1 : 20 < (gvs.length : Int)
    · simp -implicitDefEqProofs [fnA, c5, callEnc, Mem.enc, encI, encB, h37, h38, c1]
    by_cases c2 : 20 < (gb.length : Int)
    · simp -implicitDefEqProofs [fnA, c5, callEnc, Mem.enc, encI, encB, h37, h38, c1, c2]
    obtain ⟨g1, g2, g3, g4, g5⟩ := hh rfl (by omega) (by omega)
    simp only [Mem.enc, Msg.enc, encO, encMs, encI, encB] at g1 g2 g3 g4 g5
    simp -implicitDefEqProofs [fnA, c5, callEnc, Mem.enc, encI, encB, h37, h38, c1, c2, g1, g2, g3, g4, g5]
end Go.Proofs.Ytihljollfbogeaa
