/- Runs of the law BarrierCounts. No condition. -/
import Derived.Test.YtihljollfbogeaaB18
set_option linter.unusedSimpArgs false
namespace Go.Proofs.Ytihljollfbogeaa
open Go Go.RowKit
attribute [local simp] run_skip run_ret run_exit run_seq run_block run_reg thn_norm thn_toNorm thn_ret thn_exit endB_norm endB_toNorm endB_ret endB_exit regA_nil regA_cons putA_some putA_none insA_plain opA COp.ev pu dl dl0 appD nameOf nameOr_ptr nameOr_ref nameOr_mp nameOr_nl nameOr_full nameOr_grown grown_zero grownH_nil hset_id toNorm putA aEval_tmp aEval_func aEval_int aEval_bool aEval_nil edst eset_same eset_ne cmp_lss cmp_leq cmp_gtr cmp_geq cmp_eql cmp_neq num_add num_sub num_mul num_rem cmp_beql cmp_bneq cmp_seql cmp_sneq ite_map ite_bind ends_some ends_none ends_ite ends_bind ends_map rnd_norm rnd_toNorm rnd_exit rnd_ret norm_encI norm_encB oLit oAppend Blk.isDead oElems oSlice oExtract oIndexA oMk0 oConvInt oMin oMax oMapNew oMapPut oMapGet findA oNil AV.single valueA oPick oNot argEnv ressA resA tupA oNew oLoad oStore oFieldAddr oLen oIndexS asNum rowAt? hset partA AV.cells AV.storable AV.one hemp callA callD outA_sc outA_imm outA_agg outA_tup outA_ref outA_nl outA_full fz_sc fz_imm fz_full fz_nl fz_fn fz_agg fz_tup fz_ref fzA_sc fzA_imm fzA_full fzA_nl fzA_agg fzA_ref fz1_sc fz1_imm fz1_full fz1_nl fz1_ref fzRow_all AV.scalar AV.scalar1 evC nm nmA nm1 nm0 insA_b insA_skip run_condB isBool boolOf run_drawn endD_mk drawA_nil drawA_cons nextD_mk consE_mk putD_some putD_none insD_plain insD_b insD_skip opD COp.rd COp.wr AV.nms AV.nms1 indeps indep oMake oBuildC fillC setCellsA ofVal ofCell Value.oneCell' reshape LIM AV.pure AV.pure1 norm norm1 run_loop
set_option maxHeartbeats 1000000 in
theorem law14_run (H : Hand) (I : Inl) (N : Nat) (m : Mem) (x now : Int) (fw : Bool) (r : Mem × Int) (d : Mem × List Int × Int) (l : Mem × List Int) (k : Int)
    (h37 : H 37 [Coord.zero.enc, m.enc] = some (encB fw)) (h38 : H 38 [] = some (encB true))
    (hh : fw = true → H 86 [m.enc] = some (encIs r) ∧ H 87 [m.enc] = some (encIs r) ∧ H 52 [r.1.enc, r.1.enc] = some (encB true) ∧ H 88 [m.enc] = some (encI k) ∧ H 89 [m.enc] = some (encI k)
      ∧ H 90 [m.enc, encI x] = some (encD d) ∧ H 91 [m.enc, encI x] = some (encD d) ∧ H 52 [d.1.enc, d.1.enc] = some (encB true) ∧ H 49 [.imm (d.2.1.map encI), .imm (d.2.1.map encI)] = some (encB true)
      ∧ H 92 [m.enc, encI now] = some (encRl l) ∧ H 93 [m.enc, encI now] = some (encRl l) ∧ H 52 [l.1.enc, l.1.enc] = some (encB true) ∧ H 49 [.imm (l.2.map encI), .imm (l.2.map encI)] = some (encB true)) :
    Ends (fnA H I N 1 c14 [m.enc, encI x, encI now] hemp) (fun p => outA p = encB true) := by
  obtain ⟨mr, mp, mt, mi, mf, ml, w, hl⟩ := m
  obtain ⟨⟨b1, b2, b3, b4, b5, b6, b7, b8⟩, n⟩ := r
  obtain ⟨⟨d1, d2, d3, d4, d5, d6, d7, d8⟩, da, de⟩ := d
  obtain ⟨⟨l1, l2, l3, l4, l5, l6, l7, l8⟩, la⟩ := l
  simp only [Coord.enc, Coord.zero, Mem.enc, encI, encB, List.map_nil] at h37 h38
  cases fw with
  | false => simp -implicitDefEqProofs [fnA, c14, Mem.enc, encI, encB, h37, h38]
  | true =>
    obtain ⟨g1, g2, g3, g4, g5, g6, g7, g8, g9, g10, g11, g12, g13⟩ := hh rfl
    simp only [Mem.enc, encIs, encD, encRl, encI, encB] at g1 g2 g3 g4 g5 g6 g7 g8 g9 g10 g11 g12 g13
    simp -implicitDefEqProofs [fnA, c14, Mem.enc, encI, encB, h37, h38, g1, g2, g3, g4, g5, g6, g7, g8, g9, g10, g11, g12, g13]
end Go.Proofs.Ytihljollfbogeaa
