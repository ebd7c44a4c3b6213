/- Runs of the reference's CheckCoordinator. No condition. -/
import Derived.Test.YtihljollfbogeaaB3
import Derived.Test.YtihljollfbogeaaC2
set_option linter.unusedSimpArgs false
namespace Go.Proofs.Ytihljollfbogeaa
open Go Go.RowKit
attribute [local simp] run_skip run_ret run_exit run_seq run_block run_reg thn_norm thn_toNorm thn_ret thn_exit endB_norm endB_toNorm endB_ret endB_exit regA_nil regA_cons putA_some putA_none insA_plain opA COp.ev pu dl dl0 appD nameOf nameOr toNorm putA aEval_tmp aEval_func aEval_int aEval_bool aEval_nil edst eset_same eset_ne cmp_lss cmp_leq cmp_gtr cmp_geq cmp_eql cmp_neq num_add num_sub num_mul num_rem cmp_beql cmp_bneq cmp_seql cmp_sneq ite_map ite_bind ends_some ends_none ends_ite ends_bind ends_map rnd_norm rnd_toNorm rnd_exit rnd_ret norm_encI norm_encB oLit oAppend Blk.isDead oElems oSlice oExtract oIndexA oMk0 oConvInt oMin oMax oMapNew oMapPut oMapGet findA oNil AV.single valueA oPick oNot argEnv ressA resA tupA oNew oLoad oStore oFieldAddr oLen oIndexS asNum rowAt? hset partA AV.cells AV.storable AV.one hemp callA outA_sc outA_imm outA_agg outA_tup outA_ref outA_nl outA_full fz_sc fz_imm fz_full fz_nl fz_fn fz_agg fz_tup fz_ref fzA_sc fzA_imm fzA_full fzA_nl fzA_agg fzA_ref fz1_sc fz1_imm fz1_full fz1_nl fz1_ref fzRow_some AV.scalar AV.scalar1 evC nm nmA nm1 nm0 insA_yes insA_no insA_skip run_cond_true run_cond_false run_drawn endD_mk drawA_nil drawA_cons nextD_mk consE_mk putD_some putD_none insD_plain insD_yes insD_no insD_skip opD COp.rd COp.wr AV.nms AV.nms1 indeps indep oMake oBuildC fillC setCellsA ofVal ofCell Value.oneCell' reshape LIM AV.pure AV.pure1 norm norm1 run_loop
theorem check44_run (H : Hand) (I : Inl) (N q : Nat) (c : Coord) (hx : c.positions.length < 4294967296) (hN : c.positions.length < N) :
    Ends (fnA H I N q c44 [c.enc] hemp) (fun p => outA p = .sc (.int .i64 (checkCoord c))) := by
  have key := loop44 H I N q c hx
  obtain ⟨nodes, round, phase, deadline, positions, seen, valid⟩ := c
  simp only at key hN
  have fin : ∀ (e : Env) (h : Hp) (Q : CEx × St → Prop), (positions.length : Int) = nodes → (∃ m v, h m = (v, .row 7 [Coord.enc ⟨nodes, round, phase, deadline, positions, seen, valid⟩]) ∧ e 1 = .ptr m v 0 0) → e 3 = .sc (.int .i64 0) →
      (∀ x s', s'.2 = h → (x = CEx.exit 0 ∧ positions.any badPos = false) ∨ (x = .ret ∧ s'.1 2 = .sc (.int .i64 3) ∧ positions.any badPos = true) → Q (x, s')) → Ends (iter (run H I N q b44_0) N (e, h)) Q := fun e h Q h1 h2 h3 h4 => by
    obtain ⟨m, v, h5, h6⟩ := h2
    obtain ⟨x, s', k1, k2, k3⟩ := key h1 m v h h5 N hN e h6 h3
    exact ⟨_, k1, h4 x s' k2 k3⟩
  cases valid <;> simp -implicitDefEqProofs [fnA, c44, Coord.enc, encI, encB]
  all_goals repeat' first | refine And.intro ?_ ?_ | intro _
  all_goals try (simp [checkCoord, timeOk]; omega)
  all_goals
    refine fin _ _ _ (by assumption) ⟨q * 512 + 1, 1, by simp [Coord.enc, encI, encB], by simp⟩ (by simp) ?_
    rintro x ⟨e', h'⟩ rfl (⟨rfl, k⟩ | ⟨rfl, k1, k2⟩)
    · simp [checkCoord, timeOk, k]; omega
    · simp only at k1
      simp [checkCoord, timeOk, k1, k2]
end Go.Proofs.Ytihljollfbogeaa
