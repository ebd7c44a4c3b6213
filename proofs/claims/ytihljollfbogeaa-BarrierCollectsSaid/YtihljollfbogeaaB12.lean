/- Runs of both CheckMember, whole. No condition. -/
import Derived.Test.YtihljollfbogeaaB11
set_option linter.unusedSimpArgs false
namespace Go.Proofs.Ytihljollfbogeaa
open Go Go.RowKit
attribute [local simp] run_skip run_ret run_exit run_seq run_block run_reg thn_norm thn_toNorm thn_ret thn_exit endB_norm endB_toNorm endB_ret endB_exit regA_nil regA_cons putA_some putA_none insA_plain opA COp.ev pu dl dl0 appD nameOf nameOr_ptr nameOr_ref nameOr_mp nameOr_nl nameOr_full nameOr_grown grown_zero grownH_nil hset_id toNorm putA aEval_tmp aEval_func aEval_int aEval_bool aEval_nil edst eset_same eset_ne cmp_lss cmp_leq cmp_gtr cmp_geq cmp_eql cmp_neq num_add num_sub num_mul num_rem cmp_beql cmp_bneq cmp_seql cmp_sneq ite_map ite_bind ends_some ends_none ends_ite ends_bind ends_map rnd_norm rnd_toNorm rnd_exit rnd_ret norm_encI norm_encB oLit oAppend Blk.isDead oElems oSlice oExtract oIndexA oMk0 oConvInt oMin oMax oMapNew oMapPut oMapGet findA oNil AV.single valueA oPick oNot argEnv ressA resA tupA oNew oLoad oStore oFieldAddr oLen oIndexS asNum rowAt? hset partA AV.cells AV.storable AV.one hemp callA callD outA_sc outA_imm outA_agg outA_tup outA_ref outA_nl outA_full fz_sc fz_imm fz_full fz_nl fz_fn fz_agg fz_tup fz_ref fzA_sc fzA_imm fzA_full fzA_nl fzA_agg fzA_ref fz1_sc fz1_imm fz1_full fz1_nl fz1_ref fzRow_all AV.scalar AV.scalar1 evC nm nmA nm1 nm0 insA_b insA_skip run_condB isBool boolOf run_drawn endD_mk drawA_nil drawA_cons nextD_mk consE_mk putD_some putD_none insD_plain insD_b insD_skip opD COp.rd COp.wr AV.nms AV.nms1 indeps indep oMake oBuildC fillC setCellsA ofVal ofCell Value.oneCell' reshape LIM AV.pure AV.pure1 norm norm1 run_loop
theorem check89_run (H : Hand) (I : Inl) (N : Nat) (m : Mem) (hx : m.waiting.length < 4294967296 ∧ m.held.length < 4294967296) (hN : m.waiting.length < N ∧ m.held.length < N) (h188 : ∀ (l : List Int) (x : Int), (l.length ≤ m.held.length ∨ l.length ≤ m.waiting.length) → H 188 [.imm (l.map encI), .sc (.int .i64 x)] = some (.sc (.bool (decide (x ∈ l))))) :
    Ends (fnA H I N 1 c89 [m.enc] hemp) (fun p => outA p = encI (checkMem m)) := by
  have k1 := fun n v h hm e => loop89W H I N m hx.1 n v h hm hN.1 e
  have k2 := fun n v h hm e => loop89H H I N m hx.2 h188 n v h hm hN.2 e
  obtain ⟨mr, mp, mt, mi, mf, ml, w, hl⟩ := m
  cases mf <;> simp -implicitDefEqProofs [fnA, c89, Mem.enc, encI, encB]
  all_goals repeat' first | refine And.intro ?_ ?_ | intro _
  all_goals try (show (_ : Int) = _; simp only [checkMem]; (repeat' split) <;> first | rfl | (exfalso; omega) | (exfalso; simp at *; omega) | (exfalso; simp_all; omega) | (exfalso; simp_all; done))
  all_goals
    refine Ends.mono (k1 513 1 _ (by simp [Mem.enc, encI, encB]) _ (by simp) (by simp [encI])) ?_
    rintro ⟨y, e', h'⟩ ⟨rfl, (⟨rfl, f1, f2⟩ | ⟨rfl, f1, f2⟩)⟩
    · simp only at f1 f2
      simp -implicitDefEqProofs [f1]
      refine Ends.mono (k2 513 1 _ (by simp [Mem.enc, encI, encB]) _ (by simp [f1]) (by simp [encI])) ?_
      rintro ⟨y, e'', h'⟩ ⟨rfl, (⟨rfl, f4⟩ | ⟨rfl, f3, f4⟩)⟩
      · try simp only at f4
        simp -implicitDefEqProofs
        simp only [checkMem, f2, f4]; (repeat' split) <;> first | rfl | (exfalso; omega) | (exfalso; simp at *; omega) | (exfalso; simp_all; omega) | (exfalso; simp_all; done)
      · simp only [encI] at f3 f4
        simp -implicitDefEqProofs [f3]
        simp only [checkMem, f2, f4]; (repeat' split) <;> first | rfl | (exfalso; omega) | (exfalso; simp at *; omega) | (exfalso; simp_all; omega) | (exfalso; simp_all; done)
    · simp only [encI] at f1 f2
      simp -implicitDefEqProofs [f1]
      simp only [checkMem, f2]; (repeat' split) <;> first | rfl | (exfalso; omega) | (exfalso; simp at *; omega) | (exfalso; simp_all; omega) | (exfalso; simp_all; done)
theorem check88_run (H : Hand) (I : Inl) (N : Nat) (m : Mem) (h133 : ∀ n, H 133 [.sc (.int .i64 n)] = some (.sc (.bool (timeOk n)))) (hx : m.waiting.length < 4294967296 ∧ m.held.length < 4294967296) (hN : m.waiting.length < N ∧ m.held.length < N) (h83 : ∀ (l : List Int) (x : Int), (l.length ≤ m.held.length ∨ l.length ≤ m.waiting.length) → H 83 [.imm (l.map encI), .sc (.int .i64 x)] = some (.sc (.bool (decide (x ∈ l))))) :
    Ends (fnA H I N 1 c88 [m.enc] hemp) (fun p => outA p = encI (checkMem m)) := by
  have k1 := fun n v h hm e => loop88W H I N m hx.1 n v h hm hN.1 e
  have k2 := fun n v h hm e => loop88H H I N m hx.2 h83 n v h hm hN.2 e
  obtain ⟨mr, mp, mt, mi, mf, ml, w, hl⟩ := m
  cases mf <;> simp -implicitDefEqProofs [fnA, c88, Mem.enc, encI, encB, h133]
  all_goals repeat' first | refine And.intro ?_ ?_ | intro _
  all_goals try simp only [timeOk, Bool.and_eq_true, Bool.and_eq_false_iff, decide_eq_true_eq, decide_eq_false_iff_not] at *
  all_goals try (show (_ : Int) = _; simp only [checkMem]; (repeat' split) <;> first | rfl | (exfalso; omega) | (exfalso; simp at *; omega) | (exfalso; simp_all; omega) | (exfalso; simp_all; done))
  all_goals
    refine Ends.mono (k1 513 1 _ (by simp [Mem.enc, encI, encB]) _ (by simp) (by simp) (by simp [encI]) (by simp [encI])) ?_
    rintro ⟨y, e', h'⟩ ⟨rfl, (⟨rfl, f1, f2⟩ | ⟨rfl, f1, f2⟩)⟩
    · simp only at f1 f2
      simp -implicitDefEqProofs [f1]
      refine Ends.mono (k2 513 1 _ (by simp [Mem.enc, encI, encB]) _ (by simp [f1]) (by simp) (by simp [encI]) (by simp [encI])) ?_
      rintro ⟨y, e'', h'⟩ ⟨rfl, (⟨rfl, f4⟩ | ⟨rfl, f3, f4⟩)⟩
      · try simp only at f4
        simp -implicitDefEqProofs
        simp only [checkMem, f2, f4]; (repeat' split) <;> first | rfl | (exfalso; omega) | (exfalso; simp at *; omega) | (exfalso; simp_all; omega) | (exfalso; simp_all; done)
      · simp only [encI] at f3 f4
        simp -implicitDefEqProofs [f3]
        simp only [checkMem, f2, f4]; (repeat' split) <;> first | rfl | (exfalso; omega) | (exfalso; simp at *; omega) | (exfalso; simp_all; omega) | (exfalso; simp_all; done)
    · simp only [encI] at f1 f2
      simp -implicitDefEqProofs [f1]
      simp only [checkMem, f2]; (repeat' split) <;> first | rfl | (exfalso; omega) | (exfalso; simp at *; omega) | (exfalso; simp_all; omega) | (exfalso; simp_all; done)
end Go.Proofs.Ytihljollfbogeaa
