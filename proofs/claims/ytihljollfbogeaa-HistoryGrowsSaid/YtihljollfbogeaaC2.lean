/- slices.Clone at any element: the same elements. No condition. -/
import Derived.Test.YtihljollfbogeaaC1
import Derived.Test.YtihljollfbogeaaMc
set_option linter.unusedSimpArgs false
namespace Go.Proofs.Ytihljollfbogeaa
open Go Go.RowKit
attribute [local simp] run_skip run_ret run_exit run_seq run_block run_reg thn_norm thn_toNorm thn_ret thn_exit endB_norm endB_toNorm endB_ret endB_exit regA_nil regA_cons putA_some putA_none insA_plain opA COp.ev pu dl dl0 appD nameOf nameOr toNorm putA aEval_tmp aEval_func aEval_int aEval_bool aEval_nil edst eset_same eset_ne cmp_lss cmp_leq cmp_gtr cmp_geq cmp_eql cmp_neq num_add num_sub num_mul num_rem cmp_beql cmp_bneq cmp_seql cmp_sneq ite_map ite_bind ends_some ends_none ends_ite ends_bind ends_map rnd_norm rnd_toNorm rnd_exit rnd_ret norm_encI norm_encB oLit oAppend frzD_no Blk.isDead oElems oSlice oExtract oIndexA oMk0 oConvInt oMin oMax oMapNew oMapPut oMapGet findA oNil AV.single valueA oPick oNot argEnv ressA resA tupA oNew oLoad oStore oFieldAddr oLen oIndexS asNum rowAt? hset partA AV.cells AV.storable AV.one hemp callA isMk copyA outA_sc outA_imm outA_agg outA_tup outA_ref outA_nl outA_full fz_sc fz_imm fz_full fz_nl fz_fn fz_agg fz_tup fz_ref fzA_sc fzA_imm fzA_full fzA_nl fzA_agg fzA_ref fz1_sc fz1_imm fz1_full fz1_nl fz1_ref fzRow_some AV.scalar AV.scalar1 insA_yes insA_no run_cond_true run_cond_false run_drawn endD_mk drawA_nil drawA_cons nextD_mk consE_mk putD_some putD_none insD_plain insD_yes insD_no opD COp.rd COp.wr AV.nms AV.nms1 indeps indep oMake oBuildC fillC setCellsA ofVal ofCell Value.oneCell' reshape LIM AV.pure AV.pure1 norm norm1 run_loop
def hClone (k : Nat) : List AV → Option AV
  | [.imm xs] => if xs.all (okEl k) = true ∧ xs.all AV.pure = true ∧ xs.length ≤ LIM then some (.imm (xs.map norm)) else none
  | _ => none
theorem clone_full {H : Hand} {I : Inl} {N q k : Nat} {y : AV} {ys : List AV} (h1 : (y :: ys).all (okEl k) = true) (g2 : (y :: ys).all AV.pure = true) (h2 : (y :: ys).length ≤ LIM) :
    Ends (fnA H I N q (cloneC k) [.imm (y :: ys)] hemp) (fun p => outA p = .imm ((y :: ys).map norm)) := by
  have g1 : ((y :: ys).all fun v => v.storable && decide (v.cells.length = k)) = true := h1
  generalize hxs : y :: ys = xs at *
  have hnil : ∀ h, oIsNil h (.imm xs) = some (.sc (.bool false)) := by subst hxs; intro h; rfl
  have hL : xs.length ≤ 1073741824 := h2
  have hz : ∀ r, frzD (q * 512 + 7) r = r := frzD_no (by omega)
  simp [fnA, cloneC, hnil, hz, -AV.pure, -AV.storable, -AV.cells, g1, g2, hL, -List.all_eq_true, -Bool.and_eq_true]
theorem clone_nil {H : Hand} {I : Inl} {N q k : Nat} (A : Option Addr) (cap : Nat) :
    Ends (fnA H I N q (cloneC k) [.sc (.slice A 0 cap)] hemp) (fun p => outA p = .imm []) := by
  have hz : ∀ r, frzD (q * 512 + 7) r = r := frzD_no (by omega)
  cases A <;> simp [fnA, cloneC, oIsNil, hz]
theorem clone_ok {P : Program} (hm : P.follows .mixedOrders = true) {f : FuncId} {fn : Func} {k : Nat} (hf : P.funcs[f]? = some fn) (hc : compFn P fn = some (cloneC k)) (l : List AV) (r : AV) (hr : hClone k l = some r) : Enters P f ∧ Good P f l r := by
  unfold hClone at hr
  split at hr
  · rename_i xs
    split at hr
    · rename_i h
      cases hr
      cases xs with
      | cons y ys => exact good_of_ends (H := mkH []) (I := fun _ _ _ _ => none) (N := 0) (q := 0) (mkH_ok fun p hp => by cases hp) no_inl hm hf hc (clone_full h.1 h.2.1 h.2.2)
      | nil =>
        refine ⟨enters hf hc, fun w ok us hok hl hv => ?_⟩
        match us, hl with
        | [u], _ =>
          have hu := hv 0 _ u rfl rfl
          cases hu with
          | low _ _ hu =>
            cases hu with
            | imm _ A cap sz b o U hcap hh hcc hvv =>
              exact (good_of_ends (H := mkH []) (I := fun _ _ _ _ => none) (N := 0) (q := 0) (mkH_ok fun p hp => by cases hp) no_inl hm hf hc (clone_nil A cap)).2 w ok _ hok rfl (fun i a u ha hu => by
                match i, ha, hu with
                | 0, ha, hu =>
                  simp at ha hu
                  subst ha; subst hu
                  exact V.sc rfl)
    · cases hr
  · cases hr
theorem mixed : Try.prog.follows .mixedOrders = true := by kernel_rfl
theorem clone137_ok : ∀ l r, hClone 1 l = some r → Enters Try.prog 137 ∧ Good Try.prog 137 l r := clone_ok mixed Try.func137 k137
theorem clone218_ok : ∀ l r, hClone 1 l = some r → Enters Try.prog 218 ∧ Good Try.prog 218 l r := clone_ok mixed Try.func218 k218
end Go.Proofs.Ytihljollfbogeaa
