/- Runs of the program's Obey. No condition. -/
import Derived.Test.YtihljollfbogeaaB13
set_option linter.unusedSimpArgs false
namespace Go.Proofs.Ytihljollfbogeaa
open Go Go.RowKit
attribute [local simp] run_skip run_ret run_exit run_seq run_block run_reg thn_norm thn_toNorm thn_ret thn_exit endB_norm endB_toNorm endB_ret endB_exit regA_nil regA_cons putA_some putA_none insA_plain opA COp.ev pu dl dl0 appD nameOf nameOr_ptr nameOr_ref nameOr_mp nameOr_nl nameOr_full nameOr_grown grown_zero grownH_nil hset_id toNorm putA aEval_tmp aEval_func aEval_int aEval_bool aEval_nil edst eset_same eset_ne cmp_lss cmp_leq cmp_gtr cmp_geq cmp_eql cmp_neq num_add num_sub num_mul num_rem cmp_beql cmp_bneq cmp_seql cmp_sneq ite_map ite_bind ends_some ends_none ends_ite ends_bind ends_map rnd_norm rnd_toNorm rnd_exit rnd_ret norm_encI norm_encB oLit oAppend Blk.isDead oElems oSlice oExtract oIndexA oMk0 oConvInt oMin oMax oMapNew oMapPut oMapGet findA oNil AV.single valueA oPick oNot argEnv ressA resA tupA oNew oLoad oStore oFieldAddr oLen oIndexS asNum rowAt? hset partA AV.cells AV.storable AV.one hemp callA callD outA_sc outA_imm outA_agg outA_tup outA_ref outA_nl outA_full fz_sc fz_imm fz_full fz_nl fz_fn fz_agg fz_tup fz_ref fzA_sc fzA_imm fzA_full fzA_nl fzA_agg fzA_ref fz1_sc fz1_imm fz1_full fz1_nl fz1_ref fzRow_all AV.scalar AV.scalar1 evC nm nmA nm1 nm0 insA_b insA_skip run_condB isBool boolOf run_drawn endD_mk drawA_nil drawA_cons nextD_mk consE_mk putD_some putD_none insD_plain insD_b insD_skip opD COp.rd COp.wr AV.nms AV.nms1 indeps indep oMake oBuildC fillC setCellsA ofVal ofCell Value.oneCell' reshape LIM AV.pure AV.pure1 norm norm1 run_loop
def T50 : List (FuncId × CFn) := [(138, c138), (139, c139), (140, c140), (190, c190), (213, c213)]
theorem i138 (H : Hand) (N d q : Nat) (l : List AV) (h : Hp) : inl (mkT T50) H N (d + 1) q 138 l h = fnA H (inl (mkT T50) H N d) N q c138 l h := rfl
theorem i139 (H : Hand) (N d q : Nat) (l : List AV) (h : Hp) : inl (mkT T50) H N (d + 1) q 139 l h = fnA H (inl (mkT T50) H N d) N q c139 l h := rfl
theorem i140 (H : Hand) (N d q : Nat) (l : List AV) (h : Hp) : inl (mkT T50) H N (d + 1) q 140 l h = fnA H (inl (mkT T50) H N d) N q c140 l h := rfl
theorem i190 (H : Hand) (N d q : Nat) (l : List AV) (h : Hp) : inl (mkT T50) H N (d + 1) q 190 l h = fnA H (inl (mkT T50) H N d) N q c190 l h := rfl
theorem i213 (H : Hand) (N d q : Nat) (l : List AV) (h : Hp) : inl (mkT T50) H N (d + 1) q 213 l h = fnA H (inl (mkT T50) H N d) N q c213 l h := rfl
set_option maxHeartbeats 1000000 in
theorem obey50_run (H : Hand) (N : Nat) (m : Mem) (now patience : Int) (g : Msg) (h88 : H 88 [m.enc] = some (encI (checkMem m))) (h133 : ∀ n, H 133 [.sc (.int .i64 n)] = some (.sc (.bool (timeOk n)))) (h137a : H 137 [.imm (m.waiting.map encI)] = some (.imm (m.waiting.map encI))) (h137b : H 137 [.imm (m.held.map encI)] = some (.imm (m.held.map encI)))
    (hn1 : ∀ l, H 138 l = none) (hn2 : ∀ l, H 139 l = none) (hn3 : ∀ l, H 140 l = none) (hn4 : ∀ l, H 190 l = none) (hn5 : ∀ l, H 213 l = none) :
    Ends (fnA H (inl (mkT T50) H N 3) N 1 c50 [m.enc, encI now, encI patience, g.enc] hemp) (fun p => outA p = encO (obey m now patience g)) := by
  have b1 := clampT_le 0 now (by omega) (by omega)
  have b2 := clampT_le 1 patience (by omega) (by omega)
  have hw : IntKind.i64.wrap (clampT 0 now + clampT 1 patience) = clampT 0 now + clampT 1 patience := wrap_small (by omega) (by omega)
  have hob : obey m now patience g = obey m now patience g := rfl
  generalize hr : obey m now patience g = r at hob ⊢
  unfold obey at hr
  obtain ⟨mr, mp, mt, mi, mf, ml, w, hl⟩ := m
  obtain ⟨gk, gs, gd, gn, gv, ge, gvs, gb⟩ := g
  simp only at hr h137a h137b
  generalize checkMem ⟨mr, mp, mt, mi, mf, ml, w, hl⟩ = k at hr h88
  simp only [Mem.enc, encI, encB] at h88
  by_cases hk : k = 0
  rotate_left
  · rw [if_pos (.inl hk)] at hr
    subst hr
    simp -implicitDefEqProofs [fnA, c50, Mem.enc, Msg.enc, encI, encB, h88, hk, encO, encMs]
  by_cases hg1 : gn < 1
  · rw [if_pos (.inr (.inl hg1))] at hr
    subst hr
    simp -implicitDefEqProofs [fnA, c50, Mem.enc, Msg.enc, encI, encB, h88, hk, hg1, encO, encMs]
  by_cases hg2 : 1073741824 < gn
  · have hto' : timeOk gn = false := by simp [timeOk]; omega
    rw [if_pos (.inr (.inr hg2))] at hr
    subst hr
    simp -implicitDefEqProofs [fnA, c50, Mem.enc, Msg.enc, encI, encB, h88, hk, hg1, hg2, h133, hto', encO, encMs]
  rw [if_neg (by omega)] at hr
  have hto : timeOk gn = true := by simp [timeOk]; omega
  have hcl1 : mn2 (mx2 now 0) 1073741824 = clampT 0 now := rfl
  have hcl2 : mn2 (mx2 patience 1) 1073741824 = clampT 1 patience := rfl
  by_cases k1 : gk = 1
  · subst k1
    rw [if_pos rfl] at hr
    by_cases c1 : mr < gn
    · rw [if_pos c1] at hr
      subst hr
      simp -implicitDefEqProofs [fnA, c50, Mem.enc, Msg.enc, encI, encB, h88, h133, hto, h137a, h137b, hk, hg1, hg2, c1, -oMin, -oMax, oMin_eq, oMax_eq, hcl1, hcl2, hw, hn1, hn2, hn3, hn4, hn5, i138, i139, i140, i190, i213, c138, c139, c140, c190, c213, d138_0, p138_0, d138_1, p138_1, d139_0, p139_0, d139_1, p139_1, d139_2, p139_2, d139_3, p139_3, d140_0, p140_0, encO, encMs, ansM, quick]
    · rw [if_neg c1] at hr
      by_cases c2 : gn = mr
      · subst c2
        cases mf with
        | false =>
          rw [if_neg (by simp)] at hr
          subst hr
          simp -implicitDefEqProofs [fnA, c50, Mem.enc, Msg.enc, encI, encB, h88, h133, hto, h137a, h137b, hk, hg1, hg2, c1, -oMin, -oMax, oMin_eq, oMax_eq, hcl1, hcl2, hw, hn1, hn2, hn3, hn4, hn5, i138, i139, i140, i190, i213, c138, c139, c140, c190, c213, d138_0, p138_0, d138_1, p138_1, d139_0, p139_0, d139_1, p139_1, d139_2, p139_2, d139_3, p139_3, d140_0, p140_0, encO, encMs, ansM, quick]
        | true =>
          rw [if_pos ⟨rfl, rfl⟩] at hr
          subst hr
          simp -implicitDefEqProofs [fnA, c50, Mem.enc, Msg.enc, encI, encB, h88, h133, hto, h137a, h137b, hk, hg1, hg2, c1, -oMin, -oMax, oMin_eq, oMax_eq, hcl1, hcl2, hw, hn1, hn2, hn3, hn4, hn5, i138, i139, i140, i190, i213, c138, c139, c140, c190, c213, d138_0, p138_0, d138_1, p138_1, d139_0, p139_0, d139_1, p139_1, d139_2, p139_2, d139_3, p139_3, d140_0, p140_0, encO, encMs, ansM, quick]
      · rw [if_neg (fun h => c2 h.1)] at hr
        subst hr
        have c3 : gn < mr := by omega
        simp -implicitDefEqProofs [fnA, c50, Mem.enc, Msg.enc, encI, encB, h88, h133, hto, h137a, h137b, hk, hg1, hg2, c1, c2, c3, -oMin, -oMax, oMin_eq, oMax_eq, hcl1, hcl2, hw, hn1, hn2, hn3, hn4, hn5, i138, i139, i140, i190, i213, c138, c139, c140, c190, c213, d138_0, p138_0, d138_1, p138_1, d139_0, p139_0, d139_1, p139_1, d139_2, p139_2, d139_3, p139_3, d140_0, p140_0, encO, encMs, ansM, quick]
  by_cases k3 : gk = 3
  · subst k3
    rw [if_neg (by decide), if_pos rfl] at hr
    by_cases c1 : gn < mr
    · rw [if_pos c1] at hr
      subst hr
      have c2 : ¬ gn = mr := by omega
      have c3 : ¬ mr < gn := by omega
      simp -implicitDefEqProofs [fnA, c50, Mem.enc, Msg.enc, encI, encB, h88, h133, hto, h137a, h137b, hk, hg1, hg2, c1, c2, c3, -oMin, -oMax, oMin_eq, oMax_eq, hcl1, hcl2, hw, hn1, hn2, hn3, hn4, hn5, i138, i139, i140, i190, i213, c138, c139, c140, c190, c213, d138_0, p138_0, d138_1, p138_1, d139_0, p139_0, d139_1, p139_1, d139_2, p139_2, d139_3, p139_3, d140_0, p140_0, encO, encMs, ansM, quick]
    rw [if_neg c1] at hr
    by_cases c3 : mr < gn
    · rw [if_pos c3] at hr
      subst hr
      have c2 : ¬ gn = mr := by omega
      simp -implicitDefEqProofs [fnA, c50, Mem.enc, Msg.enc, encI, encB, h88, h133, hto, h137a, h137b, hk, hg1, hg2, c1, c2, c3, -oMin, -oMax, oMin_eq, oMax_eq, hcl1, hcl2, hw, hn1, hn2, hn3, hn4, hn5, i138, i139, i140, i190, i213, c138, c139, c140, c190, c213, d138_0, p138_0, d138_1, p138_1, d139_0, p139_0, d139_1, p139_1, d139_2, p139_2, d139_3, p139_3, d140_0, p140_0, encO, encMs, ansM, quick]
    rw [if_neg c3] at hr
    have c2 : gn = mr := by omega
    subst c2
    cases mf with
    | false =>
      rw [if_pos rfl] at hr
      by_cases c4 : mt = gn
      · rw [if_pos c4] at hr
        subst hr
        rw [c4] at h88
        simp -implicitDefEqProofs [fnA, c50, Mem.enc, Msg.enc, encI, encB, h88, h133, hto, h137a, h137b, hk, hg1, hg2, c1, c3, c4, -oMin, -oMax, oMin_eq, oMax_eq, hcl1, hcl2, hw, hn1, hn2, hn3, hn4, hn5, i138, i139, i140, i190, i213, c138, c139, c140, c190, c213, d138_0, p138_0, d138_1, p138_1, d139_0, p139_0, d139_1, p139_1, d139_2, p139_2, d139_3, p139_3, d140_0, p140_0, encO, encMs, ansM, quick]
      · rw [if_neg c4] at hr
        subst hr
        simp -implicitDefEqProofs [fnA, c50, Mem.enc, Msg.enc, encI, encB, h88, h133, hto, h137a, h137b, hk, hg1, hg2, c1, c3, c4, -oMin, -oMax, oMin_eq, oMax_eq, hcl1, hcl2, hw, hn1, hn2, hn3, hn4, hn5, i138, i139, i140, i190, i213, c138, c139, c140, c190, c213, d138_0, p138_0, d138_1, p138_1, d139_0, p139_0, d139_1, p139_1, d139_2, p139_2, d139_3, p139_3, d140_0, p140_0, encO, encMs, ansM, quick]
    | true =>
      rw [if_neg (by simp)] at hr
      by_cases c4 : clampT 0 now < ml
      · rw [if_pos c4] at hr
        subst hr
        simp -implicitDefEqProofs [fnA, c50, Mem.enc, Msg.enc, encI, encB, h88, h133, hto, h137a, h137b, hk, hg1, hg2, c1, c3, c4, -oMin, -oMax, oMin_eq, oMax_eq, hcl1, hcl2, hw, hn1, hn2, hn3, hn4, hn5, i138, i139, i140, i190, i213, c138, c139, c140, c190, c213, d138_0, p138_0, d138_1, p138_1, d139_0, p139_0, d139_1, p139_1, d139_2, p139_2, d139_3, p139_3, d140_0, p140_0, encO, encMs, ansM, quick]
      · rw [if_neg c4] at hr
        subst hr
        by_cases c5 : mt = gn
        · rw [c5] at h88
          simp -implicitDefEqProofs [fnA, c50, Mem.enc, Msg.enc, encI, encB, h88, h133, hto, h137a, h137b, hk, hg1, hg2, c1, c3, c4, c5, -oMin, -oMax, oMin_eq, oMax_eq, hcl1, hcl2, hw, hn1, hn2, hn3, hn4, hn5, i138, i139, i140, i190, i213, c138, c139, c140, c190, c213, d138_0, p138_0, d138_1, p138_1, d139_0, p139_0, d139_1, p139_1, d139_2, p139_2, d139_3, p139_3, d140_0, p140_0, encO, encMs, ansM, quick]
        · simp -implicitDefEqProofs [fnA, c50, Mem.enc, Msg.enc, encI, encB, h88, h133, hto, h137a, h137b, hk, hg1, hg2, c1, c3, c4, c5, -oMin, -oMax, oMin_eq, oMax_eq, hcl1, hcl2, hw, hn1, hn2, hn3, hn4, hn5, i138, i139, i140, i190, i213, c138, c139, c140, c190, c213, d138_0, p138_0, d138_1, p138_1, d139_0, p139_0, d139_1, p139_1, d139_2, p139_2, d139_3, p139_3, d140_0, p140_0, encO, encMs, ansM, quick]
  by_cases k24 : gk = 24
  · subst k24
    rw [if_neg (by decide), if_neg (by decide), if_pos rfl] at hr
    by_cases c2 : gn = mr
    · subst c2
      cases mf with
      | false =>
        rw [if_neg (by simp)] at hr
        subst hr
        simp -implicitDefEqProofs [fnA, c50, Mem.enc, Msg.enc, encI, encB, h88, h133, hto, h137a, h137b, hk, hg1, hg2, -oMin, -oMax, oMin_eq, oMax_eq, hcl1, hcl2, hw, hn1, hn2, hn3, hn4, hn5, i138, i139, i140, i190, i213, c138, c139, c140, c190, c213, d138_0, p138_0, d138_1, p138_1, d139_0, p139_0, d139_1, p139_1, d139_2, p139_2, d139_3, p139_3, d140_0, p140_0, encO, encMs, ansM, quick]
      | true =>
        rw [if_pos ⟨rfl, rfl⟩] at hr
        subst hr
        simp -implicitDefEqProofs [fnA, c50, Mem.enc, Msg.enc, encI, encB, h88, h133, hto, h137a, h137b, hk, hg1, hg2, -oMin, -oMax, oMin_eq, oMax_eq, hcl1, hcl2, hw, hn1, hn2, hn3, hn4, hn5, i138, i139, i140, i190, i213, c138, c139, c140, c190, c213, d138_0, p138_0, d138_1, p138_1, d139_0, p139_0, d139_1, p139_1, d139_2, p139_2, d139_3, p139_3, d140_0, p140_0, encO, encMs, ansM, quick]
    · rw [if_neg (fun h => c2 h.1)] at hr
      subst hr
      simp -implicitDefEqProofs [fnA, c50, Mem.enc, Msg.enc, encI, encB, h88, h133, hto, h137a, h137b, hk, hg1, hg2, c2, -oMin, -oMax, oMin_eq, oMax_eq, hcl1, hcl2, hw, hn1, hn2, hn3, hn4, hn5, i138, i139, i140, i190, i213, c138, c139, c140, c190, c213, d138_0, p138_0, d138_1, p138_1, d139_0, p139_0, d139_1, p139_1, d139_2, p139_2, d139_3, p139_3, d140_0, p140_0, encO, encMs, ansM, quick]
  · rw [if_neg k1, if_neg k3, if_neg k24] at hr
    subst hr
    simp -implicitDefEqProofs [fnA, c50, Mem.enc, Msg.enc, encI, encB, h88, h133, hto, h137a, h137b, hk, hg1, hg2, k1, k3, k24, -oMin, -oMax, oMin_eq, oMax_eq, hcl1, hcl2, hw, hn1, hn2, hn3, hn4, hn5, i138, i139, i140, i190, i213, c138, c139, c140, c190, c213, d138_0, p138_0, d138_1, p138_1, d139_0, p139_0, d139_1, p139_1, d139_2, p139_2, d139_3, p139_3, d140_0, p140_0, encO, encMs, ansM, quick]
end Go.Proofs.Ytihljollfbogeaa
