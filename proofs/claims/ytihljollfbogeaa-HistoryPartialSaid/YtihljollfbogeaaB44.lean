/- Runs: the law HistoryPartial. No condition. -/
import Derived.Test.YtihljollfbogeaaD15
import Derived.Test.YtihljollfbogeaaL11
set_option linter.unusedSimpArgs false
set_option maxHeartbeats 1000000
namespace Go.Proofs.Ytihljollfbogeaa
open Go Go.RowKit
attribute [local simp] run_skip run_ret run_exit run_seq run_block run_reg thn_norm thn_toNorm thn_ret thn_exit endB_norm endB_toNorm endB_ret endB_exit regA_nil regA_cons putA_some putA_none insA_plain opA COp.ev pu dl dl0 appD nameOf nameOr_ptr nameOr_ref nameOr_mp nameOr_nl nameOr_full nameOr_grown grown_zero grownH_nil hset_id toNorm putA aEval_tmp aEval_func aEval_int aEval_bool aEval_nil edst eset_same eset_ne cmp_lss cmp_leq cmp_gtr cmp_geq cmp_eql cmp_neq num_add num_sub num_mul num_rem cmp_beql cmp_bneq cmp_seql cmp_sneq ite_map ite_bind ends_some ends_none ends_ite ends_bind ends_map rnd_norm rnd_toNorm rnd_exit rnd_ret norm_encI norm_encB oLit oAppend Blk.isDead oElems oSlice oExtract oIndexA oMk0 oConvInt oMin oMax oMapNew oMapPut oMapGet findA oNil AV.single valueA oPick oNot argEnv ressA resA tupA oNew oLoad oStore oFieldAddr oLen oIndexS asNum rowAt? hset partA AV.cells AV.storable AV.one hemp callA isMk copyA callD outA_sc outA_imm outA_agg outA_tup outA_ref outA_nl outA_full fz_sc fz_imm fz_full fz_nl fz_fn fz_agg fz_tup fz_ref fzA_sc fzA_imm fzA_full fzA_nl fzA_agg fzA_ref fz1_sc fz1_imm fz1_full fz1_nl fz1_ref fzRow_all AV.scalar AV.scalar1 evC nm nmA nm1 nm0 insA_b insA_skip run_condB isBool boolOf run_drawn endD_mk drawA_nil drawA_cons nextD_mk consE_mk putD_some putD_none insD_plain insD_b insD_skip opD COp.rd COp.wr AV.nms AV.nms1 indeps indep oMake oBuildC fillC setCellsA ofVal ofCell Value.oneCell' reshape LIM AV.pure AV.pure1 norm norm1 run_loop
theorem before79_run (H : Hand) (J : Inl) (N q v : Nat) (h : Hist) (hp : Hp) (a b : Int) (r : Bool) (hm : hp 517 = (v, .row 3 [h.enc])) (h30 : H 30 [h.enc, encI a, encI b] = some (encB r)) :
    fnA H J N q c79 [encI a, encI b, .ptr 517 v 0 0] hp = some (encB r, hp) := by
  obtain ⟨p1, p2, p3⟩ := h
  simp only [Hist.enc, encIs, encWs, encEs, encB, encI] at hm h30
  simp -implicitDefEqProofs [fnA, c79, hm, h30, encIs, encWs, encEs, encI, encB]
theorem law11_run (H : Hand) (I : Inl) (N : Nat) (p h : Hist) (ok : Bool) (m0 m1 m2 m3 a b c d : Int) (B : Int → Int → Bool) (h29 : H 29 [] = some (encB true)) (h79 : ∀ l, H 79 l = none) (h78 : H 78 [p.enc] = some (.tup [h.enc, encB ok]))
    (hb : (0 ≤ m0 ∧ m0 < 256) ∧ (0 ≤ m1 ∧ m1 < 256) ∧ (0 ≤ m2 ∧ m2 < 256) ∧ (0 ≤ m3 ∧ m3 < 256))
    (ha : m0.tmod h.writes.length = a) (hbb : m1.tmod h.writes.length = b) (hc : m2.tmod h.writes.length = c) (hd : m3.tmod h.writes.length = d)
    (hI : ∀ x y q v hp, hp 517 = (v, .row 3 [h.enc]) → I q 79 [encI x, encI y, .ptr 517 v 0 0] hp = some (encB (B x y), hp))
    (hB : ok = true → h.writes.length ≠ 0 → B a a = false ∧ (B a b = true → a < b) ∧ (B a b = true → B b c = true → B a c = true) ∧ (B a b = true → B c d = true → B a d = false → B c b = true)) :
    Ends (fnA H I N 1 c11 [p.enc, .agg [uA m0, uA m1, uA m2, uA m3]] hemp) (fun r => outA r = encB true) := by
  obtain ⟨p1, p2, p3⟩ := p
  obtain ⟨r1, r2, r3⟩ := h
  simp only [Hist.enc, encIs, encWs, encEs, encB, encI] at h29 h78 hI
  cases ok
  · simp -implicitDefEqProofs [fnA, c11, h78, h29, encIs, encWs, encEs, encI, encB, Hist.enc, uA]
  by_cases hn : r2.length = 0
  · have hnil : r2 = [] := List.length_eq_zero_iff.1 hn
    subst hnil
    simp -implicitDefEqProofs [fnA, c11, h78, h29, encIs, encWs, encEs, encI, encB, Hist.enc, uA]
  obtain ⟨b1, b2, b3, b4⟩ := hB rfl hn
  have w0 : IntKind.i64.wrap m0 = m0 := wrap_small (by omega) (by omega)
  have w1 : IntKind.i64.wrap m1 = m1 := wrap_small (by omega) (by omega)
  have w2 : IntKind.i64.wrap m2 = m2 := wrap_small (by omega) (by omega)
  have w3 : IntKind.i64.wrap m3 = m3 := wrap_small (by omega) (by omega)
  simp only at ha hbb hc hd
  have hn2 : ¬ r2 = [] := fun e => hn (by rw [e]; rfl)
  have hn3 : ¬ (r2.length : Int) = 0 := by omega
  rcases hab : B a b with _ | _
  · simp -implicitDefEqProofs [fnA, c11, d11_0, p11_0, h78, h29, h79, hI, hn, hn2, hn3, w0, w1, w2, w3, ha, hbb, hc, hd, b1, hab, encIs, encWs, encEs, encI, encB, Hist.enc, uA]
  have hge : ¬ b ≤ a := by have := b2 hab; omega
  replace b3 := b3 hab
  replace b4 := b4 hab
  rcases hbc : B b c with _ | _
  · rcases hcd : B c d with _ | _
    · simp -implicitDefEqProofs [fnA, c11, d11_0, p11_0, h78, h29, h79, hI, hn, hn2, hn3, w0, w1, w2, w3, ha, hbb, hc, hd, b1, hab, encIs, encWs, encEs, encI, encB, Hist.enc, uA, hge, hbc, hcd]
    · rcases had : B a d with _ | _
      · have hcb := b4 hcd had
        simp -implicitDefEqProofs [fnA, c11, d11_0, p11_0, h78, h29, h79, hI, hn, hn2, hn3, w0, w1, w2, w3, ha, hbb, hc, hd, b1, hab, encIs, encWs, encEs, encI, encB, Hist.enc, uA, hge, hbc, hcd, had, hcb]
      · simp -implicitDefEqProofs [fnA, c11, d11_0, p11_0, h78, h29, h79, hI, hn, hn2, hn3, w0, w1, w2, w3, ha, hbb, hc, hd, b1, hab, encIs, encWs, encEs, encI, encB, Hist.enc, uA, hge, hbc, hcd, had]
  · have hac := b3 hbc
    rcases hcd : B c d with _ | _
    · simp -implicitDefEqProofs [fnA, c11, d11_0, p11_0, h78, h29, h79, hI, hn, hn2, hn3, w0, w1, w2, w3, ha, hbb, hc, hd, b1, hab, encIs, encWs, encEs, encI, encB, Hist.enc, uA, hge, hbc, hac, hcd]
    · rcases had : B a d with _ | _
      · have hcb := b4 hcd had
        simp -implicitDefEqProofs [fnA, c11, d11_0, p11_0, h78, h29, h79, hI, hn, hn2, hn3, w0, w1, w2, w3, ha, hbb, hc, hd, b1, hab, encIs, encWs, encEs, encI, encB, Hist.enc, uA, hge, hbc, hac, hcd, had, hcb]
      · simp -implicitDefEqProofs [fnA, c11, d11_0, p11_0, h78, h29, h79, hI, hn, hn2, hn3, w0, w1, w2, w3, ha, hbb, hc, hd, b1, hab, encIs, encWs, encEs, encI, encB, Hist.enc, uA, hge, hbc, hac, hcd, had]
end Go.Proofs.Ytihljollfbogeaa
