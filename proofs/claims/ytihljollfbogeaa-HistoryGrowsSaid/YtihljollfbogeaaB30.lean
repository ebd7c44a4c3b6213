/- Runs: before, sets, closed sets. No condition. -/
import Derived.Test.YtihljollfbogeaaB28
set_option linter.unusedSimpArgs false
namespace Go.Proofs.Ytihljollfbogeaa
open Go Go.RowKit
attribute [local simp] run_skip run_ret run_exit run_seq run_block run_reg thn_norm thn_toNorm thn_ret thn_exit endB_norm endB_toNorm endB_ret endB_exit regA_nil regA_cons putA_some putA_none insA_plain opA COp.ev pu dl dl0 appD nameOf nameOr_ptr nameOr_ref nameOr_mp nameOr_nl nameOr_full nameOr_grown grown_zero grownH_nil hset_id toNorm putA aEval_tmp aEval_func aEval_int aEval_bool aEval_nil edst eset_same eset_ne cmp_lss cmp_leq cmp_gtr cmp_geq cmp_eql cmp_neq num_add num_sub num_mul num_rem cmp_beql cmp_bneq cmp_seql cmp_sneq ite_map ite_bind ends_some ends_none ends_ite ends_bind ends_map rnd_norm rnd_toNorm rnd_exit rnd_ret norm_encI norm_encB oLit oAppend frzD_no Blk.isDead oElems oSlice oExtract oIndexA oMk0 oConvInt oMin oMax oMapNew oMapPut oMapGet findA oNil AV.single valueA oPick oNot argEnv ressA resA tupA oNew oLoad oStore oFieldAddr oLen oIndexS asNum rowAt? hset partA AV.cells AV.storable AV.one hemp callA isMk copyA callD outA_sc outA_imm outA_agg outA_tup outA_ref outA_nl outA_full fz_sc fz_imm fz_full fz_nl fz_fn fz_agg fz_tup fz_ref fzA_sc fzA_imm fzA_full fzA_nl fzA_agg fzA_ref fz1_sc fz1_imm fz1_full fz1_nl fz1_ref fzRow_all AV.scalar AV.scalar1 evC nm nmA nm1 nm0 insA_b insA_skip run_condB isBool boolOf run_drawn endD_mk drawA_nil drawA_cons nextD_mk consE_mk putD_some putD_none insD_plain insD_b insD_skip opD COp.rd COp.wr AV.nms AV.nms1 indeps indep oMake oBuildC fillC setCellsA ofVal ofCell Value.oneCell' reshape LIM AV.pure AV.pure1 norm norm1 run_loop
def beforeE (l : List Evt) (a b : Int) : Bool := decide (0 ≤ atE l ⟨1, a⟩) && decide (atE l ⟨1, a⟩ < atE l ⟨0, b⟩)
def beforeT (I A : List Int) (a b : Int) : Bool := decide (0 ≤ A.getD a.toNat 0) && decide (A.getD a.toNat 0 < I.getD b.toNat 0)
def beforeH (h : Hist) (a b : Int) : Bool := decide (checkH h = 0) && beforeE h.events a b
theorem tlA_get {l : List Evt} {a : Int} (h0 : 0 ≤ a) (h1 : a < (cnt l : Int)) : (tlA l).getD a.toNat 0 = atE l ⟨1, a⟩ := by
  unfold tlA
  rw [List.getD_eq_getElem?_getD, getD_range (by omega)]
  simp only [Option.getD_some]
  rw [show ((a.toNat : Nat) : Int) = a from by omega]
theorem tlI_get {l : List Evt} {a : Int} (h0 : 0 ≤ a) (h1 : a < (cnt l : Int)) : (tlI l).getD a.toNat 0 = atE l ⟨0, a⟩ := by
  unfold tlI
  rw [List.getD_eq_getElem?_getD, getD_range (by omega)]
  simp only [Option.getD_some]
  rw [show ((a.toNat : Nat) : Int) = a from by omega]
theorem beforeT_eq {l : List Evt} {a b : Int} (ha : 0 ≤ a) (ha' : a < (cnt l : Int)) (hb : 0 ≤ b) (hb' : b < (cnt l : Int)) : beforeT (tlI l) (tlA l) a b = beforeE l a b := by
  unfold beforeT beforeE; rw [tlA_get ha ha', tlI_get hb hb']
theorem beforeE_out {nw : Nat} {l : List Evt} (h : EvOk nw l) {a b : Int} (hab : ¬ ((0 ≤ a ∧ a < (cnt l : Int)) ∧ (0 ≤ b ∧ b < (cnt l : Int)))) : beforeE l a b = false := by
  unfold beforeE
  by_cases h1 : 0 ≤ atE l ⟨1, a⟩
  · have h2 := (h.issued.2 a).1 (h.acked a h1).1
    have h3 : ¬ 0 ≤ atE l ⟨0, b⟩ := fun e => hab ⟨h2, (h.issued.2 b).1 e⟩
    simp; omega
  · simp [h1]
theorem before126_run (H : Hand) (I : Inl) (N q : Nat) (h : Hist) (a b : Int) (h131 : ∀ x, H 131 [encEs h.events, x.enc] = some (encI (atE h.events x))) (h132 : ∀ n, H 132 [encI n] = some (Evt.mk 1 n).enc) (h149 : ∀ n, H 149 [encI n] = some (Evt.mk 0 n).enc) :
    Ends (fnA H I N q c126 [h.enc, encI a, encI b] hemp) (fun p => outA p = encB (beforeE h.events a b)) := by
  obtain ⟨sizes, writes, events⟩ := h
  have k1 := h131 ⟨1, a⟩
  have k2 := h131 ⟨0, b⟩
  have k3 := h132 a
  have k4 := h149 b
  simp only [Evt.enc, encI, encEs] at k1 k2 k3 k4
  simp only [beforeE]
  by_cases c1 : 0 ≤ atE events ⟨1, a⟩
  · by_cases c2 : atE events ⟨1, a⟩ < atE events ⟨0, b⟩ <;>
      simp -implicitDefEqProofs [fnA, c126, Hist.enc, encIs, encWs, encEs, encI, encB, k1, k2, k3, k4, c1, c2]
  · simp -implicitDefEqProofs [fnA, c126, Hist.enc, encIs, encWs, encEs, encI, encB, k1, k2, k3, k4, c1]
theorem before31_run (H : Hand) (I : Inl) (N q : Nat) (h : Hist) (a b : Int) (h57 : H 57 [h.enc] = some (encI (checkH h))) (h126 : H 126 [h.enc, encI a, encI b] = some (encB (beforeE h.events a b))) :
    Ends (fnA H I N q c31 [h.enc, encI a, encI b] hemp) (fun p => outA p = encB (beforeH h a b)) := by
  unfold beforeH
  obtain ⟨R, hR⟩ : ∃ R, checkH h = R := ⟨_, rfl⟩
  obtain ⟨B, hB⟩ : ∃ B, beforeE h.events a b = B := ⟨_, rfl⟩
  rw [hR] at h57 ⊢
  rw [hB] at h126 ⊢
  obtain ⟨sizes, writes, events⟩ := h
  simp only [Hist.enc, encIs, encWs, encEs, encI, encB] at h57 h126
  by_cases c1 : R = 0
  · subst c1
    simp -implicitDefEqProofs [fnA, c31, Hist.enc, encIs, encWs, encEs, encI, encB, h57, h126]
  · simp -implicitDefEqProofs [fnA, c31, Hist.enc, encIs, encWs, encEs, encI, encB, h57, c1]
theorem before125_run (H : Hand) (I : Inl) (N q : Nat) (Is As : List Int) (a b : Nat) (ha : a < As.length) (hb : b < Is.length) : Ends (fnA H I N q c125 [.agg [encIs Is, encIs As], encI a, encI b] hemp) (fun p => outA p = encB (beforeT Is As a b)) := by
  have ha' : (a : Int) < (As.length : Int) := by omega
  have hb' : (b : Int) < (Is.length : Int) := by omega
  have g1 : As.getD a 0 = As[a] := by simp [ha]
  have g2 : Is.getD b 0 = Is[b] := by simp [hb]
  simp only [beforeT, Int.toNat_natCast, g1, g2]
  by_cases c1 : 0 ≤ As[a]
  · by_cases c2 : As[a] < Is[b] <;>
      simp -implicitDefEqProofs [fnA, c125, d125_0, p125_0, encIs, encI, encB, ha, ha', hb, hb', c1, c2]
  · simp -implicitDefEqProofs [fnA, c125, d125_0, p125_0, encIs, encI, encB, ha, ha', c1]
theorem before30_run (H : Hand) (I : Inl) (N q : Nat) (h : Hist) (a b : Int) (h124 : H 124 [h.enc] = some (chkR h))
    (h125 : ∀ (Is As : List Int) (a b : Nat), a < As.length → b < Is.length → H 125 [.agg [encIs Is, encIs As], encI a, encI b] = some (encB (beforeT Is As a b))) :
    Ends (fnA H I N q c30 [h.enc, encI a, encI b] hemp) (fun p => outA p = encB (beforeH h a b)) := by
  unfold beforeH
  by_cases c1 : checkH h = 0
  · have r := (checkH_zero h).1 c1
    have hR : chkR h = .tup [encChk h (tlI h.events) (tlA h.events), encI 0] := if_pos c1
    rw [hR] at h124
    have hall := r.all
    have hev := r.evs
    obtain ⟨sizes, writes, events⟩ := h
    simp only at hall hev
    simp only [Hist.enc, encIs, encWs, encEs, encI, encB, encChk] at h124
    by_cases c2 : (0 ≤ a ∧ a < (cnt events : Int)) ∧ (0 ≤ b ∧ b < (cnt events : Int))
    · obtain ⟨⟨a0, a1⟩, b0, b1⟩ := c2
      have hT := beforeT_eq a0 a1 b0 b1
      obtain ⟨a, rfl⟩ := Int.eq_ofNat_of_zero_le a0
      obtain ⟨b, rfl⟩ := Int.eq_ofNat_of_zero_le b0
      have k := h125 (tlI events) (tlA events) a b (by rw [tlA_len]; omega) (by rw [tlI_len]; omega)
      rw [hT] at k
      simp only [encIs, encI, encB] at k
      rw [hall] at a1 b1
      simp -implicitDefEqProofs [fnA, c30, Hist.enc, encIs, encWs, encEs, encI, encB, h124, a1, b1, k, c1]
    · rw [beforeE_out hev c2]
      rw [hall] at c2
      by_cases a0 : 0 ≤ a
      · by_cases a1 : a < (writes.length : Int)
        · by_cases b0 : 0 ≤ b
          · have b1 : ¬ b < (writes.length : Int) := fun e => c2 ⟨⟨a0, a1⟩, b0, e⟩
            simp -implicitDefEqProofs [fnA, c30, Hist.enc, encIs, encWs, encEs, encI, encB, h124, a0, a1, b0, b1]
          · simp -implicitDefEqProofs [fnA, c30, Hist.enc, encIs, encWs, encEs, encI, encB, h124, a0, a1, b0]
        · simp -implicitDefEqProofs [fnA, c30, Hist.enc, encIs, encWs, encEs, encI, encB, h124, a0, a1]
      · simp -implicitDefEqProofs [fnA, c30, Hist.enc, encIs, encWs, encEs, encI, encB, h124, a0]
  · have hR : chkR h = .tup [encChk .zero [] [], encI (checkH h)] := if_neg c1
    rw [hR] at h124
    simp only [c1, decide_false, Bool.false_and]
    generalize checkH h = R at *
    obtain ⟨sizes, writes, events⟩ := h
    simp only [Hist.enc, Hist.zero, encIs, encWs, encEs, encI, encB, encChk, List.map_nil] at h124
    simp -implicitDefEqProofs [fnA, c30, Hist.enc, encIs, encWs, encEs, encI, encB, h124, c1]
end Go.Proofs.Ytihljollfbogeaa
