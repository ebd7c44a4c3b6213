/- Runs: Issue and Ack of the reference. No condition. -/
import Derived.Test.YtihljollfbogeaaB46
import Derived.Test.YtihljollfbogeaaB41
set_option linter.unusedSimpArgs false
set_option maxHeartbeats 1000000
namespace Go.Proofs.Ytihljollfbogeaa
open Go Go.RowKit
attribute [local simp] run_skip run_ret run_exit run_seq run_block run_reg thn_norm thn_toNorm thn_ret thn_exit endB_norm endB_toNorm endB_ret endB_exit regA_nil regA_cons putA_some putA_none insA_plain opA COp.ev pu dl dl0 appD nameOf nameOr_ptr nameOr_ref nameOr_mp nameOr_nl nameOr_full nameOr_grown grown_zero grownH_nil hset_id toNorm putA aEval_tmp aEval_func aEval_int aEval_bool aEval_nil edst eset_same eset_ne cmp_lss cmp_leq cmp_gtr cmp_geq cmp_eql cmp_neq num_add num_sub num_mul num_rem cmp_beql cmp_bneq cmp_seql cmp_sneq ite_map ite_bind ends_some ends_none ends_ite ends_bind ends_map rnd_norm rnd_toNorm rnd_exit rnd_ret norm_encI norm_encB oLit oAppend frzD_no Blk.isDead oElems oSlice oExtract oIndexA oMk0 oConvInt oMin oMax oMapNew oMapPut oMapGet findA oNil AV.single valueA oPick oNot argEnv ressA resA tupA oNew oLoad oStore oFieldAddr oLen oIndexS asNum rowAt? hset partA AV.cells AV.storable AV.one hemp callA isMk copyA callD outA_sc outA_imm outA_agg outA_tup outA_ref outA_nl outA_full fz_sc fz_imm fz_full fz_nl fz_fn fz_agg fz_tup fz_ref fzA_sc fzA_imm fzA_full fzA_nl fzA_agg fzA_ref fz1_sc fz1_imm fz1_full fz1_nl fz1_ref fzRow_all AV.scalar AV.scalar1 evC nm nmA nm1 nm0 insA_b insA_skip run_condB isBool boolOf run_drawn endD_mk drawA_nil drawA_cons nextD_mk consE_mk putD_some putD_none insD_plain insD_b insD_skip opD COp.rd COp.wr AV.nms AV.nms1 indeps indep oMake oBuildC fillC setCellsA ofVal ofCell Value.oneCell' reshape LIM AV.pure AV.pure1 norm norm1 run_loop
theorem app_full {k n : Nat} {xs : List AV} {y : AV} {h : Hp} (h1 : xs.all (okEl k) = true) (h2 : okEl k y = true) (hl : xs.length + 1 ≤ LIM) :
    oAppend h n k (.full xs) [y] = some (.ref n ((h n).1 + 1) 0 (xs.length + 1), hset h n ((h n).1 + 1, .row k (xs ++ [y]))) := by
  have h3 : (xs.all fun v => v.storable && decide (v.cells.length = k)) = true := h1
  have h4 : ([y].all fun v => v.storable && decide (v.cells.length = k)) = true := by simpa [okEl] using h2
  unfold oAppend
  rw [if_pos h4]
  simp only [List.length_cons, List.length_nil, Nat.zero_add]
  rw [if_pos ⟨hl, h3⟩]
theorem ack77_run (H : Hand) (I : Inl) (N : Nat) (hs : Hist) (k : Int) (hx : hs.writes.length < 536870913) (hz2 : hs.events.length < LIM) (h57 : H 57 [hs.enc] = some (encI (checkH hs))) (h132 : H 132 [encI k] = some (Evt.mk 1 k).enc) (h131 : H 131 [encEs hs.events, (Evt.mk 1 k).enc] = some (encI (atE hs.events ⟨1, k⟩)))
    (h162 : H 162 [(Hist.mk hs.sizes hs.writes (hs.events ++ [Evt.mk 1 k])).enc] = some (Hist.mk hs.sizes hs.writes (hs.events ++ [Evt.mk 1 k])).enc) :
    Ends (fnA H I N 1 c77 [hs.enc, encI k] hemp) (fun p => outA p = .tup [(ackOf hs k).1.enc, encI (ackOf hs k).2]) := by
  have hz : Hist.zero.enc = .agg [.imm [], .imm [], .imm []] := rfl
  have oE : (hs.events.map Evt.enc).all (okEl 2) = true := all_map Evt.ok _
  have pE := fun h n => app_full (h := h) (n := n) oE (Evt.ok (Evt.mk 1 k)) (by simp only [List.length_map]; omega)
  have fc := fzRow_all (k := 2) (L := (hs.events ++ [Evt.mk 1 k]).map Evt.enc) rfl (all_map Evt.pure _)
  rw [map_norm Evt.norm] at fc
  unfold ackOf
  obtain ⟨R, hR⟩ : ∃ R, checkH hs = R := ⟨_, rfl⟩
  rw [hR] at h57 ⊢
  obtain ⟨A, hA⟩ : ∃ A, atE hs.events ⟨1, k⟩ = A := ⟨_, rfl⟩
  rw [hA] at h131 ⊢
  obtain ⟨p1, p2, p3⟩ := hs
  simp only [Hist.enc, encIs, encWs, encEs, encI, Evt.enc, List.map_append, List.map_cons, List.map_nil, List.length_map, List.length_append, List.length_cons, List.length_nil, Nat.zero_add] at *
  by_cases c1 : R = 0
  case neg =>
    rw [if_pos c1]
    simp -implicitDefEqProofs [fnA, c77, hz, encIs, encWs, encEs, encSs, encI, h57, c1]
  subst c1
  rw [if_neg (by simp)]
  by_cases c2 : k < 0 ∨ (p2.length : Int) ≤ k
  · rw [if_pos c2]
    by_cases c20 : k < 0
    · simp -implicitDefEqProofs [fnA, c77, hz, encIs, encWs, encEs, encSs, encI, h57, c20]
    · have c21 : (p2.length : Int) ≤ k := by omega
      simp -implicitDefEqProofs [fnA, c77, hz, encIs, encWs, encEs, encSs, encI, h57, c20, c21]
  rw [if_neg c2]
  have c20 : ¬ k < 0 := by omega
  have c21 : ¬ (p2.length : Int) ≤ k := by omega
  by_cases c3 : 0 ≤ A
  · rw [if_pos c3]
    simp -implicitDefEqProofs [fnA, c77, hz, encIs, encWs, encEs, encSs, encI, h57, h131, h132, c20, c21, c3]
  rw [if_neg c3]
  have htk : (p3.map Evt.enc).take p3.length = p3.map Evt.enc := by rw [List.take_of_length_le (by simp)]
  by_cases pl : p3.length = 0
  · have hnil : p3 = [] := List.length_eq_zero_iff.1 pl
    subst hnil
    simp only [List.map_nil, List.nil_append, List.length_nil, Nat.zero_add] at h57 h162 h131 fc
    simp -implicitDefEqProofs [fnA, c77, hz, encIs, encWs, encEs, encSs, encI, h57, h131, h132, h162, c20, c21, c3, fc, Hist.enc, Evt.enc, thaw, thawA, thaw1, nm1, nm0, kills, thawH, thawB]
  · have hpl : ¬ (0 : Int) = (p3.length : Int) := by omega
    have hpe : ¬ p3 = [] := fun e => pl (by rw [e]; rfl)
    simp -implicitDefEqProofs [fnA, c77, hz, encIs, encWs, encEs, encSs, encI, h57, h131, h132, h162, c20, c21, c3, pE, fc, pl, hpl, hpe, htk, Hist.enc, Evt.enc, thaw, thawA, thaw1, nm1, nm0, kills, thawH, thawB, -oAppend]
theorem issue75_run (H : Hand) (I : Inl) (N : Nat) (hs : Hist) (w : Wr) (hx : hs.writes.length < 536870913) (hz2 : hs.events.length < LIM) (h57 : H 57 [hs.enc] = some (encI (checkH hs))) (h148 : checkH hs = 0 → H 148 [encIs hs.sizes, w.enc] = some (encI (fitsE hs.sizes w))) (h149 : H 149 [encI hs.writes.length] = some (Evt.mk 0 hs.writes.length).enc)
    (h162 : H 162 [(Hist.mk hs.sizes (hs.writes ++ [w]) (hs.events ++ [Evt.mk 0 hs.writes.length])).enc] = some (Hist.mk hs.sizes (hs.writes ++ [w]) (hs.events ++ [Evt.mk 0 hs.writes.length])).enc) :
    Ends (fnA H I N 1 c75 [hs.enc, w.enc] hemp) (fun p => outA p = .tup [(issueH hs w).1.enc, encI (issueH hs w).2.1, encI (issueH hs w).2.2]) := by
  have hz : Hist.zero.enc = .agg [.imm [], .imm [], .imm []] := rfl
  have oE : (hs.events.map Evt.enc).all (okEl 2) = true := all_map Evt.ok _
  have oW : (hs.writes.map Wr.enc).all (okEl 3) = true := all_map Wr.ok _
  have pE := fun h n => app_full (h := h) (n := n) oE (Evt.ok (Evt.mk 0 hs.writes.length)) (by simp only [List.length_map]; omega)
  have pW := fun h n => app_full (h := h) (n := n) oW w.ok (by simp only [List.length_map, LIM]; omega)
  have pWn := fun h (q : (h 551).2 = .dead) => app_dead (k := 3) (n := 551) (h := h) (ys := [w.enc]) (by simpa using w.ok) (by simp [LIM]) (by rw [q]; rfl)
  have pEn := fun h (q : (h 565).2 = .dead) => app_dead (k := 2) (n := 565) (h := h) (ys := [(Evt.mk 0 hs.writes.length).enc]) (by simpa using Evt.ok _) (by simp [LIM]) (by rw [q]; rfl)
  have fc := fzRow_all (k := 2) (L := (hs.events ++ [Evt.mk 0 hs.writes.length]).map Evt.enc) rfl (all_map Evt.pure _)
  rw [map_norm Evt.norm] at fc
  have fw := fzRow_all (k := 3) (L := (hs.writes ++ [w]).map Wr.enc) rfl (all_map Wr.pure _)
  rw [map_norm Wr.norm] at fw
  unfold issueH
  obtain ⟨R, hR⟩ : ∃ R, checkH hs = R := ⟨_, rfl⟩
  rw [hR] at h57 h148 ⊢
  obtain ⟨A, hA⟩ : ∃ A, fitsE hs.sizes w = A := ⟨_, rfl⟩
  rw [hA] at h148 ⊢
  obtain ⟨p1, p2, p3⟩ := hs
  obtain ⟨wv, ws, wd⟩ := w
  simp only [Hist.enc, encIs, encWs, encEs, encSs, encI, Evt.enc, Wr.enc, List.map_append, List.map_cons, List.map_nil, List.length_map, List.length_append, List.length_cons, List.length_nil, Nat.zero_add] at *
  by_cases c1 : R = 0
  case neg =>
    rw [if_pos c1]
    simp -implicitDefEqProofs [fnA, c75, hz, encIs, encWs, encEs, encSs, encI, h57, c1]
  subst c1
  replace h148 := h148 rfl
  rw [if_neg (by simp)]
  by_cases c2 : 4096 ≤ (p2.length : Int)
  · rw [if_pos c2]
    simp -implicitDefEqProofs [fnA, c75, hz, encIs, encWs, encEs, encSs, encI, h57, c2]
  rw [if_neg c2]
  by_cases c3 : A = 0
  case neg =>
    rw [if_pos c3]
    simp -implicitDefEqProofs [fnA, c75, hz, encIs, encWs, encEs, encSs, encI, h57, h148, c2, c3]
  subst c3
  rw [if_neg (by simp)]
  have htk : (p3.map Evt.enc).take p3.length = p3.map Evt.enc := by rw [List.take_of_length_le (by simp)]
  have htw : (p2.map Wr.enc).take p2.length = p2.map Wr.enc := by rw [List.take_of_length_le (by simp)]
  by_cases pw : p2.length = 0
  · have wnil : p2 = [] := List.length_eq_zero_iff.1 pw
    subst wnil
    by_cases pl : p3.length = 0
    · have hnil : p3 = [] := List.length_eq_zero_iff.1 pl
      subst hnil
      simp only [List.map_nil, List.nil_append, List.length_nil, Nat.zero_add, Int.natCast_zero] at h57 h148 h149 h162 fc fw
      simp -implicitDefEqProofs [fnA, c75, encIs, encWs, encEs, encSs, encI, h57, h148, h149, h162, c2, Hist.enc, Evt.enc, Wr.enc, thaw, thawA, thaw1, nm1, nm0, kills, thawH, thawB, fc, fw]
    · have hpl : ¬ (0 : Int) = (p3.length : Int) := by omega
      have hpe : ¬ p3 = [] := fun e => pl (by rw [e]; rfl)
      simp only [List.map_nil, List.nil_append, List.length_nil, Nat.zero_add, Int.natCast_zero] at h57 h148 h149 h162 fc fw pE pWn
      simp -implicitDefEqProofs [fnA, c75, encIs, encWs, encEs, encSs, encI, h57, h148, h149, h162, c2, Hist.enc, Evt.enc, Wr.enc, thaw, thawA, thaw1, nm1, nm0, kills, thawH, thawB, pE, pWn, fc, fw, pl, hpl, hpe, htk, -oAppend]
  · have hpw : ¬ (0 : Int) = (p2.length : Int) := by omega
    have hpv : ¬ p2 = [] := fun e => pw (by rw [e]; rfl)
    by_cases pl : p3.length = 0
    · have hnil : p3 = [] := List.length_eq_zero_iff.1 pl
      subst hnil
      simp only [List.map_nil, List.nil_append, List.length_nil, Nat.zero_add, Int.natCast_zero] at h57 h148 h149 h162 fc fw pW pEn
      simp -implicitDefEqProofs [fnA, c75, encIs, encWs, encEs, encSs, encI, h57, h148, h149, h162, c2, Hist.enc, Evt.enc, Wr.enc, thaw, thawA, thaw1, nm1, nm0, kills, thawH, thawB, pW, pEn, fc, fw, pw, hpw, hpv, htw, -oAppend]
    · have hpl : ¬ (0 : Int) = (p3.length : Int) := by omega
      have hpe : ¬ p3 = [] := fun e => pl (by rw [e]; rfl)
      simp -implicitDefEqProofs [fnA, c75, encIs, encWs, encEs, encSs, encI, h57, h148, h149, h162, c2, Hist.enc, Evt.enc, Wr.enc, thaw, thawA, thaw1, nm1, nm0, kills, thawH, thawB, pW, pE, fc, fw, pw, hpw, hpv, htw, pl, hpl, hpe, htk, -oAppend]
end Go.Proofs.Ytihljollfbogeaa
