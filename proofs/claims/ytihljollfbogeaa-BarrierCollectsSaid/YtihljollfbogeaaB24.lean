/- Runs of the reference's Collect. No condition. -/
import Derived.Test.YtihljollfbogeaaB23
set_option linter.unusedSimpArgs false
namespace Go.Proofs.Ytihljollfbogeaa
open Go Go.RowKit
attribute [local simp] run_skip run_ret run_exit run_seq run_block run_reg thn_norm thn_toNorm thn_ret thn_exit endB_norm endB_toNorm endB_ret endB_exit regA_nil regA_cons putA_some putA_none insA_plain opA COp.ev pu dl dl0 appD nameOf nameOr_ptr nameOr_ref nameOr_mp nameOr_nl nameOr_full nameOr_grown grown_zero grownH_nil hset_id toNorm putA aEval_tmp aEval_func aEval_int aEval_bool aEval_nil edst eset_same eset_ne cmp_lss cmp_leq cmp_gtr cmp_geq cmp_eql cmp_neq num_add num_sub num_mul num_rem cmp_beql cmp_bneq cmp_seql cmp_sneq ite_map ite_bind ends_some ends_none ends_ite ends_bind ends_map rnd_norm rnd_toNorm rnd_exit rnd_ret norm_encI norm_encB oLit oAppend Blk.isDead oElems oSlice oExtract oIndexA oMk0 oConvInt oMin oMax oMapNew oMapPut oMapGet findA oNil AV.single valueA oPick oNot argEnv ressA resA tupA oNew oLoad oStore oFieldAddr oLen oIndexS asNum rowAt? hset partA AV.cells AV.storable AV.one hemp callA callD outA_sc outA_imm outA_agg outA_tup outA_ref outA_nl outA_full fz_sc fz_imm fz_full fz_nl fz_fn fz_agg fz_tup fz_ref fzA_sc fzA_imm fzA_full fzA_nl fzA_agg fzA_ref fz1_sc fz1_imm fz1_full fz1_nl fz1_ref fzRow_all AV.scalar AV.scalar1 evC nm nmA nm1 nm0 insA_b insA_skip run_condB isBool boolOf run_drawn endD_mk drawA_nil drawA_cons nextD_mk consE_mk putD_some putD_none insD_plain insD_b insD_skip opD COp.rd COp.wr AV.nms AV.nms1 indeps indep oMake oBuildC fillC setCellsA ofVal ofCell Value.oneCell' reshape LIM AV.pure AV.pure1 norm norm1 run_loop
set_option maxHeartbeats 1000000 in
theorem collect59_run (H : Hand) (N : Nat) (c : Coord) (now : Int) (g : Msg) (hN : 8 < N) (h44 : H 44 [c.enc] = some (encI (checkCoord c))) (n1 : ∀ l, H 135 l = none) (n2 : ∀ l, H 154 l = none) (h153 : ∀ l : List Bool, l.length ≤ 1073741824 → H 153 [.imm (l.map encB)] = some (.sc (.bool (l.all id)))) :
    Ends (fnA H (inlB BC (mkT TC) H N 4) N 1 c59 [c.enc, encI now, g.enc] hemp) (fun p => outA p = encE (collect c now g)) := by
  have hz := checkCoord_zero (c := c)
  generalize hr : collect c now g = r
  unfold collect at hr
  obtain ⟨nodes, round, phase, deadline, positions, seen, valid⟩ := c
  obtain ⟨gk, gs, gd, gn, gv, ge, gvs, gb⟩ := g
  simp only at hr hz
  generalize checkCoord ⟨nodes, round, phase, deadline, positions, seen, valid⟩ = k at hr h44 hz
  simp only [Coord.enc, encI, encB] at h44
  have fi : fzRow (some (1, positions.map encI)) 0 positions.length = .imm (positions.map encI) := fz_ints rfl
  have fb : fzRow (some (1, seen.map encB)) 0 seen.length = .imm (seen.map encB) := fz_bools rfl
  by_cases hk : k = 0
  rotate_left
  · rw [if_pos (.inl hk)] at hr
    subst hr
    simp -implicitDefEqProofs [fnA, c59, Coord.enc, Msg.enc, encI, encB, h44, hk, encE, encMs, fi, fb]
  obtain ⟨z1, z2, z3, z4, z5, z6, z7, z8, _⟩ := hz hk
  by_cases hph : phase = 0
  · rw [if_pos (.inr (.inl hph))] at hr
    subst hr
    subst hph
    simp -implicitDefEqProofs [fnA, c59, Coord.enc, Msg.enc, encI, encB, h44, hk, encE, encMs, fi, fb]
  by_cases hd : deadline ≤ now
  · rw [if_pos (.inr (.inr (.inl hd)))] at hr
    subst hr
    simp -implicitDefEqProofs [fnA, c59, Coord.enc, Msg.enc, encI, encB, h44, hk, hph, hd, encE, encMs, fi, fb]
  by_cases hs : gs < 0
  · rw [if_pos (.inr (.inr (.inr (.inl hs))))] at hr
    subst hr
    simp -implicitDefEqProofs [fnA, c59, Coord.enc, Msg.enc, encI, encB, h44, hk, hph, hd, hs, encE, encMs, fi, fb]
  by_cases hs2 : nodes ≤ gs
  · rw [if_pos (.inr (.inr (.inr (.inr (.inl hs2)))))] at hr
    subst hr
    simp -implicitDefEqProofs [fnA, c59, Coord.enc, Msg.enc, encI, encB, h44, hk, hph, hd, hs, hs2, encE, encMs, fi, fb]
  by_cases hg : gn = round
  rotate_left
  · rw [if_pos (.inr (.inr (.inr (.inr (.inr hg)))))] at hr
    subst hr
    simp -implicitDefEqProofs [fnA, c59, Coord.enc, Msg.enc, encI, encB, h44, hk, hph, hd, hs, hs2, hg, encE, encMs, fi, fb]
  rw [if_neg (by omega)] at hr
  obtain ⟨j, rfl⟩ := Int.eq_ofNat_of_zero_le (by omega : 0 ≤ gs)
  simp only [Int.ofNat_eq_natCast, Int.toNat_natCast] at hr
  have hj1 : j < seen.length := by omega
  have hj2 : j < positions.length := by omega
  have hj3 : (j : Int) < (seen.length : Int) := by omega
  have hj4 : (j : Int) < (positions.length : Int) := by omega
  have hp : positions.length ≤ 1073741824 := by omega
  have hl : seen.length ≤ 1073741824 := by omega
  have hs2' : ¬ nodes ≤ (j : Int) := hs2
  have hget : seen.getD j false = seen[j] := by simp [hj1]
  rw [hget] at hr
  have fp : fzRow (some (1, (positions.map encI).set j (.sc (.int .i64 gv)))) 0 positions.length = .imm ((positions.map encI).set j (.sc (.int .i64 gv))) := by
    have : (positions.map encI).set j (.sc (.int .i64 gv)) = (positions.set j gv).map encI := by rw [List.map_set]; rfl
    rw [this]; exact fz_ints (by simp)
  have fs : fzRow (some (1, (seen.map encB).set j (.sc (.bool true)))) 0 seen.length = .imm ((seen.map encB).set j (.sc (.bool true))) := by
    have : (seen.map encB).set j (.sc (.bool true)) = (seen.set j true).map encB := by rw [List.map_set]; rfl
    rw [this]; exact fz_bools (by simp)
  have zn0 : 0 ≤ nodes := by omega
  have znm : nodes ≤ 1073741824 := by omega
  have fr : fzRow (some (1, List.replicate nodes.toNat (AV.sc (.bool false)))) 0 nodes.toNat = .imm (List.replicate nodes.toNat (AV.sc (.bool false))) := by
    have : List.replicate nodes.toNat (AV.sc (.bool false)) = (List.replicate nodes.toNat false).map encB := by rw [List.map_replicate]; rfl
    rw [this]; exact fz_bools (by simp)
  have h153' : H 153 [.imm ((seen.map encB).set j (.sc (.bool true)))] = some (.sc (.bool ((seen.set j true).all id))) := by
    have : (seen.map encB).set j (.sc (.bool true)) = (seen.set j true).map encB := by rw [List.map_set]; rfl
    rw [this]; exact h153 _ (by simpa using hl)
  have c3 := fun d q h kind p dl x u y w z v => all135_at (H := H) (N := N) (d := d) (q := q) (h := h) (kind := kind) (nodes := nodes) (round := round) (a2 := .sc (.int .i64 p)) (a3 := .sc (.int .i64 dl)) (a4 := .ref x u 0 y) (a5 := .ref w u 0 z) (a6 := .sc (.bool v)) (by rfl) z1 z2 hN
  have c4 : True := trivial
  by_cases p1 : phase = 1
  · subst p1
    rw [if_pos rfl] at hr
    by_cases k2 : gk = 2
    rotate_left
    · rw [if_neg (fun h => k2 h.1)] at hr
      subst hr
      simp -implicitDefEqProofs [fnA, c59, Coord.enc, Msg.enc, encI, encB, h44, hk, hph, hd, hs, hs2', hg, hj1, hj2, hj3, hj4, hp, hl, zn0, znm, k2, n1, n2, ic154, c154, c3, c4, h153', quick, encE, encMs, fi, fb, fp, fs, fr, fz_msgs, -List.all_eq_true]
    subst k2
    by_cases v0 : gv < 0
    · rw [if_neg (by omega)] at hr
      subst hr
      have v0' : ¬ 0 ≤ gv := by omega
      simp -implicitDefEqProofs [fnA, c59, Coord.enc, Msg.enc, encI, encB, h44, hk, hph, hd, hs, hs2', hg, hj1, hj2, hj3, hj4, hp, hl, zn0, znm, v0, v0', n1, n2, ic154, c154, c3, c4, h153', quick, encE, encMs, fi, fb, fp, fs, fr, fz_msgs, -List.all_eq_true]
    have v0' : 0 ≤ gv := by omega
    by_cases v1 : 4096 < gv
    · rw [if_neg (by omega)] at hr
      subst hr
      have v1' : ¬ gv ≤ 4096 := by omega
      simp -implicitDefEqProofs [fnA, c59, Coord.enc, Msg.enc, encI, encB, h44, hk, hph, hd, hs, hs2', hg, hj1, hj2, hj3, hj4, hp, hl, zn0, znm, v0, v0', v1', n1, n2, ic154, c154, c3, c4, h153', quick, encE, encMs, fi, fb, fp, fs, fr, fz_msgs, -List.all_eq_true]
    have v1' : gv ≤ 4096 := by omega
    cases hb : seen[j] with
    | true =>
      rw [if_neg (by simp [hb])] at hr
      subst hr
      simp -implicitDefEqProofs [fnA, c59, Coord.enc, Msg.enc, encI, encB, h44, hk, hph, hd, hs, hs2', hg, hj1, hj2, hj3, hj4, hp, hl, zn0, znm, v0, v0', v1', hb, n1, n2, ic154, c154, c3, c4, h153', quick, encE, encMs, fi, fb, fp, fs, fr, fz_msgs, -List.all_eq_true]
    | false =>
      rw [if_pos ⟨rfl, by omega, by omega, hb⟩] at hr
      cases ha : (seen.set j true).all id with
      | true =>
        rw [if_pos ha] at hr
        subst hr
        rw [ha] at h153'
        simp -implicitDefEqProofs [fnA, c59, Coord.enc, Msg.enc, encI, encB, h44, hk, hph, hd, hs, hs2', hg, hj1, hj2, hj3, hj4, hp, hl, zn0, znm, v0, v0', v1', hb, n1, n2, ic154, c154, c3, c4, h153', quick, encE, encMs, fi, fb, fp, fs, fr, fz_msgs, -List.all_eq_true]
      | false =>
        rw [if_neg (by simp [ha])] at hr
        subst hr
        rw [ha] at h153'
        simp -implicitDefEqProofs [fnA, c59, Coord.enc, Msg.enc, encI, encB, h44, hk, hph, hd, hs, hs2', hg, hj1, hj2, hj3, hj4, hp, hl, zn0, znm, v0, v0', v1', hb, n1, n2, ic154, c154, c3, c4, h153', quick, encE, encMs, fi, fb, fp, fs, fr, fz_msgs, -List.all_eq_true]
  · rw [if_neg p1] at hr
    have p2 : phase = 2 := by omega
    subst p2
    by_cases k4 : gk = 4
    rotate_left
    · rw [if_neg k4] at hr
      subst hr
      simp -implicitDefEqProofs [fnA, c59, Coord.enc, Msg.enc, encI, encB, h44, hk, hph, hd, hs, hs2', hg, hj1, hj2, hj3, hj4, hp, hl, zn0, znm, k4, n1, n2, ic154, c154, c3, c4, h153', quick, encE, encMs, fi, fb, fp, fs, fr, fz_msgs, -List.all_eq_true]
    subst k4
    rw [if_pos rfl] at hr
    by_cases v1 : gv = 1
    rotate_left
    · rw [if_pos v1] at hr
      subst hr
      simp -implicitDefEqProofs [fnA, c59, Coord.enc, Msg.enc, encI, encB, h44, hk, hph, hd, hs, hs2', hg, hj1, hj2, hj3, hj4, hp, hl, zn0, znm, v1, n1, n2, ic154, c154, c3, c4, h153', quick, encE, encMs, fi, fb, fp, fs, fr, fz_msgs, -List.all_eq_true]
    · subst v1
      rw [if_neg (by simp)] at hr
      cases ha : (seen.set j true).all id with
      | true =>
        rw [if_pos ha] at hr
        subst hr
        rw [ha] at h153'
        simp -implicitDefEqProofs [fnA, c59, Coord.enc, Msg.enc, encI, encB, h44, hk, hph, hd, hs, hs2', hg, hj1, hj2, hj3, hj4, hp, hl, zn0, znm, n1, n2, ic154, c154, c3, c4, h153', quick, encE, encMs, fi, fb, fp, fs, fr, fz_msgs, -List.all_eq_true]
      | false =>
        rw [if_neg (by simp [ha])] at hr
        subst hr
        rw [ha] at h153'
        simp -implicitDefEqProofs [fnA, c59, Coord.enc, Msg.enc, encI, encB, h44, hk, hph, hd, hs, hs2', hg, hj1, hj2, hj3, hj4, hp, hl, zn0, znm, n1, n2, ic154, c154, c3, c4, h153', quick, encE, encMs, fi, fb, fp, fs, fr, fz_msgs, -List.all_eq_true]
end Go.Proofs.Ytihljollfbogeaa
