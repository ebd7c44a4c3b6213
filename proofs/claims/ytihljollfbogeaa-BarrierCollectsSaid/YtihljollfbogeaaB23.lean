/- Runs of Collect. No condition. -/
import Derived.Test.YtihljollfbogeaaB22
set_option linter.unusedSimpArgs false
namespace Go.Proofs.Ytihljollfbogeaa
open Go Go.RowKit
attribute [local simp] run_skip run_ret run_exit run_seq run_block run_reg thn_norm thn_toNorm thn_ret thn_exit endB_norm endB_toNorm endB_ret endB_exit regA_nil regA_cons putA_some putA_none insA_plain opA COp.ev pu dl dl0 appD nameOf nameOr_ptr nameOr_ref nameOr_mp nameOr_nl nameOr_full nameOr_grown grown_zero grownH_nil hset_id toNorm putA aEval_tmp aEval_func aEval_int aEval_bool aEval_nil edst eset_same eset_ne cmp_lss cmp_leq cmp_gtr cmp_geq cmp_eql cmp_neq num_add num_sub num_mul num_rem cmp_beql cmp_bneq cmp_seql cmp_sneq ite_map ite_bind ends_some ends_none ends_ite ends_bind ends_map rnd_norm rnd_toNorm rnd_exit rnd_ret norm_encI norm_encB oLit oAppend Blk.isDead oElems oSlice oExtract oIndexA oMk0 oConvInt oMin oMax oMapNew oMapPut oMapGet findA oNil AV.single valueA oPick oNot argEnv ressA resA tupA oNew oLoad oStore oFieldAddr oLen oIndexS asNum rowAt? hset partA AV.cells AV.storable AV.one hemp callA callD outA_sc outA_imm outA_agg outA_tup outA_ref outA_nl outA_full fz_sc fz_imm fz_full fz_nl fz_fn fz_agg fz_tup fz_ref fzA_sc fzA_imm fzA_full fzA_nl fzA_agg fzA_ref fz1_sc fz1_imm fz1_full fz1_nl fz1_ref fzRow_all AV.scalar AV.scalar1 evC nm nmA nm1 nm0 insA_b insA_skip run_condB isBool boolOf run_drawn endD_mk drawA_nil drawA_cons nextD_mk consE_mk putD_some putD_none insD_plain insD_b insD_skip opD COp.rd COp.wr AV.nms AV.nms1 indeps indep oMake oBuildC fillC setCellsA ofVal ofCell Value.oneCell' reshape LIM AV.pure AV.pure1 norm norm1 run_loop
def collect (c : Coord) (now : Int) (g : Msg) : Coord × List Msg :=
  if checkCoord c ≠ 0 ∨ c.phase = 0 ∨ c.deadline ≤ now ∨ g.src < 0 ∨ c.nodes ≤ g.src ∨ g.number ≠ c.round then (c, [])
  else if c.phase = 1 then
    if g.kind = 2 ∧ 0 ≤ g.value ∧ g.value ≤ 4096 ∧ c.seen.getD g.src.toNat false = false then
      if (c.seen.set g.src.toNat true).all id = true then (⟨c.nodes, c.round, 2, c.deadline, c.positions.set g.src.toNat g.value, List.replicate c.nodes.toNat false, c.valid⟩, allMsgs 3 c.nodes c.round)
      else (⟨c.nodes, c.round, 1, c.deadline, c.positions.set g.src.toNat g.value, c.seen.set g.src.toNat true, c.valid⟩, [])
    else (c, [])
  else if g.kind = 4 then
    if g.value ≠ 1 then (⟨c.nodes, c.round, 0, c.deadline, c.positions, c.seen, false⟩, allMsgs 24 c.nodes c.round)
    else if (c.seen.set g.src.toNat true).all id = true then (⟨c.nodes, c.round, 0, c.deadline, c.positions, c.seen.set g.src.toNat true, true⟩, [])
    else (⟨c.nodes, c.round, 2, c.deadline, c.positions, c.seen.set g.src.toNat true, c.valid⟩, [])
  else (c, [])
set_option maxHeartbeats 1000000 in
theorem collect58_run (H : Hand) (N : Nat) (c : Coord) (now : Int) (g : Msg) (hN : 8 < N) (h43 : H 43 [c.enc] = some (encI (checkCoord c))) (hNs : c.seen.length < N) (n1 : ∀ l, H 137 l = none) (n2 : ∀ l, H 218 l = none) (n3 : ∀ l, H 150 l = none) (n4 : ∀ l, H 155 l = none) (n5 : ∀ l, H 134 l = none) (n6 : ∀ l, H 151 l = none) (n7 : ∀ l, H 152 l = none) (n8 : ∀ l, H 219 l = none) :
    Ends (fnA H (inlB BC (mkT TC) H N 4) N 1 c58 [c.enc, encI now, g.enc] hemp) (fun p => outA p = encE (collect c now g)) := by
  have hz := checkCoord_zero (c := c)
  generalize hr : collect c now g = r
  unfold collect at hr
  obtain ⟨nodes, round, phase, deadline, positions, seen, valid⟩ := c
  obtain ⟨gk, gs, gd, gn, gv, ge, gvs, gb⟩ := g
  simp only at hr hz hNs
  generalize checkCoord ⟨nodes, round, phase, deadline, positions, seen, valid⟩ = k at hr h43 hz
  simp only [Coord.enc, encI, encB] at h43
  have fi : fzRow (some (1, positions.map encI)) 0 positions.length = .imm (positions.map encI) := fz_ints rfl
  have fb : fzRow (some (1, seen.map encB)) 0 seen.length = .imm (seen.map encB) := fz_bools rfl
  by_cases hk : k = 0
  rotate_left
  · rw [if_pos (.inl hk)] at hr
    subst hr
    simp -implicitDefEqProofs [fnA, c58, Coord.enc, Msg.enc, encI, encB, h43, hk, encE, encMs, fi, fb]
  obtain ⟨z1, z2, z3, z4, z5, z6, z7, z8, _⟩ := hz hk
  by_cases hph : phase = 0
  · rw [if_pos (.inr (.inl hph))] at hr
    subst hr
    subst hph
    simp -implicitDefEqProofs [fnA, c58, Coord.enc, Msg.enc, encI, encB, h43, hk, encE, encMs, fi, fb]
  by_cases hd : deadline ≤ now
  · rw [if_pos (.inr (.inr (.inl hd)))] at hr
    subst hr
    simp -implicitDefEqProofs [fnA, c58, Coord.enc, Msg.enc, encI, encB, h43, hk, hph, hd, encE, encMs, fi, fb]
  by_cases hs : gs < 0
  · rw [if_pos (.inr (.inr (.inr (.inl hs))))] at hr
    subst hr
    simp -implicitDefEqProofs [fnA, c58, Coord.enc, Msg.enc, encI, encB, h43, hk, hph, hd, hs, encE, encMs, fi, fb]
  by_cases hs2 : nodes ≤ gs
  · rw [if_pos (.inr (.inr (.inr (.inr (.inl hs2)))))] at hr
    subst hr
    simp -implicitDefEqProofs [fnA, c58, Coord.enc, Msg.enc, encI, encB, h43, hk, hph, hd, hs, hs2, encE, encMs, fi, fb]
  by_cases hg : gn = round
  rotate_left
  · rw [if_pos (.inr (.inr (.inr (.inr (.inr hg)))))] at hr
    subst hr
    simp -implicitDefEqProofs [fnA, c58, Coord.enc, Msg.enc, encI, encB, h43, hk, hph, hd, hs, hs2, hg, encE, encMs, fi, fb]
  rw [if_neg (by omega)] at hr
  obtain ⟨j, rfl⟩ := Int.eq_ofNat_of_zero_le (by omega : 0 ≤ gs)
  simp only [Int.ofNat_eq_natCast, Int.toNat_natCast] at hr
  have hj1 : j < seen.length := by omega
  have hj2 : j < positions.length := by omega
  have hj3 : (j : Int) < (seen.length : Int) := by omega
  have hj4 : (j : Int) < (positions.length : Int) := by omega
  have hp : positions.length ≤ 1073741824 := by omega
  have hl : seen.length ≤ 1073741824 := by omega
  have hs2' : ¬ nodes ≤ (j : Int) := hs2
  have hget : seen.getD j false = seen[j] := by simp [hj1]
  rw [hget] at hr
  have fp : fzRow (some (1, (positions.map encI).set j (.sc (.int .i64 gv)))) 0 positions.length = .imm ((positions.map encI).set j (.sc (.int .i64 gv))) := by
    have : (positions.map encI).set j (.sc (.int .i64 gv)) = (positions.set j gv).map encI := by rw [List.map_set]; rfl
    rw [this]; exact fz_ints (by simp)
  have fs : fzRow (some (1, (seen.map encB).set j (.sc (.bool true)))) 0 seen.length = .imm ((seen.map encB).set j (.sc (.bool true))) := by
    have : (seen.map encB).set j (.sc (.bool true)) = (seen.set j true).map encB := by rw [List.map_set]; rfl
    rw [this]; exact fz_bools (by simp)
  have zn0 : 0 ≤ nodes := by omega
  have znm : nodes ≤ 1073741824 := by omega
  have fr : fzRow (some (1, List.replicate nodes.toNat (AV.sc (.bool false)))) 0 nodes.toNat = .imm (List.replicate nodes.toNat (AV.sc (.bool false))) := by
    have : List.replicate nodes.toNat (AV.sc (.bool false)) = (List.replicate nodes.toNat false).map encB := by rw [List.map_replicate]; rfl
    rw [this]; exact fz_bools (by simp)
  have c1 := fun d q h => clone_ints (H := H) (N := N) (d := d) (q := q) (h := h) hp
  have c2 := fun d q h => clone_bools (H := H) (N := N) (d := d) (q := q) (h := h) hl
  by_cases p1 : phase = 1
  · subst p1
    rw [if_pos rfl] at hr
    by_cases k2 : gk = 2
    rotate_left
    · rw [if_neg (fun h => k2 h.1)] at hr
      subst hr
      by_cases k4 : gk = 4
      · subst k4
        simp -implicitDefEqProofs [fnA, c58, Coord.enc, Msg.enc, encI, encB, h43, hk, hph, hd, hs, hs2', hg, hj1, hj2, hj3, hj4, c1, c2, n1, n2, n3, n4, n5, n6, n7, n8, ic150, c150, ic151, c151, ic152, c152, ic155, c155, quick, d151_0, p151_0, encE, encMs, fi, fb]
      · simp -implicitDefEqProofs [fnA, c58, Coord.enc, Msg.enc, encI, encB, h43, hk, hph, hd, hs, hs2', hg, hj1, hj2, hj3, hj4, c1, c2, k2, k4, n1, n2, n3, n4, n5, n6, n7, n8, ic150, c150, ic151, c151, ic152, c152, ic155, c155, quick, d151_0, p151_0, encE, encMs, fi, fb]
    subst k2
    by_cases v0 : gv < 0
    · rw [if_neg (by omega)] at hr
      subst hr
      simp -implicitDefEqProofs [fnA, c58, Coord.enc, Msg.enc, encI, encB, h43, hk, hph, hd, hs, hs2', hg, hj1, hj2, hj3, hj4, c1, c2, v0, n1, n2, n3, n4, n5, n6, n7, n8, ic150, c150, ic151, c151, ic152, c152, ic155, c155, quick, d151_0, p151_0, encE, encMs, fi, fb]
    by_cases v1 : 4096 < gv
    · rw [if_neg (by omega)] at hr
      subst hr
      simp -implicitDefEqProofs [fnA, c58, Coord.enc, Msg.enc, encI, encB, h43, hk, hph, hd, hs, hs2', hg, hj1, hj2, hj3, hj4, c1, c2, v0, v1, n1, n2, n3, n4, n5, n6, n7, n8, ic150, c150, ic151, c151, ic152, c152, ic155, c155, quick, d151_0, p151_0, encE, encMs, fi, fb]
    cases hb : seen[j] with
    | true =>
      rw [if_neg (by simp [hb])] at hr
      subst hr
      simp -implicitDefEqProofs [fnA, c58, Coord.enc, Msg.enc, encI, encB, h43, hk, hph, hd, hs, hs2', hg, hj1, hj2, hj3, hj4, c1, c2, v0, v1, hb, n1, n2, n3, n4, n5, n6, n7, n8, ic150, c150, ic151, c151, ic152, c152, ic155, c155, quick, d151_0, p151_0, encE, encMs, fi, fb]
    | false =>
      rw [if_pos ⟨rfl, by omega, by omega, hb⟩] at hr
      simp -implicitDefEqProofs [fnA, c58, Coord.enc, Msg.enc, encI, encB, h43, hk, hph, hd, hs, hs2', hg, hj1, hj2, hj3, hj4, c1, c2, v0, v1, hb, n1, n2, n3, n4, n5, n6, n7, n8, ic150, c150, ic151, c151, ic152, c152, ic155, c155, quick, d151_0, p151_0, encE, encMs, fi, fb]
      rw [seen_at (d := 2) (q := 295469) (m := 286221) (n := 146542599) (u := 1) (l := seen) (j := j) (a0 := .sc (.int .i64 nodes)) (a1 := .sc (.int .i64 round)) (a2 := .sc (.int .i64 1)) (a3 := .sc (.int .i64 deadline)) (a4 := .ref 146541063 1 0 positions.length) (a6 := .sc (.bool valid)) (by simp) (by simp) hj1 (by omega) (by omega) (by decide) (by decide) (by decide)]
      cases ha : (seen.set j true).all id with
      | true =>
        rw [if_pos ha] at hr
        subst hr
        simp -implicitDefEqProofs [quick, n5, zn0, znm]
        rw [all134_at (d := 2) (q := 295486) (m := 286221) (nodes := nodes) (round := round) (cs := [.sc (.int .i64 2), .sc (.int .i64 deadline), .ref 146541063 1 0 positions.length, .ref 295478 1 0 nodes.toNat, .sc (.bool valid)]) (by simp) z1 z2 (by decide) hN]
        simp -implicitDefEqProofs [quick, fp, fr, fz_msgs, encE, encMs, Coord.enc, encI, encB]
      | false =>
        rw [if_neg (by simp [ha])] at hr
        subst hr
        simp -implicitDefEqProofs [quick, fp, fs, encE, encMs, Coord.enc, encI, encB]
  · rw [if_neg p1] at hr
    have p2 : phase = 2 := by omega
    subst p2
    by_cases k4 : gk = 4
    rotate_left
    · rw [if_neg k4] at hr
      subst hr
      by_cases k2 : gk = 2
      · subst k2
        simp -implicitDefEqProofs [fnA, c58, Coord.enc, Msg.enc, encI, encB, h43, hk, hph, hd, hs, hs2', hg, hj1, hj2, hj3, hj4, c1, c2, n1, n2, n3, n4, n5, n6, n7, n8, ic150, c150, ic151, c151, ic152, c152, ic155, c155, quick, d151_0, p151_0, encE, encMs, fi, fb]
      · simp -implicitDefEqProofs [fnA, c58, Coord.enc, Msg.enc, encI, encB, h43, hk, hph, hd, hs, hs2', hg, hj1, hj2, hj3, hj4, c1, c2, k2, k4, n1, n2, n3, n4, n5, n6, n7, n8, ic150, c150, ic151, c151, ic152, c152, ic155, c155, quick, d151_0, p151_0, encE, encMs, fi, fb]
    subst k4
    rw [if_pos rfl] at hr
    by_cases v1 : gv = 1
    rotate_left
    · rw [if_pos v1] at hr
      subst hr
      simp -implicitDefEqProofs [fnA, c58, Coord.enc, Msg.enc, encI, encB, h43, hk, hph, hd, hs, hs2', hg, hj1, hj2, hj3, hj4, c1, c2, v1, n1, n2, n3, n4, n5, n6, n7, n8, ic150, c150, ic151, c151, ic152, c152, ic155, c155, quick, d151_0, p151_0, encE, encMs, fi, fb]
      rw [all134_at (d := 1) (q := 151264780) (m := 286221) (nodes := nodes) (round := round) (cs := [.sc (.int .i64 0), .sc (.int .i64 deadline), .ref 146541063 1 0 positions.length, .ref 146542599 1 0 seen.length, .sc (.bool false)]) (by simp) z1 z2 (by decide) hN]
      simp -implicitDefEqProofs [quick, fi, fb, fz_msgs, encE, encMs, Coord.enc, encI, encB]
    · subst v1
      rw [if_neg (by simp)] at hr
      simp -implicitDefEqProofs [fnA, c58, Coord.enc, Msg.enc, encI, encB, h43, hk, hph, hd, hs, hs2', hg, hj1, hj2, hj3, hj4, c1, c2, n1, n2, n3, n4, n5, n6, n7, n8, ic150, c150, ic151, c151, ic152, c152, ic155, c155, quick, d151_0, p151_0, encE, encMs, fi, fb]
      rw [seen_at (d := 2) (q := 295443) (m := 286221) (n := 146542599) (u := 1) (l := seen) (j := j) (a0 := .sc (.int .i64 nodes)) (a1 := .sc (.int .i64 round)) (a2 := .sc (.int .i64 2)) (a3 := .sc (.int .i64 deadline)) (a4 := .ref 146541063 1 0 positions.length) (a6 := .sc (.bool valid)) (by simp) (by simp) hj1 (by omega) (by omega) (by decide) (by decide) (by decide)]
      cases ha : (seen.set j true).all id with
      | true =>
        rw [if_pos ha] at hr
        subst hr
        simp -implicitDefEqProofs [quick, fi, fs, encE, encMs, Coord.enc, encI, encB]
      | false =>
        rw [if_neg (by simp [ha])] at hr
        subst hr
        simp -implicitDefEqProofs [quick, fi, fs, encE, encMs, Coord.enc, encI, encB]
end Go.Proofs.Ytihljollfbogeaa
