/- Runs of Expire, theirs and the reference's. No condition. -/
import Derived.Test.YtihljollfbogeaaB21
set_option linter.unusedSimpArgs false
namespace Go.Proofs.Ytihljollfbogeaa
open Go Go.RowKit
attribute [local simp] run_skip run_ret run_exit run_seq run_block run_reg thn_norm thn_toNorm thn_ret thn_exit endB_norm endB_toNorm endB_ret endB_exit regA_nil regA_cons putA_some putA_none insA_plain opA COp.ev pu dl dl0 appD nameOf nameOr_ptr nameOr_ref nameOr_mp nameOr_nl nameOr_full nameOr_grown grown_zero grownH_nil hset_id toNorm putA aEval_tmp aEval_func aEval_int aEval_bool aEval_nil edst eset_same eset_ne cmp_lss cmp_leq cmp_gtr cmp_geq cmp_eql cmp_neq num_add num_sub num_mul num_rem cmp_beql cmp_bneq cmp_seql cmp_sneq ite_map ite_bind ends_some ends_none ends_ite ends_bind ends_map rnd_norm rnd_toNorm rnd_exit rnd_ret norm_encI norm_encB oLit oAppend Blk.isDead oElems oSlice oExtract oIndexA oMk0 oConvInt oMin oMax oMapNew oMapPut oMapGet findA oNil AV.single valueA oPick oNot argEnv ressA resA tupA oNew oLoad oStore oFieldAddr oLen oIndexS asNum rowAt? hset partA AV.cells AV.storable AV.one hemp callA callD outA_sc outA_imm outA_agg outA_tup outA_ref outA_nl outA_full fz_sc fz_imm fz_full fz_nl fz_fn fz_agg fz_tup fz_ref fzA_sc fzA_imm fzA_full fzA_nl fzA_agg fzA_ref fz1_sc fz1_imm fz1_full fz1_nl fz1_ref fzRow_all AV.scalar AV.scalar1 evC nm nmA nm1 nm0 insA_b insA_skip run_condB isBool boolOf run_drawn endD_mk drawA_nil drawA_cons nextD_mk consE_mk putD_some putD_none insD_plain insD_b insD_skip opD COp.rd COp.wr AV.nms AV.nms1 indeps indep oMake oBuildC fillC setCellsA ofVal ofCell Value.oneCell' reshape LIM AV.pure AV.pure1 norm norm1 run_loop
def expire (c : Coord) (now : Int) : Coord × List Msg :=
  if checkCoord c ≠ 0 ∨ c.phase = 0 ∨ now < c.deadline then (c, []) else (⟨c.nodes, c.round, 0, c.deadline, c.positions, c.seen, false⟩, allMsgs 24 c.nodes c.round)
def encE (r : Coord × List Msg) : AV := .tup [r.1.enc, encMs r.2]
theorem fz_ints {xs : List Int} {n : Nat} (hn : xs.length = n) : fzRow (some (1, xs.map encI)) 0 n = .imm (xs.map encI) := by rw [fzRow_all (by simpa using hn) (encI_pure _), encI_norm]
theorem fz_bools {xs : List Bool} {n : Nat} (hn : xs.length = n) : fzRow (some (1, xs.map encB)) 0 n = .imm (xs.map encB) := by rw [fzRow_all (by simpa using hn) (encB_pure _), encB_norm]
theorem fz_msgs {kind nodes round : Int} : fzRow (some (8, (allMsgs kind nodes round).map Msg.enc)) 0 nodes.toNat = .imm ((allMsgs kind nodes round).map Msg.enc) := by rw [fzRow_all (all_len ..) (msgs_pure _), msgs_norm]
theorem expire60_run (H : Hand) (N : Nat) (c : Coord) (now : Int) (hN : 8 < N) (h43 : H 43 [c.enc] = some (encI (checkCoord c))) (hp : c.positions.length ≤ 1073741824) (hs : c.seen.length ≤ 1073741824)
    (n1 : ∀ l, H 137 l = none) (n2 : ∀ l, H 218 l = none) (n3 : ∀ l, H 150 l = none) (n4 : ∀ l, H 155 l = none) (n5 : ∀ l, H 134 l = none) :
    Ends (fnA H (inlB BC (mkT TC) H N 4) N 1 c60 [c.enc, encI now] hemp) (fun p => outA p = encE (expire c now)) := by
  have hz := checkCoord_zero (c := c)
  generalize hr : expire c now = r
  unfold expire at hr
  obtain ⟨nodes, round, phase, deadline, positions, seen, valid⟩ := c
  simp only at hr hp hs hz
  generalize checkCoord ⟨nodes, round, phase, deadline, positions, seen, valid⟩ = k at hr h43 hz
  simp only [Coord.enc, encI, encB] at h43
  by_cases hk : k = 0
  rotate_left
  · rw [if_pos (.inl hk)] at hr
    subst hr
    simp -implicitDefEqProofs [fnA, c60, Coord.enc, encI, encB, h43, hk, encE, encMs]
  by_cases hph : phase = 0
  · rw [if_pos (.inr (.inl hph))] at hr
    subst hr
    subst hph
    simp -implicitDefEqProofs [fnA, c60, Coord.enc, encI, encB, h43, hk, encE, encMs]
  by_cases hd : now < deadline
  · rw [if_pos (.inr (.inr hd))] at hr
    subst hr
    simp -implicitDefEqProofs [fnA, c60, Coord.enc, encI, encB, h43, hk, hph, hd, encE, encMs]
  · rw [if_neg (by omega)] at hr
    subst hr
    obtain ⟨z1, z2, _⟩ := hz hk
    have c1 := fun d q h => clone_ints (H := H) (N := N) (d := d) (q := q) (h := h) hp
    have c2 := fun d q h => clone_bools (H := H) (N := N) (d := d) (q := q) (h := h) hs
    simp -implicitDefEqProofs [fnA, c60, Coord.enc, encI, encB, h43, hk, hph, hd, encE, encMs, n1, n2, n3, n4, n5, ic150, c150, c1, c2, ic155, c155, quick]
    rw [all134_at (nodes := nodes) (round := round) (cs := [.sc (.int .i64 0), .sc (.int .i64 deadline), .ref 140511751 1 0 positions.length, .ref 140513287 1 0 seen.length, .sc (.bool false)]) (by simp) z1 z2 (by decide) hN]
    simp -implicitDefEqProofs [fz_msgs]
    exact ⟨fz_ints rfl, fz_bools rfl⟩
theorem expire61_run (H : Hand) (N : Nat) (c : Coord) (now : Int) (hN : 8 < N) (h44 : H 44 [c.enc] = some (encI (checkCoord c)))
    (n1 : ∀ l, H 154 l = none) (n2 : ∀ l, H 135 l = none) :
    Ends (fnA H (inlB BC (mkT TC) H N 4) N 1 c61 [c.enc, encI now] hemp) (fun p => outA p = encE (expire c now)) := by
  have hz := checkCoord_zero (c := c)
  generalize hr : expire c now = r
  unfold expire at hr
  obtain ⟨nodes, round, phase, deadline, positions, seen, valid⟩ := c
  simp only at hr hz
  generalize checkCoord ⟨nodes, round, phase, deadline, positions, seen, valid⟩ = k at hr h44 hz
  simp only [Coord.enc, encI, encB] at h44
  by_cases hk : k = 0
  rotate_left
  · rw [if_pos (.inl hk)] at hr
    subst hr
    simp -implicitDefEqProofs [fnA, c61, Coord.enc, encI, encB, h44, hk, encE, encMs]
  by_cases hph : phase = 0
  · rw [if_pos (.inr (.inl hph))] at hr
    subst hr
    subst hph
    simp -implicitDefEqProofs [fnA, c61, Coord.enc, encI, encB, h44, hk, encE, encMs]
  by_cases hd : now < deadline
  · rw [if_pos (.inr (.inr hd))] at hr
    subst hr
    simp -implicitDefEqProofs [fnA, c61, Coord.enc, encI, encB, h44, hk, hph, hd, encE, encMs]
  · rw [if_neg (by omega)] at hr
    subst hr
    obtain ⟨z1, z2, _⟩ := hz hk
    have c3 := fun d q h kind p dl v => all135_at (H := H) (N := N) (d := d) (q := q) (h := h) (kind := kind) (nodes := nodes) (round := round) (a2 := .sc (.int .i64 p)) (a3 := .sc (.int .i64 dl)) (a4 := .imm (positions.map encI)) (a5 := .imm (seen.map encB)) (a6 := .sc (.bool v)) (by rfl) z1 z2 hN
    simp -implicitDefEqProofs [fnA, c61, Coord.enc, encI, encB, h44, hk, hph, hd, encE, encMs, n1, n2, ic154, c154, c3, quick, fz_msgs]
end Go.Proofs.Ytihljollfbogeaa
