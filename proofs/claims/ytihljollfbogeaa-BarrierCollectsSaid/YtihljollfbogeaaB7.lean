/- Runs of New, Result, Start, theirs and the reference's. No condition. -/
import Derived.Test.YtihljollfbogeaaB6
set_option linter.unusedSimpArgs false
namespace Go.Proofs.Ytihljollfbogeaa
open Go Go.RowKit
attribute [local simp] run_skip run_ret run_exit run_seq run_block run_reg thn_norm thn_toNorm thn_ret thn_exit endB_norm endB_toNorm endB_ret endB_exit regA_nil regA_cons putA_some putA_none insA_plain opA COp.ev pu dl dl0 appD nameOf nameOr_ptr nameOr_ref nameOr_mp nameOr_nl nameOr_full nameOr_grown grown_zero grownH_nil hset_id toNorm putA aEval_tmp aEval_func aEval_int aEval_bool aEval_nil edst eset_same eset_ne cmp_lss cmp_leq cmp_gtr cmp_geq cmp_eql cmp_neq num_add num_sub num_mul num_rem cmp_beql cmp_bneq cmp_seql cmp_sneq ite_map ite_bind ends_some ends_none ends_ite ends_bind ends_map rnd_norm rnd_toNorm rnd_exit rnd_ret norm_encI norm_encB oLit oAppend Blk.isDead oElems oSlice oExtract oIndexA oMk0 oConvInt oMin oMax oMapNew oMapPut oMapGet findA oNil AV.single valueA oPick oNot argEnv ressA resA tupA oNew oLoad oStore oFieldAddr oLen oIndexS asNum rowAt? hset partA AV.cells AV.storable AV.one hemp callA callD outA_sc outA_imm outA_agg outA_tup outA_ref outA_nl outA_full fz_sc fz_imm fz_full fz_nl fz_fn fz_agg fz_tup fz_ref fzA_sc fzA_imm fzA_full fzA_nl fzA_agg fzA_ref fz1_sc fz1_imm fz1_full fz1_nl fz1_ref fzRow_all AV.scalar AV.scalar1 evC nm nmA nm1 nm0 insA_b insA_skip run_condB isBool boolOf run_drawn endD_mk drawA_nil drawA_cons nextD_mk consE_mk putD_some putD_none insD_plain insD_b insD_skip opD COp.rd COp.wr AV.nms AV.nms1 indeps indep oMake oBuildC fillC setCellsA ofVal ofCell Value.oneCell' reshape LIM AV.pure AV.pure1 norm norm1 run_loop
theorem c46_c45 : c46 = c45 := by rfl
theorem new46_run (H : Hand) (I : Inl) (N q : Nat) (n : Int) : Ends (fnA H I N q c46 [encI n] hemp) (fun p => outA p = .tup [(newCoord n).1.enc, encI (newCoord n).2]) := by
  rw [c46_c45]
  obtain ⟨p, h1, h2⟩ := Option.map_eq_some_iff.1 (new_run H I N q n)
  exact ⟨p, h1, h2⟩
def result (c : Coord) : List Int × Bool := if checkCoord c ≠ 0 ∨ c.valid = false then ([], false) else (c.positions, true)
def encR (r : List Int × Bool) : AV := .tup [.imm (r.1.map encI), encB r.2]
theorem result47_run (H : Hand) (I : Inl) (N q : Nat) (c : Coord) (h43 : H 43 [c.enc] = some (encI (checkCoord c))) (h137 : H 137 [.imm (c.positions.map encI)] = some (.imm (c.positions.map encI))) :
    Ends (fnA H I N q c47 [c.enc] hemp) (fun p => outA p = encR (result c)) := by
  obtain ⟨nodes, round, phase, deadline, positions, seen, valid⟩ := c
  simp only at h137
  have h43' := h43
  simp only [Coord.enc, encI, encB] at h43'
  cases valid <;> simp -implicitDefEqProofs [fnA, c47, Coord.enc, encI, encB, h43', h137]
  all_goals repeat' first | refine And.intro ?_ ?_ | intro _
  all_goals simp [*, result, encR, encB, encI]
theorem result48_run (H : Hand) (I : Inl) (N q : Nat) (c : Coord) (h44 : H 44 [c.enc] = some (encI (checkCoord c))) :
    Ends (fnA H I N q c48 [c.enc] hemp) (fun p => outA p = encR (result c)) := by
  obtain ⟨nodes, round, phase, deadline, positions, seen, valid⟩ := c
  simp only [Coord.enc, encI, encB] at h44
  cases valid <;> simp -implicitDefEqProofs [fnA, c48, Coord.enc, encI, encB, h44]
  all_goals repeat' first | refine And.intro ?_ ?_ | intro _
  all_goals simp [*, result, encR, encB, encI]
theorem checkCoord_two (c : Coord) : checkCoord c = 0 ∨ checkCoord c = 3 := by
  unfold checkCoord; split
  · exact .inr rfl
  · split
    · exact .inr rfl
    · split
      · exact .inr rfl
      · exact .inl rfl
theorem checkCoord_zero {c : Coord} (h : checkCoord c = 0) : 1 ≤ c.nodes ∧ c.nodes ≤ 8 ∧ (0 ≤ c.round ∧ c.round ≤ 1073741824) ∧ (0 ≤ c.deadline ∧ c.deadline ≤ 1073741824) ∧ (0 ≤ c.phase ∧ c.phase ≤ 2) ∧ (c.positions.length : Int) = c.nodes ∧ (c.seen.length : Int) = c.nodes ∧ (c.valid = true → c.phase = 0) ∧ c.positions.any badPos = false := by
  unfold checkCoord at h
  split at h
  · cases h
  · rename_i h1
    split at h
    · cases h
    · rename_i h2
      split at h
      · cases h
      · rename_i h3
        simp [timeOk] at h1 h2 h3
        refine ⟨by omega, by omega, ⟨by omega, by omega⟩, ⟨by omega, by omega⟩, ⟨by omega, by omega⟩, by omega, by omega, h2.2.2, by simpa using h3⟩
def start (c : Coord) (now patience : Int) : Coord × List Msg × Int :=
  if checkCoord c ≠ 0 then (.zero, [], 3)
  else if now < 0 ∨ 1073741824 < now ∨ patience < 1 ∨ 1073741824 - now < patience then (.zero, [], 24)
  else if c.phase ≠ 0 then (.zero, [], 26)
  else if c.round = 1073741824 then (.zero, [], 6)
  else (⟨c.nodes, c.round + 1, 1, now + patience, List.replicate c.nodes.toNat 0, List.replicate c.nodes.toNat false, false⟩, allMsgs 1 c.nodes (c.round + 1), 0)
def encS (r : Coord × List Msg × Int) : AV := .tup [r.1.enc, encMs r.2.1, encI r.2.2]
theorem start39_run (H : Hand) (I : Inl) (N : Nat) (c : Coord) (now patience : Int) (hp : -9223372036854775808 ≤ patience ∧ patience < 9223372036854775808) (h43 : H 43 [c.enc] = some (encI (checkCoord c))) (h133 : ∀ n, H 133 [.sc (.int .i64 n)] = some (.sc (.bool (timeOk n))))
    (h45 : ∀ n, H 45 [encI n] = some (.tup [(newCoord n).1.enc, encI (newCoord n).2])) (h134 : ∀ l, H 134 l = none) (hI : ∀ q m v kind h, okR h m v q → I q 134 [.ptr m v 0 0, .sc (.int .i64 kind)] h = all134F q h m kind) :
    Ends (fnA H I N 1 c39 [c.enc, encI now, encI patience] hemp) (fun p => outA p = encS (start c now patience)) := by
  have hz := checkCoord_zero (c := c)
  have ht := checkCoord_two c
  obtain ⟨nodes, round, phase, deadline, positions, seen, valid⟩ := c
  have h43' := h43
  simp only [Coord.enc, encI, encB] at h43'
  rcases ht with hc | hc
  · obtain ⟨z1, z2, z3, z4, z5, _, _, _⟩ := hz hc
    simp only at z1 z2 z3 z4 z5
    have h45' := h45 nodes
    have hn : ¬ (nodes < 1 ∨ 8 < nodes) := by omega
    simp only [newCoord, if_neg hn, Coord.enc, encI, encB] at h45'
    have hpos : 0 < nodes.toNat := by omega
    rw [hc] at h43'
    cases ht : timeOk now with
    | false =>
      simp -implicitDefEqProofs [fnA, c39, Coord.enc, encI, encB, h43', h133, ht]
      have : now < 0 ∨ 1073741824 < now := by simp [timeOk] at ht; omega
      have hs : start ⟨nodes, round, phase, deadline, positions, seen, valid⟩ now patience = (.zero, [], 24) := by
        unfold start; rw [hc, if_neg (by decide), if_pos (by omega)]
      simp [hs, encS, encMs, Coord.zero, Coord.enc, encI, encB]
    | true =>
      have ht' : 0 ≤ now ∧ now ≤ 1073741824 := by simpa [timeOk] using ht
      have hw1 : IntKind.i64.wrap (1073741824 - now) = 1073741824 - now := wrap_small (by omega) (by omega)
      have hw2 : IntKind.i64.wrap (round + 1) = round + 1 := wrap_small (by omega) (by omega)
      simp -implicitDefEqProofs [fnA, c39, Coord.enc, encI, encB, h43', h133, h45', h134, hI, okR, all134F, z1, z2, ht, hw1, hw2]
      repeat' first | refine And.intro ?_ ?_ | intro _
      all_goals try (show (_ : AV) = _; simp only [start, hc]; (repeat' split) <;> first | (exfalso; omega) | (simp [encS, encMs, Coord.zero, Coord.enc, encI, encB]; done))
      · have hw3 : IntKind.i64.wrap (now + patience) = now + patience := wrap_small (by omega) (by omega)
        rw [hI 576 570 1 _ _ (by simp [okR, z1, z2])]
        have hs : start ⟨nodes, round, phase, deadline, positions, seen, valid⟩ now patience = (⟨nodes, round + 1, 1, now + patience, List.replicate nodes.toNat 0, List.replicate nodes.toNat false, false⟩, allMsgs 1 nodes (round + 1), 0) := by
          simp only [start, hc]; (repeat' split) <;> first | rfl | (exfalso; omega)
        simp -implicitDefEqProofs [all134F, hw3, hs, encS, encMs, Coord.enc, encI, encB, all_len', norm_msg]
        rw [fzRow_all (all_len ..) (msgs_pure _), msgs_norm]
  · rw [hc] at h43'
    simp -implicitDefEqProofs [fnA, c39, Coord.enc, encI, encB, h43', start, hc, encS, encMs, Coord.zero]
end Go.Proofs.Ytihljollfbogeaa
