/- Runs of the reference's Start; equal things are found equal. No condition. -/
import Derived.Test.YtihljollfbogeaaB7
set_option linter.unusedSimpArgs false
namespace Go.Proofs.Ytihljollfbogeaa
open Go Go.RowKit
attribute [local simp] run_skip run_ret run_exit run_seq run_block run_reg thn_norm thn_toNorm thn_ret thn_exit endB_norm endB_toNorm endB_ret endB_exit regA_nil regA_cons putA_some putA_none insA_plain opA COp.ev pu dl dl0 appD nameOf nameOr_ptr nameOr_ref nameOr_mp nameOr_nl nameOr_full nameOr_grown grown_zero grownH_nil hset_id toNorm putA aEval_tmp aEval_func aEval_int aEval_bool aEval_nil edst eset_same eset_ne cmp_lss cmp_leq cmp_gtr cmp_geq cmp_eql cmp_neq num_add num_sub num_mul num_rem cmp_beql cmp_bneq cmp_seql cmp_sneq ite_map ite_bind ends_some ends_none ends_ite ends_bind ends_map rnd_norm rnd_toNorm rnd_exit rnd_ret norm_encI norm_encB oLit oAppend Blk.isDead oElems oSlice oExtract oIndexA oMk0 oConvInt oMin oMax oMapNew oMapPut oMapGet findA oNil AV.single valueA oPick oNot argEnv ressA resA tupA oNew oLoad oStore oFieldAddr oLen oIndexS asNum rowAt? hset partA AV.cells AV.storable AV.one hemp callA callD outA_sc outA_imm outA_agg outA_tup outA_ref outA_nl outA_full fz_sc fz_imm fz_full fz_nl fz_fn fz_agg fz_tup fz_ref fzA_sc fzA_imm fzA_full fzA_nl fzA_agg fzA_ref fz1_sc fz1_imm fz1_full fz1_nl fz1_ref fzRow_all AV.scalar AV.scalar1 evC nm nmA nm1 nm0 insA_b insA_skip run_condB isBool boolOf run_drawn endD_mk drawA_nil drawA_cons nextD_mk consE_mk putD_some putD_none insD_plain insD_b insD_skip opD COp.rd COp.wr AV.nms AV.nms1 indeps indep oMake oBuildC fillC setCellsA ofVal ofCell Value.oneCell' reshape LIM AV.pure AV.pure1 norm norm1 run_loop
theorem start40_run (H : Hand) (I : Inl) (N : Nat) (c : Coord) (now patience : Int) (hp : -9223372036854775808 ≤ patience ∧ patience < 9223372036854775808) (h44 : H 44 [c.enc] = some (encI (checkCoord c)))
    (h46 : ∀ n, H 46 [encI n] = some (.tup [(newCoord n).1.enc, encI (newCoord n).2])) (h135 : ∀ (c : Coord) kind, 0 ≤ c.nodes → c.nodes ≤ 8 → H 135 [c.enc, encI kind] = some (encMs (allMsgs kind c.nodes c.round))) :
    Ends (fnA H I N 1 c40 [c.enc, encI now, encI patience] hemp) (fun p => outA p = encS (start c now patience)) := by
  have hz := checkCoord_zero (c := c)
  have ht := checkCoord_two c
  obtain ⟨nodes, round, phase, deadline, positions, seen, valid⟩ := c
  simp only [Coord.enc, encI, encB] at h44
  rcases ht with hc | hc
  · obtain ⟨z1, z2, z3, z4, z5, _, _, _⟩ := hz hc
    simp only at z1 z2 z3 z4 z5
    have h46' := h46 nodes
    have hn : ¬ (nodes < 1 ∨ 8 < nodes) := by omega
    simp only [newCoord, if_neg hn, Coord.enc, encI, encB] at h46'
    have h135' := fun r p d => h135 ⟨nodes, r, p, d, List.replicate nodes.toNat 0, List.replicate nodes.toNat false, false⟩ 1 (by simp only; omega) z2
    simp only [Coord.enc, encI, encB, List.map_replicate, encMs] at h135' h46'
    have hpos : 0 < nodes.toNat := by omega
    rw [hc] at h44
    by_cases ht' : 0 ≤ now ∧ now ≤ 1073741824
    rotate_left
    · have hs : start ⟨nodes, round, phase, deadline, positions, seen, valid⟩ now patience = (.zero, [], 24) := by
        unfold start; rw [hc, if_neg (by decide), if_pos (by omega)]
      by_cases hn : now < 0
      · simp -implicitDefEqProofs [fnA, c40, Coord.enc, encI, encB, h44, hs, encS, encMs, Coord.zero, hn]
      · have hm : 1073741824 < now := by omega
        simp -implicitDefEqProofs [fnA, c40, Coord.enc, encI, encB, h44, hs, encS, encMs, Coord.zero, hn, hm]
    · have hw1 : IntKind.i64.wrap (1073741824 - now) = 1073741824 - now := wrap_small (by omega) (by omega)
      have hw2 : IntKind.i64.wrap (round + 1) = round + 1 := wrap_small (by omega) (by omega)
      have hn1 : ¬ now < 0 := by omega
      have hn2 : ¬ 1073741824 < now := by omega
      simp -implicitDefEqProofs [fnA, c40, Coord.enc, encI, encB, h44, h46', h135', z1, z2, hw1, hw2, hn1, hn2]
      repeat' first | refine And.intro ?_ ?_ | intro _
      all_goals try (show (_ : AV) = _; simp only [start, hc]; (repeat' split) <;> first | (exfalso; omega) | (simp [encS, encMs, Coord.zero, Coord.enc, encI, encB]; done))
      have hw3 : IntKind.i64.wrap (now + patience) = now + patience := wrap_small (by omega) (by omega)
      simp only [start, hc]; (repeat' split) <;> first | (exfalso; omega) | (simp [encS, encMs, Coord.zero, Coord.enc, encI, encB, hw3]; done)
  · rw [hc] at h44
    simp -implicitDefEqProofs [fnA, c40, Coord.enc, encI, encB, h44, start, hc, encS, encMs, Coord.zero]
theorem loop41 (H : Hand) (I : Inl) (N q : Nat) (c : Coord) (hx : c.seen.length < 4294967296) (m1 v1 m2 v2 : Nat) (h : Hp) (hm1 : h m1 = (v1, .row 7 [c.enc])) (hm2 : h m2 = (v2, .row 7 [c.enc])) (hN : c.seen.length < N) (e : Env)
    (e2 : e 2 = .ptr m1 v1 0 0) (e3 : e 3 = .ptr m2 v2 0 0) (e5 : e 5 = encI 0) :
    Ends (iter (run H I N q b41_0) N (e, h)) (fun r => r.1 = .exit 0) := by
  obtain ⟨nodes, round, phase, deadline, positions, seen, valid⟩ := c
  simp only at hx hN
  simp only [Coord.enc, encI, encB] at hm1 hm2
  refine Ends.mono (for_loop seen.length (fun i s => s.1 2 = .ptr m1 v1 0 0 ∧ s.1 3 = .ptr m2 v2 0 0 ∧ s.1 5 = encI i ∧ s.2 = h) (fun x s => x = .exit 0) ?_ ?_ hN ⟨e2, e3, e5, rfl⟩) (fun r hr => hr.2)
  · rintro i e h' hi ⟨g2, g3, g5, rfl⟩
    simp only [encI] at g2 g3 g5 hm1 hm2
    have hlt : (i : Int) < (seen.length : Int) := by omega
    have hw : IntKind.i64.wrap ((i : Int) + 1) = (i : Int) + 1 := wrap_small (by omega) (by omega)
    cases hb : seen[i] <;> simp -implicitDefEqProofs [b41_0, d41_0, p41_0, g2, g3, g5, hm1, hm2, hlt, hi, hb, encB, encI, hw]
  · rintro e h' ⟨g2, g3, g5, rfl⟩
    simp only [encI] at g2 g3 g5 hm1 hm2
    simp -implicitDefEqProofs [b41_0, g2, g3, g5, hm1, hm2]
theorem same41_run (H : Hand) (I : Inl) (N : Nat) (c : Coord) (hx : c.seen.length < 4294967296) (hN : c.seen.length < N) (h49 : H 49 [.imm (c.positions.map encI), .imm (c.positions.map encI)] = some (.sc (.bool true))) :
    Ends (fnA H I N 1 c41 [c.enc, c.enc] hemp) (fun p => outA p = encB true) := by
  have key := loop41 H I N 1 c hx
  obtain ⟨nodes, round, phase, deadline, positions, seen, valid⟩ := c
  simp only at h49 hN
  cases valid <;> simp -implicitDefEqProofs [fnA, c41, Coord.enc, encI, encB, h49]
  all_goals
    refine Ends.mono (key 514 1 515 1 _ (by simp [Coord.enc, encI, encB]) (by simp [Coord.enc, encI, encB]) hN _ (by simp) (by simp) (by simp [encI])) ?_
    rintro ⟨x, e', h'⟩ rfl
    simp -implicitDefEqProofs [encB]
theorem bytes_some : ∀ xs : List Int, ∃ s, bytesOfA (xs.map encU) = some s
  | [] => ⟨_, rfl⟩
  | x :: xs => by
    obtain ⟨s, h⟩ := bytes_some xs
    exact ⟨_, by simp [bytesOfA, encU, h]; rfl⟩
theorem loop42 (H : Hand) (I : Inl) (N : Nat) (l : List Msg) (hx : l.length < 4294967296) (h : Hp) (hN : l.length < N) (e : Env) (h49 : ∀ m ∈ l, H 49 [.imm (m.values.map encI), .imm (m.values.map encI)] = some (.sc (.bool true)))
    (e0 : e 0 = .imm (l.map Msg.enc)) (e1 : e 1 = .imm (l.map Msg.enc)) (e5 : e 5 = encI 0) :
    Ends (iter (run H I N 1 b42_0) N (e, h)) (fun r => r.1 = .exit 0) := by
  refine Ends.mono (for_loop l.length (fun i s => s.1 0 = .imm (l.map Msg.enc) ∧ s.1 1 = .imm (l.map Msg.enc) ∧ s.1 5 = encI i) (fun x s => x = .exit 0) ?_ ?_ hN ⟨e0, e1, e5⟩) (fun r hr => hr.2)
  · rintro i e h' hi ⟨g0, g1, g5⟩
    simp only [encI] at g0 g1 g5
    have hlt : (i : Int) < (l.length : Int) := by omega
    have hw : IntKind.i64.wrap ((i : Int) + 1) = (i : Int) + 1 := wrap_small (by omega) (by omega)
    have hv := h49 l[i] (List.getElem_mem hi)
    obtain ⟨bs, hbs⟩ := bytes_some l[i].body
    simp -implicitDefEqProofs [b42_0, g0, g1, g5, hlt, hi, encI, hw, Msg.enc, hv, oConvStr, hbs]
  · rintro e h' ⟨g0, g1, g5⟩
    simp only [encI] at g0 g1 g5
    simp -implicitDefEqProofs [b42_0, g0, g1, g5]
theorem same42_run (H : Hand) (I : Inl) (N : Nat) (l : List Msg) (hx : l.length < 4294967296) (hN : l.length < N) (h49 : ∀ m ∈ l, H 49 [.imm (m.values.map encI), .imm (m.values.map encI)] = some (.sc (.bool true))) :
    Ends (fnA H I N 1 c42 [encMs l, encMs l] hemp) (fun p => outA p = encB true) := by
  simp -implicitDefEqProofs [fnA, c42, encMs]
  refine Ends.mono (loop42 H I N l hx _ hN _ h49 (by simp) (by simp) (by simp [encI])) ?_
  rintro ⟨x, e', h'⟩ rfl
  simp -implicitDefEqProofs [encB]
end Go.Proofs.Ytihljollfbogeaa
