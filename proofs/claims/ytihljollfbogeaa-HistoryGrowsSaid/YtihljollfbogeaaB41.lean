/- Runs: Issue and Ack. No condition. -/
import Derived.Test.YtihljollfbogeaaB40
set_option linter.unusedSimpArgs false
set_option maxHeartbeats 1000000
namespace Go.Proofs.Ytihljollfbogeaa
open Go Go.RowKit
attribute [local simp] run_skip run_ret run_exit run_seq run_block run_reg thn_norm thn_toNorm thn_ret thn_exit endB_norm endB_toNorm endB_ret endB_exit regA_nil regA_cons putA_some putA_none insA_plain opA COp.ev pu dl dl0 appD nameOf nameOr_ptr nameOr_ref nameOr_mp nameOr_nl nameOr_full nameOr_grown grown_zero grownH_nil hset_id toNorm putA aEval_tmp aEval_func aEval_int aEval_bool aEval_nil edst eset_same eset_ne cmp_lss cmp_leq cmp_gtr cmp_geq cmp_eql cmp_neq num_add num_sub num_mul num_rem cmp_beql cmp_bneq cmp_seql cmp_sneq ite_map ite_bind ends_some ends_none ends_ite ends_bind ends_map rnd_norm rnd_toNorm rnd_exit rnd_ret norm_encI norm_encB oLit oAppend frzD_no Blk.isDead oElems oSlice oExtract oIndexA oMk0 oConvInt oMin oMax oMapNew oMapPut oMapGet findA oNil AV.single valueA oPick oNot argEnv ressA resA tupA oNew oLoad oStore oFieldAddr oLen oIndexS asNum rowAt? hset partA AV.cells AV.storable AV.one hemp callA isMk copyA callD outA_sc outA_imm outA_agg outA_tup outA_ref outA_nl outA_full fz_sc fz_imm fz_full fz_nl fz_fn fz_agg fz_tup fz_ref fzA_sc fzA_imm fzA_full fzA_nl fzA_agg fzA_ref fz1_sc fz1_imm fz1_full fz1_nl fz1_ref fzRow_all AV.scalar AV.scalar1 evC nm nmA nm1 nm0 insA_b insA_skip run_condB isBool boolOf run_drawn endD_mk drawA_nil drawA_cons nextD_mk consE_mk putD_some putD_none insD_plain insD_b insD_skip opD COp.rd COp.wr AV.nms AV.nms1 indeps indep oMake oBuildC fillC setCellsA ofVal ofCell Value.oneCell' reshape LIM AV.pure AV.pure1 norm norm1 run_loop
theorem tail74b_run (H : Hand) (I : Inl) (N : Nat) (hs : Hist) (w : Wr) (hx : hs.writes.length < 536870913) (hz2 : hs.events.length < LIM) (h184 : H 184 [encSs w.data] = some (encSs w.data)) (v3 v4 v13 : Nat) (a b c : AV) (e : Env) (hp : Hp) (e3 : e 3 = .ptr 515 v3 0 0) (e4 : e 4 = .ptr 516 v4 0 0) (e12 : e 12 = encI hs.writes.length) (e13 : e 13 = .ptr 525 v13 0 0)
    (h3 : hp 515 = (v3, .row 3 [w.enc])) (h4 : hp 516 = (v4, .row 3 [.agg [.nl, .nl, .nl]])) (h13 : hp 525 = (v13, .row 3 [.agg [a, b, c]])) (ga : Gr hp 146018311 1 a (hs.sizes.map encI)) (gb : Gw hp 285212 3 b (hs.writes.map Wr.enc)) (gc : Gr hp 146019847 2 c (hs.events.map Evt.enc)) :
    Ends (run H I N 1 t74b (e, hp)) (fun r => r.1 = .ret ∧ r.2.1 5 = encI hs.writes.length ∧ r.2.1 6 = encI 0 ∧ r.2.1 4 = .ptr 516 v4 0 0 ∧ ∃ a' b' c', r.2.2 516 = (v4, .row 3 [.agg [a', b', c']]) ∧ Gr r.2.2 146018311 1 a' (hs.sizes.map encI) ∧ (∃ n, Gr r.2.2 n 3 b' ((hs.writes ++ [w]).map Wr.enc)) ∧ Gr r.2.2 146019847 2 c' ((hs.events ++ [Evt.mk 0 hs.writes.length]).map Evt.enc)) := by
  have hw : w.enc = .agg [encI w.vol, encI w.start, encSs w.data] := rfl
  obtain ⟨va, rfl, ga⟩ := ga
  have pc := gc.grow (x := (Evt.mk 0 hs.writes.length).enc) (Evt.ok _) (by simpa using hz2) (1 * 512 + 61)
  obtain ⟨vc, rfl, gc⟩ := gc
  have pe1 : (hs.writes ++ [w]).map Wr.enc = hs.writes.map Wr.enc ++ [w.enc] := by simp
  have pe2 : (hs.events ++ [Evt.mk 0 hs.writes.length]).map Evt.enc = hs.events.map Evt.enc ++ [(Evt.mk 0 hs.writes.length).enc] := by simp
  rw [pe1, pe2]
  have hok := w.ok
  simp only [hw, encI, encSs, Evt.enc, List.length_map, Nat.reduceMul, Nat.reduceAdd] at h184 e12 h3 pc hok ⊢
  rcases gb with ⟨rfl, gb⟩ | ⟨vb, rfl, gb⟩
  · have hnil : hs.writes = [] := by simpa using gb
    have pb := fun h' e' => (Gw.nil (h := hp) (n := 566) (k := 3)).grow hok (by simp [LIM]) h' e'
    simp -implicitDefEqProofs [t74b, e3, e4, e12, e13, h3, h4, h13, h184, pc, pb, -oAppend]
    exact ⟨_, _, _, ⟨rfl, rfl, rfl⟩, Gr.mk (by simpa [hset] using ga) (by simp), ⟨566, Gr.mk (by simp [hnil]) (by simp [hnil])⟩, Gr.mk (by simp) (by simp)⟩
  · have pb := (Gr.mk (i := (hs.writes.map Wr.enc).length) gb rfl).grow (x := w.enc) w.ok (by simp [LIM]; omega) (1 * 512 + 54)
    rw [hw] at pb
    simp only [encI, encSs, List.length_map, Nat.reduceMul, Nat.reduceAdd] at pb
    simp -implicitDefEqProofs [t74b, e3, e4, e12, e13, h3, h4, h13, h184, pc, pb, -oAppend]
    exact ⟨_, _, _, ⟨rfl, rfl, rfl⟩, Gr.mk (by simpa [hset] using ga) (by simp), ⟨285212, Gr.mk (by simp) (by simp)⟩, Gr.mk (by simp) (by simp)⟩
theorem tail74_run (H : Hand) (I J : Inl) (N M : Nat) (hs : Hist) (w : Wr) (hx : hs.writes.length < 536870913) (hN : hs.writes.length < M) (hz1 : hs.sizes.length ≤ LIM) (hz2 : hs.events.length < LIM) (h137 : ∀ l, H 137 l = some (.mp 1 0)) (h227 : ∀ l, H 227 l = some (.mp 2 0)) (h184 : ∀ w ∈ hs.writes, H 184 [encSs w.data] = some (encSs w.data)) (h184w : H 184 [encSs w.data] = some (encSs w.data))
    (h161 : ∀ l h, H 161 l = none ∧ I 557 161 l h = fnA H J M 557 c161 l h) (v2 v3 v4 : Nat) (e : Env) (hp : Hp) (e2 : e 2 = .ptr 514 v2 0 0) (e3 : e 3 = .ptr 515 v3 0 0) (e4 : e 4 = .ptr 516 v4 0 0) (e12 : e 12 = encI hs.writes.length)
    (h2 : hp 514 = (v2, .row 3 [hs.enc])) (h3 : hp 515 = (v3, .row 3 [w.enc])) (h4 : hp 516 = (v4, .row 3 [.agg [.nl, .nl, .nl]])) :
    Ends (run H I N 1 t74 (e, hp)) (fun r => r.1 = .ret ∧ r.2.1 5 = encI hs.writes.length ∧ r.2.1 6 = encI 0 ∧ r.2.1 4 = .ptr 516 v4 0 0 ∧ ∃ a' b' c', r.2.2 516 = (v4, .row 3 [.agg [a', b', c']]) ∧ Gr r.2.2 146018311 1 a' (hs.sizes.map encI) ∧ (∃ n, Gr r.2.2 n 3 b' ((hs.writes ++ [w]).map Wr.enc)) ∧ Gr r.2.2 146019847 2 c' ((hs.events ++ [Evt.mk 0 hs.writes.length]).map Evt.enc)) := by
  simp -implicitDefEqProofs [t74]
  refine Ends.mono (tail74a_run H I J N M hs (by omega) hN hz1 (by omega) h137 h227 h184 h161 v2 e hp e2 h2) ?_
  rintro ⟨x, e', h'⟩ ⟨rfl, v13, a, b, c, g13, ge, gh, ga, gb, gc, gm⟩
  simp only at g13 ge gh ga gb gc gm
  simpa using tail74b_run H I N hs w hx hz2 h184w v3 v4 v13 a b c e' h' (by rw [ge 3 (by decide) (by decide) (by decide), e3]) (by rw [ge 4 (by decide) (by decide) (by decide), e4]) (by rw [ge 12 (by decide) (by decide) (by decide), e12]) g13 (by rw [gm 515 (by decide) (by decide), h3]) (by rw [gm 516 (by decide) (by decide), h4]) gh ga gb gc
theorem issue74_run (H : Hand) (I J : Inl) (N M : Nat) (hs : Hist) (w : Wr) (hx : hs.writes.length < 536870913) (hN : hs.writes.length < M) (hz1 : hs.sizes.length ≤ LIM) (hz2 : hs.events.length < LIM) (h137 : ∀ l, H 137 l = some (.mp 1 0)) (h227 : ∀ l, H 227 l = some (.mp 2 0)) (h184 : ∀ w ∈ hs.writes, H 184 [encSs w.data] = some (encSs w.data)) (h184w : H 184 [encSs w.data] = some (encSs w.data))
    (h124 : H 124 [hs.enc] = some (chkR hs)) (h144 : H 144 [encIs hs.sizes] = some (.tup [encIm (newIm hs.sizes).1, encI (newIm hs.sizes).2])) (h183 : checkH hs = 0 → H 183 [encIm (newIm hs.sizes).1, w.enc] = some (encI (fitsE hs.sizes w)))
    (h161 : ∀ l h, H 161 l = none ∧ I 557 161 l h = fnA H J M 557 c161 l h) :
    Ends (fnA H I N 1 c74 [hs.enc, w.enc] hemp) (fun p => outA p = .tup [(issueH hs w).1.enc, encI (issueH hs w).2.1, encI (issueH hs w).2.2]) := by
  have hh : hs.enc = .agg [encIs hs.sizes, encWs hs.writes, encEs hs.events] := rfl
  have hw : w.enc = .agg [encI w.vol, encI w.start, encSs w.data] := rfl
  have hz : Hist.zero.enc = .agg [.imm [], .imm [], .imm []] := rfl
  unfold issueH
  by_cases c1 : checkH hs = 0
  case neg =>
    have hR : chkR hs = .tup [encChk .zero [] [], encI (checkH hs)] := if_neg c1
    rw [hR] at h124
    rw [if_pos c1]
    generalize checkH hs = R at *
    simp only [hh, Hist.zero, encIs, encWs, encEs, encI, encB, encChk, List.map_nil] at h124
    simp -implicitDefEqProofs [fnA, c74, hh, hw, hz, encIs, encWs, encEs, encSs, encI, h124, c1]
  rw [if_neg (by simp [c1])]
  have hR : chkR hs = .tup [encChk hs (tlI hs.events) (tlA hs.events), encI 0] := if_pos c1
  rw [hR] at h124
  replace h183 := h183 c1
  have hs0 := ((checkH_zero hs).1 c1).sizes
  by_cases c2 : 4096 ≤ (hs.writes.length : Int)
  · rw [if_pos c2]
    simp only [hh, encIs, encWs, encEs, encI, encB, encChk] at h124
    simp -implicitDefEqProofs [fnA, c74, hh, hw, hz, encIs, encWs, encEs, encSs, encI, h124, c2]
  rw [if_neg c2]
  have h2 : (newIm hs.sizes).2 = 0 := by unfold newIm; rw [if_neg (by simp [hs0])]
  rw [h2] at h144
  have hfz : ∀ h, fz h (encIm (newIm hs.sizes).1) = encIm (newIm hs.sizes).1 := fun h => rfl
  obtain ⟨im, him⟩ : ∃ im, im = encIm (newIm hs.sizes).1 := ⟨_, rfl⟩
  have him2 : ∃ l, im = .imm l := ⟨_, him⟩
  rw [← him] at h144 h183
  obtain ⟨iml, rfl⟩ := him2
  by_cases c3 : fitsE hs.sizes w = 0
  case neg =>
    rw [if_pos c3]
    simp only [hh, hw, encIs, encWs, encEs, encSs, encI, encB, encChk] at h124 h144 h183
    simp -implicitDefEqProofs [fnA, c74, hh, hw, hz, encIs, encWs, encEs, encSs, encI, h124, h144, h183, c2, c3]
  rw [if_neg (by simp [c3])]
  rw [c3] at h183
  simp only [hh, hw, encIs, encWs, encEs, encSs, encI, encB, encChk] at h124 h144 h183
  rw [c74_eq]
  simp -implicitDefEqProofs [fnA, c74_cut, hh, hw, encIs, encWs, encEs, encSs, encI, h124, h144, h183, c2]
  refine Ends.mono (tail74_run H I J N M hs w hx hN hz1 hz2 h137 h227 h184 h184w h161 1 1 1 _ _ (by simp) (by simp) (by simp) (by simp [encI]) (by simp [hh, encIs, encWs, encEs]) (by simp [hw, encI, encSs]) (by simp)) ?_
  rintro ⟨x, e', h'⟩ ⟨rfl, g5, g6, g4, a, b, c, g7, ga, ⟨n, gb⟩, gc⟩
  simp only at g5 g6 g4 g7 ga gb gc
  have fa := fzRow_all (k := 1) (L := hs.sizes.map encI) rfl (all_map (by simp [encI]) _)
  have fb := fzRow_all (k := 3) (L := (hs.writes ++ [w]).map Wr.enc) rfl (all_map Wr.pure _)
  have fc := fzRow_all (k := 2) (L := (hs.events ++ [Evt.mk 0 hs.writes.length]).map Evt.enc) rfl (all_map Evt.pure _)
  rw [map_norm (f := encI) (by simp [encI])] at fa
  rw [map_norm Wr.norm] at fb
  rw [map_norm Evt.norm] at fc
  obtain ⟨va, rfl, ga⟩ := ga
  obtain ⟨vb, rfl, gb⟩ := gb
  obtain ⟨vc, rfl, gc⟩ := gc
  simp only [List.map_append, List.map_cons, List.map_nil, List.length_append, List.length_map, List.length_cons, List.length_nil, Nat.reduceAdd] at ga gb gc fa fb fc
  simp -implicitDefEqProofs [g4, g5, g6, g7, Hist.enc, encIs, encWs, encEs, encI, fa, fb, fc, ga, gb, gc]
theorem tail76a_run (H : Hand) (I J : Inl) (N M : Nat) (hs : Hist) (hx : hs.writes.length < 1073741824) (hN : hs.writes.length < M) (hz1 : hs.sizes.length ≤ LIM) (hz2 : hs.events.length ≤ LIM) (h137 : ∀ l, H 137 l = some (.mp 1 0)) (h227 : ∀ l, H 227 l = some (.mp 2 0)) (h184 : ∀ w ∈ hs.writes, H 184 [encSs w.data] = some (encSs w.data))
    (h161 : ∀ l h, H 161 l = none ∧ I 552 161 l h = fnA H J M 552 c161 l h) (v2 : Nat) (e : Env) (hp : Hp) (e2 : e 2 = .ptr 514 v2 0 0) (h2 : hp 514 = (v2, .row 3 [hs.enc])) :
    Ends (run H I N 1 t76a (e, hp)) (fun r => r.1 = .norm ∧ ∃ v8 a b c, r.2.1 8 = .ptr 520 v8 0 0 ∧ (∀ t, t ≠ 8 → t ≠ 39 → t ≠ 40 → r.2.1 t = e t) ∧ r.2.2 520 = (v8, .row 3 [.agg [a, b, c]]) ∧ Gr r.2.2 144707591 1 a (hs.sizes.map encI) ∧ Gw r.2.2 282652 3 b (hs.writes.map Wr.enc) ∧ Gr r.2.2 144709127 2 c (hs.events.map Evt.enc) ∧ ∀ m, m < 282624 → m ≠ 520 → r.2.2 m = hp m) := by
  have hh : hs.enc = .agg [encIs hs.sizes, encWs hs.writes, encEs hs.events] := rfl
  have own := copied161_own H J M 552 (.inr rfl) hs hx hN hz1 hz2 h137 h227 h184
  have i1 := fun l => (h161 l hemp).1
  rw [hh] at h2
  rw [hh] at own
  simp -implicitDefEqProofs [t76a, e2, h2, i1]
  rw [(h161 _ _).2]
  refine Ends.mono (own _) ?_
  rintro ⟨x, h'⟩ ⟨a, b, c, rfl, ga, gb, gc, gm⟩
  simp only at ga gb gc gm
  obtain ⟨va, rfl, ga⟩ := ga
  obtain ⟨vc, rfl, gc⟩ := gc
  rcases gb with ⟨rfl, gb⟩ | ⟨vb, rfl, gb⟩
  all_goals
    simp -implicitDefEqProofs
    refine ⟨fun t q1 q2 q3 => by simp [eset, q1, q2, q3], _, _, _, ⟨rfl, rfl, rfl⟩, Gr.mk (by simpa [hset] using ga) (by simp), ?_, Gr.mk (by simpa [hset] using gc) (by simp), fun m q1 q2 => by simp [q2, gm m q1]⟩
  · exact .inl ⟨rfl, gb⟩
  · exact Gw.mk (by simpa [hset] using gb) (by simp)
theorem tail76b_run (H : Hand) (I : Inl) (N : Nat) (hs : Hist) (k : Int) (hz2 : hs.events.length < LIM) (v4 v8 : Nat) (a b c : AV) (e : Env) (hp : Hp) (e4 : e 4 = .ptr 516 v4 0 0) (e1 : e 1 = encI k) (e8 : e 8 = .ptr 520 v8 0 0)
    (h4 : hp 516 = (v4, .row 3 [.agg [.nl, .nl, .nl]])) (h8 : hp 520 = (v8, .row 3 [.agg [a, b, c]])) (ga : Gr hp 144707591 1 a (hs.sizes.map encI)) (gb : Gw hp 282652 3 b (hs.writes.map Wr.enc)) (gc : Gr hp 144709127 2 c (hs.events.map Evt.enc)) :
    Ends (run H I N 1 t76b (e, hp)) (fun r => r.1 = .ret ∧ r.2.1 5 = encI 0 ∧ r.2.1 4 = .ptr 516 v4 0 0 ∧ ∃ a' b' c', r.2.2 516 = (v4, .row 3 [.agg [a', b', c']]) ∧ Gr r.2.2 144707591 1 a' (hs.sizes.map encI) ∧ Gw r.2.2 282652 3 b' (hs.writes.map Wr.enc) ∧ Gr r.2.2 144709127 2 c' ((hs.events ++ [Evt.mk 1 k]).map Evt.enc)) := by
  obtain ⟨va, rfl, ga⟩ := ga
  have pc := gc.grow (x := (Evt.mk 1 k).enc) (Evt.ok _) (by simpa using hz2) (1 * 512 + 46)
  obtain ⟨vc, rfl, gc⟩ := gc
  have pe2 : (hs.events ++ [Evt.mk 1 k]).map Evt.enc = hs.events.map Evt.enc ++ [(Evt.mk 1 k).enc] := by simp
  rw [pe2]
  simp only [encI, Evt.enc, List.length_map, Nat.reduceMul, Nat.reduceAdd] at e1 pc ⊢
  rcases gb with ⟨rfl, gb⟩ | ⟨vb, rfl, gb⟩
  · simp -implicitDefEqProofs [t76b, e1, e4, e8, h4, h8, pc, -oAppend]
    exact ⟨_, _, _, ⟨rfl, rfl, rfl⟩, Gr.mk (by simpa [hset] using ga) (by simp), .inl ⟨rfl, gb⟩, Gr.mk (by simp) (by simp)⟩
  · simp -implicitDefEqProofs [t76b, e1, e4, e8, h4, h8, pc, -oAppend]
    exact ⟨_, _, _, ⟨rfl, rfl, rfl⟩, Gr.mk (by simpa [hset] using ga) (by simp), Gw.mk (by simpa [hset] using gb) (by simp), Gr.mk (by simp) (by simp)⟩
theorem tail76_run (H : Hand) (I J : Inl) (N M : Nat) (hs : Hist) (k : Int) (hx : hs.writes.length < 536870913) (hN : hs.writes.length < M) (hz1 : hs.sizes.length ≤ LIM) (hz2 : hs.events.length < LIM) (h137 : ∀ l, H 137 l = some (.mp 1 0)) (h227 : ∀ l, H 227 l = some (.mp 2 0)) (h184 : ∀ w ∈ hs.writes, H 184 [encSs w.data] = some (encSs w.data))
    (h161 : ∀ l h, H 161 l = none ∧ I 552 161 l h = fnA H J M 552 c161 l h) (v2 v4 : Nat) (e : Env) (hp : Hp) (e2 : e 2 = .ptr 514 v2 0 0) (e4 : e 4 = .ptr 516 v4 0 0) (e1 : e 1 = encI k)
    (h2 : hp 514 = (v2, .row 3 [hs.enc])) (h4 : hp 516 = (v4, .row 3 [.agg [.nl, .nl, .nl]])) :
    Ends (run H I N 1 t76 (e, hp)) (fun r => r.1 = .ret ∧ r.2.1 5 = encI 0 ∧ r.2.1 4 = .ptr 516 v4 0 0 ∧ ∃ a' b' c', r.2.2 516 = (v4, .row 3 [.agg [a', b', c']]) ∧ Gr r.2.2 144707591 1 a' (hs.sizes.map encI) ∧ Gw r.2.2 282652 3 b' (hs.writes.map Wr.enc) ∧ Gr r.2.2 144709127 2 c' ((hs.events ++ [Evt.mk 1 k]).map Evt.enc)) := by
  simp -implicitDefEqProofs [t76]
  refine Ends.mono (tail76a_run H I J N M hs (by omega) hN hz1 (by omega) h137 h227 h184 h161 v2 e hp e2 h2) ?_
  rintro ⟨x, e', h'⟩ ⟨rfl, v8, a, b, c, g8, ge, gh, ga, gb, gc, gm⟩
  simp only at g8 ge gh ga gb gc gm
  simpa using tail76b_run H I N hs k hz2 v4 v8 a b c e' h' (by rw [ge 4 (by decide) (by decide) (by decide), e4]) (by rw [ge 1 (by decide) (by decide) (by decide), e1]) g8 (by rw [gm 516 (by decide) (by decide), h4]) gh ga gb gc
theorem ack76_run (H : Hand) (I J : Inl) (N M : Nat) (hs : Hist) (k : Int) (hx : hs.writes.length < 536870913) (hN : hs.writes.length < M) (hz1 : hs.sizes.length ≤ LIM) (hz2 : hs.events.length < LIM) (h137 : ∀ l, H 137 l = some (.mp 1 0)) (h227 : ∀ l, H 227 l = some (.mp 2 0)) (h184 : ∀ w ∈ hs.writes, H 184 [encSs w.data] = some (encSs w.data))
    (h124 : H 124 [hs.enc] = some (chkR hs)) (h161 : ∀ l h, H 161 l = none ∧ I 552 161 l h = fnA H J M 552 c161 l h) :
    Ends (fnA H I N 1 c76 [hs.enc, encI k] hemp) (fun p => outA p = .tup [(ackOf hs k).1.enc, encI (ackOf hs k).2]) := by
  have hh : hs.enc = .agg [encIs hs.sizes, encWs hs.writes, encEs hs.events] := rfl
  have hz : Hist.zero.enc = .agg [.imm [], .imm [], .imm []] := rfl
  unfold ackOf
  by_cases c1 : checkH hs = 0
  case neg =>
    have hR : chkR hs = .tup [encChk .zero [] [], encI (checkH hs)] := if_neg c1
    rw [hR] at h124
    rw [if_pos c1]
    generalize checkH hs = R at *
    simp only [hh, Hist.zero, encIs, encWs, encEs, encI, encB, encChk, List.map_nil] at h124
    simp -implicitDefEqProofs [fnA, c76, hh, hz, encIs, encWs, encEs, encSs, encI, h124, c1]
  rw [if_neg (by simp [c1])]
  have hR : chkR hs = .tup [encChk hs (tlI hs.events) (tlA hs.events), encI 0] := if_pos c1
  rw [hR] at h124
  have hr := (checkH_zero hs).1 c1
  simp only [hh, encIs, encWs, encEs, encSs, encI, encB, encChk] at h124
  by_cases c2 : k < 0 ∨ (hs.writes.length : Int) ≤ k
  · rw [if_pos c2]
    by_cases c20 : k < 0
    · simp -implicitDefEqProofs [fnA, c76, hh, hz, encIs, encWs, encEs, encSs, encI, h124, c20]
    · have c21 : (hs.writes.length : Int) ≤ k := by omega
      simp -implicitDefEqProofs [fnA, c76, hh, hz, encIs, encWs, encEs, encSs, encI, h124, c20, c21]
  rw [if_neg c2]
  have c20 : ¬ k < 0 := by omega
  have c21 : ¬ (hs.writes.length : Int) ≤ k := by omega
  obtain ⟨n, rfl⟩ := Int.eq_ofNat_of_zero_le (by omega : 0 ≤ k)
  have hn : n < hs.writes.length := by omega
  have hlt : (n : Int) < ((tlA hs.events).length : Int) := by rw [tlA_len, hr.all]; omega
  have hget : (tlA hs.events)[n]? = some (atE hs.events ⟨1, (n : Nat)⟩) := getD_range (by rw [hr.all]; exact hn)
  generalize htl : tlA hs.events = tl at *
  by_cases c3 : 0 ≤ atE hs.events ⟨1, (n : Nat)⟩
  · rw [if_pos c3]
    simp -implicitDefEqProofs [fnA, c76, hh, hz, encIs, encWs, encEs, encSs, encI, h124, c20, c21, c3, hlt, hget, hn]
  rw [if_neg c3]
  rw [c76_eq]
  simp -implicitDefEqProofs [fnA, c76_cut, hh, hz, encIs, encWs, encEs, encSs, encI, h124, c20, c21, c3, hlt, hget, hn]
  refine Ends.mono (tail76_run H I J N M hs n hx hN hz1 hz2 h137 h227 h184 h161 1 1 _ _ (by simp) (by simp) (by simp [argEnv, encI]) (by simp [hh, encIs, encWs, encEs]) (by simp)) ?_
  rintro ⟨x, e', h'⟩ ⟨rfl, g5, g4, a, b, c, g7, ga, gb, gc⟩
  simp only at g5 g4 g7 ga gb gc
  have fa := fzRow_all (k := 1) (L := hs.sizes.map encI) rfl (all_map (by simp [encI]) _)
  have fb := fzRow_all (k := 3) (L := hs.writes.map Wr.enc) rfl (all_map Wr.pure _)
  have fc := fzRow_all (k := 2) (L := (hs.events ++ [Evt.mk 1 n]).map Evt.enc) rfl (all_map Evt.pure _)
  rw [map_norm (f := encI) (by simp [encI])] at fa
  rw [map_norm Wr.norm] at fb
  rw [map_norm Evt.norm] at fc
  obtain ⟨va, rfl, ga⟩ := ga
  obtain ⟨vc, rfl, gc⟩ := gc
  simp only [List.map_append, List.map_cons, List.map_nil, List.length_append, List.length_map, List.length_cons, List.length_nil, Nat.reduceAdd] at ga gb gc fa fb fc
  rcases gb with ⟨rfl, gb⟩ | ⟨vb, rfl, gb⟩
  · simp -implicitDefEqProofs [g4, g5, g7, Hist.enc, encIs, encWs, encEs, encI, fa, fc, ga, gb, gc]
  · simp -implicitDefEqProofs [g4, g5, g7, Hist.enc, encIs, encWs, encEs, encI, fa, fb, fc, ga, gb, gc]
end Go.Proofs.Ytihljollfbogeaa
