/- Runs: the history of a closed set alone. No condition. -/
import Derived.Test.YtihljollfbogeaaB35
set_option linter.unusedSimpArgs false
namespace Go.Proofs.Ytihljollfbogeaa
open Go Go.RowKit
attribute [local simp] run_skip run_ret run_exit run_seq run_block run_reg thn_norm thn_toNorm thn_ret thn_exit endB_norm endB_toNorm endB_ret endB_exit regA_nil regA_cons putA_some putA_none insA_plain opA COp.ev pu dl dl0 appD nameOf nameOr_ptr nameOr_ref nameOr_mp nameOr_nl nameOr_full nameOr_grown grown_zero grownH_nil hset_id toNorm putA aEval_tmp aEval_func aEval_int aEval_bool aEval_nil edst eset_same eset_ne cmp_lss cmp_leq cmp_gtr cmp_geq cmp_eql cmp_neq num_add num_sub num_mul num_rem cmp_beql cmp_bneq cmp_seql cmp_sneq ite_map ite_bind ends_some ends_none ends_ite ends_bind ends_map rnd_norm rnd_toNorm rnd_exit rnd_ret norm_encI norm_encB oLit oAppend frzD_no Blk.isDead oElems oSlice oExtract oIndexA oMk0 oConvInt oMin oMax oMapNew oMapPut oMapGet findA oNil AV.single valueA oPick oNot argEnv ressA resA tupA oNew oLoad oStore oFieldAddr oLen oIndexS asNum rowAt? hset partA AV.cells AV.storable AV.one hemp callA isMk copyA callD outA_sc outA_imm outA_agg outA_tup outA_ref outA_nl outA_full fz_sc fz_imm fz_full fz_nl fz_fn fz_agg fz_tup fz_ref fzA_sc fzA_imm fzA_full fzA_nl fzA_agg fzA_ref fz1_sc fz1_imm fz1_full fz1_nl fz1_ref fzRow_all AV.scalar AV.scalar1 evC nm nmA nm1 nm0 insA_b insA_skip run_condB isBool boolOf run_drawn endD_mk drawA_nil drawA_cons nextD_mk consE_mk putD_some putD_none insD_plain insD_b insD_skip opD COp.rd COp.wr AV.nms AV.nms1 indeps indep oMake oBuildC fillC setCellsA ofVal ofCell Value.oneCell' reshape LIM AV.pure AV.pure1 norm norm1 run_loop
attribute [local simp] runR_code runR_seq runR_block thnR_norm thnR_toNorm thnR_ret thnR_exit
/-- The event, numbered within the set. -/
def evIn (set : List Int) (x : Evt) : List Evt := if 0 ≤ idxI x.wr set then [⟨x.kind, idxI x.wr set⟩] else []
def restrE (set : List Int) (l : List Evt) : List Evt := l.flatMap (evIn set)
def restrictH (h : Hist) (set : List Int) : Hist × Int :=
  if checkH h ≠ 0 then (.zero, checkH h) else if anyS h.writes.length set = true then (.zero, 2) else if anyC h.events h.writes.length set = true then (.zero, 27)
  else (⟨h.sizes, set.map (wrAt h), restrE set h.events⟩, 0)
theorem restrE_snoc (set : List Int) (l : List Evt) (x : Evt) : restrE set (l ++ [x]) = restrE set l ++ evIn set x := by simp [restrE]
theorem restrE_len (set : List Int) : ∀ l : List Evt, (restrE set l).length ≤ l.length
  | [] => Nat.le_refl _
  | x :: l => by
    have := restrE_len set l
    have h1 : (evIn set x).length ≤ 1 := by unfold evIn; split <;> simp
    simp only [restrE, List.flatMap_cons, List.length_append, List.length_cons] at this ⊢
    omega
theorem loop64 (H : Hand) (I : Inl) (N : Nat) (set : List Int) (events : List Evt) (c2 a : AV) (aw : List AV) (hx : events.length < 1073741824) (hN : events.length < N) (h160 : ∀ x, H 160 [encIs set, encI x] = some (encI (idxI x set)))
    (hp : Hp) (m4 : hp 516 = (1, .row 3 [.agg [.nl, .nl, .nl]])) (m8 : hp 520 = (1, .row 3 [.agg [c2, a, .nl]])) (ga : Gw hp 560 3 a aw) (e : Env)
    (e1 : e 1 = encIs set) (e4 : e 4 = .ptr 516 1 0 0) (e8 : e 8 = .ptr 520 1 0 0) (e51 : e 51 = encEs events) (e52 : e 52 = encI events.length) (e53 : e 53 = encI 0) :
    Ends (iter (run H I N 1 b64_0) N (e, hp)) (fun r => r.1 = .exit 3 ∧ r.2.1 4 = .ptr 516 1 0 0 ∧ r.2.1 8 = .ptr 520 1 0 0 ∧ r.2.2 516 = (1, .row 3 [.agg [.nl, .nl, .nl]]) ∧ Gw r.2.2 560 3 a aw ∧ ∃ b, r.2.2 520 = (1, .row 3 [.agg [c2, a, b]]) ∧ Gw r.2.2 582 2 b ((restrE set events).map Evt.enc)) := by
  refine Ends.mono (for_loop events.length (fun i s => s.1 1 = encIs set ∧ s.1 4 = .ptr 516 1 0 0 ∧ s.1 8 = .ptr 520 1 0 0 ∧ s.1 51 = encEs events ∧ s.1 52 = encI events.length ∧ s.1 53 = encI i ∧ s.2 516 = (1, .row 3 [.agg [.nl, .nl, .nl]]) ∧ Gw s.2 560 3 a aw ∧ ∃ b, s.2 520 = (1, .row 3 [.agg [c2, a, b]]) ∧ Gw s.2 582 2 b ((restrE set (events.take i)).map Evt.enc))
    (fun x s => x = .exit 3 ∧ s.1 4 = .ptr 516 1 0 0 ∧ s.1 8 = .ptr 520 1 0 0 ∧ s.2 516 = (1, .row 3 [.agg [.nl, .nl, .nl]]) ∧ Gw s.2 560 3 a aw ∧ ∃ b, s.2 520 = (1, .row 3 [.agg [c2, a, b]]) ∧ Gw s.2 582 2 b ((restrE set events).map Evt.enc)) ?_ ?_ hN ⟨e1, e4, e8, e51, e52, e53, m4, ga, .nl, m8, Gw.nil⟩) (fun r hr => hr.2)
  · rintro i e h' hi ⟨g1, g4, g8, g51, g52, g53, gh, gaa, b, gb, gw⟩
    simp only [encI, encIs, encEs] at g1 g4 g8 g51 g52 g53 gh gaa gb gw
    have hlt : (i : Int) < (events.length : Int) := by omega
    have hw : IntKind.i64.wrap ((i : Int) + 1) = (i : Int) + 1 := wrap_small (by omega) (by omega)
    have k := h160 events[i].wr
    have htake : (restrE set (events.take (i + 1))).map Evt.enc = (restrE set (events.take i)).map Evt.enc ++ (evIn set events[i]).map Evt.enc := by
      rw [List.take_add_one, List.getElem?_eq_getElem hi]
      show (restrE set (events.take i ++ [events[i]])).map Evt.enc = _
      rw [restrE_snoc, List.map_append]
    have hlen := restrE_len set (events.take i)
    have hlen2 : (events.take i).length = i := by simp; omega
    have happ := gw.grow (x := (Evt.mk events[i].kind (idxI events[i].wr set)).enc) (Evt.ok _) (by simp [LIM]; omega)
    have hnm := gw.name
    rw [htake]
    simp only [encI, encIs, Evt.enc] at k happ
    have hone := gw.one
    generalize (restrE set (events.take i)).map Evt.enc = L at gw happ ⊢
    by_cases c1 : 0 ≤ idxI events[i].wr set
    · have hev : (evIn set events[i]).map Evt.enc = [.agg [.sc (.int .i64 events[i].kind), .sc (.int .i64 (idxI events[i].wr set))]] := by simp [evIn, c1, Evt.enc, encI]
      rw [hev]
      rcases gw with ⟨rfl, rfl⟩ | ⟨v, rfl, hrow⟩
      · simp -implicitDefEqProofs [b64_0, g1, g4, g8, g51, g52, g53, gh, gb, hlt, hi, hw, k, c1, happ, encI, encIs, encEs, Evt.enc, -oAppend]
        exact ⟨gaa.same (by simp), Gw.mk (by simp) (by simp)⟩
      · simp -implicitDefEqProofs [b64_0, g1, g4, g8, g51, g52, g53, gh, gb, hlt, hi, hw, k, c1, happ, encI, encIs, encEs, Evt.enc, -oAppend]
        exact ⟨gaa.same (by simp), Gw.mk (by simp) (by simp)⟩
    · have hev : (evIn set events[i]).map Evt.enc = [] := by simp [evIn, c1]
      rw [hev, List.append_nil]
      simp -implicitDefEqProofs [b64_0, g1, g4, g8, g51, g52, g53, gh, gb, hlt, hi, hw, k, c1, encI, encIs, encEs, Evt.enc]
      exact ⟨gaa.same (by simp), gw.same (by simp)⟩
  · rintro e h' ⟨g1, g4, g8, g51, g52, g53, gh, gaa, b, gb, gw⟩
    simp only [encI, encIs, encEs] at g1 g4 g8 g51 g52 g53 gh gaa gb gw
    rw [List.take_length] at gw
    simp -implicitDefEqProofs [b64_0, g4, g8, g52, g53, gh, gb, encI]
    exact ⟨gaa, gw⟩
theorem restrict64_run (H : Hand) (I : Inl) (N : Nat) (h : Hist) (set : List Int) (hset' : set.length < 1073741824) (hx : h.events.length < 1073741824) (hN : h.events.length < N) (h160 : ∀ x, H 160 [encIs set, encI x] = some (encI (idxI x set)))
    (h124 : H 124 [h.enc] = some (chkR h)) (h127 : checkH h = 0 → H 127 [encChk h (tlI h.events) (tlA h.events), encIs set] = some (encB (!anyS h.writes.length set)))
    (h128 : checkH h = 0 → anyS h.writes.length set = false → H 128 [encChk h (tlI h.events) (tlA h.events), encIs set] = some (encB (!anyC h.events h.writes.length set)))
    (h156 : checkH h = 0 → H 156 [encChk h (tlI h.events) (tlA h.events), encIs set] = some (memF h (tlI h.events) (tlA h.events) set))
    (hs : anyS h.writes.length set = false → ∀ n ∈ set, 0 ≤ n ∧ n < (h.writes.length : Int))
    (h161 : ∀ g : Hist, g.sizes = h.sizes → g.writes.length ≤ set.length → g.events.length ≤ h.events.length → (∀ w ∈ g.writes, ∃ n, w = wrAt h n) → H 161 [g.enc] = some g.enc) :
    Ends (fnR its220 H I N 1 c64 [h.enc, encIs set] hemp) (fun p => outA p = .tup [(restrictH h set).1.enc, encI (restrictH h set).2]) := by
  have hh : h.enc = .agg [encIs h.sizes, encWs h.writes, encEs h.events] := rfl
  have hz : Hist.zero.enc = .agg [.imm [], .imm [], .imm []] := rfl
  unfold restrictH
  by_cases c1 : checkH h = 0
  case neg =>
    have hR : chkR h = .tup [encChk .zero [] [], encI (checkH h)] := if_neg c1
    rw [hR] at h124
    rw [if_pos c1]
    generalize checkH h = R at *
    simp only [hh, Hist.zero, encIs, encWs, encEs, encI, encB, encChk, List.map_nil] at h124
    simp -implicitDefEqProofs [fnR, c64, hh, hz, encIs, encWs, encEs, encI, h124, c1]
  rw [if_neg (by simp [c1])]
  have hR : chkR h = .tup [encChk h (tlI h.events) (tlA h.events), encI 0] := if_pos c1
  rw [hR] at h124
  replace h127 := h127 c1
  replace h128 := h128 c1
  replace h156 := h156 c1
  cases c2 : anyS h.writes.length set with
  | true =>
    rw [c2] at h127
    simp only [hh, encIs, encWs, encEs, encI, encB, encChk] at h124 h127
    simp -implicitDefEqProofs [fnR, c64, hh, hz, encIs, encWs, encEs, encI, h124, h127]
  | false =>
  rw [c2] at h127
  replace h128 := h128 c2
  replace hs := hs c2
  cases c3 : anyC h.events h.writes.length set with
  | true =>
    rw [c3] at h128
    simp only [hh, encIs, encWs, encEs, encI, encB, encChk] at h124 h127 h128
    simp -implicitDefEqProofs [fnR, c64, hh, hz, encIs, encWs, encEs, encI, h124, h127, h128]
  | false =>
  rw [c3] at h128
  have hits := its220_eq h (tlI h.events) (tlA h.events) set hs (by omega)
  simp only [hh, encIs, encWs, encEs, encI, encB, encChk, memF] at h124 h127 h128 h156 hits
  simp -implicitDefEqProofs [fnR, c64, hh, encIs, encWs, encEs, encI, h124, h127, h128, h156]
  have hlen : (yields h set).length = set.length := by simp [yields]
  have hget : ∀ k vs, (yields h set)[k]? = some vs → ∃ n, set[k]? = some n ∧ vs = [encI n, (wrAt h n).enc] := fun k vs hk => by
    unfold yields at hk
    rw [List.getElem?_map] at hk
    obtain ⟨n, h1, rfl⟩ := Option.map_eq_some_iff.1 hk
    exact ⟨n, h1, rfl⟩
  refine runR_rng (vss := yields h set) (by simpa using hits) ?_
  refine Ends.mono (rounds_ind (fun k hp => hp 514 = (1, .row 3 [h.enc]) ∧ hp 516 = (1, .row 3 [.agg [.nl, .nl, .nl]]) ∧ ∃ a, hp 520 = (1, .row 3 [.agg [encIs h.sizes, a, .nl]]) ∧ Gw hp 560 3 a (((set.take k).map (wrAt h)).map Wr.enc))
    (fun x hp => x = .norm ∧ hp 514 = (1, .row 3 [h.enc]) ∧ hp 516 = (1, .row 3 [.agg [.nl, .nl, .nl]]) ∧ ∃ a, hp 520 = (1, .row 3 [.agg [encIs h.sizes, a, .nl]]) ∧ Gw hp 560 3 a ((set.map (wrAt h)).map Wr.enc)) (yields h set) 0 _ ?_ ?_ ?_) ?_
  · rintro k vs hp hk ⟨j1, j2, a, j3, gw⟩
    obtain ⟨n, hn, rfl⟩ := hget k vs hk
    simp only [Nat.zero_add] at j1 j2 j3 gw ⊢
    have hk' := (List.getElem?_eq_some_iff.1 hn).1
    have htake : ((set.take (k + 1)).map (wrAt h)).map Wr.enc = ((set.take k).map (wrAt h)).map Wr.enc ++ [(wrAt h n).enc] := by
      rw [List.take_add_one, hn, List.map_append, List.map_append]; rfl
    have hlk : ((set.take k).map (wrAt h)).length = k := by simp; omega
    have happ := gw.grow (wrAt h n).ok (by simp [LIM]; omega)
    have hnm := gw.name
    rw [htake]
    refine ⟨rfl, ?_⟩
    simp only [Wr.enc, encI] at happ
    generalize ((set.take k).map (wrAt h)).map Wr.enc = L at gw happ ⊢
    rcases gw with ⟨rfl, rfl⟩ | ⟨v, rfl, hrow⟩
    · simp -implicitDefEqProofs [esets, j1, j2, j3, happ, encI, encIs, Wr.enc, -oAppend]
      exact Gw.mk (by simp) (by simp)
    · simp -implicitDefEqProofs [esets, j1, j2, j3, happ, encI, encIs, Wr.enc, -oAppend]
      exact Gw.mk (by simp) (by simp)
  · rintro hp ⟨j1, j2, a, j3, gw⟩
    rw [hlen, Nat.zero_add, List.take_length] at gw
    exact ⟨rfl, j1, j2, a, j3, gw⟩
  · exact ⟨by simp [hh, encIs, encWs, encEs], by simp, .nl, by simp [encIs], Gw.nil⟩
  rintro ⟨x, hp⟩ ⟨rfl, j1, j2, a, j3, gw⟩
  simp only at j1 j2 j3 gw
  simp only [hh, encIs, encWs, encEs] at j1 j3
  simp -implicitDefEqProofs [j1]
  refine Ends.mono (loop64 H I N set h.events (encIs h.sizes) a _ hx hN h160 hp j2 j3 gw _ (by simp [encIs]) (by simp) (by simp) (by simp [encEs]) (by simp [encI]) (by simp [encI])) ?_
  rintro ⟨x, e', h2⟩ ⟨rfl, k4, k8, k16, ka, b, k20, kb⟩
  simp only at k4 k8 k16 ka k20 kb
  have q1 := ka.fz1 (all_map Wr.pure _)
  have q2 := kb.fz1 (all_map Evt.pure _)
  rw [map_norm Wr.norm] at q1
  rw [map_norm Evt.norm] at q2
  have q3 := h161 ⟨h.sizes, set.map (wrAt h), restrE set h.events⟩ rfl (by simp) (restrE_len _ _) (fun w hw => by
    obtain ⟨n, _, rfl⟩ := List.mem_map.1 hw; exact ⟨n, rfl⟩)
  simp only [Hist.enc, encIs, encWs, encEs] at q3 k20
  generalize hLW : (set.map (wrAt h)).map Wr.enc = LW at ka q1 q3
  generalize hLE : (restrE set h.events).map Evt.enc = LE at kb q2 q3
  have hres : (Hist.mk h.sizes (set.map (wrAt h)) (restrE set h.events)).enc = .agg [.imm (h.sizes.map encI), .imm LW, .imm LE] := by simp only [Hist.enc, encIs, encWs, encEs, hLW, hLE]
  rw [hres]
  rcases ka with ⟨rfl, rfl⟩ | ⟨va, rfl, ka'⟩ <;> rcases kb with ⟨rfl, rfl⟩ | ⟨vb, rfl, kb'⟩
  · simp -implicitDefEqProofs [k4, k8, k16, k20, q3]
  · simp -implicitDefEqProofs [k4, k8, k16, k20, q2, q3, thaw, thawA, thaw1, nm1, nm0, kills, thawH, thawB, -fz1_ref]
  · simp -implicitDefEqProofs [k4, k8, k16, k20, q1, q3, thaw, thawA, thaw1, nm1, nm0, kills, thawH, thawB, -fz1_ref]
  · simp -implicitDefEqProofs [k4, k8, k16, k20, q1, q2, q3, thaw, thawA, thaw1, nm1, nm0, kills, thawH, thawB, -fz1_ref]
end Go.Proofs.Ytihljollfbogeaa
