/- Runs: closed sets, the reference's. No condition. -/
import Derived.Test.YtihljollfbogeaaB31
set_option linter.unusedSimpArgs false
namespace Go.Proofs.Ytihljollfbogeaa
open Go Go.RowKit
attribute [local simp] run_skip run_ret run_exit run_seq run_block run_reg thn_norm thn_toNorm thn_ret thn_exit endB_norm endB_toNorm endB_ret endB_exit regA_nil regA_cons putA_some putA_none insA_plain opA COp.ev pu dl dl0 appD nameOf nameOr_ptr nameOr_ref nameOr_mp nameOr_nl nameOr_full nameOr_grown grown_zero grownH_nil hset_id toNorm putA aEval_tmp aEval_func aEval_int aEval_bool aEval_nil edst eset_same eset_ne cmp_lss cmp_leq cmp_gtr cmp_geq cmp_eql cmp_neq num_add num_sub num_mul num_rem cmp_beql cmp_bneq cmp_seql cmp_sneq ite_map ite_bind ends_some ends_none ends_ite ends_bind ends_map rnd_norm rnd_toNorm rnd_exit rnd_ret norm_encI norm_encB oLit oAppend frzD_no Blk.isDead oElems oSlice oExtract oIndexA oMk0 oConvInt oMin oMax oMapNew oMapPut oMapGet findA oNil AV.single valueA oPick oNot argEnv ressA resA tupA oNew oLoad oStore oFieldAddr oLen oIndexS asNum rowAt? hset partA AV.cells AV.storable AV.one hemp callA isMk copyA callD outA_sc outA_imm outA_agg outA_tup outA_ref outA_nl outA_full fz_sc fz_imm fz_full fz_nl fz_fn fz_agg fz_tup fz_ref fzA_sc fzA_imm fzA_full fzA_nl fzA_agg fzA_ref fz1_sc fz1_imm fz1_full fz1_nl fz1_ref fzRow_all AV.scalar AV.scalar1 evC nm nmA nm1 nm0 insA_b insA_skip run_condB isBool boolOf run_drawn endD_mk drawA_nil drawA_cons nextD_mk consE_mk putD_some putD_none insD_plain insD_b insD_skip opD COp.rd COp.wr AV.nms AV.nms1 indeps indep oMake oBuildC fillC setCellsA ofVal ofCell Value.oneCell' reshape LIM AV.pure AV.pure1 norm norm1 run_loop
def badA (l : List Evt) (set : List Int) (b : Int) (a : Nat) : Bool := beforeE l a b && !decide ((a : Int) ∈ set)
def badC (l : List Evt) (nw : Nat) (set : List Int) (i : Nat) : Bool := (List.range nw).any (badA l set (set.getD i 0))
def anyC (l : List Evt) (nw : Nat) (set : List Int) : Bool := (List.range set.length).any (badC l nw set)
theorem loop130I (H : Hand) (I : Inl) (N q : Nat) (h : Hist) (set : List Int) (b : Nat) (hb : b < set.length) (hx : h.writes.length < 1073741824) (hN : h.writes.length < N) (h126 : ∀ a b, H 126 [h.enc, encI a, encI b] = some (encB (beforeE h.events a b))) (h198 : ∀ n, H 198 [encIs set, encI n] = some (encB (decide (n ∈ set))))
    (m v : Nat) (hp : Hp) (hm : hp m = (v, .row 3 [h.enc])) (e : Env) (e1 : e 1 = encIs set) (e2 : e 2 = .ptr m v 0 0) (e5 : e 5 = encI b) (e6 : e 6 = encI 0) :
    Ends (iter (run H I N q b130_0) N (e, hp)) (fun r => r.2.2 = hp ∧ r.2.1 1 = encIs set ∧ r.2.1 2 = .ptr m v 0 0 ∧ r.2.1 5 = encI b ∧ ((r.1 = .exit 2 ∧ badC h.events h.writes.length set b = false) ∨ (r.1 = .ret ∧ r.2.1 4 = encB false ∧ badC h.events h.writes.length set b = true))) := by
  refine Ends.mono (for_loop h.writes.length (fun i s => s.1 1 = encIs set ∧ s.1 2 = .ptr m v 0 0 ∧ s.1 5 = encI b ∧ s.1 6 = encI i ∧ s.2 = hp ∧ ∀ j, j < i → badA h.events set (set.getD b 0) j = false)
    (fun y s => s.2 = hp ∧ s.1 1 = encIs set ∧ s.1 2 = .ptr m v 0 0 ∧ s.1 5 = encI b ∧ ((y = .exit 2 ∧ badC h.events h.writes.length set b = false) ∨ (y = .ret ∧ s.1 4 = encB false ∧ badC h.events h.writes.length set b = true))) ?_ ?_ hN ⟨e1, e2, e5, e6, rfl, fun j hj => absurd hj (by omega)⟩) (fun r hr => hr.2)
  · rintro i e h' hi ⟨g1, g2, g5, g6, rfl, gj⟩
    obtain ⟨sizes, writes, events⟩ := h
    simp only at hi h126 hx
    have hlt : (i : Int) < (writes.length : Int) := by omega
    have hlb : (b : Int) < (set.length : Int) := by omega
    have hw : IntKind.i64.wrap ((i : Int) + 1) = (i : Int) + 1 := wrap_small (by omega) (by omega)
    have hgb : set.getD b 0 = set[b] := by simp [hb]
    have hbad := fun hb' : badA events set (set.getD b 0) i = true => anyN_true (f := badA events set (set.getD b 0)) hi hb'
    have k1 := h126 (i : Int) set[b]
    have k2 := h198 (i : Int)
    simp only [Hist.enc, encI, encIs, encWs, encEs, encB] at g1 g2 g5 g6 hm k1 k2
    cases c1 : beforeE events (i : Int) set[b] with
    | false =>
      rw [c1] at k1
      have hf : badA events set (set.getD b 0) i = false := by simp only [badA, hgb, c1]; rfl
      simp -implicitDefEqProofs [b130_0, g1, g2, g5, g6, hm, hlt, hlb, hi, hb, k1, hw, encI, encIs]
      simp only [hgb] at gj hf
      exact uptoB gj hf
    | true =>
      rw [c1] at k1
      cases c2 : decide ((i : Int) ∈ set) with
      | false =>
        rw [c2] at k2
        have : badC events writes.length set b = true := hbad (by simp only [badA, hgb, c1, c2]; rfl)
        simp -implicitDefEqProofs [b130_0, g1, g2, g5, g6, hm, hlt, hlb, hi, hb, k1, k2, encI, encIs, encB, this]
      | true =>
        rw [c2] at k2
        have hf : badA events set (set.getD b 0) i = false := by simp only [badA, hgb, c1, c2]; rfl
        simp -implicitDefEqProofs [b130_0, g1, g2, g5, g6, hm, hlt, hlb, hi, hb, k1, k2, hw, encI, encIs]
        simp only [hgb] at gj hf
        exact uptoB gj hf
  · rintro e h' ⟨g1, g2, g5, g6, rfl, gj⟩
    obtain ⟨sizes, writes, events⟩ := h
    simp only [Hist.enc, encI, encIs, encWs, encEs, encB] at g1 g2 g5 g6 hm gj
    have : badC events writes.length set b = false := anyN_false gj
    simp -implicitDefEqProofs [b130_0, g1, g2, g5, g6, hm, encI, encIs, this]
theorem loop130O (H : Hand) (I : Inl) (N q : Nat) (h : Hist) (set : List Int) (hx1 : set.length < 1073741824) (hN1 : set.length < N) (hx : h.writes.length < 1073741824) (hN : h.writes.length < N) (h126 : ∀ a b, H 126 [h.enc, encI a, encI b] = some (encB (beforeE h.events a b))) (h198 : ∀ n, H 198 [encIs set, encI n] = some (encB (decide (n ∈ set))))
    (m v : Nat) (hp : Hp) (hm : hp m = (v, .row 3 [h.enc])) (e : Env) (e1 : e 1 = encIs set) (e2 : e 2 = .ptr m v 0 0) (e5 : e 5 = encI 0) :
    Ends (iter (run H I N q b130_1) N (e, hp)) (fun r => r.2.2 = hp ∧ ((r.1 = .exit 0 ∧ anyC h.events h.writes.length set = false) ∨ (r.1 = .ret ∧ r.2.1 4 = encB false ∧ anyC h.events h.writes.length set = true))) := by
  refine Ends.mono (for_loop set.length (fun i s => s.1 1 = encIs set ∧ s.1 2 = .ptr m v 0 0 ∧ s.1 5 = encI i ∧ s.2 = hp ∧ ∀ j, j < i → badC h.events h.writes.length set j = false)
    (fun y s => s.2 = hp ∧ ((y = .exit 0 ∧ anyC h.events h.writes.length set = false) ∨ (y = .ret ∧ s.1 4 = encB false ∧ anyC h.events h.writes.length set = true))) ?_ ?_ hN1 ⟨e1, e2, e5, rfl, fun j hj => absurd hj (by omega)⟩) (fun r hr => hr.2)
  · rintro i e h' hi ⟨g1, g2, g5, rfl, gj⟩
    simp only [encI, encIs] at g1 g2 g5
    have hlt : (i : Int) < (set.length : Int) := by omega
    have hw : IntKind.i64.wrap ((i : Int) + 1) = (i : Int) + 1 := wrap_small (by omega) (by omega)
    simp -implicitDefEqProofs [b130_1, g1, g2, g5, hlt]
    refine Ends.mono (loop130I H I N q h set i hi hx hN h126 h198 m v _ hm _ (by simp [g1, encIs]) (by simp [g2]) (by simp [g5, encI]) (by simp [encI])) ?_
    rintro ⟨y, e', h2⟩ ⟨rfl, k1, k2, k5, k⟩
    simp only [encI, encIs] at k1 k2 k5 k
    rcases k with ⟨rfl, k6⟩ | ⟨rfl, k6, k7⟩
    · simp -implicitDefEqProofs [k1, k2, k5, hw, encI, encIs]
      exact uptoB gj k6
    · have : anyC h.events h.writes.length set = true := anyN_true hi k7
      simp -implicitDefEqProofs [k6, this, encB]
  · rintro e h' ⟨g1, g2, g5, rfl, gj⟩
    simp only [encI, encIs] at g1 g2 g5
    have : anyC h.events h.writes.length set = false := anyN_false gj
    simp -implicitDefEqProofs [b130_1, g1, g5, this]
theorem closed130_run (H : Hand) (I : Inl) (N q : Nat) (h : Hist) (set : List Int) (hx1 : set.length < 1073741824) (hN1 : set.length < N) (hx : h.writes.length < 1073741824) (hN : h.writes.length < N) (h126 : ∀ a b, H 126 [h.enc, encI a, encI b] = some (encB (beforeE h.events a b))) (h198 : ∀ n, H 198 [encIs set, encI n] = some (encB (decide (n ∈ set)))) :
    Ends (fnA H I N q c130 [h.enc, encIs set] hemp) (fun p => outA p = encB (!anyC h.events h.writes.length set)) := by
  have he : h.enc = .agg [encIs h.sizes, encWs h.writes, encEs h.events] := rfl
  simp -implicitDefEqProofs [fnA, c130, encIs, he, encWs, encEs]
  refine Ends.mono (loop130O H I N q h set hx1 hN1 hx hN h126 h198 (q * 512 + 2) 1 _ (by simp [he, encIs, encWs, encEs]) _ (by simp [encIs]) (by simp) (by simp [encI])) ?_
  rintro ⟨y, e', h'⟩ ⟨k0, k⟩
  simp only at k0 k
  subst k0
  rcases k with ⟨rfl, k1⟩ | ⟨rfl, k1, k2⟩
  · simp -implicitDefEqProofs [k1, encB]
  · simp only [encB] at k1
    simp -implicitDefEqProofs [k1, k2, encB]
def closedH (h : Hist) (set : List Int) : Bool := decide (checkH h = 0) && (!anyS h.writes.length set && !anyC h.events h.writes.length set)
theorem closed33_run (H : Hand) (I : Inl) (N q : Nat) (h : Hist) (set : List Int) (h57 : H 57 [h.enc] = some (encI (checkH h))) (h129 : H 129 [encIs set, encI h.writes.length] = some (encB (!anyS h.writes.length set))) (h130 : H 130 [h.enc, encIs set] = some (encB (!anyC h.events h.writes.length set))) :
    Ends (fnA H I N q c33 [h.enc, encIs set] hemp) (fun p => outA p = encB (closedH h set)) := by
  unfold closedH
  obtain ⟨R, hR⟩ : ∃ R, checkH h = R := ⟨_, rfl⟩
  rw [hR] at h57 ⊢
  obtain ⟨sizes, writes, events⟩ := h
  simp only at h129 h130 ⊢
  generalize anyS writes.length set = b1 at h129 ⊢
  generalize anyC events writes.length set = b2 at h130 ⊢
  simp only [Hist.enc, encIs, encWs, encEs, encI, encB] at h57 h129 h130
  by_cases c1 : R = 0
  · subst c1
    cases b1 <;> simp -implicitDefEqProofs [fnA, c33, Hist.enc, encIs, encWs, encEs, encI, encB, h57, h129, h130]
  · simp -implicitDefEqProofs [fnA, c33, Hist.enc, encIs, encWs, encEs, encI, encB, h57, c1]
theorem closed32_run (H : Hand) (I : Inl) (N q : Nat) (h : Hist) (set : List Int) (h124 : H 124 [h.enc] = some (chkR h)) (h127 : checkH h = 0 → H 127 [encChk h (tlI h.events) (tlA h.events), encIs set] = some (encB (!anyS h.writes.length set)))
    (h128 : checkH h = 0 → anyS h.writes.length set = false → H 128 [encChk h (tlI h.events) (tlA h.events), encIs set] = some (encB (!anyC h.events h.writes.length set))) :
    Ends (fnA H I N q c32 [h.enc, encIs set] hemp) (fun p => outA p = encB (closedH h set)) := by
  unfold closedH
  by_cases c1 : checkH h = 0
  · have hR : chkR h = .tup [encChk h (tlI h.events) (tlA h.events), encI 0] := if_pos c1
    rw [hR] at h124
    have k1 := h127 c1
    have k2 := h128 c1
    obtain ⟨sizes, writes, events⟩ := h
    simp only [c1, decide_true, Bool.true_and]
    simp only at k1 k2 ⊢
    generalize anyS writes.length set = b1 at k1 k2 ⊢
    generalize anyC events writes.length set = b2 at k2 ⊢
    cases b1 with
    | true =>
      simp only [Hist.enc, encIs, encWs, encEs, encI, encB, encChk] at h124 k1
      simp -implicitDefEqProofs [fnA, c32, Hist.enc, encIs, encWs, encEs, encI, encB, h124, k1]
    | false =>
      replace k2 := k2 rfl
      simp only [Hist.enc, encIs, encWs, encEs, encI, encB, encChk] at h124 k1 k2
      simp -implicitDefEqProofs [fnA, c32, Hist.enc, encIs, encWs, encEs, encI, encB, h124, k1, k2]
  · have hR : chkR h = .tup [encChk .zero [] [], encI (checkH h)] := if_neg c1
    rw [hR] at h124
    simp only [c1, decide_false, Bool.false_and]
    generalize checkH h = R at *
    obtain ⟨sizes, writes, events⟩ := h
    simp only [Hist.enc, Hist.zero, encIs, encWs, encEs, encI, encB, encChk, List.map_nil] at h124
    simp -implicitDefEqProofs [fnA, c32, Hist.enc, encIs, encWs, encEs, encI, encB, h124, c1]
end Go.Proofs.Ytihljollfbogeaa
