/- Runs: a history repeated from the empty one. No condition. -/
import Derived.Test.YtihljollfbogeaaD14
import Derived.Test.YtihljollfbogeaaL78
import Derived.Test.YtihljollfbogeaaB38
set_option linter.unusedSimpArgs false
set_option maxHeartbeats 1000000
namespace Go.Proofs.Ytihljollfbogeaa
open Go Go.RowKit
attribute [local simp] run_skip run_ret run_exit run_seq run_block run_reg thn_norm thn_toNorm thn_ret thn_exit endB_norm endB_toNorm endB_ret endB_exit regA_nil regA_cons putA_some putA_none insA_plain opA COp.ev pu dl dl0 appD nameOf nameOr_ptr nameOr_ref nameOr_mp nameOr_nl nameOr_full nameOr_grown grown_zero grownH_nil hset_id toNorm putA aEval_tmp aEval_func aEval_int aEval_bool aEval_nil edst eset_same eset_ne cmp_lss cmp_leq cmp_gtr cmp_geq cmp_eql cmp_neq num_add num_sub num_mul num_rem cmp_beql cmp_bneq cmp_seql cmp_sneq ite_map ite_bind ends_some ends_none ends_ite ends_bind ends_map rnd_norm rnd_toNorm rnd_exit rnd_ret norm_encI norm_encB oLit oAppend frzD_no Blk.isDead oElems oSlice oExtract oIndexA oMk0 oConvInt oMin oMax oMapNew oMapPut oMapGet findA oNil AV.single valueA oPick oNot argEnv ressA resA tupA oNew oLoad oStore oFieldAddr oLen oIndexS asNum rowAt? hset partA AV.cells AV.storable AV.one hemp callA isMk copyA callD outA_sc outA_imm outA_agg outA_tup outA_ref outA_nl outA_full fz_sc fz_imm fz_full fz_nl fz_fn fz_agg fz_tup fz_ref fzA_sc fzA_imm fzA_full fzA_nl fzA_agg fzA_ref fz1_sc fz1_imm fz1_full fz1_nl fz1_ref fzRow_all AV.scalar AV.scalar1 evC nm nmA nm1 nm0 insA_b insA_skip run_condB isBool boolOf run_drawn endD_mk drawA_nil drawA_cons nextD_mk consE_mk putD_some putD_none insD_plain insD_b insD_skip opD COp.rd COp.wr AV.nms AV.nms1 indeps indep oMake oBuildC fillC setCellsA ofVal ofCell Value.oneCell' reshape LIM AV.pure AV.pure1 norm norm1 run_loop
def rAck (h : Hist) (n : Int) : Hist := if (ackOf h n).2 = 0 then (ackOf h n).1 else h
def rIss (h : Hist) (w : Wr) : Hist := if (issueH h w).2.2 = 0 then (issueH h w).1 else h
def rStep (ws : List Wr) (s : Hist × Nat) (x : Evt) : Hist × Nat :=
  if x.kind = 1 then (rAck s.1 x.wr, s.2) else match ws[s.2]? with | some w => (rIss s.1 w, s.2 + 1) | none => s
def rAt (ws : List Wr) (es : List Evt) (s : Hist × Nat) (i : Nat) : Hist × Nat := (es.take i).foldl (rStep ws) s
theorem rAt_zero (ws : List Wr) (es : List Evt) (s : Hist × Nat) : rAt ws es s 0 = s := by simp [rAt]
theorem rAt_succ (ws : List Wr) (es : List Evt) (s : Hist × Nat) (i : Nat) (hi : i < es.length) : rAt ws es s (i + 1) = rStep ws (rAt ws es s i) es[i] := by
  unfold rAt
  rw [List.take_add_one, List.getElem?_eq_getElem hi, List.foldl_append]; rfl
theorem loop85 (H : Hand) (I : Inl) (N : Nat) (ws : List Wr) (es : List Evt) (h0 : Hist) (hx : es.length < 1073741824) (hw : ws.length < 1073741824) (hN : es.length < N)
    (h76 : ∀ i (hi : i < es.length), H 76 [(rAt ws es (h0, 0) i).1.enc, encI es[i].wr] = some (.tup [(ackOf (rAt ws es (h0, 0) i).1 es[i].wr).1.enc, encI (ackOf (rAt ws es (h0, 0) i).1 es[i].wr).2]))
    (h74 : ∀ i w, i < es.length → ws[(rAt ws es (h0, 0) i).2]? = some w → H 74 [(rAt ws es (h0, 0) i).1.enc, w.enc] = some (.tup [(issueH (rAt ws es (h0, 0) i).1 w).1.enc, encI (issueH (rAt ws es (h0, 0) i).1 w).2.1, encI (issueH (rAt ws es (h0, 0) i).1 w).2.2]))
    (v6 v8 : Nat) (e : Env) (h : Hp) (e1 : e 1 = encWs ws) (e6 : e 6 = .ptr 518 v6 0 0) (e8 : e 8 = .ptr 520 v8 0 0) (e10 : e 10 = encI 0) (e26 : e 26 = encEs es) (e27 : e 27 = encI es.length) (e28 : e 28 = encI 0)
    (h6 : h 518 = (v6, .row 3 [.agg [.nl, .nl, .nl]])) (h8 : h 520 = (v8, .row 3 [h0.enc])) :
    Ends (iter (run H I N 1 b85_0) N (e, h)) (fun r => r.1 = .exit 0 ∧ r.2.1 6 = .ptr 518 v6 0 0 ∧ r.2.1 8 = .ptr 520 v8 0 0 ∧ r.2.2 518 = (v6, .row 3 [.agg [.nl, .nl, .nl]]) ∧ r.2.2 520 = (v8, .row 3 [(rAt ws es (h0, 0) es.length).1.enc])) := by
  refine Ends.mono (for_loop es.length (fun i s => s.1 1 = encWs ws ∧ s.1 6 = .ptr 518 v6 0 0 ∧ s.1 8 = .ptr 520 v8 0 0 ∧ s.1 10 = encI (rAt ws es (h0, 0) i).2 ∧ s.1 26 = encEs es ∧ s.1 27 = encI es.length ∧ s.1 28 = encI i ∧ s.2 518 = (v6, .row 3 [.agg [.nl, .nl, .nl]]) ∧ s.2 520 = (v8, .row 3 [(rAt ws es (h0, 0) i).1.enc]))
    (fun x s => x = .exit 0 ∧ s.1 6 = .ptr 518 v6 0 0 ∧ s.1 8 = .ptr 520 v8 0 0 ∧ s.2 518 = (v6, .row 3 [.agg [.nl, .nl, .nl]]) ∧ s.2 520 = (v8, .row 3 [(rAt ws es (h0, 0) es.length).1.enc])) ?_ ?_ hN ⟨e1, e6, e8, by rw [rAt_zero]; exact e10, e26, e27, e28, h6, by rw [rAt_zero]; exact h8⟩) (fun r hr => hr.2)
  · rintro i e h' hi ⟨g1, g6, g8, g10, g26, g27, g28, gh6, gh8⟩
    have k76 := h76 i hi
    have k74 := fun w => h74 i w hi
    rw [rAt_succ _ _ _ _ hi]
    generalize rAt ws es (h0, 0) i = s at *
    obtain ⟨⟨s1, s2, s3⟩, nx⟩ := s
    obtain ⟨⟨ek, ew⟩, hev⟩ : ∃ x, es[i] = x := ⟨_, rfl⟩
    rw [hev] at k76 ⊢
    have hlt : (i : Int) < (es.length : Int) := by omega
    have hwr : IntKind.i64.wrap ((i : Int) + 1) = (i : Int) + 1 := wrap_small (by omega) (by omega)
    simp only [encI, encWs, encEs, Hist.enc, encIs] at g1 g6 g8 g10 g26 g27 g28 gh6 gh8 k76 k74
    unfold rStep
    simp only
    by_cases c1 : ek = 1
    · subst c1
      rw [if_pos rfl]
      unfold rAck
      generalize ackOf ⟨s1, s2, s3⟩ ew = A at *
      obtain ⟨⟨a1, a2, a3⟩, ea⟩ := A
      simp only at k76 ⊢
      by_cases c2 : ea = 0
      · subst c2
        rw [if_pos rfl]
        simp -implicitDefEqProofs [b85_0, g1, g6, g8, g10, g26, g27, g28, gh6, gh8, hlt, hi, hev, hwr, k76, encI, encEs, encWs, encIs, Hist.enc, Evt.enc]
      · rw [if_neg c2]
        simp -implicitDefEqProofs [b85_0, g1, g6, g8, g10, g26, g27, g28, gh6, gh8, hlt, hi, hev, hwr, k76, c2, encI, encEs, encWs, encIs, Hist.enc, Evt.enc]
    · rw [if_neg c1]
      by_cases c3 : nx < ws.length
      · have hlt3 : (nx : Int) < (ws.length : Int) := by omega
        have hwr3 : IntKind.i64.wrap ((nx : Int) + 1) = (nx : Int) + 1 := wrap_small (by omega) (by omega)
        obtain ⟨w, hw1⟩ : ∃ x, ws[nx] = x := ⟨_, rfl⟩
        rw [List.getElem?_eq_getElem c3, hw1]
        have k := k74 w (by rw [List.getElem?_eq_getElem c3, hw1])
        unfold rIss
        simp only at k ⊢
        generalize issueH ⟨s1, s2, s3⟩ w = A at *
        obtain ⟨⟨a1, a2, a3⟩, an, ea⟩ := A
        obtain ⟨wv, wst, wd⟩ := w
        simp only [Wr.enc, encI, encSs] at k ⊢
        by_cases c2 : ea = 0
        · subst c2
          rw [if_pos rfl]
          simp -implicitDefEqProofs [b85_0, g1, g6, g8, g10, g26, g27, g28, gh6, gh8, hlt, hi, hev, hwr, hlt3, c3, hw1, hwr3, k, c1, encI, encEs, encWs, encIs, encSs, Hist.enc, Evt.enc, Wr.enc]
        · rw [if_neg c2]
          simp -implicitDefEqProofs [b85_0, g1, g6, g8, g10, g26, g27, g28, gh6, gh8, hlt, hi, hev, hwr, hlt3, c3, hw1, hwr3, k, c1, c2, encI, encEs, encWs, encIs, encSs, Hist.enc, Evt.enc, Wr.enc]
      · have hlt3 : ¬ (nx : Int) < (ws.length : Int) := by omega
        rw [List.getElem?_eq_none (by omega)]
        simp -implicitDefEqProofs [b85_0, g1, g6, g8, g10, g26, g27, g28, gh6, gh8, hlt, hi, hev, hwr, hlt3, c1, encI, encEs, encWs, encIs, Hist.enc, Evt.enc]
  · rintro e h' ⟨g1, g6, g8, g10, g26, g27, g28, gh6, gh8⟩
    simp only [encI, encWs, encEs] at g1 g6 g8 g10 g26 g27 g28
    simp -implicitDefEqProofs [b85_0, g6, g8, g26, g27, g28]
    exact ⟨gh6, gh8⟩
/-- What results from events that are repeated. -/
def rplH (sizes : List Int) (ws : List Wr) (es : List Evt) : Hist × Bool :=
  if (newH sizes).2 ≠ 0 then ((newH sizes).1, false) else ((rAt ws es ((newH sizes).1, 0) es.length).1, true)
theorem replay85_run (H : Hand) (I : Inl) (N : Nat) (sizes : List Int) (ws : List Wr) (es : List Evt) (hx : es.length < 1073741824) (hw : ws.length < 1073741824) (hN : es.length < N)
    (h53 : H 53 [encIs sizes] = some (.tup [(newH sizes).1.enc, encI (newH sizes).2]))
    (h76 : (newH sizes).2 = 0 → ∀ i (hi : i < es.length), H 76 [(rAt ws es ((newH sizes).1, 0) i).1.enc, encI es[i].wr] = some (.tup [(ackOf (rAt ws es ((newH sizes).1, 0) i).1 es[i].wr).1.enc, encI (ackOf (rAt ws es ((newH sizes).1, 0) i).1 es[i].wr).2]))
    (h74 : (newH sizes).2 = 0 → ∀ i w, i < es.length → ws[(rAt ws es ((newH sizes).1, 0) i).2]? = some w → H 74 [(rAt ws es ((newH sizes).1, 0) i).1.enc, w.enc] = some (.tup [(issueH (rAt ws es ((newH sizes).1, 0) i).1 w).1.enc, encI (issueH (rAt ws es ((newH sizes).1, 0) i).1 w).2.1, encI (issueH (rAt ws es ((newH sizes).1, 0) i).1 w).2.2])) :
    Ends (fnA H I N 1 c85 [encIs sizes, encWs ws, encEs es] hemp) (fun p => outA p = .tup [(rplH sizes ws es).1.enc, encB (rplH sizes ws es).2]) := by
  unfold rplH
  generalize newH sizes = A at *
  obtain ⟨⟨a1, a2, a3⟩, ea⟩ := A
  simp only [encIs, encI, Hist.enc] at h53
  by_cases c : ea = 0
  · subst c
    rw [if_neg (by simp)]
    have L := fun e h => loop85 H I N ws es ⟨a1, a2, a3⟩ hx hw hN (h76 rfl) (h74 rfl) 1 1 e h
    generalize (rAt ws es (⟨a1, a2, a3⟩, 0) es.length).1 = R at *
    obtain ⟨r1, r2, r3⟩ := R
    simp -implicitDefEqProofs [fnA, c85, h53, encIs, encWs, encEs, encI]
    refine Ends.mono (L _ _ (by simp [encWs, argEnv]) (by simp) (by simp) (by simp [encI]) (by simp [encEs]) (by simp [encI]) (by simp [encI]) (by simp) (by simp [Hist.enc, encIs, encWs, encEs])) ?_
    rintro ⟨x, e', h'⟩ ⟨rfl, g6, g8, gh6, gh8⟩
    simp only [Hist.enc, encIs] at g6 g8 gh6 gh8
    simp -implicitDefEqProofs [g6, g8, gh6, gh8, encB, Hist.enc, encIs, encWs, encEs]
  · rw [if_pos c]
    simp -implicitDefEqProofs [fnA, c85, h53, c, encIs, encWs, encEs, encI, encB, Hist.enc]
def stepsH (p : Hist) : Hist × Bool := if fewH p = true then rplH p.sizes p.writes p.events else (.zero, false)
theorem steps78_run (H : Hand) (I : Inl) (N q : Nat) (p : Hist) (h28 : H 28 [p.enc] = some (encB (fewH p))) (h85 : fewH p = true → H 85 [encIs p.sizes, encWs p.writes, encEs p.events] = some (.tup [(rplH p.sizes p.writes p.events).1.enc, encB (rplH p.sizes p.writes p.events).2])) :
    Ends (fnA H I N q c78 [p.enc] hemp) (fun r => outA r = .tup [(stepsH p).1.enc, encB (stepsH p).2]) := by
  unfold stepsH
  obtain ⟨R, hR⟩ : ∃ R, fewH p = R := ⟨_, rfl⟩
  rw [hR] at h28 h85 ⊢
  obtain ⟨p1, p2, p3⟩ := p
  simp only [Hist.enc, encIs, encWs, encEs, encB] at h28
  cases R
  · rw [if_neg (by simp)]
    simp -implicitDefEqProofs [fnA, c78, h28, encIs, encWs, encEs, encI, encB, Hist.enc, Hist.zero]
  · rw [if_pos rfl]
    replace h85 := h85 rfl
    simp only at h85 ⊢
    generalize rplH p1 p2 p3 = A at *
    obtain ⟨⟨a1, a2, a3⟩, ea⟩ := A
    simp only [Hist.enc, encIs, encWs, encEs, encB] at h85
    simp -implicitDefEqProofs [fnA, c78, h28, h85, encIs, encWs, encEs, encI, encB, Hist.enc]
end Go.Proofs.Ytihljollfbogeaa
