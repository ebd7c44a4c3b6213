/- Runs: an event of a history. No condition. -/
import Derived.Test.YtihljollfbogeaaB27
set_option linter.unusedSimpArgs false
namespace Go.Proofs.Ytihljollfbogeaa
open Go Go.RowKit
attribute [local simp] run_skip run_ret run_exit run_seq run_block run_reg thn_norm thn_toNorm thn_ret thn_exit endB_norm endB_toNorm endB_ret endB_exit regA_nil regA_cons putA_some putA_none insA_plain opA COp.ev pu dl dl0 appD nameOf nameOr_ptr nameOr_ref nameOr_mp nameOr_nl nameOr_full nameOr_grown grown_zero grownH_nil hset_id toNorm putA aEval_tmp aEval_func aEval_int aEval_bool aEval_nil edst eset_same eset_ne cmp_lss cmp_leq cmp_gtr cmp_geq cmp_eql cmp_neq num_add num_sub num_mul num_rem cmp_beql cmp_bneq cmp_seql cmp_sneq ite_map ite_bind ends_some ends_none ends_ite ends_bind ends_map rnd_norm rnd_toNorm rnd_exit rnd_ret norm_encI norm_encB oLit oAppend frzD_no Blk.isDead oElems oSlice oExtract oIndexA oMk0 oConvInt oMin oMax oMapNew oMapPut oMapGet findA oNil AV.single valueA oPick oNot argEnv ressA resA tupA oNew oLoad oStore oFieldAddr oLen oIndexS asNum rowAt? hset partA AV.cells AV.storable AV.one hemp callA isMk copyA callD outA_sc outA_imm outA_agg outA_tup outA_ref outA_nl outA_full fz_sc fz_imm fz_full fz_nl fz_fn fz_agg fz_tup fz_ref fzA_sc fzA_imm fzA_full fzA_nl fzA_agg fzA_ref fz1_sc fz1_imm fz1_full fz1_nl fz1_ref fzRow_all AV.scalar AV.scalar1 evC nm nmA nm1 nm0 insA_b insA_skip run_condB isBool boolOf run_drawn endD_mk drawA_nil drawA_cons nextD_mk consE_mk putD_some putD_none insD_plain insD_b insD_skip opD COp.rd COp.wr AV.nms AV.nms1 indeps indep oMake oBuildC fillC setCellsA ofVal ofCell Value.oneCell' reshape LIM AV.pure AV.pure1 norm norm1 run_loop
theorem frzD_off (q d : Nat) (hd : d % 512 ≠ 29) (r : Option (AV × Dl)) : frzD (q * 512 + d) r = r := frzD_no (by omega) r
def evI (nw : Int) (I A : List Int) (x : Evt) : Int :=
  if x.kind = 0 then (if x.wr ≠ (I.length : Int) ∨ nw ≤ x.wr then 3 else 0)
  else if x.kind = 1 then (if x.wr < 0 ∨ (I.length : Int) ≤ x.wr then 7 else if 0 ≤ A.getD x.wr.toNat 0 then 8 else 0) else 3
def evT (at' : Int) (I A : List Int) (x : Evt) : List Int × List Int := if x.kind = 0 then (I ++ [at'], A ++ [-1]) else (I, A.set x.wr.toNat at')
theorem ev212_run (H : Hand) (I : Inl) (N q : Nat) (at' : Int) (x : Evt) (c0 c2 aI aA : AV) (ws : List AV) (Is As : List Int) (m v : Nat) (h : Hp) (hm : h m = (v, .row 5 [.agg [c0, .imm ws, c2, aI, aA]])) (hmq : m / 512 ≠ q) (hl : As.length = Is.length) (hL : Is.length < 1073741824)
    (gI : Gw h (q * 512 + 40) 1 aI (Is.map encI)) (gA : Gw h (q * 512 + 47) 1 aA (As.map encI)) :
    Ends (fnA H I N q c212 [.ptr m v 0 0, encI at', x.enc] h) (fun p => p.1 = encI (evI ws.length Is As x) ∧ ∃ aI' aA', p.2 m = (v, .row 5 [.agg [c0, .imm ws, c2, aI', aA']]) ∧
      (evI ws.length Is As x = 0 → Gw p.2 (q * 512 + 40) 1 aI' ((evT at' Is As x).1.map encI) ∧ Gw p.2 (q * 512 + 47) 1 aA' ((evT at' Is As x).2.map encI)) ∧ ∀ k, k ≠ m → k / 512 ≠ q → p.2 k = h k) := by
  obtain ⟨kind, wr⟩ := x
  have hf : ∀ (k o : Nat), o < 512 → k / 512 ≠ q → ¬ k = q * 512 + o := fun k o ho hk e => hk (by omega)
  have f1 := hf m 5 (by omega) hmq
  have f2 := hf m 40 (by omega) hmq
  have f3 := hf m 47 (by omega) hmq
  have f4 := hf m 39 (by omega) hmq
  have f5 := hf m 46 (by omega) hmq
  have lI := gI.len
  have lA := gA.len
  simp only [List.length_map] at lI lA
  have nI := gI.name
  have nA := gA.name
  have hfs : ∀ k, ¬ k / 512 = q → ¬ k = q * 512 + 5 ∧ ¬ k = q * 512 + 39 ∧ ¬ k = q * 512 + 40 ∧ ¬ k = q * 512 + 46 ∧ ¬ k = q * 512 + 47 := fun k hk => ⟨hf k 5 (by omega) hk, hf k 39 (by omega) hk, hf k 40 (by omega) hk, hf k 46 (by omega) hk, hf k 47 (by omega) hk⟩
  have g2 : ¬ q * 512 + 40 = m := fun e => f2 e.symm
  have g3 : ¬ q * 512 + 47 = m := fun e => f3 e.symm
  have g4 : ¬ q * 512 + 39 = m := fun e => f4 e.symm
  have g5 : ¬ q * 512 + 46 = m := fun e => f5 e.symm
  by_cases k0 : kind = 0
  · subst k0
    by_cases k1 : wr = (Is.length : Int)
    · subst k1
      by_cases k2 : (ws.length : Int) ≤ (Is.length : Int)
      · simp -implicitDefEqProofs [fnA, c212, d212_0, p212_0, Evt.enc, encI, hm, f1, lI, k2, evI, oLen_imm, -oLen]
        intro k hk hq; simp [hk, hfs k hq]
      · have pI := gI.grow (encI_ok at') (by simp [LIM]; omega)
        have pA := gA.grow (encI_ok (-1)) (by simp [LIM]; omega)
        simp only [encI] at pI pA
        have hz1 : ∀ r, frzD (q * 512 + 40) r = r := frzD_off q 40 (by decide)
        have hz2 : ∀ r, frzD (q * 512 + 47) r = r := frzD_off q 47 (by decide)
        simp -implicitDefEqProofs [fnA, c212, d212_0, p212_0, Evt.enc, encI, hm, hz1, hz2, f1, f2, f3, f4, f5, g2, g3, g4, g5, lI, k2, evI, evT, oLen_imm, -oLen, -oAppend, pI, pA, nI, nA]
        refine ⟨_, _, ⟨rfl, rfl⟩, ⟨Gw.mk ?_ ?_, Gw.mk ?_ ?_⟩, ?_⟩
        · simp [g2]
        · simp
        · simp [g3]
        · simp
        · intro k hk hq; simp [hk, hfs k hq]
    · simp -implicitDefEqProofs [fnA, c212, d212_0, p212_0, Evt.enc, encI, hm, f1, lI, k1, evI, oLen_imm, -oLen]
      intro k hk hq; simp [hk, hfs k hq]
  · by_cases k1 : kind = 1
    · subst k1
      by_cases k2 : wr < 0
      · simp -implicitDefEqProofs [fnA, c212, d212_1, p212_1, Evt.enc, encI, hm, f1, lI, k2, evI, oLen_imm, -oLen]
        intro k hk hq; simp [hk, hfs k hq]
      · by_cases k3 : (Is.length : Int) ≤ wr
        · simp -implicitDefEqProofs [fnA, c212, d212_1, p212_1, Evt.enc, encI, hm, f1, lI, k2, k3, evI, oLen_imm, -oLen]
          intro k hk hq; simp [hk, hfs k hq]
        · obtain ⟨w, rfl⟩ := Int.eq_ofNat_of_zero_le (show 0 ≤ wr by omega)
          have hw : w < As.length := by omega
          have hw' : (w : Int) < (As.length : Int) := by omega
          rcases gA with ⟨rfl, e0⟩ | ⟨vA, rfl, gA⟩
          · have : As = [] := List.map_eq_nil_iff.1 e0
            subst this; simp at hw
          have hg : As.getD w 0 = As[w] := by simp [hw]
          by_cases k4 : 0 ≤ As[w]
          · simp -implicitDefEqProofs [fnA, c212, d212_1, p212_1, d212_2, p212_2, Evt.enc, encI, hm, f1, lI, k2, k3, evI, oLen_imm, -oLen, gA, hw, hw', hg, k4, -List.getD_eq_getElem?_getD]
            intro k hk hq; simp [hk, hfs k hq]
          · simp -implicitDefEqProofs [fnA, c212, d212_1, p212_1, d212_2, p212_2, Evt.enc, encI, hm, f1, f3, g3, lI, k2, k3, evI, evT, oLen_imm, -oLen, gA, hw, hw', hg, k4, -List.getD_eq_getElem?_getD]
            refine ⟨_, _, ⟨rfl, rfl⟩, ⟨gI.same ?_, Gw.mk ?_ ?_⟩, ?_⟩
            · simp
            · simp [encI]
            · simp
            · intro k hk hq; simp [hk, hfs k hq]
    · simp -implicitDefEqProofs [fnA, c212, Evt.enc, encI, k0, k1, evI, hm, f1]
      intro k hk hq; simp [hfs k hq]
def encChk (h : Hist) (Is As : List Int) : AV := .agg [encIs h.sizes, encWs h.writes, encEs h.events, encIs Is, encIs As]
def chkR (h : Hist) : AV := if checkH h = 0 then .tup [encChk h (tlI h.events) (tlA h.events), encI 0] else .tup [encChk .zero [] [], encI (checkH h)]
def zero5 : AV := .agg [.nl, .nl, .nl, .nl, .nl]
theorem upto_zero {f : Nat → Int} {i : Nat} (h : ∀ j, j < i → f j = 0) (hi : f i = 0) : ∀ j, j < i + 1 → f j = 0 := fun j hj => by
  by_cases e : j = i
  · subst e; exact hi
  · exact h j (by omega)
theorem loop124W (H : Hand) (I : Inl) (N : Nat) (im a1 a4 : AV) (sizes : List Int) (ws : List Wr) (hx : ws.length < 1073741824) (hN : ws.length < N) (h183 : ∀ w ∈ ws, H 183 [im, w.enc] = some (encI (fitsE sizes w))) (hfz : ∀ h, fz h im = im) (v2 : Nat) (h : Hp) (h2 : h 514 = (v2, .row 5 [zero5])) (e : Env)
    (e1 : e 1 = a1) (e4 : e 4 = a4) (e5 : e 5 = im) (e2 : e 2 = .ptr 514 v2 0 0) (e31 : e 31 = encWs ws) (e32 : e 32 = encI ws.length) (e33 : e 33 = encI 0) :
    Ends (iter (run H I N 1 b124_1) N (e, h)) (fun r => r.2.1 1 = a1 ∧ r.2.1 2 = .ptr 514 v2 0 0 ∧ r.2.1 4 = a4 ∧ (∀ m, m ≠ 520 → r.2.2 m = h m) ∧ ((r.1 = .exit 0 ∧ firstN ws.length (wrN sizes ws) = 0) ∨ (r.1 = .ret ∧ r.2.1 3 = encI (firstN ws.length (wrN sizes ws)) ∧ firstN ws.length (wrN sizes ws) ≠ 0))) := by
  refine Ends.mono (for_loop ws.length (fun i s => s.1 1 = a1 ∧ s.1 4 = a4 ∧ s.1 5 = im ∧ s.1 2 = .ptr 514 v2 0 0 ∧ s.1 31 = encWs ws ∧ s.1 32 = encI ws.length ∧ s.1 33 = encI i ∧ (∀ m, m ≠ 520 → s.2 m = h m) ∧ ∀ j, j < i → wrN sizes ws j = 0)
    (fun x s => s.1 1 = a1 ∧ s.1 2 = .ptr 514 v2 0 0 ∧ s.1 4 = a4 ∧ (∀ m, m ≠ 520 → s.2 m = h m) ∧ ((x = .exit 0 ∧ firstN ws.length (wrN sizes ws) = 0) ∨ (x = .ret ∧ s.1 3 = encI (firstN ws.length (wrN sizes ws)) ∧ firstN ws.length (wrN sizes ws) ≠ 0))) ?_ ?_ hN ⟨e1, e4, e5, e2, e31, e32, e33, fun _ _ => rfl, fun j hj => absurd hj (by omega)⟩) (fun r hr => hr.2)
  · rintro i e h' hi ⟨g1, g4, g5, g2, g31, g32, g33, gh, gj⟩
    simp only [encI, encWs] at g1 g4 g5 g2 g31 g32 g33 gh
    have hlt : (i : Int) < (ws.length : Int) := by omega
    have hw : IntKind.i64.wrap ((i : Int) + 1) = (i : Int) + 1 := wrap_small (by omega) (by omega)
    have k1 := h183 ws[i] (List.getElem_mem hi)
    have hN0 : wrN sizes ws i = fitsE sizes ws[i] := by unfold wrN; rw [List.getElem?_eq_getElem hi]
    have h5 : h' 514 = (v2, .row 5 [zero5]) := (gh 514 (by decide)).trans h2
    simp only [zero5] at h5 h2
    simp only [Wr.enc, encI] at k1
    by_cases c1 : fitsE sizes ws[i] = 0
    · rw [c1] at k1 hN0
      simp -implicitDefEqProofs [b124_1, g1, g4, g5, g2, g31, g32, g33, hlt, hi, k1, hfz, hw, encI, encWs, Wr.enc]
      refine ⟨?_, upto_zero gj hN0⟩
      intro m hm; simp [hm, gh]
    · have hf := firstN_at hi gj (by rw [hN0]; exact c1)
      rw [hN0] at hf
      simp -implicitDefEqProofs [b124_1, g1, g4, g5, g2, g31, g32, g33, hlt, hi, k1, hfz, hw, encI, encWs, Wr.enc, c1, h5, hf]
      intro m hm
      by_cases e1 : m = 514
      · subst e1; simp [h2]
      · simp [hm, e1, gh]
  · rintro e h' ⟨g1, g4, g5, g2, g31, g32, g33, gh, gj⟩
    simp only [encI, encWs] at g1 g4 g5 g2 g31 g32 g33 gh
    have := firstN_zero.2 gj
    simp -implicitDefEqProofs [b124_1, g1, g2, g4, g31, g32, g33, encI, this]
    exact gh
/-- The state of the checked history after some events. -/
structure ChkSt (nw : Nat) (c0 c1 c2 : AV) (v4 : Nat) (pre : List Evt) (h : Hp) : Prop where
  ok : EvOk nw pre
  cell : ∃ aI aA, h 516 = (v4, .row 5 [.agg [c0, c1, c2, aI, aA]]) ∧ Gw h 290344 1 aI ((tlI pre).map encI) ∧ Gw h 290351 1 aA ((tlA pre).map encI)
theorem evE_I {nw : Nat} {l : List Evt} {x : Evt} (h : EvOk nw l) : evE nw l x = evI nw (tlI l) (tlA l) x := evE_tl h
theorem evT_tl {nw : Nat} {l : List Evt} {x : Evt} (h : EvOk nw l) (hx : evE nw l x = 0) : evT l.length (tlI l) (tlA l) x = (tlI (l ++ [x]), tlA (l ++ [x])) := by
  unfold evT
  rcases evE_zero hx with ⟨h1, h2, h3⟩ | ⟨h1, h2, h3⟩
  · rw [if_pos h1, (tlI_snoc0 h h1 h2).1, (tlI_snoc0 h h1 h2).2]
  · have := (h.issued.2 x.wr).1 h2
    rw [if_neg (by omega), (tlA_snoc1 h h1 h3 this.1).1, (tlA_snoc1 h h1 h3 this.1).2]
theorem cnt_le (l : List Evt) : cnt l ≤ l.length := List.countP_le_length
theorem loop124E (H : Hand) (I J : Inl) (N : Nat) (a1 c0 c2 : AV) (ws : List Wr) (evs : List Evt) (hx : evs.length < 1073741824) (hN : evs.length < N) (v2 v4 : Nat)
    (h212 : ∀ (l : List AV) (h : Hp), H 212 l = none ∧ I 567 212 l h = fnA H J N 567 c212 l h) (h : Hp) (h2 : h 514 = (v2, .row 5 [zero5])) (st : ChkSt ws.length c0 (encWs ws) c2 v4 [] h) (e : Env)
    (e1 : e 1 = a1) (e2 : e 2 = .ptr 514 v2 0 0) (e4 : e 4 = .ptr 516 v4 0 0) (e46 : e 46 = encEs evs) (e47 : e 47 = encI evs.length) (e48 : e 48 = encI 0) :
    Ends (iter (run H I N 1 b124_0) N (e, h)) (fun r => r.2.1 1 = a1 ∧ r.2.1 2 = .ptr 514 v2 0 0 ∧ r.2.1 4 = .ptr 516 v4 0 0 ∧ (∀ m, m < 600 → m ≠ 516 → m ≠ 523 → r.2.2 m = h m) ∧ ((r.1 = .exit 2 ∧ firstN evs.length (evN ws.length evs) = 0 ∧ ChkSt ws.length c0 (encWs ws) c2 v4 evs r.2.2) ∨ (r.1 = .ret ∧ r.2.1 3 = encI (firstN evs.length (evN ws.length evs)) ∧ firstN evs.length (evN ws.length evs) ≠ 0))) := by
  refine Ends.mono (for_loop evs.length (fun i s => s.1 1 = a1 ∧ s.1 2 = .ptr 514 v2 0 0 ∧ s.1 4 = .ptr 516 v4 0 0 ∧ s.1 46 = encEs evs ∧ s.1 47 = encI evs.length ∧ s.1 48 = encI i ∧ (∀ m, m < 600 → m ≠ 516 → m ≠ 523 → s.2 m = h m) ∧ ChkSt ws.length c0 (encWs ws) c2 v4 (evs.take i) s.2 ∧ ∀ j, j < i → evN ws.length evs j = 0)
    (fun x s => s.1 1 = a1 ∧ s.1 2 = .ptr 514 v2 0 0 ∧ s.1 4 = .ptr 516 v4 0 0 ∧ (∀ m, m < 600 → m ≠ 516 → m ≠ 523 → s.2 m = h m) ∧ ((x = .exit 2 ∧ firstN evs.length (evN ws.length evs) = 0 ∧ ChkSt ws.length c0 (encWs ws) c2 v4 evs s.2) ∨ (x = .ret ∧ s.1 3 = encI (firstN evs.length (evN ws.length evs)) ∧ firstN evs.length (evN ws.length evs) ≠ 0))) ?_ ?_ hN ⟨e1, e2, e4, e46, e47, e48, fun _ _ _ _ => rfl, by simpa using st, fun j hj => absurd hj (by omega)⟩) (fun r hr => hr.2)
  · rintro i e h' hi ⟨g1, g2, g4, g46, g47, g48, gh, gs, gj⟩
    simp only [encI, encEs] at g1 g2 g4 g46 g47 g48 gh gs
    have hlt : (i : Int) < (evs.length : Int) := by omega
    have hw : IntKind.i64.wrap ((i : Int) + 1) = (i : Int) + 1 := wrap_small (by omega) (by omega)
    obtain ⟨s1, aI, aA, s2, s3, s4⟩ := gs
    have hN0 : evN ws.length evs i = evE ws.length (evs.take i) evs[i] := by unfold evN; rw [List.getElem?_eq_getElem hi]
    have hlen : (evs.take i).length = i := by simp; omega
    have hcl := cnt_le (evs.take i)
    have h5 : h' 514 = (v2, .row 5 [zero5]) := (gh 514 (by decide) (by decide) (by decide)).trans h2
    simp only [zero5] at h5 h2
    have hb : ∀ (b b' : Nat × Blk) (k : Nat), k ≠ 523 → hset (hset h' 523 b) 523 b' k = h' k := fun b b' k hk => by simp [hset, hk]
    have k212 := fun (b b' : Nat × Blk) => ev212_run H J N 567 i evs[i] c0 c2 aI aA (ws.map Wr.enc) (tlI (evs.take i)) (tlA (evs.take i)) 516 v4 (hset (hset h' 523 b) 523 b') (by rw [hb _ _ _ (by decide)]; exact s2) (by decide) (by rw [tlA_len, tlI_len]) (by rw [tlI_len]; omega) (s3.same (hb _ _ _ (by decide))) (s4.same (hb _ _ _ (by decide)))
    have n212 := fun l => (h212 l h').1
    simp -implicitDefEqProofs [b124_0, g1, g2, g4, g46, g47, g48, hlt, hi, n212, encI, encEs, Evt.enc]
    rw [(h212 _ _).2]
    refine Ends.mono (k212 _ _) ?_
    rintro ⟨r, h3⟩ ⟨rfl, aI', aA', t1, t2, t3⟩
    have hE : evI ((ws.map Wr.enc).length : Int) (tlI (evs.take i)) (tlA (evs.take i)) evs[i] = evE ws.length (evs.take i) evs[i] := by rw [List.length_map]; exact (evE_I s1).symm
    rw [hE] at t2
    have hE' : evI (ws.length : Int) (tlI (evs.take i)) (tlA (evs.take i)) evs[i] = evE ws.length (evs.take i) evs[i] := (evE_I s1).symm
    simp only at t1 t2 t3
    have hm : ∀ m, m < 600 → m ≠ 516 → m ≠ 523 → h3 m = h m := fun m h1 h2 h3' => by
      rw [t3 m h2 (by omega), hb _ _ _ h3', gh m h1 h2 h3']
    have h35 : h3 514 = (v2, .row 5 [zero5]) := (hm 514 (by decide) (by decide) (by decide)).trans h2
    simp only [zero5] at h35
    by_cases c1 : evE ws.length (evs.take i) evs[i] = 0
    · obtain ⟨t4, t5⟩ := t2 c1
      have hT := evT_tl s1 c1
      rw [hlen] at hT
      rw [hT] at t4 t5
      have htake : evs.take (i + 1) = evs.take i ++ [evs[i]] := by rw [List.take_add_one, List.getElem?_eq_getElem hi]; rfl
      simp -implicitDefEqProofs [hE', c1, hw, encI, g1, g2, g4, g46, g47, g48, encEs]
      exact ⟨hm, ⟨by rw [htake]; exact .snoc _ _ s1 c1, aI', aA', t1, by rw [htake]; exact t4, by rw [htake]; exact t5⟩, upto_zero gj (hN0.trans c1)⟩
    · have hf := firstN_at hi gj (by rw [hN0]; exact c1)
      rw [hN0] at hf
      simp -implicitDefEqProofs [hE', c1, hw, encI, g1, g2, g4, g46, g47, encEs, h35, hf]
      intro m h1 h2' h3'
      by_cases e1 : m = 514
      · subst e1; simp [h2]
      · simp [e1, hm m h1 h2' h3']
  · rintro e h' ⟨g1, g2, g4, g46, g47, g48, gh, gs, gj⟩
    simp only [encI, encEs] at g1 g2 g4 g46 g47 g48 gh gs
    have := firstN_zero.2 gj
    rw [List.take_length] at gs
    simp -implicitDefEqProofs [b124_0, g1, g2, g4, g46, g47, g48, encI, this]
    exact ⟨gh, gs⟩
theorem check124_run (H : Hand) (I J : Inl) (N : Nat) (hs : Hist) (hx1 : hs.writes.length < 1073741824) (hN1 : hs.writes.length < N) (hx2 : hs.events.length < 1073741824) (hN2 : hs.events.length < N)
    (h144 : H 144 [encIs hs.sizes] = some (.tup [encIm (newIm hs.sizes).1, encI (newIm hs.sizes).2])) (h183 : sizesE hs.sizes = 0 → ∀ w ∈ hs.writes, H 183 [encIm (newIm hs.sizes).1, w.enc] = some (encI (fitsE hs.sizes w)))
    (h212 : ∀ (l : List AV) (h : Hp), H 212 l = none ∧ I 567 212 l h = fnA H J N 567 c212 l h) : Ends (fnA H I N 1 c124 [hs.enc] hemp) (fun p => outA p = chkR hs) := by
  obtain ⟨sizes, writes, events⟩ := hs
  simp only at hx1 hN1 hx2 hN2 h144 h183
  have hR : ∀ e, e ≠ 0 → checkH ⟨sizes, writes, events⟩ = e → chkR ⟨sizes, writes, events⟩ = .tup [encChk .zero [] [], encI e] := fun e h1 h2 => by unfold chkR; rw [if_neg (by rw [h2]; exact h1), h2]
  by_cases c1 : sizesE sizes = 0
  case neg =>
    have h2 : (newIm sizes).2 = sizesE sizes := by unfold newIm; rw [if_pos c1]
    rw [h2] at h144
    rw [hR _ c1 (by unfold checkH; rw [if_pos c1])]
    simp only [encIs, encIm, encI] at h144
    simp -implicitDefEqProofs [fnA, c124, Hist.enc, encIs, encWs, encEs, encI, h144, c1, encChk, Hist.zero]
  have h2 : newIm sizes = ((newIm sizes).1, 0) := by unfold newIm; rw [if_neg (by simp [c1])]
  obtain ⟨im, him⟩ : ∃ im, (newIm sizes).1 = im := ⟨_, rfl⟩
  rw [h2] at h144
  simp only [him] at h144 h183
  have hfz : ∀ h, fz h (encIm im) = encIm im := fun h => rfl
  obtain ⟨a, ha⟩ : ∃ a, encIm im = a := ⟨_, rfl⟩
  have hal : a.isLow = true := by rw [← ha]; rfl
  have h183' := h183 c1
  simp only [ha] at h144 h183' hfz
  by_cases c2 : 4096 < (writes.length : Int)
  · rw [hR 6 (by decide) (by unfold checkH; simp only; rw [if_neg (by simp [c1]), if_pos c2])]
    simp only [encIs, encI] at h144
    simp -implicitDefEqProofs [fnA, c124, Hist.enc, encIs, encWs, encEs, encI, h144, c2, encChk, Hist.zero]
  simp only [encIs, encI] at h144
  simp -implicitDefEqProofs [fnA, c124, Hist.enc, encIs, encWs, encEs, encI, h144, c2]
  refine Ends.mono (loop124W H I N a (.ptr 513 1 0 0) (.ptr 516 1 0 0) sizes writes hx1 hN1 h183' hfz 1 _ (by simp [zero5]) _ (by simp) (by simp) (by simp) (by simp) (by simp [encWs]) (by simp [encI]) (by simp [encI])) ?_
  rintro ⟨x, e', h'⟩ ⟨k1, k2, k4, kh, kk⟩
  simp only at k1 k2 k4 kh kk
  have h13 := kh 513 (by decide)
  have h14 := kh 514 (by decide)
  have h16 := kh 516 (by decide)
  simp [hset] at h13 h14 h16
  rcases kk with ⟨rfl, k5⟩ | ⟨rfl, k5, k6⟩
  case inr =>
    rw [hR _ k6 (by unfold checkH; simp only; rw [if_neg (by simp [c1]), if_neg c2, if_pos k6])]
    simp only [encI] at k5
    simp -implicitDefEqProofs [k1, k2, k5, h14, encChk, Hist.zero, encIs, encWs, encEs, encI]
  simp -implicitDefEqProofs [k1, h13]
  refine Ends.mono (loop124E H I J N (.ptr 513 1 0 0) (.imm (sizes.map encI)) (.imm (events.map Evt.enc)) writes events hx2 hN2 1 1 h212 h' (by rw [h14]; rfl) ⟨.nil, .nl, .nl, by rw [h16]; rfl, Gw.nil, Gw.nil⟩ _ (by simp [k1]) (by simp [k2]) (by simp [k4]) (by simp [encEs]) (by simp [encI]) (by simp [encI])) ?_
  rintro ⟨x, e2, h2'⟩ ⟨m1, m2, m4, mh, mm⟩
  simp only at m1 m2 m4 mh mm
  replace h13 := (mh 513 (by decide) (by decide) (by decide)).trans h13
  replace h14 := (mh 514 (by decide) (by decide) (by decide)).trans h14
  rcases mm with ⟨rfl, m5, m6, aI, aA, m7, m8, m9⟩ | ⟨rfl, m5, m6⟩
  case inr =>
    rw [hR _ m6 (by unfold checkH; simp only; rw [if_neg (by simp [c1]), if_neg c2, if_neg (by simp [k5]), if_pos m6])]
    simp only [encI] at m5
    simp -implicitDefEqProofs [m1, m2, m5, h14, encChk, Hist.zero, encIs, encWs, encEs, encI]
  have l8 := m8.len
  simp only [List.length_map, tlI_len] at l8
  by_cases c3 : (cnt events : Int) < (writes.length : Int)
  · rw [hR 3 (by decide) (by unfold checkH; simp only; rw [if_neg (by simp [c1]), if_neg c2, if_neg (by simp [k5]), if_neg (by simp [m5]), if_pos c3])]
    simp -implicitDefEqProofs [m1, m2, m4, m7, l8, c3, h13, h14, oLen_imm, -oLen, encChk, Hist.zero, encIs, encWs, encEs, encI]
  · have hz : checkH ⟨sizes, writes, events⟩ = 0 := by unfold checkH; simp only; rw [if_neg (by simp [c1]), if_neg c2, if_neg (by simp [k5]), if_neg (by simp [m5]), if_neg c3]
    have hR2 : chkR ⟨sizes, writes, events⟩ = .tup [encChk ⟨sizes, writes, events⟩ (tlI events) (tlA events), encI 0] := if_pos hz
    rw [hR2]
    have z8 : ∀ b, fz1 (hset h2' 514 b) aI = .imm ((tlI events).map encI) := fun b => by rw [(m8.same (h' := hset h2' 514 b) (by simp [hset])).fz1 (encI_pure _), encI_norm]
    have z9 : ∀ b, fz1 (hset h2' 514 b) aA = .imm ((tlA events).map encI) := fun b => by rw [(m9.same (h' := hset h2' 514 b) (by simp [hset])).fz1 (encI_pure _), encI_norm]
    have o8 := m8.one
    have o9 := m9.one
    simp -implicitDefEqProofs [m1, m2, m4, m7, l8, c3, h13, h14, oLen_imm, -oLen, encChk, encIs, encWs, encEs, encI, o8, o9, -AV.one, z8, z9]
    simp [AV.one]
end Go.Proofs.Ytihljollfbogeaa
