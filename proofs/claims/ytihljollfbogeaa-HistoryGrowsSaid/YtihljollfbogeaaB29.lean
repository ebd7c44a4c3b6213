/- Runs: the reference's Check of a history. No condition. -/
import Derived.Test.YtihljollfbogeaaB28
set_option linter.unusedSimpArgs false
namespace Go.Proofs.Ytihljollfbogeaa
open Go Go.RowKit
attribute [local simp] run_skip run_ret run_exit run_seq run_block run_reg thn_norm thn_toNorm thn_ret thn_exit endB_norm endB_toNorm endB_ret endB_exit regA_nil regA_cons putA_some putA_none insA_plain opA COp.ev pu dl dl0 appD nameOf nameOr_ptr nameOr_ref nameOr_mp nameOr_nl nameOr_full nameOr_grown grown_zero grownH_nil hset_id toNorm putA aEval_tmp aEval_func aEval_int aEval_bool aEval_nil edst eset_same eset_ne cmp_lss cmp_leq cmp_gtr cmp_geq cmp_eql cmp_neq num_add num_sub num_mul num_rem cmp_beql cmp_bneq cmp_seql cmp_sneq ite_map ite_bind ends_some ends_none ends_ite ends_bind ends_map rnd_norm rnd_toNorm rnd_exit rnd_ret norm_encI norm_encB oLit oAppend frzD_no Blk.isDead oElems oSlice oExtract oIndexA oMk0 oConvInt oMin oMax oMapNew oMapPut oMapGet findA oNil AV.single valueA oPick oNot argEnv ressA resA tupA oNew oLoad oStore oFieldAddr oLen oIndexS asNum rowAt? hset partA AV.cells AV.storable AV.one hemp callA isMk copyA callD outA_sc outA_imm outA_agg outA_tup outA_ref outA_nl outA_full fz_sc fz_imm fz_full fz_nl fz_fn fz_agg fz_tup fz_ref fzA_sc fzA_imm fzA_full fzA_nl fzA_agg fzA_ref fz1_sc fz1_imm fz1_full fz1_nl fz1_ref fzRow_all AV.scalar AV.scalar1 evC nm nmA nm1 nm0 insA_b insA_skip run_condB isBool boolOf run_drawn endD_mk drawA_nil drawA_cons nextD_mk consE_mk putD_some putD_none insD_plain insD_b insD_skip opD COp.rd COp.wr AV.nms AV.nms1 indeps indep oMake oBuildC fillC setCellsA ofVal ofCell Value.oneCell' reshape LIM AV.pure AV.pure1 norm norm1 run_loop
theorem ack132_run (H : Hand) (I : Inl) (N q : Nat) (n : Int) : Ends (fnA H I N q c132 [encI n] hemp) (fun p => outA p = (Evt.mk 1 n).enc) := by
  simp -implicitDefEqProofs [fnA, c132, encI, Evt.enc]
theorem issue149_run (H : Hand) (I : Inl) (N q : Nat) (n : Int) : Ends (fnA H I N q c149 [encI n] hemp) (fun p => outA p = (Evt.mk 0 n).enc) := by
  simp -implicitDefEqProofs [fnA, c149, encI, Evt.enc]
theorem cmp_evt (bl : Bool) (x y : Evt) : oBinC .eql bl (some 2) (.agg [.sc (.int .i64 x.kind), .sc (.int .i64 x.wr)]) (.agg [.sc (.int .i64 y.kind), .sc (.int .i64 y.wr)]) = some (.sc (.bool (decide (x = y)))) := by
  obtain ⟨a, b⟩ := x
  obtain ⟨c, d⟩ := y
  by_cases h1 : a = c <;> by_cases h2 : b = d <;> simp [oBinC, sameCells, h1, h2]
theorem loop131 (H : Hand) (I : Inl) (N q : Nat) (l : List Evt) (x : Evt) (hx : l.length < 1073741824) (hN : l.length < N) (m v : Nat) (h : Hp) (hm : h m = (v, .row 2 [x.enc])) (e : Env) (e0 : e 0 = encEs l) (e3 : e 3 = .ptr m v 0 0) (e5 : e 5 = encI 0) :
    Ends (iter (run H I N q b131_0) N (e, h)) (fun r => r.2.2 = h ∧ ((r.1 = .exit 0 ∧ atE l x = -1) ∨ (r.1 = .ret ∧ r.2.1 4 = encI (atE l x)))) := by
  refine Ends.mono (for_loop l.length (fun i s => s.1 0 = encEs l ∧ s.1 3 = .ptr m v 0 0 ∧ s.1 5 = encI i ∧ s.2 = h ∧ ∀ j (hj : j < l.length), j < i → decide (l[j] = x) = false) (fun y s => s.2 = h ∧ ((y = .exit 0 ∧ atE l x = -1) ∨ (y = .ret ∧ s.1 4 = encI (atE l x)))) ?_ ?_ hN ⟨e0, e3, e5, rfl, fun j _ hj => absurd hj (by omega)⟩) (fun r hr => hr.2)
  · rintro i e h' hi ⟨g0, g3, g5, rfl, gj⟩
    simp only [encI, encEs] at g0 g3 g5
    simp only [Evt.enc, encI] at hm
    have hlt : (i : Int) < (l.length : Int) := by omega
    have hw : IntKind.i64.wrap ((i : Int) + 1) = (i : Int) + 1 := wrap_small (by omega) (by omega)
    by_cases c1 : l[i] = x
    · have : atE l x = i := idxP_at hi gj (by simp [c1])
      simp -implicitDefEqProofs [b131_0, d131_0, p131_0, g0, g3, g5, hm, hlt, hi, cmp_evt, c1, encI, this, Evt.enc]
    · simp -implicitDefEqProofs [b131_0, d131_0, p131_0, g0, g3, g5, hm, hlt, hi, cmp_evt, c1, encI, encEs, hw, Evt.enc]
      intro j hj hji
      by_cases e1 : j = i
      · subst e1; exact c1
      · simpa using gj j hj (by omega)
  · rintro e h' ⟨g0, g3, g5, rfl, gj⟩
    simp only [encI, encEs] at g0 g3 g5
    have : atE l x = -1 := idxP_none fun j hj => gj j hj hj
    simp -implicitDefEqProofs [b131_0, d131_0, p131_0, g0, g3, g5, encI, this]
theorem at131_run (H : Hand) (I : Inl) (N q : Nat) (l : List Evt) (x : Evt) (hx : l.length < 1073741824) (hN : l.length < N) : Ends (fnA H I N q c131 [encEs l, x.enc] hemp) (fun p => outA p = encI (atE l x)) := by
  simp -implicitDefEqProofs [fnA, c131, Evt.enc, encI, encEs]
  refine Ends.mono (loop131 H I N q l x hx hN (q * 512 + 3) 1 _ (by simp [Evt.enc, encI]) _ (by simp [encEs]) (by simp) (by simp [encI])) ?_
  rintro ⟨y, e', h'⟩ ⟨k0, k⟩
  simp only at k0 k
  subst k0
  rcases k with ⟨rfl, k1⟩ | ⟨rfl, k1⟩
  · simp -implicitDefEqProofs [k1]
  · simp only [encI] at k1
    simp -implicitDefEqProofs [k1]
theorem loop57W (H : Hand) (I : Inl) (N : Nat) (sizes : List Int) (ws : List Wr) (c2 : AV) (hx : ws.length < 1073741824) (hN : ws.length < N) (h148 : ∀ w ∈ ws, H 148 [encIs sizes, w.enc] = some (encI (fitsE sizes w))) (v : Nat) (h : Hp) (hm : h 513 = (v, .row 3 [.agg [encIs sizes, encWs ws, c2]])) (e : Env) (e1 : e 1 = .ptr 513 v 0 0) (e4 : e 4 = encI 0) :
    Ends (iter (run H I N 1 b57_1) N (e, h)) (fun r => r.2.2 = h ∧ r.2.1 1 = .ptr 513 v 0 0 ∧ ((r.1 = .exit 0 ∧ firstN ws.length (wrN sizes ws) = 0) ∨ (r.1 = .ret ∧ r.2.1 2 = encI (firstN ws.length (wrN sizes ws)) ∧ firstN ws.length (wrN sizes ws) ≠ 0))) := by
  refine Ends.mono (for_loop ws.length (fun i s => s.1 1 = .ptr 513 v 0 0 ∧ s.1 4 = encI i ∧ s.2 = h ∧ ∀ j, j < i → wrN sizes ws j = 0)
    (fun x s => s.2 = h ∧ s.1 1 = .ptr 513 v 0 0 ∧ ((x = .exit 0 ∧ firstN ws.length (wrN sizes ws) = 0) ∨ (x = .ret ∧ s.1 2 = encI (firstN ws.length (wrN sizes ws)) ∧ firstN ws.length (wrN sizes ws) ≠ 0))) ?_ ?_ hN ⟨e1, e4, rfl, fun j hj => absurd hj (by omega)⟩) (fun r hr => hr.2)
  · rintro i e h' hi ⟨g1, g4, rfl, gj⟩
    simp only [encI, encWs, encIs] at g1 g4 hm
    have hlt : (i : Int) < (ws.length : Int) := by omega
    have hw : IntKind.i64.wrap ((i : Int) + 1) = (i : Int) + 1 := wrap_small (by omega) (by omega)
    have k1 := h148 ws[i] (List.getElem_mem hi)
    have hN0 : wrN sizes ws i = fitsE sizes ws[i] := by unfold wrN; rw [List.getElem?_eq_getElem hi]
    simp only [Wr.enc, encI, encIs] at k1
    by_cases c1 : fitsE sizes ws[i] = 0
    · rw [c1] at k1 hN0
      simp -implicitDefEqProofs [b57_1, g1, g4, hm, hlt, hi, k1, hw, encI, Wr.enc]
      exact upto_zero gj hN0
    · have hf := firstN_at hi gj (by rw [hN0]; exact c1)
      rw [hN0] at hf
      simp -implicitDefEqProofs [b57_1, g1, g4, hm, hlt, hi, k1, hw, encI, Wr.enc, c1, hf]
  · rintro e h' ⟨g1, g4, rfl, gj⟩
    simp only [encI, encWs, encIs] at g1 g4 hm
    have := firstN_zero.2 gj
    simp -implicitDefEqProofs [b57_1, g1, g4, hm, encI, this]
theorem loop57E (H : Hand) (I : Inl) (N : Nat) (c0 : AV) (ws : List Wr) (evs : List Evt) (hx : evs.length < 1073741824) (hN : evs.length < N) (h131 : ∀ l x, l.length ≤ evs.length → H 131 [encEs l, x.enc] = some (encI (atE l x))) (h149 : ∀ n, H 149 [encI n] = some (Evt.mk 0 n).enc)
    (v : Nat) (h : Hp) (hm : h 513 = (v, .row 3 [.agg [c0, encWs ws, encEs evs]])) (e : Env) (e1 : e 1 = .ptr 513 v 0 0) (e6 : e 6 = encI 0) (e7 : e 7 = encI 0) :
    Ends (iter (run H I N 1 b57_0) N (e, h)) (fun r => r.2.2 513 = h 513 ∧ r.2.1 1 = .ptr 513 v 0 0 ∧ ((r.1 = .exit 2 ∧ r.2.1 6 = encI (cnt evs) ∧ firstN evs.length (evN ws.length evs) = 0) ∨ (r.1 = .ret ∧ r.2.1 2 = encI (firstN evs.length (evN ws.length evs)) ∧ firstN evs.length (evN ws.length evs) ≠ 0))) := by
  refine Ends.mono (for_loop evs.length (fun i s => s.1 1 = .ptr 513 v 0 0 ∧ s.1 6 = encI (cnt (evs.take i)) ∧ s.1 7 = encI i ∧ s.2 513 = h 513 ∧ ∀ j, j < i → evN ws.length evs j = 0)
    (fun x s => s.2 513 = h 513 ∧ s.1 1 = .ptr 513 v 0 0 ∧ ((x = .exit 2 ∧ s.1 6 = encI (cnt evs) ∧ firstN evs.length (evN ws.length evs) = 0) ∨ (x = .ret ∧ s.1 2 = encI (firstN evs.length (evN ws.length evs)) ∧ firstN evs.length (evN ws.length evs) ≠ 0))) ?_ ?_ hN ⟨e1, by simpa [cnt] using e6, e7, rfl, fun j hj => absurd hj (by omega)⟩) (fun r hr => hr.2)
  · rintro i e h' hi ⟨g1, g6, g7, gh, gj⟩
    rw [hm] at gh
    simp only [encI, encWs, encEs] at g1 g6 g7 gh hm
    have hlt : (i : Int) < (evs.length : Int) := by omega
    have hle : (i : Int) ≤ (evs.length : Int) := by omega
    have hw : IntKind.i64.wrap ((i : Int) + 1) = (i : Int) + 1 := wrap_small (by omega) (by omega)
    have hcl := cnt_le (evs.take i)
    have hlen : (evs.take i).length = i := by simp; omega
    have hw2 : IntKind.i64.wrap ((cnt (evs.take i) : Int) + 1) = (cnt (evs.take i) : Int) + 1 := wrap_small (by omega) (by omega)
    have hN0 : evN ws.length evs i = evE ws.length (evs.take i) evs[i] := by unfold evN; rw [List.getElem?_eq_getElem hi]
    have htake : evs.take (i + 1) = evs.take i ++ [evs[i]] := by rw [List.take_add_one, List.getElem?_eq_getElem hi]; rfl
    have hcnt : cnt (evs.take (i + 1)) = if evs[i].kind = 0 then cnt (evs.take i) + 1 else cnt (evs.take i) := by rw [htake, cnt_snoc]
    have k149 := h149 evs[i].wr
    have k1 := h131 (evs.take i) ⟨0, evs[i].wr⟩ (by omega)
    have k2 := h131 (evs.take i) evs[i] (by omega)
    simp only [encEs, List.map_take, Evt.enc, encI] at k149 k1 k2
    have bad : ∀ y, y ≠ 0 → evE ws.length (evs.take i) evs[i] = y → firstN evs.length (evN ws.length evs) = y := fun y hy he => by
      have := firstN_at hi gj (by rw [hN0, he]; exact hy)
      rw [this, hN0, he]
    generalize hpre : evs.take i = pre at *
    by_cases c0' : evs[i].kind = 0
    · rw [if_pos c0'] at hcnt
      by_cases c1 : evs[i].wr = (cnt pre : Int)
      · by_cases c2 : (ws.length : Int) ≤ (cnt pre : Int)
        · have hf := bad 3 (by decide) (by unfold evE; rw [if_pos c0', if_pos (.inr c2)])
          simp -implicitDefEqProofs [b57_0, g1, g6, g7, gh, hm, hlt, hi, c0', c1, c2, encI, Evt.enc, hf]
        · have hz : evE ws.length pre evs[i] = 0 := by unfold evE; rw [if_pos c0', if_neg (by omega)]
          simp -implicitDefEqProofs [b57_0, g1, g6, g7, gh, hm, hlt, hi, c0', c1, c2, encI, Evt.enc, hw, hw2, hcnt]
          exact upto_zero gj (hN0.trans hz)
      · have hf := bad 3 (by decide) (by unfold evE; rw [if_pos c0', if_pos (.inl c1)])
        simp -implicitDefEqProofs [b57_0, g1, g6, g7, gh, hm, hlt, hi, c0', c1, encI, Evt.enc, hf]
    · rw [if_neg c0'] at hcnt
      by_cases c1 : evs[i].kind = 1
      · simp only [c1] at k2
        by_cases c2 : atE pre ⟨0, evs[i].wr⟩ < 0
        · have hf := bad 7 (by decide) (by unfold evE; rw [if_neg c0', if_neg (by simp [c1]), if_pos c2])
          simp -implicitDefEqProofs [b57_0, g1, g6, g7, gh, hm, hlt, hle, hi, c0', c1, c2, k149, k1, encI, Evt.enc, hf]
        · by_cases c3 : 0 ≤ atE pre evs[i]
          · have hf := bad 8 (by decide) (by unfold evE; rw [if_neg c0', if_neg (by simp [c1]), if_neg c2, if_pos c3])
            simp -implicitDefEqProofs [b57_0, g1, g6, g7, gh, hm, hlt, hle, hi, c0', c1, c2, c3, k149, k1, k2, encI, Evt.enc, hf]
          · have hz : evE ws.length pre evs[i] = 0 := by unfold evE; rw [if_neg c0', if_neg (by simp [c1]), if_neg c2, if_neg c3]
            simp -implicitDefEqProofs [b57_0, g1, g6, g7, gh, hm, hlt, hle, hi, c0', c1, c2, c3, k149, k1, k2, encI, Evt.enc, hw, hcnt]
            exact upto_zero gj (hN0.trans hz)
      · have hf := bad 3 (by decide) (by unfold evE; rw [if_neg c0', if_pos c1])
        simp -implicitDefEqProofs [b57_0, g1, g6, g7, gh, hm, hlt, hi, c0', c1, encI, Evt.enc, hf]
  · rintro e h' ⟨g1, g6, g7, gh, gj⟩
    rw [List.take_length] at g6
    rw [hm] at gh
    simp only [encI, encWs, encEs] at g1 g6 g7 gh hm
    have := firstN_zero.2 gj
    simp -implicitDefEqProofs [b57_0, g1, g6, g7, gh, hm, encI, this]
theorem check57_run (H : Hand) (I : Inl) (N : Nat) (hs : Hist) (hx1 : hs.writes.length < 1073741824) (hN1 : hs.writes.length < N) (hx2 : hs.events.length < 1073741824) (hN2 : hs.events.length < N)
    (h145 : H 145 [encIs hs.sizes] = some (encI (sizesE hs.sizes))) (h148 : sizesE hs.sizes = 0 → ∀ w ∈ hs.writes, H 148 [encIs hs.sizes, w.enc] = some (encI (fitsE hs.sizes w)))
    (h131 : ∀ l x, l.length ≤ hs.events.length → H 131 [encEs l, x.enc] = some (encI (atE l x))) (h149 : ∀ n, H 149 [encI n] = some (Evt.mk 0 n).enc) : Ends (fnA H I N 1 c57 [hs.enc] hemp) (fun p => outA p = encI (checkH hs)) := by
  obtain ⟨sizes, writes, events⟩ := hs
  simp only at hx1 hN1 hx2 hN2 h145 h148 h131
  obtain ⟨R, hR⟩ : ∃ R, checkH ⟨sizes, writes, events⟩ = R := ⟨_, rfl⟩
  rw [hR]
  unfold checkH at hR
  simp only at hR
  simp only [encIs, encI] at h145
  by_cases c1 : sizesE sizes = 0
  case neg =>
    rw [if_pos c1] at hR
    simp -implicitDefEqProofs [fnA, c57, Hist.enc, encIs, encWs, encEs, encI, h145, c1, hR]
    exact fun e => absurd (hR.trans e) c1
  rw [if_neg (by simp [c1])] at hR
  by_cases c2 : 4096 < (writes.length : Int)
  · rw [if_pos c2] at hR
    simp -implicitDefEqProofs [fnA, c57, Hist.enc, encIs, encWs, encEs, encI, h145, c1, c2, hR]
  rw [if_neg c2] at hR
  simp -implicitDefEqProofs [fnA, c57, Hist.enc, encIs, encWs, encEs, encI, h145, c1, c2]
  refine Ends.mono (loop57W H I N sizes writes (encEs events) hx1 hN1 (h148 c1) 1 _ (by simp [encIs, encWs, encEs]) _ (by simp) (by simp [encI])) ?_
  rintro ⟨x, e', h'⟩ ⟨rfl, k1, kk⟩
  simp only at k1 kk
  rcases kk with ⟨rfl, k5⟩ | ⟨rfl, k5, k6⟩
  case inr =>
    simp only [encI] at k5
    rw [if_pos k6] at hR
    simp -implicitDefEqProofs [k5, hR]
  rw [if_neg (by simp [k5])] at hR
  simp -implicitDefEqProofs
  refine Ends.mono (loop57E H I N (encIs sizes) writes events hx2 hN2 h131 h149 1 _ (by simp [encIs, encWs, encEs]) _ (by simp [k1]) (by simp [encI]) (by simp [encI])) ?_
  rintro ⟨x, e2, h2'⟩ ⟨m1, m2, mm⟩
  simp only at m1 m2 mm
  simp at m1
  rcases mm with ⟨rfl, m5, m6⟩ | ⟨rfl, m5, m6⟩
  case inr =>
    simp only [encI] at m5
    rw [if_pos m6] at hR
    simp -implicitDefEqProofs [m5, hR]
  rw [if_neg (by simp [m6])] at hR
  simp only [encI] at m5
  by_cases c3 : (cnt events : Int) < (writes.length : Int)
  · rw [if_pos c3] at hR
    simp -implicitDefEqProofs [m1, m2, m5, c3, hR]
  · rw [if_neg c3] at hR
    simp -implicitDefEqProofs [m1, m2, m5, c3, hR]
end Go.Proofs.Ytihljollfbogeaa
