/- Runs: small, acknowledged, equal lists, copies. No condition. -/
import Derived.Test.YtihljollfbogeaaB33
import Derived.Test.YtihljollfbogeaaC8
set_option linter.unusedSimpArgs false
namespace Go.Proofs.Ytihljollfbogeaa
open Go Go.RowKit
attribute [local simp] run_skip run_ret run_exit run_seq run_block run_reg thn_norm thn_toNorm thn_ret thn_exit endB_norm endB_toNorm endB_ret endB_exit regA_nil regA_cons putA_some putA_none insA_plain opA COp.ev pu dl dl0 appD nameOf nameOr_ptr nameOr_ref nameOr_mp nameOr_nl nameOr_full nameOr_grown grown_zero grownH_nil hset_id toNorm putA aEval_tmp aEval_func aEval_int aEval_bool aEval_nil edst eset_same eset_ne cmp_lss cmp_leq cmp_gtr cmp_geq cmp_eql cmp_neq num_add num_sub num_mul num_rem cmp_beql cmp_bneq cmp_seql cmp_sneq ite_map ite_bind ends_some ends_none ends_ite ends_bind ends_map rnd_norm rnd_toNorm rnd_exit rnd_ret norm_encI norm_encB oLit oAppend frzD_no Blk.isDead oElems oSlice oExtract oIndexA oMk0 oConvInt oMin oMax oMapNew oMapPut oMapGet findA oNil AV.single valueA oPick oNot argEnv ressA resA tupA oNew oLoad oStore oFieldAddr oLen oIndexS asNum rowAt? hset partA AV.cells AV.storable AV.one hemp callA isMk copyA callD outA_sc outA_imm outA_agg outA_tup outA_ref outA_nl outA_full fz_sc fz_imm fz_full fz_nl fz_fn fz_agg fz_tup fz_ref fzA_sc fzA_imm fzA_full fzA_nl fzA_agg fzA_ref fz1_sc fz1_imm fz1_full fz1_nl fz1_ref fzRow_all AV.scalar AV.scalar1 evC nm nmA nm1 nm0 insA_b insA_skip run_condB isBool boolOf run_drawn endD_mk drawA_nil drawA_cons nextD_mk consE_mk putD_some putD_none insD_plain insD_b insD_skip opD COp.rd COp.wr AV.nms AV.nms1 indeps indep oMake oBuildC fillC setCellsA ofVal ofCell Value.oneCell' reshape LIM AV.pure AV.pure1 norm norm1 run_loop
theorem copied161_run (H : Hand) (I : Inl) (N : Nat) (hs : Hist) (hx : hs.writes.length < 1073741824) (hN : hs.writes.length < N) (h137 : H 137 [encIs hs.sizes] = some (encIs hs.sizes)) (h227 : H 227 [encEs hs.events] = some (encEs hs.events)) (h184 : ∀ w ∈ hs.writes, H 184 [encSs w.data] = some (encSs w.data)) :
    Ends (fnA H I N 1 c161 [hs.enc] hemp) (fun p => outA p = hs.enc) := by
  obtain ⟨sizes, writes, events⟩ := hs
  simp only [encIs, encEs, encSs] at h137 h227 h184 hx hN
  simp -implicitDefEqProofs [fnA, c161, Hist.enc, encIs, encEs, encWs, h137, h227]
  refine Ends.mono (for_loop writes.length (fun i s => s.1 2 = .ptr 514 1 0 0 ∧ s.1 3 = .ptr 515 1 0 0 ∧ s.1 14 = encWs writes ∧ s.1 15 = encI writes.length ∧ s.1 16 = encI i ∧ s.2 514 = (1, .row 3 [.agg [.nl, .nl, .nl]]) ∧ ∃ a, s.2 515 = (1, .row 3 [.agg [encIs sizes, a, encEs events]]) ∧ Gw s.2 540 3 a ((writes.take i).map Wr.enc))
    (fun x s => x = .exit 0 ∧ s.1 2 = .ptr 514 1 0 0 ∧ s.1 3 = .ptr 515 1 0 0 ∧ s.2 514 = (1, .row 3 [.agg [.nl, .nl, .nl]]) ∧ ∃ a, s.2 515 = (1, .row 3 [.agg [encIs sizes, a, encEs events]]) ∧ Gw s.2 540 3 a (writes.map Wr.enc)) ?_ ?_ hN ⟨by simp, by simp, by simp [encWs], by simp [encI], by simp [encI], by simp, .nl, by simp [encIs, encEs], Gw.nil⟩) ?_
  · rintro i e h' hi ⟨g2, g3, g14, g15, g16, gh, a, ga, gw⟩
    simp only [encI, encWs, encIs, encEs] at g2 g3 g14 g15 g16 gh ga gw
    have hlt : (i : Int) < (writes.length : Int) := by omega
    have hw : IntKind.i64.wrap ((i : Int) + 1) = (i : Int) + 1 := wrap_small (by omega) (by omega)
    have k := h184 writes[i] (List.getElem_mem hi)
    have hok := writes[i].ok
    have htake : (writes.take (i + 1)).map Wr.enc = (writes.take i).map Wr.enc ++ [writes[i].enc] := by rw [List.take_add_one, List.getElem?_eq_getElem hi, List.map_append]; rfl
    have happ := gw.grow hok (by simp [LIM]; omega)
    have hnm := gw.name
    rw [htake]
    generalize hL : (writes.take i).map Wr.enc = L at gw happ ⊢
    have hlen : L.length = i := by rw [← hL]; simp; omega
    have hone := gw.one
    simp only [Wr.enc, encI] at happ
    rcases gw with ⟨rfl, hnil⟩ | ⟨v, rfl, hrow⟩
    · simp -implicitDefEqProofs [b161_0, g2, g3, g14, g15, g16, gh, ga, hlt, hi, hw, k, happ, encI, encIs, encEs, encWs, Wr.enc, -oAppend]
      exact Gw.mk (by simp) (by simp)
    · simp -implicitDefEqProofs [b161_0, g2, g3, g14, g15, g16, gh, ga, hlt, hi, hw, k, happ, encI, encIs, encEs, encWs, Wr.enc, -oAppend]
      exact Gw.mk (by simp) (by simp)
  · rintro e h' ⟨g2, g3, g14, g15, g16, gh, a, ga, gw⟩
    simp only [encI, encWs, encIs, encEs] at g2 g3 g14 g15 g16 gh ga gw
    rw [List.take_length] at gw
    simp -implicitDefEqProofs [b161_0, g2, g3, g14, g15, g16, gh, ga, encI, encIs, encEs]
    exact gw
  · rintro ⟨x, e', h'⟩ ⟨_, rfl, g2, g3, gh, a, ga, gw⟩
    simp only [encI, encWs, encIs, encEs] at g2 g3 gh ga gw
    rcases gw with ⟨rfl, hnil⟩ | ⟨v, rfl, hrow⟩
    · simp -implicitDefEqProofs [g2, g3, gh, ga]
      exact List.map_eq_nil_iff.1 hnil
    · simp -implicitDefEqProofs [g2, g3, gh, ga, hrow]
      rw [fzRow_all (by simp) (all_map Wr.pure _), map_norm Wr.norm]
/-- Two lists of numbers, element by element. -/
theorem loop34 (H : Hand) (I : Inl) (N q : Nat) (a b : List Int) (hl : a.length = b.length) (hx : a.length < 1073741824) (hN : a.length < N) (h : Hp) (e : Env) (e0 : e 0 = encIs a) (e1 : e 1 = encIs b) (e12 : e 12 = encI a.length) (e13 : e 13 = encI 0) :
    Ends (iter (run H I N q b34_0) N (e, h)) (fun r => r.2.2 = h ∧ ((r.1 = .exit 0 ∧ a = b) ∨ (r.1 = .ret ∧ r.2.1 4 = encB false ∧ a ≠ b))) := by
  refine Ends.mono (for_loop a.length (fun i s => s.1 0 = encIs a ∧ s.1 1 = encIs b ∧ s.1 12 = encI a.length ∧ s.1 13 = encI i ∧ s.2 = h ∧ ∀ j (hj : j < a.length), j < i → a[j] = b[j]'(by omega)) (fun y s => s.2 = h ∧ ((y = .exit 0 ∧ a = b) ∨ (y = .ret ∧ s.1 4 = encB false ∧ a ≠ b))) ?_ ?_ hN ⟨e0, e1, e12, e13, rfl, fun j _ hj => absurd hj (by omega)⟩) (fun r hr => hr.2)
  · rintro i e h' hi ⟨g0, g1, g12, g13, rfl, gj⟩
    simp only [encI, encIs] at g0 g1 g12 g13
    have hi2 : i < b.length := by omega
    have hlt : (i : Int) < (a.length : Int) := by omega
    have hlt2 : (i : Int) < (b.length : Int) := by omega
    have hw : IntKind.i64.wrap ((i : Int) + 1) = (i : Int) + 1 := wrap_small (by omega) (by omega)
    by_cases c1 : a[i] = b[i]
    · simp -implicitDefEqProofs [b34_0, d34_0, p34_0, g0, g1, g12, g13, hlt, hlt2, hi, hi2, c1, encI, encIs, hw]
      intro j hj hji
      by_cases e1 : j = i
      · subst e1; exact c1
      · exact gj j hj (by omega)
    · have : a ≠ b := fun e => c1 (by subst e; rfl)
      simp -implicitDefEqProofs [b34_0, d34_0, p34_0, g0, g1, g12, g13, hlt, hlt2, hi, hi2, c1, encI, encB, this]
  · rintro e h' ⟨g0, g1, g12, g13, rfl, gj⟩
    simp only [encI, encIs] at g0 g1 g12 g13
    have : a = b := List.ext_getElem hl fun j h1 h2 => gj j h1 h1
    simp -implicitDefEqProofs [b34_0, g12, g13, encI]
    exact this
theorem eq34_run (H : Hand) (I : Inl) (N q : Nat) (a b : List Int) (hx : a.length < 1073741824) (hN : a.length < N) : Ends (fnA H I N q c34 [encIs a, encIs b] hemp) (fun p => outA p = encB (decide (a = b))) := by
  by_cases hl : (a.length : Int) = (b.length : Int)
  · simp -implicitDefEqProofs [fnA, c34, encI, encIs, hl]
    refine Ends.mono (loop34 H I N q a b (by omega) hx hN _ _ (by simp [encIs]) (by simp [encIs]) (by simp [encI, hl]) (by simp [encI])) ?_
    rintro ⟨y, e', h'⟩ ⟨k0, k⟩
    simp only at k0 k
    subst k0
    rcases k with ⟨rfl, k1⟩ | ⟨rfl, k1, k2⟩
    · simp -implicitDefEqProofs [k1, encB]
    · simp only [encB] at k1
      simp -implicitDefEqProofs [k1, k2, encB]
  · have : a ≠ b := fun e => hl (by subst e; rfl)
    simp -implicitDefEqProofs [fnA, c34, encI, encIs, hl, this, encB]
theorem check56_run (H : Hand) (I : Inl) (N q : Nat) (h : Hist) (h124 : H 124 [h.enc] = some (chkR h)) : Ends (fnA H I N q c56 [h.enc] hemp) (fun p => outA p = encI (checkH h)) := by
  have hx : ∃ c1 c2 c3 c4 c5 : List AV, chkR h = .tup [.agg [.imm c1, .imm c2, .imm c3, .imm c4, .imm c5], encI (checkH h)] := by
    unfold chkR
    split
    · rename_i h0; rw [h0]; exact ⟨_, _, _, _, _, rfl⟩
    · exact ⟨_, _, _, _, _, rfl⟩
  obtain ⟨c1, c2, c3, c4, c5, hc⟩ := hx
  rw [hc] at h124
  generalize checkH h = R at *
  obtain ⟨sizes, writes, events⟩ := h
  simp only [Hist.enc, encIs, encWs, encEs, encI] at h124
  simp -implicitDefEqProofs [fnA, c56, Hist.enc, encIs, encWs, encEs, encI, h124]
/-- The writes that are acknowledged by the first events. -/
def ackd (l : List Evt) (nw : Nat) (n : Int) : List Int := ((List.range nw).map fun a : Nat => (a : Int)).filter fun a => decide (0 ≤ atE l ⟨1, a⟩) && decide (atE l ⟨1, a⟩ < n)
theorem ackd_succ (l : List Evt) (i : Nat) (n : Int) : ackd l (i + 1) n = if 0 ≤ atE l ⟨1, (i : Int)⟩ ∧ atE l ⟨1, (i : Int)⟩ < n then ackd l i n ++ [(i : Int)] else ackd l i n := by
  unfold ackd
  rw [List.range_succ, List.map_append, List.filter_append]
  by_cases c : 0 ≤ atE l ⟨1, (i : Int)⟩ ∧ atE l ⟨1, (i : Int)⟩ < n
  · rw [if_pos c]; simp [c.1, c.2]
  · rw [if_neg c]
    have : (decide (0 ≤ atE l ⟨1, (i : Int)⟩) && decide (atE l ⟨1, (i : Int)⟩ < n)) = false := by simp; omega
    simp [this]
theorem ackd_len (l : List Evt) (nw : Nat) (n : Int) : (ackd l nw n).length ≤ nw := by
  unfold ackd
  exact Nat.le_trans (List.length_filter_le _ _) (by simp)
def ackH (h : Hist) (n : Int) : List Int := if checkH h = 0 then ackd h.events h.writes.length n else []
theorem ack35_run (H : Hand) (I : Inl) (N : Nat) (h : Hist) (n : Int) (hx : h.writes.length < 1073741824) (hN : h.writes.length < N) (h124 : H 124 [h.enc] = some (chkR h)) : Ends (fnA H I N 1 c35 [h.enc, encI n] hemp) (fun p => outA p = encIs (ackH h n)) := by
  unfold ackH
  by_cases c1 : checkH h = 0
  · have r := (checkH_zero h).1 c1
    have hR : chkR h = .tup [encChk h (tlI h.events) (tlA h.events), encI 0] := if_pos c1
    rw [hR] at h124
    rw [if_pos c1]
    have hall := r.all
    obtain ⟨sizes, writes, events⟩ := h
    simp only at hall hx hN
    simp only [Hist.enc, encIs, encWs, encEs, encI, encChk] at h124
    simp -implicitDefEqProofs [fnA, c35, Hist.enc, encIs, encWs, encEs, encI, h124]
    refine Ends.mono (for_loop writes.length (fun i s => s.1 1 = encI n ∧ s.1 19 = encIs (tlA events) ∧ s.1 20 = encI writes.length ∧ s.1 21 = encI i ∧ Gw s.2 548 1 (s.1 7) ((ackd events i n).map encI))
      (fun x s => x = .exit 0 ∧ Gw s.2 548 1 (s.1 7) ((ackd events writes.length n).map encI)) ?_ ?_ hN ⟨by simp [encI], by simp [encIs], by simp [encI, tlA_len, hall], by simp [encI], by simpa [ackd] using Gw.nil⟩) ?_
    · rintro i e h' hi ⟨g1, g19, g20, g21, gw⟩
      simp only [encI, encIs] at g1 g19 g20 g21
      have hlt : (i : Int) < (writes.length : Int) := by omega
      have hlt2 : (i : Int) < ((tlA events).length : Int) := by rw [tlA_len]; omega
      have hi2 : i < (tlA events).length := by rw [tlA_len]; omega
      have hw : IntKind.i64.wrap ((i : Int) + 1) = (i : Int) + 1 := wrap_small (by omega) (by omega)
      have hg : (tlA events)[i] = atE events ⟨1, (i : Int)⟩ := by simp [tlA]
      have hs := ackd_succ events i n
      have hlen := ackd_len events i n
      have happ := gw.grow (encI_ok (i : Int)) (by simp [LIM]; omega) h' rfl
      have hnm := gw.name
      simp only [encI] at happ
      by_cases c2 : 0 ≤ atE events ⟨1, (i : Int)⟩
      · by_cases c3 : atE events ⟨1, (i : Int)⟩ < n
        · rw [if_pos ⟨c2, c3⟩] at hs
          simp only at hnm happ gw
          simp -implicitDefEqProofs [b35_0, g1, g19, g20, g21, hlt, hlt2, hi, hi2, hw, hg, c2, c3, happ, hnm, encI, encIs, hs, -oAppend]
          exact Gw.mk (by simp) (by simp)
        · rw [if_neg (fun e => c3 e.2)] at hs
          simp -implicitDefEqProofs [b35_0, g1, g19, g20, g21, hlt, hlt2, hi, hi2, hw, hg, c2, c3, encI, encIs, hs]
          exact gw
      · rw [if_neg (fun e => c2 e.1)] at hs
        simp -implicitDefEqProofs [b35_0, g1, g19, g20, g21, hlt, hlt2, hi, hi2, hw, hg, c2, encI, encIs, hs]
        exact gw
    · rintro e h' ⟨g1, g19, g20, g21, gw⟩
      simp only [encI, encIs] at g1 g19 g20 g21
      simp -implicitDefEqProofs [b35_0, g20, g21, encI]
      exact gw
    · rintro ⟨x, e', h'⟩ ⟨_, rfl, gw⟩
      simp only at gw
      simp -implicitDefEqProofs
      rw [gw.out (encI_pure _), encI_norm]
  · have hR : chkR h = .tup [encChk .zero [] [], encI (checkH h)] := if_neg c1
    rw [hR] at h124
    rw [if_neg c1]
    generalize checkH h = R at *
    obtain ⟨sizes, writes, events⟩ := h
    simp only [Hist.enc, Hist.zero, encIs, encWs, encEs, encI, encChk, List.map_nil] at h124
    simp -implicitDefEqProofs [fnA, c35, Hist.enc, encIs, encWs, encEs, encI, h124, c1]
end Go.Proofs.Ytihljollfbogeaa
