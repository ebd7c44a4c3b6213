/- Runs: the reference's copy of a history. No condition. -/
import Derived.Test.YtihljollfbogeaaC8
import Derived.Test.YtihljollfbogeaaE2
import Derived.Test.YtihljollfbogeaaMi
set_option linter.unusedSimpArgs false
set_option maxHeartbeats 1000000
namespace Go.Proofs.Ytihljollfbogeaa
open Go Go.RowKit
attribute [local simp] run_skip run_ret run_exit run_seq run_block run_reg thn_norm thn_toNorm thn_ret thn_exit endB_norm endB_toNorm endB_ret endB_exit regA_nil regA_cons putA_some putA_none insA_plain opA COp.ev pu dl dl0 appD nameOf nameOr_ptr nameOr_ref nameOr_mp nameOr_nl nameOr_full nameOr_grown grown_zero grownH_nil hset_id toNorm putA aEval_tmp aEval_func aEval_int aEval_bool aEval_nil edst eset_same eset_ne cmp_lss cmp_leq cmp_gtr cmp_geq cmp_eql cmp_neq num_add num_sub num_mul num_rem cmp_beql cmp_bneq cmp_seql cmp_sneq ite_map ite_bind ends_some ends_none ends_ite ends_bind ends_map rnd_norm rnd_toNorm rnd_exit rnd_ret norm_encI norm_encB oLit oAppend frzD_no Blk.isDead oElems oSlice oExtract oIndexA oMk0 oConvInt oMin oMax oMapNew oMapPut oMapGet findA oNil AV.single valueA oPick oNot argEnv ressA resA tupA oNew oLoad oStore oFieldAddr oLen oIndexS asNum rowAt? hset partA AV.cells AV.storable AV.one hemp callA isMk copyA callD outA_sc outA_imm outA_agg outA_tup outA_ref outA_nl outA_full fz_sc fz_imm fz_full fz_nl fz_fn fz_agg fz_tup fz_ref fzA_sc fzA_imm fzA_full fzA_nl fzA_agg fzA_ref fz1_sc fz1_imm fz1_full fz1_nl fz1_ref fzRow_all AV.scalar AV.scalar1 evC nm nmA nm1 nm0 insA_b insA_skip run_condB isBool boolOf run_drawn endD_mk drawA_nil drawA_cons nextD_mk consE_mk putD_some putD_none insD_plain insD_b insD_skip opD COp.rd COp.wr AV.nms AV.nms1 indeps indep oMake oBuildC fillC setCellsA ofVal ofCell Value.oneCell' reshape LIM AV.pure AV.pure1 norm norm1 run_loop
theorem app_dead {k n : Nat} {ys : List AV} {h : Hp} (h1 : ys.all (okEl k) = true) (hl : ys.length ≤ LIM) (hd : (h n).2.isDead = true) :
    oAppend h n k .nl ys = some (.ref n ((h n).1 + 1) 0 ys.length, hset h n ((h n).1 + 1, .row k ys)) := by
  have h2 : (ys.all fun v => v.storable && decide (v.cells.length = k)) = true := h1
  unfold oAppend
  rw [if_pos h2]
  simp only [hd, Bool.not_true, Bool.and_false, Bool.false_eq_true, if_false, if_pos hl]
theorem loop162 (H : Hand) (I : Inl) (N : Nat) (hs : Hist) (hx : hs.writes.length < 1073741824) (hN : hs.writes.length < N) (hd : ∀ w ∈ hs.writes, w.data.length ≤ LIM) (v1 v2 : Nat) (e : Env) (h : Hp)
    (e1 : e 1 = .ptr 512000000001 v1 0 0) (e2 : e 2 = .ptr 512000000002 v2 0 0) (e3 : e 3 = .nl) (e4 : e 4 = .nl) (e5 : e 5 = .nl) (e6 : e 6 = encI 0) (h1 : h 512000000001 = (v1, .row 3 [hs.enc])) (h2 : h 512000000002 = (v2, .row 3 [.agg [.nl, .nl, .nl]]))
    (h29 : (h 512000000029).2 = .dead) :
    Ends (iter (run H I N 1000000000 b162_0) N (e, h)) (fun r => r.1 = .exit 0 ∧ r.2.1 1 = .ptr 512000000001 v1 0 0 ∧ r.2.1 2 = .ptr 512000000002 v2 0 0 ∧ r.2.1 3 = .nl ∧ r.2.1 5 = .nl ∧ r.2.2 512000000001 = (v1, .row 3 [hs.enc]) ∧ r.2.2 512000000002 = (v2, .row 3 [.agg [.nl, .nl, .nl]]) ∧
      Gw r.2.2 512000000032 3 (r.2.1 4) (hs.writes.map Wr.enc) ∧ ∀ m, m ≠ 512000000007 → m ≠ 512000000029 → m ≠ 512000000032 → r.2.2 m = h m) := by
  refine Ends.mono (for_loop hs.writes.length (fun i s => s.1 1 = .ptr 512000000001 v1 0 0 ∧ s.1 2 = .ptr 512000000002 v2 0 0 ∧ s.1 3 = .nl ∧ s.1 5 = .nl ∧ s.1 6 = encI i ∧ (s.2 512000000029).2 = .dead ∧
      Gw s.2 512000000032 3 (s.1 4) ((hs.writes.take i).map Wr.enc) ∧ ∀ m, m ≠ 512000000007 → m ≠ 512000000029 → m ≠ 512000000032 → s.2 m = h m)
    (fun x s => x = .exit 0 ∧ s.1 1 = .ptr 512000000001 v1 0 0 ∧ s.1 2 = .ptr 512000000002 v2 0 0 ∧ s.1 3 = .nl ∧ s.1 5 = .nl ∧ s.2 512000000001 = (v1, .row 3 [hs.enc]) ∧ s.2 512000000002 = (v2, .row 3 [.agg [.nl, .nl, .nl]]) ∧
      Gw s.2 512000000032 3 (s.1 4) (hs.writes.map Wr.enc) ∧ ∀ m, m ≠ 512000000007 → m ≠ 512000000029 → m ≠ 512000000032 → s.2 m = h m) ?_ ?_ hN ⟨e1, e2, e3, e5, e6, h29, by show Gw h 512000000032 3 (e 4) _; rw [e4]; exact Gw.nil, fun _ _ _ _ => rfl⟩) (fun r hr => hr.2)
  · rintro i e h' hi ⟨g1, g2, g3, g5, g6, g29, gw, gm⟩
    have k1 := (gm 512000000001 (by decide) (by decide) (by decide)).trans h1
    simp only at k1
    have hlt : (i : Int) < (hs.writes.length : Int) := by omega
    have hw : IntKind.i64.wrap ((i : Int) + 1) = (i : Int) + 1 := wrap_small (by omega) (by omega)
    have htake : (hs.writes.take (i + 1)).map Wr.enc = (hs.writes.take i).map Wr.enc ++ [hs.writes[i].enc] := by rw [List.take_add_one, List.getElem?_eq_getElem hi, List.map_append]; rfl
    have hlen : ((hs.writes.take i).map Wr.enc).length = i := by simp; omega
    have hok := hs.writes[i].ok
    have hdd := hd _ (List.getElem_mem hi)
    have happ := fun h'' (q : h'' 512000000032 = h' 512000000032) => gw.grow hok (by simp only [LIM]; omega) h'' q
    rw [htake]
    generalize (hs.writes.take i).map Wr.enc = L at gw happ hlen ⊢
    obtain ⟨w, hw1⟩ : ∃ x, hs.writes[i] = x := ⟨_, rfl⟩
    rw [hw1] at happ hdd ⊢
    obtain ⟨wv, ws, wd⟩ := w
    have hds : (wd.map Sec.enc).all (okEl 8) = true := all_map Sec.ok _
    have hdp : (wd.map Sec.enc).all AV.pure = true := all_map Sec.pure _
    have hdn : (wd.map Sec.enc).map norm = wd.map Sec.enc := map_norm Sec.norm _
    have inner := fun h'' (q : (h'' 512000000029).2 = .dead) => app_dead (n := 512000000029) (h := h'') hds (by simpa using hdd) (by rw [q]; rfl)
    have hfz : ∀ v, frzD 512000000029 (some (.ref 512000000029 v 0 wd.length, some (512000000029, (v, .row 8 (wd.map Sec.enc))))) = some (.imm (wd.map Sec.enc), some (512000000029, (v + 1, .dead))) := fun v => by
      have hp2 : ((wd.map Sec.enc).all AV.pure) = true := hdp
      unfold frzD
      rw [if_pos rfl]
      simp only [Option.bind_some, List.length_map, hp2, hdn, and_self, if_true]
    simp only [List.length_map] at inner
    obtain ⟨p1, p2, p3⟩ := hs
    simp only [Hist.enc, encIs, encWs, encEs, encI, Wr.enc, encSs] at *
    generalize g4 : e 4 = a at gw happ
    rcases gw with ⟨rfl, hnil⟩ | ⟨v, rfl, hrow⟩
    all_goals
      simp -implicitDefEqProofs [b162_0, hfz, g1, g2, g3, g4, g5, g6, g29, k1, hlt, hi, hw, hw1, happ, inner, hdp, hdn, encI, encWs, Wr.enc, -oAppend]
      refine ⟨Gw.mk (by simp) (by simp), fun m q1 q2 q3 => ?_⟩
      rw [if_neg q3]
      by_cases q4 : m = 512000000031
      · rw [if_pos q4, q4]; exact gm _ (by decide) (by decide) (by decide)
      · simp only [if_neg q4, if_neg q2, if_neg q1]; exact gm m q1 q2 q3
  · rintro e h' ⟨g1, g2, g3, g5, g6, g29, gw, gm⟩
    have k1 := (gm 512000000001 (by decide) (by decide) (by decide)).trans h1
    have k2 := (gm 512000000002 (by decide) (by decide) (by decide)).trans h2
    simp only at k1 k2
    rw [List.take_length] at gw
    obtain ⟨p1, p2, p3⟩ := hs
    simp only [Hist.enc, encIs, encWs, encEs, encI] at *
    simp -implicitDefEqProofs [b162_0, g1, g2, g3, g5, g6, k1, k2]
    exact ⟨gw, gm⟩
theorem copy162_run (H : Hand) (I : Inl) (N : Nat) (hs : Hist) (hx : hs.writes.length < 1073741824) (hN : hs.writes.length < N) (hd : ∀ w ∈ hs.writes, w.data.length ≤ LIM) (hz1 : hs.sizes.length ≤ LIM) (hz2 : hs.events.length ≤ LIM) :
    Ends (fnA H I N 1000000000 c162 [hs.enc] hemp) (fun p => outA p = hs.enc) := by
  have hh : hs.enc = .agg [encIs hs.sizes, encWs hs.writes, encEs hs.events] := rfl
  have oS : (hs.sizes.map encI).all (okEl 1) = true := all_map encI_ok _
  have oE : (hs.events.map Evt.enc).all (okEl 2) = true := all_map Evt.ok _
  have pS := fun h'' (q : (h'' 512000000036).2 = .dead) => app_dead (n := 512000000036) (h := h'') oS (by simpa using hz1) (by rw [q]; rfl)
  have pE := fun h'' (q : (h'' 512000000041).2 = .dead) => app_dead (n := 512000000041) (h := h'') oE (by simpa using hz2) (by rw [q]; rfl)
  have fa := fzRow_all (k := 1) (L := hs.sizes.map encI) rfl (all_map (by simp [encI]) _)
  have fb := fzRow_all (k := 3) (L := hs.writes.map Wr.enc) rfl (all_map Wr.pure _)
  have fc := fzRow_all (k := 2) (L := hs.events.map Evt.enc) rfl (all_map Evt.pure _)
  rw [map_norm (f := encI) (by simp [encI])] at fa
  rw [map_norm Wr.norm] at fb
  rw [map_norm Evt.norm] at fc
  simp only [List.length_map] at pS pE fa fb fc
  simp -implicitDefEqProofs [fnA, c162, hh, encIs, encWs, encEs]
  refine Ends.mono (loop162 H I N hs hx hN hd 1 1 _ _ (by simp) (by simp) (by simp) (by simp) (by simp) (by simp [encI]) (by simp [hh, encIs, encWs, encEs]) (by simp) (by simp [hemp])) ?_
  rintro ⟨x, e', h'⟩ ⟨rfl, g1, g2, g3, g5, k1, k2, gw, gm⟩
  simp only at g1 g2 g3 g5 k1 k2 gw gm
  have k36 : (h' 512000000036).2 = .dead := by rw [gm _ (by decide) (by decide) (by decide)]; simp [hemp]
  have k41 : (h' 512000000041).2 = .dead := by rw [gm _ (by decide) (by decide) (by decide)]; simp [hemp]
  rw [hh] at k1
  simp only [encIs, encWs, encEs] at k1
  generalize g4 : e' 4 = a at gw
  rcases gw with ⟨rfl, hnil⟩ | ⟨v, rfl, hrow⟩
  · simp -implicitDefEqProofs [g1, g2, g3, g4, g5, k1, k2, k36, k41, pS, pE, fa, fc, encIs, encWs, encEs, -oAppend]
    simpa using hnil
  · simp -implicitDefEqProofs [g1, g2, g3, g4, g5, k1, k2, k36, k41, pS, pE, fa, fb, fc, hrow, encIs, encWs, encEs, -oAppend]
end Go.Proofs.Ytihljollfbogeaa
