/- Runs: the reference's acknowledged writes, small histories, an index. No condition. -/
import Derived.Test.YtihljollfbogeaaB34
set_option linter.unusedSimpArgs false
namespace Go.Proofs.Ytihljollfbogeaa
open Go Go.RowKit
attribute [local simp] run_skip run_ret run_exit run_seq run_block run_reg thn_norm thn_toNorm thn_ret thn_exit endB_norm endB_toNorm endB_ret endB_exit regA_nil regA_cons putA_some putA_none insA_plain opA COp.ev pu dl dl0 appD nameOf nameOr_ptr nameOr_ref nameOr_mp nameOr_nl nameOr_full nameOr_grown grown_zero grownH_nil hset_id toNorm putA aEval_tmp aEval_func aEval_int aEval_bool aEval_nil edst eset_same eset_ne cmp_lss cmp_leq cmp_gtr cmp_geq cmp_eql cmp_neq num_add num_sub num_mul num_rem cmp_beql cmp_bneq cmp_seql cmp_sneq ite_map ite_bind ends_some ends_none ends_ite ends_bind ends_map rnd_norm rnd_toNorm rnd_exit rnd_ret norm_encI norm_encB oLit oAppend frzD_no Blk.isDead oElems oSlice oExtract oIndexA oMk0 oConvInt oMin oMax oMapNew oMapPut oMapGet findA oNil AV.single valueA oPick oNot argEnv ressA resA tupA oNew oLoad oStore oFieldAddr oLen oIndexS asNum rowAt? hset partA AV.cells AV.storable AV.one hemp callA isMk copyA callD outA_sc outA_imm outA_agg outA_tup outA_ref outA_nl outA_full fz_sc fz_imm fz_full fz_nl fz_fn fz_agg fz_tup fz_ref fzA_sc fzA_imm fzA_full fzA_nl fzA_agg fzA_ref fz1_sc fz1_imm fz1_full fz1_nl fz1_ref fzRow_all AV.scalar AV.scalar1 evC nm nmA nm1 nm0 insA_b insA_skip run_condB isBool boolOf run_drawn endD_mk drawA_nil drawA_cons nextD_mk consE_mk putD_some putD_none insD_plain insD_b insD_skip opD COp.rd COp.wr AV.nms AV.nms1 indeps indep oMake oBuildC fillC setCellsA ofVal ofCell Value.oneCell' reshape LIM AV.pure AV.pure1 norm norm1 run_loop
theorem atE_take (l : List Evt) (k : Nat) (e : Evt) : 0 ≤ atE (l.take k) e ↔ 0 ≤ atE l e ∧ atE l e < (k : Int) := by
  unfold atE
  rcases idxP_cases (fun x => decide (x = e)) l with ⟨h, h1⟩ | ⟨i, h1, h2, h3, h4⟩
  · rw [h]
    constructor
    · intro h0
      obtain ⟨x, hx, hp⟩ := idxP_nonneg.1 h0
      rw [h1 x (List.mem_of_mem_take hx)] at hp; cases hp
    · intro h0; omega
  · rw [h2]
    constructor
    · intro h0
      refine ⟨by omega, ?_⟩
      obtain ⟨x, hx, hp⟩ := idxP_nonneg.1 h0
      obtain ⟨j, hj, rfl⟩ := List.getElem_of_mem hx
      simp only [List.length_take] at hj
      rw [List.getElem_take] at hp
      have : ¬ j < i := fun hji => by have := h4 j (by omega) hji; rw [this] at hp; cases hp
      omega
    · rintro ⟨_, h0⟩
      refine idxP_nonneg.2 ⟨l[i], ?_, h3⟩
      have : i < (l.take k).length := by simp; omega
      have e1 : (l.take k)[i] = l[i] := List.getElem_take
      rw [← e1]; exact List.getElem_mem this
theorem ack36_run (H : Hand) (I : Inl) (N : Nat) (h : Hist) (n : Int) (hx : h.writes.length < 1073741824) (hN : h.writes.length < N) (h57 : H 57 [h.enc] = some (encI (checkH h)))
    (h131 : ∀ l x, l.length ≤ h.events.length → H 131 [encEs l, x.enc] = some (encI (atE l x))) (h132 : ∀ n, H 132 [encI n] = some (Evt.mk 1 n).enc) : Ends (fnA H I N 1 c36 [h.enc, encI n] hemp) (fun p => outA p = encIs (ackH h n)) := by
  unfold ackH
  obtain ⟨R, hR⟩ : ∃ R, checkH h = R := ⟨_, rfl⟩
  rw [hR] at h57 ⊢
  obtain ⟨sizes, writes, events⟩ := h
  simp only at hx hN h131 ⊢
  simp only [Hist.enc, encIs, encWs, encEs, encI] at h57
  by_cases c1 : R = 0
  case neg =>
    rw [if_neg c1]
    simp -implicitDefEqProofs [fnA, c36, Hist.enc, encIs, encWs, encEs, encI, h57, c1]
  subst c1
  rw [if_pos rfl]
  obtain ⟨k, hk⟩ : ∃ k : Nat, (k : Int) = max 0 (min n (events.length : Int)) := ⟨(max 0 (min n (events.length : Int))).toNat, by omega⟩
  have hke : (k : Int) ≤ (events.length : Int) := by omega
  simp -implicitDefEqProofs [fnA, c36, Hist.enc, encIs, encWs, encEs, encI, h57]
  have hk2 : (if 0 < (if (events.length : Int) < n then (events.length : Int) else n) then (if (events.length : Int) < n then (events.length : Int) else n) else 0) = (k : Int) := by
    split <;> split at * <;> omega
  refine Ends.mono (for_loop writes.length (fun i s => s.1 2 = .ptr 514 1 0 0 ∧ s.1 5 = encI k ∧ s.1 7 = encI i ∧ s.2 514 = (1, .row 3 [.agg [encIs sizes, encWs writes, encEs events]]) ∧ Gw s.2 547 1 (s.1 6) ((ackd events i n).map encI))
    (fun x s => x = .exit 0 ∧ Gw s.2 547 1 (s.1 6) ((ackd events writes.length n).map encI)) ?_ ?_ hN ⟨by simp, by simp [encI, hk2], by simp [encI], by simp [encIs, encWs, encEs], by simpa [ackd] using Gw.nil⟩) ?_
  · rintro i e h' hi ⟨g2, g5, g7, gh, gw⟩
    simp only [encI, encIs, encWs, encEs] at g2 g5 g7 gh gw
    have hlt : (i : Int) < (writes.length : Int) := by omega
    have hw : IntKind.i64.wrap ((i : Int) + 1) = (i : Int) + 1 := wrap_small (by omega) (by omega)
    have hs := ackd_succ events i n
    have hlen := ackd_len events i n
    have happ := gw.grow (encI_ok (i : Int)) (by simp [LIM]; omega)
    have hnm := gw.name
    have k1 := h132 (i : Int)
    have k2 := h131 (events.take k) ⟨1, (i : Int)⟩ (by simp; omega)
    have hat := atE_take events k ⟨1, (i : Int)⟩
    have hup := atE_lt events ⟨1, (i : Int)⟩
    simp only [encI, encEs, Evt.enc, List.map_take] at happ k1 k2
    have hiff : (0 ≤ atE (events.take k) ⟨1, (i : Int)⟩) ↔ (0 ≤ atE events ⟨1, (i : Int)⟩ ∧ atE events ⟨1, (i : Int)⟩ < n) := by rw [hat]; omega
    by_cases c2 : 0 ≤ atE (events.take k) ⟨1, (i : Int)⟩
    · rw [if_pos (hiff.1 c2)] at hs
      simp -implicitDefEqProofs [b36_0, g2, g5, g7, gh, hlt, hi, hw, hke, k1, k2, c2, happ, hnm, encI, encIs, encWs, encEs, hs, -oAppend]
      exact Gw.mk (by simp) (by simp)
    · rw [if_neg (fun e => c2 (hiff.2 e))] at hs
      simp -implicitDefEqProofs [b36_0, g2, g5, g7, gh, hlt, hi, hw, hke, k1, k2, c2, encI, encIs, encWs, encEs, hs]
      exact gw
  · rintro e h' ⟨g2, g5, g7, gh, gw⟩
    simp only [encI, encIs, encWs, encEs] at g2 g5 g7 gh gw
    simp -implicitDefEqProofs [b36_0, g2, g5, g7, gh, encI]
    exact gw
  · rintro ⟨x, e', h'⟩ ⟨_, rfl, gw⟩
    simp only at gw
    simp -implicitDefEqProofs
    rw [gw.out (encI_pure _), encI_norm]
def fewH (h : Hist) : Bool := decide (h.sizes.length ≤ 9) && decide (h.writes.length ≤ 40) && decide (h.events.length ≤ 90) && !(h.sizes.any fun n => decide (24 < n)) && !(h.writes.any fun w => decide (30 < w.data.length))
theorem loop28S (H : Hand) (I : Inl) (N : Nat) (sizes : List Int) (c1 c2 : AV) (hx : sizes.length < 1073741824) (hN : sizes.length < N) (h : Hp) (hm : h 513 = (1, .row 3 [.agg [encIs sizes, c1, c2]])) (e : Env) (e1 : e 1 = .ptr 513 1 0 0) (e3 : e 3 = encI 0) :
    Ends (iter (run H I N 1 b28_1) N (e, h)) (fun r => r.2.2 = h ∧ r.2.1 1 = .ptr 513 1 0 0 ∧ ((r.1 = .exit 0 ∧ sizes.any (fun n => decide (24 < n)) = false) ∨ (r.1 = .ret ∧ r.2.1 2 = encB false ∧ sizes.any (fun n => decide (24 < n)) = true))) := by
  refine Ends.mono (for_loop sizes.length (fun i s => s.1 1 = .ptr 513 1 0 0 ∧ s.1 3 = encI i ∧ s.2 = h ∧ ∀ j (hj : j < sizes.length), j < i → ¬ 24 < sizes[j]) (fun y s => s.2 = h ∧ s.1 1 = .ptr 513 1 0 0 ∧ ((y = .exit 0 ∧ sizes.any (fun n => decide (24 < n)) = false) ∨ (y = .ret ∧ s.1 2 = encB false ∧ sizes.any (fun n => decide (24 < n)) = true))) ?_ ?_ hN ⟨e1, e3, rfl, fun j _ hj => absurd hj (by omega)⟩) (fun r hr => hr.2)
  · rintro i e h' hi ⟨g1, g3, rfl, gj⟩
    simp only [encI, encIs] at g1 g3 hm
    have hlt : (i : Int) < (sizes.length : Int) := by omega
    have hw : IntKind.i64.wrap ((i : Int) + 1) = (i : Int) + 1 := wrap_small (by omega) (by omega)
    by_cases c3 : 24 < sizes[i]
    · have : sizes.any (fun n => decide (24 < n)) = true := List.any_eq_true.2 ⟨_, List.getElem_mem hi, by simpa using c3⟩
      simp -implicitDefEqProofs [b28_1, g1, g3, hm, hlt, hi, c3, encI, encB, this, -List.any_eq_true]
    · simp -implicitDefEqProofs [b28_1, g1, g3, hm, hlt, hi, c3, encI, hw]
      intro j hj hji
      by_cases e1 : j = i
      · subst e1; omega
      · have := gj j hj (by omega); omega
  · rintro e h' ⟨g1, g3, rfl, gj⟩
    simp only [encI, encIs] at g1 g3 hm
    have : sizes.any (fun n => decide (24 < n)) = false := List.any_eq_false.2 fun n hn => by
      obtain ⟨j, hj, rfl⟩ := List.getElem_of_mem hn
      simpa using gj j hj hj
    simp -implicitDefEqProofs [b28_1, g1, g3, hm, encI, this, -List.any_eq_false]
theorem loop28W (H : Hand) (I : Inl) (N : Nat) (writes : List Wr) (c1 c2 : AV) (hx : writes.length < 1073741824) (hN : writes.length < N) (h : Hp) (hm : h 513 = (1, .row 3 [.agg [c1, encWs writes, c2]])) (e : Env) (e1 : e 1 = .ptr 513 1 0 0) (e3 : e 4 = encI 0) :
    Ends (iter (run H I N 1 b28_0) N (e, h)) (fun r => r.2.2 = h ∧ ((r.1 = .exit 2 ∧ writes.any (fun w => decide (30 < w.data.length)) = false) ∨ (r.1 = .ret ∧ r.2.1 2 = encB false ∧ writes.any (fun w => decide (30 < w.data.length)) = true))) := by
  refine Ends.mono (for_loop writes.length (fun i s => s.1 1 = .ptr 513 1 0 0 ∧ s.1 4 = encI i ∧ s.2 = h ∧ ∀ j (hj : j < writes.length), j < i → ¬ 30 < writes[j].data.length) (fun y s => s.2 = h ∧ ((y = .exit 2 ∧ writes.any (fun w => decide (30 < w.data.length)) = false) ∨ (y = .ret ∧ s.1 2 = encB false ∧ writes.any (fun w => decide (30 < w.data.length)) = true))) ?_ ?_ hN ⟨e1, e3, rfl, fun j _ hj => absurd hj (by omega)⟩) (fun r hr => hr.2)
  · rintro i e h' hi ⟨g1, g3, rfl, gj⟩
    simp only [encI, encWs] at g1 g3 hm
    have hlt : (i : Int) < (writes.length : Int) := by omega
    have hw : IntKind.i64.wrap ((i : Int) + 1) = (i : Int) + 1 := wrap_small (by omega) (by omega)
    by_cases c3 : 30 < writes[i].data.length
    · have c3' : 30 < (writes[i].data.length : Int) := by omega
      have : writes.any (fun w => decide (30 < w.data.length)) = true := List.any_eq_true.2 ⟨_, List.getElem_mem hi, by simpa using c3⟩
      simp -implicitDefEqProofs [b28_0, g1, g3, hm, hlt, hi, c3', encI, encB, this, Wr.enc, -List.any_eq_true]
    · have c3' : ¬ 30 < (writes[i].data.length : Int) := by omega
      simp -implicitDefEqProofs [b28_0, g1, g3, hm, hlt, hi, c3', encI, hw, Wr.enc]
      intro j hj hji
      by_cases e1 : j = i
      · subst e1; omega
      · have := gj j hj (by omega); omega
  · rintro e h' ⟨g1, g3, rfl, gj⟩
    simp only [encI, encWs] at g1 g3 hm
    have : writes.any (fun w => decide (30 < w.data.length)) = false := List.any_eq_false.2 fun n hn => by
      obtain ⟨j, hj, rfl⟩ := List.getElem_of_mem hn
      simpa using gj j hj hj
    simp -implicitDefEqProofs [b28_0, g1, g3, hm, encI, this, -List.any_eq_false]
theorem few28_run (H : Hand) (I : Inl) (N : Nat) (h : Hist) (hN : 40 < N) : Ends (fnA H I N 1 c28 [h.enc] hemp) (fun p => outA p = encB (fewH h)) := by
  obtain ⟨sizes, writes, events⟩ := h
  unfold fewH
  simp only
  by_cases c1 : 9 < (sizes.length : Int)
  · have : ¬ sizes.length ≤ 9 := by omega
    simp -implicitDefEqProofs [fnA, c28, Hist.enc, encIs, encWs, encEs, c1, this, encB]
  by_cases c2 : 40 < (writes.length : Int)
  · have : ¬ writes.length ≤ 40 := by omega
    simp -implicitDefEqProofs [fnA, c28, Hist.enc, encIs, encWs, encEs, c1, c2, this, encB]
  by_cases c3 : 90 < (events.length : Int)
  · have : ¬ events.length ≤ 90 := by omega
    simp -implicitDefEqProofs [fnA, c28, Hist.enc, encIs, encWs, encEs, c1, c2, c3, this, encB]
  have d1 : sizes.length ≤ 9 := by omega
  have d2 : writes.length ≤ 40 := by omega
  have d3 : events.length ≤ 90 := by omega
  simp only [d1, d2, d3, decide_true, Bool.true_and]
  generalize hs : sizes.any (fun n => decide (24 < n)) = S
  generalize hws : writes.any (fun w => decide (30 < w.data.length)) = W
  simp -implicitDefEqProofs [fnA, c28, Hist.enc, encIs, encWs, encEs, c1, c2, c3]
  refine Ends.mono (loop28S H I N sizes (encWs writes) (encEs events) (by omega) (by omega) _ (by simp [encIs, encWs, encEs]) _ (by simp) (by simp [encI])) ?_
  rintro ⟨x, e', h'⟩ ⟨rfl, k1, kk⟩
  simp only at k1 kk
  rcases kk with ⟨rfl, k5⟩ | ⟨rfl, k5, k6⟩
  case inr =>
    rw [hs] at k6
    simp only [encB] at k5
    simp -implicitDefEqProofs [k5, k6, encB]
  rw [hs] at k5
  simp -implicitDefEqProofs
  refine Ends.mono (loop28W H I N writes (encIs sizes) (encEs events) (by omega) (by omega) _ (by simp [encIs, encWs, encEs]) _ (by simp [k1]) (by simp [encI])) ?_
  rintro ⟨x, e2, h2'⟩ ⟨rfl, mm⟩
  simp only at mm
  rw [hws] at mm
  rcases mm with ⟨rfl, m5⟩ | ⟨rfl, m5, m6⟩
  · simp -implicitDefEqProofs [k5, m5, encB]
  · simp only [encB] at m5
    simp -implicitDefEqProofs [m5, m6, encB]
def idxI (x : Int) (l : List Int) : Int := idxP (fun y => decide (x = y)) l
theorem loop160h (H : Hand) (I : Inl) (N q : Nat) (l : List Int) (x : Int) (hx : l.length < 4294967296) (h : Hp) (hN : l.length < N) (e : Env)
    (e0 : e 0 = .imm (l.map encI)) (e1 : e 1 = encI x) (e7 : e 7 = encI l.length) (e8 : e 8 = encI 0) :
    Ends (iter (run H I N q b160_0) N (e, h)) (fun r => (r.1 = .exit 0 ∧ idxI x l = -1) ∨ (r.1 = .ret ∧ r.2.1 4 = encI (idxI x l))) := by
  refine Ends.mono (for_loop l.length (fun i s => s.1 0 = .imm (l.map encI) ∧ s.1 1 = encI x ∧ s.1 7 = encI l.length ∧ s.1 8 = encI i ∧ ∀ j (hj : j < l.length), j < i → x ≠ l[j]) (fun y s => (y = .exit 0 ∧ idxI x l = -1) ∨ (y = .ret ∧ s.1 4 = encI (idxI x l))) ?_ ?_ hN ⟨e0, e1, e7, e8, fun j _ hj => absurd hj (by omega)⟩) (fun r hr => hr.2)
  · rintro i e h' hi ⟨g0, g1, g7, g8, gj⟩
    simp only [encI] at g0 g1 g7 g8
    have hlt : (i : Int) < (l.length : Int) := by omega
    have hw : IntKind.i64.wrap ((i : Int) + 1) = (i : Int) + 1 := wrap_small (by omega) (by omega)
    by_cases he : x = l[i]
    · have hidx : idxI x l = i := idxP_at hi (fun j hj hji => by simpa using gj j hj hji) (by simpa using he)
      simp -implicitDefEqProofs [b160_0, g0, g1, g7, g8, hlt, hi, ← he, encI, hidx]
    · simp -implicitDefEqProofs [b160_0, g0, g1, g7, g8, hlt, hi, he, encI, hw]
      intro j hj hji
      by_cases e1 : j = i
      · subst e1; exact he
      · exact gj j hj (by omega)
  · rintro e h' ⟨g0, g1, g7, g8, gj⟩
    simp only [encI] at g0 g1 g7 g8
    have hidx : idxI x l = -1 := idxP_none fun j hj => by simpa using gj j hj hj
    simp -implicitDefEqProofs [b160_0, g0, g1, g7, g8, hidx]
theorem index160h_run (H : Hand) (I : Inl) (N : Nat) (l : List Int) (x : Int) (hx : l.length < 4294967296) (hN : l.length < N) : Ends (fnA H I N 1 c160 [encIs l, encI x] hemp) (fun p => outA p = encI (idxI x l)) := by
  simp -implicitDefEqProofs [fnA, c160, encI, encIs]
  refine Ends.mono (loop160h H I N 1 l x hx _ hN _ (by simp) (by simp [encI]) (by simp [encI]) (by simp [encI])) ?_
  rintro ⟨y, e', h'⟩ (⟨rfl, k⟩ | ⟨rfl, k1⟩)
  · rw [k]; simp -implicitDefEqProofs
  · simp only [encI] at k1
    simp -implicitDefEqProofs [k1]
end Go.Proofs.Ytihljollfbogeaa
