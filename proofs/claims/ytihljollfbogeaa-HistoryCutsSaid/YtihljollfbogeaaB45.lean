/- Runs: the law HistoryCuts. No condition. -/
import Derived.Test.YtihljollfbogeaaD15
import Derived.Test.YtihljollfbogeaaL15
set_option linter.unusedSimpArgs false
set_option maxHeartbeats 1000000
namespace Go.Proofs.Ytihljollfbogeaa
open Go Go.RowKit
attribute [local simp] run_skip run_ret run_exit run_seq run_block run_reg thn_norm thn_toNorm thn_ret thn_exit endB_norm endB_toNorm endB_ret endB_exit regA_nil regA_cons putA_some putA_none insA_plain opA COp.ev pu dl dl0 appD nameOf nameOr_ptr nameOr_ref nameOr_mp nameOr_nl nameOr_full nameOr_grown grown_zero grownH_nil hset_id toNorm putA aEval_tmp aEval_func aEval_int aEval_bool aEval_nil edst eset_same eset_ne cmp_lss cmp_leq cmp_gtr cmp_geq cmp_eql cmp_neq num_add num_sub num_mul num_rem cmp_beql cmp_bneq cmp_seql cmp_sneq ite_map ite_bind ends_some ends_none ends_ite ends_bind ends_map rnd_norm rnd_toNorm rnd_exit rnd_ret norm_encI norm_encB oLit oAppend Blk.isDead oElems oSlice oExtract oIndexA oMk0 oConvInt oMin oMax oMapNew oMapPut oMapGet findA oNil AV.single valueA oPick oNot argEnv ressA resA tupA oNew oLoad oStore oFieldAddr oLen oIndexS asNum rowAt? hset partA AV.cells AV.storable AV.one hemp callA isMk copyA callD outA_sc outA_imm outA_agg outA_tup outA_ref outA_nl outA_full fz_sc fz_imm fz_full fz_nl fz_fn fz_agg fz_tup fz_ref fzA_sc fzA_imm fzA_full fzA_nl fzA_agg fzA_ref fz1_sc fz1_imm fz1_full fz1_nl fz1_ref fzRow_all AV.scalar AV.scalar1 evC nm nmA nm1 nm0 insA_b insA_skip run_condB isBool boolOf run_drawn endD_mk drawA_nil drawA_cons nextD_mk consE_mk putD_some putD_none insD_plain insD_b insD_skip opD COp.rd COp.wr AV.nms AV.nms1 indeps indep oMake oBuildC fillC setCellsA ofVal ofCell Value.oneCell' reshape LIM AV.pure AV.pure1 norm norm1 run_loop
/-- The numbers below n that answer p. -/
def selL (p : Int → Bool) (n : Nat) : List Int := ((List.range n).map fun a : Nat => (a : Int)).filter p
theorem selL_succ (p : Int → Bool) (n : Nat) : selL p (n + 1) = if p n = true then selL p n ++ [(n : Int)] else selL p n := by
  unfold selL
  rw [List.range_succ, List.map_append, List.filter_append]
  by_cases c : p n = true
  · rw [if_pos c]; simp [c]
  · rw [if_neg c]; simp [c]
theorem selL_len (p : Int → Bool) (n : Nat) : (selL p n).length ≤ n := by
  unfold selL
  exact Nat.le_trans (List.length_filter_le _ _) (by simp)
theorem contains83h_run (H : Hand) (I : Inl) (N : Nat) (l : List Int) (x : Int) (h160 : H 160 [encIs l, encI x] = some (encI (idxI x l))) : Ends (fnA H I N 1 c83 [encIs l, encI x] hemp) (fun p => outA p = encB (decide (x ∈ l))) := by
  have hm : 0 ≤ idxI x l ↔ x ∈ l := by
    unfold idxI
    rw [idxP_nonneg]
    simp
  simp only [encIs, encI] at h160
  by_cases c : x ∈ l
  · have := hm.2 c
    simp -implicitDefEqProofs [fnA, c83, h160, encIs, encI, encB, c, this]
  · have : ¬ 0 ≤ idxI x l := fun e => c (hm.1 e)
    simp -implicitDefEqProofs [fnA, c83, h160, encIs, encI, encB, c, this]
theorem loop94 (H : Hand) (I : Inl) (N n : Nat) (hn : n < 1073741824) (hN : n < N) (h : Hp) (e : Env) (e0 : e 0 = encI n) (e3 : e 3 = .nl) (e4 : e 4 = encI 0) :
    Ends (iter (run H I N 1 b94_0) N (e, h)) (fun r => r.1 = .exit 0 ∧ Gw r.2.2 525 1 (r.2.1 3) ((selL (fun _ => true) n).map encI)) := by
  refine Ends.mono (for_loop n (fun i s => s.1 0 = encI n ∧ s.1 4 = encI i ∧ Gw s.2 525 1 (s.1 3) ((selL (fun _ => true) i).map encI))
    (fun x s => x = .exit 0 ∧ Gw s.2 525 1 (s.1 3) ((selL (fun _ => true) n).map encI)) ?_ ?_ hN ⟨e0, e4, by show Gw h 525 1 (e 3) _; rw [e3]; exact Gw.nil⟩) (fun r hr => hr.2)
  · rintro i e h' hi ⟨g0, g4, gw⟩
    simp only [encI] at g0 g4 gw
    have hlt : (i : Int) < (n : Int) := by omega
    have hw : IntKind.i64.wrap ((i : Int) + 1) = (i : Int) + 1 := wrap_small (by omega) (by omega)
    have hl := selL_len (fun _ => true) i
    have happ := gw.grow (x := .sc (.int .i64 i)) (encI_ok i) (by simp [LIM]; omega)
    have hs : (selL (fun _ => true) (i + 1)).map encI = (selL (fun _ => true) i).map encI ++ [AV.sc (.int .i64 i)] := by rw [selL_succ, if_pos rfl, List.map_append]; rfl
    rw [hs]
    generalize (selL (fun _ => true) i).map encI = L at gw happ ⊢
    generalize g3 : e 3 = a at gw happ
    rcases gw with ⟨rfl, hnil⟩ | ⟨v, rfl, hrow⟩
    all_goals
      simp -implicitDefEqProofs [b94_0, g0, g3, g4, hlt, hw, happ, encI, -oAppend]
      exact Gw.mk (by simp) (by simp)
  · rintro e h' ⟨g0, g4, gw⟩
    simp only [encI] at g0 g4
    simp -implicitDefEqProofs [b94_0, g0, g4]
    exact gw
theorem first94_run (H : Hand) (I : Inl) (N n : Nat) (hn : n < 1073741824) (hN : n < N) : Ends (fnA H I N 1 c94 [encI n] hemp) (fun p => outA p = encIs (selL (fun _ => true) n)) := by
  simp -implicitDefEqProofs [fnA, c94]
  refine Ends.mono (loop94 H I N n hn hN _ _ (by simp [argEnv]) (by simp) (by simp [encI])) ?_
  rintro ⟨x, e', h'⟩ ⟨rfl, gw⟩
  simp only at gw
  have hone := gw.one
  have fa := fzRow_all (k := 1) (L := (selL (fun _ => true) n).map encI) rfl (all_map (by simp [encI]) _)
  rw [map_norm (f := encI) (by simp [encI])] at fa
  generalize g3 : e' 3 = a at *
  rcases gw with ⟨rfl, hnil⟩ | ⟨v, rfl, hrow⟩
  · simp -implicitDefEqProofs [g3, encIs]
    simpa using hnil
  · simp only [List.length_map] at hrow fa
    simp -implicitDefEqProofs [g3, encIs, hrow, fa]
theorem loop15a (H : Hand) (I : Inl) (N : Nat) (a b : List Int) (h : Hist) (n v : Nat) (hn : n < 1073741824) (hN : n < N) (h94 : ∀ i : Nat, i < n → H 94 [encI i] = some (encIs (selL (fun _ => true) i))) (h32 : ∀ i : Nat, i < n → H 32 [h.enc, encIs (selL (fun _ => true) i)] = some (encB true))
    (e : Env) (hp : Hp) (e1 : e 1 = encIs a) (e2 : e 2 = encIs b) (e7 : e 7 = .ptr 519 v 0 0) (e35 : e 35 = encI n) (e36 : e 36 = encI 0) (hm : hp 519 = (v, .row 3 [h.enc])) :
    Ends (iter (run H I N 1 b15_2) N (e, hp)) (fun r => r.1 = .exit 0 ∧ r.2.2 = hp ∧ r.2.1 1 = encIs a ∧ r.2.1 2 = encIs b ∧ r.2.1 7 = .ptr 519 v 0 0) := by
  refine Ends.mono (for_loop n (fun i s => s.1 1 = encIs a ∧ s.1 2 = encIs b ∧ s.1 7 = .ptr 519 v 0 0 ∧ s.1 35 = encI n ∧ s.1 36 = encI i ∧ s.2 = hp)
    (fun x s => x = .exit 0 ∧ s.2 = hp ∧ s.1 1 = encIs a ∧ s.1 2 = encIs b ∧ s.1 7 = .ptr 519 v 0 0) ?_ ?_ hN ⟨e1, e2, e7, e35, e36, rfl⟩) (fun r hr => hr.2)
  · rintro i e h' hi ⟨g1, g2, g7, g35, g36, rfl⟩
    have hlt : (i : Int) < (n : Int) := by omega
    have hw : IntKind.i64.wrap ((i : Int) + 1) = (i : Int) + 1 := wrap_small (by omega) (by omega)
    have k94 := h94 i hi
    have k32 := h32 i hi
    obtain ⟨r1, r2, r3⟩ := h
    simp only [encI, encIs, encB, Hist.enc, encWs, encEs] at g1 g2 g7 g35 g36 hm k94 k32
    simp -implicitDefEqProofs [b15_2, g1, g2, g7, g35, g36, hm, hlt, hw, k94, k32, encIs, encI, encWs, encEs]
  · rintro e h' ⟨g1, g2, g7, g35, g36, rfl⟩
    simp only [encI] at g35 g36
    simp -implicitDefEqProofs [b15_2, g35, g36]
    exact ⟨g1, g2, g7⟩
theorem loop15b (H : Hand) (I : Inl) (N : Nat) (a b : List Int) (h : Hist) (n v : Nat) (hn : n < 1073741824) (hN : n < N) (A : Nat → List Int) (h35 : ∀ i : Nat, i < n → H 35 [h.enc, encI i] = some (encIs (A i))) (h32 : ∀ i : Nat, i < n → H 32 [h.enc, encIs (A i)] = some (encB true))
    (e : Env) (hp : Hp) (e1 : e 1 = encIs a) (e2 : e 2 = encIs b) (e7 : e 7 = .ptr 519 v 0 0) (e48 : e 48 = encI n) (e49 : e 49 = encI 0) (hm : hp 519 = (v, .row 3 [h.enc])) :
    Ends (iter (run H I N 1 b15_1) N (e, hp)) (fun r => r.1 = .exit 2 ∧ r.2.2 = hp ∧ r.2.1 1 = encIs a ∧ r.2.1 2 = encIs b ∧ r.2.1 7 = .ptr 519 v 0 0) := by
  refine Ends.mono (for_loop n (fun i s => s.1 1 = encIs a ∧ s.1 2 = encIs b ∧ s.1 7 = .ptr 519 v 0 0 ∧ s.1 48 = encI n ∧ s.1 49 = encI i ∧ s.2 = hp)
    (fun x s => x = .exit 2 ∧ s.2 = hp ∧ s.1 1 = encIs a ∧ s.1 2 = encIs b ∧ s.1 7 = .ptr 519 v 0 0) ?_ ?_ hN ⟨e1, e2, e7, e48, e49, rfl⟩) (fun r hr => hr.2)
  · rintro i e h' hi ⟨g1, g2, g7, g48, g49, rfl⟩
    have hlt : (i : Int) < (n : Int) := by omega
    have hw : IntKind.i64.wrap ((i : Int) + 1) = (i : Int) + 1 := wrap_small (by omega) (by omega)
    have k35 := h35 i hi
    have k32 := h32 i hi
    obtain ⟨r1, r2, r3⟩ := h
    simp only [encI, encIs, encB, Hist.enc, encWs, encEs] at g1 g2 g7 g48 g49 hm k35 k32
    simp -implicitDefEqProofs [b15_1, g1, g2, g7, g48, g49, hm, hlt, hw, k35, k32, encIs, encI, encWs, encEs]
  · rintro e h' ⟨g1, g2, g7, g48, g49, rfl⟩
    simp only [encI] at g48 g49
    simp -implicitDefEqProofs [b15_1, g48, g49]
    exact ⟨g1, g2, g7⟩
def inU (a b : List Int) (x : Int) : Bool := decide (x ∈ a) || decide (x ∈ b)
def inV (a b : List Int) (x : Int) : Bool := decide (x ∈ a) && decide (x ∈ b)
theorem loop15c (H : Hand) (I : Inl) (N : Nat) (a b : List Int) (h : Hist) (n v : Nat) (hn : n < 1073741824) (hN : n < N) (h83a : ∀ x, H 83 [encIs a, encI x] = some (encB (decide (x ∈ a)))) (h83b : ∀ x, H 83 [encIs b, encI x] = some (encB (decide (x ∈ b))))
    (e : Env) (hp : Hp) (e1 : e 1 = encIs a) (e2 : e 2 = encIs b) (e7 : e 7 = .ptr 519 v 0 0) (e11 : e 11 = .nl) (e12 : e 12 = .nl) (e72 : e 72 = encI n) (e73 : e 73 = encI 0) (hm : hp 519 = (v, .row 3 [h.enc])) :
    Ends (iter (run H I N 1 b15_0) N (e, hp)) (fun r => r.1 = .exit 4 ∧ r.2.1 7 = .ptr 519 v 0 0 ∧ r.2.2 519 = (v, .row 3 [h.enc]) ∧ Gw r.2.2 599 1 (r.2.1 11) ((selL (inU a b) n).map encI) ∧ Gw r.2.2 611 1 (r.2.1 12) ((selL (inV a b) n).map encI)) := by
  refine Ends.mono (for_loop n (fun i s => s.1 1 = encIs a ∧ s.1 2 = encIs b ∧ s.1 7 = .ptr 519 v 0 0 ∧ s.1 72 = encI n ∧ s.1 73 = encI i ∧ s.2 519 = (v, .row 3 [h.enc]) ∧ Gw s.2 599 1 (s.1 11) ((selL (inU a b) i).map encI) ∧ Gw s.2 611 1 (s.1 12) ((selL (inV a b) i).map encI))
    (fun x s => x = .exit 4 ∧ s.1 7 = .ptr 519 v 0 0 ∧ s.2 519 = (v, .row 3 [h.enc]) ∧ Gw s.2 599 1 (s.1 11) ((selL (inU a b) n).map encI) ∧ Gw s.2 611 1 (s.1 12) ((selL (inV a b) n).map encI)) ?_ ?_ hN ⟨e1, e2, e7, e72, e73, hm, by show Gw hp 599 1 (e 11) _; rw [e11]; exact Gw.nil, by show Gw hp 611 1 (e 12) _; rw [e12]; exact Gw.nil⟩) (fun r hr => hr.2)
  · rintro i e h' hi ⟨g1, g2, g7, g72, g73, hm, gu, gv⟩
    have hlt : (i : Int) < (n : Int) := by omega
    have hw : IntKind.i64.wrap ((i : Int) + 1) = (i : Int) + 1 := wrap_small (by omega) (by omega)
    have hlu := selL_len (inU a b) i
    have hlv := selL_len (inV a b) i
    have ka := h83a i
    have kb := h83b i
    have hU : (selL (inU a b) (i + 1)).map encI = if inU a b i = true then (selL (inU a b) i).map encI ++ [AV.sc (.int .i64 i)] else (selL (inU a b) i).map encI := by rw [selL_succ]; split <;> simp [encI]
    have hV : (selL (inV a b) (i + 1)).map encI = if inV a b i = true then (selL (inV a b) i).map encI ++ [AV.sc (.int .i64 i)] else (selL (inV a b) i).map encI := by rw [selL_succ]; split <;> simp [encI]
    rw [hU, hV]
    have hu1 : inU a b i = (decide ((i : Int) ∈ a) || decide ((i : Int) ∈ b)) := rfl
    have hv1 : inV a b i = (decide ((i : Int) ∈ a) && decide ((i : Int) ∈ b)) := rfl
    rw [hu1, hv1]
    have pu := fun h'' (q : h'' 599 = h' 599) => gu.grow (x := .sc (.int .i64 i)) (encI_ok i) (by simp [LIM]; omega) h'' q
    have pv := fun h'' (q : h'' 611 = h' 611) => gv.grow (x := .sc (.int .i64 i)) (encI_ok i) (by simp [LIM]; omega) h'' q
    have lu : ((selL (inU a b) i).map encI).length ≤ i := by simpa using hlu
    have lv : ((selL (inV a b) i).map encI).length ≤ i := by simpa using hlv
    generalize (selL (inU a b) i).map encI = LU at gu pu lu ⊢
    generalize (selL (inV a b) i).map encI = LV at gv pv lv ⊢
    obtain ⟨r1, r2, r3⟩ := h
    simp only [encI, encIs, encB, Hist.enc, encWs, encEs] at g1 g2 g7 g72 g73 hm ka kb gu gv
    simp only at pu pv
    generalize g11 : e 11 = A at gu pu
    generalize g12 : e 12 = B at gv pv
    by_cases ca : (i : Int) ∈ a <;> by_cases cb : (i : Int) ∈ b <;> rcases gu with ⟨rfl, rfl⟩ | ⟨vu, rfl, hu⟩ <;> rcases gv with ⟨rfl, rfl⟩ | ⟨vv, rfl, hv⟩
    all_goals
      simp only [ca, cb, decide_true, decide_false] at ka kb
      simp -implicitDefEqProofs [b15_0, g1, g2, g7, g11, g12, g72, g73, hm, hlt, hw, ka, kb, pu, pv, ca, cb, encIs, encI, encWs, encEs, Hist.enc, -oAppend]
    all_goals
      first
      | exact ⟨.inl ⟨rfl, rfl⟩, .inl ⟨rfl, rfl⟩⟩
      | exact ⟨.inl ⟨rfl, rfl⟩, Gw.mk (by first | (simp; done) | exact hv | (simpa [hset] using hv)) rfl⟩
      | exact ⟨Gw.mk (by first | (simp; done) | exact hu | (simpa [hset] using hu)) rfl, .inl ⟨rfl, rfl⟩⟩
      | exact ⟨Gw.mk (by first | (simp; done) | exact hu | (simpa [hset] using hu)) rfl, Gw.mk (by first | (simp; done) | exact hv | (simpa [hset] using hv)) rfl⟩
      | exact ⟨Gw.mk (by simp) (by simp), .inl ⟨rfl, rfl⟩⟩
      | exact ⟨Gw.mk (by simp) (by simp), Gw.mk (by first | (simp; done) | exact hv | (simpa [hset] using hv)) rfl⟩
      | exact ⟨Gw.mk (by simp) (by simp), Gw.mk (by simp) (by simp)⟩
  · rintro e h' ⟨g1, g2, g7, g72, g73, hm, gu, gv⟩
    simp only [encI] at g72 g73
    simp -implicitDefEqProofs [b15_0, g72, g73]
    exact ⟨g7, hm, gu, gv⟩
theorem law15_run (H : Hand) (I : Inl) (N : Nat) (p h : Hist) (a b : List Int) (ok ca cb : Bool) (A : Nat → List Int) (h29 : H 29 [] = some (encB true)) (h78 : H 78 [p.enc] = some (.tup [h.enc, encB ok])) (hN : 200 < N)
    (hok : ok = true → a.length ≤ 50 → b.length ≤ 50 → h.writes.length ≤ 40 ∧ h.events.length ≤ 90 ∧ (∀ i : Nat, i < h.writes.length + 1 → H 94 [encI i] = some (encIs (selL (fun _ => true) i))) ∧ (∀ i : Nat, i < h.writes.length + 1 → H 32 [h.enc, encIs (selL (fun _ => true) i)] = some (encB true)) ∧
      (∀ i : Nat, i < h.events.length + 1 → H 35 [h.enc, encI i] = some (encIs (A i))) ∧ (∀ i : Nat, i < h.events.length + 1 → H 32 [h.enc, encIs (A i)] = some (encB true)) ∧
      (∀ x, H 83 [encIs a, encI x] = some (encB (decide (x ∈ a)))) ∧ (∀ x, H 83 [encIs b, encI x] = some (encB (decide (x ∈ b)))) ∧ H 32 [h.enc, encIs a] = some (encB ca) ∧ H 32 [h.enc, encIs b] = some (encB cb) ∧
      (ca = true → cb = true → H 32 [h.enc, encIs (selL (inU a b) h.writes.length)] = some (encB true) ∧ H 32 [h.enc, encIs (selL (inV a b) h.writes.length)] = some (encB true))) :
    Ends (fnA H I N 1 c15 [p.enc, encIs a, encIs b] hemp) (fun r => outA r = encB true) := by
  obtain ⟨p1, p2, p3⟩ := p
  have hh : h.enc = .agg [encIs h.sizes, encWs h.writes, encEs h.events] := rfl
  rw [hh] at h78
  simp only [Hist.enc, encIs, encWs, encEs, encB, encI] at h29 h78
  cases ok
  · simp -implicitDefEqProofs [fnA, c15, h78, h29, encIs, encWs, encEs, encI, encB, Hist.enc]
  by_cases la : 50 < (a.length : Int)
  · simp -implicitDefEqProofs [fnA, c15, h78, h29, la, encIs, encWs, encEs, encI, encB, Hist.enc]
  by_cases lb : 50 < (b.length : Int)
  · simp -implicitDefEqProofs [fnA, c15, h78, h29, la, lb, encIs, encWs, encEs, encI, encB, Hist.enc]
  obtain ⟨n1, n2, h94, h32f, h35, h32a, h83a, h83b, h32A, h32B, hU⟩ := hok rfl (by omega) (by omega)
  have w1 : IntKind.i64.wrap ((h.writes.length : Int) + 1) = (h.writes.length : Int) + 1 := wrap_small (by omega) (by omega)
  have w2 : IntKind.i64.wrap ((h.events.length : Int) + 1) = (h.events.length : Int) + 1 := wrap_small (by omega) (by omega)
  simp -implicitDefEqProofs [fnA, c15, h78, h29, la, lb, w1, encIs, encWs, encEs, encI, encB, Hist.enc]
  refine Ends.mono (loop15a H I N a b h (h.writes.length + 1) 1 (by omega) (by omega) h94 h32f _ _ (by simp [argEnv, encIs]) (by simp [argEnv, encIs]) (by simp) (by simp [encI]) (by simp [encI]) (by simp [Hist.enc, encIs, encWs, encEs])) ?_
  rintro ⟨x, e1, h1⟩ ⟨rfl, rfl, g1, g2, g7⟩
  simp only [encIs] at g1 g2 g7
  simp -implicitDefEqProofs [g1, g2, g7, w2]
  refine Ends.mono (loop15b H I N a b h (h.events.length + 1) 1 (by omega) (by omega) A h35 h32a _ _ (by simp [g1, encIs]) (by simp [g2, encIs]) (by simp [g7]) (by simp [encI]) (by simp [encI]) (by simp [Hist.enc, encIs, encWs, encEs])) ?_
  rintro ⟨x, e2, h2⟩ ⟨rfl, rfl, k1, k2, k7⟩
  simp only [encIs] at k1 k2 k7
  rw [hh] at h32A h32B
  simp only [encIs, encWs, encEs, encB] at h32A h32B
  cases ca
  · simp -implicitDefEqProofs [k1, k2, k7, h29, h32A]
  cases cb
  · simp -implicitDefEqProofs [k1, k2, k7, h29, h32A, h32B]
  obtain ⟨hu32, hv32⟩ := hU rfl rfl
  rw [hh] at hu32 hv32
  simp only [encIs, encWs, encEs, encB] at hu32 hv32
  simp -implicitDefEqProofs [k1, k2, k7, h29, h32A, h32B]
  refine Ends.mono (loop15c H I N a b h h.writes.length 1 (by omega) (by omega) h83a h83b _ _ (by simp [k1, encIs]) (by simp [k2, encIs]) (by simp [k7]) (by simp) (by simp) (by simp [encI]) (by simp [encI]) (by simp [Hist.enc, encIs, encWs, encEs])) ?_
  rintro ⟨x, e3, h3⟩ ⟨rfl, j7, jm, gu, gv⟩
  simp only [hh, encIs, encWs, encEs] at j7 jm gu gv
  have fu := fzRow_all (k := 1) (L := (selL (inU a b) h.writes.length).map encI) rfl (all_map (by simp [encI]) _)
  have fv := fzRow_all (k := 1) (L := (selL (inV a b) h.writes.length).map encI) rfl (all_map (by simp [encI]) _)
  rw [map_norm (f := encI) (by simp [encI])] at fu fv
  generalize (selL (inU a b) h.writes.length).map encI = LU at *
  generalize (selL (inV a b) h.writes.length).map encI = LV at *
  generalize g11 : e3 11 = X at gu
  generalize g12 : e3 12 = Y at gv
  rcases gu with ⟨rfl, rfl⟩ | ⟨vu, rfl, hu⟩ <;> rcases gv with ⟨rfl, rfl⟩ | ⟨vv, rfl, hv⟩
  · simp -implicitDefEqProofs [j7, jm, g11, g12, h29, hu32, hv32, encB]
  · simp -implicitDefEqProofs [j7, jm, g11, g12, h29, hu32, hv32, hv, fv, encB]
  · simp -implicitDefEqProofs [j7, jm, g11, g12, h29, hu32, hv32, hu, fu, encB]
  · simp -implicitDefEqProofs [j7, jm, g11, g12, h29, hu32, hv32, hu, hv, fu, fv, encB]
end Go.Proofs.Ytihljollfbogeaa
