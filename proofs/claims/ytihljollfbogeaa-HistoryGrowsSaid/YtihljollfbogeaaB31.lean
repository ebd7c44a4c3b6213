/- Runs: sets of writes, closed ones. No condition. -/
import Derived.Test.YtihljollfbogeaaB30
set_option linter.unusedSimpArgs false
namespace Go.Proofs.Ytihljollfbogeaa
open Go Go.RowKit
attribute [local simp] run_skip run_ret run_exit run_seq run_block run_reg thn_norm thn_toNorm thn_ret thn_exit endB_norm endB_toNorm endB_ret endB_exit regA_nil regA_cons putA_some putA_none insA_plain opA COp.ev pu dl dl0 appD nameOf nameOr_ptr nameOr_ref nameOr_mp nameOr_nl nameOr_full nameOr_grown grown_zero grownH_nil hset_id toNorm putA aEval_tmp aEval_func aEval_int aEval_bool aEval_nil edst eset_same eset_ne cmp_lss cmp_leq cmp_gtr cmp_geq cmp_eql cmp_neq num_add num_sub num_mul num_rem cmp_beql cmp_bneq cmp_seql cmp_sneq ite_map ite_bind ends_some ends_none ends_ite ends_bind ends_map rnd_norm rnd_toNorm rnd_exit rnd_ret norm_encI norm_encB oLit oAppend frzD_no Blk.isDead oElems oSlice oExtract oIndexA oMk0 oConvInt oMin oMax oMapNew oMapPut oMapGet findA oNil AV.single valueA oPick oNot argEnv ressA resA tupA oNew oLoad oStore oFieldAddr oLen oIndexS asNum rowAt? hset partA AV.cells AV.storable AV.one hemp callA isMk copyA callD outA_sc outA_imm outA_agg outA_tup outA_ref outA_nl outA_full fz_sc fz_imm fz_full fz_nl fz_fn fz_agg fz_tup fz_ref fzA_sc fzA_imm fzA_full fzA_nl fzA_agg fzA_ref fz1_sc fz1_imm fz1_full fz1_nl fz1_ref fzRow_all AV.scalar AV.scalar1 evC nm nmA nm1 nm0 insA_b insA_skip run_condB isBool boolOf run_drawn endD_mk drawA_nil drawA_cons nextD_mk consE_mk putD_some putD_none insD_plain insD_b insD_skip opD COp.rd COp.wr AV.nms AV.nms1 indeps indep oMake oBuildC fillC setCellsA ofVal ofCell Value.oneCell' reshape LIM AV.pure AV.pure1 norm norm1 run_loop
def badS (nw : Int) (l : List Int) (i : Nat) : Bool := decide (l.getD i 0 < 0) || decide (nw ≤ l.getD i 0) || (decide (0 < i) && decide (l.getD i 0 ≤ l.getD (i - 1) 0))
def anyS (nw : Int) (l : List Int) : Bool := (List.range l.length).any (badS nw l)
theorem anyN_true {n : Nat} {f : Nat → Bool} {i : Nat} (hi : i < n) (h : f i = true) : (List.range n).any f = true := List.any_eq_true.2 ⟨i, List.mem_range.2 hi, h⟩
theorem anyN_false {n : Nat} {f : Nat → Bool} (h : ∀ i, i < n → f i = false) : (List.range n).any f = false := List.any_eq_false.2 fun i hi => by simp [h i (List.mem_range.1 hi)]
theorem uptoB {f : Nat → Bool} {i : Nat} (h : ∀ j, j < i → f j = false) (hi : f i = false) : ∀ j, j < i + 1 → f j = false := fun j hj => by
  by_cases e : j = i
  · subst e; exact hi
  · exact h j (by omega)
theorem loop129 (H : Hand) (I : Inl) (N q : Nat) (l : List Int) (nw : Int) (hx : l.length < 1073741824) (hN : l.length < N) (h : Hp) (e : Env) (e0 : e 0 = encIs l) (e1 : e 1 = encI nw) (e5 : e 5 = encI 0) :
    Ends (iter (run H I N q b129_0) N (e, h)) (fun r => r.2.2 = h ∧ ((r.1 = .exit 0 ∧ anyS nw l = false) ∨ (r.1 = .ret ∧ r.2.1 4 = encB false ∧ anyS nw l = true))) := by
  refine Ends.mono (for_loop l.length (fun i s => s.1 0 = encIs l ∧ s.1 1 = encI nw ∧ s.1 5 = encI i ∧ s.2 = h ∧ ∀ j, j < i → badS nw l j = false) (fun y s => s.2 = h ∧ ((y = .exit 0 ∧ anyS nw l = false) ∨ (y = .ret ∧ s.1 4 = encB false ∧ anyS nw l = true))) ?_ ?_ hN ⟨e0, e1, e5, rfl, fun j hj => absurd hj (by omega)⟩) (fun r hr => hr.2)
  · rintro i e h' hi ⟨g0, g1, g5, rfl, gj⟩
    simp only [encI, encIs] at g0 g1 g5
    have hlt : (i : Int) < (l.length : Int) := by omega
    have hw : IntKind.i64.wrap ((i : Int) + 1) = (i : Int) + 1 := wrap_small (by omega) (by omega)
    have hbad := fun hb : badS nw l i = true => anyN_true (f := badS nw l) hi hb
    by_cases c1 : l[i] < 0
    · have : anyS nw l = true := hbad (by simp [badS, hi, c1])
      simp -implicitDefEqProofs [b129_0, d129_0, p129_0, g0, g1, g5, hlt, hi, c1, encI, encB, this]
    by_cases c2 : nw ≤ l[i]
    · have : anyS nw l = true := hbad (by simp [badS, hi, c2])
      simp -implicitDefEqProofs [b129_0, d129_0, p129_0, g0, g1, g5, hlt, hi, c1, c2, encI, encB, this]
    by_cases c3 : 0 < i
    · have hw1 : IntKind.i64.wrap ((i : Int) - 1) = ((i - 1 : Nat) : Int) := by rw [wrap_small (by omega) (by omega)]; omega
      have hi1 : i - 1 < l.length := by omega
      have hlt1 : ((i - 1 : Nat) : Int) < (l.length : Int) := by omega
      by_cases c4 : l[i] ≤ l[i - 1]
      · have : anyS nw l = true := hbad (by simp [badS, hi, hi1, c3, c4])
        simp -implicitDefEqProofs [b129_0, d129_0, p129_0, g0, g1, g5, hlt, hi, c1, c2, c3, c4, hw1, hi1, hlt1, encI, encB, this]
      · have hf : badS nw l i = false := by simp [badS, hi, hi1, c3, c1, c2, c4]
        simp -implicitDefEqProofs [b129_0, d129_0, p129_0, g0, g1, g5, hlt, hi, c1, c2, c3, c4, hw1, hi1, hlt1, encI, encIs, hw]
        exact uptoB gj hf
    · have hf : badS nw l i = false := by simp [badS, hi, c3, c1, c2]
      have c3' : i = 0 := by omega
      subst c3'
      simp -implicitDefEqProofs [b129_0, d129_0, p129_0, g0, g1, g5, hi, c1, c2, encI, encIs, hw]
      exact ⟨by decide, hf⟩
  · rintro e h' ⟨g0, g1, g5, rfl, gj⟩
    simp only [encI, encIs] at g0 g1 g5
    have : anyS nw l = false := anyN_false gj
    simp -implicitDefEqProofs [b129_0, g0, g1, g5, encI, this]
theorem set129_run (H : Hand) (I : Inl) (N q : Nat) (l : List Int) (nw : Int) (hx : l.length < 1073741824) (hN : l.length < N) : Ends (fnA H I N q c129 [encIs l, encI nw] hemp) (fun p => outA p = encB (!anyS nw l)) := by
  simp -implicitDefEqProofs [fnA, c129, encI, encIs]
  refine Ends.mono (loop129 H I N q l nw hx hN _ _ (by simp [encIs]) (by simp [encI]) (by simp [encI])) ?_
  rintro ⟨y, e', h'⟩ ⟨k0, k⟩
  simp only at k0 k
  subst k0
  rcases k with ⟨rfl, k1⟩ | ⟨rfl, k1, k2⟩
  · simp -implicitDefEqProofs [k1, encB]
  · simp only [encB] at k1
    simp -implicitDefEqProofs [k1, k2, encB]
theorem loop127 (H : Hand) (I : Inl) (N q : Nat) (l : List Int) (ws : List AV) (c0 c2 c3 c4 : AV) (hx : l.length < 1073741824) (hN : l.length < N) (h : Hp) (m v : Nat) (hm : h m = (v, .row 5 [.agg [c0, .imm ws, c2, c3, c4]])) (e : Env) (e1 : e 1 = encIs l) (e2 : e 2 = .ptr m v 0 0) (e7 : e 7 = encIs l) (e8 : e 8 = encI l.length) (e9 : e 9 = encI 0) :
    Ends (iter (run H I N q b127_0) N (e, h)) (fun r => r.2.2 = h ∧ ((r.1 = .exit 0 ∧ anyS ws.length l = false) ∨ (r.1 = .ret ∧ r.2.1 4 = encB false ∧ anyS ws.length l = true))) := by
  refine Ends.mono (for_loop l.length (fun i s => s.1 1 = encIs l ∧ s.1 2 = .ptr m v 0 0 ∧ s.1 7 = encIs l ∧ s.1 8 = encI l.length ∧ s.1 9 = encI i ∧ s.2 = h ∧ ∀ j, j < i → badS ws.length l j = false) (fun y s => s.2 = h ∧ ((y = .exit 0 ∧ anyS ws.length l = false) ∨ (y = .ret ∧ s.1 4 = encB false ∧ anyS ws.length l = true))) ?_ ?_ hN ⟨e1, e2, e7, e8, e9, rfl, fun j hj => absurd hj (by omega)⟩) (fun r hr => hr.2)
  · rintro i e h' hi ⟨g1, g2, g7, g8, g9, rfl, gj⟩
    simp only [encI, encIs] at g1 g2 g7 g8 g9 hm
    have hlt : (i : Int) < (l.length : Int) := by omega
    have hw : IntKind.i64.wrap ((i : Int) + 1) = (i : Int) + 1 := wrap_small (by omega) (by omega)
    have hbad := fun hb : badS ws.length l i = true => anyN_true (f := badS ws.length l) hi hb
    by_cases c1 : l[i] < 0
    · have : anyS ws.length l = true := hbad (by simp [badS, hi, c1])
      simp -implicitDefEqProofs [b127_0, g1, g2, g7, g8, g9, hm, hlt, hi, c1, encI, encB, this]
    by_cases c2' : (ws.length : Int) ≤ l[i]
    · have : anyS ws.length l = true := hbad (by simp [badS, hi, c2'])
      simp -implicitDefEqProofs [b127_0, g1, g2, g7, g8, g9, hm, hlt, hi, c1, c2', encI, encB, this]
    by_cases c3' : 0 < i
    · have hw1 : IntKind.i64.wrap ((i : Int) - 1) = ((i - 1 : Nat) : Int) := by rw [wrap_small (by omega) (by omega)]; omega
      have hi1 : i - 1 < l.length := by omega
      have hlt1 : ((i - 1 : Nat) : Int) < (l.length : Int) := by omega
      by_cases c4' : l[i] ≤ l[i - 1]
      · have : anyS ws.length l = true := hbad (by simp [badS, hi, hi1, c3', c4'])
        simp -implicitDefEqProofs [b127_0, g1, g2, g7, g8, g9, hm, hlt, hi, c1, c2', c3', c4', hw1, hi1, hlt1, encI, encB, this]
      · have hf : badS ws.length l i = false := by simp [badS, hi, hi1, c3', c1, c2', c4']
        simp -implicitDefEqProofs [b127_0, g1, g2, g7, g8, g9, hm, hlt, hi, c1, c2', c3', c4', hw1, hi1, hlt1, encI, encIs, hw]
        exact uptoB gj hf
    · have hf : badS ws.length l i = false := by simp [badS, hi, c3', c1, c2']
      have c3'' : i = 0 := by omega
      subst c3''
      simp -implicitDefEqProofs [b127_0, g1, g2, g7, g8, g9, hm, hi, c1, c2', encI, encIs, hw]
      exact ⟨by decide, hf⟩
  · rintro e h' ⟨g1, g2, g7, g8, g9, rfl, gj⟩
    simp only [encI, encIs] at g1 g2 g7 g8 g9 hm
    have : anyS ws.length l = false := anyN_false gj
    simp -implicitDefEqProofs [b127_0, g7, g8, g9, encI, this]
theorem set127_run (H : Hand) (I : Inl) (N : Nat) (hs : Hist) (Is As l : List Int) (hx : l.length < 1073741824) (hN : l.length < N) : Ends (fnA H I N 1 c127 [encChk hs Is As, encIs l] hemp) (fun p => outA p = encB (!anyS hs.writes.length l)) := by
  simp -implicitDefEqProofs [fnA, c127, encChk, encIs, encWs, encEs, encI]
  refine Ends.mono (loop127 H I N 1 l (hs.writes.map Wr.enc) (encIs hs.sizes) (encEs hs.events) (encIs Is) (encIs As) hx hN _ 514 1 (by simp [encIs, encEs]) _ (by simp [encIs]) (by simp) (by simp [encIs]) (by simp [encI]) (by simp [encI])) ?_
  rintro ⟨y, e', h'⟩ ⟨k0, k⟩
  simp only [List.length_map] at k0 k
  subst k0
  rcases k with ⟨rfl, k1⟩ | ⟨rfl, k1, k2⟩
  · simp -implicitDefEqProofs [k1, encB]
  · simp only [encB] at k1
    simp -implicitDefEqProofs [k1, k2, encB]
theorem loop198 (H : Hand) (I : Inl) (N q : Nat) (l : List Int) (n : Int) (hx : l.length < 1073741824) (hN : l.length < N) (h : Hp) (e : Env) (e0 : e 0 = encIs l) (e1 : e 1 = encI n) (e5 : e 5 = encI 0) :
    Ends (iter (run H I N q b198_0) N (e, h)) (fun r => r.2.2 = h ∧ ((r.1 = .exit 0 ∧ decide (n ∈ l) = false) ∨ (r.1 = .ret ∧ r.2.1 4 = encB true ∧ decide (n ∈ l) = true))) := by
  refine Ends.mono (for_loop l.length (fun i s => s.1 0 = encIs l ∧ s.1 1 = encI n ∧ s.1 5 = encI i ∧ s.2 = h ∧ ∀ j (hj : j < l.length), j < i → ¬ l[j] = n) (fun y s => s.2 = h ∧ ((y = .exit 0 ∧ decide (n ∈ l) = false) ∨ (y = .ret ∧ s.1 4 = encB true ∧ decide (n ∈ l) = true))) ?_ ?_ hN ⟨e0, e1, e5, rfl, fun j _ hj => absurd hj (by omega)⟩) (fun r hr => hr.2)
  · rintro i e h' hi ⟨g0, g1, g5, rfl, gj⟩
    simp only [encI, encIs] at g0 g1 g5
    have hlt : (i : Int) < (l.length : Int) := by omega
    have hw : IntKind.i64.wrap ((i : Int) + 1) = (i : Int) + 1 := wrap_small (by omega) (by omega)
    by_cases c1 : l[i] = n
    · have : n ∈ l := by rw [← c1]; exact List.getElem_mem hi
      simp -implicitDefEqProofs [b198_0, g0, g1, g5, hlt, hi, c1, encI, encB, this]
    · simp -implicitDefEqProofs [b198_0, g0, g1, g5, hlt, hi, c1, encI, encIs, hw]
      intro j hj hji
      by_cases e1 : j = i
      · subst e1; exact c1
      · exact gj j hj (by omega)
  · rintro e h' ⟨g0, g1, g5, rfl, gj⟩
    simp only [encI, encIs] at g0 g1 g5
    have : n ∉ l := fun hn => by
      obtain ⟨j, hj, e⟩ := List.getElem_of_mem hn
      exact gj j hj hj e
    simp -implicitDefEqProofs [b198_0, g0, g1, g5, encI, this]
theorem has198_run (H : Hand) (I : Inl) (N q : Nat) (l : List Int) (n : Int) (hx : l.length < 1073741824) (hN : l.length < N) : Ends (fnA H I N q c198 [encIs l, encI n] hemp) (fun p => outA p = encB (decide (n ∈ l))) := by
  simp -implicitDefEqProofs [fnA, c198, encI, encIs]
  refine Ends.mono (loop198 H I N q l n hx hN _ _ (by simp [encIs]) (by simp [encI]) (by simp [encI])) ?_
  rintro ⟨y, e', h'⟩ ⟨k0, k⟩
  simp only at k0 k
  subst k0
  rcases k with ⟨rfl, k1⟩ | ⟨rfl, k1, k2⟩
  · simp -implicitDefEqProofs [k1, encB]
  · simp only [encB] at k1
    simp -implicitDefEqProofs [k1, k2, encB]
end Go.Proofs.Ytihljollfbogeaa
