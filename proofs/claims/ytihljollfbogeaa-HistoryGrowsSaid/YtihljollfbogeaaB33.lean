/- Runs: closed sets, the program's (ranges over the members). No condition. -/
import Derived.Test.YtihljollfbogeaaB32
import Derived.Test.YtihljollfbogeaaB26
set_option linter.unusedSimpArgs false
namespace Go.Proofs.Ytihljollfbogeaa
open Go Go.RowKit
attribute [local simp] run_skip run_ret run_exit run_seq run_block run_reg thn_norm thn_toNorm thn_ret thn_exit endB_norm endB_toNorm endB_ret endB_exit regA_nil regA_cons putA_some putA_none insA_plain opA COp.ev pu dl dl0 appD nameOf nameOr_ptr nameOr_ref nameOr_mp nameOr_nl nameOr_full nameOr_grown grown_zero grownH_nil hset_id toNorm putA aEval_tmp aEval_func aEval_int aEval_bool aEval_nil edst eset_same eset_ne cmp_lss cmp_leq cmp_gtr cmp_geq cmp_eql cmp_neq num_add num_sub num_mul num_rem cmp_beql cmp_bneq cmp_seql cmp_sneq ite_map ite_bind ends_some ends_none ends_ite ends_bind ends_map rnd_norm rnd_toNorm rnd_exit rnd_ret norm_encI norm_encB oLit oAppend frzD_no Blk.isDead oElems oSlice oExtract oIndexA oMk0 oConvInt oMin oMax oMapNew oMapPut oMapGet findA oNil AV.single valueA oPick oNot argEnv ressA resA tupA oNew oLoad oStore oFieldAddr oLen oIndexS asNum rowAt? hset partA AV.cells AV.storable AV.one hemp callA isMk copyA callD outA_sc outA_imm outA_agg outA_tup outA_ref outA_nl outA_full fz_sc fz_imm fz_full fz_nl fz_fn fz_agg fz_tup fz_ref fzA_sc fzA_imm fzA_full fzA_nl fzA_agg fzA_ref fz1_sc fz1_imm fz1_full fz1_nl fz1_ref fzRow_all AV.scalar AV.scalar1 evC nm nmA nm1 nm0 insA_b insA_skip run_condB isBool boolOf run_drawn endD_mk drawA_nil drawA_cons nextD_mk consE_mk putD_some putD_none insD_plain insD_b insD_skip opD COp.rd COp.wr AV.nms AV.nms1 indeps indep oMake oBuildC fillC setCellsA ofVal ofCell Value.oneCell' reshape LIM AV.pure AV.pure1 norm norm1 run_loop
attribute [local simp] runR_code runR_seq runR_block thnR_norm thnR_toNorm thnR_ret thnR_exit
def memF (h : Hist) (Is As set : List Int) : AV := .fn 220 [] [.ipt [encIs set] 0, .ipt [encIs h.sizes, encWs h.writes, encEs h.events, encIs Is, encIs As] 0]
theorem members156_run (H : Hand) (I : Inl) (N q : Nat) (h : Hist) (Is As set : List Int) : Ends (fnA H I N q c156 [encChk h Is As, encIs set] hemp) (fun p => ∃ cs, p.1 = .fn 220 [] cs ∧ cs.map (fz1 p.2) = [.ipt [encIs set] 0, .ipt [encIs h.sizes, encWs h.writes, encEs h.events, encIs Is, encIs As] 0]) := by
  simp -implicitDefEqProofs [fnA, c156, encChk, encIs, encWs, encEs, fz1, fz0]
def wrAt (h : Hist) (n : Int) : Wr := h.writes.getD n.toNat ⟨0, 0, []⟩
theorem mem1_eq {ws : List Wr} {n : Int} (h0 : 0 ≤ n) (h1 : n < (ws.length : Int)) : mem1 (ws.map Wr.enc) (encI n) = some [encI n, (ws.getD n.toNat ⟨0, 0, []⟩).enc] := by
  have hn : n.toNat < ws.length := by omega
  unfold mem1
  simp only [encI, h0, if_true]
  rw [List.getElem?_map, List.getElem?_eq_getElem hn]
  simp [Wr.enc, encI, AV.isLow, hn]
theorem mapM_some {β γ : Type} {f : β → Option γ} {g : β → γ} : ∀ {l : List β}, (∀ x ∈ l, f x = some (g x)) → l.mapM f = some (l.map g)
  | [], _ => rfl
  | a :: l, h => by
    rw [List.mapM_cons, h a List.mem_cons_self, mapM_some (l := l) (g := g) fun x hx => h x (List.mem_cons_of_mem _ hx)]
    rfl
def yields (h : Hist) (set : List Int) : List (List AV) := set.map fun n => [encI n, (wrAt h n).enc]
theorem its220_eq (h : Hist) (Is As set : List Int) (hs : ∀ n ∈ set, 0 ≤ n ∧ n < (h.writes.length : Int)) (hl : set.length ≤ 1073741824) : itsA its220 (memF h Is As set) = some (yields h set) := by
  have h1 : (List.map encI set).mapM (mem1 (h.writes.map Wr.enc)) = some (yields h set) := by
    rw [List.mapM_map]
    exact mapM_some fun n hn => mem1_eq (hs n hn).1 (hs n hn).2
  simp only [itsA, memF, encIs, encWs, encEs, its220, if_true, List.length_map, hl, h1]
  rfl
def marks (nw : Nat) (l : List Int) : List AV := (List.range nw).map fun a : Nat => encB (decide ((a : Int) ∈ l))
theorem marks_nil (nw : Nat) : marks nw [] = List.replicate nw (encB false) := by
  unfold marks
  apply List.ext_getElem
  · simp
  · intro i h1 h2; simp
theorem marks_snoc {nw : Nat} {l : List Int} {n : Nat} : marks nw (l ++ [(n : Int)]) = (marks nw l).set n (encB true) := by
  unfold marks
  apply List.ext_getElem
  · simp
  · intro i h1 h2
    simp only [List.getElem_map, List.getElem_range, List.getElem_set]
    by_cases e : n = i
    · subst e; simp
    · have : ¬ (i : Int) = (n : Int) := fun e' => e (by omega)
      simp [e, this]
theorem marks_get {nw : Nat} {l : List Int} {n : Nat} (hn : n < nw) : (marks nw l)[n]? = some (encB (decide ((n : Int) ∈ l))) := by simp [marks, hn]
theorem loop128 (H : Hand) (I : Inl) (N : Nat) (h : Hist) (Is As set : List Int) (b : Nat) (hb : b < h.writes.length) (hx : h.writes.length < 1073741824) (hN : h.writes.length < N)
    (h125 : ∀ a b : Nat, a < h.writes.length → b < h.writes.length → H 125 [.agg [encIs Is, encIs As], encI a, encI b] = some (encB (beforeE h.events a b))) (v2 v4 v5 v13 : Nat) (hp : Hp) (m2 : hp 514 = (v2, .row 5 [encChk h Is As])) (m5 : hp 517 = (v5, .row 1 [.ref 525 v13 0 h.writes.length]))
    (m4 : hp 516 = (v4, .row 1 [encB false])) (m13 : hp 525 = (v13, .row 1 (marks h.writes.length set))) (e : Env) (e2 : e 2 = .ptr 514 v2 0 0) (e4 : e 4 = .ptr 516 v4 0 0) (e5 : e 5 = .ptr 517 v5 0 0) (e7 : e 7 = encI b) (e30 : e 30 = encI h.writes.length) (e31 : e 31 = encI 0) :
    Ends (iter (run H I N 1 b128_0) N (e, hp)) (fun r => (∀ m, r.2.2 m = hp m) ∧ r.2.1 4 = .ptr 516 v4 0 0 ∧ ((r.1 = .exit 4 ∧ (List.range h.writes.length).any (badA h.events set (b : Int)) = false) ∨ (r.1 = .ret ∧ (List.range h.writes.length).any (badA h.events set (b : Int)) = true))) := by
  refine Ends.mono (for_loop h.writes.length (fun i s => s.1 2 = .ptr 514 v2 0 0 ∧ s.1 4 = .ptr 516 v4 0 0 ∧ s.1 5 = .ptr 517 v5 0 0 ∧ s.1 7 = encI b ∧ s.1 30 = encI h.writes.length ∧ s.1 31 = encI i ∧ s.2 = hp ∧ ∀ j, j < i → badA h.events set (b : Int) j = false)
    (fun y s => (∀ m, s.2 m = hp m) ∧ s.1 4 = .ptr 516 v4 0 0 ∧ ((y = .exit 4 ∧ (List.range h.writes.length).any (badA h.events set (b : Int)) = false) ∨ (y = .ret ∧ (List.range h.writes.length).any (badA h.events set (b : Int)) = true))) ?_ ?_ hN ⟨e2, e4, e5, e7, e30, e31, rfl, fun j hj => absurd hj (by omega)⟩) (fun r hr => hr.2)
  · rintro i e h' hi ⟨g2, g4, g5, g7, g30, g31, rfl, gj⟩
    have k1 := h125 i b hi hb
    have m13' := marks_get (l := set) hi
    have hlm : (marks h.writes.length set).length = h.writes.length := by simp [marks]
    obtain ⟨sizes, writes, events⟩ := h
    simp only at hi hx k1 m13' hlm m13 gj m5
    generalize marks writes.length set = M at m13 m13' hlm
    have hlt : (i : Int) < (writes.length : Int) := by omega
    have hiM : i < M.length := by omega
    have hw : IntKind.i64.wrap ((i : Int) + 1) = (i : Int) + 1 := wrap_small (by omega) (by omega)
    have hMi : M[i] = encB (decide ((i : Int) ∈ set)) := by rw [List.getElem?_eq_getElem hiM] at m13'; exact Option.some.inj m13'
    simp only [encChk, encI, encIs, encWs, encEs, encB] at g2 g4 g5 g7 g30 g31 m2 m4 k1 hMi
    cases c1 : decide ((i : Int) ∈ set) with
    | true =>
      rw [c1] at hMi
      have hf : badA events set (b : Int) i = false := by simp only [badA, c1]; simp
      simp -implicitDefEqProofs [b128_0, g2, g4, g5, g7, g30, g31, m2, m5, m13, hMi, hiM, hlt, hi, hw, encI]
      exact uptoB gj hf
    | false =>
      rw [c1] at hMi
      cases c2 : beforeE events (i : Int) (b : Int) with
      | false =>
        rw [c2] at k1
        have hf : badA events set (b : Int) i = false := by simp only [badA, c2]; rfl
        simp -implicitDefEqProofs [b128_0, g2, g4, g5, g7, g30, g31, m2, m5, m13, hMi, hiM, hlt, hi, hw, k1, encI]
        exact uptoB gj hf
      | true =>
        rw [c2] at k1
        have : (List.range writes.length).any (badA events set (b : Int)) = true := anyN_true hi (by simp only [badA, c1, c2]; decide)
        simp -implicitDefEqProofs [b128_0, g2, g4, g5, g7, g30, g31, m2, m4, m5, m13, hMi, hiM, hlt, hi, hw, k1, encI, this, -List.any_eq_true]
  · rintro e h' ⟨g2, g4, g5, g7, g30, g31, rfl, gj⟩
    simp only [encI] at g2 g4 g5 g7 g30 g31
    have := anyN_false gj
    simp -implicitDefEqProofs [b128_0, g4, g30, g31, this, -List.any_eq_false]
theorem closed128_run (H : Hand) (I : Inl) (N : Nat) (h : Hist) (Is As set : List Int) (hs : ∀ n ∈ set, 0 ≤ n ∧ n < (h.writes.length : Int)) (hx1 : set.length < 1073741824) (hx : h.writes.length < 1073741824) (hN : h.writes.length < N)
    (h125 : ∀ a b : Nat, a < h.writes.length → b < h.writes.length → H 125 [.agg [encIs Is, encIs As], encI a, encI b] = some (encB (beforeE h.events a b))) (h156 : H 156 [encChk h Is As, encIs set] = some (memF h Is As set)) :
    Ends (fnR its220 H I N 1 c128 [encChk h Is As, encIs set] hemp) (fun p => outA p = encB (!anyC h.events h.writes.length set)) := by
  have hits := its220_eq h Is As set hs (by omega)
  have hchk : encChk h Is As = .agg [encIs h.sizes, encWs h.writes, encEs h.events, encIs Is, encIs As] := rfl
  have hlm : (h.writes.length : Int) ≤ 1073741824 := by omega
  rw [hchk] at h156
  simp only [encIs, encWs, encEs, memF] at h156 hits
  simp -implicitDefEqProofs [fnR, c128, hchk, encIs, encWs, encEs, h156, hlm]
  have hnw : ∀ k n, set[k]? = some n → ∃ b : Nat, n = (b : Int) ∧ b < h.writes.length ∧ k < set.length ∧ set.getD k 0 = (b : Int) := fun k n hk => by
    have := hs n (List.mem_of_getElem? hk)
    obtain ⟨b, rfl⟩ := Int.eq_ofNat_of_zero_le this.1
    obtain ⟨h1, h2⟩ := List.getElem?_eq_some_iff.1 hk
    exact ⟨b, rfl, by omega, h1, by simp [hk]⟩
  have hlen : (yields h set).length = set.length := by simp [yields]
  have hget : ∀ k vs, (yields h set)[k]? = some vs → ∃ n, set[k]? = some n ∧ vs = [encI n, (wrAt h n).enc] := fun k vs hk => by
    unfold yields at hk
    rw [List.getElem?_map] at hk
    obtain ⟨n, h1, rfl⟩ := Option.map_eq_some_iff.1 hk
    exact ⟨n, h1, rfl⟩
  obtain ⟨c3, hc3⟩ : ∃ c3 : Nat × Blk, c3 = (1, Blk.row 5 [encChk h Is As]) := ⟨_, rfl⟩
  refine runR_rng (vss := yields h set) (by simpa using hits) ?_
  refine Ends.mono (rounds_ind (fun k hp => hp 514 = c3 ∧ hp 516 = (1, .row 1 [encB false]) ∧ hp 517 = (1, .row 1 [.ref 525 1 0 h.writes.length]) ∧ hp 525 = (1, .row 1 (marks h.writes.length (set.take k))))
    (fun x hp => x = .norm ∧ hp 514 = c3 ∧ hp 516 = (1, .row 1 [encB false]) ∧ hp 517 = (1, .row 1 [.ref 525 1 0 h.writes.length]) ∧ hp 525 = (1, .row 1 (marks h.writes.length set))) (yields h set) 0 _ ?_ ?_ ?_) ?_
  · rintro k vs hp hk ⟨j1, j2, j3, j4⟩
    obtain ⟨n, hn, rfl⟩ := hget k vs hk
    obtain ⟨b, rfl, hb, hkl, _⟩ := hnw k n hn
    simp only [Nat.zero_add] at j4
    have hms : marks h.writes.length (set.take (k + 1)) = (marks h.writes.length (set.take k)).set b (encB true) := by rw [List.take_add_one, hn]; exact marks_snoc
    have hbM : b < (marks h.writes.length (set.take k)).length := by simpa [marks] using hb
    have hMb := marks_get (l := set.take k) hb
    rw [Nat.zero_add, hms]
    generalize marks h.writes.length (set.take k) = M at j4 hbM hMb ⊢
    rw [List.getElem?_eq_getElem hbM] at hMb
    replace hMb := Option.some.inj hMb
    simp only [encB] at hMb
    have hlb : (b : Int) < (h.writes.length : Int) := by omega
    refine ⟨rfl, ?_⟩
    simp -implicitDefEqProofs [esets, j1, j2, j3, j4, hlb, hb, hbM, hMb, encI, encB]
  · rintro hp ⟨j1, j2, j3, j4⟩
    rw [hlen, Nat.zero_add, List.take_length] at j4
    exact ⟨rfl, j1, j2, j3, j4⟩
  · refine ⟨by simp [hc3, hchk, encIs, encWs, encEs], by simp [encB], by simp, ?_⟩
    rw [List.take_zero, marks_nil]; simp [encB]
  rintro ⟨x, hp⟩ ⟨rfl, j1, j2, j3, j4⟩
  simp only at j1 j2 j3 j4
  rw [hc3, hchk] at j1
  simp only [encIs, encWs, encEs] at j1
  simp -implicitDefEqProofs [j1, h156]
  refine runR_rng (vss := yields h set) (by simpa using hits) ?_
  refine Ends.mono (rounds_ind (fun k hp' => (∀ m, hp' m = hp m) ∧ ∀ j, j < k → badC h.events h.writes.length set j = false)
    (fun x hp' => (∀ m, hp' m = hp m) ∧ ((x = .norm ∧ anyC h.events h.writes.length set = false) ∨ (x = .ret ∧ anyC h.events h.writes.length set = true))) (yields h set) 0 _ ?_ ?_ ?_) ?_
  · rintro k vs hp' hk ⟨j5, gj⟩
    obtain ⟨n, hn, rfl⟩ := hget k vs hk
    obtain ⟨b, rfl, hb, hkl, hgd⟩ := hnw k n hn
    rw [Nat.zero_add] at gj ⊢
    refine ⟨rfl, ?_⟩
    have i1 := (j5 514).trans j1
    simp -implicitDefEqProofs [esets, i1]
    refine Ends.mono (loop128 H I N h Is As set b hb hx hN h125 1 1 1 1 hp' (by rw [i1]; simp [hchk, encIs, encWs, encEs]) ((j5 517).trans j3) ((j5 516).trans j2) ((j5 525).trans j4) _ (by simp) (by simp) (by simp) (by simp) (by simp [encI]) (by simp [encI])) ?_
    rintro ⟨x, e', h2⟩ ⟨k1, k4, kk⟩
    simp only at k1 k4 kk
    have hCk : badC h.events h.writes.length set k = (List.range h.writes.length).any (badA h.events set (b : Int)) := by unfold badC; rw [hgd]
    rcases kk with ⟨rfl, k5⟩ | ⟨rfl, k5⟩
    · simp -implicitDefEqProofs
      exact ⟨fun m => (k1 m).trans (j5 m), uptoB gj (hCk.trans k5)⟩
    · simp -implicitDefEqProofs
      exact ⟨fun m => (k1 m).trans (j5 m), anyN_true hkl (hCk.trans k5)⟩
  · rintro hp' ⟨j5, gj⟩
    rw [hlen, Nat.zero_add] at gj
    exact ⟨j5, .inl ⟨rfl, anyN_false gj⟩⟩
  · exact ⟨fun _ => rfl, fun j hj => absurd hj (by omega)⟩
  rintro ⟨x, hp'⟩ ⟨j5, jj⟩
  simp only at j5 jj
  have i2 := (j5 516).trans j2
  simp only [encB] at i2
  rcases jj with ⟨rfl, j6⟩ | ⟨rfl, j6⟩
  · simp -implicitDefEqProofs [i2, j6, encB]
  · simp -implicitDefEqProofs [i2, j6, encB]
end Go.Proofs.Ytihljollfbogeaa
