/- Runs of both CheckMember. No condition. -/
import Derived.Test.YtihljollfbogeaaB10
set_option linter.unusedSimpArgs false
namespace Go.Proofs.Ytihljollfbogeaa
open Go Go.RowKit
attribute [local simp] run_skip run_ret run_exit run_seq run_block run_reg thn_norm thn_toNorm thn_ret thn_exit endB_norm endB_toNorm endB_ret endB_exit regA_nil regA_cons putA_some putA_none insA_plain opA COp.ev pu dl dl0 appD nameOf nameOr_ptr nameOr_ref nameOr_mp nameOr_nl nameOr_full nameOr_grown grown_zero grownH_nil hset_id toNorm putA aEval_tmp aEval_func aEval_int aEval_bool aEval_nil edst eset_same eset_ne cmp_lss cmp_leq cmp_gtr cmp_geq cmp_eql cmp_neq num_add num_sub num_mul num_rem cmp_beql cmp_bneq cmp_seql cmp_sneq ite_map ite_bind ends_some ends_none ends_ite ends_bind ends_map rnd_norm rnd_toNorm rnd_exit rnd_ret norm_encI norm_encB oLit oAppend Blk.isDead oElems oSlice oExtract oIndexA oMk0 oConvInt oMin oMax oMapNew oMapPut oMapGet findA oNil AV.single valueA oPick oNot argEnv ressA resA tupA oNew oLoad oStore oFieldAddr oLen oIndexS asNum rowAt? hset partA AV.cells AV.storable AV.one hemp callA callD outA_sc outA_imm outA_agg outA_tup outA_ref outA_nl outA_full fz_sc fz_imm fz_full fz_nl fz_fn fz_agg fz_tup fz_ref fzA_sc fzA_imm fzA_full fzA_nl fzA_agg fzA_ref fz1_sc fz1_imm fz1_full fz1_nl fz1_ref fzRow_all AV.scalar AV.scalar1 evC nm nmA nm1 nm0 insA_b insA_skip run_condB isBool boolOf run_drawn endD_mk drawA_nil drawA_cons nextD_mk consE_mk putD_some putD_none insD_plain insD_b insD_skip opD COp.rd COp.wr AV.nms AV.nms1 indeps indep oMake oBuildC fillC setCellsA ofVal ofCell Value.oneCell' reshape LIM AV.pure AV.pure1 norm norm1 run_loop
def badW (iss : Int) (w : List Int) (i : Nat) : Bool := decide (w.getD i 0 < 0) || decide (iss ≤ w.getD i 0) || (decide (0 < i) && decide (w.getD i 0 ≤ w.getD (i - 1) 0))
def badH (iss : Int) (w hl : List Int) (i : Nat) : Bool := decide (hl.getD i 0 < 0) || decide (iss ≤ hl.getD i 0) || decide (hl.getD i 0 ∈ hl.take i) || decide (hl.getD i 0 ∈ w)
def anyW (iss : Int) (w : List Int) : Bool := (List.range w.length).any (badW iss w)
def anyH (iss : Int) (w hl : List Int) : Bool := (List.range hl.length).any (badH iss w hl)
theorem any_true {n : Nat} {f : Nat → Bool} {i : Nat} (hi : i < n) (h : f i = true) : (List.range n).any f = true := List.any_eq_true.2 ⟨i, List.mem_range.2 hi, h⟩
theorem any_false {n : Nat} {f : Nat → Bool} (h : ∀ i, i < n → f i = false) : (List.range n).any f = false := List.any_eq_false.2 fun i hi => by simp [h i (List.mem_range.1 hi)]
theorem upto_succ {f : Nat → Bool} {i : Nat} (h : ∀ j, j < i → f j = false) (hi : f i = false) : ∀ j, j < i + 1 → f j = false := fun j hj => by
  by_cases e : j = i
  · subst e; exact hi
  · exact h j (by omega)
theorem getD_lt {l : List Int} {i : Nat} (h : i < l.length) : l.getD i 0 = l[i] := by simp [h]
def checkMem (m : Mem) : Int :=
  if m.round < 0 ∨ 1073741824 < m.round ∨ m.till < 0 ∨ 1073741824 < m.till ∨ m.thawed < 0 ∨ m.round < m.thawed then 3
  else if m.position < 0 ∨ m.issued < m.position ∨ 4096 < m.issued ∨ (m.frozen = false ∧ 0 < m.held.length) then 3
  else if anyW m.issued m.waiting = true then 3
  else if anyH m.issued m.waiting m.held = true then 3 else 0
theorem loop89W (H : Hand) (I : Inl) (N : Nat) (m : Mem) (hx : m.waiting.length < 4294967296) (n v : Nat) (h : Hp) (hm : h n = (v, .row 8 [m.enc])) (hN : m.waiting.length < N) (e : Env) (e1 : e 1 = .ptr n v 0 0) (e3 : e 3 = encI 0) :
    Ends (iter (run H I N 1 b89_1) N (e, h)) (fun r => r.2.2 = h ∧ ((r.1 = .exit 0 ∧ r.2.1 1 = .ptr n v 0 0 ∧ anyW m.issued m.waiting = false) ∨ (r.1 = .ret ∧ r.2.1 2 = encI 3 ∧ anyW m.issued m.waiting = true))) := by
  obtain ⟨mr, mp, mt, mi, mf, ml, w, hl⟩ := m
  simp only [Mem.enc, encI, encB] at hm
  simp only at hx hN ⊢
  refine Ends.mono (for_loop w.length (fun i s => s.1 1 = .ptr n v 0 0 ∧ s.1 3 = encI i ∧ s.2 = h ∧ ∀ j, j < i → badW mi w j = false) (fun y s => s.2 = h ∧ ((y = .exit 0 ∧ s.1 1 = .ptr n v 0 0 ∧ anyW mi w = false) ∨ (y = .ret ∧ s.1 2 = encI 3 ∧ anyW mi w = true))) ?_ ?_ hN ⟨e1, e3, rfl, fun j hj => absurd hj (by omega)⟩) (fun r hr => hr.2)
  · rintro i e h' hi ⟨g1, g3, rfl, gj⟩
    simp only [encI] at g1 g3 hm
    have hlt : (i : Int) < (w.length : Int) := by omega
    have hw : IntKind.i64.wrap ((i : Int) + 1) = (i : Int) + 1 := wrap_small (by omega) (by omega)
    have hbad := fun hb : badW mi w i = true => any_true (f := badW mi w) hi hb
    by_cases c1 : w[i] < 0
    · have := hbad (by simp [badW, hi, c1])
      simp -implicitDefEqProofs [b89_1, d89_0, p89_0, g1, g3, hm, hlt, hi, c1, encI, hw, anyW, this, -List.any_eq_true]
    by_cases c2 : mi ≤ w[i]
    · have := hbad (by simp [badW, hi, c2])
      simp -implicitDefEqProofs [b89_1, d89_0, p89_0, g1, g3, hm, hlt, hi, c1, c2, encI, hw, anyW, this, -List.any_eq_true]
    by_cases c3 : 0 < i
    · have hw1 : IntKind.i64.wrap ((i : Int) - 1) = ((i - 1 : Nat) : Int) := by rw [wrap_small (by omega) (by omega)]; omega
      have hi1 : i - 1 < w.length := by omega
      have hlt1 : ((i - 1 : Nat) : Int) < (w.length : Int) := by omega
      by_cases c4 : w[i] ≤ w[i - 1]
      · have := hbad (by simp [badW, hi, hi1, c3, c4])
        simp -implicitDefEqProofs [b89_1, d89_0, p89_0, g1, g3, hm, hlt, hi, c1, c2, c3, c4, hw1, hi1, hlt1, encI, hw, anyW, this, -List.any_eq_true]
      · have hf : badW mi w i = false := by simp [badW, hi, hi1, c3, c1, c2, c4]
        simp -implicitDefEqProofs [b89_1, d89_0, p89_0, g1, g3, hm, hlt, hi, c1, c2, c3, c4, hw1, hi1, hlt1, encI, hw]
        exact upto_succ gj hf
    · have hf : badW mi w i = false := by simp [badW, hi, c3, c1, c2]
      have c3' : i = 0 := by omega
      subst c3'
      simp -implicitDefEqProofs [b89_1, d89_0, p89_0, g1, g3, hm, hi, c1, c2, encI, hw]
      exact ⟨by decide, hf⟩
  · rintro e h' ⟨g1, g3, rfl, gj⟩
    simp only [encI] at g1 g3 hm
    have := any_false (n := w.length) gj
    simp -implicitDefEqProofs [b89_1, g1, g3, hm, anyW, this, -List.any_eq_false]
theorem loop89H (H : Hand) (I : Inl) (N : Nat) (m : Mem) (hx : m.held.length < 4294967296) (h188 : ∀ (l : List Int) (x : Int), (l.length ≤ m.held.length ∨ l.length ≤ m.waiting.length) → H 188 [.imm (l.map encI), .sc (.int .i64 x)] = some (.sc (.bool (decide (x ∈ l))))) (n v : Nat) (h : Hp) (hm : h n = (v, .row 8 [m.enc])) (hN : m.held.length < N) (e : Env) (e1 : e 1 = .ptr n v 0 0) (e3 : e 4 = encI 0) :
    Ends (iter (run H I N 1 b89_0) N (e, h)) (fun r => r.2.2 = h ∧ ((r.1 = .exit 2 ∧ anyH m.issued m.waiting m.held = false) ∨ (r.1 = .ret ∧ r.2.1 2 = encI 3 ∧ anyH m.issued m.waiting m.held = true))) := by
  obtain ⟨mr, mp, mt, mi, mf, ml, w, hl⟩ := m
  simp only [Mem.enc, encI, encB] at hm
  simp only at hx hN h188 ⊢
  refine Ends.mono (for_loop hl.length (fun i s => s.1 1 = .ptr n v 0 0 ∧ s.1 4 = encI i ∧ s.2 = h ∧ ∀ j, j < i → badH mi w hl j = false) (fun y s => s.2 = h ∧ ((y = .exit 2 ∧ anyH mi w hl = false) ∨ (y = .ret ∧ s.1 2 = encI 3 ∧ anyH mi w hl = true))) ?_ ?_ hN ⟨e1, e3, rfl, fun j hj => absurd hj (by omega)⟩) (fun r hr => hr.2)
  · rintro i e h' hi ⟨g1, g3, rfl, gj⟩
    simp only [encI] at g1 g3 hm
    have hlt : (i : Int) < (hl.length : Int) := by omega
    have hle : (i : Int) ≤ (hl.length : Int) := by omega
    have hw : IntKind.i64.wrap ((i : Int) + 1) = (i : Int) + 1 := wrap_small (by omega) (by omega)
    have hbad := fun hb : badH mi w hl i = true => any_true (f := badH mi w hl) hi hb
    have k1 := h188 (hl.take i) hl[i] (.inl (by simp; omega))
    have k2 := h188 w hl[i] (.inr (by omega))
    rw [List.map_take] at k1
    by_cases c1 : hl[i] < 0
    · have := hbad (by simp [badH, hi, c1])
      simp -implicitDefEqProofs [b89_0, g1, g3, hm, hlt, hi, c1, encI, hw, anyH, this, -List.any_eq_true]
    by_cases c2 : mi ≤ hl[i]
    · have := hbad (by simp [badH, hi, c2])
      simp -implicitDefEqProofs [b89_0, g1, g3, hm, hlt, hi, c1, c2, encI, hw, anyH, this, -List.any_eq_true]
    cases c3 : decide (hl[i] ∈ hl.take i) with
    | true =>
      have := hbad (by simp only [badH, getD_lt hi, c3]; simp)
      rw [c3] at k1
      simp -implicitDefEqProofs [b89_0, g1, g3, hm, hlt, hle, hi, c1, c2, k1, encI, hw, anyH, this, -List.any_eq_true]
    | false =>
      rw [c3] at k1
      cases c4 : decide (hl[i] ∈ w) with
      | true =>
        have := hbad (by simp only [badH, getD_lt hi, c4]; simp)
        rw [c4] at k2
        simp -implicitDefEqProofs [b89_0, g1, g3, hm, hlt, hle, hi, c1, c2, k1, k2, encI, hw, anyH, this, -List.any_eq_true]
      | false =>
        rw [c4] at k2
        have hf : badH mi w hl i = false := by simp only [badH, getD_lt hi, c3, c4]; simp [c1, c2]
        simp -implicitDefEqProofs [b89_0, g1, g3, hm, hlt, hle, hi, c1, c2, k1, k2, encI, hw]
        exact upto_succ gj hf
  · rintro e h' ⟨g1, g3, rfl, gj⟩
    simp only [encI] at g1 g3 hm
    have := any_false (n := hl.length) gj
    simp -implicitDefEqProofs [b89_0, g1, g3, hm, anyH, this, -List.any_eq_false]
theorem loop88W (H : Hand) (I : Inl) (N : Nat) (m : Mem) (hx : m.waiting.length < 4294967296) (n v : Nat) (h : Hp) (hm : h n = (v, .row 8 [m.enc])) (hN : m.waiting.length < N) (e : Env) (e1 : e 1 = .ptr n v 0 0) (e46 : e 46 = .imm (m.waiting.map encI)) (e47 : e 47 = encI m.waiting.length) (e3 : e 48 = encI 0) :
    Ends (iter (run H I N 1 b88_1) N (e, h)) (fun r => r.2.2 = h ∧ ((r.1 = .exit 1 ∧ r.2.1 1 = .ptr n v 0 0 ∧ anyW m.issued m.waiting = false) ∨ (r.1 = .ret ∧ r.2.1 2 = encI 3 ∧ anyW m.issued m.waiting = true))) := by
  obtain ⟨mr, mp, mt, mi, mf, ml, w, hl⟩ := m
  simp only [Mem.enc, encI, encB] at hm
  simp only at hx hN ⊢
  refine Ends.mono (for_loop w.length (fun i s => s.1 1 = .ptr n v 0 0 ∧ s.1 46 = .imm (w.map encI) ∧ s.1 47 = encI w.length ∧ s.1 48 = encI i ∧ s.2 = h ∧ ∀ j, j < i → badW mi w j = false) (fun y s => s.2 = h ∧ ((y = .exit 1 ∧ s.1 1 = .ptr n v 0 0 ∧ anyW mi w = false) ∨ (y = .ret ∧ s.1 2 = encI 3 ∧ anyW mi w = true))) ?_ ?_ hN ⟨e1, e46, e47, e3, rfl, fun j hj => absurd hj (by omega)⟩) (fun r hr => hr.2)
  · rintro i e h' hi ⟨g1, g46, g47, g3, rfl, gj⟩
    simp only [encI] at g1 g46 g47 g3 hm
    have hlt : (i : Int) < (w.length : Int) := by omega
    have hw : IntKind.i64.wrap ((i : Int) + 1) = (i : Int) + 1 := wrap_small (by omega) (by omega)
    have hbad := fun hb : badW mi w i = true => any_true (f := badW mi w) hi hb
    by_cases c1 : w[i] < 0
    · have := hbad (by simp [badW, hi, c1])
      simp -implicitDefEqProofs [b88_1, g1, g46, g47, g3, hm, hlt, hi, c1, encI, hw, anyW, this, -List.any_eq_true]
    by_cases c2 : mi ≤ w[i]
    · have := hbad (by simp [badW, hi, c2])
      simp -implicitDefEqProofs [b88_1, g1, g46, g47, g3, hm, hlt, hi, c1, c2, encI, hw, anyW, this, -List.any_eq_true]
    by_cases c3 : 0 < i
    · have hw1 : IntKind.i64.wrap ((i : Int) - 1) = ((i - 1 : Nat) : Int) := by rw [wrap_small (by omega) (by omega)]; omega
      have hi1 : i - 1 < w.length := by omega
      have hlt1 : ((i - 1 : Nat) : Int) < (w.length : Int) := by omega
      by_cases c4 : w[i] ≤ w[i - 1]
      · have := hbad (by simp [badW, hi, hi1, c3, c4])
        simp -implicitDefEqProofs [b88_1, g1, g46, g47, g3, hm, hlt, hi, c1, c2, c3, c4, hw1, hi1, hlt1, encI, hw, anyW, this, -List.any_eq_true]
      · have hf : badW mi w i = false := by simp [badW, hi, hi1, c3, c1, c2, c4]
        simp -implicitDefEqProofs [b88_1, g1, g46, g47, g3, hm, hlt, hi, c1, c2, c3, c4, hw1, hi1, hlt1, encI, hw]
        exact upto_succ gj hf
    · have hf : badW mi w i = false := by simp [badW, hi, c3, c1, c2]
      have c3' : i = 0 := by omega
      subst c3'
      simp -implicitDefEqProofs [b88_1, g1, g46, g47, g3, hm, hi, c1, c2, encI, hw]
      exact ⟨by decide, hf⟩
  · rintro e h' ⟨g1, g46, g47, g3, rfl, gj⟩
    simp only [encI] at g1 g46 g47 g3 hm
    have := any_false (n := w.length) gj
    simp -implicitDefEqProofs [b88_1, g1, g46, g47, g3, hm, anyW, this, -List.any_eq_false]
theorem loop88H (H : Hand) (I : Inl) (N : Nat) (m : Mem) (hx : m.held.length < 4294967296) (h83 : ∀ (l : List Int) (x : Int), (l.length ≤ m.held.length ∨ l.length ≤ m.waiting.length) → H 83 [.imm (l.map encI), .sc (.int .i64 x)] = some (.sc (.bool (decide (x ∈ l))))) (n v : Nat) (h : Hp) (hm : h n = (v, .row 8 [m.enc])) (hN : m.held.length < N) (e : Env) (e1 : e 1 = .ptr n v 0 0) (e77 : e 77 = .imm (m.held.map encI)) (e78 : e 78 = encI m.held.length) (e3 : e 79 = encI 0) :
    Ends (iter (run H I N 1 b88_0) N (e, h)) (fun r => r.2.2 = h ∧ ((r.1 = .exit 3 ∧ anyH m.issued m.waiting m.held = false) ∨ (r.1 = .ret ∧ r.2.1 2 = encI 3 ∧ anyH m.issued m.waiting m.held = true))) := by
  obtain ⟨mr, mp, mt, mi, mf, ml, w, hl⟩ := m
  simp only [Mem.enc, encI, encB] at hm
  simp only at hx hN h83 ⊢
  refine Ends.mono (for_loop hl.length (fun i s => s.1 1 = .ptr n v 0 0 ∧ s.1 77 = .imm (hl.map encI) ∧ s.1 78 = encI hl.length ∧ s.1 79 = encI i ∧ s.2 = h ∧ ∀ j, j < i → badH mi w hl j = false) (fun y s => s.2 = h ∧ ((y = .exit 3 ∧ anyH mi w hl = false) ∨ (y = .ret ∧ s.1 2 = encI 3 ∧ anyH mi w hl = true))) ?_ ?_ hN ⟨e1, e77, e78, e3, rfl, fun j hj => absurd hj (by omega)⟩) (fun r hr => hr.2)
  · rintro i e h' hi ⟨g1, g77, g78, g3, rfl, gj⟩
    simp only [encI] at g1 g77 g78 g3 hm
    have hlt : (i : Int) < (hl.length : Int) := by omega
    have hle : (i : Int) ≤ (hl.length : Int) := by omega
    have hw : IntKind.i64.wrap ((i : Int) + 1) = (i : Int) + 1 := wrap_small (by omega) (by omega)
    have hbad := fun hb : badH mi w hl i = true => any_true (f := badH mi w hl) hi hb
    have k1 := h83 (hl.take i) hl[i] (.inl (by simp; omega))
    have k2 := h83 w hl[i] (.inr (by omega))
    rw [List.map_take] at k1
    by_cases c1 : hl[i] < 0
    · have := hbad (by simp [badH, hi, c1])
      simp -implicitDefEqProofs [b88_0, g1, g77, g78, g3, hm, hlt, hi, c1, encI, hw, anyH, this, -List.any_eq_true]
    by_cases c2 : mi ≤ hl[i]
    · have := hbad (by simp [badH, hi, c2])
      simp -implicitDefEqProofs [b88_0, g1, g77, g78, g3, hm, hlt, hi, c1, c2, encI, hw, anyH, this, -List.any_eq_true]
    cases c3 : decide (hl[i] ∈ hl.take i) with
    | true =>
      have := hbad (by simp only [badH, getD_lt hi, c3]; simp)
      rw [c3] at k1
      simp -implicitDefEqProofs [b88_0, g1, g77, g78, g3, hm, hlt, hle, hi, c1, c2, k1, encI, hw, anyH, this, -List.any_eq_true]
    | false =>
      rw [c3] at k1
      cases c4 : decide (hl[i] ∈ w) with
      | true =>
        have := hbad (by simp only [badH, getD_lt hi, c4]; simp)
        rw [c4] at k2
        simp -implicitDefEqProofs [b88_0, g1, g77, g78, g3, hm, hlt, hle, hi, c1, c2, k1, k2, encI, hw, anyH, this, -List.any_eq_true]
      | false =>
        rw [c4] at k2
        have hf : badH mi w hl i = false := by simp only [badH, getD_lt hi, c3, c4]; simp [c1, c2]
        simp -implicitDefEqProofs [b88_0, g1, g77, g78, g3, hm, hlt, hle, hi, c1, c2, k1, k2, encI, hw]
        exact upto_succ gj hf
  · rintro e h' ⟨g1, g77, g78, g3, rfl, gj⟩
    simp only [encI] at g1 g77 g78 g3 hm
    have := any_false (n := hl.length) gj
    simp -implicitDefEqProofs [b88_0, g1, g77, g78, g3, hm, anyH, this, -List.any_eq_false]
end Go.Proofs.Ytihljollfbogeaa
