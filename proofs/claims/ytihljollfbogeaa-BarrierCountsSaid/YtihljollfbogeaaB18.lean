/- Runs of Durable, theirs and the reference's. No condition. -/
import Derived.Test.YtihljollfbogeaaB16
import Derived.Test.YtihljollfbogeaaB17
set_option linter.unusedSimpArgs false
namespace Go.Proofs.Ytihljollfbogeaa
open Go Go.RowKit
attribute [local simp] run_skip run_ret run_exit run_seq run_block run_reg thn_norm thn_toNorm thn_ret thn_exit endB_norm endB_toNorm endB_ret endB_exit regA_nil regA_cons putA_some putA_none insA_plain opA COp.ev pu dl dl0 appD nameOf nameOr_ptr nameOr_ref nameOr_mp nameOr_nl nameOr_full nameOr_grown grown_zero grownH_nil hset_id toNorm putA aEval_tmp aEval_func aEval_int aEval_bool aEval_nil edst eset_same eset_ne cmp_lss cmp_leq cmp_gtr cmp_geq cmp_eql cmp_neq num_add num_sub num_mul num_rem cmp_beql cmp_bneq cmp_seql cmp_sneq ite_map ite_bind ends_some ends_none ends_ite ends_bind ends_map rnd_norm rnd_toNorm rnd_exit rnd_ret norm_encI norm_encB oLit oAppend Blk.isDead oElems oSlice oExtract oIndexA oMk0 oConvInt oMin oMax oMapNew oMapPut oMapGet findA oNil AV.single valueA oPick oNot argEnv ressA resA tupA oNew oLoad oStore oFieldAddr oLen oIndexS asNum rowAt? hset partA AV.cells AV.storable AV.one hemp callA callD outA_sc outA_imm outA_agg outA_tup outA_ref outA_nl outA_full fz_sc fz_imm fz_full fz_nl fz_fn fz_agg fz_tup fz_ref fzA_sc fzA_imm fzA_full fzA_nl fzA_agg fzA_ref fz1_sc fz1_imm fz1_full fz1_nl fz1_ref fzRow_all AV.scalar AV.scalar1 evC nm nmA nm1 nm0 insA_b insA_skip run_condB isBool boolOf run_drawn endD_mk drawA_nil drawA_cons nextD_mk consE_mk putD_some putD_none insD_plain insD_b insD_skip opD COp.rd COp.wr AV.nms AV.nms1 indeps indep oMake oBuildC fillC setCellsA ofVal ofCell Value.oneCell' reshape LIM AV.pure AV.pure1 norm norm1 run_loop
theorem i189_eq (B : Inl) (H : Hand) (N d q : Nat) (w : List Int) (i : Nat) (hi : i < w.length) (hw : w.length ≤ 1073741824) (n v : Nat) (h : Hp) (hm : h n = (v, .row 1 (w.map encI))) :
    inlB B (mkT T90) H N (d + 1) q 189 [.ref n v 0 w.length, .sc (.int .i64 (i : Nat)), .sc (.int .i64 ((i : Nat) + 1))] h = some (.ref n v 0 (w.length - 1), hset h n (v, .row 1 ((w.eraseIdx i).map encI ++ [.sc (.int .i64 0)]))) := by
  rw [i189]
  obtain ⟨⟨a, h'⟩, k1, k2, k3⟩ := delete_run H (inlB B (mkT T90) H N d) N q w i hi hw n v h hm
  simp only at k2 k3
  rw [k1, k2, k3]
theorem fzRow_pre {k i : Nat} {E R : List AV} (hi : E.length = i) (hp : (E ++ R).all AV.pure = true) : fzRow (some (k, E ++ R)) 0 i = .imm (E.map norm) := by
  subst hi
  rw [fzRow_some, if_pos ⟨by simp, hp⟩, List.drop_zero, List.take_left' rfl]
theorem idx_of {w : List Int} {x : Int} : (x ∉ w ∧ idxF (fun y => decide (x = y)) w = -1) ∨ ∃ (i : Nat) (hi : i < w.length), w[i] = x ∧ idxF (fun y => decide (x = y)) w = i := by
  cases hf : w.findIdx? (fun y => decide (x = y)) with
  | none =>
    refine .inl ⟨fun hm => ?_, by simp [idxF, hf]⟩
    have := List.findIdx?_eq_none_iff.1 hf x hm
    simp at this
  | some i =>
    obtain ⟨h1, h2, _⟩ := List.findIdx?_eq_some_iff_getElem.1 hf
    exact .inr ⟨i, h1, by simpa using (of_decide_eq_true h2).symm, by simp [idxF, hf]⟩
def Mem.zero : Mem := ⟨0, 0, 0, 0, false, 0, [], []⟩
def durable (m : Mem) (x : Int) : Mem × List Int × Int :=
  if checkMem m ≠ 0 then (.zero, [], 3)
  else if x ∉ m.waiting then (.zero, [], 7)
  else if m.frozen = false then (⟨m.round, m.position, m.thawed, m.issued, m.frozen, m.till, m.waiting.filter (fun y => decide (y ≠ x)), m.held⟩, [x], 0)
  else (⟨m.round, m.position, m.thawed, m.issued, m.frozen, m.till, m.waiting.filter (fun y => decide (y ≠ x)), m.held ++ [x]⟩, [], 0)
def encD (r : Mem × List Int × Int) : AV := .tup [r.1.enc, .imm (r.2.1.map encI), encI r.2.2]
theorem checkMem_two (m : Mem) : checkMem m = 0 ∨ checkMem m = 3 := by
  unfold checkMem; repeat' split
  all_goals first | exact .inl rfl | exact .inr rfl
theorem durable90_run (H : Hand) (N : Nat) (m : Mem) (x : Int) (hw : m.waiting.length ≤ 1073741824) (hh : m.held.length < 1073741824) (h88 : H 88 [m.enc] = some (encI (checkMem m))) (h160 : H 160 [.imm (m.waiting.map encI), encI x] = some (encI (idxF (fun y => decide (x = y)) m.waiting)))
    (hn1 : ∀ l, H 137 l = none) (hn2 : ∀ l, H 189 l = none) :
    Ends (fnA H (inlB (cloneI [(137, 1)]) (mkT T90) H N 2) N 1 c90 [m.enc, encI x] hemp) (fun p => outA p = encD (durable m x)) := by
  have hrise := checkMem_rise (m := m)
  have h2 := checkMem_two m
  generalize hr' : durable m x = r
  unfold durable at hr'
  obtain ⟨mr, mp, mt, mi, mf, ml, w, hl⟩ := m
  simp only at hr' hw hh hrise h160
  generalize checkMem ⟨mr, mp, mt, mi, mf, ml, w, hl⟩ = k at hr' h88 hrise h2
  simp only [Mem.enc, encI, encB] at h88 h160
  rcases h2 with hk | hk
  rotate_left
  · rw [if_pos (by omega)] at hr'
    subst hr'
    subst hk
    simp -implicitDefEqProofs [fnA, c90, Mem.enc, encI, encB, h88, encD, Mem.zero]
  subst hk
  rw [if_neg (by simp)] at hr'
  rcases idx_of (w := w) (x := x) with ⟨hx, hidx⟩ | ⟨i, hi, hwi, hidx⟩
  · rw [if_pos hx] at hr'
    subst hr'
    rw [hidx] at h160
    simp -implicitDefEqProofs [fnA, c90, Mem.enc, encI, encB, h88, h160, encD, Mem.zero]
  · rw [if_neg (fun h => h (hwi ▸ List.getElem_mem hi))] at hr'
    rw [hidx] at h160
    have hne : ∀ j (hj : j < w.length), j ≠ i → w[j] ≠ w[i] := fun j hj hji => by
      rcases Nat.lt_or_gt_of_ne hji with h | h
      · have := rising_ne (hrise rfl) i hi j h; omega
      · have := rising_ne (hrise rfl) j hj i h; omega
    have hfil := filter_erase w i hi hne
    rw [hwi] at hfil
    rw [hfil] at hr'
    have hcl := fun q d h => (i137' (cloneI [(137, 1)]) H N d q [.imm (w.map encI)] h).trans (cloneI_ints (q := q) (h := h) hw)
    have hcl2 := fun q d h => (i137' (cloneI [(137, 1)]) H N d q [.imm (hl.map encI)] h).trans (cloneI_ints (q := q) (h := h) (by omega : hl.length ≤ 1073741824))
    have hdel := fun q d n v h hm => i189_eq (cloneI [(137, 1)]) H N d q w i hi hw n v h hm
    have hw1 : IntKind.i64.wrap ((i : Int) + 1) = (i : Int) + 1 := wrap_small (by omega) (by omega)
    have hn0 : ¬ ((i : Int) < 0) := by omega
    have hlen : ((w.eraseIdx i).map encI).length = w.length - 1 := by rw [List.length_map, List.length_eraseIdx_of_lt hi]
    have hpure : ((w.eraseIdx i).map encI ++ [AV.sc (.int .i64 0)]).all AV.pure = true := by
      rw [List.all_append, encI_pure]; rfl
    have hfz : fzRow (some (1, (w.eraseIdx i).map encI ++ [AV.sc (.int .i64 0)])) 0 (w.length - 1) = .imm ((w.eraseIdx i).map encI) := by rw [fzRow_pre hlen hpure, encI_norm]
    cases mf with
    | false =>
      rw [if_pos rfl] at hr'
      subst hr'
      simp -implicitDefEqProofs [fnA, c90, Mem.enc, encI, encB, h88, h160, encD, hn1, hn2, hcl, hdel, hw1, hn0, hfz]
    | true =>
      rw [if_neg (by simp)] at hr'
      subst hr'
      have hlim : hl.length + 1 ≤ 1073741824 := by omega
      simp -implicitDefEqProofs [fnA, c90, Mem.enc, encI, encB, h88, h160, encD, hn1, hn2, hcl, hcl2, hdel, hw1, hn0, hfz, hlim]
      refine ⟨fun h => absurd h (by omega), ?_⟩
      rw [List.take_of_length_le (by simp), ints_app, fzRow_all (by simp) (encI_pure _), encI_norm]
theorem loop91 (H : Hand) (I : Inl) (N : Nat) (m : Mem) (x : Int) (hw : m.waiting.length < 1073741824) (n v : Nat) (h : Hp) (hm : h n = (v, .row 8 [m.enc])) (hne : n ≠ 552) (hN : m.waiting.length < N) (e : Env) (e1 : e 1 = encI x) (e2 : e 2 = .ptr n v 0 0) (e7 : e 7 = .nl) (e8 : e 8 = encI 0) (p4 : AV) (e4 : e 4 = p4) :
    Ends (iter (run H I N 1 b91_0) N (e, h)) (fun r => r.1 = .exit 0 ∧ r.2.1 4 = p4 ∧ r.2.1 1 = encI x ∧ r.2.1 2 = .ptr n v 0 0 ∧ r.2.1 7 = grown 552 (h 552).1 (m.waiting.filter (fun y => decide (y ≠ x))).length ∧ r.2.2 = grownH h 552 1 ((m.waiting.filter (fun y => decide (y ≠ x))).map encI)) := by
  obtain ⟨mr, mp, mt, mi, mf, ml, w, hl⟩ := m
  simp only [Mem.enc, encI, encB] at hm
  simp only at hw hN ⊢
  refine Ends.mono (for_loop w.length (fun i s => s.1 4 = p4 ∧ s.1 1 = encI x ∧ s.1 2 = .ptr n v 0 0 ∧ s.1 7 = grown 552 (h 552).1 ((w.take i).filter (fun y => decide (y ≠ x))).length ∧ s.1 8 = encI i ∧ s.2 = grownH h 552 1 (((w.take i).filter (fun y => decide (y ≠ x))).map encI))
    (fun y s => y = .exit 0 ∧ s.1 4 = p4 ∧ s.1 1 = encI x ∧ s.1 2 = .ptr n v 0 0 ∧ s.1 7 = grown 552 (h 552).1 (w.filter (fun y => decide (y ≠ x))).length ∧ s.2 = grownH h 552 1 ((w.filter (fun y => decide (y ≠ x))).map encI)) ?_ ?_ hN ⟨e4, e1, e2, e7, e8, rfl⟩) (fun r hr => hr.2)
  · rintro i e h' hi ⟨g4, g1, g2, g7, g8, rfl⟩
    have hF : (w.take (i + 1)).filter (fun y => decide (y ≠ x)) = (w.take i).filter (fun y => decide (y ≠ x)) ++ [w[i]].filter (fun y => decide (y ≠ x)) := by
      rw [← List.filter_append, List.take_append_getElem]
    have hlen : ((w.take i).filter (fun y => decide (y ≠ x))).length ≤ i := Nat.le_trans (List.length_filter_le _ _) (by simp; omega)
    rw [hF]
    generalize (w.take i).filter (fun y => decide (y ≠ x)) = F at g7 hlen ⊢
    have hmm := (grownH_ne (h := h) (k := 1) (L := F.map encI) hne).trans hm
    have happ := app_grown (h := h) (n := 552) (k := 1) (i := F.length) (L := F.map encI) (x := encI w[i]) (by simp) (by rfl) (by simp [LIM]; omega)
    simp only [encI] at g4 g1 g2 g7 g8 happ
    have hlt : (i : Int) < (w.length : Int) := by omega
    have hw1 : IntKind.i64.wrap ((i : Int) + 1) = (i : Int) + 1 := wrap_small (by omega) (by omega)
    by_cases hx : w[i] = x
    · simp -implicitDefEqProofs [b91_0, g4, g1, g2, g7, g8, hlt, hi, hw1, encI, hmm, hx, -oAppend]
    · simp -implicitDefEqProofs [b91_0, g4, g1, g2, g7, g8, hlt, hi, hw1, hmm, hx, happ, encI, grownH_at, -oAppend]
  · rintro e h' ⟨g4, g1, g2, g7, g8, rfl⟩
    rw [List.take_length] at g7 ⊢
    generalize w.filter (fun y => decide (y ≠ x)) = F at g7 ⊢
    have hmm := (grownH_ne (h := h) (k := 1) (L := F.map encI) hne).trans hm
    simp only [encI] at g4 g1 g2 g7 g8
    simp -implicitDefEqProofs [b91_0, g4, g1, g2, g7, g8, hmm, encI]
theorem durable91_run (H : Hand) (I : Inl) (N : Nat) (m : Mem) (x : Int) (hw : m.waiting.length < 1073741824) (hN : m.waiting.length < N) (hh : m.held.length < 1073741824) (h89 : H 89 [m.enc] = some (encI (checkMem m))) (h188 : H 188 [.imm (m.waiting.map encI), encI x] = some (encB (decide (x ∈ m.waiting)))) :
    Ends (fnA H I N 1 c91 [m.enc, encI x] hemp) (fun p => outA p = encD (durable m x)) := by
  have key := fun n v h hm hne e => loop91 H I N m x hw n v h hm hne hN e
  generalize hr' : durable m x = r
  unfold durable at hr'
  obtain ⟨mr, mp, mt, mi, mf, ml, w, hl⟩ := m
  simp only at hr' hw hh h188 key
  generalize hkk : checkMem ⟨mr, mp, mt, mi, mf, ml, w, hl⟩ = k at hr' h89
  have h2 := checkMem_two ⟨mr, mp, mt, mi, mf, ml, w, hl⟩
  rw [hkk] at h2
  simp only [Mem.enc, encI, encB] at h89 h188
  rcases h2 with hk | hk
  rotate_left
  · rw [if_pos (by omega)] at hr'
    subst hr'
    subst hk
    simp -implicitDefEqProofs [fnA, c91, Mem.enc, encI, encB, h89, encD, Mem.zero]
  subst hk
  rw [if_neg (by simp)] at hr'
  by_cases hx : x ∈ w
  rotate_left
  · rw [if_pos hx] at hr'
    subst hr'
    rw [decide_eq_false hx] at h188
    simp -implicitDefEqProofs [fnA, c91, Mem.enc, encI, encB, h89, h188, encD, Mem.zero]
  · rw [if_neg (fun h => h hx)] at hr'
    rw [decide_eq_true hx] at h188
    have hlen := List.length_filter_le (fun y => decide (y ≠ x)) w
    generalize w.filter (fun y => decide (y ≠ x)) = F at hr' key hlen
    have hlim : hl.length + 1 ≤ 1073741824 := by omega
    have hlim' : hl.length ≤ 1073741824 := by omega
    have hnl : ¬ (hl.length + 1 ≤ hl.length) := by omega
    have htk : List.take hl.length (List.map encI hl) = List.map encI hl := List.take_of_length_le (by simp)
    cases mf
    all_goals
      first | rw [if_pos rfl] at hr' | rw [if_neg (by simp)] at hr'
      subst hr'
      simp -implicitDefEqProofs [fnA, c91, Mem.enc, encI, encB, h89, h188]
      refine Ends.mono (key 514 1 _ (by simp [Mem.enc, encI, encB]) (by decide) _ (by simp [encI]) (by simp) (by simp) (by simp [encI]) (.ptr 516 1 0 0) (by simp)) ?_
      rintro ⟨y, e', h'⟩ ⟨rfl, f4, f1, f2, f7, rfl⟩
      simp only [encI] at f4 f1 f2 f7
      by_cases h0 : F.length = 0
      · have hF : F = [] := List.eq_nil_of_length_eq_zero h0
        subst hF
        simp -implicitDefEqProofs [f4, f1, f2, f7, hnl, htk, Mem.enc, encI, encB, encD, hlim, hlim']
        try (rw [ints_app, fzRow_all (by simp) (encI_pure _), encI_norm])
      · have hp : 0 < F.length := by omega
        have hG : ∀ h, grownH h 552 1 (F.map encI) = hset h 552 ((h 552).1 + F.length, .row 1 (F.map encI)) := fun h => by unfold grownH; rw [if_neg (by simpa using h0), List.length_map]
        simp -implicitDefEqProofs [f4, f1, f2, f7, hnl, htk, hG, grown_pos _ _ _ hp, Mem.enc, encI, encB, encD, hlim, hlim', norm_encI]
        try (rw [ints_app, fzRow_all (by simp) (encI_pure _), encI_norm])
end Go.Proofs.Ytihljollfbogeaa
