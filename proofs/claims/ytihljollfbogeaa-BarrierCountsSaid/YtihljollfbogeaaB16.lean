/- Runs of Issue and Release, theirs and the reference's. No condition. -/
import Derived.Test.YtihljollfbogeaaB15
set_option linter.unusedSimpArgs false
namespace Go.Proofs.Ytihljollfbogeaa
open Go Go.RowKit
attribute [local simp] run_skip run_ret run_exit run_seq run_block run_reg thn_norm thn_toNorm thn_ret thn_exit endB_norm endB_toNorm endB_ret endB_exit regA_nil regA_cons putA_some putA_none insA_plain opA COp.ev pu dl dl0 appD nameOf nameOr_ptr nameOr_ref nameOr_mp nameOr_nl nameOr_full nameOr_grown grown_zero grownH_nil hset_id toNorm putA aEval_tmp aEval_func aEval_int aEval_bool aEval_nil edst eset_same eset_ne cmp_lss cmp_leq cmp_gtr cmp_geq cmp_eql cmp_neq num_add num_sub num_mul num_rem cmp_beql cmp_bneq cmp_seql cmp_sneq ite_map ite_bind ends_some ends_none ends_ite ends_bind ends_map rnd_norm rnd_toNorm rnd_exit rnd_ret norm_encI norm_encB oLit oAppend Blk.isDead oElems oSlice oExtract oIndexA oMk0 oConvInt oMin oMax oMapNew oMapPut oMapGet findA oNil AV.single valueA oPick oNot argEnv ressA resA tupA oNew oLoad oStore oFieldAddr oLen oIndexS asNum rowAt? hset partA AV.cells AV.storable AV.one hemp callA callD outA_sc outA_imm outA_agg outA_tup outA_ref outA_nl outA_full fz_sc fz_imm fz_full fz_nl fz_fn fz_agg fz_tup fz_ref fzA_sc fzA_imm fzA_full fzA_nl fzA_agg fzA_ref fz1_sc fz1_imm fz1_full fz1_nl fz1_ref fzRow_all AV.scalar AV.scalar1 evC nm nmA nm1 nm0 insA_b insA_skip run_condB isBool boolOf run_drawn endD_mk drawA_nil drawA_cons nextD_mk consE_mk putD_some putD_none insD_plain insD_b insD_skip opD COp.rd COp.wr AV.nms AV.nms1 indeps indep oMake oBuildC fillC setCellsA ofVal ofCell Value.oneCell' reshape LIM AV.pure AV.pure1 norm norm1 run_loop
theorem cloneI_ints {q : Nat} {h : Hp} {xs : List Int} (hx : xs.length ≤ 1073741824) : cloneI [(137, 1)] q 137 [.imm (xs.map encI)] h = some (.ref (q * 512 + 7) ((h (q * 512 + 7)).1 + 1) 0 xs.length, hset h (q * 512 + 7) ((h (q * 512 + 7)).1 + 1, .row 1 (xs.map encI))) := by
  have h1 : (xs.map encI).all (okEl 1) = true := by simp [okEl, encI]
  have h3 : (xs.map encI).length ≤ LIM := by simpa [LIM] using hx
  have h0 : cloneI [(137, 1)] q 137 [.imm (xs.map encI)] h = cloneA 1 q h (.imm (xs.map encI)) := by simp only [cloneI, if_true]
  rw [h0]
  unfold cloneA
  simp only [oElems, Option.bind_some]
  rw [if_pos ⟨h1, h3⟩, List.length_map]
def issue (m : Mem) : Mem × Int := if checkMem m ≠ 0 ∨ m.issued = 4096 then (m, -1) else (⟨m.round, m.position, m.thawed, m.issued + 1, m.frozen, m.till, m.waiting ++ [m.issued], m.held⟩, m.issued)
def encIs (r : Mem × Int) : AV := .tup [r.1.enc, encI r.2]
theorem checkMem_iss {m : Mem} (h : checkMem m = 0) : 0 ≤ m.issued ∧ m.issued ≤ 4096 := by
  unfold checkMem at h
  split at h
  · cases h
  split at h
  · cases h
  · rename_i h2 
    omega
theorem ints_app (xs : List Int) (n : Int) : List.map encI xs ++ [AV.sc (.int .i64 n)] = (xs ++ [n]).map encI := by simp [encI]
theorem issue86_run (H : Hand) (N : Nat) (m : Mem) (hw : m.waiting.length < 1073741824) (h88 : H 88 [m.enc] = some (encI (checkMem m))) (hn : ∀ l, H 137 l = none) :
    Ends (fnA H (cloneI [(137, 1)]) N 1 c86 [m.enc] hemp) (fun p => outA p = encIs (issue m)) := by
  have hb := checkMem_iss (m := m)
  have hr : issue m = issue m := rfl
  generalize hr' : issue m = r at hr ⊢
  unfold issue at hr'
  obtain ⟨mr, mp, mt, mi, mf, ml, w, hl⟩ := m
  simp only at hr' hw hb
  have hcl := fun q h => cloneI_ints (q := q) (h := h) (xs := w) (by omega)
  generalize checkMem ⟨mr, mp, mt, mi, mf, ml, w, hl⟩ = k at hr' h88 hb
  simp only [Mem.enc, encI, encB] at h88
  by_cases hk : k = 0
  rotate_left
  · rw [if_pos (.inl hk)] at hr'
    subst hr'
    simp -implicitDefEqProofs [fnA, c86, Mem.enc, encI, encB, h88, hk, encIs]
  by_cases hg : mi = 4096
  · rw [if_pos (.inr hg)] at hr'
    subst hr'
    subst hg
    simp -implicitDefEqProofs [fnA, c86, Mem.enc, encI, encB, h88, hk, encIs]
  · rw [if_neg (by omega)] at hr'
    subst hr'
    have := hb hk
    have hw1 : IntKind.i64.wrap (mi + 1) = mi + 1 := wrap_small (by omega) (by omega)
    have hlim : w.length + 1 ≤ 1073741824 := by omega
    simp -implicitDefEqProofs [fnA, c86, Mem.enc, encI, encB, h88, hk, hg, encIs, hcl, hn, hw1, hlim]
    refine ⟨fun h => absurd h (by omega), ?_⟩
    rw [List.take_of_length_le (by simp), ints_app, fzRow_all (by simp) (encI_pure _), encI_norm]
theorem issue87_run (H : Hand) (I : Inl) (N : Nat) (m : Mem) (hw : m.waiting.length < 1073741824) (h89 : H 89 [m.enc] = some (encI (checkMem m))) :
    Ends (fnA H I N 1 c87 [m.enc] hemp) (fun p => outA p = encIs (issue m)) := by
  have hb := checkMem_iss (m := m)
  have hr : issue m = issue m := rfl
  generalize hr' : issue m = r at hr ⊢
  unfold issue at hr'
  obtain ⟨mr, mp, mt, mi, mf, ml, w, hl⟩ := m
  simp only at hr' hw hb
  generalize checkMem ⟨mr, mp, mt, mi, mf, ml, w, hl⟩ = k at hr' h89 hb
  simp only [Mem.enc, encI, encB] at h89
  by_cases hk : k = 0
  rotate_left
  · rw [if_pos (.inl hk)] at hr'
    subst hr'
    simp -implicitDefEqProofs [fnA, c87, Mem.enc, encI, encB, h89, hk, encIs]
  by_cases hg : mi = 4096
  · rw [if_pos (.inr hg)] at hr'
    subst hr'
    subst hg
    simp -implicitDefEqProofs [fnA, c87, Mem.enc, encI, encB, h89, hk, encIs]
  · rw [if_neg (by omega)] at hr'
    subst hr'
    have := hb hk
    have hw1 : IntKind.i64.wrap (mi + 1) = mi + 1 := wrap_small (by omega) (by omega)
    have hlim : w.length + 1 ≤ 1073741824 := by omega
    have hlim' : w.length ≤ 1073741824 := by omega
    simp -implicitDefEqProofs [fnA, c87, Mem.enc, encI, encB, h89, hk, hg, encIs, hw1, hlim, hlim']
    refine ⟨fun h => absurd h (by omega), ?_⟩
    rw [List.take_of_length_le (by simp), ints_app, fzRow_all (by simp) (encI_pure _), encI_norm]
def release (m : Mem) (now : Int) : Mem × List Int := if checkMem m ≠ 0 ∨ m.frozen = false ∨ now < m.till then (m, []) else (⟨m.round, m.position, m.thawed, m.issued, false, m.till, m.waiting, []⟩, m.held)
def encRl (r : Mem × List Int) : AV := .tup [r.1.enc, .imm (r.2.map encI)]
def T92 : List (FuncId × CFn) := [(190, c190), (143, c143)]
theorem i190' (H : Hand) (N d q : Nat) (l : List AV) (h : Hp) : inl (mkT T92) H N (d + 1) q 190 l h = fnA H (inl (mkT T92) H N d) N q c190 l h := rfl
theorem i143' (H : Hand) (N d q : Nat) (l : List AV) (h : Hp) : inl (mkT T92) H N (d + 1) q 143 l h = fnA H (inl (mkT T92) H N d) N q c143 l h := rfl
theorem release92_run (H : Hand) (N : Nat) (m : Mem) (now : Int) (h88 : H 88 [m.enc] = some (encI (checkMem m))) (h137 : H 137 [.imm (m.held.map encI)] = some (.imm (m.held.map encI))) (hn : ∀ l, H 190 l = none) :
    Ends (fnA H (inl (mkT T92) H N 2) N 1 c92 [m.enc, encI now] hemp) (fun p => outA p = encRl (release m now)) := by
  generalize hr' : release m now = r
  unfold release at hr'
  obtain ⟨mr, mp, mt, mi, mf, ml, w, hl⟩ := m
  simp only at hr' h137
  generalize checkMem ⟨mr, mp, mt, mi, mf, ml, w, hl⟩ = k at hr' h88
  simp only [Mem.enc, encI, encB] at h88
  by_cases hk : k = 0
  rotate_left
  · rw [if_pos (.inl hk)] at hr'
    subst hr'
    simp -implicitDefEqProofs [fnA, c92, Mem.enc, encI, encB, h88, hk, encRl]
  cases mf with
  | false =>
    rw [if_pos (.inr (.inl rfl))] at hr'
    subst hr'
    simp -implicitDefEqProofs [fnA, c92, Mem.enc, encI, encB, h88, hk, encRl]
  | true =>
    by_cases hg : now < ml
    · rw [if_pos (.inr (.inr hg))] at hr'
      subst hr'
      simp -implicitDefEqProofs [fnA, c92, Mem.enc, encI, encB, h88, hk, hg, encRl]
    · rw [if_neg (by simp; omega)] at hr'
      subst hr'
      simp -implicitDefEqProofs [fnA, c92, Mem.enc, encI, encB, h88, hk, hg, encRl, h137, hn, i190', c190, quick]
theorem release93_run (H : Hand) (N : Nat) (m : Mem) (now : Int) (h89 : H 89 [m.enc] = some (encI (checkMem m))) (hn : ∀ l, H 143 l = none) :
    Ends (fnA H (inl (mkT T92) H N 2) N 1 c93 [m.enc, encI now] hemp) (fun p => outA p = encRl (release m now)) := by
  generalize hr' : release m now = r
  unfold release at hr'
  obtain ⟨mr, mp, mt, mi, mf, ml, w, hl⟩ := m
  simp only at hr'
  generalize checkMem ⟨mr, mp, mt, mi, mf, ml, w, hl⟩ = k at hr' h89
  simp only [Mem.enc, encI, encB] at h89
  by_cases hk : k = 0
  rotate_left
  · rw [if_pos (.inl hk)] at hr'
    subst hr'
    simp -implicitDefEqProofs [fnA, c93, Mem.enc, encI, encB, h89, hk, encRl]
  cases mf with
  | false =>
    rw [if_pos (.inr (.inl rfl))] at hr'
    subst hr'
    simp -implicitDefEqProofs [fnA, c93, Mem.enc, encI, encB, h89, hk, encRl]
  | true =>
    by_cases hg : now < ml
    · rw [if_pos (.inr (.inr hg))] at hr'
      subst hr'
      simp -implicitDefEqProofs [fnA, c93, Mem.enc, encI, encB, h89, hk, hg, encRl]
    · rw [if_neg (by simp; omega)] at hr'
      subst hr'
      simp -implicitDefEqProofs [fnA, c93, Mem.enc, encI, encB, h89, hk, hg, encRl, hn, i143', c143, quick]
end Go.Proofs.Ytihljollfbogeaa
