/- seen, and all, entered. No condition. -/
import Derived.Test.YtihljollfbogeaaB20
set_option linter.unusedSimpArgs false
namespace Go.Proofs.Ytihljollfbogeaa
open Go Go.RowKit
attribute [local simp] run_skip run_ret run_exit run_seq run_block run_reg thn_norm thn_toNorm thn_ret thn_exit endB_norm endB_toNorm endB_ret endB_exit regA_nil regA_cons putA_some putA_none insA_plain opA COp.ev pu dl dl0 appD nameOf nameOr_ptr nameOr_ref nameOr_mp nameOr_nl nameOr_full nameOr_grown grown_zero grownH_nil hset_id toNorm putA aEval_tmp aEval_func aEval_int aEval_bool aEval_nil edst eset_same eset_ne cmp_lss cmp_leq cmp_gtr cmp_geq cmp_eql cmp_neq num_add num_sub num_mul num_rem cmp_beql cmp_bneq cmp_seql cmp_sneq ite_map ite_bind ends_some ends_none ends_ite ends_bind ends_map rnd_norm rnd_toNorm rnd_exit rnd_ret norm_encI norm_encB oLit oAppend Blk.isDead oElems oSlice oExtract oIndexA oMk0 oConvInt oMin oMax oMapNew oMapPut oMapGet findA oNil AV.single valueA oPick oNot argEnv ressA resA tupA oNew oLoad oStore oFieldAddr oLen oIndexS asNum rowAt? hset partA AV.cells AV.storable AV.one hemp callA callD outA_sc outA_imm outA_agg outA_tup outA_ref outA_nl outA_full fz_sc fz_imm fz_full fz_nl fz_fn fz_agg fz_tup fz_ref fzA_sc fzA_imm fzA_full fzA_nl fzA_agg fzA_ref fz1_sc fz1_imm fz1_full fz1_nl fz1_ref fzRow_all AV.scalar AV.scalar1 evC nm nmA nm1 nm0 insA_b insA_skip run_condB isBool boolOf run_drawn endD_mk drawA_nil drawA_cons nextD_mk consE_mk putD_some putD_none insD_plain insD_b insD_skip opD COp.rd COp.wr AV.nms AV.nms1 indeps indep oMake oBuildC fillC setCellsA ofVal ofCell Value.oneCell' reshape LIM AV.pure AV.pure1 norm norm1 run_loop
def TC : List (FuncId × CFn) := [(134, c134), (135, c135), (150, c150), (151, c151), (152, c152), (154, c154), (155, c155), (219, c219)]
def BC : Inl := cloneI [(137, 1), (218, 1)]
theorem ic134 (H : Hand) (N d q : Nat) (l : List AV) (h : Hp) : inlB BC (mkT TC) H N (d + 1) q 134 l h = fnA H (inlB BC (mkT TC) H N d) N q c134 l h := rfl
theorem ic135 (H : Hand) (N d q : Nat) (l : List AV) (h : Hp) : inlB BC (mkT TC) H N (d + 1) q 135 l h = fnA H (inlB BC (mkT TC) H N d) N q c135 l h := rfl
theorem ic150 (H : Hand) (N d q : Nat) (l : List AV) (h : Hp) : inlB BC (mkT TC) H N (d + 1) q 150 l h = fnA H (inlB BC (mkT TC) H N d) N q c150 l h := rfl
theorem ic151 (H : Hand) (N d q : Nat) (l : List AV) (h : Hp) : inlB BC (mkT TC) H N (d + 1) q 151 l h = fnA H (inlB BC (mkT TC) H N d) N q c151 l h := rfl
theorem ic152 (H : Hand) (N d q : Nat) (l : List AV) (h : Hp) : inlB BC (mkT TC) H N (d + 1) q 152 l h = fnA H (inlB BC (mkT TC) H N d) N q c152 l h := rfl
theorem ic154 (H : Hand) (N d q : Nat) (l : List AV) (h : Hp) : inlB BC (mkT TC) H N (d + 1) q 154 l h = fnA H (inlB BC (mkT TC) H N d) N q c154 l h := rfl
theorem ic155 (H : Hand) (N d q : Nat) (l : List AV) (h : Hp) : inlB BC (mkT TC) H N (d + 1) q 155 l h = fnA H (inlB BC (mkT TC) H N d) N q c155 l h := rfl
theorem ic219 (H : Hand) (N d q : Nat) (l : List AV) (h : Hp) : inlB BC (mkT TC) H N (d + 1) q 219 l h = fnA H (inlB BC (mkT TC) H N d) N q c219 l h := rfl
theorem icC (H : Hand) (N d q f : Nat) (hf : f = 137 ∨ f = 218) (l : List AV) (h : Hp) : inlB BC (mkT TC) H N d q f l h = BC q f l h := by
  rcases hf with rfl | rfl <;> cases d <;> rfl
theorem clone_ints {H : Hand} {N d q : Nat} {h : Hp} {xs : List Int} (hx : xs.length ≤ 1073741824) : inlB BC (mkT TC) H N d q 137 [.imm (xs.map encI)] h = some (.ref (q * 512 + 7) ((h (q * 512 + 7)).1 + 1) 0 xs.length, hset h (q * 512 + 7) ((h (q * 512 + 7)).1 + 1, .row 1 (xs.map encI))) := by
  rw [icC _ _ _ _ _ (.inl rfl)]
  have h1 : (xs.map encI).all (okEl 1) = true := by simp [okEl, encI]
  have h3 : (xs.map encI).length ≤ LIM := by simpa [LIM] using hx
  have h0 : BC q 137 [.imm (xs.map encI)] h = cloneA 1 q h (.imm (xs.map encI)) := by simp [BC, cloneI]
  rw [h0]
  unfold cloneA
  simp only [oElems, Option.bind_some]
  rw [if_pos ⟨h1, h3⟩, List.length_map]
theorem clone_bools {H : Hand} {N d q : Nat} {h : Hp} {xs : List Bool} (hx : xs.length ≤ 1073741824) : inlB BC (mkT TC) H N d q 218 [.imm (xs.map encB)] h = some (.ref (q * 512 + 7) ((h (q * 512 + 7)).1 + 1) 0 xs.length, hset h (q * 512 + 7) ((h (q * 512 + 7)).1 + 1, .row 1 (xs.map encB))) := by
  rw [icC _ _ _ _ _ (.inr rfl)]
  have h1 : (xs.map encB).all (okEl 1) = true := by simp [okEl, encB]
  have h3 : (xs.map encB).length ≤ LIM := by simpa [LIM] using hx
  have h0 : BC q 218 [.imm (xs.map encB)] h = cloneA 1 q h (.imm (xs.map encB)) := by simp [BC, cloneI]
  rw [h0]
  unfold cloneA
  simp only [oElems, Option.bind_some]
  rw [if_pos ⟨h1, h3⟩, List.length_map]
theorem all134_at {H : Hand} {N d q m v : Nat} {h : Hp} {kind nodes round : Int} {cs : List AV} (hm : h m = (v, .row 7 [.agg (.sc (.int .i64 nodes) :: .sc (.int .i64 round) :: cs)])) (h1 : 1 ≤ nodes) (h8 : nodes ≤ 8) (hne : m ≠ q * 512 + 30) (hN : 8 < N) :
    inlB BC (mkT TC) H N (d + 1) q 134 [.ptr m v 0 0, .sc (.int .i64 kind)] h = some (.ref (q * 512 + 30) ((h (q * 512 + 30)).1 + nodes.toNat) 0 nodes.toNat, hset h (q * 512 + 30) ((h (q * 512 + 30)).1 + nodes.toNat, .row 8 ((allMsgs kind nodes round).map Msg.enc))) := by
  have hok : okR h m v q := by unfold okR; rw [hm]; exact ⟨rfl, h1, h8, hne⟩
  rw [ic134, all134_run hok hN]
  unfold all134F
  rw [hm]
  rfl
theorem all135_at {H : Hand} {N d q : Nat} {h : Hp} {kind nodes round : Int} {a2 a3 a4 a5 a6 : AV} (ho : (AV.agg [.sc (.int .i64 nodes), .sc (.int .i64 round), a2, a3, a4, a5, a6]).storable = true) (h1 : 1 ≤ nodes) (h8 : nodes ≤ 8) (hN : 8 < N) :
    inlB BC (mkT TC) H N (d + 1) q 135 [.agg [.sc (.int .i64 nodes), .sc (.int .i64 round), a2, a3, a4, a5, a6], .sc (.int .i64 kind)] h = some (.ref (q * 512 + 22) ((h (q * 512 + 22)).1 + nodes.toNat) 0 nodes.toNat, hset (hset h (q * 512 + 2) ((h (q * 512 + 2)).1 + 1, .row 7 [.agg [.sc (.int .i64 nodes), .sc (.int .i64 round), a2, a3, a4, a5, a6]])) (q * 512 + 22) ((h (q * 512 + 22)).1 + nodes.toNat, .row 8 ((allMsgs kind nodes round).map Msg.enc))) := by
  rw [ic135]
  have e1 : ∀ v, grown (q * 512 + 22) v nodes.toNat = .ref (q * 512 + 22) (v + nodes.toNat) 0 nodes.toNat := fun v => grown_pos _ _ _ (by omega)
  have e2 : ∀ h, grownH h (q * 512 + 22) 8 ((allMsgs kind nodes round).map Msg.enc) = hset h (q * 512 + 22) ((h (q * 512 + 22)).1 + nodes.toNat, .row 8 ((allMsgs kind nodes round).map Msg.enc)) := fun h => by
    unfold grownH; rw [all_len, if_neg (by omega)]
  have key : Ends (fnA H (inlB BC (mkT TC) H N d) N q c135 [.agg [.sc (.int .i64 nodes), .sc (.int .i64 round), a2, a3, a4, a5, a6], .sc (.int .i64 kind)] h) (fun p => p = (.ref (q * 512 + 22) ((h (q * 512 + 22)).1 + nodes.toNat) 0 nodes.toNat, hset (hset h (q * 512 + 2) ((h (q * 512 + 2)).1 + 1, .row 7 [.agg [.sc (.int .i64 nodes), .sc (.int .i64 round), a2, a3, a4, a5, a6]])) (q * 512 + 22) ((h (q * 512 + 22)).1 + nodes.toNat, .row 8 ((allMsgs kind nodes round).map Msg.enc)))) := by
    simp -implicitDefEqProofs [fnA, c135, ho, -AV.storable]
    refine Ends.mono (loop135 H _ N q kind nodes round [a2, a3, a4, a5, a6] (q * 512 + 2) ((h (q * 512 + 2)).1 + 1) _ (by simp [encI]) (by omega) (by omega) h8 hN _ (by simp) (by simp [encI]) (by simp [encI]) (by simp)) ?_
    rintro ⟨x, e', h'⟩ ⟨rfl, k1, rfl⟩
    simp only at k1
    simp -implicitDefEqProofs [k1, e1, e2]
  obtain ⟨p, k1, rfl⟩ := key
  exact k1
theorem seen_at {H : Hand} {N d q m v n u : Nat} {h : Hp} {l : List Bool} {j : Nat} {a0 a1 a2 a3 a4 a6 : AV} (hm : h m = (v, .row 7 [.agg [a0, a1, a2, a3, a4, .ref n u 0 l.length, a6]])) (hn : h n = (u, .row 1 (l.map encB))) (hj : j < l.length) (hl : l.length < 1073741824) (hN : l.length < N)
    (h1 : m ≠ n) (h2 : m ≠ q * 512 + 5) (h3 : n ≠ q * 512 + 5) :
    inlB BC (mkT TC) H N (d + 1) q 219 [.ptr m v 0 0, .sc (.int .i64 (j : Nat))] h = some (.sc (.bool ((l.set j true).all id)), hset (hset h n (u, .row 1 ((l.set j true).map encB))) (q * 512 + 5) ((h (q * 512 + 5)).1 + 1, .row 2 [.agg [encI (falses (l.set j true) : Nat), encI (((l.set j true).length - falses (l.set j true) : Nat) : Int)]])) := by
  rw [ic219]
  have hjj : (j : Int) < (l.length : Int) := by omega
  have h2' : ¬ q * 512 + 5 = m := fun e => h2 e.symm
  have h3' : ¬ q * 512 + 5 = n := fun e => h3 e.symm
  have h1' : ¬ n = m := fun e => h1 e.symm
  have hset' : (l.map encB).set j (.sc (.bool true)) = (l.set j true).map encB := by rw [List.map_set]; rfl
  have hsl : (l.set j true).length = l.length := List.length_set
  have key : Ends (fnA H (inlB BC (mkT TC) H N d) N q c219 [.ptr m v 0 0, .sc (.int .i64 (j : Nat))] h) (fun p => p = (.sc (.bool ((l.set j true).all id)), hset (hset h n (u, .row 1 ((l.set j true).map encB))) (q * 512 + 5) ((h (q * 512 + 5)).1 + 1, .row 2 [.agg [encI (falses (l.set j true) : Nat), encI (((l.set j true).length - falses (l.set j true) : Nat) : Int)]]))) := by
    simp -implicitDefEqProofs [fnA, c219, hm, hn, hjj, hj, h1, h1', h2, h2', h3, h3', encB, hset', -List.all_eq_true, -List.map_set]
    refine Ends.mono (loop219 H _ N q (l.set j true) (by omega) n u (q * 512 + 5) ((h (q * 512 + 5)).1 + 1) _ (by simp [h3, hset']) h3 (by omega) _ (by simp) (by simp [hsl]) (by simp [encI, hsl]) (by simp [encI]) (by simp [encI])) ?_
    rintro ⟨x, e', h'⟩ ⟨rfl, k1, rfl⟩
    simp only [encI] at k1
    have hz : falses (l.set j true) = 0 ↔ (l.set j true).all id = true := falses_zero
    generalize falses (l.set j true) = f at hz ⊢
    simp -implicitDefEqProofs [k1, hset_twice, encI, hset', -List.all_eq_true, -List.map_set]
    exact ⟨fun h0 => hz.1 h0, fun h0 => Classical.byContradiction fun hnn => h0 (hz.2 (List.all_eq_true.2 fun b hb => by
      cases b
      · exact absurd hb hnn
      · rfl))⟩
  obtain ⟨p, k1, rfl⟩ := key
  exact k1
end Go.Proofs.Ytihljollfbogeaa
