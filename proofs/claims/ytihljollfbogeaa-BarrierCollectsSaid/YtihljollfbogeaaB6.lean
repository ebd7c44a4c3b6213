/- Runs of 'all', whole. No condition. -/
import Derived.Test.YtihljollfbogeaaB5
set_option linter.unusedSimpArgs false
namespace Go.Proofs.Ytihljollfbogeaa
open Go Go.RowKit
attribute [local simp] run_skip run_ret run_exit run_seq run_block run_reg thn_norm thn_toNorm thn_ret thn_exit endB_norm endB_toNorm endB_ret endB_exit regA_nil regA_cons putA_some putA_none insA_plain opA COp.ev pu dl dl0 appD nameOf nameOr_ptr nameOr_ref nameOr_mp nameOr_nl nameOr_full nameOr_grown grown_zero grownH_nil hset_id toNorm putA aEval_tmp aEval_func aEval_int aEval_bool aEval_nil edst eset_same eset_ne cmp_lss cmp_leq cmp_gtr cmp_geq cmp_eql cmp_neq num_add num_sub num_mul num_rem cmp_beql cmp_bneq cmp_seql cmp_sneq ite_map ite_bind ends_some ends_none ends_ite ends_bind ends_map rnd_norm rnd_toNorm rnd_exit rnd_ret norm_encI norm_encB oLit oAppend Blk.isDead oElems oSlice oExtract oIndexA oMk0 oConvInt oMin oMax oMapNew oMapPut oMapGet findA oNil AV.single valueA oPick oNot argEnv ressA resA tupA oNew oLoad oStore oFieldAddr oLen oIndexS asNum rowAt? hset partA AV.cells AV.storable AV.one hemp callA outA_sc outA_imm outA_agg outA_tup outA_ref outA_nl outA_full fz_sc fz_imm fz_full fz_nl fz_fn fz_agg fz_tup fz_ref fzA_sc fzA_imm fzA_full fzA_nl fzA_agg fzA_ref fz1_sc fz1_imm fz1_full fz1_nl fz1_ref fzRow_all AV.scalar AV.scalar1 evC nm nmA nm1 nm0 insA_b insA_skip run_condB isBool boolOf run_drawn endD_mk drawA_nil drawA_cons nextD_mk consE_mk putD_some putD_none insD_plain insD_b insD_skip opD COp.rd COp.wr AV.nms AV.nms1 indeps indep oMake oBuildC fillC setCellsA ofVal ofCell Value.oneCell' reshape LIM AV.pure AV.pure1 norm norm1 run_loop
/-- The pointer leads to a coordinator with so many nodes; the new block lies elsewhere. -/
def okR (h : Hp) (m v q : Nat) : Prop := match h m with
  | (v', .row 7 [.agg (.sc (.int .i64 nodes) :: .sc (.int .i64 _) :: _)]) => v' = v ∧ 1 ≤ nodes ∧ nodes ≤ 8 ∧ m ≠ q * 512 + 30
  | _ => False
def all134F (q : Nat) (h : Hp) (m : Nat) (kind : Int) : Option (AV × Hp) := match h m with
  | (_, .row 7 [.agg (.sc (.int .i64 nodes) :: .sc (.int .i64 round) :: _)]) => some (.ref (q * 512 + 30) ((h (q * 512 + 30)).1 + nodes.toNat) 0 nodes.toNat, hset h (q * 512 + 30) ((h (q * 512 + 30)).1 + nodes.toNat, .row 8 ((allMsgs kind nodes round).map Msg.enc)))
  | _ => none
theorem all_len (kind nodes round : Int) : ((allMsgs kind nodes round).map Msg.enc).length = nodes.toNat := by simp [allMsgs]
theorem all_len' (kind nodes round : Int) : (allMsgs kind nodes round).length = nodes.toNat := by simp [allMsgs]
theorem all134_run {H : Hand} {I : Inl} {N q m v : Nat} {h : Hp} {kind : Int} (hc : okR h m v q) (hN : 8 < N) : fnA H I N q c134 [.ptr m v 0 0, .sc (.int .i64 kind)] h = all134F q h m kind := by
  unfold okR at hc
  unfold all134F
  split at hc
  · rename_i v' nodes round cs hm
    obtain ⟨rfl, h0, h8, hne⟩ := hc
    have e1 : grown (q * 512 + 30) (h (q * 512 + 30)).1 nodes.toNat = .ref (q * 512 + 30) ((h (q * 512 + 30)).1 + nodes.toNat) 0 nodes.toNat := grown_pos _ _ _ (by omega)
    have e2 : grownH h (q * 512 + 30) 8 ((allMsgs kind nodes round).map Msg.enc) = hset h (q * 512 + 30) ((h (q * 512 + 30)).1 + nodes.toNat, .row 8 ((allMsgs kind nodes round).map Msg.enc)) := by
      unfold grownH; rw [all_len, if_neg (by omega)]
    have key : Ends (fnA H I N q c134 [.ptr m v' 0 0, .sc (.int .i64 kind)] h) (fun p => p = (grown (q * 512 + 30) (h (q * 512 + 30)).1 nodes.toNat, grownH h (q * 512 + 30) 8 ((allMsgs kind nodes round).map Msg.enc))) := by
      simp -implicitDefEqProofs [fnA, c134, hm]
      refine Ends.mono (loop134 H I N q kind nodes round cs m v' h (by rw [hm]; rfl) hne (by omega) h8 hN _ (by simp) (by simp [encI]) (by simp [encI]) (by simp [encI]) (by simp)) ?_
      rintro ⟨x, e', h'⟩ ⟨rfl, k1, rfl⟩
      simp only at k1
      simp -implicitDefEqProofs [k1]
    obtain ⟨p, k1, rfl⟩ := key
    rw [k1, e1, e2]
  · exact hc.elim
theorem loop135 (H : Hand) (I : Inl) (N q : Nat) (kind nodes round : Int) (cs : List AV) (m v : Nat) (h : Hp) (hm : h m = (v, .row 7 [.agg (encI nodes :: encI round :: cs)])) (hne : m ≠ q * 512 + 22) (h0 : 0 ≤ nodes) (h8 : nodes ≤ 8) (hN : 8 < N) (e : Env)
    (e0 : e 2 = .ptr m v 0 0) (e1 : e 1 = encI kind) (e12 : e 6 = encI 0) (e5 : e 5 = .nl) :
    Ends (iter (run H I N q b135_0) N (e, h)) (fun r => r.1 = .exit 0 ∧ r.2.1 5 = grown (q * 512 + 22) (h (q * 512 + 22)).1 nodes.toNat ∧ r.2.2 = grownH h (q * 512 + 22) 8 ((allMsgs kind nodes round).map Msg.enc)) := by
  obtain ⟨n, rfl⟩ := Int.eq_ofNat_of_zero_le h0
  refine Ends.mono (for_loop n (fun i s => s.1 2 = .ptr m v 0 0 ∧ s.1 1 = encI kind ∧ s.1 6 = encI i ∧ s.1 5 = grown (q * 512 + 22) (h (q * 512 + 22)).1 i ∧ s.2 = grownH h (q * 512 + 22) 8 ((List.range i).map fun i => (msgTo kind n round i).enc))
    (fun x s => x = .exit 0 ∧ s.1 5 = grown (q * 512 + 22) (h (q * 512 + 22)).1 n ∧ s.2 = grownH h (q * 512 + 22) 8 ((List.range n).map fun i => (msgTo kind n round i).enc)) ?_ ?_ (by omega) ⟨e0, e1, e12, e5, rfl⟩) ?_
  · rintro i e h' hi ⟨g0, g1, g12, g5, rfl⟩
    simp only [encI] at g0 g1 g12 g5
    have hlt : (i : Int) < (n : Int) := by omega
    have hw : IntKind.i64.wrap ((i : Int) + 1) = (i : Int) + 1 := wrap_small (by omega) (by omega)
    have hmm := (grownH_ne (h := h) (k := 8) (L := (List.range i).map fun i => (msgTo kind n round i).enc) hne).trans hm
    have happ := app_grown (h := h) (n := q * 512 + 22) (k := 8) (i := i) (L := (List.range i).map fun i => (msgTo kind n round i).enc) (x := (msgTo kind n round i).enc) (by simp) (by rfl) (by simp [LIM]; omega)
    rw [range_map_succ]
    generalize (List.range i).map (fun i => (msgTo kind n round i).enc) = L at hmm happ ⊢
    simp only [Msg.enc, msgTo, List.map_nil, encI] at happ
    simp -implicitDefEqProofs [b135_0, g0, g1, g12, g5, hlt, hi, hw, encI, hmm, happ, grownH_at, msgTo, Msg.enc, -oAppend]
  · rintro e h' ⟨g0, g1, g12, g5, rfl⟩
    simp only [encI] at g0 g1 g12 g5
    have hmm := (grownH_ne (h := h) (k := 8) (L := (List.range n).map fun i => (msgTo kind n round i).enc) hne).trans hm
    simp -implicitDefEqProofs [b135_0, g0, g1, g12, g5, encI, hmm]
  · rintro ⟨x, s⟩ ⟨_, k1, k2, k3⟩
    refine ⟨k1, by simpa using k2, ?_⟩
    rw [k3]
    simp [allMsgs, Function.comp_def]
theorem msgs_pure (l : List Msg) : (l.map Msg.enc).all AV.pure = true := by simp [Msg.enc, encI]
theorem msgs_norm (l : List Msg) : (l.map Msg.enc).map norm = l.map Msg.enc := by simp [Msg.enc, encI]
theorem norm_msg : norm ∘ Msg.enc = Msg.enc := by funext m; simp [Msg.enc, encI]
/-- What has grown, frozen. -/
theorem fz1_grown {h : Hp} {n k v i : Nat} {L : List AV} (hv : (h n).1 = v) (hi : L.length = i) (hp : L.all AV.pure = true) : fz1 (grownH h n k L) (grown n v i) = .imm (L.map norm) := by
  subst hv; subst hi
  unfold grownH grown
  by_cases h0 : L.length = 0
  · have : L = [] := List.eq_nil_of_length_eq_zero h0
    subst this
    simp
  · simp -implicitDefEqProofs [h0, hset, hp, -AV.pure, -norm, -List.all_eq_true]
theorem grown_cases {n v i : Nat} {p : AV → Prop} (h1 : p .nl) (h2 : p (.ref n (v + i) 0 i)) : p (grown n v i) := by
  unfold grown; split
  · exact h1
  · exact h2
theorem outA_grown {h : Hp} {n k v i : Nat} {L : List AV} (hv : (h n).1 = v) (hi : L.length = i) (hp : L.all AV.pure = true) : outA (grown n v i, grownH h n k L) = .imm (L.map norm) := by
  rw [← fz1_grown hv hi hp]
  exact grown_cases (p := fun a => outA (a, grownH h n k L) = fz1 (grownH h n k L) a) rfl rfl
theorem fzA_grown {h : Hp} {n k v i : Nat} {L : List AV} (hv : (h n).1 = v) (hi : L.length = i) (hp : L.all AV.pure = true) : fzA (grownH h n k L) (grown n v i) = .imm (L.map norm) := by
  rw [← fz1_grown hv hi hp]
  exact grown_cases (p := fun a => fzA (grownH h n k L) a = fz1 (grownH h n k L) a) rfl rfl
theorem all135_run (H : Hand) (I : Inl) (N q : Nat) (c : Coord) (kind : Int) (h0 : 0 ≤ c.nodes) (h8 : c.nodes ≤ 8) (hN : 8 < N) :
    Ends (fnA H I N q c135 [c.enc, encI kind] hemp) (fun p => outA p = encMs (allMsgs kind c.nodes c.round)) := by
  obtain ⟨nodes, round, phase, deadline, positions, seen, valid⟩ := c
  simp only at h0 h8
  simp -implicitDefEqProofs [fnA, c135, Coord.enc, encI, encB]
  refine Ends.mono (loop135 H I N q kind nodes round [encI phase, encI deadline, .imm (positions.map encI), .imm (seen.map encB), encB valid] (q * 512 + 2) 1 _ (by simp [encI, encB]) (by omega) h0 h8 hN _ (by simp) (by simp [encI]) (by simp [encI]) (by simp)) ?_
  rintro ⟨x, e', h'⟩ ⟨rfl, k1, rfl⟩
  simp only at k1
  simp -implicitDefEqProofs [k1]
  rw [outA_grown (by simp) (all_len ..) (msgs_pure _), msgs_norm]; rfl
end Go.Proofs.Ytihljollfbogeaa
