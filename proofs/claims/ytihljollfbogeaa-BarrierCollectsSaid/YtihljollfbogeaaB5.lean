/- Runs of 'all': a message to every node. No condition. -/
import Derived.Test.YtihljollfbogeaaB4
import Derived.Test.YtihljollfbogeaaMc
set_option linter.unusedSimpArgs false
namespace Go.Proofs.Ytihljollfbogeaa
open Go Go.RowKit
attribute [local simp] run_skip run_ret run_exit run_seq run_block run_reg thn_norm thn_toNorm thn_ret thn_exit endB_norm endB_toNorm endB_ret endB_exit regA_nil regA_cons putA_some putA_none insA_plain opA COp.ev pu dl dl0 appD nameOf nameOr_ptr nameOr_ref nameOr_mp nameOr_nl nameOr_full nameOr_grown grown_zero grownH_nil hset_id toNorm putA aEval_tmp aEval_func aEval_int aEval_bool aEval_nil edst eset_same eset_ne cmp_lss cmp_leq cmp_gtr cmp_geq cmp_eql cmp_neq num_add num_sub num_mul num_rem cmp_beql cmp_bneq cmp_seql cmp_sneq ite_map ite_bind ends_some ends_none ends_ite ends_bind ends_map rnd_norm rnd_toNorm rnd_exit rnd_ret norm_encI norm_encB oLit oAppend Blk.isDead oElems oSlice oExtract oIndexA oMk0 oConvInt oMin oMax oMapNew oMapPut oMapGet findA oNil AV.single valueA oPick oNot argEnv ressA resA tupA oNew oLoad oStore oFieldAddr oLen oIndexS asNum rowAt? hset partA AV.cells AV.storable AV.one hemp callA outA_sc outA_imm outA_agg outA_tup outA_ref outA_nl outA_full fz_sc fz_imm fz_full fz_nl fz_fn fz_agg fz_tup fz_ref fzA_sc fzA_imm fzA_full fzA_nl fzA_agg fzA_ref fz1_sc fz1_imm fz1_full fz1_nl fz1_ref fzRow_all AV.scalar AV.scalar1 evC nm nmA nm1 nm0 insA_b insA_skip run_condB isBool boolOf run_drawn endD_mk drawA_nil drawA_cons nextD_mk consE_mk putD_some putD_none insD_plain insD_b insD_skip opD COp.rd COp.wr AV.nms AV.nms1 indeps indep oMake oBuildC fillC setCellsA ofVal ofCell Value.oneCell' reshape LIM AV.pure AV.pure1 norm norm1 run_loop
structure Msg where
  kind : Int
  src : Int
  dst : Int
  number : Int
  value : Int
  epoch : Int
  values : List Int
  body : List Int
def encU (n : Int) : AV := .sc (.int .u8 n)
def Msg.enc (m : Msg) : AV := .agg [encI m.kind, encI m.src, encI m.dst, encI m.number, encI m.value, encI m.epoch, .imm (m.values.map encI), .imm (m.body.map encU)]
def msgTo (kind nodes round : Int) (i : Nat) : Msg := ⟨kind, nodes, i, round, 0, 0, [], []⟩
def allMsgs (kind nodes round : Int) : List Msg := (List.range nodes.toNat).map (msgTo kind nodes round)
def encMs (l : List Msg) : AV := .imm (l.map Msg.enc)
theorem loop134 (H : Hand) (I : Inl) (N q : Nat) (kind nodes round : Int) (cs : List AV) (m v : Nat) (h : Hp) (hm : h m = (v, .row 7 [.agg (encI nodes :: encI round :: cs)])) (hne : m ≠ q * 512 + 30) (h0 : 0 ≤ nodes) (h8 : nodes ≤ 8) (hN : 8 < N) (e : Env)
    (e0 : e 0 = .ptr m v 0 0) (e1 : e 1 = encI kind) (e11 : e 11 = encI nodes) (e12 : e 12 = encI 0) (e5 : e 5 = .nl) :
    Ends (iter (run H I N q b134_0) N (e, h)) (fun r => r.1 = .exit 0 ∧ r.2.1 5 = grown (q * 512 + 30) (h (q * 512 + 30)).1 nodes.toNat ∧ r.2.2 = grownH h (q * 512 + 30) 8 ((allMsgs kind nodes round).map Msg.enc)) := by
  obtain ⟨n, rfl⟩ := Int.eq_ofNat_of_zero_le h0
  refine Ends.mono (for_loop n (fun i s => s.1 0 = .ptr m v 0 0 ∧ s.1 1 = encI kind ∧ s.1 11 = encI n ∧ s.1 12 = encI i ∧ s.1 5 = grown (q * 512 + 30) (h (q * 512 + 30)).1 i ∧ s.2 = grownH h (q * 512 + 30) 8 ((List.range i).map fun i => (msgTo kind n round i).enc))
    (fun x s => x = .exit 0 ∧ s.1 5 = grown (q * 512 + 30) (h (q * 512 + 30)).1 n ∧ s.2 = grownH h (q * 512 + 30) 8 ((List.range n).map fun i => (msgTo kind n round i).enc)) ?_ ?_ (by omega) ⟨e0, e1, e11, e12, e5, rfl⟩) ?_
  · rintro i e h' hi ⟨g0, g1, g11, g12, g5, rfl⟩
    simp only [encI] at g0 g1 g11 g12 g5
    have hlt : (i : Int) < (n : Int) := by omega
    have hw : IntKind.i64.wrap ((i : Int) + 1) = (i : Int) + 1 := wrap_small (by omega) (by omega)
    have hmm := (grownH_ne (h := h) (k := 8) (L := (List.range i).map fun i => (msgTo kind n round i).enc) hne).trans hm
    have happ := app_grown (h := h) (n := q * 512 + 30) (k := 8) (i := i) (L := (List.range i).map fun i => (msgTo kind n round i).enc) (x := (msgTo kind n round i).enc) (by simp) (by rfl) (by simp [LIM]; omega)
    rw [range_map_succ]
    generalize (List.range i).map (fun i => (msgTo kind n round i).enc) = L at hmm happ ⊢
    simp only [Msg.enc, msgTo, List.map_nil, encI] at happ
    simp -implicitDefEqProofs [b134_0, g0, g1, g11, g12, g5, hlt, hw, encI, hmm, happ, nameOr_grown, grownH_at, hset_id, msgTo, Msg.enc, -oAppend]
  · rintro e h' ⟨g0, g1, g11, g12, g5, rfl⟩
    simp only [encI] at g0 g1 g11 g12 g5
    simp -implicitDefEqProofs [b134_0, g0, g1, g11, g12, g5, encI]
  · rintro ⟨x, s⟩ ⟨_, k1, k2, k3⟩
    refine ⟨k1, by simpa using k2, ?_⟩
    rw [k3]
    simp [allMsgs, Function.comp_def]
end Go.Proofs.Ytihljollfbogeaa
