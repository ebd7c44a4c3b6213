/- Runs of few and of the law BarrierStarts. No condition. -/
import Derived.Test.YtihljollfbogeaaB8
import Derived.Test.YtihljollfbogeaaC4
set_option linter.unusedSimpArgs false
namespace Go.Proofs.Ytihljollfbogeaa
open Go Go.RowKit
attribute [local simp] run_skip run_ret run_exit run_seq run_block run_reg thn_norm thn_toNorm thn_ret thn_exit endB_norm endB_toNorm endB_ret endB_exit regA_nil regA_cons putA_some putA_none insA_plain opA COp.ev pu dl dl0 appD nameOf nameOr_ptr nameOr_ref nameOr_mp nameOr_nl nameOr_full nameOr_grown grown_zero grownH_nil hset_id toNorm putA aEval_tmp aEval_func aEval_int aEval_bool aEval_nil edst eset_same eset_ne cmp_lss cmp_leq cmp_gtr cmp_geq cmp_eql cmp_neq num_add num_sub num_mul num_rem cmp_beql cmp_bneq cmp_seql cmp_sneq ite_map ite_bind ends_some ends_none ends_ite ends_bind ends_map rnd_norm rnd_toNorm rnd_exit rnd_ret norm_encI norm_encB oLit oAppend Blk.isDead oElems oSlice oExtract oIndexA oMk0 oConvInt oMin oMax oMapNew oMapPut oMapGet findA oNil AV.single valueA oPick oNot argEnv ressA resA tupA oNew oLoad oStore oFieldAddr oLen oIndexS asNum rowAt? hset partA AV.cells AV.storable AV.one hemp callA callD outA_sc outA_imm outA_agg outA_tup outA_ref outA_nl outA_full fz_sc fz_imm fz_full fz_nl fz_fn fz_agg fz_tup fz_ref fzA_sc fzA_imm fzA_full fzA_nl fzA_agg fzA_ref fz1_sc fz1_imm fz1_full fz1_nl fz1_ref fzRow_all AV.scalar AV.scalar1 evC nm nmA nm1 nm0 insA_b insA_skip run_condB isBool boolOf run_drawn endD_mk drawA_nil drawA_cons nextD_mk consE_mk putD_some putD_none insD_plain insD_b insD_skip opD COp.rd COp.wr AV.nms AV.nms1 indeps indep oMake oBuildC fillC setCellsA ofVal ofCell Value.oneCell' reshape LIM AV.pure AV.pure1 norm norm1 run_loop
structure Mem where
  round : Int
  position : Int
  thawed : Int
  issued : Int
  frozen : Bool
  till : Int
  waiting : List Int
  held : List Int
def Mem.enc (m : Mem) : AV := .agg [encI m.round, encI m.position, encI m.thawed, encI m.issued, encB m.frozen, encI m.till, .imm (m.waiting.map encI), .imm (m.held.map encI)]
def few (c : Coord) (m : Mem) : Bool := decide (c.positions.length ≤ 20) && decide (c.seen.length ≤ 20) && decide (m.waiting.length ≤ 30) && decide (m.held.length ≤ 30)
theorem few37_run (H : Hand) (I : Inl) (N : Nat) (c : Coord) (m : Mem) : Ends (fnA H I N 1 c37 [c.enc, m.enc] hemp) (fun p => outA p = encB (few c m)) := by
  obtain ⟨nodes, round, phase, deadline, positions, seen, valid⟩ := c
  obtain ⟨mr, mp, mt, mi, mf, ml, waiting, held⟩ := m
  simp -implicitDefEqProofs [fnA, c37, Coord.enc, Mem.enc, encI, encB, few]
  repeat' first | refine And.intro ?_ ?_ | intro _
  all_goals first | omega | simp_all
theorem law4_run (H : Hand) (I : Inl) (N : Nat) (c : Coord) (now patience : Int) (fw : Bool) (r : Coord × List Msg × Int) (n : Coord × Int) (p : List Int × Bool) (k : Int)
    (h37 : H 37 [c.enc, Mem.enc ⟨0, 0, 0, 0, false, 0, [], []⟩] = some (encB fw)) (h38 : H 38 [] = some (encB true))
    (hh : fw = true → H 39 [c.enc, encI now, encI patience] = some (encS r) ∧ H 40 [c.enc, encI now, encI patience] = some (encS r) ∧ H 41 [r.1.enc, r.1.enc] = some (encB true) ∧ H 42 [encMs r.2.1, encMs r.2.1] = some (encB true)
      ∧ H 43 [c.enc] = some (encI k) ∧ H 44 [c.enc] = some (encI k) ∧ H 45 [encI patience] = some (.tup [n.1.enc, encI n.2]) ∧ H 46 [encI patience] = some (.tup [n.1.enc, encI n.2]) ∧ H 41 [n.1.enc, n.1.enc] = some (encB true)
      ∧ H 47 [c.enc] = some (encR p) ∧ H 48 [c.enc] = some (encR p) ∧ H 49 [.imm (p.1.map encI), .imm (p.1.map encI)] = some (encB true)) :
    Ends (fnA H I N 1 c4 [c.enc, encI now, encI patience] hemp) (fun p => outA p = encB true) := by
  obtain ⟨nodes, round, phase, deadline, positions, seen, valid⟩ := c
  obtain ⟨⟨a1, a2, a3, a4, a5, a6, a7⟩, ms, er⟩ := r
  obtain ⟨⟨b1, b2, b3, b4, b5, b6, b7⟩, en⟩ := n
  obtain ⟨ps, ok⟩ := p
  simp only [Coord.enc, Mem.enc, encI, encB, List.map_nil] at h37 h38
  cases fw with
  | false => simp -implicitDefEqProofs [fnA, c4, Coord.enc, encI, encB, h37, h38]
  | true =>
    obtain ⟨g1, g2, g3, g4, g5, g6, g7, g8, g9, g10, g11, g12⟩ := hh rfl
    simp only [Coord.enc, encS, encR, encMs, encI, encB] at g1 g2 g3 g4 g5 g6 g7 g8 g9 g10 g11 g12
    simp -implicitDefEqProofs [fnA, c4, Coord.enc, encI, encB, h37, h38, g1, g2, g3, g4, g5, g6, g7, g8, g9, g10, g11, g12]
end Go.Proofs.Ytihljollfbogeaa
