/- Runs of the coordinator's functions: time, New, CheckCoordinator, SameInts. No condition. -/
import Derived.Test.YtihljollfbogeaaMc
import Derived.Test.YtihljollfbogeaaProg
set_option linter.unusedSimpArgs false
namespace Go.Proofs.Ytihljollfbogeaa
open Go Go.RowKit
attribute [local simp] run_skip run_ret run_exit run_seq run_block run_reg thn_norm thn_toNorm thn_ret thn_exit endB_norm endB_toNorm endB_ret endB_exit regA_nil regA_cons putA_some putA_none insA_plain opA COp.ev pu dl dl0 appD nameOf nameOr toNorm putA aEval_tmp aEval_func aEval_int aEval_bool aEval_nil edst eset_same eset_ne oBinC_int binInt oPick oNot argEnv ressA resA tupA oNew oLoad oStore oFieldAddr oLen oIndexS asNum rowAt? hset partA AV.cells AV.storable AV.one hemp callA isMk copyA outA_sc outA_imm outA_agg outA_tup outA_ref outA_nl outA_full fz_sc fz_imm fz_full fz_nl fz_fn fz_agg fz_tup fz_ref fzA_sc fzA_imm fzA_full fzA_nl fzA_agg fzA_ref fz1_sc fz1_imm fz1_full fz1_nl fz1_ref fzRow_some AV.scalar AV.scalar1 insA_yes insA_no run_cond_true run_cond_false run_drawn endD_mk drawA_nil drawA_cons nextD_mk consE_mk putD_some putD_none insD_plain insD_yes insD_no opD COp.rd COp.wr AV.nms AV.nms1 indeps indep oMake oBuildC fillC setCellsA ofVal ofCell Value.oneCell' reshape LIM AV.pure AV.pure1 norm norm1 run_loop
structure Coord where
  nodes : Int
  round : Int
  phase : Int
  deadline : Int
  positions : List Int
  seen : List Bool
  valid : Bool
def Coord.enc (c : Coord) : AV := .agg [encI c.nodes, encI c.round, encI c.phase, encI c.deadline, .imm (c.positions.map encI), .imm (c.seen.map encB), encB c.valid]
def Coord.zero : Coord := ⟨0, 0, 0, 0, [], [], false⟩
def newCoord (n : Int) : Coord × Int := if n < 1 ∨ 8 < n then (.zero, 2) else (⟨n, 0, 0, 0, List.replicate n.toNat 0, List.replicate n.toNat false, false⟩, 0)
def c133 : CFn := (CFn.mk [(CRes.tmp 2)] (CC.seq (CC.reg [(CIns.mk (Option.some 2) Option.none (COp.mv (Operand.const (Value.bool Bool.false))))]) (CC.seq (CC.reg [(CIns.mk (Option.some 3) Option.none (COp.mv (Operand.tmp 0))), (CIns.mk (Option.some 4) Option.none (COp.bin BinOp.geq Bool.false Option.none (Operand.tmp 3) (Operand.const (Value.int IntKind.i64 (0))))), (CIns.mk (Option.some 5) Option.none (COp.mv (Operand.tmp 4))), (CIns.mk (Option.some 6) (Option.some (5, Bool.true)) (COp.mv (Operand.tmp 0))), (CIns.mk (Option.some 7) (Option.some (5, Bool.true)) (COp.bin BinOp.leq Bool.false Option.none (Operand.tmp 6) (Operand.const (Value.int IntKind.i64 (1073741824))))), (CIns.mk (Option.some 8) Option.none (COp.pick (Operand.tmp 5) (Operand.tmp 7) (Operand.const (Value.bool Bool.false)))), (CIns.mk (Option.some 2) Option.none (COp.mv (Operand.tmp 8)))]) CC.ret)))
theorem k133 : compFn Try.prog Try.f133 = some c133 := by kernel_rfl
def timeOk (n : Int) : Bool := decide (0 ≤ n) && decide (n ≤ 1073741824)
theorem time_run (H : Hand) (I : Inl) (N q : Nat) (n : Int) : (fnA H I N q c133 [encI n] hemp).map outA = some (encB (timeOk n)) := by
  by_cases h : 0 ≤ n <;> simp [fnA, c133, encI, encB, timeOk, h]
def c45 : CFn := (CFn.mk [(CRes.cell Bool.true 7 2), (CRes.tmp 3)] (CC.seq (CC.reg [(CIns.mk (Option.some 2) Option.none (COp.alloc (Value.agg #[(Value.int IntKind.i64 (0)), (Value.int IntKind.i64 (0)), (Value.int IntKind.i64 (0)), (Value.int IntKind.i64 (0)), (Value.slice Option.none 0 0), (Value.slice Option.none 0 0), (Value.bool Bool.false)]))), (CIns.mk (Option.some 3) Option.none (COp.mv (Operand.const (Value.int IntKind.i64 (0)))))]) (CC.seq (CC.seq (CC.reg [(CIns.mk (Option.some 4) Option.none (COp.mv (Operand.tmp 0))), (CIns.mk (Option.some 5) Option.none (COp.bin BinOp.lss Bool.false Option.none (Operand.tmp 4) (Operand.const (Value.int IntKind.i64 (1))))), (CIns.mk (Option.some 6) Option.none (COp.mv (Operand.tmp 5))), (CIns.mk (Option.some 7) (Option.some (6, Bool.false)) (COp.mv (Operand.tmp 0))), (CIns.mk (Option.some 8) (Option.some (6, Bool.false)) (COp.bin BinOp.gtr Bool.false Option.none (Operand.tmp 7) (Operand.const (Value.int IntKind.i64 (8))))), (CIns.mk (Option.some 9) Option.none (COp.pick (Operand.tmp 6) (Operand.const (Value.bool Bool.true)) (Operand.tmp 8)))]) (CC.cond (Operand.tmp 9) (CC.seq (CC.reg [(CIns.mk (Option.some 10) Option.none (COp.build (Value.agg #[(Value.int IntKind.i64 (0)), (Value.int IntKind.i64 (0)), (Value.int IntKind.i64 (0)), (Value.int IntKind.i64 (0)), (Value.slice Option.none 0 0), (Value.slice Option.none 0 0), (Value.bool Bool.false)]) [])), (CIns.mk Option.none Option.none (COp.store 7 (Operand.tmp 2) (Operand.tmp 10))), (CIns.mk (Option.some 3) Option.none (COp.mv (Operand.const (Value.int IntKind.i64 (2)))))]) CC.ret) CC.skip)) (CC.seq (CC.draw [(CIns.mk (Option.some 11) Option.none (COp.mv (Operand.tmp 0))), (CIns.mk (Option.some 12) Option.none (COp.mv (Operand.tmp 0))), (CIns.mk (Option.some 13) Option.none (COp.make 1 (Value.int IntKind.i64 (0)) (Operand.tmp 12))), (CIns.mk (Option.some 14) Option.none (COp.mv (Operand.tmp 0))), (CIns.mk (Option.some 15) Option.none (COp.make 1 (Value.bool Bool.false) (Operand.tmp 14))), (CIns.mk (Option.some 16) Option.none (COp.build (Value.agg #[(Value.int IntKind.i64 (0)), (Value.int IntKind.i64 (0)), (Value.int IntKind.i64 (0)), (Value.int IntKind.i64 (0)), (Value.slice Option.none 0 0), (Value.slice Option.none 0 0), (Value.bool Bool.false)]) [(0, (1, (Operand.tmp 11))), (4, (1, (Operand.tmp 13))), (5, (1, (Operand.tmp 15)))])), (CIns.mk Option.none Option.none (COp.store 7 (Operand.tmp 2) (Operand.tmp 16))), (CIns.mk (Option.some 3) Option.none (COp.mv (Operand.const (Value.int IntKind.i64 (0)))))] [(2, 4)]) CC.ret))))
theorem k45 : compFn Try.prog Try.f45 = some c45 := by kernel_rfl
theorem new_run (H : Hand) (I : Inl) (N q : Nat) (n : Int) : (fnA H I N q c45 [encI n] hemp).map outA = some (.tup [(newCoord n).1.enc, encI (newCoord n).2]) := by
  by_cases h1 : n < 1
  · simp [fnA, c45, encI, encB, newCoord, Coord.zero, Coord.enc, h1]
  by_cases h2 : 8 < n
  · simp [fnA, c45, encI, encB, newCoord, Coord.zero, Coord.enc, h1, h2]
  have h3 : 0 ≤ n := by omega
  have h4 : n ≤ 1073741824 := by omega
  simp [fnA, c45, encI, encB, newCoord, Coord.zero, Coord.enc, h1, h2, h3, h4]
def c43 : CFn := (CFn.mk [(CRes.tmp 2)] (CC.seq (CC.reg [(CIns.mk (Option.some 1) Option.none (COp.box (Operand.tmp 0))), (CIns.mk (Option.some 2) Option.none (COp.mv (Operand.const (Value.int IntKind.i64 (0)))))]) (CC.seq (CC.block 0 (CC.seq (CC.seq (CC.reg [(CIns.mk (Option.some 4) Option.none (COp.faddr 0 (Operand.tmp 1))), (CIns.mk (Option.some 5) Option.none (COp.load Bool.false 1 (Operand.tmp 4))), (CIns.mk (Option.some 6) Option.none (COp.bin BinOp.lss Bool.false Option.none (Operand.tmp 5) (Operand.const (Value.int IntKind.i64 (1))))), (CIns.mk (Option.some 3) Option.none (COp.mv (Operand.tmp 6)))]) (CC.cond (Operand.tmp 3) CC.skip (CC.seq (CC.reg [(CIns.mk (Option.some 7) Option.none (COp.faddr 0 (Operand.tmp 1))), (CIns.mk (Option.some 8) Option.none (COp.load Bool.false 1 (Operand.tmp 7))), (CIns.mk (Option.some 9) Option.none (COp.bin BinOp.gtr Bool.false Option.none (Operand.tmp 8) (Operand.const (Value.int IntKind.i64 (8))))), (CIns.mk (Option.some 3) Option.none (COp.mv (Operand.tmp 9)))]) (CC.cond (Operand.tmp 3) CC.skip (CC.seq (CC.reg [(CIns.mk (Option.some 10) Option.none (COp.faddr 1 (Operand.tmp 1))), (CIns.mk (Option.some 11) Option.none (COp.load Bool.false 1 (Operand.tmp 10))), (CIns.mk (Option.some 12) Option.none (COp.call 133 [(Operand.tmp 11)])), (CIns.mk (Option.some 13) Option.none (COp.inv (Operand.tmp 12))), (CIns.mk (Option.some 3) Option.none (COp.mv (Operand.tmp 13)))]) (CC.cond (Operand.tmp 3) CC.skip (CC.seq (CC.reg [(CIns.mk (Option.some 14) Option.none (COp.faddr 3 (Operand.tmp 1))), (CIns.mk (Option.some 15) Option.none (COp.load Bool.false 1 (Operand.tmp 14))), (CIns.mk (Option.some 16) Option.none (COp.call 133 [(Operand.tmp 15)])), (CIns.mk (Option.some 17) Option.none (COp.inv (Operand.tmp 16))), (CIns.mk (Option.some 3) Option.none (COp.mv (Operand.tmp 17)))]) (CC.cond (Operand.tmp 3) CC.skip (CC.seq (CC.reg [(CIns.mk (Option.some 18) Option.none (COp.faddr 2 (Operand.tmp 1))), (CIns.mk (Option.some 19) Option.none (COp.load Bool.false 1 (Operand.tmp 18))), (CIns.mk (Option.some 20) Option.none (COp.bin BinOp.lss Bool.false Option.none (Operand.tmp 19) (Operand.const (Value.int IntKind.i64 (0))))), (CIns.mk (Option.some 3) Option.none (COp.mv (Operand.tmp 20)))]) (CC.cond (Operand.tmp 3) CC.skip (CC.reg [(CIns.mk (Option.some 21) Option.none (COp.faddr 2 (Operand.tmp 1))), (CIns.mk (Option.some 22) Option.none (COp.load Bool.false 1 (Operand.tmp 21))), (CIns.mk (Option.some 23) Option.none (COp.bin BinOp.gtr Bool.false Option.none (Operand.tmp 22) (Operand.const (Value.int IntKind.i64 (2))))), (CIns.mk (Option.some 3) Option.none (COp.mv (Operand.tmp 23)))]))))))))))) (CC.cond (Operand.tmp 3) (CC.seq (CC.reg [(CIns.mk (Option.some 2) Option.none (COp.mv (Operand.const (Value.int IntKind.i64 (3)))))]) CC.ret) (CC.seq (CC.seq (CC.reg [(CIns.mk (Option.some 25) Option.none (COp.faddr 4 (Operand.tmp 1))), (CIns.mk (Option.some 26) Option.none (COp.load Bool.false 1 (Operand.tmp 25))), (CIns.mk (Option.some 27) Option.none (COp.len (Operand.tmp 26))), (CIns.mk (Option.some 28) Option.none (COp.faddr 0 (Operand.tmp 1))), (CIns.mk (Option.some 29) Option.none (COp.load Bool.false 1 (Operand.tmp 28))), (CIns.mk (Option.some 30) Option.none (COp.bin BinOp.neq Bool.false Option.none (Operand.tmp 27) (Operand.tmp 29))), (CIns.mk (Option.some 24) Option.none (COp.mv (Operand.tmp 30)))]) (CC.cond (Operand.tmp 24) CC.skip (CC.seq (CC.reg [(CIns.mk (Option.some 31) Option.none (COp.faddr 5 (Operand.tmp 1))), (CIns.mk (Option.some 32) Option.none (COp.load Bool.false 1 (Operand.tmp 31))), (CIns.mk (Option.some 33) Option.none (COp.len (Operand.tmp 32))), (CIns.mk (Option.some 34) Option.none (COp.faddr 0 (Operand.tmp 1))), (CIns.mk (Option.some 35) Option.none (COp.load Bool.false 1 (Operand.tmp 34))), (CIns.mk (Option.some 36) Option.none (COp.bin BinOp.neq Bool.false Option.none (Operand.tmp 33) (Operand.tmp 35))), (CIns.mk (Option.some 24) Option.none (COp.mv (Operand.tmp 36)))]) (CC.cond (Operand.tmp 24) CC.skip (CC.reg [(CIns.mk (Option.some 37) Option.none (COp.faddr 6 (Operand.tmp 1))), (CIns.mk (Option.some 38) Option.none (COp.load Bool.false 1 (Operand.tmp 37))), (CIns.mk (Option.some 39) Option.none (COp.mv (Operand.tmp 38))), (CIns.mk (Option.some 40) (Option.some (39, Bool.true)) (COp.faddr 2 (Operand.tmp 1))), (CIns.mk (Option.some 41) (Option.some (39, Bool.true)) (COp.load Bool.false 1 (Operand.tmp 40))), (CIns.mk (Option.some 42) (Option.some (39, Bool.true)) (COp.bin BinOp.neq Bool.false Option.none (Operand.tmp 41) (Operand.const (Value.int IntKind.i64 (0))))), (CIns.mk (Option.some 43) Option.none (COp.pick (Operand.tmp 39) (Operand.tmp 42) (Operand.const (Value.bool Bool.false)))), (CIns.mk (Option.some 24) Option.none (COp.mv (Operand.tmp 43)))]))))) (CC.cond (Operand.tmp 24) (CC.seq (CC.reg [(CIns.mk (Option.some 2) Option.none (COp.mv (Operand.const (Value.int IntKind.i64 (3)))))]) CC.ret) (CC.seq (CC.reg [(CIns.mk (Option.some 45) Option.none (COp.faddr 4 (Operand.tmp 1))), (CIns.mk (Option.some 46) Option.none (COp.load Bool.false 1 (Operand.tmp 45))), (CIns.mk (Option.some 47) Option.none (COp.call 120 [(Operand.tmp 46), (Operand.func 136)])), (CIns.mk (Option.some 44) Option.none (COp.mv (Operand.tmp 47)))]) (CC.cond (Operand.tmp 44) (CC.seq (CC.reg [(CIns.mk (Option.some 2) Option.none (COp.mv (Operand.const (Value.int IntKind.i64 (3)))))]) CC.ret) CC.skip))))))) (CC.seq (CC.reg [(CIns.mk (Option.some 2) Option.none (COp.mv (Operand.const (Value.int IntKind.i64 (0)))))]) CC.ret))))
theorem k43 : compFn Try.prog Try.f43 = some c43 := by kernel_rfl
def badPos (n : Int) : Bool := decide (n < 0) || decide (n > 4096)
def checkCoord (c : Coord) : Int :=
  if c.nodes < 1 ∨ c.nodes > 8 ∨ timeOk c.round = false ∨ timeOk c.deadline = false ∨ c.phase < 0 ∨ c.phase > 2 then 3
  else if (c.positions.length : Int) ≠ c.nodes ∨ (c.seen.length : Int) ≠ c.nodes ∨ (c.valid = true ∧ c.phase ≠ 0) then 3
  else if c.positions.any badPos = true then 3 else 0

theorem check_run (H : Hand) (I : Inl) (N q : Nat) (c : Coord) (h133 : ∀ n, H 133 [.sc (.int .i64 n)] = some (.sc (.bool (timeOk n)))) (h120 : ∀ x y, H 120 [x, y] = none)
    (i120 : ∀ (n : Nat) (h : Hp), I n 120 [.imm (c.positions.map encI), .fn 136 [] []] h = some (.sc (.bool (c.positions.any badPos)), h)) :
    (fnA H I N q c43 [c.enc] hemp).map outA = some (.sc (.int .i64 (checkCoord c))) := by
  obtain ⟨nodes, round, phase, deadline, positions, seen, valid⟩ := c
  simp only [] at i120
  simp [Coord.enc, encI, encB, fnA, c43]
  by_cases h1 : nodes < 1
  · simp [h1, checkCoord]
  simp [h1]
  by_cases h2 : 8 < nodes
  · simp [h2, checkCoord]
  simp [h2, h133]
  by_cases h3 : timeOk round = false
  · simp [h3, checkCoord]
  simp at h3
  simp [h3, h133]
  by_cases h4 : timeOk deadline = false
  · simp [h4, checkCoord]
  simp at h4
  simp [h4]
  by_cases h5 : phase < 0
  · simp [h5, checkCoord]
  simp [h5]
  by_cases h6 : 2 < phase
  · simp [h6, checkCoord]
  simp [h6]
  by_cases h7 : (positions.length : Int) = nodes
  rotate_left
  · simp [h7, checkCoord, h1, h2, h3, h4, h5, h6]
  simp [h7]
  by_cases h8 : (seen.length : Int) = nodes
  rotate_left
  · simp [h8, h7, checkCoord, h1, h2, h3, h4, h5, h6]
  simp [h8]
  cases valid
  · cases h10 : positions.any badPos <;> simp [h120, i120, h10, checkCoord, h1, h2, h3, h4, h5, h6, h7, h8]
  · by_cases h9 : phase = 0
    · simp [h9]
      cases h10 : positions.any badPos <;> simp [h120, i120, h10, h9, checkCoord, h1, h2, h3, h4, h5, h6, h7, h8]
    · simp [h9, checkCoord, h1, h2, h3, h4, h5, h6, h7, h8]
def b49_0 : CC := (CC.seq (CC.seq (CC.reg [(CIns.mk (Option.some 11) Option.none (COp.mv (Operand.tmp 5))), (CIns.mk (Option.some 12) Option.none (COp.mv (Operand.tmp 0))), (CIns.mk (Option.some 13) Option.none (COp.len (Operand.tmp 12))), (CIns.mk (Option.some 14) Option.none (COp.bin BinOp.lss Bool.false Option.none (Operand.tmp 11) (Operand.tmp 13)))]) (CC.cond (Operand.tmp 14) CC.skip (CC.exit 0))) (CC.seq (CC.block 1 (CC.seq (CC.draw [(CIns.mk (Option.some 17) Option.none (COp.mv (Operand.tmp 0))), (CIns.mk (Option.some 18) Option.none (COp.mv (Operand.tmp 5))), (CIns.mk (Option.some 19) Option.none (COp.iaddrS 1 (Operand.tmp 17) (Operand.tmp 18))), (CIns.mk (Option.some 20) Option.none (COp.load Bool.false 1 (Operand.tmp 19))), (CIns.mk (Option.some 21) Option.none (COp.mv (Operand.tmp 1))), (CIns.mk (Option.some 22) Option.none (COp.mv (Operand.tmp 5))), (CIns.mk (Option.some 23) Option.none (COp.iaddrS 1 (Operand.tmp 21) (Operand.tmp 22))), (CIns.mk (Option.some 24) Option.none (COp.load Bool.false 1 (Operand.tmp 23))), (CIns.mk (Option.some 25) Option.none (COp.bin BinOp.neq Bool.false Option.none (Operand.tmp 20) (Operand.tmp 24)))] [(2, 6), (3, 6), (2, 7), (3, 7)]) (CC.cond (Operand.tmp 25) (CC.seq (CC.reg [(CIns.mk (Option.some 4) Option.none (COp.mv (Operand.const (Value.bool Bool.false))))]) CC.ret) CC.skip))) (CC.reg [(CIns.mk (Option.some 15) Option.none (COp.mv (Operand.tmp 5))), (CIns.mk (Option.some 16) Option.none (COp.bin BinOp.add Bool.false Option.none (Operand.tmp 15) (Operand.const (Value.int IntKind.i64 (1))))), (CIns.mk (Option.some 5) Option.none (COp.mv (Operand.tmp 16)))])))
def c49 : CFn := (CFn.mk [(CRes.tmp 4)] (CC.seq (CC.reg [(CIns.mk (Option.some 4) Option.none (COp.mv (Operand.const (Value.bool Bool.false))))]) (CC.seq (CC.seq (CC.reg [(CIns.mk (Option.some 6) Option.none (COp.mv (Operand.tmp 0))), (CIns.mk (Option.some 7) Option.none (COp.len (Operand.tmp 6))), (CIns.mk (Option.some 8) Option.none (COp.mv (Operand.tmp 1))), (CIns.mk (Option.some 9) Option.none (COp.len (Operand.tmp 8))), (CIns.mk (Option.some 10) Option.none (COp.bin BinOp.neq Bool.false Option.none (Operand.tmp 7) (Operand.tmp 9)))]) (CC.cond (Operand.tmp 10) (CC.seq (CC.reg [(CIns.mk (Option.some 4) Option.none (COp.mv (Operand.const (Value.bool Bool.false))))]) CC.ret) CC.skip)) (CC.seq (CC.seq (CC.reg [(CIns.mk (Option.some 5) Option.none (COp.mv (Operand.const (Value.int IntKind.i64 (0)))))]) (CC.block 0 (CC.loop b49_0))) (CC.seq (CC.reg [(CIns.mk (Option.some 4) Option.none (COp.mv (Operand.const (Value.bool Bool.true))))]) CC.ret)))))
theorem k49 : compFn Try.prog Try.f49 = some c49 := by kernel_rfl
theorem loop49 (H : Hand) (I : Inl) (N q : Nat) (xs ys : List Int) (hl : xs.length = ys.length) (hx : xs.length < 4294967296) (h : Hp) (M : Nat) (hM : xs.length < M) (e : Env)
    (h0 : e 0 = .imm (xs.map encI)) (h1 : e 1 = .imm (ys.map encI)) (h5 : e 5 = .sc (.int .i64 0)) :
    ∃ x s', iter (run H I N q b49_0) M (e, h) = some (x, s') ∧ s'.2 = h ∧ ((x = .exit 0 ∧ xs = ys) ∨ (x = .ret ∧ s'.1 4 = .sc (.bool false) ∧ xs ≠ ys)) := by
  refine iter_ind (J := fun k s => ∃ i, k = xs.length - i ∧ i ≤ xs.length ∧ s.1 0 = .imm (xs.map encI) ∧ s.1 1 = .imm (ys.map encI) ∧ s.1 5 = .sc (.int .i64 (i : Nat)) ∧ s.2 = h ∧ ∀ j, j < i → xs[j]? = ys[j]?) (Post := fun x s => s.2 = h ∧ ((x = .exit 0 ∧ xs = ys) ∨ (x = .ret ∧ s.1 4 = .sc (.bool false) ∧ xs ≠ ys))) ?_ M xs.length (e, h) hM ⟨0, by simp, by simp, h0, h1, h5, rfl, fun j hj => absurd hj (by omega)⟩
  rintro k ⟨e, h'⟩ ⟨i, rfl, hi, g0, g1, g5, rfl, hj⟩
  simp only at g0 g1 g5 hj
  by_cases hlt : i < xs.length
  · have hy : i < ys.length := by omega
    have hlt' : (i : Int) < (xs.length : Int) := by omega
    have hy' : (i : Int) < (ys.length : Int) := by omega
    have hw : IntKind.i64.wrap ((i : Int) + 1) = (i : Int) + 1 := wrap_small (by omega) (by omega)
    by_cases he : xs[i] = ys[i]
    · simp [b49_0, g0, g1, g5, hlt, hlt', hy, hy', encI, he, hw, Round]
      refine ⟨xs.length - (i + 1), by omega, i + 1, rfl, by omega, by omega, fun j hj' => ?_⟩
      by_cases e1 : j = i
      · subst e1; simp [hlt, hy, he]
      · exact hj j (by omega)
    · simp [b49_0, g0, g1, g5, hlt, hlt', hy, hy', encI, he, hw, Round]
      intro e1
      subst e1
      exact he rfl
  · have hlt' : ¬ ((i : Int) < (xs.length : Int)) := by omega
    simp [b49_0, g0, g1, g5, hlt, hlt', Round]
    refine List.ext_getElem? fun j => ?_
    by_cases e1 : j < i
    · exact hj j e1
    · rw [List.getElem?_eq_none (by omega), List.getElem?_eq_none (by omega)]

theorem sameInts_run (H : Hand) (I : Inl) (N q : Nat) (xs ys : List Int) (hN : xs.length < N) (hx : xs.length < 4294967296) :
    (fnA H I N q c49 [.imm (xs.map encI), .imm (ys.map encI)] hemp).map outA = some (encB (decide (xs = ys))) := by
  by_cases hl : xs.length = ys.length
  rotate_left
  · have hne : ¬ (xs = ys) := fun e => hl (by rw [e])
    have hl' : ¬ ((xs.length : Int) = (ys.length : Int)) := by omega
    simp [fnA, c49, hl', hne, encB]
  · have hl' : ((xs.length : Int) = (ys.length : Int)) := by omega
    simp [fnA, c49, hl']
    simp only [map_is_bind, bind_bind]
    refine loop_bind (loop49 H I N q xs ys hl hx hemp N hN _ (by simp) (by simp) (by simp)) ?_
    rintro x ⟨e', h'⟩ ⟨k2, k3⟩
    rcases k3 with ⟨rfl, k4⟩ | ⟨rfl, k4, k5⟩
    · simp [k4, encB]
    · simp only at k4
      simp [k4, k5, encB]
end Go.Proofs.Ytihljollfbogeaa
