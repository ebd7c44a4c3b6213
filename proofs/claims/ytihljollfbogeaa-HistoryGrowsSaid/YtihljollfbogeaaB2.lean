/- Runs of ContainsFunc. No condition. -/
import Derived.Test.YtihljollfbogeaaB1
import Derived.Test.YtihljollfbogeaaProg
set_option linter.unusedSimpArgs false
namespace Go.Proofs.Ytihljollfbogeaa
open Go Go.RowKit
attribute [local simp] run_skip run_ret run_exit run_seq run_block run_reg thn_norm thn_toNorm thn_ret thn_exit endB_norm endB_toNorm endB_ret endB_exit regA_nil regA_cons putA_some putA_none insA_plain opA COp.ev pu dl dl0 appD nameOf nameOr toNorm putA aEval_tmp aEval_func aEval_int aEval_bool aEval_nil edst eset_same eset_ne oBinC_int binInt oPick oNot argEnv ressA resA tupA oNew oLoad oStore oFieldAddr oLen oIndexS asNum rowAt? hset partA AV.cells AV.storable AV.one hemp callA isMk copyA outA_sc outA_imm outA_agg outA_tup outA_ref outA_nl outA_full fz_sc fz_imm fz_full fz_nl fz_fn fz_agg fz_tup fz_ref fzA_sc fzA_imm fzA_full fzA_nl fzA_agg fzA_ref fz1_sc fz1_imm fz1_full fz1_nl fz1_ref fzRow_some AV.scalar AV.scalar1 insA_yes insA_no run_cond_true run_cond_false run_drawn endD_mk drawA_nil drawA_cons nextD_mk consE_mk putD_some putD_none insD_plain insD_yes insD_no opD COp.rd COp.wr AV.nms AV.nms1 indeps indep oMake oBuildC fillC setCellsA ofVal ofCell Value.oneCell' reshape LIM AV.pure AV.pure1 norm norm1 run_loop
def c136 : CFn := (CFn.mk [(CRes.tmp 2)] (CC.seq (CC.reg [(CIns.mk (Option.some 2) Option.none (COp.mv (Operand.const (Value.bool Bool.false))))]) (CC.seq (CC.reg [(CIns.mk (Option.some 3) Option.none (COp.mv (Operand.tmp 0))), (CIns.mk (Option.some 4) Option.none (COp.bin BinOp.lss Bool.false Option.none (Operand.tmp 3) (Operand.const (Value.int IntKind.i64 (0))))), (CIns.mk (Option.some 5) Option.none (COp.mv (Operand.tmp 4))), (CIns.mk (Option.some 6) (Option.some (5, Bool.false)) (COp.mv (Operand.tmp 0))), (CIns.mk (Option.some 7) (Option.some (5, Bool.false)) (COp.bin BinOp.gtr Bool.false Option.none (Operand.tmp 6) (Operand.const (Value.int IntKind.i64 (4096))))), (CIns.mk (Option.some 8) Option.none (COp.pick (Operand.tmp 5) (Operand.const (Value.bool Bool.true)) (Operand.tmp 7))), (CIns.mk (Option.some 2) Option.none (COp.mv (Operand.tmp 8)))]) CC.ret)))
theorem k136 : compFn Try.prog Try.f136 = some c136 := by kernel_rfl
def b210_0 : CC := (CC.seq (CC.reg [(CIns.mk (Option.some 9) Option.none (COp.bin BinOp.lss Bool.false Option.none (Operand.tmp 8) (Operand.tmp 7)))]) (CC.seq (CC.cond (Operand.tmp 9) CC.skip (CC.exit 0)) (CC.seq (CC.block 1 (CC.seq (CC.reg [(CIns.mk (Option.some 10) Option.none (COp.mv (Operand.tmp 8))), (CIns.mk (Option.some 5) Option.none (COp.mv (Operand.tmp 10)))]) (CC.seq (CC.reg [(CIns.mk (Option.some 11) Option.none (COp.mv (Operand.tmp 1))), (CIns.mk (Option.some 12) Option.none (COp.mv (Operand.tmp 0))), (CIns.mk (Option.some 13) Option.none (COp.mv (Operand.tmp 5))), (CIns.mk (Option.some 14) Option.none (COp.iaddrS 1 (Operand.tmp 12) (Operand.tmp 13))), (CIns.mk (Option.some 15) Option.none (COp.load Bool.false 1 (Operand.tmp 14))), (CIns.mk (Option.some 16) Option.none (COp.callv (Operand.tmp 11) [(Operand.tmp 15)]))]) (CC.cond (Operand.tmp 16) (CC.seq (CC.reg [(CIns.mk (Option.some 17) Option.none (COp.mv (Operand.tmp 5))), (CIns.mk (Option.some 4) Option.none (COp.mv (Operand.tmp 17)))]) CC.ret) CC.skip)))) (CC.reg [(CIns.mk (Option.some 18) Option.none (COp.bin BinOp.add Bool.false Option.none (Operand.tmp 8) (Operand.const (Value.int IntKind.i64 (1))))), (CIns.mk (Option.some 8) Option.none (COp.mv (Operand.tmp 18)))]))))
def c210 : CFn := (CFn.mk [(CRes.tmp 4)] (CC.seq (CC.reg [(CIns.mk (Option.some 4) Option.none (COp.mv (Operand.const (Value.int IntKind.i64 (0)))))]) (CC.seq (CC.seq (CC.reg [(CIns.mk (Option.some 6) Option.none (COp.mv (Operand.tmp 0))), (CIns.mk (Option.some 7) Option.none (COp.len (Operand.tmp 6))), (CIns.mk (Option.some 8) Option.none (COp.mv (Operand.const (Value.int IntKind.i64 (0)))))]) (CC.block 0 (CC.loop b210_0))) (CC.seq (CC.reg [(CIns.mk (Option.some 4) Option.none (COp.mv (Operand.const (Value.int IntKind.i64 (-1)))))]) CC.ret))))
theorem k210 : compFn Try.prog Try.f210 = some c210 := by kernel_rfl
def c120 : CFn := (CFn.mk [(CRes.tmp 4)] (CC.seq (CC.reg [(CIns.mk (Option.some 4) Option.none (COp.mv (Operand.const (Value.bool Bool.false))))]) (CC.seq (CC.reg [(CIns.mk (Option.some 5) Option.none (COp.mv (Operand.tmp 0))), (CIns.mk (Option.some 6) Option.none (COp.mv (Operand.tmp 1))), (CIns.mk (Option.some 7) Option.none (COp.call 210 [(Operand.tmp 5), (Operand.tmp 6)])), (CIns.mk (Option.some 8) Option.none (COp.bin BinOp.geq Bool.false Option.none (Operand.tmp 7) (Operand.const (Value.int IntKind.i64 (0))))), (CIns.mk (Option.some 4) Option.none (COp.mv (Operand.tmp 8)))]) CC.ret)))
theorem k120 : compFn Try.prog Try.f120 = some c120 := by kernel_rfl
theorem bad_run (H : Hand) (I : Inl) (N q : Nat) (n : Int) (h : Hp) : fnA H I N q c136 [encI n] h = some (encB (badPos n), h) := by
  by_cases h1 : n < 0 <;> simp [fnA, c136, encI, encB, badPos, h1]
/-- The first place where it holds. -/
def idxF (p : Int → Bool) (xs : List Int) : Int := match xs.findIdx? p with | some i => (i : Nat) | none => -1
theorem loop210 (H : Hand) (I : Inl) (N q : Nat) (f : Nat) (p : Int → Bool) (hp : ∀ n, H f [.sc (.int .i64 n)] = some (.sc (.bool (p n)))) (xs : List Int) (hx : xs.length < 4294967296) (h : Hp) (M : Nat) (hM : xs.length < M) (e : Env)
    (h0 : e 0 = .imm (xs.map encI)) (h1 : e 1 = .fn f [] []) (h7 : e 7 = .sc (.int .i64 xs.length)) (h8 : e 8 = .sc (.int .i64 0)) :
    ∃ x s', iter (run H I N q b210_0) M (e, h) = some (x, s') ∧ s'.2 = h ∧ ((x = .exit 0 ∧ idxF p xs = -1) ∨ (x = .ret ∧ s'.1 4 = .sc (.int .i64 (idxF p xs)))) := by
  refine iter_ind (J := fun k s => ∃ i, k = xs.length - i ∧ i ≤ xs.length ∧ s.1 0 = .imm (xs.map encI) ∧ s.1 1 = .fn f [] [] ∧ s.1 7 = .sc (.int .i64 xs.length) ∧ s.1 8 = .sc (.int .i64 (i : Nat)) ∧ s.2 = h ∧ ∀ j (hj : j < xs.length), j < i → p xs[j] = false)
    (Post := fun x s => s.2 = h ∧ ((x = .exit 0 ∧ idxF p xs = -1) ∨ (x = .ret ∧ s.1 4 = .sc (.int .i64 (idxF p xs))))) ?_ M xs.length (e, h) hM ⟨0, by simp, by simp, h0, h1, h7, h8, rfl, fun j _ hj => absurd hj (by omega)⟩
  rintro k ⟨e, h'⟩ ⟨i, rfl, hi, g0, g1, g7, g8, rfl, hj⟩
  simp only at g0 g1 g7 g8 hj
  by_cases hlt : i < xs.length
  · have hlt' : (i : Int) < (xs.length : Int) := by omega
    have hw : IntKind.i64.wrap ((i : Int) + 1) = (i : Int) + 1 := wrap_small (by omega) (by omega)
    cases hb : p xs[i] with
    | true =>
      simp [b210_0, g0, g1, g7, g8, hlt, hlt', encI, hw, Round, valueA, hp, hb]
      have : xs.findIdx? p = some i := List.findIdx?_eq_some_iff_getElem.2 ⟨hlt, hb, fun j hji => by simp [hj j (by omega) hji]⟩
      simp [idxF, this]
    | false =>
      simp [b210_0, g0, g1, g7, g8, hlt, hlt', encI, hw, Round, valueA, hp, hb]
      refine ⟨xs.length - (i + 1), by omega, i + 1, rfl, by omega, by omega, fun j hj0 hj' => ?_⟩
      by_cases e1 : j = i
      · subst e1; exact hb
      · exact hj j hj0 (by omega)
  · have hlt' : ¬ ((i : Int) < (xs.length : Int)) := by omega
    simp [b210_0, g0, g1, g7, g8, hlt, hlt', Round]
    have : xs.findIdx? p = none := List.findIdx?_eq_none_iff.2 fun n hn => by
      obtain ⟨j, hj0, rfl⟩ := List.getElem_of_mem hn
      exact hj j hj0 (by omega)
    simp [idxF, this]
theorem idxF_any (p : Int → Bool) (xs : List Int) : decide (0 ≤ idxF p xs) = xs.any p := by
  unfold idxF
  cases h : xs.findIdx? p with
  | none =>
    have := List.findIdx?_eq_none_iff.1 h
    have h2 : xs.any p = false := by simpa using this
    simp [h2]
  | some i =>
    obtain ⟨h1, h2, _⟩ := List.findIdx?_eq_some_iff_getElem.1 h
    have h3 : xs.any p = true := List.any_eq_true.2 ⟨_, List.getElem_mem h1, h2⟩
    simp [h3]
theorem index_run (H : Hand) (I : Inl) (N q : Nat) (f : Nat) (p : Int → Bool) (hp : ∀ n, H f [.sc (.int .i64 n)] = some (.sc (.bool (p n)))) (xs : List Int) (hx : xs.length < 4294967296) (hN : xs.length < N) (h : Hp) :
    fnA H I N q c210 [.imm (xs.map encI), .fn f [] []] h = some (encI (idxF p xs), h) := by
  simp [fnA, c210]
  simp only [map_is_bind, bind_bind]
  refine loop_bind (loop210 H I N q f p hp xs hx h N hN _ (by simp) (by simp) (by simp) (by simp)) ?_
  rintro x ⟨e', h'⟩ ⟨rfl, k3⟩
  rcases k3 with ⟨rfl, k4⟩ | ⟨rfl, k4⟩
  · simp [k4, encI]
  · simp only at k4
    simp [k4, encI]
theorem contains_run (H : Hand) (I : Inl) (N q : Nat) (f : Nat) (p : Int → Bool) (xs : List Int) (hi : ∀ n h, H 210 [.imm (xs.map encI), .junk] = none ∧ I n 210 [.imm (xs.map encI), .fn f [] []] h = some (encI (idxF p xs), h)) (h : Hp) :
    fnA H I N q c120 [.imm (xs.map encI), .fn f [] []] h = some (encB (xs.any p), h) := by
  rw [← idxF_any]
  have h1 := fun n h => (hi n h).1
  have h2 := fun n h => (hi n h).2
  simp [fnA, c120, h1 0 h, h2, encI, encB]
end Go.Proofs.Ytihljollfbogeaa
