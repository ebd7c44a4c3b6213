/- Entered functions, beside them functions that are told; slices.Clone told: a block of our own with the same elements. No condition. -/
import Derived.Test.YtihljollfbogeaaA28
set_option linter.unusedSimpArgs false
namespace Go.Proofs.Ytihljollfbogeaa
open Go Go.RowKit

/-- As 'inl'; what is not in the table is told by B. -/
noncomputable def inlB (B : Inl) (T : FuncId → Option CFn) (H : Hand) (N : Nat) : Nat → Inl
  | 0 => B
  | d + 1 => fun q f l h => match T f with
    | some c => fnA H (inlB B T H N d) N q c l h
    | none => B q f l h
theorem inlB_ok {P : Program} {H : Hand} {B : Inl} (hB : InlOk P B) (hH : HandOk P H) (hm : P.follows .mixedOrders = true) {T : FuncId → Option CFn} (hT : TabOk P T) (N : Nat) : ∀ d, InlOk P (inlB B T H N d)
  | 0 => hB
  | d + 1 => fun q f l h v h' hr => by
    simp only [inlB] at hr
    split at hr
    · rename_i c hTf
      obtain ⟨fn, hf, hc⟩ := hT f c hTf
      exact ⟨enters hf hc, fun base w α us r hb hl hv => fn_ok hH (inlB_ok hB hH hm hT N d) hm hf hc hr r hb hl hv⟩
    · exact hB q f l h v h' hr

def cloneC (k : Nat) : CFn := (CFn.mk [(CRes.tmp 2)] (CC.seq (CC.reg [(CIns.mk (Option.some 2) Option.none (COp.mv (Operand.const (Value.slice Option.none 0 0))))]) (CC.seq (CC.seq (CC.reg [(CIns.mk (Option.some 3) Option.none (COp.mv (Operand.tmp 0))), (CIns.mk (Option.some 4) Option.none (COp.isnil (Operand.tmp 3)))]) (CC.cond (Operand.tmp 4) (CC.seq (CC.reg [(CIns.mk (Option.some 2) Option.none (COp.mv (Operand.const (Value.slice Option.none 0 0))))]) CC.ret) CC.skip)) (CC.seq (CC.reg [(CIns.mk (Option.some 5) Option.none (COp.lit k [])), (CIns.mk (Option.some 6) Option.none (COp.mv (Operand.tmp 0))), (CIns.mk (Option.some 7) Option.none (COp.app k (Operand.tmp 5) (Operand.tmp 6))), (CIns.mk (Option.some 2) Option.none (COp.mv (Operand.tmp 7)))]) CC.ret))))

def okEl (k : Nat) (x : AV) : Bool := x.storable && decide (x.cells.length = k)
/-- The frame's number times 512, and 7: the place of the new block. -/
def cloneA (k q : Nat) (h : Hp) (a : AV) : Option (AV × Hp) :=
  (oElems h a).bind fun xs => if (xs.all (okEl k)) = true ∧ xs.length ≤ LIM then some (.ref (q * 512 + 7) ((h (q * 512 + 7)).1 + 1) 0 xs.length, hset h (q * 512 + 7) ((h (q * 512 + 7)).1 + 1, .row k xs)) else none
/-- The instances of Clone and their elements' cells. -/
def cloneI (l : List (FuncId × Nat)) : Inl := fun q f args h =>
  match l with
  | [] => none
  | (g, k) :: r => if f = g then (match args with | [a] => cloneA k q h a | _ => none) else cloneI r q f args h

section
attribute [local simp] run_skip run_ret run_exit run_seq run_block run_reg thn_norm thn_toNorm thn_ret thn_exit endB_norm endB_toNorm endB_ret endB_exit regA_nil regA_cons putA_some putA_none insA_plain opA COp.ev pu dl dl0 appD nameOf nameOr toNorm putA aEval_tmp aEval_func aEval_int aEval_bool aEval_nil edst eset_same eset_ne argEnv ressA resA tupA run_cond_true run_cond_false
theorem clone_run {H : Hand} {I : Inl} {N q k : Nat} {h : Hp} {a : AV} {xs : List AV} (h0 : oIsNil h a = some (.sc (.bool false))) (h1 : oElems h a = some xs) (h2 : xs.all (okEl k) = true) (h3 : xs.length ≤ LIM) (h4 : (xs.isEmpty && !(h (q * 512 + 7)).2.isDead) = false) :
    fnA H I N q (cloneC k) [a] h = some (.ref (q * 512 + 7) ((h (q * 512 + 7)).1 + 1) 0 xs.length, hset h (q * 512 + 7) ((h (q * 512 + 7)).1 + 1, .row k xs)) := by
  have h2' : (xs.all fun v => v.storable && decide (v.cells.length = k)) = true := h2
  have app : oAppend h (q * 512 + 7) k .nl xs = some (.ref (q * 512 + 7) ((h (q * 512 + 7)).1 + 1) 0 xs.length, hset h (q * 512 + 7) ((h (q * 512 + 7)).1 + 1, .row k xs)) := by
    unfold oAppend
    rw [if_pos h2']
    simp only [h4, if_pos h3]
    rfl
  have hat : hset h (q * 512 + 5) (h (q * 512 + 5)) = h := by
    funext m; simp only [hset]; split
    · rename_i e; rw [e]
    · rfl
  have hat2 : hset h (q * 512 + 7) (hset h (q * 512 + 7) ((h (q * 512 + 7)).1 + 1, .row k xs) (q * 512 + 7)) = hset h (q * 512 + 7) ((h (q * 512 + 7)).1 + 1, .row k xs) := by
    simp only [hset, if_true]
  simp [fnA, cloneC, h0, h1, oLit, app, hat, hat2]
theorem clone_run_none {H : Hand} {I : Inl} {N q k : Nat} {h : Hp} (A : Addr) (cap : Nat) (h4 : (!(h (q * 512 + 7)).2.isDead) = true) : fnA H I N q (cloneC k) [.sc (.slice (some A) 0 cap)] h = some (.nl, h) := by
  have app : oAppend h (q * 512 + 7) k .nl [] = some (.nl, h) := by
    unfold oAppend
    simp only [List.all_nil, if_true, List.isEmpty_nil, Bool.true_and, h4]
  have hat : hset h (q * 512 + 5) (h (q * 512 + 5)) = h := by
    funext m; simp only [hset]; split
    · rename_i e; rw [e]
    · rfl
  have hat2 : hset h (q * 512 + 7) (h (q * 512 + 7)) = h := by
    funext m; simp only [hset]; split
    · rename_i e; rw [e]
    · rfl
  simp [fnA, cloneC, oIsNil, oElems, oLit, app, hat, hat2]
theorem clone_run_nil {H : Hand} {I : Inl} {N q k : Nat} {h : Hp} (cap : Nat) : fnA H I N q (cloneC k) [.sc (.slice none 0 cap)] h = some (.nl, h) := by
  simp [fnA, cloneC, oIsNil]
end

theorem notNil_of {h : Hp} {a y : AV} {ys : List AV} (h1 : oElems h a = some (y :: ys)) : oIsNil h a = some (.sc (.bool false)) := by
  cases a with
  | nl => simp [oElems] at h1
  | sc v =>
    cases v with
    | slice A' n' c' => cases n' <;> simp [oElems] at h1
    | _ => simp [oElems] at h1
  | imm l => simp only [oElems, Option.some.injEq] at h1; subst h1; rfl
  | full l => simp only [oElems, Option.some.injEq] at h1; subst h1; rfl
  | ref m ver i len =>
    simp only [oElems] at h1
    obtain ⟨⟨sz, els⟩, k1, k2⟩ := Option.bind_eq_some_iff.1 h1
    split at k2
    · have k3 := congrArg List.length (Option.some.inj k2)
      cases len with
      | zero => simp at k3
      | succ len => simp only [oIsNil, k1, Option.map_some]
    · cases k2
  | _ => simp [oElems] at h1

theorem cloneA_ok {P : Program} {H : Hand} (hH : HandOk P H) (hm : P.follows .mixedOrders = true) {f : FuncId} {fn : Func} {k : Nat} (hf : P.funcs[f]? = some fn) (hc : compFn P fn = some (cloneC k)) {q : Nat} {a : AV} {h h' : Hp} {v : AV} (hr : cloneA k q h a = some (v, h')) :
    Enters P f ∧ ∀ (base : Nat) (w : World) (α : Al) (us : List Value), Rel base h w α → base ≤ w.heap.size → us.length = [a].length →
    (∀ (i : Nat) (x : AV) (u : Value), [a][i]? = some x → us[i]? = some u → V w (okA w α) α x u) →
    CallsIn Fence.wide 0 P f us.toArray w fun e w' => ∃ u, e = .returned u ∧ ∃ α', Rel base h' w' α' ∧ Ext w α w' α' ∧ V w' (okA w' α') α' v u := by
  refine ⟨enters hf hc, fun base w α us r hb hl hv => ?_⟩
  obtain ⟨xs, h1, h2⟩ := Option.bind_eq_some_iff.1 hr
  split at h2
  · rename_i hcond
    obtain ⟨g1, g2⟩ := hcond
    cases h2
    match us, hl with
    | [u], _ =>
    have hu : V w (okA w α) α a u := hv 0 a u rfl rfl
    have hk : ∀ y ∈ xs, y.cells.length = k := fun y hy => by
      have := List.all_eq_true.1 g1 y hy
      simp only [okEl, Bool.and_eq_true, decide_eq_true_eq] at this
      exact this.2
    have main : ∀ b : AV, (xs.isEmpty && !(h (q * 512 + 7)).2.isDead) = false → oIsNil h b = some (.sc (.bool false)) → oElems h b = some xs → V w (okA w α) α b u →
        CallsIn Fence.wide 0 P f [u].toArray w fun e w' => ∃ u', e = .returned u' ∧ ∃ α', Rel base (hset h (q * 512 + 7) ((h (q * 512 + 7)).1 + 1, .row k xs)) w' α' ∧ Ext w α w' α' ∧ V w' (okA w' α') α' (.ref (q * 512 + 7) ((h (q * 512 + 7)).1 + 1) 0 xs.length) u' := fun b b1 b2 b3 b4 =>
      fn_ok hH (no_inl (P := P)) (N := 0) hm hf hc (clone_run b2 b3 g1 g2 b1) r hb rfl (fun i x u' hx hu' => by
        match i, hx, hu' with
        | 0, hx, hu' => simp at hx hu'; subst hx; subst hu'; exact b4)
    obtain ⟨A, n, c, rfl, hn, _⟩ := elems_ok (P := P) r h1 hu hk
    cases xs with
    | cons y ys =>
      have hnil := notNil_of h1
      exact main a rfl hnil h1 hu
    | nil =>
      have hn0 : n = 0 := by simpa using hn
      subst hn0
      have none_ : ∀ b : AV, fnA H (fun _ _ _ _ => none) 0 q (cloneC k) [b] h = some (.nl, h) → V w (okA w α) α b (.slice A 0 c) →
          CallsIn Fence.wide 0 P f [Value.slice A 0 c].toArray w fun e w' => ∃ u', e = .returned u' ∧ ∃ α', Rel base (hset h (q * 512 + 7) ((h (q * 512 + 7)).1 + 1, .row k [])) w' α' ∧ Ext w α w' α' ∧ V w' (okA w' α') α' (.ref (q * 512 + 7) ((h (q * 512 + 7)).1 + 1) 0 0) u' := fun b hrun hbv => by
        have call := fn_ok hH (no_inl (P := P)) (N := 0) (q := q) hm hf hc hrun r hb rfl (us := [.slice A 0 c]) (fun i x u' hx hu' => by
          match i, hx, hu' with
          | 0, hx, hu' => simp at hx hu'; subst hx; subst hu'; exact hbv)
        refine CallsIn.mono call fun e w' he => ?_
        obtain ⟨u', rfl, α', r', x', hu'⟩ := he
        obtain ⟨r2, x2⟩ := r'.virt (q * 512 + 7) k
        cases hu' with
        | low _ _ h0 =>
          cases h0 with
          | nl A' =>
            exact ⟨_, rfl, _, r2, x'.trans x2, V.of_V1 (.ref _ _ _ _ _ 0 _ (Nat.le_refl _) (upd_same _ _ _) (Nat.le_refl _) fun _ => ⟨Nat.le_refl _, Nat.le_refl _, rfl⟩)⟩
      cases A with
      | some A =>
        cases hd : (!(h (q * 512 + 7)).2.isDead) with
        | false => exact main (.sc (.slice (some A) 0 c)) (by rw [hd]; rfl) rfl rfl (V.sc rfl)
        | true => exact none_ (.sc (.slice (some A) 0 c)) (clone_run_none A c hd) (V.sc rfl)
      | none => exact none_ (.sc (.slice none 0 c)) (clone_run_nil c) (V.sc rfl)
  · cases h2
theorem cloneI_ok {P : Program} (hm : P.follows .mixedOrders = true) : ∀ {l : List (FuncId × Nat)}, (∀ p ∈ l, ∃ fn, P.funcs[p.1]? = some fn ∧ compFn P fn = some (cloneC p.2)) → InlOk P (cloneI l)
  | [], _, q, f, args, h, v, h', hr => by cases hr
  | (g, k) :: l, hl, q, f, args, h, v, h', hr => by
    simp only [cloneI] at hr
    split at hr
    · rename_i e
      subst e
      split at hr
      · obtain ⟨fn, h1, h2⟩ := hl _ List.mem_cons_self
        exact cloneA_ok (H := mkH []) (mkH_ok fun p hp => by cases hp) hm h1 h2 hr
      · cases hr
    · exact cloneI_ok hm (fun p hp => hl p (List.mem_cons_of_mem _ hp)) q f args h v h' hr

end Go.Proofs.Ytihljollfbogeaa
