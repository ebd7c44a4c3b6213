/- The code of an iterator, in pieces. No condition. -/
import Derived.Test.YtihljollfbogeaaMg
namespace Go.Proofs.Ytihljollfbogeaa
open Go Go.RowKit
/-! ### What code it is -/
section
variable {P : Program} {nt : Nat} {c : Code}
theorem comp_draw_ne {ops : List Oper} {cc : CC} (h : compDraw P nt ops = some cc) : ∃ a b, cc = .draw a b := by
  unfold compDraw at h
  split at h
  · cases h
  · split at h
    · cases h; exact ⟨_, _, rfl⟩
    · cases h
theorem comp_seq {x y : CC} (h : comp P nt c = some (.seq x y)) : ∃ a b, c = .seq a b ∧ comp P nt a = some x ∧ comp P nt b = some y := by
  cases c with
  | seq a b =>
    simp only [comp] at h
    split at h
    · rename_i h1 h2; cases h; exact ⟨a, b, rfl, h1, h2⟩
    · cases h
  | region id ops b =>
    cases b
    · simp [comp] at h
    · simp only [comp] at h
      obtain ⟨_, _, e⟩ := comp_draw_ne h
      cases e
  | cond o a b => simp only [comp] at h; split at h <;> cases h
  | block id b => simp [comp] at h
  | loop b => simp [comp] at h
  | _ => cases h
theorem comp_cond {o : Operand} {x y : CC} (h : comp P nt c = some (.cond o x y)) : ∃ a b, c = .cond o a b ∧ comp P nt a = some x ∧ comp P nt b = some y := by
  cases c with
  | cond o a b =>
    simp only [comp] at h
    split at h
    · rename_i h1 h2; cases h; exact ⟨a, b, rfl, h1, h2⟩
    · cases h
  | region id ops b =>
    cases b
    · simp [comp] at h
    · simp only [comp] at h
      obtain ⟨_, _, e⟩ := comp_draw_ne h
      cases e
  | seq a b => simp only [comp] at h; split at h <;> cases h
  | block id b => simp [comp] at h
  | loop b => simp [comp] at h
  | _ => cases h
theorem comp_block {id : Nat} {x : CC} (h : comp P nt c = some (.block id x)) : ∃ b, c = .block id b ∧ comp P nt b = some x := by
  cases c with
  | block id b =>
    simp only [comp] at h
    obtain ⟨y, h1, h2⟩ := Option.map_eq_some_iff.1 h
    cases h2
    exact ⟨b, rfl, h1⟩
  | region id ops b =>
    cases b
    · simp [comp] at h
    · simp only [comp] at h
      obtain ⟨_, _, e⟩ := comp_draw_ne h
      cases e
  | seq a b => simp only [comp] at h; split at h <;> cases h
  | cond o a b => simp only [comp] at h; split at h <;> cases h
  | loop b => simp [comp] at h
  | _ => cases h
theorem comp_loop {x : CC} (h : comp P nt c = some (.loop x)) : ∃ b, c = .loop b ∧ comp P nt b = some x := by
  cases c with
  | loop b =>
    simp only [comp] at h
    obtain ⟨y, h1, h2⟩ := Option.map_eq_some_iff.1 h
    cases h2
    exact ⟨b, rfl, h1⟩
  | region id ops b =>
    cases b
    · simp [comp] at h
    · simp only [comp] at h
      obtain ⟨_, _, e⟩ := comp_draw_ne h
      cases e
  | seq a b => simp only [comp] at h; split at h <;> cases h
  | cond o a b => simp only [comp] at h; split at h <;> cases h
  | block id b => simp [comp] at h
  | _ => cases h
theorem comp_reg {cs : List CIns} (h : comp P nt c = some (.reg cs)) : ∃ id ops, c = .region id ops false ∧ compAll P nt ops.toList ops.toList = some cs := by
  cases c with
  | region id ops b =>
    cases b
    · simp only [comp] at h
      obtain ⟨y, h1, h2⟩ := Option.map_eq_some_iff.1 h
      cases h2
      exact ⟨id, ops, rfl, h1⟩
    · simp only [comp] at h
      obtain ⟨_, _, e⟩ := comp_draw_ne h
      cases e
  | seq a b => simp only [comp] at h; split at h <;> cases h
  | cond o a b => simp only [comp] at h; split at h <;> cases h
  | block id b => simp [comp] at h
  | loop b => simp [comp] at h
  | _ => cases h
theorem compAll_append {ops : List Oper} : ∀ {cs1 cs2 : List CIns} {l : List Oper}, compAll P nt ops l = some (cs1 ++ cs2) → ∃ l1 l2, l = l1 ++ l2 ∧ compAll P nt ops l1 = some cs1 ∧ compAll P nt ops l2 = some cs2
  | [], cs2, l, h => ⟨[], l, rfl, rfl, h⟩
  | i :: cs1, cs2, [], h => by cases h
  | i :: cs1, cs2, o :: l, h => by
    simp only [compAll, List.cons_append] at h
    split at h
    · rename_i i' l' h1 h2
      cases h
      obtain ⟨l1, l2, rfl, h3, h4⟩ := compAll_append h2
      refine ⟨o :: l1, l2, rfl, ?_, h4⟩
      simp only [compAll]
      rw [h1, h3]
    · cases h
theorem compAll_cons {ops : List Oper} {i : CIns} {cs : List CIns} {l : List Oper} (h : compAll P nt ops l = some (i :: cs)) : ∃ o r, l = o :: r ∧ compIns P nt ops o = some i ∧ compAll P nt ops r = some cs := by
  cases l with
  | nil => cases h
  | cons o r =>
    simp only [compAll] at h
    split at h
    · rename_i h1 h2
      cases h
      exact ⟨o, r, rfl, h1, h2⟩
    · cases h
theorem compIns_callv {ops : List Oper} {o : Oper} {d : Nat} {x : Operand} {xs : List Operand} (h : compIns P nt ops o = some ⟨some d, none, .callv x xs⟩) :
    o.dst = some d ∧ d < nt ∧ o.guard = none ∧ ∃ cc, o.op = .call cc ∧ cc.callee = .value x ∧ cc.args.toList = xs := by
  unfold compIns at h
  split at h
  · cases h
  · rename_i c hc
    split at h
    case isFalse => cases h
    rename_i hd
    have key : o.dst = some d ∧ o.guard = none ∧ c = .callv x xs := by
      split at h
      · rename_i hg
        simp only [Option.some.injEq, CIns.mk.injEq] at h
        exact ⟨h.1, hg, h.2.2⟩
      · split at h
        · simp only [Option.some.injEq, CIns.mk.injEq] at h
          exact absurd h.2.1 (by simp)
        · cases h
    obtain ⟨k1, k2, rfl⟩ := key
    rw [k1] at hd
    refine ⟨k1, of_decide_eq_true hd, k2, ?_⟩
    cases ho : o.op with
    | call cc =>
      rw [ho] at hc
      simp only [compOp] at hc
      split at hc
      · exfalso; revert hc; unfold compB; repeat' split
        all_goals simp
      · cases hc
      · rename_i x' _ hcal
        cases hc
        exact ⟨cc, rfl, hcal, rfl⟩
      · cases hc
    | _ =>
      have := compOp_call hc (fun cc e => by rw [ho] at e; cases e)
      simp [COp.isCall] at this
end

/-! ### The state between two calls -/
def AV.lowA : AV → Bool
  | .agg cs => cs.all AV.isLow
  | a => a.isLow
def lowE (e : Env) : Env := fun t => if (e t).isLow = true then e t else .junk
theorem V1.to_low {w : World} {ok ok' : Nat → Prop} {α : Al} {a : AV} {u : Value} (h : V1 w ok α a u) (hl : a.isLow = true) (hb : ∀ b, ok b → ok' b) : V1 w ok' emp a u :=
  .low _ _ ((V0.of_low h hl).mono fun b h => ⟨hb b h, rfl⟩)
theorem V.to_low {w : World} {ok ok' : Nat → Prop} {α : Al} {a : AV} {u : Value} (h : V w ok α a u) (hl : a.lowA = true) (hb : ∀ b, ok b → ok' b) : V w ok' emp a u := by
  cases a with
  | agg cs =>
    obtain ⟨us, rfl, h1, h2⟩ := h
    exact ⟨us, rfl, h1, fun i a u ha hu => ⟨(h2 i a u ha hu).1.to_low (List.all_eq_true.1 hl a (List.mem_of_getElem? ha)) hb, (h2 i a u ha hu).2⟩⟩
  | tup vs => cases hl
  | _ => exact V.of_V1 (V1.to_low (ok := ok) (α := α) h hl hb)
structure ISt (nt : Nat) (ok : Nat → Prop) (K : (Nat → Prop) → World → Prop) (e : Env) (a : Act) (w : World) : Prop where
  out : ∃ B, K B w ∧ (∀ b, ok b ∨ B b → b < w.heap.size) ∧ ∀ t, V w (fun b => ok b ∨ B b) emp (e t) (a.tmps.getD t undef)
  size : nt ≤ a.tmps.size
  defers : a.defers = []
def Grows (K : (Nat → Prop) → World → Prop) : Prop := ∀ B w w', K B w → Kept w w' → K (fun b => B b ∨ (w.heap.size ≤ b ∧ b < w'.heap.size)) w'
abbrev alB (ok B : Nat → Prop) (w : World) : Al := ⟨fun _ => none, fun b => (ok b ∨ B b) ∨ w.heap.size ≤ b⟩
theorem rel_none {w : World} {G : Nat → Prop} (hG : ∀ b, w.heap.size ≤ b → G b) : Rel w.heap.size hemp w ⟨fun _ => none, G⟩ :=
  ⟨(fun n ae h => by cases h), (fun n ae h => by cases h), (fun n m ae ae' b o r o' r' h => by cases h), (fun n ae b o r h => by cases h), hG⟩
section
variable {P : Program} {nt : Nat} {H : Hand} {I : Inl} {N q : Nat} {ok : Nat → Prop} {K : (Nat → Prop) → World → Prop} {e : Env} {a : Act} {w : World}
theorem inv_of {B : Nat → Prop} (h1 : ∀ b, ok b ∨ B b → b < w.heap.size) (h2 : ∀ t, V w (fun b => ok b ∨ B b) emp (e t) (a.tmps.getD t undef)) (h3 : nt ≤ a.tmps.size) (h4 : a.defers = []) :
    InvD [] nt w.heap.size (e, hemp) a w (alB ok B w) :=
  ⟨rel_none fun b hb => .inr hb, Nat.le_refl _, fun t => (h2 t).mono (fun b hb => ⟨⟨⟨h1 b hb, .inl hb⟩, fun n ae o r h => by cases h⟩, rfl⟩) (Later.emp _), h3, h4⟩
theorem kept_of {w' : World} {G : Nat → Prop} {α' : Al} (x : Ext w ⟨fun _ => none, G⟩ w' α') : Kept w w' :=
  ⟨x.os, x.tape, x.output, x.size, fun b hb => (x.keepF b ⟨hb, fun n ae o r h => by cases h⟩).2⟩
theorem ok_of {B : Nat → Prop} {w' : World} {α' : Al} (x : Ext w (alB ok B w) w' α') : ∀ b, okA w' α' b → ok b ∨ (B b ∨ (w.heap.size ≤ b ∧ b < w'.heap.size)) := fun b hb => by
  have := hb.1.2
  rw [x.same] at this
  rcases this with (h | h) | h
  · exact .inl h
  · exact .inr (.inl h)
  · exact .inr (.inr ⟨h, hb.1.1⟩)
theorem ISt.of {B : Nat → Prop} (hg : Grows K) (hk : K B w) (hsafe : ∀ b, ok b ∨ B b → b < w.heap.size) {s' : St} {a' : Act} {w' : World} {α' : Al} (inv : InvD [] nt w.heap.size s' a' w' α') (x : Ext w (alB ok B w) w' α') : ISt nt ok K (lowE s'.1) a' w' := by
  refine ⟨⟨_, hg B w w' hk (kept_of x), fun b hb => ?_, fun t => ?_⟩, inv.size, inv.defers⟩
  · rcases hb with hb | hb | hb
    · exact Nat.lt_of_lt_of_le (hsafe b (.inl hb)) x.size
    · exact Nat.lt_of_lt_of_le (hsafe b (.inr hb)) x.size
    · exact hb.2
  · simp only [lowE]
    split
    · rename_i hl
      have := inv.val t
      exact this.to_low (by revert hl; cases s'.1 t <;> simp [AV.isLow, AV.lowA]) (ok_of x)
    · exact V.junk
theorem ISt.run (hH : HandOk P H) (hI : InlOk P I) (hg : Grows K) {c : Code} {cc : CC} {s' : St} {x : CEx} {Q : Exit → Act → World → Prop} (hc : comp P nt c = some cc) (hcalm : cc.calm = true) (hr : run H I N q cc (e, hemp) = some (x, s'))
    (st : ISt nt ok K e a w) (hQ : ∀ a' w', ISt nt ok K (lowE s'.1) a' w' → Q (exOf x) a' w') : c.wpIn (FR none) 0 P Q a w := by
  obtain ⟨⟨B, h1, h2, h3⟩, h4, h5⟩ := st
  exact run_okR (ro := none) hH hI c cc (e, hemp) s' x a w _ Q hc hcalm hr (inv_of h2 h3 h4 h5) fun a' w' α' inv x => hQ a' w' (ISt.of hg h1 h2 inv x)
/-- A region in which yield is called. -/
theorem ISt.yield (hH : HandOk P H) (hI : InlOk P I) {vss : List (List AV)} {J : Nat → (Nat → Prop) → World → Prop} {Jx : World → Prop} {l : Nat} (hg : ∀ i, Grows (J i)) (hgx : Grows fun _ W => Jx W)
    (hcall : ∀ (i : Nat) (B : Nat → Prop) (vs : List AV) (W : World) (xs : List Value), J i B W → vss[i]? = some vs → xs.length = vs.length → (∀ (j : Nat) (a : AV) (u : Value), vs[j]? = some a → xs[j]? = some u → V W (fun b => ok b ∨ B b) emp a u) →
        YieldAt Fence.wide 0 P l xs.toArray W fun e W' => (∀ b, ok b ∨ B b → b < W'.heap.size ∧ W'.heap[b]? = W.heap[b]?) ∧ ((e = .returned (.bool true) ∧ J (i + 1) B W') ∨ (e = .returned (.bool false) ∧ Jx W')))
    {c : Code} {cs1 cs2 : List CIns} {d : Nat} {x : Operand} {xs : List Operand} (hc : comp P nt c = some (.reg (cs1 ++ ⟨some d, none, .callv x xs⟩ :: cs2)))
    {s1 : St} (h1 : regA H I q cs1 (e, hemp) = some s1) (hx : aEval s1.1 x = .sc (.func (.yield l) #[] #[])) {i : Nat} {vs : List AV} (hvs : vss[i]? = some vs) (hxs : xs.map (aEval s1.1) = vs) (hlow : vs.all AV.lowA = true)
    {s2 s3 : St} (h2 : regA H I q cs2 (eset (lowE s1.1) d (.sc (.bool true)), hemp) = some s2) (h3 : regA H I q cs2 (eset (lowE s1.1) d (.sc (.bool false)), hemp) = some s3)
    (st : ISt nt ok (J i) e a w) {Q : Exit → Act → World → Prop} (hQ : ∀ a' w', ISt nt ok (J (i + 1)) (lowE s2.1) a' w' → Q .normal a' w') (hQx : ∀ a' w', ISt nt ok (fun _ W => Jx W) (lowE s3.1) a' w' → Q .normal a' w') : c.wpIn (FR none) 0 P Q a w := by
  obtain ⟨id, ops, rfl, hall⟩ := comp_reg hc
  obtain ⟨l1, l2, hl, g1, g2⟩ := compAll_append hall
  obtain ⟨o, r, rfl, g3, g4⟩ := compAll_cons g2
  obtain ⟨o1, o2, o3, cc, o4, o5, o6⟩ := compIns_callv g3
  obtain ⟨⟨B, k1, k2, k3⟩, k4, k5⟩ := st
  refine wpIn_region ?_
  have hr0 : List.range ops.size = List.range' 0 (l1 ++ o :: r).length := by rw [← hl, Array.length_toList, List.range_eq_range']
  rw [hr0]
  refine regA_preR (ro := none) hH hI l1 (o :: r) 0 cs1 (e, hemp) s1 a w _ (by rw [hl]; rfl) g1 h1 (inv_of k2 k3 k4 k5) fun a' w' α' inv ext => ?_
  simp only [List.length_cons, List.range'_succ]
  rw [wpOpsIn_cons]
  have hi : ops[0 + l1.length]? = some o := by
    rw [← Array.getElem?_toList, hl]
    simp
  have hxe : a'.eval x = .func (.yield l) #[] #[] := by
    have := eval_ok (w := w') (ok := okA w' α') (α := α') (a := a') (e := s1.1) inv.val x
    rw [hx] at this
    exact this.sc_eq
  have hst := ISt.of (hg i) k1 k2 inv ext
  have hsafe' : ∀ b, ok b ∨ (B b ∨ (w.heap.size ≤ b ∧ b < w'.heap.size)) → b < w'.heap.size := fun b hb => by
    rcases hb with hb | hb | hb
    · exact Nat.lt_of_lt_of_le (k2 b (.inl hb)) ext.size
    · exact Nat.lt_of_lt_of_le (k2 b (.inr hb)) ext.size
    · exact hb.2
  have hy := hcall i _ vs w' ((cc.args.map a'.eval).toList) (hg i B w w' k1 (kept_of ext)) hvs (by rw [← hxs, ← o6]; simp) (fun j y u hy hu => by
    have hmem := List.all_eq_true.1 hlow y (List.mem_of_getElem? hy)
    rw [← hxs, ← o6] at hy
    have := eval_map (w := w') (α := α') (a := a') (e := s1.1) (fun z => eval_ok (w := w') (ok := okA w' α') (α := α') (a := a') (e := s1.1) inv.val z) cc.args.toList j y u hy (by simpa using hu)
    exact this.to_low hmem (ok_of ext))
  rw [Array.toArray_toList] at hy
  refine yield_op hi o3 o4 o5 hxe hy fun en W' hen => ?_
  obtain ⟨stay, hen⟩ := hen
  have vals : ∀ (b : Bool) (t : Nat), V W' (fun b => ok b ∨ (B b ∨ (w.heap.size ≤ b ∧ b < w'.heap.size))) emp (eset (lowE s1.1) d (.sc (.bool b)) t) ((a'.put o.dst (.bool b)).tmps.getD t undef) := fun b t => by
    rw [o1]
    refine put_val (a := a') (d := some d) (v := .sc (.bool b)) (fun t => ?_) (fun k hk => by cases hk; exact Nat.lt_of_lt_of_le o2 inv.size) (V.sc rfl) t
    simp only [lowE]
    split
    · rename_i hl
      exact ((inv.val t).to_low (by revert hl; cases s1.1 t <;> simp [AV.isLow, AV.lowA]) (ok_of ext)).mono (fun b hb => ⟨hb, (stay b hb).2⟩) (Later.refl _)
    · exact V.junk
  have hsz : ∀ v, nt ≤ (a'.put o.dst v).tmps.size := fun v => by
    have := inv.size
    unfold Act.put
    split <;> simpa using this
  have hdf : ∀ v, (a'.put o.dst v).defers = [] := fun v => by
    have := inv.defers
    unfold Act.put
    split <;> simpa using this
  have hdrop : ops.toList.drop (0 + l1.length + 1) = r := by rw [hl]; simp
  rcases hen with ⟨rfl, hj⟩ | ⟨rfl, hj⟩
  · exact ⟨_, rfl, regA_okR (ro := none) hH hI (Q := Q) r _ cs2 _ s2 _ W' _ hdrop g4 h2 (inv_of (fun b hb => (stay b hb).1) (vals true) (hsz _) (hdf _)) fun a3 w3 α3 inv3 ext3 => hQ a3 w3 (ISt.of (hg (i + 1)) hj (fun b hb => (stay b hb).1) inv3 ext3)⟩
  · exact ⟨_, rfl, regA_okR (ro := none) hH hI (Q := Q) r _ cs2 _ s3 _ W' _ hdrop g4 h3 (inv_of (fun b hb => (stay b hb).1) (vals false) (hsz _) (hdf _)) fun a3 w3 α3 inv3 ext3 => hQx a3 w3 (ISt.of hgx hj (fun b hb => (stay b hb).1) inv3 ext3)⟩
end
end Go.Proofs.Ytihljollfbogeaa
