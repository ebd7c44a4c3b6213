/- Calls, operations and plain regions of the small language are those of the program. No condition. -/
import Derived.Test.YtihljollfbogeaaA16
namespace Go.Proofs.Ytihljollfbogeaa
open Go Go.RowKit

structure Kept (w w' : World) : Prop where
  os : w'.os = w.os
  tape : w'.tape = w.tape
  output : w'.output = w.output
  size : w.heap.size ≤ w'.heap.size
  heap : ∀ b, b < w.heap.size → w'.heap[b]? = w.heap[b]?

/-- The function is one that is entered. -/
def Enters (P : Program) (f : FuncId) : Prop := ∀ (args : Array Value) (w : World), (callFunc f args).run P w = .ok (.enter f args) w

/-- At arguments of this shape the function answers with a value of that shape, and writes nothing old. -/
def Good (P : Program) (f : FuncId) (as : List AV) (r : AV) : Prop :=
  ∀ (w : World) (ok : Nat → Prop) (us : List Value), (∀ b, ok b → b < w.heap.size) → us.length = as.length →
    (∀ (i : Nat) (a : AV) (u : Value), as[i]? = some a → us[i]? = some u → V w ok emp a u) →
    CallsIn Fence.wide 0 P f us.toArray w fun e w' => ∃ v, e = .returned v ∧ Kept w w' ∧ V w' (fun b => ok b ∨ (w.heap.size ≤ b ∧ b < w'.heap.size)) emp r v
def HandOk (P : Program) (H : Hand) : Prop := ∀ f as r, H f as = some r → Enters P f ∧ Good P f as r
def InlOk (P : Program) (I : Inl) : Prop := ∀ q f as h v h', I q f as h = some (v, h') → Enters P f ∧
  ∀ (base : Nat) (w : World) (α : Al) (us : List Value), Rel base h w α → base ≤ w.heap.size → us.length = as.length →
    (∀ (i : Nat) (a : AV) (u : Value), as[i]? = some a → us[i]? = some u → V w (okA w α) α a u) →
    CallsIn Fence.wide 0 P f us.toArray w fun e w' => ∃ u, e = .returned u ∧ ∃ α', Rel base h' w' α' ∧ Ext w α w' α' ∧ V w' (okA w' α') α' v u

structure Inv (nt base : Nat) (s : St) (a : Act) (w : World) (α : Al) : Prop where
  rel : Rel base s.2 w α
  base : base ≤ w.heap.size
  val : ∀ t, V w (okA w α) α (s.1 t) (a.tmps.getD t undef)
  size : nt ≤ a.tmps.size
  defers : a.defers = []

section
variable {P : Program} {w : World} {α : Al} {base : Nat} {h : Hp} {H : Hand} {I : Inl}

theorem Rel.grow (r : Rel base h w α) {w' : World} (k : Kept w w') : Rel base h w' α ∧ Ext w α w' α := by
  have hbF : ∀ b, free w α b → free w' α b ∧ w'.heap[b]? = w.heap[b]? := fun b hb => ⟨⟨Nat.lt_of_lt_of_le hb.1 k.size, hb.2⟩, k.heap b hb.1⟩
  have hb := okA_of_free hbF rfl
  refine ⟨⟨r.ver, fun m ae ha => ?_, r.inj, fun n ae b o r' h1 h2 => ?_, r.grant⟩, k.os, k.tape, k.output, k.size, hbF, Later.refl α, rfl⟩
  · exact (r.at_ m ae ha).mono (fun b o r' hb' => k.heap b (r.base m ae b o r' ha hb').2) hb (Later.refl α)
  · have := r.base n ae b o r' h1 h2
    exact ⟨this.1, Nat.lt_of_lt_of_le this.2 k.size⟩

theorem scalar1_any {w' : World} {ok ok' : Nat → Prop} {α' : Al} {a : AV} {u : Value} (hs : a.scalar1 = true) (hv : V1 w ok α a u) : V1 w' ok' α' a u := by
  cases a with
  | sc v => have := hv.sc_eq; subst this; exact .low _ _ (.sc _ hv.sc_one)
  | _ => simp [AV.scalar1] at hs
theorem scalarA_any {w' : World} {ok ok' : Nat → Prop} {α' : Al} {a : AV} {u : Value} (hs : (match a with | .agg cs => cs.all AV.scalar1 | v => v.scalar1) = true) (hv : VA w ok α a u) : VA w' ok' α' a u := by
  cases a with
  | agg cs =>
    obtain ⟨us, rfl, hc⟩ := hv
    exact ⟨us, rfl, hc.1, fun i a u ha hu => ⟨scalar1_any (List.all_eq_true.1 hs a (List.mem_of_getElem? ha)) (hc.2 i a u ha hu).1, (hc.2 i a u ha hu).2⟩⟩
  | _ => exact VA.of_V1 (scalar1_any hs hv)
theorem scalar_any {w' : World} {ok ok' : Nat → Prop} {α' : Al} {a : AV} {u : Value} (hs : a.scalar = true) (hv : V w ok α a u) : V w' ok' α' a u := by
  cases a with
  | tup vs =>
    obtain ⟨us, rfl, hl, hc⟩ := hv
    exact ⟨us, rfl, hl, fun i a x ha hx => scalarA_any (List.all_eq_true.1 hs a (List.mem_of_getElem? ha)) (hc i a x ha hx)⟩
  | _ => exact V.of_VA' (scalarA_any hs (hv.toVA (by intro vs e; cases e)))

theorem callA_ok (hH : HandOk P H) (hI : InlOk P I) {n : Nat} {f : FuncId} {as : List AV} {s s' : St} {v : AV} {us : List Value} (r : Rel base s.2 w α) (hb : base ≤ w.heap.size) (hl : us.length = as.length)
    (hv : ∀ (i : Nat) (a : AV) (u : Value), as[i]? = some a → us[i]? = some u → V w (okA w α) α a u) (hc : callA H I n f as s = some (v, s')) :
    Enters P f ∧ CallsIn Fence.wide 0 P f us.toArray w fun e w' => ∃ u, e = .returned u ∧ ∃ α', Rel base s'.2 w' α' ∧ Ext w α w' α' ∧ V w' (okA w' α') α' v u ∧
      ∀ t u', V w (okA w α) α (s.1 t) u' → V w' (okA w' α') α' (s'.1 t) u' := by
  unfold callA at hc
  split at hc
  · rename_i rr hr
    obtain ⟨hen, hg⟩ := hH _ _ _ hr
    refine ⟨hen, ?_⟩
    have hg := hg w (okF w α (as.flatMap (nm s.2))) us (fun b hb' => by
      rcases hb' with h1 | h1
      · exact h1.1.1
      · exact h1.1) (by simpa using hl) (fun i a u ha hu => by
      rw [List.getElem?_map] at ha
      obtain ⟨y, hy, rfl⟩ := Option.map_eq_some_iff.1 ha
      exact fz_ok r (hv i y u hy hu) (fun n hn => List.mem_flatMap.2 ⟨y, List.mem_of_getElem? hy, hn⟩))
    refine CallsIn.mono hg fun e w' he => ?_
    obtain ⟨u, rfl, hk, hu⟩ := he
    obtain ⟨r', x'⟩ := r.grow hk
    refine ⟨u, rfl, ?_⟩
    have fresh : ∀ b, w.heap.size ≤ b → b < w'.heap.size → okA w' α b := fun b h1 h2 =>
      ⟨⟨h2, r.grant b (by omega)⟩, fun m ae o r'' ha hb' => absurd (r.base m ae b o r'' ha hb').2 (by omega)⟩
    split at hc
    · rename_i hs
      cases hc
      exact ⟨α, r', x', scalar_any hs hu, fun t u' h1 => h1.ext x'⟩
    · split at hc
      · rename_i hnil
        cases hc
        refine ⟨α, r', x', hu.mono (fun b hb' => ⟨?_, rfl⟩) (Later.emp α), fun t u' h1 => h1.ext x'⟩
        rw [hnil] at hb'
        rcases hb' with h1 | h1
        · rcases h1 with h1 | ⟨_, _, n, hn, _⟩
          · exact (x'.keep b h1).1
          · cases hn
        · exact fresh b h1.1 h1.2
      · rename_i ns hns
        cases hc
        obtain ⟨α', r2, x2, hf, hth⟩ := thawH_ok r' (as.flatMap (nm s.2))
        refine ⟨α', r2, x'.trans x2, hu.mono (fun b hb' => ⟨hf b ?_, rfl⟩) (Later.emp α'), fun t u' h1 => hth _ _ (h1.ext x')⟩
        rcases hb' with h1 | h1
        · rcases h1 with h1 | ⟨h1, h2, h3⟩
          · exact .inl (x'.keep b h1).1
          · exact .inr ⟨Nat.lt_of_lt_of_le h1 hk.size, h2, h3⟩
        · exact .inl (fresh b h1.1 h1.2)
  · obtain ⟨⟨v1, h1⟩, hq, hq2⟩ := Option.map_eq_some_iff.1 hc
    cases hq2
    obtain ⟨hen, hi⟩ := hI _ _ _ _ _ _ hq
    refine ⟨hen, CallsIn.mono (hi base w α us r hb hl hv) fun e w' he => ?_⟩
    obtain ⟨u, rfl, α', r', x', hu⟩ := he
    exact ⟨u, rfl, α', r', x', hu, fun t u' h1 => h1.ext x'⟩

theorem eval_map {a : Act} {e : Env} (hρ : ∀ x, V w (okA w α) α (aEval e x) (a.eval x)) (xs : List Operand) : ∀ (i : Nat) (y : AV) (u : Value), (xs.map (aEval e))[i]? = some y → (xs.map a.eval)[i]? = some u → V w (okA w α) α y u := fun i y u hy hu => by
  rw [List.getElem?_map] at hy hu
  obtain ⟨z, hz, rfl⟩ := Option.map_eq_some_iff.1 hy
  rw [hz] at hu
  cases hu
  exact hρ z

/-- Whatever an operation does, abstractly, the machine's does, and goes on there. -/
def OpThen (base : Nat) (P : Program) (o : Oper) (a : Act) (w : World) (α : Al) (s : St) (v : AV) (s' : St) : Prop :=
  ∀ (K : Act → World → Prop) (Q : Exit → Act → World → Prop),
    (∀ x w' α', Rel base s'.2 w' α' → Ext w α w' α' → V w' (okA w' α') α' v x → (∀ t u', V w (okA w α) α (s.1 t) u' → V w' (okA w' α') α' (s'.1 t) u') → K (a.put o.dst x) w') → o.wpIn Fence.wide 0 P a w K Q

theorem plain_then {o : Oper} {a : Act} {c : COp} {n : Nat} {s s' : St} {v : AV} (r : Rel base s.2 w α) (hb : base ≤ w.heap.size) (hval : ∀ t, V w (okA w α) α (s.1 t) (a.tmps.getD t undef))
    (hc : compOp P o.op = some c) (hev : ((c.ev n s.1 s.2).map fun q => (q.1, ((s.1, appD s.2 q.2) : St))) = some (v, s')) : OpThen base P o a w α s v s' := by
  intro K Q hK
  obtain ⟨⟨v0, d⟩, h1, h2⟩ := Option.map_eq_some_iff.1 hev
  cases h2
  obtain ⟨nx, x, w', h3, h4, α', h5, h6, h7⟩ := op_ok r hb (ρ := a.eval) (e := s.1) (fun x => eval_ok hval x) (fun v => rfl) hc h1
  refine ⟨fun _ _ => trivial, ?_⟩
  rw [show (Fence.wide).round = none from rfl, Oper.semAt_none, h3]
  have := hK x w' α' h5 h6 h7 (fun t u' hu => hu.ext h6)
  rcases h4 with rfl | ⟨rfl, rfl⟩
  · exact this
  · exact this

theorem call_then (hH : HandOk P H) (hI : InlOk P I) {o : Oper} {a : Act} {n : Nat} {f : FuncId} {as : List AV} {us : Array Value} {s s' : St} {v : AV} (r : Rel base s.2 w α) (hb : base ≤ w.heap.size)
    (hex : (callFunc f us).run P w = .ok (.enter f us) w → (execOp a.eval o).run P w = .ok (.enter f us) w) (hl : us.size = as.length) (hv : ∀ (i : Nat) (y : AV) (u : Value), as[i]? = some y → us[i]? = some u → V w (okA w α) α y u)
    (hc : callA H I n f as s = some (v, s')) : OpThen base P o a w α s v s' := by
  intro K Q hK
  obtain ⟨hen, hcall⟩ := callA_ok (us := us.toList) hH hI r hb (by simpa using hl) (fun i y u hy hu => hv i y u hy (by simpa using hu)) hc
  refine ⟨fun _ _ => trivial, ?_⟩
  rw [show (Fence.wide).round = none from rfl, Oper.semAt_none, hex (hen us w)]
  refine ⟨fun hd => by simp [Fence.wide] at hd, ?_⟩
  rw [show us.toList.toArray = us from by simp] at hcall
  refine CallsIn.mono hcall fun e w' he => ?_
  obtain ⟨u, rfl, α', h1, h2, h3, h4⟩ := he
  exact hK u w' α' h1 h2 h3 h4

theorem compOp_call {op : Op} {c : COp} (hc : compOp P op = some c) (hn : ∀ cc, op ≠ .call cc) : c.isCall = false := by
  unfold compOp at hc
  repeat' split at hc
  all_goals first
    | (cases hc; rfl)
    | (cases hc; done)
    | (obtain ⟨z, hz, rfl⟩ := Option.map_eq_some_iff.1 hc; rfl)
    | exact absurd rfl (hn _)

theorem opA_then (hH : HandOk P H) (hI : InlOk P I) {o : Oper} {a : Act} {c : COp} {n : Nat} {s s' : St} {v : AV} (r : Rel base s.2 w α) (hb : base ≤ w.heap.size) (hval : ∀ t, V w (okA w α) α (s.1 t) (a.tmps.getD t undef))
    (hc : compOp P o.op = some c) (hop : opA H I n c s = some (v, s')) : OpThen base P o a w α s v s' := by
  have hρ := fun x => eval_ok (w := w) (ok := okA w α) (α := α) (a := a) (e := s.1) hval x
  cases ho : o.op with
  | call cc =>
    rw [ho] at hc
    simp only [compOp] at hc
    split at hc
    · rename_i b hcal
      have hc' := hc
      unfold compB at hc
      have : opA H I n c s = ((c.ev n s.1 s.2).map fun q => (q.1, ((s.1, appD s.2 q.2) : St))) := by
        cases c <;> first | rfl | (exfalso; revert hc; repeat' split) <;> simp
      rw [this] at hop
      refine plain_then r hb hval ?_ hop
      rw [ho]
      simp only [compOp, hcal]
      exact hc'
    · rename_i f hcal
      cases hc
      simp only [opA] at hop
      refine call_then hH hI (us := cc.args.map a.eval) r hb (fun he => ?_) (by simp) (fun i y u hy hu => ?_) hop
      · simp only [execOp, ho, resolve, hcal]
        simpa [Deferred.ofValue, Act.eval, Frame.eval, invoke] using he
      · refine eval_map hρ cc.args.toList i y u hy ?_
        simpa using hu
    · rename_i x hnf hcal
      cases hc
      simp only [opA] at hop
      obtain ⟨⟨f, as⟩, h1, h2⟩ := Option.bind_eq_some_iff.1 hop
      unfold valueA at h1
      split at h1
      · rename_i f' first caps hx
        cases h1
        have hxv := hρ x
        rw [hx] at hxv
        generalize hxe : a.eval x = ux at hxv
        cases hxv with
        | low _ _ h => cases h
        | fn _ _ _ us vs k1 k2 k3 k4 =>
          refine call_then hH hI (us := us.toArray ++ cc.args.map a.eval ++ vs.toArray) r hb (fun he => ?_) (by simp; omega) (fun i y u hy hu => ?_) h2
          · simp only [execOp, ho, resolve, hcal]
            rw [hxe]
            simpa [Deferred.ofValue, invoke] using he
          · have hu' : (us ++ cc.args.toList.map a.eval ++ vs)[i]? = some u := by rw [← Array.getElem?_toList] at hu; simpa using hu
            rw [List.getElem?_append] at hy hu'
            have l1 : (first ++ cc.args.toList.map (aEval s.1)).length = (us ++ cc.args.toList.map a.eval).length := by simp; omega
            rw [l1] at hy
            split at hy
            · rename_i hlt
              rw [if_pos hlt] at hu'
              rw [List.getElem?_append] at hy hu'
              rw [← k1] at hy
              split at hy
              · rename_i hlt2
                rw [if_pos hlt2] at hu'
                exact V.of_V1 (k3 i y u hy hu')
              · rename_i hlt2
                rw [if_neg hlt2] at hu'
                exact eval_map hρ cc.args.toList _ y u hy hu'
            · rename_i hlt
              rw [if_neg hlt] at hu'
              exact V.of_V1 (k4 _ y u hy hu')
      · cases h1
    · cases hc
  | _ =>
    have hnc : c.isCall = false := compOp_call hc (fun cc e => by rw [ho] at e; cases e)
    have : opA H I n c s = ((c.ev n s.1 s.2).map fun q => (q.1, ((s.1, appD s.2 q.2) : St))) := by
      cases c <;> first | rfl | (simp [COp.isCall] at hnc)
    rw [this] at hop
    exact plain_then r hb hval hc hop

end
end Go.Proofs.Ytihljollfbogeaa
