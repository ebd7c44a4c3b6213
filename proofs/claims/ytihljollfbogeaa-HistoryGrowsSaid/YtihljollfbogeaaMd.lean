/- Ranges over functions: rounds, iterators, functions that hold one. No condition. -/
import Derived.Test.YtihljollfbogeaaMc
import Derived.RangeFuncLeaves
import Derived.RangeFuncSeq
import Derived.RangeFuncRecord
import Derived.OwnWalkIn

namespace Go.Proofs.Ytihljollfbogeaa
open Go Go.RowKit

/-- The widest fence, in a round or not. -/
abbrev FR (ro : Option Nat) : Fence := { Fence.wide with round := ro }
/-- No region is drawn. -/
def CC.calm : CC → Bool
  | .draw _ _ => false
  | .seq a b | .cond _ a b => a.calm && b.calm
  | .block _ b | .loop b => b.calm
  | _ => true
structure InvD (ds : List Deferred) (nt base : Nat) (s : St) (a : Act) (w : World) (α : Al) : Prop where
  rel : Rel base s.2 w α
  base : base ≤ w.heap.size
  val : ∀ t, V w (okA w α) α (s.1 t) (a.tmps.getD t undef)
  size : nt ≤ a.tmps.size
  defers : a.defers = ds
theorem Inv.toD {nt base : Nat} {s : St} {a : Act} {w : World} {α : Al} (h : Inv nt base s a w α) : InvD [] nt base s a w α := ⟨h.rel, h.base, h.val, h.size, h.defers⟩

section
variable {P : Program} {w : World} {α : Al} {base nt : Nat} {h : Hp} {H : Hand} {I : Inl} {ro : Option Nat} {ds : List Deferred} {q N : Nat}

/-- Whatever an operation does, abstractly, the machine's does, and goes on there. -/
def OpThenR (ro : Option Nat) (base : Nat) (P : Program) (o : Oper) (a : Act) (w : World) (α : Al) (s : St) (v : AV) (s' : St) : Prop :=
  ∀ (K : Act → World → Prop) (Q : Exit → Act → World → Prop),
    (∀ x w' α', Rel base s'.2 w' α' → Ext w α w' α' → V w' (okA w' α') α' v x → (∀ t u', V w (okA w α) α (s.1 t) u' → V w' (okA w' α') α' (s'.1 t) u') → K (a.put o.dst x) w') → o.wpIn (FR ro) 0 P a w K Q

theorem plain_thenR {o : Oper} {a : Act} {c : COp} {n : Nat} {s s' : St} {v : AV} (r : Rel base s.2 w α) (hb : base ≤ w.heap.size) (hval : ∀ t, V w (okA w α) α (s.1 t) (a.tmps.getD t undef))
    (hc : compOp P o.op = some c) (hev : ((c.ev n s.1 s.2).map fun q => (q.1, ((s.1, appD s.2 q.2) : St))) = some (v, s')) : OpThenR ro base P o a w α s v s' := by
  intro K Q hK
  obtain ⟨⟨v0, d⟩, h1, h2⟩ := Option.map_eq_some_iff.1 hev
  cases h2
  obtain ⟨nx, x, w', h3, h4, α', h5, h6, h7⟩ := op_ok r hb (ρ := a.eval) (e := s.1) (fun x => eval_ok hval x) (fun v => rfl) hc h1
  refine ⟨fun _ _ => trivial, ?_⟩
  rw [Oper.semAt_plain (FR ro) _ _ (fun cc e => by rw [e] at hc; cases hc), h3]
  have := hK x w' α' h5 h6 h7 (fun t u' hu => hu.ext h6)
  rcases h4 with rfl | ⟨rfl, rfl⟩
  · exact this
  · exact this

theorem call_thenR (hH : HandOk P H) (hI : InlOk P I) {o : Oper} {a : Act} {n : Nat} {f : FuncId} {as : List AV} {us : Array Value} {s s' : St} {v : AV} (r : Rel base s.2 w α) (hb : base ≤ w.heap.size)
    (hex : (callFunc f us).run P w = .ok (.enter f us) w → (execOp a.eval o).run P w = .ok (.enter f us) w) (hl : us.size = as.length) (hv : ∀ (i : Nat) (y : AV) (u : Value), as[i]? = some y → us[i]? = some u → V w (okA w α) α y u)
    (hnd : ∀ cc, o.op ≠ .defer cc) (hc : callA H I n f as s = some (v, s')) : OpThenR ro base P o a w α s v s' := by
  intro K Q hK
  obtain ⟨hen, hcall⟩ := callA_ok (us := us.toList) hH hI r hb (by simpa using hl) (fun i y u hy hu => hv i y u hy (by simpa using hu)) hc
  refine ⟨fun _ _ => trivial, ?_⟩
  rw [Oper.semAt_plain (FR ro) _ _ hnd, hex (hen us w)]
  refine ⟨fun hd => by simp [Fence.wide] at hd, ?_⟩
  rw [show us.toList.toArray = us from by simp] at hcall
  refine CallsIn.mono hcall fun e w' he => ?_
  obtain ⟨u, rfl, α', h1, h2, h3, h4⟩ := he
  exact hK u w' α' h1 h2 h3 h4

theorem opA_thenR (hH : HandOk P H) (hI : InlOk P I) {o : Oper} {a : Act} {c : COp} {n : Nat} {s s' : St} {v : AV} (r : Rel base s.2 w α) (hb : base ≤ w.heap.size) (hval : ∀ t, V w (okA w α) α (s.1 t) (a.tmps.getD t undef))
    (hc : compOp P o.op = some c) (hop : opA H I n c s = some (v, s')) : OpThenR ro base P o a w α s v s' := by
  have hρ := fun x => eval_ok (w := w) (ok := okA w α) (α := α) (a := a) (e := s.1) hval x
  cases ho : o.op with
  | call cc =>
    rw [ho] at hc
    simp only [compOp] at hc
    split at hc
    · rename_i b hcal
      have hc' := hc
      unfold compB at hc
      have : opA H I n c s = ((c.ev n s.1 s.2).map fun q => (q.1, ((s.1, appD s.2 q.2) : St))) := by
        cases c <;> first | rfl | (exfalso; revert hc; repeat' split) <;> simp
      rw [this] at hop
      refine plain_thenR r hb hval ?_ hop
      rw [ho]
      simp only [compOp, hcal]
      exact hc'
    · rename_i f hcal
      cases hc
      simp only [opA] at hop
      refine call_thenR hH hI (us := cc.args.map a.eval) r hb (fun he => ?_) (by simp) (fun i y u hy hu => ?_) (fun cc e => by rw [ho] at e; cases e) hop
      · simp only [execOp, ho, resolve, hcal]
        simpa [Deferred.ofValue, Act.eval, Frame.eval, invoke] using he
      · refine eval_map hρ cc.args.toList i y u hy ?_
        simpa using hu
    · rename_i x hnf hcal
      cases hc
      simp only [opA] at hop
      obtain ⟨⟨f, as⟩, h1, h2⟩ := Option.bind_eq_some_iff.1 hop
      unfold valueA at h1
      split at h1
      · rename_i f' first caps hx
        cases h1
        have hxv := hρ x
        rw [hx] at hxv
        generalize hxe : a.eval x = ux at hxv
        cases hxv with
        | low _ _ h => cases h
        | fn _ _ _ us vs k1 k2 k3 k4 =>
          refine call_thenR hH hI (us := us.toArray ++ cc.args.map a.eval ++ vs.toArray) r hb (fun he => ?_) (by simp; omega) (fun i y u hy hu => ?_) (fun cc e => by rw [ho] at e; cases e) h2
          · simp only [execOp, ho, resolve, hcal]
            rw [hxe]
            simpa [Deferred.ofValue, invoke] using he
          · have hu' : (us ++ cc.args.toList.map a.eval ++ vs)[i]? = some u := by rw [← Array.getElem?_toList] at hu; simpa using hu
            rw [List.getElem?_append] at hy hu'
            have l1 : (first ++ cc.args.toList.map (aEval s.1)).length = (us ++ cc.args.toList.map a.eval).length := by simp; omega
            rw [l1] at hy
            split at hy
            · rename_i hlt
              rw [if_pos hlt] at hu'
              rw [List.getElem?_append] at hy hu'
              rw [← k1] at hy
              split at hy
              · rename_i hlt2
                rw [if_pos hlt2] at hu'
                exact V.of_V1 (k3 i y u hy hu')
              · rename_i hlt2
                rw [if_neg hlt2] at hu'
                exact eval_map hρ cc.args.toList _ y u hy hu'
            · rename_i hlt
              rw [if_neg hlt] at hu'
              exact V.of_V1 (k4 _ y u hy hu')
      · cases h1
    · cases hc
  | _ =>
    have hnc : c.isCall = false := compOp_call hc (fun cc e => by rw [ho] at e; cases e)
    have : opA H I n c s = ((c.ev n s.1 s.2).map fun q => (q.1, ((s.1, appD s.2 q.2) : St))) := by
      cases c <;> first | rfl | (simp [COp.isCall] at hnc)
    rw [this] at hop
    exact plain_thenR r hb hval hc hop

theorem ins_thenR (hH : HandOk P H) (hI : InlOk P I) {ops : Array Oper} {o : Oper} {i q : Nat} {ci : CIns} {s s' : St} {a : Act} (hi : ops[i]? = some o) (hc : compIns P nt ops.toList o = some ci) (hr : insA H I q ci s = some s')
    (inv : InvD ds nt base s a w α) {K : Act → World → Prop} {Q : Exit → Act → World → Prop} (hK : ∀ a' w' α', InvD ds nt base s' a' w' α' → Ext w α w' α' → K a' w') : wpOpIn (FR ro) 0 P ops Q i K a w := by
  unfold compIns at hc
  split at hc
  · cases hc
  · rename_i c hop
    split at hc
    case isFalse => cases hc
    rename_i hd
    have hdst : ∀ k, o.dst = some k → k < a.tmps.size := fun k hk => by
      rw [hk] at hd
      exact Nat.lt_of_lt_of_le (of_decide_eq_true hd) inv.size
    have fin : ∀ x w' α' (s1 : St) (v : AV), Rel base s1.2 w' α' → Ext w α w' α' → V w' (okA w' α') α' v x → (∀ t u', V w (okA w α) α (s.1 t) u' → V w' (okA w' α') α' (s1.1 t) u') → s' = (edst s1.1 o.dst v, s1.2) → K (a.put o.dst x) w' := by
      intro x w' α' s1 v h1 h2 h3 h4 h5
      refine hK _ w' α' ⟨by rw [h5]; exact h1, Nat.le_trans inv.base h2.size, ?_, ?_, ?_⟩ h2
      · rw [h5]
        exact put_val (fun t => h4 t _ (inv.val t)) hdst h3
      · have := inv.size
        unfold Act.put
        split <;> simpa using this
      · have := inv.defers
        unfold Act.put
        split <;> simpa using this
    unfold wpOpIn
    simp only [hi]
    unfold insA at hr
    split at hc
    · rename_i hg
      cases hc
      simp only at hr
      obtain ⟨⟨v, s1⟩, h1, h2⟩ := Option.map_eq_some_iff.1 hr
      rw [if_pos (by simp [Region.wanted, hg])]
      exact opA_thenR hH hI inv.rel inv.base inv.val hop h1 K Q (fun x w' α' k1 k2 k3 k4 => fin x w' α' s1 v k1 k2 k3 k4 h2.symm)
    · rename_i j want hg
      split at hc
      · rename_i g hj
        cases hc
        simp only at hr
        split at hr
        · rename_i b hb
          have hy := yield_ok inv.val hj hb
          split at hr
          · rename_i hbw
            subst hbw
            obtain ⟨⟨v, s1⟩, h1, h2⟩ := Option.map_eq_some_iff.1 hr
            rw [if_pos (by simp [Region.wanted, hg, hy])]
            exact opA_thenR hH hI inv.rel inv.base inv.val hop h1 K Q (fun x w' α' k1 k2 k3 k4 => fin x w' α' s1 v k1 k2 k3 k4 h2.symm)
          · rename_i hbw
            cases hr
            rw [if_neg (by simp [Region.wanted, hg, hy]; exact hbw)]
            exact ⟨fun _ _ => trivial, fin undef w α s (.tup []) inv.rel (Ext.refl w α) V.undef (fun t u' hu => hu) rfl⟩
        · rename_i hb
          cases hr
          rw [if_neg (by simp [Region.wanted, hg, yield_none inv.val hj hb])]
          exact ⟨fun _ _ => trivial, fin undef w α s (.tup []) inv.rel (Ext.refl w α) V.undef (fun t u' hu => hu) rfl⟩
        · cases hr
      · cases hc

theorem regA_okR (hH : HandOk P H) (hI : InlOk P I) {ops : Array Oper} {q : Nat} {Q : Exit → Act → World → Prop} : ∀ (rest : List Oper) (k : Nat) (cs : List CIns) (s s' : St) (a : Act) (w : World) (α : Al),
    ops.toList.drop k = rest → compAll P nt ops.toList rest = some cs → regA H I q cs s = some s' → InvD ds nt base s a w α → (∀ a' w' α', InvD ds nt base s' a' w' α' → Ext w α w' α' → Q .normal a' w') →
    wpOpsIn (FR ro) 0 P ops Q (List.range' k rest.length) a w
  | [], k, cs, s, s', a, w, α, hk, hc, hr, inv, hQ => by
    cases hc
    cases hr
    exact hQ a w α inv (Ext.refl w α)
  | o :: rest, k, cs, s, s', a, w, α, hk, hc, hr, inv, hQ => by
    unfold compAll at hc
    split at hc
    · rename_i ci l h1 h2
      cases hc
      simp only [regA] at hr
      obtain ⟨s1, h3, h4⟩ := Option.bind_eq_some_iff.1 hr
      have hi : ops[k]? = some o := by
        have : (ops.toList.drop k)[0]? = some o := by rw [hk]; rfl
        rw [List.getElem?_drop] at this
        simpa using this
      simp only [List.length_cons, List.range'_succ]
      rw [wpOpsIn_cons]
      refine ins_thenR hH hI hi h1 h3 inv fun a' w' α' inv' ext => ?_
      refine regA_okR hH hI rest (k + 1) l s1 s' a' w' α' ?_ h2 h4 inv' (fun a'' w'' α'' i'' e'' => hQ a'' w'' α'' i'' (ext.trans e''))
      rw [← List.drop_drop, hk]
      rfl
    · cases hc

theorem reg_okR (hH : HandOk P H) (hI : InlOk P I) {ops : Array Oper} {id q : Nat} {Q : Exit → Act → World → Prop} {cs : List CIns} {s s' : St} {a : Act} (hc : compAll P nt ops.toList ops.toList = some cs) (hr : regA H I q cs s = some s')
    (inv : InvD ds nt base s a w α) (hQ : ∀ a' w' α', InvD ds nt base s' a' w' α' → Ext w α w' α' → Q .normal a' w') : (Code.region id ops false).wpIn (FR ro) 0 P Q a w := by
  refine wpIn_region ?_
  have := regA_okR (ro := ro) hH hI (Q := Q) ops.toList 0 cs s s' a w α rfl hc hr inv hQ
  rwa [Array.length_toList, ← List.range_eq_range'] at this

theorem run_okR (hH : HandOk P H) (hI : InlOk P I) : ∀ (c : Code) (cc : CC) (s s' : St) (x : CEx) (a : Act) (w : World) (α : Al) (Q : Exit → Act → World → Prop),
    comp P nt c = some cc → cc.calm = true → run H I N q cc s = some (x, s') → InvD ds nt base s a w α → (∀ a' w' α', InvD ds nt base s' a' w' α' → Ext w α w' α' → Q (exOf x) a' w') → c.wpIn (FR ro) 0 P Q a w
  | .skip, cc, s, s', x, a, w, α, Q, hc, hcalm, hr, inv, hQ => by
    cases hc; cases hr
    exact wpIn_skip (hQ a w α inv (Ext.refl w α))
  | .exit id, cc, s, s', x, a, w, α, Q, hc, hcalm, hr, inv, hQ => by
    cases hc; cases hr
    exact wpIn_exit (hQ a w α inv (Ext.refl w α))
  | .ret, cc, s, s', x, a, w, α, Q, hc, hcalm, hr, inv, hQ => by
    cases hc; cases hr
    exact wpIn_ret (hQ a w α inv (Ext.refl w α))
  | .region id ops false, cc, s, s', x, a, w, α, Q, hc, hcalm, hr, inv, hQ => by
    simp only [comp] at hc
    obtain ⟨cs, h1, rfl⟩ := Option.map_eq_some_iff.1 hc
    simp only [run] at hr
    obtain ⟨s1, h2, h3⟩ := Option.map_eq_some_iff.1 hr
    cases h3
    exact reg_okR hH hI h1 h2 inv hQ
  | .region id ops true, cc, s, s', x, a, w, α, Q, hc, hcalm, hr, inv, hQ => by
    simp only [comp] at hc
    unfold compDraw at hc
    split at hc
    · cases hc
    · split at hc
      · cases hc; simp [CC.calm] at hcalm
      · cases hc
  | .seq c d, cc, s, s', x, a, w, α, Q, hc, hcalm, hr, inv, hQ => by
    simp only [comp] at hc
    split at hc
    · rename_i cx cy h1 h2
      cases hc
      simp only [CC.calm, Bool.and_eq_true] at hcalm
      simp only [run] at hr
      obtain ⟨⟨x1, s1⟩, h3, h4⟩ := Option.bind_eq_some_iff.1 hr
      refine wpIn_seq (run_okR hH hI c cx s s1 x1 a w α _ h1 hcalm.1 h3 inv fun a' w' α' inv' ext => ?_)
      cases x1 with
      | norm => exact run_okR hH hI d cy s1 s' x a' w' α' Q h2 hcalm.2 h4 inv' (fun a'' w'' α'' i'' e'' => hQ a'' w'' α'' i'' (ext.trans e''))
      | exit i => cases h4; exact hQ a' w' α' inv' ext
      | ret => cases h4; exact hQ a' w' α' inv' ext
    · cases hc
  | .cond o c d, cc, s, s', x, a, w, α, Q, hc, hcalm, hr, inv, hQ => by
    simp only [comp] at hc
    split at hc
    · rename_i cx cy h1 h2
      cases hc
      simp only [CC.calm, Bool.and_eq_true] at hcalm
      simp only [run] at hr
      split at hr
      · rename_i t ht
        have hv := eval_ok (w := w) (ok := okA w α) (α := α) (a := a) (e := s.1) inv.val o
        rw [ht] at hv
        have he := hv.sc_eq
        cases t with
        | true => exact wpIn_cond_true he (run_okR hH hI c cx s s' x a w α Q h1 hcalm.1 hr inv hQ)
        | false => exact wpIn_cond_false he (run_okR hH hI d cy s s' x a w α Q h2 hcalm.2 hr inv hQ)
      · cases hr
    · cases hc
  | .block id c, cc, s, s', x, a, w, α, Q, hc, hcalm, hr, inv, hQ => by
    simp only [comp] at hc
    obtain ⟨cx, h1, rfl⟩ := Option.map_eq_some_iff.1 hc
    simp only [run] at hr
    obtain ⟨⟨x1, s1⟩, h2, h3⟩ := Option.map_eq_some_iff.1 hr
    refine wpIn_block (run_okR hH hI c cx s s1 x1 a w α _ h1 hcalm h2 inv fun a' w' α' inv' ext => ?_)
    cases x1 with
    | norm => cases h3; exact hQ a' w' α' inv' ext
    | ret => cases h3; exact hQ a' w' α' inv' ext
    | exit i =>
      simp only at h3
      simp only [exOf, Exit.inBlock]
      split at h3
      · rename_i hi
        cases h3
        rw [if_pos hi]
        exact hQ a' w' α' inv' ext
      · rename_i hi
        cases h3
        rw [if_neg hi]
        exact hQ a' w' α' inv' ext
  | .loop c, cc, s, s', x, a, w, α, Q, hc, hcalm, hr, inv, hQ => by
    simp only [comp] at hc
    obtain ⟨cx, h1, rfl⟩ := Option.map_eq_some_iff.1 hc
    simp only [run] at hr
    refine wpIn_loop_ghost (fun k a' w' => ∃ s1 α', iter (run H I N q cx) k s1 = some (x, s') ∧ InvD ds nt base s1 a' w' α' ∧ Ext w α w' α') N ⟨s, α, hr, inv, Ext.refl w α⟩ ?_
    rintro k a' w' ⟨s1, α', hk, inv', ext⟩
    cases k with
    | zero => cases hk
    | succ k =>
      simp only [iter] at hk
      cases hq : run H I N q cx s1 with
      | none => rw [hq] at hk; cases hk
      | some r =>
        obtain ⟨x2, s2⟩ := r
        rw [hq] at hk
        refine run_okR hH hI c cx s1 s2 x2 a' w' α' _ h1 hcalm hq inv' fun a'' w'' α'' inv'' ext'' => ?_
        cases x2 with
        | norm => exact ⟨k, Nat.lt_succ_self k, s2, α'', hk, inv'', ext.trans ext''⟩
        | exit i => cases hk; exact hQ a'' w'' α'' inv'' (ext.trans ext'')
        | ret => cases hk; exact hQ a'' w'' α'' inv'' (ext.trans ext'')
  | .rangeFunc _ _ _ _, cc, s, s', x, a, w, α, Q, hc, hcalm, hr, inv, hQ => by cases hc
  | .scope _, cc, s, s', x, a, w, α, Q, hc, hcalm, hr, inv, hQ => by cases hc
  | .label _, cc, s, s', x, a, w, α, Q, hc, hcalm, hr, inv, hQ => by cases hc
  | .goto _, cc, s, s', x, a, w, α, Q, hc, hcalm, hr, inv, hQ => by cases hc
  | .refuse _, cc, s, s', x, a, w, α, Q, hc, hcalm, hr, inv, hQ => by cases hc

end
end Go.Proofs.Ytihljollfbogeaa
