/- Iterators, and what functions with ranges over functions answer. No condition. -/
import Derived.Test.YtihljollfbogeaaMf
namespace Go.Proofs.Ytihljollfbogeaa
open Go Go.RowKit
section
variable {P : Program} {base nt : Nat} {H : Hand} {I : Inl} {T : Its} {q N : Nat} {ro : Option Nat} {ds : List Deferred}

theorem regA_preR (hH : HandOk P H) (hI : InlOk P I) {ops : Array Oper} {Q : Exit → Act → World → Prop} : ∀ (pre rest : List Oper) (k : Nat) (cs : List CIns) (s s' : St) (a : Act) (w : World) (α : Al),
    ops.toList.drop k = pre ++ rest → compAll P nt ops.toList pre = some cs → regA H I q cs s = some s' → InvD ds nt base s a w α → (∀ a' w' α', InvD ds nt base s' a' w' α' → Ext w α w' α' → wpOpsIn (FR ro) 0 P ops Q (List.range' (k + pre.length) rest.length) a' w') →
    wpOpsIn (FR ro) 0 P ops Q (List.range' k (pre ++ rest).length) a w
  | [], rest, k, cs, s, s', a, w, α, hk, hc, hr, inv, hQ => by
    cases hc
    cases hr
    exact hQ a w α inv (Ext.refl w α)
  | o :: pre, rest, k, cs, s, s', a, w, α, hk, hc, hr, inv, hQ => by
    unfold compAll at hc
    split at hc
    · rename_i ci l h1 h2
      cases hc
      simp only [regA] at hr
      obtain ⟨s1, h3, h4⟩ := Option.bind_eq_some_iff.1 hr
      have hi : ops[k]? = some o := by
        have : (ops.toList.drop k)[0]? = some o := by rw [hk]; rfl
        rw [List.getElem?_drop] at this
        simpa using this
      simp only [List.cons_append, List.length_cons, List.range'_succ]
      rw [wpOpsIn_cons]
      refine ins_thenR hH hI hi h1 h3 inv fun a' w' α' inv' ext => ?_
      refine regA_preR hH hI pre rest (k + 1) l s1 s' a' w' α' ?_ h2 h4 inv' (fun a'' w'' α'' i'' e'' => ?_)
      · rw [← List.drop_drop, hk]
        rfl
      · have := hQ a'' w'' α'' i'' (ext.trans e'')
        simpa [Nat.add_assoc, Nat.add_comm 1] using this
    · cases hc

theorem yield_op {ops : Array Oper} {o : Oper} {i l : Nat} {a : Act} {w : World} {K : Act → World → Prop} {Q : Exit → Act → World → Prop} {cc : Call} {x : Operand} (hi : ops[i]? = some o) (hg : o.guard = none) (ho : o.op = .call cc) (hcal : cc.callee = .value x)
    (hx : a.eval x = .func (.yield l) #[] #[]) {R : Ending → World → Prop} (hy : YieldAt Fence.wide 0 P l (cc.args.map a.eval) w R) (hR : ∀ e w', R e w' → ∃ v, e = .returned v ∧ K (a.put o.dst v) w') : wpOpIn (FR none) 0 P ops Q i K a w := by
  unfold wpOpIn
  simp only [hi]
  rw [if_pos (by simp [Region.wanted, hg])]
  refine ⟨fun _ _ => trivial, ?_⟩
  rw [Oper.semAt_plain (FR none) _ _ (fun c e => by rw [ho] at e; cases e)]
  obtain ⟨fn, tmps, assign, body, h1, h2⟩ := hy
  have he : (execOp a.eval o).run P w = .ok (.round l fn tmps assign body) w := by
    simp only [execOp, ho, resolve, hcal]
    rw [hx]
    simpa [Deferred.ofValue, invoke] using h1
  rw [he]
  refine ⟨fun hd => by simp [Fence.wide] at hd, ?_⟩
  refine RoundIn.mono h2 fun e w' hr => ?_
  obtain ⟨v, rfl, hk⟩ := hR e w' hr
  exact hk

theorem goodR_of_run (hH : HandOk P H) (hI : InlOk P I) (hT : ItsOk P T) {f : FuncId} {fn : Func} {c : CFnR} (hf : P.funcs[f]? = some fn) (hc : compFnR P fn = some c) {as : List AV} {h' : Hp} {v r : AV}
    (hr : fnR T H I N q c as hemp = some (v, h')) (hz : fz h' v = r) : Enters P f ∧ Good P f as r := by
  refine ⟨entersR hf hc, Good.of (by rw [← hz]; exact fz_mp) fun w ok us hok hl hv => ?_⟩
  have rel : Rel w.heap.size hemp w ⟨fun _ => none, fun b => ok b ∨ w.heap.size ≤ b⟩ :=
    ⟨(fun n ae h => by cases h), (fun n ae h => by cases h), (fun n m ae ae' b o r o' r' h => by cases h), (fun n ae b o r h => by cases h), (fun b hb => Or.inr hb)⟩
  have call := fnR_ok hH hI hT hf hc hr rel (Nat.le_refl _) hl (fun i a u ha hu => (hv i a u ha hu).mono (fun b hb => ⟨⟨⟨hok b hb, .inl hb⟩, fun n ae o r h => by cases h⟩, rfl⟩) (Later.emp _))
  refine CallsIn.mono call fun e w' he => ?_
  obtain ⟨u, rfl, α', r', ext, hvu⟩ := he
  refine ⟨u, rfl, ⟨ext.os, ext.tape, ext.output, ext.size, fun b hb => (ext.keepF b ⟨hb, fun n ae o r h => by cases h⟩).2⟩, ?_⟩
  have := fz_ok r' (names := nm h' v) hvu (fun n hn => hn)
  rw [hz] at this
  refine this.mono (fun b hb => ⟨?_, rfl⟩) (Later.refl _)
  have key : b < w'.heap.size → α'.G b → ok b ∨ (w.heap.size ≤ b ∧ b < w'.heap.size) := fun h1 h2 => by
    rw [ext.same] at h2
    rcases h2 with h2 | h2
    · exact .inl h2
    · exact .inr ⟨h2, h1⟩
  rcases hb with hb | hb
  · exact key hb.1.1 hb.1.2
  · exact key hb.1 hb.2.1
theorem goodR_of_ends (hH : HandOk P H) (hI : InlOk P I) (hT : ItsOk P T) {f : FuncId} {fn : Func} {c : CFnR} (hf : P.funcs[f]? = some fn) (hc : compFnR P fn = some c) {as : List AV} {r : AV}
    (hr : Ends (fnR T H I N q c as hemp) (fun p => outA p = r)) : Enters P f ∧ Good P f as r := by
  obtain ⟨⟨v, h'⟩, h1, h2⟩ := hr
  exact goodR_of_run hH hI hT hf hc h1 h2
/-- A function that answers with a function. -/
theorem goodF_of_ends (hH : HandOk P H) (hI : InlOk P I) (hm : P.follows .mixedOrders = true) {f : FuncId} {fn : Func} {c : CFn} (hf : P.funcs[f]? = some fn) (hc : compFn P fn = some c) {as : List AV} {g : FuncId} {caps : List AV}
    (hr : Ends (fnA H I N q c as hemp) (fun p => ∃ cs, p.1 = .fn g [] cs ∧ cs.map (fz1 p.2) = caps)) : Enters P f ∧ Good P f as (.fn g [] caps) := by
  obtain ⟨⟨v, h'⟩, h1, cs, rfl, hz⟩ := hr
  refine ⟨enters hf hc, Good.of rfl fun w ok us hok hl hv => ?_⟩
  have rel : Rel w.heap.size hemp w ⟨fun _ => none, fun b => ok b ∨ w.heap.size ≤ b⟩ :=
    ⟨(fun n ae h => by cases h), (fun n ae h => by cases h), (fun n m ae ae' b o r o' r' h => by cases h), (fun n ae b o r h => by cases h), (fun b hb => Or.inr hb)⟩
  have call := fn_ok hH hI hm hf hc h1 rel (Nat.le_refl _) hl (fun i a u ha hu => (hv i a u ha hu).mono (fun b hb => ⟨⟨⟨hok b hb, .inl hb⟩, fun n ae o r h => by cases h⟩, rfl⟩) (Later.emp _))
  refine CallsIn.mono call fun e w' he => ?_
  obtain ⟨u, rfl, α', r', ext, hvu⟩ := he
  refine ⟨u, rfl, ⟨ext.os, ext.tape, ext.output, ext.size, fun b hb => (ext.keepF b ⟨hb, fun n ae o r h => by cases h⟩).2⟩, ?_⟩
  have hvu1 : V1 w' (okA w' α') α' (.fn g [] cs) u := hvu
  cases hvu1 with
  | low _ _ h => cases h
  | fn _ _ _ us0 lb k1 k2 k3 k4 =>
  have hus0 : us0 = [] := List.eq_nil_of_length_eq_zero k1
  subst hus0
  have key : ∀ b, okF w' α' (cs.flatMap (nm1 h')) b → ok b ∨ (w.heap.size ≤ b ∧ b < w'.heap.size) := fun b hb => by
    have key : b < w'.heap.size → α'.G b → ok b ∨ (w.heap.size ≤ b ∧ b < w'.heap.size) := fun h1 h2 => by
      rw [ext.same] at h2
      rcases h2 with h2 | h2
      · exact .inl h2
      · exact .inr ⟨h2, h1⟩
    rcases hb with hb | hb
    · exact key hb.1.1 hb.1.2
    · exact key hb.1 hb.2.1
  refine V.of_V1 (V1.fn g [] caps [] lb rfl (by rw [k2, ← hz]; simp) (fun i a u h => by simp at h) fun i a u ha hu => ?_)
  rw [← hz, List.getElem?_map] at ha
  obtain ⟨a0, ha0, rfl⟩ := Option.map_eq_some_iff.1 ha
  have := fz1_ok r' (names := cs.flatMap (nm1 h')) (k4 i a0 u ha0 hu) (fun n hn => List.mem_flatMap.2 ⟨a0, List.mem_of_getElem? ha0, hn⟩)
  exact this.mono (fun b hb => ⟨key b hb, rfl⟩) (Later.refl _)

/-! ### Equations -/
noncomputable def thnR (T : Its) (H : Hand) (I : Inl) (N q : Nat) (b : CR) : CEx × St → Option (CEx × St)
  | (.norm, s') => runR T H I N q b s'
  | r => some r
theorem runR_code (c : CC) (s : St) : runR T H I N q (.code c) s = run H I N q c s := rfl
theorem runR_seq (a b : CR) (s : St) : runR T H I N q (.seq a b) s = (runR T H I N q a s).bind (thnR T H I N q b) := by
  simp only [runR]; congr 1
theorem runR_block (id : Nat) (b : CR) (s : St) : runR T H I N q (.block id b) s = (runR T H I N q b s).map (endB id) := by
  simp only [runR]; congr 1
theorem thnR_norm (b : CR) (s : St) : thnR T H I N q b (.norm, s) = runR T H I N q b s := rfl
theorem thnR_toNorm (b : CR) (s : St) : thnR T H I N q b (toNorm s) = runR T H I N q b s := rfl
theorem thnR_ret (b : CR) (s : St) : thnR T H I N q b (.ret, s) = some (.ret, s) := rfl
theorem thnR_exit (b : CR) (i : Nat) (s : St) : thnR T H I N q b (.exit i, s) = some (.exit i, s) := rfl
/-- A range over a function of which it is known what it yields. -/
theorem runR_rng {x : Operand} {ps : List Nat} {ca cb : CC} {s : St} {vss : List (List AV)} {Q : CEx × St → Prop} (hv : itsA T (aEval s.1 x) = some vss) (hr : Ends (rounds H I N q ps ca cb s.1 vss s.2) (fun r => Q (r.1, (s.1, r.2)))) : Ends (runR T H I N q (.rng x ps ca cb) s) Q := by
  simp only [runR, hv, Option.bind_some, ends_map]
  exact hr
/-- One round after the other. -/
theorem rounds_ind {ps : List Nat} {ca cb : CC} {e : Env} (J : Nat → Hp → Prop) (Post : CEx → Hp → Prop) : ∀ (vss : List (List AV)) (i : Nat) (h : Hp),
    (∀ (k : Nat) (vs : List AV) (h : Hp), vss[k]? = some vs → J (i + k) h → vs.length = ps.length ∧ Ends (run H I N q ca (esets e (ps.zip vs), h)) (fun x => x.1 = .norm ∧ Ends (run H I N q cb x.2) (fun y => match y.1 with | .norm => J (i + k + 1) y.2.2 | z => Post z y.2.2))) →
    (∀ h, J (i + vss.length) h → Post .norm h) → J i h → Ends (rounds H I N q ps ca cb e vss h) (fun r => Post r.1 r.2)
  | [], i, h, _, hf, h0 => by
    simp only [rounds, ends_some]
    exact hf h h0
  | vs :: r, i, h, hs, hf, h0 => by
    obtain ⟨hl, x, h1, h2, y, h3, h4⟩ := hs 0 vs h rfl h0
    obtain ⟨x1, x2⟩ := x
    simp only at h2
    subst h2
    obtain ⟨y1, y2⟩ := y
    simp only [rounds]
    rw [if_pos hl, h1]
    simp only [Option.bind_some]
    simp only at h3
    rw [h3]
    simp only [Option.bind_some]
    cases y1 with
    | norm =>
      refine rounds_ind J Post r (i + 1) y2.2 (fun k vs h hk hj => ?_) (fun h hj => hf h ?_) h4
      · have e1 : i + 1 + k = i + (k + 1) := by omega
        rw [e1] at hj ⊢
        exact hs (k + 1) vs h (by simpa using hk) hj
      · have e1 : i + 1 + r.length = i + (r.length + 1) := by omega
        rw [e1] at hj
        exact hj
    | ret => exact ⟨_, rfl, h4⟩
    | exit id => exact ⟨_, rfl, h4⟩
end
end Go.Proofs.Ytihljollfbogeaa
