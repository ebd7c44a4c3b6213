/- Functions that hold ranges over functions. No condition. -/
import Derived.Test.YtihljollfbogeaaMe
namespace Go.Proofs.Ytihljollfbogeaa
open Go Go.RowKit
section
variable {P : Program} {base nt : Nat} {H : Hand} {I : Inl} {T : Its} {q N : Nat}

theorem runR_ok (hH : HandOk P H) (hI : InlOk P I) (hT : ItsOk P T) {n0 : Nat} : ∀ (c : Code) (cr : CR) (s s' : St) (x : CEx) (a : Act) (w : World) (α : Al) (ds : List Deferred) (Q : Exit → Act → World → Prop),
    compR P nt c = some cr → runR T H I N q cr s = some (x, s') → InvD ds nt base s a w α → n0 ≤ w.heap.size → Marks n0 ds w α → (∀ ds' a' w' α', InvD ds' nt base s' a' w' α' → Marks n0 ds' w' α' → Ext w α w' α' → Q (exOf x) a' w') → c.wpIn (FR none) 0 P Q a w
  | c, cr, s, s', x, a, w, α, ds, Q, hc, hr, inv, hn, hm, hQ => by
    have calm : ∀ cc, comp P nt c = some cc → cc.calm = true → cr = .code cc → c.wpIn (FR none) 0 P Q a w := by
      rintro cc h1 h2 rfl
      exact run_okR (ro := none) hH hI c cc s s' x a w α Q h1 h2 hr inv (fun a' w' α' i' e' => hQ ds a' w' α' i' (hm.ext e') e')
    unfold compR at hc
    split at hc
    · rename_i cc h1
      split at hc
      · rename_i h2
        cases hc
        exact calm cc h1 h2 rfl
      · cases hc
    · split at hc
      · rename_i c1 c2 _
        split at hc
        · rename_i cx cy h1 h2
          cases hc
          simp only [runR] at hr
          obtain ⟨⟨x1, s1⟩, h3, h4⟩ := Option.bind_eq_some_iff.1 hr
          refine wpIn_seq (runR_ok hH hI hT c1 cx s s1 x1 a w α ds _ h1 h3 inv hn hm fun ds' a' w' α' inv' hm' ext => ?_)
          cases x1 with
          | norm => exact runR_ok hH hI hT c2 cy s1 s' x a' w' α' ds' Q h2 h4 inv' (Nat.le_trans hn ext.size) hm' (fun ds'' a'' w'' α'' i'' m'' e'' => hQ ds'' a'' w'' α'' i'' m'' (ext.trans e''))
          | exit i => cases h4; exact hQ ds' a' w' α' inv' hm' ext
          | ret => cases h4; exact hQ ds' a' w' α' inv' hm' ext
        · cases hc
      · rename_i id c1 _
        obtain ⟨cx, h1, rfl⟩ := Option.map_eq_some_iff.1 hc
        simp only [runR] at hr
        obtain ⟨⟨x1, s1⟩, h2, h3⟩ := Option.map_eq_some_iff.1 hr
        refine wpIn_block (runR_ok hH hI hT c1 cx s s1 x1 a w α ds _ h1 h2 inv hn hm fun ds' a' w' α' inv' hm' ext => ?_)
        cases x1 with
        | norm => cases h3; exact hQ ds' a' w' α' inv' hm' ext
        | ret => cases h3; exact hQ ds' a' w' α' inv' hm' ext
        | exit i =>
          simp only at h3
          simp only [exOf, Exit.inBlock]
          split at h3
          · rename_i hi
            cases h3
            rw [if_pos hi]
            exact hQ ds' a' w' α' inv' hm' ext
          · rename_i hi
            cases h3
            rw [if_neg hi]
            exact hQ ds' a' w' α' inv' hm' ext
      · rename_i g ps ca cb _
        split at hc
        · rename_i xa xb h1 h2
          split at hc
          · rename_i h3
            cases hc
            simp only [Bool.and_eq_true, List.all_eq_true, decide_eq_true_eq] at h3
            exact rng_okR hH hI hT h1 h2 h3.1.1 h3.1.2 h3.2 hr inv hn hm hQ
          · cases hc
        · cases hc
      · cases hc

theorem leaves_marks {fn : Func} {cs : List CRes} {vs : List AV} {s : St} {w : World} {α : Al} {v : AV} {a : Act} (hc : compRess P fn.results.toList = some cs) (hr : ressA s cs = some vs) (ht : tupA vs = some v) : ∀ (Ds : List Nat) (W : World) (α' : Al), Ds.Nodup → (∀ D ∈ Ds, (w.heap.size ≤ D ∧ W.heap[D]? = some (.deferred (some []))) ∧ free W α' D) →
    Inv 0 base s { a with defers := [] } W α' → Ext w α W α' →
    LeavesInM Fence.wide 0 P fn a.tmps (fun e w' => ∃ u, e = .returned u ∧ ∃ α', Rel base s.2 w' α' ∧ Ext w α w' α' ∧ V w' (okA w' α') α' v u) (Ds.map mark) .returning W
  | [], W, α', _, _, inv, x => by
    obtain ⟨u, h1, h2⟩ := results_ok inv hc hr ht
    exact ⟨u, h1, u, rfl, α', inv.rel, x, h2⟩
  | D :: Ds, W, α', hn, hD, inv, x => by
    obtain ⟨⟨h1, h2⟩, h3⟩ := hD D List.mem_cons_self
    refine ⟨by simp, .inl ⟨D, _, rfl, run_takeDeferred h2, ?_⟩⟩
    refine leaves_marks hc hr ht Ds _ α' (List.nodup_cons.1 hn).2 (fun D' hD' => ?_) ⟨inv.rel.book h3 h2 rfl, by rw [World.putObj_size]; exact inv.base, fun t => (inv.val t).book h2 rfl, inv.size, rfl⟩ (x.book h1)
    obtain ⟨⟨k1, k2⟩, k3⟩ := hD D' (List.mem_cons_of_mem _ hD')
    have hne : D' ≠ D := fun e => (List.nodup_cons.1 hn).1 (e ▸ hD')
    exact ⟨⟨k1, (World.putObj_heap_other hne).trans k2⟩, free_putObj k3⟩

theorem compFnR_spec {fn : Func} {c : CFnR} (h : compFnR P fn = some c) : ∃ cd, fn.body = some cd ∧ (fn.name != "runtime.NumGoroutine") = true ∧ compR P fn.ntmps cd = some c.body ∧ compRess P fn.results.toList = some c.results := by
  unfold compFnR at h
  split at h
  · rename_i cd hb
    split at h
    · rename_i hn
      split at h
      · rename_i b rs h1 h2
        cases h
        exact ⟨cd, hb, hn, h1, h2⟩
      · cases h
    · cases h
  · cases h
theorem entersR {f : FuncId} {fn : Func} {c : CFnR} (hf : P.funcs[f]? = some fn) (hc : compFnR P fn = some c) : Enters P f := by
  obtain ⟨cd, hb, hn, _, _⟩ := compFnR_spec hc
  intro args w
  have h1 : fn.name ≠ "runtime.NumGoroutine" := by simpa using hn
  simp [callFunc, hf, h1, hb]

theorem fnR_ok (hH : HandOk P H) (hI : InlOk P I) (hT : ItsOk P T) {f : FuncId} {fn : Func} {c : CFnR} (hf : P.funcs[f]? = some fn) (hc : compFnR P fn = some c) {as : List AV} {h h' : Hp} {v : AV}
    (hr : fnR T H I N q c as h = some (v, h')) {w : World} {α : Al} {us : List Value} (r : Rel base h w α) (hb : base ≤ w.heap.size) (hl : us.length = as.length)
    (hv : ∀ (i : Nat) (a : AV) (u : Value), as[i]? = some a → us[i]? = some u → V w (okA w α) α a u) :
    CallsIn Fence.wide 0 P f us.toArray w fun e w' => ∃ u, e = .returned u ∧ ∃ α', Rel base h' w' α' ∧ Ext w α w' α' ∧ V w' (okA w' α') α' v u := by
  obtain ⟨cd, hbody, hn, hcomp, hres⟩ := compFnR_spec hc
  unfold fnR at hr
  obtain ⟨⟨x, s'⟩, h1, h2⟩ := Option.bind_eq_some_iff.1 hr
  have inv : InvD [] fn.ntmps base (argEnv as, h) { tmps := us.toArray ++ Array.replicate (fn.ntmps - us.toArray.size) undef, defers := [] } w α := by
    refine ⟨r, hb, fun t => ?_, ?_, rfl⟩
    · simp only [argEnv]
      cases ht : as[t]? with
      | none => exact V.junk
      | some a =>
        have hlt := (List.getElem?_eq_some_iff.1 ht).1
        have hu : us[t]? = some us[t] := List.getElem?_eq_getElem (by omega)
        have : (us.toArray ++ Array.replicate (fn.ntmps - us.toArray.size) undef).getD t undef = us[t] := by
          rw [Array.getD_eq_getD_getElem?, Array.getElem?_append_left (by simp; omega)]
          simp [hu]
        rw [this]
        exact hv t a _ ht hu
    · simp; omega
  refine callsIn_of_wp_marks hf hbody trivial ?_ rfl
  refine runR_ok (n0 := w.heap.size) hH hI hT cd c.body (argEnv as, h) s' x _ w α [] _ hcomp h1 inv (Nat.le_refl _) (Marks.nil _ w α) fun ds' a' w' α' inv' hm' ext => ?_
  have fin : (∃ vs, ressA s' c.results = some vs ∧ (tupA vs).map (fun v => (v, s'.2)) = some (v, h')) → LeavesInM Fence.wide 0 P fn a'.tmps (fun e w' => ∃ u, e = .returned u ∧ ∃ α', Rel base h' w' α' ∧ Ext w α w' α' ∧ V w' (okA w' α') α' v u) a'.defers .returning w' := by
    rintro ⟨vs, k1, k2⟩
    obtain ⟨v0, k3, k4⟩ := Option.map_eq_some_iff.1 k2
    cases k4
    obtain ⟨Ds, m1, m2, m3⟩ := hm'
    rw [inv'.defers, m2]
    exact leaves_marks hres k1 k3 Ds w' α' m1 m3 ⟨inv'.rel, inv'.base, inv'.val, Nat.zero_le _, rfl⟩ ext
  cases x with
  | norm =>
    simp only at h2
    obtain ⟨vs, k1, k2⟩ := Option.bind_eq_some_iff.1 h2
    exact fin ⟨vs, k1, k2⟩
  | ret =>
    simp only at h2
    obtain ⟨vs, k1, k2⟩ := Option.bind_eq_some_iff.1 h2
    exact fin ⟨vs, k1, k2⟩
  | exit i => cases h2
end
end Go.Proofs.Ytihljollfbogeaa
