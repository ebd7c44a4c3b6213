/- Functions: what the abstract run answers, the function answers. No condition. -/
import Derived.Test.YtihljollfbogeaaA22
namespace Go.Proofs.Ytihljollfbogeaa
open Go Go.RowKit

def compRes (P : Program) : ResultVar → Option CRes
  | .tmp t => some (.tmp t)
  | .cell a t => if hasT P t then some (.cell (aggB P t) (P.cellsOf t) a) else none
def compRess (P : Program) : List ResultVar → Option (List CRes)
  | [] => some []
  | r :: rs => match compRes P r, compRess P rs with | some x, some l => some (x :: l) | _, _ => none
def compFn (P : Program) (fn : Func) : Option CFn :=
  match fn.body with
  | some c => if fn.name != "runtime.NumGoroutine" then match comp P fn.ntmps c, compRess P fn.results.toList with | some b, some rs => some ⟨rs, b⟩ | _, _ => none else none
  | none => none

/-- A table of functions of the program. -/
def TabOk (P : Program) (T : FuncId → Option CFn) : Prop := ∀ f c, T f = some c → ∃ fn, P.funcs[f]? = some fn ∧ compFn P fn = some c

section
variable {P : Program} {base nt : Nat} {h : Hp} {H : Hand} {I : Inl} {q N : Nat}

theorem compFn_spec {fn : Func} {c : CFn} (h : compFn P fn = some c) : ∃ cd, fn.body = some cd ∧ (fn.name != "runtime.NumGoroutine") = true ∧ comp P fn.ntmps cd = some c.body ∧ compRess P fn.results.toList = some c.results := by
  unfold compFn at h
  split at h
  · rename_i cd hb
    split at h
    · rename_i hn
      split at h
      · rename_i b rs h1 h2
        cases h
        exact ⟨cd, hb, hn, h1, h2⟩
      · cases h
    · cases h
  · cases h

theorem enters {f : FuncId} {fn : Func} {c : CFn} (hf : P.funcs[f]? = some fn) (hc : compFn P fn = some c) : Enters P f := by
  obtain ⟨cd, hb, hn, _, _⟩ := compFn_spec hc
  intro args w
  have h1 : fn.name ≠ "runtime.NumGoroutine" := by simpa using hn
  simp [callFunc, hf, h1, hb]

def resVal (tm : Array Value) : ResultVar → Sem Value
  | .tmp t => pure (tm.getD t undef)
  | .cell p t => do loadVar t (← asAddr (tm.getD p undef))
theorem results_eq (fn : Func) (tm : Array Value) : results fn tm = (do let vs ← fn.results.mapM (resVal tm); pure (if h : vs.size = 1 then vs[0] else .tuple vs)) := by
  have : resVal tm = (fun | .tmp t => pure (tm.getD t undef) | .cell p t => do loadVar t (← asAddr (tm.getD p undef)) : ResultVar → Sem Value) := by
    funext r; cases r <;> rfl
  rw [this]; rfl

theorem res_ok {s : St} {a : Act} {w : World} {α : Al} (inv : Inv nt base s a w α) {r : ResultVar} {c : CRes} (hc : compRes P r = some c) {v : AV} (hr : resA s c = some v) :
    ∃ x, (resVal a.tmps r).run P w = .ok x w ∧ V w (okA w α) α v x := by
  cases r with
  | tmp t =>
    cases hc
    cases hr
    exact ⟨_, rfl, inv.val t⟩
  | cell p t =>
    simp only [compRes] at hc
    split at hc
    · rename_i ht
      cases hc
      simp only [resA] at hr
      obtain ⟨x, h1, h2⟩ := load_ok (P := P) inv.rel ht rfl hr (inv.val p)
      refine ⟨x, ?_, h2⟩
      have hp := inv.val p
      have : ∃ ad, a.tmps.getD p undef = .pointer (some ad) := by
        unfold oLoad at hr
        split at hr
        · rename_i n ver e c hq
          rw [hq] at hp
          generalize a.tmps.getD p undef = up at hp
          cases hp with
          | low _ _ h => cases h
          | ptr _ _ _ _ ad => exact ⟨ad, rfl⟩
        · rename_i cs c hq
          rw [hq] at hp
          generalize a.tmps.getD p undef = up at hp
          cases hp with
          | low _ _ h => cases h; exact ⟨_, rfl⟩
        · cases hr
      obtain ⟨ad, had⟩ := this
      simp only [resVal]
      rw [had] at h1 ⊢
      simpa [Instr.loadAt, Instr.sureAddr, asAddr] using h1
    · cases hc

theorem ress_ok {s : St} {a : Act} {w : World} {α : Al} (inv : Inv nt base s a w α) : ∀ {rs : List ResultVar} {cs : List CRes} {vs : List AV}, compRess P rs = some cs → ressA s cs = some vs →
    ∃ xs : List Value, (rs.mapM (resVal a.tmps)).run P w = .ok xs w ∧ xs.length = vs.length ∧
      ∀ (i : Nat) (v : AV) (x : Value), vs[i]? = some v → xs[i]? = some x → V w (okA w α) α v x
  | [], cs, vs, hc, hr => by
    cases hc; cases hr
    exact ⟨[], by simp, rfl, fun i v x h => by simp at h⟩
  | r :: rs, cs, vs, hc, hr => by
    unfold compRess at hc
    split at hc
    · rename_i c l h1 h2
      cases hc
      simp only [ressA] at hr
      obtain ⟨v, h3, h4⟩ := Option.bind_eq_some_iff.1 hr
      obtain ⟨vs', h5, rfl⟩ := Option.map_eq_some_iff.1 h4
      obtain ⟨x, h6, h7⟩ := res_ok inv h1 h3
      obtain ⟨xs, h8, h9, h10⟩ := ress_ok inv h2 h5
      refine ⟨x :: xs, ?_, by simp [h9], fun i v' x' hv hx => ?_⟩
      · rw [List.mapM_cons]
        simp only [Sem.run_bind]
        rw [h6]
        simp only [Result.andThen_ok]
        rw [h8]
        simp
      · cases i with
        | zero => simp at hv hx; subst hv; subst hx; exact h7
        | succ i => exact h10 i v' x' (by simpa using hv) (by simpa using hx)
    · cases hc

theorem results_ok {s : St} {a : Act} {w : World} {α : Al} (inv : Inv nt base s a w α) {fn : Func} {cs : List CRes} {vs : List AV} {v : AV} (hc : compRess P fn.results.toList = some cs) (hr : ressA s cs = some vs) (ht : tupA vs = some v) :
    ∃ x, (results fn a.tmps).run P w = .ok x w ∧ V w (okA w α) α v x := by
  obtain ⟨xs, h1, h2, h3⟩ := ress_ok inv hc hr
  have hrun : (results fn a.tmps).run P w = .ok (if h : xs.toArray.size = 1 then xs.toArray[0] else .tuple xs.toArray) w := by
    rw [results_eq, Array.mapM_eq_mapM_toList]
    simp only [Sem.run_bind, Sem.run_map]
    rw [h1]
    simp
  refine ⟨_, hrun, ?_⟩
  unfold tupA at ht
  split at ht
  · rename_i v'
    cases ht
    have hx1 : xs.length = 1 := by simpa using h2
    obtain ⟨x, rfl⟩ := List.length_eq_one_iff.1 hx1
    exact h3 0 _ x rfl rfl
  · rename_i hne
    split at ht
    · rename_i hall
      cases ht
      have hx1 : ¬ (xs.toArray.size = 1) := by
        simp
        intro e
        rw [h2] at e
        obtain ⟨y, hy⟩ := List.length_eq_one_iff.1 e
        exact hne y hy
      rw [dif_neg hx1]
      refine ⟨xs, rfl, h2, fun i y x hy hx => (h3 i y x hy hx).toVA ?_⟩
      intro ws e
      subst e
      have := List.all_eq_true.1 hall _ (List.mem_of_getElem? hy)
      simp at this
    · cases ht

/-- A function's run. -/
theorem fn_ok (hH : HandOk P H) (hI : InlOk P I) (hm : P.follows .mixedOrders = true) {f : FuncId} {fn : Func} {c : CFn} (hf : P.funcs[f]? = some fn) (hc : compFn P fn = some c) {as : List AV} {h' : Hp} {v : AV}
    (hr : fnA H I N q c as h = some (v, h')) {w : World} {α : Al} {us : List Value} (r : Rel base h w α) (hb : base ≤ w.heap.size) (hl : us.length = as.length)
    (hv : ∀ (i : Nat) (a : AV) (u : Value), as[i]? = some a → us[i]? = some u → V w (okA w α) α a u) :
    CallsIn Fence.wide 0 P f us.toArray w fun e w' => ∃ u, e = .returned u ∧ ∃ α', Rel base h' w' α' ∧ Ext w α w' α' ∧ V w' (okA w' α') α' v u := by
  obtain ⟨cd, hbody, hn, hcomp, hres⟩ := compFn_spec hc
  unfold fnA at hr
  obtain ⟨⟨x, s'⟩, h1, h2⟩ := Option.bind_eq_some_iff.1 hr
  have inv : Inv fn.ntmps base (argEnv as, h) { tmps := us.toArray ++ Array.replicate (fn.ntmps - us.toArray.size) undef, defers := [] } w α := by
    refine ⟨r, hb, fun t => ?_, ?_, rfl⟩
    · simp only [argEnv]
      cases ht : as[t]? with
      | none => exact V.junk
      | some a =>
        have hlt := (List.getElem?_eq_some_iff.1 ht).1
        have hu : us[t]? = some us[t] := List.getElem?_eq_getElem (by omega)
        have : (us.toArray ++ Array.replicate (fn.ntmps - us.toArray.size) undef).getD t undef = us[t] := by
          rw [Array.getD_eq_getD_getElem?, Array.getElem?_append_left (by simp; omega)]
          simp [hu]
        rw [this]
        exact hv t a _ ht hu
    · simp; omega
  refine callsIn_of_wp hf hbody trivial ?_ rfl
  refine run_ok hH hI hm cd c.body (argEnv as, h) s' x _ w α _ hcomp h1 inv fun a' w' α' inv' ext => ?_
  have fin : (∃ vs, ressA s' c.results = some vs ∧ (tupA vs).map (fun v => (v, s'.2)) = some (v, h')) → a'.defers = [] ∧ ∃ u, (results fn a'.tmps).run P w' = .ok u w' ∧ (∃ u', Ending.returned u = .returned u' ∧ ∃ α', Rel base h' w' α' ∧ Ext w α w' α' ∧ V w' (okA w' α') α' v u') := by
    rintro ⟨vs, k1, k2⟩
    obtain ⟨v0, k3, k4⟩ := Option.map_eq_some_iff.1 k2
    cases k4
    obtain ⟨u, k5, k6⟩ := results_ok inv' hres k1 k3
    exact ⟨inv'.defers, u, k5, u, rfl, α', inv'.rel, ext, k6⟩
  cases x with
  | norm =>
    simp only at h2
    obtain ⟨vs, k1, k2⟩ := Option.bind_eq_some_iff.1 h2
    exact fin ⟨vs, k1, k2⟩
  | ret =>
    simp only at h2
    obtain ⟨vs, k1, k2⟩ := Option.bind_eq_some_iff.1 h2
    exact fin ⟨vs, k1, k2⟩
  | exit i => cases h2

theorem inl_ok (hH : HandOk P H) (hm : P.follows .mixedOrders = true) {T : FuncId → Option CFn} (hT : TabOk P T) (N : Nat) : ∀ d, InlOk P (inl T H N d)
  | 0 => fun q f as h v h' hr => by cases hr
  | d + 1 => fun q f as h v h' hr => by
    simp only [inl] at hr
    split at hr
    · rename_i c hTf
      obtain ⟨fn, hf, hc⟩ := hT f c hTf
      exact ⟨enters hf hc, fun base w α us r hb hl hv => fn_ok hH (inl_ok hH hm hT N d) hm hf hc hr r hb hl hv⟩
    · cases hr

/-- What the run says of shapes of arguments without memory of ours, holds of the function. -/
theorem good_of_run (hH : HandOk P H) (hI : InlOk P I) (hm : P.follows .mixedOrders = true) {f : FuncId} {fn : Func} {c : CFn} (hf : P.funcs[f]? = some fn) (hc : compFn P fn = some c) {as : List AV} {h' : Hp} {v r : AV}
    (hr : fnA H I N q c as hemp = some (v, h')) (hz : fz h' v = r) : Enters P f ∧ Good P f as r := by
  refine ⟨enters hf hc, fun w ok us hok hl hv => ?_⟩
  have rel : Rel w.heap.size hemp w ⟨fun _ => none, fun b => ok b ∨ w.heap.size ≤ b⟩ :=
    ⟨(fun n ae h => by cases h), (fun n ae h => by cases h), (fun n m ae ae' b o r o' r' h => by cases h), (fun n ae b o r h => by cases h), (fun b hb => Or.inr hb)⟩
  have call := fn_ok hH hI hm hf hc hr rel (Nat.le_refl _) hl (fun i a u ha hu => (hv i a u ha hu).mono (fun b hb => ⟨⟨⟨hok b hb, .inl hb⟩, fun n ae o r h => by cases h⟩, rfl⟩) (Later.emp _))
  refine CallsIn.mono call fun e w' he => ?_
  obtain ⟨u, rfl, α', r', ext, hvu⟩ := he
  refine ⟨u, rfl, ⟨ext.os, ext.tape, ext.output, ext.size, fun b hb => (ext.keepF b ⟨hb, fun n ae o r h => by cases h⟩).2⟩, ?_⟩
  have := fz_ok r' (names := nm h' v) hvu (fun n hn => hn)
  rw [hz] at this
  refine this.mono (fun b hb => ⟨?_, rfl⟩) (Later.refl _)
  have key : b < w'.heap.size → α'.G b → ok b ∨ (w.heap.size ≤ b ∧ b < w'.heap.size) := fun h1 h2 => by
    rw [ext.same] at h2
    rcases h2 with h2 | h2
    · exact .inl h2
    · exact .inr ⟨h2, h1⟩
  rcases hb with hb | hb
  · exact key hb.1.1 hb.1.2
  · exact key hb.1 hb.2.1

end
end Go.Proofs.Ytihljollfbogeaa
