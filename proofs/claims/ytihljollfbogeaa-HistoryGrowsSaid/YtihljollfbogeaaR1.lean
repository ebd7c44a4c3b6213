/- From what a law's function answers to its row. No condition. -/
import Derived.Test.YtihljollfbogeaaR0
namespace Go.Proofs.Ytihljollfbogeaa
open Go Go.RowKit Go.ChangeShapes Go.WideShapes Go.ChangeAt

section
variable {H : Type} {enc : TypeId × Value → H} {P : Program} {w : World} {spare : Nat → Bool} {held : Bool}

/-- A value of that shape. -/
def FitsV (e : Sh) (a : AV) : Prop := ∃ l, Fits e l ∧ l.length = e.size ∧ a = wrapS e l

theorem V.of_says {e : Sh} {t : TypeId} {l : List AV} {v : Value} {r : Reach} {b : Nat} (hc : chk P e (.inl t) = true) (hf : Fits e l) (hs : Says w l v.cells.toList) (hv : Value.okWide P w r b t v) :
    V w (fun b => b < w.heap.size) emp (wrapS e l) v := by
  have one : ∀ a : AV, l = [a] → v.cells = #[v] → V w (fun b => b < w.heap.size) emp a v := fun a hl hcell => by
    subst hl
    exact V.of_V1 (.low _ _ (hs.2 0 a v rfl (by rw [hcell]; rfl)))
  have many : ∀ us : Array Value, v = .agg us → V w (fun b => b < w.heap.size) emp (.agg l) v := fun us hu => by
    subst hu
    have hcells : (Value.agg us).cells = us := rfl
    rw [hcells] at hs
    exact ⟨us, rfl, hs.1.symm, fun i a u ha hu => ⟨.low _ _ (hs.2 i a u ha hu), (hs.2 i a u ha hu).one⟩⟩
  cases e with
  | none => simp [chk] at hc
  | more f r => simp [chk] at hc
  | int k =>
    obtain ⟨n, _, rfl⟩ := hf
    simp only [chk] at hc
    split at hc
    · rename_i k' hu
      simp only [Value.okWide, hu, Cell.okWide, Cell.ok] at hv
      split at hv <;> try (simp_all; done)
      all_goals first | exact one _ rfl rfl | exact hv.elim
    · cases hc
  | bool =>
    obtain ⟨n, rfl⟩ := hf
    simp only [chk] at hc
    split at hc
    · rename_i hu
      simp only [Value.okWide, hu, Cell.okWide, Cell.ok] at hv
      split at hv <;> try (simp_all; done)
      all_goals first | exact one _ rfl rfl | exact hv.elim
    · cases hc
  | str =>
    obtain ⟨n, rfl⟩ := hf
    simp only [chk] at hc
    split at hc
    · rename_i hu
      simp only [Value.okWide, hu, Cell.okWide, Cell.ok] at hv
      split at hv <;> try (simp_all; done)
      all_goals first | exact one _ rfl rfl | exact hv.elim
    · cases hc
  | slice e =>
    obtain ⟨n, _, rfl⟩ := hf
    simp only [chk] at hc
    split at hc
    · rename_i hu
      simp only [Value.okWide, hu, Cell.okWide, Cell.ok] at hv
      split at hv <;> try (simp_all; done)
      all_goals first | exact one _ rfl rfl | exact hv.elim
    · cases hc
  | arr n e =>
    simp only [chk] at hc
    split at hc
    · rename_i hu
      simp only [Value.okWide, hu] at hv
      obtain ⟨cs, rfl, _⟩ := hv
      exact many cs rfl
    · cases hc
  | agg fs =>
    simp only [chk] at hc
    split at hc
    · rename_i hu
      simp only [Value.okWide, hu] at hv
      obtain ⟨cs, rfl, _⟩ := hv
      exact many cs rfl
    · cases hc

/-- The arguments of these shapes. -/
def FitsL : List Sh → List AV → Prop
  | [], as => as = []
  | s :: ss, as => ∃ a r, as = a :: r ∧ FitsV s a ∧ FitsL ss r
def chkL (P : Program) : List Sh → List TypeId → Bool
  | [], [] => true
  | s :: ss, t :: ts => chk P s (.inl t) && chkL P ss ts
  | _, _ => false

theorem V.of_trodAll {r : Reach} {b : Nat} : ∀ {shs : List Sh} {ts : List TypeId} {vs : List Value} {ds : List (DataW H)} {p : List MemPlace}, chkL P shs ts = true → DataW.TrodAll enc P w 0 spare held ts vs ds p →
    (∀ (j : Nat) t v, ts[j]? = some t → vs[j]? = some v → Value.okWide P w r b t v) →
    ∃ as, FitsL shs as ∧ vs.length = as.length ∧ ds.length = as.length ∧ ∀ (i : Nat) (a : AV) (u : Value), as[i]? = some a → vs[i]? = some u → V w (fun b => b < w.heap.size) emp a u
  | [], [], vs, ds, p, hc, h, hv => by
    obtain ⟨rfl, rfl, rfl⟩ := trodAll_nil h
    exact ⟨[], rfl, rfl, rfl, fun i a u ha => by simp at ha⟩
  | s :: ss, t :: ts, vs, ds, p, hc, h, hv => by
    obtain ⟨v, vs1, d, ds1, p1, p2, rfl, rfl, rfl, h1, h2⟩ := trodAll_cons h
    simp only [chkL, Bool.and_eq_true] at hc
    obtain ⟨fuel, h1⟩ := h1
    obtain ⟨l, k1, k2, k3⟩ := reads_all fuel s t _ _ hc.1 h1
    obtain ⟨as, l1, l2, l3, l4⟩ := V.of_trodAll hc.2 h2 (fun j t' v' ht hv' => hv (j + 1) t' v' (by simpa using ht) (by simpa using hv'))
    refine ⟨wrapS s l :: as, ⟨_, _, rfl, ⟨l, k1, k2, rfl⟩, l1⟩, by simp [l2], by simp [l3], fun i a u ha hu => ?_⟩
    cases i with
    | zero =>
      simp at ha hu
      subst ha; subst hu
      exact V.of_says hc.1 k1 k3 (hv 0 t v rfl rfl)
    | succ i => exact l4 i a u (by simpa using ha) (by simpa using hu)
  | [], _ :: _, _, _, _, hc, _, _ => by cases hc
  | _ :: _, [], _, _, _, hc, _, _ => by cases hc

theorem keptBut_of_kept {w w' : World} (h : Kept w w') (may : MemPlace → Prop) : w.keptBut w' may := by
  refine ⟨h.os, h.output, fun i hi => ?_⟩
  rw [h.heap i hi]
  split
  · rename_i h1 h2
    rw [h1] at h2
    cases h2
    exact ⟨rfl, rfl, rfl, fun _ _ => rfl⟩
  · rename_i h1 h2
    rw [h1] at h2
    cases h2
    exact .inr ⟨rfl, rfl⟩
  · rfl
theorem below_of_kept {w w' : World} (h : Kept w w') : Below w.heap.size w w' := ⟨h.os, h.tape, h.output, h.size, h.heap⟩

theorem trodAll_stays (hl : laidOutB P = true) {w w' : World} (h : Kept w w') (sp : Nat → Bool) : ∀ {ts : List TypeId} {vs : List Value} {ds : List (DataW H)} {p : List MemPlace}, (∀ t ∈ ts, P.readableRec t = true ∧ t < P.types.size) → DataW.TrodAll enc P w 0 (fun _ => true) true ts vs ds p →
    (∀ x ∈ p, x.block < w.heap.size ∧ sp x.block = true) → DataW.TrodAll enc P w' 0 sp true ts vs ds p
  | [], vs, ds, p, ht, hd, hp => by
    obtain ⟨rfl, rfl, rfl⟩ := trodAll_nil hd
    rfl
  | t :: ts, vs, ds, p, ht, hd, hp => by
    obtain ⟨v, vs1, d, ds1, p1, p2, rfl, rfl, rfl, h1, h2⟩ := trodAll_cons hd
    exact ⟨p1, p2, WideElems.Trod_stays hl (ht t List.mem_cons_self).1 (ht t List.mem_cons_self).2 h1 (fun x hx => (below_of_kept h).same (hp x (List.mem_append_left _ hx)).1) (fun x hx => (hp x (List.mem_append_left _ hx)).2),
      trodAll_stays hl h sp (fun t' h' => ht t' (List.mem_cons_of_mem _ h')) h2 (fun x hx => hp x (List.mem_append_right _ hx)), rfl⟩
end

/-- A law whose function answers true at all arguments of its shapes. -/
theorem law_lifted {C : Checked} {os : Os} {H : Type} {enc : TypeId × Value → H} {f : FuncId} {fn : Func} {s : ChangeSpec} {again : Bool} (own : ownKnob C.prog.godebug = none) (started : os.Started) (noInit : C.prog.inits.idxOf? f = none) (hfn : C.prog.funcs[f]? = some fn)
    (witness : ∃ (w : World) (tape : Tape) (i : Input), w.os = os ∧ (w.forCall tape i).Shaped C.prog ∧ i.vars = [] ∧ Input.okWide C.prog (w.forCall tape i) .any w.heap.size f i ∧
      s.pre6 enc C.prog fn [] false (w.forCall tape i).memory i.args ∧ ({} : Assume).holds C.prog (lone (Frame.enter C.prog f i.args .normal) [] (w.forCall tape i)))
    (hvars : s.vars = []) (hl : laidOutB C.prog = true) (hts : ∀ t ∈ fn.params.toList, C.prog.readableRec t = true ∧ t < C.prog.types.size) {tb : TypeId} (hres : fn.resultTypes = #[tb]) (htb : C.prog.underlying tb = some .bool)
    (hspec : ∀ ds : List (DataW H), ds.length = fn.params.size → s.fn H ds = { results := [.lit (.bool true)], args := ds }) (shs : List Sh) (hchk : chkL C.prog shs fn.params.toList = true)
    (good : ∀ as, FitsL shs as → Good C.prog f as (.sc (.bool true))) :
    ReturnsInHanded {} C os f .any (s.pre6 enc C.prog fn [] false) (s.post enc C.prog fn false true false again) := by
  refine returnsInHanded_of_change own started noInit hfn witness ?_
  intro W base args ds gs before hval hW hcnd _
  have hW' := hW
  obtain ⟨p, q, hA, hV, rfl, hfz, hnd⟩ := hW
  rw [hvars] at hV
  obtain ⟨rfl, rfl⟩ := trodVars_none hV
  obtain ⟨as, k1, k2, k3, k4⟩ := V.of_trodAll (r := .any) (b := base) hchk hA (fun j t v ht hv => hval j t v (by simpa using ht) (by simpa using hv))
  have hlen : ds.length = fn.params.size := by
    rw [k3]
    have : ∀ (shs : List Sh) (ts : List TypeId) (as : List AV), chkL C.prog shs ts = true → FitsL shs as → as.length = ts.length := by
      intro shs
      induction shs with
      | nil => intro ts as hc hf; cases ts <;> simp_all [chkL, FitsL]
      | cons s ss ih =>
        intro ts as hc hf
        cases ts with
        | nil => simp [chkL] at hc
        | cons t ts =>
          obtain ⟨a, r, rfl, _, hf⟩ := hf
          simp only [chkL, Bool.and_eq_true] at hc
          simp [ih ts r hc.2 hf]
    simpa using this shs fn.params.toList as hchk k1
  have call := good as k1 W (fun b => b < W.heap.size) args.toList (fun b hb => hb) k2 k4
  rw [Array.toArray_toList] at call
  refine (callsIn_wide.1 call).mono fun e W' he => ?_
  obtain ⟨v, rfl, hk, hv⟩ := he
  have hv := hv.sc_eq
  subst hv
  refine ⟨_, rfl, ?_⟩
  have hlt : ∀ x ∈ p, x.block < W.heap.size := fun x hx => by simpa using hW'.lt x (by simpa using hx)
  have hspec' : s.fn H (ds ++ []) = { results := [.lit (.bool true)], args := ds } := by rw [List.append_nil]; exact hspec ds hlen
  have hstay := fun (sp : Nat → Bool) (hs : ∀ x ∈ p, sp x.block = true) => trodAll_stays hl hk sp hts hA (fun x hx => ⟨hlt x hx, hs x hx⟩)
  have hfr : ∀ b off, b < W.heap.size → W'.frozen? ⟨b, off, none⟩ = W.frozen? ⟨b, off, none⟩ := fun b off hb => by
    simp only [World.frozen?]; rw [hk.heap b hb]
  have hresl : fn.resultTypes.size = 1 := by rw [hres]; rfl
  have hrl : (Value.bool true).resultList 1 = [.bool true] := by simp [Value.resultList]
  have hbool : ∀ (b : Nat) (sp : Nat → Bool) (hd : Bool), DataW.TrodAll enc C.prog W' b sp hd fn.resultTypes.toList ((Value.bool true).resultList fn.resultTypes.size) [.lit (.bool true)] [] := fun b sp hd => by
    rw [hresl, hrl, hres]
    exact trodAll_mk1 (shut_bool htb true)
  refine ⟨ds, [], p ++ [], [], p, [], hW', ?_, ?_, ?_, keptBut_of_kept hk _, fun _ => ⟨?_, .lit (.bool true) :: ds, [], p ++ [], ?_, fun x hx _ => hx⟩⟩
  · rw [hspec']; exact hbool _ _ _
  · rw [hspec']; exact hstay _ (fun x hx => by simpa using hlt x hx)
  · rw [hspec', hvars]; rfl
  · intro j t r hj hr
    rw [hresl, hrl] at hr
    rw [hres] at hj
    match j, hj, hr with
    | 0, hj, hr =>
      simp at hj hr
      subst hj; subst hr
      exact okWide_bool_mk htb true
  · refine ⟨p, [], ?_, by rw [hvars]; rfl, rfl, fun b off hp => ?_, fun h => by cases h⟩
    · have := trodAll_append (hstay (fun _ => true) (fun _ _ => rfl)) (hbool 0 (fun _ => true) true)
      simpa using this
    · have hp' : MemPlace.cell b off ∈ p := by simpa using hp
      rw [hfr b off (hlt _ hp')]
      exact hfz b off hp

end Go.Proofs.Ytihljollfbogeaa
