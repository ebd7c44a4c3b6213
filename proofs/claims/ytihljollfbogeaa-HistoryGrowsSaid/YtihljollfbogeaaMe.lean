/- Ranges over functions: the statement, the functions that hold one. No condition. -/
import Derived.Test.YtihljollfbogeaaMd
import Derived.RangeFuncOwn
namespace Go.Proofs.Ytihljollfbogeaa
open Go Go.RowKit

/-! ### The machine's own blocks change -/
theorem V0.cells_mono {w w' : World} {ok ok' : Nat → Prop} {a : AV} {u : Value} (h : V0 w ok a u) (hb : ∀ b, ok b → ok' b) (hc : ∀ b o v, w.cell? ⟨b, o, none⟩ = some v → w'.cell? ⟨b, o, none⟩ = some v) : V0 w' ok' a u := by
  induction h with
  | sc v h => exact .sc v h
  | nl A => exact .nl A
  | imm xs A cap sz b o U hcap h hcell _ ih =>
    exact .imm xs A cap sz b o U hcap (fun j el he => ⟨(h j el he).1, (h j el he).2.1, hb b (h j el he).2.2⟩) (fun j el c a he ha => hc _ _ _ (hcell j el c a he ha)) ih
  | full xs A sz b o U h hcell _ ih =>
    exact .full xs A sz b o U (fun j el he => ⟨(h j el he).1, (h j el he).2.1, hb b (h j el he).2.2⟩) (fun j el c a he ha => hc _ _ _ (hcell j el c a he ha)) ih
  | ipt cs c b o U hok hcell _ ih => exact .ipt cs c b o U (hb b hok) (fun i a ha => hc _ _ _ (hcell i a ha)) ih
theorem V1.cells_mono {w w' : World} {ok ok' : Nat → Prop} {α : Al} {a : AV} {u : Value} (h : V1 w ok α a u) (hb : ∀ b, ok b → ok' b) (hc : ∀ b o v, w.cell? ⟨b, o, none⟩ = some v → w'.cell? ⟨b, o, none⟩ = some v) : V1 w' ok' α a u := by
  induction h with
  | low a u h => exact .low a u (h.cells_mono hb hc)
  | ref n ver i len A cap ae hle ha hv h => exact .ref n ver i len A cap ae hle ha hv h
  | ptr n ver e c a ae ha hv h => exact .ptr n ver e c a ae ha hv h
  | mp n ver b ae ha hv h => exact .mp n ver b ae ha hv h
  | fn f first caps us vs h1 h2 _ _ ih1 ih2 => exact .fn f first caps us vs h1 h2 ih1 ih2
  | junk u => exact .junk u
theorem VC.cells_mono {w w' : World} {ok ok' : Nat → Prop} {α : Al} {cs : List AV} {us : List Value} (h : VC w ok α cs us) (hb : ∀ b, ok b → ok' b) (hc : ∀ b o v, w.cell? ⟨b, o, none⟩ = some v → w'.cell? ⟨b, o, none⟩ = some v) : VC w' ok' α cs us :=
  ⟨h.1, fun i a u ha hu => ⟨(h.2 i a u ha hu).1.cells_mono hb hc, (h.2 i a u ha hu).2⟩⟩
theorem VA.cells_mono {w w' : World} {ok ok' : Nat → Prop} {α : Al} {a : AV} {u : Value} (h : VA w ok α a u) (hb : ∀ b, ok b → ok' b) (hc : ∀ b o v, w.cell? ⟨b, o, none⟩ = some v → w'.cell? ⟨b, o, none⟩ = some v) : VA w' ok' α a u := by
  cases a with
  | agg cs => obtain ⟨us, rfl, h⟩ := h; exact ⟨us, rfl, h.cells_mono hb hc⟩
  | _ => exact V1.cells_mono h hb hc
theorem V.cells_mono {w w' : World} {ok ok' : Nat → Prop} {α : Al} {a : AV} {u : Value} (h : V w ok α a u) (hb : ∀ b, ok b → ok' b) (hc : ∀ b o v, w.cell? ⟨b, o, none⟩ = some v → w'.cell? ⟨b, o, none⟩ = some v) : V w' ok' α a u := by
  cases a with
  | tup vs =>
    obtain ⟨us, rfl, hn, h⟩ := h
    exact ⟨us, rfl, hn, fun i a x ha hx => (h i a x ha hx).cells_mono hb hc⟩
  | _ => exact V.of_VA (VA.cells_mono (ok := ok) (α := α) (show VA w ok α _ u from h) hb hc) (by intro vs e; cases e)

theorem cell_putObj {W : World} {l : Nat} {o o' : Obj} (ho : W.heap[l]? = some o) (hnc : o.isCells = false) : ∀ b p v, W.cell? ⟨b, p, none⟩ = some v → (W.putObj l o').cell? ⟨b, p, none⟩ = some v := fun b p v h => by
  by_cases e : b = l
  · subst e
    unfold World.cell? at h
    rw [ho] at h
    cases o <;> first | (simp at h; done) | (simp [Obj.isCells] at hnc; done)
  · unfold World.cell? at h ⊢
    rw [World.putObj_heap_other e]; exact h
theorem free_putObj {W : World} {α : Al} {l b : Nat} {o' : Obj} (h : free W α b) : free (W.putObj l o') α b := ⟨by rw [World.putObj_size]; exact h.1, h.2⟩
theorem okA_putObj {W : World} {α : Al} {l b : Nat} {o' : Obj} (h : okA W α b) : okA (W.putObj l o') α b := ⟨⟨by rw [World.putObj_size]; exact h.1.1, h.1.2⟩, h.2⟩
theorem V.book {W : World} {α : Al} {l : Nat} {o o' : Obj} (ho : W.heap[l]? = some o) (hnc : o.isCells = false) {a : AV} {u : Value} (h : V W (okA W α) α a u) : V (W.putObj l o') (okA (W.putObj l o') α) α a u :=
  h.cells_mono (fun _ hb => okA_putObj hb) (cell_putObj ho hnc)
theorem Rel.book {bs : Nat} {h : Hp} {W : World} {α : Al} (r : Rel bs h W α) {l : Nat} {o o' : Obj} (hf : free W α l) (ho : W.heap[l]? = some o) (hnc : o.isCells = false) : Rel bs h (W.putObj l o') α := by
  refine ⟨r.ver, fun n ae ha => ?_, r.inj, fun n ae b o r' h1 h2 => by rw [World.putObj_size]; exact r.base n ae b o r' h1 h2, r.grant⟩
  have hat := r.at_ n ae ha
  have hne : ∀ b off room, ae.blk = some (b, off, room) → (W.putObj l o').heap[b]? = W.heap[b]? := fun b off room hb => World.putObj_heap_other (fun e => hf.2 n ae off room ha (by rw [hb, e]))
  generalize (h n).2 = bl at hat ⊢
  cases bl with
  | dead => exact hat
  | row sz els =>
    refine ⟨hat.1, hat.2.1, ?_⟩
    have h3 := hat.2.2
    cases hblk : ae.blk with
    | none => rw [hblk] at h3; exact h3
    | some q =>
      obtain ⟨b, off, room⟩ := q
      rw [hblk] at h3
      simp only at h3 ⊢
      obtain ⟨k1, cs, t, k2, k3, k4⟩ := h3
      refine ⟨k1, cs, t, by rw [hne b off room hblk]; exact k2, k3, fun e el he => ⟨(k4 e el he).1, fun c a hca => ?_⟩⟩
      obtain ⟨k5, x, k6, k7⟩ := (k4 e el he).2 c a hca
      exact ⟨k5, x, k6, k7.cells_mono (fun _ hb => okA_putObj hb) (cell_putObj ho hnc)⟩
  | map es =>
    obtain ⟨b, o2, r2, ms, clock, k1, k2, k3, k4⟩ := hat
    refine ⟨b, o2, r2, ms, clock, k1, by rw [hne b o2 r2 k1]; exact k2, k3, fun i e he => ⟨(k4 i e he).1, ?_⟩⟩
    obtain ⟨m, k5, k6, k7⟩ := (k4 i e he).2
    exact ⟨m, k5, k6, k7.cells_mono (fun _ hb => okA_putObj hb) (cell_putObj ho hnc)⟩
theorem Ext.book {w W : World} {α α' : Al} (x : Ext w α W α') {l : Nat} {o' : Obj} (hl : w.heap.size ≤ l) : Ext w α (W.putObj l o') α' :=
  ⟨x.os, x.tape, x.output, by rw [World.putObj_size]; exact x.size, fun b hb => ⟨free_putObj (x.keepF b hb).1, (World.putObj_heap_other (by have := hb.1; omega)).trans (x.keepF b hb).2⟩, x.later, x.same⟩

/-! ### Marks -/
def mark (D : Nat) : Deferred := { target := .collected D, args := #[] }
def Marks (n0 : Nat) (ds : List Deferred) (w : World) (α : Al) : Prop := ∃ Ds : List Nat, Ds.Nodup ∧ ds = Ds.map mark ∧ ∀ D ∈ Ds, (n0 ≤ D ∧ w.heap[D]? = some (.deferred (some []))) ∧ free w α D
theorem Marks.nil (n0 : Nat) (w : World) (α : Al) : Marks n0 [] w α := ⟨[], List.nodup_nil, rfl, fun D h => by cases h⟩
theorem Marks.ext {n0 : Nat} {ds : List Deferred} {w w' : World} {α α' : Al} (h : Marks n0 ds w α) (x : Ext w α w' α') : Marks n0 ds w' α' := by
  obtain ⟨Ds, h1, h2, h3⟩ := h
  exact ⟨Ds, h1, h2, fun D hD => ⟨⟨(h3 D hD).1.1, (x.keepF D (h3 D hD).2).2.trans (h3 D hD).1.2⟩, (x.keepF D (h3 D hD).2).1⟩⟩

/-! ### The language with ranges over functions -/
inductive CR where
  | code (c : CC)
  | seq (a b : CR)
  | block (id : Nat) (b : CR)
  | rng (x : Operand) (ps : List Nat) (as body : CC)
structure CFnR where
  results : List CRes
  body : CR

def compR (P : Program) (nt : Nat) (c : Code) : Option CR :=
  match comp P nt c with
  | some cc => if cc.calm then some (.code cc) else none
  | none => match c with
    | .seq a b => match compR P nt a, compR P nt b with
      | some x, some y => some (.seq x y)
      | _, _ => none
    | .block id b => (compR P nt b).map (.block id)
    | .rangeFunc g ps a b => match comp P nt a, comp P nt b with
      | some x, some y => if x.calm && y.calm && ps.toList.all (fun p => decide (p < nt)) then some (.rng g ps.toList x y) else none
      | _, _ => none
    | _ => none
def compFnR (P : Program) (fn : Func) : Option CFnR :=
  match fn.body with
  | some c => if fn.name != "runtime.NumGoroutine" then match compR P fn.ntmps c, compRess P fn.results.toList with | some b, some rs => some ⟨rs, b⟩ | _, _ => none else none
  | none => none

def esets (e : Env) : List (Nat × AV) → Env
  | [] => e
  | (t, v) :: r => esets (eset e t v) r
/-- What iterators yield. -/
abbrev Its := FuncId → List AV → Option (List (List AV))
def AV.isLow : AV → Bool
  | .sc _ | .nl | .imm _ | .full _ | .ipt _ _ => true
  | _ => false
def itsA (T : Its) (x : AV) : Option (List (List AV)) :=
  match x with
  | .fn f [] caps => if caps.all AV.isLow = true then T f caps else none
  | _ => none
noncomputable def rounds (H : Hand) (I : Inl) (N q : Nat) (ps : List Nat) (ca cb : CC) (e : Env) : List (List AV) → Hp → Option (CEx × Hp)
  | [], h => some (.norm, h)
  | vs :: r, h => if vs.length = ps.length then (run H I N q ca (esets e (ps.zip vs), h)).bind fun x => match x.1 with
      | .norm => (run H I N q cb x.2).bind fun y => match y.1 with
        | .norm => rounds H I N q ps ca cb e r y.2.2
        | z => some (z, y.2.2)
      | _ => none
    else none
noncomputable def runR (T : Its) (H : Hand) (I : Inl) (N q : Nat) : CR → St → Option (CEx × St)
  | .code c, s => run H I N q c s
  | .seq a b, s => (runR T H I N q a s).bind fun r => match r with
    | (.norm, s') => runR T H I N q b s'
    | r => some r
  | .block id b, s => (runR T H I N q b s).map fun r => match r with
    | (.exit i, s') => if i = id then (.norm, s') else (.exit i, s')
    | r => r
  | .rng x ps ca cb, s => (itsA T (aEval s.1 x)).bind fun vss => (rounds H I N q ps ca cb s.1 vss s.2).map fun r => (r.1, (s.1, r.2))
noncomputable def fnR (T : Its) (H : Hand) (I : Inl) (N : Nat) (q : Nat) (c : CFnR) (as : List AV) (h : Hp) : Option (AV × Hp) :=
  (runR T H I N q c.body (argEnv as, h)).bind fun r => match r.1 with
    | .exit _ => none
    | _ => (ressA r.2 c.results).bind fun vs => (tupA vs).map fun v => (v, r.2.2)

/-- An iterator's contract: it yields these, one after the other, until it is told to stop; B: the blocks that the iterator has made. -/
def IterOk (P : Program) (f : FuncId) (caps : List AV) (vss : List (List AV)) : Prop :=
  Enters P f ∧ ∀ (l : Nat) (w : World) (ok : Nat → Prop) (us : List Value), (∀ b, ok b → b < w.heap.size) → us.length = caps.length → (∀ (i : Nat) (a : AV) (u : Value), caps[i]? = some a → us[i]? = some u → V0 w ok a u) →
    ∀ (J : Nat → (Nat → Prop) → World → Prop) (Jx : World → Prop), (∀ i B W W', J i B W → Kept W W' → J i (fun b => B b ∨ (W.heap.size ≤ b ∧ b < W'.heap.size)) W') → (∀ W W', Jx W → Kept W W' → Jx W') →
      (∀ i B W, J i B W → ∀ b, ok b ∨ B b → b < W.heap.size) →
      (∀ (i : Nat) (B : Nat → Prop) (vs : List AV) (W : World) (xs : List Value), J i B W → vss[i]? = some vs → xs.length = vs.length → (∀ (j : Nat) (a : AV) (u : Value), vs[j]? = some a → xs[j]? = some u → V W (fun b => ok b ∨ B b) emp a u) →
        YieldAt Fence.wide 0 P l xs.toArray W fun e W' => (∀ b, ok b ∨ B b → b < W'.heap.size ∧ W'.heap[b]? = W.heap[b]?) ∧ ((e = .returned (.bool true) ∧ J (i + 1) B W') ∨ (e = .returned (.bool false) ∧ Jx W'))) →
      J 0 (fun _ => False) w → CallsIn Fence.wide 0 P f (#[.func (.yield l) #[] #[]] ++ us.toArray) w fun e W' => (∃ v, e = .returned v) ∧ ((∃ B, J vss.length B W') ∨ Jx W')
def ItsOk (P : Program) (T : Its) : Prop := ∀ f caps vss, T f caps = some vss → IterOk P f caps vss

theorem V0.of_low {w : World} {ok : Nat → Prop} {α : Al} {a : AV} {u : Value} (h : V1 w ok α a u) (hl : a.isLow = true) : V0 w ok a u := by
  cases h <;> first | assumption | (simp [AV.isLow] at hl)

theorem esets_val {w : World} {ok : Nat → Prop} {α : Al} {n : Nat} : ∀ {ps : List Nat} {vs : List AV} {xs : List Value} {e : Env} {tm : Array Value}, vs.length = ps.length → xs.length = vs.length → (∀ p ∈ ps, p < n) → n ≤ tm.size →
    (∀ (j : Nat) (a : AV) (u : Value), vs[j]? = some a → xs[j]? = some u → V w ok α a u) → (∀ t, V w ok α (e t) (tm.getD t undef)) →
    (∀ t, V w ok α (esets e (ps.zip vs) t) (((ps.zip xs).foldl (fun t (p : Nat × Value) => t.setIfInBounds p.1 p.2) tm).getD t undef)) ∧ n ≤ ((ps.zip xs).foldl (fun t (p : Nat × Value) => t.setIfInBounds p.1 p.2) tm).size
  | [], vs, xs, e, tm, hl, hx, hp, hn, hv, he => by simp [esets]; exact ⟨by simpa using he, hn⟩
  | p :: ps, [], xs, e, tm, hl, hx, hp, hn, hv, he => by simp at hl
  | p :: ps, v :: vs, [], e, tm, hl, hx, hp, hn, hv, he => by simp at hx
  | p :: ps, v :: vs, x :: xs, e, tm, hl, hx, hp, hn, hv, he => by
    simp only [List.zip_cons_cons, esets, List.foldl_cons]
    refine esets_val (by simpa using hl) (by simpa using hx) (fun p hp' => hp p (List.mem_cons_of_mem _ hp')) (by simpa using hn) (fun j a u ha hu => hv (j + 1) a u (by simpa using ha) (by simpa using hu)) fun t => ?_
    have hk : p < tm.size := Nat.lt_of_lt_of_le (hp p List.mem_cons_self) hn
    by_cases e1 : t = p
    · subst e1
      simp only [eset, if_true]
      rw [Array.getD_eq_getD_getElem?, Array.getElem?_setIfInBounds_self_of_lt hk]
      exact hv 0 v x rfl rfl
    · simp only [eset]
      rw [if_neg e1, Array.getD_eq_getD_getElem?, Array.getElem?_setIfInBounds_ne (Ne.symm e1), ← Array.getD_eq_getD_getElem?]
      exact he t

theorem kept_ext {w w' : World} {α : Al} (k : Kept w w') : Ext w α w' α := 
  ⟨k.os, k.tape, k.output, k.size, fun b hb => ⟨⟨Nat.lt_of_lt_of_le hb.1 k.size, hb.2⟩, k.heap b hb.1⟩, Later.refl α, rfl⟩

section
variable {P : Program} {base nt : Nat} {H : Hand} {I : Inl} {T : Its} {q N : Nat}

theorem rng_okR (hH : HandOk P H) (hI : InlOk P I) (hT : ItsOk P T) {g : Operand} {ps : Array Tmp} {ca cb : Code} {xa xb : CC} {s s' : St} {x : CEx} {a : Act} {w : World} {α : Al} {ds : List Deferred} {Q : Exit → Act → World → Prop}
    (h1 : comp P nt ca = some xa) (h2 : comp P nt cb = some xb) (c1 : xa.calm = true) (c2 : xb.calm = true) (hps : ∀ p ∈ ps.toList, p < nt)
    (hr : runR T H I N q (.rng g ps.toList xa xb) s = some (x, s')) (inv : InvD ds nt base s a w α) {n0 : Nat} (hn0 : n0 ≤ w.heap.size) (hm : Marks n0 ds w α)
    (hQ : ∀ ds' a' w' α', InvD ds' nt base s' a' w' α' → Marks n0 ds' w' α' → Ext w α w' α' → Q (exOf x) a' w') :
    (Code.rangeFunc g ps ca cb).wpIn (FR none) 0 P Q a w := by
  simp only [runR] at hr
  obtain ⟨vss, hvss, hr⟩ := Option.bind_eq_some_iff.1 hr
  obtain ⟨⟨x', h'⟩, hr, he⟩ := Option.map_eq_some_iff.1 hr
  cases he
  have hg := eval_ok (w := w) (ok := okA w α) (α := α) (a := a) (e := s.1) inv.val g
  unfold itsA at hvss
  split at hvss
  case h_2 => cases hvss
  rename_i gf caps hfn
  split at hvss
  case isFalse => cases hvss
  rename_i hlow
  obtain ⟨hen, hit⟩ := hT _ _ _ hvss
  rw [hfn] at hg
  generalize hga : a.eval g = ug at hg
  cases hg with
  | low _ _ h => cases h
  | fn _ _ _ us0 lb k1 k2 k3 k4 =>
  have hus0 : us0 = [] := List.eq_nil_of_length_eq_zero k1
  subst hus0
  refine wpIn_rangeFunc ?_
  intro fn hfn'
  obtain ⟨rec, hrec⟩ : ∃ rec : LoopState → Option Code → Loop, rec = fun st pe => { state := st, pending := pe, fn, tmps := a.tmps, params := ps, assign := ca, body := cb, defers := w.heap.size } := ⟨_, rfl⟩
  obtain ⟨W1, hW1⟩ : ∃ W1, (w.alloc (.deferred (some []))).alloc (.loop (rec .ready none)) = W1 := ⟨_, rfl⟩
  have hL1 : W1.heap[w.heap.size + 1]? = some (.loop (rec .ready none)) := by
    rw [← hW1]; have := World.alloc_heap_new (w.alloc (.deferred (some []))) (.loop (rec .ready none)); rwa [World.size_alloc] at this
  have hK1 : W1.heap[w.heap.size]? = some (.deferred (some [])) := by
    rw [← hW1]; exact (Below.heap_alloc _ _ _ (by simp)).trans (World.alloc_heap_new w _)
  have hkept : Kept w W1 := by
    rw [← hW1]
    exact ⟨rfl, rfl, rfl, by simp; omega, fun b hb => (Below.heap_alloc _ _ _ (by simp; omega)).trans (Below.heap_alloc _ _ _ hb)⟩
  obtain ⟨rel1, ext1⟩ := inv.rel.grow hkept
  have hsz1 : W1.heap.size = w.heap.size + 2 := by rw [← hW1]; simp
  have hfree : ∀ b, w.heap.size ≤ b → b < W1.heap.size → free W1 α b := fun b hb1 hb2 => ⟨hb2, fun n ae o r ha hb => absurd (inv.rel.base n ae b o r ha hb).2 (by omega)⟩
  refine ⟨w.heap.size + 1, [mark w.heap.size], W1, { target := .fn (.func gf) lb.toArray, args := #[.func (.yield (w.heap.size + 1)) #[] #[]] }, W1, gf,
    #[.func (.yield (w.heap.size + 1)) #[] #[]] ++ lb.toArray, W1, ?_, ?_, fun _ _ => trivial, ?_, fun hd => by simp [Fence.wide] at hd, ?_⟩
  · rw [← hW1, hrec]; exact run_enterLoop_outer _ _ _ _ _
  · simp only [resolve, hga]
    simp [go_sem]
  · simp [invoke, go_sem, hen _ _]
  -- the rounds
  refine CallsIn.mono (hit (w.heap.size + 1) W1 (okA w α) lb (fun b hb => by have := hb.1.1; omega) k2 (fun i a' u ha hu => (V0.of_low (k4 i a' u ha hu) (List.all_eq_true.1 hlow a' (List.mem_of_getElem? ha))).mono (fun b hb => ⟨hb, hkept.heap b hb.1.1⟩))
    (fun i B W => ∃ hi α', rounds H I N q ps.toList xa xb s.1 (vss.drop i) hi = some (x', h') ∧ Rel base hi W α' ∧ Ext w α W α' ∧ W.heap[w.heap.size + 1]? = some (.loop (rec .ready none)) ∧ free W α' (w.heap.size + 1) ∧ W.heap[w.heap.size]? = some (.deferred (some [])) ∧ free W α' w.heap.size ∧ W1.heap.size ≤ W.heap.size ∧ ∀ b, B b → W1.heap.size ≤ b ∧ free W α' b)
    (fun W => ∃ α' c, (x' ≠ .norm ∧ (match x' with | .ret => c = Code.ret | .exit i => c = Code.exit i | .norm => True)) ∧ Rel base h' W α' ∧ Ext w α W α' ∧ W.heap[w.heap.size + 1]? = some (.loop (rec .done (some c))) ∧ free W α' (w.heap.size + 1) ∧ W.heap[w.heap.size]? = some (.deferred (some [])) ∧ free W α' w.heap.size)
    ?_ ?_ ?_ ?_ ?_) ?_
  · rintro i B W W' ⟨hi, α', j1, j2, j3, j4, j5, j6, j7, j9, j8⟩ k
    obtain ⟨r', e'⟩ := j2.grow k
    refine ⟨hi, α', j1, r', j3.trans e', (k.heap _ j5.1).trans j4, (e'.keepF _ j5).1, (k.heap _ j7.1).trans j6, (e'.keepF _ j7).1, Nat.le_trans j9 k.size, fun b hb => ?_⟩
    rcases hb with hb | hb
    · exact ⟨(j8 b hb).1, (e'.keepF _ (j8 b hb).2).1⟩
    · exact ⟨Nat.le_trans j9 hb.1, hb.2, fun n ae o r ha hab => absurd (j2.base n ae b o r ha hab).2 (by omega)⟩
  · rintro W W' ⟨α', c, j1, j2, j3, j4, j5, j6, j7⟩ k
    obtain ⟨r', e'⟩ := j2.grow k
    exact ⟨α', c, j1, r', j3.trans e', (k.heap _ j5.1).trans j4, (e'.keepF _ j5).1, (k.heap _ j7.1).trans j6, (e'.keepF _ j7).1⟩
  · rintro i B W ⟨hi, α', j1, j2, j3, _, _, _, _, _, j8⟩ b hb
    rcases hb with hb | hb
    · exact (j3.keep b hb).1.1.1
    · exact (j8 b hb).2.1
  · -- one round
    rintro i B vs W xs ⟨hi, α', j1, j2, j3, j4, j5, j6, j7, j9, j8⟩ hvs hxs hval
    have hbig : ∀ b, B b → okA W α' b := fun b hb => ⟨⟨(j8 b hb).2.1, j2.grant b (by have := inv.base; have := (j8 b hb).1; omega)⟩, (j8 b hb).2.2⟩
    have hdrop : vss.drop i = vs :: vss.drop (i + 1) := by
      obtain ⟨hlt, rfl⟩ := List.getElem?_eq_some_iff.1 hvs
      exact List.drop_eq_getElem_cons hlt
    rw [hdrop] at j1
    simp only [rounds] at j1
    split at j1
    case isFalse => cases j1
    rename_i hlen
    obtain ⟨⟨y1, s1⟩, m1, j1⟩ := Option.bind_eq_some_iff.1 j1
    cases y1 with
    | exit id => cases j1
    | ret => cases j1
    | norm =>
    obtain ⟨⟨y2, s2⟩, m2, j1⟩ := Option.bind_eq_some_iff.1 j1
    have hlt : w.heap.size + 1 < W.heap.size := j5.1
    have hy := run_yield (P := P) (args := xs.toArray) j4 (by rw [hrec]; simp only [List.size_toArray]; rw [hxs, hlen]; simp)
    rw [hrec] at hy
    refine ⟨fn, _, ca, cb, hy, roundIn_of_wpIn trivial ?_⟩
    have hval' : ∀ t, V W (okA W α') α' (s.1 t) (a.tmps.getD t undef) := fun t => (inv.val t).ext j3
    have hes := esets_val (ps := ps.toList) (vs := vs) (xs := xs) (n := nt) hlen hxs hps inv.size
      (fun j a' u ha hu => (hval j a' u ha hu).mono (fun b hb => ⟨hb.elim (fun hb => (j3.keep b hb).1) (hbig b), rfl⟩) (Later.emp α')) hval'
    have hfold : (ps.zip xs.toArray).foldl (fun tmps (t, a) => tmps.setIfInBounds t a) a.tmps = (ps.toList.zip xs).foldl (fun t (p : Nat × Value) => t.setIfInBounds p.1 p.2) a.tmps := by
      rw [← Array.foldl_toList, Array.toList_zip]
    have inv1 : InvD [] nt base (esets s.1 (ps.toList.zip vs), hi) { tmps := (ps.zip xs.toArray).foldl (fun tmps (t, a) => tmps.setIfInBounds t a) a.tmps, defers := [] } W α' := by
      rw [hfold]
      exact ⟨j2, Nat.le_trans inv.base j3.size, hes.1, hes.2, rfl⟩
    refine run_okR (ro := some (w.heap.size + 1)) hH hI ca xa _ s1 .norm _ W α' _ h1 c1 m1 inv1 fun a1 w1 α1 inv2 e2 => ?_
    have q4 : w1.heap[w.heap.size + 1]? = some (.loop (rec .ready none)) := (e2.keepF _ j5).2.trans j4
    have q5 := (e2.keepF _ j5).1
    have q6 : w1.heap[w.heap.size]? = some (.deferred (some [])) := (e2.keepF _ j7).2.trans j6
    have q7 := (e2.keepF _ j7).1
    refine ⟨_, run_beginRound q4 (by rw [hrec]), ?_⟩
    have inv3 : InvD [] nt base s1 a1 (w1.putObj (w.heap.size + 1) (.loop { rec .ready none with state := .busy })) α1 :=
      ⟨inv2.rel.book q5 q4 rfl, by rw [World.putObj_size]; exact inv2.base, fun t => (inv2.val t).book q4 rfl, inv2.size, inv2.defers⟩
    refine run_okR (ro := some (w.heap.size + 1)) hH hI cb xb s1 s2 y2 a1 _ α1 _ h2 c2 m2 inv3 fun a2 w2 α2 inv4 e4 => ?_
    have p4 : w2.heap[w.heap.size + 1]? = some (.loop { rec .ready none with state := .busy }) := (e4.keepF _ (free_putObj q5)).2.trans (World.putObj_heap_same q5.1)
    have p5 := (e4.keepF _ (free_putObj (l := w.heap.size + 1) (o' := .loop { rec .ready none with state := .busy }) q5)).1
    have p6 : w2.heap[w.heap.size]? = some (.deferred (some [])) := (e4.keepF _ (free_putObj q7)).2.trans ((World.putObj_heap_other (by omega)).trans q6)
    have p7 := (e4.keepF _ (free_putObj (l := w.heap.size + 1) (o' := .loop { rec .ready none with state := .busy }) q7)).1
    have ext4 : Ext w α w2 α2 := ((j3.trans e2).book (by omega)).trans e4
    have fin : ∀ (jump : Option Code), (Instr.endRound (w.heap.size + 1) jump).run P w2 = .ok (.bool jump.isNone) (w2.putObj (w.heap.size + 1) (.loop (rec (if jump.isNone then .ready else .done) jump))) ∧
        Rel base s2.2 (w2.putObj (w.heap.size + 1) (.loop (rec (if jump.isNone then .ready else .done) jump))) α2 ∧ Ext w α (w2.putObj (w.heap.size + 1) (.loop (rec (if jump.isNone then .ready else .done) jump))) α2 ∧
        (w2.putObj (w.heap.size + 1) (.loop (rec (if jump.isNone then .ready else .done) jump))).heap[w.heap.size + 1]? = some (.loop (rec (if jump.isNone then .ready else .done) jump)) ∧
        (w2.putObj (w.heap.size + 1) (.loop (rec (if jump.isNone then .ready else .done) jump))).heap[w.heap.size]? = some (.deferred (some [])) := fun jump => by
      have := run_endRound (P := P) jump p4
      rw [hrec] at this ⊢
      exact ⟨this, inv4.rel.book p5 p4 rfl, ext4.book (by omega), World.putObj_heap_same p5.1, (World.putObj_heap_other (by omega)).trans p6⟩
    have stay : ∀ (o' : Obj) (b : Nat), okA w α b ∨ B b → b < (w2.putObj (w.heap.size + 1) o').heap.size ∧ (w2.putObj (w.heap.size + 1) o').heap[b]? = W.heap[b]? := fun o' b hb => by
      have hne : b ≠ w.heap.size + 1 := by
        rcases hb with hb | hb
        · have := hb.1.1; omega
        · have := (j8 b hb).1; omega
      have hokA : okA W α' b := hb.elim (fun hb => (j3.keep b hb).1) (hbig b)
      obtain ⟨g1, g2⟩ := e2.keep b hokA
      obtain ⟨g3, g4⟩ := e4.keep b (okA_putObj g1)
      exact ⟨by rw [World.putObj_size]; exact g3.1.1, by rw [World.putObj_heap_other hne, g4, World.putObj_heap_other hne, g2]⟩
    have move : ∀ (o' : Obj) (b : Nat), B b → free (w2.putObj (w.heap.size + 1) o') α2 b := fun o' b hb => free_putObj (e4.keepF _ (free_putObj (e2.keepF _ (j8 b hb).2).1)).1
    cases y2 with
    | norm =>
      obtain ⟨f1, f2, f3, f4, f5⟩ := fin none
      exact ⟨_, _, f1, stay _, .inl ⟨rfl, s2.2, α2, j1, f2, f3, f4, free_putObj p5, f5, free_putObj p7, by rw [World.putObj_size]; exact Nat.le_trans j9 (Nat.le_trans e2.size (by have := e4.size; rwa [World.putObj_size] at this)), fun b hb => ⟨(j8 b hb).1, move _ b hb⟩⟩⟩
    | ret =>
      cases j1
      obtain ⟨f1, f2, f3, f4, f5⟩ := fin (some .ret)
      exact ⟨_, _, f1, stay _, .inr ⟨rfl, α2, .ret, ⟨by simp, rfl⟩, f2, f3, f4, free_putObj p5, f5, free_putObj p7⟩⟩
    | exit id =>
      cases j1
      obtain ⟨f1, f2, f3, f4, f5⟩ := fin (some (.exit id))
      exact ⟨_, _, f1, stay _, .inr ⟨rfl, α2, .exit id, ⟨by simp, rfl⟩, f2, f3, f4, free_putObj p5, f5, free_putObj p7⟩⟩
  · exact ⟨s.2, α, by simpa using hr, rel1, ext1, hL1, hfree _ (by omega) (by omega), hK1, hfree _ (by omega) (by omega), Nat.le_refl _, fun b hb => hb.elim⟩
  · -- behind the iterator
    have last : ∀ (W : World) (α' : Al) (st : LoopState) (pe : Option Code) (hd : Hp), Rel base hd W α' → Ext w α W α' → W.heap[w.heap.size + 1]? = some (.loop (rec st pe)) → free W α' (w.heap.size + 1) → W.heap[w.heap.size]? = some (.deferred (some [])) → free W α' w.heap.size →
        InvD (mark w.heap.size :: ds) nt base (s.1, hd) { a with defers := [mark w.heap.size] ++ a.defers } (W.putObj (w.heap.size + 1) (.loop { rec st pe with state := .exhausted })) α' ∧
        Marks n0 (mark w.heap.size :: ds) (W.putObj (w.heap.size + 1) (.loop { rec st pe with state := .exhausted })) α' ∧ Ext w α (W.putObj (w.heap.size + 1) (.loop { rec st pe with state := .exhausted })) α' := by
      intro W α' st pe hd r1 e1 g1 g2 g3 g4
      have ext' := e1.book (l := w.heap.size + 1) (o' := .loop { rec st pe with state := .exhausted }) (by omega)
      refine ⟨⟨r1.book g2 g1 rfl, by rw [World.putObj_size]; exact Nat.le_trans inv.base e1.size, fun t => ((inv.val t).ext e1).book g1 rfl, inv.size, by rw [inv.defers]; rfl⟩, ?_, ext'⟩
      obtain ⟨Ds, n1, n2, n3⟩ := hm.ext ext'
      obtain ⟨Ds', n1', n2', n3'⟩ := hm
      refine ⟨w.heap.size :: Ds', List.nodup_cons.2 ⟨fun hmem => absurd (n3' _ hmem).2.1 (by omega), n1'⟩, by rw [n2']; rfl, fun D hD => ?_⟩
      rcases List.mem_cons.1 hD with rfl | hD
      · exact ⟨⟨hn0, (World.putObj_heap_other (by omega)).trans g3⟩, free_putObj g4⟩
      · have f1 := (n3' D hD).2
        exact ⟨⟨(n3' D hD).1.1, (ext'.keepF D f1).2.trans (n3' D hD).1.2⟩, (ext'.keepF D f1).1⟩
    rintro e W2 ⟨⟨v, rfl⟩, (⟨B, hi, α', j1, j2, j3, j4, j5, j6, j7, _, _⟩ | ⟨α', c, j1, j2, j3, j4, j5, j6, j7⟩)⟩
    · rw [List.drop_length] at j1
      cases j1
      obtain ⟨i1, i2, i3⟩ := last W2 α' _ _ _ j2 j3 j4 j5 j6 j7
      exact ⟨none, _, (run_endLoop (P := P) j4 (by rw [hrec]; simp)).trans (congrArg (fun o => Result.ok o _) (by rw [hrec])), hQ _ _ _ _ i1 i2 i3⟩
    · obtain ⟨hne, hcx⟩ := j1
      cases x' with
      | norm => exact absurd rfl hne
      | ret =>
        simp only at hcx
        subst hcx
        obtain ⟨i1, i2, i3⟩ := last W2 α' _ _ _ j2 j3 j4 j5 j6 j7
        exact ⟨some .ret, _, (run_endLoop (P := P) j4 (by rw [hrec]; simp)).trans (congrArg (fun o => Result.ok o _) (by rw [hrec])), wpIn_ret (hQ _ _ _ _ i1 i2 i3)⟩
      | exit id =>
        simp only at hcx
        subst hcx
        obtain ⟨i1, i2, i3⟩ := last W2 α' _ _ _ j2 j3 j4 j5 j6 j7
        exact ⟨some (.exit id), _, (run_endLoop (P := P) j4 (by rw [hrec]; simp)).trans (congrArg (fun o => Result.ok o _) (by rw [hrec])), wpIn_exit (hQ _ _ _ _ i1 i2 i3)⟩
end
end Go.Proofs.Ytihljollfbogeaa
