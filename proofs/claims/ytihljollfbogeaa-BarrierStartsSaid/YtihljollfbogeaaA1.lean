/- What an abstract value says of a value of the machine, in a world; what is kept when the world grows. No condition. -/
import Derived.Test.YtihljollfbogeaaA0
namespace Go.Proofs.Ytihljollfbogeaa
open Go Go.RowKit

/-- Where a block of our own lies: its version, the cells of an element, how many elements; the block, the first cell, for how many elements there is room (none: nowhere, it is empty). -/
structure AE where
  ver : Nat
  sz : Nat
  len : Nat
  blk : Option (Nat × Nat × Nat)
/-- Our own blocks by their names, and which blocks we may know of at all. -/
structure Al where
  f : Nat → Option AE
  G : Nat → Prop
instance : CoeFun Al (fun _ => Nat → Option AE) := ⟨Al.f⟩

/-- One cell, without memory of ours. -/
inductive V0 (w : World) (ok : Nat → Prop) : AV → Value → Prop
  | sc (v : Value) (h : v.oneCell' = true) : V0 w ok (.sc v) v
  | nl (A : Option Addr) : V0 w ok .nl (.slice A 0 0)
  | imm (xs : List AV) (A : Option Addr) (cap sz b o : Nat) (U : Nat → Nat → Value) (hcap : xs.length ≤ cap)
      (h : ∀ (j : Nat) (el : AV), xs[j]? = some el → el.cells.length = sz ∧ A = some ⟨b, o, none⟩ ∧ ok b)
      (hc : ∀ (j : Nat) (el : AV) (c : Nat) (a : AV), xs[j]? = some el → el.cells[c]? = some a → w.cell? ⟨b, o + (j * sz + c), none⟩ = some (U j c))
      (hv : ∀ (j : Nat) (el : AV) (c : Nat) (a : AV), xs[j]? = some el → el.cells[c]? = some a → V0 w ok a (U j c)) :
      V0 w ok (.imm xs) (.slice A xs.length cap)
  | full (xs : List AV) (A : Option Addr) (sz b o : Nat) (U : Nat → Nat → Value)
      (h : ∀ (j : Nat) (el : AV), xs[j]? = some el → el.cells.length = sz ∧ A = some ⟨b, o, none⟩ ∧ ok b)
      (hc : ∀ (j : Nat) (el : AV) (c : Nat) (a : AV), xs[j]? = some el → el.cells[c]? = some a → w.cell? ⟨b, o + (j * sz + c), none⟩ = some (U j c))
      (hv : ∀ (j : Nat) (el : AV) (c : Nat) (a : AV), xs[j]? = some el → el.cells[c]? = some a → V0 w ok a (U j c)) :
      V0 w ok (.full xs) (.slice A xs.length xs.length)
  | ipt (cs : List AV) (c b o : Nat) (U : Nat → Value) (hok : ok b) (hc : ∀ (i : Nat) (a : AV), cs[i]? = some a → w.cell? ⟨b, o + i, none⟩ = some (U i))
      (hv : ∀ (i : Nat) (a : AV), cs[i]? = some a → V0 w ok a (U i)) :
      V0 w ok (.ipt cs c) (.pointer (some ⟨b, o + c, none⟩))

/-- One cell. -/
inductive V1 (w : World) (ok : Nat → Prop) (α : Al) : AV → Value → Prop
  | low (a : AV) (u : Value) (h : V0 w ok a u) : V1 w ok α a u
  | ref (n ver i len : Nat) (A : Option Addr) (cap : Nat) (ae : AE) (hl : len ≤ cap) (ha : α n = some ae) (hv : ver ≤ ae.ver)
      (h : ver = ae.ver → i + len ≤ ae.len ∧ ae.len ≤ i + cap ∧ match ae.blk with
        | some (b, off, room) => i + cap ≤ room ∧ (0 < cap → A = some ⟨b, off + i * ae.sz, none⟩)
        | none => cap = 0) :
      V1 w ok α (.ref n ver i len) (.slice A len cap)
  | ptr (n ver e c : Nat) (a : Addr) (ae : AE) (ha : α n = some ae) (hv : ver ≤ ae.ver)
      (h : ver = ae.ver → ∃ b off room, ae.blk = some (b, off, room) ∧ a = ⟨b, off + e * ae.sz + c, none⟩) :
      V1 w ok α (.ptr n ver e c) (.pointer (some a))
  | mp (n ver b : Nat) (ae : AE) (ha : α n = some ae) (hv : ver ≤ ae.ver) (h : ver = ae.ver → ∃ off room, ae.blk = some (b, off, room)) :
      V1 w ok α (.mp n ver) (.map (some b))
  | fn (f : FuncId) (first caps : List AV) (us vs : List Value) (h1 : us.length = first.length) (h2 : vs.length = caps.length)
      (hf : ∀ (i : Nat) (a : AV) (u : Value), first[i]? = some a → us[i]? = some u → V1 w ok α a u) (hc : ∀ (i : Nat) (a : AV) (u : Value), caps[i]? = some a → vs[i]? = some u → V1 w ok α a u) :
      V1 w ok α (.fn f first caps) (.func (.func f) us.toArray vs.toArray)
  | junk (u : Value) : V1 w ok α .junk u

/-- Cells. -/
def VC (w : World) (ok : Nat → Prop) (α : Al) (cs : List AV) (us : List Value) : Prop :=
  us.length = cs.length ∧ ∀ (i : Nat) (a : AV) (u : Value), cs[i]? = some a → us[i]? = some u → V1 w ok α a u ∧ u.oneCell' = true

/-- A value of one cell, or a struct or array. -/
def VA (w : World) (ok : Nat → Prop) (α : Al) : AV → Value → Prop
  | .agg cs, u => ∃ us, u = .agg us ∧ VC w ok α cs us.toList
  | a, u => V1 w ok α a u

/-- Any value. -/
def V (w : World) (ok : Nat → Prop) (α : Al) : AV → Value → Prop
  | .tup vs, u => ∃ us : List Value, u = .tuple us.toArray ∧ us.length = vs.length ∧ ∀ (i : Nat) (a : AV) (x : Value), vs[i]? = some a → us[i]? = some x → VA w ok α a x
  | a, u => VA w ok α a u

theorem V.of_VA {w : World} {ok : Nat → Prop} {α : Al} {a : AV} {u : Value} (h : VA w ok α a u) (ht : ∀ vs, a ≠ .tup vs) : V w ok α a u := by
  cases a <;> first | exact h | exact absurd rfl (ht _)
theorem V.of_V1 {w : World} {ok : Nat → Prop} {α : Al} {a : AV} {u : Value} (h : V1 w ok α a u) : V w ok α a u := by
  cases a with
  | agg cs => cases h with | low _ _ h => cases h
  | tup cs => cases h with | low _ _ h => cases h
  | _ => exact h
theorem VA.of_V1 {w : World} {ok : Nat → Prop} {α : Al} {a : AV} {u : Value} (h : V1 w ok α a u) : VA w ok α a u := by
  cases a with
  | agg cs => cases h with | low _ _ h => cases h
  | _ => exact h
theorem V.sc {w : World} {ok : Nat → Prop} {α : Al} {v : Value} (h : v.oneCell' = true) : V w ok α (.sc v) v := V.of_V1 (.low _ _ (.sc v h))
theorem V.junk {w : World} {ok : Nat → Prop} {α : Al} {u : Value} : V w ok α .junk u := V.of_V1 (.junk u)
/-- A scalar is itself. -/
theorem V1.sc_eq {w : World} {ok : Nat → Prop} {α : Al} {v u : Value} (h : V1 w ok α (.sc v) u) : u = v := by cases h with | low _ _ h => cases h; rfl
theorem V.sc_eq {w : World} {ok : Nat → Prop} {α : Al} {v u : Value} (h : V w ok α (.sc v) u) : u = v := V1.sc_eq h
theorem V1.sc_one {w : World} {ok : Nat → Prop} {α : Al} {v u : Value} (h : V1 w ok α (.sc v) u) : v.oneCell' = true := by cases h with | low _ _ h => cases h; assumption

theorem V0.one {w : World} {ok : Nat → Prop} {a : AV} {u : Value} (h : V0 w ok a u) : u.oneCell' = true := by
  cases h <;> first | assumption | rfl
theorem V1.one {w : World} {ok : Nat → Prop} {α : Al} {a : AV} {u : Value} (h : V1 w ok α a u) (h1 : a.one = true) : u.oneCell' = true := by
  cases h <;> first | (rename_i h; exact h.one) | rfl | (simp [AV.one] at h1)

/-- The cells of a value, abstract and not, fit. -/
theorem VA.cells {w : World} {ok : Nat → Prop} {α : Al} {a : AV} {u : Value} (h : VA w ok α a u) (hs : a.storable = true) : VC w ok α a.cells u.cells.toList := by
  have key : ∀ (b : AV), V1 w ok α b u → b.one = true → VC w ok α [b] u.cells.toList := by
    intro b hb h1
    have := hb.one h1
    have hu : u.cells = #[u] := by cases u <;> first | rfl | (simp [Value.oneCell'] at this)
    rw [hu]
    refine ⟨rfl, fun i a x ha hx => ?_⟩
    match i, ha, hx with
    | 0, ha, hx => simp at ha hx; subst ha; subst hx; exact ⟨hb, this⟩
  cases a with
  | agg cs => obtain ⟨us, rfl, h⟩ := h; exact h
  | tup vs => simp [AV.storable, AV.cells, AV.one] at hs
  | _ => exact key _ h (by simpa [AV.storable, AV.cells] using hs)
theorem V.cells {w : World} {ok : Nat → Prop} {α : Al} {a : AV} {u : Value} (h : V w ok α a u) (hs : a.storable = true) : VC w ok α a.cells u.cells.toList := by
  cases a with
  | tup vs => simp [AV.storable, AV.cells, AV.one] at hs
  | _ => exact VA.cells h hs

/-! ### The world grows -/
theorem V0.mono {w w' : World} {ok ok' : Nat → Prop} {a : AV} {u : Value} (h : V0 w ok a u) (hb : ∀ b, ok b → ok' b ∧ w'.heap[b]? = w.heap[b]?) : V0 w' ok' a u := by
  have hc : ∀ b o, ok b → w'.cell? ⟨b, o, none⟩ = w.cell? ⟨b, o, none⟩ := fun b o hb' => by unfold World.cell?; rw [(hb b hb').2]
  induction h with
  | sc v h => exact .sc v h
  | nl A => exact .nl A
  | imm xs A cap sz b o U hcap h hcell _ ih =>
    exact .imm xs A cap sz b o U hcap (fun j el he => ⟨(h j el he).1, (h j el he).2.1, (hb b (h j el he).2.2).1⟩)
      (fun j el c a he ha => (hc _ _ (h j el he).2.2).trans (hcell j el c a he ha)) ih
  | full xs A sz b o U h hcell _ ih =>
    exact .full xs A sz b o U (fun j el he => ⟨(h j el he).1, (h j el he).2.1, (hb b (h j el he).2.2).1⟩)
      (fun j el c a he ha => (hc _ _ (h j el he).2.2).trans (hcell j el c a he ha)) ih
  | ipt cs c b o U hok hcell _ ih =>
    exact .ipt cs c b o U (hb b hok).1 (fun i a ha => (hc _ _ hok).trans (hcell i a ha)) ih

/-- What is old is kept, in our own bookkeeping. -/
def Later (α α' : Al) : Prop := ∀ n ae, α n = some ae → ∃ ae', α' n = some ae' ∧ ae.ver ≤ ae'.ver ∧ (ae'.ver = ae.ver → ae' = ae)
theorem Later.refl (α : Al) : Later α α := fun _ ae h => ⟨ae, h, Nat.le_refl _, fun _ => rfl⟩
theorem Later.trans {α β γ : Al} (h : Later α β) (k : Later β γ) : Later α γ := fun n ae ha => by
  obtain ⟨b, hb, h1, h2⟩ := h n ae ha
  obtain ⟨c, hc, k1, k2⟩ := k n b hb
  refine ⟨c, hc, Nat.le_trans h1 k1, fun e => ?_⟩
  have e1 : b.ver = ae.ver := by omega
  rw [k2 (by omega), h2 e1]

theorem V1.mono {w w' : World} {ok ok' : Nat → Prop} {α α' : Al} {a : AV} {u : Value} (h : V1 w ok α a u) (hb : ∀ b, ok b → ok' b ∧ w'.heap[b]? = w.heap[b]?) (hl : Later α α') : V1 w' ok' α' a u := by
  induction h with
  | low a u h => exact .low a u (h.mono hb)
  | ref n ver i len A cap ae hle ha hv h =>
    obtain ⟨ae', ha', h1, h2⟩ := hl n ae ha
    refine .ref n ver i len A cap ae' hle ha' (by omega) fun e => ?_
    have e1 : ae'.ver = ae.ver := by omega
    rw [h2 e1]
    exact h (by omega)
  | ptr n ver e c a ae ha hv h =>
    obtain ⟨ae', ha', h1, h2⟩ := hl n ae ha
    refine .ptr n ver e c a ae' ha' (by omega) fun e => ?_
    have e1 : ae'.ver = ae.ver := by omega
    rw [h2 e1]
    exact h (by omega)
  | mp n ver b ae ha hv h =>
    obtain ⟨ae', ha', h1, h2⟩ := hl n ae ha
    refine .mp n ver b ae' ha' (by omega) fun e => ?_
    have e1 : ae'.ver = ae.ver := by omega
    rw [h2 e1]
    exact h (by omega)
  | fn f first caps us vs h1 h2 _ _ ih1 ih2 => exact .fn f first caps us vs h1 h2 ih1 ih2
  | junk u => exact .junk u

theorem VC.mono {w w' : World} {ok ok' : Nat → Prop} {α α' : Al} {cs : List AV} {us : List Value} (h : VC w ok α cs us) (hb : ∀ b, ok b → ok' b ∧ w'.heap[b]? = w.heap[b]?) (hl : Later α α') : VC w' ok' α' cs us :=
  ⟨h.1, fun i a u ha hu => ⟨(h.2 i a u ha hu).1.mono hb hl, (h.2 i a u ha hu).2⟩⟩
theorem VA.mono {w w' : World} {ok ok' : Nat → Prop} {α α' : Al} {a : AV} {u : Value} (h : VA w ok α a u) (hb : ∀ b, ok b → ok' b ∧ w'.heap[b]? = w.heap[b]?) (hl : Later α α') : VA w' ok' α' a u := by
  cases a with
  | agg cs => obtain ⟨us, rfl, h⟩ := h; exact ⟨us, rfl, h.mono hb hl⟩
  | _ => exact V1.mono h hb hl
theorem V.mono {w w' : World} {ok ok' : Nat → Prop} {α α' : Al} {a : AV} {u : Value} (h : V w ok α a u) (hb : ∀ b, ok b → ok' b ∧ w'.heap[b]? = w.heap[b]?) (hl : Later α α') : V w' ok' α' a u := by
  cases a with
  | tup vs =>
    obtain ⟨us, rfl, hn, h⟩ := h
    exact ⟨us, rfl, hn, fun i a x ha hx => (h i a x ha hx).mono hb hl⟩
  | _ => exact V.of_VA (VA.mono (ok := ok) (α := α) (show VA w ok α _ u from h) hb hl) (by intro vs e; cases e)

/-! ### The heap of ours -/
/-- Block b is not ours, and it is there. -/
def okA (w : World) (α : Al) (b : Nat) : Prop := (b < w.heap.size ∧ α.G b) ∧ ∀ n ae o r, α n = some ae → ae.blk ≠ some (b, o, r)

/-- What lies at a block of ours. -/
def At (w : World) (ok : Nat → Prop) (α : Al) (ae : AE) : Blk → Prop
  | .dead => ae.blk = none
  | .row sz els => ae.sz = sz ∧ ae.len = els.length ∧ match ae.blk with
    | none => els = []
    | some (b, off, room) => els.length ≤ room ∧ ∃ cs t, w.heap[b]? = some (.cells cs t (0, 0)) ∧ off + room * sz ≤ cs.size ∧
        ∀ (e : Nat) (el : AV), els[e]? = some el → el.cells.length = sz ∧ ∀ (c : Nat) (a : AV), el.cells[c]? = some a → a.one = true ∧ ∃ x, cs[off + e * sz + c]? = some x ∧ V1 w ok α a x
  | .map es => ∃ (b o r : Nat) (ms : Array MapEntry) (clock : Nat), ae.blk = some (b, o, r) ∧ w.heap[b]? = some (.map ms clock) ∧ ms.size = es.length ∧
      ∀ (i : Nat) (e : Int × AV), es[i]? = some e → e.2.one = true ∧ ∃ m, ms[i]? = some m ∧ m.key = .int .i64 e.1 ∧ V1 w ok α e.2 m.val

/-- Block b is there and not ours. -/
def free (w : World) (α : Al) (b : Nat) : Prop := b < w.heap.size ∧ ∀ n ae o r, α n = some ae → ae.blk ≠ some (b, o, r)
theorem okA_of_free {w w' : World} {α α' : Al} (hf : ∀ k, free w α k → free w' α' k ∧ w'.heap[k]? = w.heap[k]?) (hG : α'.G = α.G) : ∀ k, okA w α k → okA w' α' k ∧ w'.heap[k]? = w.heap[k]? := fun k hk =>
  let ⟨h1, h2⟩ := hf k ⟨hk.1.1, hk.2⟩
  ⟨⟨⟨h1.1, by rw [hG]; exact hk.1.2⟩, h1.2⟩, h2⟩

structure Rel (bs : Nat) (h : Hp) (w : World) (α : Al) : Prop where
  ver : ∀ n ae, α n = some ae → (h n).1 = ae.ver
  at_ : ∀ n ae, α n = some ae → At w (okA w α) α ae (h n).2
  inj : ∀ n m ae ae' b o r o' r', α n = some ae → α m = some ae' → ae.blk = some (b, o, r) → ae'.blk = some (b, o', r') → n = m
  base : ∀ n ae b o r, α n = some ae → ae.blk = some (b, o, r) → bs ≤ b ∧ b < w.heap.size
  grant : ∀ b, bs ≤ b → α.G b

/-- From one world of ours to a later one. -/
structure Ext (w : World) (α : Al) (w' : World) (α' : Al) : Prop where
  os : w'.os = w.os
  tape : w'.tape = w.tape
  output : w'.output = w.output
  size : w.heap.size ≤ w'.heap.size
  keepF : ∀ b, free w α b → free w' α' b ∧ w'.heap[b]? = w.heap[b]?
  later : Later α α'
  same : α'.G = α.G
theorem Ext.keep {w w' : World} {α α' : Al} (k : Ext w α w' α') : ∀ b, okA w α b → okA w' α' b ∧ w'.heap[b]? = w.heap[b]? := okA_of_free k.keepF k.same
theorem Ext.refl (w : World) (α : Al) : Ext w α w α := ⟨rfl, rfl, rfl, Nat.le_refl _, fun _ h => ⟨h, rfl⟩, Later.refl α, rfl⟩
theorem Ext.trans {w w' w'' : World} {α α' α'' : Al} (h : Ext w α w' α') (k : Ext w' α' w'' α'') : Ext w α w'' α'' :=
  ⟨k.os.trans h.os, k.tape.trans h.tape, k.output.trans h.output, Nat.le_trans h.size k.size,
   fun b hb => ⟨(k.keepF b (h.keepF b hb).1).1, (k.keepF b (h.keepF b hb).1).2.trans (h.keepF b hb).2⟩, h.later.trans k.later, k.same.trans h.same⟩
theorem V.ext {w w' : World} {α α' : Al} {a : AV} {u : Value} (h : V w (okA w α) α a u) (k : Ext w α w' α') : V w' (okA w' α') α' a u := h.mono k.keep k.later
theorem V1.ext {w w' : World} {α α' : Al} {a : AV} {u : Value} (h : V1 w (okA w α) α a u) (k : Ext w α w' α') : V1 w' (okA w' α') α' a u := h.mono k.keep k.later
theorem VC.ext {w w' : World} {α α' : Al} {a : List AV} {u : List Value} (h : VC w (okA w α) α a u) (k : Ext w α w' α') : VC w' (okA w' α') α' a u := h.mono k.keep k.later

theorem Ext.drew (w : World) (α : Al) : Ext w α w.drew α := ⟨rfl, rfl, rfl, Nat.le_refl _, fun _ h => ⟨h, rfl⟩, Later.refl α, rfl⟩
theorem okA_drew {w : World} {α : Al} : okA w.drew α = okA w α := rfl
theorem At.mono {w w' : World} {ok ok' : Nat → Prop} {α α' : Al} {ae : AE} {bl : Blk} (h : At w ok α ae bl) (hh : ∀ b o r, ae.blk = some (b, o, r) → w'.heap[b]? = w.heap[b]?)
    (hb : ∀ b, ok b → ok' b ∧ w'.heap[b]? = w.heap[b]?) (hl : Later α α') : At w' ok' α' ae bl := by
  cases bl with
  | dead => exact h
  | row sz els =>
    obtain ⟨h1, h2, h3⟩ := h
    refine ⟨h1, h2, ?_⟩
    cases hk : ae.blk with
    | none => rw [hk] at h3; exact h3
    | some x =>
      obtain ⟨b, off, room⟩ := x
      rw [hk] at h3
      obtain ⟨h4, cs, t, h5, h6, h7⟩ := h3
      refine ⟨h4, cs, t, (hh b off room hk).trans h5, h6, fun e el he => ?_⟩
      refine ⟨(h7 e el he).1, fun c a ha => ?_⟩
      obtain ⟨h8, x, h9, h10⟩ := (h7 e el he).2 c a ha
      exact ⟨h8, x, h9, h10.mono hb hl⟩
  | map es =>
    obtain ⟨b, o, r, ms, clock, h1, h2, h3, h4⟩ := h
    refine ⟨b, o, r, ms, clock, h1, (hh b o r h1).trans h2, h3, fun i e he => ?_⟩
    obtain ⟨h5, m, h6, h7, h8⟩ := h4 i e he
    exact ⟨h5, m, h6, h7, h8.mono hb hl⟩
theorem Rel.drew {base : Nat} {h : Hp} {w : World} {α : Al} (r : Rel base h w α) : Rel base h w.drew α :=
  ⟨r.ver, fun n ae hn => (r.at_ n ae hn).mono (fun _ _ _ _ => rfl) (fun _ h => ⟨h, rfl⟩) (Later.refl α), r.inj, r.base, r.grant⟩

theorem okA_not {w : World} {α : Al} {b : Nat} (h : okA w α b) {n : Nat} {ae : AE} (ha : α n = some ae) {b' o r : Nat} (hb : ae.blk = some (b', o, r)) : b ≠ b' := by
  intro e
  subst e
  exact h.2 n ae o r ha hb

end Go.Proofs.Ytihljollfbogeaa
