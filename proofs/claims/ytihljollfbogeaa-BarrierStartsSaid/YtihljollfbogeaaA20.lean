/- A drawn region's operations in any allowed order come to the same as in the order of the text. No condition. -/
import Derived.Test.YtihljollfbogeaaA19
namespace Go.Proofs.Ytihljollfbogeaa
open Go Go.RowKit

section
variable {H : Hand} {I : Inl} {q : Nat}

/-- What a step of a drawn region is, so that it is the same in another state that looks the same to it. -/
def StepIs (H : Hand) (I : Inl) (q : Nat) (i : CIns) (s : St) (s1 : St) (ev : Ev) : Prop :=
  ∃ v : AV, s1.1 = edst s.1 i.dst v ∧
    match ev with
    | .nothing => s1.2 = s.2 ∧ ∀ s' : St, (∀ t ∈ i.looks, s'.1 t = s.1 t) → insD H I q i s' = some ((edst s'.1 i.dst v, s'.2), .nothing)
    | .simple rd wr => ∃ d : Dl, s1.2 = appD s.2 d ∧ d.map (·.1) = wr ∧ (∀ m, wr = some m → m ∈ rd) ∧
        ∀ s' : St, (∀ t ∈ i.looks, s'.1 t = s.1 t) → (∀ m ∈ rd, s'.2 m = s.2 m) → insD H I q i s' = some ((edst s'.1 i.dst v, appD s'.2 d), .simple rd wr)
    | .call h h1 => h = s.2 ∧ s1.2 = h1 ∧ ∀ s' : St, (∀ t ∈ i.looks, s'.1 t = s.1 t) → s'.2 = s.2 → insD H I q i s' = some ((edst s'.1 i.dst v, h1), .call h h1)

theorem fz0_same {h h' : Hp} {a : AV} (e : ∀ m ∈ nm0 a, h' m = h m) : fz0 h' a = fz0 h a := by
  cases a with
  | ref n ver i len => simp only [fz0]; rw [rowAt_same (e n (by simp [nm0]))]
  | _ => rfl
theorem fz1_same {h h' : Hp} {a : AV} (e : ∀ m ∈ nm1 h a, h' m = h m) : fz1 h' a = fz1 h a ∧ nm1 h' a = nm1 h a := by
  cases a with
  | ref n ver i len =>
    have e' : ∀ m ∈ nm0 (.ref n ver i len), h' m = h m := e
    have := fz0_same e'
    exact ⟨this, rfl⟩
  | ptr n ver i c =>
    have e1 := rowAt_same (ver := ver) (e n (by simp [nm1]))
    simp only [fz1, nm1] at e ⊢
    rw [e1]
    refine ⟨?_, rfl⟩
    cases hr : rowAt? h n ver with
    | none => rfl
    | some x =>
      obtain ⟨sz, els⟩ := x
      rw [hr] at e
      simp only at e ⊢
      cases hl : els[i]? with
      | none => rfl
      | some el =>
        rw [hl] at e
        simp only at e ⊢
        have : el.cells.map (fz0 h') = el.cells.map (fz0 h) := List.map_congr_left fun x hx => fz0_same fun m hm => e m (List.mem_cons_of_mem _ (List.mem_flatMap.2 ⟨x, hx, hm⟩))
        rw [this]
  | _ => exact ⟨rfl, rfl⟩
theorem flat_same {f f' : AV → AV} {g g' : AV → List Nat} {l : List AV} (h : ∀ x ∈ l, f' x = f x ∧ g' x = g x) : l.map f' = l.map f ∧ l.flatMap g' = l.flatMap g := by
  induction l with
  | nil => exact ⟨rfl, rfl⟩
  | cons x l ih =>
    obtain ⟨h1, h2⟩ := ih fun y hy => h y (List.mem_cons_of_mem _ hy)
    obtain ⟨h3, h4⟩ := h x List.mem_cons_self
    exact ⟨by rw [List.map_cons, List.map_cons, h3, h1], by rw [List.flatMap_cons, List.flatMap_cons, h4, h2]⟩
theorem fzA_same {h h' : Hp} {a : AV} (e : ∀ m ∈ nmA h a, h' m = h m) : fzA h' a = fzA h a ∧ nmA h' a = nmA h a := by
  cases a with
  | agg cs =>
    obtain ⟨h1, h2⟩ := flat_same (f := fz1 h) (f' := fz1 h') (g := nm1 h) (g' := nm1 h') (l := cs) fun x hx => fz1_same fun m hm => e m (List.mem_flatMap.2 ⟨x, hx, hm⟩)
    exact ⟨congrArg AV.agg h1, h2⟩
  | sc v => exact fz1_same (a := .sc v) e
  | tup vs => exact fz1_same (a := .tup vs) e
  | nl => exact fz1_same (a := .nl) e
  | imm xs => exact fz1_same (a := .imm xs) e
  | full xs => exact fz1_same (a := .full xs) e
  | ref n ver i len => exact fz1_same (a := .ref n ver i len) e
  | ptr n ver i c => exact fz1_same (a := .ptr n ver i c) e
  | ipt cs c => exact fz1_same (a := .ipt cs c) e
  | fn f a b => exact fz1_same (a := .fn f a b) e
  | mp n ver => exact fz1_same (a := .mp n ver) e
  | junk => exact fz1_same (a := .junk) e
theorem fz_same {h h' : Hp} {a : AV} (e : ∀ m ∈ nm h a, h' m = h m) : fz h' a = fz h a ∧ nm h' a = nm h a := by
  cases a with
  | tup cs =>
    obtain ⟨h1, h2⟩ := flat_same (f := fzA h) (f' := fzA h') (g := nmA h) (g' := nmA h') (l := cs) fun x hx => fzA_same fun m hm => e m (List.mem_flatMap.2 ⟨x, hx, hm⟩)
    exact ⟨congrArg AV.tup h1, h2⟩
  | sc v => exact fzA_same (a := .sc v) e
  | agg vs => exact fzA_same (a := .agg vs) e
  | nl => exact fzA_same (a := .nl) e
  | imm xs => exact fzA_same (a := .imm xs) e
  | full xs => exact fzA_same (a := .full xs) e
  | ref n ver i len => exact fzA_same (a := .ref n ver i len) e
  | ptr n ver i c => exact fzA_same (a := .ptr n ver i c) e
  | ipt cs c => exact fzA_same (a := .ipt cs c) e
  | fn f a b => exact fzA_same (a := .fn f a b) e
  | mp n ver => exact fzA_same (a := .mp n ver) e
  | junk => exact fzA_same (a := .junk) e

/-- A call, looked at. -/
theorem callD_is {n : Nat} {f : FuncId} {as : List AV} {s s2 : St} {v : AV} (h : callD H I n f as s = some (v, s2)) :
    match evC H f as s s2.2 with
    | .nothing => False
    | .simple rd wr => wr = none ∧ s2.2 = s.2 ∧ ∀ s' : St, (∀ m ∈ rd, s'.2 m = s.2 m) → (callD H I n f as s').map (fun r => (r.1, r.2.2, evC H f as s' r.2.2)) = some (v, s'.2, .simple rd none)
    | .call h0 h1 => h0 = s.2 ∧ s2.2 = h1 ∧ ∀ s' : St, s'.2 = s.2 → (callD H I n f as s').map (fun r => (r.1, r.2.2, evC H f as s' r.2.2)) = some (v, h1, .call h0 h1) := by
  unfold evC
  cases hH : H f (as.map (fz s.2)) with
  | some r =>
    simp only [Option.isSome_some, if_true]
    unfold callD at h
    rw [hH] at h
    simp only at h
    have hs2 : s2 = s ∧ v = r := by
      split at h
      · cases h; exact ⟨rfl, rfl⟩
      · split at h
        · cases h; exact ⟨rfl, rfl⟩
        · cases h
    obtain ⟨rfl, rfl⟩ := hs2
    refine ⟨by trivial, by trivial, fun s' hs' => ?_⟩
    obtain ⟨h1, h2⟩ := flat_same (f := fz s2.2) (f' := fz s'.2) (g := nm s2.2) (g' := nm s'.2) (l := as) fun x hx => fz_same fun m hm => hs' m (List.mem_flatMap.2 ⟨x, hx, hm⟩)
    unfold callD
    rw [h1, hH]
    simp only
    split at h
    · rename_i hsc
      simp [hsc, h2]
    · rename_i hsc
      rw [if_neg hsc, h2]
      split at h
      · rename_i hnil
        simp [hnil]
      · cases h
  | none =>
    simp only [Option.isSome_none]
    refine ⟨rfl, rfl, fun s' hs' => ?_⟩
    unfold callD at h ⊢
    rw [hs', hH]
    rw [hH] at h
    simp only at h ⊢
    obtain ⟨x, h1, h2⟩ := Option.map_eq_some_iff.1 h
    rw [h1]
    cases h2
    simp

/-- The operation alone. -/
theorem opD_same {n : Nat} {i : CIns} {s s' : St} {r : AV × Hp × Ev} (h : opD H I n i.op s = some r) (hl : ∀ t ∈ i.looks, s'.1 t = s.1 t) :
    match r.2.2 with
    | .nothing => False
    | .simple rd wr => ∃ d : Dl, r.2.1 = appD s.2 d ∧ d.map (·.1) = wr ∧ (∀ m, wr = some m → m ∈ rd) ∧ ((∀ m ∈ rd, s'.2 m = s.2 m) → opD H I n i.op s' = some (r.1, appD s'.2 d, .simple rd wr))
    | .call h h1 => h = s.2 ∧ r.2.1 = h1 ∧ (s'.2 = s.2 → opD H I n i.op s' = some (r.1, h1, .call h h1)) := by
  have hx := same_xs hl
  have plain : i.op.isCall = false → (opD H I n i.op s = ((i.op.ev n s.1 s.2).map fun q => (q.1, appD s.2 q.2, .simple (i.op.rd n s.1) (i.op.wr n s.1)))) ∧
      (opD H I n i.op s' = ((i.op.ev n s'.1 s'.2).map fun q => (q.1, appD s'.2 q.2, .simple (i.op.rd n s'.1) (i.op.wr n s'.1)))) := fun hc => by
    cases hop : i.op <;> rw [hop] at hc <;> first | exact ⟨rfl, rfl⟩ | (simp [COp.isCall] at hc)
  cases hc : i.op.isCall with
  | false =>
    obtain ⟨p1, p2⟩ := plain hc
    rw [p1] at h
    obtain ⟨⟨v, d⟩, h1, h2⟩ := Option.map_eq_some_iff.1 h
    cases h2
    refine ⟨d, rfl, ev_name h1, fun m hm => wr_rd hm, fun hrd => ?_⟩
    rw [p2, ev_env hx, ev_heap hrd, h1, (rd_env hx).1, (rd_env hx).2]
    rfl
  | true =>
    cases hop : i.op with
    | call f as =>
      rw [hop] at h hx
      simp only [opD] at h
      obtain ⟨⟨v, s2⟩, h1, h2⟩ := Option.map_eq_some_iff.1 h
      cases h2
      have key := callD_is h1
      have hmap := map_same (l := as) (by simpa [COp.xs] using hx)
      simp only [opD]
      rw [hmap]
      generalize evC H f (as.map (aEval s.1)) s s2.2 = ev at key ⊢
      cases ev with
      | nothing => exact key
      | simple rd wr =>
        obtain ⟨rfl, k2, k3⟩ := key
        exact ⟨none, k2, rfl, (fun m hm => by cases hm), fun hrd => k3 s' hrd⟩
      | call h0 h1' =>
        obtain ⟨k1, k2, k3⟩ := key
        exact ⟨k1, k2, fun hh => k3 s' hh⟩
    | callv x as =>
      rw [hop] at h hx
      simp only [opD] at h
      obtain ⟨⟨f, as'⟩, h0, h⟩ := Option.bind_eq_some_iff.1 h
      obtain ⟨⟨v, s2⟩, h1, h2⟩ := Option.map_eq_some_iff.1 h
      cases h2
      have key := callD_is h1
      simp only [opD]
      rw [hx x (by simp [COp.xs]), map_same (fun y hy => hx y (by simp only [COp.xs]; exact List.mem_cons_of_mem _ hy)), h0]
      simp only [Option.bind_some]
      generalize evC H f as' s s2.2 = ev at key ⊢
      cases ev with
      | nothing => exact key
      | simple rd wr =>
        obtain ⟨rfl, k2, k3⟩ := key
        exact ⟨none, k2, rfl, (fun m hm => by cases hm), fun hrd => k3 s' hrd⟩
      | call h0 h1' =>
        obtain ⟨k1, k2, k3⟩ := key
        exact ⟨k1, k2, fun hh => k3 s' hh⟩
    | _ => rw [hop] at hc; simp [COp.isCall] at hc

theorem step_is {i : CIns} {s s1 : St} {ev : Ev} (h : insD H I q i s = some (s1, ev)) : StepIs H I q i s s1 ev := by
  -- when the operation is taken
  have taken : ∀ (r : AV × Hp × Ev), opD H I (nameOf q i.dst) i.op s = some r → (∀ s' : St, (∀ t ∈ i.looks, s'.1 t = s.1 t) → insD H I q i s' = (opD H I (nameOf q i.dst) i.op s').map fun r => ((edst s'.1 i.dst r.1, r.2.1), r.2.2)) →
      StepIs H I q i s (edst s.1 i.dst r.1, r.2.1) r.2.2 := by
    intro r hr hs'
    refine ⟨r.1, rfl, ?_⟩
    have key := fun s' hl => opD_same (s' := s') hr hl
    obtain ⟨v, h1, ev⟩ := r
    cases ev with
    | nothing => exact absurd (key s (fun _ _ => rfl)) id
    | simple rd wr =>
      obtain ⟨d, k1, k2, k3, _⟩ := key s (fun _ _ => rfl)
      refine ⟨d, k1, k2, k3, fun s' hl hrd => ?_⟩
      obtain ⟨d', l1, l2, l3, l4⟩ := key s' hl
      obtain ⟨d0, m1, m2, m3, m4⟩ := key s (fun _ _ => rfl)
      have e' := l4 hrd
      rw [hs' s' hl, e']
      simp only [Option.map_some]
      -- the change is the same one
      have : appD s'.2 d' = appD s'.2 d := by
        simp only at k1 l1
        rw [k1] at l1
        cases d with
        | none => cases d' with
          | none => rfl
          | some x => rw [← k2] at l2; cases l2
        | some y => cases d' with
          | none => rw [← k2] at l2; cases l2
          | some x =>
            obtain ⟨a, xa⟩ := x
            obtain ⟨b, yb⟩ := y
            rw [← k2] at l2
            cases l2
            have := congrFun l1 a
            simp [appD, hset] at this
            rw [this]
      rw [this]
    | call h h1' =>
      obtain ⟨k1, k2, _⟩ := key s (fun _ _ => rfl)
      refine ⟨k1, k2, fun s' hl hh => ?_⟩
      obtain ⟨l1, l2, l3⟩ := key s' hl
      rw [hs' s' hl, l3 hh]
      rfl
  cases hg : i.guard with
  | none =>
    have hs' : ∀ s' : St, insD H I q i s' = (opD H I (nameOf q i.dst) i.op s').map fun r => ((edst s'.1 i.dst r.1, r.2.1), r.2.2) := fun s' => by unfold insD; rw [hg]
    rw [hs'] at h
    obtain ⟨r, h1, h2⟩ := Option.map_eq_some_iff.1 h
    cases h2
    exact taken r h1 (fun s' _ => hs' s')
  | some gw =>
    obtain ⟨g, want⟩ := gw
    have hlook : g ∈ i.looks := List.mem_append_right _ (by rw [hg]; simp)
    unfold insD at h
    rw [hg] at h
    simp only at h
    split at h
    · rename_i b hb
      split at h
      · rename_i hbw
        obtain ⟨r, h1, h2⟩ := Option.map_eq_some_iff.1 h
        cases h2
        refine taken r h1 (fun s' hl => ?_)
        unfold insD
        rw [hg]
        simp only
        rw [hl g hlook, hb]
        simp only [if_pos hbw]
      · rename_i hbw
        cases h
        refine ⟨.tup [], rfl, rfl, fun s' hl => ?_⟩
        unfold insD
        rw [hg]
        simp only
        rw [hl g hlook, hb]
        simp only [if_neg hbw]
    · rename_i hb
      cases h
      refine ⟨.tup [], rfl, rfl, fun s' hl => ?_⟩
      unfold insD
      rw [hg]
      simp only
      rw [hl g hlook, hb]
    · cases h

/-! ### Two steps change places -/
/-- Neither looks at what the other makes. -/
def slotsApart (x y : CIns) : Bool :=
  (match x.dst with | some d => !y.looks.contains d && y.dst != some d | none => true) &&
  (match y.dst with | some d => !x.looks.contains d | none => true)

theorem apart_spec {x y : CIns} (h : slotsApart x y = true) : (∀ d, x.dst = some d → d ∉ y.looks) ∧ (∀ d, x.dst = some d → y.dst ≠ some d) ∧ (∀ d, y.dst = some d → d ∉ x.looks) := by
  refine ⟨fun d hd => ?_, fun d hd => ?_, fun d hd => ?_⟩ <;> simp [slotsApart, hd] at h
  · exact h.1.1
  · exact h.1.2
  · exact h.2
theorem edst_looks {e : Env} {x y : CIns} {v : AV} (h : ∀ d, x.dst = some d → d ∉ y.looks) : ∀ t ∈ y.looks, edst e x.dst v t = e t := fun t ht => by
  cases hd : x.dst with
  | none => rfl
  | some d =>
    simp only [edst, eset]
    exact if_neg (fun (e : t = d) => h d hd (by rw [← e]; exact ht))
theorem edst_comm {e : Env} {a b : Option Nat} {v u : AV} (h : ∀ d, a = some d → b ≠ some d) : edst (edst e a v) b u = edst (edst e b u) a v := by
  cases a with
  | none => rfl
  | some a => cases b with
    | none => rfl
    | some b =>
      have hne : a ≠ b := fun e => h a rfl (by rw [e])
      funext t
      simp only [edst, eset]
      by_cases h1 : t = a
      · subst h1; simp [hne]
      · simp [h1]
theorem appD_at {h : Hp} {d : Dl} {m : Nat} (hm : d.map (·.1) ≠ some m) : appD h d m = h m := by
  cases d with
  | none => rfl
  | some x =>
    obtain ⟨n, y⟩ := x
    simp only [appD, hset]
    rw [if_neg (fun e => hm (by simp [e]))]
theorem appD_comm {h : Hp} {d d' : Dl} (hne : ∀ m, d.map (·.1) = some m → d'.map (·.1) ≠ some m) : appD (appD h d) d' = appD (appD h d') d := by
  cases d with
  | none => rfl
  | some x => cases d' with
    | none => rfl
    | some y =>
      obtain ⟨a, xa⟩ := x
      obtain ⟨b, yb⟩ := y
      have : a ≠ b := fun e => hne a rfl (by simp [e])
      funext t
      simp only [appD, hset]
      by_cases h1 : t = a
      · subst h1; simp [this]
      · simp [h1]

theorem swap {x y : CIns} {s s1 s2 : St} {ex ey : Ev} (hx : insD H I q x s = some (s1, ex)) (hy : insD H I q y s1 = some (s2, ey)) (ha : slotsApart x y = true) (hi : indep ex ey = true) :
    ∃ s1', insD H I q y s = some (s1', ey) ∧ insD H I q x s1' = some (s2, ex) := by
  obtain ⟨a1, a2, a3⟩ := apart_spec ha
  obtain ⟨vx, x1, x2⟩ := step_is hx
  obtain ⟨vy, y1, y2⟩ := step_is hy
  have ly : ∀ t ∈ y.looks, s.1 t = s1.1 t := fun t ht => by rw [x1, edst_looks a1 t ht]
  have lx : ∀ (h : Hp) (t : Nat), t ∈ x.looks → ((edst s.1 y.dst vy, h) : St).1 t = s.1 t := fun h t ht => edst_looks a3 t ht
  have env : edst (edst s.1 y.dst vy) x.dst vx = s2.1 := by rw [y1, x1]; exact (edst_comm a2).symm
  have fin : ∀ h : Hp, h = s2.2 → ((edst (edst s.1 y.dst vy) x.dst vx, h) : St) = s2 := fun h hh => by rw [env, hh]
  cases ex with
  | nothing =>
    obtain ⟨x2, x3⟩ := x2
    cases ey with
    | nothing =>
      obtain ⟨y2, y3⟩ := y2
      refine ⟨_, y3 s ly, ?_⟩
      rw [x3 _ (lx _)]
      rw [fin _ (by rw [y2, x2])]
    | simple rd wr =>
      obtain ⟨d, y2, y3, y4, y5⟩ := y2
      refine ⟨_, y5 s ly (fun m _ => by rw [x2]), ?_⟩
      rw [x3 _ (lx _), fin _ (by rw [y2, x2])]
    | call h h1 =>
      obtain ⟨y2, y3, y4⟩ := y2
      refine ⟨_, y4 s ly x2.symm, ?_⟩
      rw [x3 _ (lx _), fin _ (by rw [y3])]
  | simple rdx wrx =>
    obtain ⟨dx, x2, x3, x4, x5⟩ := x2
    cases ey with
    | nothing =>
      obtain ⟨y2, y3⟩ := y2
      refine ⟨_, y3 s ly, ?_⟩
      rw [x5 _ (lx _) (fun _ _ => rfl), fin _ (by rw [y2, x2])]
    | simple rdy wry =>
      obtain ⟨dy, y2, y3, y4, y5⟩ := y2
      have h1 : ∀ m, wrx = some m → m ∉ rdy := fun m hm => by
        simp only [indep, hm, Bool.and_eq_true] at hi
        simpa using hi.1
      have h2 : ∀ m, wry = some m → m ∉ rdx := fun m hm => by
        simp only [indep, hm, Bool.and_eq_true] at hi
        simpa using hi.2
      refine ⟨_, y5 s ly (fun m hm => ?_), ?_⟩
      · rw [x2, appD_at]
        rw [x3]
        exact fun e => h1 m e hm
      · rw [x5 _ (lx _) (fun m hm => ?_), fin]
        · rw [y2, x2]
          refine (appD_comm fun m hm e => ?_).symm
          rw [x3] at hm
          rw [y3] at e
          exact h1 m hm (y4 m e)
        · refine appD_at (fun e => ?_)
          rw [y3] at e
          exact h2 m e hm
    | call h h1 =>
      obtain ⟨y2, y3, y4⟩ := y2
      cases wrx with
      | some m => simp [indep] at hi
      | none =>
        have hd : dx = none := by cases dx <;> first | rfl | cases x3
        subst hd
        have hh : s.2 = s1.2 := x2.symm
        refine ⟨_, y4 s ly hh, ?_⟩
        simp only [indep] at hi
        replace hi := quick_or hi
        rw [x5 _ (lx _) (fun m hm => by show h1 m = s.2 m; rw [hi m hm, y2, ← hh]), fin _ (by rw [y3]; rfl)]
  | call h h1 =>
    obtain ⟨x2, x3, x4⟩ := x2
    cases ey with
    | nothing =>
      obtain ⟨y2, y3⟩ := y2
      refine ⟨_, y3 s ly, ?_⟩
      rw [x4 _ (lx _) rfl, fin _ (by rw [y2, x3])]
    | simple rdy wry =>
      obtain ⟨dy, y2, y3, y4, y5⟩ := y2
      cases wry with
      | some m => simp [indep] at hi
      | none =>
        have hd : dy = none := by cases dy <;> first | rfl | cases y3
        subst hd
        simp only [indep] at hi
        replace hi := quick_or hi
        refine ⟨_, y5 s ly (fun m hm => by rw [x3, hi m hm, x2]), ?_⟩
        rw [x4 _ (lx (appD s.2 none)) rfl, fin _ (by rw [y2, x3]; rfl)]
    | call h' h1' => simp [indep] at hi

/-- A step to the front. -/
theorem front {y : CIns} {ey : Ev} : ∀ {l1 : List (CIns × Ev)} {l2 : List CIns} {e2 : List Ev} {s s' : St}, drawA H I q (l1.map (·.1) ++ y :: l2) s = some (s', l1.map (·.2) ++ ey :: e2) →
    (∀ x ∈ l1, slotsApart x.1 y = true ∧ indep x.2 ey = true) → ∃ s1, insD H I q y s = some (s1, ey) ∧ drawA H I q (l1.map (·.1) ++ l2) s1 = some (s', l1.map (·.2) ++ e2)
  | [], l2, e2, s, s', h, _ => by
    simp only [List.map_nil, List.nil_append, drawA] at h ⊢
    obtain ⟨⟨s1, ev⟩, h1, h2⟩ := Option.bind_eq_some_iff.1 h
    obtain ⟨⟨s2, evs⟩, h3, h4⟩ := Option.map_eq_some_iff.1 h2
    cases h4
    exact ⟨s1, h1, h3⟩
  | x :: l1, l2, e2, s, s', h, hi => by
    simp only [List.map_cons, List.cons_append, drawA] at h ⊢
    obtain ⟨⟨s1, ev⟩, h1, h2⟩ := Option.bind_eq_some_iff.1 h
    obtain ⟨⟨s2, evs⟩, h3, h4⟩ := Option.map_eq_some_iff.1 h2
    simp only [Prod.mk.injEq, List.cons.injEq] at h4
    obtain ⟨rfl, rfl, h5⟩ := h4
    rw [h5] at h3
    obtain ⟨s3, h6, h7⟩ := front h3 (fun z hz => hi z (List.mem_cons_of_mem _ hz))
    obtain ⟨i1, i2⟩ := hi x (by simp)
    obtain ⟨s1', h8, h9⟩ := swap h1 h6 i1 i2
    refine ⟨s1', h8, ?_⟩
    rw [h9]
    simp only [Option.bind_some]
    rw [h7]
    rfl

theorem callD_A {n : Nat} {f : FuncId} {as : List AV} {s : St} {r : AV × St} (h : callD H I n f as s = some r) : callA H I n f as s = some r ∧ r.2.1 = s.1 := by
  unfold callD at h
  unfold callA
  split at h
  · rename_i rr hr
    by_cases hs : rr.scalar = true
    · rw [if_pos hs] at h ⊢
      cases h
      exact ⟨rfl, rfl⟩
    · rw [if_neg hs] at h ⊢
      split at h
      · rename_i hn
        cases h
        exact ⟨by first | rfl | rw [hn], rfl⟩
      · cases h
  · rename_i hr
    refine ⟨h, ?_⟩
    obtain ⟨_, _, h2⟩ := Option.map_eq_some_iff.1 h
    cases h2
    rfl
theorem opD_A {n : Nat} {c : COp} {s : St} {r : AV × Hp × Ev} (h : opD H I n c s = some r) : opA H I n c s = some (r.1, (s.1, r.2.1)) := by
  unfold opD at h
  split at h
  · obtain ⟨x, h1, rfl⟩ := Option.map_eq_some_iff.1 h
    obtain ⟨h2, h3⟩ := callD_A h1
    simp only [opA]
    rw [h2]
    obtain ⟨v, e, hh⟩ := x
    simp only at h3
    rw [h3]
  · obtain ⟨y, h0, h⟩ := Option.bind_eq_some_iff.1 h
    obtain ⟨x, h1, rfl⟩ := Option.map_eq_some_iff.1 h
    obtain ⟨h2, h3⟩ := callD_A h1
    simp only [opA, h0, Option.bind_some]
    rw [h2]
    obtain ⟨v, e, hh⟩ := x
    simp only at h3
    rw [h3]
  · rename_i h1 h2
    obtain ⟨x, h3, rfl⟩ := Option.map_eq_some_iff.1 h
    unfold opA
    split
    · exact absurd rfl (h1 _ _)
    · exact absurd rfl (h2 _ _)
    · rw [h3]; rfl
theorem insD_A {i : CIns} {s s1 : St} {ev : Ev} (h : insD H I q i s = some (s1, ev)) : insA H I q i s = some s1 := by
  unfold insD at h
  unfold insA
  split at h
  · rename_i hg
    obtain ⟨r, h1, h2⟩ := Option.map_eq_some_iff.1 h
    cases h2
    rw [opD_A h1]
    rfl
  · rename_i g want hg
    split at h
    · rename_i b hb
      by_cases hbw : b = want
      · rw [if_pos hbw] at h ⊢
        obtain ⟨r, h1, h2⟩ := Option.map_eq_some_iff.1 h
        cases h2
        rw [opD_A h1]
        rfl
      · rw [if_neg hbw] at h ⊢
        cases h
        rfl
    · cases h
      simp only
    · cases h

end
end Go.Proofs.Ytihljollfbogeaa
