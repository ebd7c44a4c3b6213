/- Blocks of ours that nobody writes any more: their values without our names. No condition. -/
import Derived.Test.YtihljollfbogeaaA12
namespace Go.Proofs.Ytihljollfbogeaa
open Go Go.RowKit

/-- A cell of ours, as what it is when nobody writes it any more. -/
def fz0 (h : Hp) : AV → AV
  | .sc v => .sc v
  | .nl => .imm []
  | .imm xs => .imm xs
  | .full xs => .imm xs
  | .ref n ver i len =>
    match rowAt? h n ver with
    | some (_, els) => if i + len ≤ els.length ∧ els.all AV.pure = true then .imm (((els.drop i).take len).map norm) else .junk
    | none => .junk
  | .ipt cs c => .ipt cs c
  | _ => .junk
def fz1 (h : Hp) : AV → AV
  | .ptr n ver e c =>
    match rowAt? h n ver with
    | some (_, els) => match els[e]? with
      | some el => if (el.cells.map (fz0 h)).all AV.one = true then .ipt (el.cells.map (fz0 h)) c else .junk
      | none => .junk
    | none => .junk
  | a => fz0 h a
def fzA (h : Hp) : AV → AV
  | .agg cs => .agg (cs.map (fz1 h))
  | v => fz1 h v
def fz (h : Hp) : AV → AV
  | .tup vs => .tup (vs.map (fzA h))
  | v => fzA h v

/-- The blocks of ours behind a value. -/
def nm0 : AV → List Nat
  | .ref n _ _ _ => [n]
  | _ => []
def nm1 (h : Hp) : AV → List Nat
  | .ref n _ _ _ => [n]
  | .ptr n ver e _ => n :: (match rowAt? h n ver with
    | some (_, els) => match els[e]? with
      | some el => el.cells.flatMap nm0
      | none => []
    | none => [])
  | _ => []
def nmA (h : Hp) : AV → List Nat
  | .agg cs => cs.flatMap (nm1 h)
  | v => nm1 h v
def nm (h : Hp) : AV → List Nat
  | .tup vs => vs.flatMap (nmA h)
  | v => nmA h v

def emp : Al := ⟨fun _ => none, fun _ => True⟩

/-- Block b is known, and is not ours or has one of some names. -/
def okF (w : World) (α : Al) (names : List Nat) (b : Nat) : Prop :=
  okA w α b ∨ (b < w.heap.size ∧ α.G b ∧ ∃ n ∈ names, ∃ ae o r, α n = some ae ∧ ae.blk = some (b, o, r))

section
variable {P : Program} {w : World} {α : Al} {base : Nat} {h : Hp}

theorem Later.emp (α : Al) : Later emp α := fun _ _ h => by cases h

theorem nl_imm {ok : Nat → Prop} (A : Option Addr) : V0 w ok (.imm []) (.slice A 0 0) :=
  V0.imm [] A 0 0 0 0 (fun _ _ => undef) (by simp) (fun j el h => by simp at h) (fun j el c a h => by simp at h) (fun j el c a h => by simp at h)

theorem fz0_ok (r : Rel base h w α) {names : List Nat} {a : AV} {u : Value} (hv : V1 w (okA w α) α a u) (hn : ∀ n ∈ nm0 a, n ∈ names) : (fz0 h a).one = true → V0 w (okF w α names) (fz0 h a) u := by
  have hok : ∀ b, okA w α b → okF w α names b ∧ w.heap[b]? = w.heap[b]? := fun b hb => ⟨.inl hb, rfl⟩
  cases hv with
  | low _ _ hv =>
    intro _
    cases hv with
    | sc _ h => exact .sc _ h
    | nl A => exact nl_imm A
    | imm xs A cap sz b o U h1 h2 h3 h4 => exact V0.mono (.imm xs A cap sz b o U h1 h2 h3 h4) hok
    | full xs A sz b o U h2 h3 h4 => exact V0.mono (.imm xs A _ sz b o U (Nat.le_refl _) h2 h3 h4) hok
    | ipt cs c b o U h1 h2 h3 => exact V0.mono (.ipt cs c b o U h1 h2 h3) hok
  | ref n ver i len A cap ae hl ha hver hh =>
    simp only [fz0]
    cases hr : rowAt? h n ver with
    | none => intro h1; simp [AV.one] at h1
    | some q =>
      obtain ⟨sz, els⟩ := q
      simp only
      split
      case isFalse => intro h1; simp [AV.one] at h1
      rename_i hc
      obtain ⟨hle, hp⟩ := hc
      intro _
      obtain ⟨e1, e2, e3, e4, e5⟩ := r.row hr ha
      obtain ⟨g1, g2, g3⟩ := hh e1.symm
      have hlen : (((els.drop i).take len).map norm).length = len := by simp; omega
      cases hblk : ae.blk with
      | none =>
        rw [hblk] at g3
        have hnil := e4 hblk
        subst hnil
        simp only at g3
        have h0 : len = 0 := by omega
        subst h0
        subst g3
        simpa using nl_imm (w := w) (ok := okF w α names) A
      | some q =>
        obtain ⟨b, off, room⟩ := q
        rw [hblk] at g3
        have O := e5 b off room hblk
        have hg : ∀ (j : Nat) (el : AV), (((els.drop i).take len).map norm)[j]? = some el → ∃ el', els[i + j]? = some el' ∧ el = norm el' ∧ el'.storable = true := fun j el he => by
          rw [List.getElem?_map] at he
          obtain ⟨el', h1, rfl⟩ := Option.map_eq_some_iff.1 he
          rw [List.getElem?_take] at h1
          split at h1
          · rw [List.getElem?_drop] at h1
            refine ⟨el', h1, rfl, List.all_eq_true.2 fun a ha => ?_⟩
            obtain ⟨c, hc⟩ := List.mem_iff_getElem?.1 ha
            exact O.one _ el' h1 c a hc
          · cases h1
        have := V0.imm (w := w) (ok := okF w α names) (((els.drop i).take len).map norm) A cap sz b (off + i * sz) (fun j c => (w.cell? ⟨b, off + i * sz + (j * sz + c), none⟩).getD undef) (by omega)
          (fun j el he => by
            obtain ⟨el', h1, rfl, hs⟩ := hg j el he
            refine ⟨by rw [norm_cells hs, List.length_map]; exact O.len _ el' h1, ?_, .inr ⟨(r.base n ae b off room ha hblk).2, r.grant _ (r.base n ae b off room ha hblk).1, n, hn n (by simp [nm0]), ae, off, room, ha, hblk⟩⟩
            have hlt := (List.getElem?_eq_some_iff.1 he).1
            rw [hlen] at hlt
            have := g3.2 (by omega)
            rw [e2] at this
            exact this)
          (fun j el c a he ha => by
            obtain ⟨el', h1, rfl, hs⟩ := hg j el he
            obtain ⟨a', h2, rfl⟩ := norm_get hs ha
            obtain ⟨x, hx, hv1, _⟩ := O.lie (i + j) el' h1 c a' h2
            rw [show off + (i + j) * sz + c = off + i * sz + (j * sz + c) by rw [Nat.add_mul]; omega] at hx
            simp [hx])
          (fun j el c a he ha => by
            obtain ⟨el', h1, rfl, hs⟩ := hg j el he
            obtain ⟨a', h2, rfl⟩ := norm_get hs ha
            obtain ⟨x, hx, hv1, _⟩ := O.lie (i + j) el' h1 c a' h2
            rw [show off + (i + j) * sz + c = off + i * sz + (j * sz + c) by rw [Nat.add_mul]; omega] at hx
            simp only [hx, Option.getD_some]
            have hp1 : a'.pure1 = true := List.all_eq_true.1 (List.all_eq_true.1 hp el' (List.mem_of_getElem? h1)) a' (List.mem_of_getElem? h2)
            exact (pure1_V0 hp1 hv1).mono hok)
        rw [hlen] at this
        exact this
  | ptr => intro h1; simp [fz0, AV.one] at h1
  | mp => intro h1; simp [fz0, AV.one] at h1
  | fn => intro h1; simp [fz0, AV.one] at h1
  | junk => intro h1; simp [fz0, AV.one] at h1

/-- Every cell, frozen: what it was, or unknown. -/
theorem fz1_ok (r : Rel base h w α) {names : List Nat} {a : AV} {u : Value} (hv : V1 w (okA w α) α a u) (hn : ∀ n ∈ nm1 h a, n ∈ names) : V1 w (okF w α names) emp (fz1 h a) u := by
  have low : (∀ n ver e c, a ≠ .ptr n ver e c) → V1 w (okF w α names) emp (fz1 h a) u := fun hne => by
    have e1 : fz1 h a = fz0 h a := by cases a <;> first | rfl | exact absurd rfl (hne _ _ _ _)
    have e2 : nm1 h a = nm0 a := by cases a <;> first | rfl | exact absurd rfl (hne _ _ _ _)
    rw [e1]
    rw [e2] at hn
    have := fz0_ok r hv hn
    cases hq : fz0 h a <;> rw [hq] at this <;> first | exact .junk u | exact .low _ _ (this rfl) | skip
    · cases a <;> simp [fz0] at hq
      split at hq <;> (try split at hq) <;> cases hq
    · cases a <;> simp [fz0] at hq
      split at hq <;> (try split at hq) <;> cases hq
  cases hv with
  | ptr n ver e c a ae ha hver hh =>
    simp only [fz1]
    cases hr : rowAt? h n ver with
    | none => exact .junk _
    | some q =>
      obtain ⟨sz, els⟩ := q
      simp only
      cases hel : els[e]? with
      | none => exact .junk _
      | some el =>
        simp only
        split
        case isFalse => exact .junk _
        rename_i hall
        obtain ⟨e1, e2, e3, e4, e5⟩ := r.row hr ha
        obtain ⟨b, off, room, hblk, rfl⟩ := hh e1.symm
        have O := e5 b off room hblk
        have hnel : ∀ x ∈ el.cells, ∀ m ∈ nm0 x, m ∈ names := fun x hx m hm => hn m (by simp only [nm1, hr, hel]; exact List.mem_cons_of_mem _ (List.mem_flatMap.2 ⟨x, hx, hm⟩))
        rw [e2]
        have := V0.ipt (w := w) (ok := okF w α names) (el.cells.map (fz0 h)) c b (off + e * sz) (fun i => (w.cell? ⟨b, off + e * sz + i, none⟩).getD undef)
          (.inr ⟨(r.base n ae b off room ha hblk).2, r.grant _ (r.base n ae b off room ha hblk).1, n, hn n (by simp [nm1]), ae, off, room, ha, hblk⟩)
          (fun i a hi => by
            rw [List.getElem?_map] at hi
            obtain ⟨x, hx, rfl⟩ := Option.map_eq_some_iff.1 hi
            obtain ⟨y, hy, hv1, _⟩ := O.lie e el hel i x hx
            simp [hy])
          (fun i a hi => by
            have hone := List.all_eq_true.1 hall a (List.mem_of_getElem? hi)
            rw [List.getElem?_map] at hi
            obtain ⟨x, hx, rfl⟩ := Option.map_eq_some_iff.1 hi
            obtain ⟨y, hy, hv1, _⟩ := O.lie e el hel i x hx
            simp only [hy, Option.getD_some]
            exact fz0_ok r hv1 (hnel x (List.mem_of_getElem? hx)) hone)
        exact .low _ _ this
  | low _ _ hv => exact low (fun _ _ _ _ e => by subst e; cases hv)
  | ref => exact low (fun _ _ _ _ e => by cases e)
  | mp => exact low (fun _ _ _ _ e => by cases e)
  | fn => exact low (fun _ _ _ _ e => by cases e)
  | junk => exact low (fun _ _ _ _ e => by cases e)

theorem fzA_ok (r : Rel base h w α) {names : List Nat} {a : AV} {u : Value} (hv : VA w (okA w α) α a u) (hn : ∀ n ∈ nmA h a, n ∈ names) : VA w (okF w α names) emp (fzA h a) u := by
  cases a with
  | agg cs =>
    obtain ⟨us, rfl, hc⟩ := hv
    refine ⟨us, rfl, by simp [hc.1], fun i a u ha hu => ?_⟩
    rw [List.getElem?_map] at ha
    obtain ⟨x, hx, rfl⟩ := Option.map_eq_some_iff.1 ha
    have := hc.2 i x u hx hu
    exact ⟨fz1_ok r this.1 (fun n hm => hn n (List.mem_flatMap.2 ⟨x, List.mem_of_getElem? hx, hm⟩)), this.2⟩
  | _ => exact VA.of_V1 (fz1_ok r hv hn)

theorem V.of_VA' {ok : Nat → Prop} {a : AV} {u : Value} (h : VA w ok α a u) : V w ok α a u := by
  cases a with
  | tup vs => cases h with | low _ _ h => cases h
  | _ => exact h

theorem V.toVA {ok : Nat → Prop} {a : AV} {u : Value} (h : V w ok α a u) (ht : ∀ vs, a ≠ .tup vs) : VA w ok α a u := by
  cases a <;> first | exact h | exact absurd rfl (ht _)

theorem fz_ok (r : Rel base h w α) {names : List Nat} {a : AV} {u : Value} (hv : V w (okA w α) α a u) (hn : ∀ n ∈ nm h a, n ∈ names) : V w (okF w α names) emp (fz h a) u := by
  cases a with
  | tup vs =>
    obtain ⟨us, rfl, hl, hc⟩ := hv
    refine ⟨us, rfl, by simp [hl], fun i a x ha hx => ?_⟩
    rw [List.getElem?_map] at ha
    obtain ⟨y, hy, rfl⟩ := Option.map_eq_some_iff.1 ha
    exact fzA_ok r (hc i y x hy hx) (fun n hm => hn n (List.mem_flatMap.2 ⟨y, List.mem_of_getElem? hy, hm⟩))
  | _ => exact V.of_VA' (fzA_ok r (hv.toVA (by intro vs e; cases e)) hn)

/-! ### Blocks given up -/
def kills (h : Hp) : List Nat → Hp
  | [] => h
  | n :: r => kills (hset h n ((h n).1 + 1, .dead)) r

theorem kills_ok : ∀ {names : List Nat} {h : Hp} {α : Al}, Rel base h w α → ∃ α', Rel base (kills h names) w α' ∧ Ext w α w α' ∧ (∀ b, okF w α names b → okA w α' b) ∧ ∀ m, m ∉ names → α' m = α m
  | [], h, α, r => ⟨α, r, Ext.refl _ _, (fun b hb => by
      rcases hb with hb | ⟨_, _, n, hn, _⟩
      · exact hb
      · cases hn), fun _ _ => rfl⟩
  | n :: names, h, α, r => by
    obtain ⟨r1, e1⟩ := r.drop n
    obtain ⟨α', r2, e2, h2, h3⟩ := kills_ok (names := names) r1
    refine ⟨α', r2, e1.trans e2, fun b hb => h2 b ?_, fun m hm => (h3 m (fun h => hm (List.mem_cons_of_mem _ h))).trans (upd_ne _ _ (fun e => hm (e ▸ List.mem_cons_self)))⟩
    have own : ∀ ae o r', α n = some ae → ae.blk = some (b, o, r') → b < w.heap.size → α.G b → okF w (upd α n ⟨(h n).1 + 1, 0, 0, none⟩) names b := fun ae o r' ha hblk hlt hG => .inl ⟨⟨hlt, hG⟩, fun m ae' o' r'' hm hb' => by
      by_cases e : m = n
      · subst e; rw [upd_same] at hm; cases hm; cases hb'
      · rw [upd_ne _ _ e] at hm
        exact e (r.inj m n ae' ae b o' r'' o r' hm ha hb' hblk)⟩
    rcases hb with hb | ⟨hlt, hG, m, hm, ae, o, r', ha, hblk⟩
    · exact .inl (e1.keep b hb).1
    · rcases List.mem_cons.1 hm with rfl | hm
      · exact own ae o r' ha hblk hlt hG
      · by_cases e : m = n
        · subst e; exact own ae o r' ha hblk hlt hG
        · exact .inr ⟨hlt, hG, m, hm, ae, o, r', by rw [upd_ne _ _ e]; exact ha, hblk⟩

/-! ### What names them still -/
def thaw1 (h : Hp) (names : List Nat) (a : AV) : AV :=
  match nm1 h a with
  | [] => a
  | ns => if (ns.all fun n => names.contains n) = true ∧ (fz1 h a).one = true then fz1 h a else a
def thawA (h : Hp) (names : List Nat) : AV → AV
  | .agg cs => .agg (cs.map (thaw1 h names))
  | v => thaw1 h names v
def thaw (h : Hp) (names : List Nat) : AV → AV
  | .tup vs => .tup (vs.map (thawA h names))
  | v => thawA h names v
def thawB (h : Hp) (names : List Nat) : Blk → Blk
  | .row sz els => .row sz (els.map (thawA h names))
  | b => b
def thawH (h : Hp) (names : List Nat) : Hp := fun n => ((h n).1, thawB h names (h n).2)

/-- Cells after some blocks are given up. -/
theorem thaw1_ok (r : Rel base h w α) {α' : Al} {names : List Nat} {a : AV} {u : Value} (hx : Ext w α w α') (hf : ∀ b, okF w α names b → okA w α' b) (hv : V1 w (okA w α) α a u) : V1 w (okA w α') α' (thaw1 h names a) u := by
  unfold thaw1
  split
  · exact hv.ext hx
  · rename_i ns heq
    split
    · rename_i hc
      have := fz1_ok (names := names) r hv (fun n hn => by
        have := List.all_eq_true.1 hc.1 n hn
        simpa using this)
      exact this.mono (fun b hb => ⟨hf b hb, rfl⟩) (Later.emp α')
    · exact hv.ext hx
theorem thaw1_one {names : List Nat} {a : AV} (h1 : a.one = true) : (thaw1 h names a).one = true := by
  unfold thaw1
  split
  · exact h1
  · split
    · rename_i hc; exact hc.2
    · exact h1
theorem thawA_ok (r : Rel base h w α) {α' : Al} {names : List Nat} {a : AV} {u : Value} (hx : Ext w α w α') (hf : ∀ b, okF w α names b → okA w α' b) (hv : VA w (okA w α) α a u) : VA w (okA w α') α' (thawA h names a) u := by
  cases a with
  | agg cs =>
    obtain ⟨us, rfl, hc⟩ := hv
    refine ⟨us, rfl, by simp [hc.1], fun i a u ha hu => ?_⟩
    rw [List.getElem?_map] at ha
    obtain ⟨x, hx', rfl⟩ := Option.map_eq_some_iff.1 ha
    have := hc.2 i x u hx' hu
    exact ⟨thaw1_ok r hx hf this.1, this.2⟩
  | _ => exact VA.of_V1 (thaw1_ok r hx hf hv)
theorem thaw_ok (r : Rel base h w α) {α' : Al} {names : List Nat} {a : AV} {u : Value} (hx : Ext w α w α') (hf : ∀ b, okF w α names b → okA w α' b) (hv : V w (okA w α) α a u) : V w (okA w α') α' (thaw h names a) u := by
  cases a with
  | tup vs =>
    obtain ⟨us, rfl, hl, hc⟩ := hv
    refine ⟨us, rfl, by simp [hl], fun i a x ha hx' => ?_⟩
    rw [List.getElem?_map] at ha
    obtain ⟨y, hy, rfl⟩ := Option.map_eq_some_iff.1 ha
    exact thawA_ok r hx hf (hc i y x hy hx')
  | _ => exact V.of_VA' (thawA_ok r hx hf (hv.toVA (by intro vs e; cases e)))

/-- The whole heap, after some blocks are given up. -/
theorem thawH_ok (r : Rel base h w α) (names : List Nat) : ∃ α', Rel base (kills (thawH h names) names) w α' ∧ Ext w α w α' ∧ (∀ b, okF w α names b → okA w α' b) ∧
    ∀ (a : AV) (u : Value), V w (okA w α) α a u → V w (okA w α') α' (thaw h names a) u := by
  obtain ⟨α', r', e', hf, hsame⟩ := kills_ok (names := names) r
  have ver : ∀ (ns : List Nat) (h0 h1 : Hp), (∀ m, (h1 m).1 = (h0 m).1) → ∀ m, (kills h1 ns m).1 = (kills h0 ns m).1 := by
    intro ns
    induction ns with
    | nil => intro h0 h1 hh m; exact hh m
    | cons n ns ih =>
      intro h0 h1 hh m
      refine ih _ _ (fun m => ?_) m
      unfold hset
      by_cases e : m = n
      · simp [e, hh n]
      · simp only [if_neg e]; exact hh m
  have keep : ∀ (ns : List Nat) (h0 : Hp) (m : Nat), m ∉ ns → kills h0 ns m = h0 m := by
    intro ns
    induction ns with
    | nil => intro h0 m _; rfl
    | cons n ns ih =>
      intro h0 m hm
      simp only [kills]
      rw [ih _ m (fun h => hm (List.mem_cons_of_mem _ h))]
      simp [hset, show m ≠ n from fun e => hm (e ▸ List.mem_cons_self)]
  have dead : ∀ (ns : List Nat) (h0 : Hp) (m : Nat), m ∈ ns ∨ (h0 m).2 = .dead → (kills h0 ns m).2 = .dead := by
    intro ns
    induction ns with
    | nil => intro h0 m hm; rcases hm with hm | hm; cases hm; exact hm
    | cons n ns ih =>
      intro h0 m hm
      refine ih _ m ?_
      by_cases e : m = n
      · right; simp [hset, e]
      · rcases hm with hm | hm
        · rcases List.mem_cons.1 hm with hm | hm
          · exact absurd hm e
          · exact .inl hm
        · right; simp [hset, e, hm]
  refine ⟨α', ⟨fun m ae ha => by rw [ver names h (thawH h names) (fun _ => rfl)]; exact r'.ver m ae ha, fun m ae ha => ?_, r'.inj, r'.base, r'.grant⟩, e', hf, fun a u hv => thaw_ok r e' hf hv⟩
  by_cases hm : m ∈ names
  · have h1 := r'.at_ m ae ha
    rw [dead names h m (.inl hm)] at h1
    rw [dead names (thawH h names) m (.inl hm)]
    exact h1
  · rw [keep names _ m hm]
    have ha0 : α m = some ae := (hsame m hm).symm.trans ha
    have hat := r.at_ m ae ha0
    have hnew := hat.mono (fun _ _ _ _ => rfl) e'.keep e'.later
    simp only [thawH]
    cases hb : (h m).2 with
    | dead => rw [hb] at hnew; exact hnew
    | map es => rw [hb] at hnew; exact hnew
    | row sz els =>
      rw [hb] at hat
      simp only [thawB]
      obtain ⟨h1, h2, h3⟩ := hat
      refine ⟨h1, by simpa using h2, ?_⟩
      cases hblk : ae.blk with
      | none => rw [hblk] at h3; simp only at h3 ⊢; rw [h3]; rfl
      | some q =>
        obtain ⟨b, off, room⟩ := q
        rw [hblk] at h3
        simp only at h3 ⊢
        obtain ⟨h4, cs, t, h5, h6, h7⟩ := h3
        refine ⟨by simpa using h4, cs, t, h5, h6, fun e el he => ?_⟩
        rw [List.getElem?_map] at he
        obtain ⟨el0, h8, rfl⟩ := Option.map_eq_some_iff.1 he
        obtain ⟨h9, h10⟩ := h7 e el0 h8
        have hcells : (thawA h names el0).cells = el0.cells.map (thaw1 h names) := by
          have one : ∀ a : AV, a.one = true → a.cells = [a] := fun a ha => by cases a <;> first | rfl | (simp [AV.one] at ha)
          have hs : el0.storable = true := List.all_eq_true.2 fun a ha => by
            obtain ⟨c, hc⟩ := List.mem_iff_getElem?.1 ha
            exact (h10 c a hc).1
          cases el0 with
          | agg cs => rfl
          | _ =>
            have h11 := thaw1_one (h := h) (names := names) (a := _) (by simpa [AV.storable, AV.cells] using hs)
            exact one _ h11
        rw [hcells]
        refine ⟨by simpa using h9, fun c a hc => ?_⟩
        rw [List.getElem?_map] at hc
        obtain ⟨x, hx, rfl⟩ := Option.map_eq_some_iff.1 hc
        obtain ⟨h11, y, h12, h13⟩ := h10 c x hx
        exact ⟨thaw1_one h11, y, h12, thaw1_ok r e' hf h13⟩

end
end Go.Proofs.Ytihljollfbogeaa
