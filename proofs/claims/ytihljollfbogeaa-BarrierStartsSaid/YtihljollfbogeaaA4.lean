/- Our own blocks: new ones, written ones; what is kept. No condition. -/
import Derived.Test.YtihljollfbogeaaA3
namespace Go.Proofs.Ytihljollfbogeaa
open Go Go.RowKit

def upd (α : Al) (n : Nat) (ae : AE) : Al := ⟨fun m => if m = n then some ae else α m, α.G⟩
theorem upd_same (α : Al) (n : Nat) (ae : AE) : upd α n ae n = some ae := if_pos rfl
theorem upd_ne (α : Al) {n m : Nat} (ae : AE) (h : m ≠ n) : upd α n ae m = α m := if_neg h
theorem upd_self {α : Al} {n : Nat} {ae : AE} (ha : α n = some ae) : upd α n ae = α := by
  have : (fun m => if m = n then some ae else α m) = α.f := by
    funext m
    split
    · rename_i e; rw [e, ha]
    · rfl
  unfold upd
  rw [this]

section
variable {P : Program} {w : World} {α : Al} {base : Nat} {h : Hp}

theorem later_upd (r : Rel base h w α) {n : Nat} {ae' : AE} (hv : (h n).1 < ae'.ver ∨ α n = some ae') : Later α (upd α n ae') := fun m ae ha => by
  by_cases e : m = n
  · subst e
    refine ⟨ae', upd_same _ _ _, ?_, fun e => ?_⟩
    · rcases hv with hv | hv
      · have := r.ver m ae ha; omega
      · rw [ha] at hv; cases hv; exact Nat.le_refl _
    · rcases hv with hv | hv
      · have := r.ver m ae ha; omega
      · rw [ha] at hv; exact (Option.some.inj hv).symm
  · exact ⟨ae, by rw [upd_ne _ _ e]; exact ha, Nat.le_refl _, fun _ => rfl⟩

/-- Some cells of ours that fit abstract ones: of elements of sz cells, from place off on. -/
def Fit (w : World) (ok : Nat → Prop) (α : Al) (cs : List Value) (off sz : Nat) (els : List AV) : Prop :=
  ∀ (e : Nat) (el : AV), els[e]? = some el → el.cells.length = sz ∧ ∀ (c : Nat) (a : AV), el.cells[c]? = some a → a.one = true ∧ ∃ x, cs[off + e * sz + c]? = some x ∧ V1 w ok α a x

/-- A block's row under a name is another one now. -/
theorem Rel.turn (r : Rel base h w α) {w' : World} {n sz b off room : Nat} {els : List AV} {ae' : AE} {cs : Array Value} {t : TypeId}
    (hv : (h n).1 < ae'.ver ∨ α n = some ae') (hsz : ae'.sz = sz) (hlen : ae'.len = els.length) (hblk : ae'.blk = some (b, off, room)) (hroom : els.length ≤ room)
    (hcs : w'.heap[b]? = some (.cells cs t (0, 0))) (hsize : off + room * sz ≤ cs.size) (hfit : Fit w (okA w α) α cs.toList off sz els)
    (hbase : base ≤ b) (hfresh : ∀ m ae b' o r', α m = some ae → ae.blk = some (b', o, r') → b' = b → m = n)
    (hos : w'.os = w.os) (htape : w'.tape = w.tape) (hout : w'.output = w.output) (hgrow : w.heap.size ≤ w'.heap.size) (hnew : free w α b → False)
    (hkeep : ∀ k, k < w.heap.size → k ≠ b → w'.heap[k]? = w.heap[k]?) :
    Rel base (hset h n (ae'.ver, .row sz els)) w' (upd α n ae') ∧ Ext w α w' (upd α n ae') := by
  have hl := later_upd r hv
  have hbF : ∀ k, free w α k → free w' (upd α n ae') k ∧ w'.heap[k]? = w.heap[k]? := fun k hk => by
    have hkb : k ≠ b := fun e => hnew (e ▸ hk)
    refine ⟨⟨Nat.lt_of_lt_of_le hk.1 hgrow, fun m ae o r' ha => ?_⟩, hkeep k hk.1 hkb⟩
    by_cases e : m = n
    · subst e
      rw [upd_same] at ha
      cases ha
      rw [hblk]
      simp
      exact fun e => absurd e.symm hkb
    · rw [upd_ne _ _ e] at ha
      exact hk.2 m ae o r' ha
  have hb := okA_of_free hbF rfl
  refine ⟨⟨fun m ae ha => ?_, fun m ae ha => ?_, fun m m' ae ae1 b1 o1 r1 o2 r2 h1 h2 h3 h4 => ?_, fun m ae b1 o1 r1 h1 h2 => ?_, r.grant⟩, hos, htape, hout, hgrow, hbF, hl, rfl⟩
  · by_cases e : m = n
    · subst e
      rw [upd_same] at ha
      cases ha
      simp [hset]
    · rw [upd_ne _ _ e] at ha
      simp [hset, e]
      exact r.ver m ae ha
  · by_cases e : m = n
    · subst e
      rw [upd_same] at ha
      cases ha
      simp only [hset, if_true]
      refine ⟨hsz, hlen, ?_⟩
      rw [hblk]
      refine ⟨hroom, cs, t, hcs, hsize, fun e el he => ?_⟩
      obtain ⟨h1, h2⟩ := hfit e el he
      refine ⟨h1, fun c a ha => ?_⟩
      obtain ⟨h3, x, hx, hv⟩ := h2 c a ha
      exact ⟨h3, x, by simpa using hx, hv.mono hb hl⟩
    · rw [upd_ne _ _ e] at ha
      simp only [hset, if_neg e]
      refine (r.at_ m ae ha).mono (fun b' o r' hb' => ?_) hb hl
      exact hkeep b' (r.base m ae b' o r' ha hb').2 (fun e' => e (hfresh m ae b' o r' ha hb' e'))
  · by_cases e : m = n
    · by_cases e' : m' = n
      · rw [e, e']
      · subst e
        rw [upd_same] at h1
        cases h1
        rw [upd_ne _ _ e'] at h2
        rw [hblk] at h3
        cases h3
        exact absurd (hfresh m' ae1 b o2 r2 h2 h4 rfl) e'
    · rw [upd_ne _ _ e] at h1
      by_cases e' : m' = n
      · subst e'
        rw [upd_same] at h2
        cases h2
        rw [hblk] at h4
        cases h4
        exact absurd (hfresh m ae b o1 r1 h1 h3 rfl) e
      · rw [upd_ne _ _ e'] at h2
        exact r.inj m m' ae ae1 b1 o1 r1 o2 r2 h1 h2 h3 h4
  · by_cases e : m = n
    · subst e
      rw [upd_same] at h1
      cases h1
      rw [hblk] at h2
      cases h2
      exact ⟨hbase, (Array.getElem?_eq_some_iff.1 hcs).1⟩
    · rw [upd_ne _ _ e] at h1
      have := r.base m ae b1 o1 r1 h1 h2
      exact ⟨this.1, Nat.lt_of_lt_of_le this.2 hgrow⟩

/-- A new block under a name. -/
theorem Rel.new (r : Rel base h w α) (n sz room : Nat) {els : List AV} {cs : Array Value} (t : TypeId) (hbase : base ≤ w.heap.size) (hroom : els.length ≤ room) (hsize : room * sz ≤ cs.size) (hfit : Fit w (okA w α) α cs.toList 0 sz els) :
    Rel base (hset h n ((h n).1 + 1, .row sz els)) (w.alloc (.cells cs t)) (upd α n ⟨(h n).1 + 1, sz, els.length, some (w.heap.size, 0, room)⟩) ∧
      Ext w α (w.alloc (.cells cs t)) (upd α n ⟨(h n).1 + 1, sz, els.length, some (w.heap.size, 0, room)⟩) :=
  r.turn (ae' := ⟨(h n).1 + 1, sz, els.length, some (w.heap.size, 0, room)⟩) (b := w.heap.size) (off := 0) (room := room) (.inl (Nat.lt_succ_self _)) rfl rfl rfl hroom (heap_alloc_new w _) (by omega) (by simpa using hfit) hbase
    (fun m ae b' o r' ha hb e => absurd (r.base m ae b' o r' ha hb).2 (by omega)) rfl rfl rfl (by simp) (fun h => absurd h.1 (by omega)) (fun k hk _ => heap_alloc_old w _ k hk)

/-- A name for an empty row that lies nowhere. -/
theorem Rel.virt (r : Rel base h w α) (n sz : Nat) :
    Rel base (hset h n ((h n).1 + 1, .row sz [])) w (upd α n ⟨(h n).1 + 1, sz, 0, none⟩) ∧ Ext w α w (upd α n ⟨(h n).1 + 1, sz, 0, none⟩) := by
  have hl := later_upd r (n := n) (ae' := ⟨(h n).1 + 1, sz, 0, none⟩) (.inl (Nat.lt_succ_self _))
  have hbF : ∀ k, free w α k → free w (upd α n ⟨(h n).1 + 1, sz, 0, none⟩) k ∧ w.heap[k]? = w.heap[k]? := fun k hk => by
    refine ⟨⟨hk.1, fun m ae o r' ha => ?_⟩, rfl⟩
    by_cases e : m = n
    · subst e; rw [upd_same] at ha; cases ha; simp
    · rw [upd_ne _ _ e] at ha; exact hk.2 m ae o r' ha
  have hb := okA_of_free hbF rfl
  refine ⟨⟨fun m ae ha => ?_, fun m ae ha => ?_, fun m m' ae ae1 b1 o1 r1 o2 r2 h1 h2 h3 h4 => ?_, fun m ae b1 o1 r1 h1 h2 => ?_, r.grant⟩, rfl, rfl, rfl, Nat.le_refl _, hbF, hl, rfl⟩
  · by_cases e : m = n
    · subst e; rw [upd_same] at ha; cases ha; simp [hset]
    · rw [upd_ne _ _ e] at ha; simp [hset, e]; exact r.ver m ae ha
  · by_cases e : m = n
    · subst e; rw [upd_same] at ha; cases ha; simp only [hset, if_true]; exact ⟨rfl, rfl, rfl⟩
    · rw [upd_ne _ _ e] at ha
      simp only [hset, if_neg e]
      exact (r.at_ m ae ha).mono (fun _ _ _ _ => rfl) hb hl
  · by_cases e : m = n
    · subst e; rw [upd_same] at h1; cases h1; cases h3
    · by_cases e' : m' = n
      · subst e'; rw [upd_same] at h2; cases h2; cases h4
      · rw [upd_ne _ _ e] at h1; rw [upd_ne _ _ e'] at h2
        exact r.inj m m' ae ae1 b1 o1 r1 o2 r2 h1 h2 h3 h4
  · by_cases e : m = n
    · subst e; rw [upd_same] at h1; cases h1; cases h2
    · rw [upd_ne _ _ e] at h1; exact r.base m ae b1 o1 r1 h1 h2

/-- A name that is given up. -/
theorem Rel.drop (r : Rel base h w α) (n : Nat) :
    Rel base (hset h n ((h n).1 + 1, .dead)) w (upd α n ⟨(h n).1 + 1, 0, 0, none⟩) ∧ Ext w α w (upd α n ⟨(h n).1 + 1, 0, 0, none⟩) := by
  have hl := later_upd r (n := n) (ae' := ⟨(h n).1 + 1, 0, 0, none⟩) (.inl (Nat.lt_succ_self _))
  have hbF : ∀ k, free w α k → free w (upd α n ⟨(h n).1 + 1, 0, 0, none⟩) k ∧ w.heap[k]? = w.heap[k]? := fun k hk => by
    refine ⟨⟨hk.1, fun m ae o r' ha => ?_⟩, rfl⟩
    by_cases e : m = n
    · subst e; rw [upd_same] at ha; cases ha; simp
    · rw [upd_ne _ _ e] at ha; exact hk.2 m ae o r' ha
  have hb := okA_of_free hbF rfl
  refine ⟨⟨fun m ae ha => ?_, fun m ae ha => ?_, fun m m' ae ae1 b1 o1 r1 o2 r2 h1 h2 h3 h4 => ?_, fun m ae b1 o1 r1 h1 h2 => ?_, r.grant⟩, rfl, rfl, rfl, Nat.le_refl _, hbF, hl, rfl⟩
  · by_cases e : m = n
    · subst e; rw [upd_same] at ha; cases ha; simp [hset]
    · rw [upd_ne _ _ e] at ha; simp [hset, e]; exact r.ver m ae ha
  · by_cases e : m = n
    · subst e; rw [upd_same] at ha; cases ha; simp only [hset, if_true]; rfl
    · rw [upd_ne _ _ e] at ha
      simp only [hset, if_neg e]
      exact (r.at_ m ae ha).mono (fun _ _ _ _ => rfl) hb hl
  · by_cases e : m = n
    · subst e; rw [upd_same] at h1; cases h1; cases h3
    · by_cases e' : m' = n
      · subst e'; rw [upd_same] at h2; cases h2; cases h4
      · rw [upd_ne _ _ e] at h1; rw [upd_ne _ _ e'] at h2
        exact r.inj m m' ae ae1 b1 o1 r1 o2 r2 h1 h2 h3 h4
  · by_cases e : m = n
    · subst e; rw [upd_same] at h1; cases h1; cases h2
    · rw [upd_ne _ _ e] at h1; exact r.base m ae b1 o1 r1 h1 h2

/-- A row of ours written over, in its place. -/
theorem Rel.write (r : Rel base h w α) {n sz b off room off' room' : Nat} {els : List AV} {ae ae' : AE} {cs cs' : Array Value} {t : TypeId}
    (ha : α n = some ae) (hblk0 : ae.blk = some (b, off, room)) (hcs : w.heap[b]? = some (.cells cs t (0, 0))) (hsize' : cs'.size = cs.size)
    (hv : (h n).1 < ae'.ver ∨ α n = some ae') (hsz : ae'.sz = sz) (hlen : ae'.len = els.length) (hblk : ae'.blk = some (b, off', room')) (hroom : els.length ≤ room')
    (hsize : off' + room' * sz ≤ cs.size) (hfit : Fit w (okA w α) α cs'.toList off' sz els) :
    Rel base (hset h n (ae'.ver, .row sz els)) (w.setRow b cs') (upd α n ae') ∧ Ext w α (w.setRow b cs') (upd α n ae') :=
  r.turn (w' := w.setRow b cs') hv hsz hlen hblk hroom (setRow_heap w b cs cs' t (0, 0) hcs) (by omega) hfit (r.base n ae b off room ha hblk0).1
    (fun m ae1 b' o r' hm hb e => by subst e; exact r.inj m n ae1 ae b' o r' off room hm ha hb hblk0) rfl rfl rfl (by simp) (fun hk => hk.2 n ae off room ha hblk0)
    (fun k _ hk => by simp [World.setRow, Array.getElem?_modify, Ne.symm hk])

end
end Go.Proofs.Ytihljollfbogeaa
