/- Histories as data. No condition. -/
import Derived.Test.YtihljollfbogeaaE0
namespace Go.Proofs.Ytihljollfbogeaa
open Go Go.RowKit
def Sec : Type := { l : List Int // l.length = 8 }
def Sec.enc (s : Sec) : AV := .agg (s.1.map uA)
structure Wr where
  vol : Int
  start : Int
  data : List Sec
def Wr.enc (w : Wr) : AV := .agg [encI w.vol, encI w.start, .imm (w.data.map Sec.enc)]
structure Evt where
  kind : Int
  wr : Int
deriving DecidableEq
def Evt.enc (e : Evt) : AV := .agg [encI e.kind, encI e.wr]
structure Hist where
  sizes : List Int
  writes : List Wr
  events : List Evt
def encIs (l : List Int) : AV := .imm (l.map encI)
def encSs (l : List Sec) : AV := .imm (l.map Sec.enc)
def encWs (l : List Wr) : AV := .imm (l.map Wr.enc)
def encEs (l : List Evt) : AV := .imm (l.map Evt.enc)
def Hist.enc (h : Hist) : AV := .agg [encIs h.sizes, encWs h.writes, encEs h.events]
def Hist.zero : Hist := ⟨[], [], []⟩

theorem uA_inj (a b : Int) (h : uA a = uA b) : a = b := by simpa [uA] using h
theorem Sec.enc_inj (a b : Sec) (h : a.enc = b.enc) : a = b := by
  simp only [Sec.enc, AV.agg.injEq] at h
  exact Subtype.ext (map_inj uA_inj h)
theorem Wr.enc_inj (a b : Wr) (h : a.enc = b.enc) : a = b := by
  obtain ⟨a1, a2, a3⟩ := a
  obtain ⟨b1, b2, b3⟩ := b
  simp only [Wr.enc, encI, AV.agg.injEq, List.cons.injEq, AV.sc.injEq, Value.int.injEq, true_and, AV.imm.injEq, and_true] at h
  obtain ⟨rfl, rfl, h3⟩ := h
  rw [map_inj Sec.enc_inj h3]
theorem Evt.enc_inj (a b : Evt) (h : a.enc = b.enc) : a = b := by
  obtain ⟨a1, a2⟩ := a
  obtain ⟨b1, b2⟩ := b
  simp only [Evt.enc, encI, AV.agg.injEq, List.cons.injEq, AV.sc.injEq, Value.int.injEq, true_and, and_true] at h
  obtain ⟨rfl, rfl⟩ := h
  rfl
theorem encIs_inj (a b : List Int) (h : encIs a = encIs b) : a = b := map_inj encI_inj (by simpa only [encIs, AV.imm.injEq] using h)
theorem encWs_inj (a b : List Wr) (h : encWs a = encWs b) : a = b := map_inj Wr.enc_inj (by simpa only [encWs, AV.imm.injEq] using h)
theorem encEs_inj (a b : List Evt) (h : encEs a = encEs b) : a = b := map_inj Evt.enc_inj (by simpa only [encEs, AV.imm.injEq] using h)
theorem Hist.enc_inj (a b : Hist) (h : a.enc = b.enc) : a = b := by
  obtain ⟨a1, a2, a3⟩ := a
  obtain ⟨b1, b2, b3⟩ := b
  simp only [Hist.enc, AV.agg.injEq, List.cons.injEq, and_true] at h
  rw [encIs_inj _ _ h.1, encWs_inj _ _ h.2.1, encEs_inj _ _ h.2.2]

theorem Sec.len (s : Sec) : (s.1.map uA).length = 8 := by simp [s.2]
theorem Sec.ok (s : Sec) : okEl 8 s.enc = true := by
  simp only [okEl, Sec.enc, AV.storable, AV.cells, s.len]
  simp [uA, AV.one]
theorem Sec.pure (s : Sec) : s.enc.pure = true := by simp [Sec.enc, AV.pure, AV.cells, uA, AV.pure1]
theorem Sec.norm (s : Sec) : norm s.enc = s.enc := by simp [Sec.enc, Ytihljollfbogeaa.norm, uA, norm1]
theorem Wr.ok (w : Wr) : okEl 3 w.enc = true := by simp [okEl, Wr.enc, AV.storable, AV.cells, AV.one, encI]
theorem Wr.pure (w : Wr) : w.enc.pure = true := by simp [Wr.enc, AV.pure, AV.cells, encI, AV.pure1]
theorem Wr.norm (w : Wr) : norm w.enc = w.enc := by simp [Wr.enc, Ytihljollfbogeaa.norm, encI, norm1]
theorem Evt.ok (w : Evt) : okEl 2 w.enc = true := by simp [okEl, Evt.enc, AV.storable, AV.cells, AV.one, encI]
theorem Evt.pure (w : Evt) : w.enc.pure = true := by simp [Evt.enc, AV.pure, AV.cells, encI, AV.pure1]
theorem Evt.norm (w : Evt) : norm w.enc = w.enc := by simp [Evt.enc, Ytihljollfbogeaa.norm, encI, norm1]
theorem all_map {β : Type} {f : β → AV} {p : AV → Bool} (h : ∀ x, p (f x) = true) (l : List β) : (l.map f).all p = true := by
  rw [List.all_eq_true]; intro a ha; obtain ⟨x, _, rfl⟩ := List.mem_map.1 ha; exact h x
theorem map_norm {β : Type} {f : β → AV} (h : ∀ x, norm (f x) = f x) (l : List β) : (l.map f).map norm = l.map f := by
  rw [List.map_map]; exact List.map_congr_left fun x _ => h x
theorem hClone_of {β : Type} {k : Nat} {f : β → AV} (h1 : ∀ x, okEl k (f x) = true) (h2 : ∀ x, (f x).pure = true) (h3 : ∀ x, norm (f x) = f x) {l : List β} (hl : l.length ≤ 1073741824) : hClone k [.imm (l.map f)] = some (.imm (l.map f)) := by
  simp only [hClone]
  rw [if_pos ⟨all_map h1 l, all_map h2 l, by simpa [LIM] using hl⟩, map_norm h3]
end Go.Proofs.Ytihljollfbogeaa
