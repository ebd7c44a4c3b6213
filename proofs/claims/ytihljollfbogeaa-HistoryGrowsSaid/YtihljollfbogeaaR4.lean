/- Shapes of histories. No condition. -/
import Derived.Test.YtihljollfbogeaaE1
import Derived.Test.YtihljollfbogeaaR3
namespace Go.Proofs.Ytihljollfbogeaa
open Go Go.RowKit
/-! ### Shapes -/
def secSh : Sh := .arr 8 (.int .u8)
def wrSh : Sh := .agg (.more (.int .i64) (.more (.int .i64) (.more (.slice secSh) .none)))
def evSh : Sh := .agg (.more (.int .i64) (.more (.int .i64) .none))
def histSh : Sh := .agg (.more (.slice (.int .i64)) (.more (.slice wrSh) (.more (.slice evSh) .none)))
theorem fits_sec {l : List AV} (h : Fits secSh l) : ∃ s : Sec, AV.agg l = s.enc := by
  obtain ⟨ls, h1, h2, rfl⟩ := h
  have : ∀ m : List (List AV), (∀ l ∈ m, Fits (.int .u8) l ∧ l.length = Sh.size (.int .u8)) → ∃ ns : List Int, ns.length = m.length ∧ m.flatten = ns.map uA := by
    intro m
    induction m with
    | nil => intro _; exact ⟨[], rfl, rfl⟩
    | cons x m ih =>
      intro hm
      obtain ⟨ns, k1, k2⟩ := ih fun l hl => hm l (List.mem_cons_of_mem _ hl)
      obtain ⟨n, _, k3⟩ := (hm x List.mem_cons_self).1
      exact ⟨n :: ns, by simp [k1], by rw [List.flatten_cons, k3, k2]; rfl⟩
  obtain ⟨ns, k1, k2⟩ := this ls h2
  exact ⟨⟨ns, by rw [k1, h1]⟩, by rw [k2]; rfl⟩
theorem fits_secs {l : List AV} (h : Fits (.slice secSh) l) : ∃ xs : List Sec, l = [encSs xs] := by
  obtain ⟨xs, hx, rfl⟩ := h
  obtain ⟨ys, rfl, _⟩ := list_of Sec.enc (fun _ => True) (xs := xs) fun x hx' => by
    obtain ⟨l, h1, _, rfl⟩ := hx x hx'
    obtain ⟨s, hs⟩ := fits_sec h1
    exact ⟨s, trivial, hs⟩
  exact ⟨ys, rfl⟩
theorem fits_wrL {l : List AV} (h : Fits wrSh l) : ∃ w : Wr, AV.agg l = w.enc := by
  obtain ⟨_, _, rfl, h1, _, _, _, rfl, h2, _, _, _, rfl, h3, _, rfl⟩ := h
  obtain ⟨n1, _, rfl⟩ := fits_int h1
  obtain ⟨n2, _, rfl⟩ := fits_int h2
  obtain ⟨x3, rfl⟩ := fits_secs h3
  exact ⟨⟨n1, n2, x3⟩, rfl⟩
theorem fits_wrs {l : List AV} (h : Fits (.slice wrSh) l) : ∃ xs : List Wr, l = [encWs xs] := by
  obtain ⟨xs, hx, rfl⟩ := h
  obtain ⟨ys, rfl, _⟩ := list_of Wr.enc (fun _ => True) (xs := xs) fun x hx' => by
    obtain ⟨l, h1, _, rfl⟩ := hx x hx'
    obtain ⟨s, hs⟩ := fits_wrL h1
    exact ⟨s, trivial, hs⟩
  exact ⟨ys, rfl⟩
theorem fits_evL {l : List AV} (h : Fits evSh l) : ∃ w : Evt, AV.agg l = w.enc := by
  obtain ⟨_, _, rfl, h1, _, _, _, rfl, h2, _, rfl⟩ := h
  obtain ⟨n1, _, rfl⟩ := fits_int h1
  obtain ⟨n2, _, rfl⟩ := fits_int h2
  exact ⟨⟨n1, n2⟩, rfl⟩
theorem fits_evs {l : List AV} (h : Fits (.slice evSh) l) : ∃ xs : List Evt, l = [encEs xs] := by
  obtain ⟨xs, hx, rfl⟩ := h
  obtain ⟨ys, rfl, _⟩ := list_of Evt.enc (fun _ => True) (xs := xs) fun x hx' => by
    obtain ⟨l, h1, _, rfl⟩ := hx x hx'
    obtain ⟨s, hs⟩ := fits_evL h1
    exact ⟨s, trivial, hs⟩
  exact ⟨ys, rfl⟩
theorem fits_histL {l : List AV} (h : Fits histSh l) : ∃ g : Hist, AV.agg l = g.enc := by
  obtain ⟨_, _, rfl, h1, _, _, _, rfl, h2, _, _, _, rfl, h3, _, rfl⟩ := h
  obtain ⟨x1, rfl, _⟩ := fits_ints h1
  obtain ⟨x2, rfl⟩ := fits_wrs h2
  obtain ⟨x3, rfl⟩ := fits_evs h3
  exact ⟨⟨x1, x2, x3⟩, rfl⟩
theorem fits_hist {a : AV} (h : FitsV histSh a) : ∃ g : Hist, a = g.enc := by
  obtain ⟨l, h, _, rfl⟩ := h
  exact fits_histL h
theorem fits_wr {a : AV} (h : FitsV wrSh a) : ∃ g : Wr, a = g.enc := by
  obtain ⟨l, h, _, rfl⟩ := h
  exact fits_wrL h
theorem fits_intsV {a : AV} (h : FitsV (.slice (.int .i64)) a) : ∃ xs : List Int, a = encIs xs ∧ ∀ x ∈ xs, in64 x := by
  obtain ⟨l, h, _, rfl⟩ := h
  obtain ⟨xs, rfl, hx⟩ := fits_ints h
  exact ⟨xs, rfl, hx⟩
theorem fits_pair {a : AV} (h : FitsV (.arr 2 (.int .i64)) a) : ∃ x y : Int, a = .agg [encI x, encI y] := by
  obtain ⟨l, ⟨ls, h1, h2, rfl⟩, _, rfl⟩ := h
  match ls, h1 with
  | [l1, l2], _ =>
    obtain ⟨x, _, e1⟩ := fits_int (h2 l1 (by simp)).1
    obtain ⟨y, _, e2⟩ := fits_int (h2 l2 (by simp)).1
    exact ⟨x, y, by rw [e1, e2]; rfl⟩
end Go.Proofs.Ytihljollfbogeaa
