/- HistoryOrders: whatever the input, true, and the input reads as it did. No condition. -/
import Derived.Test.YtihljollfbogeaaB37
import Derived.Test.YtihljollfbogeaaR3
import Derived.Test.YtihljollfbogeaaF3
namespace Go.Proofs.Ytihljollfbogeaa
open Go Go.RowKit
/-! ### Shapes -/
def secSh : Sh := .arr 8 (.int .u8)
def wrSh : Sh := .agg (.more (.int .i64) (.more (.int .i64) (.more (.slice secSh) .none)))
def evSh : Sh := .agg (.more (.int .i64) (.more (.int .i64) .none))
def histSh : Sh := .agg (.more (.slice (.int .i64)) (.more (.slice wrSh) (.more (.slice evSh) .none)))
theorem fits_sec {l : List AV} (h : Fits secSh l) : ∃ s : Sec, AV.agg l = s.enc := by
  obtain ⟨ls, h1, h2, rfl⟩ := h
  have : ∀ m : List (List AV), (∀ l ∈ m, Fits (.int .u8) l ∧ l.length = Sh.size (.int .u8)) → ∃ ns : List Int, ns.length = m.length ∧ m.flatten = ns.map uA := by
    intro m
    induction m with
    | nil => intro _; exact ⟨[], rfl, rfl⟩
    | cons x m ih =>
      intro hm
      obtain ⟨ns, k1, k2⟩ := ih fun l hl => hm l (List.mem_cons_of_mem _ hl)
      obtain ⟨n, _, k3⟩ := (hm x List.mem_cons_self).1
      exact ⟨n :: ns, by simp [k1], by rw [List.flatten_cons, k3, k2]; rfl⟩
  obtain ⟨ns, k1, k2⟩ := this ls h2
  exact ⟨⟨ns, by rw [k1, h1]⟩, by rw [k2]; rfl⟩
theorem fits_secs {l : List AV} (h : Fits (.slice secSh) l) : ∃ xs : List Sec, l = [encSs xs] := by
  obtain ⟨xs, hx, rfl⟩ := h
  obtain ⟨ys, rfl, _⟩ := list_of Sec.enc (fun _ => True) (xs := xs) fun x hx' => by
    obtain ⟨l, h1, _, rfl⟩ := hx x hx'
    obtain ⟨s, hs⟩ := fits_sec h1
    exact ⟨s, trivial, hs⟩
  exact ⟨ys, rfl⟩
theorem fits_wrL {l : List AV} (h : Fits wrSh l) : ∃ w : Wr, AV.agg l = w.enc := by
  obtain ⟨_, _, rfl, h1, _, _, _, rfl, h2, _, _, _, rfl, h3, _, rfl⟩ := h
  obtain ⟨n1, _, rfl⟩ := fits_int h1
  obtain ⟨n2, _, rfl⟩ := fits_int h2
  obtain ⟨x3, rfl⟩ := fits_secs h3
  exact ⟨⟨n1, n2, x3⟩, rfl⟩
theorem fits_wrs {l : List AV} (h : Fits (.slice wrSh) l) : ∃ xs : List Wr, l = [encWs xs] := by
  obtain ⟨xs, hx, rfl⟩ := h
  obtain ⟨ys, rfl, _⟩ := list_of Wr.enc (fun _ => True) (xs := xs) fun x hx' => by
    obtain ⟨l, h1, _, rfl⟩ := hx x hx'
    obtain ⟨s, hs⟩ := fits_wrL h1
    exact ⟨s, trivial, hs⟩
  exact ⟨ys, rfl⟩
theorem fits_evL {l : List AV} (h : Fits evSh l) : ∃ w : Evt, AV.agg l = w.enc := by
  obtain ⟨_, _, rfl, h1, _, _, _, rfl, h2, _, rfl⟩ := h
  obtain ⟨n1, _, rfl⟩ := fits_int h1
  obtain ⟨n2, _, rfl⟩ := fits_int h2
  exact ⟨⟨n1, n2⟩, rfl⟩
theorem fits_evs {l : List AV} (h : Fits (.slice evSh) l) : ∃ xs : List Evt, l = [encEs xs] := by
  obtain ⟨xs, hx, rfl⟩ := h
  obtain ⟨ys, rfl, _⟩ := list_of Evt.enc (fun _ => True) (xs := xs) fun x hx' => by
    obtain ⟨l, h1, _, rfl⟩ := hx x hx'
    obtain ⟨s, hs⟩ := fits_evL h1
    exact ⟨s, trivial, hs⟩
  exact ⟨ys, rfl⟩
theorem fits_histL {l : List AV} (h : Fits histSh l) : ∃ g : Hist, AV.agg l = g.enc := by
  obtain ⟨_, _, rfl, h1, _, _, _, rfl, h2, _, _, _, rfl, h3, _, rfl⟩ := h
  obtain ⟨x1, rfl, _⟩ := fits_ints h1
  obtain ⟨x2, rfl⟩ := fits_wrs h2
  obtain ⟨x3, rfl⟩ := fits_evs h3
  exact ⟨⟨x1, x2, x3⟩, rfl⟩
theorem fits_hist {a : AV} (h : FitsV histSh a) : ∃ g : Hist, a = g.enc := by
  obtain ⟨l, h, _, rfl⟩ := h
  exact fits_histL h
theorem fits_wr {a : AV} (h : FitsV wrSh a) : ∃ g : Wr, a = g.enc := by
  obtain ⟨l, h, _, rfl⟩ := h
  exact fits_wrL h
theorem fits_intsV {a : AV} (h : FitsV (.slice (.int .i64)) a) : ∃ xs : List Int, a = encIs xs ∧ ∀ x ∈ xs, in64 x := by
  obtain ⟨l, h, _, rfl⟩ := h
  obtain ⟨xs, rfl, hx⟩ := fits_ints h
  exact ⟨xs, rfl, hx⟩
theorem fits_pair {a : AV} (h : FitsV (.arr 2 (.int .i64)) a) : ∃ x y : Int, a = .agg [encI x, encI y] := by
  obtain ⟨l, ⟨ls, h1, h2, rfl⟩, _, rfl⟩ := h
  match ls, h1 with
  | [l1, l2], _ =>
    obtain ⟨x, _, e1⟩ := fits_int (h2 l1 (by simp)).1
    obtain ⟨y, _, e2⟩ := fits_int (h2 l2 (by simp)).1
    exact ⟨x, y, by rw [e1, e2]; rfl⟩
theorem okL_50 {l : List Int} (h : l.length ≤ 50) : okL l := by simp only [okL, big]; omega
theorem ackH_len {h : Hist} (hh : OkH h) (n : Int) : okL (ackH h n) := by
  unfold ackH okL
  split
  · exact Nat.le_trans (ackd_len _ _ _) hh.writes
  · exact Nat.zero_le _
noncomputable def H3h : Hand := mkH [(28, x28), (29, x29), (30, x30), (31, x31), (32, x32), (33, x33), (34, x34), (35, x35), (36, x36)]
theorem H3h_ok : HandOk Try.prog H3h := mkH_ok <| known_more x28_ok <| known_more x29_ok <| known_more x30_ok <| known_more x31_ok <| known_more x32_ok <| known_more x33_ok <| known_more x34_ok <| known_more x35_ok <| known_more x36_ok known_nil
theorem good3 (h : Hist) (set : List Int) (a b : Int) : Good Try.prog 3 [h.enc, encIs set, .agg [encI a, encI b]] (encB true) :=
  (good_of_ends H3h_ok no_inl mixed Try.func3 k3 (law3_run H3h (fun _ _ _ _ => none) 0 h set a b (fewH h) (beforeH h a b) (closedH h set) (ackH h a) (x28_eq h) rfl (fun hf hs => by
    have hh := fewH_ok hf
    have hl := okL_50 hs
    have h34 := x34_eq (ackH h a) (ackH_len hh a)
    rw [decide_eq_true rfl] at h34
    exact ⟨x30_eq hh a b, x31_eq hh a b, x32_eq hh hl, x33_eq hh hl, x35_eq hh a, x36_eq hh a, h34⟩))).2
theorem historyOrders_lifted (os : Os) (started : os.Started) (H : Type) (enc : TypeId × Value → H) :
    ReturnsInHanded {} Try.checked os 3 .any (Rows.historyOrdersSpec.pre6 enc Try.prog Try.f3 [] false) (Rows.historyOrdersSpec.post enc Try.prog Try.f3 false true false false) :=
  law_lifted (C := Try.checked) (tb := 4) Try.own started (by kernel_rfl) Try.func3
    (ChangeSpec.witness6 (enc := enc) (C := Try.checked) false ⟨#[], #[.agg #[.slice none 0 0, .slice none 0 0, .slice none 0 0], .slice none 0 0, .agg #[.int .i64 0, .int .i64 0]], []⟩ 8 (by kernel_rfl) (by kernel_rfl) (by kernel_rfl) (by kernel_rfl))
    rfl Try.laidOut (by decide +kernel) (by kernel_rfl) (by kernel_rfl)
    (fun ds hd => by match ds, hd with | [_, _, _], _ => rfl)
    [histSh, .slice (.int .i64), .arr 2 (.int .i64)] (by kernel_rfl)
    (fun l hl => by
      obtain ⟨a, _, rfl, h1, b, _, rfl, h2, c, _, rfl, h3, rfl⟩ := hl
      obtain ⟨h, rfl⟩ := fits_hist h1
      obtain ⟨set, rfl, _⟩ := fits_intsV h2
      obtain ⟨x, y, rfl⟩ := fits_pair h3
      exact good3 h set x y)
theorem named3 : Try.pinned.checked.prog.funcNamed Rows.historyOrdersRow.func = some 3 := by kernel_rfl
theorem inst3 : Try.f3.isInstance Try.pinned.checked.prog Rows.historyOrdersRow.origin Rows.historyOrdersRow.targs := of_decide_eq_true (by kernel_rfl)
theorem wrap3 : Try.f3.isWrapper Try.pinned.checked.prog Rows.historyOrdersRow.wrapper Rows.historyOrdersRow.mainSum := by unfold Func.isWrapper; rw [if_neg (by decide +kernel)]; exact ⟨rfl, rfl⟩
theorem historyOrders : Rows.HistoryOrdersSaid :=
  OpenClaim.holds_of_wide 3 Try.f3 rfl rfl rfl rfl rfl rfl rfl ⟨rfl, rfl, rfl, rfl, rfl⟩ rfl rfl rfl rfl rfl named3 Try.func3 j3 inst3 wrap3 (fun os started H enc _ => historyOrders_lifted os started H enc)
end Go.Proofs.Ytihljollfbogeaa
