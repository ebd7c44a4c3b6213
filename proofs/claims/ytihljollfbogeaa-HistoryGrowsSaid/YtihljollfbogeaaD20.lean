/- HistoryGrows: whatever the input, true, and the input reads as it did. No condition. -/
import Derived.Test.YtihljollfbogeaaB48
import Derived.Test.YtihljollfbogeaaD19
import Derived.Test.YtihljollfbogeaaD10
import Derived.Test.YtihljollfbogeaaR4
import Derived.Test.YtihljollfbogeaaF10
namespace Go.Proofs.Ytihljollfbogeaa
open Go Go.RowKit
noncomputable def H10 : Hand := mkH [(28, x28), (29, x29), (55, x55), (74, x74), (75, x75), (76, x76), (77, x77)]
theorem H10_ok : HandOk Try.prog H10 := mkH_ok <| known_more x28_ok <| known_more x29_ok <| known_more x55_ok <| known_more x74_ok <| known_more x75_ok <| known_more x76_ok <| known_more x77_ok known_nil
theorem fewH_ok1 {h : Hist} (hf : fewH h = true) : OkH1 h := by
  refine ⟨fewH_ok hf, ?_, ?_⟩ <;>
  · unfold fewH at hf
    simp only [Bool.and_eq_true, decide_eq_true_eq, Bool.not_eq_true'] at hf
    simp only [big]; omega
theorem good10 (h : Hist) (w : Wr) (k : Int) : Good Try.prog 10 [h.enc, w.enc, encI k] (encB true) :=
  (good_of_ends H10_ok no_inl mixed Try.func10 k10 (law10_run H10 (fun _ _ _ _ => none) 0 h w k (fewH h) (issueH h w) (ackOf h k) (x28_eq h) rfl (fun hf hw => by
    have hh := fewH_ok1 hf
    have hd : w.data.length ≤ big := by simp only [big]; omega
    exact ⟨x74_eq hh.1 hd, x75_eq hh hd, x76_eq hh.1 k, x77_eq hh k, x55_same (issueH_ok hh.1 hd hh.2.1 hh.2.2), x55_same (ackOf_ok hh k)⟩))).2
theorem historyGrows_lifted (os : Os) (started : os.Started) (H : Type) (enc : TypeId × Value → H) :
    ReturnsInHanded {} Try.checked os 10 .any (Rows.historyGrowsSpec.pre6 enc Try.prog Try.f10 [] false) (Rows.historyGrowsSpec.post enc Try.prog Try.f10 false true false false) :=
  law_lifted (C := Try.checked) (tb := 4) Try.own started (by kernel_rfl) Try.func10
    (ChangeSpec.witness6 (enc := enc) (C := Try.checked) false ⟨#[], #[.agg #[.slice none 0 0, .slice none 0 0, .slice none 0 0], .agg #[.int .i64 0, .int .i64 0, .slice none 0 0], .int .i64 0], []⟩ 8 (by kernel_rfl) (by kernel_rfl) (by kernel_rfl) (by kernel_rfl))
    rfl Try.laidOut (by decide +kernel) (by kernel_rfl) (by kernel_rfl)
    (fun ds hd => by match ds, hd with | [_, _, _], _ => rfl)
    [histSh, wrSh, .int .i64] (by kernel_rfl)
    (fun l hl => by
      obtain ⟨a, _, rfl, h1, b, _, rfl, h2, c, _, rfl, h3, rfl⟩ := hl
      obtain ⟨h, rfl⟩ := fits_hist h1
      obtain ⟨w, rfl⟩ := fits_wr h2
      obtain ⟨k, _, rfl⟩ := fits_intV h3
      exact good10 h w k)
theorem named10 : Try.pinned.checked.prog.funcNamed Rows.historyGrowsRow.func = some 10 := by kernel_rfl
theorem inst10 : Try.f10.isInstance Try.pinned.checked.prog Rows.historyGrowsRow.origin Rows.historyGrowsRow.targs := of_decide_eq_true (by kernel_rfl)
theorem wrap10 : Try.f10.isWrapper Try.pinned.checked.prog Rows.historyGrowsRow.wrapper Rows.historyGrowsRow.mainSum := by unfold Func.isWrapper; rw [if_neg (by decide +kernel)]; exact ⟨rfl, rfl⟩
theorem historyGrows : Rows.HistoryGrowsSaid :=
  OpenClaim.holds_of_wide 10 Try.f10 rfl rfl rfl rfl rfl rfl rfl ⟨rfl, rfl, rfl, rfl, rfl⟩ rfl rfl rfl rfl rfl named10 Try.func10 j10 inst10 wrap10 (fun os started H enc _ => historyGrows_lifted os started H enc)
end Go.Proofs.Ytihljollfbogeaa
