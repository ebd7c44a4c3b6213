/- HistoryMakes: whatever the input, true, and the input reads as it did. No condition. -/
import Derived.Test.YtihljollfbogeaaB39
import Derived.Test.YtihljollfbogeaaD12
import Derived.Test.YtihljollfbogeaaR4
import Derived.Test.YtihljollfbogeaaF6
namespace Go.Proofs.Ytihljollfbogeaa
open Go Go.RowKit
noncomputable def H6h : Hand := mkH [(28, x28), (29, x29), (53, x53), (54, x53), (55, x55), (56, x56), (57, x57)]
theorem H6h_ok : HandOk Try.prog H6h := mkH_ok <| known_more x28_ok <| known_more x29_ok <| known_more x53_ok <| known_more x53_ok' <| known_more x55_ok <| known_more x56_ok <| known_more x57_ok known_nil
theorem good6 (sizes : List Int) (h : Hist) : Good Try.prog 6 [encIs sizes, h.enc] (encB true) :=
  (good_of_ends H6h_ok no_inl mixed Try.func6 k6 (law6_run H6h (fun _ _ _ _ => none) 0 h sizes (fewH h) (newH sizes).1 (newH sizes).2 (checkH h) (x28_eq h) rfl (fun hf hs => by
    have hh := fewH_ok hf
    have hl := okL_50 (show sizes.length ≤ 50 by omega)
    exact ⟨x53_eq hl, x53_eq hl, x55_same (newH_ok hl), x56_eq hh, x57_eq hh⟩))).2
theorem historyMakes_lifted (os : Os) (started : os.Started) (H : Type) (enc : TypeId × Value → H) :
    ReturnsInHanded {} Try.checked os 6 .any (Rows.historyMakesSpec.pre6 enc Try.prog Try.f6 [] false) (Rows.historyMakesSpec.post enc Try.prog Try.f6 false true false false) :=
  law_lifted (C := Try.checked) (tb := 4) Try.own started (by kernel_rfl) Try.func6
    (ChangeSpec.witness6 (enc := enc) (C := Try.checked) false ⟨#[], #[.slice none 0 0, .agg #[.slice none 0 0, .slice none 0 0, .slice none 0 0]], []⟩ 8 (by kernel_rfl) (by kernel_rfl) (by kernel_rfl) (by kernel_rfl))
    rfl Try.laidOut (by decide +kernel) (by kernel_rfl) (by kernel_rfl)
    (fun ds hd => by match ds, hd with | [_, _], _ => rfl)
    [.slice (.int .i64), histSh] (by kernel_rfl)
    (fun l hl => by
      obtain ⟨a, _, rfl, h1, b, _, rfl, h2, rfl⟩ := hl
      obtain ⟨sizes, rfl, _⟩ := fits_intsV h1
      obtain ⟨h, rfl⟩ := fits_hist h2
      exact good6 sizes h)
theorem named6 : Try.pinned.checked.prog.funcNamed Rows.historyMakesRow.func = some 6 := by kernel_rfl
theorem inst6 : Try.f6.isInstance Try.pinned.checked.prog Rows.historyMakesRow.origin Rows.historyMakesRow.targs := of_decide_eq_true (by kernel_rfl)
theorem wrap6 : Try.f6.isWrapper Try.pinned.checked.prog Rows.historyMakesRow.wrapper Rows.historyMakesRow.mainSum := by unfold Func.isWrapper; rw [if_neg (by decide +kernel)]; exact ⟨rfl, rfl⟩
theorem historyMakes : Rows.HistoryMakesSaid :=
  OpenClaim.holds_of_wide 6 Try.f6 rfl rfl rfl rfl rfl rfl rfl ⟨rfl, rfl, rfl, rfl, rfl⟩ rfl rfl rfl rfl rfl named6 Try.func6 j6 inst6 wrap6 (fun os started H enc _ => historyMakes_lifted os started H enc)
end Go.Proofs.Ytihljollfbogeaa
