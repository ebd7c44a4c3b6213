/- HistoryReplays: whatever the input, true, and the input reads as it did. No condition. -/
import Derived.Test.YtihljollfbogeaaB43
import Derived.Test.YtihljollfbogeaaD10
import Derived.Test.YtihljollfbogeaaR4
import Derived.Test.YtihljollfbogeaaF13
namespace Go.Proofs.Ytihljollfbogeaa
open Go Go.RowKit
noncomputable def H13 : Hand := mkH [(28, x28), (29, x29), (55, x55), (56, x56), (85, x85)]
theorem H13_ok : HandOk Try.prog H13 := mkH_ok <| known_more x28_ok <| known_more x29_ok <| known_more x55_ok <| known_more x56_ok <| known_more x85_ok known_nil
theorem good13 (h : Hist) : Good Try.prog 13 [h.enc] (encB true) :=
  (good_of_ends H13_ok no_inl mixed Try.func13 k13 (law13_run H13 (fun _ _ _ _ => none) 0 h (rplH h.sizes h.writes h.events).1 (fewH h) (rplH h.sizes h.writes h.events).2 (checkH h) (x28_eq h) rfl (fun hf => by
    have hh := fewH_ok hf
    refine ⟨x85_eq hh, x56_eq hh, fun h0 => ?_, fun h1 => ?_⟩
    · intro hc
      rw [rplH_right ((checkH_zero h).1 hc)] at h0; cases h0
    · have h0 : sizesE h.sizes = 0 := by
        by_cases c : sizesE h.sizes = 0
        · exact c
        · rw [rplH_err c] at h1; cases h1
      have r := (rplH_inv h0 h.writes h.events).1
      have hk := rplH_okH hh
      refine ⟨by rw [← (checkH_zero _).2 r]; exact x56_eq hk, ?_⟩
      have := x55_eq h hk
      rw [show decide ((rplH h.sizes h.writes h.events).1 = h) = decide (checkH h = 0) from ?_] at this
      · exact this
      · by_cases c : checkH h = 0
        · rw [rplH_right ((checkH_zero h).1 c), decide_eq_true c, decide_eq_true rfl]
        · rw [decide_eq_false c]
          refine decide_eq_false fun e => c ?_
          rw [← e]; exact (checkH_zero _).2 r))).2
theorem historyReplays_lifted (os : Os) (started : os.Started) (H : Type) (enc : TypeId × Value → H) :
    ReturnsInHanded {} Try.checked os 13 .any (Rows.historyReplaysSpec.pre6 enc Try.prog Try.f13 [] false) (Rows.historyReplaysSpec.post enc Try.prog Try.f13 false true false false) :=
  law_lifted (C := Try.checked) (tb := 4) Try.own started (by kernel_rfl) Try.func13
    (ChangeSpec.witness6 (enc := enc) (C := Try.checked) false ⟨#[], #[.agg #[.slice none 0 0, .slice none 0 0, .slice none 0 0]], []⟩ 8 (by kernel_rfl) (by kernel_rfl) (by kernel_rfl) (by kernel_rfl))
    rfl Try.laidOut (by decide +kernel) (by kernel_rfl) (by kernel_rfl)
    (fun ds hd => by match ds, hd with | [_], _ => rfl)
    [histSh] (by kernel_rfl)
    (fun l hl => by
      obtain ⟨a, _, rfl, h1, rfl⟩ := hl
      obtain ⟨h, rfl⟩ := fits_hist h1
      exact good13 h)
theorem named13 : Try.pinned.checked.prog.funcNamed Rows.historyReplaysRow.func = some 13 := by kernel_rfl
theorem inst13 : Try.f13.isInstance Try.pinned.checked.prog Rows.historyReplaysRow.origin Rows.historyReplaysRow.targs := of_decide_eq_true (by kernel_rfl)
theorem wrap13 : Try.f13.isWrapper Try.pinned.checked.prog Rows.historyReplaysRow.wrapper Rows.historyReplaysRow.mainSum := by unfold Func.isWrapper; rw [if_neg (by decide +kernel)]; exact ⟨rfl, rfl⟩
theorem historyReplays : Rows.HistoryReplaysSaid :=
  OpenClaim.holds_of_wide 13 Try.f13 rfl rfl rfl rfl rfl rfl rfl ⟨rfl, rfl, rfl, rfl, rfl⟩ rfl rfl rfl rfl rfl named13 Try.func13 j13 inst13 wrap13 (fun os started H enc _ => historyReplays_lifted os started H enc)
end Go.Proofs.Ytihljollfbogeaa
