/- BarrierCounts: whatever the input, true, and the input reads as it did. No condition. -/
import Derived.Test.YtihljollfbogeaaD5
import Derived.Test.YtihljollfbogeaaD4
import Derived.Test.YtihljollfbogeaaF14
namespace Go.Proofs.Ytihljollfbogeaa
open Go Go.RowKit
noncomputable def H9 : Hand := mkH [(37, x37), (38, x38), (49, x49), (52, x52), (86, x86), (87, x86), (88, x88), (89, x88), (90, x90), (91, x90), (92, x92), (93, x92)]
theorem H9_ok : HandOk Try.prog H9 := mkH_ok <| known_more x37_ok <| known_more x38_ok <| known_more x49_ok <| known_more x52_ok <| known_more x86_ok <| known_more x86_ok' <| known_more x88_ok <| known_more x88_ok' <| known_more x90_ok <| known_more x90_ok' <| known_more x92_ok <| known_more x92_ok' known_nil
theorem few_okM1 {c : Coord} {m : Mem} (hf : few c m = true) : okM1 m := by
  simp only [few, Bool.and_eq_true, decide_eq_true_eq] at hf
  exact ⟨by omega, by omega⟩
theorem good14 (m : Mem) (x now : Int) : Good Try.prog 14 [m.enc, encI x, encI now] (encB true) :=
  (good_of_ends H9_ok no_inl mixed Try.func14 k14 (law14_run H9 (fun _ _ _ _ => none) 0 m x now (few Coord.zero m) (issue m) (durable m x) (release m now) (checkMem m) (x37_eq Coord.zero m) rfl (fun hf => by
    have hm := few_okM1 hf
    have hm' := okM1_ok hm
    exact ⟨x86_eq hm, x86_eq hm, x52_eq (ok_issue hm), x88_eq hm', x88_eq hm', x90_eq hm, x90_eq hm, x52_eq (ok_durable hm x).1, x49_eq (ok_durable hm x).2, x92_eq hm', x92_eq hm', x52_eq (ok_release hm' now).1, x49_eq (ok_release hm' now).2⟩))).2
theorem barrierCounts_lifted (os : Os) (started : os.Started) (H : Type) (enc : TypeId × Value → H) :
    ReturnsInHanded {} Try.checked os 14 .any (Rows.barrierCountsSpec.pre6 enc Try.prog Try.f14 [] false) (Rows.barrierCountsSpec.post enc Try.prog Try.f14 false true false false) :=
  law_lifted (C := Try.checked) (tb := 4) Try.own started (by kernel_rfl) Try.func14
    (ChangeSpec.witness6 (enc := enc) (C := Try.checked) false ⟨#[], #[.agg #[.int .i64 0, .int .i64 0, .int .i64 0, .int .i64 0, .bool false, .int .i64 0, .slice none 0 0, .slice none 0 0], .int .i64 0, .int .i64 0], []⟩ 8 (by kernel_rfl) (by kernel_rfl) (by kernel_rfl) (by kernel_rfl))
    rfl Try.laidOut (by decide +kernel) (by kernel_rfl) (by kernel_rfl)
    (fun ds hd => by match ds, hd with | [_, _, _], _ => rfl)
    [memSh, .int .i64, .int .i64] (by kernel_rfl)
    (fun l hl => by
      obtain ⟨a, _, rfl, h1, b, _, rfl, h2, c, _, rfl, h3, rfl⟩ := hl
      obtain ⟨m, rfl⟩ := fits_mem h1
      obtain ⟨x, _, rfl⟩ := fits_intV h2
      obtain ⟨now, _, rfl⟩ := fits_intV h3
      exact good14 m x now)
theorem named14 : Try.pinned.checked.prog.funcNamed Rows.barrierCountsRow.func = some 14 := by kernel_rfl
theorem inst14 : Try.f14.isInstance Try.pinned.checked.prog Rows.barrierCountsRow.origin Rows.barrierCountsRow.targs := of_decide_eq_true (by kernel_rfl)
theorem wrap14 : Try.f14.isWrapper Try.pinned.checked.prog Rows.barrierCountsRow.wrapper Rows.barrierCountsRow.mainSum := by unfold Func.isWrapper; rw [if_neg (by decide +kernel)]; exact ⟨rfl, rfl⟩
theorem barrierCounts : Rows.BarrierCountsSaid :=
  OpenClaim.holds_of_wide 14 Try.f14 rfl rfl rfl rfl rfl rfl rfl ⟨rfl, rfl, rfl, rfl, rfl⟩ rfl rfl rfl rfl rfl named14 Try.func14 j14 inst14 wrap14 (fun os started H enc _ => barrierCounts_lifted os started H enc)
end Go.Proofs.Ytihljollfbogeaa
