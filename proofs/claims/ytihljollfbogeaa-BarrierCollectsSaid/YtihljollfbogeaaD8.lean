/- BarrierCollects: whatever the input, true, and the input reads as it did. No condition. -/
import Derived.Test.YtihljollfbogeaaD7
import Derived.Test.YtihljollfbogeaaD4
import Derived.Test.YtihljollfbogeaaF7
namespace Go.Proofs.Ytihljollfbogeaa
open Go Go.RowKit
noncomputable def H11 : Hand := mkH [(37, x37), (38, x38), (41, x41), (42, x42), (58, x58), (59, x58), (60, x60), (61, x60)]
theorem H11_ok : HandOk Try.prog H11 := mkH_ok <| known_more x37_ok <| known_more x38_ok <| known_more x41_ok <| known_more x42_ok <| known_more x58_ok <| known_more x58_ok' <| known_more x60_ok <| known_more x60_ok' known_nil
theorem good7 (c : Coord) (now : Int) (g : Msg) : Good Try.prog 7 [c.enc, encI now, g.enc] (encB true) :=
  (good_of_ends H11_ok no_inl mixed Try.func7 k7 (law7_run H11 (fun _ _ _ _ => none) 0 c now g (few c ⟨0, 0, 0, 0, false, 0, [], []⟩) (collect c now g) (expire c now) (x37_eq c _) rfl (fun hf _ _ => by
    have hc : okC c := by
      simp only [few, Bool.and_eq_true, decide_eq_true_eq] at hf
      exact ⟨by omega, by omega⟩
    obtain ⟨o1, o2⟩ := ok_collect hc now g
    obtain ⟨e1, e2⟩ := ok_expire hc now
    exact ⟨x58_eq hc, x58_eq hc, x41_eq o1, x42_eq o2, x60_eq hc, x60_eq hc, x41_eq e1, x42_eq e2⟩))).2
theorem barrierCollects_lifted (os : Os) (started : os.Started) (H : Type) (enc : TypeId × Value → H) :
    ReturnsInHanded {} Try.checked os 7 .any (Rows.barrierCollectsSpec.pre6 enc Try.prog Try.f7 [] false) (Rows.barrierCollectsSpec.post enc Try.prog Try.f7 false true false false) :=
  law_lifted (C := Try.checked) (tb := 4) Try.own started (by kernel_rfl) Try.func7
    (ChangeSpec.witness6 (enc := enc) (C := Try.checked) false ⟨#[], #[.agg #[.int .i64 0, .int .i64 0, .int .i64 0, .int .i64 0, .slice none 0 0, .slice none 0 0, .bool false], .int .i64 0, .agg #[.int .i64 0, .int .i64 0, .int .i64 0, .int .i64 0, .int .i64 0, .int .i64 0, .slice none 0 0, .slice none 0 0]], []⟩ 8 (by kernel_rfl) (by kernel_rfl) (by kernel_rfl) (by kernel_rfl))
    rfl Try.laidOut (by decide +kernel) (by kernel_rfl) (by kernel_rfl)
    (fun ds hd => by match ds, hd with | [_, _, _], _ => rfl)
    [coordSh, .int .i64, msgSh] (by kernel_rfl)
    (fun l hl => by
      obtain ⟨a, _, rfl, h1, b, _, rfl, h2, c, _, rfl, h3, rfl⟩ := hl
      obtain ⟨c, rfl⟩ := fits_coord h1
      obtain ⟨now, _, rfl⟩ := fits_intV h2
      obtain ⟨g, rfl⟩ := fits_msg h3
      exact good7 c now g)
theorem named7 : Try.pinned.checked.prog.funcNamed Rows.barrierCollectsRow.func = some 7 := by kernel_rfl
theorem inst7 : Try.f7.isInstance Try.pinned.checked.prog Rows.barrierCollectsRow.origin Rows.barrierCollectsRow.targs := of_decide_eq_true (by kernel_rfl)
theorem wrap7 : Try.f7.isWrapper Try.pinned.checked.prog Rows.barrierCollectsRow.wrapper Rows.barrierCollectsRow.mainSum := by unfold Func.isWrapper; rw [if_neg (by decide +kernel)]; exact ⟨rfl, rfl⟩
theorem barrierCollects : Rows.BarrierCollectsSaid :=
  OpenClaim.holds_of_wide 7 Try.f7 rfl rfl rfl rfl rfl rfl rfl ⟨rfl, rfl, rfl, rfl, rfl⟩ rfl rfl rfl rfl rfl named7 Try.func7 j7 inst7 wrap7 (fun os started H enc _ => barrierCollects_lifted os started H enc)
end Go.Proofs.Ytihljollfbogeaa
