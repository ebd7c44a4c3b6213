/- HistoryPartial: whatever the input, true, and the input reads as it did. No condition. -/
import Derived.Test.YtihljollfbogeaaB44
import Derived.Test.YtihljollfbogeaaE4
import Derived.Test.YtihljollfbogeaaD10
import Derived.Test.YtihljollfbogeaaR4
import Derived.Test.YtihljollfbogeaaF11
namespace Go.Proofs.Ytihljollfbogeaa
open Go Go.RowKit
theorem fits_u8 {l : List AV} (h : Fits (.int .u8) l) : ∃ n, (0 ≤ n ∧ n < 256) ∧ l = [uA n] := by
  obtain ⟨n, hw, rfl⟩ := h
  simp only [Lit.wf, Bool.and_eq_true, decide_eq_true_eq] at hw
  have e1 : IntKind.u8.min = 0 := rfl
  have e2 : IntKind.u8.max = 255 := rfl
  exact ⟨n, ⟨by omega, by omega⟩, rfl⟩
theorem fits_four {a : AV} (h : FitsV (.arr 4 (.int .u8)) a) : ∃ m0 m1 m2 m3 : Int, a = .agg [uA m0, uA m1, uA m2, uA m3] ∧ (0 ≤ m0 ∧ m0 < 256) ∧ (0 ≤ m1 ∧ m1 < 256) ∧ (0 ≤ m2 ∧ m2 < 256) ∧ (0 ≤ m3 ∧ m3 < 256) := by
  obtain ⟨l, ⟨ls, h1, h2, rfl⟩, _, rfl⟩ := h
  match ls, h1 with
  | [l1, l2, l3, l4], _ =>
    obtain ⟨x1, b1, e1⟩ := fits_u8 (h2 l1 (by simp)).1
    obtain ⟨x2, b2, e2⟩ := fits_u8 (h2 l2 (by simp)).1
    obtain ⟨x3, b3, e3⟩ := fits_u8 (h2 l3 (by simp)).1
    obtain ⟨x4, b4, e4⟩ := fits_u8 (h2 l4 (by simp)).1
    exact ⟨x1, x2, x3, x4, by rw [e1, e2, e3, e4]; rfl, b1, b2, b3, b4⟩
noncomputable def H11 : Hand := mkH [(29, x29), (30, x30), (78, x78)]
theorem H11_ok : HandOk Try.prog H11 := mkH_ok <| known_more x29_ok <| known_more x30_ok <| known_more x78_ok known_nil
def T11 : List (FuncId × CFn) := [(79, c79)]
theorem T11_ok : TabOk Try.prog (mkT T11) := mkT_ok <| mkT_more Try.func79 k79 mkT_nil
theorem good11 (p : Hist) (m0 m1 m2 m3 : Int) (hb : (0 ≤ m0 ∧ m0 < 256) ∧ (0 ≤ m1 ∧ m1 < 256) ∧ (0 ≤ m2 ∧ m2 < 256) ∧ (0 ≤ m3 ∧ m3 < 256)) : Good Try.prog 11 [p.enc, .agg [uA m0, uA m1, uA m2, uA m3]] (encB true) := by
  have hk := stepsH_ok p
  refine (good_of_ends H11_ok (inl_ok H11_ok mixed T11_ok 0 1) mixed Try.func11 k11 (law11_run H11 (inl (mkT T11) H11 0 1) 0 p (stepsH p).1 (stepsH p).2 m0 m1 m2 m3 _ _ _ _ (fun x y => beforeH (stepsH p).1 x y) rfl (fun _ => rfl) (x78_eq p) hb rfl rfl rfl rfl (fun x y q v hp hm => ?_) (fun h0 _ => ?_))).2
  · show fnA H11 (inl (mkT T11) H11 0 0) 0 q c79 _ hp = _
    exact before79_run H11 _ 0 q v (stepsH p).1 hp x y _ hm (x30_eq hk.1 x y)
  · have r := (hk.2 h0).1
    simp only [beforeH_eq r]
    exact ⟨before_self r.evs _, before_lt r.evs, before_trans r.evs, before_cross⟩
theorem historyPartial_lifted (os : Os) (started : os.Started) (H : Type) (enc : TypeId × Value → H) :
    ReturnsInHanded {} Try.checked os 11 .any (Rows.historyPartialSpec.pre6 enc Try.prog Try.f11 [] false) (Rows.historyPartialSpec.post enc Try.prog Try.f11 false true false false) :=
  law_lifted (C := Try.checked) (tb := 4) Try.own started (by kernel_rfl) Try.func11
    (ChangeSpec.witness6 (enc := enc) (C := Try.checked) false ⟨#[], #[.agg #[.slice none 0 0, .slice none 0 0, .slice none 0 0], .agg #[.int .u8 0, .int .u8 0, .int .u8 0, .int .u8 0]], []⟩ 8 (by kernel_rfl) (by kernel_rfl) (by kernel_rfl) (by kernel_rfl))
    rfl Try.laidOut (by decide +kernel) (by kernel_rfl) (by kernel_rfl)
    (fun ds hd => by match ds, hd with | [_, _], _ => rfl)
    [histSh, .arr 4 (.int .u8)] (by kernel_rfl)
    (fun l hl => by
      obtain ⟨a, _, rfl, h1, b, _, rfl, h2, rfl⟩ := hl
      obtain ⟨p, rfl⟩ := fits_hist h1
      obtain ⟨m0, m1, m2, m3, rfl, hb⟩ := fits_four h2
      exact good11 p m0 m1 m2 m3 hb)
theorem named11 : Try.pinned.checked.prog.funcNamed Rows.historyPartialRow.func = some 11 := by kernel_rfl
theorem inst11 : Try.f11.isInstance Try.pinned.checked.prog Rows.historyPartialRow.origin Rows.historyPartialRow.targs := of_decide_eq_true (by kernel_rfl)
theorem wrap11 : Try.f11.isWrapper Try.pinned.checked.prog Rows.historyPartialRow.wrapper Rows.historyPartialRow.mainSum := by unfold Func.isWrapper; rw [if_neg (by decide +kernel)]; exact ⟨rfl, rfl⟩
theorem historyPartial : Rows.HistoryPartialSaid :=
  OpenClaim.holds_of_wide 11 Try.f11 rfl rfl rfl rfl rfl rfl rfl ⟨rfl, rfl, rfl, rfl, rfl⟩ rfl rfl rfl rfl rfl named11 Try.func11 j11 inst11 wrap11 (fun os started H enc _ => historyPartial_lifted os started H enc)
end Go.Proofs.Ytihljollfbogeaa
