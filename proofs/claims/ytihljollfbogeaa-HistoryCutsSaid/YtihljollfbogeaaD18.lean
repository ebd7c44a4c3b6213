/- HistoryCuts: whatever the input, true, and the input reads as it did. No condition. -/
import Derived.Test.YtihljollfbogeaaE5
import Derived.Test.YtihljollfbogeaaD10
import Derived.Test.YtihljollfbogeaaR4
import Derived.Test.YtihljollfbogeaaF15
namespace Go.Proofs.Ytihljollfbogeaa
open Go Go.RowKit
noncomputable def x94 : X := hnd (fun n : Nat => [encI n]) (fun n => n < 1073741824) (fun n => encIs (selL (fun _ => true) n))
theorem x94_ok : Known 94 x94 := know fun n hn => good_of_ends none_ok no_inl mixed Try.func94 k94 (first94_run _ (fun _ _ _ _ => none) (n + 1) n hn (by omega))
theorem x94_eq {n : Nat} (hn : n < 1073741824) : x94 [encI n] = some (encIs (selL (fun _ => true) n)) := hnd_eq (enc := fun n : Nat => [encI n]) (fun x y h => by have := encI_inj _ _ (by simpa using h); omega) hn
noncomputable def G33 : Hand := mkH [(160, x160h)]
theorem G33_ok : HandOk Try.prog G33 := mkH_ok <| known_more x160h_ok known_nil
noncomputable def x83h : X := hnd encLn (fun p => okL p.1) (fun p => encB (decide (p.2 ∈ p.1)))
theorem x83h_ok : Known 83 x83h := know fun p hp => good_of_ends G33_ok no_inl mixed Try.func83 k83 (contains83h_run G33 (fun _ _ _ _ => none) 0 p.1 p.2 (x160h_eq hp _))
theorem x83h_eq {l : List Int} (hl : okL l) (n : Int) : x83h [encIs l, encI n] = some (encB (decide (n ∈ l))) := hnd_eq (enc := encLn) (x := (l, n)) encLn_inj hl
noncomputable def H15 : Hand := mkH [(29, x29), (32, x32), (35, x35), (78, x78), (83, x83h), (94, x94)]
theorem H15_ok : HandOk Try.prog H15 := mkH_ok <| known_more x29_ok <| known_more x32_ok <| known_more x35_ok <| known_more x78_ok <| known_more x83h_ok <| known_more x94_ok known_nil
theorem okL_le {l : List Int} {n : Nat} (h : l.length ≤ n) (hn : n ≤ 1000) : okL l := by simp only [okL, big]; omega
theorem good15 (p : Hist) (a b : List Int) : Good Try.prog 15 [p.enc, encIs a, encIs b] (encB true) := by
  have hk := stepsH_ok p
  refine (good_of_ends H15_ok no_inl mixed Try.func15 k15 (law15_run H15 (fun _ _ _ _ => none) 201 p (stepsH p).1 a b (stepsH p).2 (closedH (stepsH p).1 a) (closedH (stepsH p).1 b) (fun i => ackH (stepsH p).1 i) rfl (x78_eq p) (by omega) (fun h0 la lb => ?_))).2
  obtain ⟨r, n1, n2⟩ := hk.2 h0
  have o := hk.1
  have oa : okL a := okL_le la (by omega)
  have ob : okL b := okL_le lb (by omega)
  have cl : ∀ {l : List Int}, okL l → closedH (stepsH p).1 l = true → x32 [(stepsH p).1.enc, encIs l] = some (encB true) := fun hl hc => by rw [← hc]; exact x32_eq o hl
  refine ⟨n1, n2, fun i hi => x94_eq (by omega), fun i hi => cl (okL_le (selL_len _ i) (by omega)) (closed_first r (by omega)), fun i hi => x35_eq o _, fun i hi => cl (okL_le (by rw [ackH_sel r]; exact selL_len _ _) (by omega)) (closed_ack r _), fun x => x83h_eq oa x, fun x => x83h_eq ob x, x32_eq o oa, x32_eq o ob, fun ca cb => ⟨?_, ?_⟩⟩
  · exact cl (okL_le (selL_len _ _) (by omega)) (closed_union r ca cb)
  · exact cl (okL_le (selL_len _ _) (by omega)) (closed_both r ca cb)
theorem historyCuts_lifted (os : Os) (started : os.Started) (H : Type) (enc : TypeId × Value → H) :
    ReturnsInHanded {} Try.checked os 15 .any (Rows.historyCutsSpec.pre6 enc Try.prog Try.f15 [] false) (Rows.historyCutsSpec.post enc Try.prog Try.f15 false true false false) :=
  law_lifted (C := Try.checked) (tb := 4) Try.own started (by kernel_rfl) Try.func15
    (ChangeSpec.witness6 (enc := enc) (C := Try.checked) false ⟨#[], #[.agg #[.slice none 0 0, .slice none 0 0, .slice none 0 0], .slice none 0 0, .slice none 0 0], []⟩ 8 (by kernel_rfl) (by kernel_rfl) (by kernel_rfl) (by kernel_rfl))
    rfl Try.laidOut (by decide +kernel) (by kernel_rfl) (by kernel_rfl)
    (fun ds hd => by match ds, hd with | [_, _, _], _ => rfl)
    [histSh, .slice (.int .i64), .slice (.int .i64)] (by kernel_rfl)
    (fun l hl => by
      obtain ⟨a, _, rfl, h1, b, _, rfl, h2, c, _, rfl, h3, rfl⟩ := hl
      obtain ⟨p, rfl⟩ := fits_hist h1
      obtain ⟨xs, rfl, _⟩ := fits_intsV h2
      obtain ⟨ys, rfl, _⟩ := fits_intsV h3
      exact good15 p xs ys)
theorem named15 : Try.pinned.checked.prog.funcNamed Rows.historyCutsRow.func = some 15 := by kernel_rfl
theorem inst15 : Try.f15.isInstance Try.pinned.checked.prog Rows.historyCutsRow.origin Rows.historyCutsRow.targs := of_decide_eq_true (by kernel_rfl)
theorem wrap15 : Try.f15.isWrapper Try.pinned.checked.prog Rows.historyCutsRow.wrapper Rows.historyCutsRow.mainSum := by unfold Func.isWrapper; rw [if_neg (by decide +kernel)]; exact ⟨rfl, rfl⟩
theorem historyCuts : Rows.HistoryCutsSaid :=
  OpenClaim.holds_of_wide 15 Try.f15 rfl rfl rfl rfl rfl rfl rfl ⟨rfl, rfl, rfl, rfl, rfl⟩ rfl rfl rfl rfl rfl named15 Try.func15 j15 inst15 wrap15 (fun os started H enc _ => historyCuts_lifted os started H enc)
end Go.Proofs.Ytihljollfbogeaa
