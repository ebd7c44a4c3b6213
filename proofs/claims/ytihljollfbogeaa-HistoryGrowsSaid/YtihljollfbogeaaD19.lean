/- What Copy, Issue and Ack of the reference answer. No condition. -/
import Derived.Test.YtihljollfbogeaaB47
import Derived.Test.YtihljollfbogeaaD15
namespace Go.Proofs.Ytihljollfbogeaa
open Go Go.RowKit
noncomputable def x162 : X := hnd oneH OkH (fun h => h.enc)
theorem x162_ok : Known 162 x162 := know fun h hh => by
  have b1 := hh.writes
  simp only [big] at b1
  exact good_of_ends none_ok no_inl mixed Try.func162 k162 (copy162_run (mkH []) (fun _ _ _ _ => none) (NH h) h (by omega) (by unfold NH; omega) (fun w hw => Nat.le_of_lt (big_lim (hh.data w hw))) (Nat.le_of_lt (big_lim hh.sizes)) (Nat.le_of_lt (big_lim hh.events)))
theorem x162_eq {h : Hist} (hh : OkH h) : x162 [h.enc] = some h.enc := hnd_eq (enc := oneH) oneH_inj hh
noncomputable def G34 : Hand := mkH [(57, x57), (131, x131), (132, x132), (148, x148), (149, x149), (162, x162)]
theorem G34_ok : HandOk Try.prog G34 := mkH_ok <| known_more x57_ok <| known_more x131_ok <| known_more x132_ok <| known_more x148_ok <| known_more x149_ok <| known_more x162_ok known_nil
/-- Room for one more. -/
def OkH1 (h : Hist) : Prop := OkH h ∧ h.writes.length < big ∧ h.events.length < big
theorem okH_ack {h : Hist} (hh : OkH1 h) (n : Int) : OkH ⟨h.sizes, h.writes, h.events ++ [Evt.mk 1 n]⟩ := ⟨hh.1.sizes, hh.1.writes, by have := hh.2.2; simp; omega, hh.1.data⟩
theorem okH_iss {h : Hist} (hh : OkH1 h) {w : Wr} (hw : w.data.length ≤ big) : OkH ⟨h.sizes, h.writes ++ [w], h.events ++ [Evt.mk 0 h.writes.length]⟩ := ⟨hh.1.sizes, by have := hh.2.1; simp; omega, by have := hh.2.2; simp; omega, fun x hx => by
  rcases List.mem_append.1 hx with hx | hx
  · exact hh.1.data x hx
  · simp at hx; subst hx; exact hw⟩
noncomputable def x77 : X := hnd enc35 (fun p => OkH1 p.1) (fun p => .tup [(ackOf p.1 p.2).1.enc, encI (ackOf p.1 p.2).2])
theorem x77_ok : Known 77 x77 := know fun p hh => by
  have b1 := hh.1.writes
  simp only [big] at b1
  exact good_of_ends G34_ok no_inl mixed Try.func77 k77 (ack77_run G34 (fun _ _ _ _ => none) 0 p.1 p.2 (by omega) (big_lim hh.1.events) (x57_eq hh.1) (x132_eq _) (x131_eq hh.1.events) (x162_eq (okH_ack hh _)))
theorem x77_eq {h : Hist} (hh : OkH1 h) (n : Int) : x77 [h.enc, encI n] = some (.tup [(ackOf h n).1.enc, encI (ackOf h n).2]) := hnd_eq (enc := enc35) (x := (h, n)) enc35_inj hh
noncomputable def x75 : X := hnd enc74 (fun p => OkH1 p.1 ∧ p.2.data.length ≤ big) (fun p => .tup [(issueH p.1 p.2).1.enc, encI (issueH p.1 p.2).2.1, encI (issueH p.1 p.2).2.2])
theorem x75_ok : Known 75 x75 := know fun p hp => by
  have hh := hp.1
  have b1 := hh.1.writes
  have b2 := hp.2
  simp only [big] at b1 b2
  exact good_of_ends G34_ok no_inl mixed Try.func75 k75 (issue75_run G34 (fun _ _ _ _ => none) 0 p.1 p.2 (by omega) (big_lim hh.1.events) (x57_eq hh.1) (fun h0 => x148_eq ((checkH_zero _).1 h0).sizes (by omega)) (x149_eq _) (x162_eq (okH_iss hh hp.2)))
theorem x75_eq {h : Hist} {w : Wr} (hh : OkH1 h) (hw : w.data.length ≤ big) : x75 [h.enc, w.enc] = some (.tup [(issueH h w).1.enc, encI (issueH h w).2.1, encI (issueH h w).2.2]) := hnd_eq (enc := enc74) (x := (h, w)) enc74_inj ⟨hh, hw⟩
theorem ackOf_ok {h : Hist} (hh : OkH1 h) (n : Int) : OkH (ackOf h n).1 := by
  unfold ackOf
  split
  · exact okZero
  split
  · exact okZero
  split
  · exact okZero
  exact okH_ack hh n
end Go.Proofs.Ytihljollfbogeaa
