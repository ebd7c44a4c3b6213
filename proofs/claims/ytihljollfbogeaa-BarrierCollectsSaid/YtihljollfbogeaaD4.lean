/- BarrierObeys: whatever the input, true, and the input reads as it did. No condition. -/
import Derived.Test.YtihljollfbogeaaD3
import Derived.Test.YtihljollfbogeaaD2
import Derived.Test.YtihljollfbogeaaF5
namespace Go.Proofs.Ytihljollfbogeaa
open Go Go.RowKit
noncomputable def H7 : Hand := mkH [(37, x37), (38, x38), (42, x42), (49, x49), (50, x50), (51, x50), (52, x52)]
theorem H7_ok : HandOk Try.prog H7 := mkH_ok <| known_more x37_ok <| known_more x38_ok <| known_more x42_ok <| known_more x49_ok <| known_more x50_ok <| known_more x50_ok' <| known_more x52_ok known_nil
theorem few_okM {c : Coord} {m : Mem} (hf : few c m = true) : okM m := by
  simp only [few, Bool.and_eq_true, decide_eq_true_eq] at hf
  exact ⟨by omega, by omega⟩
theorem good5 (m : Mem) (g : Msg) (now patience : Int) : Good Try.prog 5 [m.enc, callEnc g now patience] (encB true) :=
  (good_of_ends H7_ok no_inl mixed Try.func5 k5 (law5_run H7 (fun _ _ _ _ => none) 0 m g now patience (few Coord.zero m) (obey m now patience g) (x37_eq Coord.zero m) rfl (fun hf _ _ => by
    have hm := few_okM hf
    obtain ⟨o1, o2, o3⟩ := ok_obey hm now patience g
    exact ⟨x50_eq hm, x50_eq hm, x52_eq o1, x49_eq o2, x42_eq o3⟩))).2
def memSh : Sh := .agg (.more (.int .i64) (.more (.int .i64) (.more (.int .i64) (.more (.int .i64) (.more .bool (.more (.int .i64) (.more (.slice (.int .i64)) (.more (.slice (.int .i64)) .none))))))))
def msgSh : Sh := .agg (.more (.int .i64) (.more (.int .i64) (.more (.int .i64) (.more (.int .i64) (.more (.int .i64) (.more (.int .i64) (.more (.slice (.int .i64)) (.more (.slice (.int .u8)) .none))))))))
def callSh : Sh := .agg (.more msgSh (.more (.int .i64) (.more (.int .i64) .none)))
theorem fits_u8s {l : List AV} (h : Fits (.slice (.int .u8)) l) : ∃ xs : List Int, l = [.imm (xs.map encU)] := by
  obtain ⟨xs, hx, rfl⟩ := h
  obtain ⟨ys, rfl, _⟩ := list_of encU (fun _ => True) (xs := xs) fun x hx' => by
    obtain ⟨l, h1, _, rfl⟩ := hx x hx'
    obtain ⟨n, _, rfl⟩ := h1
    exact ⟨n, trivial, rfl⟩
  exact ⟨ys, rfl⟩
theorem fits_mem {a : AV} (h : FitsV memSh a) : ∃ m : Mem, a = m.enc := by
  obtain ⟨l, h, _, rfl⟩ := h
  obtain ⟨_, _, rfl, h1, _, _, _, rfl, h2, _, _, _, rfl, h3, _, _, _, rfl, h4, _, _, _, rfl, h5, _, _, _, rfl, h6, _, _, _, rfl, h7, _, _, _, rfl, h8, _, rfl⟩ := h
  obtain ⟨n1, _, rfl⟩ := fits_int h1
  obtain ⟨n2, _, rfl⟩ := fits_int h2
  obtain ⟨n3, _, rfl⟩ := fits_int h3
  obtain ⟨n4, _, rfl⟩ := fits_int h4
  obtain ⟨b5, rfl⟩ := fits_bool h5
  obtain ⟨n6, _, rfl⟩ := fits_int h6
  obtain ⟨x7, rfl, _⟩ := fits_ints h7
  obtain ⟨x8, rfl, _⟩ := fits_ints h8
  exact ⟨⟨n1, n2, n3, n4, b5, n6, x7, x8⟩, rfl⟩
theorem fits_msgL {l : List AV} (h : Fits msgSh l) : ∃ g : Msg, l = [encI g.kind, encI g.src, encI g.dst, encI g.number, encI g.value, encI g.epoch, .imm (g.values.map encI), .imm (g.body.map encU)] := by
  obtain ⟨_, _, rfl, h1, _, _, _, rfl, h2, _, _, _, rfl, h3, _, _, _, rfl, h4, _, _, _, rfl, h5, _, _, _, rfl, h6, _, _, _, rfl, h7, _, _, _, rfl, h8, _, rfl⟩ := h
  obtain ⟨n1, _, rfl⟩ := fits_int h1
  obtain ⟨n2, _, rfl⟩ := fits_int h2
  obtain ⟨n3, _, rfl⟩ := fits_int h3
  obtain ⟨n4, _, rfl⟩ := fits_int h4
  obtain ⟨n5, _, rfl⟩ := fits_int h5
  obtain ⟨n6, _, rfl⟩ := fits_int h6
  obtain ⟨x7, rfl, _⟩ := fits_ints h7
  obtain ⟨x8, rfl⟩ := fits_u8s h8
  exact ⟨⟨n1, n2, n3, n4, n5, n6, x7, x8⟩, rfl⟩
theorem fits_msg {a : AV} (h : FitsV msgSh a) : ∃ g : Msg, a = g.enc := by
  obtain ⟨l, h, _, rfl⟩ := h
  obtain ⟨g, rfl⟩ := fits_msgL h
  exact ⟨g, rfl⟩
theorem fits_call {a : AV} (h : FitsV callSh a) : ∃ (g : Msg) (now patience : Int), a = callEnc g now patience := by
  obtain ⟨l, h, _, rfl⟩ := h
  obtain ⟨_, _, rfl, h1, _, _, _, rfl, h2, _, _, _, rfl, h3, _, rfl⟩ := h
  obtain ⟨g, rfl⟩ := fits_msgL h1
  obtain ⟨n2, _, rfl⟩ := fits_int h2
  obtain ⟨n3, _, rfl⟩ := fits_int h3
  exact ⟨g, n2, n3, rfl⟩
theorem barrierObeys_lifted (os : Os) (started : os.Started) (H : Type) (enc : TypeId × Value → H) :
    ReturnsInHanded {} Try.checked os 5 .any (Rows.barrierObeysSpec.pre6 enc Try.prog Try.f5 [] false) (Rows.barrierObeysSpec.post enc Try.prog Try.f5 false true false false) :=
  law_lifted (C := Try.checked) (tb := 4) Try.own started (by kernel_rfl) Try.func5
    (ChangeSpec.witness6 (enc := enc) (C := Try.checked) false ⟨#[], #[.agg #[.int .i64 0, .int .i64 0, .int .i64 0, .int .i64 0, .bool false, .int .i64 0, .slice none 0 0, .slice none 0 0], .agg #[.int .i64 0, .int .i64 0, .int .i64 0, .int .i64 0, .int .i64 0, .int .i64 0, .slice none 0 0, .slice none 0 0, .int .i64 0, .int .i64 0]], []⟩ 8 (by kernel_rfl) (by kernel_rfl) (by kernel_rfl) (by kernel_rfl))
    rfl Try.laidOut (by decide +kernel) (by kernel_rfl) (by kernel_rfl)
    (fun ds hd => by match ds, hd with | [_, _], _ => rfl)
    [memSh, callSh] (by kernel_rfl)
    (fun l hl => by
      obtain ⟨a, _, rfl, h1, b, _, rfl, h2, rfl⟩ := hl
      obtain ⟨m, rfl⟩ := fits_mem h1
      obtain ⟨g, now, patience, rfl⟩ := fits_call h2
      exact good5 m g now patience)
theorem named5 : Try.pinned.checked.prog.funcNamed Rows.barrierObeysRow.func = some 5 := by kernel_rfl
theorem inst5 : Try.f5.isInstance Try.pinned.checked.prog Rows.barrierObeysRow.origin Rows.barrierObeysRow.targs := of_decide_eq_true (by kernel_rfl)
theorem wrap5 : Try.f5.isWrapper Try.pinned.checked.prog Rows.barrierObeysRow.wrapper Rows.barrierObeysRow.mainSum := by unfold Func.isWrapper; rw [if_neg (by decide +kernel)]; exact ⟨rfl, rfl⟩
theorem barrierObeys : Rows.BarrierObeysSaid :=
  OpenClaim.holds_of_wide 5 Try.f5 rfl rfl rfl rfl rfl rfl rfl ⟨rfl, rfl, rfl, rfl, rfl⟩ rfl rfl rfl rfl rfl named5 Try.func5 j5 inst5 wrap5 (fun os started H enc _ => barrierObeys_lifted os started H enc)
end Go.Proofs.Ytihljollfbogeaa
