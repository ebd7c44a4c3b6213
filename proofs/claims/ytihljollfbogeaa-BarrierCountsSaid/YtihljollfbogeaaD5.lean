/- What Issue, Durable and Release answer. No condition. -/
import Derived.Test.YtihljollfbogeaaD3
import Derived.Test.YtihljollfbogeaaB19
namespace Go.Proofs.Ytihljollfbogeaa
open Go Go.RowKit
def okM1 (m : Mem) : Prop := m.waiting.length < 1073741824 ∧ m.held.length < 1073741824
theorem okM1_ok {m : Mem} (h : okM1 m) : okM m := ⟨by have := h.1; omega, by have := h.2; omega⟩
theorem L137_ok : InlOk Try.prog (cloneI [(137, 1)]) := cloneI_ok mixed <| cl_more Try.func137 k137 cl_nil
theorem T90_ok : TabOk Try.prog (mkT T90) := mkT_ok <| mkT_more Try.func189 k189 mkT_nil
theorem T92_ok : TabOk Try.prog (mkT T92) := mkT_ok <| mkT_more Try.func190 k190 <| mkT_more Try.func143 k143 mkT_nil
noncomputable def H8 : Hand := mkH [(88, x88), (89, x88), (160, x160), (188, x83)]
theorem H8_ok : HandOk Try.prog H8 := mkH_ok <| known_more x88_ok <| known_more x88_ok' <| known_more x160_ok <| known_more x83_ok' known_nil
noncomputable def x86 : X := hnd (fun m : Mem => [m.enc]) okM1 (fun m => encIs (issue m))
theorem x86_ok : Known 86 x86 := know fun m hm => good_of_ends H8_ok L137_ok mixed Try.func86 k86 (issue86_run H8 0 m hm.1 (x88_eq (okM1_ok hm)) (fun _ => rfl))
theorem x86_ok' : Known 87 x86 := know fun m hm => good_of_ends H8_ok no_inl mixed Try.func87 k87 (issue87_run H8 (fun _ _ _ _ => none) 0 m hm.1 (x88_eq (okM1_ok hm)))
theorem x86_eq {m : Mem} (hm : okM1 m) : x86 [m.enc] = some (encIs (issue m)) := hnd_eq oneM_inj hm
def encMi (p : Mem × Int) : List AV := [p.1.enc, encI p.2]
theorem encMi_inj (x y : Mem × Int) (h : encMi x = encMi y) : x = y := by
  simp only [encMi, List.cons.injEq, and_true] at h
  exact Prod.ext (Mem.enc_inj _ _ h.1) (encI_inj _ _ h.2)
noncomputable def x90 : X := hnd encMi (fun p => okM1 p.1) (fun p => encD (durable p.1 p.2))
theorem x90_ok : Known 90 x90 := know fun p hp => good_of_ends H8_ok (inlB_ok L137_ok H8_ok mixed T90_ok 0 2) mixed Try.func90 k90
  (durable90_run H8 0 p.1 p.2 (okM1_ok hp).1 hp.2 (x88_eq (okM1_ok hp)) (x160_eq (okM1_ok hp).1) (fun _ => rfl) (fun _ => rfl))
theorem x90_ok' : Known 91 x90 := know fun p hp => good_of_ends H8_ok no_inl mixed Try.func91 k91
  (durable91_run H8 (fun _ _ _ _ => none) (p.1.waiting.length + 1) p.1 p.2 hp.1 (by omega) hp.2 (x88_eq (okM1_ok hp)) (x83_eq (okM1_ok hp).1))
theorem x90_eq {m : Mem} {x : Int} (hm : okM1 m) : x90 [m.enc, encI x] = some (encD (durable m x)) := hnd_eq (enc := encMi) (x := (m, x)) encMi_inj hm
noncomputable def x92 : X := hnd encMi (fun p => okM p.1) (fun p => encRl (release p.1 p.2))
theorem x92_ok : Known 92 x92 := know fun p hp => good_of_ends H6_ok (inl_ok H6_ok mixed T92_ok 0 2) mixed Try.func92 k92
  (release92_run H6 0 p.1 p.2 (x88_eq hp) (hClone_ints hp.2) (fun _ => rfl))
theorem x92_ok' : Known 93 x92 := know fun p hp => good_of_ends H6_ok (inl_ok H6_ok mixed T92_ok 0 2) mixed Try.func93 k93
  (release93_run H6 0 p.1 p.2 (x88_eq hp) (fun _ => rfl))
theorem x92_eq {m : Mem} {x : Int} (hm : okM m) : x92 [m.enc, encI x] = some (encRl (release m x)) := hnd_eq (enc := encMi) (x := (m, x)) encMi_inj hm
theorem ok_issue {m : Mem} (hm : okM1 m) : okM (issue m).1 := by
  unfold issue; split
  · exact okM1_ok hm
  · exact ⟨by have := hm.1; simp; omega, (okM1_ok hm).2⟩
theorem ok_durable {m : Mem} (hm : okM1 m) (x : Int) : okM (durable m x).1 ∧ (durable m x).2.1.length ≤ 1073741824 := by
  have z : okM Mem.zero ∧ ([] : List Int).length ≤ 1073741824 := ⟨⟨by simp [Mem.zero], by simp [Mem.zero]⟩, by simp⟩
  have hf : (m.waiting.filter (fun y => decide (y ≠ x))).length ≤ 1073741824 := Nat.le_trans (List.length_filter_le _ _) (okM1_ok hm).1
  unfold durable
  split
  · exact z
  split
  · exact z
  split
  · exact ⟨⟨hf, (okM1_ok hm).2⟩, by simp⟩
  · exact ⟨⟨hf, by have := hm.2; simp; omega⟩, by simp⟩
theorem ok_release {m : Mem} (hm : okM m) (x : Int) : okM (release m x).1 ∧ (release m x).2.length ≤ 1073741824 := by
  unfold release; split
  · exact ⟨hm, by simp⟩
  · exact ⟨⟨hm.1, by simp⟩, hm.2⟩
end Go.Proofs.Ytihljollfbogeaa
