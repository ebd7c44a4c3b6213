/- What Collect and Expire answer. No condition. -/
import Derived.Test.YtihljollfbogeaaD1
import Derived.Test.YtihljollfbogeaaB25
namespace Go.Proofs.Ytihljollfbogeaa
open Go Go.RowKit
theorem BC_ok : InlOk Try.prog BC := cloneI_ok mixed <| cl_more Try.func137 k137 <| cl_more Try.func218 k218 cl_nil
theorem TC_ok : TabOk Try.prog (mkT TC) := mkT_ok <| mkT_more Try.func134 k134 <| mkT_more Try.func135 k135 <| mkT_more Try.func150 k150 <| mkT_more Try.func151 k151 <| mkT_more Try.func152 k152 <| mkT_more Try.func154 k154 <| mkT_more Try.func155 k155 <| mkT_more Try.func219 k219 mkT_nil
def enc153 (l : List Bool) : List AV := [.imm (l.map encB)]
theorem enc153_inj (x y : List Bool) (h : enc153 x = enc153 y) : x = y := by
  simp only [enc153, List.cons.injEq, AV.imm.injEq, and_true] at h
  exact map_inj encB_inj h
noncomputable def x153 : X := hnd enc153 (fun l => l.length ≤ 1073741824) (fun l => encB (l.all id))
theorem x153_ok : Known 153 x153 := know fun l hl => good_of_ends none_ok no_inl mixed Try.func153 k153 (every153_run _ _ (l.length + 1) l (by omega) (by omega))
theorem x153_eq {l : List Bool} (hl : l.length ≤ 1073741824) : x153 [.imm (l.map encB)] = some (encB (l.all id)) := hnd_eq (enc := enc153) enc153_inj hl
noncomputable def H10 : Hand := mkH [(43, x43), (44, x44), (153, x153)]
theorem H10_ok : HandOk Try.prog H10 := mkH_ok <| known_more x43_ok <| known_more x44_ok <| known_more x153_ok known_nil
def enc58 (p : Coord × Int × Msg) : List AV := [p.1.enc, encI p.2.1, p.2.2.enc]
theorem enc58_inj (x y : Coord × Int × Msg) (h : enc58 x = enc58 y) : x = y := by
  simp only [enc58, List.cons.injEq, and_true] at h
  exact Prod.ext (Coord.enc_inj h.1) (Prod.ext (encI_inj _ _ h.2.1) (Msg.enc_inj _ _ h.2.2))
noncomputable def x58 : X := hnd enc58 (fun p => okC p.1) (fun p => encE (collect p.1 p.2.1 p.2.2))
theorem x58_ok : Known 58 x58 := know fun p hp => good_of_ends H10_ok (inlB_ok BC_ok H10_ok mixed TC_ok (p.1.seen.length + 9) 4) mixed Try.func58 k58
  (collect58_run H10 (p.1.seen.length + 9) p.1 p.2.1 p.2.2 (by omega) (x43_eq hp) (by omega) (fun _ => rfl) (fun _ => rfl) (fun _ => rfl) (fun _ => rfl) (fun _ => rfl) (fun _ => rfl) (fun _ => rfl) (fun _ => rfl))
theorem x58_ok' : Known 59 x58 := know fun p hp => good_of_ends H10_ok (inlB_ok BC_ok H10_ok mixed TC_ok 9 4) mixed Try.func59 k59
  (collect59_run H10 9 p.1 p.2.1 p.2.2 (by omega) (x44_eq hp) (fun _ => rfl) (fun _ => rfl) (fun l hl => x153_eq hl))
theorem x58_eq {c : Coord} {now : Int} {g : Msg} (hc : okC c) : x58 [c.enc, encI now, g.enc] = some (encE (collect c now g)) := hnd_eq (enc := enc58) (x := (c, now, g)) enc58_inj hc
def enc60 (p : Coord × Int) : List AV := [p.1.enc, encI p.2]
theorem enc60_inj (x y : Coord × Int) (h : enc60 x = enc60 y) : x = y := by
  simp only [enc60, List.cons.injEq, and_true] at h
  exact Prod.ext (Coord.enc_inj h.1) (encI_inj _ _ h.2)
noncomputable def x60 : X := hnd enc60 (fun p => okC p.1) (fun p => encE (expire p.1 p.2))
theorem x60_ok : Known 60 x60 := know fun p hp => good_of_ends H10_ok (inlB_ok BC_ok H10_ok mixed TC_ok 9 4) mixed Try.func60 k60
  (expire60_run H10 9 p.1 p.2 (by omega) (x43_eq hp) hp.1 hp.2 (fun _ => rfl) (fun _ => rfl) (fun _ => rfl) (fun _ => rfl) (fun _ => rfl))
theorem x60_ok' : Known 61 x60 := know fun p hp => good_of_ends H10_ok (inlB_ok BC_ok H10_ok mixed TC_ok 9 4) mixed Try.func61 k61
  (expire61_run H10 9 p.1 p.2 (by omega) (x44_eq hp) (fun _ => rfl) (fun _ => rfl))
theorem x60_eq {c : Coord} {now : Int} (hc : okC c) : x60 [c.enc, encI now] = some (encE (expire c now)) := hnd_eq (enc := enc60) (x := (c, now)) enc60_inj hc
theorem ok_collect {c : Coord} (hc : okC c) (now : Int) (g : Msg) : okC (collect c now g).1 ∧ okMs (collect c now g).2 := by
  have n0 : okMs [] := ⟨by simp, fun m hm => by cases hm⟩
  obtain ⟨h1, h2⟩ := hc
  unfold collect
  split
  · exact ⟨⟨h1, h2⟩, n0⟩
  · rename_i h
    have h8 := (checkCoord_zero (c := c) (by omega)).2.1
    have a := fun k => all_ok (kind := k) (round := c.round) h8
    have hr : c.nodes.toNat ≤ 1073741824 := by omega
    repeat' split
    all_goals first | exact ⟨⟨h1, h2⟩, n0⟩ | exact ⟨⟨h1, h2⟩, a _⟩ | exact ⟨⟨by simpa using h1, by simpa using hr⟩, a _⟩ | exact ⟨⟨by simpa using h1, by simpa using h2⟩, n0⟩ | exact ⟨⟨h1, by simpa using h2⟩, n0⟩
theorem ok_expire {c : Coord} (hc : okC c) (now : Int) : okC (expire c now).1 ∧ okMs (expire c now).2 := by
  unfold expire
  split
  · exact ⟨hc, ⟨by simp, fun m hm => by cases hm⟩⟩
  · rename_i h
    exact ⟨hc, all_ok (checkCoord_zero (c := c) (by omega)).2.1⟩
end Go.Proofs.Ytihljollfbogeaa
