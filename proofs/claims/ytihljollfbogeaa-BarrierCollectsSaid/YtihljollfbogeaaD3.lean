/- What the members' functions answer. No condition. -/
import Derived.Test.YtihljollfbogeaaD1
import Derived.Test.YtihljollfbogeaaB15
namespace Go.Proofs.Ytihljollfbogeaa
open Go Go.RowKit
def okM (m : Mem) : Prop := m.waiting.length ≤ 1073741824 ∧ m.held.length ≤ 1073741824
theorem oneM_inj (x y : Mem) (h : [x.enc] = [y.enc]) : x = y := Mem.enc_inj _ _ (by simpa using h)
def encL1 (p : List Int × Int) : List AV := [.imm (p.1.map encI), encI p.2]
theorem encL1_inj (x y : List Int × Int) (h : encL1 x = encL1 y) : x = y := by
  simp only [encL1, List.cons.injEq, AV.imm.injEq, and_true] at h
  exact Prod.ext (map_inj encI_inj h.1) (encI_inj _ _ h.2)
noncomputable def x160 : X := hnd encL1 (fun p => p.1.length ≤ 1073741824) (fun p => encI (idxF (fun y => decide (p.2 = y)) p.1))
theorem x160_ok : Known 160 x160 := know fun p hp => good_of_ends none_ok no_inl mixed Try.func160 k160 (index160_run _ _ (p.1.length + 1) p.1 p.2 (by omega) (by omega))
theorem x160_eq {l : List Int} {x : Int} (hl : l.length ≤ 1073741824) : x160 [.imm (l.map encI), encI x] = some (encI (idxF (fun y => decide (x = y)) l)) := hnd_eq (enc := encL1) (x := (l, x)) encL1_inj hl
noncomputable def H4 : Hand := mkH [(160, x160)]
theorem H4_ok : HandOk Try.prog H4 := mkH_ok <| known_more x160_ok known_nil
noncomputable def x83 : X := hnd encL1 (fun p => p.1.length ≤ 1073741824) (fun p => encB (decide (p.2 ∈ p.1)))
theorem x83_ok : Known 83 x83 := know fun p hp => good_of_ends H4_ok no_inl mixed Try.func83 k83 (contains83_run H4 (fun _ _ _ _ => none) 0 p.1 p.2 (x160_eq hp))
theorem x83_ok' : Known 188 x83 := know fun p hp => good_of_ends none_ok no_inl mixed Try.func188 k188 (has188_run _ _ (p.1.length + 1) p.1 p.2 (by omega) (by omega))
theorem x83_eq {l : List Int} {x : Int} (hl : l.length ≤ 1073741824) : x83 [.imm (l.map encI), encI x] = some (encB (decide (x ∈ l))) := hnd_eq (enc := encL1) (x := (l, x)) encL1_inj hl
noncomputable def H5 : Hand := mkH [(83, x83), (188, x83), (133, x133)]
theorem H5_ok : HandOk Try.prog H5 := mkH_ok <| known_more x83_ok <| known_more x83_ok' <| known_more x133_ok known_nil
noncomputable def x88 : X := hnd (fun m : Mem => [m.enc]) okM (fun m => encI (checkMem m))
theorem x88_ok : Known 88 x88 := know fun m hm => good_of_ends H5_ok no_inl mixed Try.func88 k88 (check88_run H5 (fun _ _ _ _ => none) (m.waiting.length + m.held.length + 1) m (fun n => x133_eq n) ⟨by have := hm.1; omega, by have := hm.2; omega⟩ ⟨by omega, by omega⟩ (fun l x hl => x83_eq (by have := hm.1; have := hm.2; omega)))
theorem x88_ok' : Known 89 x88 := know fun m hm => good_of_ends H5_ok no_inl mixed Try.func89 k89 (check89_run H5 (fun _ _ _ _ => none) (m.waiting.length + m.held.length + 1) m ⟨by have := hm.1; omega, by have := hm.2; omega⟩ ⟨by omega, by omega⟩ (fun l x hl => x83_eq (by have := hm.1; have := hm.2; omega)))
theorem x88_eq {m : Mem} (hm : okM m) : x88 [m.enc] = some (encI (checkMem m)) := hnd_eq oneM_inj hm
def enc52 (m : Mem) : List AV := [m.enc, m.enc]
noncomputable def H6 : Hand := mkH [(49, x49), (88, x88), (89, x88), (133, x133), (137, hClone 1), (160, x160), (188, x83)]
theorem H6_ok : HandOk Try.prog H6 := mkH_ok <| known_more x49_ok <| known_more x88_ok <| known_more x88_ok' <| known_more x133_ok <| known_more clone137_ok <| known_more x160_ok <| known_more x83_ok' known_nil
noncomputable def x52 : X := hnd enc52 okM (fun _ => encB true)
theorem x52_ok : Known 52 x52 := know fun m hm => good_of_ends H6_ok no_inl mixed Try.func52 k52 (same52_run H6 (fun _ _ _ _ => none) 0 m (x49_eq hm.1) (x49_eq hm.2))
theorem x52_eq {m : Mem} (hm : okM m) : x52 [m.enc, m.enc] = some (encB true) := hnd_eq (enc := enc52) (fun x y h => by
  simp only [enc52, List.cons.injEq, and_true] at h
  exact Mem.enc_inj _ _ h.1) hm
def enc50 (p : Mem × Int × Int × Msg) : List AV := [p.1.enc, encI p.2.1, encI p.2.2.1, p.2.2.2.enc]
theorem enc50_inj (x y : Mem × Int × Int × Msg) (h : enc50 x = enc50 y) : x = y := by
  simp only [enc50, List.cons.injEq, and_true] at h
  exact Prod.ext (Mem.enc_inj _ _ h.1) (Prod.ext (encI_inj _ _ h.2.1) (Prod.ext (encI_inj _ _ h.2.2.1) (Msg.enc_inj _ _ h.2.2.2)))
noncomputable def x50 : X := hnd enc50 (fun p => okM p.1) (fun p => encO (obey p.1 p.2.1 p.2.2.1 p.2.2.2))
theorem T50_ok : TabOk Try.prog (mkT T50) := mkT_ok <| mkT_more Try.func138 k138 <| mkT_more Try.func139 k139 <| mkT_more Try.func140 k140 <| mkT_more Try.func190 k190 <| mkT_more Try.func213 k213 mkT_nil
theorem T51_ok : TabOk Try.prog (mkT T51) := mkT_ok <| mkT_more Try.func141 k141 <| mkT_more Try.func142 k142 <| mkT_more Try.func143 k143 mkT_nil
theorem x50_ok : Known 50 x50 := know fun p hp => good_of_ends H6_ok (inl_ok H6_ok mixed T50_ok 0 3) mixed Try.func50 k50
  (obey50_run H6 0 p.1 p.2.1 p.2.2.1 p.2.2.2 (x88_eq hp) (fun n => x133_eq n) (hClone_ints hp.1) (hClone_ints hp.2) (fun _ => rfl) (fun _ => rfl) (fun _ => rfl) (fun _ => rfl) (fun _ => rfl))
theorem x50_ok' : Known 51 x50 := know fun p hp => good_of_ends H6_ok (inl_ok H6_ok mixed T51_ok 0 3) mixed Try.func51 k51
  (obey51_run H6 0 p.1 p.2.1 p.2.2.1 p.2.2.2 (x88_eq hp) (fun _ => rfl) (fun _ => rfl) (fun _ => rfl))
theorem x50_eq {m : Mem} {now patience : Int} {g : Msg} (hm : okM m) : x50 [m.enc, encI now, encI patience, g.enc] = some (encO (obey m now patience g)) := hnd_eq (enc := enc50) (x := (m, now, patience, g)) enc50_inj hm
theorem ok_obey {m : Mem} (hm : okM m) (now patience : Int) (g : Msg) : okM (obey m now patience g).1 ∧ (obey m now patience g).2.1.length ≤ 1073741824 ∧ okMs (obey m now patience g).2.2 := by
  have n0 : okMs [] := ⟨by simp, fun m hm => by cases hm⟩
  have a0 : ∀ k v, okMs (ansM g k v) := fun k v => ⟨by simp [ansM], fun m hm => by simp [ansM] at hm; subst hm; simp⟩
  obtain ⟨h1, h2⟩ := hm
  have z : okM m ∧ ([] : List Int).length ≤ 1073741824 := ⟨⟨h1, h2⟩, by simp⟩
  unfold obey
  repeat' split
  all_goals first | exact ⟨z.1, z.2, n0⟩ | exact ⟨z.1, z.2, a0 _ _⟩ | exact ⟨⟨h1, h2⟩, z.2, a0 _ _⟩ | exact ⟨⟨h1, by simp⟩, h2, a0 _ _⟩ | exact ⟨⟨h1, by simp⟩, h2, n0⟩
end Go.Proofs.Ytihljollfbogeaa
