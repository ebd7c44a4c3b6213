/- What the coordinator's functions answer. No condition. -/
import Derived.Test.YtihljollfbogeaaB9
import Derived.Test.YtihljollfbogeaaC3
namespace Go.Proofs.Ytihljollfbogeaa
open Go Go.RowKit

theorem Coord.enc_inj {c d : Coord} (h : c.enc = d.enc) : c = d := by
  obtain ⟨a1, a2, a3, a4, a5, a6, a7⟩ := c
  obtain ⟨b1, b2, b3, b4, b5, b6, b7⟩ := d
  simp only [Coord.enc, encI, encB, AV.agg.injEq, List.cons.injEq, AV.sc.injEq, Value.int.injEq, true_and, AV.imm.injEq, Value.bool.injEq, and_true] at h
  obtain ⟨rfl, rfl, rfl, rfl, h5, h6, rfl⟩ := h
  rw [map_inj encI_inj h5, map_inj encB_inj h6]
theorem encU_inj (a b : Int) (h : encU a = encU b) : a = b := by simpa [encU] using h
theorem Msg.enc_inj (c d : Msg) (h : c.enc = d.enc) : c = d := by
  obtain ⟨a1, a2, a3, a4, a5, a6, a7, a8⟩ := c
  obtain ⟨b1, b2, b3, b4, b5, b6, b7, b8⟩ := d
  simp only [Msg.enc, encI, AV.agg.injEq, List.cons.injEq, AV.sc.injEq, Value.int.injEq, true_and, AV.imm.injEq, and_true] at h
  obtain ⟨rfl, rfl, rfl, rfl, rfl, rfl, h7, h8⟩ := h
  rw [map_inj encI_inj h7, map_inj encU_inj h8]
theorem Mem.enc_inj (c d : Mem) (h : c.enc = d.enc) : c = d := by
  obtain ⟨a1, a2, a3, a4, a5, a6, a7, a8⟩ := c
  obtain ⟨b1, b2, b3, b4, b5, b6, b7, b8⟩ := d
  simp only [Mem.enc, encI, encB, AV.agg.injEq, List.cons.injEq, AV.sc.injEq, Value.int.injEq, Value.bool.injEq, true_and, AV.imm.injEq, and_true] at h
  obtain ⟨rfl, rfl, rfl, rfl, rfl, rfl, h7, h8⟩ := h
  rw [map_inj encI_inj h7, map_inj encI_inj h8]

abbrev X := List AV → Option AV
/-- Known, and kept as a table's row. -/
def Known (f : FuncId) (k : X) : Prop := ∀ l r, k l = some r → Enters Try.prog f ∧ Good Try.prog f l r
theorem known_nil : ∀ p ∈ ([] : List (FuncId × X)), ∀ l r, p.2 l = some r → Enters Try.prog p.1 ∧ Good Try.prog p.1 l r := fun p hp => by cases hp
theorem known_more {f : FuncId} {k : X} {t : List (FuncId × X)} (h : Known f k) (ht : ∀ p ∈ t, ∀ l r, p.2 l = some r → Enters Try.prog p.1 ∧ Good Try.prog p.1 l r) : ∀ p ∈ (f, k) :: t, ∀ l r, p.2 l = some r → Enters Try.prog p.1 ∧ Good Try.prog p.1 l r := fun p hp => by
  rcases List.mem_cons.1 hp with rfl | hp
  · exact h
  · exact ht p hp

theorem know {Y : Type} {enc : Y → List AV} {pre : Y → Prop} {res : Y → AV} {f : FuncId} (h : ∀ x, pre x → Enters Try.prog f ∧ Good Try.prog f (enc x) (res x)) : Known f (hnd enc pre res) := fun l r hr => hnd_ok (Q := fun l r => Enters Try.prog f ∧ Good Try.prog f l r) h l r hr
theorem none_ok : HandOk Try.prog (mkH []) := mkH_ok known_nil
theorem one_inj (x y : Int) (h : [encI x] = [encI y]) : x = y := encI_inj x y (by simpa using h)
theorem oneC_inj (x y : Coord) (h : [x.enc] = [y.enc]) : x = y := Coord.enc_inj (by simpa using h)
def okC (c : Coord) : Prop := c.positions.length ≤ 1073741824 ∧ c.seen.length ≤ 1073741824

noncomputable def x133 : X := hnd (fun n : Int => [encI n]) (fun _ => True) (fun n => encB (timeOk n))
theorem x133_ok : Known 133 x133 := know fun n _ => good_of_out none_ok no_inl mixed Try.func133 k133 (time_run _ _ 0 0 n)
theorem x133_eq (n : Int) : x133 [encI n] = some (encB (timeOk n)) := hnd_eq one_inj trivial
noncomputable def x136 : X := hnd (fun n : Int => [encI n]) (fun _ => True) (fun n => encB (badPos n))
theorem x136_ok : Known 136 x136 := know fun n _ => good_of_run none_ok no_inl mixed Try.func136 k136 (bad_run _ (fun _ _ _ _ => none) 0 0 n hemp) rfl
theorem x136_eq (n : Int) : x136 [encI n] = some (encB (badPos n)) := hnd_eq one_inj trivial
noncomputable def H1 : Hand := mkH [(133, x133), (136, x136)]
theorem H1_ok : HandOk Try.prog H1 := mkH_ok <| known_more x133_ok <| known_more x136_ok known_nil
def T1 : List (FuncId × CFn) := [(120, c120), (210, c210), (134, c134)]
theorem T1_ok : TabOk Try.prog (mkT T1) := mkT_ok <| mkT_more Try.func120 k120 <| mkT_more Try.func210 k210 <| mkT_more Try.func134 k134 mkT_nil

noncomputable def x43 : X := hnd (fun c : Coord => [c.enc]) okC (fun c => encI (checkCoord c))
theorem x43_ok : Known 43 x43 := know fun c hc => good_of_out H1_ok (inl_ok H1_ok mixed T1_ok (c.positions.length + 1) 3) mixed Try.func43 k43
  (check_run H1 (inl (mkT T1) H1 (c.positions.length + 1) 3) 0 0 c (fun n => x133_eq n) (fun _ _ => rfl) (fun n h => by
    show fnA H1 (inl (mkT T1) H1 (c.positions.length + 1) 2) (c.positions.length + 1) n c120 _ h = _
    exact contains_run H1 _ _ n 136 badPos c.positions (fun m h' => ⟨rfl, by
      show fnA H1 (inl (mkT T1) H1 (c.positions.length + 1) 1) (c.positions.length + 1) m c210 _ h' = _
      exact index_run H1 _ _ m 136 badPos (fun n => x136_eq n) c.positions (by have := hc.1; omega) (by omega) h'⟩) h))
theorem x43_eq {c : Coord} (hc : okC c) : x43 [c.enc] = some (encI (checkCoord c)) := hnd_eq oneC_inj hc
noncomputable def x44 : X := hnd (fun c : Coord => [c.enc]) okC (fun c => encI (checkCoord c))
theorem x44_ok : Known 44 x44 := know fun c hc => good_of_ends none_ok no_inl mixed Try.func44 k44 (check44_run _ _ (c.positions.length + 1) 0 c (by have := hc.1; omega) (by omega))
theorem x44_eq {c : Coord} (hc : okC c) : x44 [c.enc] = some (encI (checkCoord c)) := hnd_eq oneC_inj hc
def newR (n : Int) : AV := .tup [(newCoord n).1.enc, encI (newCoord n).2]
noncomputable def x45 : X := hnd (fun n : Int => [encI n]) (fun _ => True) newR
theorem x45_ok : Known 45 x45 := know fun n _ => good_of_out none_ok no_inl mixed Try.func45 k45 (new_run _ _ 0 0 n)
theorem x45_eq (n : Int) : x45 [encI n] = some (newR n) := hnd_eq one_inj trivial
theorem x45_ok' : Known 46 x45 := know fun n _ => good_of_ends none_ok no_inl mixed Try.func46 k46 (new46_run _ _ 0 0 n)
def enc135 (p : Coord × Int) : List AV := [p.1.enc, encI p.2]
noncomputable def x135 : X := hnd enc135 (fun p => 0 ≤ p.1.nodes ∧ p.1.nodes ≤ 8) (fun p => encMs (allMsgs p.2 p.1.nodes p.1.round))
theorem x135_ok : Known 135 x135 := know fun p hp => good_of_ends none_ok no_inl mixed Try.func135 k135 (all135_run _ _ 9 0 p.1 p.2 hp.1 hp.2 (by omega))
theorem x135_eq (c : Coord) (k : Int) (h0 : 0 ≤ c.nodes) (h8 : c.nodes ≤ 8) : x135 [c.enc, encI k] = some (encMs (allMsgs k c.nodes c.round)) :=
  hnd_eq (enc := enc135) (x := (c, k)) (fun x y h => by
    simp only [enc135, List.cons.injEq, and_true] at h
    exact Prod.ext (Coord.enc_inj h.1) (encI_inj _ _ h.2)) ⟨h0, h8⟩
def enc49 (xs : List Int) : List AV := [.imm (xs.map encI), .imm (xs.map encI)]
noncomputable def x49 : X := hnd enc49 (fun xs => xs.length ≤ 1073741824) (fun _ => encB true)
theorem x49_ok : Known 49 x49 := know fun xs hx => good_of_out none_ok no_inl mixed Try.func49 k49 (by
  have := sameInts_run (mkH []) (fun _ _ _ _ => none) (xs.length + 1) 0 xs xs (by omega) (by omega)
  simpa [enc49] using this)
theorem x49_eq {xs : List Int} (hx : xs.length ≤ 1073741824) : x49 [.imm (xs.map encI), .imm (xs.map encI)] = some (encB true) :=
  hnd_eq (enc := enc49) (fun x y h => by
    simp only [enc49, List.cons.injEq, AV.imm.injEq] at h
    exact map_inj encI_inj h.1) hx
def enc37 (p : Coord × Mem) : List AV := [p.1.enc, p.2.enc]
noncomputable def x37 : X := hnd enc37 (fun _ => True) (fun p => encB (few p.1 p.2))
theorem x37_ok : Known 37 x37 := know fun p _ => good_of_ends none_ok no_inl mixed Try.func37 k37 (few37_run _ _ 0 p.1 p.2)
theorem x37_eq (c : Coord) (m : Mem) : x37 [c.enc, m.enc] = some (encB (few c m)) :=
  hnd_eq (enc := enc37) (x := (c, m)) (fun x y h => by
    simp only [enc37, List.cons.injEq, and_true] at h
    exact Prod.ext (Coord.enc_inj h.1) (Mem.enc_inj _ _ h.2)) trivial
noncomputable def H2 : Hand := mkH [(133, x133), (43, x43), (44, x44), (45, x45), (46, x45), (135, x135), (137, hClone 1), (218, hClone 1), (49, x49)]
theorem H2_ok : HandOk Try.prog H2 := mkH_ok <| known_more x133_ok <| known_more x43_ok <| known_more x44_ok <| known_more x45_ok <| known_more x45_ok' <| known_more x135_ok <| known_more clone137_ok <| known_more clone218_ok <| known_more x49_ok known_nil

def enc39 (p : Coord × Int × Int) : List AV := [p.1.enc, encI p.2.1, encI p.2.2]
theorem enc39_inj (x y : Coord × Int × Int) (h : enc39 x = enc39 y) : x = y := by
  simp only [enc39, List.cons.injEq, and_true] at h
  exact Prod.ext (Coord.enc_inj h.1) (Prod.ext (encI_inj _ _ h.2.1) (encI_inj _ _ h.2.2))
def in64 (n : Int) : Prop := -9223372036854775808 ≤ n ∧ n < 9223372036854775808
noncomputable def x39 : X := hnd enc39 (fun p => okC p.1 ∧ in64 p.2.2) (fun p => encS (start p.1 p.2.1 p.2.2))
theorem x39_ok : Known 39 x39 := know fun p hp => good_of_ends H2_ok (inl_ok H2_ok mixed T1_ok 9 1) mixed Try.func39 k39
  (start39_run H2 (inl (mkT T1) H2 9 1) 9 p.1 p.2.1 p.2.2 hp.2 (x43_eq hp.1) (fun n => x133_eq n) (fun n => x45_eq n) (fun _ => rfl) (fun q m v kind h hr => all134_run hr (by omega)))
theorem x39_ok' : Known 40 x39 := know fun p hp => good_of_ends H2_ok no_inl mixed Try.func40 k40
  (start40_run H2 (fun _ _ _ _ => none) 9 p.1 p.2.1 p.2.2 hp.2 (x44_eq hp.1) (fun n => x45_eq n) (fun c kind h0 h8 => x135_eq c kind h0 h8))
theorem x39_eq {c : Coord} {now patience : Int} (hc : okC c) (hp : in64 patience) : x39 [c.enc, encI now, encI patience] = some (encS (start c now patience)) := hnd_eq (enc := enc39) (x := (c, now, patience)) enc39_inj ⟨hc, hp⟩
theorem hClone_ints {xs : List Int} (hx : xs.length ≤ 1073741824) : hClone 1 [.imm (xs.map encI)] = some (.imm (xs.map encI)) := by
  have h1 : (xs.map encI).all (okEl 1) = true := by simp [okEl, encI, AV.storable, AV.cells, AV.one]
  have h2 := encI_pure xs
  have h3 : (xs.map encI).length ≤ LIM := by simpa [LIM] using hx
  simp only [hClone]
  rw [if_pos ⟨h1, h2, h3⟩, encI_norm]
noncomputable def x47 : X := hnd (fun c : Coord => [c.enc]) okC (fun c => encR (result c))
theorem x47_ok : Known 47 x47 := know fun c hc => good_of_ends H2_ok no_inl mixed Try.func47 k47 (result47_run H2 (fun _ _ _ _ => none) 0 0 c (x43_eq hc) (hClone_ints hc.1))
theorem x47_ok' : Known 48 x47 := know fun c hc => good_of_ends H2_ok no_inl mixed Try.func48 k48 (result48_run H2 (fun _ _ _ _ => none) 0 0 c (x44_eq hc))
theorem x47_eq {c : Coord} (hc : okC c) : x47 [c.enc] = some (encR (result c)) := hnd_eq oneC_inj hc
def enc41 (c : Coord) : List AV := [c.enc, c.enc]
noncomputable def x41 : X := hnd enc41 okC (fun _ => encB true)
theorem x41_ok : Known 41 x41 := know fun c hc => good_of_ends H2_ok no_inl mixed Try.func41 k41 (same41_run H2 (fun _ _ _ _ => none) (c.seen.length + 1) c (by have := hc.2; omega) (by omega) (x49_eq hc.1))
theorem x41_eq {c : Coord} (hc : okC c) : x41 [c.enc, c.enc] = some (encB true) := hnd_eq (enc := enc41) (fun x y h => by
  simp only [enc41, List.cons.injEq, and_true] at h
  exact Coord.enc_inj h.1) hc
def okMs (l : List Msg) : Prop := l.length ≤ 1073741824 ∧ ∀ m ∈ l, m.values.length ≤ 1073741824
def enc42 (l : List Msg) : List AV := [encMs l, encMs l]
noncomputable def x42 : X := hnd enc42 okMs (fun _ => encB true)
theorem x42_ok : Known 42 x42 := know fun l hl => good_of_ends H2_ok no_inl mixed Try.func42 k42 (same42_run H2 (fun _ _ _ _ => none) (l.length + 1) l (by have := hl.1; omega) (by omega) (fun m hm => x49_eq (hl.2 m hm)))
theorem x42_eq {l : List Msg} (hl : okMs l) : x42 [encMs l, encMs l] = some (encB true) := hnd_eq (enc := enc42) (fun x y h => by
  simp only [enc42, encMs, List.cons.injEq, AV.imm.injEq] at h
  exact map_inj Msg.enc_inj h.1) hl
def x38 : X := fun l => match l with | [] => some (encB true) | _ => none
theorem x38_ok : Known 38 x38 := fun l r hr => by
  unfold x38 at hr
  split at hr
  · cases hr; exact good38
  · cases hr
theorem all_ok {kind nodes round : Int} (h8 : nodes ≤ 8) : okMs (allMsgs kind nodes round) := by
  refine ⟨by rw [all_len']; omega, fun m hm => ?_⟩
  obtain ⟨i, _, rfl⟩ := List.mem_map.1 hm
  simp [msgTo]
end Go.Proofs.Ytihljollfbogeaa
