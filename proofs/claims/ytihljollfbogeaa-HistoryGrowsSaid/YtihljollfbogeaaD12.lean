/- What New and Same of histories answer. No condition. -/
import Derived.Test.YtihljollfbogeaaB38
namespace Go.Proofs.Ytihljollfbogeaa
open Go Go.RowKit
noncomputable def x69 : X := hnd enc34 (fun p => okL p.1) (fun p => encB (decide (p.1 = p.2)))
theorem x69_ok : Known 69 x69 := know fun p hp => good_of_ends none_ok no_inl mixed Try.func69 k69 (by rw [c69_eq]; exact eqFn_run eqEl_int (mkH []) (fun _ _ _ _ => none) (p.1.length + 1) 0 p.1 p.2 (by simp only [okL, big] at hp; omega) (by omega))
theorem x69_eq {a : List Int} (b : List Int) (ha : okL a) : x69 [encIs a, encIs b] = some (encB (decide (a = b))) := hnd_eq (enc := enc34) (x := (a, b)) enc34_inj ha
def enc147 (p : List Evt × List Evt) : List AV := [encEs p.1, encEs p.2]
noncomputable def x147 : X := hnd enc147 (fun p => p.1.length ≤ big) (fun p => encB (decide (p.1 = p.2)))
theorem x147_ok : Known 147 x147 := know fun p hp => good_of_ends none_ok no_inl mixed Try.func147 k147 (by rw [c147_eq]; exact eqFn_run eqEl_evt (mkH []) (fun _ _ _ _ => none) (p.1.length + 1) 0 p.1 p.2 (by simp only [big] at hp; omega) (by omega))
theorem x147_eq {a : List Evt} (b : List Evt) (ha : a.length ≤ big) : x147 [encEs a, encEs b] = some (encB (decide (a = b))) := hnd_eq (enc := enc147) (x := (a, b)) (two_inj encEs_inj encEs_inj) ha
def enc217 (p : List Sec × List Sec) : List AV := [encSs p.1, encSs p.2]
noncomputable def x217 : X := hnd enc217 (fun p => p.1.length ≤ big) (fun p => encB (decide (p.1 = p.2)))
theorem x217_ok : Known 217 x217 := know fun p hp => good_of_ends none_ok no_inl mixed Try.func217 k217 (by rw [c217_eq]; exact eqFn_run eqEl_sec (mkH []) (fun _ _ _ _ => none) (p.1.length + 1) 0 p.1 p.2 (by simp only [big] at hp; omega) (by omega))
theorem x217_eq {a : List Sec} (b : List Sec) (ha : a.length ≤ big) : x217 [encSs a, encSs b] = some (encB (decide (a = b))) := hnd_eq (enc := enc217) (x := (a, b)) (two_inj encSs_inj encSs_inj) ha
noncomputable def G19 : Hand := mkH [(217, x217)]
theorem G19_ok : HandOk Try.prog G19 := mkH_ok <| known_more x217_ok known_nil
def enc146 (p : List Wr × List Wr) : List AV := [encWs p.1, encWs p.2]
noncomputable def x146 : X := hnd enc146 (fun p => p.1.length ≤ big ∧ ∀ w ∈ p.1, w.data.length ≤ big) (fun p => encB (decide (p.1 = p.2)))
theorem x146_ok : Known 146 x146 := know fun p hp => good_of_ends G19_ok no_inl mixed Try.func146 k146 (sameWr_run G19 (fun _ _ _ _ => none) (p.1.length + 1) 0 p.1 p.2 (by have := hp.1; simp only [big] at this; omega) (by omega) (fun x hx y => x217_eq y (hp.2 x hx)))
theorem x146_eq {a : List Wr} (b : List Wr) (h1 : a.length ≤ big) (h2 : ∀ w ∈ a, w.data.length ≤ big) : x146 [encWs a, encWs b] = some (encB (decide (a = b))) := hnd_eq (enc := enc146) (x := (a, b)) (two_inj encWs_inj encWs_inj) ⟨h1, h2⟩
noncomputable def G20 : Hand := mkH [(69, x69), (146, x146), (147, x147)]
theorem G20_ok : HandOk Try.prog G20 := mkH_ok <| known_more x69_ok <| known_more x146_ok <| known_more x147_ok known_nil
def enc55 (p : Hist × Hist) : List AV := [p.1.enc, p.2.enc]
noncomputable def x55 : X := hnd enc55 (fun p => OkH p.1) (fun p => encB (decide (p.1 = p.2)))
theorem x55_ok : Known 55 x55 := know fun p hp => good_of_ends G20_ok no_inl mixed Try.func55 k55 (same55_run G20 (fun _ _ _ _ => none) 0 0 p.1 p.2 (x69_eq _ hp.sizes) (x146_eq _ hp.writes hp.data) (x147_eq _ hp.events))
theorem x55_eq {a : Hist} (b : Hist) (ha : OkH a) : x55 [a.enc, b.enc] = some (encB (decide (a = b))) := hnd_eq (enc := enc55) (x := (a, b)) (two_inj Hist.enc_inj Hist.enc_inj) ha
theorem x55_same {a : Hist} (ha : OkH a) : x55 [a.enc, a.enc] = some (encB true) := by rw [x55_eq a ha, decide_eq_true rfl]
noncomputable def G21 : Hand := mkH [(144, x144), (137, hClone 1), (145, x145)]
theorem G21_ok : HandOk Try.prog G21 := mkH_ok <| known_more x144_ok <| known_more clone137_ok <| known_more x145_ok known_nil
noncomputable def x53 : X := hnd (fun l : List Int => [encIs l]) okL (fun l => .tup [(newH l).1.enc, encI (newH l).2])
theorem x53_ok : Known 53 x53 := know fun l hl => good_of_ends G21_ok no_inl mixed Try.func53 k53 (new53_run G21 (fun _ _ _ _ => none) 0 0 l (x144_eq hl) (hClone_ints (big_le hl)))
theorem x53_ok' : Known 54 x53 := know fun l hl => good_of_ends G21_ok no_inl mixed Try.func54 k54 (new54_run G21 (fun _ _ _ _ => none) 0 l (big_le hl) (x145_eq l))
theorem x53_eq {l : List Int} (hl : okL l) : x53 [encIs l] = some (.tup [(newH l).1.enc, encI (newH l).2]) := hnd_eq (sing_inj encIs_inj) hl
theorem okZero : OkH .zero := ⟨Nat.zero_le _, Nat.zero_le _, Nat.zero_le _, fun w hw => by cases hw⟩
theorem newH_ok {l : List Int} (hl : okL l) : OkH (newH l).1 := by
  unfold newH
  split
  · exact okZero
  · exact ⟨hl, Nat.zero_le _, Nat.zero_le _, fun w hw => by cases hw⟩
end Go.Proofs.Ytihljollfbogeaa
