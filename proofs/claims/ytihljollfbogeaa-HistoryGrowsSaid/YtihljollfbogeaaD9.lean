/- What the functions on histories answer. No condition. -/
import Derived.Test.YtihljollfbogeaaB29
import Derived.Test.YtihljollfbogeaaB36
namespace Go.Proofs.Ytihljollfbogeaa
open Go Go.RowKit
theorem encIm_inj (a b : List (List Sec)) (h : encIm a = encIm b) : a = b := map_inj (f := encSs) (fun x y h => map_inj Sec.enc_inj (by simpa only [encSs, AV.imm.injEq] using h)) (by simpa only [encIm, AV.imm.injEq] using h)
theorem encSs_inj (a b : List Sec) (h : encSs a = encSs b) : a = b := map_inj Sec.enc_inj (by simpa only [encSs, AV.imm.injEq] using h)
theorem sing_inj {β : Type} {f : β → AV} (hf : ∀ x y, f x = f y → x = y) (x y : β) (h : [f x] = [f y]) : x = y := hf x y (by simpa using h)
theorem two_inj {β γ : Type} {f : β → AV} {g : γ → AV} (hf : ∀ x y, f x = f y → x = y) (hg : ∀ x y, g x = g y → x = y) (x y : β × γ) (h : [f x.1, g x.2] = [f y.1, g y.2]) : x = y := by
  simp only [List.cons.injEq, and_true] at h
  exact Prod.ext (hf _ _ h.1) (hg _ _ h.2)
theorem three_inj {β γ δ : Type} {f : β → AV} {g : γ → AV} {k : δ → AV} (hf : ∀ x y, f x = f y → x = y) (hg : ∀ x y, g x = g y → x = y) (hk : ∀ x y, k x = k y → x = y) (x y : β × γ × δ) (h : [f x.1, g x.2.1, k x.2.2] = [f y.1, g y.2.1, k y.2.2]) : x = y := by
  simp only [List.cons.injEq, and_true] at h
  exact Prod.ext (hf _ _ h.1) (Prod.ext (hg _ _ h.2.1) (hk _ _ h.2.2))

noncomputable def x237 : X := hnd (fun n : Int => [encI n]) (fun _ => True) (fun n => encB (badSz n))
theorem x237_ok : Known 237 x237 := know fun n _ => good_of_run none_ok no_inl mixed Try.func237 k237 (sz_run _ (fun _ _ _ _ => none) 0 0 n hemp) rfl
theorem x237_eq (n : Int) : x237 [encI n] = some (encB (badSz n)) := hnd_eq one_inj trivial
def T2 : List (FuncId × CFn) := [(120, c120), (210, c210)]
theorem T2_ok : TabOk Try.prog (mkT T2) := mkT_ok <| mkT_more Try.func120 k120 <| mkT_more Try.func210 k210 mkT_nil
noncomputable def G1 : Hand := mkH [(237, x237)]
theorem G1_ok : HandOk Try.prog G1 := mkH_ok <| known_more x237_ok known_nil
def big : Nat := 536870912
noncomputable def x214 : X := hnd (fun l : List Int => [encIs l]) (fun l => l.length ≤ big) (fun l => encI (sizesE l))
theorem x214_ok : Known 214 x214 := know fun l hl => good_of_run G1_ok (inl_ok G1_ok mixed T2_ok (l.length + 1) 3) mixed Try.func214 k214
  (sizes214_run G1 (inl (mkT T2) G1 (l.length + 1) 3) 0 0 l hemp (fun n h => ⟨rfl, by
    show fnA G1 (inl (mkT T2) G1 (l.length + 1) 2) (l.length + 1) n c120 _ h = _
    exact contains_run G1 _ _ n 237 badSz l (fun m h' => ⟨rfl, by
      show fnA G1 (inl (mkT T2) G1 (l.length + 1) 1) (l.length + 1) m c210 _ h' = _
      exact index_run G1 _ _ m 237 badSz (fun n => x237_eq n) l (by simp only [big] at hl; omega) (by omega) h'⟩) h⟩)) rfl
theorem x214_eq {l : List Int} (hl : l.length ≤ big) : x214 [encIs l] = some (encI (sizesE l)) := hnd_eq (sing_inj encIs_inj) hl
noncomputable def x216 : X := hnd (fun n : Int => [encI n]) (fun n => 0 ≤ n ∧ n ≤ 1073741824) (fun n => encSs (List.replicate n.toNat zSec))
theorem x216_ok : Known 216 x216 := know fun n hn => good_of_ends none_ok no_inl mixed Try.func216 k216 (make216_run _ (fun _ _ _ _ => none) 0 0 n hn.1 hn.2)
theorem x216_eq {n : Int} (h0 : 0 ≤ n) (h1 : n ≤ 1073741824) : x216 [encI n] = some (encSs (List.replicate n.toNat zSec)) := hnd_eq one_inj ⟨h0, h1⟩
def T3 : List (FuncId × CFn) := [(215, c215), (247, c247)]
theorem T3_ok : TabOk Try.prog (mkT T3) := mkT_ok <| mkT_more Try.func215 k215 <| mkT_more Try.func247 k247 mkT_nil
noncomputable def G2 : Hand := mkH [(214, x214), (216, x216)]
theorem G2_ok : HandOk Try.prog G2 := mkH_ok <| known_more x214_ok <| known_more x216_ok known_nil
noncomputable def x144 : X := hnd (fun l : List Int => [encIs l]) (fun l => l.length ≤ big) (fun l => .tup [encIm (newIm l).1, encI (newIm l).2])
theorem x144_ok : Known 144 x144 := know fun l hl => good_of_ends G2_ok (inl_ok G2_ok mixed T3_ok (l.length + 1) 1) mixed Try.func144 k144
  (new144_run G2 (inl (mkT T3) G2 (l.length + 1) 1) 0 0 l (x214_eq hl) (fun h0 n h => ⟨rfl, by
    show Ends (fnA G2 (inl (mkT T3) G2 (l.length + 1) 0) (l.length + 1) n c215 _ h) _
    refine mapped215_run G2 _ (l.length + 1) n 216 (l.map encI) _ (by simp) (by simp only [big] at hl; simp; omega) (by simp) (fun i x y hx hy => ?_) h
    rw [List.getElem?_map] at hx hy
    obtain ⟨m, h1, rfl⟩ := Option.map_eq_some_iff.1 hx
    rw [h1] at hy
    cases hy
    have hm := (sizesE_zero h0).2.2 m (List.mem_of_getElem? h1)
    exact ⟨x216_eq (by omega) (by omega), fun _ => rfl, fun _ => rfl, rfl, rfl, rfl, rfl, rfl, rfl, rfl⟩⟩))
theorem x144_eq {l : List Int} (hl : l.length ≤ big) : x144 [encIs l] = some (.tup [encIm (newIm l).1, encI (newIm l).2]) := hnd_eq (sing_inj encIs_inj) hl
noncomputable def x248 : X := hnd (fun l : List Sec => [encSs l]) (fun _ => True) (fun l => encI l.length)
theorem x248_ok : Known 248 x248 := know fun l _ => good_of_run none_ok no_inl mixed Try.func248 k248 (len248_run _ (fun _ _ _ _ => none) 0 0 l hemp) rfl
theorem x248_eq (l : List Sec) : x248 [encSs l] = some (encI l.length) := hnd_eq (sing_inj encSs_inj) trivial
noncomputable def G3 : Hand := mkH [(248, x248)]
theorem G3_ok : HandOk Try.prog G3 := mkH_ok <| known_more x248_ok known_nil
noncomputable def x238 : X := hnd (fun im : List (List Sec) => [encIm im]) (fun im => im.length ≤ big) (fun im => encIs (lens im))
theorem x238_ok : Known 238 x238 := know fun im hl => good_of_ends G3_ok (inl_ok G3_ok mixed T3_ok (im.length + 1) 1) mixed Try.func238 k238
  (sizes238_run G3 (inl (mkT T3) G3 (im.length + 1) 1) 0 0 im (fun n h => ⟨rfl, by
    show Ends (fnA G3 (inl (mkT T3) G3 (im.length + 1) 0) (im.length + 1) n c215 _ h) _
    refine mapped215_run G3 _ (im.length + 1) n 248 (im.map encSs) _ (by simp [lens]) (by simp only [big] at hl; simp; omega) (by simp) (fun i x y hx hy => ?_) h
    rw [lens, List.map_map] at hy
    rw [List.getElem?_map] at hx hy
    obtain ⟨m, h1, rfl⟩ := Option.map_eq_some_iff.1 hx
    rw [h1] at hy
    cases hy
    exact ⟨x248_eq m, fun _ => rfl, fun _ => rfl, rfl, rfl, rfl, rfl, rfl, rfl, rfl⟩⟩))
theorem x238_eq {im : List (List Sec)} (hl : im.length ≤ big) : x238 [encIm im] = some (encIs (lens im)) := hnd_eq (sing_inj encIm_inj) hl
noncomputable def G4 : Hand := mkH [(238, x238), (214, x214)]
theorem G4_ok : HandOk Try.prog G4 := mkH_ok <| known_more x238_ok <| known_more x214_ok known_nil
noncomputable def x221 : X := hnd (fun im : List (List Sec) => [encIm im]) (fun im => im.length ≤ big) (fun im => encI (sizesE (lens im)))
theorem x221_ok : Known 221 x221 := know fun im hl => good_of_ends G4_ok no_inl mixed Try.func221 k221 (check221_run G4 (fun _ _ _ _ => none) 0 0 im (x238_eq hl) (x214_eq (by simpa [lens] using hl)))
theorem x221_eq {im : List (List Sec)} (hl : im.length ≤ big) : x221 [encIm im] = some (encI (sizesE (lens im))) := hnd_eq (sing_inj encIm_inj) hl
def enc183 (p : List (List Sec) × Wr) : List AV := [encIm p.1, p.2.enc]
theorem enc183_inj (x y : List (List Sec) × Wr) (h : enc183 x = enc183 y) : x = y := two_inj encIm_inj Wr.enc_inj x y h
def ok183 (p : List (List Sec) × Wr) : Prop := p.1.length ≤ big ∧ okIm p.1 ∧ p.2.data.length ≤ 1073741824
noncomputable def x223 : X := hnd enc183 ok183 (fun p => encI (fitsE (lens p.1) p.2))
theorem x223_ok : Known 223 x223 := know fun p hp => good_of_ends none_ok no_inl mixed Try.func223 k223 (fits223_run _ (fun _ _ _ _ => none) 0 0 p.1 p.2 hp.2.1 hp.2.2)
theorem x223_eq {p : List (List Sec) × Wr} (hp : ok183 p) : x223 [encIm p.1, p.2.enc] = some (encI (fitsE (lens p.1) p.2)) := hnd_eq (enc := enc183) enc183_inj hp
noncomputable def G5 : Hand := mkH [(221, x221), (223, x223)]
theorem G5_ok : HandOk Try.prog G5 := mkH_ok <| known_more x221_ok <| known_more x223_ok known_nil
noncomputable def x183 : X := hnd enc183 ok183 (fun p => encI (fitsI p.1 p.2))
theorem x183_ok : Known 183 x183 := know fun p hp => good_of_ends G5_ok no_inl mixed Try.func183 k183 (fits183_run G5 (fun _ _ _ _ => none) 0 0 p.1 p.2 (x221_eq hp.1) (x223_eq hp))
theorem x183_eq {p : List (List Sec) × Wr} (hp : ok183 p) : x183 [encIm p.1, p.2.enc] = some (encI (fitsI p.1 p.2)) := hnd_eq (enc := enc183) enc183_inj hp
theorem lens_new {l : List Int} (h : sizesE l = 0) : lens (newIm l).1 = l := by
  have h1 : (newIm l).1 = l.map fun n => List.replicate n.toNat zSec := by unfold newIm; rw [if_neg (by simp [h])]
  rw [h1, lens, List.map_map]
  conv => rhs; rw [← List.map_id l]
  refine List.map_congr_left fun n hn => ?_
  have := (sizesE_zero h).2.2 n hn
  simp; omega
theorem okIm_new {l : List Int} (h : sizesE l = 0) : (newIm l).1.length ≤ 8 ∧ okIm (newIm l).1 := by
  have h1 : (newIm l).1 = l.map fun n => List.replicate n.toNat zSec := by unfold newIm; rw [if_neg (by simp [h])]
  obtain ⟨_, h2, h3⟩ := sizesE_zero h
  rw [h1]
  refine ⟨by simpa using h2, by simp; omega, fun v hv => ?_⟩
  obtain ⟨n, hn, rfl⟩ := List.mem_map.1 hv
  have := h3 n hn
  simp; omega
noncomputable def x145 : X := hnd (fun l : List Int => [encIs l]) (fun _ => True) (fun l => encI (sizesE l))
theorem x145_ok : Known 145 x145 := know fun l _ => by
  obtain ⟨p, h1, h2⟩ := sizes145_run (mkH []) (fun _ _ _ _ => none) 9 0 l (by omega) hemp
  subst h2
  exact good_of_run none_ok no_inl mixed Try.func145 k145 h1 rfl
theorem x145_eq (l : List Int) : x145 [encIs l] = some (encI (sizesE l)) := hnd_eq (sing_inj encIs_inj) trivial
def enc148 (p : List Int × Wr) : List AV := [encIs p.1, p.2.enc]
theorem enc148_inj (x y : List Int × Wr) (h : enc148 x = enc148 y) : x = y := two_inj encIs_inj Wr.enc_inj x y h
noncomputable def x148 : X := hnd enc148 (fun p => sizesE p.1 = 0 ∧ p.2.data.length ≤ 1073741824) (fun p => encI (fitsE p.1 p.2))
theorem x148_ok : Known 148 x148 := know fun p hp => good_of_ends none_ok no_inl mixed Try.func148 k148 (fits148_run _ (fun _ _ _ _ => none) 0 0 p.1 p.2 hp.1 hp.2)
theorem x148_eq {l : List Int} {w : Wr} (h1 : sizesE l = 0) (h2 : w.data.length ≤ 1073741824) : x148 [encIs l, w.enc] = some (encI (fitsE l w)) := hnd_eq (enc := enc148) (x := (l, w)) enc148_inj ⟨h1, h2⟩
noncomputable def x132 : X := hnd (fun n : Int => [encI n]) (fun _ => True) (fun n => (Evt.mk 1 n).enc)
theorem x132_ok : Known 132 x132 := know fun n _ => good_of_ends none_ok no_inl mixed Try.func132 k132 (ack132_run _ (fun _ _ _ _ => none) 0 0 n)
theorem x132_eq (n : Int) : x132 [encI n] = some (Evt.mk 1 n).enc := hnd_eq one_inj trivial
noncomputable def x149 : X := hnd (fun n : Int => [encI n]) (fun _ => True) (fun n => (Evt.mk 0 n).enc)
theorem x149_ok : Known 149 x149 := know fun n _ => good_of_ends none_ok no_inl mixed Try.func149 k149 (issue149_run _ (fun _ _ _ _ => none) 0 0 n)
theorem x149_eq (n : Int) : x149 [encI n] = some (Evt.mk 0 n).enc := hnd_eq one_inj trivial
def enc131 (p : List Evt × Evt) : List AV := [encEs p.1, p.2.enc]
noncomputable def x131 : X := hnd enc131 (fun p => p.1.length ≤ big) (fun p => encI (atE p.1 p.2))
theorem x131_ok : Known 131 x131 := know fun p hp => good_of_ends none_ok no_inl mixed Try.func131 k131 (at131_run _ (fun _ _ _ _ => none) (p.1.length + 1) 0 p.1 p.2 (by simp only [big] at hp; omega) (by omega))
theorem x131_eq {l : List Evt} {x : Evt} (hl : l.length ≤ big) : x131 [encEs l, x.enc] = some (encI (atE l x)) := hnd_eq (enc := enc131) (x := (l, x)) (two_inj encEs_inj Evt.enc_inj) hl

/-- A history that is not too large for any machine. -/
structure OkH (h : Hist) : Prop where
  sizes : h.sizes.length ≤ big
  writes : h.writes.length ≤ big
  events : h.events.length ≤ big
  data : ∀ w ∈ h.writes, w.data.length ≤ big
def oneH (h : Hist) : List AV := [h.enc]
theorem oneH_inj (x y : Hist) (h : oneH x = oneH y) : x = y := sing_inj Hist.enc_inj x y h
def NH (h : Hist) : Nat := h.writes.length + h.events.length + 1
def T4 : List (FuncId × CFn) := [(212, c212)]
theorem T4_ok : TabOk Try.prog (mkT T4) := mkT_ok <| mkT_more Try.func212 k212 mkT_nil
noncomputable def G6 : Hand := mkH [(144, x144), (183, x183)]
theorem G6_ok : HandOk Try.prog G6 := mkH_ok <| known_more x144_ok <| known_more x183_ok known_nil
noncomputable def x124 : X := hnd oneH OkH chkR
theorem x124_ok : Known 124 x124 := know fun h hh => by
  have b1 := hh.writes
  have b2 := hh.events
  simp only [big] at b1 b2
  refine good_of_ends G6_ok (inl_ok G6_ok mixed T4_ok (NH h) 1) mixed Try.func124 k124 (check124_run G6 (inl (mkT T4) G6 (NH h) 1) (inl (mkT T4) G6 (NH h) 0) (NH h) h (by omega) (by unfold NH; omega) (by omega) (by unfold NH; omega) (x144_eq hh.sizes) (fun h0 w hw => ?_) (fun l g => ⟨rfl, ?_⟩))
  · have o := okIm_new h0
    have hd := hh.data w hw
    simp only [big] at hd
    have := x183_eq (p := ((newIm h.sizes).1, w)) ⟨by have := o.1; simp only [big]; omega, o.2, by show w.data.length ≤ 1073741824; omega⟩
    simp only [fitsI, lens_new h0, h0] at this
    exact this
  · rfl
theorem x124_eq {h : Hist} (hh : OkH h) : x124 [h.enc] = some (chkR h) := hnd_eq (enc := oneH) oneH_inj hh
noncomputable def G7 : Hand := mkH [(145, x145), (148, x148), (131, x131), (149, x149)]
theorem G7_ok : HandOk Try.prog G7 := mkH_ok <| known_more x145_ok <| known_more x148_ok <| known_more x131_ok <| known_more x149_ok known_nil
noncomputable def x57 : X := hnd oneH OkH (fun h => encI (checkH h))
theorem x57_ok : Known 57 x57 := know fun h hh => by
  have b1 := hh.writes
  have b2 := hh.events
  simp only [big] at b1 b2
  exact good_of_ends G7_ok no_inl mixed Try.func57 k57 (check57_run G7 (fun _ _ _ _ => none) (NH h) h (by omega) (by unfold NH; omega) (by omega) (by unfold NH; omega) (x145_eq _) (fun h0 w hw => x148_eq h0 (by have := hh.data w hw; simp only [big] at this; omega)) (fun l x hl => x131_eq (by simp only [big]; omega)) x149_eq)
theorem x57_eq {h : Hist} (hh : OkH h) : x57 [h.enc] = some (encI (checkH h)) := hnd_eq (enc := oneH) oneH_inj hh
noncomputable def G8 : Hand := mkH [(124, x124)]
theorem G8_ok : HandOk Try.prog G8 := mkH_ok <| known_more x124_ok known_nil
noncomputable def x56 : X := hnd oneH OkH (fun h => encI (checkH h))
theorem x56_ok : Known 56 x56 := know fun h hh => good_of_ends G8_ok no_inl mixed Try.func56 k56 (check56_run G8 (fun _ _ _ _ => none) 0 0 h (x124_eq hh))
theorem x56_eq {h : Hist} (hh : OkH h) : x56 [h.enc] = some (encI (checkH h)) := hnd_eq (enc := oneH) oneH_inj hh
def enc30 (p : Hist × Int × Int) : List AV := [p.1.enc, encI p.2.1, encI p.2.2]
theorem enc30_inj (x y : Hist × Int × Int) (h : enc30 x = enc30 y) : x = y := three_inj Hist.enc_inj encI_inj encI_inj x y h
noncomputable def G9 : Hand := mkH [(131, x131), (132, x132), (149, x149)]
theorem G9_ok : HandOk Try.prog G9 := mkH_ok <| known_more x131_ok <| known_more x132_ok <| known_more x149_ok known_nil
noncomputable def x126 : X := hnd enc30 (fun p => OkH p.1) (fun p => encB (beforeE p.1.events p.2.1 p.2.2))
theorem x126_ok : Known 126 x126 := know fun p hp => good_of_ends G9_ok no_inl mixed Try.func126 k126 (before126_run G9 (fun _ _ _ _ => none) 0 0 p.1 p.2.1 p.2.2 (fun _ => x131_eq hp.events) x132_eq x149_eq)
theorem x126_eq {h : Hist} (hh : OkH h) (a b : Int) : x126 [h.enc, encI a, encI b] = some (encB (beforeE h.events a b)) := hnd_eq (enc := enc30) (x := (h, a, b)) enc30_inj hh
noncomputable def G10 : Hand := mkH [(57, x57), (126, x126)]
theorem G10_ok : HandOk Try.prog G10 := mkH_ok <| known_more x57_ok <| known_more x126_ok known_nil
noncomputable def x31 : X := hnd enc30 (fun p => OkH p.1) (fun p => encB (beforeH p.1 p.2.1 p.2.2))
theorem x31_ok : Known 31 x31 := know fun p hp => good_of_ends G10_ok no_inl mixed Try.func31 k31 (before31_run G10 (fun _ _ _ _ => none) 0 0 p.1 p.2.1 p.2.2 (x57_eq hp) (x126_eq hp _ _))
theorem x31_eq {h : Hist} (hh : OkH h) (a b : Int) : x31 [h.enc, encI a, encI b] = some (encB (beforeH h a b)) := hnd_eq (enc := enc30) (x := (h, a, b)) enc30_inj hh
structure Q125 where
  xs : List Int
  ys : List Int
  a : Nat
  b : Nat
def enc125 (p : Q125) : List AV := [.agg [encIs p.xs, encIs p.ys], encI p.a, encI p.b]
theorem enc125_inj (x y : Q125) (h : enc125 x = enc125 y) : x = y := by
  obtain ⟨a1, a2, a3, a4⟩ := x
  obtain ⟨b1, b2, b3, b4⟩ := y
  simp only [enc125, List.cons.injEq, AV.agg.injEq, and_true] at h
  have h3 := encI_inj _ _ h.2.1
  have h4 := encI_inj _ _ h.2.2
  rw [encIs_inj _ _ h.1.1, encIs_inj _ _ h.1.2, show a3 = b3 by omega, show a4 = b4 by omega]
noncomputable def x125 : X := hnd enc125 (fun p => p.a < p.ys.length ∧ p.b < p.xs.length) (fun p => encB (beforeT p.xs p.ys p.a p.b))
theorem x125_ok : Known 125 x125 := know fun p hp => good_of_ends none_ok no_inl mixed Try.func125 k125 (before125_run _ (fun _ _ _ _ => none) 0 0 p.xs p.ys p.a p.b hp.1 hp.2)
theorem x125_eq (xs ys : List Int) (a b : Nat) (h1 : a < ys.length) (h2 : b < xs.length) : x125 [.agg [encIs xs, encIs ys], encI a, encI b] = some (encB (beforeT xs ys a b)) := hnd_eq (enc := enc125) (x := ⟨xs, ys, a, b⟩) enc125_inj ⟨h1, h2⟩
noncomputable def G11 : Hand := mkH [(124, x124), (125, x125)]
theorem G11_ok : HandOk Try.prog G11 := mkH_ok <| known_more x124_ok <| known_more x125_ok known_nil
noncomputable def x30 : X := hnd enc30 (fun p => OkH p.1) (fun p => encB (beforeH p.1 p.2.1 p.2.2))
theorem x30_ok : Known 30 x30 := know fun p hp => good_of_ends G11_ok no_inl mixed Try.func30 k30 (before30_run G11 (fun _ _ _ _ => none) 0 0 p.1 p.2.1 p.2.2 (x124_eq hp) x125_eq)
theorem x30_eq {h : Hist} (hh : OkH h) (a b : Int) : x30 [h.enc, encI a, encI b] = some (encB (beforeH h a b)) := hnd_eq (enc := enc30) (x := (h, a, b)) enc30_inj hh
def encLn (p : List Int × Int) : List AV := [encIs p.1, encI p.2]
theorem encLn_inj (x y : List Int × Int) (h : encLn x = encLn y) : x = y := two_inj encIs_inj encI_inj x y h
def okL (l : List Int) : Prop := l.length ≤ big
noncomputable def x129 : X := hnd encLn (fun p => okL p.1) (fun p => encB (!anyS p.2 p.1))
theorem x129_ok : Known 129 x129 := know fun p hp => good_of_ends none_ok no_inl mixed Try.func129 k129 (set129_run _ (fun _ _ _ _ => none) (p.1.length + 1) 0 p.1 p.2 (by simp only [okL, big] at hp; omega) (by omega))
theorem x129_eq {l : List Int} (hl : okL l) (n : Int) : x129 [encIs l, encI n] = some (encB (!anyS n l)) := hnd_eq (enc := encLn) (x := (l, n)) encLn_inj hl
noncomputable def x198 : X := hnd encLn (fun p => okL p.1) (fun p => encB (decide (p.2 ∈ p.1)))
theorem x198_ok : Known 198 x198 := know fun p hp => good_of_ends none_ok no_inl mixed Try.func198 k198 (has198_run _ (fun _ _ _ _ => none) (p.1.length + 1) 0 p.1 p.2 (by simp only [okL, big] at hp; omega) (by omega))
theorem x198_eq {l : List Int} (hl : okL l) (n : Int) : x198 [encIs l, encI n] = some (encB (decide (n ∈ l))) := hnd_eq (enc := encLn) (x := (l, n)) encLn_inj hl
noncomputable def x160h : X := hnd encLn (fun p => okL p.1) (fun p => encI (idxI p.2 p.1))
theorem x160h_ok : Known 160 x160h := know fun p hp => good_of_ends none_ok no_inl mixed Try.func160 k160 (index160h_run _ (fun _ _ _ _ => none) (p.1.length + 1) p.1 p.2 (by simp only [okL, big] at hp; omega) (by omega))
theorem x160h_eq {l : List Int} (hl : okL l) (n : Int) : x160h [encIs l, encI n] = some (encI (idxI n l)) := hnd_eq (enc := encLn) (x := (l, n)) encLn_inj hl
def enc130 (p : Hist × List Int) : List AV := [p.1.enc, encIs p.2]
theorem enc130_inj (x y : Hist × List Int) (h : enc130 x = enc130 y) : x = y := two_inj Hist.enc_inj encIs_inj x y h
def ok130 (p : Hist × List Int) : Prop := OkH p.1 ∧ okL p.2
noncomputable def G12 : Hand := mkH [(126, x126), (198, x198)]
theorem G12_ok : HandOk Try.prog G12 := mkH_ok <| known_more x126_ok <| known_more x198_ok known_nil
def NL (h : Hist) (l : List Int) : Nat := h.writes.length + h.events.length + l.length + 1
noncomputable def x130 : X := hnd enc130 ok130 (fun p => encB (!anyC p.1.events p.1.writes.length p.2))
theorem x130_ok : Known 130 x130 := know fun p hp => by
  have b1 := hp.1.writes
  have b2 := hp.2
  simp only [okL, big] at b1 b2
  exact good_of_ends G12_ok no_inl mixed Try.func130 k130 (closed130_run G12 (fun _ _ _ _ => none) (NL p.1 p.2) 0 p.1 p.2 (by omega) (by unfold NL; omega) (by omega) (by unfold NL; omega) (x126_eq hp.1) (x198_eq hp.2))
theorem x130_eq {h : Hist} {l : List Int} (hh : OkH h) (hl : okL l) : x130 [h.enc, encIs l] = some (encB (!anyC h.events h.writes.length l)) := hnd_eq (enc := enc130) (x := (h, l)) enc130_inj ⟨hh, hl⟩
noncomputable def G13 : Hand := mkH [(57, x57), (129, x129), (130, x130)]
theorem G13_ok : HandOk Try.prog G13 := mkH_ok <| known_more x57_ok <| known_more x129_ok <| known_more x130_ok known_nil
noncomputable def x33 : X := hnd enc130 ok130 (fun p => encB (closedH p.1 p.2))
theorem x33_ok : Known 33 x33 := know fun p hp => good_of_ends G13_ok no_inl mixed Try.func33 k33 (closed33_run G13 (fun _ _ _ _ => none) 0 0 p.1 p.2 (x57_eq hp.1) (x129_eq hp.2 _) (x130_eq hp.1 hp.2))
theorem x33_eq {h : Hist} {l : List Int} (hh : OkH h) (hl : okL l) : x33 [h.enc, encIs l] = some (encB (closedH h l)) := hnd_eq (enc := enc130) (x := (h, l)) enc130_inj ⟨hh, hl⟩
/-- A history with its timeline, and a set. -/
def enc127 (p : Hist × List Int × List Int × List Int) : List AV := [encChk p.1 p.2.1 p.2.2.1, encIs p.2.2.2]
theorem enc127_inj (x y : Hist × List Int × List Int × List Int) (h : enc127 x = enc127 y) : x = y := by
  obtain ⟨⟨a1, a2, a3⟩, a4, a5, a6⟩ := x
  obtain ⟨⟨b1, b2, b3⟩, b4, b5, b6⟩ := y
  simp only [enc127, encChk, List.cons.injEq, AV.agg.injEq, and_true] at h
  rw [encIs_inj _ _ h.1.1, encWs_inj _ _ h.1.2.1, encEs_inj _ _ h.1.2.2.1, encIs_inj _ _ h.1.2.2.2.1, encIs_inj _ _ h.1.2.2.2.2, encIs_inj _ _ h.2]
noncomputable def x127 : X := hnd enc127 (fun p => okL p.2.2.2) (fun p => encB (!anyS p.1.writes.length p.2.2.2))
theorem x127_ok : Known 127 x127 := know fun p hp => good_of_ends none_ok no_inl mixed Try.func127 k127 (set127_run _ (fun _ _ _ _ => none) (p.2.2.2.length + 1) p.1 p.2.1 p.2.2.1 p.2.2.2 (by simp only [okL, big] at hp; omega) (by omega))
theorem x127_eq (h : Hist) (xs ys : List Int) {l : List Int} (hl : okL l) : x127 [encChk h xs ys, encIs l] = some (encB (!anyS h.writes.length l)) := hnd_eq (enc := enc127) (x := (h, xs, ys, l)) enc127_inj hl
noncomputable def x156 : X := hnd enc127 (fun _ => True) (fun p => memF p.1 p.2.1 p.2.2.1 p.2.2.2)
theorem x156_ok : Known 156 x156 := know fun p _ => goodF_of_ends none_ok no_inl mixed Try.func156 k156 (members156_run _ (fun _ _ _ _ => none) 0 0 p.1 p.2.1 p.2.2.1 p.2.2.2)
theorem x156_eq (h : Hist) (xs ys l : List Int) : x156 [encChk h xs ys, encIs l] = some (memF h xs ys l) := hnd_eq (enc := enc127) (x := (h, xs, ys, l)) enc127_inj trivial
noncomputable def G14 : Hand := mkH [(125, x125), (156, x156)]
theorem G14_ok : HandOk Try.prog G14 := mkH_ok <| known_more x125_ok <| known_more x156_ok known_nil
theorem anyS_false {nw : Int} {l : List Int} (h : anyS nw l = false) : ∀ n ∈ l, 0 ≤ n ∧ n < nw := fun n hn => by
  obtain ⟨i, hi, rfl⟩ := List.getElem_of_mem hn
  have := List.any_eq_false.1 h i (List.mem_range.2 hi)
  simp only [badS, Bool.not_eq_true, Bool.or_eq_false_iff, decide_eq_false_iff_not] at this
  rw [show l.getD i 0 = l[i] by simp [hi]] at this
  omega
def ok128 (p : Hist × List Int) : Prop := OkH p.1 ∧ okL p.2 ∧ Right p.1 ∧ anyS p.1.writes.length p.2 = false
def enc128 (p : Hist × List Int) : List AV := [encChk p.1 (tlI p.1.events) (tlA p.1.events), encIs p.2]
theorem enc128_inj (x y : Hist × List Int) (h : enc128 x = enc128 y) : x = y := by
  have := enc127_inj (x.1, tlI x.1.events, tlA x.1.events, x.2) (y.1, tlI y.1.events, tlA y.1.events, y.2) h
  simp only [Prod.mk.injEq] at this
  exact Prod.ext this.1 this.2.2.2
noncomputable def x128 : X := hnd enc128 ok128 (fun p => encB (!anyC p.1.events p.1.writes.length p.2))
theorem x128_ok : Known 128 x128 := know fun p hp => by
  have b1 := hp.1.writes
  have b2 := hp.2.1
  simp only [okL, big] at b1 b2
  refine goodR_of_ends G14_ok no_inl iter220_ok Try.func128 k128 (closed128_run G14 (fun _ _ _ _ => none) (NL p.1 p.2) p.1 _ _ p.2 (anyS_false hp.2.2.2) (by omega) (by omega) (by unfold NL; omega) (fun a b ha hb => ?_) (x156_eq _ _ _ _))
  have hc := hp.2.2.1.all
  have := x125_eq (tlI p.1.events) (tlA p.1.events) a b (by rw [tlA_len]; omega) (by rw [tlI_len]; omega)
  rw [beforeT_eq (by omega) (by omega) (by omega) (by omega)] at this
  exact this
theorem x128_eq {h : Hist} {l : List Int} (hh : OkH h) (hl : okL l) (hc : checkH h = 0) (hs : anyS h.writes.length l = false) : x128 [encChk h (tlI h.events) (tlA h.events), encIs l] = some (encB (!anyC h.events h.writes.length l)) :=
  hnd_eq (enc := enc128) (x := (h, l)) enc128_inj ⟨hh, hl, (checkH_zero h).1 hc, hs⟩
noncomputable def G15 : Hand := mkH [(124, x124), (127, x127), (128, x128)]
theorem G15_ok : HandOk Try.prog G15 := mkH_ok <| known_more x124_ok <| known_more x127_ok <| known_more x128_ok known_nil
noncomputable def x32 : X := hnd enc130 ok130 (fun p => encB (closedH p.1 p.2))
theorem x32_ok : Known 32 x32 := know fun p hp => good_of_ends G15_ok no_inl mixed Try.func32 k32 (closed32_run G15 (fun _ _ _ _ => none) 0 0 p.1 p.2 (x124_eq hp.1) (fun _ => x127_eq _ _ _ hp.2) (fun h1 h2 => x128_eq hp.1 hp.2 h1 h2))
theorem x32_eq {h : Hist} {l : List Int} (hh : OkH h) (hl : okL l) : x32 [h.enc, encIs l] = some (encB (closedH h l)) := hnd_eq (enc := enc130) (x := (h, l)) enc130_inj ⟨hh, hl⟩
def enc35 (p : Hist × Int) : List AV := [p.1.enc, encI p.2]
theorem enc35_inj (x y : Hist × Int) (h : enc35 x = enc35 y) : x = y := two_inj Hist.enc_inj encI_inj x y h
noncomputable def x35 : X := hnd enc35 (fun p => OkH p.1) (fun p => encIs (ackH p.1 p.2))
theorem x35_ok : Known 35 x35 := know fun p hp => good_of_ends G8_ok no_inl mixed Try.func35 k35 (ack35_run G8 (fun _ _ _ _ => none) (NH p.1) p.1 p.2 (by have := hp.writes; simp only [big] at this; omega) (by unfold NH; omega) (x124_eq hp))
theorem x35_eq {h : Hist} (hh : OkH h) (n : Int) : x35 [h.enc, encI n] = some (encIs (ackH h n)) := hnd_eq (enc := enc35) (x := (h, n)) enc35_inj hh
noncomputable def G16 : Hand := mkH [(57, x57), (131, x131), (132, x132)]
theorem G16_ok : HandOk Try.prog G16 := mkH_ok <| known_more x57_ok <| known_more x131_ok <| known_more x132_ok known_nil
noncomputable def x36 : X := hnd enc35 (fun p => OkH p.1) (fun p => encIs (ackH p.1 p.2))
theorem x36_ok : Known 36 x36 := know fun p hp => good_of_ends G16_ok no_inl mixed Try.func36 k36 (ack36_run G16 (fun _ _ _ _ => none) (NH p.1) p.1 p.2 (by have := hp.writes; simp only [big] at this; omega) (by unfold NH; omega) (x57_eq hp) (fun l x hl => x131_eq (Nat.le_trans hl hp.events)) x132_eq)
theorem x36_eq {h : Hist} (hh : OkH h) (n : Int) : x36 [h.enc, encI n] = some (encIs (ackH h n)) := hnd_eq (enc := enc35) (x := (h, n)) enc35_inj hh
def enc34 (p : List Int × List Int) : List AV := [encIs p.1, encIs p.2]
theorem enc34_inj (x y : List Int × List Int) (h : enc34 x = enc34 y) : x = y := two_inj encIs_inj encIs_inj x y h
noncomputable def x34 : X := hnd enc34 (fun p => okL p.1) (fun p => encB (decide (p.1 = p.2)))
theorem x34_ok : Known 34 x34 := know fun p hp => good_of_ends none_ok no_inl mixed Try.func34 k34 (eq34_run _ (fun _ _ _ _ => none) (p.1.length + 1) 0 p.1 p.2 (by simp only [okL, big] at hp; omega) (by omega))
theorem x34_eq {a : List Int} (b : List Int) (ha : okL a) : x34 [encIs a, encIs b] = some (encB (decide (a = b))) := hnd_eq (enc := enc34) (x := (a, b)) enc34_inj ha
noncomputable def x28 : X := hnd oneH (fun _ => True) (fun h => encB (fewH h))
theorem x28_ok : Known 28 x28 := know fun h _ => good_of_ends none_ok no_inl mixed Try.func28 k28 (few28_run _ (fun _ _ _ _ => none) 41 h (by omega))
theorem x28_eq (h : Hist) : x28 [h.enc] = some (encB (fewH h)) := hnd_eq (enc := oneH) oneH_inj trivial
theorem fewH_ok {h : Hist} (hf : fewH h = true) : OkH h := by
  unfold fewH at hf
  simp only [Bool.and_eq_true, decide_eq_true_eq, Bool.not_eq_true'] at hf
  refine ⟨by simp only [big]; omega, by simp only [big]; omega, by simp only [big]; omega, fun w hw => ?_⟩
  have := List.any_eq_false.1 hf.2 w hw
  simp only [decide_eq_true_eq] at this
  simp only [big]; omega
theorem clone227_ok : Known 227 (hClone 2) := clone_ok mixed Try.func227 k227
theorem clone184_ok : Known 184 (hClone 8) := clone_ok mixed Try.func184 k184
noncomputable def G17 : Hand := mkH [(137, hClone 1), (227, hClone 2), (184, hClone 8)]
theorem G17_ok : HandOk Try.prog G17 := mkH_ok <| known_more clone137_ok <| known_more clone227_ok <| known_more clone184_ok known_nil
theorem big_le {n : Nat} (h : n ≤ big) : n ≤ 1073741824 := by simp only [big] at h; omega
noncomputable def x161 : X := hnd oneH OkH (fun h => h.enc)
theorem x161_ok : Known 161 x161 := know fun h hh => good_of_ends G17_ok no_inl mixed Try.func161 k161 (copied161_run G17 (fun _ _ _ _ => none) (NH h) h (by have := hh.writes; simp only [big] at this; omega) (by unfold NH; omega) (hClone_ints (big_le hh.sizes)) (hClone_of Evt.ok Evt.pure Evt.norm (big_le hh.events)) (fun w hw => hClone_of Sec.ok Sec.pure Sec.norm (big_le (hh.data w hw))))
theorem x161_eq {h : Hist} (hh : OkH h) : x161 [h.enc] = some h.enc := hnd_eq (enc := oneH) oneH_inj hh
noncomputable def G18 : Hand := mkH [(124, x124), (127, x127), (128, x128), (156, x156), (160, x160h), (161, x161)]
theorem G18_ok : HandOk Try.prog G18 := mkH_ok <| known_more x124_ok <| known_more x127_ok <| known_more x128_ok <| known_more x156_ok <| known_more x160h_ok <| known_more x161_ok known_nil
noncomputable def x64 : X := hnd enc130 ok130 (fun p => .tup [(restrictH p.1 p.2).1.enc, encI (restrictH p.1 p.2).2])
theorem wrAt_len {h : Hist} (hh : OkH h) (n : Int) : (wrAt h n).data.length ≤ big := by
  unfold wrAt
  by_cases hn : n.toNat < h.writes.length
  · rw [List.getD_eq_getElem?_getD, List.getElem?_eq_getElem hn]
    exact hh.data _ (List.getElem_mem hn)
  · rw [List.getD_eq_getElem?_getD, List.getElem?_eq_none (by omega)]
    exact Nat.zero_le _
theorem x64_ok : Known 64 x64 := know fun p hp => by
  have b2 := hp.1.events
  have b3 := hp.2
  simp only [okL, big] at b2 b3
  refine goodR_of_ends G18_ok no_inl iter220_ok Try.func64 k64 (restrict64_run G18 (fun _ _ _ _ => none) (NH p.1) p.1 p.2 (by omega) (by omega) (by unfold NH; omega) (x160h_eq hp.2) (x124_eq hp.1) (fun _ => x127_eq _ _ _ hp.2) (fun h1 h2 => x128_eq hp.1 hp.2 h1 h2) (fun _ => x156_eq _ _ _ _) (fun h1 => anyS_false h1) (fun g h0 h1 h2 h3 => x161_eq ⟨by rw [h0]; exact hp.1.sizes, Nat.le_trans h1 hp.2, Nat.le_trans h2 hp.1.events, fun w hw => ?_⟩))
  obtain ⟨n, rfl⟩ := h3 w hw
  exact wrAt_len hp.1 n
theorem x64_eq {h : Hist} {l : List Int} (hh : OkH h) (hl : okL l) : x64 [h.enc, encIs l] = some (.tup [(restrictH h l).1.enc, encI (restrictH h l).2]) := hnd_eq (enc := enc130) (x := (h, l)) enc130_inj ⟨hh, hl⟩
end Go.Proofs.Ytihljollfbogeaa
