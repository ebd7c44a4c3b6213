/- What Issue and Ack of the implementation answer. No condition. -/
import Derived.Test.YtihljollfbogeaaB41
import Derived.Test.YtihljollfbogeaaD9
namespace Go.Proofs.Ytihljollfbogeaa
open Go Go.RowKit
theorem mark137_ok : Known 137 (fun _ => some (.mp 1 0)) := fun l r h => by cases h; exact clone_told mixed Try.func137 k137 l
theorem mark227_ok : Known 227 (fun _ => some (.mp 2 0)) := fun l r h => by cases h; exact clone_told mixed Try.func227 k227 l
def T5 : List (FuncId × CFn) := [(161, c161)]
theorem T5_ok : TabOk Try.prog (mkT T5) := mkT_ok <| mkT_more Try.func161 k161 mkT_nil
noncomputable def G30 : Hand := mkH [(124, x124), (144, x144), (183, x183), (184, hClone 8), (137, fun _ => some (.mp 1 0)), (227, fun _ => some (.mp 2 0))]
theorem G30_ok : HandOk Try.prog G30 := mkH_ok <| known_more x124_ok <| known_more x144_ok <| known_more x183_ok <| known_more clone184_ok <| known_more mark137_ok <| known_more mark227_ok known_nil
def enc74 (p : Hist × Wr) : List AV := [p.1.enc, p.2.enc]
theorem enc74_inj (x y : Hist × Wr) (h : enc74 x = enc74 y) : x = y := two_inj Hist.enc_inj Wr.enc_inj x y h
def ok74 (p : Hist × Wr) : Prop := OkH p.1 ∧ p.2.data.length ≤ big
noncomputable def x74 : X := hnd enc74 ok74 (fun p => .tup [(issueH p.1 p.2).1.enc, encI (issueH p.1 p.2).2.1, encI (issueH p.1 p.2).2.2])
theorem big_lim {n : Nat} (h : n ≤ big) : n < LIM := by simp only [big] at h; simp only [LIM]; omega
theorem c184_eq {w : Wr} (h : w.data.length ≤ big) : hClone 8 [encSs w.data] = some (encSs w.data) := hClone_of Sec.ok Sec.pure Sec.norm (big_le h)
theorem x74_ok : Known 74 x74 := know fun p hp => by
  have hh := hp.1
  have b1 := hh.writes
  simp only [big] at b1
  refine good_of_ends G30_ok (inl_ok G30_ok mixed T5_ok (NH p.1) 1) mixed Try.func74 k74 (issue74_run G30 (inl (mkT T5) G30 (NH p.1) 1) (inl (mkT T5) G30 (NH p.1) 0) (NH p.1) (NH p.1) p.1 p.2 (by omega) (by unfold NH; omega) (Nat.le_of_lt (big_lim hh.sizes)) (big_lim hh.events) (fun _ => rfl) (fun _ => rfl) (fun w hw => c184_eq (hh.data w hw)) (c184_eq hp.2) (x124_eq hh) (x144_eq hh.sizes) (fun h0 => ?_) (fun l h => ⟨rfl, rfl⟩))
  have h1 := ((checkH_zero _).1 h0).sizes
  have o := okIm_new h1
  have hd := hp.2
  simp only [big] at hd
  have := x183_eq (p := ((newIm p.1.sizes).1, p.2)) ⟨by have := o.1; simp only [big]; omega, o.2, by show p.2.data.length ≤ 1073741824; omega⟩
  simp only [fitsI, lens_new h1, h1] at this
  exact this
theorem x74_eq {h : Hist} {w : Wr} (hh : OkH h) (hw : w.data.length ≤ big) : x74 [h.enc, w.enc] = some (.tup [(issueH h w).1.enc, encI (issueH h w).2.1, encI (issueH h w).2.2]) := hnd_eq (enc := enc74) (x := (h, w)) enc74_inj ⟨hh, hw⟩
noncomputable def x76 : X := hnd enc35 (fun p => OkH p.1) (fun p => .tup [(ackOf p.1 p.2).1.enc, encI (ackOf p.1 p.2).2])
theorem x76_ok : Known 76 x76 := know fun p hh => by
  have b1 := hh.writes
  simp only [big] at b1
  exact good_of_ends G30_ok (inl_ok G30_ok mixed T5_ok (NH p.1) 1) mixed Try.func76 k76 (ack76_run G30 (inl (mkT T5) G30 (NH p.1) 1) (inl (mkT T5) G30 (NH p.1) 0) (NH p.1) (NH p.1) p.1 p.2 (by omega) (by unfold NH; omega) (Nat.le_of_lt (big_lim hh.sizes)) (big_lim hh.events) (fun _ => rfl) (fun _ => rfl) (fun w hw => c184_eq (hh.data w hw)) (x124_eq hh) (fun l h => ⟨rfl, rfl⟩))
theorem x76_eq {h : Hist} (hh : OkH h) (n : Int) : x76 [h.enc, encI n] = some (.tup [(ackOf h n).1.enc, encI (ackOf h n).2]) := hnd_eq (enc := enc35) (x := (h, n)) enc35_inj hh
theorem issueH_ok {h : Hist} {w : Wr} (hh : OkH h) (hw : w.data.length ≤ big) (h1 : h.writes.length < big) (h2 : h.events.length < big) : OkH (issueH h w).1 := by
  have oz : OkH .zero := ⟨Nat.zero_le _, Nat.zero_le _, Nat.zero_le _, fun w hw => by cases hw⟩
  unfold issueH
  split
  · exact oz
  split
  · exact oz
  split
  · exact oz
  refine ⟨hh.sizes, by simp; omega, by simp; omega, fun x hx => ?_⟩
  rcases List.mem_append.1 hx with hx | hx
  · exact hh.data x hx
  · simp at hx; subst hx; exact hw
end Go.Proofs.Ytihljollfbogeaa
