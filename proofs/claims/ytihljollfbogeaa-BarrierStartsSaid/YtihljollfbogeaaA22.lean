/- The abstract run is sound: what it answers, the program answers. No condition. -/
import Derived.Test.YtihljollfbogeaaA21
import Derived.Sort.LoopGhostIn
namespace Go.Proofs.Ytihljollfbogeaa
open Go Go.RowKit

def comp (P : Program) (nt : Nat) : Code → Option CC
  | .skip => some .skip
  | .region _ ops false => (compAll P nt ops.toList ops.toList).map .reg
  | .region _ ops true => compDraw P nt ops.toList
  | .seq a b => match comp P nt a, comp P nt b with | some x, some y => some (.seq x y) | _, _ => none
  | .cond c a b => match comp P nt a, comp P nt b with | some x, some y => some (.cond c x y) | _, _ => none
  | .block id b => (comp P nt b).map (.block id)
  | .loop b => (comp P nt b).map .loop
  | .exit id => some (.exit id)
  | .ret => some .ret
  | _ => none

def exOf : CEx → Exit
  | .norm => .normal
  | .exit i => .exit i
  | .ret => .ret

section
variable {P : Program} {base nt : Nat} {h : Hp} {H : Hand} {I : Inl} {q N : Nat}

theorem draw_ok (hH : HandOk P H) (hI : InlOk P I) (hm : P.follows .mixedOrders = true) {ops : Array Oper} {id : Nat} {Q : Exit → Act → World → Prop} {cs : List CIns} {pairs : List (Nat × Nat)} {s s' : St} {evs : List Ev} {a : Act} {w : World} {α : Al}
    (hc : compDraw P nt ops.toList = some (.draw cs pairs)) (hr : drawA H I q cs s = some (s', evs)) (hp : indeps evs pairs = true)
    (inv : Inv nt base s a w α) (hQ : ∀ a' w' α', Inv nt base s' a' w' α' → Ext w α w' α' → Q .normal a' w') : (Code.region id ops true).wpIn Fence.wide 0 P Q a w := by
  unfold compDraw at hc
  split at hc
  · cases hc
  · rename_i cs' hcs
    split at hc
    case isFalse => cases hc
    rename_i hcond
    cases hc
    simp only [Bool.and_eq_true] at hcond
    obtain ⟨⟨hok, hlt⟩, hap⟩ := hcond
    obtain ⟨hlen, hget⟩ := compAll_get hcs
    obtain ⟨hel, hev⟩ := drawA_get hr
    have hsz : cs.length = ops.size := by rw [hlen]; simp
    refine wpIn_region_any hm ?_
    have hinv : Inv nt base s a { w with drawn := w.drawn + 1 } α := ⟨inv.rel.drew, inv.base, fun t => (inv.val t).mono (fun b hb => ⟨hb, rfl⟩) (Later.refl α), inv.size, inv.defers⟩
    -- what is left at the beginning: everything
    have hrem : ∀ (l : List CIns) (m : List Ev) (k : Nat), l.length = m.length → ((List.range' k l.length).zip (l.zip m)).map (·.1) = List.range' k l.length ∧ ((List.range' k l.length).zip (l.zip m)).map (·.2.1) = l ∧ ((List.range' k l.length).zip (l.zip m)).map (·.2.2) = m := by
      intro l
      induction l with
      | nil => intro m k hl; have : m = [] := List.eq_nil_of_length_eq_zero hl.symm; subst this; simp
      | cons x l ih =>
        intro m k hl
        cases m with
        | nil => simp at hl
        | cons y m =>
          obtain ⟨h1, h2, h3⟩ := ih m (k + 1) (by simpa using hl)
          simp only [List.length_cons, List.range'_succ, List.zip_cons_cons, List.map_cons, h1, h2, h3, and_self]
    have hel' : cs.length = evs.length := hel.symm
    obtain ⟨r1, r2, r3⟩ := hrem cs evs 0 hel'
    have hget3 : ∀ (i : Nat) (x : Nat × CIns × Ev), ((List.range' 0 cs.length).zip (cs.zip evs))[i]? = some x → x.1 = i ∧ cs[i]? = some x.2.1 ∧ evs[i]? = some x.2.2 := fun i x hx => by
      have h1 : (((List.range' 0 cs.length).zip (cs.zip evs)).map (·.1))[i]? = some x.1 := by rw [List.getElem?_map, hx]; rfl
      have h2 : (((List.range' 0 cs.length).zip (cs.zip evs)).map (·.2.1))[i]? = some x.2.1 := by rw [List.getElem?_map, hx]; rfl
      have h3 : (((List.range' 0 cs.length).zip (cs.zip evs)).map (·.2.2))[i]? = some x.2.2 := by rw [List.getElem?_map, hx]; rfl
      rw [r1] at h1
      rw [r2] at h2
      rw [r3] at h3
      refine ⟨?_, h2, h3⟩
      have := List.getElem?_eq_some_iff.1 h1
      obtain ⟨_, h4⟩ := this
      simp at h4
      exact h4.symm
    have hlisted : ∀ (k : Nat) (d : Bool), (Array.replicate ops.size false).getD k d = if k < ops.size then false else d := fun k d => by
      rw [Array.getD_eq_getD_getElem?, Array.getElem?_replicate]
      split <;> rfl
    refine any_ok hH hI (es := ops.toList.map edgesOf) (tb := ancTab [] (ops.toList.map edgesOf)) rfl hok hlt ops.size (Array.replicate ops.size false) ((List.range' 0 cs.length).zip (cs.zip evs)) s s' a _ α
      (by simp [hsz, ← hel']) (by simp) (fun r hr' => ?_) (fun k => ?_) ?_ (fun k hk => ?_) (by rw [r2, r3]; exact hr) hinv (fun a' w' α' i' e' => hQ a' w' α' i' ((Ext.drew w α).trans e'))
    · obtain ⟨i, hi⟩ := List.mem_iff_getElem?.1 hr'
      obtain ⟨h1, h2, h3⟩ := hget3 i r hi
      have hlt' : i < ops.size := by rw [← hsz]; exact (List.getElem?_eq_some_iff.1 h2).1
      obtain ⟨c, h4, h5⟩ := hget i ops[i] (by simp [hlt'])
      rw [h2] at h4
      cases h4
      exact ⟨ops[i], by rw [h1]; simp [hlt'], h5⟩
    · rw [r1, hlisted]
      simp only [List.mem_range'_1, Nat.zero_le, Nat.zero_add, true_and, hsz]
      constructor
      · intro h; exact ⟨h, by rw [if_pos h]⟩
      · intro h; exact h.1
    · rw [List.pairwise_iff_getElem]
      intro i j hi hj hij
      obtain ⟨i1, i2, i3⟩ := hget3 i _ (List.getElem?_eq_getElem hi)
      obtain ⟨j1, j2, j3⟩ := hget3 j _ (List.getElem?_eq_getElem hj)
      refine ⟨by rw [i1, j1]; exact hij, ?_⟩
      rw [i1, j1]
      cases ha : anc (ancTab [] (ops.toList.map edgesOf)) i j with
      | true => exact .inl rfl
      | false =>
        right
        have hjn : j < cs.length := (List.getElem?_eq_some_iff.1 j2).1
        have hmem : (i, j) ∈ unord (ancTab [] (ops.toList.map edgesOf)) cs.length := by
          refine List.mem_flatMap.2 ⟨j, List.mem_range.2 hjn, List.mem_map.2 ⟨i, List.mem_filter.2 ⟨List.mem_range.2 hij, by simp [ha]⟩, rfl⟩⟩
        have hap' := List.all_eq_true.1 hap (i, j) hmem
        unfold apartPair at hap'
        simp only [i2, j2] at hap'
        refine ⟨hap', ?_⟩
        obtain ⟨si, si', hsi⟩ := hev i _ _ i2 i3
        obtain ⟨sj, sj', hsj⟩ := hev j _ _ j2 j3
        cases hqi : (((List.range' 0 cs.length).zip (cs.zip evs))[i]).2.1.op.quiet with
        | true =>
          rcases quiet_ev hqi hsi with h | h
          · rw [h]; exact indep_nothing.1
          · rw [h]; exact indep_quiet.1
        | false =>
          cases hqj : (((List.range' 0 cs.length).zip (cs.zip evs))[j]).2.1.op.quiet with
          | true =>
            rcases quiet_ev hqj hsj with h | h
            · rw [h]; exact indep_nothing.2
            · rw [h]; exact indep_quiet.2
          | false =>
            have hin : (i, j) ∈ (unord (ancTab [] (ops.toList.map edgesOf)) cs.length).filter (loudPair cs) := List.mem_filter.2 ⟨hmem, by unfold loudPair; simp only [i2, j2, hqi, hqj]; rfl⟩
            have := List.all_eq_true.1 hp (i, j) hin
            simp only [i3, j3] at this
            exact this
    · rw [hlisted] at hk
      split at hk <;> cases hk

theorem run_ok (hH : HandOk P H) (hI : InlOk P I) (hm : P.follows .mixedOrders = true) : ∀ (c : Code) (cc : CC) (s s' : St) (x : CEx) (a : Act) (w : World) (α : Al) (Q : Exit → Act → World → Prop),
    comp P nt c = some cc → run H I N q cc s = some (x, s') → Inv nt base s a w α → (∀ a' w' α', Inv nt base s' a' w' α' → Ext w α w' α' → Q (exOf x) a' w') → c.wpIn Fence.wide 0 P Q a w
  | .skip, cc, s, s', x, a, w, α, Q, hc, hr, inv, hQ => by
    cases hc; cases hr
    exact wpIn_skip (hQ a w α inv (Ext.refl w α))
  | .exit id, cc, s, s', x, a, w, α, Q, hc, hr, inv, hQ => by
    cases hc; cases hr
    exact wpIn_exit (hQ a w α inv (Ext.refl w α))
  | .ret, cc, s, s', x, a, w, α, Q, hc, hr, inv, hQ => by
    cases hc; cases hr
    exact wpIn_ret (hQ a w α inv (Ext.refl w α))
  | .region id ops false, cc, s, s', x, a, w, α, Q, hc, hr, inv, hQ => by
    simp only [comp] at hc
    obtain ⟨cs, h1, rfl⟩ := Option.map_eq_some_iff.1 hc
    simp only [run] at hr
    obtain ⟨s1, h2, h3⟩ := Option.map_eq_some_iff.1 hr
    cases h3
    exact reg_ok hH hI h1 h2 inv hQ
  | .region id ops true, cc, s, s', x, a, w, α, Q, hc, hr, inv, hQ => by
    simp only [comp] at hc
    have hc0 := hc
    unfold compDraw at hc
    split at hc
    · cases hc
    · split at hc
      · cases hc
        simp only [run] at hr
        obtain ⟨⟨s1, evs⟩, h2, h3⟩ := Option.bind_eq_some_iff.1 hr
        simp only at h3
        split at h3
        · rename_i hp
          cases h3
          exact draw_ok hH hI hm hc0 h2 hp inv hQ
        · cases h3
      · cases hc
  | .seq c d, cc, s, s', x, a, w, α, Q, hc, hr, inv, hQ => by
    simp only [comp] at hc
    split at hc
    · rename_i cx cy h1 h2
      cases hc
      simp only [run] at hr
      obtain ⟨⟨x1, s1⟩, h3, h4⟩ := Option.bind_eq_some_iff.1 hr
      refine wpIn_seq (run_ok hH hI hm c cx s s1 x1 a w α _ h1 h3 inv fun a' w' α' inv' ext => ?_)
      cases x1 with
      | norm => exact run_ok hH hI hm d cy s1 s' x a' w' α' Q h2 h4 inv' (fun a'' w'' α'' i'' e'' => hQ a'' w'' α'' i'' (ext.trans e''))
      | exit i => cases h4; exact hQ a' w' α' inv' ext
      | ret => cases h4; exact hQ a' w' α' inv' ext
    · cases hc
  | .cond o c d, cc, s, s', x, a, w, α, Q, hc, hr, inv, hQ => by
    simp only [comp] at hc
    split at hc
    · rename_i cx cy h1 h2
      cases hc
      simp only [run] at hr
      split at hr
      · rename_i t ht
        have hv := eval_ok (w := w) (ok := okA w α) (α := α) (a := a) (e := s.1) inv.val o
        rw [ht] at hv
        have he := hv.sc_eq
        cases t with
        | true => exact wpIn_cond_true he (run_ok hH hI hm c cx s s' x a w α Q h1 hr inv hQ)
        | false => exact wpIn_cond_false he (run_ok hH hI hm d cy s s' x a w α Q h2 hr inv hQ)
      · cases hr
    · cases hc
  | .block id c, cc, s, s', x, a, w, α, Q, hc, hr, inv, hQ => by
    simp only [comp] at hc
    obtain ⟨cx, h1, rfl⟩ := Option.map_eq_some_iff.1 hc
    simp only [run] at hr
    obtain ⟨⟨x1, s1⟩, h2, h3⟩ := Option.map_eq_some_iff.1 hr
    refine wpIn_block (run_ok hH hI hm c cx s s1 x1 a w α _ h1 h2 inv fun a' w' α' inv' ext => ?_)
    cases x1 with
    | norm => cases h3; exact hQ a' w' α' inv' ext
    | ret => cases h3; exact hQ a' w' α' inv' ext
    | exit i =>
      simp only at h3
      simp only [exOf, Exit.inBlock]
      split at h3
      · rename_i hi
        cases h3
        rw [if_pos hi]
        exact hQ a' w' α' inv' ext
      · rename_i hi
        cases h3
        rw [if_neg hi]
        exact hQ a' w' α' inv' ext
  | .loop c, cc, s, s', x, a, w, α, Q, hc, hr, inv, hQ => by
    simp only [comp] at hc
    obtain ⟨cx, h1, rfl⟩ := Option.map_eq_some_iff.1 hc
    simp only [run] at hr
    refine wpIn_loop_ghost (fun k a' w' => ∃ s1 α', iter (run H I N q cx) k s1 = some (x, s') ∧ Inv nt base s1 a' w' α' ∧ Ext w α w' α') N ⟨s, α, hr, inv, Ext.refl w α⟩ ?_
    rintro k a' w' ⟨s1, α', hk, inv', ext⟩
    cases k with
    | zero => cases hk
    | succ k =>
      simp only [iter] at hk
      cases hq : run H I N q cx s1 with
      | none => rw [hq] at hk; cases hk
      | some r =>
        obtain ⟨x2, s2⟩ := r
        rw [hq] at hk
        refine run_ok hH hI hm c cx s1 s2 x2 a' w' α' _ h1 hq inv' fun a'' w'' α'' inv'' ext'' => ?_
        cases x2 with
        | norm => exact ⟨k, Nat.lt_succ_self k, s2, α'', hk, inv'', ext.trans ext''⟩
        | exit i => cases hk; exact hQ a'' w'' α'' inv'' (ext.trans ext'')
        | ret => cases hk; exact hQ a'' w'' α'' inv'' (ext.trans ext'')
  | .rangeFunc _ _ _ _, cc, s, s', x, a, w, α, Q, hc, hr, inv, hQ => by cases hc
  | .scope _, cc, s, s', x, a, w, α, Q, hc, hr, inv, hQ => by cases hc
  | .label _, cc, s, s', x, a, w, α, Q, hc, hr, inv, hQ => by cases hc
  | .goto _, cc, s, s', x, a, w, α, Q, hc, hr, inv, hQ => by cases hc
  | .refuse _, cc, s, s', x, a, w, α, Q, hc, hr, inv, hQ => by cases hc

end
end Go.Proofs.Ytihljollfbogeaa
