/- Plain regions of the small language are those of the program. No condition. -/
import Derived.Test.YtihljollfbogeaaA17
namespace Go.Proofs.Ytihljollfbogeaa
open Go Go.RowKit

section
variable {P : Program} {w : World} {α : Al} {base nt : Nat} {h : Hp} {H : Hand} {I : Inl}

theorem put_val {ok : Nat → Prop} {e : Env} {a : Act} {d : Option Nat} {v : AV} {x : Value} (hval : ∀ t, V w ok α (e t) (a.tmps.getD t undef)) (hd : ∀ k, d = some k → k < a.tmps.size) (hx : V w ok α v x) :
    ∀ t, V w ok α (edst e d v t) ((a.put d x).tmps.getD t undef) := by
  intro t
  cases d with
  | none => exact hval t
  | some k =>
    have hk := hd k rfl
    simp only [edst, eset, Act.put]
    by_cases e1 : t = k
    · subst e1
      simp only [if_true]
      rw [Array.getD_eq_getD_getElem?, Array.getElem?_setIfInBounds_self_of_lt hk]
      exact hx
    · rw [if_neg e1]
      rw [Array.getD_eq_getD_getElem?, Array.getElem?_setIfInBounds_ne (Ne.symm e1), ← Array.getD_eq_getD_getElem?]
      exact hval t

theorem yield_ok {ok : Nat → Prop} {e : Env} {a : Act} {ops : Array Oper} {j g : Nat} {b : Bool} (hval : ∀ t, V w ok α (e t) (a.tmps.getD t undef)) (hj : (ops.toList[j]?).bind (·.dst) = some g) (hg : e g = .sc (.bool b)) : yielded ops a.tmps j = some b := by
  have h1 := hval g
  rw [hg] at h1
  have h2 := h1.sc_eq
  have hj' : (ops[j]?).bind (·.dst) = some g := by simpa using hj
  unfold yielded
  rw [hj']
  simp only [Option.bind_some]
  rw [Array.getD_eq_getD_getElem?] at h2
  cases hq : a.tmps[g]? with
  | none => rw [hq] at h2; cases h2
  | some x => rw [hq] at h2; simp at h2; rw [h2]

theorem V.undef {w : World} {ok : Nat → Prop} {α : Al} : V w ok α (.tup []) undef := ⟨[], rfl, rfl, fun i a x ha => by simp at ha⟩
theorem yield_none {ok : Nat → Prop} {e : Env} {a : Act} {ops : Array Oper} {j g : Nat} (hval : ∀ t, V w ok α (e t) (a.tmps.getD t undef)) (hj : (ops.toList[j]?).bind (·.dst) = some g) (hg : e g = .tup []) : yielded ops a.tmps j = none := by
  have h1 := hval g
  rw [hg] at h1
  obtain ⟨us, h2, h3, _⟩ := h1
  have hus : us = [] := List.eq_nil_of_length_eq_zero h3
  subst hus
  have hj' : (ops[j]?).bind (·.dst) = some g := by simpa using hj
  unfold yielded
  rw [hj']
  simp only [Option.bind_some]
  rw [Array.getD_eq_getD_getElem?] at h2
  cases hq : a.tmps[g]? with
  | none => rfl
  | some x => rw [hq] at h2; simp at h2; rw [h2]

theorem ins_then (hH : HandOk P H) (hI : InlOk P I) {ops : Array Oper} {o : Oper} {i q : Nat} {ci : CIns} {s s' : St} {a : Act} (hi : ops[i]? = some o) (hc : compIns P nt ops.toList o = some ci) (hr : insA H I q ci s = some s')
    (inv : Inv nt base s a w α) {K : Act → World → Prop} {Q : Exit → Act → World → Prop} (hK : ∀ a' w' α', Inv nt base s' a' w' α' → Ext w α w' α' → K a' w') : wpOpIn Fence.wide 0 P ops Q i K a w := by
  unfold compIns at hc
  split at hc
  · cases hc
  · rename_i c hop
    split at hc
    case isFalse => cases hc
    rename_i hd
    have hdst : ∀ k, o.dst = some k → k < a.tmps.size := fun k hk => by
      rw [hk] at hd
      exact Nat.lt_of_lt_of_le (of_decide_eq_true hd) inv.size
    have fin : ∀ x w' α' (s1 : St) (v : AV), Rel base s1.2 w' α' → Ext w α w' α' → V w' (okA w' α') α' v x → (∀ t u', V w (okA w α) α (s.1 t) u' → V w' (okA w' α') α' (s1.1 t) u') → s' = (edst s1.1 o.dst v, s1.2) → K (a.put o.dst x) w' := by
      intro x w' α' s1 v h1 h2 h3 h4 h5
      refine hK _ w' α' ⟨by rw [h5]; exact h1, Nat.le_trans inv.base h2.size, ?_, ?_, ?_⟩ h2
      · rw [h5]
        exact put_val (fun t => h4 t _ (inv.val t)) hdst h3
      · have := inv.size
        unfold Act.put
        split <;> simpa using this
      · have := inv.defers
        unfold Act.put
        split <;> simpa using this
    unfold wpOpIn
    simp only [hi]
    unfold insA at hr
    split at hc
    · rename_i hg
      cases hc
      simp only at hr
      obtain ⟨⟨v, s1⟩, h1, h2⟩ := Option.map_eq_some_iff.1 hr
      rw [if_pos (by simp [Region.wanted, hg])]
      exact opA_then hH hI inv.rel inv.base inv.val hop h1 K Q (fun x w' α' k1 k2 k3 k4 => fin x w' α' s1 v k1 k2 k3 k4 h2.symm)
    · rename_i j want hg
      split at hc
      · rename_i g hj
        cases hc
        simp only at hr
        split at hr
        · rename_i b hb
          have hy := yield_ok inv.val hj hb
          split at hr
          · rename_i hbw
            subst hbw
            obtain ⟨⟨v, s1⟩, h1, h2⟩ := Option.map_eq_some_iff.1 hr
            rw [if_pos (by simp [Region.wanted, hg, hy])]
            exact opA_then hH hI inv.rel inv.base inv.val hop h1 K Q (fun x w' α' k1 k2 k3 k4 => fin x w' α' s1 v k1 k2 k3 k4 h2.symm)
          · rename_i hbw
            cases hr
            rw [if_neg (by simp [Region.wanted, hg, hy]; exact hbw)]
            exact ⟨fun _ _ => trivial, fin undef w α s (.tup []) inv.rel (Ext.refl w α) V.undef (fun t u' hu => hu) rfl⟩
        · rename_i hb
          cases hr
          rw [if_neg (by simp [Region.wanted, hg, yield_none inv.val hj hb])]
          exact ⟨fun _ _ => trivial, fin undef w α s (.tup []) inv.rel (Ext.refl w α) V.undef (fun t u' hu => hu) rfl⟩
        · cases hr
      · cases hc

theorem regA_ok (hH : HandOk P H) (hI : InlOk P I) {ops : Array Oper} {q : Nat} {Q : Exit → Act → World → Prop} : ∀ (rest : List Oper) (k : Nat) (cs : List CIns) (s s' : St) (a : Act) (w : World) (α : Al),
    ops.toList.drop k = rest → compAll P nt ops.toList rest = some cs → regA H I q cs s = some s' → Inv nt base s a w α → (∀ a' w' α', Inv nt base s' a' w' α' → Ext w α w' α' → Q .normal a' w') →
    wpOpsIn Fence.wide 0 P ops Q (List.range' k rest.length) a w
  | [], k, cs, s, s', a, w, α, hk, hc, hr, inv, hQ => by
    cases hc
    cases hr
    exact hQ a w α inv (Ext.refl w α)
  | o :: rest, k, cs, s, s', a, w, α, hk, hc, hr, inv, hQ => by
    unfold compAll at hc
    split at hc
    · rename_i ci l h1 h2
      cases hc
      simp only [regA] at hr
      obtain ⟨s1, h3, h4⟩ := Option.bind_eq_some_iff.1 hr
      have hi : ops[k]? = some o := by
        have : (ops.toList.drop k)[0]? = some o := by rw [hk]; rfl
        rw [List.getElem?_drop] at this
        simpa using this
      simp only [List.length_cons, List.range'_succ]
      rw [wpOpsIn_cons]
      refine ins_then hH hI hi h1 h3 inv fun a' w' α' inv' ext => ?_
      refine regA_ok hH hI rest (k + 1) l s1 s' a' w' α' ?_ h2 h4 inv' (fun a'' w'' α'' i'' e'' => hQ a'' w'' α'' i'' (ext.trans e''))
      rw [← List.drop_drop, hk]
      rfl
    · cases hc

theorem reg_ok (hH : HandOk P H) (hI : InlOk P I) {ops : Array Oper} {id q : Nat} {Q : Exit → Act → World → Prop} {cs : List CIns} {s s' : St} {a : Act} (hc : compAll P nt ops.toList ops.toList = some cs) (hr : regA H I q cs s = some s')
    (inv : Inv nt base s a w α) (hQ : ∀ a' w' α', Inv nt base s' a' w' α' → Ext w α w' α' → Q .normal a' w') : (Code.region id ops false).wpIn Fence.wide 0 P Q a w := by
  refine wpIn_region ?_
  have := regA_ok hH hI (Q := Q) ops.toList 0 cs s s' a w α rfl hc hr inv hQ
  rwa [Array.length_toList, ← List.range_eq_range'] at this

end
end Go.Proofs.Ytihljollfbogeaa
