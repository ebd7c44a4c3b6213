/- Loops of an abstract run, by an invariant with a number that falls. No condition. -/
import Derived.Test.YtihljollfbogeaaA25
namespace Go.Proofs.Ytihljollfbogeaa
open Go Go.RowKit

/-- What a round of a loop comes to: it ends with the measure down, or the loop is left. -/
def Round (J : Nat → St → Prop) (Post : CEx → St → Prop) (k : Nat) : CEx × St → Prop
  | (.norm, s) => ∃ k', k' < k ∧ J k' s
  | (x, s) => Post x s
theorem iter_ind {f : St → Option (CEx × St)} (J : Nat → St → Prop) (Post : CEx → St → Prop) (step : ∀ k s, J k s → ∃ r, f s = some r ∧ Round J Post k r) :
    ∀ (M k : Nat) (s : St), k < M → J k s → ∃ x s', iter f M s = some (x, s') ∧ Post x s'
  | 0, k, s, hk, _ => absurd hk (by omega)
  | M + 1, k, s, hk, hj => by
    obtain ⟨⟨x, s1⟩, h1, h2⟩ := step k s hj
    simp only [iter, h1]
    cases x with
    | norm =>
      obtain ⟨k', h3, h4⟩ := h2
      exact iter_ind J Post step M k' s1 (by omega) h4
    | exit i => exact ⟨_, _, rfl, h2⟩
    | ret => exact ⟨_, _, rfl, h2⟩

/-- A loop is over; what comes behind it. -/
theorem loop_bind {f : St → Option (CEx × St)} {N : Nat} {s : St} {Post : CEx → St → Prop} {β : Type} {F : CEx × St → Option β} {r : Option β} (h : ∃ x s', iter f N s = some (x, s') ∧ Post x s') (hF : ∀ x s', Post x s' → F (x, s') = r) : (iter f N s).bind F = r := by
  obtain ⟨x, s', h1, h2⟩ := h
  rw [h1]
  exact hF x s' h2
theorem map_bind {β γ δ : Type} (o : Option β) (g : β → γ) (f : γ → Option δ) : (o.map g).bind f = o.bind fun x => f (g x) := by cases o <;> rfl
theorem map_is_bind {β γ : Type} (o : Option β) (g : β → γ) : o.map g = o.bind fun x => some (g x) := by cases o <;> rfl
theorem bind_bind {β γ δ : Type} (o : Option β) (g : β → Option γ) (f : γ → Option δ) : (o.bind g).bind f = o.bind fun x => (g x).bind f := by cases o <;> rfl

/-- What leaves a function. -/
def outA (r : AV × Hp) : AV := fz r.2 r.1
theorem outA_sc (v : Value) (h : Hp) : outA (.sc v, h) = .sc v := rfl
theorem outA_imm (xs : List AV) (h : Hp) : outA (.imm xs, h) = .imm xs := rfl
theorem outA_agg (cs : List AV) (h : Hp) : outA (.agg cs, h) = .agg (cs.map (fz1 h)) := rfl
theorem outA_tup (vs : List AV) (h : Hp) : outA (.tup vs, h) = .tup (vs.map (fzA h)) := rfl
theorem fz_sc (v : Value) (h : Hp) : fz h (.sc v) = .sc v := rfl
theorem fz_imm (xs : List AV) (h : Hp) : fz h (.imm xs) = .imm xs := rfl
theorem fz_full (xs : List AV) (h : Hp) : fz h (.full xs) = .imm xs := rfl
theorem fz_nl (h : Hp) : fz h .nl = .imm [] := rfl
theorem fz_fn (f : FuncId) (a b : List AV) (h : Hp) : fz h (.fn f a b) = .junk := rfl
theorem fz_agg (cs : List AV) (h : Hp) : fz h (.agg cs) = .agg (cs.map (fz1 h)) := rfl
theorem fz_tup (vs : List AV) (h : Hp) : fz h (.tup vs) = .tup (vs.map (fzA h)) := rfl
theorem fzA_sc (v : Value) (h : Hp) : fzA h (.sc v) = .sc v := rfl
theorem fzA_imm (xs : List AV) (h : Hp) : fzA h (.imm xs) = .imm xs := rfl
theorem fzA_full (xs : List AV) (h : Hp) : fzA h (.full xs) = .imm xs := rfl
theorem fzA_nl (h : Hp) : fzA h .nl = .imm [] := rfl
theorem fzA_agg (cs : List AV) (h : Hp) : fzA h (.agg cs) = .agg (cs.map (fz1 h)) := rfl
theorem fz1_sc (v : Value) (h : Hp) : fz1 h (.sc v) = .sc v := rfl
theorem fz1_imm (xs : List AV) (h : Hp) : fz1 h (.imm xs) = .imm xs := rfl
theorem fz1_full (xs : List AV) (h : Hp) : fz1 h (.full xs) = .imm xs := rfl
theorem fz1_nl (h : Hp) : fz1 h .nl = .imm [] := rfl

/-- A function's answer, from its abstract run. -/
theorem good_of_out {P : Program} {H : Hand} {I : Inl} {N q : Nat} (hH : HandOk P H) (hI : InlOk P I) (hm : P.follows .mixedOrders = true) {f : FuncId} {fn : Func} {c : CFn} (hf : P.funcs[f]? = some fn) (hc : compFn P fn = some c) {as : List AV} {r : AV}
    (hr : (fnA H I N q c as hemp).map outA = some r) : Enters P f ∧ Good P f as r := by
  obtain ⟨⟨v, h'⟩, h1, h2⟩ := Option.map_eq_some_iff.1 hr
  exact good_of_run hH hI hm hf hc h1 h2

end Go.Proofs.Ytihljollfbogeaa
