/- Abstract runs as trees: what holds at every end. Tables of known functions. No condition. -/
import Derived.Test.YtihljollfbogeaaA27
namespace Go.Proofs.Ytihljollfbogeaa
open Go Go.RowKit

/-- It ends, and there this holds. -/
def Ends {β : Type} (o : Option β) (Q : β → Prop) : Prop := ∃ r, o = some r ∧ Q r
theorem ends_some {β : Type} (r : β) (Q : β → Prop) : Ends (some r) Q = Q r := by simp [Ends]
theorem ends_none {β : Type} (Q : β → Prop) : Ends none Q = False := by simp [Ends]
theorem ends_ite {β : Type} (c : Prop) [Decidable c] (a b : Option β) (Q : β → Prop) : Ends (if c then a else b) Q = ((c → Ends a Q) ∧ (¬ c → Ends b Q)) := by
  by_cases h : c <;> simp [h]
theorem ends_bind {β γ : Type} (o : Option β) (f : β → Option γ) (Q : γ → Prop) : Ends (o.bind f) Q = Ends o (fun r => Ends (f r) Q) := by
  cases o <;> simp [Ends]
theorem ends_map {β γ : Type} (o : Option β) (f : β → γ) (Q : γ → Prop) : Ends (o.map f) Q = Ends o (fun r => Q (f r)) := by
  cases o <;> simp [Ends]
theorem Ends.mono {β : Type} {o : Option β} {Q R : β → Prop} (h : Ends o Q) (k : ∀ r, Q r → R r) : Ends o R := by
  obtain ⟨r, h1, h2⟩ := h
  exact ⟨r, h1, k r h2⟩
theorem ends_eq {β : Type} {o : Option β} {r : β} : o = some r ↔ Ends o (fun x => x = r) := by simp [Ends]
theorem Ends.eq {β γ : Type} {o : Option β} {f : β → γ} {r : γ} (h : Ends o (fun x => f x = r)) : o.map f = some r := by
  obtain ⟨x, rfl, h⟩ := h
  simp [h]

theorem ite_map {β γ : Type} (c : Prop) [Decidable c] (a b : Option β) (f : β → γ) : (if c then a else b).map f = if c then a.map f else b.map f := by split <;> rfl
theorem ite_bind {β γ : Type} (c : Prop) [Decidable c] (a b : Option β) (f : β → Option γ) : (if c then a else b).bind f = if c then a.bind f else b.bind f := by split <;> rfl

/-! ### Comparisons split the run -/
section
variable (bl : Bool) (fl : Option Nat) (k : IntKind) (a b : Int)
def tt : AV := .sc (.bool true)
def ff : AV := .sc (.bool false)
theorem cmp_lss : oBinC .lss bl fl (.sc (.int k a)) (.sc (.int k b)) = if a < b then some (.sc (.bool true)) else some (.sc (.bool false)) := by
  by_cases h : a < b <;> simp [oBinC, binInt, h]
theorem cmp_leq : oBinC .leq bl fl (.sc (.int k a)) (.sc (.int k b)) = if a ≤ b then some (.sc (.bool true)) else some (.sc (.bool false)) := by
  by_cases h : a ≤ b <;> simp [oBinC, binInt, h]
theorem cmp_gtr : oBinC .gtr bl fl (.sc (.int k a)) (.sc (.int k b)) = if b < a then some (.sc (.bool true)) else some (.sc (.bool false)) := by
  by_cases h : b < a <;> simp [oBinC, binInt, h]
theorem cmp_geq : oBinC .geq bl fl (.sc (.int k a)) (.sc (.int k b)) = if b ≤ a then some (.sc (.bool true)) else some (.sc (.bool false)) := by
  by_cases h : b ≤ a <;> simp [oBinC, binInt, h]
theorem cmp_eql : oBinC .eql bl fl (.sc (.int k a)) (.sc (.int k b)) = if a = b then some (.sc (.bool true)) else some (.sc (.bool false)) := by
  by_cases h : a = b <;> simp [oBinC, binInt, h]
theorem cmp_neq : oBinC .neq bl fl (.sc (.int k a)) (.sc (.int k b)) = if a = b then some (.sc (.bool false)) else some (.sc (.bool true)) := by
  by_cases h : a = b <;> simp [oBinC, binInt, h]
theorem num_add : oBinC .add bl fl (.sc (.int k a)) (.sc (.int k b)) = some (.sc (.int k (k.wrap (a + b)))) := by simp [oBinC, binInt]
theorem num_sub : oBinC .sub bl fl (.sc (.int k a)) (.sc (.int k b)) = some (.sc (.int k (k.wrap (a - b)))) := by simp [oBinC, binInt]
theorem num_mul : oBinC .mul bl fl (.sc (.int k a)) (.sc (.int k b)) = some (.sc (.int k (k.wrap (a * b)))) := by simp [oBinC, binInt]
theorem num_rem : oBinC .rem bl fl (.sc (.int k a)) (.sc (.int k b)) = if b = 0 then none else some (.sc (.int k (a.tmod b))) := by
  by_cases h : b = 0 <;> simp [oBinC, binInt, h]
theorem cmp_beql (x y : Bool) : oBinC .eql true fl (.sc (.bool x)) (.sc (.bool y)) = if x = y then some (.sc (.bool true)) else some (.sc (.bool false)) := by
  by_cases h : x = y <;> simp [oBinC, h]
theorem cmp_bneq (x y : Bool) : oBinC .neq true fl (.sc (.bool x)) (.sc (.bool y)) = if x = y then some (.sc (.bool false)) else some (.sc (.bool true)) := by
  by_cases h : x = y <;> simp [oBinC, h]
theorem cmp_seql (x y : ByteArray) : oBinC .eql bl fl (.sc (.string x)) (.sc (.string y)) = if (x.toList == y.toList) = true then some (.sc (.bool true)) else some (.sc (.bool false)) := by
  cases h : x.toList == y.toList <;> simp [oBinC, h]
theorem cmp_sneq (x y : ByteArray) : oBinC .neq bl fl (.sc (.string x)) (.sc (.string y)) = if (x.toList == y.toList) = true then some (.sc (.bool false)) else some (.sc (.bool true)) := by
  cases h : x.toList == y.toList <;> simp [oBinC, h]
end

section
variable {H : Hand} {I : Inl} {N q : Nat}
/-- A guard that is not known yet. -/
theorem insA_split {g : Nat} {want b : Bool} {e : Env} {h : Hp} (d : Option Nat) (c : COp) (hg : e g = .sc (.bool b)) : insA H I q ⟨d, some (g, want), c⟩ (e, h) = if b = want then (opA H I (nameOf q d) c (e, h)).map (putA d) else some (edst e d (.tup []), h) := by
  simp only [insA, hg]; rfl
theorem run_draw_reg {ops : List CIns} {pairs : List (Nat × Nat)} (h : muteIn ops pairs = true) (s : St) : run H I N q (.draw ops pairs) s = run H I N q (.reg ops) s := run_draw h s

/-! ### Loops -/
/-- What a round comes to. -/
def Rnd (J : St → Prop) (Post : CEx → St → Prop) : CEx × St → Prop
  | (.norm, s) => J s
  | (x, s) => Post x s
theorem rnd_norm (J : St → Prop) (Post : CEx → St → Prop) (s : St) : Rnd J Post (.norm, s) = J s := rfl
theorem rnd_toNorm (J : St → Prop) (Post : CEx → St → Prop) (s : St) : Rnd J Post (toNorm s) = J s := rfl
theorem rnd_exit (J : St → Prop) (Post : CEx → St → Prop) (i : Nat) (s : St) : Rnd J Post (.exit i, s) = Post (.exit i) s := rfl
theorem rnd_ret (J : St → Prop) (Post : CEx → St → Prop) (s : St) : Rnd J Post (.ret, s) = Post .ret s := rfl
theorem for_from {f : St → Option (CEx × St)} {n : Nat} {J : Nat → St → Prop} {Post : CEx → St → Prop}
    (step : ∀ i e h, i < n → J i (e, h) → Ends (f (e, h)) (Rnd (J (i + 1)) Post)) (fin : ∀ e h, J n (e, h) → Ends (f (e, h)) (Rnd (fun _ => False) Post)) :
    ∀ (M i : Nat) (s : St), i ≤ n → n < M + i → J i s → Ends (iter f M s) (fun r => r.1 ≠ .norm ∧ Post r.1 r.2)
  | 0, i, s, hi, hM, _ => absurd hM (by omega)
  | M + 1, i, (e, h), hi, hM, hj => by
    have key : (∃ x s', f (e, h) = some (x, s') ∧ x ≠ .norm ∧ Post x s') ∨ (∃ s', f (e, h) = some (.norm, s') ∧ i < n ∧ J (i + 1) s') := by
      by_cases hlt : i < n
      · obtain ⟨⟨x, s'⟩, h1, h2⟩ := step i e h hlt hj
        cases x with
        | norm => exact .inr ⟨s', h1, hlt, h2⟩
        | exit j => exact .inl ⟨_, _, h1, by simp, h2⟩
        | ret => exact .inl ⟨_, _, h1, by simp, h2⟩
      · have : i = n := by omega
        subst this
        obtain ⟨⟨x, s'⟩, h1, h2⟩ := fin e h hj
        cases x with
        | norm => exact h2.elim
        | exit j => exact .inl ⟨_, _, h1, by simp, h2⟩
        | ret => exact .inl ⟨_, _, h1, by simp, h2⟩
    rcases key with ⟨x, s', h1, h2, h3⟩ | ⟨s', h1, h2, h3⟩
    · simp only [iter, h1]
      cases x with
      | norm => exact (h2 rfl).elim
      | exit j => exact ⟨_, rfl, h2, h3⟩
      | ret => exact ⟨_, rfl, h2, h3⟩
    · simp only [iter, h1]
      exact for_from step fin M (i + 1) s' (by omega) (by omega) h3
theorem for_loop {f : St → Option (CEx × St)} (n : Nat) (J : Nat → St → Prop) (Post : CEx → St → Prop)
    (step : ∀ i e h, i < n → J i (e, h) → Ends (f (e, h)) (Rnd (J (i + 1)) Post)) (fin : ∀ e h, J n (e, h) → Ends (f (e, h)) (Rnd (fun _ => False) Post))
    {M : Nat} {s : St} (hM : n < M) (h0 : J 0 s) : Ends (iter f M s) (fun r => r.1 ≠ .norm ∧ Post r.1 r.2) :=
  for_from step fin M 0 s (by omega) (by omega) h0
end

/-! ### What is known of functions -/
theorem good_of_ends {P : Program} {H : Hand} {I : Inl} {N q : Nat} (hH : HandOk P H) (hI : InlOk P I) (hm : P.follows .mixedOrders = true) {f : FuncId} {fn : Func} {c : CFn} (hf : P.funcs[f]? = some fn) (hc : compFn P fn = some c) {as : List AV} {r : AV}
    (hr : Ends (fnA H I N q c as hemp) (fun p => outA p = r)) : Enters P f ∧ Good P f as r :=
  good_of_out hH hI hm hf hc hr.eq

open Classical in
/-- The answer at arguments of this form. -/
noncomputable def hnd {X : Type} (enc : X → List AV) (pre : X → Prop) (res : X → AV) (as : List AV) : Option AV :=
  if h : ∃ x, pre x ∧ enc x = as then some (res h.choose) else none
theorem hnd_eq {X : Type} {enc : X → List AV} {pre : X → Prop} {res : X → AV} (hi : ∀ x y, enc x = enc y → x = y) {x : X} (hx : pre x) : hnd enc pre res (enc x) = some (res x) := by
  have h : ∃ y, pre y ∧ enc y = enc x := ⟨x, hx, rfl⟩
  unfold hnd
  rw [dif_pos h, hi _ _ h.choose_spec.2]
theorem hnd_ok {X : Type} {enc : X → List AV} {pre : X → Prop} {res : X → AV} {Q : List AV → AV → Prop} (h : ∀ x, pre x → Q (enc x) (res x)) (as : List AV) (r : AV) (hr : hnd enc pre res as = some r) : Q as r := by
  unfold hnd at hr
  split at hr
  · rename_i hx
    cases hr
    have := h _ hx.choose_spec.1
    rwa [hx.choose_spec.2] at this
  · cases hr

/-- A table of answers. -/
def mkH (l : List (FuncId × (List AV → Option AV))) : Hand := fun f as =>
  match l with
  | [] => none
  | (g, k) :: r => if f = g then k as else mkH r f as
theorem mkH_nil (f : FuncId) (as : List AV) : mkH [] f as = none := rfl
theorem mkH_cons (g : FuncId) (k : List AV → Option AV) (r : List (FuncId × (List AV → Option AV))) (f : FuncId) (as : List AV) : mkH ((g, k) :: r) f as = if f = g then k as else mkH r f as := rfl
theorem mkH_ok {P : Program} : ∀ {l : List (FuncId × (List AV → Option AV))}, (∀ p ∈ l, ∀ as r, p.2 as = some r → Enters P p.1 ∧ Good P p.1 as r) → HandOk P (mkH l)
  | [], _, f, as, r, hr => by cases hr
  | (g, k) :: l, h, f, as, r, hr => by
    rw [mkH_cons] at hr
    split at hr
    · rename_i e; subst e
      exact h _ List.mem_cons_self as r hr
    · exact mkH_ok (fun p hp => h p (List.mem_cons_of_mem _ hp)) f as r hr
/-- A table of code. -/
def mkT (l : List (FuncId × CFn)) : FuncId → Option CFn := fun f =>
  match l with
  | [] => none
  | (g, k) :: r => if f = g then some k else mkT r f
theorem mkT_ok {P : Program} : ∀ {l : List (FuncId × CFn)}, (∀ p ∈ l, ∃ fn, P.funcs[p.1]? = some fn ∧ compFn P fn = some p.2) → TabOk P (mkT l)
  | [], _, f, c, hr => by cases hr
  | (g, k) :: l, h, f, c, hr => by
    simp only [mkT] at hr
    split at hr
    · rename_i e; subst e
      cases hr
      exact h _ List.mem_cons_self
    · exact mkT_ok (fun p hp => h p (List.mem_cons_of_mem _ hp)) f c hr
theorem no_inl {P : Program} : InlOk P (fun _ _ _ _ => none) := fun _ _ _ _ _ _ h => by cases h
theorem norm_encI : norm ∘ encI = encI := by funext n; rfl
theorem norm_encB : norm ∘ encB = encB := by funext n; rfl
theorem encI_inj (a b : Int) (h : encI a = encI b) : a = b := by simpa [encI] using h
theorem encB_inj (a b : Bool) (h : encB a = encB b) : a = b := by simpa [encB] using h
theorem map_inj {α β : Type} {f : α → β} (hf : ∀ a b, f a = f b → a = b) : ∀ {xs ys : List α}, xs.map f = ys.map f → xs = ys
  | [], [], _ => rfl
  | x :: xs, y :: ys, h => by
    simp only [List.map_cons, List.cons.injEq] at h
    rw [hf x y h.1, map_inj hf h.2]
  | [], _ :: _, h => by cases h
  | _ :: _, [], h => by cases h

end Go.Proofs.Ytihljollfbogeaa
