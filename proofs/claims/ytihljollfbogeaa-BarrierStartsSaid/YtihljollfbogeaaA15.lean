/- When an operation of the program is one of the small language, and that it does then what that one says. No condition. -/
import Derived.Test.YtihljollfbogeaaA14
namespace Go.Proofs.Ytihljollfbogeaa
open Go Go.RowKit

def sameX : Operand → Operand → Bool
  | .tmp a, .tmp b => a == b
  | .const (.int k a), .const (.int k' b) => decide (k = k') && a == b
  | _, _ => false
theorem sameX_eq {a b : Operand} (h : sameX a b = true) : a = b := by
  unfold sameX at h
  split at h
  · simp at h; rw [h]
  · simp at h; rw [h.1, h.2]
  · cases h
def isZeroX : Operand → Bool
  | .const (.int _ 0) => true
  | _ => false
def isNilX : Operand → Bool
  | .const (.slice none 0 0) => true
  | _ => false
theorem isNilX_eq {a : Operand} (h : isNilX a = true) : a = .const (.slice none 0 0) := by
  unfold isNilX at h
  split at h
  · rfl
  · cases h
def isSl (P : Program) (t : TypeId) : Bool := match P.underlying t with | some (.slice _) => true | _ => false
def isU8 (P : Program) (e : TypeId) : Bool := match P.underlying e with | some (.int .u8) => true | _ => false
def isStr (P : Program) (e : TypeId) : Bool := match P.underlying e with | some .string => true | _ => false
def isInt (P : Program) (e : TypeId) : Bool := match P.underlying e with | some (.int _) => true | _ => false

/-- Where the parts of a literal go. -/
def placed (P : Program) (t : TypeId) : List (Nat × Operand) → Option (List (Nat × Nat × Operand))
  | [] => some []
  | (i, x) :: r => match placesA P t i, placed P t r with
    | some (off, size), some l => some ((off, size, x) :: l)
    | _, _ => none

def compB (P : Program) (b : Builtin) (ts : List TypeId) (xs : List Operand) : Option COp :=
  match b, ts, xs with
  | .len, [t], [x] => match P.underlying t with | some (.slice _) => some (.len x) | _ => none
  | .cap, [t], [x] => match P.underlying t with | some (.slice _) => some (.cap x) | _ => none
  | .min, [_, _], [x, y] => some (.mn x y)
  | .max, [_, _], [x, y] => some (.mx x y)
  | .append, [t, t'], [s, x] =>
    match P.underlying t with
    | some (.slice e) => if rowT P e then
        if t = t' then some (.app (P.cellsOf e) s x)
        else if isInt P t' then (zeroOf P e).map fun z => .appZ (P.cellsOf e) z s x
        else none
      else none
    | _ => none
  | .copy, [t, _], [d, x] => match P.underlying t with | some (.slice e) => if rowT P e then some (.cpy (P.cellsOf e) d x) else none | _ => none
  | .clear, [t], [d] => match P.underlying t with | some (.slice e) => if rowT P e then (zeroOf P e).map fun z => .clr (P.cellsOf e) z d else none | _ => none
  | _, _, _ => none

def compOp (P : Program) : Op → Option COp
  | .move x => some (.mv x)
  | .assign x => some (.mv x)
  | .pick c a b => some (.pick c a b)
  | .unOp .not _ x => some (.inv x)
  | .binOp op t x y _ => if (decide (op = .eql) && isSl P t && isNilX y) = true then some (.isnil x) else some (.bin op (boolT P t) (flatK P t) x y)
  | .nilCheck x => some (.chk x)
  | .alloc t => (zeroOf P t).map .alloc
  | .box _ x => some (.box x)
  | .load t p => if hasT P t then some (.load (aggB P t) (P.cellsOf t) p) else none
  | .store t p v => if hasT P t then some (.store (P.cellsOf t) p v) else none
  | .fieldAddr s x i => match P.underlying s with
    | some (.struct fs) => match fs[i]? with
      | some f => if hasT P f.type && P.cellsOf f.type != 0 then some (.faddr f.offset x) else none
      | none => none
    | _ => none
  | .field s x i => match P.underlying s with
    | some (.struct fs) => match fs[i]? with
      | some f => if hasT P f.type then some (.field (aggB P f.type) (P.cellsOf f.type) f.offset x) else none
      | none => none
    | _ => none
  | .indexAddr t x i => match P.underlying t with
    | some (.slice e) => if hasT P e then some (.iaddrS (P.cellsOf e) x i) else none
    | some (.array len e) => if hasT P e then some (.iaddrA len (P.cellsOf e) x i) else none
    | _ => none
  | .extract x i => some (.ext i x)
  | .convert src dst x => match P.underlying src, P.underlying dst with
    | some (.int _), some (.int k) => some (.cint k x)
    | some (.slice e), some .string => if isU8 P e then some (.cstr x) else none
    | _, _ => none
  | .makeSlice t l c => match P.underlying t with
    | some (.slice e) => if rowT P e then
        if sameX l c then (zeroOf P e).map fun z => .make (P.cellsOf e) z l
        else if isZeroX l then some (.mk0 (P.cellsOf e) c)
        else none
      else none
    | _ => none
  | .buildSlice t len ps => match P.underlying t with
    | some (.slice e) => if rowT P e && ps.toList.map (·.1) == List.range len && decide (len * P.cellsOf e ≤ 16777216) then some (.lit (P.cellsOf e) (ps.toList.map (·.2))) else none
    | _ => none
  | .build t ps => if buildT P t then match zeroOf P t, placed P t ps.toList with
      | some z, some l => some (.build z l)
      | _, _ => none
    else none
  | .slice t x lo hi mx => match P.underlying t with
    | some (.slice e) => if hasT P e && (mx.isNone || hi.isSome) then some (.slc (P.cellsOf e) x lo hi mx) else none
    | _ => none
  | .makeMap t none => match P.underlying t with | some (.map _ _) => some .mnew | _ => none
  | .insert t m k v => match P.underlying t with | some (.map kt _) => if isInt P kt then some (.mput m k v) else none | _ => none
  | .lookup t m k true => match P.underlying t with
    | some (.map kt et) => if isInt P kt then match zeroOf P et with | some z => if (ofVal z).one then some (.mget z m k) else none | none => none else none
    | _ => none
  | .makeFunc (.func f) first caps => some (.fn f first.toList caps.toList)
  | .call c => match c.callee with
    | .builtin b => compB P b c.argTypes.toList c.args.toList
    | .value (.func f) => some (.call f c.args.toList)
    | .value x => some (.callv x c.args.toList)
    | _ => none
  | _ => none

section
variable {P : Program} {w : World} {α : Al} {base : Nat} {h : Hp}

/-- What an operation comes to, as the machine sees it. -/
def Upon (P : Program) (o : Oper) (ρ : Operand → Value) (base : Nat) (w : World) (α : Al) (v : AV) (h' : Hp) : Prop :=
  ∃ nx x w', (execOp ρ o).run P w = .ok nx w' ∧ (nx = .value x ∨ nx = .skip ∧ x = undef) ∧ Done base w α v h' x w'

theorem Upon.value {o : Oper} {ρ : Operand → Value} {v : AV} {h' : Hp} {s : Sem Value} (he : execOp ρ o = (do pure (.value (← s)) : Sem Next)) {x : Value} {w' : World} (hr : s.run P w = .ok x w') (hd : Done base w α v h' x w') : Upon P o ρ base w α v h' :=
  ⟨.value x, x, w', by rw [he]; simp [hr], .inl rfl, hd⟩
theorem Upon.unit {o : Oper} {ρ : Operand → Value} {h' : Hp} {s : Sem Unit} (he : execOp ρ o = (do s; pure .skip : Sem Next)) {w' : World} (hr : s.run P w = .ok () w') (hd : ∃ α', Rel base h' w' α' ∧ Ext w α w' α') : Upon P o ρ base w α .junk h' :=
  ⟨.skip, undef, w', by rw [he]; simp [hr], .inr ⟨rfl, rfl⟩, let ⟨α', r, e⟩ := hd; ⟨α', r, e, V.junk⟩⟩

theorem isnil_ok (r : Rel base h w α) {x v : AV} {u : Value} (ho : oIsNil h x = some v) (hx : V w (okA w α) α x u) : ∃ A n c, u = .slice A n c ∧ ∃ b, v = .sc (.bool b) ∧ b = A.isNone := by
  unfold oIsNil at ho
  split at ho
  · cases ho
    exact ⟨_, _, _, V.sc_eq hx, _, rfl, rfl⟩
  · cases ho
    cases hx with
    | low _ _ h =>
      cases h with
      | imm _ A cap sz b o U hcap hh hc hv =>
        have := (hh 0 _ rfl).2.1
        exact ⟨_, _, _, rfl, _, rfl, by rw [this]; rfl⟩
  · cases ho
    cases hx with
    | low _ _ h =>
      cases h with
      | full _ A sz b o U hh hc hv =>
        have := (hh 0 _ rfl).2.1
        exact ⟨_, _, _, rfl, _, rfl, by rw [this]; rfl⟩
  · rename_i n ver i len
    obtain ⟨⟨sz, els⟩, h1, h2⟩ := Option.map_eq_some_iff.1 ho
    cases h2
    cases hx with
    | low _ _ h => cases h
    | ref _ _ _ _ A cap ae hl ha hv hh =>
      obtain ⟨e1, _⟩ := r.row h1 ha
      obtain ⟨_, _, g3⟩ := hh e1.symm
      refine ⟨_, _, _, rfl, _, rfl, ?_⟩
      split at g3
      · rw [g3.2 (by omega)]; rfl
      · omega
  · cases ho
theorem nilEq_ok {t e : TypeId} {A : Option Addr} {n c : Nat} (ht : P.underlying t = some (.slice e)) : (Op.equal t (.slice A n c) (.slice none 0 0)).run P w = .ok A.isNone w := by
  unfold Op.equal
  rw [show Op.maxDepth = 9999 + 1 from rfl]
  generalize 9999 = d
  cases A <;> simp [Op.equalIn, run_underlying ht]

theorem mk0_ok (r : Rel base h w α) (hb : base ≤ w.heap.size) {t e : TypeId} {n k : Nat} {x v : AV} {h' : Hp} {u : Value} (ht : P.underlying t = some (.slice e)) (he : rowT P e = true) (hk : k = P.cellsOf e) (kk : IntKind)
    (ho : oMk0 h n k x = some (v, h')) (hx : V w (okA w α) α x u) : ∃ r w', (Instr.makeSlice t (.int kk 0) u).run P w = .ok r w' ∧ Done base w α v h' r w' := by
  obtain ⟨inf, z, hi, hz, hbytes, hpos, hzs, hke⟩ := rowT_spec he
  unfold oMk0 at ho
  split at ho
  · rename_i k2 m
    split at ho
    · rename_i hc
      obtain ⟨h0, hlim⟩ := hc
      cases ho
      rw [hx.sc_eq]
      have hb1 : (inf.bytes : Int) * m ≤ 281474976710656 := by
        obtain ⟨q, rfl⟩ := Int.eq_ofNat_of_zero_le h0
        have : inf.bytes * q ≤ 65536 * LIM := Nat.mul_le_mul hbytes (by omega)
        have h2 := LIM_nat
        have h3 : inf.bytes * q ≤ 281474976710656 := by omega
        exact mul_cast_le h3
      have hrun := run_make (P := P) w t e inf z ht hi hz kk k2 0 m (Int.le_refl _) h0 hb1 (by have := LIM_int; omega)
      refine ⟨_, _, hrun, ?_⟩
      obtain ⟨r', e'⟩ := r.new n k m.toNat (els := []) (cs := madeCells z.cells (m.toNat * inf.size)) e hb (by simp) (by simp [size_madeCells]; rw [hk, hke]; exact Nat.le_refl _) (fun e el he => by simp at he)
      exact ⟨_, r', e', V.of_V1 (.ref _ _ _ _ _ _ _ (by simp) (upd_same _ _ _) (Nat.le_refl _) fun _ => ⟨by simp, by simp, by simp⟩)⟩
    · cases ho
  · cases ho

theorem fillC_ok {t : TypeId} : ∀ {ps : List (Nat × Operand)} {l : List (Nat × Nat × Operand)} {e : Env} {cs cs' : List AV}, placed P t ps = some l → fillC cs (l.map fun p => (p.1, p.2.1, aEval e p.2.2)) = some cs' →
    fillA (placesA P t) cs (ps.map fun p => (p.1, aEval e p.2)) = some cs'
  | [], l, e, cs, cs', hp, hf => by
    cases hp
    exact hf
  | (i, x) :: ps, l, e, cs, cs', hp, hf => by
    unfold placed at hp
    split at hp
    · rename_i off size l' h1 h2
      cases hp
      simp only [List.map_cons, fillC] at hf
      simp only [List.map_cons, fillA, h1]
      split at hf
      · rename_i hc
        rw [if_pos hc]
        exact fillC_ok h2 hf
      · cases hf
    · cases hp

theorem getElem?_map_some {β γ : Type} {f : β → γ} {l : List β} {i : Nat} {a : β} (h : l[i]? = some a) : (l.map f)[i]? = some (f a) := by simp [h]

theorem VO_map {ρ : Operand → Value} {e : Env} (hρ : ∀ x, V w (okA w α) α (aEval e x) (ρ x)) (o : Option Operand) : VO w (okA w α) α (o.map (aEval e)) (o.map ρ) := by
  cases o with
  | none => trivial
  | some x => exact hρ x

theorem builtin_ok (r : Rel base h w α) (hb : base ≤ w.heap.size) {c : COp} {ρ : Operand → Value} {e : Env} (hρ : ∀ x, V w (okA w α) α (aEval e x) (ρ x)) {b : Builtin} {ts : List TypeId} {xs : List Operand}
    (hc : compB P b ts xs = some c) {n : Nat} {v : AV} {d : Dl} (hev : c.ev n e h = some (v, d)) (ty : TypeId) (cs : Array Bool) :
    ∃ x w', (builtin b ts.toArray ty cs (xs.map ρ).toArray).run P w = .ok (.value x) w' ∧ Done base w α v (appD h d) x w' := by
  unfold compB at hc
  split at hc
  · rename_i t x
    split at hc
    · rename_i el hs
      cases hc
      obtain ⟨h1, rfl⟩ := pu_some hev
      obtain ⟨h2, h3⟩ := len_ok (P := P) (ty := ty) hs h1 (hρ x)
      exact ⟨_, w, by simp [builtin, h2], Done.same r h3⟩
    · cases hc
  · rename_i t x
    split at hc
    · rename_i el hs
      cases hc
      obtain ⟨h1, rfl⟩ := pu_some hev
      obtain ⟨h2, h3⟩ := cap_ok (P := P) (ty := ty) hs h1 (hρ x)
      exact ⟨_, w, by simp [builtin, h2], Done.same r h3⟩
    · cases hc
  · rename_i t1 t2 x y
    cases hc
    obtain ⟨h1, rfl⟩ := pu_some hev
    obtain ⟨u, h2, h3⟩ := min_ok (P := P) (tys := #[t1, t2]) (ty := ty) h1 (hρ x) (hρ y)
    exact ⟨u, w, by simp only [builtin]; simp [h2], Done.same r h3⟩
  · rename_i t1 t2 x y
    cases hc
    obtain ⟨h1, rfl⟩ := pu_some hev
    obtain ⟨u, h2, h3⟩ := max_ok (P := P) (tys := #[t1, t2]) (ty := ty) h1 (hρ x) (hρ y)
    exact ⟨u, w, by simp only [builtin]; simp [h2], Done.same r h3⟩
  · rename_i t t' s x
    split at hc
    · rename_i el hs
      split at hc
      · rename_i he
        split at hc
        · rename_i htt
          subst htt
          cases hc
          obtain ⟨h', h1, rfl⟩ := dl_some (h := h) hev (fun _ _ hh => let ⟨_, _, hh⟩ := Option.bind_eq_some_iff.1 hh; Only.append hh)
          obtain ⟨ys, h4, h5⟩ := Option.bind_eq_some_iff.1 h1
          obtain ⟨u, w', h2, h3⟩ := append_ok (P := P) (ty := ty) r hb hs he rfl h4 h5 (hρ s) (hρ x)
          exact ⟨u, w', by simp [builtin, h2], h3⟩
        · split at hc
          · rename_i hi
            obtain ⟨z, hz, rfl⟩ := Option.map_eq_some_iff.1 hc
            unfold isInt at hi
            split at hi
            · rename_i kk hk
              simp only [COp.ev] at hev
              split at hev
              · rename_i m e1 e2
                split at hev
                · rename_i hm
                  obtain ⟨h', h1, rfl⟩ := dl_some (h := h) hev (fun _ _ hh => Only.append (s := .nl) hh)
                  have hx := hρ x
                  rw [e2] at hx
                  have hs' := hρ s
                  rw [e1] at hs'
                  obtain ⟨u, w', h2, h3⟩ := appendZ_ok (P := P) (ty := ty) r hb hs hk he rfl hz hm.1 hm.2 h1 hs'
                  rw [← hx.sc_eq] at h2
                  exact ⟨u, w', by simp [builtin, h2], h3⟩
                · cases hev
              · cases hev
            · cases hi
          · cases hc
      · cases hc
    · cases hc
  · rename_i t t' dd x
    split at hc
    · rename_i el hs
      split at hc
      · rename_i he
        cases hc
        obtain ⟨h', h1, rfl⟩ := dl_some (h := h) hev (fun _ _ hh => let ⟨_, _, hh⟩ := Option.bind_eq_some_iff.1 hh; Only.copy hh)
        obtain ⟨ys, h4, h5⟩ := Option.bind_eq_some_iff.1 h1
        obtain ⟨u, w', h2, h3⟩ := copy_ok (P := P) (ty := ty) (tx := t') r hs he rfl h4 h5 (hρ dd) (hρ x)
        exact ⟨u, w', by simp [builtin, h2], h3⟩
      · cases hc
    · cases hc
  · rename_i t dd
    split at hc
    · rename_i el hs
      split at hc
      · rename_i he
        obtain ⟨z, hz, rfl⟩ := Option.map_eq_some_iff.1 hc
        obtain ⟨h', h1, rfl, rfl⟩ := dl0_some (h := h) hev (fun _ => Only.clear)
        obtain ⟨w', h2, α', h3, h4⟩ := clear_ok (P := P) (ty := ty) r hs he rfl hz h1 (hρ dd)
        exact ⟨.tuple #[], w', by simp [builtin, h2], α', h3, h4, V.junk⟩
      · cases hc
    · cases hc
  · cases hc

theorem op_ok (r : Rel base h w α) (hb : base ≤ w.heap.size) {o : Oper} {c : COp} {ρ : Operand → Value} {e : Env} (hρ : ∀ x, V w (okA w α) α (aEval e x) (ρ x)) (hconst : ∀ v, ρ (.const v) = v)
    (hc : compOp P o.op = some c) {n : Nat} {v : AV} {d : Dl} (hev : c.ev n e h = some (v, d)) : Upon P o ρ base w α v (appD h d) := by
  cases ho : o.op with
  | move x =>
    rw [ho] at hc; cases hc; cases hev
    exact ⟨.value (ρ x), _, w, by simp [execOp, ho], .inl rfl, Done.same r (hρ x)⟩
  | assign x =>
    rw [ho] at hc; cases hc; cases hev
    exact ⟨.value (ρ x), _, w, by simp [execOp, ho], .inl rfl, Done.same r (hρ x)⟩
  | pick cc a b =>
    rw [ho] at hc; cases hc
    obtain ⟨h1, rfl⟩ := pu_some hev
    obtain ⟨t, h2, h3⟩ := pick_ok h1 (hρ cc) (hρ a) (hρ b)
    exact ⟨.value (if t then ρ a else ρ b), _, w, by simp [execOp, ho, h2, asBool], .inl rfl, Done.same r h3⟩
  | unOp op t x =>
    rw [ho] at hc
    cases op <;> simp only [compOp] at hc <;> cases hc
    obtain ⟨h1, rfl⟩ := pu_some hev
    obtain ⟨x', h2, h3⟩ := not_ok (P := P) h1 (hρ x)
    exact Upon.value (by simp [execOp, ho]) h2 (Done.same r h3)
  | binOp op t x y ty =>
    rw [ho] at hc
    simp only [compOp] at hc
    split at hc
    · rename_i hn
      cases hc
      simp only [Bool.and_eq_true, decide_eq_true_eq] at hn
      obtain ⟨⟨rfl, hs⟩, hy⟩ := hn
      have hy := isNilX_eq hy
      subst hy
      unfold isSl at hs
      split at hs
      · rename_i el hs'
        obtain ⟨h1, rfl⟩ := pu_some hev
        obtain ⟨A, len, cap, hu, b, rfl, hb⟩ := isnil_ok r h1 (hρ x)
        refine Upon.value (s := (do eqGuard .eql t x (.const (.slice none 0 0)) (ρ x) (ρ (.const (.slice none 0 0))); binOp .eql t (ρ x) (ρ (.const (.slice none 0 0))) : Sem Value)) (x := .bool A.isNone) (w' := w) (by simp only [execOp, ho]) ?_ (Done.same r (by rw [hb]; exact V.sc rfl))
        rw [hconst, hu, Sem.run_bind, eqGuard_plain _ _ _ _ _ _ (by simp) (by simp), Result.andThen_ok]
        show (do pure (Value.bool (← Op.equal t (.slice A len cap) (.slice none 0 0))) : Sem Value).run P w = _
        rw [Sem.run_bind, nilEq_ok hs']
        rfl
      · cases hs
    · cases hc
      obtain ⟨h1, rfl⟩ := pu_some hev
      obtain ⟨u, h2, h3⟩ := bin_ok (P := P) (oBin_eq P op t _ _ v h1) (hρ x) (hρ y) x y
      exact Upon.value (by simp only [execOp, ho]) h2 (Done.same r h3)
  | nilCheck x =>
    rw [ho] at hc; cases hc
    obtain ⟨h1, rfl⟩ := pu_some hev
    obtain ⟨rfl, h2⟩ := oNil_ok h1 (hρ x)
    exact ⟨.value (ρ x), _, w, by simp only [execOp, ho]; exact h2 P x ρ rfl, .inl rfl, Done.same r (hρ x)⟩
  | alloc t =>
    rw [ho] at hc
    simp only [compOp] at hc
    obtain ⟨z, hz, rfl⟩ := Option.map_eq_some_iff.1 hc
    obtain ⟨h', h1, rfl⟩ := dl_some (h := h) hev (fun _ _ => Only.new)
    unfold zeroOf at hz
    cases hi : P.info? t with
    | none => rw [hi] at hz; cases hz
    | some inf =>
      rw [hi] at hz
      obtain ⟨x, w', h2, h3⟩ := alloc_ok (P := P) r hb hi hz h1
      exact Upon.value (by simp only [execOp, ho]) h2 h3
  | box t x =>
    rw [ho] at hc; cases hc
    obtain ⟨h', h1, rfl⟩ := dl_some (h := h) hev (fun _ _ => Only.new)
    obtain ⟨x', w', h2, h3⟩ := box_ok (P := P) r hb h1 (hρ x) t
    exact Upon.value (by simp only [execOp, ho]) h2 h3
  | load t p =>
    rw [ho] at hc
    simp only [compOp] at hc
    split at hc
    · rename_i ht
      cases hc
      obtain ⟨h1, rfl⟩ := pu_some hev
      obtain ⟨x, h2, h3⟩ := load_ok r ht rfl h1 (hρ p)
      exact Upon.value (by simp only [execOp, ho]) h2 (Done.same r h3)
    · cases hc
  | store t p x =>
    rw [ho] at hc
    simp only [compOp] at hc
    split at hc
    · rename_i ht
      cases hc
      obtain ⟨h', h1, rfl, rfl⟩ := dl0_some (h := h) hev (fun _ => Only.store)
      obtain ⟨w', h2, h3⟩ := store_ok r ht rfl h1 (hρ p) (hρ x)
      exact Upon.unit (by simp only [execOp, ho]) h2 h3
    · cases hc
  | fieldAddr s x i =>
    rw [ho] at hc
    simp only [compOp] at hc
    split at hc
    · rename_i fs hs
      split at hc
      · rename_i f hf
        split at hc
        · rename_i ht
          cases hc
          simp at ht
          obtain ⟨h1, rfl⟩ := pu_some hev
          obtain ⟨x', h2, h3⟩ := fieldAddr_ok hs hf ht.1 ht.2 h1 (hρ x)
          exact Upon.value (by simp only [execOp, ho]) h2 (Done.same r h3)
        · cases hc
      · cases hc
    · cases hc
  | field s x i =>
    rw [ho] at hc
    simp only [compOp] at hc
    split at hc
    · rename_i fs hs
      split at hc
      · rename_i f hf
        split at hc
        · rename_i ht
          cases hc
          obtain ⟨h1, rfl⟩ := pu_some hev
          obtain ⟨x', h2, h3⟩ := field_ok (P := P) hs hf ht (v := v) (x := aEval e x) (by unfold oField; exact h1) (hρ x)
          exact Upon.value (by simp only [execOp, ho]) h2 (Done.same r h3)
        · cases hc
      · cases hc
    · cases hc
  | indexAddr t x i =>
    rw [ho] at hc
    simp only [compOp] at hc
    split at hc
    · rename_i el hs
      split at hc
      · rename_i ht
        cases hc
        obtain ⟨h1, rfl⟩ := pu_some hev
        obtain ⟨x', h2, h3⟩ := indexS_ok r hs ht rfl h1 (hρ x) (hρ i)
        exact Upon.value (by simp only [execOp, ho]) h2 (Done.same r h3)
      · cases hc
    · rename_i len el hs
      split at hc
      · rename_i ht
        cases hc
        obtain ⟨h1, rfl⟩ := pu_some hev
        obtain ⟨x', h2, h3⟩ := indexA_ok hs ht rfl h1 (hρ x) (hρ i)
        exact Upon.value (by simp only [execOp, ho]) h2 (Done.same r h3)
      · cases hc
    · cases hc
  | extract x i =>
    rw [ho] at hc; cases hc
    obtain ⟨h1, rfl⟩ := pu_some hev
    obtain ⟨x', h2, h3⟩ := extract_ok (P := P) h1 (hρ x)
    exact Upon.value (by simp only [execOp, ho]) h2 (Done.same r h3)
  | convert src dst x =>
    rw [ho] at hc
    simp only [compOp] at hc
    split at hc
    · rename_i k1 k2 hs hd
      cases hc
      obtain ⟨h1, rfl⟩ := pu_some hev
      obtain ⟨x', h2, h3⟩ := convInt_ok (P := P) (src := src) (by rw [hs]; rfl) hd h1 (hρ x)
      exact Upon.value (by simp only [execOp, ho]) h2 (Done.same r h3)
    · rename_i el hs hd
      split at hc
      · rename_i hu
        cases hc
        have he : P.underlying el = some (.int .u8) := by
          unfold isU8 at hu
          split at hu
          · assumption
          · cases hu
        obtain ⟨h1, rfl⟩ := pu_some hev
        obtain ⟨x', h2, h3⟩ := convStr_ok (P := P) r hs he hd h1 (hρ x)
        exact Upon.value (by simp only [execOp, ho]) h2 (Done.same r h3)
      · cases hc
    · cases hc
  | makeSlice t l cc =>
    rw [ho] at hc
    simp only [compOp] at hc
    split at hc
    · rename_i el hs
      split at hc
      · rename_i ht
        split at hc
        · rename_i hsame
          obtain ⟨z, hz, rfl⟩ := Option.map_eq_some_iff.1 hc
          obtain ⟨h', h1, rfl⟩ := dl_some (h := h) hev (fun _ _ => Only.make)
          obtain ⟨x', w', h2, h3⟩ := make_ok (P := P) r hb hs ht rfl hz h1 (hρ l)
          exact Upon.value (by simp only [execOp, ho, ← sameX_eq hsame]) h2 h3
        · split at hc
          · rename_i hz0
            cases hc
            obtain ⟨h', h1, rfl⟩ := dl_some (h := h) hev (fun _ _ => Only.mk0)
            unfold isZeroX at hz0
            split at hz0
            · rename_i kk _
              obtain ⟨x', w', h2, h3⟩ := mk0_ok (P := P) r hb hs ht rfl kk h1 (hρ cc)
              exact Upon.value (by simp only [execOp, ho, hconst]) h2 h3
            · cases hz0
          · cases hc
      · cases hc
    · cases hc
  | buildSlice t len ps =>
    rw [ho] at hc
    simp only [compOp] at hc
    split at hc
    · rename_i el hs
      split at hc
      · rename_i hcond
        cases hc
        simp only [Bool.and_eq_true, decide_eq_true_eq, beq_iff_eq] at hcond
        obtain ⟨⟨ht, hpos⟩, hbig⟩ := hcond
        obtain ⟨h', h1, rfl⟩ := dl_some (h := h) hev (fun _ _ => Only.lit)
        have hlen : ps.toList.length = len := by have := congrArg List.length hpos; simpa using this
        obtain ⟨x', w', h2, h3⟩ := lit_ok (P := P) r hb hs ht rfl h1 (us := (ps.toList.map (·.2)).map ρ) (len := len) (by simp) (by simpa using hlen) hbig (fun i a u ha hu => by
          rw [List.getElem?_map] at ha hu
          obtain ⟨y, hy, rfl⟩ := Option.map_eq_some_iff.1 ha
          rw [hy] at hu
          cases hu
          exact hρ y)
        have : ((List.range len).zip ((ps.toList.map (·.2)).map ρ)).toArray = ps.map fun (i, x) => (i, ρ x) := by
          apply Array.ext'
          rw [← hpos]
          simp
          induction ps.toList with
          | nil => rfl
          | cons p l ih => simp [ih]
        rw [this] at h2
        exact Upon.value (by simp only [execOp, ho]) h2 h3
      · cases hc
    · cases hc
  | build t ps =>
    rw [ho] at hc
    simp only [compOp] at hc
    split at hc
    · rename_i ht
      split at hc
      · rename_i z l hz hl
        cases hc
        obtain ⟨h1, rfl⟩ := pu_some hev
        have h1' : oBuild P t (ps.toList.map fun p => (p.1, aEval e p.2)) = some v := by
          unfold oBuildC at h1
          unfold oBuild
          rw [hz]
          simp only
          split at h1
          · rename_i cs hcs
            rw [hcs]
            obtain ⟨cs', h4, rfl⟩ := Option.map_eq_some_iff.1 h1
            simp only
            rw [fillC_ok hl h4]
            rfl
          · cases h1
        obtain ⟨x', h2, h3⟩ := build_ok (P := P) (uparts := ps.map fun (i, x) => (i, ρ x)) ht h1' (by simp) (fun i a u ha hu => by
          rw [List.getElem?_map] at ha
          obtain ⟨y, hy, rfl⟩ := Option.map_eq_some_iff.1 ha
          have hy' : ps[i]? = some y := by simpa using hy
          rw [Array.getElem?_map, hy'] at hu
          cases hu
          exact ⟨rfl, hρ y.2⟩)
        exact Upon.value (by simp only [execOp, ho]) h2 (Done.same r h3)
      · cases hc
    · cases hc
  | slice t x lo hi mx =>
    rw [ho] at hc
    simp only [compOp] at hc
    split at hc
    · rename_i el hs
      split at hc
      · rename_i hcond
        cases hc
        simp only [Bool.and_eq_true] at hcond
        obtain ⟨ht, hm⟩ := hcond
        obtain ⟨h1, rfl⟩ := pu_some hev
        obtain ⟨x', h2, h3⟩ := slice_ok (P := P) r hs ht rfl h1 (by
          cases mx with
          | none => exact .inl rfl
          | some m => cases hi with
            | none => simp at hm
            | some q => exact .inr (by simp)) (hρ x) (VO_map hρ lo) (VO_map hρ hi) (VO_map hρ mx)
        exact Upon.value (by simp only [execOp, ho]) h2 (Done.same r h3)
      · cases hc
    · cases hc
  | makeMap t rr =>
    rw [ho] at hc
    cases rr with
    | some _ => cases hc
    | none =>
      simp only [compOp] at hc
      split at hc
      · cases hc
        obtain ⟨h', h1, rfl⟩ := dl_some (h := h) hev (fun _ _ hh => by cases hh; exact Only.set ..)
        have h1' := Option.some.inj h1
        obtain ⟨x', w', h2, h3⟩ := mapNew_ok (P := P) r hb t n
        rw [h1'] at h3
        exact Upon.value (by simp only [execOp, ho, Option.map_none]) h2 h3
      · cases hc
  | insert t m k x =>
    rw [ho] at hc
    simp only [compOp] at hc
    split at hc
    · rename_i kt et hs
      split at hc
      · rename_i hi
        cases hc
        obtain ⟨h', h1, rfl, rfl⟩ := dl0_some (h := h) hev (fun _ => Only.mapPut)
        unfold isInt at hi
        split at hi
        · rename_i kk hk
          obtain ⟨w', h2, h3⟩ := mapPut_ok (P := P) r hs hk h1 (hρ m) (hρ k) (hρ x)
          exact Upon.unit (by simp only [execOp, ho]) h2 h3
        · cases hi
      · cases hc
    · cases hc
  | lookup t m k ok =>
    rw [ho] at hc
    cases ok with
    | false => cases hc
    | true =>
      simp only [compOp] at hc
      split at hc
      · rename_i kt et hs
        split at hc
        · rename_i hi
          split at hc
          · rename_i z hz
            split at hc
            · rename_i hz1
              cases hc
              obtain ⟨h1, rfl⟩ := pu_some hev
              unfold isInt at hi
              split at hi
              · rename_i kk hk
                obtain ⟨x', h2, h3⟩ := mapGet_ok (P := P) r hs hk hz hz1 h1 (hρ m) (hρ k)
                exact Upon.value (by simp only [execOp, ho]) h2 (Done.same r h3)
              · cases hi
            · cases hc
          · cases hc
        · cases hc
      · cases hc
  | makeFunc fn first caps =>
    rw [ho] at hc
    cases fn with
    | func f =>
      cases hc
      simp only [COp.ev] at hev
      split at hev
      · rename_i hall
        cases hev
        refine ⟨.value (.func (.func f) (first.map ρ) (caps.map ρ)), _, w, by simp [execOp, ho, Instr.makeFunc], .inl rfl, Done.same r ?_⟩
        rw [List.all_append, Bool.and_eq_true] at hall
        have key : ∀ (xs : List Operand), (xs.map (aEval e)).all AV.single = true → ∀ (i : Nat) (a : AV) (u : Value), (xs.map (aEval e))[i]? = some a → (xs.map ρ)[i]? = some u → V1 w (okA w α) α a u := fun xs hs i a u ha hu => by
          have h1 := List.all_eq_true.1 hs a (List.mem_of_getElem? ha)
          rw [List.getElem?_map] at ha hu
          obtain ⟨y, hy, rfl⟩ := Option.map_eq_some_iff.1 ha
          rw [hy] at hu
          cases hu
          have := hρ y
          cases hq : aEval e y <;> rw [hq] at this h1 <;> first | exact this | (simp [AV.single] at h1)
        have := V1.fn (w := w) (ok := okA w α) (α := α) f _ _ (first.toList.map ρ) (caps.toList.map ρ) (by simp) (by simp) (key first.toList hall.1) (key caps.toList hall.2)
        have e1 : (first.toList.map ρ).toArray = first.map ρ := by apply Array.ext'; simp
        have e2 : (caps.toList.map ρ).toArray = caps.map ρ := by apply Array.ext'; simp
        rw [e1, e2] at this
        exact V.of_V1 this
      · cases hev
    | _ => cases hc
  | call cc =>
    rw [ho] at hc
    simp only [compOp] at hc
    split at hc
    · rename_i b hcal
      obtain ⟨CS, hCS⟩ : ∃ CS, (execOp ρ o).run P w = (builtin b cc.argTypes o.type CS (cc.args.map ρ)).run P w := ⟨_, by simp only [execOp, ho, resolve, hcal]; simp [invoke]; rfl⟩
      obtain ⟨x, w', h1, h2⟩ := builtin_ok r hb hρ hc hev o.type CS
      have e1 : (cc.args.toList.map ρ).toArray = cc.args.map ρ := by apply Array.ext'; simp
      rw [e1] at h1
      refine ⟨.value x, x, w', ?_, .inl rfl, h2⟩
      rw [hCS]
      simpa using h1
    · cases hc; cases hev
    · cases hc; cases hev
    · cases hc
  | _ => rw [ho] at hc; cases hc

end
end Go.Proofs.Ytihljollfbogeaa
