/- The abstract operations without writes are those of the machine. No condition. -/
import Derived.Test.YtihljollfbogeaaA1
import Derived.Laws.StructEq
namespace Go.Proofs.Ytihljollfbogeaa
open Go Go.RowKit

def aEval (e : Env) : Operand → AV
  | .tmp t => e t
  | .const v => ofVal v
  | .func f => .fn f [] []
  | .global _ => .junk

section
variable {P : Program} {w : World} {ok : Nat → Prop} {α : Al}

theorem ofCell_ok (u : Value) : V1 w ok α (ofCell u) u := by
  unfold ofCell
  split <;> first | exact .low _ _ (.sc _ rfl) | exact .low _ _ (.nl none) | exact .junk _
theorem ofVal_ok (v : Value) : V w ok α (ofVal v) v := by
  cases v with
  | agg cs =>
    simp only [ofVal]
    split
    · rename_i hall
      refine ⟨cs, rfl, by simp, fun i a u ha hu => ?_⟩
      rw [List.getElem?_map, hu] at ha
      simp at ha
      subst ha
      exact ⟨ofCell_ok u, List.all_eq_true.1 hall u (List.mem_of_getElem? hu)⟩
    · exact V.junk
  | _ => exact V.of_V1 (by unfold ofVal; exact ofCell_ok _)
theorem eval_ok {a : Act} {e : Env} (h : ∀ t, V w ok α (e t) (a.tmps.getD t undef)) (x : Operand) : V w ok α (aEval e x) (a.eval x) := by
  cases x with
  | tmp t => exact h t
  | const v => exact ofVal_ok v
  | func f => exact V.of_V1 (V1.fn f [] [] [] [] rfl rfl (fun _ _ _ h => by simp at h) (fun _ _ _ h => by simp at h))
  | global g => exact V.junk

theorem pick_ok {c a b v : AV} {uc ua ub : Value} (h : oPick c a b = some v) (hc : V w ok α c uc) (ha : V w ok α a ua) (hb : V w ok α b ub) :
    ∃ t : Bool, uc = .bool t ∧ V w ok α v (if t then ua else ub) := by
  unfold oPick at h
  split at h
  · rename_i t
    cases h
    refine ⟨t, hc.sc_eq, ?_⟩
    cases t <;> assumption
  · cases h

theorem not_ok {x v : AV} {u : Value} (h : oNot x = some v) (hx : V w ok α x u) : ∃ r, (Op.unary .not u).run P w = .ok r w ∧ V w ok α v r := by
  unfold oNot at h
  split at h
  · cases h
    rw [hx.sc_eq]
    exact ⟨_, rfl, V.sc rfl⟩
  · cases h

theorem intBin_ok {op : BinOp} {k : IntKind} {a b : Int} {v : Value} (h : binInt op k a b = some v) (t : TypeId) : (binOp op t (.int k a) (.int k b)).run P w = .ok v w ∧ v.oneCell' = true := by
  unfold binInt at h
  cases op <;> simp only at h <;> first
    | (cases h; done)
    | (cases h; exact ⟨by simp [binOp, Op.intArith, Op.intCmp], rfl⟩)
    | skip
  split at h
  · cases h
  · rename_i hb
    cases h
    exact ⟨by simp [binOp, Op.intDiv, hb], rfl⟩


theorem eqGuard_plain (op : BinOp) (t : TypeId) (x y : Operand) (a b : Value) (h1 : ∀ cs ds, a = .agg cs → b = .agg ds → False) (h2 : a = .nilIface → b = .nilIface → False) :
    (eqGuard op t x y a b).run P w = .ok () w := by
  unfold eqGuard
  have key : ∀ (c : Prop) [Decidable c] (X : Sem Unit), X.run P w = .ok () w → (if c then pure () else X : Sem Unit).run P w = .ok () w := fun c _ X h => by split <;> first | rfl | exact h
  refine key _ _ ?_
  split <;> first | rfl | exact (h2 rfl rfl).elim | exact (h1 _ _ rfl rfl).elim
theorem eqGuard_agg (op : BinOp) (t : TypeId) (x y : Operand) (a b : Array Value) (h : P.eqGuardType P.depth t = false) :
    (eqGuard op t x y (.agg a) (.agg b)).run P w = .ok () w := by
  unfold eqGuard
  have key : ∀ (c : Prop) [Decidable c] (X : Sem Unit), X.run P w = .ok () w → (if c then pure () else X : Sem Unit).run P w = .ok () w := fun c _ X h => by split <;> first | rfl | exact h
  refine key _ _ ?_
  simp [h]

theorem sameCells_len : ∀ {a b : List AV} {r : Bool}, sameCells a b = some r → a.length = b.length
  | [], [], _, _ => rfl
  | [], _ :: _, _, h => by simp [sameCells] at h
  | x :: xs, [], _, h => by cases x <;> simp [sameCells] at h
  | x :: xs, y :: ys, r, h => by
    unfold sameCells at h
    split at h
    · rename_i h1 h2; cases h1
    · rename_i h1 h2
      cases h1; cases h2
      split at h
      · obtain ⟨r', h3, _⟩ := Option.map_eq_some_iff.1 h
        simp [sameCells_len h3]
      · cases h
    · cases h

/-- Cells that are whole numbers. -/
theorem sameCells_ok : ∀ {a b : List AV} {r : Bool} {ua ub : List Value}, sameCells a b = some r → VC w ok α a ua → VC w ok α b ub →
    (∀ i, i < a.length → ∃ (k : IntKind) (m n : Int), ua[i]? = some (Value.int k m) ∧ ub[i]? = some (Value.int k n)) ∧
    (r = true ↔ ∀ (i : Nat) (k k' : IntKind) (m n : Int), ua[i]? = some (Value.int k m) → ub[i]? = some (Value.int k' n) → m = n)
  | [], [], r, ua, ub, h, ha, hb => by
    simp [sameCells] at h
    subst h
    have : ua = [] := List.eq_nil_of_length_eq_zero ha.1
    subst this
    exact ⟨fun i hi => by simp at hi, by simp⟩
  | [], _ :: _, _, _, _, h, _, _ => by simp [sameCells] at h
  | x :: xs, [], _, _, _, h, _, _ => by cases x <;> simp [sameCells] at h
  | x :: xs, y :: ys, r, ua, ub, h, ha, hb => by
    unfold sameCells at h
    split at h
    · rename_i h1 _; cases h1
    · rename_i k m xs' k' n ys' h1 h2
      cases h1; cases h2
      split at h
      · rename_i hk
        subst hk
        obtain ⟨r', h3, rfl⟩ := Option.map_eq_some_iff.1 h
        obtain ⟨la, ha⟩ := ha
        obtain ⟨lb, hb⟩ := hb
        match ua, ub, la, lb, ha, hb with
        | u :: us, v :: vs, la, lb, ha, hb =>
          have e1 : u = .int k m := (ha 0 _ u rfl rfl).1.sc_eq
          have e2 : v = .int k n := (hb 0 _ v rfl rfl).1.sc_eq
          subst e1; subst e2
          obtain ⟨i1, i2⟩ := sameCells_ok (ua := us) (ub := vs) h3 ⟨by simpa using la, fun i a u h1 h2 => ha (i + 1) a u (by simpa using h1) (by simpa using h2)⟩
            ⟨by simpa using lb, fun i a u h1 h2 => hb (i + 1) a u (by simpa using h1) (by simpa using h2)⟩
          refine ⟨fun i hi => ?_, ?_⟩
          · match i with
            | 0 => exact ⟨k, m, n, rfl, rfl⟩
            | i + 1 => exact i1 i (by simpa using hi)
          · rw [Bool.and_eq_true, i2, beq_iff_eq]
            constructor
            · rintro ⟨rfl, h5⟩ i k1 k2 p q hp hq
              match i, hp, hq with
              | 0, hp, hq => simp at hp hq; omega
              | i + 1, hp, hq => exact h5 i k1 k2 p q (by simpa using hp) (by simpa using hq)
            · intro h5
              exact ⟨h5 0 k k m n rfl rfl, fun i k1 k2 p q hp hq => h5 (i + 1) k1 k2 p q (by simpa using hp) (by simpa using hq)⟩
      · cases h
    · cases h

theorem part_int {t : TypeId} {cs : Array Value} {off : Nat} {k : IntKind} {kk : IntKind} {n : Int} (ht : P.underlying t = some (.int kk)) (h : cs[off]? = some (.int k n)) : (part t cs off).run P w = .ok (.int k n) w := by
  simp [part, isAgg, run_underlying ht, h]
theorem equalIn_array {t e : TypeId} {n : Nat} {kk : IntKind} {a b : Array Value} {r : Bool} (ht : P.underlying t = some (.array n e)) (he : P.underlying e = some (.int kk)) {inf : TypeInfo} (hi : P.info? e = some inf) (hs : inf.size = 1)
    (d : Nat) (h1 : ∀ i, i < n → ∃ (k : IntKind) (m m' : Int), a[i]? = some (Value.int k m) ∧ b[i]? = some (Value.int k m'))
    (h2 : r = true ↔ ∀ (i : Nat) (k k' : IntKind) (m m' : Int), i < n → a[i]? = some (Value.int k m) → b[i]? = some (Value.int k' m') → m = m') :
    (Op.equalIn (d + 2) t (.agg a) (.agg b)).run P w = .ok r w := by
  unfold Op.equalIn
  simp only [Sem.run_bind, run_underlying ht, Result.andThen_ok]
  have hsz : (sizeOf e).run P w = .ok 1 w := by simp [sizeOf, typeInfo, hi, hs]
  simp only [hsz, Result.andThen_ok, Nat.mul_one]
  rw [Std.Legacy.Range.forIn_eq_forIn_range']
  have key : ∀ l : List Nat, (∀ i ∈ l, i < n) → ∀ F : Nat → Option Bool × PUnit → Sem (ForInStep (Option Bool × PUnit)),
      (∀ i s, F i s = (do
            let x ← part e a i
            let y ← part e b i
            let z ← Op.equalIn (d + 1) e x y
            if (!z) = true then pure (ForInStep.done (some false, PUnit.unit)) else pure (ForInStep.yield (none, PUnit.unit)))) →
      ∃ o, (forIn l (none, PUnit.unit) F).run P w = .ok (o, PUnit.unit) w ∧ ((o = none ∧ ∀ i ∈ l, ∀ (k k' : IntKind) (m m' : Int), a[i]? = some (Value.int k m) → b[i]? = some (Value.int k' m') → m = m') ∨
        (o = some false ∧ ∃ i ∈ l, ∃ (k : IntKind) (m m' : Int), a[i]? = some (Value.int k m) ∧ b[i]? = some (Value.int k m') ∧ m ≠ m')) := by
    intro l
    induction l with
    | nil => intro _ F _; exact ⟨none, rfl, .inl ⟨rfl, fun i hi => by simp at hi⟩⟩
    | cons i l ih =>
      intro hl F hF
      obtain ⟨k, m, m', e1, e2⟩ := h1 i (hl i (by simp))
      have r1 := part_int (P := P) (w := w) he e1
      have r2 := part_int (P := P) (w := w) he e2
      have r3 : (Op.equalIn (d + 1) e (.int k m) (.int k m')).run P w = .ok (m == m') w := run_equalIn_int w d e k kk m m' he
      simp only [List.forIn_cons, hF, Sem.run_bind, r1, r2, r3, Result.andThen_ok]
      by_cases hm : m = m'
      · have hm' : (m == m') = true := by simpa using hm
        simp only [hm', Bool.not_true, Bool.false_eq_true, if_false, Sem.run_pure, Result.andThen_ok]
        obtain ⟨o, h3, h4⟩ := ih (fun j hj => hl j (by simp [hj])) F hF
        refine ⟨o, h3, ?_⟩
        rcases h4 with ⟨rfl, h4⟩ | ⟨rfl, j, hj, h4⟩
        · refine .inl ⟨rfl, fun j hj k1 k2 p q hp hq => ?_⟩
          rcases List.mem_cons.1 hj with rfl | hj
          · rw [e1] at hp; rw [e2] at hq; cases hp; cases hq; exact hm
          · exact h4 j hj k1 k2 p q hp hq
        · exact .inr ⟨rfl, j, by simp [hj], h4⟩
      · have hm' : (m == m') = false := by simpa using hm
        simp only [hm', Bool.not_false, if_true, Sem.run_pure, Result.andThen_ok]
        exact ⟨some false, rfl, .inr ⟨rfl, i, by simp, k, m, m', e1, e2, hm⟩⟩
  have hr0 : List.range' [0:n].start [0:n].size [0:n].step = List.range' 0 n := by simp [Std.Legacy.Range.size]
  obtain ⟨o, h3, h4⟩ := key (List.range' 0 n) (fun i hi => by simpa using hi) _ (fun i s => rfl)
  rw [hr0]
  refine (congrArg (fun r => Result.andThen r _) h3).trans ?_
  rcases h4 with ⟨rfl, h4⟩ | ⟨rfl, j, hj, k, m, m', e1, e2, hm⟩
  · have : r = true := h2.2 fun i k k' m m' hi hp hq => h4 i (by simpa using hi) k k' m m' hp hq
    simp [this]
  · have : r = false := by
      cases hr : r
      · rfl
      · exact absurd (h2.1 hr j k k m m' (by simpa using hj) e1 e2) hm
    simp [this]

theorem eqFields_ok (d : Nat) {a b : Array Value} : ∀ (fs : List Field) (o : Nat) {r : Bool},
    (∀ j f, fs[j]? = some f → f.name ≠ "_" ∧ f.offset = o + j ∧ ∃ kk, P.underlying f.type = some (.int kk)) →
    (∀ i, o ≤ i → i < o + fs.length → ∃ (k : IntKind) (m m' : Int), a[i]? = some (Value.int k m) ∧ b[i]? = some (Value.int k m')) →
    (r = true ↔ ∀ (i : Nat) (k k' : IntKind) (m m' : Int), o ≤ i → i < o + fs.length → a[i]? = some (Value.int k m) → b[i]? = some (Value.int k' m') → m = m') →
    (Op.eqFields (d + 1) a b fs).run P w = .ok r w
  | [], o, r, _, _, h => by
    have : r = true := h.2 fun i _ _ _ _ h1 h2 => by simp at h2; omega
    simp [Op.eqFields, this]
  | f :: fs, o, r, hf, h1, h => by
    obtain ⟨hn, ho, kk, hk⟩ := hf 0 f rfl
    obtain ⟨k, m, m', e1, e2⟩ := h1 o (Nat.le_refl _) (by simp)
    have r1 := part_int (P := P) (w := w) hk (show a[f.offset]? = some (.int k m) by rw [ho]; simpa using e1)
    have r2 := part_int (P := P) (w := w) hk (show b[f.offset]? = some (.int k m') by rw [ho]; simpa using e2)
    have r3 : (Op.equalIn (d + 1) f.type (.int k m) (.int k m')).run P w = .ok (m == m') w := run_equalIn_int w d f.type k kk m m' hk
    simp only [Op.eqFields, if_pos hn, Sem.run_bind, r1, r2, r3, Result.andThen_ok]
    by_cases hm : m = m'
    · have hm' : (m == m') = true := by simpa using hm
      simp only [hm', Bool.not_true, Bool.false_eq_true, if_false]
      refine eqFields_ok d fs (o + 1) (fun j g hg => ?_) (fun i h2 h3 => h1 i (by omega) (by simp; omega)) ?_
      · obtain ⟨g1, g2, g3⟩ := hf (j + 1) g (by simpa using hg)
        exact ⟨g1, by omega, g3⟩
      · rw [h]
        constructor
        · intro h4 i k1 k2 p q h5 h6 hp hq
          exact h4 i k1 k2 p q (by omega) (by simp; omega) hp hq
        · intro h4 i k1 k2 p q h5 h6 hp hq
          by_cases hi : i = o
          · subst hi; rw [e1] at hp; rw [e2] at hq; cases hp; cases hq; exact hm
          · exact h4 i k1 k2 p q (by omega) (by simp at h6; omega) hp hq
    · have hm' : (m == m') = false := by simpa using hm
      have : r = false := by
        cases hr : r
        · rfl
        · exact absurd (h.1 hr o k k m m' (Nat.le_refl _) (by simp) e1 e2) hm
      simp [hm', this]

theorem aggEq_ok {t : TypeId} {a b : List AV} {r : Bool} {ua ub : Array Value} (hf : flatEq P t = true) (hl : a.length = P.cellsOf t) (h : sameCells a b = some r) (ha : VC w ok α a ua.toList) (hb : VC w ok α b ub.toList) :
    (Op.equal t (.agg ua) (.agg ub)).run P w = .ok r w ∧ P.eqGuardType P.depth t = false := by
  obtain ⟨s1, s2⟩ := sameCells_ok h ha hb
  unfold flatEq at hf
  rw [Bool.and_eq_true] at hf
  obtain ⟨hg, hf⟩ := hf
  refine ⟨?_, by simpa using hg⟩
  have s1' : ∀ i, i < a.length → ∃ (k : IntKind) (m m' : Int), ua[i]? = some (Value.int k m) ∧ ub[i]? = some (Value.int k m') := fun i hi => by
    obtain ⟨k, m, n, h1, h2⟩ := s1 i hi
    exact ⟨k, m, n, by simpa using h1, by simpa using h2⟩
  split at hf
  · rename_i n e ht
    simp only [Bool.and_eq_true] at hf
    obtain ⟨⟨h1, h2⟩, h3⟩ := hf
    split at h1
    · rename_i kk he
      split at h2
      · rename_i inf hi
        split at h3
        · rename_i inf2 hi2
          have hn : P.cellsOf t = n := by simp [Program.cellsOf, hi2]; simpa using h3
          exact equalIn_array ht he hi (by simpa using h2) 9998 (fun i hi => s1' i (by omega)) (by
            rw [s2]
            constructor
            · intro h4 i k k' m m' _ hp hq; exact h4 i k k' m m' (by simpa using hp) (by simpa using hq)
            · intro h4 i k k' m m' hp hq
              have : i < a.length := by
                have := (List.getElem?_eq_some_iff.1 hp).1
                rw [ha.1] at this; exact this
              exact h4 i k k' m m' (by omega) (by simpa using hp) (by simpa using hq))
        · cases h3
      · cases h2
    · cases h1
  · rename_i fs ht
    simp only [Bool.and_eq_true] at hf
    obtain ⟨⟨h1, h2⟩, h3⟩ := hf
    split at h3
    · rename_i inf2 hi2
      have hn : P.cellsOf t = fs.size := by simp [Program.cellsOf, hi2]; simpa using h3
      have hfs : P.fieldsOf t = fs := by simp [Program.fieldsOf, ht]
      show (Op.equalIn (9999 + 1) t (.agg ua) (.agg ub)).run P w = .ok r w
      rw [run_equalIn_struct w 9999 t ua ub (by rw [hfs]; exact ht) (by simpa using h1), hfs]
      refine eqFields_ok 9998 fs.toList 0 (fun j f hj => ?_) (fun i _ hi => s1' i (by simp at hi; omega)) ?_
      · have := List.all_eq_true.1 h2 (f, j) (List.mk_mem_zipIdx_iff_getElem?.2 hj)
        simp only [Bool.and_eq_true, bne_iff_ne, beq_iff_eq] at this
        obtain ⟨⟨g1, g2⟩, g3⟩ := this
        refine ⟨by simpa using g1, by omega, ?_⟩
        split at g3
        · rename_i kk hk; exact ⟨kk, hk⟩
        · cases g3
      · rw [s2]
        constructor
        · intro h4 i k k' m m' _ _ hp hq; exact h4 i k k' m m' (by simpa using hp) (by simpa using hq)
        · intro h4 i k k' m m' hp hq
          have : i < a.length := by
            have := (List.getElem?_eq_some_iff.1 hp).1
            rw [ha.1] at this; exact this
          exact h4 i k k' m m' (by omega) (by simp; omega) (by simpa using hp) (by simpa using hq)
    · cases h3
  · cases hf

theorem boolEq_ok {t : TypeId} {a b : Bool} (ht : P.underlying t = some .bool) : (Op.equal t (.bool a) (.bool b)).run P w = .ok (a == b) w :=
  run_equalIn_bool' w 9999 t a b ht

theorem bin_ok {op : BinOp} {t : TypeId} {x y v : AV} {ux uy : Value} (h : oBin P op t x y = some v) (hx : V w ok α x ux) (hy : V w ok α y uy) (xo yo : Operand) :
    ∃ u, (do eqGuard op t xo yo ux uy; binOp op t ux uy : Sem Value).run P w = .ok u w ∧ V w ok α v u := by
  unfold oBin at h
  split at h
  · rename_i k a k' b
    split at h
    · rename_i hk
      subst hk
      obtain ⟨u, hu, rfl⟩ := Option.map_eq_some_iff.1 h
      rw [hx.sc_eq, hy.sc_eq]
      obtain ⟨h1, h2⟩ := intBin_ok (P := P) (w := w) hu t
      exact ⟨u, by rw [Sem.run_bind, eqGuard_plain _ _ _ _ _ _ (by simp) (by simp), Result.andThen_ok, h1], V.sc h2⟩
    · cases h
  · rename_i a b
    split at h
    · rename_i ht
      cases h
      rw [hx.sc_eq, hy.sc_eq]
      refine ⟨.bool (a == b), ?_, V.sc rfl⟩
      rw [Sem.run_bind, eqGuard_plain _ _ _ _ _ _ (by simp) (by simp), Result.andThen_ok]
      show (do pure (Value.bool (← Op.equal t (.bool a) (.bool b))) : Sem Value).run P w = _
      rw [Sem.run_bind, boolEq_ok ht]
      rfl
    · rename_i ht
      cases h
      rw [hx.sc_eq, hy.sc_eq]
      refine ⟨.bool (!(a == b)), ?_, V.sc rfl⟩
      rw [Sem.run_bind, eqGuard_plain _ _ _ _ _ _ (by simp) (by simp), Result.andThen_ok]
      show (do pure (Value.bool (!(← Op.equal t (.bool a) (.bool b)))) : Sem Value).run P w = _
      rw [Sem.run_bind, boolEq_ok ht]
      rfl
    · cases h
  · rename_i a b
    split at h
    · cases h
      rw [hx.sc_eq, hy.sc_eq]
      exact ⟨_, by rw [Sem.run_bind, eqGuard_plain _ _ _ _ _ _ (by simp) (by simp), Result.andThen_ok]; rfl, V.sc rfl⟩
    · cases h
      rw [hx.sc_eq, hy.sc_eq]
      exact ⟨_, by rw [Sem.run_bind, eqGuard_plain _ _ _ _ _ _ (by simp) (by simp), Result.andThen_ok]; rfl, V.sc rfl⟩
    · cases h
  · rename_i a b
    split at h
    · rename_i hc
      simp only [Bool.and_eq_true, decide_eq_true_eq] at hc
      obtain ⟨ua, rfl, ha⟩ := hx
      obtain ⟨ub, rfl, hb⟩ := hy
      split at h
      · obtain ⟨r, hr, rfl⟩ := Option.map_eq_some_iff.1 h
        obtain ⟨h1, h2⟩ := aggEq_ok hc.1 hc.2 hr ha hb
        refine ⟨.bool r, ?_, V.sc rfl⟩
        rw [Sem.run_bind, eqGuard_agg _ _ _ _ _ _ h2, Result.andThen_ok]
        show (do pure (Value.bool (← Op.equal t (.agg ua) (.agg ub))) : Sem Value).run P w = _
        rw [Sem.run_bind, h1]
        rfl
      · obtain ⟨r, hr, rfl⟩ := Option.map_eq_some_iff.1 h
        obtain ⟨h1, h2⟩ := aggEq_ok hc.1 hc.2 hr ha hb
        refine ⟨.bool (!r), ?_, V.sc rfl⟩
        rw [Sem.run_bind, eqGuard_agg _ _ _ _ _ _ h2, Result.andThen_ok]
        show (do pure (Value.bool (!(← Op.equal t (.agg ua) (.agg ub)))) : Sem Value).run P w = _
        rw [Sem.run_bind, h1]
        rfl
      · cases h
    · cases h
  · cases h

end
end Go.Proofs.Ytihljollfbogeaa
