/- The abstract operations on maps are those of the machine. No condition. -/
import Derived.Test.YtihljollfbogeaaA11
namespace Go.Proofs.Ytihljollfbogeaa
open Go Go.RowKit

section
variable {P : Program} {w : World} {α : Al} {base : Nat} {h : Hp}

/-- A block under a name is another one now. -/
theorem Rel.turnG (r : Rel base h w α) {w' : World} {n b off room : Nat} {bl : Blk} {ae' : AE}
    (hv : (h n).1 < ae'.ver ∨ α n = some ae') (hblk : ae'.blk = some (b, off, room)) (hin : b < w'.heap.size)
    (hat : (∀ k, okA w α k → okA w' (upd α n ae') k ∧ w'.heap[k]? = w.heap[k]?) → Later α (upd α n ae') → At w' (okA w' (upd α n ae')) (upd α n ae') ae' bl)
    (hbase : base ≤ b) (hfresh : ∀ m ae b' o r', α m = some ae → ae.blk = some (b', o, r') → b' = b → m = n)
    (hos : w'.os = w.os) (htape : w'.tape = w.tape) (hout : w'.output = w.output) (hgrow : w.heap.size ≤ w'.heap.size) (hnew : free w α b → False)
    (hkeep : ∀ k, k < w.heap.size → k ≠ b → w'.heap[k]? = w.heap[k]?) :
    Rel base (hset h n (ae'.ver, bl)) w' (upd α n ae') ∧ Ext w α w' (upd α n ae') := by
  have hl := later_upd r hv
  have hbF : ∀ k, free w α k → free w' (upd α n ae') k ∧ w'.heap[k]? = w.heap[k]? := fun k hk => by
    have hkb : k ≠ b := fun e => hnew (e ▸ hk)
    refine ⟨⟨Nat.lt_of_lt_of_le hk.1 hgrow, fun m ae o r' ha => ?_⟩, hkeep k hk.1 hkb⟩
    by_cases e : m = n
    · subst e
      rw [upd_same] at ha
      cases ha
      rw [hblk]
      simp
      exact fun e => absurd e.symm hkb
    · rw [upd_ne _ _ e] at ha
      exact hk.2 m ae o r' ha
  have hb := okA_of_free hbF rfl
  refine ⟨⟨fun m ae ha => ?_, fun m ae ha => ?_, fun m m' ae ae1 b1 o1 r1 o2 r2 h1 h2 h3 h4 => ?_, fun m ae b1 o1 r1 h1 h2 => ?_, r.grant⟩, hos, htape, hout, hgrow, hbF, hl, rfl⟩
  · by_cases e : m = n
    · subst e
      rw [upd_same] at ha
      cases ha
      simp [hset]
    · rw [upd_ne _ _ e] at ha
      simp [hset, e]
      exact r.ver m ae ha
  · by_cases e : m = n
    · subst e
      rw [upd_same] at ha
      cases ha
      simp only [hset, if_true]
      exact hat hb hl
    · rw [upd_ne _ _ e] at ha
      simp only [hset, if_neg e]
      refine (r.at_ m ae ha).mono (fun b' o r' hb' => ?_) hb hl
      exact hkeep b' (r.base m ae b' o r' ha hb').2 (fun e' => e (hfresh m ae b' o r' ha hb' e'))
  · by_cases e : m = n
    · by_cases e' : m' = n
      · rw [e, e']
      · subst e
        rw [upd_same] at h1
        cases h1
        rw [upd_ne _ _ e'] at h2
        rw [hblk] at h3
        cases h3
        exact absurd (hfresh m' ae1 b o2 r2 h2 h4 rfl) e'
    · rw [upd_ne _ _ e] at h1
      by_cases e' : m' = n
      · subst e'
        rw [upd_same] at h2
        cases h2
        rw [hblk] at h4
        cases h4
        exact absurd (hfresh m ae b o1 r1 h1 h3 rfl) e
      · rw [upd_ne _ _ e'] at h2
        exact r.inj m m' ae ae1 b1 o1 r1 o2 r2 h1 h2 h3 h4
  · by_cases e : m = n
    · subst e
      rw [upd_same] at h1
      cases h1
      rw [hblk] at h2
      cases h2
      exact ⟨hbase, hin⟩
    · rw [upd_ne _ _ e] at h1
      have := r.base m ae b1 o1 r1 h1 h2
      exact ⟨this.1, Nat.lt_of_lt_of_le this.2 hgrow⟩

theorem mapNew_ok (r : Rel base h w α) (hb : base ≤ w.heap.size) (t : TypeId) (n : Nat) :
    ∃ x w', (Instr.makeMap t none).run P w = .ok x w' ∧ Done base w α (oMapNew h n).1 (oMapNew h n).2 x w' := by
  refine ⟨.map (some w.heap.size), w.alloc (.map #[] 0), by simp [Instr.makeMap], ?_⟩
  have key := r.turnG (w' := w.alloc (.map #[] 0)) (n := n) (bl := .map []) (ae' := ⟨(h n).1 + 1, 0, 0, some (w.heap.size, 0, 0)⟩) (.inl (Nat.lt_succ_self _)) rfl (by simp)
    (fun _ _ => ⟨w.heap.size, 0, 0, #[], 0, rfl, heap_alloc_new w _, rfl, fun i e he => by simp at he⟩) hb
    (fun m ae b' o r' ha hb e => absurd (r.base m ae b' o r' ha hb).2 (by omega)) rfl rfl rfl (by simp) (fun h => absurd h.1 (by omega)) (fun k hk _ => heap_alloc_old w _ k hk)
  exact ⟨_, key.1, key.2, V.of_V1 (.mp _ _ _ _ (upd_same _ _ _) (Nat.le_refl _) fun _ => ⟨_, _, rfl⟩)⟩

theorem find_none (k : IntKind) (i : Int) : ∀ (ms : List MapEntry) (es : List (Int × AV)) (c : Nat), ms.length = es.length → (∀ (j : Nat) (e : Int × AV), es[j]? = some e → ∃ m, ms[j]? = some m ∧ m.key = .int .i64 e.1) →
    (es.all fun e => e.1 != i) = true → Instr.findNow (.int k) (.int .i64 i) ms c = some none
  | [], _, _, _, _, _ => rfl
  | m :: ms, [], _, hl, _, _ => by simp at hl
  | m :: ms, e :: es, c, hl, hk, ha => by
    obtain ⟨m', h1, h2⟩ := hk 0 e rfl
    cases h1
    simp at ha
    have := find_none k i ms es (c + 1) (by simpa using hl) (fun j e he => hk (j + 1) e (by simpa using he)) (by simpa using ha.2)
    simp [Instr.findNow, Instr.sameNow, h2]
    rw [show (i == e.1) = false by simp; exact fun h => ha.1 h.symm]
    exact this
theorem find_get (k : IntKind) (i : Int) (zero : AV) : ∀ (ms : List MapEntry) (es : List (Int × AV)) (c : Nat), ms.length = es.length → (∀ (j : Nat) (e : Int × AV), es[j]? = some e → ∃ m, ms[j]? = some m ∧ m.key = .int .i64 e.1 ∧ V1 w (okA w α) α e.2 m.val) →
    (findA i zero es = (zero, false) ∧ Instr.findNow (.int k) (.int .i64 i) ms c = some none) ∨ ∃ a j u, findA i zero es = (a, true) ∧ Instr.findNow (.int k) (.int .i64 i) ms c = some (some (j, u)) ∧ V1 w (okA w α) α a u
  | [], [], _, _, _ => .inl ⟨rfl, rfl⟩
  | [], e :: es, _, hl, _ => by simp at hl
  | m :: ms, [], _, hl, _ => by simp at hl
  | m :: ms, e :: es, c, hl, hk => by
    obtain ⟨m', h1, h2, h3⟩ := hk 0 e rfl
    cases h1
    by_cases hi : i = e.1
    · refine .inr ⟨e.2, c, m.val, ?_, ?_, h3⟩
      · simp [findA, hi]
      · simp [Instr.findNow, Instr.sameNow, h2, hi]
    · have hne : (i == e.1) = false := by simpa using hi
      have := find_get k i zero ms es (c + 1) (by simpa using hl) (fun j e he => hk (j + 1) e (by simpa using he))
      simp only [findA, hne, Instr.findNow, Instr.sameNow, h2]
      simpa [hne, hi] using this

theorem mapPut_ok (r : Rel base h w α) {t kt et : TypeId} {kk : IntKind} {m key v : AV} {h' : Hp} {um uk uv : Value} (ht : P.underlying t = some (.map kt et)) (hk : P.underlying kt = some (.int kk))
    (ho : oMapPut h m key v = some h') (hm : V w (okA w α) α m um) (hkey : V w (okA w α) α key uk) (hv : V w (okA w α) α v uv) :
    ∃ w', (Instr.mapUpdate t um uk uv).run P w = .ok () w' ∧ ∃ α', Rel base h' w' α' ∧ Ext w α w' α' := by
  unfold oMapPut at ho
  split at ho
  · rename_i n ver i
    split at ho
    · rename_i v0 es he
      split at ho
      case isFalse => cases ho
      rename_i hc
      obtain ⟨rfl, h1, h2⟩ := hc
      cases ho
      have := hkey.sc_eq
      subst this
      cases hm with
      | low _ _ h => cases h
      | mp _ _ b ae ha hver hh =>
        have e1 := r.ver n ae ha
        rw [he] at e1
        simp only at e1
        obtain ⟨off, room, hblk⟩ := hh e1
        have hat := r.at_ n ae ha
        rw [he] at hat
        obtain ⟨b', o', r', ms, clock, g1, g2, g3, g4⟩ := hat
        rw [hblk] at g1
        cases g1
        have hck : (Instr.checkKey false 10000 kt (.int .i64 i)).run P w = .ok () w := by
          unfold Instr.checkKey
          simp [run_underlying hk]
        have hfn : (Instr.findKey kt (.int .i64 i) ms.toList).run P w = .ok none w :=
          MapKept.run_findKey hk (find_none kk i ms.toList es 0 (by simpa using g3) (fun j e hj => let ⟨_, m, x, y, _⟩ := g4 j e hj; ⟨m, by simpa using x, y⟩) h2)
        refine ⟨{ w with heap := w.heap.setIfInBounds b (.map (ms.push { key := .int .i64 i, val := uv, born := clock }) (clock + 1)) }, ?_, ?_⟩
        · simp [Instr.mapUpdate, run_underlying ht, MapKept.run_getObj_map g2, hck, hfn, MapKept.run_setObj_map _ g2]
        · have hset := MapKept.heap_set (o' := .map (ms.push { key := .int .i64 i, val := uv, born := clock }) (clock + 1)) g2
          have hblt := (Array.getElem?_eq_some_iff.1 g2).1
          have key := r.turnG (w' := { w with heap := w.heap.setIfInBounds b (.map (ms.push { key := .int .i64 i, val := uv, born := clock }) (clock + 1)) }) (n := n) (bl := .map (es ++ [(i, v)])) (ae' := ae) (.inr ha) hblk (by simpa using hblt)
            (fun hb hl => ⟨b, off, room, _, _, hblk, hset.1, by simp [g3], fun j e hj => by
              rw [List.getElem?_append] at hj
              split at hj
              · obtain ⟨x1, m, x2, x3, x4⟩ := g4 j e hj
                refine ⟨x1, m, ?_, x3, x4.mono hb hl⟩
                rw [Array.getElem?_push, if_neg (by rename_i hlt; omega)]
                exact x2
              · rename_i hlt
                have hj0 : j - es.length = 0 := by have := (List.getElem?_eq_some_iff.1 hj).1; simp at this; omega
                rw [hj0] at hj
                simp at hj
                subst hj
                have hv1 : V1 w (okA w α) α v uv := by
                  cases v <;> first | exact hv | (simp [AV.one] at h1)
                exact ⟨h1, { key := .int .i64 i, val := uv, born := clock }, by rw [Array.getElem?_push, if_pos (by omega)], rfl, hv1.mono hb hl⟩⟩)
            (r.base n ae b off room ha hblk).1 (fun m ae1 b' o r' hm hb e => by subst e; exact r.inj m n ae1 ae b' o r' off room hm ha hb hblk) rfl rfl rfl (by simp) (fun hk => hk.2 n ae off room ha hblk) (fun k _ hk => hset.2 k hk)
          rw [← e1] at key
          exact ⟨_, key⟩
    · cases ho
  · cases ho

theorem mapGet_ok (r : Rel base h w α) {t kt et : TypeId} {kk : IntKind} {m key v : AV} {um uk z : Value} (ht : P.underlying t = some (.map kt et)) (hk : P.underlying kt = some (.int kk)) (hz : zeroOf P et = some z) (hz1 : (ofVal z).one = true)
    (ho : oMapGet h (ofVal z) m key = some v) (hm : V w (okA w α) α m um) (hkey : V w (okA w α) α key uk) :
    ∃ x, (Instr.lookup t um uk true).run P w = .ok x w ∧ V w (okA w α) α v x := by
  unfold oMapGet at ho
  split at ho
  · rename_i n ver i
    split at ho
    · rename_i v0 es he
      split at ho
      case isFalse => cases ho
      rename_i hv0
      subst hv0
      cases ho
      have := hkey.sc_eq
      subst this
      cases hm with
      | low _ _ h => cases h
      | mp _ _ b ae ha hver hh =>
        have e1 := r.ver n ae ha
        rw [he] at e1
        simp only at e1
        obtain ⟨off, room, hblk⟩ := hh e1
        have hat := r.at_ n ae ha
        rw [he] at hat
        obtain ⟨b', o', r', ms, clock, g1, g2, g3, g4⟩ := hat
        rw [hblk] at g1
        cases g1
        have hck : (Instr.checkKey ms.isEmpty 10000 kt (.int .i64 i)).run P w = .ok () w := by
          unfold Instr.checkKey
          simp [run_underlying hk]
        have hzr : (zeroValue et).run P w = .ok z w := by
          unfold zeroOf at hz
          cases hi : P.info? et with
          | none => rw [hi] at hz; cases hz
          | some inf => rw [hi] at hz; simp at hz; simp [zeroValue, typeInfo, hi, hz]
        have hzv : V1 w (okA w α) α (ofVal z) z := by
          have := ofVal_ok (w := w) (ok := okA w α) (α := α) z
          cases hq : ofVal z <;> rw [hq] at this hz1 <;> first | exact this | (simp [AV.one] at hz1)
        have hg := find_get (w := w) (α := α) kk i (ofVal z) ms.toList es 0 (by simpa using g3) (fun j e hj => let ⟨_, m, x, y, q⟩ := g4 j e hj; ⟨m, by simpa using x, y, q⟩)
        rcases hg with ⟨q1, q2⟩ | ⟨a, j, u, q1, q2, q3⟩
        · refine ⟨.tuple #[z, .bool false], by simp [Instr.lookup, run_underlying ht, MapKept.run_getObj_map g2, hck, MapKept.run_findKey hk q2, hzr], ?_⟩
          rw [q1]
          refine ⟨[z, .bool false], rfl, rfl, fun i a x ha hx => ?_⟩
          match i, ha, hx with
          | 0, ha, hx => simp at ha hx; subst ha; subst hx; exact VA.of_V1 hzv
          | 1, ha, hx => simp at ha hx; subst ha; subst hx; exact VA.of_V1 (.low _ _ (.sc _ rfl))
        · refine ⟨.tuple #[u, .bool true], by simp [Instr.lookup, run_underlying ht, MapKept.run_getObj_map g2, hck, MapKept.run_findKey hk q2], ?_⟩
          rw [q1]
          refine ⟨[u, .bool true], rfl, rfl, fun i a x ha hx => ?_⟩
          match i, ha, hx with
          | 0, ha, hx => simp at ha hx; subst ha; subst hx; exact VA.of_V1 q3
          | 1, ha, hx => simp at ha hx; subst ha; subst hx; exact VA.of_V1 (.low _ _ (.sc _ rfl))
    · cases ho
  · cases ho

end
end Go.Proofs.Ytihljollfbogeaa
