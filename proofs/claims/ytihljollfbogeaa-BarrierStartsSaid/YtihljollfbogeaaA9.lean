/- The abstract operations on copies, parts of slices, strings and structs are those of the machine. No condition. -/
import Derived.Test.YtihljollfbogeaaA8
namespace Go.Proofs.Ytihljollfbogeaa
open Go Go.RowKit

section
variable {P : Program} {w : World} {α : Al} {base : Nat} {h : Hp}

/-- The first elements of a slice. -/
theorem elems_take {x : AV} {ys : List AV} {A : Option Addr} {n c m : Nat} (ho : oElems h x = some ys) (hx : V w (okA w α) α x (.slice A n c)) (hm : m ≤ ys.length) :
    ∃ x' c', oElems h x' = some (ys.take m) ∧ V w (okA w α) α x' (.slice A m c') := by
  unfold oElems at ho
  split at ho
  · cases ho
    have : m = 0 := by simpa using hm
    subst this
    exact ⟨.nl, 0, by simp [oElems], V.of_V1 (.low _ _ (.nl A))⟩
  · cases ho
    have : m = 0 := by simpa using hm
    subst this
    exact ⟨.nl, 0, by simp [oElems], V.of_V1 (.low _ _ (.nl A))⟩
  · cases ho
    cases hx with
    | low _ _ h =>
      cases h with
      | imm _ A cap sz b o U hcap hh hc hv =>
        have hg : ∀ (j : Nat) (el : AV), (ys.take m)[j]? = some el → ys[j]? = some el := fun j el he => by
          rw [List.getElem?_take] at he; split at he; exact he; cases he
        have := V0.imm (w := w) (ok := okA w α) (ys.take m) A c sz b o U (by simp; omega) (fun j el he => hh j el (hg j el he)) (fun j el c a he ha => hc j el c a (hg j el he) ha) (fun j el c a he ha => hv j el c a (hg j el he) ha)
        rw [show (ys.take m).length = m by simp; omega] at this
        exact ⟨.imm (ys.take m), c, rfl, V.of_V1 (.low _ _ this)⟩
  · cases ho
    cases hx with
    | low _ _ h =>
      cases h with
      | full _ A sz b o U hh hc hv =>
        have hg : ∀ (j : Nat) (el : AV), (ys.take m)[j]? = some el → ys[j]? = some el := fun j el he => by
          rw [List.getElem?_take] at he; split at he; exact he; cases he
        have := V0.imm (w := w) (ok := okA w α) (ys.take m) A ys.length sz b o U (by simp; omega) (fun j el he => hh j el (hg j el he)) (fun j el c a he ha => hc j el c a (hg j el he) ha) (fun j el c a he ha => hv j el c a (hg j el he) ha)
        rw [show (ys.take m).length = m by simp; omega] at this
        exact ⟨.imm (ys.take m), ys.length, rfl, V.of_V1 (.low _ _ this)⟩
  · rename_i n0 ver i len
    obtain ⟨⟨sz, els⟩, h1, h2⟩ := Option.bind_eq_some_iff.1 ho
    split at h2
    · rename_i hle
      cases h2
      have hm' : m ≤ len := by simp at hm; omega
      cases hx with
      | low _ _ h => cases h
      | ref _ _ _ _ A cap ae hl ha hv hh =>
        refine ⟨.ref n0 ver i m, c, ?_, V.of_V1 (.ref _ _ _ _ _ _ ae (by omega) ha hv fun e => ?_)⟩
        · simp only [oElems, h1, Option.bind_some]
          rw [if_pos (show i + m ≤ els.length by have : i + _ ≤ els.length := hle; omega), List.take_take, Nat.min_eq_left hm']
        · obtain ⟨g1, g2, g3⟩ := hh e
          exact ⟨by omega, g2, g3⟩
    · cases h2
  · cases ho

/-- Elements written over the first elements of a slice of ours. -/
theorem over_ok (r : Rel base h w α) {n ver i len sz : Nat} {els ys : List AV} {us : Value} {news : List Value} (h1 : rowAt? h n ver = some (sz, els)) (hs : V w (okA w α) α (.ref n ver i len) us) (hile : i + len ≤ els.length)
    (hold : Hold w (okA w α) α sz ys news) (hst : ∀ y ∈ ys, y.storable = true) (hle : ys.length ≤ len) :
    ∃ A0 cap w', us = .slice A0 len cap ∧ (∀ a, A0 = some a → (storeCells a news).run P w = .ok () w') ∧ (A0 = none → w' = w) ∧
      ∃ α', Rel base (hset h n (ver, .row sz (els.take i ++ ys ++ els.drop (i + ys.length)))) w' α' ∧ Ext w α w' α' := by
  by_cases h0 : ys.length = 0
  · have hys : ys = [] := List.eq_nil_of_length_eq_zero h0
    subst hys
    have hnews : news = [] := List.eq_nil_of_length_eq_zero (by simpa using hold.1)
    subst hnews
    cases hs with
    | low _ _ h => cases h
    | ref _ _ _ _ A0 cap ae hl ha hver hh =>
      refine ⟨A0, cap, w, rfl, fun a _ => by simp [storeCells], fun _ => rfl, ?_⟩
      have : els.take i ++ [] ++ els.drop (i + 0) = els := by simp
      rw [show ([] : List AV).length = 0 from rfl, this, hset_self (rowAt_spec h1)]
      exact ⟨α, r, Ext.refl _ _⟩
  · cases hs with
    | low _ _ h => cases h
    | ref _ _ _ _ A0 cap ae hl ha hver hh =>
      obtain ⟨e1, e2, e3, e4, e5⟩ := r.row h1 ha
      obtain ⟨g1, g2, g3⟩ := hh e1.symm
      cases hblk : ae.blk with
      | none => rw [hblk] at g3; omega
      | some q =>
        obtain ⟨b, off, room⟩ := q
        rw [hblk] at g3
        have O := e5 b off room hblk
        obtain ⟨cs, ct, hcs, hroom⟩ := O.cells
        have hA := g3.2 (by omega)
        rw [e2] at hA
        have hb1 : (i + ys.length) * sz ≤ room * sz := Nat.mul_le_mul_right _ (by omega)
        rw [Nat.add_mul] at hb1
        have hbound : off + i * sz + news.length ≤ cs.size := by rw [hold.1]; omega
        have hst' := run_storeCells_at P b (off + i * sz) ct news 0 cs w hcs (by omega) hold.2.1
        simp only [Nat.add_zero] at hst'
        obtain ⟨f1, f2⟩ := fit_splice (p := i) O hcs hold hst hbound
        refine ⟨A0, cap, w.setRow b (cs.toList.take (off + i * sz) ++ news ++ cs.toList.drop (off + i * sz + news.length)).toArray, rfl, fun a ha => ?_, (fun hn => by rw [hA] at hn; cases hn), ?_⟩
        · rw [hA] at ha
          cases ha
          exact hst'
        · have hlen' : (els.take i ++ ys ++ els.drop (i + ys.length)).length = els.length := by simp; omega
          have key := r.write (cs' := (cs.toList.take (off + i * sz) ++ news ++ cs.toList.drop (off + i * sz + news.length)).toArray) (sz := sz) (off' := off) (room' := room)
            (els := els.take i ++ ys ++ els.drop (i + ys.length)) ha hblk hcs (splice_size _ _ _ hbound) (ae' := ae) (.inr ha) e2 (by rw [hlen']; exact e3) hblk (by rw [hlen']; exact O.le) hroom (by
              intro e el hel
              rw [List.append_assoc] at hel
              by_cases q1 : e < i
              · rw [List.getElem?_append_left (by simp; omega), List.getElem?_take, if_pos q1] at hel
                exact f1 e el (.inl q1) hel
              · rw [List.getElem?_append_right (by simp; omega)] at hel
                have q2 : (els.take i).length = i := by simp; omega
                rw [q2] at hel
                by_cases q3 : e - i < ys.length
                · rw [List.getElem?_append_left q3] at hel
                  have := f2 _ el hel
                  rw [show i + (e - i) = e by omega] at this
                  exact this
                · rw [List.getElem?_append_right (by omega), List.getElem?_drop, show i + ys.length + (e - i - ys.length) = e by omega] at hel
                  exact f1 e el (.inr (by omega)) hel)
          rw [upd_self ha, e1] at key
          exact ⟨α, key⟩

theorem copy_ok (r : Rel base h w α) {t tx ty e : TypeId} {k : Nat} {d x v : AV} {xs : List AV} {h' : Hp} {ud ux : Value} (ht : P.underlying t = some (.slice e)) (he : rowT P e = true) (hk : k = P.cellsOf e)
    (hel : oElems h x = some xs) (ho : oCopy h k d xs = some (v, h')) (hd : V w (okA w α) α d ud) (hx : V w (okA w α) α x ux) :
    ∃ r w', (Builtin.copy_ #[t, tx] ty #[ud, ux]).run P w = .ok r w' ∧ Done base w α v h' r w' := by
  obtain ⟨inf, z, hi, hz, hbytes, hpos, hzs, hke⟩ := rowT_spec he
  have hsize : inf.size = k := by omega
  unfold oCopy at ho
  split at ho
  case isFalse => cases ho
  rename_i hall
  have hst : ∀ y ∈ xs, y.storable = true := fun y hy => by have := List.all_eq_true.1 hall y hy; simp at this; exact this.1
  have hky : ∀ y ∈ xs, y.cells.length = k := fun y hy => by have := List.all_eq_true.1 hall y hy; simp at this; exact this.2
  split at ho
  · rename_i m ver i len
    obtain ⟨⟨sz, els⟩, h1, h2⟩ := Option.bind_eq_some_iff.1 ho
    split at h2
    case isFalse => cases h2
    rename_i hc0
    obtain ⟨hszk, hile⟩ := hc0
    simp only at hszk hile h2
    subst hszk
    cases h2
    obtain ⟨A, n, c, rfl, rfl, us0, hold0, hread0⟩ := elems_ok (P := P) r hel hx hky
    obtain ⟨x', c', hel', hx'⟩ := elems_take (m := min xs.length len) hel hx (by omega)
    obtain ⟨A1, n1, c1, hA1, hn1, news, hold, hread⟩ := elems_ok (P := P) r hel' hx' (fun y hy => hky y (List.mem_of_mem_take hy))
    cases hA1
    have hr0 := hread w (fun _ _ => rfl)
    have hr1 : (Builtin.firstCells sz (min xs.length len) (.slice A xs.length c)).run P w = .ok news.toArray w := by
      rw [← hr0]; cases A <;> rfl
    obtain ⟨A0, cap, w', rfl, hrun, hnone, α', r', e'⟩ := over_ok (P := P) r h1 hd hile hold (fun y hy => hst y (List.mem_of_mem_take hy)) (by simp; omega)
    have e1 : xs.take (min xs.length len) = xs.take len := by
      rcases Nat.le_total xs.length len with hl | hl
      · rw [Nat.min_eq_left hl, List.take_of_length_le (Nat.le_refl _), List.take_of_length_le hl]
      · rw [Nat.min_eq_right hl]
    rw [e1, show (xs.take len).length = min xs.length len by simp [Nat.min_comm]] at r'
    refine ⟨.int .i64 (min xs.length len : Nat), w', ?_, α', r', e', V.sc rfl⟩
    cases A0 with
    | none =>
      rw [hnone rfl]
      simp [Builtin.copy_, run_underlying ht, Builtin.lenOf, sizeOf, typeInfo, hi, hsize, hr1, goInt]
    | some a =>
      simp [Builtin.copy_, run_underlying ht, Builtin.lenOf, sizeOf, typeInfo, hi, hsize, hr1, goInt, hrun a rfl]
  · cases ho

theorem clear_ok (r : Rel base h w α) {t ty e : TypeId} {k : Nat} {d : AV} {h' : Hp} {ud z : Value} (ht : P.underlying t = some (.slice e)) (he : rowT P e = true) (hk : k = P.cellsOf e) (hz : (P.info? e).bind (·.zero) = some z)
    (ho : oClear h k (ofVal z) d = some h') (hd : V w (okA w α) α d ud) :
    ∃ w', (Builtin.clear_ #[t] ty #[ud]).run P w = .ok (.tuple #[]) w' ∧ ∃ α', Rel base h' w' α' ∧ Ext w α w' α' := by
  obtain ⟨inf, z', hi, hz', hbytes, hpos, hzs, hke⟩ := rowT_spec he
  have hzz : z' = z := by rw [hi] at hz; simp [hz'] at hz; exact hz
  subst hzz
  have hsize : inf.size = k := by omega
  unfold oClear at ho
  split at ho
  case isFalse => cases ho
  rename_i hc
  obtain ⟨hs, hkz⟩ := hc
  split at ho
  · cases ho
    cases hd with
    | low _ _ hd =>
      cases hd with
      | nl A => exact ⟨w, by cases A <;> simp [Builtin.clear_, run_underlying ht], α, r, Ext.refl _ _⟩
  · rename_i m ver i len
    obtain ⟨⟨sz, els⟩, h1, h2⟩ := Option.bind_eq_some_iff.1 ho
    split at h2
    case isFalse => cases h2
    rename_i hc0
    obtain ⟨hszk, hile⟩ := hc0
    simp only at hszk hile h2
    subst hszk
    cases h2
    have hh := hold_zeros (w := w) (ok := okA w α) (α := α) (m := len) hkz hs (by omega)
    obtain ⟨A0, cap, w', rfl, hrun, hnone, α', r', e'⟩ := over_ok (P := P) r h1 hd hile hh (fun y hy => by rw [List.eq_of_mem_replicate hy]; exact hs) (by simp)
    simp only [List.length_replicate] at r'
    refine ⟨w', ?_, α', r', e'⟩
    cases A0 with
    | none =>
      rw [hnone rfl]
      simp [Builtin.clear_, run_underlying ht]
    | some a =>
      have hrun' := hrun a rfl
      rw [← zeroCells_made z'.cells len sz (by omega)] at hrun'
      by_cases h0 : len = 0
      · subst h0
        simp [Builtin.zeroCells, storeCells] at hrun'
        simp [Builtin.clear_, run_underlying ht, hrun']
      · simp [Builtin.clear_, run_underlying ht, h0, zeroValue, typeInfo, hi, hz', hrun']
  · cases ho

end
end Go.Proofs.Ytihljollfbogeaa
