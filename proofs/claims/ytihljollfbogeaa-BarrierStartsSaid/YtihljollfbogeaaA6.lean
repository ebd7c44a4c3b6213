/- The abstract operations on slices are those of the machine: make, literals, parts, append, copy, clear. No condition. -/
import Derived.Test.YtihljollfbogeaaA5
import Derived.Laws.OwnMore
namespace Go.Proofs.Ytihljollfbogeaa
open Go Go.RowKit

section
variable {P : Program} {w : World} {α : Al} {base : Nat} {h : Hp}

/-! ### The cells of elements -/
/-- Cells us hold elements ys of k cells. -/
def Hold (w : World) (ok : Nat → Prop) (α : Al) (k : Nat) (ys : List AV) (us : List Value) : Prop :=
  us.length = ys.length * k ∧ (∀ u ∈ us, u.oneCell' = true) ∧ ∀ (j : Nat) (el : AV), ys[j]? = some el → el.cells.length = k ∧ ∀ (c : Nat) (a : AV), el.cells[c]? = some a → ∃ x, us[j * k + c]? = some x ∧ V1 w ok α a x

theorem Hold.mono {w' : World} {ok ok' : Nat → Prop} {α' : Al} {k : Nat} {ys : List AV} {us : List Value} (hh : Hold w ok α k ys us) (hb : ∀ b, ok b → ok' b ∧ w'.heap[b]? = w.heap[b]?) (hl : Later α α') : Hold w' ok' α' k ys us :=
  ⟨hh.1, hh.2.1, fun j el he => ⟨(hh.2.2 j el he).1, fun c a ha => let ⟨x, hx, hv⟩ := (hh.2.2 j el he).2 c a ha; ⟨x, hx, hv.mono hb hl⟩⟩⟩
theorem row_lt {j n c k : Nat} (hj : j < n) (hc : c < k) : j * k + c < n * k := by
  have : (j + 1) * k ≤ n * k := Nat.mul_le_mul_right _ hj
  rw [Nat.add_mul] at this
  omega
theorem row_divmod {i n k : Nat} (h : i < n * k) : i / k < n ∧ i % k < k ∧ i = i / k * k + i % k := by
  have hk : 0 < k := by
    rcases Nat.eq_zero_or_pos k with rfl | h0
    · simp at h
    · exact h0
  exact ⟨(Nat.div_lt_iff_lt_mul hk).2 h, Nat.mod_lt _ hk, by rw [Nat.mul_comm]; exact (Nat.div_add_mod i k).symm⟩

/-- The elements of a slice, read. -/
theorem elems_ok (r : Rel base h w α) {k : Nat} {x : AV} {ys : List AV} {u : Value} (ho : oElems h x = some ys) (hx : V w (okA w α) α x u) (hk : ∀ y ∈ ys, y.cells.length = k) :
    ∃ A n c, u = .slice A n c ∧ n = ys.length ∧ ∃ us, Hold w (okA w α) α k ys us ∧
      ∀ w' : World, (∀ b, b < w.heap.size → w'.heap[b]? = w.heap[b]?) → (Builtin.firstCells k n u).run P w' = .ok us.toArray w' := by
  have hcell : ∀ w' : World, (∀ b, b < w.heap.size → w'.heap[b]? = w.heap[b]?) → ∀ (b o : Nat) (x : Value), w.cell? ⟨b, o, none⟩ = some x → w'.cell? ⟨b, o, none⟩ = some x := fun w' hw b o x hx => by
    have := World.block_lt_of_cell? w _ hx
    unfold World.cell? at hx ⊢
    rw [hw b this]
    exact hx
  -- elements at an address
  have lies : ∀ (A : Option Addr) (cap b o : Nat) (U : Nat → Nat → Value), (∀ j, j < ys.length → A = some ⟨b, o, none⟩) →
      (∀ (j : Nat) (el : AV) (c : Nat) (a : AV), ys[j]? = some el → el.cells[c]? = some a → w.cell? ⟨b, o + (j * k + c), none⟩ = some (U j c) ∧ V1 w (okA w α) α a (U j c) ∧ (U j c).oneCell' = true) →
      ∃ us, Hold w (okA w α) α k ys us ∧ ∀ w' : World, (∀ b, b < w.heap.size → w'.heap[b]? = w.heap[b]?) → (Builtin.firstCells k ys.length (.slice A ys.length cap)).run P w' = .ok us.toArray w' := by
    intro A cap b o U hA hU
    have hl : ((List.range (ys.length * k)).map fun i => U (i / k) (i % k)).length = ys.length * k := by simp
    have hget : ∀ i, i < ys.length * k → ((List.range (ys.length * k)).map fun i => U (i / k) (i % k))[i]? = some (U (i / k) (i % k)) := fun i hi => by simp [hi]
    have hbyk : ∀ i, i < ys.length * k → w.cell? ⟨b, o + i, none⟩ = some (U (i / k) (i % k)) ∧ (U (i / k) (i % k)).oneCell' = true := fun i hi => by
      obtain ⟨h1, h2, h3⟩ := row_divmod hi
      have h4 : ys[i / k].cells.length = k := hk _ (List.getElem_mem _)
      obtain ⟨h5, h6, h7⟩ := hU (i / k) ys[i / k] (i % k) (ys[i / k].cells[i % k]'(by omega)) (List.getElem?_eq_getElem h1) (List.getElem?_eq_getElem (by omega))
      rw [← h3] at h5
      exact ⟨h5, h7⟩
    refine ⟨(List.range (ys.length * k)).map fun i => U (i / k) (i % k), ⟨hl, fun u hu => ?_, fun j el he => ⟨hk _ (List.mem_of_getElem? he), fun c a ha => ?_⟩⟩, fun w' hw => ?_⟩
    · obtain ⟨i, hi, rfl⟩ := List.mem_map.1 hu
      exact (hbyk i (by simpa using hi)).2
    · have hj : j < ys.length := (List.getElem?_eq_some_iff.1 he).1
      have hc : c < k := by rw [← hk _ (List.mem_of_getElem? he)]; exact (List.getElem?_eq_some_iff.1 ha).1
      have hlt := row_lt hj hc
      refine ⟨U j c, ?_, (hU j el c a he ha).2.1⟩
      rw [hget _ hlt]
      have h1 : (j * k + c) / k = j := by rw [Nat.mul_comm, Nat.mul_add_div (by omega), Nat.div_eq_of_lt hc]; omega
      have h2 : (j * k + c) % k = c := by rw [Nat.mul_comm, Nat.mul_add_mod, Nat.mod_eq_of_lt hc]
      rw [h1, h2]
    · rcases Nat.eq_zero_or_pos ys.length with h0 | h0
      · rw [h0]
        cases A with
        | none => simp [Builtin.firstCells]
        | some a => simp [Builtin.firstCells, loadCells, loadCellsFrom]
      · rw [hA 0 h0]
        refine run_firstCells_some (P := P) w' k ys.length ⟨b, o, none⟩ ys.length cap _ hl fun i v hv => ?_
        have hi : i < ys.length * k := by rw [← hl]; exact (List.getElem?_eq_some_iff.1 hv).1
        rw [hget i hi] at hv
        cases hv
        rw [add_at]
        exact hcell w' hw _ _ _ (hbyk i hi).1
  unfold oElems at ho
  split at ho
  · cases ho
    cases hx with
    | low _ _ h =>
      cases h with
      | nl A => exact ⟨A, 0, 0, rfl, rfl, lies A 0 0 0 (fun _ _ => undef) (fun j hj => by simp at hj) (fun j el c a he => by simp at he)⟩
  · cases ho
    have := V.sc_eq hx
    subst this
    rename_i A c
    exact ⟨A, 0, c, rfl, rfl, lies A c 0 0 (fun _ _ => undef) (fun j hj => by simp at hj) (fun j el c a he => by simp at he)⟩
  · cases ho
    cases hx with
    | low _ _ h =>
      cases h with
      | imm _ A cap sz b o U hcap hh hc hv =>
        have hsz : ∀ (j : Nat) (el : AV), ys[j]? = some el → sz = k := fun j el he => by rw [← (hh j el he).1]; exact hk _ (List.mem_of_getElem? he)
        exact ⟨A, _, cap, rfl, rfl, lies A cap b o U (fun j hj => (hh j ys[j] (List.getElem?_eq_getElem hj)).2.1) (fun j el c a he ha => by
          have := hsz j el he; subst this
          exact ⟨hc j el c a he ha, .low _ _ (hv j el c a he ha), (hv j el c a he ha).one⟩)⟩
  · cases ho
    cases hx with
    | low _ _ h =>
      cases h with
      | full _ A sz b o U hh hc hv =>
        have hsz : ∀ (j : Nat) (el : AV), ys[j]? = some el → sz = k := fun j el he => by rw [← (hh j el he).1]; exact hk _ (List.mem_of_getElem? he)
        exact ⟨A, _, _, rfl, rfl, lies A ys.length b o U (fun j hj => (hh j ys[j] (List.getElem?_eq_getElem hj)).2.1) (fun j el c a he ha => by
          have := hsz j el he; subst this
          exact ⟨hc j el c a he ha, .low _ _ (hv j el c a he ha), (hv j el c a he ha).one⟩)⟩
  · rename_i n ver i len
    obtain ⟨⟨sz, els⟩, h1, h2⟩ := Option.bind_eq_some_iff.1 ho
    split at h2
    · rename_i hle
      cases h2
      cases hx with
      | low _ _ h => cases h
      | ref _ _ _ _ A cap ae hl ha hv hh =>
        obtain ⟨e1, e2, e3, e4, e5⟩ := r.row h1 ha
        obtain ⟨g1, g2, g3⟩ := hh e1.symm
        have hlen : ((els.drop i).take len).length = len := by simp at hle ⊢; omega
        refine ⟨A, len, cap, rfl, hlen.symm, ?_⟩
        have hget : ∀ (j : Nat) (el : AV), ((els.drop i).take len)[j]? = some el → els[i + j]? = some el := fun j el he => by
          rw [List.getElem?_take] at he
          split at he
          · rw [List.getElem?_drop] at he; exact he
          · cases he
        cases hblk : ae.blk with
        | none =>
          rw [hblk] at g3
          have h0 : len = 0 := by omega
          have := lies A cap 0 0 (fun _ _ => undef) (fun j hj => by rw [hlen] at hj; omega) (fun j el c a he => by
            have := (List.getElem?_eq_some_iff.1 he).1; rw [hlen] at this; omega)
          rw [hlen] at this
          exact this
        | some z =>
          obtain ⟨b, off, room⟩ := z
          rw [hblk] at g3
          have O := e5 b off room hblk
          have := lies A cap b (off + i * ae.sz) (fun j c => (w.cell? ⟨b, off + i * ae.sz + (j * k + c), none⟩).getD undef) (fun j hj => g3.2 (by rw [hlen] at hj; omega)) (fun j el c a he ha => by
            have hek := hk _ (List.mem_of_getElem? he)
            have hes := O.len (i + j) el (hget j el he)
            obtain ⟨x, hx, hv, h1⟩ := O.lie (i + j) el (hget j el he) c a ha
            have : off + (i + j) * sz + c = off + i * ae.sz + (j * k + c) := by rw [e2, ← hek, hes, Nat.add_mul]; omega
            rw [this] at hx
            simp [hx]
            exact ⟨hv, h1⟩)
          rw [hlen] at this
          exact this
    · cases h2
  · cases ho

/-! ### append -/
theorem append_in_run {t ty e : TypeId} {inf : TypeInfo} {k : Nat} (ht : P.underlying t = some (.slice e)) (hi : P.info? e = some inf) (hk : inf.size = k) {base' : Option Addr} {sLen sCap n : Nat} {x : Value} {A : Option Addr} {c : Nat} (hxe : x = .slice A n c)
    {news : List Value} (hx : (Builtin.firstCells k n x).run P w = .ok news.toArray w) (hle : sLen + n ≤ sCap) {w' : World}
    (hst : ∀ a, base' = some a → (storeCells (a.add (sLen * k)) news).run P w = .ok () w') (hno : base' = none → w' = w) :
    (Builtin.append_ #[t, t] ty #[.slice base' sLen sCap, x]).run P w = .ok (.slice base' (sLen + n) sCap) w' := by
  subst hxe
  cases base' with
  | none =>
    rw [hno rfl]
    simp [Builtin.append_, run_underlying ht, sizeOf, typeInfo, hi, hk, Builtin.lenOf, hle, hx]
  | some a =>
    have := hst a rfl
    simp [Builtin.append_, run_underlying ht, sizeOf, typeInfo, hi, hk, Builtin.lenOf, hle, hx, this]

theorem append_grow_run {t ty e : TypeId} {inf : TypeInfo} {k : Nat} {z : Value} (ht : P.underlying t = some (.slice e)) (hi : P.info? e = some inf) (hk : inf.size = k) (hz : inf.zero = some z) {base' : Option Addr} {sLen sCap n : Nat} {x : Value} {A : Option Addr} {c : Nat} (hxe : x = .slice A n c)
    {news olds : List Value} (hx : (Builtin.firstCells k n x).run P w.drew = .ok news.toArray w.drew) (ho : (Builtin.firstCells k sLen (.slice base' sLen sCap)).run P w.drew = .ok olds.toArray w.drew)
    (hg : sCap < sLen + n) (h63 : ((sLen + n : Nat) : Int) ≤ 9223372036854775807) (hfit : Builtin.nextslicecap (sLen + n) sCap * inf.bytes ≤ 281474976710656) :
    (Builtin.append_ #[t, t] ty #[.slice base' sLen sCap, x]).run P w =
      .ok (.slice (some ⟨w.heap.size, 0, none⟩) (sLen + n) (grownCap w (sLen + n) sCap e))
        (w.drew.alloc (.cells (olds ++ news ++ (Builtin.zeroCells z.cells (grownCap w (sLen + n) sCap e - (sLen + n))).toList).toArray e)) := by
  subst hxe
  have hn : ¬ (sLen + n ≤ sCap) := by omega
  have h63' : ¬ (9223372036854775807 < ((sLen : Int) + (n : Int))) := by omega
  have h48' : ¬ (281474976710656 < Builtin.nextslicecap (sLen + n) sCap * inf.bytes) := by omega
  simp [Builtin.append_, run_underlying ht, sizeOf, typeInfo, zeroValue, hi, hk, hz, Builtin.lenOf, hn, h63', h48', Question.forced, hx, ho, newRow, grownCap]
  congr 2
  apply Array.ext'
  simp

/-- What a type that is appended must be. -/
def rowT (P : Program) (e : TypeId) : Bool :=
  match P.info? e with
  | some i => i.zero.isSome && decide (i.bytes ≤ 65536) && decide (0 < i.size) && (match i.zero with | some z => z.cells.size == i.size | none => false)
  | none => false
theorem rowT_spec {e : TypeId} (h : rowT P e = true) : ∃ inf z, P.info? e = some inf ∧ inf.zero = some z ∧ inf.bytes ≤ 65536 ∧ 0 < inf.size ∧ z.cells.size = inf.size ∧ P.cellsOf e = inf.size := by
  unfold rowT at h
  split at h
  · rename_i inf hi
    simp only [Bool.and_eq_true, decide_eq_true_eq, Option.isSome_iff_exists] at h
    obtain ⟨⟨⟨⟨z, hz⟩, h1⟩, h2⟩, h3⟩ := h
    rw [hz] at h3
    exact ⟨inf, z, hi, hz, h1, h2, by simpa using h3, by simp [Program.cellsOf, hi]⟩
  · cases h

theorem grows_fit {need old bytes : Nat} (h : old < need) (hn : need ≤ LIM) (hb : bytes ≤ 65536) : Builtin.nextslicecap need old * bytes ≤ 281474976710656 := by
  refine growslice_fits h ?_
  have : need * bytes ≤ LIM * 65536 := Nat.mul_le_mul hn hb
  simp only [LIM] at this
  omega

theorem Hold.fit {ok : Nat → Prop} {k : Nat} {ys : List AV} {us rest pre : List Value} {off : Nat} (hh : Hold w ok α k ys us) (hs : ∀ y ∈ ys, y.storable = true) (hp : pre.length = off) : Fit w ok α (pre ++ us ++ rest) off k ys := fun j el he => by
  refine ⟨(hh.2.2 j el he).1, fun c a ha => ⟨storable_one (hs el (List.mem_of_getElem? he)) ha, ?_⟩⟩
  obtain ⟨x, hx, hv⟩ := (hh.2.2 j el he).2 c a ha
  refine ⟨x, ?_, hv⟩
  have hlt := (List.getElem?_eq_some_iff.1 hx).1
  rw [List.append_assoc, List.getElem?_append_right (by omega), List.getElem?_append_left (by omega)]
  rw [show off + j * k + c - pre.length = j * k + c by omega]
  exact hx

theorem Hold.append {ok : Nat → Prop} {k : Nat} {xs ys : List AV} {us vs : List Value} (h1 : Hold w ok α k xs us) (h2 : Hold w ok α k ys vs) : Hold w ok α k (xs ++ ys) (us ++ vs) := by
  refine ⟨by simp [h1.1, h2.1, Nat.add_mul], fun u hu => ?_, fun j el he => ?_⟩
  · rcases List.mem_append.1 hu with hu | hu
    · exact h1.2.1 u hu
    · exact h2.2.1 u hu
  · by_cases hj : j < xs.length
    · rw [List.getElem?_append_left hj] at he
      refine ⟨(h1.2.2 j el he).1, fun c a ha => ?_⟩
      obtain ⟨x, hx, hv⟩ := (h1.2.2 j el he).2 c a ha
      exact ⟨x, by rw [List.getElem?_append_left (List.getElem?_eq_some_iff.1 hx).1]; exact hx, hv⟩
    · rw [List.getElem?_append_right (by omega)] at he
      refine ⟨(h2.2.2 _ el he).1, fun c a ha => ?_⟩
      obtain ⟨x, hx, hv⟩ := (h2.2.2 _ el he).2 c a ha
      refine ⟨x, ?_, hv⟩
      have : us.length + ((j - xs.length) * k + c) = j * k + c := by
        rw [h1.1, ← Nat.add_assoc, ← Nat.add_mul]
        congr 2
        omega
      rw [← this, List.getElem?_append_right (by omega), show us.length + ((j - xs.length) * k + c) - us.length = (j - xs.length) * k + c by omega]
      exact hx

/-- A new row under a name, behind a draw. -/
theorem grow_done (r : Rel base h w α) (hb : base ≤ w.heap.size) {n k : Nat} {els : List AV} {us rest : List Value} {e : TypeId} {cap : Nat} (hh : Hold w (okA w α) α k els us) (hs : ∀ y ∈ els, y.storable = true) (hc : els.length ≤ cap)
    (hr : rest.length = (cap - els.length) * k) :
    Done base w α (.ref n ((h n).1 + 1) 0 els.length) (hset h n ((h n).1 + 1, .row k els)) (.slice (some ⟨w.heap.size, 0, none⟩) els.length cap) (w.drew.alloc (.cells (us ++ rest).toArray e)) := by
  have hfit : Fit w.drew (okA w.drew α) α (us ++ rest) 0 k els := by
    have := (hh.fit (rest := rest) (pre := []) hs rfl)
    simp only [List.nil_append] at this
    intro e el he
    obtain ⟨h1, h2⟩ := this e el he
    exact ⟨h1, fun c a ha => let ⟨h3, x, hx, hv⟩ := h2 c a ha; ⟨h3, x, hx, hv.mono (fun b hb => ⟨hb, rfl⟩) (Later.refl α)⟩⟩
  have hsz : cap * k ≤ (us ++ rest).toArray.size := by
    simp [hh.1, hr]
    rw [← Nat.add_mul]
    exact Nat.le_of_eq (by congr 1; omega)
  obtain ⟨r', e'⟩ := r.drew.new n k cap (els := els) (cs := (us ++ rest).toArray) e hb hc hsz (by simpa using hfit)
  exact ⟨_, r', (Ext.drew w α).trans e', V.of_V1 (.ref _ _ _ _ _ _ _ hc (upd_same _ _ _) (Nat.le_refl _) fun _ => ⟨by simp, by simpa using hc, by simp⟩)⟩

theorem hset_self {n ver : Nat} {b : Blk} (he : h n = (ver, b)) : hset h n (ver, b) = h := by
  funext m
  unfold hset
  split
  · rename_i e; rw [e, he]
  · rfl

/-- Elements written over elements of a row of ours, from element p on. -/
theorem fit_splice {b off room sz p : Nat} {els ys : List AV} {cs : Array Value} {t : TypeId} {news : List Value} (O : Own w (okA w α) α b off room sz els) (hcs : w.heap[b]? = some (.cells cs t (0, 0)))
    (hh : Hold w (okA w α) α sz ys news) (hst : ∀ y ∈ ys, y.storable = true) (hle : off + p * sz + news.length ≤ cs.size) :
    (∀ (e : Nat) (el : AV), e < p ∨ p + ys.length ≤ e → els[e]? = some el → el.cells.length = sz ∧ ∀ (c : Nat) (a : AV), el.cells[c]? = some a → a.one = true ∧
      ∃ x, (cs.toList.take (off + p * sz) ++ news ++ cs.toList.drop (off + p * sz + news.length))[off + e * sz + c]? = some x ∧ V1 w (okA w α) α a x) ∧
    (∀ (j : Nat) (el : AV), ys[j]? = some el → el.cells.length = sz ∧ ∀ (c : Nat) (a : AV), el.cells[c]? = some a → a.one = true ∧
      ∃ x, (cs.toList.take (off + p * sz) ++ news ++ cs.toList.drop (off + p * sz + news.length))[off + (p + j) * sz + c]? = some x ∧ V1 w (okA w α) α a x) := by
  have hsl := splice_get cs.toList news (off + p * sz) (hle := by simpa using hle)
  have hn := hh.1
  refine ⟨fun e el he hel => ⟨O.len e el hel, fun c a ha => ⟨O.one e el hel c a ha, ?_⟩⟩, fun j el hel => ⟨(hh.2.2 j el hel).1, fun c a ha => ⟨storable_one (hst el (List.mem_of_getElem? hel)) ha, ?_⟩⟩⟩
  · have hc : c < sz := by rw [← O.len e el hel]; exact (List.getElem?_eq_some_iff.1 ha).1
    rw [hsl, if_neg ?_]
    · obtain ⟨x, hx, hv1, _⟩ := O.lie e el hel c a ha
      rw [cell_of_row w b _ cs t (0, 0) hcs] at hx
      exact ⟨x, by simpa using hx, hv1⟩
    · rcases he with he | he
      · have : (e + 1) * sz ≤ p * sz := Nat.mul_le_mul_right _ he
        rw [Nat.add_mul] at this
        omega
      · have : (p + ys.length) * sz ≤ e * sz := Nat.mul_le_mul_right _ he
        rw [Nat.add_mul] at this
        omega
  · have hc : c < sz := by rw [← (hh.2.2 j el hel).1]; exact (List.getElem?_eq_some_iff.1 ha).1
    obtain ⟨x, hx, hv⟩ := (hh.2.2 j el hel).2 c a ha
    have hlt := (List.getElem?_eq_some_iff.1 hx).1
    refine ⟨x, ?_, hv⟩
    have e1 : off + (p + j) * sz + c = off + p * sz + (j * sz + c) := by rw [Nat.add_mul]; omega
    rw [hsl, e1, if_pos (by omega), show off + p * sz + (j * sz + c) - (off + p * sz) = j * sz + c by omega]
    exact hx

theorem append_ok (r : Rel base h w α) (hb : base ≤ w.heap.size) {t ty e : TypeId} {n k : Nat} {s x v : AV} {ys : List AV} {h' : Hp} {us ux : Value}
    (ht : P.underlying t = some (.slice e)) (he : rowT P e = true) (hk : k = P.cellsOf e) (hel : oElems h x = some ys) (ho : oAppend h n k s ys = some (v, h')) (hs : V w (okA w α) α s us) (hx : V w (okA w α) α x ux) :
    ∃ r w', (Builtin.append_ #[t, t] ty #[us, ux]).run P w = .ok r w' ∧ Done base w α v h' r w' := by
  obtain ⟨inf, z, hi, hz, hbytes, hpos, hzs, hke⟩ := rowT_spec he
  have hsize : inf.size = k := by omega
  have hkpos : 0 < k := by omega
  unfold oAppend at ho
  split at ho
  case isFalse => cases ho
  rename_i hall
  have hst : ∀ y ∈ ys, y.storable = true := fun y hy => by have := List.all_eq_true.1 hall y hy; simp at this; exact this.1
  have hky : ∀ y ∈ ys, y.cells.length = k := fun y hy => by have := List.all_eq_true.1 hall y hy; simp at this; exact this.2
  obtain ⟨A, m, c, rfl, rfl, news, hold, hread⟩ := elems_ok (P := P) r hel hx hky
  have hr0 := hread w (fun _ _ => rfl)
  have hr1 := hread w.drew (fun _ _ => rfl)
  have zlen : ∀ j, (Builtin.zeroCells z.cells j).toList.length = j * k := fun j => by rw [Array.length_toList, size_zeroCells]; congr 1; omega
  -- grow, from some old elements
  have grow : ∀ (xs : List AV) (olds : List Value) (base' : Option Addr) (sCap nm : Nat), Hold w (okA w α) α k xs olds → (∀ y ∈ xs, y.storable = true) → xs.length + ys.length ≤ LIM → sCap < xs.length + ys.length →
      (Builtin.firstCells k xs.length (.slice base' xs.length sCap)).run P w.drew = .ok olds.toArray w.drew →
      ∃ r w', (Builtin.append_ #[t, t] ty #[.slice base' xs.length sCap, .slice A ys.length c]).run P w = .ok r w' ∧
        Done base w α (.ref nm ((h nm).1 + 1) 0 (xs.length + ys.length)) (hset h nm ((h nm).1 + 1, .row k (xs ++ ys))) r w' := by
    intro xs olds base' sCap nm ho1 hst1 hlim hg hrd
    have hgc := grownCap_ge w (xs.length + ys.length) sCap e
    refine ⟨_, _, append_grow_run ht hi hsize hz rfl hr1 hrd hg (by simp only [LIM] at hlim; omega) (grows_fit hg hlim hbytes), ?_⟩
    have := grow_done r hb (n := nm) (e := e) (cap := grownCap w (xs.length + ys.length) sCap e) (rest := (Builtin.zeroCells z.cells (grownCap w (xs.length + ys.length) sCap e - (xs.length + ys.length))).toList)
      (ho1.append hold) (fun y hy => by rcases List.mem_append.1 hy with hy | hy; exact hst1 y hy; exact hst y hy) (by simpa using hgc) (by rw [zlen]; simp)
    simpa using this
  split at ho
  · -- nil
    split at ho
    · rename_i hnone
      simp only [Bool.and_eq_true, List.isEmpty_iff] at hnone
      have hys := hnone.1
      subst hys
      cases ho
      have hs0 := hs
      have hnews : news = [] := List.eq_nil_of_length_eq_zero (by simpa using hold.1)
      subst hnews
      cases hs with
      | low _ _ hs =>
        cases hs with
        | nl A0 =>
          refine ⟨_, w, append_in_run (w' := w) ht hi hsize rfl hr0 (by simp) (fun a _ => by simp [storeCells]) (fun _ => rfl), Done.same r ?_⟩
          simpa using hs0
    split at ho
    · rename_i hlim
      cases ho
      cases hs with
      | low _ _ hs =>
        cases hs with
        | nl A0 =>
          by_cases h0 : ys.length = 0
          · have hys : ys = [] := List.eq_nil_of_length_eq_zero h0
            subst hys
            have hnews : news = [] := List.eq_nil_of_length_eq_zero (by simpa using hold.1)
            subst hnews
            refine ⟨_, w, append_in_run (w' := w) ht hi hsize rfl hr0 (by simp) (fun a _ => by simp [storeCells]) (fun _ => rfl), ?_⟩
            obtain ⟨r', e'⟩ := r.virt n k
            exact ⟨_, r', e', V.of_V1 (.ref _ _ _ _ _ _ _ (by simp) (upd_same _ _ _) (Nat.le_refl _) fun _ => ⟨by simp, by simp, by simp⟩)⟩
          · have := grow [] [] A0 0 n ⟨by simp, by simp, fun j el he => by simp at he⟩ (by simp) (by simpa using hlim) (by simp; omega) (by
              cases A0 with
              | none => simp [Builtin.firstCells]
              | some a => simp [Builtin.firstCells, loadCells, loadCellsFrom])
            simpa using this
    · cases ho
  · -- without spare
    rename_i xs
    split at ho
    · cases ho
      have hnews : news = [] := List.eq_nil_of_length_eq_zero (by simpa using hold.1)
      subst hnews
      have hs0 := hs
      cases hs with
      | low _ _ hs =>
        cases hs with
        | full _ A0 sz b o U hh hc hv =>
          refine ⟨_, w, append_in_run (w' := w) ht hi hsize rfl hr0 (by simp) (fun a _ => by simp [storeCells]) (fun _ => rfl), Done.same r ?_⟩
          simpa using hs0
    · rename_i hne
      split at ho
      · rename_i hc
        obtain ⟨hlim, hall'⟩ := hc
        cases ho
        have hst1 : ∀ y ∈ xs, y.storable = true := fun y hy => by have := List.all_eq_true.1 hall' y hy; simp at this; exact this.1
        have hk1 : ∀ y ∈ xs, y.cells.length = k := fun y hy => by have := List.all_eq_true.1 hall' y hy; simp at this; exact this.2
        obtain ⟨A1, n1, c1, rfl, rfl, olds, hold1, hread1⟩ := elems_ok (P := P) r (x := .full xs) rfl hs hk1
        have hcap : c1 = xs.length := by cases hs with | low _ _ hs => cases hs; rfl
        subst hcap
        have hpos' : 0 < ys.length := by
          rcases Nat.eq_zero_or_pos ys.length with h0 | h0
          · exact absurd (List.eq_nil_of_length_eq_zero h0) hne
          · exact h0
        exact grow xs olds A1 xs.length n hold1 hst1 hlim (by omega) (hread1 w.drew (fun _ _ => rfl))
      · cases ho
  · -- a row of ours
    rename_i m ver i len
    obtain ⟨⟨sz, els⟩, h1, h2⟩ := Option.bind_eq_some_iff.1 ho
    split at h2
    case isFalse => cases h2
    rename_i hc0
    obtain ⟨hszk, hile⟩ := hc0
    simp only at hszk hile h2
    subst hszk
    have hs0 := hs
    cases hs with
    | low _ _ h => cases h
    | ref _ _ _ _ A0 cap ae hl ha hver hh =>
      obtain ⟨e1, e2, e3, e4, e5⟩ := r.row h1 ha
      obtain ⟨g1, g2, g3⟩ := hh e1.symm
      have hver1 : (h m).1 = ver := by rw [rowAt_spec h1]
      -- written in its place
      have place : ∀ (b off room : Nat), ae.blk = some (b, off, room) → 0 < ys.length → len + ys.length ≤ cap →
          ∃ (cs : Array Value) (ct : TypeId), w.heap[b]? = some (.cells cs ct (0, 0)) ∧ off + (i + len) * sz + news.length ≤ cs.size ∧ off + room * sz ≤ cs.size ∧ A0 = some ⟨b, off + i * sz, none⟩ ∧ i + cap ≤ room ∧
            (Builtin.append_ #[t, t] ty #[.slice A0 len cap, .slice A ys.length c]).run P w = .ok (.slice A0 (len + ys.length) cap)
              (w.setRow b (cs.toList.take (off + (i + len) * sz) ++ news ++ cs.toList.drop (off + (i + len) * sz + news.length)).toArray) := by
        intro b off room hblk hp hfit
        rw [hblk] at g3
        have O := e5 b off room hblk
        obtain ⟨cs, ct, hcs, hroom⟩ := O.cells
        have hA := g3.2 (by omega)
        rw [e2] at hA
        have hb1 : (i + len + ys.length) * sz ≤ room * sz := Nat.mul_le_mul_right _ (by omega)
        rw [Nat.add_mul] at hb1
        have hbound : off + (i + len) * sz + news.length ≤ cs.size := by rw [hold.1]; omega
        refine ⟨cs, ct, hcs, hbound, hroom, hA, g3.1, append_in_run ht hi hsize rfl hr0 hfit (fun a ha => ?_) (fun hn => by rw [hA] at hn; cases hn)⟩
        rw [hA] at ha
        cases ha
        have hst' := run_storeCells_at P b (off + (i + len) * sz) ct news 0 cs w hcs (by omega) hold.2.1
        simp only [Nat.add_zero] at hst'
        rw [add_at, show off + i * sz + len * sz = off + (i + len) * sz by rw [Nat.add_mul]; omega]
        exact hst'
      split at h2
      · -- it fits
        rename_i hfit
        cases h2
        by_cases h0 : ys.length = 0
        · have hys : ys = [] := List.eq_nil_of_length_eq_zero h0
          subst hys
          have hnews : news = [] := List.eq_nil_of_length_eq_zero (by simpa using hold.1)
          subst hnews
          refine ⟨_, w, append_in_run (w' := w) ht hi hsize rfl hr0 (by simpa using hl) (fun a _ => by simp [storeCells]) (fun _ => rfl), ?_⟩
          have : els.take (i + len) ++ [] ++ els.drop (i + len + 0) = els := by simp
          rw [show ([] : List AV).length = 0 from rfl, this, hset_self (rowAt_spec h1)]
          exact Done.same r hs0
        · cases hblk : ae.blk with
          | none => rw [hblk] at g3; rw [e3] at g2; omega
          | some q =>
            obtain ⟨b, off, room⟩ := q
            obtain ⟨cs, ct, hcs, hbound, hroom, hA, hcr, hrun⟩ := place b off room hblk (by omega) (by rw [e3] at g2; omega)
            have O := e5 b off room hblk
            obtain ⟨f1, f2⟩ := fit_splice O hcs hold hst hbound
            refine ⟨_, _, hrun, ?_⟩
            have hlen' : (els.take (i + len) ++ ys ++ els.drop (i + len + ys.length)).length = els.length := by simp; omega
            have key := r.write (cs' := (cs.toList.take (off + (i + len) * sz) ++ news ++ cs.toList.drop (off + (i + len) * sz + news.length)).toArray) (sz := sz) (off' := off) (room' := room)
              (els := els.take (i + len) ++ ys ++ els.drop (i + len + ys.length)) ha hblk hcs (splice_size _ _ _ hbound) (ae' := ae) (.inr ha) e2 (by rw [hlen']; exact e3) hblk (by rw [hlen']; exact O.le) hroom (by
                intro e el hel
                rw [List.append_assoc] at hel
                by_cases q1 : e < i + len
                · rw [List.getElem?_append_left (by simp; omega), List.getElem?_take, if_pos q1] at hel
                  exact f1 e el (.inl q1) hel
                · rw [List.getElem?_append_right (by simp; omega)] at hel
                  have q2 : (els.take (i + len)).length = i + len := by simp; omega
                  rw [q2] at hel
                  by_cases q3 : e - (i + len) < ys.length
                  · rw [List.getElem?_append_left q3] at hel
                    have := f2 _ el hel
                    rw [show i + len + (e - (i + len)) = e by omega] at this
                    exact this
                  · rw [List.getElem?_append_right (by omega), List.getElem?_drop, show i + len + ys.length + (e - (i + len) - ys.length) = e by omega] at hel
                    exact f1 e el (.inr (by omega)) hel)
            have hupd : upd α m ae = α := upd_self ha
            rw [hupd, e1] at key
            refine ⟨α, key.1, key.2, V.of_V1 (.ref _ _ _ _ _ _ ae (by omega) ha hver fun _ => ⟨by omega, g2, ?_⟩)⟩
            rw [hblk] at g3 ⊢
            exact g3
      · rename_i hnofit
        split at h2
        case isFalse => cases h2
        rename_i hlim
        cases h2
        by_cases hcap : len + ys.length ≤ cap
        · -- there was room
          cases hblk : ae.blk with
          | none => rw [hblk] at g3; omega
          | some q =>
            obtain ⟨b, off, room⟩ := q
            obtain ⟨cs, ct, hcs, hbound, hroom, hA, hcr, hrun⟩ := place b off room hblk (by omega) hcap
            have O := e5 b off room hblk
            obtain ⟨f1, f2⟩ := fit_splice O hcs hold hst hbound
            refine ⟨_, _, hrun, ?_⟩
            have q2 : ((els.drop i).take len).length = len := by simp; omega
            have hlen' : ((els.drop i).take len ++ ys).length = len + ys.length := by simp; omega
            have hcap' : off + i * sz + cap * sz ≤ cs.size := by
              have : (i + cap) * sz ≤ room * sz := Nat.mul_le_mul_right _ hcr
              rw [Nat.add_mul] at this
              omega
            have key := r.write (cs' := (cs.toList.take (off + (i + len) * sz) ++ news ++ cs.toList.drop (off + (i + len) * sz + news.length)).toArray) (sz := sz) (off' := off + i * sz) (room' := cap)
              (els := (els.drop i).take len ++ ys) ha hblk hcs (splice_size _ _ _ hbound) (ae' := ⟨ver + 1, sz, len + ys.length, some (b, off + i * sz, cap)⟩) (.inl (by simp [hver1])) rfl hlen'.symm rfl (by rw [hlen']; exact hcap) hcap' (by
                intro e el hel
                by_cases q1 : e < len
                · rw [List.getElem?_append_left (by omega), List.getElem?_take, if_pos q1, List.getElem?_drop] at hel
                  have := f1 (i + e) el (.inl (by omega)) hel
                  rw [show off + (i + e) * sz = off + i * sz + e * sz by rw [Nat.add_mul]; omega] at this
                  exact this
                · rw [List.getElem?_append_right (by omega), q2] at hel
                  have := f2 _ el hel
                  rw [show i + len + (e - len) = i + e by omega, show off + (i + e) * sz = off + i * sz + e * sz by rw [Nat.add_mul]; omega] at this
                  exact this)
            refine ⟨_, key.1, key.2, V.of_V1 (.ref _ _ _ _ _ _ _ hcap (upd_same _ _ _) (Nat.le_refl _) fun _ => ⟨by simp, by simpa using hcap, ?_⟩)⟩
            simp
            intro _
            rw [hA]
        · -- a new row
          have hxs : oElems h (.ref m ver i len) = some ((els.drop i).take len) := by
            simp only [oElems, h1, Option.bind_some, if_pos hile]
          have hst1 : ∀ y ∈ (els.drop i).take len, y.storable = true := fun y hy => by
            obtain ⟨j, hj⟩ := List.mem_iff_getElem?.1 (List.mem_of_mem_drop (List.mem_of_mem_take hy))
            cases hblk : ae.blk with
            | none => rw [e4 hblk] at hj; simp at hj
            | some q =>
              have O := e5 q.1 q.2.1 q.2.2 hblk
              exact List.all_eq_true.2 fun a ha => by
                obtain ⟨c', hc'⟩ := List.mem_iff_getElem?.1 ha
                exact O.one j y hj c' a hc'
          have hk1 : ∀ y ∈ (els.drop i).take len, y.cells.length = sz := fun y hy => by
            obtain ⟨j, hj⟩ := List.mem_iff_getElem?.1 (List.mem_of_mem_drop (List.mem_of_mem_take hy))
            cases hblk : ae.blk with
            | none => rw [e4 hblk] at hj; simp at hj
            | some q => exact (e5 q.1 q.2.1 q.2.2 hblk).len j y hj
          obtain ⟨A1, n1, c1, hA1, rfl, olds, hold1, hread1⟩ := elems_ok (P := P) r hxs hs0 hk1
          have q2 : ((els.drop i).take len).length = len := by simp; omega
          rw [q2] at hA1
          cases hA1
          have hr2 := hread1 w.drew (fun _ _ => rfl)
          rw [q2] at hr2
          have := grow ((els.drop i).take len) olds A0 cap m hold1 hst1 (by rw [q2]; exact hlim) (by rw [q2]; omega) (by rw [q2]; exact hr2)
          rw [q2, hver1] at this
          exact this
  · cases ho

end
end Go.Proofs.Ytihljollfbogeaa
