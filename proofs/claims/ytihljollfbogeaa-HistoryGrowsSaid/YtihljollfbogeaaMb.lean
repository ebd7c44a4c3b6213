/- The small language and its soundness, up to calls. No condition. -/
import Derived.Test.YtihljollfbogeaaMa
import Derived.MapKept

/- The abstract operations on copies, parts of slices, strings and structs are those of the machine. No condition. -/
namespace Go.Proofs.Ytihljollfbogeaa
open Go Go.RowKit

section
variable {P : Program} {w : World} {α : Al} {base : Nat} {h : Hp}

/-- The first elements of a slice. -/
theorem elems_take {x : AV} {ys : List AV} {A : Option Addr} {n c m : Nat} (ho : oElems h x = some ys) (hx : V w (okA w α) α x (.slice A n c)) (hm : m ≤ ys.length) :
    ∃ x' c', oElems h x' = some (ys.take m) ∧ V w (okA w α) α x' (.slice A m c') := by
  unfold oElems at ho
  split at ho
  · cases ho
    have : m = 0 := by simpa using hm
    subst this
    exact ⟨.nl, 0, by simp [oElems], V.of_V1 (.low _ _ (.nl A))⟩
  · cases ho
    have : m = 0 := by simpa using hm
    subst this
    exact ⟨.nl, 0, by simp [oElems], V.of_V1 (.low _ _ (.nl A))⟩
  · cases ho
    cases hx with
    | low _ _ h =>
      cases h with
      | imm _ A cap sz b o U hcap hh hc hv =>
        have hg : ∀ (j : Nat) (el : AV), (ys.take m)[j]? = some el → ys[j]? = some el := fun j el he => by
          rw [List.getElem?_take] at he; split at he; exact he; cases he
        have := V0.imm (w := w) (ok := okA w α) (ys.take m) A c sz b o U (by simp; omega) (fun j el he => hh j el (hg j el he)) (fun j el c a he ha => hc j el c a (hg j el he) ha) (fun j el c a he ha => hv j el c a (hg j el he) ha)
        rw [show (ys.take m).length = m by simp; omega] at this
        exact ⟨.imm (ys.take m), c, rfl, V.of_V1 (.low _ _ this)⟩
  · cases ho
    cases hx with
    | low _ _ h =>
      cases h with
      | full _ A sz b o U hh hc hv =>
        have hg : ∀ (j : Nat) (el : AV), (ys.take m)[j]? = some el → ys[j]? = some el := fun j el he => by
          rw [List.getElem?_take] at he; split at he; exact he; cases he
        have := V0.imm (w := w) (ok := okA w α) (ys.take m) A ys.length sz b o U (by simp; omega) (fun j el he => hh j el (hg j el he)) (fun j el c a he ha => hc j el c a (hg j el he) ha) (fun j el c a he ha => hv j el c a (hg j el he) ha)
        rw [show (ys.take m).length = m by simp; omega] at this
        exact ⟨.imm (ys.take m), ys.length, rfl, V.of_V1 (.low _ _ this)⟩
  · rename_i n0 ver i len
    obtain ⟨⟨sz, els⟩, h1, h2⟩ := Option.bind_eq_some_iff.1 ho
    split at h2
    · rename_i hle
      cases h2
      have hm' : m ≤ len := by simp at hm; omega
      cases hx with
      | low _ _ h => cases h
      | ref _ _ _ _ A cap ae hl ha hv hh =>
        refine ⟨.ref n0 ver i m, c, ?_, V.of_V1 (.ref _ _ _ _ _ _ ae (by omega) ha hv fun e => ?_)⟩
        · simp only [oElems, h1, Option.bind_some]
          rw [if_pos (show i + m ≤ els.length by have : i + _ ≤ els.length := hle; omega), List.take_take, Nat.min_eq_left hm']
        · obtain ⟨g1, g2, g3⟩ := hh e
          exact ⟨by omega, g2, g3⟩
    · cases h2
  · cases ho

/-- Elements written over the first elements of a slice of ours. -/
theorem over_ok (r : Rel base h w α) {n ver i len sz : Nat} {els ys : List AV} {us : Value} {news : List Value} (h1 : rowAt? h n ver = some (sz, els)) (hs : V w (okA w α) α (.ref n ver i len) us) (hile : i + len ≤ els.length)
    (hold : Hold w (okA w α) α sz ys news) (hst : ∀ y ∈ ys, y.storable = true) (hle : ys.length ≤ len) :
    ∃ A0 cap w', us = .slice A0 len cap ∧ (∀ a, A0 = some a → (storeCells a news).run P w = .ok () w') ∧ (A0 = none → w' = w) ∧
      ∃ α', Rel base (hset h n (ver, .row sz (els.take i ++ ys ++ els.drop (i + ys.length)))) w' α' ∧ Ext w α w' α' := by
  by_cases h0 : ys.length = 0
  · have hys : ys = [] := List.eq_nil_of_length_eq_zero h0
    subst hys
    have hnews : news = [] := List.eq_nil_of_length_eq_zero (by simpa using hold.1)
    subst hnews
    cases hs with
    | low _ _ h => cases h
    | ref _ _ _ _ A0 cap ae hl ha hver hh =>
      refine ⟨A0, cap, w, rfl, fun a _ => by simp [storeCells], fun _ => rfl, ?_⟩
      have : els.take i ++ [] ++ els.drop (i + 0) = els := by simp
      rw [show ([] : List AV).length = 0 from rfl, this, hset_self (rowAt_spec h1)]
      exact ⟨α, r, Ext.refl _ _⟩
  · cases hs with
    | low _ _ h => cases h
    | ref _ _ _ _ A0 cap ae hl ha hver hh =>
      obtain ⟨e1, e2, e3, e4, e5⟩ := r.row h1 ha
      obtain ⟨g1, g2, g3⟩ := hh e1.symm
      cases hblk : ae.blk with
      | none => rw [hblk] at g3; omega
      | some q =>
        obtain ⟨b, off, room⟩ := q
        rw [hblk] at g3
        have O := e5 b off room hblk
        obtain ⟨cs, ct, hcs, hroom⟩ := O.cells
        have hA := g3.2 (by omega)
        rw [e2] at hA
        have hb1 : (i + ys.length) * sz ≤ room * sz := Nat.mul_le_mul_right _ (by omega)
        rw [Nat.add_mul] at hb1
        have hbound : off + i * sz + news.length ≤ cs.size := by rw [hold.1]; omega
        have hst' := run_storeCells_at P b (off + i * sz) ct news 0 cs w hcs (by omega) hold.2.1
        simp only [Nat.add_zero] at hst'
        obtain ⟨f1, f2⟩ := fit_splice (p := i) O hcs hold hst hbound
        refine ⟨A0, cap, w.setRow b (cs.toList.take (off + i * sz) ++ news ++ cs.toList.drop (off + i * sz + news.length)).toArray, rfl, fun a ha => ?_, (fun hn => by rw [hA] at hn; cases hn), ?_⟩
        · rw [hA] at ha
          cases ha
          exact hst'
        · have hlen' : (els.take i ++ ys ++ els.drop (i + ys.length)).length = els.length := by simp; omega
          have key := r.write (cs' := (cs.toList.take (off + i * sz) ++ news ++ cs.toList.drop (off + i * sz + news.length)).toArray) (sz := sz) (off' := off) (room' := room)
            (els := els.take i ++ ys ++ els.drop (i + ys.length)) ha hblk hcs (splice_size _ _ _ hbound) (ae' := ae) (.inr ha) e2 (by rw [hlen']; exact e3) hblk (by rw [hlen']; exact O.le) hroom (by
              intro e el hel
              rw [List.append_assoc] at hel
              by_cases q1 : e < i
              · rw [List.getElem?_append_left (by simp; omega), List.getElem?_take, if_pos q1] at hel
                exact f1 e el (.inl q1) hel
              · rw [List.getElem?_append_right (by simp; omega)] at hel
                have q2 : (els.take i).length = i := by simp; omega
                rw [q2] at hel
                by_cases q3 : e - i < ys.length
                · rw [List.getElem?_append_left q3] at hel
                  have := f2 _ el hel
                  rw [show i + (e - i) = e by omega] at this
                  exact this
                · rw [List.getElem?_append_right (by omega), List.getElem?_drop, show i + ys.length + (e - i - ys.length) = e by omega] at hel
                  exact f1 e el (.inr (by omega)) hel)
          rw [upd_self ha, e1] at key
          exact ⟨α, key⟩

theorem copy_ok (r : Rel base h w α) {t tx ty e : TypeId} {k : Nat} {d x v : AV} {xs : List AV} {h' : Hp} {ud ux : Value} (ht : P.underlying t = some (.slice e)) (he : rowT P e = true) (hk : k = P.cellsOf e)
    (hel : oElems h x = some xs) (ho : oCopy h k d xs = some (v, h')) (hd : V w (okA w α) α d ud) (hx : V w (okA w α) α x ux) :
    ∃ r w', (Builtin.copy_ #[t, tx] ty #[ud, ux]).run P w = .ok r w' ∧ Done base w α v h' r w' := by
  obtain ⟨inf, z, hi, hz, hbytes, hpos, hzs, hke⟩ := rowT_spec he
  have hsize : inf.size = k := by omega
  unfold oCopy at ho
  split at ho
  case isFalse => cases ho
  rename_i hall
  have hst : ∀ y ∈ xs, y.storable = true := fun y hy => by have := List.all_eq_true.1 hall y hy; simp at this; exact this.1
  have hky : ∀ y ∈ xs, y.cells.length = k := fun y hy => by have := List.all_eq_true.1 hall y hy; simp at this; exact this.2
  split at ho
  · rename_i m ver i len
    obtain ⟨⟨sz, els⟩, h1, h2⟩ := Option.bind_eq_some_iff.1 ho
    split at h2
    case isFalse => cases h2
    rename_i hc0
    obtain ⟨hszk, hile⟩ := hc0
    simp only at hszk hile h2
    subst hszk
    cases h2
    obtain ⟨A, n, c, rfl, rfl, us0, hold0, hread0⟩ := elems_ok (P := P) r hel hx hky
    obtain ⟨x', c', hel', hx'⟩ := elems_take (m := min xs.length len) hel hx (by omega)
    obtain ⟨A1, n1, c1, hA1, hn1, news, hold, hread⟩ := elems_ok (P := P) r hel' hx' (fun y hy => hky y (List.mem_of_mem_take hy))
    cases hA1
    have hr0 := hread w (fun _ _ => rfl)
    have hr1 : (Builtin.firstCells sz (min xs.length len) (.slice A xs.length c)).run P w = .ok news.toArray w := by
      rw [← hr0]; cases A <;> rfl
    obtain ⟨A0, cap, w', rfl, hrun, hnone, α', r', e'⟩ := over_ok (P := P) r h1 hd hile hold (fun y hy => hst y (List.mem_of_mem_take hy)) (by simp; omega)
    have e1 : xs.take (min xs.length len) = xs.take len := by
      rcases Nat.le_total xs.length len with hl | hl
      · rw [Nat.min_eq_left hl, List.take_of_length_le (Nat.le_refl _), List.take_of_length_le hl]
      · rw [Nat.min_eq_right hl]
    rw [e1, show (xs.take len).length = min xs.length len by simp [Nat.min_comm]] at r'
    refine ⟨.int .i64 (min xs.length len : Nat), w', ?_, α', r', e', V.sc rfl⟩
    cases A0 with
    | none =>
      rw [hnone rfl]
      simp [Builtin.copy_, run_underlying ht, Builtin.lenOf, sizeOf, typeInfo, hi, hsize, hr1, goInt]
    | some a =>
      simp [Builtin.copy_, run_underlying ht, Builtin.lenOf, sizeOf, typeInfo, hi, hsize, hr1, goInt, hrun a rfl]
  · cases ho

theorem clear_ok (r : Rel base h w α) {t ty e : TypeId} {k : Nat} {d : AV} {h' : Hp} {ud z : Value} (ht : P.underlying t = some (.slice e)) (he : rowT P e = true) (hk : k = P.cellsOf e) (hz : (P.info? e).bind (·.zero) = some z)
    (ho : oClear h k (ofVal z) d = some h') (hd : V w (okA w α) α d ud) :
    ∃ w', (Builtin.clear_ #[t] ty #[ud]).run P w = .ok (.tuple #[]) w' ∧ ∃ α', Rel base h' w' α' ∧ Ext w α w' α' := by
  obtain ⟨inf, z', hi, hz', hbytes, hpos, hzs, hke⟩ := rowT_spec he
  have hzz : z' = z := by rw [hi] at hz; simp [hz'] at hz; exact hz
  subst hzz
  have hsize : inf.size = k := by omega
  unfold oClear at ho
  split at ho
  case isFalse => cases ho
  rename_i hc
  obtain ⟨hs, hkz⟩ := hc
  split at ho
  · cases ho
    cases hd with
    | low _ _ hd =>
      cases hd with
      | nl A => exact ⟨w, by cases A <;> simp [Builtin.clear_, run_underlying ht], α, r, Ext.refl _ _⟩
  · rename_i m ver i len
    obtain ⟨⟨sz, els⟩, h1, h2⟩ := Option.bind_eq_some_iff.1 ho
    split at h2
    case isFalse => cases h2
    rename_i hc0
    obtain ⟨hszk, hile⟩ := hc0
    simp only at hszk hile h2
    subst hszk
    cases h2
    have hh := hold_zeros (w := w) (ok := okA w α) (α := α) (m := len) hkz hs (by omega)
    obtain ⟨A0, cap, w', rfl, hrun, hnone, α', r', e'⟩ := over_ok (P := P) r h1 hd hile hh (fun y hy => by rw [List.eq_of_mem_replicate hy]; exact hs) (by simp)
    simp only [List.length_replicate] at r'
    refine ⟨w', ?_, α', r', e'⟩
    cases A0 with
    | none =>
      rw [hnone rfl]
      simp [Builtin.clear_, run_underlying ht]
    | some a =>
      have hrun' := hrun a rfl
      rw [← zeroCells_made z'.cells len sz (by omega)] at hrun'
      by_cases h0 : len = 0
      · subst h0
        simp [Builtin.zeroCells, storeCells] at hrun'
        simp [Builtin.clear_, run_underlying ht, hrun']
      · simp [Builtin.clear_, run_underlying ht, h0, zeroValue, typeInfo, hi, hz', hrun']
  · cases ho

end
end Go.Proofs.Ytihljollfbogeaa

/- The abstract operations on parts of slices, strings and structs are those of the machine. No condition. -/
namespace Go.Proofs.Ytihljollfbogeaa
open Go Go.RowKit

section
variable {P : Program} {w : World} {α : Al} {base : Nat} {h : Hp}

/-- A value that may be missing. -/
def VO (w : World) (ok : Nat → Prop) (α : Al) (a : Option AV) (u : Option Value) : Prop :=
  match a, u with
  | none, none => True
  | some a, some u => V w ok α a u
  | _, _ => False

def cutA (mx : Option AV) (xs : List AV) (l u : Int) : Option AV :=
  match mx with
  | none => some (.imm ((xs.drop l.toNat).take (u - l).toNat))
  | some m => (asNum m).bind fun m => if m = u then some (if l = u then .nl else .full ((xs.drop l.toNat).take (u - l).toNat)) else none
def bnd (d : Int) (v : Option AV) : Option Int := match v with | none => some d | some v => asNum v

theorem bounds_ok {ok : Nat → Prop} {len cap : Nat} {lo hi mx : Option AV} {ul uh um : Option Value} {l u : Int} {m : Nat} (hl : VO w ok α lo ul) (hh : VO w ok α hi uh) (hm : VO w ok α mx um)
    (el : bnd 0 lo = some l) (eh : bnd len hi = some u)
    (em : bnd cap mx = some (m : Int)) (hmh : mx = none ∨ hi ≠ none) (h0 : 0 ≤ l) (h1 : l ≤ u) (h2 : u ≤ m) (h3 : m ≤ cap) :
    (Instr.sliceBounds true len cap ul uh um).run P w = .ok (l.toNat, u.toNat, m) w := by
  have eu : (u.toNat : Int) = u := Int.toNat_of_nonneg (by omega)
  have run3 : ∀ (k : IntKind) (code : BoundsCode), (Instr.sliceBound (.int k (m : Int)) cap code).run P w = .ok m w := fun k code => by
    rw [run_sliceBound w k m cap code (by omega) (by omega)]; simp
  have run2 : ∀ (k : IntKind) (c : Nat) (code : BoundsCode), u ≤ c → (Instr.sliceBound (.int k u) c code).run P w = .ok u.toNat w := fun k c code hc => run_sliceBound w k u c code (by omega) hc
  have run1 : ∀ (k : IntKind) (code : BoundsCode), (Instr.sliceBound (.int k l) u.toNat code).run P w = .ok l.toNat w := fun k code => run_sliceBound w k l u.toNat code h0 (by omega)
  cases mx with
  | none =>
    cases um with
    | some _ => exact absurd hm id
    | none =>
      have hmc : m = cap := by simp [bnd] at em; omega
      subst hmc
      cases hi with
      | none =>
        cases uh with
        | some _ => exact absurd hh id
        | none =>
          have hul : u = len := by simp [bnd] at eh; omega
          subst hul
          cases lo with
          | none =>
            cases ul with
            | some _ => exact absurd hl id
            | none => simp [bnd] at el; subst el; simp [Instr.sliceBounds]
          | some lo =>
            cases ul with
            | none => exact absurd hl id
            | some ul =>
              obtain ⟨k, rfl⟩ := asNum_ok el hl
              simp at run1
              simp [Instr.sliceBounds, run1]
      | some hi =>
        cases uh with
        | none => exact absurd hh id
        | some uh =>
          obtain ⟨k', rfl⟩ := asNum_ok eh hh
          cases lo with
          | none =>
            cases ul with
            | some _ => exact absurd hl id
            | none => simp [bnd] at el; subst el; simp [Instr.sliceBounds, run2 _ m _ h2]
          | some lo =>
            cases ul with
            | none => exact absurd hl id
            | some ul =>
              obtain ⟨k, rfl⟩ := asNum_ok el hl
              simp [Instr.sliceBounds, run1, run2 _ m _ h2]
  | some mx =>
    cases um with
    | none => exact absurd hm id
    | some um =>
      obtain ⟨k'', rfl⟩ := asNum_ok em hm
      cases hi with
      | none => simp at hmh
      | some hi =>
        cases uh with
        | none => exact absurd hh id
        | some uh =>
          obtain ⟨k', rfl⟩ := asNum_ok eh hh
          cases lo with
          | none =>
            cases ul with
            | some _ => exact absurd hl id
            | none => simp [bnd] at el; subst el; simp [Instr.sliceBounds, run2 _ m _ h2, run3]
          | some lo =>
            cases ul with
            | none => exact absurd hl id
            | some ul =>
              obtain ⟨k, rfl⟩ := asNum_ok el hl
              simp [Instr.sliceBounds, run1, run2 _ m _ h2, run3]

/-- A part of a slice that nobody of us writes. -/
theorem part_imm {ok : Nat → Prop} {xs : List AV} {A : Option Addr} {len cap : Nat} {l u m k : Nat} (hcases : V0 w ok (.imm xs) (.slice A len cap) ∨ V0 w ok (.full xs) (.slice A len cap)) (h1 : l ≤ u) (h2 : u ≤ xs.length) (h3 : u ≤ m)
    (hk : l = 0 ∨ xs.all (fun el => el.cells.length == k) = true) :
    V0 w ok (.imm ((xs.drop l).take (u - l))) (sliced A l u m k) ∧ (m = u → V0 w ok (.full ((xs.drop l).take (u - l))) (sliced A l u m k)) := by
  have hlen : ((xs.drop l).take (u - l)).length = u - l := by simp; omega
  have hg : ∀ (j : Nat) (el : AV), ((xs.drop l).take (u - l))[j]? = some el → xs[l + j]? = some el ∧ j < u - l := fun j el he => by
    rw [List.getElem?_take] at he
    split at he
    · rw [List.getElem?_drop] at he; exact ⟨he, by assumption⟩
    · cases he
  obtain ⟨sz, b, o, U, hh, hc, hv⟩ : ∃ (sz b o : Nat) (U : Nat → Nat → Value), (∀ (j : Nat) (el : AV), xs[j]? = some el → el.cells.length = sz ∧ A = some ⟨b, o, none⟩ ∧ ok b) ∧
      (∀ (j : Nat) (el : AV) (c : Nat) (a : AV), xs[j]? = some el → el.cells[c]? = some a → w.cell? ⟨b, o + (j * sz + c), none⟩ = some (U j c)) ∧
      (∀ (j : Nat) (el : AV) (c : Nat) (a : AV), xs[j]? = some el → el.cells[c]? = some a → V0 w ok a (U j c)) := by
    rcases hcases with h | h
    · cases h with
      | imm _ _ _ sz b o U hcap hh hc hv => exact ⟨sz, b, o, U, hh, hc, hv⟩
    · cases h with
      | full _ _ sz b o U hh hc hv => exact ⟨sz, b, o, U, hh, hc, hv⟩
  have base : ∀ (j : Nat) (el : AV), ((xs.drop l).take (u - l))[j]? = some el → el.cells.length = sz ∧ (if m = l then A else A.map (·.add (l * k))) = some ⟨b, o + l * sz, none⟩ ∧ ok b := fun j el he => by
    obtain ⟨g1, g2⟩ := hg j el he
    obtain ⟨h4, h5, h6⟩ := hh _ _ g1
    refine ⟨h4, ?_, h6⟩
    rw [if_neg (by omega), h5, Option.map_some, add_at]
    rcases hk with hk | hk
    · simp [hk]
    · have := List.all_eq_true.1 hk el (List.mem_of_getElem? g1)
      simp at this
      rw [← this, h4]
  have cell : ∀ (j : Nat) (el : AV) (c : Nat) (a : AV), ((xs.drop l).take (u - l))[j]? = some el → el.cells[c]? = some a → w.cell? ⟨b, o + l * sz + (j * sz + c), none⟩ = some (U (l + j) c) := fun j el c a he ha => by
    have := hc (l + j) el c a (hg j el he).1 ha
    rw [Nat.add_mul] at this
    rw [show o + l * sz + (j * sz + c) = o + (l * sz + j * sz + c) by omega]
    exact this
  have vals : ∀ (j : Nat) (el : AV) (c : Nat) (a : AV), ((xs.drop l).take (u - l))[j]? = some el → el.cells[c]? = some a → V0 w ok a (U (l + j) c) := fun j el c a he ha => hv (l + j) el c a (hg j el he).1 ha
  refine ⟨?_, fun hm => ?_⟩
  · have := V0.imm (w := w) (ok := ok) ((xs.drop l).take (u - l)) (if m = l then A else A.map (·.add (l * k))) (m - l) sz b (o + l * sz) (fun j c => U (l + j) c) (by omega) base cell vals
    rw [hlen] at this
    exact this
  · subst hm
    have := V0.full (w := w) (ok := ok) ((xs.drop l).take (m - l)) (if m = l then A else A.map (·.add (l * k))) sz b (o + l * sz) (fun j c => U (l + j) c) base cell vals
    rw [hlen] at this
    exact this

theorem elem_of {t e : TypeId} (ht : P.underlying t = some (.slice e)) : P.elem t = e := by
  simp [Program.elem, ht]

theorem slice_ok (r : Rel base h w α) {t e : TypeId} {k : Nat} {x v : AV} {lo hi mx : Option AV} {ux : Value} {ul uh um : Option Value} (ht : P.underlying t = some (.slice e)) (he : hasT P e = true) (hk : k = P.cellsOf e)
    (ho : oSlice h k x lo hi mx = some v) (hmh : mx = none ∨ hi ≠ none) (hx : V w (okA w α) α x ux) (hl : VO w (okA w α) α lo ul) (hh : VO w (okA w α) α hi uh) (hm : VO w (okA w α) α mx um) :
    ∃ r, (Instr.sliceAt t ux ul uh um).run P w = .ok r w ∧ V w (okA w α) α v r := by
  have hte : P.underlying t = some (.slice (P.elem t)) := by rw [elem_of ht]; exact ht
  rw [run_sliceAt_slice w t ux ul uh um hte]
  have fin : ∀ (A : Option Addr) (len cap l u m : Nat), (Instr.sliceBounds true len cap ul uh um).run P w = .ok (l, u, m) w → (Instr.slice t (.slice A len cap) ul uh um).run P w = .ok (sliced A l u m k) w := fun A len cap l u m hb => by
    rw [run_slice_any w t A len cap hte, hb]
    simp only [Result.andThen_ok]
    rw [elem_of ht, run_size' he]
    simp [hk]
  unfold oSlice at ho
  have imm : ∀ (xs : List AV) (A : Option Addr) (len cap : Nat), len = xs.length → xs.length ≤ cap → (V0 w (okA w α) (.imm xs) (.slice A len cap) ∨ V0 w (okA w α) (.full xs) (.slice A len cap)) →
      ((bnd 0 lo).bind fun l => (bnd xs.length hi).bind fun u =>
        if 0 ≤ l ∧ l ≤ u ∧ u ≤ xs.length ∧ (l = 0 ∨ xs.all (fun el => el.cells.length == k) = true) then
          cutA mx xs l u
        else none) = some v → ∃ r, (Instr.slice t (.slice A len cap) ul uh um).run P w = .ok r w ∧ V w (okA w α) α v r := by
    intro xs A len cap hlen hcap hc ho
    subst hlen
    obtain ⟨l, hl1, ho⟩ := Option.bind_eq_some_iff.1 ho
    obtain ⟨u, hu1, ho⟩ := Option.bind_eq_some_iff.1 ho
    split at ho
    case isFalse => cases ho
    rename_i hcond
    obtain ⟨c1, c2, c3, c4⟩ := hcond
    obtain ⟨l, rfl⟩ := Int.eq_ofNat_of_zero_le c1
    obtain ⟨u, rfl⟩ := Int.eq_ofNat_of_zero_le (Int.le_trans c1 c2)
    have c4' : l = 0 ∨ xs.all (fun el => el.cells.length == k) = true := by rcases c4 with c | c; exact .inl (by omega); exact .inr c
    have esub : ((u : Int) - (l : Int)).toNat = u - l := by omega
    cases mx with
    | none =>
      cases ho
      refine ⟨_, fin A _ cap l u cap (by have := bounds_ok (P := P) (cap := cap) (m := cap) hl hh hm hl1 hu1 rfl hmh c1 c2 (by omega) (by omega); simpa using this), ?_⟩
      rw [esub]
      exact V.of_V1 (.low _ _ (part_imm hc (by omega) (by omega) (by omega) c4').1)
    | some mx =>
      obtain ⟨m, hm1, ho⟩ := Option.bind_eq_some_iff.1 ho
      split at ho
      case isFalse => cases ho
      rename_i hmu
      subst hmu
      cases ho
      refine ⟨_, fin A _ cap l u u (by have := bounds_ok (P := P) (cap := cap) (m := u) hl hh hm hl1 hu1 hm1 hmh c1 c2 (by omega) (by omega); simpa using this), ?_⟩
      split
      · rename_i hlu
        have : l = u := by omega
        subst this
        simp only [sliced, Nat.sub_self]
        exact V.of_V1 (.low _ _ (.nl _))
      · rw [esub]
        exact V.of_V1 (.low _ _ ((part_imm hc (by omega) (by omega) (Nat.le_refl _) c4').2 rfl))
  split at ho
  · rename_i xs
    cases hx with
    | low _ _ hx =>
      cases hx with
      | imm _ A cap sz b o U hcap h1 h2 h3 => exact imm xs A _ cap rfl hcap (.inl (.imm xs A cap sz b o U hcap h1 h2 h3)) ho
  · rename_i xs
    cases hx with
    | low _ _ hx =>
      cases hx with
      | full _ A sz b o U h1 h2 h3 => exact imm xs A _ _ rfl (Nat.le_refl _) (.inr (.full xs A sz b o U h1 h2 h3)) ho
  · rename_i n ver i len
    obtain ⟨l, hl1, ho⟩ := Option.bind_eq_some_iff.1 ho
    obtain ⟨u, hu1, ho⟩ := Option.bind_eq_some_iff.1 ho
    obtain ⟨⟨sz, els⟩, hr1, ho⟩ := Option.bind_eq_some_iff.1 ho
    split at ho
    case isFalse => cases ho
    rename_i hcond
    obtain ⟨c1, c2, c3, c4⟩ := hcond
    simp only at c3 c4 ho
    obtain ⟨l, rfl⟩ := Int.eq_ofNat_of_zero_le c1
    obtain ⟨u, rfl⟩ := Int.eq_ofNat_of_zero_le (Int.le_trans c1 c2)
    have esub : ((u : Int) - (l : Int)).toNat = u - l := by omega
    simp only [Int.toNat_natCast] at c3
    cases hx with
    | low _ _ h => cases h
    | ref _ _ _ _ A cap ae hle ha hver hh' =>
      obtain ⟨e1, e2, e3, e4, e5⟩ := r.row hr1 ha
      obtain ⟨g1, g2, g3⟩ := hh' e1.symm
      have hucap : u ≤ cap := by omega
      cases mx with
      | none =>
        cases ho
        refine ⟨_, fin A _ cap l u cap (by have := bounds_ok (P := P) (cap := cap) (m := cap) hl hh hm hl1 hu1 rfl hmh c1 c2 (by omega) (by omega); simpa using this), ?_⟩
        rw [esub]
        simp only [Int.toNat_natCast]
        refine V.of_V1 (.ref _ _ _ _ _ _ ae (by omega) ha hver fun _ => ⟨by omega, by omega, ?_⟩)
        cases hblk : ae.blk with
        | none => rw [hblk] at g3; simp only at g3 ⊢; omega
        | some q =>
          obtain ⟨b, off, room⟩ := q
          rw [hblk] at g3
          simp only at g3 ⊢
          refine ⟨by omega, fun hpos => ?_⟩
          rw [if_neg (by omega), g3.2 (by omega), Option.map_some, add_at, e2, ← c4, Nat.add_mul]
          simp [Nat.add_assoc]
      | some mx =>
        obtain ⟨m, hm1, ho⟩ := Option.bind_eq_some_iff.1 ho
        split at ho
        case isFalse => cases ho
        rename_i hmu
        obtain ⟨d1, d2⟩ := hmu
        obtain ⟨m, rfl⟩ := Int.eq_ofNat_of_zero_le (Int.le_trans (Int.le_trans c1 c2) d1)
        simp only [Int.toNat_natCast] at d2
        cases ho
        exact ⟨_, fin A _ cap l u m (by have := bounds_ok (P := P) (cap := cap) (m := m) hl hh hm hl1 hu1 hm1 hmh c1 c2 d1 (by omega); simpa using this), V.junk⟩
  · obtain ⟨l, hl1, ho1⟩ := Option.bind_eq_some_iff.1 ho
    obtain ⟨u, hu1, ho2⟩ := Option.bind_eq_some_iff.1 ho1
    clear ho ho1
    split at ho2
    case isFalse => cases ho2
    rename_i hcond
    obtain ⟨rfl, rfl⟩ := hcond
    cases hx with
    | low _ _ hx =>
      cases hx with
      | nl A =>
        cases mx with
        | none =>
          cases ho2
          refine ⟨_, fin A _ 0 0 0 0 (by have := bounds_ok (P := P) (cap := 0) (m := 0) hl hh hm hl1 hu1 rfl hmh (by omega) (by omega) (by omega) (by omega); simpa using this), V.of_V1 (.low _ _ (.nl _))⟩
        | some mx =>
          obtain ⟨m, hm1, ho3⟩ := Option.bind_eq_some_iff.1 ho2
          split at ho3
          case isFalse => cases ho3
          rename_i hmu
          subst hmu
          cases ho3
          refine ⟨_, fin A _ 0 0 0 0 (by have := bounds_ok (P := P) (cap := 0) (m := 0) hl hh hm hl1 hu1 (by simpa [bnd] using hm1) hmh (by omega) (by omega) (by omega) (by omega); simpa using this), V.of_V1 (.low _ _ (.nl _))⟩
  · cases ho

/-! ### Strings -/
theorem bytes_ok {ok : Nat → Prop} : ∀ (ys : List AV) (us : List Value) (s : ByteArray), bytesOfA ys = some s → Hold w ok α 1 ys us → ∃ ns : List Int, us = ns.map (Value.int .u8) ∧ s.data.toList = ns.map fun n => UInt8.ofNat n.toNat
  | [], us, s, hb, hh => by
    have : us = [] := List.eq_nil_of_length_eq_zero (by simpa using hh.1)
    subst this
    cases hb
    exact ⟨[], rfl, rfl⟩
  | y :: ys, us, s, hb, hh => by
    cases us with
    | nil => have := hh.1; simp at this
    | cons u us =>
      unfold bytesOfA at hb
      split at hb
      · cases (by assumption : y :: ys = [])
      · rename_i n r heq
        cases heq
        obtain ⟨s', hs', rfl⟩ := Option.map_eq_some_iff.1 hb
        have h0 := (hh.2.2 0 _ rfl).2 0 _ rfl
        obtain ⟨x, hx, hv⟩ := h0
        simp at hx
        subst hx
        have hu := hv.sc_eq
        obtain ⟨ns, h1, h2⟩ := bytes_ok ys us s' hs' ⟨by have := hh.1; simp at this ⊢; omega, fun u hu => hh.2.1 u (by simp [hu]), fun j el he => by
          have := hh.2.2 (j + 1) el (by simpa using he)
          refine ⟨this.1, fun c a ha => ?_⟩
          obtain ⟨x, hx, hv⟩ := this.2 c a ha
          refine ⟨x, ?_, hv⟩
          rw [show (j + 1) * 1 + c = (j * 1 + c) + 1 by omega] at hx
          simpa using hx⟩
        exact ⟨n :: ns, by simp [hu, h1], by simp [h2]⟩
      · cases hb

theorem convStr_ok (r : Rel base h w α) {src dst e : TypeId} {x v : AV} {u : Value} (hs : P.underlying src = some (.slice e)) (he : P.underlying e = some (.int .u8)) (hd : P.underlying dst = some .string)
    (ho : oConvStr h x = some v) (hx : V w (okA w α) α x u) : ∃ r, (convert src dst u).run P w = .ok r w ∧ V w (okA w α) α v r := by
  unfold oConvStr at ho
  obtain ⟨ys, hy, ho⟩ := Option.bind_eq_some_iff.1 ho
  obtain ⟨s, hs1, rfl⟩ := Option.map_eq_some_iff.1 ho
  have hk : ∀ (ys : List AV) (s : ByteArray), bytesOfA ys = some s → ∀ y ∈ ys, y.cells.length = 1 := by
    intro ys
    induction ys with
    | nil => intro s _ y hy; simp at hy
    | cons a ys ih =>
      intro s hb y hy
      unfold bytesOfA at hb
      split at hb
      · cases (by assumption : a :: ys = [])
      · rename_i n r heq
        cases heq
        obtain ⟨s', hs', rfl⟩ := Option.map_eq_some_iff.1 hb
        rcases List.mem_cons.1 hy with rfl | hy
        · rfl
        · exact ih s' hs' y hy
      · cases hb
  obtain ⟨A, n, c, rfl, rfl, us, hold, hread⟩ := elems_ok (P := P) r hy hx (hk ys s hs1)
  obtain ⟨ns, h1, h2⟩ := bytes_ok ys us s hs1 hold
  have hr := hread w (fun _ _ => rfl)
  have hfold : ∀ (ns : List Int) (s0 : ByteArray), (ns.foldl (fun r n => r.push (UInt8.ofNat n.toNat)) s0) = ⟨(s0.data.toList ++ ns.map fun n => UInt8.ofNat n.toNat).toArray⟩ := by
    intro ns
    induction ns with
    | nil => intro s0; simp
    | cons n ns ih => intro s0; rw [List.foldl_cons, ih]; simp [ByteArray.push]
  have es : s = ns.foldl (fun r n => r.push (UInt8.ofNat n.toNat)) ByteArray.empty := by
    rw [hfold]
    have : s = ⟨s.data⟩ := rfl
    rw [this]
    congr 1
    apply Array.ext'
    simp [h2]
  refine ⟨.string s, ?_, V.sc rfl⟩
  rw [run_convert_bytes_string w src dst e A _ c hs he hd]
  cases A with
  | none =>
    have : us = [] := by simpa [Builtin.firstCells] using hr.symm
    rw [this] at h1
    have hns : ns = [] := by simpa using h1.symm
    subst hns
    rw [es]
    rfl
  | some a =>
    have hl : (loadCells a ys.length).run P w = .ok (ns.map (Value.int .u8)).toArray w := by
      rw [← h1]
      have : (Builtin.firstCells 1 ys.length (.slice (some a) ys.length c)) = loadCells a (ys.length * 1) := rfl
      rw [this, Nat.mul_one] at hr
      exact hr
    rw [run_bytesToString w a ys.length c ns hl, es]

end
end Go.Proofs.Ytihljollfbogeaa

/- The abstract operations on structs and maps are those of the machine. No condition. -/
namespace Go.Proofs.Ytihljollfbogeaa
open Go Go.RowKit

/-- A part of a struct. -/
def oField (P : Program) (t : TypeId) (off : Nat) (x : AV) : Option AV :=
  match x with
  | .agg cs => partA (aggB P t) (P.cellsOf t) off cs
  | _ => none

def zeroOf (P : Program) (t : TypeId) : Option Value := (P.info? t).bind (·.zero)
/-- Where the parts of a struct or an array lie: place and size. -/
def placesA (P : Program) (t : TypeId) (i : Nat) : Option (Nat × Nat) :=
  match P.underlying t with
  | some (.struct fs) => (fs[i]?).map fun f => (f.offset, P.cellsOf f.type)
  | some (.array _ e) => some (i * P.cellsOf e, P.cellsOf e)
  | _ => none
def buildT (P : Program) (t : TypeId) : Bool :=
  (match P.info? t with | some i => i.zero.isSome | none => false) &&
  match P.underlying t with
  | some (.struct fs) => fs.all fun f => hasT P f.type
  | some (.array _ e) => hasT P e
  | _ => false
def oBuild (P : Program) (t : TypeId) (parts : List (Nat × AV)) : Option AV :=
  match zeroOf P t with
  | some z => match ofVal z with
    | .agg cs => (fillA (placesA P t) cs parts).map .agg
    | _ => none
  | none => none

section
variable {P : Program} {w : World} {α : Al} {base : Nat} {h : Hp} {ok : Nat → Prop}

theorem field_ok {s : TypeId} {fs : Array Field} {i : Nat} {f : Field} {x v : AV} {u : Value} (hs : P.underlying s = some (.struct fs)) (hf : fs[i]? = some f) (ht : hasT P f.type = true)
    (ho : oField P f.type f.offset x = some v) (hx : V w ok α x u) : ∃ r, (Instr.field s u i).run P w = .ok r w ∧ V w ok α v r := by
  unfold oField at ho
  split at ho
  · rename_i cs
    obtain ⟨us, rfl, hc⟩ := hx
    have hrun : (Instr.field s (.agg us) i).run P w = (part f.type us f.offset).run P w := by simp [Instr.field, run_underlying hs, hf, asAgg]
    rw [hrun]
    unfold part
    simp only [Sem.run_bind, run_isAgg' ht, Result.andThen_ok]
    unfold partA at ho
    cases hagg : aggB P f.type
    · simp only [hagg, Bool.false_eq_true, if_false] at ho ⊢
      have hlt : f.offset < us.size := by have := (List.getElem?_eq_some_iff.1 ho).1; have := hc.1; simp at this; omega
      have hu : us.toList[f.offset]? = some us[f.offset] := by simp [hlt]
      refine ⟨us[f.offset], by simp [hlt], V.of_V1 (hc.2 _ _ _ ho hu).1⟩
    · simp only [hagg, if_true] at ho ⊢
      split at ho
      · rename_i hle
        cases ho
        refine ⟨.agg (us.extract f.offset (f.offset + P.cellsOf f.type)), by simp [run_size' ht], _, rfl, ?_, fun j a u ha hu => ?_⟩
        · have := hc.1; simp at this ⊢; omega
        · rw [List.getElem?_take] at ha
          split at ha
          · rename_i hj
            rw [List.getElem?_drop] at ha
            refine hc.2 (f.offset + j) a u ha ?_
            simp [Array.toList_extract, List.extract_eq_take_drop, List.getElem?_take] at hu
            have := hu.2
            simpa using this
          · cases ha
      · cases ho
  · cases ho

theorem VC.splice {cs new : List AV} {us news : List Value} {c : Nat} (h1 : VC w ok α cs us) (h2 : VC w ok α new news) (hle : c + new.length ≤ cs.length) :
    VC w ok α (setCellsA cs c new) (us.take c ++ news ++ us.drop (c + news.length)) := by
  have hn := h2.1
  have hu := h1.1
  refine ⟨by rw [length_setCellsA hle]; simp; omega, fun i a u ha hu' => ?_⟩
  rw [setCellsA, splice_get cs new c i hle] at ha
  rw [splice_get us news c i (by omega)] at hu'
  rw [hn] at hu'
  split at ha
  · rename_i hc
    rw [if_pos hc] at hu'
    exact h2.2 _ a u ha hu'
  · rename_i hc
    rw [if_neg hc] at hu'
    exact h1.2 _ a u ha hu'

theorem fill_ok {places : Nat → Option (Nat × Nat)} : ∀ {parts : List (Nat × AV)} {uparts : List (Nat × Value)} {cs cs' : List AV} {us : Array Value}, fillA places cs parts = some cs' → VC w ok α cs us.toList →
    uparts.length = parts.length → (∀ (i : Nat) (a : Nat × AV) (u : Nat × Value), parts[i]? = some a → uparts[i]? = some u → u.1 = a.1 ∧ V w ok α a.2 u.2) →
    ∃ us', Instr.fill places us uparts = some us' ∧ VC w ok α cs' us'.toList
  | [], uparts, cs, cs', us, hf, hc, hl, hp => by
    have : uparts = [] := List.eq_nil_of_length_eq_zero (by simpa using hl)
    subst this
    cases hf
    exact ⟨us, rfl, hc⟩
  | (i, v) :: parts, [], cs, cs', us, hf, hc, hl, hp => by simp at hl
  | (i, v) :: parts, (i', u) :: uparts, cs, cs', us, hf, hc, hl, hp => by
    obtain ⟨h1, h2⟩ := hp 0 (i, v) (i', u) rfl rfl
    simp only at h1 h2
    subst h1
    unfold fillA at hf
    unfold Instr.fill
    cases hpl : places i' with
    | none => rw [hpl] at hf; cases hf
    | some q =>
      obtain ⟨off, size⟩ := q
      rw [hpl] at hf
      simp only at hf ⊢
      split at hf
      case isFalse => cases hf
      rename_i hcond
      obtain ⟨c1, c2, c3⟩ := hcond
      have hvc := h2.cells c3
      have hus : u.cells.size = size := by have := hvc.1; simp at this; omega
      have husz : us.size = cs.length := by have := hc.1; simpa using this
      have hnot : ¬ ((u.cells.size ≠ size || off + u.cells.size > us.size) = true) := by simp [hus]; omega
      rw [if_neg (by simpa using hnot), foldset u.cells off us (by omega)]
      have hsp := hc.splice hvc (c := off) (by omega)
      refine fill_ok hf ?_ (by simpa using hl) (fun j a x ha hx => hp (j + 1) a x (by simpa using ha) (by simpa using hx))
      have e : u.cells.toList.length = u.cells.size := by simp
      rw [e] at hsp
      exact hsp

theorem mapM_sizes : ∀ (fs : List Field), (fs.all fun f => hasT P f.type) = true → (fs.mapM (fun f => do pure (f.offset, ← sizeOf f.type) : Field → Sem (Nat × Nat))).run P w = .ok (fs.map fun f => (f.offset, P.cellsOf f.type)) w
  | [], _ => by simp
  | f :: fs, h => by
    simp at h
    have ih := mapM_sizes fs (by simpa using h.2)
    simp only [List.mapM_cons, Sem.run_bind, run_size' h.1, Result.andThen_ok, Sem.run_pure, ih, List.map_cons]

theorem build_ok {t : TypeId} {parts : List (Nat × AV)} {uparts : Array (Nat × Value)} {v : AV} (ht : buildT P t = true) (ho : oBuild P t parts = some v) (hl : uparts.size = parts.length)
    (hp : ∀ (i : Nat) (a : Nat × AV) (u : Nat × Value), parts[i]? = some a → uparts[i]? = some u → u.1 = a.1 ∧ V w ok α a.2 u.2) :
    ∃ r, (Instr.build t uparts).run P w = .ok r w ∧ V w ok α v r := by
  unfold oBuild at ho
  cases hz : zeroOf P t with
  | none => rw [hz] at ho; cases ho
  | some z =>
    rw [hz] at ho
    simp only at ho
    split at ho
    case h_2 => cases ho
    rename_i cs hcs
    obtain ⟨cs', hf, rfl⟩ := Option.map_eq_some_iff.1 ho
    have hzv : V w ok α (ofVal z) z := ofVal_ok z
    rw [hcs] at hzv
    obtain ⟨us, rfl, hc⟩ := hzv
    obtain ⟨us', hfill, hvc⟩ := fill_ok (uparts := uparts.toList) hf hc (by simpa using hl) (fun i a u ha hu => hp i a u ha (by simpa using hu))
    unfold buildT at ht
    simp only [Bool.and_eq_true] at ht
    obtain ⟨t1, t2⟩ := ht
    cases hi : P.info? t with
    | none => rw [hi] at t1; cases t1
    | some inf =>
      have hzz : inf.zero = some (.agg us) := by unfold zeroOf at hz; rw [hi] at hz; exact hz
      have hzr : (zeroValue t).run P w = .ok (.agg us) w := by simp [zeroValue, typeInfo, hi, hzz]
      refine ⟨.agg us', ?_, us', rfl, hvc⟩
      unfold placesA at hfill
      unfold Instr.build
      simp only [Sem.run_bind, hzr, Result.andThen_ok]
      cases hu : P.underlying t with
      | none => rw [hu] at t2; cases t2
      | some d =>
        rw [hu] at t2 hfill
        cases d with
        | struct fs =>
          simp only at t2 hfill
          simp only [run_underlying hu, Result.andThen_ok]
          have hm : (fs.mapM (fun f => do pure (f.offset, ← sizeOf f.type) : Field → Sem (Nat × Nat))).run P w = .ok (fs.map fun f => (f.offset, P.cellsOf f.type)) w := by
            rw [Array.mapM_eq_mapM_toList]
            have := mapM_sizes (P := P) (w := w) fs.toList (by simpa using t2)
            simp only [Sem.run_map, this]
            simp
            apply Array.ext'
            simp
          simp only [Sem.run_bind, hm, Result.andThen_ok]
          have e : (fun i => (fs.map fun f : Field => (f.offset, P.cellsOf f.type))[i]?) = fun i : Nat => (fs[i]?).map fun f : Field => (f.offset, P.cellsOf f.type) := by
            funext i; simp
          simp only [Value.cells]
          rw [show (fun x : Nat => (fs.map fun f : Field => (f.offset, P.cellsOf f.type))[x]?) = fun i => (fs[i]?).map fun f : Field => (f.offset, P.cellsOf f.type) from e, hfill]
          simp
        | array n e =>
          simp only at t2 hfill
          simp only [run_underlying hu, Result.andThen_ok, Sem.run_bind, run_size' t2, Value.cells]
          rw [hfill]
          simp
        | _ => cases t2

end
end Go.Proofs.Ytihljollfbogeaa

/- The abstract operations on maps are those of the machine. No condition. -/
namespace Go.Proofs.Ytihljollfbogeaa
open Go Go.RowKit

section
variable {P : Program} {w : World} {α : Al} {base : Nat} {h : Hp}

/-- A block under a name is another one now. -/
theorem Rel.turnG (r : Rel base h w α) {w' : World} {n b off room : Nat} {bl : Blk} {ae' : AE}
    (hv : (h n).1 < ae'.ver ∨ α n = some ae') (hblk : ae'.blk = some (b, off, room)) (hin : b < w'.heap.size)
    (hat : (∀ k, okA w α k → okA w' (upd α n ae') k ∧ w'.heap[k]? = w.heap[k]?) → Later α (upd α n ae') → At w' (okA w' (upd α n ae')) (upd α n ae') ae' bl)
    (hbase : base ≤ b) (hfresh : ∀ m ae b' o r', α m = some ae → ae.blk = some (b', o, r') → b' = b → m = n)
    (hos : w'.os = w.os) (htape : w'.tape = w.tape) (hout : w'.output = w.output) (hgrow : w.heap.size ≤ w'.heap.size) (hnew : free w α b → False)
    (hkeep : ∀ k, k < w.heap.size → k ≠ b → w'.heap[k]? = w.heap[k]?) :
    Rel base (hset h n (ae'.ver, bl)) w' (upd α n ae') ∧ Ext w α w' (upd α n ae') := by
  have hl := later_upd r hv
  have hbF : ∀ k, free w α k → free w' (upd α n ae') k ∧ w'.heap[k]? = w.heap[k]? := fun k hk => by
    have hkb : k ≠ b := fun e => hnew (e ▸ hk)
    refine ⟨⟨Nat.lt_of_lt_of_le hk.1 hgrow, fun m ae o r' ha => ?_⟩, hkeep k hk.1 hkb⟩
    by_cases e : m = n
    · subst e
      rw [upd_same] at ha
      cases ha
      rw [hblk]
      simp
      exact fun e => absurd e.symm hkb
    · rw [upd_ne _ _ e] at ha
      exact hk.2 m ae o r' ha
  have hb := okA_of_free hbF rfl
  refine ⟨⟨fun m ae ha => ?_, fun m ae ha => ?_, fun m m' ae ae1 b1 o1 r1 o2 r2 h1 h2 h3 h4 => ?_, fun m ae b1 o1 r1 h1 h2 => ?_, r.grant⟩, hos, htape, hout, hgrow, hbF, hl, rfl⟩
  · by_cases e : m = n
    · subst e
      rw [upd_same] at ha
      cases ha
      simp [hset]
    · rw [upd_ne _ _ e] at ha
      simp [hset, e]
      exact r.ver m ae ha
  · by_cases e : m = n
    · subst e
      rw [upd_same] at ha
      cases ha
      simp only [hset, if_true]
      exact hat hb hl
    · rw [upd_ne _ _ e] at ha
      simp only [hset, if_neg e]
      refine (r.at_ m ae ha).mono (fun b' o r' hb' => ?_) hb hl
      exact hkeep b' (r.base m ae b' o r' ha hb').2 (fun e' => e (hfresh m ae b' o r' ha hb' e'))
  · by_cases e : m = n
    · by_cases e' : m' = n
      · rw [e, e']
      · subst e
        rw [upd_same] at h1
        cases h1
        rw [upd_ne _ _ e'] at h2
        rw [hblk] at h3
        cases h3
        exact absurd (hfresh m' ae1 b o2 r2 h2 h4 rfl) e'
    · rw [upd_ne _ _ e] at h1
      by_cases e' : m' = n
      · subst e'
        rw [upd_same] at h2
        cases h2
        rw [hblk] at h4
        cases h4
        exact absurd (hfresh m ae b o1 r1 h1 h3 rfl) e
      · rw [upd_ne _ _ e'] at h2
        exact r.inj m m' ae ae1 b1 o1 r1 o2 r2 h1 h2 h3 h4
  · by_cases e : m = n
    · subst e
      rw [upd_same] at h1
      cases h1
      rw [hblk] at h2
      cases h2
      exact ⟨hbase, hin⟩
    · rw [upd_ne _ _ e] at h1
      have := r.base m ae b1 o1 r1 h1 h2
      exact ⟨this.1, Nat.lt_of_lt_of_le this.2 hgrow⟩

theorem mapNew_ok (r : Rel base h w α) (hb : base ≤ w.heap.size) (t : TypeId) (n : Nat) :
    ∃ x w', (Instr.makeMap t none).run P w = .ok x w' ∧ Done base w α (oMapNew h n).1 (oMapNew h n).2 x w' := by
  refine ⟨.map (some w.heap.size), w.alloc (.map #[] 0), by simp [Instr.makeMap], ?_⟩
  have key := r.turnG (w' := w.alloc (.map #[] 0)) (n := n) (bl := .map []) (ae' := ⟨(h n).1 + 1, 0, 0, some (w.heap.size, 0, 0)⟩) (.inl (Nat.lt_succ_self _)) rfl (by simp)
    (fun _ _ => ⟨w.heap.size, 0, 0, #[], 0, rfl, heap_alloc_new w _, rfl, fun i e he => by simp at he⟩) hb
    (fun m ae b' o r' ha hb e => absurd (r.base m ae b' o r' ha hb).2 (by omega)) rfl rfl rfl (by simp) (fun h => absurd h.1 (by omega)) (fun k hk _ => heap_alloc_old w _ k hk)
  exact ⟨_, key.1, key.2, V.of_V1 (.mp _ _ _ _ (upd_same _ _ _) (Nat.le_refl _) fun _ => ⟨_, _, rfl⟩)⟩

theorem find_none (k : IntKind) (i : Int) : ∀ (ms : List MapEntry) (es : List (Int × AV)) (c : Nat), ms.length = es.length → (∀ (j : Nat) (e : Int × AV), es[j]? = some e → ∃ m, ms[j]? = some m ∧ m.key = .int .i64 e.1) →
    (es.all fun e => e.1 != i) = true → Instr.findNow (.int k) (.int .i64 i) ms c = some none
  | [], _, _, _, _, _ => rfl
  | m :: ms, [], _, hl, _, _ => by simp at hl
  | m :: ms, e :: es, c, hl, hk, ha => by
    obtain ⟨m', h1, h2⟩ := hk 0 e rfl
    cases h1
    simp at ha
    have := find_none k i ms es (c + 1) (by simpa using hl) (fun j e he => hk (j + 1) e (by simpa using he)) (by simpa using ha.2)
    simp [Instr.findNow, Instr.sameNow, h2]
    rw [show (i == e.1) = false by simp; exact fun h => ha.1 h.symm]
    exact this
theorem find_get (k : IntKind) (i : Int) (zero : AV) : ∀ (ms : List MapEntry) (es : List (Int × AV)) (c : Nat), ms.length = es.length → (∀ (j : Nat) (e : Int × AV), es[j]? = some e → ∃ m, ms[j]? = some m ∧ m.key = .int .i64 e.1 ∧ V1 w (okA w α) α e.2 m.val) →
    (findA i zero es = (zero, false) ∧ Instr.findNow (.int k) (.int .i64 i) ms c = some none) ∨ ∃ a j u, findA i zero es = (a, true) ∧ Instr.findNow (.int k) (.int .i64 i) ms c = some (some (j, u)) ∧ V1 w (okA w α) α a u
  | [], [], _, _, _ => .inl ⟨rfl, rfl⟩
  | [], e :: es, _, hl, _ => by simp at hl
  | m :: ms, [], _, hl, _ => by simp at hl
  | m :: ms, e :: es, c, hl, hk => by
    obtain ⟨m', h1, h2, h3⟩ := hk 0 e rfl
    cases h1
    by_cases hi : i = e.1
    · refine .inr ⟨e.2, c, m.val, ?_, ?_, h3⟩
      · simp [findA, hi]
      · simp [Instr.findNow, Instr.sameNow, h2, hi]
    · have hne : (i == e.1) = false := by simpa using hi
      have := find_get k i zero ms es (c + 1) (by simpa using hl) (fun j e he => hk (j + 1) e (by simpa using he))
      simp only [findA, hne, Instr.findNow, Instr.sameNow, h2]
      simpa [hne, hi] using this

theorem mapPut_ok (r : Rel base h w α) {t kt et : TypeId} {kk : IntKind} {m key v : AV} {h' : Hp} {um uk uv : Value} (ht : P.underlying t = some (.map kt et)) (hk : P.underlying kt = some (.int kk))
    (ho : oMapPut h m key v = some h') (hm : V w (okA w α) α m um) (hkey : V w (okA w α) α key uk) (hv : V w (okA w α) α v uv) :
    ∃ w', (Instr.mapUpdate t um uk uv).run P w = .ok () w' ∧ ∃ α', Rel base h' w' α' ∧ Ext w α w' α' := by
  unfold oMapPut at ho
  split at ho
  · rename_i n ver i
    split at ho
    · rename_i v0 es he
      split at ho
      case isFalse => cases ho
      rename_i hc
      obtain ⟨rfl, h1, h2⟩ := hc
      cases ho
      have := hkey.sc_eq
      subst this
      cases hm with
      | low _ _ h => cases h
      | mp _ _ b ae ha hver hh =>
        have e1 := r.ver n ae ha
        rw [he] at e1
        simp only at e1
        obtain ⟨off, room, hblk⟩ := hh e1
        have hat := r.at_ n ae ha
        rw [he] at hat
        obtain ⟨b', o', r', ms, clock, g1, g2, g3, g4⟩ := hat
        rw [hblk] at g1
        cases g1
        have hck : (Instr.checkKey false 10000 kt (.int .i64 i)).run P w = .ok () w := by
          unfold Instr.checkKey
          simp [run_underlying hk]
        have hfn : (Instr.findKey kt (.int .i64 i) ms.toList).run P w = .ok none w :=
          MapKept.run_findKey hk (find_none kk i ms.toList es 0 (by simpa using g3) (fun j e hj => let ⟨_, m, x, y, _⟩ := g4 j e hj; ⟨m, by simpa using x, y⟩) h2)
        refine ⟨{ w with heap := w.heap.setIfInBounds b (.map (ms.push { key := .int .i64 i, val := uv, born := clock }) (clock + 1)) }, ?_, ?_⟩
        · simp [Instr.mapUpdate, run_underlying ht, MapKept.run_getObj_map g2, hck, hfn, MapKept.run_setObj_map _ g2]
        · have hset := MapKept.heap_set (o' := .map (ms.push { key := .int .i64 i, val := uv, born := clock }) (clock + 1)) g2
          have hblt := (Array.getElem?_eq_some_iff.1 g2).1
          have key := r.turnG (w' := { w with heap := w.heap.setIfInBounds b (.map (ms.push { key := .int .i64 i, val := uv, born := clock }) (clock + 1)) }) (n := n) (bl := .map (es ++ [(i, v)])) (ae' := ae) (.inr ha) hblk (by simpa using hblt)
            (fun hb hl => ⟨b, off, room, _, _, hblk, hset.1, by simp [g3], fun j e hj => by
              rw [List.getElem?_append] at hj
              split at hj
              · obtain ⟨x1, m, x2, x3, x4⟩ := g4 j e hj
                refine ⟨x1, m, ?_, x3, x4.mono hb hl⟩
                rw [Array.getElem?_push, if_neg (by rename_i hlt; omega)]
                exact x2
              · rename_i hlt
                have hj0 : j - es.length = 0 := by have := (List.getElem?_eq_some_iff.1 hj).1; simp at this; omega
                rw [hj0] at hj
                simp at hj
                subst hj
                have hv1 : V1 w (okA w α) α v uv := by
                  cases v <;> first | exact hv | (simp [AV.one] at h1)
                exact ⟨h1, { key := .int .i64 i, val := uv, born := clock }, by rw [Array.getElem?_push, if_pos (by omega)], rfl, hv1.mono hb hl⟩⟩)
            (r.base n ae b off room ha hblk).1 (fun m ae1 b' o r' hm hb e => by subst e; exact r.inj m n ae1 ae b' o r' off room hm ha hb hblk) rfl rfl rfl (by simp) (fun hk => hk.2 n ae off room ha hblk) (fun k _ hk => hset.2 k hk)
          rw [← e1] at key
          exact ⟨_, key⟩
    · cases ho
  · cases ho

theorem mapGet_ok (r : Rel base h w α) {t kt et : TypeId} {kk : IntKind} {m key v : AV} {um uk z : Value} (ht : P.underlying t = some (.map kt et)) (hk : P.underlying kt = some (.int kk)) (hz : zeroOf P et = some z) (hz1 : (ofVal z).one = true)
    (ho : oMapGet h (ofVal z) m key = some v) (hm : V w (okA w α) α m um) (hkey : V w (okA w α) α key uk) :
    ∃ x, (Instr.lookup t um uk true).run P w = .ok x w ∧ V w (okA w α) α v x := by
  unfold oMapGet at ho
  split at ho
  · rename_i n ver i
    split at ho
    · rename_i v0 es he
      split at ho
      case isFalse => cases ho
      rename_i hv0
      subst hv0
      cases ho
      have := hkey.sc_eq
      subst this
      cases hm with
      | low _ _ h => cases h
      | mp _ _ b ae ha hver hh =>
        have e1 := r.ver n ae ha
        rw [he] at e1
        simp only at e1
        obtain ⟨off, room, hblk⟩ := hh e1
        have hat := r.at_ n ae ha
        rw [he] at hat
        obtain ⟨b', o', r', ms, clock, g1, g2, g3, g4⟩ := hat
        rw [hblk] at g1
        cases g1
        have hck : (Instr.checkKey ms.isEmpty 10000 kt (.int .i64 i)).run P w = .ok () w := by
          unfold Instr.checkKey
          simp [run_underlying hk]
        have hzr : (zeroValue et).run P w = .ok z w := by
          unfold zeroOf at hz
          cases hi : P.info? et with
          | none => rw [hi] at hz; cases hz
          | some inf => rw [hi] at hz; simp at hz; simp [zeroValue, typeInfo, hi, hz]
        have hzv : V1 w (okA w α) α (ofVal z) z := by
          have := ofVal_ok (w := w) (ok := okA w α) (α := α) z
          cases hq : ofVal z <;> rw [hq] at this hz1 <;> first | exact this | (simp [AV.one] at hz1)
        have hg := find_get (w := w) (α := α) kk i (ofVal z) ms.toList es 0 (by simpa using g3) (fun j e hj => let ⟨_, m, x, y, q⟩ := g4 j e hj; ⟨m, by simpa using x, y, q⟩)
        rcases hg with ⟨q1, q2⟩ | ⟨a, j, u, q1, q2, q3⟩
        · refine ⟨.tuple #[z, .bool false], by simp [Instr.lookup, run_underlying ht, MapKept.run_getObj_map g2, hck, MapKept.run_findKey hk q2, hzr], ?_⟩
          rw [q1]
          refine ⟨[z, .bool false], rfl, rfl, fun i a x ha hx => ?_⟩
          match i, ha, hx with
          | 0, ha, hx => simp at ha hx; subst ha; subst hx; exact VA.of_V1 hzv
          | 1, ha, hx => simp at ha hx; subst ha; subst hx; exact VA.of_V1 (.low _ _ (.sc _ rfl))
        · refine ⟨.tuple #[u, .bool true], by simp [Instr.lookup, run_underlying ht, MapKept.run_getObj_map g2, hck, MapKept.run_findKey hk q2], ?_⟩
          rw [q1]
          refine ⟨[u, .bool true], rfl, rfl, fun i a x ha hx => ?_⟩
          match i, ha, hx with
          | 0, ha, hx => simp at ha hx; subst ha; subst hx; exact VA.of_V1 q3
          | 1, ha, hx => simp at ha hx; subst ha; subst hx; exact VA.of_V1 (.low _ _ (.sc _ rfl))
    · cases ho
  · cases ho

end
end Go.Proofs.Ytihljollfbogeaa

/- Blocks of ours that nobody writes any more: their values without our names. No condition. -/
namespace Go.Proofs.Ytihljollfbogeaa
open Go Go.RowKit

/-- A cell of ours, as what it is when nobody writes it any more. -/
def fz0 (h : Hp) : AV → AV
  | .sc v => .sc v
  | .nl => .imm []
  | .imm xs => .imm xs
  | .full xs => .imm xs
  | .ref n ver i len =>
    match rowAt? h n ver with
    | some (_, els) => if i + len ≤ els.length ∧ els.all AV.pure = true then .imm (((els.drop i).take len).map norm) else .junk
    | none => .junk
  | .ipt cs c => .ipt cs c
  | _ => .junk
def fz1 (h : Hp) : AV → AV
  | .ptr n ver e c =>
    match rowAt? h n ver with
    | some (_, els) => match els[e]? with
      | some el => if (el.cells.map (fz0 h)).all AV.one = true then .ipt (el.cells.map (fz0 h)) c else .junk
      | none => .junk
    | none => .junk
  | a => fz0 h a
def fzA (h : Hp) : AV → AV
  | .agg cs => .agg (cs.map (fz1 h))
  | v => fz1 h v
def fz (h : Hp) : AV → AV
  | .tup vs => .tup (vs.map (fzA h))
  | v => fzA h v

/-- The blocks of ours behind a value. -/
def nm0 : AV → List Nat
  | .ref n _ _ _ => [n]
  | _ => []
def nm1 (h : Hp) : AV → List Nat
  | .ref n _ _ _ => [n]
  | .ptr n ver e _ => n :: (match rowAt? h n ver with
    | some (_, els) => match els[e]? with
      | some el => el.cells.flatMap nm0
      | none => []
    | none => [])
  | _ => []
def nmA (h : Hp) : AV → List Nat
  | .agg cs => cs.flatMap (nm1 h)
  | v => nm1 h v
def nm (h : Hp) : AV → List Nat
  | .tup vs => vs.flatMap (nmA h)
  | v => nmA h v

def emp : Al := ⟨fun _ => none, fun _ => True⟩

/-- Block b is known, and is not ours or has one of some names. -/
def okF (w : World) (α : Al) (names : List Nat) (b : Nat) : Prop :=
  okA w α b ∨ (b < w.heap.size ∧ α.G b ∧ ∃ n ∈ names, ∃ ae o r, α n = some ae ∧ ae.blk = some (b, o, r))

section
variable {P : Program} {w : World} {α : Al} {base : Nat} {h : Hp}

theorem Later.emp (α : Al) : Later emp α := fun _ _ h => by cases h

theorem nl_imm {ok : Nat → Prop} (A : Option Addr) : V0 w ok (.imm []) (.slice A 0 0) :=
  V0.imm [] A 0 0 0 0 (fun _ _ => undef) (by simp) (fun j el h => by simp at h) (fun j el c a h => by simp at h) (fun j el c a h => by simp at h)

theorem fz0_ok (r : Rel base h w α) {names : List Nat} {a : AV} {u : Value} (hv : V1 w (okA w α) α a u) (hn : ∀ n ∈ nm0 a, n ∈ names) : (fz0 h a).one = true → V0 w (okF w α names) (fz0 h a) u := by
  have hok : ∀ b, okA w α b → okF w α names b ∧ w.heap[b]? = w.heap[b]? := fun b hb => ⟨.inl hb, rfl⟩
  cases hv with
  | low _ _ hv =>
    intro _
    cases hv with
    | sc _ h => exact .sc _ h
    | nl A => exact nl_imm A
    | imm xs A cap sz b o U h1 h2 h3 h4 => exact V0.mono (.imm xs A cap sz b o U h1 h2 h3 h4) hok
    | full xs A sz b o U h2 h3 h4 => exact V0.mono (.imm xs A _ sz b o U (Nat.le_refl _) h2 h3 h4) hok
    | ipt cs c b o U h1 h2 h3 => exact V0.mono (.ipt cs c b o U h1 h2 h3) hok
  | ref n ver i len A cap ae hl ha hver hh =>
    simp only [fz0]
    cases hr : rowAt? h n ver with
    | none => intro h1; simp [AV.one] at h1
    | some q =>
      obtain ⟨sz, els⟩ := q
      simp only
      split
      case isFalse => intro h1; simp [AV.one] at h1
      rename_i hc
      obtain ⟨hle, hp⟩ := hc
      intro _
      obtain ⟨e1, e2, e3, e4, e5⟩ := r.row hr ha
      obtain ⟨g1, g2, g3⟩ := hh e1.symm
      have hlen : (((els.drop i).take len).map norm).length = len := by simp; omega
      cases hblk : ae.blk with
      | none =>
        rw [hblk] at g3
        have hnil := e4 hblk
        subst hnil
        simp only at g3
        have h0 : len = 0 := by omega
        subst h0
        subst g3
        simpa using nl_imm (w := w) (ok := okF w α names) A
      | some q =>
        obtain ⟨b, off, room⟩ := q
        rw [hblk] at g3
        have O := e5 b off room hblk
        have hg : ∀ (j : Nat) (el : AV), (((els.drop i).take len).map norm)[j]? = some el → ∃ el', els[i + j]? = some el' ∧ el = norm el' ∧ el'.storable = true := fun j el he => by
          rw [List.getElem?_map] at he
          obtain ⟨el', h1, rfl⟩ := Option.map_eq_some_iff.1 he
          rw [List.getElem?_take] at h1
          split at h1
          · rw [List.getElem?_drop] at h1
            refine ⟨el', h1, rfl, List.all_eq_true.2 fun a ha => ?_⟩
            obtain ⟨c, hc⟩ := List.mem_iff_getElem?.1 ha
            exact O.one _ el' h1 c a hc
          · cases h1
        have := V0.imm (w := w) (ok := okF w α names) (((els.drop i).take len).map norm) A cap sz b (off + i * sz) (fun j c => (w.cell? ⟨b, off + i * sz + (j * sz + c), none⟩).getD undef) (by omega)
          (fun j el he => by
            obtain ⟨el', h1, rfl, hs⟩ := hg j el he
            refine ⟨by rw [norm_cells hs, List.length_map]; exact O.len _ el' h1, ?_, .inr ⟨(r.base n ae b off room ha hblk).2, r.grant _ (r.base n ae b off room ha hblk).1, n, hn n (by simp [nm0]), ae, off, room, ha, hblk⟩⟩
            have hlt := (List.getElem?_eq_some_iff.1 he).1
            rw [hlen] at hlt
            have := g3.2 (by omega)
            rw [e2] at this
            exact this)
          (fun j el c a he ha => by
            obtain ⟨el', h1, rfl, hs⟩ := hg j el he
            obtain ⟨a', h2, rfl⟩ := norm_get hs ha
            obtain ⟨x, hx, hv1, _⟩ := O.lie (i + j) el' h1 c a' h2
            rw [show off + (i + j) * sz + c = off + i * sz + (j * sz + c) by rw [Nat.add_mul]; omega] at hx
            simp [hx])
          (fun j el c a he ha => by
            obtain ⟨el', h1, rfl, hs⟩ := hg j el he
            obtain ⟨a', h2, rfl⟩ := norm_get hs ha
            obtain ⟨x, hx, hv1, _⟩ := O.lie (i + j) el' h1 c a' h2
            rw [show off + (i + j) * sz + c = off + i * sz + (j * sz + c) by rw [Nat.add_mul]; omega] at hx
            simp only [hx, Option.getD_some]
            have hp1 : a'.pure1 = true := List.all_eq_true.1 (List.all_eq_true.1 hp el' (List.mem_of_getElem? h1)) a' (List.mem_of_getElem? h2)
            exact (pure1_V0 hp1 hv1).mono hok)
        rw [hlen] at this
        exact this
  | ptr => intro h1; simp [fz0, AV.one] at h1
  | mp => intro h1; simp [fz0, AV.one] at h1
  | fn => intro h1; simp [fz0, AV.one] at h1
  | junk => intro h1; simp [fz0, AV.one] at h1

/-- Every cell, frozen: what it was, or unknown. -/
theorem fz1_ok (r : Rel base h w α) {names : List Nat} {a : AV} {u : Value} (hv : V1 w (okA w α) α a u) (hn : ∀ n ∈ nm1 h a, n ∈ names) : V1 w (okF w α names) emp (fz1 h a) u := by
  have low : (∀ n ver e c, a ≠ .ptr n ver e c) → V1 w (okF w α names) emp (fz1 h a) u := fun hne => by
    have e1 : fz1 h a = fz0 h a := by cases a <;> first | rfl | exact absurd rfl (hne _ _ _ _)
    have e2 : nm1 h a = nm0 a := by cases a <;> first | rfl | exact absurd rfl (hne _ _ _ _)
    rw [e1]
    rw [e2] at hn
    have := fz0_ok r hv hn
    cases hq : fz0 h a <;> rw [hq] at this <;> first | exact .junk u | exact .low _ _ (this rfl) | skip
    · cases a <;> simp [fz0] at hq
      split at hq <;> (try split at hq) <;> cases hq
    · cases a <;> simp [fz0] at hq
      split at hq <;> (try split at hq) <;> cases hq
  cases hv with
  | ptr n ver e c a ae ha hver hh =>
    simp only [fz1]
    cases hr : rowAt? h n ver with
    | none => exact .junk _
    | some q =>
      obtain ⟨sz, els⟩ := q
      simp only
      cases hel : els[e]? with
      | none => exact .junk _
      | some el =>
        simp only
        split
        case isFalse => exact .junk _
        rename_i hall
        obtain ⟨e1, e2, e3, e4, e5⟩ := r.row hr ha
        obtain ⟨b, off, room, hblk, rfl⟩ := hh e1.symm
        have O := e5 b off room hblk
        have hnel : ∀ x ∈ el.cells, ∀ m ∈ nm0 x, m ∈ names := fun x hx m hm => hn m (by simp only [nm1, hr, hel]; exact List.mem_cons_of_mem _ (List.mem_flatMap.2 ⟨x, hx, hm⟩))
        rw [e2]
        have := V0.ipt (w := w) (ok := okF w α names) (el.cells.map (fz0 h)) c b (off + e * sz) (fun i => (w.cell? ⟨b, off + e * sz + i, none⟩).getD undef)
          (.inr ⟨(r.base n ae b off room ha hblk).2, r.grant _ (r.base n ae b off room ha hblk).1, n, hn n (by simp [nm1]), ae, off, room, ha, hblk⟩)
          (fun i a hi => by
            rw [List.getElem?_map] at hi
            obtain ⟨x, hx, rfl⟩ := Option.map_eq_some_iff.1 hi
            obtain ⟨y, hy, hv1, _⟩ := O.lie e el hel i x hx
            simp [hy])
          (fun i a hi => by
            have hone := List.all_eq_true.1 hall a (List.mem_of_getElem? hi)
            rw [List.getElem?_map] at hi
            obtain ⟨x, hx, rfl⟩ := Option.map_eq_some_iff.1 hi
            obtain ⟨y, hy, hv1, _⟩ := O.lie e el hel i x hx
            simp only [hy, Option.getD_some]
            exact fz0_ok r hv1 (hnel x (List.mem_of_getElem? hx)) hone)
        exact .low _ _ this
  | low _ _ hv => exact low (fun _ _ _ _ e => by subst e; cases hv)
  | ref => exact low (fun _ _ _ _ e => by cases e)
  | mp => exact low (fun _ _ _ _ e => by cases e)
  | fn => exact low (fun _ _ _ _ e => by cases e)
  | junk => exact low (fun _ _ _ _ e => by cases e)

theorem fzA_ok (r : Rel base h w α) {names : List Nat} {a : AV} {u : Value} (hv : VA w (okA w α) α a u) (hn : ∀ n ∈ nmA h a, n ∈ names) : VA w (okF w α names) emp (fzA h a) u := by
  cases a with
  | agg cs =>
    obtain ⟨us, rfl, hc⟩ := hv
    refine ⟨us, rfl, by simp [hc.1], fun i a u ha hu => ?_⟩
    rw [List.getElem?_map] at ha
    obtain ⟨x, hx, rfl⟩ := Option.map_eq_some_iff.1 ha
    have := hc.2 i x u hx hu
    exact ⟨fz1_ok r this.1 (fun n hm => hn n (List.mem_flatMap.2 ⟨x, List.mem_of_getElem? hx, hm⟩)), this.2⟩
  | _ => exact VA.of_V1 (fz1_ok r hv hn)

theorem V.of_VA' {ok : Nat → Prop} {a : AV} {u : Value} (h : VA w ok α a u) : V w ok α a u := by
  cases a with
  | tup vs => cases h with | low _ _ h => cases h
  | _ => exact h

theorem V.toVA {ok : Nat → Prop} {a : AV} {u : Value} (h : V w ok α a u) (ht : ∀ vs, a ≠ .tup vs) : VA w ok α a u := by
  cases a <;> first | exact h | exact absurd rfl (ht _)

theorem fz_ok (r : Rel base h w α) {names : List Nat} {a : AV} {u : Value} (hv : V w (okA w α) α a u) (hn : ∀ n ∈ nm h a, n ∈ names) : V w (okF w α names) emp (fz h a) u := by
  cases a with
  | tup vs =>
    obtain ⟨us, rfl, hl, hc⟩ := hv
    refine ⟨us, rfl, by simp [hl], fun i a x ha hx => ?_⟩
    rw [List.getElem?_map] at ha
    obtain ⟨y, hy, rfl⟩ := Option.map_eq_some_iff.1 ha
    exact fzA_ok r (hc i y x hy hx) (fun n hm => hn n (List.mem_flatMap.2 ⟨y, List.mem_of_getElem? hy, hm⟩))
  | _ => exact V.of_VA' (fzA_ok r (hv.toVA (by intro vs e; cases e)) hn)

/-! ### Blocks given up -/
def kills (h : Hp) : List Nat → Hp
  | [] => h
  | n :: r => kills (hset h n ((h n).1 + 1, .dead)) r

theorem kills_ok : ∀ {names : List Nat} {h : Hp} {α : Al}, Rel base h w α → ∃ α', Rel base (kills h names) w α' ∧ Ext w α w α' ∧ (∀ b, okF w α names b → okA w α' b) ∧ ∀ m, m ∉ names → α' m = α m
  | [], h, α, r => ⟨α, r, Ext.refl _ _, (fun b hb => by
      rcases hb with hb | ⟨_, _, n, hn, _⟩
      · exact hb
      · cases hn), fun _ _ => rfl⟩
  | n :: names, h, α, r => by
    obtain ⟨r1, e1⟩ := r.drop n
    obtain ⟨α', r2, e2, h2, h3⟩ := kills_ok (names := names) r1
    refine ⟨α', r2, e1.trans e2, fun b hb => h2 b ?_, fun m hm => (h3 m (fun h => hm (List.mem_cons_of_mem _ h))).trans (upd_ne _ _ (fun e => hm (e ▸ List.mem_cons_self)))⟩
    have own : ∀ ae o r', α n = some ae → ae.blk = some (b, o, r') → b < w.heap.size → α.G b → okF w (upd α n ⟨(h n).1 + 1, 0, 0, none⟩) names b := fun ae o r' ha hblk hlt hG => .inl ⟨⟨hlt, hG⟩, fun m ae' o' r'' hm hb' => by
      by_cases e : m = n
      · subst e; rw [upd_same] at hm; cases hm; cases hb'
      · rw [upd_ne _ _ e] at hm
        exact e (r.inj m n ae' ae b o' r'' o r' hm ha hb' hblk)⟩
    rcases hb with hb | ⟨hlt, hG, m, hm, ae, o, r', ha, hblk⟩
    · exact .inl (e1.keep b hb).1
    · rcases List.mem_cons.1 hm with rfl | hm
      · exact own ae o r' ha hblk hlt hG
      · by_cases e : m = n
        · subst e; exact own ae o r' ha hblk hlt hG
        · exact .inr ⟨hlt, hG, m, hm, ae, o, r', by rw [upd_ne _ _ e]; exact ha, hblk⟩

/-! ### What names them still -/
def thaw1 (h : Hp) (names : List Nat) (a : AV) : AV :=
  match nm1 h a with
  | [] => a
  | ns => if (ns.all fun n => names.contains n) = true ∧ (fz1 h a).one = true then fz1 h a else a
def thawA (h : Hp) (names : List Nat) : AV → AV
  | .agg cs => .agg (cs.map (thaw1 h names))
  | v => thaw1 h names v
def thaw (h : Hp) (names : List Nat) : AV → AV
  | .tup vs => .tup (vs.map (thawA h names))
  | v => thawA h names v
def thawB (h : Hp) (names : List Nat) : Blk → Blk
  | .row sz els => .row sz (els.map (thawA h names))
  | b => b
def thawH (h : Hp) (names : List Nat) : Hp := fun n => ((h n).1, thawB h names (h n).2)

/-- Cells after some blocks are given up. -/
theorem thaw1_ok (r : Rel base h w α) {α' : Al} {names : List Nat} {a : AV} {u : Value} (hx : Ext w α w α') (hf : ∀ b, okF w α names b → okA w α' b) (hv : V1 w (okA w α) α a u) : V1 w (okA w α') α' (thaw1 h names a) u := by
  unfold thaw1
  split
  · exact hv.ext hx
  · rename_i ns heq
    split
    · rename_i hc
      have := fz1_ok (names := names) r hv (fun n hn => by
        have := List.all_eq_true.1 hc.1 n hn
        simpa using this)
      exact this.mono (fun b hb => ⟨hf b hb, rfl⟩) (Later.emp α')
    · exact hv.ext hx
theorem thaw1_one {names : List Nat} {a : AV} (h1 : a.one = true) : (thaw1 h names a).one = true := by
  unfold thaw1
  split
  · exact h1
  · split
    · rename_i hc; exact hc.2
    · exact h1
theorem thawA_ok (r : Rel base h w α) {α' : Al} {names : List Nat} {a : AV} {u : Value} (hx : Ext w α w α') (hf : ∀ b, okF w α names b → okA w α' b) (hv : VA w (okA w α) α a u) : VA w (okA w α') α' (thawA h names a) u := by
  cases a with
  | agg cs =>
    obtain ⟨us, rfl, hc⟩ := hv
    refine ⟨us, rfl, by simp [hc.1], fun i a u ha hu => ?_⟩
    rw [List.getElem?_map] at ha
    obtain ⟨x, hx', rfl⟩ := Option.map_eq_some_iff.1 ha
    have := hc.2 i x u hx' hu
    exact ⟨thaw1_ok r hx hf this.1, this.2⟩
  | _ => exact VA.of_V1 (thaw1_ok r hx hf hv)
theorem thaw_ok (r : Rel base h w α) {α' : Al} {names : List Nat} {a : AV} {u : Value} (hx : Ext w α w α') (hf : ∀ b, okF w α names b → okA w α' b) (hv : V w (okA w α) α a u) : V w (okA w α') α' (thaw h names a) u := by
  cases a with
  | tup vs =>
    obtain ⟨us, rfl, hl, hc⟩ := hv
    refine ⟨us, rfl, by simp [hl], fun i a x ha hx' => ?_⟩
    rw [List.getElem?_map] at ha
    obtain ⟨y, hy, rfl⟩ := Option.map_eq_some_iff.1 ha
    exact thawA_ok r hx hf (hc i y x hy hx')
  | _ => exact V.of_VA' (thawA_ok r hx hf (hv.toVA (by intro vs e; cases e)))

/-- The whole heap, after some blocks are given up. -/
theorem thawH_ok (r : Rel base h w α) (names : List Nat) : ∃ α', Rel base (kills (thawH h names) names) w α' ∧ Ext w α w α' ∧ (∀ b, okF w α names b → okA w α' b) ∧
    ∀ (a : AV) (u : Value), V w (okA w α) α a u → V w (okA w α') α' (thaw h names a) u := by
  obtain ⟨α', r', e', hf, hsame⟩ := kills_ok (names := names) r
  have ver : ∀ (ns : List Nat) (h0 h1 : Hp), (∀ m, (h1 m).1 = (h0 m).1) → ∀ m, (kills h1 ns m).1 = (kills h0 ns m).1 := by
    intro ns
    induction ns with
    | nil => intro h0 h1 hh m; exact hh m
    | cons n ns ih =>
      intro h0 h1 hh m
      refine ih _ _ (fun m => ?_) m
      unfold hset
      by_cases e : m = n
      · simp [e, hh n]
      · simp only [if_neg e]; exact hh m
  have keep : ∀ (ns : List Nat) (h0 : Hp) (m : Nat), m ∉ ns → kills h0 ns m = h0 m := by
    intro ns
    induction ns with
    | nil => intro h0 m _; rfl
    | cons n ns ih =>
      intro h0 m hm
      simp only [kills]
      rw [ih _ m (fun h => hm (List.mem_cons_of_mem _ h))]
      simp [hset, show m ≠ n from fun e => hm (e ▸ List.mem_cons_self)]
  have dead : ∀ (ns : List Nat) (h0 : Hp) (m : Nat), m ∈ ns ∨ (h0 m).2 = .dead → (kills h0 ns m).2 = .dead := by
    intro ns
    induction ns with
    | nil => intro h0 m hm; rcases hm with hm | hm; cases hm; exact hm
    | cons n ns ih =>
      intro h0 m hm
      refine ih _ m ?_
      by_cases e : m = n
      · right; simp [hset, e]
      · rcases hm with hm | hm
        · rcases List.mem_cons.1 hm with hm | hm
          · exact absurd hm e
          · exact .inl hm
        · right; simp [hset, e, hm]
  refine ⟨α', ⟨fun m ae ha => by rw [ver names h (thawH h names) (fun _ => rfl)]; exact r'.ver m ae ha, fun m ae ha => ?_, r'.inj, r'.base, r'.grant⟩, e', hf, fun a u hv => thaw_ok r e' hf hv⟩
  by_cases hm : m ∈ names
  · have h1 := r'.at_ m ae ha
    rw [dead names h m (.inl hm)] at h1
    rw [dead names (thawH h names) m (.inl hm)]
    exact h1
  · rw [keep names _ m hm]
    have ha0 : α m = some ae := (hsame m hm).symm.trans ha
    have hat := r.at_ m ae ha0
    have hnew := hat.mono (fun _ _ _ _ => rfl) e'.keep e'.later
    simp only [thawH]
    cases hb : (h m).2 with
    | dead => rw [hb] at hnew; exact hnew
    | map es => rw [hb] at hnew; exact hnew
    | row sz els =>
      rw [hb] at hat
      simp only [thawB]
      obtain ⟨h1, h2, h3⟩ := hat
      refine ⟨h1, by simpa using h2, ?_⟩
      cases hblk : ae.blk with
      | none => rw [hblk] at h3; simp only at h3 ⊢; rw [h3]; rfl
      | some q =>
        obtain ⟨b, off, room⟩ := q
        rw [hblk] at h3
        simp only at h3 ⊢
        obtain ⟨h4, cs, t, h5, h6, h7⟩ := h3
        refine ⟨by simpa using h4, cs, t, h5, h6, fun e el he => ?_⟩
        rw [List.getElem?_map] at he
        obtain ⟨el0, h8, rfl⟩ := Option.map_eq_some_iff.1 he
        obtain ⟨h9, h10⟩ := h7 e el0 h8
        have hcells : (thawA h names el0).cells = el0.cells.map (thaw1 h names) := by
          have one : ∀ a : AV, a.one = true → a.cells = [a] := fun a ha => by cases a <;> first | rfl | (simp [AV.one] at ha)
          have hs : el0.storable = true := List.all_eq_true.2 fun a ha => by
            obtain ⟨c, hc⟩ := List.mem_iff_getElem?.1 ha
            exact (h10 c a hc).1
          cases el0 with
          | agg cs => rfl
          | _ =>
            have h11 := thaw1_one (h := h) (names := names) (a := _) (by simpa [AV.storable, AV.cells] using hs)
            exact one _ h11
        rw [hcells]
        refine ⟨by simpa using h9, fun c a hc => ?_⟩
        rw [List.getElem?_map] at hc
        obtain ⟨x, hx, rfl⟩ := Option.map_eq_some_iff.1 hc
        obtain ⟨h11, y, h12, h13⟩ := h10 c x hx
        exact ⟨thaw1_one h11, y, h12, thaw1_ok r e' hf h13⟩

end
end Go.Proofs.Ytihljollfbogeaa

/- A small language for the operations, what they do to abstract values, and when an operation of the program is one of them. No condition. -/
namespace Go.Proofs.Ytihljollfbogeaa
open Go Go.RowKit

inductive COp where
  | mv (x : Operand)
  | pick (c a b : Operand)
  | inv (x : Operand)
  | isnil (x : Operand)
  | bin (op : BinOp) (bl : Bool) (fl : Option Nat) (x y : Operand)
  | chk (x : Operand)
  | alloc (z : Value)
  | box (x : Operand)
  | load (agg : Bool) (k : Nat) (p : Operand)
  | store (k : Nat) (p v : Operand)
  | faddr (off : Nat) (x : Operand)
  | iaddrS (k : Nat) (x i : Operand)
  | iaddrA (len k : Nat) (x i : Operand)
  | field (agg : Bool) (k off : Nat) (x : Operand)
  | ext (i : Nat) (x : Operand)
  | cint (k : IntKind) (x : Operand)
  | cstr (x : Operand)
  | make (k : Nat) (z : Value) (x : Operand)
  | mk0 (k : Nat) (x : Operand)
  | lit (k : Nat) (xs : List Operand)
  | build (z : Value) (parts : List (Nat × Nat × Operand))
  | slc (k : Nat) (x : Operand) (lo hi mx : Option Operand)
  | len (x : Operand)
  | cap (x : Operand)
  | mn (x y : Operand)
  | mx (x y : Operand)
  | app (k : Nat) (s x : Operand)
  | appZ (k : Nat) (z : Value) (s x : Operand)
  | cpy (k : Nat) (d x : Operand)
  | clr (k : Nat) (z : Value) (d : Operand)
  | mnew
  | mput (m k v : Operand)
  | mget (z : Value) (m k : Operand)
  | fn (f : FuncId) (first caps : List Operand)
  | call (f : FuncId) (args : List Operand)
  | callv (x : Operand) (args : List Operand)

/-- One change of the heap. -/
abbrev Dl := Option (Nat × (Nat × Blk))
def appD (h : Hp) : Dl → Hp
  | none => h
  | some (n, x) => hset h n x
def dl (n : Nat) (r : Option (AV × Hp)) : Option (AV × Dl) := r.map fun q => (q.1, some (n, q.2 n))
def dl0 (n : Nat) (r : Option Hp) : Option (AV × Dl) := r.map fun h => (.junk, some (n, h n))
def pu (r : Option AV) : Option (AV × Dl) := r.map fun v => (v, none)
/-- Under one name, what append made is given up at once: nobody writes it any more. -/
def frzD (n : Nat) (r : Option (AV × Dl)) : Option (AV × Dl) :=
  if n = 512000000029 then r.bind fun p => match p.1, p.2 with
    | .ref m ver 0 len, some (m', (ver', .row _ els)) => if m = m' ∧ ver = ver' ∧ len = els.length ∧ els.all AV.pure = true then some (.imm (els.map norm), some (m', (ver' + 1, .dead))) else none
    | _, _ => none
  else r
/-- The block that an operation on a value writes; else the operation's own. -/
def nameOr (n : Nat) : AV → Nat
  | .ptr m _ _ _ => m
  | .ref m _ _ _ => m
  | .mp m _ => m
  | _ => n

def oBinC (op : BinOp) (bl : Bool) (fl : Option Nat) (x y : AV) : Option AV :=
  match x, y with
  | .sc (.int k a), .sc (.int k' b) => if k = k' then (binInt op k a b).map .sc else none
  | .sc (.bool a), .sc (.bool b) =>
    if bl then
      match op with
      | .eql => some (.sc (.bool (a == b)))
      | .neq => some (.sc (.bool (!(a == b))))
      | _ => none
    else none
  | .sc (.string a), .sc (.string b) =>
    match op with
    | .eql => some (.sc (.bool (a.toList == b.toList)))
    | .neq => some (.sc (.bool !(a.toList == b.toList)))
    | _ => none
  | .agg a, .agg b =>
    match fl with
    | some k => if a.length = k then
        match op with
        | .eql => (sameCells a b).map fun r => .sc (.bool r)
        | .neq => (sameCells a b).map fun r => .sc (.bool (!r))
        | _ => none
      else none
    | none => none
  | _, _ => none
def boolT (P : Program) (t : TypeId) : Bool := match P.underlying t with | some .bool => true | _ => false
def flatK (P : Program) (t : TypeId) : Option Nat := if flatEq P t then some (P.cellsOf t) else none
theorem oBin_eq (P : Program) (op : BinOp) (t : TypeId) (x y : AV) (v : AV) (h : oBinC op (boolT P t) (flatK P t) x y = some v) : oBin P op t x y = some v := by
  unfold oBinC at h
  unfold oBin
  split at h
  · exact h
  · simp only
    unfold boolT at h
    split at h
    · rename_i hu
      simp only [if_true] at h
      rw [hu]
      split at h <;> simp_all
    · simp at h
  · exact h
  · simp only
    unfold flatK at h
    cases hf : flatEq P t
    · simp [hf] at h
    · simp only [hf, if_true] at h
      split at h
      · rename_i hl
        simp [hl]
        exact h
      · cases h
  · cases h

def oMk0 (h : Hp) (n k : Nat) (x : AV) : Option (AV × Hp) :=
  match x with
  | .sc (.int _ m) => if 0 ≤ m ∧ m ≤ LIM then some (.ref n ((h n).1 + 1) 0 0, hset h n ((h n).1 + 1, .row k [])) else none
  | _ => none

/-- Parts laid over the zero value, their places given. -/
def fillC (cells : List AV) : List (Nat × Nat × AV) → Option (List AV)
  | [] => some cells
  | (off, size, v) :: rest => if v.cells.length = size ∧ off + size ≤ cells.length ∧ v.storable = true then fillC (setCellsA cells off v.cells) rest else none

def oBuildC (z : Value) (parts : List (Nat × Nat × AV)) : Option AV :=
  match ofVal z with
  | .agg cs => (fillC cs parts).map .agg
  | _ => none

/-- Of one cell. -/
def AV.single : AV → Bool
  | .agg _ | .tup _ => false
  | _ => true

/-- What an operation that is no call does. -/
def COp.ev (n : Nat) (e : Env) (h : Hp) : COp → Option (AV × Dl)
  | .mv x => some (aEval e x, none)
  | .pick c a b => pu (oPick (aEval e c) (aEval e a) (aEval e b))
  | .inv x => pu (oNot (aEval e x))
  | .isnil x => pu (oIsNil h (aEval e x))
  | .bin op bl fl x y => pu (oBinC op bl fl (aEval e x) (aEval e y))
  | .chk x => pu (oNil (aEval e x))
  | .alloc z => dl n (oNew h n (ofVal z))
  | .box x => dl n (oNew h n (aEval e x))
  | .load agg k p => pu (oLoad agg k h (aEval e p))
  | .store k p v => dl0 (nameOr n (aEval e p)) (oStore k h (aEval e p) (aEval e v))
  | .faddr off x => pu (oFieldAddr off (aEval e x))
  | .iaddrS k x i => pu (oIndexS k h (aEval e x) (aEval e i))
  | .iaddrA l k x i => pu (oIndexA l k (aEval e x) (aEval e i))
  | .field agg k off x => pu (match aEval e x with | .agg cs => partA agg k off cs | _ => none)
  | .ext i x => pu (oExtract i (aEval e x))
  | .cint k x => pu (oConvInt k (aEval e x))
  | .cstr x => pu (oConvStr h (aEval e x))
  | .make k z x => dl n (oMake h n k (ofVal z) (aEval e x))
  | .mk0 k x => dl n (oMk0 h n k (aEval e x))
  | .lit k xs => dl n (oLit h n k (xs.map (aEval e)))
  | .build z ps => pu (oBuildC z (ps.map fun p => (p.1, p.2.1, aEval e p.2.2)))
  | .slc k x lo hi m => pu (oSlice h k (aEval e x) (lo.map (aEval e)) (hi.map (aEval e)) (m.map (aEval e)))
  | .len x => pu (oLen (aEval e x))
  | .cap x => pu (oCap (aEval e x))
  | .mn x y => pu (oMin (aEval e x) (aEval e y))
  | .mx x y => pu (oMax (aEval e x) (aEval e y))
  | .app k s x => frzD n (dl (nameOr n (aEval e s)) ((oElems h (aEval e x)).bind fun ys => oAppend h n k (aEval e s) ys))
  | .appZ k z s x =>
    match aEval e s, aEval e x with
    | .nl, .sc (.int .i64 m) => if 0 < m ∧ m ≤ LIM then dl n (oAppend h n k .nl (List.replicate m.toNat (ofVal z))) else none
    | _, _ => none
  | .cpy k d x => dl (nameOr n (aEval e d)) ((oElems h (aEval e x)).bind fun ys => oCopy h k (aEval e d) ys)
  | .clr k z d => dl0 (nameOr n (aEval e d)) (oClear h k (ofVal z) (aEval e d))
  | .mnew => dl n (some (oMapNew h n))
  | .mput m k v => dl0 (nameOr n (aEval e m)) (oMapPut h (aEval e m) (aEval e k) (aEval e v))
  | .mget z m k => pu (oMapGet h (ofVal z) (aEval e m) (aEval e k))
  | .fn f first caps => if (first.map (aEval e) ++ caps.map (aEval e)).all AV.single = true then some (.fn f (first.map (aEval e)) (caps.map (aEval e)), none) else none
  | .call .. => none
  | .callv .. => none

/-! ### Only one block is written -/
theorem hset_at (h : Hp) (n : Nat) (x : Nat × Blk) : hset h n x = hset h n (hset h n x n) := by
  funext m; simp [hset]
theorem hset_none (h : Hp) (n : Nat) : h = hset h n (h n) := by
  funext m; unfold hset; split
  · rename_i e; rw [e]
  · rfl

def Only (h : Hp) (n : Nat) (h' : Hp) : Prop := h' = hset h n (h' n)
theorem Only.set (h : Hp) (n : Nat) (x : Nat × Blk) : Only h n (hset h n x) := hset_at h n x
theorem Only.same (h : Hp) (n : Nat) : Only h n h := hset_none h n
theorem Only.new {h h' : Hp} {n : Nat} {v p : AV} (ho : oNew h n v = some (p, h')) : Only h n h' := by
  unfold oNew at ho; split at ho <;> cases ho; exact Only.set ..
theorem Only.store {h h' : Hp} {n k : Nat} {p v : AV} (ho : oStore k h p v = some h') : Only h (nameOr n p) h' := by
  unfold oStore at ho
  split at ho
  · obtain ⟨_, _, ho⟩ := Option.bind_eq_some_iff.1 ho
    obtain ⟨_, _, ho⟩ := Option.bind_eq_some_iff.1 ho
    split at ho <;> cases ho; exact Only.set ..
  · cases ho
theorem Only.make {h h' : Hp} {n k : Nat} {z x v : AV} (ho : oMake h n k z x = some (v, h')) : Only h n h' := by
  unfold oMake at ho
  split at ho
  · split at ho <;> cases ho; exact Only.set ..
  · cases ho
theorem Only.mk0 {h h' : Hp} {n k : Nat} {x v : AV} (ho : oMk0 h n k x = some (v, h')) : Only h n h' := by
  unfold oMk0 at ho
  split at ho
  · split at ho <;> cases ho; exact Only.set ..
  · cases ho
theorem Only.lit {h h' : Hp} {n k : Nat} {vs : List AV} {v : AV} (ho : oLit h n k vs = some (v, h')) : Only h n h' := by
  unfold oLit at ho
  split at ho
  · split at ho
    · cases ho; exact Only.same ..
    · split at ho <;> cases ho
      · exact Only.same ..
      · exact Only.set ..
  · cases ho
theorem Only.append {h h' : Hp} {n k : Nat} {s v : AV} {ys : List AV} (ho : oAppend h n k s ys = some (v, h')) : Only h (nameOr n s) h' := by
  unfold oAppend at ho
  split at ho
  case isFalse => cases ho
  split at ho
  · split at ho
    · cases ho; exact Only.same ..
    · split at ho <;> cases ho; exact Only.set ..
  · split at ho
    · cases ho; exact Only.same ..
    · split at ho <;> cases ho; exact Only.set ..
  · obtain ⟨_, _, ho⟩ := Option.bind_eq_some_iff.1 ho
    split at ho
    case isFalse => cases ho
    split at ho
    · cases ho; exact Only.set ..
    · split at ho <;> cases ho; exact Only.set ..
  · cases ho
theorem Only.copy {h h' : Hp} {n k : Nat} {d v : AV} {ys : List AV} (ho : oCopy h k d ys = some (v, h')) : Only h (nameOr n d) h' := by
  unfold oCopy at ho
  split at ho
  case isFalse => cases ho
  split at ho
  · obtain ⟨_, _, ho⟩ := Option.bind_eq_some_iff.1 ho
    split at ho <;> cases ho; exact Only.set ..
  · cases ho
theorem Only.clear {h h' : Hp} {n k : Nat} {d z : AV} (ho : oClear h k z d = some h') : Only h (nameOr n d) h' := by
  unfold oClear at ho
  split at ho
  case isFalse => cases ho
  split at ho
  · cases ho; exact Only.same ..
  · obtain ⟨_, _, ho⟩ := Option.bind_eq_some_iff.1 ho
    split at ho <;> cases ho; exact Only.set ..
  · cases ho
theorem Only.mapPut {h h' : Hp} {n : Nat} {m k v : AV} (ho : oMapPut h m k v = some h') : Only h (nameOr n m) h' := by
  unfold oMapPut at ho
  split at ho
  · split at ho
    · split at ho <;> cases ho; exact Only.set ..
    · cases ho
  · cases ho

theorem dl_some {h : Hp} {n : Nat} {r : Option (AV × Hp)} {v : AV} {d : Dl} (hd : dl n r = some (v, d)) (ho : ∀ v h', r = some (v, h') → Only h n h') : ∃ h', r = some (v, h') ∧ appD h d = h' := by
  unfold dl at hd
  obtain ⟨⟨v', h'⟩, h1, h2⟩ := Option.map_eq_some_iff.1 hd
  cases h2
  exact ⟨h', h1, (ho v' h' h1).symm⟩
theorem dl0_some {h : Hp} {n : Nat} {r : Option Hp} {v : AV} {d : Dl} (hd : dl0 n r = some (v, d)) (ho : ∀ h', r = some h' → Only h n h') : ∃ h', r = some h' ∧ appD h d = h' ∧ v = .junk := by
  unfold dl0 at hd
  obtain ⟨h', h1, h2⟩ := Option.map_eq_some_iff.1 hd
  cases h2
  exact ⟨h', h1, (ho h' h1).symm, rfl⟩
theorem pu_some {r : Option AV} {v : AV} {d : Dl} (hd : pu r = some (v, d)) : r = some v ∧ d = none := by
  unfold pu at hd
  obtain ⟨v', h1, h2⟩ := Option.map_eq_some_iff.1 hd
  cases h2
  exact ⟨h1, rfl⟩

end Go.Proofs.Ytihljollfbogeaa

/- When an operation of the program is one of the small language, and that it does then what that one says. No condition. -/
namespace Go.Proofs.Ytihljollfbogeaa
open Go Go.RowKit

def sameX : Operand → Operand → Bool
  | .tmp a, .tmp b => a == b
  | .const (.int k a), .const (.int k' b) => decide (k = k') && a == b
  | _, _ => false
theorem sameX_eq {a b : Operand} (h : sameX a b = true) : a = b := by
  unfold sameX at h
  split at h
  · simp at h; rw [h]
  · simp at h; rw [h.1, h.2]
  · cases h
def isZeroX : Operand → Bool
  | .const (.int _ 0) => true
  | _ => false
def isNilX : Operand → Bool
  | .const (.slice none 0 0) => true
  | _ => false
theorem isNilX_eq {a : Operand} (h : isNilX a = true) : a = .const (.slice none 0 0) := by
  unfold isNilX at h
  split at h
  · rfl
  · cases h
def isSl (P : Program) (t : TypeId) : Bool := match P.underlying t with | some (.slice _) => true | _ => false
def isU8 (P : Program) (e : TypeId) : Bool := match P.underlying e with | some (.int .u8) => true | _ => false
def isStr (P : Program) (e : TypeId) : Bool := match P.underlying e with | some .string => true | _ => false
def isInt (P : Program) (e : TypeId) : Bool := match P.underlying e with | some (.int _) => true | _ => false

/-- Where the parts of a literal go. -/
def placed (P : Program) (t : TypeId) : List (Nat × Operand) → Option (List (Nat × Nat × Operand))
  | [] => some []
  | (i, x) :: r => match placesA P t i, placed P t r with
    | some (off, size), some l => some ((off, size, x) :: l)
    | _, _ => none

def compB (P : Program) (b : Builtin) (ts : List TypeId) (xs : List Operand) : Option COp :=
  match b, ts, xs with
  | .len, [t], [x] => match P.underlying t with | some (.slice _) => some (.len x) | _ => none
  | .cap, [t], [x] => match P.underlying t with | some (.slice _) => some (.cap x) | _ => none
  | .min, [_, _], [x, y] => some (.mn x y)
  | .max, [_, _], [x, y] => some (.mx x y)
  | .append, [t, t'], [s, x] =>
    match P.underlying t with
    | some (.slice e) => if rowT P e then
        if t = t' then some (.app (P.cellsOf e) s x)
        else if isInt P t' then (zeroOf P e).map fun z => .appZ (P.cellsOf e) z s x
        else none
      else none
    | _ => none
  | .copy, [t, _], [d, x] => match P.underlying t with | some (.slice e) => if rowT P e then some (.cpy (P.cellsOf e) d x) else none | _ => none
  | .clear, [t], [d] => match P.underlying t with | some (.slice e) => if rowT P e then (zeroOf P e).map fun z => .clr (P.cellsOf e) z d else none | _ => none
  | _, _, _ => none

def compOp (P : Program) : Op → Option COp
  | .move x => some (.mv x)
  | .assign x => some (.mv x)
  | .pick c a b => some (.pick c a b)
  | .unOp .not _ x => some (.inv x)
  | .binOp op t x y _ => if (decide (op = .eql) && isSl P t && isNilX y) = true then some (.isnil x) else some (.bin op (boolT P t) (flatK P t) x y)
  | .nilCheck x => some (.chk x)
  | .alloc t => (zeroOf P t).map .alloc
  | .box _ x => some (.box x)
  | .load t p => if hasT P t then some (.load (aggB P t) (P.cellsOf t) p) else none
  | .store t p v => if hasT P t then some (.store (P.cellsOf t) p v) else none
  | .fieldAddr s x i => match P.underlying s with
    | some (.struct fs) => match fs[i]? with
      | some f => if hasT P f.type && P.cellsOf f.type != 0 then some (.faddr f.offset x) else none
      | none => none
    | _ => none
  | .field s x i => match P.underlying s with
    | some (.struct fs) => match fs[i]? with
      | some f => if hasT P f.type then some (.field (aggB P f.type) (P.cellsOf f.type) f.offset x) else none
      | none => none
    | _ => none
  | .indexAddr t x i => match P.underlying t with
    | some (.slice e) => if hasT P e then some (.iaddrS (P.cellsOf e) x i) else none
    | some (.array len e) => if hasT P e then some (.iaddrA len (P.cellsOf e) x i) else none
    | _ => none
  | .extract x i => some (.ext i x)
  | .convert src dst x => match P.underlying src, P.underlying dst with
    | some (.int _), some (.int k) => some (.cint k x)
    | some (.slice e), some .string => if isU8 P e then some (.cstr x) else none
    | _, _ => none
  | .makeSlice t l c => match P.underlying t with
    | some (.slice e) => if rowT P e then
        if sameX l c then (zeroOf P e).map fun z => .make (P.cellsOf e) z l
        else if isZeroX l then some (.mk0 (P.cellsOf e) c)
        else none
      else none
    | _ => none
  | .buildSlice t len ps => match P.underlying t with
    | some (.slice e) => if rowT P e && ps.toList.map (·.1) == List.range len && decide (len * P.cellsOf e ≤ 16777216) then some (.lit (P.cellsOf e) (ps.toList.map (·.2))) else none
    | _ => none
  | .build t ps => if buildT P t then match zeroOf P t, placed P t ps.toList with
      | some z, some l => some (.build z l)
      | _, _ => none
    else none
  | .slice t x lo hi mx => match P.underlying t with
    | some (.slice e) => if hasT P e && (mx.isNone || hi.isSome) then some (.slc (P.cellsOf e) x lo hi mx) else none
    | _ => none
  | .makeMap t none => match P.underlying t with | some (.map _ _) => some .mnew | _ => none
  | .insert t m k v => match P.underlying t with | some (.map kt _) => if isInt P kt then some (.mput m k v) else none | _ => none
  | .lookup t m k true => match P.underlying t with
    | some (.map kt et) => if isInt P kt then match zeroOf P et with | some z => if (ofVal z).one then some (.mget z m k) else none | none => none else none
    | _ => none
  | .makeFunc (.func f) first caps => some (.fn f first.toList caps.toList)
  | .call c => match c.callee with
    | .builtin b => compB P b c.argTypes.toList c.args.toList
    | .value (.func f) => some (.call f c.args.toList)
    | .value x => some (.callv x c.args.toList)
    | _ => none
  | _ => none

section
variable {P : Program} {w : World} {α : Al} {base : Nat} {h : Hp}

/-- What an operation comes to, as the machine sees it. -/
def Upon (P : Program) (o : Oper) (ρ : Operand → Value) (base : Nat) (w : World) (α : Al) (v : AV) (h' : Hp) : Prop :=
  ∃ nx x w', (execOp ρ o).run P w = .ok nx w' ∧ (nx = .value x ∨ nx = .skip ∧ x = undef) ∧ Done base w α v h' x w'

theorem Upon.value {o : Oper} {ρ : Operand → Value} {v : AV} {h' : Hp} {s : Sem Value} (he : execOp ρ o = (do pure (.value (← s)) : Sem Next)) {x : Value} {w' : World} (hr : s.run P w = .ok x w') (hd : Done base w α v h' x w') : Upon P o ρ base w α v h' :=
  ⟨.value x, x, w', by rw [he]; simp [hr], .inl rfl, hd⟩
theorem Upon.unit {o : Oper} {ρ : Operand → Value} {h' : Hp} {s : Sem Unit} (he : execOp ρ o = (do s; pure .skip : Sem Next)) {w' : World} (hr : s.run P w = .ok () w') (hd : ∃ α', Rel base h' w' α' ∧ Ext w α w' α') : Upon P o ρ base w α .junk h' :=
  ⟨.skip, undef, w', by rw [he]; simp [hr], .inr ⟨rfl, rfl⟩, let ⟨α', r, e⟩ := hd; ⟨α', r, e, V.junk⟩⟩

theorem isnil_ok (r : Rel base h w α) {x v : AV} {u : Value} (ho : oIsNil h x = some v) (hx : V w (okA w α) α x u) : ∃ A n c, u = .slice A n c ∧ ∃ b, v = .sc (.bool b) ∧ b = A.isNone := by
  unfold oIsNil at ho
  split at ho
  · cases ho
    exact ⟨_, _, _, V.sc_eq hx, _, rfl, rfl⟩
  · cases ho
    cases hx with
    | low _ _ h =>
      cases h with
      | imm _ A cap sz b o U hcap hh hc hv =>
        have := (hh 0 _ rfl).2.1
        exact ⟨_, _, _, rfl, _, rfl, by rw [this]; rfl⟩
  · cases ho
    cases hx with
    | low _ _ h =>
      cases h with
      | full _ A sz b o U hh hc hv =>
        have := (hh 0 _ rfl).2.1
        exact ⟨_, _, _, rfl, _, rfl, by rw [this]; rfl⟩
  · rename_i n ver i len
    obtain ⟨⟨sz, els⟩, h1, h2⟩ := Option.map_eq_some_iff.1 ho
    cases h2
    cases hx with
    | low _ _ h => cases h
    | ref _ _ _ _ A cap ae hl ha hv hh =>
      obtain ⟨e1, _⟩ := r.row h1 ha
      obtain ⟨_, _, g3⟩ := hh e1.symm
      refine ⟨_, _, _, rfl, _, rfl, ?_⟩
      split at g3
      · rw [g3.2 (by omega)]; rfl
      · omega
  · cases ho
theorem nilEq_ok {t e : TypeId} {A : Option Addr} {n c : Nat} (ht : P.underlying t = some (.slice e)) : (Op.equal t (.slice A n c) (.slice none 0 0)).run P w = .ok A.isNone w := by
  unfold Op.equal
  rw [show Op.maxDepth = 9999 + 1 from rfl]
  generalize 9999 = d
  cases A <;> simp [Op.equalIn, run_underlying ht]

theorem mk0_ok (r : Rel base h w α) (hb : base ≤ w.heap.size) {t e : TypeId} {n k : Nat} {x v : AV} {h' : Hp} {u : Value} (ht : P.underlying t = some (.slice e)) (he : rowT P e = true) (hk : k = P.cellsOf e) (kk : IntKind)
    (ho : oMk0 h n k x = some (v, h')) (hx : V w (okA w α) α x u) : ∃ r w', (Instr.makeSlice t (.int kk 0) u).run P w = .ok r w' ∧ Done base w α v h' r w' := by
  obtain ⟨inf, z, hi, hz, hbytes, hpos, hzs, hke⟩ := rowT_spec he
  unfold oMk0 at ho
  split at ho
  · rename_i k2 m
    split at ho
    · rename_i hc
      obtain ⟨h0, hlim⟩ := hc
      cases ho
      rw [hx.sc_eq]
      have hb1 : (inf.bytes : Int) * m ≤ 281474976710656 := by
        obtain ⟨q, rfl⟩ := Int.eq_ofNat_of_zero_le h0
        have : inf.bytes * q ≤ 65536 * LIM := Nat.mul_le_mul hbytes (by omega)
        have h2 := LIM_nat
        have h3 : inf.bytes * q ≤ 281474976710656 := by omega
        exact mul_cast_le h3
      have hrun := run_make (P := P) w t e inf z ht hi hz kk k2 0 m (Int.le_refl _) h0 hb1 (by have := LIM_int; omega)
      refine ⟨_, _, hrun, ?_⟩
      obtain ⟨r', e'⟩ := r.new n k m.toNat (els := []) (cs := madeCells z.cells (m.toNat * inf.size)) e hb (by simp) (by simp [size_madeCells]; rw [hk, hke]; exact Nat.le_refl _) (fun e el he => by simp at he)
      exact ⟨_, r', e', V.of_V1 (.ref _ _ _ _ _ _ _ (by simp) (upd_same _ _ _) (Nat.le_refl _) fun _ => ⟨by simp, by simp, by simp⟩)⟩
    · cases ho
  · cases ho

theorem fillC_ok {t : TypeId} : ∀ {ps : List (Nat × Operand)} {l : List (Nat × Nat × Operand)} {e : Env} {cs cs' : List AV}, placed P t ps = some l → fillC cs (l.map fun p => (p.1, p.2.1, aEval e p.2.2)) = some cs' →
    fillA (placesA P t) cs (ps.map fun p => (p.1, aEval e p.2)) = some cs'
  | [], l, e, cs, cs', hp, hf => by
    cases hp
    exact hf
  | (i, x) :: ps, l, e, cs, cs', hp, hf => by
    unfold placed at hp
    split at hp
    · rename_i off size l' h1 h2
      cases hp
      simp only [List.map_cons, fillC] at hf
      simp only [List.map_cons, fillA, h1]
      split at hf
      · rename_i hc
        rw [if_pos hc]
        exact fillC_ok h2 hf
      · cases hf
    · cases hp

theorem getElem?_map_some {β γ : Type} {f : β → γ} {l : List β} {i : Nat} {a : β} (h : l[i]? = some a) : (l.map f)[i]? = some (f a) := by simp [h]

theorem VO_map {ρ : Operand → Value} {e : Env} (hρ : ∀ x, V w (okA w α) α (aEval e x) (ρ x)) (o : Option Operand) : VO w (okA w α) α (o.map (aEval e)) (o.map ρ) := by
  cases o with
  | none => trivial
  | some x => exact hρ x

theorem frzD_some {n m : Nat} {r : Option (AV × Hp)} {v : AV} {d : Dl} (hv : frzD n (dl m r) = some (v, d)) :
    dl m r = some (v, d) ∨ ∃ ver k els h', r = some (.ref m ver 0 els.length, h') ∧ h' m = (ver, .row k els) ∧ els.all AV.pure = true ∧ v = .imm (els.map norm) ∧ d = some (m, (ver + 1, .dead)) := by
  unfold frzD at hv
  split at hv
  · obtain ⟨⟨v0, d0⟩, hd0, hf⟩ := Option.bind_eq_some_iff.1 hv
    unfold dl at hd0
    obtain ⟨⟨v1, h'⟩, hr, he⟩ := Option.map_eq_some_iff.1 hd0
    cases he
    simp only at hf
    split at hf
    · rename_i m1 ver len m2 ver2 k els q1 q2
      split at hf
      · rename_i hc
        obtain ⟨c1, c2, c3, c4⟩ := hc
        simp only [Option.some.injEq, Prod.mk.injEq] at q2 hf
        obtain ⟨rfl, q3⟩ := q2
        subst c1
        subst c2
        subst c3
        obtain ⟨rfl, rfl⟩ := hf
        exact .inr ⟨_, _, _, h', hr, q3, c4, rfl, rfl⟩
      · cases hf
    · cases hf
  · exact .inl hv
theorem Done.freeze {n ver k : Nat} {els : List AV} {h1 : Hp} {u : Value} {w' : World} (d : Done base w α (.ref n ver 0 els.length) h1 u w') (hr : h1 n = (ver, .row k els)) (hp : els.all AV.pure = true) : Done base w α (.imm (els.map norm)) (hset h1 n (ver + 1, .dead)) u w' := by
  obtain ⟨α1, r1, e1, v1⟩ := d
  have hn : ∀ m ∈ nm h1 (.ref n ver 0 els.length), m ∈ [n] := fun m hm => by simpa [nm, nmA, nm1] using hm
  have v2 := fz_ok r1 v1 hn
  have hz : fz h1 (.ref n ver 0 els.length) = .imm (els.map norm) := by
    simp [fz, fzA, fz1, fz0, rowAt?, hr]
    simpa using hp
  rw [hz] at v2
  obtain ⟨α2, r2, e2, hok, _⟩ := kills_ok (names := [n]) r1
  refine ⟨α2, ?_, e1.trans e2, v2.mono (fun b hb => ⟨hok b hb, rfl⟩) (Later.emp _)⟩
  simp only [kills] at r2
  rw [show (h1 n).1 = ver by rw [hr]] at r2
  exact r2
theorem builtin_ok (r : Rel base h w α) (hb : base ≤ w.heap.size) {c : COp} {ρ : Operand → Value} {e : Env} (hρ : ∀ x, V w (okA w α) α (aEval e x) (ρ x)) {b : Builtin} {ts : List TypeId} {xs : List Operand}
    (hc : compB P b ts xs = some c) {n : Nat} {v : AV} {d : Dl} (hev : c.ev n e h = some (v, d)) (ty : TypeId) (cs : Array Bool) :
    ∃ x w', (builtin b ts.toArray ty cs (xs.map ρ).toArray).run P w = .ok (.value x) w' ∧ Done base w α v (appD h d) x w' := by
  unfold compB at hc
  split at hc
  · rename_i t x
    split at hc
    · rename_i el hs
      cases hc
      obtain ⟨h1, rfl⟩ := pu_some hev
      obtain ⟨h2, h3⟩ := len_ok (P := P) (ty := ty) hs h1 (hρ x)
      exact ⟨_, w, by simp [builtin, h2], Done.same r h3⟩
    · cases hc
  · rename_i t x
    split at hc
    · rename_i el hs
      cases hc
      obtain ⟨h1, rfl⟩ := pu_some hev
      obtain ⟨h2, h3⟩ := cap_ok (P := P) (ty := ty) hs h1 (hρ x)
      exact ⟨_, w, by simp [builtin, h2], Done.same r h3⟩
    · cases hc
  · rename_i t1 t2 x y
    cases hc
    obtain ⟨h1, rfl⟩ := pu_some hev
    obtain ⟨u, h2, h3⟩ := min_ok (P := P) (tys := #[t1, t2]) (ty := ty) h1 (hρ x) (hρ y)
    exact ⟨u, w, by simp only [builtin]; simp [h2], Done.same r h3⟩
  · rename_i t1 t2 x y
    cases hc
    obtain ⟨h1, rfl⟩ := pu_some hev
    obtain ⟨u, h2, h3⟩ := max_ok (P := P) (tys := #[t1, t2]) (ty := ty) h1 (hρ x) (hρ y)
    exact ⟨u, w, by simp only [builtin]; simp [h2], Done.same r h3⟩
  · rename_i t t' s x
    split at hc
    · rename_i el hs
      split at hc
      · rename_i he
        split at hc
        · rename_i htt
          subst htt
          cases hc
          simp only [COp.ev] at hev
          rcases frzD_some hev with hev | ⟨ver, k, els, h', hr, hrow, hp, rfl, rfl⟩
          · obtain ⟨h', h1, rfl⟩ := dl_some (h := h) hev (fun _ _ hh => let ⟨_, _, hh⟩ := Option.bind_eq_some_iff.1 hh; Only.append hh)
            obtain ⟨ys, h4, h5⟩ := Option.bind_eq_some_iff.1 h1
            obtain ⟨u, w', h2, h3⟩ := append_ok (P := P) (ty := ty) r hb hs he rfl h4 h5 (hρ s) (hρ x)
            exact ⟨u, w', by simp [builtin, h2], h3⟩
          · obtain ⟨ys, h4, h5⟩ := Option.bind_eq_some_iff.1 hr
            obtain ⟨u, w', h2, h3⟩ := append_ok (P := P) (ty := ty) r hb hs he rfl h4 h5 (hρ s) (hρ x)
            have ho : Only h (nameOr n (aEval e s)) h' := Only.append h5
            refine ⟨u, w', by simp [builtin, h2], ?_⟩
            have h6 := h3.freeze hrow hp
            have h7 : hset h' (nameOr n (aEval e s)) (ver + 1, .dead) = hset h (nameOr n (aEval e s)) (ver + 1, .dead) := by
              rw [ho]
              funext m
              simp only [hset]
              split <;> rfl
            rw [h7] at h6
            exact h6
        · split at hc
          · rename_i hi
            obtain ⟨z, hz, rfl⟩ := Option.map_eq_some_iff.1 hc
            unfold isInt at hi
            split at hi
            · rename_i kk hk
              simp only [COp.ev] at hev
              split at hev
              · rename_i m e1 e2
                split at hev
                · rename_i hm
                  obtain ⟨h', h1, rfl⟩ := dl_some (h := h) hev (fun _ _ hh => Only.append (s := .nl) hh)
                  have hx := hρ x
                  rw [e2] at hx
                  have hs' := hρ s
                  rw [e1] at hs'
                  obtain ⟨u, w', h2, h3⟩ := appendZ_ok (P := P) (ty := ty) r hb hs hk he rfl hz hm.1 hm.2 h1 hs'
                  rw [← hx.sc_eq] at h2
                  exact ⟨u, w', by simp [builtin, h2], h3⟩
                · cases hev
              · cases hev
            · cases hi
          · cases hc
      · cases hc
    · cases hc
  · rename_i t t' dd x
    split at hc
    · rename_i el hs
      split at hc
      · rename_i he
        cases hc
        obtain ⟨h', h1, rfl⟩ := dl_some (h := h) hev (fun _ _ hh => let ⟨_, _, hh⟩ := Option.bind_eq_some_iff.1 hh; Only.copy hh)
        obtain ⟨ys, h4, h5⟩ := Option.bind_eq_some_iff.1 h1
        obtain ⟨u, w', h2, h3⟩ := copy_ok (P := P) (ty := ty) (tx := t') r hs he rfl h4 h5 (hρ dd) (hρ x)
        exact ⟨u, w', by simp [builtin, h2], h3⟩
      · cases hc
    · cases hc
  · rename_i t dd
    split at hc
    · rename_i el hs
      split at hc
      · rename_i he
        obtain ⟨z, hz, rfl⟩ := Option.map_eq_some_iff.1 hc
        obtain ⟨h', h1, rfl, rfl⟩ := dl0_some (h := h) hev (fun _ => Only.clear)
        obtain ⟨w', h2, α', h3, h4⟩ := clear_ok (P := P) (ty := ty) r hs he rfl hz h1 (hρ dd)
        exact ⟨.tuple #[], w', by simp [builtin, h2], α', h3, h4, V.junk⟩
      · cases hc
    · cases hc
  · cases hc

theorem op_ok (r : Rel base h w α) (hb : base ≤ w.heap.size) {o : Oper} {c : COp} {ρ : Operand → Value} {e : Env} (hρ : ∀ x, V w (okA w α) α (aEval e x) (ρ x)) (hconst : ∀ v, ρ (.const v) = v)
    (hc : compOp P o.op = some c) {n : Nat} {v : AV} {d : Dl} (hev : c.ev n e h = some (v, d)) : Upon P o ρ base w α v (appD h d) := by
  cases ho : o.op with
  | move x =>
    rw [ho] at hc; cases hc; cases hev
    exact ⟨.value (ρ x), _, w, by simp [execOp, ho], .inl rfl, Done.same r (hρ x)⟩
  | assign x =>
    rw [ho] at hc; cases hc; cases hev
    exact ⟨.value (ρ x), _, w, by simp [execOp, ho], .inl rfl, Done.same r (hρ x)⟩
  | pick cc a b =>
    rw [ho] at hc; cases hc
    obtain ⟨h1, rfl⟩ := pu_some hev
    obtain ⟨t, h2, h3⟩ := pick_ok h1 (hρ cc) (hρ a) (hρ b)
    exact ⟨.value (if t then ρ a else ρ b), _, w, by simp [execOp, ho, h2, asBool], .inl rfl, Done.same r h3⟩
  | unOp op t x =>
    rw [ho] at hc
    cases op <;> simp only [compOp] at hc <;> cases hc
    obtain ⟨h1, rfl⟩ := pu_some hev
    obtain ⟨x', h2, h3⟩ := not_ok (P := P) h1 (hρ x)
    exact Upon.value (by simp [execOp, ho]) h2 (Done.same r h3)
  | binOp op t x y ty =>
    rw [ho] at hc
    simp only [compOp] at hc
    split at hc
    · rename_i hn
      cases hc
      simp only [Bool.and_eq_true, decide_eq_true_eq] at hn
      obtain ⟨⟨rfl, hs⟩, hy⟩ := hn
      have hy := isNilX_eq hy
      subst hy
      unfold isSl at hs
      split at hs
      · rename_i el hs'
        obtain ⟨h1, rfl⟩ := pu_some hev
        obtain ⟨A, len, cap, hu, b, rfl, hb⟩ := isnil_ok r h1 (hρ x)
        refine Upon.value (s := (do eqGuard .eql t x (.const (.slice none 0 0)) (ρ x) (ρ (.const (.slice none 0 0))); binOp .eql t (ρ x) (ρ (.const (.slice none 0 0))) : Sem Value)) (x := .bool A.isNone) (w' := w) (by simp only [execOp, ho]) ?_ (Done.same r (by rw [hb]; exact V.sc rfl))
        rw [hconst, hu, Sem.run_bind, eqGuard_plain _ _ _ _ _ _ (by simp) (by simp), Result.andThen_ok]
        show (do pure (Value.bool (← Op.equal t (.slice A len cap) (.slice none 0 0))) : Sem Value).run P w = _
        rw [Sem.run_bind, nilEq_ok hs']
        rfl
      · cases hs
    · cases hc
      obtain ⟨h1, rfl⟩ := pu_some hev
      obtain ⟨u, h2, h3⟩ := bin_ok (P := P) (oBin_eq P op t _ _ v h1) (hρ x) (hρ y) x y
      exact Upon.value (by simp only [execOp, ho]) h2 (Done.same r h3)
  | nilCheck x =>
    rw [ho] at hc; cases hc
    obtain ⟨h1, rfl⟩ := pu_some hev
    obtain ⟨rfl, h2⟩ := oNil_ok h1 (hρ x)
    exact ⟨.value (ρ x), _, w, by simp only [execOp, ho]; exact h2 P x ρ rfl, .inl rfl, Done.same r (hρ x)⟩
  | alloc t =>
    rw [ho] at hc
    simp only [compOp] at hc
    obtain ⟨z, hz, rfl⟩ := Option.map_eq_some_iff.1 hc
    obtain ⟨h', h1, rfl⟩ := dl_some (h := h) hev (fun _ _ => Only.new)
    unfold zeroOf at hz
    cases hi : P.info? t with
    | none => rw [hi] at hz; cases hz
    | some inf =>
      rw [hi] at hz
      obtain ⟨x, w', h2, h3⟩ := alloc_ok (P := P) r hb hi hz h1
      exact Upon.value (by simp only [execOp, ho]) h2 h3
  | box t x =>
    rw [ho] at hc; cases hc
    obtain ⟨h', h1, rfl⟩ := dl_some (h := h) hev (fun _ _ => Only.new)
    obtain ⟨x', w', h2, h3⟩ := box_ok (P := P) r hb h1 (hρ x) t
    exact Upon.value (by simp only [execOp, ho]) h2 h3
  | load t p =>
    rw [ho] at hc
    simp only [compOp] at hc
    split at hc
    · rename_i ht
      cases hc
      obtain ⟨h1, rfl⟩ := pu_some hev
      obtain ⟨x, h2, h3⟩ := load_ok r ht rfl h1 (hρ p)
      exact Upon.value (by simp only [execOp, ho]) h2 (Done.same r h3)
    · cases hc
  | store t p x =>
    rw [ho] at hc
    simp only [compOp] at hc
    split at hc
    · rename_i ht
      cases hc
      obtain ⟨h', h1, rfl, rfl⟩ := dl0_some (h := h) hev (fun _ => Only.store)
      obtain ⟨w', h2, h3⟩ := store_ok r ht rfl h1 (hρ p) (hρ x)
      exact Upon.unit (by simp only [execOp, ho]) h2 h3
    · cases hc
  | fieldAddr s x i =>
    rw [ho] at hc
    simp only [compOp] at hc
    split at hc
    · rename_i fs hs
      split at hc
      · rename_i f hf
        split at hc
        · rename_i ht
          cases hc
          simp at ht
          obtain ⟨h1, rfl⟩ := pu_some hev
          obtain ⟨x', h2, h3⟩ := fieldAddr_ok hs hf ht.1 ht.2 h1 (hρ x)
          exact Upon.value (by simp only [execOp, ho]) h2 (Done.same r h3)
        · cases hc
      · cases hc
    · cases hc
  | field s x i =>
    rw [ho] at hc
    simp only [compOp] at hc
    split at hc
    · rename_i fs hs
      split at hc
      · rename_i f hf
        split at hc
        · rename_i ht
          cases hc
          obtain ⟨h1, rfl⟩ := pu_some hev
          obtain ⟨x', h2, h3⟩ := field_ok (P := P) hs hf ht (v := v) (x := aEval e x) (by unfold oField; exact h1) (hρ x)
          exact Upon.value (by simp only [execOp, ho]) h2 (Done.same r h3)
        · cases hc
      · cases hc
    · cases hc
  | indexAddr t x i =>
    rw [ho] at hc
    simp only [compOp] at hc
    split at hc
    · rename_i el hs
      split at hc
      · rename_i ht
        cases hc
        obtain ⟨h1, rfl⟩ := pu_some hev
        obtain ⟨x', h2, h3⟩ := indexS_ok r hs ht rfl h1 (hρ x) (hρ i)
        exact Upon.value (by simp only [execOp, ho]) h2 (Done.same r h3)
      · cases hc
    · rename_i len el hs
      split at hc
      · rename_i ht
        cases hc
        obtain ⟨h1, rfl⟩ := pu_some hev
        obtain ⟨x', h2, h3⟩ := indexA_ok hs ht rfl h1 (hρ x) (hρ i)
        exact Upon.value (by simp only [execOp, ho]) h2 (Done.same r h3)
      · cases hc
    · cases hc
  | extract x i =>
    rw [ho] at hc; cases hc
    obtain ⟨h1, rfl⟩ := pu_some hev
    obtain ⟨x', h2, h3⟩ := extract_ok (P := P) h1 (hρ x)
    exact Upon.value (by simp only [execOp, ho]) h2 (Done.same r h3)
  | convert src dst x =>
    rw [ho] at hc
    simp only [compOp] at hc
    split at hc
    · rename_i k1 k2 hs hd
      cases hc
      obtain ⟨h1, rfl⟩ := pu_some hev
      obtain ⟨x', h2, h3⟩ := convInt_ok (P := P) (src := src) (by rw [hs]; rfl) hd h1 (hρ x)
      exact Upon.value (by simp only [execOp, ho]) h2 (Done.same r h3)
    · rename_i el hs hd
      split at hc
      · rename_i hu
        cases hc
        have he : P.underlying el = some (.int .u8) := by
          unfold isU8 at hu
          split at hu
          · assumption
          · cases hu
        obtain ⟨h1, rfl⟩ := pu_some hev
        obtain ⟨x', h2, h3⟩ := convStr_ok (P := P) r hs he hd h1 (hρ x)
        exact Upon.value (by simp only [execOp, ho]) h2 (Done.same r h3)
      · cases hc
    · cases hc
  | makeSlice t l cc =>
    rw [ho] at hc
    simp only [compOp] at hc
    split at hc
    · rename_i el hs
      split at hc
      · rename_i ht
        split at hc
        · rename_i hsame
          obtain ⟨z, hz, rfl⟩ := Option.map_eq_some_iff.1 hc
          obtain ⟨h', h1, rfl⟩ := dl_some (h := h) hev (fun _ _ => Only.make)
          obtain ⟨x', w', h2, h3⟩ := make_ok (P := P) r hb hs ht rfl hz h1 (hρ l)
          exact Upon.value (by simp only [execOp, ho, ← sameX_eq hsame]) h2 h3
        · split at hc
          · rename_i hz0
            cases hc
            obtain ⟨h', h1, rfl⟩ := dl_some (h := h) hev (fun _ _ => Only.mk0)
            unfold isZeroX at hz0
            split at hz0
            · rename_i kk _
              obtain ⟨x', w', h2, h3⟩ := mk0_ok (P := P) r hb hs ht rfl kk h1 (hρ cc)
              exact Upon.value (by simp only [execOp, ho, hconst]) h2 h3
            · cases hz0
          · cases hc
      · cases hc
    · cases hc
  | buildSlice t len ps =>
    rw [ho] at hc
    simp only [compOp] at hc
    split at hc
    · rename_i el hs
      split at hc
      · rename_i hcond
        cases hc
        simp only [Bool.and_eq_true, decide_eq_true_eq, beq_iff_eq] at hcond
        obtain ⟨⟨ht, hpos⟩, hbig⟩ := hcond
        obtain ⟨h', h1, rfl⟩ := dl_some (h := h) hev (fun _ _ => Only.lit)
        have hlen : ps.toList.length = len := by have := congrArg List.length hpos; simpa using this
        obtain ⟨x', w', h2, h3⟩ := lit_ok (P := P) r hb hs ht rfl h1 (us := (ps.toList.map (·.2)).map ρ) (len := len) (by simp) (by simpa using hlen) hbig (fun i a u ha hu => by
          rw [List.getElem?_map] at ha hu
          obtain ⟨y, hy, rfl⟩ := Option.map_eq_some_iff.1 ha
          rw [hy] at hu
          cases hu
          exact hρ y)
        have : ((List.range len).zip ((ps.toList.map (·.2)).map ρ)).toArray = ps.map fun (i, x) => (i, ρ x) := by
          apply Array.ext'
          rw [← hpos]
          simp
          induction ps.toList with
          | nil => rfl
          | cons p l ih => simp [ih]
        rw [this] at h2
        exact Upon.value (by simp only [execOp, ho]) h2 h3
      · cases hc
    · cases hc
  | build t ps =>
    rw [ho] at hc
    simp only [compOp] at hc
    split at hc
    · rename_i ht
      split at hc
      · rename_i z l hz hl
        cases hc
        obtain ⟨h1, rfl⟩ := pu_some hev
        have h1' : oBuild P t (ps.toList.map fun p => (p.1, aEval e p.2)) = some v := by
          unfold oBuildC at h1
          unfold oBuild
          rw [hz]
          simp only
          split at h1
          · obtain ⟨cs', h4, rfl⟩ := Option.map_eq_some_iff.1 h1
            rw [fillC_ok hl h4]
            rfl
          · cases h1
        obtain ⟨x', h2, h3⟩ := build_ok (P := P) (uparts := ps.map fun (i, x) => (i, ρ x)) ht h1' (by simp) (fun i a u ha hu => by
          rw [List.getElem?_map] at ha
          obtain ⟨y, hy, rfl⟩ := Option.map_eq_some_iff.1 ha
          have hy' : ps[i]? = some y := by simpa using hy
          rw [Array.getElem?_map, hy'] at hu
          cases hu
          exact ⟨rfl, hρ y.2⟩)
        exact Upon.value (by simp only [execOp, ho]) h2 (Done.same r h3)
      · cases hc
    · cases hc
  | slice t x lo hi mx =>
    rw [ho] at hc
    simp only [compOp] at hc
    split at hc
    · rename_i el hs
      split at hc
      · rename_i hcond
        cases hc
        simp only [Bool.and_eq_true] at hcond
        obtain ⟨ht, hm⟩ := hcond
        obtain ⟨h1, rfl⟩ := pu_some hev
        obtain ⟨x', h2, h3⟩ := slice_ok (P := P) r hs ht rfl h1 (by
          cases mx with
          | none => exact .inl rfl
          | some m => cases hi with
            | none => simp at hm
            | some q => exact .inr (by simp)) (hρ x) (VO_map hρ lo) (VO_map hρ hi) (VO_map hρ mx)
        exact Upon.value (by simp only [execOp, ho]) h2 (Done.same r h3)
      · cases hc
    · cases hc
  | makeMap t rr =>
    rw [ho] at hc
    cases rr with
    | some _ => cases hc
    | none =>
      simp only [compOp] at hc
      split at hc
      · cases hc
        obtain ⟨h', h1, rfl⟩ := dl_some (h := h) hev (fun _ _ hh => by cases hh; exact Only.set ..)
        have h1' := Option.some.inj h1
        obtain ⟨x', w', h2, h3⟩ := mapNew_ok (P := P) r hb t n
        rw [h1'] at h3
        exact Upon.value (by simp only [execOp, ho, Option.map_none]) h2 h3
      · cases hc
  | insert t m k x =>
    rw [ho] at hc
    simp only [compOp] at hc
    split at hc
    · rename_i kt et hs
      split at hc
      · rename_i hi
        cases hc
        obtain ⟨h', h1, rfl, rfl⟩ := dl0_some (h := h) hev (fun _ => Only.mapPut)
        unfold isInt at hi
        split at hi
        · rename_i kk hk
          obtain ⟨w', h2, h3⟩ := mapPut_ok (P := P) r hs hk h1 (hρ m) (hρ k) (hρ x)
          exact Upon.unit (by simp only [execOp, ho]) h2 h3
        · cases hi
      · cases hc
    · cases hc
  | lookup t m k ok =>
    rw [ho] at hc
    cases ok with
    | false => cases hc
    | true =>
      simp only [compOp] at hc
      split at hc
      · rename_i kt et hs
        split at hc
        · rename_i hi
          split at hc
          · rename_i z hz
            split at hc
            · rename_i hz1
              cases hc
              obtain ⟨h1, rfl⟩ := pu_some hev
              unfold isInt at hi
              split at hi
              · rename_i kk hk
                obtain ⟨x', h2, h3⟩ := mapGet_ok (P := P) r hs hk hz hz1 h1 (hρ m) (hρ k)
                exact Upon.value (by simp only [execOp, ho]) h2 (Done.same r h3)
              · cases hi
            · cases hc
          · cases hc
        · cases hc
      · cases hc
  | makeFunc fn first caps =>
    rw [ho] at hc
    cases fn with
    | func f =>
      cases hc
      simp only [COp.ev] at hev
      split at hev
      · rename_i hall
        cases hev
        refine ⟨.value (.func (.func f) (first.map ρ) (caps.map ρ)), _, w, by simp [execOp, ho, Instr.makeFunc], .inl rfl, Done.same r ?_⟩
        rw [List.all_append, Bool.and_eq_true] at hall
        have key : ∀ (xs : List Operand), (xs.map (aEval e)).all AV.single = true → ∀ (i : Nat) (a : AV) (u : Value), (xs.map (aEval e))[i]? = some a → (xs.map ρ)[i]? = some u → V1 w (okA w α) α a u := fun xs hs i a u ha hu => by
          have h1 := List.all_eq_true.1 hs a (List.mem_of_getElem? ha)
          rw [List.getElem?_map] at ha hu
          obtain ⟨y, hy, rfl⟩ := Option.map_eq_some_iff.1 ha
          rw [hy] at hu
          cases hu
          have := hρ y
          cases hq : aEval e y <;> rw [hq] at this h1 <;> first | exact this | (simp [AV.single] at h1)
        have := V1.fn (w := w) (ok := okA w α) (α := α) f _ _ (first.toList.map ρ) (caps.toList.map ρ) (by simp) (by simp) (key first.toList hall.1) (key caps.toList hall.2)
        have e1 : (first.toList.map ρ).toArray = first.map ρ := by apply Array.ext'; simp
        have e2 : (caps.toList.map ρ).toArray = caps.map ρ := by apply Array.ext'; simp
        rw [e1, e2] at this
        exact V.of_V1 this
      · cases hev
    | _ => cases hc
  | call cc =>
    rw [ho] at hc
    simp only [compOp] at hc
    split at hc
    · rename_i b hcal
      obtain ⟨CS, hCS⟩ : ∃ CS, (execOp ρ o).run P w = (builtin b cc.argTypes o.type CS (cc.args.map ρ)).run P w := ⟨_, by simp only [execOp, ho, resolve, hcal]; simp [invoke]; rfl⟩
      obtain ⟨x, w', h1, h2⟩ := builtin_ok r hb hρ hc hev o.type CS
      have e1 : (cc.args.toList.map ρ).toArray = cc.args.map ρ := by apply Array.ext'; simp
      rw [e1] at h1
      refine ⟨.value x, x, w', ?_, .inl rfl, h2⟩
      rw [hCS]
      simpa using h1
    · cases hc; cases hev
    · cases hc; cases hev
    · cases hc
  | _ => rw [ho] at hc; cases hc

end
end Go.Proofs.Ytihljollfbogeaa

/- The small language: code, and its run on abstract values. No condition. -/
namespace Go.Proofs.Ytihljollfbogeaa
open Go Go.RowKit

/-- An operation with its place and its guard: the place that it hangs on, and what must stand there. -/
structure CIns where
  dst : Option Nat
  guard : Option (Nat × Bool)
  op : COp

inductive CC where
  | skip
  | reg (ops : List CIns)
  | draw (ops : List CIns) (pairs : List (Nat × Nat))
  | seq (a b : CC)
  | cond (c : Operand) (a b : CC)
  | block (id : Nat) (b : CC)
  | loop (b : CC)
  | exit (id : Nat)
  | ret

inductive CEx where
  | norm
  | exit (id : Nat)
  | ret

inductive CRes where
  | tmp (t : Nat)
  | cell (agg : Bool) (k : Nat) (t : Nat)

structure CFn where
  results : List CRes
  body : CC

abbrev St := Env × Hp
/-- How a function is entered: its frame's number, its arguments, the heap. -/
abbrev Inl := Nat → FuncId → List AV → Hp → Option (AV × Hp)
/-- What is known of functions that are not entered. -/
abbrev Hand := FuncId → List AV → Option AV

def argEnv (as : List AV) : Env := fun t => (as[t]?).getD .junk

def okEl (k : Nat) (x : AV) : Bool := x.storable && decide (x.cells.length = k)
/-- The frame's number times 512, and 7: the place of the new block. -/
def cloneA (k q : Nat) (h : Hp) (a : AV) : Option (AV × Hp) :=
  (oElems h a).bind fun xs => if (xs.all (okEl k)) = true ∧ xs.length ≤ LIM then some (.ref (q * 512 + 7) ((h (q * 512 + 7)).1 + 1) 0 xs.length, hset h (q * 512 + 7) ((h (q * 512 + 7)).1 + 1, .row k xs)) else none
/-- What is told of a function that copies its argument's elements, of so many cells, to a new block of ours. -/
def isMk : AV → Option Nat
  | .mp k _ => some k
  | _ => none
def copyA (k n : Nat) (as : List AV) (h : Hp) : Option (AV × Hp) := match as with | [a] => cloneA k n h a | _ => none
/-- A call. -/
def callA (H : Hand) (I : Inl) (n : Nat) (f : FuncId) (as : List AV) (s : St) : Option (AV × St) :=
  match H f (as.map (fz s.2)) with
  | some r => match isMk r with
    | some k => (copyA k n as s.2).map fun q => (q.1, s.1, q.2)
    | none =>
      if r.scalar = true then some (r, s)
      else match as.flatMap (nm s.2) with
        | [] => some (r, s)
        | ns => some (r, fun t => thaw s.2 ns (s.1 t), kills (thawH s.2 ns) ns)
  | none => (I n f as s.2).map fun q => (q.1, s.1, q.2)

/-- The function and the arguments of a call of a value. -/
def valueA (x : AV) (as : List AV) : Option (FuncId × List AV) :=
  match x with
  | .fn f first caps => some (f, first ++ as ++ caps)
  | _ => none

/-- An operation, calls too. -/
def opA (H : Hand) (I : Inl) (n : Nat) (c : COp) (s : St) : Option (AV × St) :=
  match c with
  | .call f as => callA H I n f (as.map (aEval s.1)) s
  | .callv x as => (valueA (aEval s.1 x) (as.map (aEval s.1))).bind fun q => callA H I n q.1 q.2 s
  | c => (c.ev n s.1 s.2).map fun q => (q.1, s.1, appD s.2 q.2)

/-- The operation's own name. -/
def nameOf (q : Nat) (d : Option Nat) : Nat := q * 512 + d.getD 511

def insA (H : Hand) (I : Inl) (q : Nat) (i : CIns) (s : St) : Option St :=
  match i.guard with
  | none => (opA H I (nameOf q i.dst) i.op s).map fun r => (edst r.2.1 i.dst r.1, r.2.2)
  | some (g, want) =>
    match s.1 g with
    | .sc (.bool b) => if b = want then (opA H I (nameOf q i.dst) i.op s).map fun r => (edst r.2.1 i.dst r.1, r.2.2) else some (edst s.1 i.dst (.tup []), s.2)
    | .tup [] => some (edst s.1 i.dst (.tup []), s.2)
    | _ => none

def regA (H : Hand) (I : Inl) (q : Nat) : List CIns → St → Option St
  | [], s => some s
  | i :: r, s => (insA H I q i s).bind (regA H I q r)

/-! ### Regions that are drawn -/
/-- The blocks that an operation looks at. -/
def COp.rd (n : Nat) (e : Env) : COp → List Nat
  | .alloc _ | .box _ | .make .. | .mk0 .. | .lit .. | .mnew | .appZ .. => [n]
  | .load _ _ p => (aEval e p).nms
  | .store _ p _ => [nameOr n (aEval e p)]
  | .iaddrS _ x _ => (aEval e x).nms
  | .cstr x => (aEval e x).nms
  | .isnil x => (aEval e x).nms
  | .slc _ x _ _ _ => (aEval e x).nms
  | .app _ s x => nameOr n (aEval e s) :: (aEval e x).nms
  | .cpy _ d x => nameOr n (aEval e d) :: (aEval e x).nms
  | .clr _ _ d => [nameOr n (aEval e d)]
  | .mput m _ _ => [nameOr n (aEval e m)]
  | .mget _ m _ => (aEval e m).nms
  | _ => []
/-- The block that it writes. -/
def COp.wr (n : Nat) (e : Env) : COp → Option Nat
  | .alloc _ | .box _ | .make .. | .mk0 .. | .lit .. | .mnew | .appZ .. => some n
  | .store _ p _ => some (nameOr n (aEval e p))
  | .app _ s _ => some (nameOr n (aEval e s))
  | .cpy _ d _ => some (nameOr n (aEval e d))
  | .clr _ _ d => some (nameOr n (aEval e d))
  | .mput m _ _ => some (nameOr n (aEval e m))
  | _ => none

/-- What an operation did to the heap: it looked at blocks and perhaps wrote one; or it was a call. -/
inductive Ev where
  | nothing
  | simple (rd : List Nat) (wr : Option Nat)
  | call (h h' : Hp)

def COp.isCall : COp → Bool
  | .call .. | .callv .. => true
  | _ => false

/-- In a drawn region a call may not take blocks of ours away. -/
def callD (H : Hand) (I : Inl) (n : Nat) (f : FuncId) (as : List AV) (s : St) : Option (AV × St) :=
  match H f (as.map (fz s.2)) with
  | some r => match isMk r with
    | some k => (copyA k n as s.2).map fun q => (q.1, s.1, q.2)
    | none =>
      if r.scalar = true then some (r, s)
      else match as.flatMap (nm s.2) with
        | [] => some (r, s)
        | _ => none
  | none => (I n f as s.2).map fun q => (q.1, s.1, q.2)
/-- What a call did: of a function that is told it looks at its arguments alone. -/
def evC (H : Hand) (n : Nat) (f : FuncId) (as : List AV) (s : St) (h' : Hp) : Ev :=
  match H f (as.map (fz s.2)) with
  | some r => match isMk r with
    | some _ => .simple ((n * 512 + 7) :: as.flatMap (nm s.2)) (some (n * 512 + 7))
    | none => .simple (as.flatMap (nm s.2)) none
  | none => .call s.2 h'
def opD (H : Hand) (I : Inl) (n : Nat) (c : COp) (s : St) : Option (AV × Hp × Ev) :=
  match c with
  | .call f as => (callD H I n f (as.map (aEval s.1)) s).map fun r => (r.1, r.2.2, evC H n f (as.map (aEval s.1)) s r.2.2)
  | .callv x as => (valueA (aEval s.1 x) (as.map (aEval s.1))).bind fun q => (callD H I n q.1 q.2 s).map fun r => (r.1, r.2.2, evC H n q.1 q.2 s r.2.2)
  | c => (c.ev n s.1 s.2).map fun q => (q.1, appD s.2 q.2, .simple (c.rd n s.1) (c.wr n s.1))
def insD (H : Hand) (I : Inl) (q : Nat) (i : CIns) (s : St) : Option (St × Ev) :=
  match i.guard with
  | none => (opD H I (nameOf q i.dst) i.op s).map fun r => ((edst s.1 i.dst r.1, r.2.1), r.2.2)
  | some (g, want) =>
    match s.1 g with
    | .sc (.bool b) => if b = want then (opD H I (nameOf q i.dst) i.op s).map fun r => ((edst s.1 i.dst r.1, r.2.1), r.2.2) else some ((edst s.1 i.dst (.tup []), s.2), .nothing)
    | .tup [] => some ((edst s.1 i.dst (.tup []), s.2), .nothing)
    | _ => none
def drawA (H : Hand) (I : Inl) (q : Nat) : List CIns → St → Option (St × List Ev)
  | [], s => some (s, [])
  | i :: r, s => (insD H I q i s).bind fun x => (drawA H I q r x.1).map fun y => (y.1, x.2 :: y.2)

/-! Blocks that are seen to be the same. -/
def valEq : Value → Value → Bool
  | .int k a, .int k' b => decide (k = k') && a == b
  | .bool a, .bool b => a == b
  | .pointer none, .pointer none => true
  | _, _ => false
def allEq (f : AV → AV → Bool) : List AV → List AV → Bool
  | [], [] => true
  | a :: as, b :: bs => f a b && allEq f as bs
  | _, _ => false
def AV.eqb : Nat → AV → AV → Bool
  | 0, _, _ => false
  | n + 1, x, y => match x, y with
    | .sc a, .sc b => valEq a b
    | .agg a, .agg b => allEq (AV.eqb n) a b
    | .nl, .nl => true
    | .imm a, .imm b => allEq (AV.eqb n) a b
    | .full a, .full b => allEq (AV.eqb n) a b
    | .ref a b c d, .ref a' b' c' d' => a == a' && b == b' && c == c' && d == d'
    | .ptr a b c d, .ptr a' b' c' d' => a == a' && b == b' && c == c' && d == d'
    | .ipt a c, .ipt b d => allEq (AV.eqb n) a b && c == d
    | _, _ => false
def Blk.eqb : Blk → Blk → Bool
  | .dead, .dead => true
  | .row k a, .row l b => k == l && allEq (AV.eqb 8) a b
  | _, _ => false
def quick (r : List Nat) (h h' : Hp) : Bool := r.all fun n => (h' n).1 == (h n).1 && Blk.eqb (h' n).2 (h n).2
theorem valEq_eq {a b : Value} (h : valEq a b = true) : a = b := by
  unfold valEq at h
  split at h <;> simp_all
theorem allEq_eq {f : AV → AV → Bool} (hf : ∀ a b, f a b = true → a = b) : ∀ {xs ys : List AV}, allEq f xs ys = true → xs = ys
  | [], [], _ => rfl
  | a :: as, b :: bs, h => by
    simp only [allEq, Bool.and_eq_true] at h
    rw [hf a b h.1, allEq_eq hf h.2]
  | [], _ :: _, h => by cases h
  | _ :: _, [], h => by cases h
theorem AV.eqb_eq : ∀ (n : Nat) (a b : AV), AV.eqb n a b = true → a = b
  | 0, _, _, h => by cases h
  | n + 1, a, b, h => by
    have ih := AV.eqb_eq n
    unfold AV.eqb at h
    split at h
    · rw [valEq_eq h]
    · rw [allEq_eq ih h]
    · rfl
    · rw [allEq_eq ih h]
    · rw [allEq_eq ih h]
    · simp at h; obtain ⟨⟨⟨rfl, rfl⟩, rfl⟩, rfl⟩ := h; rfl
    · simp at h; obtain ⟨⟨⟨rfl, rfl⟩, rfl⟩, rfl⟩ := h; rfl
    · simp at h; rw [allEq_eq ih h.1, h.2]
    · cases h
theorem Blk.eqb_eq {a b : Blk} (h : Blk.eqb a b = true) : a = b := by
  unfold Blk.eqb at h
  split at h
  · rfl
  · simp at h; rw [h.1, allEq_eq (AV.eqb_eq 8) h.2]
  · cases h
theorem quick_eq {r : List Nat} {h h' : Hp} (hq : quick r h h' = true) : ∀ n ∈ r, h' n = h n := fun n hn => by
  have := List.all_eq_true.1 hq n hn
  simp only [Bool.and_eq_true, beq_iff_eq] at this
  exact Prod.ext this.1 (Blk.eqb_eq this.2)
open Classical in
theorem quick_or {r : List Nat} {h h' : Hp} (hq : (quick r h h' || decide (∀ n ∈ r, h' n = h n)) = true) : ∀ n ∈ r, h' n = h n := by
  rw [Bool.or_eq_true] at hq
  rcases hq with hq | hq
  · exact quick_eq hq
  · exact of_decide_eq_true hq

open Classical in
/-- Neither minds whether the other comes first. -/
noncomputable def indep : Ev → Ev → Bool
  | .nothing, _ => true
  | _, .nothing => true
  | .simple r1 w1, .simple r2 w2 => (match w1 with | some n => !r2.contains n | none => true) && (match w2 with | some n => !r1.contains n | none => true)
  | .simple r none, .call h h' => quick r h h' || decide (∀ n ∈ r, h' n = h n)
  | .call h h', .simple r none => quick r h h' || decide (∀ n ∈ r, h' n = h n)
  | _, _ => false
noncomputable def indeps (evs : List Ev) (pairs : List (Nat × Nat)) : Bool :=
  pairs.all fun p => match evs[p.1]?, evs[p.2]? with
    | some x, some y => indep x y
    | _, _ => false

/-- A loop: so many rounds at most. -/
def iter (f : St → Option (CEx × St)) : Nat → St → Option (CEx × St)
  | 0, _ => none
  | k + 1, s => match f s with
    | some (.norm, s') => iter f k s'
    | r => r

noncomputable def run (H : Hand) (I : Inl) (N : Nat) (q : Nat) : CC → St → Option (CEx × St)
  | .skip, s => some (.norm, s)
  | .reg ops, s => (regA H I q ops s).map fun s => (.norm, s)
  | .draw ops pairs, s => (drawA H I q ops s).bind fun r => if indeps r.2 pairs = true then some (.norm, r.1) else none
  | .seq a b, s => (run H I N q a s).bind fun r => match r with
    | (.norm, s') => run H I N q b s'
    | r => some r
  | .cond c a b, s => match aEval s.1 c with
    | .sc (.bool t) => if t then run H I N q a s else run H I N q b s
    | _ => none
  | .block id b, s => (run H I N q b s).map fun r => match r with
    | (.exit i, s') => if i = id then (.norm, s') else (.exit i, s')
    | r => r
  | .loop b, s => iter (run H I N q b) N s
  | .exit id, s => some (.exit id, s)
  | .ret, s => some (.ret, s)

def resA (s : St) : CRes → Option AV
  | .tmp t => some (s.1 t)
  | .cell agg k t => oLoad agg k s.2 (s.1 t)
def ressA (s : St) : List CRes → Option (List AV)
  | [] => some []
  | r :: rs => (resA s r).bind fun v => (ressA s rs).map fun vs => v :: vs
def tupA : List AV → Option AV
  | [v] => some v
  | vs => if vs.all (fun v => match v with | .tup _ => false | _ => true) = true then some (.tup vs) else none

/-- A function's run: nothing but 'normal' and 'return' leaves its body. -/
noncomputable def fnA (H : Hand) (I : Inl) (N : Nat) (q : Nat) (c : CFn) (as : List AV) (h : Hp) : Option (AV × Hp) :=
  (run H I N q c.body (argEnv as, h)).bind fun r => match r.1 with
    | .exit _ => none
    | _ => (ressA r.2 c.results).bind fun vs => (tupA vs).map fun v => (v, r.2.2)

/-- Functions that are entered, so deep at most. -/
noncomputable def inl (T : FuncId → Option CFn) (H : Hand) (N : Nat) : Nat → Inl
  | 0 => fun _ _ _ _ => none
  | d + 1 => fun q f as h => match T f with
    | some c => fnA H (inl T H N d) N q c as h
    | none => none

/-! ### When code of the program is code of the small language -/
def dstOk (nt : Nat) : Option Nat → Bool
  | some d => decide (d < nt)
  | none => true
def compIns (P : Program) (nt : Nat) (ops : List Oper) (o : Oper) : Option CIns :=
  match compOp P o.op with
  | none => none
  | some c =>
    if dstOk nt o.dst = true then
      match o.guard with
      | none => some ⟨o.dst, none, c⟩
      | some (j, want) => match (ops[j]?).bind (·.dst) with
        | some g => some ⟨o.dst, some (g, want), c⟩
        | none => none
    else none
def compAll (P : Program) (nt : Nat) (ops : List Oper) : List Oper → Option (List CIns)
  | [] => some []
  | o :: r => match compIns P nt ops o, compAll P nt ops r with
    | some i, some l => some (i :: l)
    | _, _ => none

end Go.Proofs.Ytihljollfbogeaa

/- Calls, operations and plain regions of the small language are those of the program. No condition. -/
namespace Go.Proofs.Ytihljollfbogeaa
open Go Go.RowKit

structure Kept (w w' : World) : Prop where
  os : w'.os = w.os
  tape : w'.tape = w.tape
  output : w'.output = w.output
  size : w.heap.size ≤ w'.heap.size
  heap : ∀ b, b < w.heap.size → w'.heap[b]? = w.heap[b]?

/-- The function is one that is entered. -/
def Enters (P : Program) (f : FuncId) : Prop := ∀ (args : Array Value) (w : World), (callFunc f args).run P w = .ok (.enter f args) w

/-- At arguments of this shape the function answers with a value of that shape, and writes nothing old. -/
def GoodV (P : Program) (f : FuncId) (as : List AV) (r : AV) : Prop :=
  ∀ (w : World) (ok : Nat → Prop) (us : List Value), (∀ b, ok b → b < w.heap.size) → us.length = as.length →
    (∀ (i : Nat) (a : AV) (u : Value), as[i]? = some a → us[i]? = some u → V w ok emp a u) →
    CallsIn Fence.wide 0 P f us.toArray w fun e w' => ∃ v, e = .returned v ∧ Kept w w' ∧ V w' (fun b => ok b ∨ (w.heap.size ≤ b ∧ b < w'.heap.size)) emp r v
/-- The function copies. -/
def GoodC (P : Program) (f : FuncId) (k : Nat) : Prop := ∀ (q : Nat) (as : List AV) (h h' : Hp) (v : AV), copyA k q as h = some (v, h') →
  ∀ (base : Nat) (w : World) (α : Al) (us : List Value), Rel base h w α → base ≤ w.heap.size → us.length = as.length →
    (∀ (i : Nat) (a : AV) (u : Value), as[i]? = some a → us[i]? = some u → V w (okA w α) α a u) →
    CallsIn Fence.wide 0 P f us.toArray w fun e w' => ∃ u, e = .returned u ∧ ∃ α', Rel base h' w' α' ∧ Ext w α w' α' ∧ V w' (okA w' α') α' v u
def Good (P : Program) (f : FuncId) (as : List AV) (r : AV) : Prop := match isMk r with
  | some k => GoodC P f k
  | none => GoodV P f as r
theorem Good.of {P : Program} {f : FuncId} {as : List AV} {r : AV} (h : isMk r = none) (g : GoodV P f as r) : Good P f as r := by unfold Good; rw [h]; exact g
theorem Good.to {P : Program} {f : FuncId} {as : List AV} {r : AV} (h : isMk r = none) (g : Good P f as r) : GoodV P f as r := by unfold Good at g; rw [h] at g; exact g
theorem Good.toC {P : Program} {f : FuncId} {as : List AV} {r : AV} {k : Nat} (h : isMk r = some k) (g : Good P f as r) : GoodC P f k := by unfold Good at g; rw [h] at g; exact g
def HandOk (P : Program) (H : Hand) : Prop := ∀ f as r, H f as = some r → Enters P f ∧ Good P f as r
def InlOk (P : Program) (I : Inl) : Prop := ∀ q f as h v h', I q f as h = some (v, h') → Enters P f ∧
  ∀ (base : Nat) (w : World) (α : Al) (us : List Value), Rel base h w α → base ≤ w.heap.size → us.length = as.length →
    (∀ (i : Nat) (a : AV) (u : Value), as[i]? = some a → us[i]? = some u → V w (okA w α) α a u) →
    CallsIn Fence.wide 0 P f us.toArray w fun e w' => ∃ u, e = .returned u ∧ ∃ α', Rel base h' w' α' ∧ Ext w α w' α' ∧ V w' (okA w' α') α' v u

structure Inv (nt base : Nat) (s : St) (a : Act) (w : World) (α : Al) : Prop where
  rel : Rel base s.2 w α
  base : base ≤ w.heap.size
  val : ∀ t, V w (okA w α) α (s.1 t) (a.tmps.getD t undef)
  size : nt ≤ a.tmps.size
  defers : a.defers = []

section
variable {P : Program} {w : World} {α : Al} {base : Nat} {h : Hp} {H : Hand} {I : Inl}

theorem Rel.grow (r : Rel base h w α) {w' : World} (k : Kept w w') : Rel base h w' α ∧ Ext w α w' α := by
  have hbF : ∀ b, free w α b → free w' α b ∧ w'.heap[b]? = w.heap[b]? := fun b hb => ⟨⟨Nat.lt_of_lt_of_le hb.1 k.size, hb.2⟩, k.heap b hb.1⟩
  have hb := okA_of_free hbF rfl
  refine ⟨⟨r.ver, fun m ae ha => ?_, r.inj, fun n ae b o r' h1 h2 => ?_, r.grant⟩, k.os, k.tape, k.output, k.size, hbF, Later.refl α, rfl⟩
  · exact (r.at_ m ae ha).mono (fun b o r' hb' => k.heap b (r.base m ae b o r' ha hb').2) hb (Later.refl α)
  · have := r.base n ae b o r' h1 h2
    exact ⟨this.1, Nat.lt_of_lt_of_le this.2 k.size⟩

theorem scalar1_any {w' : World} {ok ok' : Nat → Prop} {α' : Al} {a : AV} {u : Value} (hs : a.scalar1 = true) (hv : V1 w ok α a u) : V1 w' ok' α' a u := by
  cases a with
  | sc v => have := hv.sc_eq; subst this; exact .low _ _ (.sc _ hv.sc_one)
  | _ => simp [AV.scalar1] at hs
theorem scalarA_any {w' : World} {ok ok' : Nat → Prop} {α' : Al} {a : AV} {u : Value} (hs : (match a with | .agg cs => cs.all AV.scalar1 | v => v.scalar1) = true) (hv : VA w ok α a u) : VA w' ok' α' a u := by
  cases a with
  | agg cs =>
    obtain ⟨us, rfl, hc⟩ := hv
    exact ⟨us, rfl, hc.1, fun i a u ha hu => ⟨scalar1_any (List.all_eq_true.1 hs a (List.mem_of_getElem? ha)) (hc.2 i a u ha hu).1, (hc.2 i a u ha hu).2⟩⟩
  | _ => exact VA.of_V1 (scalar1_any hs hv)
theorem scalar_any {w' : World} {ok ok' : Nat → Prop} {α' : Al} {a : AV} {u : Value} (hs : a.scalar = true) (hv : V w ok α a u) : V w' ok' α' a u := by
  cases a with
  | tup vs =>
    obtain ⟨us, rfl, hl, hc⟩ := hv
    exact ⟨us, rfl, hl, fun i a x ha hx => scalarA_any (List.all_eq_true.1 hs a (List.mem_of_getElem? ha)) (hc i a x ha hx)⟩
  | _ => exact V.of_VA' (scalarA_any hs (hv.toVA (by intro vs e; cases e)))

theorem callA_ok (hH : HandOk P H) (hI : InlOk P I) {n : Nat} {f : FuncId} {as : List AV} {s s' : St} {v : AV} {us : List Value} (r : Rel base s.2 w α) (hb : base ≤ w.heap.size) (hl : us.length = as.length)
    (hv : ∀ (i : Nat) (a : AV) (u : Value), as[i]? = some a → us[i]? = some u → V w (okA w α) α a u) (hc : callA H I n f as s = some (v, s')) :
    Enters P f ∧ CallsIn Fence.wide 0 P f us.toArray w fun e w' => ∃ u, e = .returned u ∧ ∃ α', Rel base s'.2 w' α' ∧ Ext w α w' α' ∧ V w' (okA w' α') α' v u ∧
      ∀ t u', V w (okA w α) α (s.1 t) u' → V w' (okA w' α') α' (s'.1 t) u' := by
  unfold callA at hc
  split at hc
  · rename_i rr hr
    obtain ⟨hen, hg⟩ := hH _ _ _ hr
    refine ⟨hen, ?_⟩
    cases hmk : isMk rr with
    | some k =>
    rw [hmk] at hc
    simp only at hc
    obtain ⟨⟨v1, h1⟩, hq, hq2⟩ := Option.map_eq_some_iff.1 hc
    cases hq2
    refine CallsIn.mono (hg.toC hmk n as _ _ _ hq base w α us r hb hl hv) fun e w' he => ?_
    obtain ⟨u, rfl, α', r', x', hu⟩ := he
    exact ⟨u, rfl, α', r', x', hu, fun t u' h1 => h1.ext x'⟩
    | none =>
    rw [hmk] at hc
    simp only at hc
    replace hg := hg.to hmk
    have hg := hg w (okF w α (as.flatMap (nm s.2))) us (fun b hb' => by
      rcases hb' with h1 | h1
      · exact h1.1.1
      · exact h1.1) (by simpa using hl) (fun i a u ha hu => by
      rw [List.getElem?_map] at ha
      obtain ⟨y, hy, rfl⟩ := Option.map_eq_some_iff.1 ha
      exact fz_ok r (hv i y u hy hu) (fun n hn => List.mem_flatMap.2 ⟨y, List.mem_of_getElem? hy, hn⟩))
    refine CallsIn.mono hg fun e w' he => ?_
    obtain ⟨u, rfl, hk, hu⟩ := he
    obtain ⟨r', x'⟩ := r.grow hk
    refine ⟨u, rfl, ?_⟩
    have fresh : ∀ b, w.heap.size ≤ b → b < w'.heap.size → okA w' α b := fun b h1 h2 =>
      ⟨⟨h2, r.grant b (by omega)⟩, fun m ae o r'' ha hb' => absurd (r.base m ae b o r'' ha hb').2 (by omega)⟩
    split at hc
    · rename_i hs
      cases hc
      exact ⟨α, r', x', scalar_any hs hu, fun t u' h1 => h1.ext x'⟩
    · split at hc
      · rename_i hnil
        cases hc
        refine ⟨α, r', x', hu.mono (fun b hb' => ⟨?_, rfl⟩) (Later.emp α), fun t u' h1 => h1.ext x'⟩
        rw [hnil] at hb'
        rcases hb' with h1 | h1
        · rcases h1 with h1 | ⟨_, _, n, hn, _⟩
          · exact (x'.keep b h1).1
          · cases hn
        · exact fresh b h1.1 h1.2
      · rename_i ns hns
        cases hc
        obtain ⟨α', r2, x2, hf, hth⟩ := thawH_ok r' (as.flatMap (nm s.2))
        refine ⟨α', r2, x'.trans x2, hu.mono (fun b hb' => ⟨hf b ?_, rfl⟩) (Later.emp α'), fun t u' h1 => hth _ _ (h1.ext x')⟩
        rcases hb' with h1 | h1
        · rcases h1 with h1 | ⟨h1, h2, h3⟩
          · exact .inl (x'.keep b h1).1
          · exact .inr ⟨Nat.lt_of_lt_of_le h1 hk.size, h2, h3⟩
        · exact .inl (fresh b h1.1 h1.2)
  · obtain ⟨⟨v1, h1⟩, hq, hq2⟩ := Option.map_eq_some_iff.1 hc
    cases hq2
    obtain ⟨hen, hi⟩ := hI _ _ _ _ _ _ hq
    refine ⟨hen, CallsIn.mono (hi base w α us r hb hl hv) fun e w' he => ?_⟩
    obtain ⟨u, rfl, α', r', x', hu⟩ := he
    exact ⟨u, rfl, α', r', x', hu, fun t u' h1 => h1.ext x'⟩

theorem eval_map {a : Act} {e : Env} (hρ : ∀ x, V w (okA w α) α (aEval e x) (a.eval x)) (xs : List Operand) : ∀ (i : Nat) (y : AV) (u : Value), (xs.map (aEval e))[i]? = some y → (xs.map a.eval)[i]? = some u → V w (okA w α) α y u := fun i y u hy hu => by
  rw [List.getElem?_map] at hy hu
  obtain ⟨z, hz, rfl⟩ := Option.map_eq_some_iff.1 hy
  rw [hz] at hu
  cases hu
  exact hρ z

/-- Whatever an operation does, abstractly, the machine's does, and goes on there. -/
def OpThen (base : Nat) (P : Program) (o : Oper) (a : Act) (w : World) (α : Al) (s : St) (v : AV) (s' : St) : Prop :=
  ∀ (K : Act → World → Prop) (Q : Exit → Act → World → Prop),
    (∀ x w' α', Rel base s'.2 w' α' → Ext w α w' α' → V w' (okA w' α') α' v x → (∀ t u', V w (okA w α) α (s.1 t) u' → V w' (okA w' α') α' (s'.1 t) u') → K (a.put o.dst x) w') → o.wpIn Fence.wide 0 P a w K Q

theorem plain_then {o : Oper} {a : Act} {c : COp} {n : Nat} {s s' : St} {v : AV} (r : Rel base s.2 w α) (hb : base ≤ w.heap.size) (hval : ∀ t, V w (okA w α) α (s.1 t) (a.tmps.getD t undef))
    (hc : compOp P o.op = some c) (hev : ((c.ev n s.1 s.2).map fun q => (q.1, ((s.1, appD s.2 q.2) : St))) = some (v, s')) : OpThen base P o a w α s v s' := by
  intro K Q hK
  obtain ⟨⟨v0, d⟩, h1, h2⟩ := Option.map_eq_some_iff.1 hev
  cases h2
  obtain ⟨nx, x, w', h3, h4, α', h5, h6, h7⟩ := op_ok r hb (ρ := a.eval) (e := s.1) (fun x => eval_ok hval x) (fun v => rfl) hc h1
  refine ⟨fun _ _ => trivial, ?_⟩
  rw [show (Fence.wide).round = none from rfl, Oper.semAt_none, h3]
  have := hK x w' α' h5 h6 h7 (fun t u' hu => hu.ext h6)
  rcases h4 with rfl | ⟨rfl, rfl⟩
  · exact this
  · exact this

theorem call_then (hH : HandOk P H) (hI : InlOk P I) {o : Oper} {a : Act} {n : Nat} {f : FuncId} {as : List AV} {us : Array Value} {s s' : St} {v : AV} (r : Rel base s.2 w α) (hb : base ≤ w.heap.size)
    (hex : (callFunc f us).run P w = .ok (.enter f us) w → (execOp a.eval o).run P w = .ok (.enter f us) w) (hl : us.size = as.length) (hv : ∀ (i : Nat) (y : AV) (u : Value), as[i]? = some y → us[i]? = some u → V w (okA w α) α y u)
    (hc : callA H I n f as s = some (v, s')) : OpThen base P o a w α s v s' := by
  intro K Q hK
  obtain ⟨hen, hcall⟩ := callA_ok (us := us.toList) hH hI r hb (by simpa using hl) (fun i y u hy hu => hv i y u hy (by simpa using hu)) hc
  refine ⟨fun _ _ => trivial, ?_⟩
  rw [show (Fence.wide).round = none from rfl, Oper.semAt_none, hex (hen us w)]
  refine ⟨fun hd => by simp [Fence.wide] at hd, ?_⟩
  rw [show us.toList.toArray = us from by simp] at hcall
  refine CallsIn.mono hcall fun e w' he => ?_
  obtain ⟨u, rfl, α', h1, h2, h3, h4⟩ := he
  exact hK u w' α' h1 h2 h3 h4

theorem compOp_call {op : Op} {c : COp} (hc : compOp P op = some c) (hn : ∀ cc, op ≠ .call cc) : c.isCall = false := by
  unfold compOp at hc
  repeat' split at hc
  all_goals first
    | (cases hc; rfl)
    | (cases hc; done)
    | (obtain ⟨z, hz, rfl⟩ := Option.map_eq_some_iff.1 hc; rfl)
    | exact absurd rfl (hn _)

theorem opA_then (hH : HandOk P H) (hI : InlOk P I) {o : Oper} {a : Act} {c : COp} {n : Nat} {s s' : St} {v : AV} (r : Rel base s.2 w α) (hb : base ≤ w.heap.size) (hval : ∀ t, V w (okA w α) α (s.1 t) (a.tmps.getD t undef))
    (hc : compOp P o.op = some c) (hop : opA H I n c s = some (v, s')) : OpThen base P o a w α s v s' := by
  have hρ := fun x => eval_ok (w := w) (ok := okA w α) (α := α) (a := a) (e := s.1) hval x
  cases ho : o.op with
  | call cc =>
    rw [ho] at hc
    simp only [compOp] at hc
    split at hc
    · rename_i b hcal
      have hc' := hc
      unfold compB at hc
      have : opA H I n c s = ((c.ev n s.1 s.2).map fun q => (q.1, ((s.1, appD s.2 q.2) : St))) := by
        cases c <;> first | rfl | (exfalso; revert hc; repeat' split) <;> simp
      rw [this] at hop
      refine plain_then r hb hval ?_ hop
      rw [ho]
      simp only [compOp, hcal]
      exact hc'
    · rename_i f hcal
      cases hc
      simp only [opA] at hop
      refine call_then hH hI (us := cc.args.map a.eval) r hb (fun he => ?_) (by simp) (fun i y u hy hu => ?_) hop
      · simp only [execOp, ho, resolve, hcal]
        simpa [Deferred.ofValue, Act.eval, Frame.eval, invoke] using he
      · refine eval_map hρ cc.args.toList i y u hy ?_
        simpa using hu
    · rename_i x hnf hcal
      cases hc
      simp only [opA] at hop
      obtain ⟨⟨f, as⟩, h1, h2⟩ := Option.bind_eq_some_iff.1 hop
      unfold valueA at h1
      split at h1
      · rename_i f' first caps hx
        cases h1
        have hxv := hρ x
        rw [hx] at hxv
        generalize hxe : a.eval x = ux at hxv
        cases hxv with
        | low _ _ h => cases h
        | fn _ _ _ us vs k1 k2 k3 k4 =>
          refine call_then hH hI (us := us.toArray ++ cc.args.map a.eval ++ vs.toArray) r hb (fun he => ?_) (by simp; omega) (fun i y u hy hu => ?_) h2
          · simp only [execOp, ho, resolve, hcal]
            rw [hxe]
            simpa [Deferred.ofValue, invoke] using he
          · have hu' : (us ++ cc.args.toList.map a.eval ++ vs)[i]? = some u := by rw [← Array.getElem?_toList] at hu; simpa using hu
            rw [List.getElem?_append] at hy hu'
            have l1 : (first ++ cc.args.toList.map (aEval s.1)).length = (us ++ cc.args.toList.map a.eval).length := by simp; omega
            rw [l1] at hy
            split at hy
            · rename_i hlt
              rw [if_pos hlt] at hu'
              rw [List.getElem?_append] at hy hu'
              rw [← k1] at hy
              split at hy
              · rename_i hlt2
                rw [if_pos hlt2] at hu'
                exact V.of_V1 (k3 i y u hy hu')
              · rename_i hlt2
                rw [if_neg hlt2] at hu'
                exact eval_map hρ cc.args.toList _ y u hy hu'
            · rename_i hlt
              rw [if_neg hlt] at hu'
              exact V.of_V1 (k4 _ y u hy hu')
      · cases h1
    · cases hc
  | _ =>
    have hnc : c.isCall = false := compOp_call hc (fun cc e => by rw [ho] at e; cases e)
    have : opA H I n c s = ((c.ev n s.1 s.2).map fun q => (q.1, ((s.1, appD s.2 q.2) : St))) := by
      cases c <;> first | rfl | (simp [COp.isCall] at hnc)
    rw [this] at hop
    exact plain_then r hb hval hc hop

end
end Go.Proofs.Ytihljollfbogeaa
