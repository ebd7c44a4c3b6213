/- The abstract operations on parts of slices, strings and structs are those of the machine. No condition. -/
import Derived.Test.YtihljollfbogeaaA9
namespace Go.Proofs.Ytihljollfbogeaa
open Go Go.RowKit

section
variable {P : Program} {w : World} {α : Al} {base : Nat} {h : Hp}

/-- A value that may be missing. -/
def VO (w : World) (ok : Nat → Prop) (α : Al) (a : Option AV) (u : Option Value) : Prop :=
  match a, u with
  | none, none => True
  | some a, some u => V w ok α a u
  | _, _ => False

def cutA (mx : Option AV) (xs : List AV) (l u : Int) : Option AV :=
  match mx with
  | none => some (.imm ((xs.drop l.toNat).take (u - l).toNat))
  | some m => (asNum m).bind fun m => if m = u then some (if l = u then .nl else .full ((xs.drop l.toNat).take (u - l).toNat)) else none
def bnd (d : Int) (v : Option AV) : Option Int := match v with | none => some d | some v => asNum v

theorem bounds_ok {ok : Nat → Prop} {len cap : Nat} {lo hi mx : Option AV} {ul uh um : Option Value} {l u : Int} {m : Nat} (hl : VO w ok α lo ul) (hh : VO w ok α hi uh) (hm : VO w ok α mx um)
    (el : bnd 0 lo = some l) (eh : bnd len hi = some u)
    (em : bnd cap mx = some (m : Int)) (hmh : mx = none ∨ hi ≠ none) (h0 : 0 ≤ l) (h1 : l ≤ u) (h2 : u ≤ m) (h3 : m ≤ cap) :
    (Instr.sliceBounds true len cap ul uh um).run P w = .ok (l.toNat, u.toNat, m) w := by
  have eu : (u.toNat : Int) = u := Int.toNat_of_nonneg (by omega)
  have run3 : ∀ (k : IntKind) (code : BoundsCode), (Instr.sliceBound (.int k (m : Int)) cap code).run P w = .ok m w := fun k code => by
    rw [run_sliceBound w k m cap code (by omega) (by omega)]; simp
  have run2 : ∀ (k : IntKind) (c : Nat) (code : BoundsCode), u ≤ c → (Instr.sliceBound (.int k u) c code).run P w = .ok u.toNat w := fun k c code hc => run_sliceBound w k u c code (by omega) hc
  have run1 : ∀ (k : IntKind) (code : BoundsCode), (Instr.sliceBound (.int k l) u.toNat code).run P w = .ok l.toNat w := fun k code => run_sliceBound w k l u.toNat code h0 (by omega)
  cases mx with
  | none =>
    cases um with
    | some _ => exact absurd hm id
    | none =>
      have hmc : m = cap := by simp [bnd] at em; omega
      subst hmc
      cases hi with
      | none =>
        cases uh with
        | some _ => exact absurd hh id
        | none =>
          have hul : u = len := by simp [bnd] at eh; omega
          subst hul
          cases lo with
          | none =>
            cases ul with
            | some _ => exact absurd hl id
            | none => simp [bnd] at el; subst el; simp [Instr.sliceBounds]
          | some lo =>
            cases ul with
            | none => exact absurd hl id
            | some ul =>
              obtain ⟨k, rfl⟩ := asNum_ok el hl
              simp at run1
              simp [Instr.sliceBounds, run1]
      | some hi =>
        cases uh with
        | none => exact absurd hh id
        | some uh =>
          obtain ⟨k', rfl⟩ := asNum_ok eh hh
          cases lo with
          | none =>
            cases ul with
            | some _ => exact absurd hl id
            | none => simp [bnd] at el; subst el; simp [Instr.sliceBounds, run2 _ m _ h2]
          | some lo =>
            cases ul with
            | none => exact absurd hl id
            | some ul =>
              obtain ⟨k, rfl⟩ := asNum_ok el hl
              simp [Instr.sliceBounds, run1, run2 _ m _ h2]
  | some mx =>
    cases um with
    | none => exact absurd hm id
    | some um =>
      obtain ⟨k'', rfl⟩ := asNum_ok em hm
      cases hi with
      | none => simp at hmh
      | some hi =>
        cases uh with
        | none => exact absurd hh id
        | some uh =>
          obtain ⟨k', rfl⟩ := asNum_ok eh hh
          cases lo with
          | none =>
            cases ul with
            | some _ => exact absurd hl id
            | none => simp [bnd] at el; subst el; simp [Instr.sliceBounds, run2 _ m _ h2, run3]
          | some lo =>
            cases ul with
            | none => exact absurd hl id
            | some ul =>
              obtain ⟨k, rfl⟩ := asNum_ok el hl
              simp [Instr.sliceBounds, run1, run2 _ m _ h2, run3]

/-- A part of a slice that nobody of us writes. -/
theorem part_imm {ok : Nat → Prop} {xs : List AV} {A : Option Addr} {len cap : Nat} {l u m k : Nat} (hcases : V0 w ok (.imm xs) (.slice A len cap) ∨ V0 w ok (.full xs) (.slice A len cap)) (h1 : l ≤ u) (h2 : u ≤ xs.length) (h3 : u ≤ m)
    (hk : l = 0 ∨ xs.all (fun el => el.cells.length == k) = true) :
    V0 w ok (.imm ((xs.drop l).take (u - l))) (sliced A l u m k) ∧ (m = u → V0 w ok (.full ((xs.drop l).take (u - l))) (sliced A l u m k)) := by
  have hlen : ((xs.drop l).take (u - l)).length = u - l := by simp; omega
  have hg : ∀ (j : Nat) (el : AV), ((xs.drop l).take (u - l))[j]? = some el → xs[l + j]? = some el ∧ j < u - l := fun j el he => by
    rw [List.getElem?_take] at he
    split at he
    · rw [List.getElem?_drop] at he; exact ⟨he, by assumption⟩
    · cases he
  obtain ⟨sz, b, o, U, hh, hc, hv⟩ : ∃ (sz b o : Nat) (U : Nat → Nat → Value), (∀ (j : Nat) (el : AV), xs[j]? = some el → el.cells.length = sz ∧ A = some ⟨b, o, none⟩ ∧ ok b) ∧
      (∀ (j : Nat) (el : AV) (c : Nat) (a : AV), xs[j]? = some el → el.cells[c]? = some a → w.cell? ⟨b, o + (j * sz + c), none⟩ = some (U j c)) ∧
      (∀ (j : Nat) (el : AV) (c : Nat) (a : AV), xs[j]? = some el → el.cells[c]? = some a → V0 w ok a (U j c)) := by
    rcases hcases with h | h
    · cases h with
      | imm _ _ _ sz b o U hcap hh hc hv => exact ⟨sz, b, o, U, hh, hc, hv⟩
    · cases h with
      | full _ _ sz b o U hh hc hv => exact ⟨sz, b, o, U, hh, hc, hv⟩
  have base : ∀ (j : Nat) (el : AV), ((xs.drop l).take (u - l))[j]? = some el → el.cells.length = sz ∧ (if m = l then A else A.map (·.add (l * k))) = some ⟨b, o + l * sz, none⟩ ∧ ok b := fun j el he => by
    obtain ⟨g1, g2⟩ := hg j el he
    obtain ⟨h4, h5, h6⟩ := hh _ _ g1
    refine ⟨h4, ?_, h6⟩
    rw [if_neg (by omega), h5, Option.map_some, add_at]
    rcases hk with hk | hk
    · simp [hk]
    · have := List.all_eq_true.1 hk el (List.mem_of_getElem? g1)
      simp at this
      rw [← this, h4]
  have cell : ∀ (j : Nat) (el : AV) (c : Nat) (a : AV), ((xs.drop l).take (u - l))[j]? = some el → el.cells[c]? = some a → w.cell? ⟨b, o + l * sz + (j * sz + c), none⟩ = some (U (l + j) c) := fun j el c a he ha => by
    have := hc (l + j) el c a (hg j el he).1 ha
    rw [Nat.add_mul] at this
    rw [show o + l * sz + (j * sz + c) = o + (l * sz + j * sz + c) by omega]
    exact this
  have vals : ∀ (j : Nat) (el : AV) (c : Nat) (a : AV), ((xs.drop l).take (u - l))[j]? = some el → el.cells[c]? = some a → V0 w ok a (U (l + j) c) := fun j el c a he ha => hv (l + j) el c a (hg j el he).1 ha
  refine ⟨?_, fun hm => ?_⟩
  · have := V0.imm (w := w) (ok := ok) ((xs.drop l).take (u - l)) (if m = l then A else A.map (·.add (l * k))) (m - l) sz b (o + l * sz) (fun j c => U (l + j) c) (by omega) base cell vals
    rw [hlen] at this
    exact this
  · subst hm
    have := V0.full (w := w) (ok := ok) ((xs.drop l).take (m - l)) (if m = l then A else A.map (·.add (l * k))) sz b (o + l * sz) (fun j c => U (l + j) c) base cell vals
    rw [hlen] at this
    exact this

theorem elem_of {t e : TypeId} (ht : P.underlying t = some (.slice e)) : P.elem t = e := by
  simp [Program.elem, ht]

theorem slice_ok (r : Rel base h w α) {t e : TypeId} {k : Nat} {x v : AV} {lo hi mx : Option AV} {ux : Value} {ul uh um : Option Value} (ht : P.underlying t = some (.slice e)) (he : hasT P e = true) (hk : k = P.cellsOf e)
    (ho : oSlice h k x lo hi mx = some v) (hmh : mx = none ∨ hi ≠ none) (hx : V w (okA w α) α x ux) (hl : VO w (okA w α) α lo ul) (hh : VO w (okA w α) α hi uh) (hm : VO w (okA w α) α mx um) :
    ∃ r, (Instr.sliceAt t ux ul uh um).run P w = .ok r w ∧ V w (okA w α) α v r := by
  have hte : P.underlying t = some (.slice (P.elem t)) := by rw [elem_of ht]; exact ht
  rw [run_sliceAt_slice w t ux ul uh um hte]
  have fin : ∀ (A : Option Addr) (len cap l u m : Nat), (Instr.sliceBounds true len cap ul uh um).run P w = .ok (l, u, m) w → (Instr.slice t (.slice A len cap) ul uh um).run P w = .ok (sliced A l u m k) w := fun A len cap l u m hb => by
    rw [run_slice_any w t A len cap hte, hb]
    simp only [Result.andThen_ok]
    rw [elem_of ht, run_size' he]
    simp [hk]
  unfold oSlice at ho
  have imm : ∀ (xs : List AV) (A : Option Addr) (len cap : Nat), len = xs.length → xs.length ≤ cap → (V0 w (okA w α) (.imm xs) (.slice A len cap) ∨ V0 w (okA w α) (.full xs) (.slice A len cap)) →
      ((bnd 0 lo).bind fun l => (bnd xs.length hi).bind fun u =>
        if 0 ≤ l ∧ l ≤ u ∧ u ≤ xs.length ∧ (l = 0 ∨ xs.all (fun el => el.cells.length == k) = true) then
          cutA mx xs l u
        else none) = some v → ∃ r, (Instr.slice t (.slice A len cap) ul uh um).run P w = .ok r w ∧ V w (okA w α) α v r := by
    intro xs A len cap hlen hcap hc ho
    subst hlen
    obtain ⟨l, hl1, ho⟩ := Option.bind_eq_some_iff.1 ho
    obtain ⟨u, hu1, ho⟩ := Option.bind_eq_some_iff.1 ho
    split at ho
    case isFalse => cases ho
    rename_i hcond
    obtain ⟨c1, c2, c3, c4⟩ := hcond
    obtain ⟨l, rfl⟩ := Int.eq_ofNat_of_zero_le c1
    obtain ⟨u, rfl⟩ := Int.eq_ofNat_of_zero_le (Int.le_trans c1 c2)
    have c4' : l = 0 ∨ xs.all (fun el => el.cells.length == k) = true := by rcases c4 with c | c; exact .inl (by omega); exact .inr c
    have esub : ((u : Int) - (l : Int)).toNat = u - l := by omega
    cases mx with
    | none =>
      cases ho
      refine ⟨_, fin A _ cap l u cap (by have := bounds_ok (P := P) (cap := cap) (m := cap) hl hh hm hl1 hu1 rfl hmh c1 c2 (by omega) (by omega); simpa using this), ?_⟩
      rw [esub]
      exact V.of_V1 (.low _ _ (part_imm hc (by omega) (by omega) (by omega) c4').1)
    | some mx =>
      obtain ⟨m, hm1, ho⟩ := Option.bind_eq_some_iff.1 ho
      split at ho
      case isFalse => cases ho
      rename_i hmu
      subst hmu
      cases ho
      refine ⟨_, fin A _ cap l u u (by have := bounds_ok (P := P) (cap := cap) (m := u) hl hh hm hl1 hu1 hm1 hmh c1 c2 (by omega) (by omega); simpa using this), ?_⟩
      split
      · rename_i hlu
        have : l = u := by omega
        subst this
        simp only [sliced, Nat.sub_self]
        exact V.of_V1 (.low _ _ (.nl _))
      · rw [esub]
        exact V.of_V1 (.low _ _ ((part_imm hc (by omega) (by omega) (Nat.le_refl _) c4').2 rfl))
  split at ho
  · rename_i xs
    cases hx with
    | low _ _ hx =>
      cases hx with
      | imm _ A cap sz b o U hcap h1 h2 h3 => exact imm xs A _ cap rfl hcap (.inl (.imm xs A cap sz b o U hcap h1 h2 h3)) ho
  · rename_i xs
    cases hx with
    | low _ _ hx =>
      cases hx with
      | full _ A sz b o U h1 h2 h3 => exact imm xs A _ _ rfl (Nat.le_refl _) (.inr (.full xs A sz b o U h1 h2 h3)) ho
  · rename_i n ver i len
    obtain ⟨l, hl1, ho⟩ := Option.bind_eq_some_iff.1 ho
    obtain ⟨u, hu1, ho⟩ := Option.bind_eq_some_iff.1 ho
    obtain ⟨⟨sz, els⟩, hr1, ho⟩ := Option.bind_eq_some_iff.1 ho
    split at ho
    case isFalse => cases ho
    rename_i hcond
    obtain ⟨c1, c2, c3, c4⟩ := hcond
    simp only at c3 c4 ho
    obtain ⟨l, rfl⟩ := Int.eq_ofNat_of_zero_le c1
    obtain ⟨u, rfl⟩ := Int.eq_ofNat_of_zero_le (Int.le_trans c1 c2)
    have esub : ((u : Int) - (l : Int)).toNat = u - l := by omega
    simp only [Int.toNat_natCast] at c3
    cases hx with
    | low _ _ h => cases h
    | ref _ _ _ _ A cap ae hle ha hver hh' =>
      obtain ⟨e1, e2, e3, e4, e5⟩ := r.row hr1 ha
      obtain ⟨g1, g2, g3⟩ := hh' e1.symm
      have hucap : u ≤ cap := by omega
      cases mx with
      | none =>
        cases ho
        refine ⟨_, fin A _ cap l u cap (by have := bounds_ok (P := P) (cap := cap) (m := cap) hl hh hm hl1 hu1 rfl hmh c1 c2 (by omega) (by omega); simpa using this), ?_⟩
        rw [esub]
        simp only [Int.toNat_natCast]
        refine V.of_V1 (.ref _ _ _ _ _ _ ae (by omega) ha hver fun _ => ⟨by omega, by omega, ?_⟩)
        cases hblk : ae.blk with
        | none => rw [hblk] at g3; simp only at g3 ⊢; omega
        | some q =>
          obtain ⟨b, off, room⟩ := q
          rw [hblk] at g3
          simp only at g3 ⊢
          refine ⟨by omega, fun hpos => ?_⟩
          rw [if_neg (by omega), g3.2 (by omega), Option.map_some, add_at, e2, ← c4, Nat.add_mul]
          simp [Nat.add_assoc]
      | some mx =>
        obtain ⟨m, hm1, ho⟩ := Option.bind_eq_some_iff.1 ho
        split at ho
        case isFalse => cases ho
        rename_i hmu
        obtain ⟨d1, d2⟩ := hmu
        obtain ⟨m, rfl⟩ := Int.eq_ofNat_of_zero_le (Int.le_trans (Int.le_trans c1 c2) d1)
        simp only [Int.toNat_natCast] at d2
        cases ho
        exact ⟨_, fin A _ cap l u m (by have := bounds_ok (P := P) (cap := cap) (m := m) hl hh hm hl1 hu1 hm1 hmh c1 c2 d1 (by omega); simpa using this), V.junk⟩
  · obtain ⟨l, hl1, ho1⟩ := Option.bind_eq_some_iff.1 ho
    obtain ⟨u, hu1, ho2⟩ := Option.bind_eq_some_iff.1 ho1
    clear ho ho1
    split at ho2
    case isFalse => cases ho2
    rename_i hcond
    obtain ⟨rfl, rfl⟩ := hcond
    cases hx with
    | low _ _ hx =>
      cases hx with
      | nl A =>
        cases mx with
        | none =>
          cases ho2
          refine ⟨_, fin A _ 0 0 0 0 (by have := bounds_ok (P := P) (cap := 0) (m := 0) hl hh hm hl1 hu1 rfl hmh (by omega) (by omega) (by omega) (by omega); simpa using this), V.of_V1 (.low _ _ (.nl _))⟩
        | some mx =>
          obtain ⟨m, hm1, ho3⟩ := Option.bind_eq_some_iff.1 ho2
          split at ho3
          case isFalse => cases ho3
          rename_i hmu
          subst hmu
          cases ho3
          refine ⟨_, fin A _ 0 0 0 0 (by have := bounds_ok (P := P) (cap := 0) (m := 0) hl hh hm hl1 hu1 (by simpa [bnd] using hm1) hmh (by omega) (by omega) (by omega) (by omega); simpa using this), V.of_V1 (.low _ _ (.nl _))⟩
  · cases ho

/-! ### Strings -/
theorem bytes_ok {ok : Nat → Prop} : ∀ (ys : List AV) (us : List Value) (s : ByteArray), bytesOfA ys = some s → Hold w ok α 1 ys us → ∃ ns : List Int, us = ns.map (Value.int .u8) ∧ s.data.toList = ns.map fun n => UInt8.ofNat n.toNat
  | [], us, s, hb, hh => by
    have : us = [] := List.eq_nil_of_length_eq_zero (by simpa using hh.1)
    subst this
    cases hb
    exact ⟨[], rfl, rfl⟩
  | y :: ys, us, s, hb, hh => by
    cases us with
    | nil => have := hh.1; simp at this
    | cons u us =>
      unfold bytesOfA at hb
      split at hb
      · cases (by assumption : y :: ys = [])
      · rename_i n r heq
        cases heq
        obtain ⟨s', hs', rfl⟩ := Option.map_eq_some_iff.1 hb
        have h0 := (hh.2.2 0 _ rfl).2 0 _ rfl
        obtain ⟨x, hx, hv⟩ := h0
        simp at hx
        subst hx
        have hu := hv.sc_eq
        obtain ⟨ns, h1, h2⟩ := bytes_ok ys us s' hs' ⟨by have := hh.1; simp at this ⊢; omega, fun u hu => hh.2.1 u (by simp [hu]), fun j el he => by
          have := hh.2.2 (j + 1) el (by simpa using he)
          refine ⟨this.1, fun c a ha => ?_⟩
          obtain ⟨x, hx, hv⟩ := this.2 c a ha
          refine ⟨x, ?_, hv⟩
          rw [show (j + 1) * 1 + c = (j * 1 + c) + 1 by omega] at hx
          simpa using hx⟩
        exact ⟨n :: ns, by simp [hu, h1], by simp [h2]⟩
      · cases hb

theorem convStr_ok (r : Rel base h w α) {src dst e : TypeId} {x v : AV} {u : Value} (hs : P.underlying src = some (.slice e)) (he : P.underlying e = some (.int .u8)) (hd : P.underlying dst = some .string)
    (ho : oConvStr h x = some v) (hx : V w (okA w α) α x u) : ∃ r, (convert src dst u).run P w = .ok r w ∧ V w (okA w α) α v r := by
  unfold oConvStr at ho
  obtain ⟨ys, hy, ho⟩ := Option.bind_eq_some_iff.1 ho
  obtain ⟨s, hs1, rfl⟩ := Option.map_eq_some_iff.1 ho
  have hk : ∀ (ys : List AV) (s : ByteArray), bytesOfA ys = some s → ∀ y ∈ ys, y.cells.length = 1 := by
    intro ys
    induction ys with
    | nil => intro s _ y hy; simp at hy
    | cons a ys ih =>
      intro s hb y hy
      unfold bytesOfA at hb
      split at hb
      · cases (by assumption : a :: ys = [])
      · rename_i n r heq
        cases heq
        obtain ⟨s', hs', rfl⟩ := Option.map_eq_some_iff.1 hb
        rcases List.mem_cons.1 hy with rfl | hy
        · rfl
        · exact ih s' hs' y hy
      · cases hb
  obtain ⟨A, n, c, rfl, rfl, us, hold, hread⟩ := elems_ok (P := P) r hy hx (hk ys s hs1)
  obtain ⟨ns, h1, h2⟩ := bytes_ok ys us s hs1 hold
  have hr := hread w (fun _ _ => rfl)
  have hfold : ∀ (ns : List Int) (s0 : ByteArray), (ns.foldl (fun r n => r.push (UInt8.ofNat n.toNat)) s0) = ⟨(s0.data.toList ++ ns.map fun n => UInt8.ofNat n.toNat).toArray⟩ := by
    intro ns
    induction ns with
    | nil => intro s0; simp
    | cons n ns ih => intro s0; rw [List.foldl_cons, ih]; simp [ByteArray.push]
  have es : s = ns.foldl (fun r n => r.push (UInt8.ofNat n.toNat)) ByteArray.empty := by
    rw [hfold]
    have : s = ⟨s.data⟩ := rfl
    rw [this]
    congr 1
    apply Array.ext'
    simp [h2]
  refine ⟨.string s, ?_, V.sc rfl⟩
  rw [run_convert_bytes_string w src dst e A _ c hs he hd]
  cases A with
  | none =>
    have : us = [] := by simpa [Builtin.firstCells] using hr.symm
    rw [this] at h1
    have hns : ns = [] := by simpa using h1.symm
    subst hns
    rw [es]
    rfl
  | some a =>
    have hl : (loadCells a ys.length).run P w = .ok (ns.map (Value.int .u8)).toArray w := by
      rw [← h1]
      have : (Builtin.firstCells 1 ys.length (.slice (some a) ys.length c)) = loadCells a (ys.length * 1) := rfl
      rw [this, Nat.mul_one] at hr
      exact hr
    rw [run_bytesToString w a ys.length c ns hl, es]

end
end Go.Proofs.Ytihljollfbogeaa
