/- Reading memory: addresses, loads, lengths, parts of slices, strings. No condition. -/
import Derived.Test.YtihljollfbogeaaA2
import Derived.Laws.CopyRow
import Derived.Laws.Slices
import Derived.Laws.AppendOwn
import Derived.Laws.MakeOwn
namespace Go.Proofs.Ytihljollfbogeaa
open Go Go.RowKit

def aggB (P : Program) (t : TypeId) : Bool := match P.underlying t with | some (.struct _) | some (.array _ _) => true | _ => false
def hasT (P : Program) (t : TypeId) : Bool := (P.underlying t).isSome && (P.info? t).isSome

section
variable {P : Program} {w : World} {ok : Nat → Prop} {α : Al}

theorem run_isAgg' {t : TypeId} (h : hasT P t = true) : (isAgg t).run P w = .ok (aggB P t) w := by
  simp only [hasT, Bool.and_eq_true, Option.isSome_iff_exists] at h
  obtain ⟨⟨d, hd⟩, _⟩ := h
  simp only [isAgg, Sem.run_bind, run_underlying hd, Result.andThen_ok, aggB, hd]
  cases d <;> rfl
theorem run_size' {t : TypeId} (h : hasT P t = true) : (sizeOf t).run P w = .ok (P.cellsOf t) w := by
  simp only [hasT, Bool.and_eq_true, Option.isSome_iff_exists] at h
  obtain ⟨_, i, hi⟩ := h
  simp [sizeOf, typeInfo, hi, Program.cellsOf]

theorem add_at (b o j : Nat) : (⟨b, o, none⟩ : Addr).add j = ⟨b, o + j, none⟩ := by unfold Addr.add; split <;> simp_all

/-- Some cells lie there. -/
def Lie (w : World) (ok : Nat → Prop) (α : Al) (b o : Nat) (cs : List AV) : Prop :=
  ∀ (i : Nat) (a : AV), cs[i]? = some a → ∃ x, w.cell? ⟨b, o + i, none⟩ = some x ∧ V1 w ok α a x ∧ x.oneCell' = true

theorem load_part {t : TypeId} {k b o c : Nat} {cs : List AV} {v : AV} (ht : hasT P t = true) (hk : k = P.cellsOf t) (h : partA (aggB P t) k c cs = some v) (hl : Lie w ok α b o cs) :
    ∃ u, (loadVar t ⟨b, o + c, none⟩).run P w = .ok u w ∧ V w ok α v u := by
  subst hk
  unfold loadVar
  simp only [Sem.run_bind, run_isAgg' ht, Result.andThen_ok]
  unfold partA at h
  cases hagg : aggB P t
  · simp only [hagg, Bool.false_eq_true, if_false] at h ⊢
    obtain ⟨x, hx, hv, h1⟩ := hl c v h
    exact ⟨x, by simp [hx], V.of_V1 hv⟩
  · simp only [hagg, if_true] at h ⊢
    split at h
    · rename_i hle
      cases h
      obtain ⟨us, hus⟩ : ∃ us : List Value, us = (List.range (P.cellsOf t)).map fun j => (w.cell? ⟨b, o + c + j, none⟩).getD undef := ⟨_, rfl⟩
      have hlen : us.length = P.cellsOf t := by simp [hus]
      have hget : ∀ j u, us[j]? = some u → w.cell? ⟨b, o + c + j, none⟩ = some u ∧ ∃ a, cs[c + j]? = some a ∧ V1 w ok α a u ∧ u.oneCell' = true := fun j u hu => by
        have hj : j < P.cellsOf t := by rw [← hlen]; exact (List.getElem?_eq_some_iff.1 hu).1
        have hcs : c + j < cs.length := by omega
        obtain ⟨x, hx, hv, h1⟩ := hl (c + j) cs[c + j] (List.getElem?_eq_getElem hcs)
        rw [← Nat.add_assoc] at hx
        rw [hus] at hu
        simp [hj, hx] at hu
        subst hu
        exact ⟨hx, _, List.getElem?_eq_getElem hcs, hv, h1⟩
      have hrun := run_loadCells_list (P := P) w ⟨b, o + c, none⟩ us (fun j u hu => by rw [add_at]; exact (hget j u hu).1)
      rw [hlen] at hrun
      refine ⟨.agg us.toArray, by simp [run_size' ht, hrun], us.toArray, rfl, by simp [hlen]; omega, fun i a u ha hu => ?_⟩
      simp at hu
      obtain ⟨_, a', ha', hv, h1⟩ := hget i u hu
      have : a' = a := by
        rw [List.getElem?_take] at ha
        split at ha
        · rw [List.getElem?_drop] at ha; rw [ha] at ha'; exact (Option.some.inj ha').symm
        · cases ha
      subst this
      exact ⟨hv, h1⟩
    · cases h


theorem rowAt_spec {h : Hp} {n ver sz : Nat} {els : List AV} (hr : rowAt? h n ver = some (sz, els)) : h n = (ver, .row sz els) := by
  unfold rowAt? at hr
  split at hr
  · rename_i v sz' els' he
    split at hr
    · rename_i hv; cases hr; rw [he, hv]
    · cases hr
  · cases hr

/-- A block of our own that is there. -/
structure Own (w : World) (ok : Nat → Prop) (α : Al) (b off room sz : Nat) (els : List AV) : Prop where
  le : els.length ≤ room
  cells : ∃ cs t, w.heap[b]? = some (.cells cs t (0, 0)) ∧ off + room * sz ≤ cs.size
  len : ∀ (e : Nat) (el : AV), els[e]? = some el → el.cells.length = sz
  one : ∀ (e : Nat) (el : AV), els[e]? = some el → ∀ (c : Nat) (a : AV), el.cells[c]? = some a → a.one = true
  lie : ∀ (e : Nat) (el : AV), els[e]? = some el → Lie w ok α b (off + e * sz) el.cells

theorem Rel.row {base : Nat} {h : Hp} (r : Rel base h w α) {n ver sz : Nat} {els : List AV} (hr : rowAt? h n ver = some (sz, els)) {ae : AE} (ha : α n = some ae) :
    ae.ver = ver ∧ ae.sz = sz ∧ ae.len = els.length ∧ (ae.blk = none → els = []) ∧ ∀ b off room, ae.blk = some (b, off, room) → Own w (okA w α) α b off room sz els := by
  have h1 := r.ver n ae ha
  have h2 := r.at_ n ae ha
  rw [rowAt_spec hr] at h1 h2
  obtain ⟨h3, h4, h5⟩ := h2
  refine ⟨h1.symm, h3, h4, fun hb => ?_, fun b off room hb => ?_⟩
  · rw [hb] at h5; exact h5
  · rw [hb] at h5
    obtain ⟨h6, cs, t, h7, h8, h9⟩ := h5
    refine ⟨h6, ⟨cs, t, h7, h8⟩, fun e el he => (h9 e el he).1, fun e el he c a hc => ((h9 e el he).2 c a hc).1, fun e el he c a hc => ?_⟩
    obtain ⟨h10, x, hx, hv⟩ := (h9 e el he).2 c a hc
    exact ⟨x, by rw [cell_of_row w b _ cs t (0, 0) h7]; exact hx, hv, hv.one h10⟩

theorem sure_ok (a : Addr) : (Instr.sureAddr (.pointer (some a))).run P w = .ok a w := rfl

theorem load_ok {base : Nat} {h : Hp} (r : Rel base h w α) {t : TypeId} {k : Nat} {p v : AV} {u : Value} (ht : hasT P t = true) (hk : k = P.cellsOf t) (ho : oLoad (aggB P t) k h p = some v) (hp : V w (okA w α) α p u) :
    ∃ x, (Instr.loadAt t u).run P w = .ok x w ∧ V w (okA w α) α v x := by
  unfold oLoad at ho
  split at ho
  · rename_i n ver e c
    obtain ⟨⟨sz, els⟩, h1, h2⟩ := Option.bind_eq_some_iff.1 ho
    obtain ⟨el, h3, h4⟩ := Option.bind_eq_some_iff.1 h2
    cases hp with
    | low _ _ h => cases h
    | ptr _ _ _ _ a ae ha hv hh =>
      obtain ⟨e1, e2, e3, e4, e5⟩ := r.row h1 ha
      obtain ⟨b, off, room, hb, rfl⟩ := hh e1.symm
      have O := e5 b off room hb
      have L := O.lie e el h3
      rw [e2]
      obtain ⟨x, hx, hv⟩ := load_part (P := P) ht hk h4 L
      exact ⟨x, by rw [Instr.loadAt, Sem.run_bind, sure_ok]; exact hx, hv⟩
  · rename_i cs c
    cases hp with
    | low _ _ h =>
      cases h with
      | ipt _ _ b o U hok hc hv =>
        obtain ⟨x, hx, hv⟩ := load_part (P := P) (ok := okA w α) (α := α) ht hk ho (b := b) (o := o) (fun i a ha => ⟨U i, hc i a ha, .low _ _ (hv i a ha), (hv i a ha).one⟩)
        exact ⟨x, by rw [Instr.loadAt, Sem.run_bind, sure_ok]; exact hx, hv⟩
  · cases ho

theorem oNil_ok {x v : AV} {u : Value} (h : oNil x = some v) (hx : V w ok α x u) : v = x ∧ ∀ (P : Program) (o : Operand) (ρ : Operand → Value), ρ o = u →
    (match ρ o with
    | .pointer none | .nilIface | .nilFunc => (runtimePanic .nilDeref : Sem Next)
    | .func (.method name) first captured =>
      match (first[0]? : Option Value) with
      | some .nilIface => runtimePanic .nilDeref
      | some (.iface t w) => do
        if (← nilAhead ((← program).types.size + Made.depth) t w name) != some false then
          unsupported (.noEntry "op/nilCheck.the method's receiver behind this interface value is a nil pointer, or cannot be seen to be none, and the arguments act or may panic (ledger 612)")
        pure (.value (.func (.method name) first captured))
      | _ => pure (.value (.func (.method name) first captured))
    | x => pure (.value x)).run P w = .ok (.value u) w := by
  unfold oNil at h
  split at h
  · cases h
    refine ⟨rfl, fun P o ρ e => ?_⟩
    cases hx with
    | low _ _ h => cases h
    | ptr => rw [e]; rfl
  · cases h
    refine ⟨rfl, fun P o ρ e => ?_⟩
    cases hx with
    | low _ _ h => cases h; rw [e]; rfl
  · cases h
    refine ⟨rfl, fun P o ρ e => ?_⟩
    cases hx with
    | low _ _ h => cases h
    | fn => rw [e]; rfl
  · cases h

theorem fieldPlace_ok {b o : Nat} {f : Field} (ht : hasT P f.type = true) (h0 : P.cellsOf f.type ≠ 0) : (fieldPlace ⟨b, o, none⟩ f).run P w = .ok ⟨b, o + f.offset, none⟩ w := by
  simp [fieldPlace, run_size' ht, h0, add_at]
theorem fieldAddr_ok {s : TypeId} {fs : Array Field} {i : Nat} {f : Field} {x v : AV} {u : Value} (hs : P.underlying s = some (.struct fs)) (hf : fs[i]? = some f) (ht : hasT P f.type = true) (h0 : P.cellsOf f.type ≠ 0)
    (h : oFieldAddr f.offset x = some v) (hx : V w ok α x u) : ∃ r, (Instr.fieldAt s u i).run P w = .ok r w ∧ V w ok α v r := by
  unfold oFieldAddr at h
  split at h
  · rename_i n ver e c
    cases h
    cases hx with
    | low _ _ h => cases h
    | ptr _ _ _ _ a ae ha hv hh =>
      by_cases hver : ver = ae.ver
      · obtain ⟨b, off, room, hb, rfl⟩ := hh hver
        refine ⟨.pointer (some ⟨b, off + e * ae.sz + c + f.offset, none⟩), ?_, V.of_V1 (.ptr _ _ _ _ _ ae ha hv fun _ => ⟨b, off, room, hb, by simp [Nat.add_assoc]⟩)⟩
        simp [Instr.fieldAt, run_underlying hs, hf, Instr.sureAddr, fieldPlace_ok ht h0]
      · refine ⟨.pointer (some (a.add f.offset)), ?_, V.of_V1 (.ptr _ _ _ _ _ ae ha hv fun e => absurd e hver)⟩
        simp [Instr.fieldAt, run_underlying hs, hf, Instr.sureAddr, fieldPlace, run_size' ht, h0]
  · rename_i cs c
    cases h
    cases hx with
    | low _ _ h =>
      cases h with
      | ipt _ _ b o U hok hc hv =>
        refine ⟨.pointer (some ⟨b, o + (c + f.offset), none⟩), ?_, V.of_V1 (.low _ _ (.ipt _ _ b o U hok hc hv))⟩
        simp [Instr.fieldAt, run_underlying hs, hf, Instr.sureAddr, fieldPlace_ok ht h0, Nat.add_assoc]
  · cases h

theorem asNum_ok {x : AV} {u : Value} {i : Int} (h : asNum x = some i) (hx : V w ok α x u) : ∃ k, u = .int k i := by
  unfold asNum at h
  split at h
  · cases h; exact ⟨_, hx.sc_eq⟩
  · cases h

theorem indexS_ok {base : Nat} {h : Hp} (r : Rel base h w α) {t e : TypeId} {k : Nat} {x i v : AV} {ux ui : Value} (ht : P.underlying t = some (.slice e)) (he : hasT P e = true) (hk : k = P.cellsOf e)
    (ho : oIndexS k h x i = some v) (hx : V w (okA w α) α x ux) (hi : V w (okA w α) α i ui) : ∃ p, (Instr.indexAt t ux ui).run P w = .ok p w ∧ V w (okA w α) α v p := by
  subst hk
  have imm : ∀ (xs : List AV) (A : Option Addr) (cap sz b o : Nat) (U : Nat → Nat → Value)
      (_ : ∀ (j : Nat) (el : AV), xs[j]? = some el → el.cells.length = sz ∧ A = some ⟨b, o, none⟩ ∧ okA w α b)
      (_ : ∀ (j : Nat) (el : AV) (c : Nat) (a : AV), xs[j]? = some el → el.cells[c]? = some a → w.cell? ⟨b, o + (j * sz + c), none⟩ = some (U j c))
      (_ : ∀ (j : Nat) (el : AV) (c : Nat) (a : AV), xs[j]? = some el → el.cells[c]? = some a → V0 w (okA w α) a (U j c)),
      ((asNum i).bind fun i => if 0 ≤ i ∧ i < xs.length then (xs[i.toNat]?).bind fun el => if el.cells.length = P.cellsOf e then some (AV.ipt el.cells 0) else none else none) = some v →
      ∃ p, (Instr.indexAt t (.slice A xs.length cap) ui).run P w = .ok p w ∧ V w (okA w α) α v p := by
    intro xs A cap sz b o U hh hc hv ho
    obtain ⟨n, h1, h2⟩ := Option.bind_eq_some_iff.1 ho
    split at h2
    · rename_i hb
      obtain ⟨el, h3, h4⟩ := Option.bind_eq_some_iff.1 h2
      split at h4
      · rename_i hlen
        cases h4
        obtain ⟨k, rfl⟩ := asNum_ok h1 hi
        obtain ⟨h5, rfl, hok⟩ := hh _ _ h3
        refine ⟨.pointer (some ⟨b, o + n.toNat * P.cellsOf e, none⟩), ?_, V.of_V1 (.low _ _ ?_)⟩
        · simp [Instr.indexAt, asIntOf, run_underlying ht, hb, run_size' he, add_at]
        · have := V0.ipt (w := w) (ok := okA w α) el.cells 0 b (o + n.toNat * sz) (fun c => U n.toNat c) hok (fun c a ha => by rw [Nat.add_assoc]; exact hc _ _ c a h3 ha) (fun c a ha => hv _ _ c a h3 ha)
          rw [show P.cellsOf e = sz by omega]
          exact this
      · cases h4
    · cases h2
  unfold oIndexS at ho
  split at ho
  · rename_i xs
    cases hx with
    | low _ _ h => cases h with | imm _ A cap sz b o U hcap hh hc hv => exact imm xs A cap sz b o U hh hc hv ho
  · rename_i xs
    cases hx with
    | low _ _ h => cases h with | full _ A sz b o U hh hc hv => exact imm xs A xs.length sz b o U hh hc hv ho
  · rename_i n ver i0 len
    obtain ⟨m, h1, h2⟩ := Option.bind_eq_some_iff.1 ho
    split at h2
    · rename_i hb
      obtain ⟨⟨sz, els⟩, h3, h4⟩ := Option.bind_eq_some_iff.1 h2
      split at h4
      · rename_i hsz
        cases h4
        obtain ⟨k, rfl⟩ := asNum_ok h1 hi
        cases hx with
        | low _ _ h => cases h
        | ref _ _ _ _ A cap ae hl ha hv hh =>
          obtain ⟨e1, e2, e3, e4, e5⟩ := r.row h3 ha
          obtain ⟨g1, g2, g3⟩ := hh e1.symm
          cases hblk : ae.blk with
          | none => rw [hblk] at g3; omega
          | some z =>
            obtain ⟨b, off, room⟩ := z
            rw [hblk] at g3
            obtain ⟨g4, g5⟩ := g3
            have hA := g5 (by omega)
            subst hA
            refine ⟨.pointer (some ⟨b, off + i0 * ae.sz + m.toNat * P.cellsOf e, none⟩), ?_, V.of_V1 (.ptr _ _ _ _ _ ae ha hv fun _ => ⟨b, off, room, hblk, ?_⟩)⟩
            · simp [Instr.indexAt, asIntOf, run_underlying ht, hb, run_size' he, add_at]
            · have : P.cellsOf e = ae.sz := by rw [e2]; exact hsz.symm
              simp [this, Nat.add_mul, Nat.add_assoc]
      · cases h4
    · cases h2
  · cases ho

theorem indexA_ok {t e : TypeId} {len k : Nat} {x i v : AV} {ux ui : Value} (ht : P.underlying t = some (.array len e)) (he : hasT P e = true) (hk : k = P.cellsOf e)
    (ho : oIndexA len k x i = some v) (hx : V w ok α x ux) (hi : V w ok α i ui) : ∃ p, (Instr.indexAt t ux ui).run P w = .ok p w ∧ V w ok α v p := by
  subst hk
  unfold oIndexA at ho
  obtain ⟨m, h1, h2⟩ := Option.bind_eq_some_iff.1 ho
  split at h2
  · rename_i hb
    obtain ⟨k, rfl⟩ := asNum_ok h1 hi
    split at h2
    · rename_i n ver e0 c
      cases h2
      cases hx with
      | low _ _ h => cases h
      | ptr _ _ _ _ a ae ha hv hh =>
        by_cases hver : ver = ae.ver
        · obtain ⟨b, off, room, hblk, rfl⟩ := hh hver
          refine ⟨.pointer (some ⟨b, off + e0 * ae.sz + c + m.toNat * P.cellsOf e, none⟩), ?_, V.of_V1 (.ptr _ _ _ _ _ ae ha hv fun _ => ⟨b, off, room, hblk, by simp [Nat.add_assoc]⟩)⟩
          simp [Instr.indexAt, asIntOf, run_underlying ht, hb, run_size' he, add_at, Instr.sureAddr]
        · refine ⟨.pointer (some (a.add (m.toNat * P.cellsOf e))), ?_, V.of_V1 (.ptr _ _ _ _ _ ae ha hv fun e => absurd e hver)⟩
          simp [Instr.indexAt, asIntOf, run_underlying ht, hb, run_size' he, Instr.sureAddr]
    · rename_i cs c
      cases h2
      cases hx with
      | low _ _ h =>
        cases h with
        | ipt _ _ b o U hok hc hv =>
          refine ⟨.pointer (some ⟨b, o + (c + m.toNat * P.cellsOf e), none⟩), ?_, V.of_V1 (.low _ _ (.ipt _ _ b o U hok hc hv))⟩
          simp [Instr.indexAt, asIntOf, run_underlying ht, hb, run_size' he, add_at, Instr.sureAddr, Nat.add_assoc]
    · cases h2
  · cases h2

theorem len_ok {t ty e : TypeId} {x v : AV} {u : Value} (ht : P.underlying t = some (.slice e)) (ho : oLen x = some v) (hx : V w ok α x u) : (Builtin.len_ #[t] ty #[u]).run P w = .ok (match v with | .sc n => n | _ => undef) w ∧ V w ok α v (match v with | .sc n => n | _ => undef) := by
  have key : ∀ (A : Option Addr) (n c : Nat), (Builtin.len_ #[t] ty #[.slice A n c]).run P w = .ok (.int .i64 n) w := fun A n c => by simp [Builtin.len_, run_underlying ht, goInt]
  unfold oLen at ho
  split at ho
  · cases ho
    cases hx with | low _ _ h => cases h; exact ⟨key _ _ _, V.sc rfl⟩
  · cases ho
    cases hx with | low _ _ h => cases h; exact ⟨key _ _ _, V.sc rfl⟩
  · cases ho
    cases hx with | low _ _ h => cases h; exact ⟨key _ _ _, V.sc rfl⟩
  · cases ho
    cases hx with
    | low _ _ h => cases h
    | ref => exact ⟨key _ _ _, V.sc rfl⟩
  · cases ho
theorem cap_ok {t ty e : TypeId} {x v : AV} {u : Value} (ht : P.underlying t = some (.slice e)) (ho : oCap x = some v) (hx : V w ok α x u) : (Builtin.cap_ #[t] ty #[u]).run P w = .ok (match v with | .sc n => n | _ => undef) w ∧ V w ok α v (match v with | .sc n => n | _ => undef) := by
  have key : ∀ (A : Option Addr) (n c : Nat), (Builtin.cap_ #[t] ty #[.slice A n c]).run P w = .ok (.int .i64 c) w := fun A n c => by simp [Builtin.cap_, run_underlying ht, goInt]
  unfold oCap at ho
  split at ho
  · cases ho
    cases hx with | low _ _ h => cases h; exact ⟨key _ _ _, V.sc rfl⟩
  · cases ho
    cases hx with | low _ _ h => cases h; exact ⟨key _ _ _, V.sc rfl⟩
  · cases ho

theorem min_ok {tys : Array TypeId} {ty : TypeId} {x y v : AV} {ux uy : Value} (h : oMin x y = some v) (hx : V w ok α x ux) (hy : V w ok α y uy) : ∃ r, (Builtin.min_ tys ty #[ux, uy]).run P w = .ok r w ∧ V w ok α v r := by
  unfold oMin at h
  split at h
  · split at h
    · rename_i hk
      subst hk
      cases h
      rw [hx.sc_eq, hy.sc_eq]
      exact ⟨_, rfl, V.sc rfl⟩
    · cases h
  · cases h
theorem max_ok {tys : Array TypeId} {ty : TypeId} {x y v : AV} {ux uy : Value} (h : oMax x y = some v) (hx : V w ok α x ux) (hy : V w ok α y uy) : ∃ r, (Builtin.max_ tys ty #[ux, uy]).run P w = .ok r w ∧ V w ok α v r := by
  unfold oMax at h
  split at h
  · split at h
    · rename_i hk
      subst hk
      cases h
      rw [hx.sc_eq, hy.sc_eq]
      exact ⟨_, rfl, V.sc rfl⟩
    · cases h
  · cases h

theorem extract_ok {i : Nat} {x v : AV} {u : Value} (h : oExtract i x = some v) (hx : V w ok α x u) : ∃ r, (Instr.extract u i).run P w = .ok r w ∧ V w ok α v r := by
  unfold oExtract at h
  split at h
  · rename_i vs
    obtain ⟨us, rfl, hn, hh⟩ := hx
    have hi := (List.getElem?_eq_some_iff.1 h).1
    have hu : us[i]? = some us[i] := List.getElem?_eq_getElem (by omega)
    refine ⟨us[i], ?_, V.of_VA (hh i v us[i] h hu) ?_⟩
    · simp [Instr.extract, hu]
    · intro ws e
      subst e
      have := hh i _ us[i] h hu
      cases this with | low _ _ h => cases h
  · cases h

theorem convInt_ok {src dst : TypeId} {k : IntKind} {x v : AV} {u : Value} (hs : (P.underlying src).isSome = true) (hd : P.underlying dst = some (.int k)) (h : oConvInt k x = some v) (hx : V w ok α x u) :
    ∃ r, (convert src dst u).run P w = .ok r w ∧ V w ok α v r := by
  unfold oConvInt at h
  split at h
  · cases h
    rw [hx.sc_eq]
    obtain ⟨d, hd'⟩ := Option.isSome_iff_exists.mp hs
    exact ⟨_, by simp [convert, run_underlying hd', run_underlying hd, Conv.intToInt], V.sc rfl⟩
  · cases h

end
end Go.Proofs.Ytihljollfbogeaa
