/- Runs: whether two lists are equal; new histories. No condition. -/
import Derived.Test.YtihljollfbogeaaD10
set_option linter.unusedSimpArgs false
namespace Go.Proofs.Ytihljollfbogeaa
open Go Go.RowKit
attribute [local simp] run_skip run_ret run_exit run_seq run_block run_reg thn_norm thn_toNorm thn_ret thn_exit endB_norm endB_toNorm endB_ret endB_exit regA_nil regA_cons putA_some putA_none insA_plain opA COp.ev pu dl dl0 appD nameOf nameOr_ptr nameOr_ref nameOr_mp nameOr_nl nameOr_full nameOr_grown grown_zero grownH_nil hset_id toNorm putA aEval_tmp aEval_func aEval_int aEval_bool aEval_nil edst eset_same eset_ne cmp_lss cmp_leq cmp_gtr cmp_geq cmp_eql cmp_neq num_add num_sub num_mul num_rem cmp_beql cmp_bneq cmp_seql cmp_sneq ite_map ite_bind ends_some ends_none ends_ite ends_bind ends_map rnd_norm rnd_toNorm rnd_exit rnd_ret norm_encI norm_encB oLit oAppend frzD_no Blk.isDead oElems oSlice oExtract oIndexA oMk0 oConvInt oMin oMax oMapNew oMapPut oMapGet findA oNil AV.single valueA oPick oNot argEnv ressA resA tupA oNew oLoad oStore oFieldAddr oLen oIndexS asNum rowAt? hset partA AV.cells AV.storable AV.one hemp callA isMk copyA callD outA_sc outA_imm outA_agg outA_tup outA_ref outA_nl outA_full fz_sc fz_imm fz_full fz_nl fz_fn fz_agg fz_tup fz_ref fzA_sc fzA_imm fzA_full fzA_nl fzA_agg fzA_ref fz1_sc fz1_imm fz1_full fz1_nl fz1_ref fzRow_all AV.scalar AV.scalar1 evC nm nmA nm1 nm0 insA_b insA_skip run_condB isBool boolOf run_drawn endD_mk drawA_nil drawA_cons nextD_mk consE_mk putD_some putD_none insD_plain insD_b insD_skip opD COp.rd COp.wr AV.nms AV.nms1 indeps indep oMake oBuildC fillC setCellsA ofVal ofCell Value.oneCell' reshape LIM AV.pure AV.pure1 norm norm1 run_loop
def eqBody (agg : Bool) (k : Nat) (fl : Option Nat) : CC := (.seq (.seq (.reg [(.mk (some 11) none (.mv (.tmp 5))), (.mk (some 12) none (.mv (.tmp 0))), (.mk (some 13) none (.len (.tmp 12))), (.mk (some 14) none (.bin .lss false none (.tmp 11) (.tmp 13)))]) (.cond (.tmp 14) .skip (.exit 0))) (.seq (.block 1 (.seq (.draw [(.mk (some 17) none (.mv (.tmp 0))), (.mk (some 18) none (.mv (.tmp 5))), (.mk (some 19) none (.iaddrS k (.tmp 17) (.tmp 18))), (.mk (some 20) none (.load agg k (.tmp 19))), (.mk (some 21) none (.mv (.tmp 1))), (.mk (some 22) none (.mv (.tmp 5))), (.mk (some 23) none (.iaddrS k (.tmp 21) (.tmp 22))), (.mk (some 24) none (.load agg k (.tmp 23))), (.mk (some 25) none (.bin .neq false fl (.tmp 20) (.tmp 24)))] [(2, 6), (3, 6), (2, 7), (3, 7)]) (.cond (.tmp 25) (.seq (.reg [(.mk (some 4) none (.mv (.const (.bool false))))]) .ret) .skip))) (.reg [(.mk (some 15) none (.mv (.tmp 5))), (.mk (some 16) none (.bin .add false none (.tmp 15) (.const (.int .i64 (1))))), (.mk (some 5) none (.mv (.tmp 16)))])))
def eqFn (agg : Bool) (k : Nat) (fl : Option Nat) : CFn := (.mk [(.tmp 4)] (.seq (.reg [(.mk (some 4) none (.mv (.const (.bool false))))]) (.seq (.seq (.reg [(.mk (some 6) none (.mv (.tmp 0))), (.mk (some 7) none (.len (.tmp 6))), (.mk (some 8) none (.mv (.tmp 1))), (.mk (some 9) none (.len (.tmp 8))), (.mk (some 10) none (.bin .neq false none (.tmp 7) (.tmp 9)))]) (.cond (.tmp 10) (.seq (.reg [(.mk (some 4) none (.mv (.const (.bool false))))]) .ret) .skip)) (.seq (.seq (.reg [(.mk (some 5) none (.mv (.const (.int .i64 (0)))))]) (.block 0 (.loop (eqBody agg k fl)))) (.seq (.reg [(.mk (some 4) none (.mv (.const (.bool true))))]) .ret)))))
theorem c69_eq : c69 = eqFn false 1 none := rfl
theorem c217_eq : c217 = eqFn true 8 (some 8) := rfl
theorem c147_eq : c147 = eqFn true 2 (some 2) := rfl
instance : DecidableEq Sec := inferInstanceAs (DecidableEq { l : List Int // l.length = 8 })
instance : DecidableEq Wr := fun a b => by
  obtain ⟨a1, a2, a3⟩ := a
  obtain ⟨b1, b2, b3⟩ := b
  rw [Wr.mk.injEq]
  exact inferInstance
instance : DecidableEq Hist := fun a b => by
  obtain ⟨a1, a2, a3⟩ := a
  obtain ⟨b1, b2, b3⟩ := b
  rw [Hist.mk.injEq]
  exact inferInstance
/-- Elements that a comparison takes whole. -/
structure EqEl {β : Type} [DecidableEq β] (f : β → AV) (agg : Bool) (k : Nat) (fl : Option Nat) : Prop where
  len : ∀ x, (f x).cells.length = k
  part : ∀ x, partA agg k 0 (f x).cells = some (f x)
  cmp : ∀ x y, oBinC .neq false fl (f x) (f y) = some (.sc (.bool (!decide (x = y))))
theorem eqFn_loop {β : Type} [DecidableEq β] {f : β → AV} {agg : Bool} {k : Nat} {fl : Option Nat} (E : EqEl f agg k fl) (H : Hand) (I : Inl) (N q : Nat) (a b : List β) (hl : a.length = b.length) (hx : a.length < 1073741824) (hN : a.length < N) (h : Hp) (e : Env) (e0 : e 0 = .imm (a.map f)) (e1 : e 1 = .imm (b.map f)) (e5 : e 5 = encI 0) :
    Ends (iter (run H I N q (eqBody agg k fl)) N (e, h)) (fun r => r.2.2 = h ∧ ((r.1 = .exit 0 ∧ a = b) ∨ (r.1 = .ret ∧ r.2.1 4 = encB false ∧ a ≠ b))) := by
  refine Ends.mono (for_loop a.length (fun i s => s.1 0 = .imm (a.map f) ∧ s.1 1 = .imm (b.map f) ∧ s.1 5 = encI i ∧ s.2 = h ∧ ∀ j (hj : j < a.length), j < i → a[j] = b[j]'(by omega)) (fun y s => s.2 = h ∧ ((y = .exit 0 ∧ a = b) ∨ (y = .ret ∧ s.1 4 = encB false ∧ a ≠ b))) ?_ ?_ hN ⟨e0, e1, e5, rfl, fun j _ hj => absurd hj (by omega)⟩) (fun r hr => hr.2)
  · rintro i e h' hi ⟨g0, g1, g5, rfl, gj⟩
    simp only [encI] at g0 g1 g5
    have hi2 : i < b.length := by omega
    have hlt : (i : Int) < (a.length : Int) := by omega
    have hlt2 : (i : Int) < (b.length : Int) := by omega
    have hw : IntKind.i64.wrap ((i : Int) + 1) = (i : Int) + 1 := wrap_small (by omega) (by omega)
    have el := E.len
    have ep := E.part
    have ec := E.cmp
    by_cases c1 : a[i] = b[i]
    · simp -implicitDefEqProofs [eqBody, g0, g1, g5, hlt, hlt2, hi, hi2, c1, el, ep, ec, encI, hw, -AV.cells, -partA]
      intro j hj hji
      by_cases e1 : j = i
      · subst e1; exact c1
      · exact gj j hj (by omega)
    · have : a ≠ b := fun e => c1 (by subst e; rfl)
      simp -implicitDefEqProofs [eqBody, g0, g1, g5, hlt, hlt2, hi, hi2, c1, el, ep, ec, encI, encB, this, -AV.cells, -partA]
  · rintro e h' ⟨g0, g1, g5, rfl, gj⟩
    simp only [encI] at g0 g1 g5
    have : a = b := List.ext_getElem hl fun j h1 h2 => gj j h1 h1
    simp -implicitDefEqProofs [eqBody, g0, g5, encI]
    exact this
theorem eqFn_run {β : Type} [DecidableEq β] {f : β → AV} {agg : Bool} {k : Nat} {fl : Option Nat} (E : EqEl f agg k fl) (H : Hand) (I : Inl) (N q : Nat) (a b : List β) (hx : a.length < 1073741824) (hN : a.length < N) : Ends (fnA H I N q (eqFn agg k fl) [.imm (a.map f), .imm (b.map f)] hemp) (fun p => outA p = encB (decide (a = b))) := by
  by_cases hl : (a.length : Int) = (b.length : Int)
  · simp -implicitDefEqProofs [fnA, eqFn, encI, hl]
    refine Ends.mono (eqFn_loop E H I N q a b (by omega) hx hN _ _ (by simp) (by simp) (by simp [encI])) ?_
    rintro ⟨y, e', h'⟩ ⟨k0, k⟩
    simp only at k0 k
    subst k0
    rcases k with ⟨rfl, k1⟩ | ⟨rfl, k1, k2⟩
    · simp -implicitDefEqProofs [k1, encB]
    · simp only [encB] at k1
      simp -implicitDefEqProofs [k1, k2, encB]
  · have : a ≠ b := fun e => hl (by subst e; rfl)
    simp -implicitDefEqProofs [fnA, eqFn, encI, hl, this, encB]
theorem eqEl_int : EqEl encI false 1 none := ⟨fun _ => rfl, fun _ => rfl, fun x y => by
  by_cases h : x = y <;> simp [encI, oBinC, binInt, h]⟩
theorem eqEl_evt : EqEl Evt.enc true 2 (some 2) := ⟨fun _ => rfl, fun _ => rfl, fun x y => by
  obtain ⟨a, b⟩ := x
  obtain ⟨c, d⟩ := y
  by_cases h1 : a = c <;> by_cases h2 : b = d <;> simp [oBinC, sameCells, Evt.enc, encI, h1, h2]⟩
theorem sameCells_u8 : ∀ {a b : List Int}, a.length = b.length → sameCells (a.map uA) (b.map uA) = some (decide (a = b))
  | [], [], _ => rfl
  | x :: a, y :: b, h => by
    have ih := sameCells_u8 (a := a) (b := b) (by simpa using h)
    simp only [List.map_cons, uA, sameCells, if_true]
    rw [ih]
    by_cases h1 : x = y <;> by_cases h2 : a = b <;> simp [h1, h2]
theorem eqEl_sec : EqEl Sec.enc true 8 (some 8) := ⟨fun s => by simp [Sec.enc, AV.cells, s.2], fun s => by
  simp only [partA, Sec.enc, AV.cells, if_true, List.length_map, s.2, List.drop_zero]
  rw [if_pos (by decide), List.take_of_length_le (by simp [s.2])], fun x y => by
  have := sameCells_u8 (a := x.1) (b := y.1) (by rw [x.2, y.2])
  have he : decide (x.1 = y.1) = decide (x = y) := by
    by_cases h : x = y
    · simp [h]
    · have : ¬ x.1 = y.1 := fun e => h (Subtype.ext e)
      simp [h, this]
  rw [he] at this
  simp [oBinC, Sec.enc, this, x.2]⟩
theorem sameWr_loop (H : Hand) (I : Inl) (N q : Nat) (a b : List Wr) (hl : a.length = b.length) (hx : a.length < 1073741824) (hN : a.length < N) (h217 : ∀ x ∈ a, ∀ y, H 217 [encSs x.data, encSs y] = some (encB (decide (x.data = y)))) (h : Hp) (e : Env) (e0 : e 0 = encWs a) (e1 : e 1 = encWs b) (e5 : e 5 = encI 0) :
    Ends (iter (run H I N q b146_0) N (e, h)) (fun r => r.2.2 = h ∧ ((r.1 = .exit 0 ∧ a = b) ∨ (r.1 = .ret ∧ r.2.1 4 = encB false ∧ a ≠ b))) := by
  refine Ends.mono (for_loop a.length (fun i s => s.1 0 = encWs a ∧ s.1 1 = encWs b ∧ s.1 5 = encI i ∧ s.2 = h ∧ ∀ j (hj : j < a.length), j < i → a[j] = b[j]'(by omega)) (fun y s => s.2 = h ∧ ((y = .exit 0 ∧ a = b) ∨ (y = .ret ∧ s.1 4 = encB false ∧ a ≠ b))) ?_ ?_ hN ⟨e0, e1, e5, rfl, fun j _ hj => absurd hj (by omega)⟩) (fun r hr => hr.2)
  · rintro i e h' hi ⟨g0, g1, g5, rfl, gj⟩
    simp only [encI, encWs] at g0 g1 g5
    have hi2 : i < b.length := by omega
    have hlt : (i : Int) < (a.length : Int) := by omega
    have hlt2 : (i : Int) < (b.length : Int) := by omega
    have hw : IntKind.i64.wrap ((i : Int) + 1) = (i : Int) + 1 := wrap_small (by omega) (by omega)
    have k := h217 a[i] (List.getElem_mem hi) b[i].data
    simp only [encSs, encB] at k
    have same : a[i] = b[i] ↔ a[i].vol = b[i].vol ∧ a[i].start = b[i].start ∧ a[i].data = b[i].data := by
      constructor
      · intro e; rw [e]; exact ⟨rfl, rfl, rfl⟩
      · rintro ⟨e1, e2, e3⟩
        generalize a[i] = x at *
        generalize b[i] = y at *
        obtain ⟨x1, x2, x3⟩ := x
        obtain ⟨y1, y2, y3⟩ := y
        simp only at e1 e2 e3
        rw [e1, e2, e3]
    by_cases c1 : a[i].vol = b[i].vol
    · by_cases c2 : a[i].start = b[i].start
      · by_cases c3 : a[i].data = b[i].data
        · rw [decide_eq_true c3] at k
          simp -implicitDefEqProofs [b146_0, g0, g1, g5, hlt, hlt2, hi, hi2, c1, c2, k, encI, encWs, hw, Wr.enc]
          intro j hj hji
          by_cases e1 : j = i
          · subst e1; exact same.2 ⟨c1, c2, c3⟩
          · exact gj j hj (by omega)
        · have : a ≠ b := fun e => c3 (by subst e; rfl)
          rw [decide_eq_false c3] at k
          simp -implicitDefEqProofs [b146_0, g0, g1, g5, hlt, hlt2, hi, hi2, c1, c2, k, encI, encB, this, Wr.enc]
      · have : a ≠ b := fun e => c2 (by subst e; rfl)
        simp -implicitDefEqProofs [b146_0, g0, g1, g5, hlt, hlt2, hi, hi2, c1, c2, encI, encB, this, Wr.enc]
    · have : a ≠ b := fun e => c1 (by subst e; rfl)
      simp -implicitDefEqProofs [b146_0, g0, g1, g5, hlt, hlt2, hi, hi2, c1, encI, encB, this, Wr.enc]
  · rintro e h' ⟨g0, g1, g5, rfl, gj⟩
    simp only [encI, encWs] at g0 g1 g5
    have : a = b := List.ext_getElem hl fun j h1 h2 => gj j h1 h1
    simp -implicitDefEqProofs [b146_0, g0, g5, encI]
    exact this
theorem sameWr_run (H : Hand) (I : Inl) (N q : Nat) (a b : List Wr) (hx : a.length < 1073741824) (hN : a.length < N) (h217 : ∀ x ∈ a, ∀ y, H 217 [encSs x.data, encSs y] = some (encB (decide (x.data = y)))) : Ends (fnA H I N q c146 [encWs a, encWs b] hemp) (fun p => outA p = encB (decide (a = b))) := by
  by_cases hl : (a.length : Int) = (b.length : Int)
  · simp -implicitDefEqProofs [fnA, c146, encI, encWs, hl]
    refine Ends.mono (sameWr_loop H I N q a b (by omega) hx hN h217 _ _ (by simp [encWs]) (by simp [encWs]) (by simp [encI])) ?_
    rintro ⟨y, e', h'⟩ ⟨k0, k⟩
    simp only at k0 k
    subst k0
    rcases k with ⟨rfl, k1⟩ | ⟨rfl, k1, k2⟩
    · simp -implicitDefEqProofs [k1, encB]
    · simp only [encB] at k1
      simp -implicitDefEqProofs [k1, k2, encB]
  · have : a ≠ b := fun e => hl (by subst e; rfl)
    simp -implicitDefEqProofs [fnA, c146, encI, encWs, hl, this, encB]
theorem same55_run (H : Hand) (I : Inl) (N q : Nat) (a b : Hist) (h69 : H 69 [encIs a.sizes, encIs b.sizes] = some (encB (decide (a.sizes = b.sizes)))) (h146 : H 146 [encWs a.writes, encWs b.writes] = some (encB (decide (a.writes = b.writes)))) (h147 : H 147 [encEs a.events, encEs b.events] = some (encB (decide (a.events = b.events)))) :
    Ends (fnA H I N q c55 [a.enc, b.enc] hemp) (fun p => outA p = encB (decide (a = b))) := by
  obtain ⟨a1, a2, a3⟩ := a
  obtain ⟨b1, b2, b3⟩ := b
  simp only [encIs, encWs, encEs, encB] at h69 h146 h147
  have hd : decide (Hist.mk a1 a2 a3 = Hist.mk b1 b2 b3) = (decide (a1 = b1) && (decide (a2 = b2) && decide (a3 = b3))) := by
    by_cases c1 : a1 = b1 <;> by_cases c2 : a2 = b2 <;> by_cases c3 : a3 = b3 <;> simp [c1, c2, c3]
  rw [hd]
  generalize decide (a1 = b1) = x at h69
  generalize decide (a2 = b2) = y at h146
  generalize decide (a3 = b3) = z at h147
  cases x <;> cases y <;> simp -implicitDefEqProofs [fnA, c55, Hist.enc, encIs, encWs, encEs, encB, h69, h146, h147]
def newH (l : List Int) : Hist × Int := if sizesE l ≠ 0 then (.zero, sizesE l) else (⟨l, [], []⟩, 0)
theorem new53_run (H : Hand) (I : Inl) (N q : Nat) (l : List Int) (h144 : H 144 [encIs l] = some (.tup [encIm (newIm l).1, encI (newIm l).2])) (h137 : H 137 [encIs l] = some (encIs l)) : Ends (fnA H I N q c53 [encIs l] hemp) (fun p => outA p = .tup [(newH l).1.enc, encI (newH l).2]) := by
  unfold newH
  obtain ⟨im, him⟩ : ∃ im, (newIm l).1 = im := ⟨_, rfl⟩
  have h2 : (newIm l).2 = sizesE l := by
    unfold newIm
    by_cases c : sizesE l = 0
    · rw [if_neg (by simp [c])]; exact c.symm
    · rw [if_pos c]
  rw [him, h2] at h144
  simp only [encIs, encI, encIm] at h144 h137
  by_cases c1 : sizesE l = 0
  · rw [c1] at h144
    simp -implicitDefEqProofs [fnA, c53, Hist.enc, encIs, encWs, encEs, encI, h144, h137, c1]
  · simp -implicitDefEqProofs [fnA, c53, Hist.enc, Hist.zero, encIs, encWs, encEs, encI, h144, c1]
theorem new54_run (H : Hand) (I : Inl) (N : Nat) (l : List Int) (hl : l.length ≤ 1073741824) (h145 : H 145 [encIs l] = some (encI (sizesE l))) : Ends (fnA H I N 1 c54 [encIs l] hemp) (fun p => outA p = .tup [(newH l).1.enc, encI (newH l).2]) := by
  unfold newH
  simp only [encIs, encI] at h145
  by_cases c1 : sizesE l = 0
  · rw [c1] at h145
    obtain ⟨b1, _, _⟩ := sizesE_zero c1
    simp -implicitDefEqProofs [fnA, c54, Hist.enc, encIs, encWs, encEs, encI, h145, c1, hl]
  · simp -implicitDefEqProofs [fnA, c54, Hist.enc, Hist.zero, encIs, encWs, encEs, encI, h145, c1]
end Go.Proofs.Ytihljollfbogeaa
