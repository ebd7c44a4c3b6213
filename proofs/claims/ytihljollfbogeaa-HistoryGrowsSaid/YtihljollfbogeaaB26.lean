/- The iterator of a history's members. No condition. -/
import Derived.Test.YtihljollfbogeaaC7
import Derived.Test.YtihljollfbogeaaE0
set_option linter.unusedSimpArgs false
namespace Go.Proofs.Ytihljollfbogeaa
open Go Go.RowKit
attribute [local simp] run_skip run_ret run_exit run_seq run_block run_reg thn_norm thn_toNorm thn_ret thn_exit endB_norm endB_toNorm endB_ret endB_exit regA_nil regA_cons putA_some putA_none insA_plain opA COp.ev pu dl dl0 appD nameOf nameOr_ptr nameOr_ref nameOr_mp nameOr_nl nameOr_full nameOr_grown grown_zero grownH_nil hset_id toNorm putA aEval_tmp aEval_func aEval_int aEval_bool aEval_nil edst eset_same eset_ne cmp_lss cmp_leq cmp_gtr cmp_geq cmp_eql cmp_neq num_add num_sub num_mul num_rem cmp_beql cmp_bneq cmp_seql cmp_sneq ite_map ite_bind ends_some ends_none ends_ite ends_bind ends_map rnd_norm rnd_toNorm rnd_exit rnd_ret norm_encI norm_encB oLit oAppend frzD_no Blk.isDead oElems oSlice oExtract oIndexA oMk0 oConvInt oMin oMax oMapNew oMapPut oMapGet findA oNil AV.single valueA oPick oNot argEnv ressA resA tupA oNew oLoad oStore oFieldAddr oLen oIndexS asNum rowAt? hset partA AV.cells AV.storable AV.one hemp callA isMk copyA callD outA_sc outA_imm outA_agg outA_tup outA_ref outA_nl outA_full fz_sc fz_imm fz_full fz_nl fz_fn fz_agg fz_tup fz_ref fzA_sc fzA_imm fzA_full fzA_nl fzA_agg fzA_ref fz1_sc fz1_imm fz1_full fz1_nl fz1_ref fzRow_all AV.scalar AV.scalar1 evC nm nmA nm1 nm0 insA_b insA_skip run_condB isBool boolOf run_drawn endD_mk drawA_nil drawA_cons nextD_mk consE_mk putD_some putD_none insD_plain insD_b insD_skip opD COp.rd COp.wr AV.nms AV.nms1 indeps indep oMake oBuildC fillC setCellsA ofVal ofCell Value.oneCell' reshape LIM AV.pure AV.pure1 norm norm1 run_loop
def y220a : List CIns := [(CIns.mk (Option.some 12) Option.none (COp.mv (Operand.tmp 0))), (CIns.mk (Option.some 13) Option.none (COp.mv (Operand.tmp 5))), (CIns.mk (Option.some 14) Option.none (COp.faddr 0 (Operand.tmp 2))), (CIns.mk (Option.some 15) Option.none (COp.faddr 1 (Operand.tmp 14))), (CIns.mk (Option.some 16) Option.none (COp.load Bool.false 1 (Operand.tmp 15))), (CIns.mk (Option.some 17) Option.none (COp.mv (Operand.tmp 5))), (CIns.mk (Option.some 18) Option.none (COp.iaddrS 3 (Operand.tmp 16) (Operand.tmp 17))), (CIns.mk (Option.some 19) Option.none (COp.load Bool.true 3 (Operand.tmp 18)))]
def y220b : List CIns := [(CIns.mk (Option.some 21) Option.none (COp.inv (Operand.tmp 20)))]
/-- What the iterator yields. -/
def mem1 (ws : List AV) (a : AV) : Option (List AV) := match a with
  | .sc (.int .i64 n) => if 0 ≤ n then match ws[n.toNat]? with | some (.agg [x, y, z]) => if (x.isLow && y.isLow && z.isLow) = true then some [a, .agg [x, y, z]] else none | _ => none else none
  | _ => none
def its220 : Its := fun f caps => if f = 220 then match caps with
  | [.ipt [.imm l] 0, .ipt (_ :: .imm ws :: _) 0] => if l.length ≤ 1073741824 then l.mapM (mem1 ws) else none
  | _ => none else none
theorem mem1_spec {ws : List AV} {a : AV} {vs : List AV} (h : mem1 ws a = some vs) : ∃ (n : Nat) (x y z : AV), a = .sc (.int .i64 n) ∧ ws[n]? = some (.agg [x, y, z]) ∧ vs = [a, .agg [x, y, z]] ∧ x.isLow = true ∧ y.isLow = true ∧ z.isLow = true := by
  unfold mem1 at h
  split at h
  · rename_i n
    split at h
    · rename_i h0
      obtain ⟨m, rfl⟩ := Int.eq_ofNat_of_zero_le h0
      simp only [Int.toNat_natCast] at h
      split at h
      · rename_i x y z hw
        split at h
        · rename_i hl
          simp only [Bool.and_eq_true] at hl
          cases h
          exact ⟨m, x, y, z, rfl, hw, rfl, hl.1.1, hl.1.2, hl.2⟩
        · cases h
      · cases h
    · cases h
  · cases h
theorem mapM_get {β γ : Type} {f : β → Option γ} : ∀ {l : List β} {r : List γ}, l.mapM f = some r → r.length = l.length ∧ ∀ (i : Nat) (x : β), l[i]? = some x → ∃ y, f x = some y ∧ r[i]? = some y
  | [], r, h => by
    simp at h; subst h; exact ⟨rfl, fun i x h => by simp at h⟩
  | a :: l, r, h => by
    rw [List.mapM_cons] at h
    obtain ⟨y, h1, h2⟩ := Option.bind_eq_some_iff.1 h
    obtain ⟨ys, h3, h4⟩ := Option.bind_eq_some_iff.1 h2
    cases h4
    obtain ⟨k1, k2⟩ := mapM_get h3
    refine ⟨by simp [k1], fun i x hx => ?_⟩
    cases i with
    | zero => cases hx; exact ⟨y, h1, rfl⟩
    | succ i => exact k2 i x (by simpa using hx)
theorem lowE_of {e : Env} {t : Nat} {a : AV} (h : e t = a) (hl : a.isLow = true) : lowE e t = a := by unfold lowE; rw [h, if_pos hl]
theorem runE {P : Program} {nt : Nat} {H : Hand} {I : Inl} {N q : Nat} {ok : Nat → Prop} {K : (Nat → Prop) → World → Prop} {e : Env} {a : Act} {w : World} (hH : HandOk P H) (hI : InlOk P I) (hg : Grows K) {c : Code} {cc : CC} {Q : Exit → Act → World → Prop} {R : CEx → Env → Prop}
    (hc : comp P nt c = some cc) (hcalm : cc.calm = true) (hr : Ends (run H I N q cc (e, hemp)) (fun r => R r.1 r.2.1)) (st : ISt nt ok K e a w) (hQ : ∀ x e' a' w', R x e' → ISt nt ok K (lowE e') a' w' → Q (exOf x) a' w') : c.wpIn (FR none) 0 P Q a w := by
  obtain ⟨⟨x, s'⟩, h1, h2⟩ := hr
  exact ISt.run hH hI hg hc hcalm h1 st fun a' w' st' => hQ x s'.1 a' w' h2 st'
theorem yieldE {P : Program} {nt : Nat} {H : Hand} {I : Inl} {q : Nat} {ok : Nat → Prop} {e : Env} {a : Act} {w : World} (hH : HandOk P H) (hI : InlOk P I) {vss : List (List AV)} {J : Nat → (Nat → Prop) → World → Prop} {Jx : World → Prop} {l : Nat} (hg : ∀ i, Grows (J i)) (hgx : Grows fun _ W => Jx W)
    (hcall : ∀ (i : Nat) (B : Nat → Prop) (vs : List AV) (W : World) (xs : List Value), J i B W → vss[i]? = some vs → xs.length = vs.length → (∀ (j : Nat) (a : AV) (u : Value), vs[j]? = some a → xs[j]? = some u → V W (fun b => ok b ∨ B b) emp a u) →
        YieldAt Fence.wide 0 P l xs.toArray W fun e W' => (∀ b, ok b ∨ B b → b < W'.heap.size ∧ W'.heap[b]? = W.heap[b]?) ∧ ((e = .returned (.bool true) ∧ J (i + 1) B W') ∨ (e = .returned (.bool false) ∧ Jx W')))
    {c : Code} (cs1 cs2 : List CIns) {d : Nat} {x : Operand} {xs : List Operand} (hc : comp P nt c = some (.reg (cs1 ++ ⟨some d, none, .callv x xs⟩ :: cs2))) {i : Nat} {vs : List AV} (hvs : vss[i]? = some vs) (hlow : vs.all AV.lowA = true) (R : Bool → Env → Prop)
    (h1 : Ends (regA H I q cs1 (e, hemp)) (fun s1 => aEval s1.1 x = .sc (.func (.yield l) #[] #[]) ∧ xs.map (aEval s1.1) = vs ∧ ∀ b, Ends (regA H I q cs2 (eset (lowE s1.1) d (.sc (.bool b)), hemp)) (fun s2 => R b s2.1)))
    (st : ISt nt ok (J i) e a w) {Q : Exit → Act → World → Prop} (hQ : ∀ e' a' w', R true e' → ISt nt ok (J (i + 1)) (lowE e') a' w' → Q .normal a' w') (hQx : ∀ e' a' w', R false e' → ISt nt ok (fun _ W => Jx W) (lowE e') a' w' → Q .normal a' w') : c.wpIn (FR none) 0 P Q a w := by
  obtain ⟨s1, k1, k2, k3, k4⟩ := h1
  obtain ⟨s2, k5, k6⟩ := k4 true
  obtain ⟨s3, k7, k8⟩ := k4 false
  exact ISt.yield (q := q) (cs1 := cs1) (cs2 := cs2) hH hI hg hgx hcall hc k1 k2 hvs k3 hlow k5 k7 st (fun a' w' => hQ s2.1 a' w' k6) (fun a' w' => hQx s3.1 a' w' k8)
structure G220 (yv : Value) (l : List AV) (x0 : AV) (ws rest : List AV) (i : Nat) (e : Env) : Prop where
  e0 : e 0 = .sc yv
  e1 : e 1 = .ipt [.imm l] 0
  e2 : e 2 = .ipt (x0 :: .imm ws :: rest) 0
  e6 : e 6 = .imm l
  e7 : e 7 = .sc (.int .i64 l.length)
  e8 : e 8 = .sc (.int .i64 (i : Nat))
theorem G220.low {yv : Value} {l : List AV} {x0 : AV} {ws rest : List AV} {i : Nat} {e : Env} (g : G220 yv l x0 ws rest i e) : G220 yv l x0 ws rest i (lowE e) :=
  ⟨lowE_of g.e0 rfl, lowE_of g.e1 rfl, lowE_of g.e2 rfl, lowE_of g.e6 rfl, lowE_of g.e7 rfl, lowE_of g.e8 rfl⟩
theorem G220.set {yv : Value} {l : List AV} {x0 : AV} {ws rest : List AV} {i : Nat} {e : Env} (g : G220 yv l x0 ws rest i e) {t : Nat} {v : AV} (h : t ≠ 0 ∧ t ≠ 1 ∧ t ≠ 2 ∧ t ≠ 6 ∧ t ≠ 7 ∧ t ≠ 8) : G220 yv l x0 ws rest i (eset e t v) := by
  obtain ⟨h0, h1, h2, h6, h7, h8⟩ := h
  exact ⟨(if_neg (Ne.symm h0)).trans g.e0, (if_neg (Ne.symm h1)).trans g.e1, (if_neg (Ne.symm h2)).trans g.e2, (if_neg (Ne.symm h6)).trans g.e6, (if_neg (Ne.symm h7)).trans g.e7, (if_neg (Ne.symm h8)).trans g.e8⟩
theorem iter220_ok : ItsOk Try.prog its220 := by
  intro f caps vss h
  unfold its220 at h
  split at h
  case isFalse => cases h
  rename_i hf
  subst hf
  split at h
  case h_2 => cases h
  rename_i l x0 ws rest
  split at h
  case isFalse => cases h
  rename_i hl
  obtain ⟨hlen, hget⟩ := mapM_get h
  refine ⟨enters Try.func220 k220, fun y w ok us hok hus hv J Jx hJ hJx hJs hy h0 => ?_⟩
  obtain ⟨cd, hbody, hn, hcomp, hres⟩ := compFn_spec k220
  match us, hus with
  | [u1, u2], _ =>
  have v1 := hv 0 _ u1 rfl rfl
  have v2 := hv 1 _ u2 rfl rfl
  have hH := none_ok
  have hI : InlOk Try.prog (fun _ _ _ _ => none) := no_inl
  obtain ⟨yv, hyv⟩ : ∃ yv : Value, yv = .func (.yield y) #[] #[] := ⟨_, rfl⟩
  have st0 : ISt Try.f220.ntmps ok (J 0) (argEnv [.sc yv, .ipt [.imm l] 0, .ipt (x0 :: .imm ws :: rest) 0]) { tmps := (#[.func (.yield y) #[] #[]] ++ [u1, u2].toArray) ++ Array.replicate (Try.f220.ntmps - (#[Value.func (.yield y) #[] #[]] ++ [u1, u2].toArray).size) undef, defers := [] } w := by
    refine ⟨⟨_, h0, fun b hb => hb.elim (hok b) False.elim, fun t => ?_⟩, by simp, rfl⟩
    have hsz : ∀ (i : Nat) (u : Value), (#[.func (.yield y) #[] #[]] ++ [u1, u2].toArray : Array Value)[i]? = some u → ((#[.func (.yield y) #[] #[]] ++ [u1, u2].toArray : Array Value) ++ Array.replicate (Try.f220.ntmps - (#[Value.func (.yield y) #[] #[]] ++ [u1, u2].toArray).size) undef).getD i undef = u := fun i u hu => by
      rw [Array.getD_eq_getD_getElem?, Array.getElem?_append_left (Array.getElem?_eq_some_iff.1 hu).1, hu]; rfl
    match t with
    | 0 => rw [hsz 0 _ rfl, hyv]; exact V.sc rfl
    | 1 => rw [hsz 1 u1 rfl]; exact V.of_V1 (.low _ _ (v1.mono fun b hb => ⟨.inl hb, rfl⟩))
    | 2 => rw [hsz 2 u2 rfl]; exact V.of_V1 (.low _ _ (v2.mono fun b hb => ⟨.inl hb, rfl⟩))
    | t + 3 => exact V.junk
  have hg : ∀ i, Grows (J i) := fun i B W W' hj k => hJ i B W W' hj k
  have hgx : Grows fun _ W => Jx W := fun B W W' hj k => hJx W W' hj k
  refine callsIn_of_wp Try.func220 hbody trivial ?_ rfl
  obtain ⟨c1, c2, rfl, g1, g2⟩ := comp_seq hcomp
  obtain ⟨c3, rfl, g3⟩ := comp_block g2
  obtain ⟨c4, rfl, g4⟩ := comp_loop g3
  obtain ⟨c5, c6, rfl, g5, g6⟩ := comp_seq g4
  obtain ⟨c7, c8, rfl, g7, g8⟩ := comp_seq g6
  obtain ⟨c9, c10, rfl, g9, g10⟩ := comp_seq g8
  obtain ⟨c11, rfl, g11⟩ := comp_block g9
  obtain ⟨c12, c13, rfl, g12, g13⟩ := comp_seq g11
  obtain ⟨c14, c15, rfl, g14, g15⟩ := comp_seq g13
  have hvlen : vss.length = l.length := hlen
  have fin : ∀ (K : (Nat → Prop) → World → Prop) (e : Env) (a' : Act) (w' : World), ISt Try.f220.ntmps ok K e a' w' → (∀ B, K B w' → (∃ B, J vss.length B w') ∨ Jx w') →
      a'.defers = [] ∧ ∃ u, (results Try.f220 a'.tmps).run Try.prog w' = .ok u w' ∧ ((∃ v, Ending.returned u = .returned v) ∧ ((∃ B, J vss.length B w') ∨ Jx w')) := by
    rintro K e a' w' ⟨⟨B, k1, k2, k3⟩, k4, k5⟩ hk
    have iv := inv_of k2 k3 k4 k5
    obtain ⟨u, k6, k7⟩ := results_ok (s := (e, hemp)) (fn := Try.f220) (cs := []) (vs := []) (v := .tup []) (⟨iv.rel, iv.base, iv.val, iv.size, iv.defers⟩ : Inv _ _ _ _ _ _) hres rfl rfl
    exact ⟨k5, u, k6, ⟨u, rfl⟩, hk B k1⟩
  refine wpIn_seq (runE (N := 0) (q := 0) (R := fun x e' => x = .norm ∧ G220 yv l x0 ws rest 0 e') hH hI (hg 0) g1 rfl ?_ st0 ?_)
  · simp -implicitDefEqProofs
    exact ⟨rfl, rfl, rfl, rfl, rfl, rfl⟩
  rintro x e' a' w' ⟨rfl, ge⟩ st1
  refine wpIn_block (wpIn_loop_ghost (fun k a w => ∃ i e, k = l.length - i + 1 ∧ i ≤ l.length ∧ G220 yv l x0 ws rest i e ∧ ISt Try.f220.ntmps ok (J i) e a w) (l.length + 1) ⟨0, _, rfl, Nat.zero_le _, ge.low, st1⟩ ?_)
  rintro k a w ⟨i, e, rfl, hi, ge, st⟩
  refine wpIn_seq (runE (N := 0) (q := 0) (R := fun x e' => x = .norm ∧ G220 yv l x0 ws rest i e' ∧ e' 9 = .sc (.bool (decide (i < l.length)))) hH hI (hg i) g5 rfl ?_ st ?_)
  · obtain ⟨b0, b1, b2, b6, b7, b8⟩ := ge
    by_cases hlt : i < l.length
    · have hlt' : (i : Int) < (l.length : Int) := by omega
      simp -implicitDefEqProofs [b7, b8, hlt', hlt]
      exact ⟨by simpa using b0, by simpa using b1, by simpa using b2, by simpa using b6, by simpa using b7, by simpa using b8⟩
    · have hlt' : ¬ (i : Int) < (l.length : Int) := by omega
      simp -implicitDefEqProofs [b7, b8, hlt', hlt]
      exact ⟨by simpa using b0, by simpa using b1, by simpa using b2, by simpa using b6, by simpa using b7, by simpa using b8⟩
  rintro x e' a' w' ⟨rfl, ge', g9'⟩ st1
  have ge1 := ge'.low
  have e9 := lowE_of g9' rfl
  refine wpIn_seq (runE (N := 0) (q := 0) (R := fun x e' => (x = .norm ∧ i < l.length ∧ G220 yv l x0 ws rest i e') ∨ (x = .exit 0 ∧ ¬ i < l.length)) hH hI (hg i) g7 rfl ?_ st1 ?_)
  · rw [run_cond (t := decide (i < l.length)) (by simpa using e9)]
    by_cases hlt : i < l.length
    · simp -implicitDefEqProofs [hlt]
      exact ge1
    · simp -implicitDefEqProofs [hlt]
  rintro x e2 a2 w2 (⟨rfl, hlt, ge2⟩ | ⟨rfl, hlt⟩) st2
  case inr =>
    have : i = l.length := by omega
    subst this
    exact fin _ _ _ _ st2 fun B hB => .inl ⟨B, by rw [hvlen]; exact hB⟩
  obtain ⟨a0, ha0⟩ : ∃ a0, l[i]? = some a0 := ⟨_, List.getElem?_eq_getElem hlt⟩
  obtain ⟨vs, hm, hvs⟩ := hget i a0 ha0
  obtain ⟨n, y1, y2, y3, rfl, hw, rfl, l1, l2, l3⟩ := mem1_spec hm
  replace ge2 := ge2.low
  refine wpIn_seq (wpIn_block (wpIn_seq (runE (N := 0) (q := 0) (R := fun x e' => x = .norm ∧ G220 yv l x0 ws rest i e' ∧ e' 5 = .sc (.int .i64 (n : Nat))) hH hI (hg i) g12 rfl ?_ st2 ?_)))
  · obtain ⟨b0, b1, b2, b6, b7, b8⟩ := ge2
    have hlt' : (i : Int) < (l.length : Int) := by omega
    have hae : l[i] = .sc (.int .i64 (n : Nat)) := by simpa [hlt] using ha0
    simp -implicitDefEqProofs [b6, b8, hlt, hlt', hae]
    exact ⟨by simpa using b0, by simpa using b1, by simpa using b2, by simpa using b6, by simpa using b7, by simpa using b8⟩
  rintro x e3 a3 w3 ⟨rfl, ge3, g5'⟩ st3
  replace ge3 := ge3.low
  have e5' := lowE_of g5' rfl
  have hwn : n < ws.length := (List.getElem?_eq_some_iff.1 hw).1
  have hwn' : (n : Int) < (ws.length : Int) := by omega
  have hwe : ws[n] = .agg [y1, y2, y3] := by simpa [hwn] using hw
  have post : ∀ (K : (Nat → Prop) → World → Prop), Grows K → ∀ (b : Bool) (Q : Exit → Act → World → Prop) (e : Env) (a : Act) (w : World), e 21 = .sc (.bool (!b)) → ISt Try.f220.ntmps ok K e a w → (∀ a' w', ISt Try.f220.ntmps ok K (lowE e) a' w' → Q (exOf (if b = true then .norm else .ret)) a' w') → c15.wpIn (FR none) 0 Try.prog Q a w := by
    intro K hK b Q e a w he st hQ
    refine runE (N := 0) (q := 0) (R := fun x e' => x = (if b = true then .norm else .ret) ∧ e' = e) hH hI hK g15 rfl ?_ st ?_
    · rw [run_cond (t := !b) (by simpa using he)]
      cases b <;> simp -implicitDefEqProofs
    · rintro x e' a' w' ⟨rfl, rfl⟩ st'
      exact hQ a' w' st'
  refine wpIn_seq (yieldE (q := 0) hH hI hg hgx hy y220a y220b g14 hvs ?_ (fun b e => G220 yv l x0 ws rest i e ∧ e 21 = .sc (.bool (!b))) ?_ st3 ?_ ?_)
  · show (true && ((y1.isLow && (y2.isLow && (y3.isLow && true))) && true)) = true
    rw [l1, l2, l3]; rfl
  · have ge' := ge3
    rw [hyv] at ge'
    obtain ⟨b0, b1, b2, b6, b7, b8⟩ := ge3
    simp -implicitDefEqProofs [y220a, y220b, b0, b1, b2, e5', hwn, hwn', hwe, hyv]
    constructor <;> repeat' first | exact ge' | refine G220.set ?_ (by decide) | refine G220.low ?_
  · rintro e4 a4 w4 ⟨ge4, g21⟩ st4
    refine post _ (hg (i + 1)) true _ _ _ _ (lowE_of g21 rfl) st4 fun a5 w5 st5 => ?_
    replace ge4 := ge4.low.low
    refine runE (N := 0) (q := 0) (R := fun x e' => x = .norm ∧ G220 yv l x0 ws rest (i + 1) e') hH hI (hg (i + 1)) g10 rfl ?_ st5 ?_
    · obtain ⟨b0, b1, b2, b6, b7, b8⟩ := ge4
      have hwr : IntKind.i64.wrap ((i : Int) + 1) = (i : Int) + 1 := wrap_small (by omega) (by omega)
      simp -implicitDefEqProofs [b8, hwr]
      exact ⟨by simpa using b0, by simpa using b1, by simpa using b2, by simpa using b6, by simpa using b7, by simp⟩
    · rintro x e6 a6 w6 ⟨rfl, ge6⟩ st6
      exact ⟨l.length - (i + 1) + 1, by omega, i + 1, _, rfl, by omega, ge6.low, st6⟩
  · rintro e4 a4 w4 ⟨ge4, g21⟩ st4
    refine post _ hgx false _ _ _ _ (lowE_of g21 rfl) st4 fun a5 w5 st5 => ?_
    exact fin _ _ _ _ st5 fun B hB => .inr hB
end Go.Proofs.Ytihljollfbogeaa
