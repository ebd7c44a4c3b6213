/- Runs: sizes, new images, whether a write fits. No condition. -/
import Derived.Test.YtihljollfbogeaaC7
import Derived.Test.YtihljollfbogeaaB2
import Derived.Test.YtihljollfbogeaaE2
import Derived.Test.YtihljollfbogeaaMi
set_option linter.unusedSimpArgs false
namespace Go.Proofs.Ytihljollfbogeaa
open Go Go.RowKit
attribute [local simp] run_skip run_ret run_exit run_seq run_block run_reg thn_norm thn_toNorm thn_ret thn_exit endB_norm endB_toNorm endB_ret endB_exit regA_nil regA_cons putA_some putA_none insA_plain opA COp.ev pu dl dl0 appD nameOf nameOr_ptr nameOr_ref nameOr_mp nameOr_nl nameOr_full nameOr_grown grown_zero grownH_nil hset_id toNorm putA aEval_tmp aEval_func aEval_int aEval_bool aEval_nil edst eset_same eset_ne cmp_lss cmp_leq cmp_gtr cmp_geq cmp_eql cmp_neq num_add num_sub num_mul num_rem cmp_beql cmp_bneq cmp_seql cmp_sneq ite_map ite_bind ends_some ends_none ends_ite ends_bind ends_map rnd_norm rnd_toNorm rnd_exit rnd_ret norm_encI norm_encB oLit oAppend frzD_no Blk.isDead oElems oSlice oExtract oIndexA oMk0 oConvInt oMin oMax oMapNew oMapPut oMapGet findA oNil AV.single valueA oPick oNot argEnv ressA resA tupA oNew oLoad oStore oFieldAddr oLen oIndexS asNum rowAt? hset partA AV.cells AV.storable AV.one hemp callA isMk copyA callD outA_sc outA_imm outA_agg outA_tup outA_ref outA_nl outA_full fz_sc fz_imm fz_full fz_nl fz_fn fz_agg fz_tup fz_ref fzA_sc fzA_imm fzA_full fzA_nl fzA_agg fzA_ref fz1_sc fz1_imm fz1_full fz1_nl fz1_ref fzRow_all AV.scalar AV.scalar1 evC nm nmA nm1 nm0 insA_b insA_skip run_condB isBool boolOf run_drawn endD_mk drawA_nil drawA_cons nextD_mk consE_mk putD_some putD_none insD_plain insD_b insD_skip opD COp.rd COp.wr AV.nms AV.nms1 indeps indep oMake oBuildC fillC setCellsA ofVal ofCell Value.oneCell' reshape LIM AV.pure AV.pure1 norm norm1 run_loop
theorem sz_run (H : Hand) (I : Inl) (N q : Nat) (n : Int) (h : Hp) : fnA H I N q c237 [encI n] h = some (encB (badSz n), h) := by
  by_cases h1 : n < 1
  · simp [fnA, c237, encI, encB, badSz, h1]
  · by_cases h2 : 4096 < n <;> simp [fnA, c237, encI, encB, badSz, h1, h2]
theorem sizes214_run (H : Hand) (I : Inl) (N q : Nat) (l : List Int) (h : Hp) (h1 : ∀ n h, H 120 [.imm (l.map encI), .junk] = none ∧ I n 120 [.imm (l.map encI), .fn 237 [] []] h = some (encB (l.any badSz), h)) : fnA H I N q c214 [encIs l] h = some (encI (sizesE l), h) := by
  have k1 := fun n h => (h1 n h).1
  have k2 := fun n h => (h1 n h).2
  by_cases c1 : (l.length : Int) < 1
  · simp -implicitDefEqProofs [fnA, c214, encIs, sizesE, c1, encI]
  · by_cases c2 : 8 < (l.length : Int)
    · simp -implicitDefEqProofs [fnA, c214, encIs, sizesE, c1, c2, encI]
    · cases c3 : l.any badSz with
      | true => simp -implicitDefEqProofs [fnA, c214, encIs, sizesE, c1, c2, k1 0 h, k2, c3, encI, encB, -List.any_eq_true]
      | false => simp -implicitDefEqProofs [fnA, c214, encIs, sizesE, c1, c2, k1 0 h, k2, c3, encI, encB, -List.any_eq_false]
def zSec : Sec := ⟨List.replicate 8 0, rfl⟩
theorem make216_run (H : Hand) (I : Inl) (N q : Nat) (n : Int) (h0 : 0 ≤ n) (h1 : n ≤ 1073741824) : Ends (fnA H I N q c216 [encI n] hemp) (fun p => outA p = encSs (List.replicate n.toNat zSec)) := by
  have e : (List.replicate n.toNat zSec).map Sec.enc = List.replicate n.toNat (.agg [uA 0, uA 0, uA 0, uA 0, uA 0, uA 0, uA 0, uA 0]) := List.map_replicate
  simp only [encSs, e, uA]
  simp -implicitDefEqProofs [fnA, c216, encI, h0, h1]
/-- A function for every element of a list, one after the other. -/
theorem loop215 (H : Hand) (I : Inl) (N q : Nat) (f : FuncId) (xs ys : List AV) (hl : ys.length = xs.length) (hx : xs.length < 1073741824) (hN : xs.length < N)
    (hf : ∀ (i : Nat) (x y : AV), xs[i]? = some x → ys[i]? = some y → H f [x] = some y ∧ (∀ h, fz h x = x) ∧ (∀ h, nm h x = []) ∧ x.cells = [x] ∧ okEl 1 y = true ∧ y.storable = true ∧ y.cells.length = 1 ∧ y.pure = true ∧ norm y = y ∧ isMk y = none) (h : Hp) (e : Env) (e1 : e 1 = .fn f [] []) (e11 : e 11 = .imm xs) (e12 : e 12 = encI xs.length) (e13 : e 13 = encI 0) (e5 : Gr h (q * 512 + 10) 1 (e 5) []) :
    Ends (iter (run H I N q b215_0) N (e, h)) (fun r => r.1 = .exit 0 ∧ Gr r.2.2 (q * 512 + 10) 1 (r.2.1 5) ys ∧ ∀ m, m ≠ q * 512 + 10 → r.2.2 m = h m) := by
  refine Ends.mono (for_loop xs.length (fun i s => s.1 1 = .fn f [] [] ∧ s.1 11 = .imm xs ∧ s.1 12 = encI xs.length ∧ s.1 13 = encI i ∧ Gr s.2 (q * 512 + 10) 1 (s.1 5) (ys.take i) ∧ ∀ m, m ≠ q * 512 + 10 → s.2 m = h m)
    (fun x s => x = .exit 0 ∧ Gr s.2 (q * 512 + 10) 1 (s.1 5) ys ∧ ∀ m, m ≠ q * 512 + 10 → s.2 m = h m) ?_ ?_ hN ⟨e1, e11, e12, e13, by simpa using e5, fun _ _ => rfl⟩) (fun r hr => hr.2)
  · rintro i e h' hi ⟨g1, g11, g12, g13, g5, gh⟩
    obtain ⟨x, hx'⟩ : ∃ x, xs[i]? = some x := ⟨_, List.getElem?_eq_getElem hi⟩
    obtain ⟨y, hy'⟩ : ∃ y, ys[i]? = some y := ⟨_, List.getElem?_eq_getElem (by omega)⟩
    obtain ⟨k1, k2, k3, k4, k5, k6, k7, k8, k9, k10⟩ := hf i x y hx' hy'
    simp only [encI] at g1 g11 g12 g13
    have hlt : (i : Int) < (xs.length : Int) := by omega
    have hw : IntKind.i64.wrap ((i : Int) + 1) = (i : Int) + 1 := wrap_small (by omega) (by omega)
    have hlen : (ys.take i).length = i := by simp; omega
    have htake : ys.take (i + 1) = ys.take i ++ [y] := by rw [List.take_add_one, hy']; rfl
    generalize hL : ys.take i = L at g5 hlen htake
    obtain ⟨a, ha⟩ : ∃ a, e 5 = a := ⟨_, rfl⟩
    simp only [ha] at g5 gh
    obtain ⟨v, happ⟩ := g5.app k5 (by simp [LIM]; omega) (q * 512 + 22)
    have hnm := g5.name (q * 512 + 22)
    have hxe : xs[i] = x := by simpa [hi] using hx'
    have hz : ∀ r, frzD (q * 512 + 22) r = r := frzD_no (by omega)
    simp -implicitDefEqProofs [b215_0, g1, g11, g12, g13, ha, hlt, hi, hxe, k1, k2, k3, k4, k6, k7, k8, k9, k10, happ, hnm, hw, hz, encI, -oAppend, -AV.cells, -AV.storable, -nm, -AV.scalar, -AV.pure, -norm, -isMk]
    refine ⟨?_, ?_⟩
    · rw [htake]; exact Gr.mk (by simp [hset]) (by simp)
    · intro m hm; simp [hset, hm, gh]
  · rintro e h' ⟨g1, g11, g12, g13, g5, gh⟩
    simp only [encI] at g1 g11 g12 g13 g5 gh
    rw [List.take_of_length_le (by omega)] at g5
    simp -implicitDefEqProofs [b215_0, g11, g12, g13, encI]
    exact ⟨g5, gh⟩
theorem mapped215_run (H : Hand) (I : Inl) (N q : Nat) (f : FuncId) (xs ys : List AV) (hl : ys.length = xs.length) (hx : xs.length < 1073741824) (hN : xs.length < N)
    (hf : ∀ (i : Nat) (x y : AV), xs[i]? = some x → ys[i]? = some y → H f [x] = some y ∧ (∀ h, fz h x = x) ∧ (∀ h, nm h x = []) ∧ x.cells = [x] ∧ okEl 1 y = true ∧ y.storable = true ∧ y.cells.length = 1 ∧ y.pure = true ∧ norm y = y ∧ isMk y = none) (h : Hp) :
    Ends (fnA H I N q c215 [.imm xs, .fn f [] []] h) (fun p => Gr p.2 (q * 512 + 10) 1 p.1 ys ∧ ∀ m, m / 512 ≠ q → p.2 m = h m) := by
  have hx' : (xs.length : Int) ≤ 1073741824 := by omega
  simp -implicitDefEqProofs [fnA, c215, hx']
  refine Ends.mono (loop215 H I N q f xs ys hl hx hN hf _ _ (by simp) (by simp) (by simp [encI]) (by simp [encI]) ⟨_, by simp; rfl, by simp [hset]⟩) ?_
  rintro ⟨x, e', h'⟩ ⟨rfl, k1, k2⟩
  simp only at k1 k2
  simp -implicitDefEqProofs
  refine ⟨k1, fun m hm => ?_⟩
  rw [k2 m (by omega)]
  simp [hset]; omega
theorem b247_eq : b247_0 = b215_0 := rfl
theorem c247_eq : c247 = c215 := rfl

def encIm (im : List (List Sec)) : AV := .imm (im.map encSs)
def newIm (l : List Int) : List (List Sec) × Int := if sizesE l ≠ 0 then ([], sizesE l) else (l.map fun n => List.replicate n.toNat zSec, 0)
theorem sizesE_zero {l : List Int} (h : sizesE l = 0) : 1 ≤ l.length ∧ l.length ≤ 8 ∧ ∀ n ∈ l, 1 ≤ n ∧ n ≤ 4096 := by
  unfold sizesE at h
  split at h
  · cases h
  · split at h
    · cases h
    · rename_i h1 h2
      refine ⟨by omega, by omega, fun n hn => ?_⟩
      have : ¬ badSz n = true := fun e => h2 (List.any_eq_true.2 ⟨n, hn, e⟩)
      simp only [badSz, Bool.or_eq_true, decide_eq_true_eq] at this
      omega
theorem encSs_pure (l : List Sec) : (encSs l).pure = true := rfl
theorem new144_run (H : Hand) (I : Inl) (N q : Nat) (l : List Int) (h214 : H 214 [encIs l] = some (encI (sizesE l)))
    (h215 : sizesE l = 0 → ∀ n h, H 215 [encIs l, .junk] = none ∧ Ends (I n 215 [encIs l, .fn 216 [] []] h) (fun p => Gr p.2 (n * 512 + 10) 1 p.1 (l.map fun n => encSs (List.replicate n.toNat zSec)) ∧ ∀ m, m / 512 ≠ n → p.2 m = h m)) :
    Ends (fnA H I N q c144 [encIs l] hemp) (fun p => outA p = .tup [encIm (newIm l).1, encI (newIm l).2]) := by
  simp only [encIs] at h214 h215
  by_cases c1 : sizesE l = 0
  · have k1 := fun n h => (h215 c1 n h).1
    have k2 := fun n h => (h215 c1 n h).2
    obtain ⟨⟨a, h'⟩, k3, k4, k5⟩ := k2 (q * 512 + 11) hemp
    simp only [encI, c1] at h214
    have k6 := k4.toGw.fzA (by simp [encSs, AV.pure, AV.cells, AV.pure1])
    have hn : ∀ l, norm (encSs l) = encSs l := fun _ => rfl
    obtain ⟨v, ha, k7⟩ := k4
    simp only at ha k6
    subst ha
    simp only [List.length_map] at k3 k6
    simp -implicitDefEqProofs [fnA, c144, encIs, h214, newIm, c1, k1 0 hemp, k3, encI, k6, encIm, Function.comp_def, hn, -norm, -fzA_ref]
  · simp only [encI] at h214
    simp -implicitDefEqProofs [fnA, c144, encIs, h214, newIm, c1, encI, encIm]
theorem len248_run (H : Hand) (I : Inl) (N q : Nat) (v : List Sec) (h : Hp) : fnA H I N q c248 [encSs v] h = some (encI v.length, h) := by
  simp -implicitDefEqProofs [fnA, c248, encSs, encI]
def lens (im : List (List Sec)) : List Int := im.map fun v => (v.length : Int)
theorem sizes238_run (H : Hand) (I : Inl) (N q : Nat) (im : List (List Sec))
    (h247 : ∀ n h, H 247 [encIm im, .junk] = none ∧ Ends (I n 247 [encIm im, .fn 248 [] []] h) (fun p => Gr p.2 (n * 512 + 10) 1 p.1 ((lens im).map encI) ∧ ∀ m, m / 512 ≠ n → p.2 m = h m)) :
    Ends (fnA H I N q c238 [encIm im] hemp) (fun p => outA p = encIs (lens im)) := by
  simp only [encIm] at h247
  have k1 := fun n h => (h247 n h).1
  obtain ⟨⟨a, h'⟩, k3, k4, k5⟩ := (h247 (q * 512 + 4) hemp).2
  simp -implicitDefEqProofs [fnA, c238, encIm, k1 0 hemp, k3]
  rw [k4.toGw.out (encI_pure _), encI_norm]; rfl
theorem check221_run (H : Hand) (I : Inl) (N q : Nat) (im : List (List Sec)) (h238 : H 238 [encIm im] = some (encIs (lens im))) (h214 : H 214 [encIs (lens im)] = some (encI (sizesE (lens im)))) :
    Ends (fnA H I N q c221 [encIm im] hemp) (fun p => outA p = encI (sizesE (lens im))) := by
  simp only [encIm, encIs, encI] at h238 h214
  simp -implicitDefEqProofs [fnA, c221, encIm, h238, h214, encI]
def okIm (im : List (List Sec)) : Prop := im.length ≤ 1073741824 ∧ ∀ v ∈ im, v.length ≤ 1073741824
theorem fits223_run (H : Hand) (I : Inl) (N q : Nat) (im : List (List Sec)) (w : Wr) (hi : okIm im) (hw : w.data.length ≤ 1073741824) : Ends (fnA H I N q c223 [encIm im, w.enc] hemp) (fun p => outA p = encI (fitsE (lens im) w)) := by
  obtain ⟨vol, start, data⟩ := w
  simp only at hw
  have hll : ((lens im).length : Int) = im.length := by simp [lens]
  simp only [fitsE, hll]
  by_cases c1 : vol < 0
  · simp -implicitDefEqProofs [fnA, c223, encIm, Wr.enc, encI, c1]
  by_cases c2 : (im.length : Int) ≤ vol
  · simp -implicitDefEqProofs [fnA, c223, encIm, Wr.enc, encI, c1, c2]
  by_cases c3 : data.length = 0
  · have c3' : (data.length : Int) = 0 := by omega
    simp -implicitDefEqProofs [fnA, c223, encIm, Wr.enc, encI, c1, c2, c3]
  by_cases c4 : start < 0
  · have c3' : ¬ (data.length : Int) = 0 := by omega
    simp -implicitDefEqProofs [fnA, c223, encIm, Wr.enc, encI, c1, c2, c3, c3', c4, d223_0, p223_0]
  obtain ⟨v, rfl⟩ := Int.eq_ofNat_of_zero_le (show 0 ≤ vol by omega)
  have hv : v < im.length := by omega
  have hv' : (v : Int) < (im.length : Int) := by omega
  have c3' : ¬ (data.length : Int) = 0 := by omega
  have hlv := hi.2 im[v] (List.getElem_mem hv)
  have hwr : IntKind.i64.wrap ((im[v].length : Int) - (data.length : Int)) = (im[v].length : Int) - (data.length : Int) := wrap_small (by omega) (by omega)
  have hget : (lens im).getD v 0 = (im[v].length : Int) := by simp [lens, hv]
  by_cases c5 : (im[v].length : Int) - (data.length : Int) < start
  · simp -implicitDefEqProofs [fnA, c223, encIm, encSs, Wr.enc, encI, c1, c2, c3, c3', c4, d223_0, p223_0, hv, hv', hwr, c5, hget, -List.getD_eq_getElem?_getD]
  · simp -implicitDefEqProofs [fnA, c223, encIm, encSs, Wr.enc, encI, c1, c2, c3, c3', c4, d223_0, p223_0, hv, hv', hwr, c5, hget, -List.getD_eq_getElem?_getD]
def fitsI (im : List (List Sec)) (w : Wr) : Int := if sizesE (lens im) ≠ 0 then sizesE (lens im) else fitsE (lens im) w
theorem fits183_run (H : Hand) (I : Inl) (N q : Nat) (im : List (List Sec)) (w : Wr) (h221 : H 221 [encIm im] = some (encI (sizesE (lens im)))) (h223 : H 223 [encIm im, w.enc] = some (encI (fitsE (lens im) w))) :
    Ends (fnA H I N q c183 [encIm im, w.enc] hemp) (fun p => outA p = encI (fitsI im w)) := by
  simp only [encIm, encI, Wr.enc] at h221 h223
  by_cases c1 : sizesE (lens im) = 0
  · rw [c1] at h221
    simp -implicitDefEqProofs [fnA, c183, encIm, Wr.enc, encI, h221, h223, fitsI, c1]
  · simp -implicitDefEqProofs [fnA, c183, encIm, Wr.enc, encI, h221, fitsI, c1]
theorem loop145 (H : Hand) (I : Inl) (N q : Nat) (l : List Int) (hx : l.length ≤ 8) (hN : l.length < N) (h : Hp) (e : Env) (e0 : e 0 = encIs l) (e3 : e 3 = encI 0) :
    Ends (iter (run H I N q b145_0) N (e, h)) (fun r => r.2.2 = h ∧ ((r.1 = .exit 0 ∧ l.any badSz = false) ∨ (r.1 = .ret ∧ r.2.1 2 = encI 2 ∧ l.any badSz = true))) := by
  refine Ends.mono (for_loop l.length (fun i s => s.1 0 = encIs l ∧ s.1 3 = encI i ∧ s.2 = h ∧ ∀ j (hj : j < l.length), j < i → badSz l[j] = false) (fun y s => s.2 = h ∧ ((y = .exit 0 ∧ l.any badSz = false) ∨ (y = .ret ∧ s.1 2 = encI 2 ∧ l.any badSz = true))) ?_ ?_ hN ⟨e0, e3, rfl, fun j _ hj => absurd hj (by omega)⟩) (fun r hr => hr.2)
  · rintro i e h' hi ⟨g0, g3, rfl, gj⟩
    simp only [encI, encIs] at g0 g3
    have hlt : (i : Int) < (l.length : Int) := by omega
    have hw : IntKind.i64.wrap ((i : Int) + 1) = (i : Int) + 1 := wrap_small (by omega) (by omega)
    by_cases c1 : l[i] < 1
    · have : l.any badSz = true := List.any_eq_true.2 ⟨_, List.getElem_mem hi, by simp [badSz, c1]⟩
      simp -implicitDefEqProofs [b145_0, g0, g3, hlt, hi, c1, encI, this, -List.any_eq_true]
    by_cases c2 : 4096 < l[i]
    · have : l.any badSz = true := List.any_eq_true.2 ⟨_, List.getElem_mem hi, by simp [badSz, c2]⟩
      simp -implicitDefEqProofs [b145_0, g0, g3, hlt, hi, c1, c2, encI, this, -List.any_eq_true]
    · simp -implicitDefEqProofs [b145_0, g0, g3, hlt, hi, c1, c2, encI, encIs, hw]
      intro j hj hji
      by_cases e1 : j = i
      · subst e1; simp [badSz, c1, c2]
      · exact gj j hj (by omega)
  · rintro e h' ⟨g0, g3, rfl, gj⟩
    simp only [encI, encIs] at g0 g3
    have : l.any badSz = false := List.any_eq_false.2 fun n hn => by
      obtain ⟨j, hj, rfl⟩ := List.getElem_of_mem hn
      simp [gj j hj hj]
    simp -implicitDefEqProofs [b145_0, g0, g3, encI, this, -List.any_eq_false]
theorem sizes145_run (H : Hand) (I : Inl) (N q : Nat) (l : List Int) (hN : 8 < N) (h : Hp) : Ends (fnA H I N q c145 [encIs l] h) (fun p => p = (encI (sizesE l), h)) := by
  by_cases c1 : (l.length : Int) < 1
  · simp -implicitDefEqProofs [fnA, c145, encIs, sizesE, c1, encI]
  by_cases c2 : 8 < (l.length : Int)
  · simp -implicitDefEqProofs [fnA, c145, encIs, sizesE, c1, c2, encI]
  simp -implicitDefEqProofs [fnA, c145, encIs, c1, c2]
  refine Ends.mono (loop145 H I N q l (by omega) (by omega) h _ (by simp [encIs]) (by simp [encI])) ?_
  rintro ⟨x, e', h'⟩ ⟨k0, k⟩
  simp only at k0 k
  subst k0
  rcases k with ⟨rfl, k1⟩ | ⟨rfl, k1, k2⟩
  · simp -implicitDefEqProofs [sizesE, c1, c2, k1, encI]
  · simp -implicitDefEqProofs [sizesE, c1, c2, k1, k2, encI]
theorem fits148_run (H : Hand) (I : Inl) (N q : Nat) (l : List Int) (w : Wr) (hl : sizesE l = 0) (hw : w.data.length ≤ 1073741824) : Ends (fnA H I N q c148 [encIs l, w.enc] hemp) (fun p => outA p = encI (fitsE l w)) := by
  obtain ⟨vol, start, data⟩ := w
  simp only at hw
  obtain ⟨_, _, hs⟩ := sizesE_zero hl
  simp only [fitsE]
  by_cases c1 : vol < 0
  · simp -implicitDefEqProofs [fnA, c148, encIs, Wr.enc, encI, c1]
  by_cases c2 : (l.length : Int) ≤ vol
  · simp -implicitDefEqProofs [fnA, c148, encIs, Wr.enc, encI, c1, c2]
  by_cases c3 : data.length = 0
  · simp -implicitDefEqProofs [fnA, c148, encIs, Wr.enc, encI, c1, c2, c3]
  have c3' : ¬ (data.length : Int) = 0 := by omega
  by_cases c4 : start < 0
  · simp -implicitDefEqProofs [fnA, c148, encIs, Wr.enc, encI, c1, c2, c3, c3', c4, d148_0, p148_0]
  obtain ⟨v, rfl⟩ := Int.eq_ofNat_of_zero_le (show 0 ≤ vol by omega)
  have hv : v < l.length := by omega
  have hv' : (v : Int) < (l.length : Int) := by omega
  have hlv := hs l[v] (List.getElem_mem hv)
  have hget : l.getD v 0 = l[v] := by simp [hv]
  by_cases c5 : l[v] ≤ start
  · have c6 : l[v] - (data.length : Int) < start := by omega
    simp -implicitDefEqProofs [fnA, c148, encIs, Wr.enc, encI, c1, c2, c3, c3', c4, d148_0, p148_0, hv, hv', c5, c6, hget, -List.getD_eq_getElem?_getD]
  have hwr : IntKind.i64.wrap (l[v] - start) = l[v] - start := wrap_small (by omega) (by omega)
  by_cases c6 : l[v] - start < (data.length : Int)
  · have c7 : l[v] - (data.length : Int) < start := by omega
    simp -implicitDefEqProofs [fnA, c148, encIs, Wr.enc, encI, c1, c2, c3, c3', c4, d148_0, p148_0, hv, hv', c5, c6, c7, hwr, hget, -List.getD_eq_getElem?_getD]
  · have c7 : ¬ l[v] - (data.length : Int) < start := by omega
    simp -implicitDefEqProofs [fnA, c148, encIs, Wr.enc, encI, c1, c2, c3, c3', c4, d148_0, p148_0, hv, hv', c5, c6, c7, hwr, hget, -List.getD_eq_getElem?_getD]
end Go.Proofs.Ytihljollfbogeaa
