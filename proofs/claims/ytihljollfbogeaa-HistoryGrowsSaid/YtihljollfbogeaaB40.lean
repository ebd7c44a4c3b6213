/- Runs: a copy of a history of our own; Issue and Ack. No condition. -/
import Derived.Test.YtihljollfbogeaaB38
set_option linter.unusedSimpArgs false
set_option maxHeartbeats 1000000
namespace Go.Proofs.Ytihljollfbogeaa
open Go Go.RowKit
attribute [local simp] run_skip run_ret run_exit run_seq run_block run_reg thn_norm thn_toNorm thn_ret thn_exit endB_norm endB_toNorm endB_ret endB_exit regA_nil regA_cons putA_some putA_none insA_plain opA COp.ev pu dl dl0 appD nameOf nameOr_ptr nameOr_ref nameOr_mp nameOr_nl nameOr_full nameOr_grown grown_zero grownH_nil hset_id toNorm putA aEval_tmp aEval_func aEval_int aEval_bool aEval_nil edst eset_same eset_ne cmp_lss cmp_leq cmp_gtr cmp_geq cmp_eql cmp_neq num_add num_sub num_mul num_rem cmp_beql cmp_bneq cmp_seql cmp_sneq ite_map ite_bind ends_some ends_none ends_ite ends_bind ends_map rnd_norm rnd_toNorm rnd_exit rnd_ret norm_encI norm_encB oLit oAppend frzD_no Blk.isDead oElems oSlice oExtract oIndexA oMk0 oConvInt oMin oMax oMapNew oMapPut oMapGet findA oNil AV.single valueA oPick oNot argEnv ressA resA tupA oNew oLoad oStore oFieldAddr oLen oIndexS asNum rowAt? hset partA AV.cells AV.storable AV.one hemp callA isMk copyA callD outA_sc outA_imm outA_agg outA_tup outA_ref outA_nl outA_full fz_sc fz_imm fz_full fz_nl fz_fn fz_agg fz_tup fz_ref fzA_sc fzA_imm fzA_full fzA_nl fzA_agg fzA_ref fz1_sc fz1_imm fz1_full fz1_nl fz1_ref fzRow_all AV.scalar AV.scalar1 evC nm nmA nm1 nm0 insA_b insA_skip run_condB isBool boolOf run_drawn endD_mk drawA_nil drawA_cons nextD_mk consE_mk putD_some putD_none insD_plain insD_b insD_skip opD COp.rd COp.wr AV.nms AV.nms1 indeps indep oMake oBuildC fillC setCellsA ofVal ofCell Value.oneCell' reshape LIM AV.pure AV.pure1 norm norm1 run_loop
theorem cloneA_of {β : Type} {k n : Nat} {f : β → AV} (h1 : ∀ x, okEl k (f x) = true) {l : List β} (hl : l.length ≤ LIM) (h : Hp) :
    cloneA k n h (.imm (l.map f)) = some (.ref (n * 512 + 7) ((h (n * 512 + 7)).1 + 1) 0 l.length, hset h (n * 512 + 7) ((h (n * 512 + 7)).1 + 1, .row k (l.map f))) := by
  unfold cloneA
  simp only [oElems, Option.bind_some, List.length_map]
  rw [if_pos ⟨all_map h1 l, hl⟩]
theorem loop161q (H : Hand) (I : Inl) (N q : Nat) (hq : q = 557 ∨ q = 552) (writes : List Wr) (hx : writes.length < 1073741824) (hN : writes.length < N) (h184 : ∀ w ∈ writes, H 184 [.imm (w.data.map Sec.enc)] = some (.imm (w.data.map Sec.enc))) (v2 v3 vA vB lA lB : Nat) (LA LB : List AV) (h : Hp) (e : Env)
    (e2 : e 2 = .ptr (q * 512 + 2) v2 0 0) (e3 : e 3 = .ptr (q * 512 + 3) v3 0 0) (e14 : e 14 = encWs writes) (e15 : e 15 = encI writes.length) (e16 : e 16 = encI 0)
    (h2 : h (q * 512 + 2) = (v2, .row 3 [.agg [.nl, .nl, .nl]])) (hA : h ((q * 512 + 8) * 512 + 7) = (vA, .row 1 LA)) (hB : h ((q * 512 + 11) * 512 + 7) = (vB, .row 2 LB)) (h3 : h (q * 512 + 3) = (v3, .row 3 [.agg [.ref ((q * 512 + 8) * 512 + 7) vA 0 lA, .nl, .ref ((q * 512 + 11) * 512 + 7) vB 0 lB]])) :
    Ends (iter (run H I N q b161_0) N (e, h)) (fun r => r.1 = .exit 0 ∧ r.2.1 2 = .ptr (q * 512 + 2) v2 0 0 ∧ r.2.1 3 = .ptr (q * 512 + 3) v3 0 0 ∧ r.2.2 (q * 512 + 2) = (v2, .row 3 [.agg [.nl, .nl, .nl]]) ∧ r.2.2 ((q * 512 + 8) * 512 + 7) = (vA, .row 1 LA) ∧ r.2.2 ((q * 512 + 11) * 512 + 7) = (vB, .row 2 LB) ∧ (∀ m, m < q * 512 → r.2.2 m = h m) ∧
      ∃ a, r.2.2 (q * 512 + 3) = (v3, .row 3 [.agg [.ref ((q * 512 + 8) * 512 + 7) vA 0 lA, a, .ref ((q * 512 + 11) * 512 + 7) vB 0 lB]]) ∧ Gw r.2.2 (q * 512 + 28) 3 a (writes.map Wr.enc)) := by
  refine Ends.mono (for_loop writes.length (fun i s => s.1 2 = .ptr (q * 512 + 2) v2 0 0 ∧ s.1 3 = .ptr (q * 512 + 3) v3 0 0 ∧ s.1 14 = encWs writes ∧ s.1 15 = encI writes.length ∧ s.1 16 = encI i ∧ s.2 (q * 512 + 2) = (v2, .row 3 [.agg [.nl, .nl, .nl]]) ∧ s.2 ((q * 512 + 8) * 512 + 7) = (vA, .row 1 LA) ∧ s.2 ((q * 512 + 11) * 512 + 7) = (vB, .row 2 LB) ∧ (∀ m, m < q * 512 → s.2 m = h m) ∧
      ∃ a, s.2 (q * 512 + 3) = (v3, .row 3 [.agg [.ref ((q * 512 + 8) * 512 + 7) vA 0 lA, a, .ref ((q * 512 + 11) * 512 + 7) vB 0 lB]]) ∧ Gw s.2 (q * 512 + 28) 3 a ((writes.take i).map Wr.enc))
    (fun x s => x = .exit 0 ∧ s.1 2 = .ptr (q * 512 + 2) v2 0 0 ∧ s.1 3 = .ptr (q * 512 + 3) v3 0 0 ∧ s.2 (q * 512 + 2) = (v2, .row 3 [.agg [.nl, .nl, .nl]]) ∧ s.2 ((q * 512 + 8) * 512 + 7) = (vA, .row 1 LA) ∧ s.2 ((q * 512 + 11) * 512 + 7) = (vB, .row 2 LB) ∧ (∀ m, m < q * 512 → s.2 m = h m) ∧
      ∃ a, s.2 (q * 512 + 3) = (v3, .row 3 [.agg [.ref ((q * 512 + 8) * 512 + 7) vA 0 lA, a, .ref ((q * 512 + 11) * 512 + 7) vB 0 lB]]) ∧ Gw s.2 (q * 512 + 28) 3 a (writes.map Wr.enc)) ?_ ?_ hN ⟨e2, e3, e14, e15, e16, h2, hA, hB, fun _ _ => rfl, .nl, h3, Gw.nil⟩) (fun r hr => hr.2)
  · rintro i e h' hi ⟨g2, g3, g14, g15, g16, gh, gA, gB, gm, a, ga, gw⟩
    simp only [encI, encWs] at g2 g3 g14 g15 g16 gh gA gB gm ga gw
    have hlt : (i : Int) < (writes.length : Int) := by omega
    have hw : IntKind.i64.wrap ((i : Int) + 1) = (i : Int) + 1 := wrap_small (by omega) (by omega)
    have k := h184 writes[i] (List.getElem_mem hi)
    have hok := writes[i].ok
    have htake : (writes.take (i + 1)).map Wr.enc = (writes.take i).map Wr.enc ++ [writes[i].enc] := by rw [List.take_add_one, List.getElem?_eq_getElem hi, List.map_append]; rfl
    have hlen : ((writes.take i).map Wr.enc).length = i := by simp; omega
    have happ := gw.grow hok (by simp [LIM]; omega)
    have hnm := gw.name
    rw [htake]
    generalize (writes.take i).map Wr.enc = L at gw happ hlen ⊢
    simp only [Wr.enc, encI] at happ
    rcases hq with rfl | rfl <;> rcases gw with ⟨rfl, hnil⟩ | ⟨v, rfl, hrow⟩
    all_goals
      simp -implicitDefEqProofs [b161_0, g2, g3, g14, g15, g16, gh, gA, gB, ga, hlt, hi, hw, k, happ, encI, encWs, Wr.enc, -oAppend]
      refine ⟨fun m hm => ?_, Gw.mk (by simp) (by simp)⟩
      have := gm m hm
      repeat' (first | exact this | rw [if_neg (by omega)])
  · rintro e h' ⟨g2, g3, g14, g15, g16, gh, gA, gB, gm, a, ga, gw⟩
    simp only [encI, encWs] at g2 g3 g14 g15 g16 gh gA gB gm ga gw
    rw [List.take_length] at gw
    simp -implicitDefEqProofs [b161_0, g2, g3, g15, g16, gh, gA, gB, ga, encI]
    exact ⟨gm, gw⟩
theorem copied161_own (H : Hand) (I : Inl) (N q : Nat) (hq : q = 557 ∨ q = 552) (hs : Hist) (hx : hs.writes.length < 1073741824) (hN : hs.writes.length < N) (hz1 : hs.sizes.length ≤ LIM) (hz2 : hs.events.length ≤ LIM) (h137 : ∀ l, H 137 l = some (.mp 1 0)) (h227 : ∀ l, H 227 l = some (.mp 2 0)) (h184 : ∀ w ∈ hs.writes, H 184 [encSs w.data] = some (encSs w.data)) (h : Hp) :
    Ends (fnA H I N q c161 [hs.enc] h) (fun p => ∃ a b c, p.1 = .agg [a, b, c] ∧ Gr p.2 ((q * 512 + 8) * 512 + 7) 1 a (hs.sizes.map encI) ∧ Gw p.2 (q * 512 + 28) 3 b (hs.writes.map Wr.enc) ∧ Gr p.2 ((q * 512 + 11) * 512 + 7) 2 c (hs.events.map Evt.enc) ∧ ∀ m, m < q * 512 → p.2 m = h m) := by
  obtain ⟨sizes, writes, events⟩ := hs
  simp only [encSs] at h184 hx hN hz1 hz2
  have cA := fun n h => cloneA_of (n := n) (h := h) encI_ok hz1
  have cE := fun n h => cloneA_of (n := n) (h := h) Evt.ok hz2
  rcases hq with rfl | rfl
  · simp -implicitDefEqProofs [fnA, c161, Hist.enc, encIs, encEs, encWs, h137, h227, cA, cE]
    refine Ends.mono (loop161q H I N 557 (by simp) writes hx hN h184 ((h (557 * 512 + 2)).1 + 1) ((h (557 * 512 + 3)).1 + 1) ((h ((557 * 512 + 8) * 512 + 7)).1 + 1) ((h ((557 * 512 + 11) * 512 + 7)).1 + 1) sizes.length events.length (sizes.map encI) (events.map Evt.enc) _ _ (by simp) (by simp) (by simp [encWs]) (by simp [encI]) (by simp [encI]) (by simp) (by simp) (by simp) (by simp)) ?_
    rintro ⟨x, e', h'⟩ ⟨rfl, g2, g3, gh, gA, gB, gm, a, ga, gw⟩
    simp only at g2 g3 gh gA gB gm ga gw
    have hone := gw.one
    simp -implicitDefEqProofs [g2, g3, gh, ga, hone, -AV.one]
    refine ⟨fun _ _ => ⟨_, _, _, ⟨rfl, rfl, rfl⟩, Gr.mk (by simpa [hset] using gA) (by simp), gw.same (by simp), Gr.mk (by simpa [hset] using gB) (by simp), fun m hm => ?_⟩, rfl, rfl⟩
    rw [if_neg (by omega), gm m (by omega)]
    simp only [hset]
    repeat' (first | rfl | rw [if_neg (by omega)])
  · simp -implicitDefEqProofs [fnA, c161, Hist.enc, encIs, encEs, encWs, h137, h227, cA, cE]
    refine Ends.mono (loop161q H I N 552 (by simp) writes hx hN h184 ((h (552 * 512 + 2)).1 + 1) ((h (552 * 512 + 3)).1 + 1) ((h ((552 * 512 + 8) * 512 + 7)).1 + 1) ((h ((552 * 512 + 11) * 512 + 7)).1 + 1) sizes.length events.length (sizes.map encI) (events.map Evt.enc) _ _ (by simp) (by simp) (by simp [encWs]) (by simp [encI]) (by simp [encI]) (by simp) (by simp) (by simp) (by simp)) ?_
    rintro ⟨x, e', h'⟩ ⟨rfl, g2, g3, gh, gA, gB, gm, a, ga, gw⟩
    simp only at g2 g3 gh gA gB gm ga gw
    have hone := gw.one
    simp -implicitDefEqProofs [g2, g3, gh, ga, hone, -AV.one]
    refine ⟨fun _ _ => ⟨_, _, _, ⟨rfl, rfl, rfl⟩, Gr.mk (by simpa [hset] using gA) (by simp), gw.same (by simp), Gr.mk (by simpa [hset] using gB) (by simp), fun m hm => ?_⟩, rfl, rfl⟩
    rw [if_neg (by omega), gm m (by omega)]
    simp only [hset]
    repeat' (first | rfl | rw [if_neg (by omega)])
def issueH (h : Hist) (w : Wr) : Hist × Int × Int :=
  if checkH h ≠ 0 then (.zero, 0, checkH h) else if 4096 ≤ (h.writes.length : Int) then (.zero, 0, 6) else if fitsE h.sizes w ≠ 0 then (.zero, 0, fitsE h.sizes w)
  else (⟨h.sizes, h.writes ++ [w], h.events ++ [⟨0, h.writes.length⟩]⟩, h.writes.length, 0)
def ackOf (h : Hist) (a : Int) : Hist × Int :=
  if checkH h ≠ 0 then (.zero, checkH h) else if a < 0 ∨ (h.writes.length : Int) ≤ a then (.zero, 7) else if 0 ≤ atE h.events ⟨1, a⟩ then (.zero, 8)
  else (⟨h.sizes, h.writes, h.events ++ [⟨1, a⟩]⟩, 0)
def t74a : CC := (.reg [(.mk (some 44) none (.load true 3 (.tmp 2))), (.mk (some 45) none (.call 161 [(.tmp 44)])), (.mk (some 13) none (.alloc (.agg #[(.slice none 0 0), (.slice none 0 0), (.slice none 0 0)]))), (.mk none none (.store 3 (.tmp 13) (.tmp 45)))])
def t74b : CC := (.seq (.reg [(.mk (some 46) none (.faddr 2 (.tmp 3))), (.mk (some 47) none (.load false 1 (.tmp 46))), (.mk (some 48) none (.call 184 [(.tmp 47)])), (.mk (some 49) none (.faddr 2 (.tmp 3))), (.mk none none (.store 1 (.tmp 49) (.tmp 48)))]) (.seq (.reg [(.mk (some 50) none (.faddr 1 (.tmp 13))), (.mk (some 51) none (.load false 1 (.tmp 50))), (.mk (some 52) none (.load true 3 (.tmp 3))), (.mk (some 53) none (.lit 3 [(.tmp 52)])), (.mk (some 54) none (.app 3 (.tmp 51) (.tmp 53))), (.mk (some 55) none (.faddr 1 (.tmp 13))), (.mk none none (.store 1 (.tmp 55) (.tmp 54)))]) (.seq (.reg [(.mk (some 56) none (.faddr 2 (.tmp 13))), (.mk (some 57) none (.load false 1 (.tmp 56))), (.mk (some 58) none (.mv (.tmp 12))), (.mk (some 59) none (.build (.agg #[(.int .i64 (0)), (.int .i64 (0))]) [(0, (1, (.const (.int .i64 (0))))), (1, (1, (.tmp 58)))])), (.mk (some 60) none (.lit 2 [(.tmp 59)])), (.mk (some 61) none (.app 2 (.tmp 57) (.tmp 60))), (.mk (some 62) none (.faddr 2 (.tmp 13))), (.mk none none (.store 1 (.tmp 62) (.tmp 61)))]) (.seq (.reg [(.mk (some 63) none (.load true 3 (.tmp 13))), (.mk (some 64) none (.mv (.tmp 12))), (.mk none none (.store 3 (.tmp 4) (.tmp 63))), (.mk (some 5) none (.mv (.tmp 64))), (.mk (some 6) none (.mv (.const (.int .i64 (0)))))]) .ret))))
def t74 : CC := (.seq t74a t74b)
def c74_cut : CFn := (.mk [(.cell true 3 4), (.tmp 5), (.tmp 6)] (.seq (.reg [(.mk (some 2) none (.box (.tmp 0))), (.mk (some 3) none (.box (.tmp 1))), (.mk (some 4) none (.alloc (.agg #[(.slice none 0 0), (.slice none 0 0), (.slice none 0 0)]))), (.mk (some 5) none (.mv (.const (.int .i64 (0))))), (.mk (some 6) none (.mv (.const (.int .i64 (0)))))]) (.seq (.seq (.reg [(.mk (some 15) none (.load true 3 (.tmp 2))), (.mk (some 16) none (.call 124 [(.tmp 15)])), (.mk (some 14) none (.mv (.tmp 16))), (.mk (some 17) none (.ext 0 (.tmp 14))), (.mk (some 18) none (.ext 1 (.tmp 14))), (.mk (some 7) none (.alloc (.agg #[(.slice none 0 0), (.slice none 0 0), (.slice none 0 0), (.slice none 0 0), (.slice none 0 0)]))), (.mk none none (.store 5 (.tmp 7) (.tmp 17))), (.mk (some 8) none (.mv (.tmp 18)))]) (.seq (.reg [(.mk (some 19) none (.mv (.tmp 8))), (.mk (some 20) none (.bin .neq false none (.tmp 19) (.const (.int .i64 (0)))))]) (.cond (.tmp 20) (.seq (.reg [(.mk (some 21) none (.build (.agg #[(.slice none 0 0), (.slice none 0 0), (.slice none 0 0)]) [])), (.mk (some 22) none (.mv (.tmp 8))), (.mk none none (.store 3 (.tmp 4) (.tmp 21))), (.mk (some 5) none (.mv (.const (.int .i64 (0))))), (.mk (some 6) none (.mv (.tmp 22)))]) .ret) .skip))) (.seq (.seq (.reg [(.mk (some 23) none (.faddr 1 (.tmp 2))), (.mk (some 24) none (.load false 1 (.tmp 23))), (.mk (some 25) none (.len (.tmp 24))), (.mk (some 26) none (.bin .geq false none (.tmp 25) (.const (.int .i64 (4096)))))]) (.cond (.tmp 26) (.seq (.reg [(.mk (some 27) none (.build (.agg #[(.slice none 0 0), (.slice none 0 0), (.slice none 0 0)]) [])), (.mk none none (.store 3 (.tmp 4) (.tmp 27))), (.mk (some 5) none (.mv (.const (.int .i64 (0))))), (.mk (some 6) none (.mv (.const (.int .i64 (6)))))]) .ret) .skip)) (.seq (.reg [(.mk (some 29) none (.faddr 0 (.tmp 2))), (.mk (some 30) none (.load false 1 (.tmp 29))), (.mk (some 31) none (.call 144 [(.tmp 30)])), (.mk (some 28) none (.mv (.tmp 31))), (.mk (some 32) none (.ext 0 (.tmp 28))), (.mk (some 33) none (.ext 1 (.tmp 28))), (.mk (some 9) none (.mv (.tmp 32))), (.mk (some 10) none (.mv (.tmp 33)))]) (.seq (.seq (.reg [(.mk (some 34) none (.mv (.tmp 9))), (.mk (some 35) none (.load true 3 (.tmp 3))), (.mk (some 36) none (.call 183 [(.tmp 34), (.tmp 35)])), (.mk (some 11) none (.mv (.tmp 36)))]) (.seq (.reg [(.mk (some 37) none (.mv (.tmp 11))), (.mk (some 38) none (.bin .neq false none (.tmp 37) (.const (.int .i64 (0)))))]) (.cond (.tmp 38) (.seq (.reg [(.mk (some 39) none (.build (.agg #[(.slice none 0 0), (.slice none 0 0), (.slice none 0 0)]) [])), (.mk (some 40) none (.mv (.tmp 11))), (.mk none none (.store 3 (.tmp 4) (.tmp 39))), (.mk (some 5) none (.mv (.const (.int .i64 (0))))), (.mk (some 6) none (.mv (.tmp 40)))]) .ret) .skip))) (.seq (.reg [(.mk (some 41) none (.faddr 1 (.tmp 2))), (.mk (some 42) none (.load false 1 (.tmp 41))), (.mk (some 43) none (.len (.tmp 42))), (.mk (some 12) none (.mv (.tmp 43)))]) t74)))))))
theorem c74_eq : c74 = c74_cut := rfl
def t76a : CC := (.reg [(.mk (some 39) none (.load true 3 (.tmp 2))), (.mk (some 40) none (.call 161 [(.tmp 39)])), (.mk (some 8) none (.alloc (.agg #[(.slice none 0 0), (.slice none 0 0), (.slice none 0 0)]))), (.mk none none (.store 3 (.tmp 8) (.tmp 40)))])
def t76b : CC := (.seq (.reg [(.mk (some 41) none (.faddr 2 (.tmp 8))), (.mk (some 42) none (.load false 1 (.tmp 41))), (.mk (some 43) none (.mv (.tmp 1))), (.mk (some 44) none (.build (.agg #[(.int .i64 (0)), (.int .i64 (0))]) [(0, (1, (.const (.int .i64 (1))))), (1, (1, (.tmp 43)))])), (.mk (some 45) none (.lit 2 [(.tmp 44)])), (.mk (some 46) none (.app 2 (.tmp 42) (.tmp 45))), (.mk (some 47) none (.faddr 2 (.tmp 8))), (.mk none none (.store 1 (.tmp 47) (.tmp 46)))]) (.seq (.reg [(.mk (some 48) none (.load true 3 (.tmp 8))), (.mk none none (.store 3 (.tmp 4) (.tmp 48))), (.mk (some 5) none (.mv (.const (.int .i64 (0)))))]) .ret))
def t76 : CC := (.seq t76a t76b)
def c76_cut : CFn := (.mk [(.cell true 3 4), (.tmp 5)] (.seq (.reg [(.mk (some 2) none (.box (.tmp 0))), (.mk (some 4) none (.alloc (.agg #[(.slice none 0 0), (.slice none 0 0), (.slice none 0 0)]))), (.mk (some 5) none (.mv (.const (.int .i64 (0)))))]) (.seq (.reg [(.mk (some 10) none (.load true 3 (.tmp 2))), (.mk (some 11) none (.call 124 [(.tmp 10)])), (.mk (some 9) none (.mv (.tmp 11))), (.mk (some 12) none (.ext 0 (.tmp 9))), (.mk (some 13) none (.ext 1 (.tmp 9))), (.mk (some 6) none (.alloc (.agg #[(.slice none 0 0), (.slice none 0 0), (.slice none 0 0), (.slice none 0 0), (.slice none 0 0)]))), (.mk none none (.store 5 (.tmp 6) (.tmp 12))), (.mk (some 7) none (.mv (.tmp 13)))]) (.seq (.block 0 (.seq (.reg [(.mk (some 15) none (.mv (.tmp 7))), (.mk (some 16) none (.bin .neq false none (.tmp 15) (.const (.int .i64 (0))))), (.mk (some 14) none (.mv (.tmp 16)))]) (.cond (.tmp 14) (.seq (.reg [(.mk (some 17) none (.build (.agg #[(.slice none 0 0), (.slice none 0 0), (.slice none 0 0)]) [])), (.mk (some 18) none (.mv (.tmp 7))), (.mk none none (.store 3 (.tmp 4) (.tmp 17))), (.mk (some 5) none (.mv (.tmp 18)))]) .ret) (.seq (.reg [(.mk (some 20) none (.mv (.tmp 1))), (.mk (some 21) none (.bin .lss false none (.tmp 20) (.const (.int .i64 (0))))), (.mk (some 22) none (.mv (.tmp 21))), (.mk (some 23) (some (22, false)) (.mv (.tmp 1))), (.mk (some 24) (some (22, false)) (.faddr 1 (.tmp 2))), (.mk (some 25) (some (22, false)) (.load false 1 (.tmp 24))), (.mk (some 26) (some (22, false)) (.len (.tmp 25))), (.mk (some 27) (some (22, false)) (.bin .geq false none (.tmp 23) (.tmp 26))), (.mk (some 28) none (.pick (.tmp 22) (.const (.bool true)) (.tmp 27))), (.mk (some 19) none (.mv (.tmp 28)))]) (.cond (.tmp 19) (.seq (.reg [(.mk (some 29) none (.build (.agg #[(.slice none 0 0), (.slice none 0 0), (.slice none 0 0)]) [])), (.mk none none (.store 3 (.tmp 4) (.tmp 29))), (.mk (some 5) none (.mv (.const (.int .i64 (7)))))]) .ret) (.seq (.reg [(.mk (some 31) none (.faddr 3 (.tmp 6))), (.mk (some 32) none (.faddr 1 (.tmp 31))), (.mk (some 33) none (.load false 1 (.tmp 32))), (.mk (some 34) none (.mv (.tmp 1))), (.mk (some 35) none (.iaddrS 1 (.tmp 33) (.tmp 34))), (.mk (some 36) none (.load false 1 (.tmp 35))), (.mk (some 37) none (.bin .geq false none (.tmp 36) (.const (.int .i64 (0))))), (.mk (some 30) none (.mv (.tmp 37)))]) (.cond (.tmp 30) (.seq (.reg [(.mk (some 38) none (.build (.agg #[(.slice none 0 0), (.slice none 0 0), (.slice none 0 0)]) [])), (.mk none none (.store 3 (.tmp 4) (.tmp 38))), (.mk (some 5) none (.mv (.const (.int .i64 (8)))))]) .ret) .skip))))))) t76))))
theorem c76_eq : c76 = c76_cut := rfl
theorem tail74a_run (H : Hand) (I J : Inl) (N M : Nat) (hs : Hist) (hx : hs.writes.length < 1073741824) (hN : hs.writes.length < M) (hz1 : hs.sizes.length ≤ LIM) (hz2 : hs.events.length ≤ LIM) (h137 : ∀ l, H 137 l = some (.mp 1 0)) (h227 : ∀ l, H 227 l = some (.mp 2 0)) (h184 : ∀ w ∈ hs.writes, H 184 [encSs w.data] = some (encSs w.data))
    (h161 : ∀ l h, H 161 l = none ∧ I 557 161 l h = fnA H J M 557 c161 l h) (v2 : Nat) (e : Env) (hp : Hp) (e2 : e 2 = .ptr 514 v2 0 0) (h2 : hp 514 = (v2, .row 3 [hs.enc])) :
    Ends (run H I N 1 t74a (e, hp)) (fun r => r.1 = .norm ∧ ∃ v13 a b c, r.2.1 13 = .ptr 525 v13 0 0 ∧ (∀ t, t ≠ 13 → t ≠ 44 → t ≠ 45 → r.2.1 t = e t) ∧ r.2.2 525 = (v13, .row 3 [.agg [a, b, c]]) ∧ Gr r.2.2 146018311 1 a (hs.sizes.map encI) ∧ Gw r.2.2 285212 3 b (hs.writes.map Wr.enc) ∧ Gr r.2.2 146019847 2 c (hs.events.map Evt.enc) ∧ ∀ m, m < 285184 → m ≠ 525 → r.2.2 m = hp m) := by
  have hh : hs.enc = .agg [encIs hs.sizes, encWs hs.writes, encEs hs.events] := rfl
  have own := copied161_own H J M 557 (.inl rfl) hs hx hN hz1 hz2 h137 h227 h184
  have i1 := fun l => (h161 l hemp).1
  rw [hh] at h2
  rw [hh] at own
  simp -implicitDefEqProofs [t74a, e2, h2, i1]
  rw [(h161 _ _).2]
  refine Ends.mono (own _) ?_
  rintro ⟨x, h'⟩ ⟨a, b, c, rfl, ga, gb, gc, gm⟩
  simp only at ga gb gc gm
  obtain ⟨va, rfl, ga⟩ := ga
  obtain ⟨vc, rfl, gc⟩ := gc
  rcases gb with ⟨rfl, gb⟩ | ⟨vb, rfl, gb⟩
  all_goals
    simp -implicitDefEqProofs
    refine ⟨fun t q1 q2 q3 => by simp [eset, q1, q2, q3], _, _, _, ⟨rfl, rfl, rfl⟩, Gr.mk (by simpa [hset] using ga) (by simp), ?_, Gr.mk (by simpa [hset] using gc) (by simp), fun m q1 q2 => by simp [q2, gm m q1]⟩
  · exact .inl ⟨rfl, gb⟩
  · exact Gw.mk (by simpa [hset] using gb) (by simp)
end Go.Proofs.Ytihljollfbogeaa
