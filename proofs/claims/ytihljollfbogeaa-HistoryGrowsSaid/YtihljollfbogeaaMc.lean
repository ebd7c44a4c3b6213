/- Regions, functions, trees, tables. No condition. -/
import Derived.Test.YtihljollfbogeaaMb
import Derived.Sort.LoopGhostIn

/- Plain regions of the small language are those of the program. No condition. -/
namespace Go.Proofs.Ytihljollfbogeaa
open Go Go.RowKit

section
variable {P : Program} {w : World} {α : Al} {base nt : Nat} {h : Hp} {H : Hand} {I : Inl}

theorem put_val {ok : Nat → Prop} {e : Env} {a : Act} {d : Option Nat} {v : AV} {x : Value} (hval : ∀ t, V w ok α (e t) (a.tmps.getD t undef)) (hd : ∀ k, d = some k → k < a.tmps.size) (hx : V w ok α v x) :
    ∀ t, V w ok α (edst e d v t) ((a.put d x).tmps.getD t undef) := by
  intro t
  cases d with
  | none => exact hval t
  | some k =>
    have hk := hd k rfl
    simp only [edst, eset, Act.put]
    by_cases e1 : t = k
    · subst e1
      simp only [if_true]
      rw [Array.getD_eq_getD_getElem?, Array.getElem?_setIfInBounds_self_of_lt hk]
      exact hx
    · rw [if_neg e1]
      rw [Array.getD_eq_getD_getElem?, Array.getElem?_setIfInBounds_ne (Ne.symm e1), ← Array.getD_eq_getD_getElem?]
      exact hval t

theorem yield_ok {ok : Nat → Prop} {e : Env} {a : Act} {ops : Array Oper} {j g : Nat} {b : Bool} (hval : ∀ t, V w ok α (e t) (a.tmps.getD t undef)) (hj : (ops.toList[j]?).bind (·.dst) = some g) (hg : e g = .sc (.bool b)) : yielded ops a.tmps j = some b := by
  have h1 := hval g
  rw [hg] at h1
  have h2 := h1.sc_eq
  have hj' : (ops[j]?).bind (·.dst) = some g := by simpa using hj
  unfold yielded
  rw [hj']
  simp only [Option.bind_some]
  rw [Array.getD_eq_getD_getElem?] at h2
  cases hq : a.tmps[g]? with
  | none => rw [hq] at h2; cases h2
  | some x => rw [hq] at h2; simp at h2; rw [h2]

theorem V.undef {w : World} {ok : Nat → Prop} {α : Al} : V w ok α (.tup []) undef := ⟨[], rfl, rfl, fun i a x ha => by simp at ha⟩
theorem yield_none {ok : Nat → Prop} {e : Env} {a : Act} {ops : Array Oper} {j g : Nat} (hval : ∀ t, V w ok α (e t) (a.tmps.getD t undef)) (hj : (ops.toList[j]?).bind (·.dst) = some g) (hg : e g = .tup []) : yielded ops a.tmps j = none := by
  have h1 := hval g
  rw [hg] at h1
  obtain ⟨us, h2, h3, _⟩ := h1
  have hus : us = [] := List.eq_nil_of_length_eq_zero h3
  subst hus
  have hj' : (ops[j]?).bind (·.dst) = some g := by simpa using hj
  unfold yielded
  rw [hj']
  simp only [Option.bind_some]
  rw [Array.getD_eq_getD_getElem?] at h2
  cases hq : a.tmps[g]? with
  | none => rfl
  | some x => rw [hq] at h2; simp at h2; rw [h2]

theorem ins_then (hH : HandOk P H) (hI : InlOk P I) {ops : Array Oper} {o : Oper} {i q : Nat} {ci : CIns} {s s' : St} {a : Act} (hi : ops[i]? = some o) (hc : compIns P nt ops.toList o = some ci) (hr : insA H I q ci s = some s')
    (inv : Inv nt base s a w α) {K : Act → World → Prop} {Q : Exit → Act → World → Prop} (hK : ∀ a' w' α', Inv nt base s' a' w' α' → Ext w α w' α' → K a' w') : wpOpIn Fence.wide 0 P ops Q i K a w := by
  unfold compIns at hc
  split at hc
  · cases hc
  · rename_i c hop
    split at hc
    case isFalse => cases hc
    rename_i hd
    have hdst : ∀ k, o.dst = some k → k < a.tmps.size := fun k hk => by
      rw [hk] at hd
      exact Nat.lt_of_lt_of_le (of_decide_eq_true hd) inv.size
    have fin : ∀ x w' α' (s1 : St) (v : AV), Rel base s1.2 w' α' → Ext w α w' α' → V w' (okA w' α') α' v x → (∀ t u', V w (okA w α) α (s.1 t) u' → V w' (okA w' α') α' (s1.1 t) u') → s' = (edst s1.1 o.dst v, s1.2) → K (a.put o.dst x) w' := by
      intro x w' α' s1 v h1 h2 h3 h4 h5
      refine hK _ w' α' ⟨by rw [h5]; exact h1, Nat.le_trans inv.base h2.size, ?_, ?_, ?_⟩ h2
      · rw [h5]
        exact put_val (fun t => h4 t _ (inv.val t)) hdst h3
      · have := inv.size
        unfold Act.put
        split <;> simpa using this
      · have := inv.defers
        unfold Act.put
        split <;> simpa using this
    unfold wpOpIn
    simp only [hi]
    unfold insA at hr
    split at hc
    · rename_i hg
      cases hc
      simp only at hr
      obtain ⟨⟨v, s1⟩, h1, h2⟩ := Option.map_eq_some_iff.1 hr
      rw [if_pos (by simp [Region.wanted, hg])]
      exact opA_then hH hI inv.rel inv.base inv.val hop h1 K Q (fun x w' α' k1 k2 k3 k4 => fin x w' α' s1 v k1 k2 k3 k4 h2.symm)
    · rename_i j want hg
      split at hc
      · rename_i g hj
        cases hc
        simp only at hr
        split at hr
        · rename_i b hb
          have hy := yield_ok inv.val hj hb
          split at hr
          · rename_i hbw
            subst hbw
            obtain ⟨⟨v, s1⟩, h1, h2⟩ := Option.map_eq_some_iff.1 hr
            rw [if_pos (by simp [Region.wanted, hg, hy])]
            exact opA_then hH hI inv.rel inv.base inv.val hop h1 K Q (fun x w' α' k1 k2 k3 k4 => fin x w' α' s1 v k1 k2 k3 k4 h2.symm)
          · rename_i hbw
            cases hr
            rw [if_neg (by simp [Region.wanted, hg, hy]; exact hbw)]
            exact ⟨fun _ _ => trivial, fin undef w α s (.tup []) inv.rel (Ext.refl w α) V.undef (fun t u' hu => hu) rfl⟩
        · rename_i hb
          cases hr
          rw [if_neg (by simp [Region.wanted, hg, yield_none inv.val hj hb])]
          exact ⟨fun _ _ => trivial, fin undef w α s (.tup []) inv.rel (Ext.refl w α) V.undef (fun t u' hu => hu) rfl⟩
        · cases hr
      · cases hc

theorem regA_ok (hH : HandOk P H) (hI : InlOk P I) {ops : Array Oper} {q : Nat} {Q : Exit → Act → World → Prop} : ∀ (rest : List Oper) (k : Nat) (cs : List CIns) (s s' : St) (a : Act) (w : World) (α : Al),
    ops.toList.drop k = rest → compAll P nt ops.toList rest = some cs → regA H I q cs s = some s' → Inv nt base s a w α → (∀ a' w' α', Inv nt base s' a' w' α' → Ext w α w' α' → Q .normal a' w') →
    wpOpsIn Fence.wide 0 P ops Q (List.range' k rest.length) a w
  | [], k, cs, s, s', a, w, α, hk, hc, hr, inv, hQ => by
    cases hc
    cases hr
    exact hQ a w α inv (Ext.refl w α)
  | o :: rest, k, cs, s, s', a, w, α, hk, hc, hr, inv, hQ => by
    unfold compAll at hc
    split at hc
    · rename_i ci l h1 h2
      cases hc
      simp only [regA] at hr
      obtain ⟨s1, h3, h4⟩ := Option.bind_eq_some_iff.1 hr
      have hi : ops[k]? = some o := by
        have : (ops.toList.drop k)[0]? = some o := by rw [hk]; rfl
        rw [List.getElem?_drop] at this
        simpa using this
      simp only [List.length_cons, List.range'_succ]
      rw [wpOpsIn_cons]
      refine ins_then hH hI hi h1 h3 inv fun a' w' α' inv' ext => ?_
      refine regA_ok hH hI rest (k + 1) l s1 s' a' w' α' ?_ h2 h4 inv' (fun a'' w'' α'' i'' e'' => hQ a'' w'' α'' i'' (ext.trans e''))
      rw [← List.drop_drop, hk]
      rfl
    · cases hc

theorem reg_ok (hH : HandOk P H) (hI : InlOk P I) {ops : Array Oper} {id q : Nat} {Q : Exit → Act → World → Prop} {cs : List CIns} {s s' : St} {a : Act} (hc : compAll P nt ops.toList ops.toList = some cs) (hr : regA H I q cs s = some s')
    (inv : Inv nt base s a w α) (hQ : ∀ a' w' α', Inv nt base s' a' w' α' → Ext w α w' α' → Q .normal a' w') : (Code.region id ops false).wpIn Fence.wide 0 P Q a w := by
  refine wpIn_region ?_
  have := regA_ok hH hI (Q := Q) ops.toList 0 cs s s' a w α rfl hc hr inv hQ
  rwa [Array.length_toList, ← List.range_eq_range'] at this

end
end Go.Proofs.Ytihljollfbogeaa

/- Operations that do not touch each other may change places. No condition. -/
namespace Go.Proofs.Ytihljollfbogeaa
open Go Go.RowKit

/-- What an operation is given. -/
def COp.xs : COp → List Operand
  | .mv x | .inv x | .isnil x | .chk x | .box x | .load _ _ x | .faddr _ x | .field _ _ _ x | .ext _ x | .cint _ x | .cstr x | .make _ _ x | .mk0 _ x | .len x | .cap x | .clr _ _ x => [x]
  | .pick c a b => [c, a, b]
  | .bin _ _ _ x y | .store _ x y | .iaddrS _ x y | .iaddrA _ _ x y | .mn x y | .mx x y | .app _ x y | .appZ _ _ x y | .cpy _ x y | .mget _ x y => [x, y]
  | .alloc _ | .mnew => []
  | .lit _ xs => xs
  | .build _ ps => ps.map (·.2.2)
  | .slc _ x lo hi m => x :: (lo.toList ++ hi.toList ++ m.toList)
  | .mput m k v => [m, k, v]
  | .fn _ a b => a ++ b
  | .call _ as => as
  | .callv x as => x :: as

def tmpOf : Operand → Option Nat
  | .tmp t => some t
  | _ => none
def CIns.looks (i : CIns) : List Nat := i.op.xs.filterMap tmpOf ++ (match i.guard with | some (g, _) => [g] | none => [])

section
variable {H : Hand} {I : Inl} {q : Nat}

theorem aEval_same {e e' : Env} {x : Operand} (h : ∀ t, tmpOf x = some t → e' t = e t) : aEval e' x = aEval e x := by
  cases x with
  | tmp t => exact h t rfl
  | _ => rfl
theorem same_xs {e e' : Env} {i : CIns} (h : ∀ t ∈ i.looks, e' t = e t) : ∀ x ∈ i.op.xs, aEval e' x = aEval e x := fun x hx =>
  aEval_same fun t ht => h t (List.mem_append_left _ (List.mem_filterMap.2 ⟨x, hx, ht⟩))
theorem map_same {e e' : Env} {l : List Operand} (h : ∀ x ∈ l, aEval e' x = aEval e x) : l.map (aEval e') = l.map (aEval e) := List.map_congr_left h
theorem omap_same {e e' : Env} {l : Option Operand} (h : ∀ x ∈ l.toList, aEval e' x = aEval e x) : l.map (aEval e') = l.map (aEval e) := by
  cases l with
  | none => rfl
  | some x => simp [h x (by simp)]
theorem parts_same {e e' : Env} {l : List (Nat × Nat × Operand)} (h : ∀ x ∈ l.map (·.2.2), aEval e' x = aEval e x) : (l.map fun p => (p.1, p.2.1, aEval e' p.2.2)) = l.map fun p => (p.1, p.2.1, aEval e p.2.2) :=
  List.map_congr_left fun p hp => by rw [h p.2.2 (List.mem_map.2 ⟨p, hp, rfl⟩)]

theorem ev_env {c : COp} {e e' : Env} {n : Nat} {h : Hp} (hx : ∀ x ∈ c.xs, aEval e' x = aEval e x) : c.ev n e' h = c.ev n e h := by
  cases c with
  | lit k xs => simp only [COp.ev]; rw [map_same (by simpa [COp.xs] using hx)]
  | build z ps => simp only [COp.ev]; rw [parts_same (by simpa [COp.xs] using hx)]
  | slc k x lo hi m =>
    simp only [COp.ev]
    rw [hx x (by simp [COp.xs]), omap_same (fun y hy => hx y (by simp only [COp.xs, List.mem_cons, List.mem_append]; exact .inr (.inl (.inl hy)))),
      omap_same (fun y hy => hx y (by simp only [COp.xs, List.mem_cons, List.mem_append]; exact .inr (.inl (.inr hy)))), omap_same (fun y hy => hx y (by simp only [COp.xs, List.mem_cons, List.mem_append]; exact .inr (.inr hy)))]
  | fn f a b =>
    simp only [COp.ev]
    rw [map_same (fun y hy => hx y (by simp only [COp.xs, List.mem_append]; exact .inl hy)), map_same (fun y hy => hx y (by simp only [COp.xs, List.mem_append]; exact .inr hy))]
  | call f as => rfl
  | callv x as => rfl
  | _ => simp only [COp.xs, List.mem_cons, List.not_mem_nil, or_false, forall_eq_or_imp, forall_eq] at hx <;> simp only [COp.ev, hx]
theorem rd_env {c : COp} {e e' : Env} {n : Nat} (hx : ∀ x ∈ c.xs, aEval e' x = aEval e x) : c.rd n e' = c.rd n e ∧ c.wr n e' = c.wr n e := by
  cases c with
  | slc k x lo hi m => exact ⟨by simp only [COp.rd]; rw [hx x (by simp [COp.xs])], rfl⟩
  | lit => exact ⟨rfl, rfl⟩
  | build => exact ⟨rfl, rfl⟩
  | fn => exact ⟨rfl, rfl⟩
  | call => exact ⟨rfl, rfl⟩
  | callv => exact ⟨rfl, rfl⟩
  | _ => simp only [COp.xs, List.mem_cons, List.not_mem_nil, or_false, forall_eq_or_imp, forall_eq] at hx <;> simp only [COp.rd, COp.wr, hx, and_self]

/-! ### What an operation does not look at may be anything -/
theorem rowAt_same {h h' : Hp} {n ver : Nat} (e : h' n = h n) : rowAt? h' n ver = rowAt? h n ver := by unfold rowAt?; rw [e]
theorem oElems_same {h h' : Hp} {x : AV} (e : ∀ m ∈ x.nms, h' m = h m) : oElems h' x = oElems h x := by
  cases x with
  | ref n ver i len => simp only [oElems]; rw [rowAt_same (e n (by simp [AV.nms, AV.nms1]))]
  | sc v => cases v with
    | slice A n c => cases n <;> rfl
    | _ => rfl
  | _ => rfl
theorem oIsNil_same {h h' : Hp} {x : AV} (e : ∀ m ∈ x.nms, h' m = h m) : oIsNil h' x = oIsNil h x := by
  cases x with
  | ref n ver i len => cases len with
    | zero => rfl
    | succ len => simp only [oIsNil]; rw [rowAt_same (e n (by simp [AV.nms, AV.nms1]))]
  | sc v => cases v <;> rfl
  | imm l => cases l <;> rfl
  | full l => cases l <;> rfl
  | _ => rfl
theorem oLoad_same {h h' : Hp} {agg : Bool} {k : Nat} {x : AV} (e : ∀ m ∈ x.nms, h' m = h m) : oLoad agg k h' x = oLoad agg k h x := by
  cases x with
  | ptr n ver i len => simp only [oLoad]; rw [rowAt_same (e n (by simp [AV.nms, AV.nms1]))]
  | _ => rfl
theorem oIndexS_same {h h' : Hp} {k : Nat} {x i : AV} (e : ∀ m ∈ x.nms, h' m = h m) : oIndexS k h' x i = oIndexS k h x i := by
  cases x with
  | ref n ver i0 len => simp only [oIndexS]; rw [rowAt_same (e n (by simp [AV.nms, AV.nms1]))]
  | _ => rfl
theorem oSlice_same {h h' : Hp} {k : Nat} {x : AV} {lo hi mx : Option AV} (e : ∀ m ∈ x.nms, h' m = h m) : oSlice h' k x lo hi mx = oSlice h k x lo hi mx := by
  cases x with
  | ref n ver i0 len => simp only [oSlice]; rw [rowAt_same (e n (by simp [AV.nms, AV.nms1]))]
  | _ => rfl
theorem oMapGet_same {h h' : Hp} {z m k : AV} (e : ∀ n ∈ m.nms, h' n = h n) : oMapGet h' z m k = oMapGet h z m k := by
  cases m with
  | mp n ver =>
    have e' := e n (by simp [AV.nms, AV.nms1])
    cases k with
    | sc v => cases v with
      | int kk i => cases kk <;> simp only [oMapGet, e']
      | _ => rfl
    | _ => rfl
  | _ => rfl

theorem dl_set {h h' : Hp} {n : Nat} {v : AV} {x x' : Nat × Blk} (e : x' = x) : dl n (some (v, hset h' n x')) = dl n (some (v, hset h n x)) := by
  subst e; simp [dl, hset]
theorem dl_here {h h' : Hp} {n : Nat} {v : AV} (e : h' n = h n) : dl n (some (v, h')) = dl n (some (v, h)) := by
  simp [dl, e]
theorem dl0_set {h h' : Hp} {n : Nat} {x x' : Nat × Blk} (e : x' = x) : dl0 n (some (hset h' n x')) = dl0 n (some (hset h n x)) := by
  subst e; simp [dl0, hset]
theorem dl0_here {h h' : Hp} {n : Nat} (e : h' n = h n) : dl0 n (some h') = dl0 n (some h) := by
  simp [dl0, e]

theorem oNew_same {h h' : Hp} {n : Nat} {v : AV} (e : h' n = h n) : dl n (oNew h' n v) = dl n (oNew h n v) := by
  unfold oNew; split
  · rw [e]; exact dl_set rfl
  · rfl
theorem oStore_same {h h' : Hp} {n k : Nat} {p v : AV} (e : h' (nameOr n p) = h (nameOr n p)) : dl0 (nameOr n p) (oStore k h' p v) = dl0 (nameOr n p) (oStore k h p v) := by
  unfold oStore
  split
  · rename_i n0 ver e0 c0
    simp only [nameOr] at e ⊢
    rw [rowAt_same e]
    cases rowAt? h _ _ with
    | none => rfl
    | some r =>
      simp only [Option.bind_some]
      cases r.2[e0]? with
      | none => rfl
      | some el =>
        simp only [Option.bind_some]
        split
        · exact dl0_set rfl
        · rfl
  · rfl
theorem oMake_same {h h' : Hp} {n k : Nat} {z x : AV} (e : h' n = h n) : dl n (oMake h' n k z x) = dl n (oMake h n k z x) := by
  unfold oMake; split
  · split
    · rw [e]; exact dl_set rfl
    · rfl
  · rfl
theorem oMk0_same {h h' : Hp} {n k : Nat} {x : AV} (e : h' n = h n) : dl n (oMk0 h' n k x) = dl n (oMk0 h n k x) := by
  unfold oMk0; split
  · split
    · rw [e]; exact dl_set rfl
    · rfl
  · rfl
theorem oLit_same {h h' : Hp} {n k : Nat} {vs : List AV} (e : h' n = h n) : dl n (oLit h' n k vs) = dl n (oLit h n k vs) := by
  unfold oLit
  split
  · split
    · exact dl_here e
    · split
      · exact dl_here e
      · rw [e]; exact dl_set rfl
  · rfl
theorem oAppend_same {h h' : Hp} {n k : Nat} {s : AV} {ys : List AV} (e : h' (nameOr n s) = h (nameOr n s)) : dl (nameOr n s) (oAppend h' n k s ys) = dl (nameOr n s) (oAppend h n k s ys) := by
  unfold oAppend
  split
  · split
    · simp only [nameOr] at e ⊢
      rw [e]
      split
      · exact dl_here e
      · split
        · exact dl_set rfl
        · rfl
    · simp only [nameOr] at e ⊢
      split
      · exact dl_here e
      · split
        · rw [e]; exact dl_set rfl
        · rfl
    · simp only [nameOr] at e ⊢
      rw [rowAt_same e]
      cases rowAt? h _ _ with
      | none => rfl
      | some r =>
        simp only [Option.bind_some]
        split
        · split
          · exact dl_set rfl
          · split
            · exact dl_set rfl
            · rfl
        · rfl
    · rfl
  · rfl
theorem oCopy_same {h h' : Hp} {n k : Nat} {s : AV} {ys : List AV} (e : h' (nameOr n s) = h (nameOr n s)) : dl (nameOr n s) (oCopy h' k s ys) = dl (nameOr n s) (oCopy h k s ys) := by
  unfold oCopy
  split
  · split
    · simp only [nameOr] at e ⊢
      rw [rowAt_same e]
      cases rowAt? h _ _ with
      | none => rfl
      | some r =>
        simp only [Option.bind_some]
        split
        · exact dl_set rfl
        · rfl
    · rfl
  · rfl
theorem oClear_same {h h' : Hp} {n k : Nat} {z s : AV} (e : h' (nameOr n s) = h (nameOr n s)) : dl0 (nameOr n s) (oClear h' k z s) = dl0 (nameOr n s) (oClear h k z s) := by
  unfold oClear
  split
  · split
    · exact dl0_here e
    · simp only [nameOr] at e ⊢
      rw [rowAt_same e]
      cases rowAt? h _ _ with
      | none => rfl
      | some r =>
        simp only [Option.bind_some]
        split
        · exact dl0_set rfl
        · rfl
    · rfl
  · rfl
theorem oMapPut_same {h h' : Hp} {n : Nat} {m k v : AV} (e : h' (nameOr n m) = h (nameOr n m)) : dl0 (nameOr n m) (oMapPut h' m k v) = dl0 (nameOr n m) (oMapPut h m k v) := by
  unfold oMapPut
  split
  · simp only [nameOr] at e ⊢
    rw [e]
    split
    · split
      · exact dl0_set rfl
      · rfl
    · rfl
  · rfl

theorem ev_heap {c : COp} {e : Env} {n : Nat} {h h' : Hp} (hh : ∀ m ∈ c.rd n e, h' m = h m) : c.ev n e h' = c.ev n e h := by
  cases c with
  | alloc z => exact oNew_same (hh n (by simp [COp.rd]))
  | box x => exact oNew_same (hh n (by simp [COp.rd]))
  | load agg k p => simp only [COp.ev]; rw [oLoad_same (by simpa [COp.rd] using hh)]
  | store k p v => exact oStore_same (hh _ (by simp [COp.rd]))
  | iaddrS k x i => simp only [COp.ev]; rw [oIndexS_same (by simpa [COp.rd] using hh)]
  | isnil x => simp only [COp.ev]; rw [oIsNil_same (by simpa [COp.rd] using hh)]
  | cstr x => simp only [COp.ev, oConvStr]; rw [oElems_same (by simpa [COp.rd] using hh)]
  | make k z x => exact oMake_same (hh n (by simp [COp.rd]))
  | mk0 k x => exact oMk0_same (hh n (by simp [COp.rd]))
  | lit k xs => exact oLit_same (hh n (by simp [COp.rd]))
  | slc k x lo hi m => simp only [COp.ev]; rw [oSlice_same (by simpa [COp.rd] using hh)]
  | app k s x =>
    simp only [COp.ev]
    rw [oElems_same (x := aEval e x) (fun m hm => hh m (by simp only [COp.rd]; exact List.mem_cons_of_mem _ hm))]
    cases oElems h (aEval e x) with
    | none => rfl
    | some ys => exact congrArg (frzD n) (oAppend_same (hh _ (by simp [COp.rd])))
  | appZ k z s x =>
    simp only [COp.ev]
    split
    · split
      · exact oAppend_same (s := .nl) (hh n (by simp [COp.rd]))
      · rfl
    · rfl
  | cpy k d x =>
    simp only [COp.ev]
    rw [oElems_same (x := aEval e x) (fun m hm => hh m (by simp only [COp.rd]; exact List.mem_cons_of_mem _ hm))]
    cases oElems h (aEval e x) with
    | none => rfl
    | some ys => exact oCopy_same (hh _ (by simp [COp.rd]))
  | clr k z d => exact oClear_same (hh _ (by simp [COp.rd]))
  | mnew =>
    have := hh n (by simp [COp.rd])
    simp only [COp.ev, oMapNew]
    rw [this]; exact dl_set rfl
  | mput m k v => exact oMapPut_same (hh _ (by simp [COp.rd]))
  | mget z m k => simp only [COp.ev]; rw [oMapGet_same (by simpa [COp.rd] using hh)]
  | _ => rfl

theorem dl_name {n : Nat} {r : Option (AV × Hp)} {v : AV} {d : Dl} (h : dl n r = some (v, d)) : d.map (·.1) = some n := by
  unfold dl at h; obtain ⟨_, _, h2⟩ := Option.map_eq_some_iff.1 h; cases h2; rfl
theorem dl0_name {n : Nat} {r : Option Hp} {v : AV} {d : Dl} (h : dl0 n r = some (v, d)) : d.map (·.1) = some n := by
  unfold dl0 at h; obtain ⟨_, _, h2⟩ := Option.map_eq_some_iff.1 h; cases h2; rfl
theorem pu_name {r : Option AV} {v : AV} {d : Dl} (h : pu r = some (v, d)) : d.map (·.1) = (none : Option Nat) := by
  rw [(pu_some h).2]; rfl
theorem frzD_no {n : Nat} (h : n ≠ 512000000029) (r : Option (AV × Dl)) : frzD n r = r := if_neg h
theorem frz_name {n m : Nat} {r : Option (AV × Hp)} {v : AV} {d : Dl} (h : frzD n (dl m r) = some (v, d)) : d.map (·.1) = some m := by
  unfold frzD at h
  split at h
  · obtain ⟨⟨v0, d0⟩, hd0, hf⟩ := Option.bind_eq_some_iff.1 h
    have hn := dl_name hd0
    simp only at hf
    split at hf
    · split at hf
      · cases hf; simpa using hn
      · cases hf
    · cases hf
  · exact dl_name h
theorem ev_name {c : COp} {e : Env} {n : Nat} {h : Hp} {v : AV} {d : Dl} (hv : c.ev n e h = some (v, d)) : d.map (·.1) = c.wr n e := by
  cases c <;> simp only [COp.ev] at hv <;> first
    | exact dl_name hv
    | exact dl0_name hv
    | exact frz_name hv
    | exact pu_name hv
    | (cases hv; rfl)
    | (split at hv <;> first | (cases hv; rfl) | (cases hv; done) | skip)
    | cases hv
  · split at hv
    · exact dl_name hv
    · cases hv
theorem wr_rd {c : COp} {e : Env} {n m : Nat} (h : c.wr n e = some m) : m ∈ c.rd n e := by
  cases c <;> simp only [COp.wr] at h <;> first | (cases h; done) | (cases h; simp [COp.rd])

end
end Go.Proofs.Ytihljollfbogeaa

/- A drawn region's operations in any allowed order come to the same as in the order of the text. No condition. -/
namespace Go.Proofs.Ytihljollfbogeaa
open Go Go.RowKit

section
variable {H : Hand} {I : Inl} {q : Nat}

/-- What a step of a drawn region is, so that it is the same in another state that looks the same to it. -/
def StepIs (H : Hand) (I : Inl) (q : Nat) (i : CIns) (s : St) (s1 : St) (ev : Ev) : Prop :=
  ∃ v : AV, s1.1 = edst s.1 i.dst v ∧
    match ev with
    | .nothing => s1.2 = s.2 ∧ ∀ s' : St, (∀ t ∈ i.looks, s'.1 t = s.1 t) → insD H I q i s' = some ((edst s'.1 i.dst v, s'.2), .nothing)
    | .simple rd wr => ∃ d : Dl, s1.2 = appD s.2 d ∧ d.map (·.1) = wr ∧ (∀ m, wr = some m → m ∈ rd) ∧
        ∀ s' : St, (∀ t ∈ i.looks, s'.1 t = s.1 t) → (∀ m ∈ rd, s'.2 m = s.2 m) → insD H I q i s' = some ((edst s'.1 i.dst v, appD s'.2 d), .simple rd wr)
    | .call h h1 => h = s.2 ∧ s1.2 = h1 ∧ ∀ s' : St, (∀ t ∈ i.looks, s'.1 t = s.1 t) → s'.2 = s.2 → insD H I q i s' = some ((edst s'.1 i.dst v, h1), .call h h1)

theorem fz0_same {h h' : Hp} {a : AV} (e : ∀ m ∈ nm0 a, h' m = h m) : fz0 h' a = fz0 h a := by
  cases a with
  | ref n ver i len => simp only [fz0]; rw [rowAt_same (e n (by simp [nm0]))]
  | _ => rfl
theorem fz1_same {h h' : Hp} {a : AV} (e : ∀ m ∈ nm1 h a, h' m = h m) : fz1 h' a = fz1 h a ∧ nm1 h' a = nm1 h a := by
  cases a with
  | ref n ver i len =>
    have e' : ∀ m ∈ nm0 (.ref n ver i len), h' m = h m := e
    have := fz0_same e'
    exact ⟨this, rfl⟩
  | ptr n ver i c =>
    have e1 := rowAt_same (ver := ver) (e n (by simp [nm1]))
    simp only [fz1, nm1] at e ⊢
    rw [e1]
    refine ⟨?_, rfl⟩
    cases hr : rowAt? h n ver with
    | none => rfl
    | some x =>
      obtain ⟨sz, els⟩ := x
      rw [hr] at e
      simp only at e ⊢
      cases hl : els[i]? with
      | none => rfl
      | some el =>
        rw [hl] at e
        simp only at e ⊢
        have : el.cells.map (fz0 h') = el.cells.map (fz0 h) := List.map_congr_left fun x hx => fz0_same fun m hm => e m (List.mem_cons_of_mem _ (List.mem_flatMap.2 ⟨x, hx, hm⟩))
        rw [this]
  | _ => exact ⟨rfl, rfl⟩
theorem flat_same {f f' : AV → AV} {g g' : AV → List Nat} {l : List AV} (h : ∀ x ∈ l, f' x = f x ∧ g' x = g x) : l.map f' = l.map f ∧ l.flatMap g' = l.flatMap g := by
  induction l with
  | nil => exact ⟨rfl, rfl⟩
  | cons x l ih =>
    obtain ⟨h1, h2⟩ := ih fun y hy => h y (List.mem_cons_of_mem _ hy)
    obtain ⟨h3, h4⟩ := h x List.mem_cons_self
    exact ⟨by rw [List.map_cons, List.map_cons, h3, h1], by rw [List.flatMap_cons, List.flatMap_cons, h4, h2]⟩
theorem fzA_same {h h' : Hp} {a : AV} (e : ∀ m ∈ nmA h a, h' m = h m) : fzA h' a = fzA h a ∧ nmA h' a = nmA h a := by
  cases a with
  | agg cs =>
    obtain ⟨h1, h2⟩ := flat_same (f := fz1 h) (f' := fz1 h') (g := nm1 h) (g' := nm1 h') (l := cs) fun x hx => fz1_same fun m hm => e m (List.mem_flatMap.2 ⟨x, hx, hm⟩)
    exact ⟨congrArg AV.agg h1, h2⟩
  | sc v => exact fz1_same (a := .sc v) e
  | tup vs => exact fz1_same (a := .tup vs) e
  | nl => exact fz1_same (a := .nl) e
  | imm xs => exact fz1_same (a := .imm xs) e
  | full xs => exact fz1_same (a := .full xs) e
  | ref n ver i len => exact fz1_same (a := .ref n ver i len) e
  | ptr n ver i c => exact fz1_same (a := .ptr n ver i c) e
  | ipt cs c => exact fz1_same (a := .ipt cs c) e
  | fn f a b => exact fz1_same (a := .fn f a b) e
  | mp n ver => exact fz1_same (a := .mp n ver) e
  | junk => exact fz1_same (a := .junk) e
theorem fz_same {h h' : Hp} {a : AV} (e : ∀ m ∈ nm h a, h' m = h m) : fz h' a = fz h a ∧ nm h' a = nm h a := by
  cases a with
  | tup cs =>
    obtain ⟨h1, h2⟩ := flat_same (f := fzA h) (f' := fzA h') (g := nmA h) (g' := nmA h') (l := cs) fun x hx => fzA_same fun m hm => e m (List.mem_flatMap.2 ⟨x, hx, hm⟩)
    exact ⟨congrArg AV.tup h1, h2⟩
  | sc v => exact fzA_same (a := .sc v) e
  | agg vs => exact fzA_same (a := .agg vs) e
  | nl => exact fzA_same (a := .nl) e
  | imm xs => exact fzA_same (a := .imm xs) e
  | full xs => exact fzA_same (a := .full xs) e
  | ref n ver i len => exact fzA_same (a := .ref n ver i len) e
  | ptr n ver i c => exact fzA_same (a := .ptr n ver i c) e
  | ipt cs c => exact fzA_same (a := .ipt cs c) e
  | fn f a b => exact fzA_same (a := .fn f a b) e
  | mp n ver => exact fzA_same (a := .mp n ver) e
  | junk => exact fzA_same (a := .junk) e

/-- A call, looked at. -/
theorem fz0_mp {h : Hp} {a : AV} : isMk (fz0 h a) = none := by
  unfold fz0
  split
  case h_5 => split <;> first | rfl | (split <;> rfl)
  all_goals rfl
theorem fz1_mp {h : Hp} {a : AV} : isMk (fz1 h a) = none := by
  unfold fz1
  split
  · split
    · split
      · split <;> rfl
      · rfl
    · rfl
  · exact fz0_mp
theorem fz_mp {h : Hp} {a : AV} : isMk (fz h a) = none := by
  unfold fz
  split
  · rfl
  · unfold fzA
    split
    · rfl
    · exact fz1_mp
theorem cloneA_only {k n : Nat} {h h' : Hp} {a v : AV} (hc : cloneA k n h a = some (v, h')) : Only h (n * 512 + 7) h' := by
  unfold cloneA at hc
  obtain ⟨xs, h1, h2⟩ := Option.bind_eq_some_iff.1 hc
  split at h2
  · cases h2; exact Only.set _ _ _
  · cases h2
theorem cloneA_same {k n : Nat} {h h' : Hp} {a : AV} (e : h' (n * 512 + 7) = h (n * 512 + 7)) (ea : ∀ m ∈ nm h a, h' m = h m) : cloneA k n h' a = (cloneA k n h a).map fun q => (q.1, hset h' (n * 512 + 7) (q.2 (n * 512 + 7))) := by
  have h1 : oElems h' a = oElems h a := by
    cases a with
    | ref m ver i len => exact oElems_same fun x hx => ea x hx
    | sc v => exact oElems_same fun x hx => by cases hx
    | _ => rfl
  unfold cloneA
  rw [h1]
  cases oElems h a with
  | none => rfl
  | some xs =>
    simp only [Option.bind_some]
    split
    · rw [e]; simp [hset]
    · rfl
theorem callD_is {n : Nat} {f : FuncId} {as : List AV} {s s2 : St} {v : AV} (h : callD H I n f as s = some (v, s2)) :
    match evC H n f as s s2.2 with
    | .nothing => False
    | .simple rd wr => ∃ d : Dl, s2.2 = appD s.2 d ∧ d.map (·.1) = wr ∧ (∀ m, wr = some m → m ∈ rd) ∧ ∀ s' : St, (∀ m ∈ rd, s'.2 m = s.2 m) → (callD H I n f as s').map (fun r => (r.1, r.2.2, evC H n f as s' r.2.2)) = some (v, appD s'.2 d, .simple rd wr)
    | .call h0 h1 => h0 = s.2 ∧ s2.2 = h1 ∧ ∀ s' : St, s'.2 = s.2 → (callD H I n f as s').map (fun r => (r.1, r.2.2, evC H n f as s' r.2.2)) = some (v, h1, .call h0 h1) := by
  unfold evC
  cases hH : H f (as.map (fz s.2)) with
  | some r =>
    simp only
    unfold callD at h
    rw [hH] at h
    simp only at h
    cases hmk : isMk r with
    | some k =>
      rw [hmk] at h
      simp only at h ⊢
      obtain ⟨⟨v1, h1⟩, hq, hq2⟩ := Option.map_eq_some_iff.1 h
      cases hq2
      unfold copyA at hq
      split at hq
      case h_2 => cases hq
      rename_i a
      refine ⟨some (n * 512 + 7, h1 (n * 512 + 7)), cloneA_only hq, rfl, fun m hm => by cases hm; exact List.mem_cons_self, fun s' hs' => ?_⟩
      have hs2 : ∀ m ∈ nm s.2 a, s'.2 m = s.2 m := fun m hm => hs' m (List.mem_cons_of_mem _ (List.mem_flatMap.2 ⟨a, List.mem_singleton.2 rfl, hm⟩))
      obtain ⟨h2, h3⟩ := fz_same hs2
      unfold callD
      simp only [List.map_cons, List.map_nil] at hH ⊢
      rw [h2, hH]
      simp only [hmk, copyA]
      rw [cloneA_same (hs' _ List.mem_cons_self) hs2, hq]
      simp [appD, h3]
    | none =>
    rw [hmk] at h
    simp only at h ⊢
    have hs2 : s2 = s ∧ v = r := by
      split at h
      · cases h; exact ⟨rfl, rfl⟩
      · split at h
        · cases h; exact ⟨rfl, rfl⟩
        · cases h
    obtain ⟨rfl, rfl⟩ := hs2
    refine ⟨none, rfl, rfl, (fun m hm => by cases hm), fun s' hs' => ?_⟩
    obtain ⟨h1, h2⟩ := flat_same (f := fz s2.2) (f' := fz s'.2) (g := nm s2.2) (g' := nm s'.2) (l := as) fun x hx => fz_same fun m hm => hs' m (List.mem_flatMap.2 ⟨x, hx, hm⟩)
    unfold callD
    rw [h1, hH]
    simp only [hmk]
    split at h
    · rename_i hsc
      simp [hsc, h2, appD]
    · rename_i hsc
      rw [if_neg hsc, h2]
      split at h
      · rename_i hnil
        simp [hnil, appD]
      · cases h
  | none =>
    simp only
    refine ⟨by trivial, by trivial, fun s' hs' => ?_⟩
    unfold callD at h ⊢
    rw [hs', hH]
    rw [hH] at h
    simp only at h ⊢
    obtain ⟨x, h1, h2⟩ := Option.map_eq_some_iff.1 h
    rw [h1]
    cases h2
    simp

/-- The operation alone. -/
theorem opD_same {n : Nat} {i : CIns} {s s' : St} {r : AV × Hp × Ev} (h : opD H I n i.op s = some r) (hl : ∀ t ∈ i.looks, s'.1 t = s.1 t) :
    match r.2.2 with
    | .nothing => False
    | .simple rd wr => ∃ d : Dl, r.2.1 = appD s.2 d ∧ d.map (·.1) = wr ∧ (∀ m, wr = some m → m ∈ rd) ∧ ((∀ m ∈ rd, s'.2 m = s.2 m) → opD H I n i.op s' = some (r.1, appD s'.2 d, .simple rd wr))
    | .call h h1 => h = s.2 ∧ r.2.1 = h1 ∧ (s'.2 = s.2 → opD H I n i.op s' = some (r.1, h1, .call h h1)) := by
  have hx := same_xs hl
  have plain : i.op.isCall = false → (opD H I n i.op s = ((i.op.ev n s.1 s.2).map fun q => (q.1, appD s.2 q.2, .simple (i.op.rd n s.1) (i.op.wr n s.1)))) ∧
      (opD H I n i.op s' = ((i.op.ev n s'.1 s'.2).map fun q => (q.1, appD s'.2 q.2, .simple (i.op.rd n s'.1) (i.op.wr n s'.1)))) := fun hc => by
    cases hop : i.op <;> rw [hop] at hc <;> first | exact ⟨rfl, rfl⟩ | (simp [COp.isCall] at hc)
  cases hc : i.op.isCall with
  | false =>
    obtain ⟨p1, p2⟩ := plain hc
    rw [p1] at h
    obtain ⟨⟨v, d⟩, h1, h2⟩ := Option.map_eq_some_iff.1 h
    cases h2
    refine ⟨d, rfl, ev_name h1, fun m hm => wr_rd hm, fun hrd => ?_⟩
    rw [p2, ev_env hx, ev_heap hrd, h1, (rd_env hx).1, (rd_env hx).2]
    rfl
  | true =>
    cases hop : i.op with
    | call f as =>
      rw [hop] at h hx
      simp only [opD] at h
      obtain ⟨⟨v, s2⟩, h1, h2⟩ := Option.map_eq_some_iff.1 h
      cases h2
      have key := callD_is h1
      have hmap := map_same (l := as) (by simpa [COp.xs] using hx)
      simp only [opD]
      rw [hmap]
      generalize evC H n f (as.map (aEval s.1)) s s2.2 = ev at key ⊢
      cases ev with
      | nothing => exact key
      | simple rd wr =>
        obtain ⟨d, k1, k2, k3, k4⟩ := key
        exact ⟨d, k1, k2, k3, fun hrd => k4 s' hrd⟩
      | call h0 h1' =>
        obtain ⟨k1, k2, k3⟩ := key
        exact ⟨k1, k2, fun hh => k3 s' hh⟩
    | callv x as =>
      rw [hop] at h hx
      simp only [opD] at h
      obtain ⟨⟨f, as'⟩, h0, h⟩ := Option.bind_eq_some_iff.1 h
      obtain ⟨⟨v, s2⟩, h1, h2⟩ := Option.map_eq_some_iff.1 h
      cases h2
      have key := callD_is h1
      simp only [opD]
      rw [hx x (by simp [COp.xs]), map_same (fun y hy => hx y (by simp only [COp.xs]; exact List.mem_cons_of_mem _ hy)), h0]
      simp only [Option.bind_some]
      generalize evC H n f as' s s2.2 = ev at key ⊢
      cases ev with
      | nothing => exact key
      | simple rd wr =>
        obtain ⟨d, k1, k2, k3, k4⟩ := key
        exact ⟨d, k1, k2, k3, fun hrd => k4 s' hrd⟩
      | call h0 h1' =>
        obtain ⟨k1, k2, k3⟩ := key
        exact ⟨k1, k2, fun hh => k3 s' hh⟩
    | _ => rw [hop] at hc; simp [COp.isCall] at hc

theorem step_is {i : CIns} {s s1 : St} {ev : Ev} (h : insD H I q i s = some (s1, ev)) : StepIs H I q i s s1 ev := by
  -- when the operation is taken
  have taken : ∀ (r : AV × Hp × Ev), opD H I (nameOf q i.dst) i.op s = some r → (∀ s' : St, (∀ t ∈ i.looks, s'.1 t = s.1 t) → insD H I q i s' = (opD H I (nameOf q i.dst) i.op s').map fun r => ((edst s'.1 i.dst r.1, r.2.1), r.2.2)) →
      StepIs H I q i s (edst s.1 i.dst r.1, r.2.1) r.2.2 := by
    intro r hr hs'
    refine ⟨r.1, rfl, ?_⟩
    have key := fun s' hl => opD_same (s' := s') hr hl
    obtain ⟨v, h1, ev⟩ := r
    cases ev with
    | nothing => exact absurd (key s (fun _ _ => rfl)) id
    | simple rd wr =>
      obtain ⟨d, k1, k2, k3, _⟩ := key s (fun _ _ => rfl)
      refine ⟨d, k1, k2, k3, fun s' hl hrd => ?_⟩
      obtain ⟨d', l1, l2, l3, l4⟩ := key s' hl
      obtain ⟨d0, m1, m2, m3, m4⟩ := key s (fun _ _ => rfl)
      have e' := l4 hrd
      rw [hs' s' hl, e']
      simp only [Option.map_some]
      -- the change is the same one
      have : appD s'.2 d' = appD s'.2 d := by
        simp only at k1 l1
        rw [k1] at l1
        cases d with
        | none => cases d' with
          | none => rfl
          | some x => rw [← k2] at l2; cases l2
        | some y => cases d' with
          | none => rw [← k2] at l2; cases l2
          | some x =>
            obtain ⟨a, xa⟩ := x
            obtain ⟨b, yb⟩ := y
            rw [← k2] at l2
            cases l2
            have := congrFun l1 a
            simp [appD, hset] at this
            rw [this]
      rw [this]
    | call h h1' =>
      obtain ⟨k1, k2, _⟩ := key s (fun _ _ => rfl)
      refine ⟨k1, k2, fun s' hl hh => ?_⟩
      obtain ⟨l1, l2, l3⟩ := key s' hl
      rw [hs' s' hl, l3 hh]
      rfl
  cases hg : i.guard with
  | none =>
    have hs' : ∀ s' : St, insD H I q i s' = (opD H I (nameOf q i.dst) i.op s').map fun r => ((edst s'.1 i.dst r.1, r.2.1), r.2.2) := fun s' => by unfold insD; rw [hg]
    rw [hs'] at h
    obtain ⟨r, h1, h2⟩ := Option.map_eq_some_iff.1 h
    cases h2
    exact taken r h1 (fun s' _ => hs' s')
  | some gw =>
    obtain ⟨g, want⟩ := gw
    have hlook : g ∈ i.looks := List.mem_append_right _ (by rw [hg]; simp)
    unfold insD at h
    rw [hg] at h
    simp only at h
    split at h
    · rename_i b hb
      split at h
      · rename_i hbw
        obtain ⟨r, h1, h2⟩ := Option.map_eq_some_iff.1 h
        cases h2
        refine taken r h1 (fun s' hl => ?_)
        unfold insD
        rw [hg]
        simp only
        rw [hl g hlook, hb]
        simp only [if_pos hbw]
      · rename_i hbw
        cases h
        refine ⟨.tup [], rfl, rfl, fun s' hl => ?_⟩
        unfold insD
        rw [hg]
        simp only
        rw [hl g hlook, hb]
        simp only [if_neg hbw]
    · rename_i hb
      cases h
      refine ⟨.tup [], rfl, rfl, fun s' hl => ?_⟩
      unfold insD
      rw [hg]
      simp only
      rw [hl g hlook, hb]
    · cases h

/-! ### Two steps change places -/
/-- Neither looks at what the other makes. -/
def slotsApart (x y : CIns) : Bool :=
  (match x.dst with | some d => !y.looks.contains d && y.dst != some d | none => true) &&
  (match y.dst with | some d => !x.looks.contains d | none => true)

theorem apart_spec {x y : CIns} (h : slotsApart x y = true) : (∀ d, x.dst = some d → d ∉ y.looks) ∧ (∀ d, x.dst = some d → y.dst ≠ some d) ∧ (∀ d, y.dst = some d → d ∉ x.looks) := by
  refine ⟨fun d hd => ?_, fun d hd => ?_, fun d hd => ?_⟩ <;> simp [slotsApart, hd] at h
  · exact h.1.1
  · exact h.1.2
  · exact h.2
theorem edst_looks {e : Env} {x y : CIns} {v : AV} (h : ∀ d, x.dst = some d → d ∉ y.looks) : ∀ t ∈ y.looks, edst e x.dst v t = e t := fun t ht => by
  cases hd : x.dst with
  | none => rfl
  | some d =>
    simp only [edst, eset]
    exact if_neg (fun (e : t = d) => h d hd (by rw [← e]; exact ht))
theorem edst_comm {e : Env} {a b : Option Nat} {v u : AV} (h : ∀ d, a = some d → b ≠ some d) : edst (edst e a v) b u = edst (edst e b u) a v := by
  cases a with
  | none => rfl
  | some a => cases b with
    | none => rfl
    | some b =>
      have hne : a ≠ b := fun e => h a rfl (by rw [e])
      funext t
      simp only [edst, eset]
      by_cases h1 : t = a
      · subst h1; simp [hne]
      · simp [h1]
theorem appD_at {h : Hp} {d : Dl} {m : Nat} (hm : d.map (·.1) ≠ some m) : appD h d m = h m := by
  cases d with
  | none => rfl
  | some x =>
    obtain ⟨n, y⟩ := x
    simp only [appD, hset]
    rw [if_neg (fun e => hm (by simp [e]))]
theorem appD_comm {h : Hp} {d d' : Dl} (hne : ∀ m, d.map (·.1) = some m → d'.map (·.1) ≠ some m) : appD (appD h d) d' = appD (appD h d') d := by
  cases d with
  | none => rfl
  | some x => cases d' with
    | none => rfl
    | some y =>
      obtain ⟨a, xa⟩ := x
      obtain ⟨b, yb⟩ := y
      have : a ≠ b := fun e => hne a rfl (by simp [e])
      funext t
      simp only [appD, hset]
      by_cases h1 : t = a
      · subst h1; simp [this]
      · simp [h1]

theorem swap {x y : CIns} {s s1 s2 : St} {ex ey : Ev} (hx : insD H I q x s = some (s1, ex)) (hy : insD H I q y s1 = some (s2, ey)) (ha : slotsApart x y = true) (hi : indep ex ey = true) :
    ∃ s1', insD H I q y s = some (s1', ey) ∧ insD H I q x s1' = some (s2, ex) := by
  obtain ⟨a1, a2, a3⟩ := apart_spec ha
  obtain ⟨vx, x1, x2⟩ := step_is hx
  obtain ⟨vy, y1, y2⟩ := step_is hy
  have ly : ∀ t ∈ y.looks, s.1 t = s1.1 t := fun t ht => by rw [x1, edst_looks a1 t ht]
  have lx : ∀ (h : Hp) (t : Nat), t ∈ x.looks → ((edst s.1 y.dst vy, h) : St).1 t = s.1 t := fun h t ht => edst_looks a3 t ht
  have env : edst (edst s.1 y.dst vy) x.dst vx = s2.1 := by rw [y1, x1]; exact (edst_comm a2).symm
  have fin : ∀ h : Hp, h = s2.2 → ((edst (edst s.1 y.dst vy) x.dst vx, h) : St) = s2 := fun h hh => by rw [env, hh]
  cases ex with
  | nothing =>
    obtain ⟨x2, x3⟩ := x2
    cases ey with
    | nothing =>
      obtain ⟨y2, y3⟩ := y2
      refine ⟨_, y3 s ly, ?_⟩
      rw [x3 _ (lx _)]
      rw [fin _ (by rw [y2, x2])]
    | simple rd wr =>
      obtain ⟨d, y2, y3, y4, y5⟩ := y2
      refine ⟨_, y5 s ly (fun m _ => by rw [x2]), ?_⟩
      rw [x3 _ (lx _), fin _ (by rw [y2, x2])]
    | call h h1 =>
      obtain ⟨y2, y3, y4⟩ := y2
      refine ⟨_, y4 s ly x2.symm, ?_⟩
      rw [x3 _ (lx _), fin _ (by rw [y3])]
  | simple rdx wrx =>
    obtain ⟨dx, x2, x3, x4, x5⟩ := x2
    cases ey with
    | nothing =>
      obtain ⟨y2, y3⟩ := y2
      refine ⟨_, y3 s ly, ?_⟩
      rw [x5 _ (lx _) (fun _ _ => rfl), fin _ (by rw [y2, x2])]
    | simple rdy wry =>
      obtain ⟨dy, y2, y3, y4, y5⟩ := y2
      have h1 : ∀ m, wrx = some m → m ∉ rdy := fun m hm => by
        simp only [indep, hm, Bool.and_eq_true] at hi
        simpa using hi.1
      have h2 : ∀ m, wry = some m → m ∉ rdx := fun m hm => by
        simp only [indep, hm, Bool.and_eq_true] at hi
        simpa using hi.2
      refine ⟨_, y5 s ly (fun m hm => ?_), ?_⟩
      · rw [x2, appD_at]
        rw [x3]
        exact fun e => h1 m e hm
      · rw [x5 _ (lx _) (fun m hm => ?_), fin]
        · rw [y2, x2]
          refine (appD_comm fun m hm e => ?_).symm
          rw [x3] at hm
          rw [y3] at e
          exact h1 m hm (y4 m e)
        · refine appD_at (fun e => ?_)
          rw [y3] at e
          exact h2 m e hm
    | call h h1 =>
      obtain ⟨y2, y3, y4⟩ := y2
      cases wrx with
      | some m => simp [indep] at hi
      | none =>
        have hd : dx = none := by cases dx <;> first | rfl | cases x3
        subst hd
        have hh : s.2 = s1.2 := x2.symm
        refine ⟨_, y4 s ly hh, ?_⟩
        simp only [indep] at hi
        replace hi := quick_or hi
        rw [x5 _ (lx _) (fun m hm => by show h1 m = s.2 m; rw [hi m hm, y2, ← hh]), fin _ (by rw [y3]; rfl)]
  | call h h1 =>
    obtain ⟨x2, x3, x4⟩ := x2
    cases ey with
    | nothing =>
      obtain ⟨y2, y3⟩ := y2
      refine ⟨_, y3 s ly, ?_⟩
      rw [x4 _ (lx _) rfl, fin _ (by rw [y2, x3])]
    | simple rdy wry =>
      obtain ⟨dy, y2, y3, y4, y5⟩ := y2
      cases wry with
      | some m => simp [indep] at hi
      | none =>
        have hd : dy = none := by cases dy <;> first | rfl | cases y3
        subst hd
        simp only [indep] at hi
        replace hi := quick_or hi
        refine ⟨_, y5 s ly (fun m hm => by rw [x3, hi m hm, x2]), ?_⟩
        rw [x4 _ (lx (appD s.2 none)) rfl, fin _ (by rw [y2, x3]; rfl)]
    | call h' h1' => simp [indep] at hi

/-- A step to the front. -/
theorem front {y : CIns} {ey : Ev} : ∀ {l1 : List (CIns × Ev)} {l2 : List CIns} {e2 : List Ev} {s s' : St}, drawA H I q (l1.map (·.1) ++ y :: l2) s = some (s', l1.map (·.2) ++ ey :: e2) →
    (∀ x ∈ l1, slotsApart x.1 y = true ∧ indep x.2 ey = true) → ∃ s1, insD H I q y s = some (s1, ey) ∧ drawA H I q (l1.map (·.1) ++ l2) s1 = some (s', l1.map (·.2) ++ e2)
  | [], l2, e2, s, s', h, _ => by
    simp only [List.map_nil, List.nil_append, drawA] at h ⊢
    obtain ⟨⟨s1, ev⟩, h1, h2⟩ := Option.bind_eq_some_iff.1 h
    obtain ⟨⟨s2, evs⟩, h3, h4⟩ := Option.map_eq_some_iff.1 h2
    cases h4
    exact ⟨s1, h1, h3⟩
  | x :: l1, l2, e2, s, s', h, hi => by
    simp only [List.map_cons, List.cons_append, drawA] at h ⊢
    obtain ⟨⟨s1, ev⟩, h1, h2⟩ := Option.bind_eq_some_iff.1 h
    obtain ⟨⟨s2, evs⟩, h3, h4⟩ := Option.map_eq_some_iff.1 h2
    simp only [Prod.mk.injEq, List.cons.injEq] at h4
    obtain ⟨rfl, rfl, h5⟩ := h4
    rw [h5] at h3
    obtain ⟨s3, h6, h7⟩ := front h3 (fun z hz => hi z (List.mem_cons_of_mem _ hz))
    obtain ⟨i1, i2⟩ := hi x (by simp)
    obtain ⟨s1', h8, h9⟩ := swap h1 h6 i1 i2
    refine ⟨s1', h8, ?_⟩
    rw [h9]
    simp only [Option.bind_some]
    rw [h7]
    rfl

theorem callD_A {n : Nat} {f : FuncId} {as : List AV} {s : St} {r : AV × St} (h : callD H I n f as s = some r) : callA H I n f as s = some r ∧ r.2.1 = s.1 := by
  unfold callD at h
  unfold callA
  split at h
  · rename_i rr hr
    cases hmk : isMk rr with
    | some k =>
      rw [hmk] at h
      refine ⟨h, ?_⟩
      obtain ⟨_, _, h2⟩ := Option.map_eq_some_iff.1 h
      cases h2
      rfl
    | none =>
    rw [hmk] at h
    simp only at h ⊢
    by_cases hs : rr.scalar = true
    · rw [if_pos hs] at h ⊢
      cases h
      exact ⟨rfl, rfl⟩
    · rw [if_neg hs] at h ⊢
      split at h
      · rename_i hn
        cases h
        exact ⟨by first | rfl | rw [hn], rfl⟩
      · cases h
  · rename_i hr
    refine ⟨h, ?_⟩
    obtain ⟨_, _, h2⟩ := Option.map_eq_some_iff.1 h
    cases h2
    rfl
theorem opD_A {n : Nat} {c : COp} {s : St} {r : AV × Hp × Ev} (h : opD H I n c s = some r) : opA H I n c s = some (r.1, (s.1, r.2.1)) := by
  unfold opD at h
  split at h
  · obtain ⟨x, h1, rfl⟩ := Option.map_eq_some_iff.1 h
    obtain ⟨h2, h3⟩ := callD_A h1
    simp only [opA]
    rw [h2]
    obtain ⟨v, e, hh⟩ := x
    simp only at h3
    rw [h3]
  · obtain ⟨y, h0, h⟩ := Option.bind_eq_some_iff.1 h
    obtain ⟨x, h1, rfl⟩ := Option.map_eq_some_iff.1 h
    obtain ⟨h2, h3⟩ := callD_A h1
    simp only [opA, h0, Option.bind_some]
    rw [h2]
    obtain ⟨v, e, hh⟩ := x
    simp only at h3
    rw [h3]
  · rename_i h1 h2
    obtain ⟨x, h3, rfl⟩ := Option.map_eq_some_iff.1 h
    unfold opA
    split
    · exact absurd rfl (h1 _ _)
    · exact absurd rfl (h2 _ _)
    · rw [h3]; rfl
theorem insD_A {i : CIns} {s s1 : St} {ev : Ev} (h : insD H I q i s = some (s1, ev)) : insA H I q i s = some s1 := by
  unfold insD at h
  unfold insA
  split at h
  · rename_i hg
    obtain ⟨r, h1, h2⟩ := Option.map_eq_some_iff.1 h
    cases h2
    rw [opD_A h1]
    rfl
  · rename_i g want hg
    split at h
    · rename_i b hb
      by_cases hbw : b = want
      · rw [if_pos hbw] at h ⊢
        obtain ⟨r, h1, h2⟩ := Option.map_eq_some_iff.1 h
        cases h2
        rw [opD_A h1]
        rfl
      · rw [if_neg hbw] at h ⊢
        cases h
        rfl
    · cases h
      simp only
    · cases h

end
end Go.Proofs.Ytihljollfbogeaa

/- Drawn regions of the small language are those of the program. No condition. -/
namespace Go.Proofs.Ytihljollfbogeaa
open Go Go.RowKit

/-- What an operation waits for. -/
def edgesOf (o : Oper) : List Nat := (o.after.toList.filter (Region.binds .any)).map (·.on)
def addTo (x : Nat) (l : List Nat) : List Nat := if l.contains x then l else x :: l
/-- Whatever comes before, for each operation. -/
def ancTab : List (List Nat) → List (List Nat) → List (List Nat)
  | acc, [] => acc
  | acc, es :: r => ancTab (acc ++ [es.foldr (fun e l => addTo e ((acc.getD e []).foldr addTo l)) []]) r
def anc (tb : List (List Nat)) (j i : Nat) : Bool := (tb.getD i []).contains j
def ancOk (es tb : List (List Nat)) : Bool :=
  (List.range tb.length).all fun i => (tb.getD i []).all fun j => (es.getD i []).any fun e => e == j || (decide (e < i) && anc tb j e)
def edgesLt (es : List (List Nat)) : Bool := (List.range es.length).all fun i => (es.getD i []).all fun e => decide (e < i)
def unord (tb : List (List Nat)) (n : Nat) : List (Nat × Nat) := (List.range n).flatMap fun i => ((List.range i).filter fun j => !anc tb j i).map fun j => (j, i)

/-- Looks at no block. -/
def COp.quiet : COp → Bool
  | .mv _ | .pick .. | .inv _ | .bin .. | .chk _ | .faddr .. | .iaddrA .. | .field .. | .ext .. | .cint .. | .build .. | .len _ | .cap _ | .mn .. | .mx .. | .fn .. => true
  | _ => false

def loudPair (cs : List CIns) (p : Nat × Nat) : Bool := match cs[p.1]?, cs[p.2]? with | some x, some y => !x.op.quiet && !y.op.quiet | _, _ => false
def apartPair (cs : List CIns) (p : Nat × Nat) : Bool := match cs[p.1]?, cs[p.2]? with | some x, some y => slotsApart x y | _, _ => false

def compDraw (P : Program) (nt : Nat) (ops : List Oper) : Option CC :=
  match compAll P nt ops ops with
  | none => none
  | some cs =>
    if (ancOk (ops.map edgesOf) (ancTab [] (ops.map edgesOf)) && edgesLt (ops.map edgesOf) && (unord (ancTab [] (ops.map edgesOf)) cs.length).all (apartPair cs)) = true
    then some (.draw cs ((unord (ancTab [] (ops.map edgesOf)) cs.length).filter (loudPair cs))) else none

section
variable {P : Program} {w : World} {α : Al} {base nt : Nat} {h : Hp} {H : Hand} {I : Inl} {q : Nat}

theorem compAll_get {ops : List Oper} : ∀ {l : List Oper} {cs : List CIns}, compAll P nt ops l = some cs → cs.length = l.length ∧ ∀ (i : Nat) (o : Oper), l[i]? = some o → ∃ c, cs[i]? = some c ∧ compIns P nt ops o = some c
  | [], cs, h => by cases h; exact ⟨rfl, fun i o h => by simp at h⟩
  | o :: l, cs, h => by
    unfold compAll at h
    split at h
    · rename_i c cs' h1 h2
      cases h
      obtain ⟨h3, h4⟩ := compAll_get h2
      refine ⟨by simp [h3], fun i o' ho => ?_⟩
      cases i with
      | zero => simp at ho; subst ho; exact ⟨c, rfl, h1⟩
      | succ i => exact h4 i o' (by simpa using ho)
    · cases h

theorem quiet_rd {c : COp} {n : Nat} {e : Env} (hq : c.quiet = true) : c.isCall = false ∧ c.rd n e = [] ∧ c.wr n e = none := by
  cases c <;> first | exact ⟨rfl, rfl, rfl⟩ | (simp [COp.quiet] at hq)
theorem indep_quiet {x : Ev} : indep (.simple [] none) x = true ∧ indep x (.simple [] none) = true := by
  cases x with
  | nothing => exact ⟨rfl, rfl⟩
  | simple r w => constructor <;> cases w <;> simp [indep]
  | call h h' => constructor <;> simp [indep, quick]
theorem indep_nothing {x : Ev} : indep .nothing x = true ∧ indep x .nothing = true := by
  cases x with
  | nothing => exact ⟨rfl, rfl⟩
  | simple r w => exact ⟨rfl, by cases w <;> rfl⟩
  | call h h' => exact ⟨rfl, rfl⟩
theorem quiet_ev {i : CIns} {s s1 : St} {ev : Ev} (hq : i.op.quiet = true) (h : insD H I q i s = some (s1, ev)) : ev = .nothing ∨ ev = .simple [] none := by
  have op : ∀ r, opD H I (nameOf q i.dst) i.op s = some r → r.2.2 = .simple [] none := fun r hr => by
    obtain ⟨hc, h1, h2⟩ := quiet_rd (n := nameOf q i.dst) (e := s.1) hq
    have : opD H I (nameOf q i.dst) i.op s = ((i.op.ev (nameOf q i.dst) s.1 s.2).map fun q' => (q'.1, appD s.2 q'.2, .simple (i.op.rd (nameOf q i.dst) s.1) (i.op.wr (nameOf q i.dst) s.1))) := by
      cases hop : i.op <;> rw [hop] at hc <;> first | rfl | (simp [COp.isCall] at hc)
    rw [this, h1, h2] at hr
    obtain ⟨y, _, h4⟩ := Option.map_eq_some_iff.1 hr
    rw [← h4]
  unfold insD at h
  split at h
  · obtain ⟨r, h1, h2⟩ := Option.map_eq_some_iff.1 h
    cases h2
    exact .inr (op r h1)
  · split at h
    · split at h
      · obtain ⟨r, h1, h2⟩ := Option.map_eq_some_iff.1 h
        cases h2
        exact .inr (op r h1)
      · cases h; exact .inl rfl
    · cases h; exact .inl rfl
    · cases h

/-- A state's drawn run gives each operation what it did. -/
theorem drawA_get : ∀ {cs : List CIns} {s s' : St} {evs : List Ev}, drawA H I q cs s = some (s', evs) → evs.length = cs.length ∧ ∀ (i : Nat) (c : CIns) (ev : Ev), cs[i]? = some c → evs[i]? = some ev → ∃ s1 s2, insD H I q c s1 = some (s2, ev)
  | [], s, s', evs, h => by cases h; exact ⟨rfl, fun i c ev h => by simp at h⟩
  | c :: cs, s, s', evs, h => by
    simp only [drawA] at h
    obtain ⟨⟨s1, ev⟩, h1, h2⟩ := Option.bind_eq_some_iff.1 h
    obtain ⟨⟨s2, evs'⟩, h3, h4⟩ := Option.map_eq_some_iff.1 h2
    cases h4
    obtain ⟨h5, h6⟩ := drawA_get h3
    refine ⟨by simp [h5], fun i c' ev' hc he => ?_⟩
    cases i with
    | zero => simp at hc he; subst hc; subst he; exact ⟨s, s1, h1⟩
    | succ i => exact h6 i c' ev' (by simpa using hc) (by simpa using he)

/-- What was listed is closed: whoever comes before something listed is listed. -/
theorem listed_anc {es tb : List (List Nat)} {L : Nat → Prop} (hok : ancOk es tb = true) (hcl : ∀ k, L k → ∀ e ∈ es.getD k [], L e) : ∀ (i j : Nat), anc tb j i = true → (∀ e ∈ es.getD i [], L e) → L j := by
  intro i
  induction i using Nat.strongRecOn with
  | _ i ih =>
    intro j ha hl
    have hlt : i < tb.length := by
      rcases Nat.lt_or_ge i tb.length with h | h
      · exact h
      · unfold anc at ha
        rw [List.getD_eq_getElem?_getD, List.getElem?_eq_none h] at ha
        simp at ha
    have h1 := List.all_eq_true.1 hok i (List.mem_range.2 hlt)
    have h2 := List.all_eq_true.1 h1 j (by simpa [anc] using ha)
    obtain ⟨e, he, h3⟩ := List.any_eq_true.1 h2
    simp only [Bool.or_eq_true, beq_iff_eq, Bool.and_eq_true, decide_eq_true_eq] at h3
    rcases h3 with rfl | ⟨h3, h4⟩
    · exact hl _ he
    · exact ih e h3 j h4 (hcl e (hl e he))

theorem any_ok (hH : HandOk P H) (hI : InlOk P I) {ops : Array Oper} {es tb : List (List Nat)} (hes : es = ops.toList.map edgesOf) (hok : ancOk es tb = true) (hlt : edgesLt es = true) {Q : Exit → Act → World → Prop} :
    ∀ (fuel : Nat) (listed : Array Bool) (rem : List (Nat × CIns × Ev)) (s s' : St) (a : Act) (w : World) (α : Al), rem.length = fuel → listed.size = ops.size →
      (∀ r ∈ rem, ∃ o, ops[r.1]? = some o ∧ compIns P nt ops.toList o = some r.2.1) →
      (∀ k, k ∈ rem.map (·.1) ↔ k < ops.size ∧ listed.getD k true = false) →
      rem.Pairwise (fun x y => x.1 < y.1 ∧ (anc tb x.1 y.1 = true ∨ (slotsApart x.2.1 y.2.1 = true ∧ indep x.2.2 y.2.2 = true))) →
      (∀ k, listed.getD k false = true → ∀ e ∈ es.getD k [], listed.getD e false = true) →
      drawA H I q (rem.map (·.2.1)) s = some (s', rem.map (·.2.2)) → Inv nt base s a w α → (∀ a' w' α', Inv nt base s' a' w' α' → Ext w α w' α' → Q .normal a' w') →
      wpAnyIn Fence.wide 0 P .any ops Q fuel listed a w := by
  have rdy : ∀ (listed : Array Bool) (i : Nat), i ∈ Region.ready .any ops listed ↔ i < ops.size ∧ listed.getD i true = false ∧ ∀ e ∈ es.getD i [], listed.getD e false = true := by
    intro listed i
    unfold Region.ready
    rw [List.mem_filter, List.mem_range]
    constructor
    · rintro ⟨h1, h2⟩
      simp only [Bool.and_eq_true, Bool.not_eq_true'] at h2
      refine ⟨h1, h2.1, fun e he => ?_⟩
      have ho : ops[i]? = some ops[i] := by simp [h1]
      have h3 := h2.2
      rw [ho] at h3
      simp only [Option.map_some, Option.getD_some] at h3
      rw [hes, List.getD_eq_getElem?_getD, List.getElem?_map] at he
      simp only [Array.getElem?_toList, ho, Option.map_some, Option.getD_some, edgesOf] at he
      obtain ⟨e', he', rfl⟩ := List.mem_map.1 he
      obtain ⟨he1, he2⟩ := List.mem_filter.1 he'
      have := Array.all_eq_true_iff_forall_mem.1 h3 e' (Array.mem_toList_iff.1 he1)
      simpa [he2] using this
    · rintro ⟨h1, h2, h3⟩
      refine ⟨h1, ?_⟩
      simp only [Bool.and_eq_true, Bool.not_eq_true']
      refine ⟨h2, ?_⟩
      have ho : ops[i]? = some ops[i] := by simp [h1]
      rw [ho]
      simp only [Option.map_some, Option.getD_some]
      refine Array.all_eq_true_iff_forall_mem.2 fun e he => ?_
      cases hb : Region.binds .any e with
      | false => simp
      | true =>
        simp only [Bool.not_true, Bool.false_or]
        refine h3 e.on ?_
        rw [hes, List.getD_eq_getElem?_getD, List.getElem?_map]
        simp only [Array.getElem?_toList, ho, Option.map_some, Option.getD_some, edgesOf]
        exact List.mem_map.2 ⟨e, List.mem_filter.2 ⟨Array.mem_toList_iff.2 he, hb⟩, rfl⟩
  intro fuel
  induction fuel with
  | zero =>
    intro listed rem s s' a w α hl hsz hops hmem hpw hcl hd inv hQ
    have hr : rem = [] := List.eq_nil_of_length_eq_zero hl
    subst hr
    cases hd
    refine ⟨?_, hQ a w α inv (Ext.refl w α)⟩
    refine List.eq_nil_iff_forall_not_mem.2 fun i hi => ?_
    obtain ⟨h1, h2, _⟩ := (rdy listed i).1 hi
    have := (hmem i).2 ⟨h1, h2⟩
    simp at this
  | succ fuel ih =>
    intro listed rem s s' a w α hl hsz hops hmem hpw hcl hd inv hQ
    refine ⟨fun hnil => ?_, fun i hi => ?_⟩
    · -- the first one that is left could come up
      exfalso
      cases rem with
      | nil => simp at hl
      | cons x rest =>
        have hx := (hmem x.1).1 (by simp)
        have : x.1 ∈ Region.ready .any ops listed := (rdy listed x.1).2 ⟨hx.1, hx.2, fun e he => ?_⟩
        · rw [hnil] at this; cases this
        · have h1 : x.1 < es.length := by rw [hes]; simpa using hx.1
          have h2 := List.all_eq_true.1 (List.all_eq_true.1 hlt x.1 (List.mem_range.2 h1)) e he
          have h3 : e < x.1 := of_decide_eq_true h2
          have h4 : e < listed.size := by omega
          cases hb : listed[e] with
          | true => simp [Array.getD, h4, hb]
          | false =>
            exfalso
            have h5 := (hmem e).2 ⟨by omega, by simp [Array.getD, h4, hb]⟩
            simp only [List.map_cons, List.mem_cons] at h5
            rcases h5 with h5 | h5
            · omega
            · obtain ⟨y, hy, h6⟩ := List.mem_map.1 h5
              have := (List.rel_of_pairwise_cons hpw hy).1
              omega
    · obtain ⟨h1, h2, h3⟩ := (rdy listed i).1 hi
      have hin := (hmem i).2 ⟨h1, h2⟩
      obtain ⟨y, hy, hyi⟩ := List.mem_map.1 hin
      obtain ⟨l1, l2, rfl⟩ := List.append_of_mem hy
      have hpw' := List.pairwise_append.1 hpw
      have hbefore : ∀ x ∈ l1, slotsApart x.2.1 y.2.1 = true ∧ indep x.2.2 y.2.2 = true := fun x hx => by
        have hxy := hpw'.2.2 x hx y (by simp)
        rcases hxy.2 with ha | ha
        · exfalso
          have hl := listed_anc (L := fun k => listed.getD k false = true) hok hcl y.1 x.1 ha (by rw [hyi]; exact h3)
          have hu := ((hmem x.1).1 (List.mem_map.2 ⟨x, List.mem_append_left _ hx, rfl⟩)).2
          have hxs : x.1 < listed.size := by
            have := ((hmem x.1).1 (List.mem_map.2 ⟨x, List.mem_append_left _ hx, rfl⟩)).1
            omega
          simp only [Array.getD, hxs, dite_true] at hl hu
          rw [hl] at hu
          cases hu
        · exact ha
      obtain ⟨o, ho, hco⟩ := hops y hy
      rw [hyi] at ho
      have hd' : drawA H I q ((l1.map (·.2)).map (·.1) ++ y.2.1 :: l2.map (·.2.1)) s = some (s', (l1.map (·.2)).map (·.2) ++ y.2.2 :: l2.map (·.2.2)) := by
        have e1 : (l1.map (·.2)).map (·.1) = l1.map (·.2.1) := by simp
        have e2 : (l1.map (·.2)).map (·.2) = l1.map (·.2.2) := by simp
        rw [e1, e2]
        simpa using hd
      obtain ⟨s1, hs1, hd1⟩ := front hd' (fun z hz => by
        obtain ⟨x, hx, rfl⟩ := List.mem_map.1 hz
        exact hbefore x hx)
      refine ins_then hH hI ho hco (insD_A hs1) inv fun a' w' α' inv' ext => ?_
      have hinc : ∀ k, k ∈ (l1 ++ l2).map (·.1) ↔ k ∈ (l1 ++ y :: l2).map (·.1) ∧ k ≠ i := by
        intro k
        have hne1 : ∀ x ∈ l1, x.1 ≠ i := fun x hx => by have := (hpw'.2.2 x hx y (by simp)).1; omega
        have hne2 : ∀ x ∈ l2, x.1 ≠ i := fun x hx => by have := (List.rel_of_pairwise_cons hpw'.2.1 hx).1; omega
        simp only [List.map_append, List.map_cons, List.mem_append, List.mem_cons]
        constructor
        · rintro (h | h)
          · obtain ⟨x, hx, rfl⟩ := List.mem_map.1 h; exact ⟨.inl h, hne1 x hx⟩
          · obtain ⟨x, hx, rfl⟩ := List.mem_map.1 h; exact ⟨.inr (.inr h), hne2 x hx⟩
        · rintro ⟨h | h | h, hk⟩
          · exact .inl h
          · exact absurd (h.trans hyi) hk
          · exact .inr h
      have his : i < listed.size := by omega
      have hset : ∀ (k : Nat) (d : Bool), (listed.setIfInBounds i true).getD k d = if k = i then true else listed.getD k d := fun k d => by
        rw [Array.getD_eq_getD_getElem?, Array.getD_eq_getD_getElem?, Array.getElem?_setIfInBounds]
        by_cases e : k = i
        · subst e; simp [his]
        · rw [if_neg (Ne.symm e), if_neg e]
      refine ih (listed.setIfInBounds i true) (l1 ++ l2) s1 s' a' w' α' (by simp at hl ⊢; omega) (by simpa using hsz) (fun r hr => hops r (by
          rcases List.mem_append.1 hr with h | h
          · exact List.mem_append_left _ h
          · exact List.mem_append_right _ (List.mem_cons_of_mem _ h))) (fun k => ?_) ?_ (fun k hk e he => ?_) ?_ inv' (fun a'' w'' α'' i'' e'' => hQ a'' w'' α'' i'' (ext.trans e''))
      · rw [hinc k, hmem k, hset]
        by_cases e : k = i
        · subst e; simp
        · simp [e]
      · exact hpw.sublist (List.Sublist.append_left (List.sublist_cons_self y l2) l1)
      · rw [hset]
        rw [hset] at hk
        by_cases e1 : e = i
        · rw [if_pos e1]
        · rw [if_neg e1]
          by_cases e2 : k = i
          · subst e2; exact h3 e he
          · rw [if_neg e2] at hk; exact hcl k hk e he
      · have e1 : (l1.map (·.2)).map (·.1) = l1.map (·.2.1) := by simp
        have e2 : (l1.map (·.2)).map (·.2) = l1.map (·.2.2) := by simp
        rw [e1, e2] at hd1
        simpa using hd1

end
end Go.Proofs.Ytihljollfbogeaa

/- The abstract run is sound: what it answers, the program answers. No condition. -/
namespace Go.Proofs.Ytihljollfbogeaa
open Go Go.RowKit

def comp (P : Program) (nt : Nat) : Code → Option CC
  | .skip => some .skip
  | .region _ ops false => (compAll P nt ops.toList ops.toList).map .reg
  | .region _ ops true => compDraw P nt ops.toList
  | .seq a b => match comp P nt a, comp P nt b with | some x, some y => some (.seq x y) | _, _ => none
  | .cond c a b => match comp P nt a, comp P nt b with | some x, some y => some (.cond c x y) | _, _ => none
  | .block id b => (comp P nt b).map (.block id)
  | .loop b => (comp P nt b).map .loop
  | .exit id => some (.exit id)
  | .ret => some .ret
  | _ => none

def exOf : CEx → Exit
  | .norm => .normal
  | .exit i => .exit i
  | .ret => .ret

section
variable {P : Program} {base nt : Nat} {h : Hp} {H : Hand} {I : Inl} {q N : Nat}

theorem draw_ok (hH : HandOk P H) (hI : InlOk P I) (hm : P.follows .mixedOrders = true) {ops : Array Oper} {id : Nat} {Q : Exit → Act → World → Prop} {cs : List CIns} {pairs : List (Nat × Nat)} {s s' : St} {evs : List Ev} {a : Act} {w : World} {α : Al}
    (hc : compDraw P nt ops.toList = some (.draw cs pairs)) (hr : drawA H I q cs s = some (s', evs)) (hp : indeps evs pairs = true)
    (inv : Inv nt base s a w α) (hQ : ∀ a' w' α', Inv nt base s' a' w' α' → Ext w α w' α' → Q .normal a' w') : (Code.region id ops true).wpIn Fence.wide 0 P Q a w := by
  unfold compDraw at hc
  split at hc
  · cases hc
  · rename_i cs' hcs
    split at hc
    case isFalse => cases hc
    rename_i hcond
    cases hc
    simp only [Bool.and_eq_true] at hcond
    obtain ⟨⟨hok, hlt⟩, hap⟩ := hcond
    obtain ⟨hlen, hget⟩ := compAll_get hcs
    obtain ⟨hel, hev⟩ := drawA_get hr
    have hsz : cs.length = ops.size := by rw [hlen]; simp
    refine wpIn_region_any hm ?_
    have hinv : Inv nt base s a { w with drawn := w.drawn + 1 } α := ⟨inv.rel.drew, inv.base, fun t => (inv.val t).mono (fun b hb => ⟨hb, rfl⟩) (Later.refl α), inv.size, inv.defers⟩
    -- what is left at the beginning: everything
    have hrem : ∀ (l : List CIns) (m : List Ev) (k : Nat), l.length = m.length → ((List.range' k l.length).zip (l.zip m)).map (·.1) = List.range' k l.length ∧ ((List.range' k l.length).zip (l.zip m)).map (·.2.1) = l ∧ ((List.range' k l.length).zip (l.zip m)).map (·.2.2) = m := by
      intro l
      induction l with
      | nil => intro m k hl; have : m = [] := List.eq_nil_of_length_eq_zero hl.symm; subst this; simp
      | cons x l ih =>
        intro m k hl
        cases m with
        | nil => simp at hl
        | cons y m =>
          obtain ⟨h1, h2, h3⟩ := ih m (k + 1) (by simpa using hl)
          simp only [List.length_cons, List.range'_succ, List.zip_cons_cons, List.map_cons, h1, h2, h3, and_self]
    have hel' : cs.length = evs.length := hel.symm
    obtain ⟨r1, r2, r3⟩ := hrem cs evs 0 hel'
    have hget3 : ∀ (i : Nat) (x : Nat × CIns × Ev), ((List.range' 0 cs.length).zip (cs.zip evs))[i]? = some x → x.1 = i ∧ cs[i]? = some x.2.1 ∧ evs[i]? = some x.2.2 := fun i x hx => by
      have h1 : (((List.range' 0 cs.length).zip (cs.zip evs)).map (·.1))[i]? = some x.1 := by rw [List.getElem?_map, hx]; rfl
      have h2 : (((List.range' 0 cs.length).zip (cs.zip evs)).map (·.2.1))[i]? = some x.2.1 := by rw [List.getElem?_map, hx]; rfl
      have h3 : (((List.range' 0 cs.length).zip (cs.zip evs)).map (·.2.2))[i]? = some x.2.2 := by rw [List.getElem?_map, hx]; rfl
      rw [r1] at h1
      rw [r2] at h2
      rw [r3] at h3
      refine ⟨?_, h2, h3⟩
      have := List.getElem?_eq_some_iff.1 h1
      obtain ⟨_, h4⟩ := this
      simp at h4
      exact h4.symm
    have hlisted : ∀ (k : Nat) (d : Bool), (Array.replicate ops.size false).getD k d = if k < ops.size then false else d := fun k d => by
      rw [Array.getD_eq_getD_getElem?, Array.getElem?_replicate]
      split <;> rfl
    refine any_ok hH hI (es := ops.toList.map edgesOf) (tb := ancTab [] (ops.toList.map edgesOf)) rfl hok hlt ops.size (Array.replicate ops.size false) ((List.range' 0 cs.length).zip (cs.zip evs)) s s' a _ α
      (by simp [hsz, ← hel']) (by simp) (fun r hr' => ?_) (fun k => ?_) ?_ (fun k hk => ?_) (by rw [r2, r3]; exact hr) hinv (fun a' w' α' i' e' => hQ a' w' α' i' ((Ext.drew w α).trans e'))
    · obtain ⟨i, hi⟩ := List.mem_iff_getElem?.1 hr'
      obtain ⟨h1, h2, h3⟩ := hget3 i r hi
      have hlt' : i < ops.size := by rw [← hsz]; exact (List.getElem?_eq_some_iff.1 h2).1
      obtain ⟨c, h4, h5⟩ := hget i ops[i] (by simp [hlt'])
      rw [h2] at h4
      cases h4
      exact ⟨ops[i], by rw [h1]; simp [hlt'], h5⟩
    · rw [r1, hlisted]
      simp only [List.mem_range'_1, Nat.zero_le, Nat.zero_add, true_and, hsz]
      constructor
      · intro h; exact ⟨h, by rw [if_pos h]⟩
      · intro h; exact h.1
    · rw [List.pairwise_iff_getElem]
      intro i j hi hj hij
      obtain ⟨i1, i2, i3⟩ := hget3 i _ (List.getElem?_eq_getElem hi)
      obtain ⟨j1, j2, j3⟩ := hget3 j _ (List.getElem?_eq_getElem hj)
      refine ⟨by rw [i1, j1]; exact hij, ?_⟩
      rw [i1, j1]
      cases ha : anc (ancTab [] (ops.toList.map edgesOf)) i j with
      | true => exact .inl rfl
      | false =>
        right
        have hjn : j < cs.length := (List.getElem?_eq_some_iff.1 j2).1
        have hmem : (i, j) ∈ unord (ancTab [] (ops.toList.map edgesOf)) cs.length := by
          refine List.mem_flatMap.2 ⟨j, List.mem_range.2 hjn, List.mem_map.2 ⟨i, List.mem_filter.2 ⟨List.mem_range.2 hij, by simp [ha]⟩, rfl⟩⟩
        have hap' := List.all_eq_true.1 hap (i, j) hmem
        unfold apartPair at hap'
        simp only [i2, j2] at hap'
        refine ⟨hap', ?_⟩
        obtain ⟨si, si', hsi⟩ := hev i _ _ i2 i3
        obtain ⟨sj, sj', hsj⟩ := hev j _ _ j2 j3
        cases hqi : (((List.range' 0 cs.length).zip (cs.zip evs))[i]).2.1.op.quiet with
        | true =>
          rcases quiet_ev hqi hsi with h | h
          · rw [h]; exact indep_nothing.1
          · rw [h]; exact indep_quiet.1
        | false =>
          cases hqj : (((List.range' 0 cs.length).zip (cs.zip evs))[j]).2.1.op.quiet with
          | true =>
            rcases quiet_ev hqj hsj with h | h
            · rw [h]; exact indep_nothing.2
            · rw [h]; exact indep_quiet.2
          | false =>
            have hin : (i, j) ∈ (unord (ancTab [] (ops.toList.map edgesOf)) cs.length).filter (loudPair cs) := List.mem_filter.2 ⟨hmem, by unfold loudPair; simp only [i2, j2, hqi, hqj]; rfl⟩
            have := List.all_eq_true.1 hp (i, j) hin
            simp only [i3, j3] at this
            exact this
    · rw [hlisted] at hk
      split at hk <;> cases hk

theorem run_ok (hH : HandOk P H) (hI : InlOk P I) (hm : P.follows .mixedOrders = true) : ∀ (c : Code) (cc : CC) (s s' : St) (x : CEx) (a : Act) (w : World) (α : Al) (Q : Exit → Act → World → Prop),
    comp P nt c = some cc → run H I N q cc s = some (x, s') → Inv nt base s a w α → (∀ a' w' α', Inv nt base s' a' w' α' → Ext w α w' α' → Q (exOf x) a' w') → c.wpIn Fence.wide 0 P Q a w
  | .skip, cc, s, s', x, a, w, α, Q, hc, hr, inv, hQ => by
    cases hc; cases hr
    exact wpIn_skip (hQ a w α inv (Ext.refl w α))
  | .exit id, cc, s, s', x, a, w, α, Q, hc, hr, inv, hQ => by
    cases hc; cases hr
    exact wpIn_exit (hQ a w α inv (Ext.refl w α))
  | .ret, cc, s, s', x, a, w, α, Q, hc, hr, inv, hQ => by
    cases hc; cases hr
    exact wpIn_ret (hQ a w α inv (Ext.refl w α))
  | .region id ops false, cc, s, s', x, a, w, α, Q, hc, hr, inv, hQ => by
    simp only [comp] at hc
    obtain ⟨cs, h1, rfl⟩ := Option.map_eq_some_iff.1 hc
    simp only [run] at hr
    obtain ⟨s1, h2, h3⟩ := Option.map_eq_some_iff.1 hr
    cases h3
    exact reg_ok hH hI h1 h2 inv hQ
  | .region id ops true, cc, s, s', x, a, w, α, Q, hc, hr, inv, hQ => by
    simp only [comp] at hc
    have hc0 := hc
    unfold compDraw at hc
    split at hc
    · cases hc
    · split at hc
      · cases hc
        simp only [run] at hr
        obtain ⟨⟨s1, evs⟩, h2, h3⟩ := Option.bind_eq_some_iff.1 hr
        simp only at h3
        split at h3
        · rename_i hp
          cases h3
          exact draw_ok hH hI hm hc0 h2 hp inv hQ
        · cases h3
      · cases hc
  | .seq c d, cc, s, s', x, a, w, α, Q, hc, hr, inv, hQ => by
    simp only [comp] at hc
    split at hc
    · rename_i cx cy h1 h2
      cases hc
      simp only [run] at hr
      obtain ⟨⟨x1, s1⟩, h3, h4⟩ := Option.bind_eq_some_iff.1 hr
      refine wpIn_seq (run_ok hH hI hm c cx s s1 x1 a w α _ h1 h3 inv fun a' w' α' inv' ext => ?_)
      cases x1 with
      | norm => exact run_ok hH hI hm d cy s1 s' x a' w' α' Q h2 h4 inv' (fun a'' w'' α'' i'' e'' => hQ a'' w'' α'' i'' (ext.trans e''))
      | exit i => cases h4; exact hQ a' w' α' inv' ext
      | ret => cases h4; exact hQ a' w' α' inv' ext
    · cases hc
  | .cond o c d, cc, s, s', x, a, w, α, Q, hc, hr, inv, hQ => by
    simp only [comp] at hc
    split at hc
    · rename_i cx cy h1 h2
      cases hc
      simp only [run] at hr
      split at hr
      · rename_i t ht
        have hv := eval_ok (w := w) (ok := okA w α) (α := α) (a := a) (e := s.1) inv.val o
        rw [ht] at hv
        have he := hv.sc_eq
        cases t with
        | true => exact wpIn_cond_true he (run_ok hH hI hm c cx s s' x a w α Q h1 hr inv hQ)
        | false => exact wpIn_cond_false he (run_ok hH hI hm d cy s s' x a w α Q h2 hr inv hQ)
      · cases hr
    · cases hc
  | .block id c, cc, s, s', x, a, w, α, Q, hc, hr, inv, hQ => by
    simp only [comp] at hc
    obtain ⟨cx, h1, rfl⟩ := Option.map_eq_some_iff.1 hc
    simp only [run] at hr
    obtain ⟨⟨x1, s1⟩, h2, h3⟩ := Option.map_eq_some_iff.1 hr
    refine wpIn_block (run_ok hH hI hm c cx s s1 x1 a w α _ h1 h2 inv fun a' w' α' inv' ext => ?_)
    cases x1 with
    | norm => cases h3; exact hQ a' w' α' inv' ext
    | ret => cases h3; exact hQ a' w' α' inv' ext
    | exit i =>
      simp only at h3
      simp only [exOf, Exit.inBlock]
      split at h3
      · rename_i hi
        cases h3
        rw [if_pos hi]
        exact hQ a' w' α' inv' ext
      · rename_i hi
        cases h3
        rw [if_neg hi]
        exact hQ a' w' α' inv' ext
  | .loop c, cc, s, s', x, a, w, α, Q, hc, hr, inv, hQ => by
    simp only [comp] at hc
    obtain ⟨cx, h1, rfl⟩ := Option.map_eq_some_iff.1 hc
    simp only [run] at hr
    refine wpIn_loop_ghost (fun k a' w' => ∃ s1 α', iter (run H I N q cx) k s1 = some (x, s') ∧ Inv nt base s1 a' w' α' ∧ Ext w α w' α') N ⟨s, α, hr, inv, Ext.refl w α⟩ ?_
    rintro k a' w' ⟨s1, α', hk, inv', ext⟩
    cases k with
    | zero => cases hk
    | succ k =>
      simp only [iter] at hk
      cases hq : run H I N q cx s1 with
      | none => rw [hq] at hk; cases hk
      | some r =>
        obtain ⟨x2, s2⟩ := r
        rw [hq] at hk
        refine run_ok hH hI hm c cx s1 s2 x2 a' w' α' _ h1 hq inv' fun a'' w'' α'' inv'' ext'' => ?_
        cases x2 with
        | norm => exact ⟨k, Nat.lt_succ_self k, s2, α'', hk, inv'', ext.trans ext''⟩
        | exit i => cases hk; exact hQ a'' w'' α'' inv'' (ext.trans ext'')
        | ret => cases hk; exact hQ a'' w'' α'' inv'' (ext.trans ext'')
  | .rangeFunc _ _ _ _, cc, s, s', x, a, w, α, Q, hc, hr, inv, hQ => by cases hc
  | .scope _, cc, s, s', x, a, w, α, Q, hc, hr, inv, hQ => by cases hc
  | .label _, cc, s, s', x, a, w, α, Q, hc, hr, inv, hQ => by cases hc
  | .goto _, cc, s, s', x, a, w, α, Q, hc, hr, inv, hQ => by cases hc
  | .refuse _, cc, s, s', x, a, w, α, Q, hc, hr, inv, hQ => by cases hc

end
end Go.Proofs.Ytihljollfbogeaa

/- Functions: what the abstract run answers, the function answers. No condition. -/
namespace Go.Proofs.Ytihljollfbogeaa
open Go Go.RowKit

def compRes (P : Program) : ResultVar → Option CRes
  | .tmp t => some (.tmp t)
  | .cell a t => if hasT P t then some (.cell (aggB P t) (P.cellsOf t) a) else none
def compRess (P : Program) : List ResultVar → Option (List CRes)
  | [] => some []
  | r :: rs => match compRes P r, compRess P rs with | some x, some l => some (x :: l) | _, _ => none
def compFn (P : Program) (fn : Func) : Option CFn :=
  match fn.body with
  | some c => if fn.name != "runtime.NumGoroutine" then match comp P fn.ntmps c, compRess P fn.results.toList with | some b, some rs => some ⟨rs, b⟩ | _, _ => none else none
  | none => none

/-- A table of functions of the program. -/
def TabOk (P : Program) (T : FuncId → Option CFn) : Prop := ∀ f c, T f = some c → ∃ fn, P.funcs[f]? = some fn ∧ compFn P fn = some c

section
variable {P : Program} {base nt : Nat} {h : Hp} {H : Hand} {I : Inl} {q N : Nat}

theorem compFn_spec {fn : Func} {c : CFn} (h : compFn P fn = some c) : ∃ cd, fn.body = some cd ∧ (fn.name != "runtime.NumGoroutine") = true ∧ comp P fn.ntmps cd = some c.body ∧ compRess P fn.results.toList = some c.results := by
  unfold compFn at h
  split at h
  · rename_i cd hb
    split at h
    · rename_i hn
      split at h
      · rename_i b rs h1 h2
        cases h
        exact ⟨cd, hb, hn, h1, h2⟩
      · cases h
    · cases h
  · cases h

theorem enters {f : FuncId} {fn : Func} {c : CFn} (hf : P.funcs[f]? = some fn) (hc : compFn P fn = some c) : Enters P f := by
  obtain ⟨cd, hb, hn, _, _⟩ := compFn_spec hc
  intro args w
  have h1 : fn.name ≠ "runtime.NumGoroutine" := by simpa using hn
  simp [callFunc, hf, h1, hb]

def resVal (tm : Array Value) : ResultVar → Sem Value
  | .tmp t => pure (tm.getD t undef)
  | .cell p t => do loadVar t (← asAddr (tm.getD p undef))
theorem results_eq (fn : Func) (tm : Array Value) : results fn tm = (do let vs ← fn.results.mapM (resVal tm); pure (if h : vs.size = 1 then vs[0] else .tuple vs)) := by
  have : resVal tm = (fun | .tmp t => pure (tm.getD t undef) | .cell p t => do loadVar t (← asAddr (tm.getD p undef)) : ResultVar → Sem Value) := by
    funext r; cases r <;> rfl
  rw [this]; rfl

theorem res_ok {s : St} {a : Act} {w : World} {α : Al} (inv : Inv nt base s a w α) {r : ResultVar} {c : CRes} (hc : compRes P r = some c) {v : AV} (hr : resA s c = some v) :
    ∃ x, (resVal a.tmps r).run P w = .ok x w ∧ V w (okA w α) α v x := by
  cases r with
  | tmp t =>
    cases hc
    cases hr
    exact ⟨_, rfl, inv.val t⟩
  | cell p t =>
    simp only [compRes] at hc
    split at hc
    · rename_i ht
      cases hc
      simp only [resA] at hr
      obtain ⟨x, h1, h2⟩ := load_ok (P := P) inv.rel ht rfl hr (inv.val p)
      refine ⟨x, ?_, h2⟩
      have hp := inv.val p
      have : ∃ ad, a.tmps.getD p undef = .pointer (some ad) := by
        unfold oLoad at hr
        split at hr
        · rename_i n ver e c hq
          rw [hq] at hp
          generalize a.tmps.getD p undef = up at hp
          cases hp with
          | low _ _ h => cases h
          | ptr _ _ _ _ ad => exact ⟨ad, rfl⟩
        · rename_i cs c hq
          rw [hq] at hp
          generalize a.tmps.getD p undef = up at hp
          cases hp with
          | low _ _ h => cases h; exact ⟨_, rfl⟩
        · cases hr
      obtain ⟨ad, had⟩ := this
      simp only [resVal]
      rw [had] at h1 ⊢
      simpa [Instr.loadAt, Instr.sureAddr, asAddr] using h1
    · cases hc

theorem ress_ok {s : St} {a : Act} {w : World} {α : Al} (inv : Inv nt base s a w α) : ∀ {rs : List ResultVar} {cs : List CRes} {vs : List AV}, compRess P rs = some cs → ressA s cs = some vs →
    ∃ xs : List Value, (rs.mapM (resVal a.tmps)).run P w = .ok xs w ∧ xs.length = vs.length ∧
      ∀ (i : Nat) (v : AV) (x : Value), vs[i]? = some v → xs[i]? = some x → V w (okA w α) α v x
  | [], cs, vs, hc, hr => by
    cases hc; cases hr
    exact ⟨[], by simp, rfl, fun i v x h => by simp at h⟩
  | r :: rs, cs, vs, hc, hr => by
    unfold compRess at hc
    split at hc
    · rename_i c l h1 h2
      cases hc
      simp only [ressA] at hr
      obtain ⟨v, h3, h4⟩ := Option.bind_eq_some_iff.1 hr
      obtain ⟨vs', h5, rfl⟩ := Option.map_eq_some_iff.1 h4
      obtain ⟨x, h6, h7⟩ := res_ok inv h1 h3
      obtain ⟨xs, h8, h9, h10⟩ := ress_ok inv h2 h5
      refine ⟨x :: xs, ?_, by simp [h9], fun i v' x' hv hx => ?_⟩
      · rw [List.mapM_cons]
        simp only [Sem.run_bind]
        rw [h6]
        simp only [Result.andThen_ok]
        rw [h8]
        simp
      · cases i with
        | zero => simp at hv hx; subst hv; subst hx; exact h7
        | succ i => exact h10 i v' x' (by simpa using hv) (by simpa using hx)
    · cases hc

theorem results_ok {s : St} {a : Act} {w : World} {α : Al} (inv : Inv nt base s a w α) {fn : Func} {cs : List CRes} {vs : List AV} {v : AV} (hc : compRess P fn.results.toList = some cs) (hr : ressA s cs = some vs) (ht : tupA vs = some v) :
    ∃ x, (results fn a.tmps).run P w = .ok x w ∧ V w (okA w α) α v x := by
  obtain ⟨xs, h1, h2, h3⟩ := ress_ok inv hc hr
  have hrun : (results fn a.tmps).run P w = .ok (if h : xs.toArray.size = 1 then xs.toArray[0] else .tuple xs.toArray) w := by
    rw [results_eq, Array.mapM_eq_mapM_toList]
    simp only [Sem.run_bind, Sem.run_map]
    rw [h1]
    simp
  refine ⟨_, hrun, ?_⟩
  unfold tupA at ht
  split at ht
  · rename_i v'
    cases ht
    have hx1 : xs.length = 1 := by simpa using h2
    obtain ⟨x, rfl⟩ := List.length_eq_one_iff.1 hx1
    exact h3 0 _ x rfl rfl
  · rename_i hne
    split at ht
    · rename_i hall
      cases ht
      have hx1 : ¬ (xs.toArray.size = 1) := by
        simp
        intro e
        rw [h2] at e
        obtain ⟨y, hy⟩ := List.length_eq_one_iff.1 e
        exact hne y hy
      rw [dif_neg hx1]
      refine ⟨xs, rfl, h2, fun i y x hy hx => (h3 i y x hy hx).toVA ?_⟩
      intro ws e
      subst e
      have := List.all_eq_true.1 hall _ (List.mem_of_getElem? hy)
      simp at this
    · cases ht

/-- A function's run. -/
theorem fn_ok (hH : HandOk P H) (hI : InlOk P I) (hm : P.follows .mixedOrders = true) {f : FuncId} {fn : Func} {c : CFn} (hf : P.funcs[f]? = some fn) (hc : compFn P fn = some c) {as : List AV} {h' : Hp} {v : AV}
    (hr : fnA H I N q c as h = some (v, h')) {w : World} {α : Al} {us : List Value} (r : Rel base h w α) (hb : base ≤ w.heap.size) (hl : us.length = as.length)
    (hv : ∀ (i : Nat) (a : AV) (u : Value), as[i]? = some a → us[i]? = some u → V w (okA w α) α a u) :
    CallsIn Fence.wide 0 P f us.toArray w fun e w' => ∃ u, e = .returned u ∧ ∃ α', Rel base h' w' α' ∧ Ext w α w' α' ∧ V w' (okA w' α') α' v u := by
  obtain ⟨cd, hbody, hn, hcomp, hres⟩ := compFn_spec hc
  unfold fnA at hr
  obtain ⟨⟨x, s'⟩, h1, h2⟩ := Option.bind_eq_some_iff.1 hr
  have inv : Inv fn.ntmps base (argEnv as, h) { tmps := us.toArray ++ Array.replicate (fn.ntmps - us.toArray.size) undef, defers := [] } w α := by
    refine ⟨r, hb, fun t => ?_, ?_, rfl⟩
    · simp only [argEnv]
      cases ht : as[t]? with
      | none => exact V.junk
      | some a =>
        have hlt := (List.getElem?_eq_some_iff.1 ht).1
        have hu : us[t]? = some us[t] := List.getElem?_eq_getElem (by omega)
        have : (us.toArray ++ Array.replicate (fn.ntmps - us.toArray.size) undef).getD t undef = us[t] := by
          rw [Array.getD_eq_getD_getElem?, Array.getElem?_append_left (by simp; omega)]
          simp [hu]
        rw [this]
        exact hv t a _ ht hu
    · simp; omega
  refine callsIn_of_wp hf hbody trivial ?_ rfl
  refine run_ok hH hI hm cd c.body (argEnv as, h) s' x _ w α _ hcomp h1 inv fun a' w' α' inv' ext => ?_
  have fin : (∃ vs, ressA s' c.results = some vs ∧ (tupA vs).map (fun v => (v, s'.2)) = some (v, h')) → a'.defers = [] ∧ ∃ u, (results fn a'.tmps).run P w' = .ok u w' ∧ (∃ u', Ending.returned u = .returned u' ∧ ∃ α', Rel base h' w' α' ∧ Ext w α w' α' ∧ V w' (okA w' α') α' v u') := by
    rintro ⟨vs, k1, k2⟩
    obtain ⟨v0, k3, k4⟩ := Option.map_eq_some_iff.1 k2
    cases k4
    obtain ⟨u, k5, k6⟩ := results_ok inv' hres k1 k3
    exact ⟨inv'.defers, u, k5, u, rfl, α', inv'.rel, ext, k6⟩
  cases x with
  | norm =>
    simp only at h2
    obtain ⟨vs, k1, k2⟩ := Option.bind_eq_some_iff.1 h2
    exact fin ⟨vs, k1, k2⟩
  | ret =>
    simp only at h2
    obtain ⟨vs, k1, k2⟩ := Option.bind_eq_some_iff.1 h2
    exact fin ⟨vs, k1, k2⟩
  | exit i => cases h2

theorem inl_ok (hH : HandOk P H) (hm : P.follows .mixedOrders = true) {T : FuncId → Option CFn} (hT : TabOk P T) (N : Nat) : ∀ d, InlOk P (inl T H N d)
  | 0 => fun q f as h v h' hr => by cases hr
  | d + 1 => fun q f as h v h' hr => by
    simp only [inl] at hr
    split at hr
    · rename_i c hTf
      obtain ⟨fn, hf, hc⟩ := hT f c hTf
      exact ⟨enters hf hc, fun base w α us r hb hl hv => fn_ok hH (inl_ok hH hm hT N d) hm hf hc hr r hb hl hv⟩
    · cases hr

/-- What the run says of shapes of arguments without memory of ours, holds of the function. -/
theorem good_of_run (hH : HandOk P H) (hI : InlOk P I) (hm : P.follows .mixedOrders = true) {f : FuncId} {fn : Func} {c : CFn} (hf : P.funcs[f]? = some fn) (hc : compFn P fn = some c) {as : List AV} {h' : Hp} {v r : AV}
    (hr : fnA H I N q c as hemp = some (v, h')) (hz : fz h' v = r) : Enters P f ∧ Good P f as r := by
  refine ⟨enters hf hc, Good.of (by rw [← hz]; exact fz_mp) fun w ok us hok hl hv => ?_⟩
  have rel : Rel w.heap.size hemp w ⟨fun _ => none, fun b => ok b ∨ w.heap.size ≤ b⟩ :=
    ⟨(fun n ae h => by cases h), (fun n ae h => by cases h), (fun n m ae ae' b o r o' r' h => by cases h), (fun n ae b o r h => by cases h), (fun b hb => Or.inr hb)⟩
  have call := fn_ok hH hI hm hf hc hr rel (Nat.le_refl _) hl (fun i a u ha hu => (hv i a u ha hu).mono (fun b hb => ⟨⟨⟨hok b hb, .inl hb⟩, fun n ae o r h => by cases h⟩, rfl⟩) (Later.emp _))
  refine CallsIn.mono call fun e w' he => ?_
  obtain ⟨u, rfl, α', r', ext, hvu⟩ := he
  refine ⟨u, rfl, ⟨ext.os, ext.tape, ext.output, ext.size, fun b hb => (ext.keepF b ⟨hb, fun n ae o r h => by cases h⟩).2⟩, ?_⟩
  have := fz_ok r' (names := nm h' v) hvu (fun n hn => hn)
  rw [hz] at this
  refine this.mono (fun b hb => ⟨?_, rfl⟩) (Later.refl _)
  have key : b < w'.heap.size → α'.G b → ok b ∨ (w.heap.size ≤ b ∧ b < w'.heap.size) := fun h1 h2 => by
    rw [ext.same] at h2
    rcases h2 with h2 | h2
    · exact .inl h2
    · exact .inr ⟨h2, h1⟩
  rcases hb with hb | hb
  · exact key hb.1.1 hb.1.2
  · exact key hb.1 hb.2.1

end
end Go.Proofs.Ytihljollfbogeaa

/- The equations by which an abstract run is worked out. No condition. -/
namespace Go.Proofs.Ytihljollfbogeaa
open Go Go.RowKit

section
variable {H : Hand} {I : Inl} {N q : Nat}

/-- What comes behind. -/
noncomputable def thn (H : Hand) (I : Inl) (N q : Nat) (b : CC) : CEx × St → Option (CEx × St)
  | (.norm, s') => run H I N q b s'
  | r => some r
/-- The end of a block. -/
def endB (id : Nat) : CEx × St → CEx × St
  | (.exit i, s') => if i = id then (.norm, s') else (.exit i, s')
  | r => r
theorem run_skip (s : St) : run H I N q .skip s = some (.norm, s) := rfl
theorem run_ret (s : St) : run H I N q .ret s = some (.ret, s) := rfl
theorem run_exit (id : Nat) (s : St) : run H I N q (.exit id) s = some (.exit id, s) := rfl
theorem run_seq (a b : CC) (s : St) : run H I N q (.seq a b) s = (run H I N q a s).bind (thn H I N q b) := by
  simp only [run]
  cases run H I N q a s with
  | none => rfl
  | some r => obtain ⟨x, s'⟩ := r; cases x <;> rfl
theorem run_block (id : Nat) (b : CC) (s : St) : run H I N q (.block id b) s = (run H I N q b s).map (endB id) := by
  simp only [run]
  cases run H I N q b s with
  | none => rfl
  | some r => obtain ⟨x, s'⟩ := r; cases x <;> rfl
theorem run_loop (b : CC) (s : St) : run H I N q (.loop b) s = iter (run H I N q b) N s := rfl
def toNorm (s : St) : CEx × St := (.norm, s)
theorem run_reg (ops : List CIns) (s : St) : run H I N q (.reg ops) s = (regA H I q ops s).map toNorm := rfl
theorem run_cond {c : Operand} {t : Bool} {e : Env} {h : Hp} (hc : aEval e c = .sc (.bool t)) (a b : CC) : run H I N q (.cond c a b) (e, h) = if t = true then run H I N q a (e, h) else run H I N q b (e, h) := by
  simp only [run, hc]
theorem run_cond_true {c : Operand} {e : Env} {h : Hp} (a b : CC) (hc : aEval e c = .sc (.bool true)) : run H I N q (.cond c a b) (e, h) = run H I N q a (e, h) := by rw [run_cond hc]; rfl
theorem run_cond_false {c : Operand} {e : Env} {h : Hp} (a b : CC) (hc : aEval e c = .sc (.bool false)) : run H I N q (.cond c a b) (e, h) = run H I N q b (e, h) := by rw [run_cond hc]; rfl
theorem thn_norm (b : CC) (s : St) : thn H I N q b (.norm, s) = run H I N q b s := rfl
theorem thn_toNorm (b : CC) (s : St) : thn H I N q b (toNorm s) = run H I N q b s := rfl
theorem thn_ret (b : CC) (s : St) : thn H I N q b (.ret, s) = some (.ret, s) := rfl
theorem thn_exit (b : CC) (i : Nat) (s : St) : thn H I N q b (.exit i, s) = some (.exit i, s) := rfl
theorem endB_norm (id : Nat) (s : St) : endB id (.norm, s) = (.norm, s) := rfl
theorem endB_toNorm (id : Nat) (s : St) : endB id (toNorm s) = (.norm, s) := rfl
theorem endB_ret (id : Nat) (s : St) : endB id (.ret, s) = (.ret, s) := rfl
theorem endB_exit (id i : Nat) (s : St) : endB id (.exit i, s) = if i = id then (.norm, s) else (.exit i, s) := rfl

theorem regA_nil (s : St) : regA H I q [] s = some s := rfl
theorem regA_cons (i : CIns) (r : List CIns) (s : St) : regA H I q (i :: r) s = (insA H I q i s).bind (regA H I q r) := rfl

/-- The result stands in its place. -/
def putA (d : Option Nat) (r : AV × St) : St := (edst r.2.1 d r.1, r.2.2)
theorem putA_some (d : Nat) (v : AV) (e : Env) (h : Hp) : putA (some d) (v, (e, h)) = (eset e d v, h) := rfl
theorem putA_none (v : AV) (e : Env) (h : Hp) : putA none (v, (e, h)) = (e, h) := rfl
theorem insA_plain (d : Option Nat) (c : COp) (s : St) : insA H I q ⟨d, none, c⟩ s = (opA H I (nameOf q d) c s).map (putA d) := rfl
theorem insA_yes {g : Nat} {want : Bool} {e : Env} {h : Hp} (d : Option Nat) (c : COp) (hg : e g = .sc (.bool want)) : insA H I q ⟨d, some (g, want), c⟩ (e, h) = (opA H I (nameOf q d) c (e, h)).map (putA d) := by
  simp only [insA, hg]; rfl
theorem insA_no {g : Nat} {want : Bool} {e : Env} {h : Hp} (d : Option Nat) (c : COp) (hg : e g = .sc (.bool (!want))) : insA H I q ⟨d, some (g, want), c⟩ (e, h) = some (edst e d (.tup []), h) := by
  simp only [insA, hg]; cases want <;> rfl
theorem insA_skip {g : Nat} {want : Bool} {e : Env} {h : Hp} (d : Option Nat) (c : COp) (hg : e g = .tup []) : insA H I q ⟨d, some (g, want), c⟩ (e, h) = some (edst e d (.tup []), h) := by
  simp only [insA, hg]

/-- A change told of the heap. -/
def withS (e : Env) (h : Hp) (x : AV × Dl) : AV × St := (x.1, (e, appD h x.2))
theorem withS_pu (e : Env) (h : Hp) (v : AV) : withS e h (v, none) = (v, (e, h)) := rfl
theorem opA_ev {c : COp} (hc : c.isCall = false) (n : Nat) (e : Env) (h : Hp) : opA H I n c (e, h) = (c.ev n e h).map (withS e h) := by
  cases c <;> first | rfl | (simp [COp.isCall] at hc)
theorem map_withS_pu (e : Env) (h : Hp) (r : Option AV) : (pu r).map (withS e h) = r.map fun v => (v, (e, h)) := by cases r <;> rfl

theorem aEval_tmp (e : Env) (t : Nat) : aEval e (.tmp t) = e t := rfl
theorem aEval_func (e : Env) (f : FuncId) : aEval e (.func f) = .fn f [] [] := rfl
theorem aEval_int (e : Env) (k : IntKind) (n : Int) : aEval e (.const (.int k n)) = .sc (.int k n) := rfl
theorem aEval_bool (e : Env) (b : Bool) : aEval e (.const (.bool b)) = .sc (.bool b) := rfl
theorem aEval_nil (e : Env) : aEval e (.const (.slice none 0 0)) = .nl := rfl
theorem eset_same (e : Env) (d : Nat) (v : AV) : eset e d v d = v := if_pos rfl
theorem eset_ne (e : Env) (d t : Nat) (v : AV) (h : t ≠ d) : eset e d v t = e t := if_neg h
theorem oBinC_int (op : BinOp) (bl : Bool) (fl : Option Nat) (k : IntKind) (a b : Int) : oBinC op bl fl (.sc (.int k a)) (.sc (.int k b)) = (binInt op k a b).map .sc := by simp [oBinC]

end
end Go.Proofs.Ytihljollfbogeaa

/- A drawn region that writes nothing and calls nobody is a plain one. No condition. -/
namespace Go.Proofs.Ytihljollfbogeaa
open Go Go.RowKit

/-- Writes nothing, calls nobody. -/
def COp.mute : COp → Bool
  | .alloc _ | .box _ | .make .. | .mk0 .. | .lit .. | .mnew | .appZ .. | .store .. | .app .. | .cpy .. | .clr .. | .mput .. | .call .. | .callv .. => false
  | _ => true
def Ev.reads : Ev → Bool
  | .nothing => true
  | .simple _ none => true
  | _ => false
def muteIn (ops : List CIns) (pairs : List (Nat × Nat)) : Bool := (ops.all fun i => i.op.mute) && pairs.all fun p => decide (p.1 < ops.length) && decide (p.2 < ops.length)

section
variable {H : Hand} {I : Inl} {N q : Nat}

theorem mute_spec {c : COp} (h : c.mute = true) : c.isCall = false ∧ ∀ n e, c.wr n e = none := by
  cases c <;> first | exact ⟨rfl, fun _ _ => rfl⟩ | (simp [COp.mute] at h)
theorem opD_mute {c : COp} (h : c.mute = true) (n : Nat) (s : St) : (opD H I n c s).map (fun r => (r.1, (s.1, r.2.1))) = opA H I n c s ∧ ∀ r, opD H I n c s = some r → r.2.2.reads = true := by
  obtain ⟨h1, h2⟩ := mute_spec h
  have e1 : opD H I n c s = ((c.ev n s.1 s.2).map fun q => (q.1, appD s.2 q.2, .simple (c.rd n s.1) (c.wr n s.1))) := by cases c <;> first | rfl | (simp [COp.isCall] at h1)
  have e2 : opA H I n c s = ((c.ev n s.1 s.2).map fun q => (q.1, ((s.1, appD s.2 q.2) : St))) := by cases c <;> first | rfl | (simp [COp.isCall] at h1)
  rw [e1, e2, h2]
  refine ⟨by cases c.ev n s.1 s.2 <;> rfl, fun r hr => ?_⟩
  obtain ⟨x, _, rfl⟩ := Option.map_eq_some_iff.1 hr
  rfl
theorem insD_mute {i : CIns} (h : i.op.mute = true) (s : St) : (insD H I q i s).map (·.1) = insA H I q i s ∧ ∀ r, insD H I q i s = some r → r.2.reads = true := by
  obtain ⟨d, g, c⟩ := i
  obtain ⟨h1, h2⟩ := opD_mute (H := H) (I := I) (c := c) h (nameOf q d) s
  have key : ((opD H I (nameOf q d) c s).map fun r => (((edst s.1 d r.1, r.2.1) : St), r.2.2)).map (·.1) = (opA H I (nameOf q d) c s).map fun r => (edst r.2.1 d r.1, r.2.2) := by
    rw [← h1]; cases opD H I (nameOf q d) c s <;> rfl
  have key2 : ∀ r, ((opD H I (nameOf q d) c s).map fun r => (((edst s.1 d r.1, r.2.1) : St), r.2.2)) = some r → r.2.reads = true := fun r hr => by
    obtain ⟨x, hx, rfl⟩ := Option.map_eq_some_iff.1 hr
    exact h2 x hx
  cases g with
  | none => exact ⟨key, key2⟩
  | some g =>
    obtain ⟨g, want⟩ := g
    simp only [insD, insA]
    split
    · split
      · exact ⟨key, key2⟩
      · exact ⟨rfl, fun r hr => by cases hr; rfl⟩
    · exact ⟨rfl, fun r hr => by cases hr; rfl⟩
    · exact ⟨rfl, fun r hr => by cases hr⟩
theorem drawA_mute : ∀ {ops : List CIns} (s : St), (ops.all fun i => i.op.mute) = true → (drawA H I q ops s).map (·.1) = regA H I q ops s ∧ ∀ r, drawA H I q ops s = some r → r.2.length = ops.length ∧ ∀ x ∈ r.2, x.reads = true
  | [], s, _ => ⟨rfl, fun r hr => by cases hr; exact ⟨rfl, fun x hx => by cases hx⟩⟩
  | i :: ops, s, h => by
    simp only [List.all_cons, Bool.and_eq_true] at h
    obtain ⟨h1, h2⟩ := insD_mute (H := H) (I := I) (q := q) h.1 s
    simp only [drawA, regA]
    rw [← h1]
    cases hd : insD H I q i s with
    | none => exact ⟨rfl, fun r hr => by cases hr⟩
    | some x =>
      obtain ⟨h3, h4⟩ := drawA_mute x.1 h.2
      simp only [Option.bind_some, Option.map_some]
      rw [← h3]
      refine ⟨by cases drawA H I q ops x.1 <;> rfl, fun r hr => ?_⟩
      obtain ⟨y, hy, rfl⟩ := Option.map_eq_some_iff.1 hr
      obtain ⟨h5, h6⟩ := h4 y hy
      refine ⟨by simp [h5], fun z hz => ?_⟩
      rcases List.mem_cons.1 hz with rfl | hz
      · exact h2 x hd
      · exact h6 z hz
theorem indep_reads {x y : Ev} (hx : x.reads = true) (hy : y.reads = true) : indep x y = true := by
  cases x with
  | nothing => rfl
  | simple r w => cases w with
    | some _ => cases hx
    | none => cases y with
      | nothing => rfl
      | simple r' w' => cases w' with
        | some _ => cases hy
        | none => rfl
      | call => cases hy
  | call => cases hx

theorem run_draw {ops : List CIns} {pairs : List (Nat × Nat)} (h : muteIn ops pairs = true) (s : St) : run H I N q (.draw ops pairs) s = (regA H I q ops s).map toNorm := by
  simp only [muteIn, Bool.and_eq_true] at h
  obtain ⟨h1, h2⟩ := drawA_mute (H := H) (I := I) (q := q) s h.1
  simp only [run]
  rw [← h1]
  cases hd : drawA H I q ops s with
  | none => rfl
  | some r =>
    obtain ⟨h3, h4⟩ := h2 r hd
    have : indeps r.2 pairs = true := List.all_eq_true.2 fun p hp => by
      have := List.all_eq_true.1 h.2 p hp
      simp only [Bool.and_eq_true, decide_eq_true_eq] at this
      rw [List.getElem?_eq_getElem (by omega), List.getElem?_eq_getElem (by omega)]
      exact indep_reads (h4 _ (List.getElem_mem _)) (h4 _ (List.getElem_mem _))
    simp only [Option.bind_some, Option.map_some, this, if_true]
    rfl

end
end Go.Proofs.Ytihljollfbogeaa

/- Loops of an abstract run, by an invariant with a number that falls. No condition. -/
namespace Go.Proofs.Ytihljollfbogeaa
open Go Go.RowKit

/-- What a round of a loop comes to: it ends with the measure down, or the loop is left. -/
def Round (J : Nat → St → Prop) (Post : CEx → St → Prop) (k : Nat) : CEx × St → Prop
  | (.norm, s) => ∃ k', k' < k ∧ J k' s
  | (x, s) => Post x s
theorem iter_ind {f : St → Option (CEx × St)} (J : Nat → St → Prop) (Post : CEx → St → Prop) (step : ∀ k s, J k s → ∃ r, f s = some r ∧ Round J Post k r) :
    ∀ (M k : Nat) (s : St), k < M → J k s → ∃ x s', iter f M s = some (x, s') ∧ Post x s'
  | 0, k, s, hk, _ => absurd hk (by omega)
  | M + 1, k, s, hk, hj => by
    obtain ⟨⟨x, s1⟩, h1, h2⟩ := step k s hj
    simp only [iter, h1]
    cases x with
    | norm =>
      obtain ⟨k', h3, h4⟩ := h2
      exact iter_ind J Post step M k' s1 (by omega) h4
    | exit i => exact ⟨_, _, rfl, h2⟩
    | ret => exact ⟨_, _, rfl, h2⟩

/-- A loop is over; what comes behind it. -/
theorem loop_bind {f : St → Option (CEx × St)} {N : Nat} {s : St} {Post : CEx → St → Prop} {β : Type} {F : CEx × St → Option β} {r : Option β} (h : ∃ x s', iter f N s = some (x, s') ∧ Post x s') (hF : ∀ x s', Post x s' → F (x, s') = r) : (iter f N s).bind F = r := by
  obtain ⟨x, s', h1, h2⟩ := h
  rw [h1]
  exact hF x s' h2
theorem map_bind {β γ δ : Type} (o : Option β) (g : β → γ) (f : γ → Option δ) : (o.map g).bind f = o.bind fun x => f (g x) := by cases o <;> rfl
theorem map_is_bind {β γ : Type} (o : Option β) (g : β → γ) : o.map g = o.bind fun x => some (g x) := by cases o <;> rfl
theorem bind_bind {β γ δ : Type} (o : Option β) (g : β → Option γ) (f : γ → Option δ) : (o.bind g).bind f = o.bind fun x => (g x).bind f := by cases o <;> rfl

/-- What leaves a function. -/
def outA (r : AV × Hp) : AV := fz r.2 r.1
theorem outA_sc (v : Value) (h : Hp) : outA (.sc v, h) = .sc v := rfl
theorem outA_imm (xs : List AV) (h : Hp) : outA (.imm xs, h) = .imm xs := rfl
theorem outA_agg (cs : List AV) (h : Hp) : outA (.agg cs, h) = .agg (cs.map (fz1 h)) := rfl
theorem outA_tup (vs : List AV) (h : Hp) : outA (.tup vs, h) = .tup (vs.map (fzA h)) := rfl
theorem fz_sc (v : Value) (h : Hp) : fz h (.sc v) = .sc v := rfl
theorem fz_imm (xs : List AV) (h : Hp) : fz h (.imm xs) = .imm xs := rfl
theorem fz_full (xs : List AV) (h : Hp) : fz h (.full xs) = .imm xs := rfl
theorem fz_nl (h : Hp) : fz h .nl = .imm [] := rfl
theorem fz_fn (f : FuncId) (a b : List AV) (h : Hp) : fz h (.fn f a b) = .junk := rfl
theorem fz_agg (cs : List AV) (h : Hp) : fz h (.agg cs) = .agg (cs.map (fz1 h)) := rfl
theorem fz_tup (vs : List AV) (h : Hp) : fz h (.tup vs) = .tup (vs.map (fzA h)) := rfl
theorem fzA_sc (v : Value) (h : Hp) : fzA h (.sc v) = .sc v := rfl
theorem fzA_imm (xs : List AV) (h : Hp) : fzA h (.imm xs) = .imm xs := rfl
theorem fzA_full (xs : List AV) (h : Hp) : fzA h (.full xs) = .imm xs := rfl
theorem fzA_nl (h : Hp) : fzA h .nl = .imm [] := rfl
theorem fzA_agg (cs : List AV) (h : Hp) : fzA h (.agg cs) = .agg (cs.map (fz1 h)) := rfl
theorem fz1_sc (v : Value) (h : Hp) : fz1 h (.sc v) = .sc v := rfl
theorem fz1_imm (xs : List AV) (h : Hp) : fz1 h (.imm xs) = .imm xs := rfl
theorem fz1_full (xs : List AV) (h : Hp) : fz1 h (.full xs) = .imm xs := rfl
theorem fz1_nl (h : Hp) : fz1 h .nl = .imm [] := rfl

/-- A function's answer, from its abstract run. -/
theorem good_of_out {P : Program} {H : Hand} {I : Inl} {N q : Nat} (hH : HandOk P H) (hI : InlOk P I) (hm : P.follows .mixedOrders = true) {f : FuncId} {fn : Func} {c : CFn} (hf : P.funcs[f]? = some fn) (hc : compFn P fn = some c) {as : List AV} {r : AV}
    (hr : (fnA H I N q c as hemp).map outA = some r) : Enters P f ∧ Good P f as r := by
  obtain ⟨⟨v, h'⟩, h1, h2⟩ := Option.map_eq_some_iff.1 hr
  exact good_of_run hH hI hm hf hc h1 h2

end Go.Proofs.Ytihljollfbogeaa

/- The equations by which a drawn region's abstract run is worked out. No condition. -/
namespace Go.Proofs.Ytihljollfbogeaa
open Go Go.RowKit

section
variable {H : Hand} {I : Inl} {N q : Nat}

noncomputable def endD (pairs : List (Nat × Nat)) (r : St × List Ev) : Option (CEx × St) := if indeps r.2 pairs = true then some (.norm, r.1) else none
def consE (ev : Ev) (y : St × List Ev) : St × List Ev := (y.1, ev :: y.2)
def nextD (H : Hand) (I : Inl) (q : Nat) (r : List CIns) (x : St × Ev) : Option (St × List Ev) := (drawA H I q r x.1).map (consE x.2)
def putD (e : Env) (d : Option Nat) (r : AV × Hp × Ev) : St × Ev := ((edst e d r.1, r.2.1), r.2.2)

theorem run_drawn (ops : List CIns) (pairs : List (Nat × Nat)) (s : St) : run H I N q (.draw ops pairs) s = (drawA H I q ops s).bind (endD pairs) := rfl
theorem endD_mk (pairs : List (Nat × Nat)) (s : St) (evs : List Ev) : endD pairs (s, evs) = if indeps evs pairs = true then some (toNorm s) else none := rfl
theorem drawA_nil (s : St) : drawA H I q [] s = some (s, []) := rfl
theorem drawA_cons (i : CIns) (r : List CIns) (s : St) : drawA H I q (i :: r) s = (insD H I q i s).bind (nextD H I q r) := rfl
theorem nextD_mk (r : List CIns) (s : St) (ev : Ev) : nextD H I q r (s, ev) = (drawA H I q r s).map (consE ev) := rfl
theorem consE_mk (ev : Ev) (s : St) (evs : List Ev) : consE ev (s, evs) = (s, ev :: evs) := rfl
theorem putD_some (e : Env) (d : Nat) (v : AV) (h : Hp) (ev : Ev) : putD e (some d) (v, h, ev) = ((eset e d v, h), ev) := rfl
theorem putD_none (e : Env) (v : AV) (h : Hp) (ev : Ev) : putD e none (v, h, ev) = ((e, h), ev) := rfl
theorem insD_plain (d : Option Nat) (c : COp) (e : Env) (h : Hp) : insD H I q ⟨d, none, c⟩ (e, h) = (opD H I (nameOf q d) c (e, h)).map (putD e d) := rfl
theorem insD_yes {g : Nat} {want : Bool} {e : Env} {h : Hp} (d : Option Nat) (c : COp) (hg : e g = .sc (.bool want)) : insD H I q ⟨d, some (g, want), c⟩ (e, h) = (opD H I (nameOf q d) c (e, h)).map (putD e d) := by
  simp only [insD, hg]; rfl
theorem insD_no {g : Nat} {want : Bool} {e : Env} {h : Hp} (d : Option Nat) (c : COp) (hg : e g = .sc (.bool (!want))) : insD H I q ⟨d, some (g, want), c⟩ (e, h) = some ((edst e d (.tup []), h), .nothing) := by
  simp only [insD, hg]; cases want <;> rfl
theorem insD_skip {g : Nat} {want : Bool} {e : Env} {h : Hp} (d : Option Nat) (c : COp) (hg : e g = .tup []) : insD H I q ⟨d, some (g, want), c⟩ (e, h) = some ((edst e d (.tup []), h), .nothing) := by
  simp only [insD, hg]

/-- A row, frozen. -/
def fzRow : Option (Nat × List AV) → Nat → Nat → AV
  | some (_, els), i, len => if i + len ≤ els.length ∧ els.all AV.pure = true then .imm (((els.drop i).take len).map norm) else .junk
  | none, _, _ => .junk
theorem fz0_ref (h : Hp) (n ver i len : Nat) : fz0 h (.ref n ver i len) = fzRow (rowAt? h n ver) i len := by
  simp only [fz0]; cases rowAt? h n ver <;> rfl
theorem fz1_ref (h : Hp) (n ver i len : Nat) : fz1 h (.ref n ver i len) = fzRow (rowAt? h n ver) i len := fz0_ref h n ver i len
theorem fzA_ref (h : Hp) (n ver i len : Nat) : fzA h (.ref n ver i len) = fzRow (rowAt? h n ver) i len := fz0_ref h n ver i len
theorem fz_ref (h : Hp) (n ver i len : Nat) : fz h (.ref n ver i len) = fzRow (rowAt? h n ver) i len := fz0_ref h n ver i len
theorem outA_ref (h : Hp) (n ver i len : Nat) : outA (.ref n ver i len, h) = fzRow (rowAt? h n ver) i len := fz0_ref h n ver i len
theorem outA_nl (h : Hp) : outA (.nl, h) = .imm [] := rfl
theorem outA_full (xs : List AV) (h : Hp) : outA (.full xs, h) = .imm xs := rfl
theorem fzRow_some (sz : Nat) (els : List AV) (i len : Nat) : fzRow (some (sz, els)) i len = if i + len ≤ els.length ∧ els.all AV.pure = true then .imm (((els.drop i).take len).map norm) else .junk := rfl

/-! ### Whole numbers and truth values, in lists -/
def encI (n : Int) : AV := .sc (.int .i64 n)
def encB (b : Bool) : AV := .sc (.bool b)
theorem encI_pure (xs : List Int) : (xs.map encI).all AV.pure = true := by simp [encI, AV.pure, AV.cells, AV.pure1]
theorem encB_pure (xs : List Bool) : (xs.map encB).all AV.pure = true := by simp [encB, AV.pure, AV.cells, AV.pure1]
theorem encI_norm (xs : List Int) : (xs.map encI).map norm = xs.map encI := by simp [encI, norm, norm1]
theorem encB_norm (xs : List Bool) : (xs.map encB).map norm = xs.map encB := by simp [encB, norm, norm1]
theorem wrap_small {n : Int} (h0 : -9223372036854775808 ≤ n) (h1 : n < 9223372036854775808) : IntKind.i64.wrap n = n := by rw [IntKind.wrap_i64]; omega

end
end Go.Proofs.Ytihljollfbogeaa

/- Abstract runs as trees: what holds at every end. Tables of known functions. No condition. -/
namespace Go.Proofs.Ytihljollfbogeaa
open Go Go.RowKit

/-- It ends, and there this holds. -/
def Ends {β : Type} (o : Option β) (Q : β → Prop) : Prop := ∃ r, o = some r ∧ Q r
theorem ends_some {β : Type} (r : β) (Q : β → Prop) : Ends (some r) Q = Q r := by simp [Ends]
theorem ends_none {β : Type} (Q : β → Prop) : Ends none Q = False := by simp [Ends]
theorem ends_ite {β : Type} (c : Prop) [Decidable c] (a b : Option β) (Q : β → Prop) : Ends (if c then a else b) Q = ((c → Ends a Q) ∧ (¬ c → Ends b Q)) := by
  by_cases h : c <;> simp [h]
theorem ends_bind {β γ : Type} (o : Option β) (f : β → Option γ) (Q : γ → Prop) : Ends (o.bind f) Q = Ends o (fun r => Ends (f r) Q) := by
  cases o <;> simp [Ends]
theorem ends_map {β γ : Type} (o : Option β) (f : β → γ) (Q : γ → Prop) : Ends (o.map f) Q = Ends o (fun r => Q (f r)) := by
  cases o <;> simp [Ends]
theorem Ends.mono {β : Type} {o : Option β} {Q R : β → Prop} (h : Ends o Q) (k : ∀ r, Q r → R r) : Ends o R := by
  obtain ⟨r, h1, h2⟩ := h
  exact ⟨r, h1, k r h2⟩
theorem ends_eq {β : Type} {o : Option β} {r : β} : o = some r ↔ Ends o (fun x => x = r) := by simp [Ends]
theorem Ends.eq {β γ : Type} {o : Option β} {f : β → γ} {r : γ} (h : Ends o (fun x => f x = r)) : o.map f = some r := by
  obtain ⟨x, rfl, h⟩ := h
  simp [h]

theorem ite_map {β γ : Type} (c : Prop) [Decidable c] (a b : Option β) (f : β → γ) : (if c then a else b).map f = if c then a.map f else b.map f := by split <;> rfl
theorem ite_bind {β γ : Type} (c : Prop) [Decidable c] (a b : Option β) (f : β → Option γ) : (if c then a else b).bind f = if c then a.bind f else b.bind f := by split <;> rfl

/-! ### Comparisons split the run -/
section
variable (bl : Bool) (fl : Option Nat) (k : IntKind) (a b : Int)
def tt : AV := .sc (.bool true)
def ff : AV := .sc (.bool false)
theorem cmp_lss : oBinC .lss bl fl (.sc (.int k a)) (.sc (.int k b)) = if a < b then some (.sc (.bool true)) else some (.sc (.bool false)) := by
  by_cases h : a < b <;> simp [oBinC, binInt, h]
theorem cmp_leq : oBinC .leq bl fl (.sc (.int k a)) (.sc (.int k b)) = if a ≤ b then some (.sc (.bool true)) else some (.sc (.bool false)) := by
  by_cases h : a ≤ b <;> simp [oBinC, binInt, h]
theorem cmp_gtr : oBinC .gtr bl fl (.sc (.int k a)) (.sc (.int k b)) = if b < a then some (.sc (.bool true)) else some (.sc (.bool false)) := by
  by_cases h : b < a <;> simp [oBinC, binInt, h]
theorem cmp_geq : oBinC .geq bl fl (.sc (.int k a)) (.sc (.int k b)) = if b ≤ a then some (.sc (.bool true)) else some (.sc (.bool false)) := by
  by_cases h : b ≤ a <;> simp [oBinC, binInt, h]
theorem cmp_eql : oBinC .eql bl fl (.sc (.int k a)) (.sc (.int k b)) = if a = b then some (.sc (.bool true)) else some (.sc (.bool false)) := by
  by_cases h : a = b <;> simp [oBinC, binInt, h]
theorem cmp_neq : oBinC .neq bl fl (.sc (.int k a)) (.sc (.int k b)) = if a = b then some (.sc (.bool false)) else some (.sc (.bool true)) := by
  by_cases h : a = b <;> simp [oBinC, binInt, h]
theorem num_add : oBinC .add bl fl (.sc (.int k a)) (.sc (.int k b)) = some (.sc (.int k (k.wrap (a + b)))) := by simp [oBinC, binInt]
theorem num_sub : oBinC .sub bl fl (.sc (.int k a)) (.sc (.int k b)) = some (.sc (.int k (k.wrap (a - b)))) := by simp [oBinC, binInt]
theorem num_mul : oBinC .mul bl fl (.sc (.int k a)) (.sc (.int k b)) = some (.sc (.int k (k.wrap (a * b)))) := by simp [oBinC, binInt]
theorem num_rem : oBinC .rem bl fl (.sc (.int k a)) (.sc (.int k b)) = if b = 0 then none else some (.sc (.int k (a.tmod b))) := by
  by_cases h : b = 0 <;> simp [oBinC, binInt, h]
theorem cmp_beql (x y : Bool) : oBinC .eql true fl (.sc (.bool x)) (.sc (.bool y)) = if x = y then some (.sc (.bool true)) else some (.sc (.bool false)) := by
  by_cases h : x = y <;> simp [oBinC, h]
theorem cmp_bneq (x y : Bool) : oBinC .neq true fl (.sc (.bool x)) (.sc (.bool y)) = if x = y then some (.sc (.bool false)) else some (.sc (.bool true)) := by
  by_cases h : x = y <;> simp [oBinC, h]
theorem cmp_seql (x y : ByteArray) : oBinC .eql bl fl (.sc (.string x)) (.sc (.string y)) = if (x.toList == y.toList) = true then some (.sc (.bool true)) else some (.sc (.bool false)) := by
  cases h : x.toList == y.toList <;> simp [oBinC, h]
theorem cmp_sneq (x y : ByteArray) : oBinC .neq bl fl (.sc (.string x)) (.sc (.string y)) = if (x.toList == y.toList) = true then some (.sc (.bool false)) else some (.sc (.bool true)) := by
  cases h : x.toList == y.toList <;> simp [oBinC, h]
end

section
variable {H : Hand} {I : Inl} {N q : Nat}
/-- A guard that is not known yet. -/
theorem insA_split {g : Nat} {want b : Bool} {e : Env} {h : Hp} (d : Option Nat) (c : COp) (hg : e g = .sc (.bool b)) : insA H I q ⟨d, some (g, want), c⟩ (e, h) = if b = want then (opA H I (nameOf q d) c (e, h)).map (putA d) else some (edst e d (.tup []), h) := by
  simp only [insA, hg]; rfl
theorem run_draw_reg {ops : List CIns} {pairs : List (Nat × Nat)} (h : muteIn ops pairs = true) (s : St) : run H I N q (.draw ops pairs) s = run H I N q (.reg ops) s := run_draw h s

/-! ### Loops -/
/-- What a round comes to. -/
def Rnd (J : St → Prop) (Post : CEx → St → Prop) : CEx × St → Prop
  | (.norm, s) => J s
  | (x, s) => Post x s
theorem rnd_norm (J : St → Prop) (Post : CEx → St → Prop) (s : St) : Rnd J Post (.norm, s) = J s := rfl
theorem rnd_toNorm (J : St → Prop) (Post : CEx → St → Prop) (s : St) : Rnd J Post (toNorm s) = J s := rfl
theorem rnd_exit (J : St → Prop) (Post : CEx → St → Prop) (i : Nat) (s : St) : Rnd J Post (.exit i, s) = Post (.exit i) s := rfl
theorem rnd_ret (J : St → Prop) (Post : CEx → St → Prop) (s : St) : Rnd J Post (.ret, s) = Post .ret s := rfl
theorem for_from {f : St → Option (CEx × St)} {n : Nat} {J : Nat → St → Prop} {Post : CEx → St → Prop}
    (step : ∀ i e h, i < n → J i (e, h) → Ends (f (e, h)) (Rnd (J (i + 1)) Post)) (fin : ∀ e h, J n (e, h) → Ends (f (e, h)) (Rnd (fun _ => False) Post)) :
    ∀ (M i : Nat) (s : St), i ≤ n → n < M + i → J i s → Ends (iter f M s) (fun r => r.1 ≠ .norm ∧ Post r.1 r.2)
  | 0, i, s, hi, hM, _ => absurd hM (by omega)
  | M + 1, i, (e, h), hi, hM, hj => by
    have key : (∃ x s', f (e, h) = some (x, s') ∧ x ≠ .norm ∧ Post x s') ∨ (∃ s', f (e, h) = some (.norm, s') ∧ i < n ∧ J (i + 1) s') := by
      by_cases hlt : i < n
      · obtain ⟨⟨x, s'⟩, h1, h2⟩ := step i e h hlt hj
        cases x with
        | norm => exact .inr ⟨s', h1, hlt, h2⟩
        | exit j => exact .inl ⟨_, _, h1, by simp, h2⟩
        | ret => exact .inl ⟨_, _, h1, by simp, h2⟩
      · have : i = n := by omega
        subst this
        obtain ⟨⟨x, s'⟩, h1, h2⟩ := fin e h hj
        cases x with
        | norm => exact h2.elim
        | exit j => exact .inl ⟨_, _, h1, by simp, h2⟩
        | ret => exact .inl ⟨_, _, h1, by simp, h2⟩
    rcases key with ⟨x, s', h1, h2, h3⟩ | ⟨s', h1, h2, h3⟩
    · simp only [iter, h1]
      cases x with
      | norm => exact (h2 rfl).elim
      | exit j => exact ⟨_, rfl, h2, h3⟩
      | ret => exact ⟨_, rfl, h2, h3⟩
    · simp only [iter, h1]
      exact for_from step fin M (i + 1) s' (by omega) (by omega) h3
theorem for_loop {f : St → Option (CEx × St)} (n : Nat) (J : Nat → St → Prop) (Post : CEx → St → Prop)
    (step : ∀ i e h, i < n → J i (e, h) → Ends (f (e, h)) (Rnd (J (i + 1)) Post)) (fin : ∀ e h, J n (e, h) → Ends (f (e, h)) (Rnd (fun _ => False) Post))
    {M : Nat} {s : St} (hM : n < M) (h0 : J 0 s) : Ends (iter f M s) (fun r => r.1 ≠ .norm ∧ Post r.1 r.2) :=
  for_from step fin M 0 s (by omega) (by omega) h0
end

/-! ### What is known of functions -/
theorem good_of_ends {P : Program} {H : Hand} {I : Inl} {N q : Nat} (hH : HandOk P H) (hI : InlOk P I) (hm : P.follows .mixedOrders = true) {f : FuncId} {fn : Func} {c : CFn} (hf : P.funcs[f]? = some fn) (hc : compFn P fn = some c) {as : List AV} {r : AV}
    (hr : Ends (fnA H I N q c as hemp) (fun p => outA p = r)) : Enters P f ∧ Good P f as r :=
  good_of_out hH hI hm hf hc hr.eq

open Classical in
/-- The answer at arguments of this form. -/
noncomputable def hnd {X : Type} (enc : X → List AV) (pre : X → Prop) (res : X → AV) (as : List AV) : Option AV :=
  if h : ∃ x, pre x ∧ enc x = as then some (res h.choose) else none
theorem hnd_eq {X : Type} {enc : X → List AV} {pre : X → Prop} {res : X → AV} (hi : ∀ x y, enc x = enc y → x = y) {x : X} (hx : pre x) : hnd enc pre res (enc x) = some (res x) := by
  have h : ∃ y, pre y ∧ enc y = enc x := ⟨x, hx, rfl⟩
  unfold hnd
  rw [dif_pos h, hi _ _ h.choose_spec.2]
theorem hnd_ok {X : Type} {enc : X → List AV} {pre : X → Prop} {res : X → AV} {Q : List AV → AV → Prop} (h : ∀ x, pre x → Q (enc x) (res x)) (as : List AV) (r : AV) (hr : hnd enc pre res as = some r) : Q as r := by
  unfold hnd at hr
  split at hr
  · rename_i hx
    cases hr
    have := h _ hx.choose_spec.1
    rwa [hx.choose_spec.2] at this
  · cases hr

/-- A table of answers. -/
def mkH (l : List (FuncId × (List AV → Option AV))) : Hand := fun f as =>
  match l with
  | [] => none
  | (g, k) :: r => if f = g then k as else mkH r f as
theorem mkH_nil (f : FuncId) (as : List AV) : mkH [] f as = none := rfl
theorem mkH_cons (g : FuncId) (k : List AV → Option AV) (r : List (FuncId × (List AV → Option AV))) (f : FuncId) (as : List AV) : mkH ((g, k) :: r) f as = if f = g then k as else mkH r f as := rfl
theorem mkH_ok {P : Program} : ∀ {l : List (FuncId × (List AV → Option AV))}, (∀ p ∈ l, ∀ as r, p.2 as = some r → Enters P p.1 ∧ Good P p.1 as r) → HandOk P (mkH l)
  | [], _, f, as, r, hr => by cases hr
  | (g, k) :: l, h, f, as, r, hr => by
    rw [mkH_cons] at hr
    split at hr
    · rename_i e; subst e
      exact h _ List.mem_cons_self as r hr
    · exact mkH_ok (fun p hp => h p (List.mem_cons_of_mem _ hp)) f as r hr
/-- A table of code. -/
def mkT (l : List (FuncId × CFn)) : FuncId → Option CFn := fun f =>
  match l with
  | [] => none
  | (g, k) :: r => if f = g then some k else mkT r f
theorem mkT_ok {P : Program} : ∀ {l : List (FuncId × CFn)}, (∀ p ∈ l, ∃ fn, P.funcs[p.1]? = some fn ∧ compFn P fn = some p.2) → TabOk P (mkT l)
  | [], _, f, c, hr => by cases hr
  | (g, k) :: l, h, f, c, hr => by
    simp only [mkT] at hr
    split at hr
    · rename_i e; subst e
      cases hr
      exact h _ List.mem_cons_self
    · exact mkT_ok (fun p hp => h p (List.mem_cons_of_mem _ hp)) f c hr
theorem no_inl {P : Program} : InlOk P (fun _ _ _ _ => none) := fun _ _ _ _ _ _ h => by cases h
theorem norm_encI : norm ∘ encI = encI := by funext n; rfl
theorem norm_encB : norm ∘ encB = encB := by funext n; rfl
theorem encI_inj (a b : Int) (h : encI a = encI b) : a = b := by simpa [encI] using h
theorem encB_inj (a b : Bool) (h : encB a = encB b) : a = b := by simpa [encB] using h
theorem map_inj {α β : Type} {f : α → β} (hf : ∀ a b, f a = f b → a = b) : ∀ {xs ys : List α}, xs.map f = ys.map f → xs = ys
  | [], [], _ => rfl
  | x :: xs, y :: ys, h => by
    simp only [List.map_cons, List.cons.injEq] at h
    rw [hf x y h.1, map_inj hf h.2]
  | [], _ :: _, h => by cases h
  | _ :: _, [], h => by cases h

end Go.Proofs.Ytihljollfbogeaa

/- Entered functions, beside them functions that are told; slices.Clone told: a block of our own with the same elements. No condition. -/
set_option linter.unusedSimpArgs false
namespace Go.Proofs.Ytihljollfbogeaa
open Go Go.RowKit

/-- As 'inl'; what is not in the table is told by B. -/
noncomputable def inlB (B : Inl) (T : FuncId → Option CFn) (H : Hand) (N : Nat) : Nat → Inl
  | 0 => B
  | d + 1 => fun q f l h => match T f with
    | some c => fnA H (inlB B T H N d) N q c l h
    | none => B q f l h
theorem inlB_ok {P : Program} {H : Hand} {B : Inl} (hB : InlOk P B) (hH : HandOk P H) (hm : P.follows .mixedOrders = true) {T : FuncId → Option CFn} (hT : TabOk P T) (N : Nat) : ∀ d, InlOk P (inlB B T H N d)
  | 0 => hB
  | d + 1 => fun q f l h v h' hr => by
    simp only [inlB] at hr
    split at hr
    · rename_i c hTf
      obtain ⟨fn, hf, hc⟩ := hT f c hTf
      exact ⟨enters hf hc, fun base w α us r hb hl hv => fn_ok hH (inlB_ok hB hH hm hT N d) hm hf hc hr r hb hl hv⟩
    · exact hB q f l h v h' hr

def cloneC (k : Nat) : CFn := (CFn.mk [(CRes.tmp 2)] (CC.seq (CC.reg [(CIns.mk (Option.some 2) Option.none (COp.mv (Operand.const (Value.slice Option.none 0 0))))]) (CC.seq (CC.seq (CC.reg [(CIns.mk (Option.some 3) Option.none (COp.mv (Operand.tmp 0))), (CIns.mk (Option.some 4) Option.none (COp.isnil (Operand.tmp 3)))]) (CC.cond (Operand.tmp 4) (CC.seq (CC.reg [(CIns.mk (Option.some 2) Option.none (COp.mv (Operand.const (Value.slice Option.none 0 0))))]) CC.ret) CC.skip)) (CC.seq (CC.reg [(CIns.mk (Option.some 5) Option.none (COp.lit k [])), (CIns.mk (Option.some 6) Option.none (COp.mv (Operand.tmp 0))), (CIns.mk (Option.some 7) Option.none (COp.app k (Operand.tmp 5) (Operand.tmp 6))), (CIns.mk (Option.some 2) Option.none (COp.mv (Operand.tmp 7)))]) CC.ret))))

/-- The instances of Clone and their elements' cells. -/
def cloneI (l : List (FuncId × Nat)) : Inl := fun q f args h =>
  match l with
  | [] => none
  | (g, k) :: r => if f = g then (match args with | [a] => cloneA k q h a | _ => none) else cloneI r q f args h

section
attribute [local simp] run_skip run_ret run_exit run_seq run_block run_reg thn_norm thn_toNorm thn_ret thn_exit endB_norm endB_toNorm endB_ret endB_exit regA_nil regA_cons putA_some putA_none insA_plain opA COp.ev pu dl dl0 appD nameOf nameOr toNorm putA aEval_tmp aEval_func aEval_int aEval_bool aEval_nil edst eset_same eset_ne argEnv ressA resA tupA run_cond_true run_cond_false
theorem clone_run {H : Hand} {I : Inl} {N q k : Nat} {h : Hp} {a : AV} {xs : List AV} (h0 : oIsNil h a = some (.sc (.bool false))) (h1 : oElems h a = some xs) (h2 : xs.all (okEl k) = true) (h3 : xs.length ≤ LIM) (h4 : (xs.isEmpty && !(h (q * 512 + 7)).2.isDead) = false) :
    fnA H I N q (cloneC k) [a] h = some (.ref (q * 512 + 7) ((h (q * 512 + 7)).1 + 1) 0 xs.length, hset h (q * 512 + 7) ((h (q * 512 + 7)).1 + 1, .row k xs)) := by
  have h2' : (xs.all fun v => v.storable && decide (v.cells.length = k)) = true := h2
  have app : oAppend h (q * 512 + 7) k .nl xs = some (.ref (q * 512 + 7) ((h (q * 512 + 7)).1 + 1) 0 xs.length, hset h (q * 512 + 7) ((h (q * 512 + 7)).1 + 1, .row k xs)) := by
    unfold oAppend
    rw [if_pos h2']
    simp only [h4, if_pos h3]
    rfl
  have hat : hset h (q * 512 + 5) (h (q * 512 + 5)) = h := by
    funext m; simp only [hset]; split
    · rename_i e; rw [e]
    · rfl
  have hat2 : hset h (q * 512 + 7) (hset h (q * 512 + 7) ((h (q * 512 + 7)).1 + 1, .row k xs) (q * 512 + 7)) = hset h (q * 512 + 7) ((h (q * 512 + 7)).1 + 1, .row k xs) := by
    simp only [hset, if_true]
  have hz : ∀ r, frzD (q * 512 + 7) r = r := frzD_no (by omega)
  simp [fnA, cloneC, h0, h1, oLit, app, hat, hat2, hz]
theorem clone_run_none {H : Hand} {I : Inl} {N q k : Nat} {h : Hp} (A : Addr) (cap : Nat) (h4 : (!(h (q * 512 + 7)).2.isDead) = true) : fnA H I N q (cloneC k) [.sc (.slice (some A) 0 cap)] h = some (.nl, h) := by
  have app : oAppend h (q * 512 + 7) k .nl [] = some (.nl, h) := by
    unfold oAppend
    simp only [List.all_nil, if_true, List.isEmpty_nil, Bool.true_and, h4]
  have hat : hset h (q * 512 + 5) (h (q * 512 + 5)) = h := by
    funext m; simp only [hset]; split
    · rename_i e; rw [e]
    · rfl
  have hat2 : hset h (q * 512 + 7) (h (q * 512 + 7)) = h := by
    funext m; simp only [hset]; split
    · rename_i e; rw [e]
    · rfl
  have hz : ∀ r, frzD (q * 512 + 7) r = r := frzD_no (by omega)
  simp [fnA, cloneC, oIsNil, oElems, oLit, app, hat, hat2, hz]
theorem clone_run_nil {H : Hand} {I : Inl} {N q k : Nat} {h : Hp} (cap : Nat) : fnA H I N q (cloneC k) [.sc (.slice none 0 cap)] h = some (.nl, h) := by
  simp [fnA, cloneC, oIsNil]
end

theorem notNil_of {h : Hp} {a y : AV} {ys : List AV} (h1 : oElems h a = some (y :: ys)) : oIsNil h a = some (.sc (.bool false)) := by
  cases a with
  | nl => simp [oElems] at h1
  | sc v =>
    cases v with
    | slice A' n' c' => cases n' <;> simp [oElems] at h1
    | _ => simp [oElems] at h1
  | imm l => simp only [oElems, Option.some.injEq] at h1; subst h1; rfl
  | full l => simp only [oElems, Option.some.injEq] at h1; subst h1; rfl
  | ref m ver i len =>
    simp only [oElems] at h1
    obtain ⟨⟨sz, els⟩, k1, k2⟩ := Option.bind_eq_some_iff.1 h1
    split at k2
    · have k3 := congrArg List.length (Option.some.inj k2)
      cases len with
      | zero => simp at k3
      | succ len => simp only [oIsNil, k1, Option.map_some]
    · cases k2
  | _ => simp [oElems] at h1

theorem cloneA_ok {P : Program} {H : Hand} (hH : HandOk P H) (hm : P.follows .mixedOrders = true) {f : FuncId} {fn : Func} {k : Nat} (hf : P.funcs[f]? = some fn) (hc : compFn P fn = some (cloneC k)) {q : Nat} {a : AV} {h h' : Hp} {v : AV} (hr : cloneA k q h a = some (v, h')) :
    Enters P f ∧ ∀ (base : Nat) (w : World) (α : Al) (us : List Value), Rel base h w α → base ≤ w.heap.size → us.length = [a].length →
    (∀ (i : Nat) (x : AV) (u : Value), [a][i]? = some x → us[i]? = some u → V w (okA w α) α x u) →
    CallsIn Fence.wide 0 P f us.toArray w fun e w' => ∃ u, e = .returned u ∧ ∃ α', Rel base h' w' α' ∧ Ext w α w' α' ∧ V w' (okA w' α') α' v u := by
  refine ⟨enters hf hc, fun base w α us r hb hl hv => ?_⟩
  obtain ⟨xs, h1, h2⟩ := Option.bind_eq_some_iff.1 hr
  split at h2
  · rename_i hcond
    obtain ⟨g1, g2⟩ := hcond
    cases h2
    match us, hl with
    | [u], _ =>
    have hu : V w (okA w α) α a u := hv 0 a u rfl rfl
    have hk : ∀ y ∈ xs, y.cells.length = k := fun y hy => by
      have := List.all_eq_true.1 g1 y hy
      simp only [okEl, Bool.and_eq_true, decide_eq_true_eq] at this
      exact this.2
    have main : ∀ b : AV, (xs.isEmpty && !(h (q * 512 + 7)).2.isDead) = false → oIsNil h b = some (.sc (.bool false)) → oElems h b = some xs → V w (okA w α) α b u →
        CallsIn Fence.wide 0 P f [u].toArray w fun e w' => ∃ u', e = .returned u' ∧ ∃ α', Rel base (hset h (q * 512 + 7) ((h (q * 512 + 7)).1 + 1, .row k xs)) w' α' ∧ Ext w α w' α' ∧ V w' (okA w' α') α' (.ref (q * 512 + 7) ((h (q * 512 + 7)).1 + 1) 0 xs.length) u' := fun b b1 b2 b3 b4 =>
      fn_ok hH (no_inl (P := P)) (N := 0) hm hf hc (clone_run b2 b3 g1 g2 b1) r hb rfl (fun i x u' hx hu' => by
        match i, hx, hu' with
        | 0, hx, hu' => simp at hx hu'; subst hx; subst hu'; exact b4)
    obtain ⟨A, n, c, rfl, hn, _⟩ := elems_ok (P := P) r h1 hu hk
    cases xs with
    | cons y ys =>
      have hnil := notNil_of h1
      exact main a rfl hnil h1 hu
    | nil =>
      have hn0 : n = 0 := by simpa using hn
      subst hn0
      have none_ : ∀ b : AV, fnA H (fun _ _ _ _ => none) 0 q (cloneC k) [b] h = some (.nl, h) → V w (okA w α) α b (.slice A 0 c) →
          CallsIn Fence.wide 0 P f [Value.slice A 0 c].toArray w fun e w' => ∃ u', e = .returned u' ∧ ∃ α', Rel base (hset h (q * 512 + 7) ((h (q * 512 + 7)).1 + 1, .row k [])) w' α' ∧ Ext w α w' α' ∧ V w' (okA w' α') α' (.ref (q * 512 + 7) ((h (q * 512 + 7)).1 + 1) 0 0) u' := fun b hrun hbv => by
        have call := fn_ok hH (no_inl (P := P)) (N := 0) (q := q) hm hf hc hrun r hb rfl (us := [.slice A 0 c]) (fun i x u' hx hu' => by
          match i, hx, hu' with
          | 0, hx, hu' => simp at hx hu'; subst hx; subst hu'; exact hbv)
        refine CallsIn.mono call fun e w' he => ?_
        obtain ⟨u', rfl, α', r', x', hu'⟩ := he
        obtain ⟨r2, x2⟩ := r'.virt (q * 512 + 7) k
        cases hu' with
        | low _ _ h0 =>
          cases h0 with
          | nl A' =>
            exact ⟨_, rfl, _, r2, x'.trans x2, V.of_V1 (.ref _ _ _ _ _ 0 _ (Nat.le_refl _) (upd_same _ _ _) (Nat.le_refl _) fun _ => ⟨Nat.le_refl _, Nat.le_refl _, rfl⟩)⟩
      cases A with
      | some A =>
        cases hd : (!(h (q * 512 + 7)).2.isDead) with
        | false => exact main (.sc (.slice (some A) 0 c)) (by rw [hd]; rfl) rfl rfl (V.sc rfl)
        | true => exact none_ (.sc (.slice (some A) 0 c)) (clone_run_none A c hd) (V.sc rfl)
      | none => exact none_ (.sc (.slice none 0 c)) (clone_run_nil c) (V.sc rfl)
  · cases h2
/-- Told as a copy. -/
theorem clone_told {P : Program} (hm : P.follows .mixedOrders = true) {f : FuncId} {fn : Func} {k : Nat} (hf : P.funcs[f]? = some fn) (hc : compFn P fn = some (cloneC k)) (as : List AV) : Enters P f ∧ Good P f as (.mp k 0) := by
  have hH : HandOk P (mkH []) := mkH_ok fun p hp => by cases hp
  refine ⟨enters hf hc, fun q as h h' v hr => ?_⟩
  unfold copyA at hr
  split at hr
  · exact (cloneA_ok hH hm hf hc hr).2
  · cases hr
theorem cloneI_ok {P : Program} (hm : P.follows .mixedOrders = true) : ∀ {l : List (FuncId × Nat)}, (∀ p ∈ l, ∃ fn, P.funcs[p.1]? = some fn ∧ compFn P fn = some (cloneC p.2)) → InlOk P (cloneI l)
  | [], _, q, f, args, h, v, h', hr => by cases hr
  | (g, k) :: l, hl, q, f, args, h, v, h', hr => by
    simp only [cloneI] at hr
    split at hr
    · rename_i e
      subst e
      split at hr
      · obtain ⟨fn, h1, h2⟩ := hl _ List.mem_cons_self
        exact cloneA_ok (H := mkH []) (mkH_ok fun p hp => by cases hp) hm h1 h2 hr
      · cases hr
    · exact cloneI_ok hm (fun p hp => hl p (List.mem_cons_of_mem _ hp)) q f args h v h' hr

end Go.Proofs.Ytihljollfbogeaa

/- Tables of answers at given arguments, for runs without arguments of their own. No condition. -/
namespace Go.Proofs.Ytihljollfbogeaa
open Go Go.RowKit

def iA (n : Int) : AV := .sc (.int .i64 n)
def uA (n : Int) : AV := .sc (.int .u8 n)
def tabH (l : List (FuncId × List AV × AV)) : Hand := fun f args =>
  match l with
  | [] => none
  | (g, bs, r) :: t => if f = g ∧ allEq (AV.eqb 9) bs args = true then some r else tabH t f args
theorem tabH_ok {P : Program} : ∀ {l : List (FuncId × List AV × AV)}, (∀ p ∈ l, Enters P p.1 ∧ Good P p.1 p.2.1 p.2.2) → HandOk P (tabH l)
  | [], _, f, args, r, hr => by cases hr
  | (g, bs, r0) :: l, h, f, args, r, hr => by
    simp only [tabH] at hr
    split at hr
    · rename_i e
      obtain ⟨e1, e2⟩ := e
      subst e1
      have := allEq_eq (AV.eqb_eq 9) e2
      subst this
      cases hr
      exact h _ List.mem_cons_self
    · exact tabH_ok (fun p hp => h p (List.mem_cons_of_mem _ hp)) f args r hr

theorem mkT_nil {P : Program} : ∀ p ∈ ([] : List (FuncId × CFn)), ∃ fn, P.funcs[p.1]? = some fn ∧ compFn P fn = some p.2 := fun p hp => by cases hp
theorem mkT_more {P : Program} {g : FuncId} {c : CFn} {fn : Func} {l : List (FuncId × CFn)} (h1 : P.funcs[g]? = some fn) (h2 : compFn P fn = some c) (h : ∀ p ∈ l, ∃ fn, P.funcs[p.1]? = some fn ∧ compFn P fn = some p.2) : ∀ p ∈ (g, c) :: l, ∃ fn, P.funcs[p.1]? = some fn ∧ compFn P fn = some p.2 := fun p hp => by
  rcases List.mem_cons.1 hp with rfl | hp
  · exact ⟨fn, h1, h2⟩
  · exact h p hp
theorem cl_nil {P : Program} : ∀ p ∈ ([] : List (FuncId × Nat)), ∃ fn, P.funcs[p.1]? = some fn ∧ compFn P fn = some (cloneC p.2) := fun p hp => by cases hp
theorem cl_more {P : Program} {g : FuncId} {k : Nat} {fn : Func} {l : List (FuncId × Nat)} (h1 : P.funcs[g]? = some fn) (h2 : compFn P fn = some (cloneC k)) (h : ∀ p ∈ l, ∃ fn, P.funcs[p.1]? = some fn ∧ compFn P fn = some (cloneC p.2)) : ∀ p ∈ (g, k) :: l, ∃ fn, P.funcs[p.1]? = some fn ∧ compFn P fn = some (cloneC p.2) := fun p hp => by
  rcases List.mem_cons.1 hp with rfl | hp
  · exact ⟨fn, h1, h2⟩
  · exact h p hp
theorem tab_nil {P : Program} : ∀ p ∈ ([] : List (FuncId × List AV × AV)), Enters P p.1 ∧ Good P p.1 p.2.1 p.2.2 := fun p hp => by cases hp
theorem tab_more {P : Program} {g : FuncId} {bs : List AV} {r : AV} {l : List (FuncId × List AV × AV)} (h1 : Enters P g ∧ Good P g bs r) (h : ∀ p ∈ l, Enters P p.1 ∧ Good P p.1 p.2.1 p.2.2) : ∀ p ∈ (g, bs, r) :: l, Enters P p.1 ∧ Good P p.1 p.2.1 p.2.2 := fun p hp => by
  rcases List.mem_cons.1 hp with rfl | hp
  · exact h1
  · exact h p hp

/-! ### A slice of ours that grows from nothing -/
theorem hset_id (h : Hp) (n : Nat) : hset h n (h n) = h := (hset_none h n).symm
theorem hset_twice (h : Hp) (n : Nat) (x y : Nat × Blk) : hset (hset h n x) n y = hset h n y := by
  funext t; simp only [hset]; split <;> rfl
def grown (n v i : Nat) : AV := if i = 0 then .nl else .ref n (v + i) 0 i
def grownH (h : Hp) (n k : Nat) (L : List AV) : Hp := if L.length = 0 then h else hset h n ((h n).1 + L.length, .row k L)
theorem grown_zero (n v : Nat) : grown n v 0 = .nl := rfl
theorem grown_pos (n v i : Nat) (hi : 0 < i) : grown n v i = .ref n (v + i) 0 i := if_neg (by omega)
theorem grownH_nil (h : Hp) (n k : Nat) : grownH h n k [] = h := rfl
theorem grownH_ne {h : Hp} {n k m : Nat} {L : List AV} (hm : m ≠ n) : grownH h n k L m = h m := by
  unfold grownH; split
  · rfl
  · simp [hset, hm]
theorem nameOr_grown (n v i : Nat) : nameOr n (grown n v i) = n := by
  unfold grown; split <;> rfl
theorem app_grown {h : Hp} {n k i : Nat} {L : List AV} {x : AV} (hL : L.length = i) (hx : okEl k x = true) (hi : i < LIM) :
    oAppend (grownH h n k L) n k (grown n (h n).1 i) [x] = some (grown n (h n).1 (i + 1), grownH h n k (L ++ [x])) := by
  have hx' : ([x].all fun v => v.storable && decide (v.cells.length = k)) = true := by simpa [okEl] using hx
  unfold oAppend
  rw [if_pos hx']
  by_cases h0 : i = 0
  · subst h0
    have : L = [] := List.eq_nil_of_length_eq_zero hL
    subst this
    have hl : ¬ LIM = 0 := by omega
    simp [grown, grownH, hl]
  · have h1 : 0 < i := by omega
    have hl : i + 1 ≤ LIM := hi
    rw [grown_pos _ _ _ h1, grown_pos _ _ _ (by omega : 0 < i + 1)]
    have hG : grownH h n k L = hset h n ((h n).1 + i, .row k L) := by unfold grownH; rw [if_neg (by omega), hL]
    rw [hG]
    simp [rowAt?, hset, hL, hl, grownH, Nat.add_assoc]
    rw [← hL, List.take_length, if_neg (by omega), hset_twice]
theorem grownH_at {h : Hp} {n k : Nat} {L : List AV} {x : AV} : hset (grownH h n k L) n (grownH h n k (L ++ [x]) n) = grownH h n k (L ++ [x]) := by
  have h1 : ¬ (L ++ [x]).length = 0 := by simp
  have h2 : ∀ y, hset (grownH h n k L) n y = hset h n y := fun y => by
    unfold grownH; split
    · rfl
    · exact hset_twice ..
  rw [h2]
  unfold grownH
  rw [if_neg h1]
  funext t; simp only [hset]; split <;> rfl
theorem nameOr_ptr (n m v e c : Nat) : nameOr n (.ptr m v e c) = m := rfl
theorem nameOr_ref (n m v i l : Nat) : nameOr n (.ref m v i l) = m := rfl
theorem nameOr_mp (n m v : Nat) : nameOr n (.mp m v) = m := rfl
theorem nameOr_nl (n : Nat) : nameOr n .nl = n := rfl
theorem nameOr_full (n : Nat) (xs : List AV) : nameOr n (.full xs) = n := rfl
theorem fzRow_all {k i : Nat} {L : List AV} (hi : L.length = i) (hp : L.all AV.pure = true) : fzRow (some (k, L)) 0 i = .imm (L.map norm) := by
  subst hi
  rw [fzRow_some, if_pos ⟨by omega, hp⟩, List.drop_zero, List.take_length]
/-! ### Conditions and guards, known or not -/
def isBool : AV → Bool
  | .sc (.bool _) => true
  | _ => false
def boolOf : AV → Bool
  | .sc (.bool b) => b
  | _ => false
theorem isBool_eq {a : AV} (h : isBool a = true) : a = .sc (.bool (boolOf a)) := by
  unfold isBool at h
  split at h
  · rfl
  · cases h
theorem run_condB {H : Hand} {I : Inl} {N q : Nat} {c : Operand} {e : Env} {h : Hp} (a b : CC) (hc : isBool (aEval e c) = true) : run H I N q (.cond c a b) (e, h) = if boolOf (aEval e c) = true then run H I N q a (e, h) else run H I N q b (e, h) := run_cond (isBool_eq hc) a b
theorem insA_b {H : Hand} {I : Inl} {q g : Nat} {want : Bool} {e : Env} {h : Hp} (d : Option Nat) (c : COp) (hg : isBool (e g) = true) : insA H I q ⟨d, some (g, want), c⟩ (e, h) = if boolOf (e g) = want then (opA H I (nameOf q d) c (e, h)).map (putA d) else some (edst e d (.tup []), h) := insA_split d c (isBool_eq hg)
theorem insD_b {H : Hand} {I : Inl} {q g : Nat} {want : Bool} {e : Env} {h : Hp} (d : Option Nat) (c : COp) (hg : isBool (e g) = true) : insD H I q ⟨d, some (g, want), c⟩ (e, h) = if boolOf (e g) = want then (opD H I (nameOf q d) c (e, h)).map (putD e d) else some ((edst e d (.tup []), h), .nothing) := by
  have := isBool_eq hg
  generalize boolOf (e g) = b at this
  simp only [insD, this]
  rfl
theorem range_map_succ {β : Type} (f : Nat → β) (i : Nat) : (List.range (i + 1)).map f = (List.range i).map f ++ [f i] := by rw [List.range_succ, List.map_append]; rfl
end Go.Proofs.Ytihljollfbogeaa
