/- Operations that do not touch each other may change places. No condition. -/
import Derived.Test.YtihljollfbogeaaA18
namespace Go.Proofs.Ytihljollfbogeaa
open Go Go.RowKit

/-- What an operation is given. -/
def COp.xs : COp → List Operand
  | .mv x | .inv x | .isnil x | .chk x | .box x | .load _ _ x | .faddr _ x | .field _ _ _ x | .ext _ x | .cint _ x | .cstr x | .make _ _ x | .mk0 _ x | .len x | .cap x | .clr _ _ x => [x]
  | .pick c a b => [c, a, b]
  | .bin _ _ _ x y | .store _ x y | .iaddrS _ x y | .iaddrA _ _ x y | .mn x y | .mx x y | .app _ x y | .appZ _ _ x y | .cpy _ x y | .mget _ x y => [x, y]
  | .alloc _ | .mnew => []
  | .lit _ xs => xs
  | .build _ ps => ps.map (·.2.2)
  | .slc _ x lo hi m => x :: (lo.toList ++ hi.toList ++ m.toList)
  | .mput m k v => [m, k, v]
  | .fn _ a b => a ++ b
  | .call _ as => as
  | .callv x as => x :: as

def tmpOf : Operand → Option Nat
  | .tmp t => some t
  | _ => none
def CIns.looks (i : CIns) : List Nat := i.op.xs.filterMap tmpOf ++ (match i.guard with | some (g, _) => [g] | none => [])

section
variable {H : Hand} {I : Inl} {q : Nat}

theorem aEval_same {e e' : Env} {x : Operand} (h : ∀ t, tmpOf x = some t → e' t = e t) : aEval e' x = aEval e x := by
  cases x with
  | tmp t => exact h t rfl
  | _ => rfl
theorem same_xs {e e' : Env} {i : CIns} (h : ∀ t ∈ i.looks, e' t = e t) : ∀ x ∈ i.op.xs, aEval e' x = aEval e x := fun x hx =>
  aEval_same fun t ht => h t (List.mem_append_left _ (List.mem_filterMap.2 ⟨x, hx, ht⟩))
theorem map_same {e e' : Env} {l : List Operand} (h : ∀ x ∈ l, aEval e' x = aEval e x) : l.map (aEval e') = l.map (aEval e) := List.map_congr_left h
theorem omap_same {e e' : Env} {l : Option Operand} (h : ∀ x ∈ l.toList, aEval e' x = aEval e x) : l.map (aEval e') = l.map (aEval e) := by
  cases l with
  | none => rfl
  | some x => simp [h x (by simp)]
theorem parts_same {e e' : Env} {l : List (Nat × Nat × Operand)} (h : ∀ x ∈ l.map (·.2.2), aEval e' x = aEval e x) : (l.map fun p => (p.1, p.2.1, aEval e' p.2.2)) = l.map fun p => (p.1, p.2.1, aEval e p.2.2) :=
  List.map_congr_left fun p hp => by rw [h p.2.2 (List.mem_map.2 ⟨p, hp, rfl⟩)]

theorem ev_env {c : COp} {e e' : Env} {n : Nat} {h : Hp} (hx : ∀ x ∈ c.xs, aEval e' x = aEval e x) : c.ev n e' h = c.ev n e h := by
  cases c with
  | lit k xs => simp only [COp.ev]; rw [map_same (by simpa [COp.xs] using hx)]
  | build z ps => simp only [COp.ev]; rw [parts_same (by simpa [COp.xs] using hx)]
  | slc k x lo hi m =>
    simp only [COp.ev]
    rw [hx x (by simp [COp.xs]), omap_same (fun y hy => hx y (by simp only [COp.xs, List.mem_cons, List.mem_append]; exact .inr (.inl (.inl hy)))),
      omap_same (fun y hy => hx y (by simp only [COp.xs, List.mem_cons, List.mem_append]; exact .inr (.inl (.inr hy)))), omap_same (fun y hy => hx y (by simp only [COp.xs, List.mem_cons, List.mem_append]; exact .inr (.inr hy)))]
  | fn f a b =>
    simp only [COp.ev]
    rw [map_same (fun y hy => hx y (by simp only [COp.xs, List.mem_append]; exact .inl hy)), map_same (fun y hy => hx y (by simp only [COp.xs, List.mem_append]; exact .inr hy))]
  | call f as => rfl
  | callv x as => rfl
  | _ => simp only [COp.xs, List.mem_cons, List.not_mem_nil, or_false, forall_eq_or_imp, forall_eq] at hx <;> simp only [COp.ev, hx]
theorem rd_env {c : COp} {e e' : Env} {n : Nat} (hx : ∀ x ∈ c.xs, aEval e' x = aEval e x) : c.rd n e' = c.rd n e ∧ c.wr n e' = c.wr n e := by
  cases c with
  | slc k x lo hi m => exact ⟨by simp only [COp.rd]; rw [hx x (by simp [COp.xs])], rfl⟩
  | lit => exact ⟨rfl, rfl⟩
  | build => exact ⟨rfl, rfl⟩
  | fn => exact ⟨rfl, rfl⟩
  | call => exact ⟨rfl, rfl⟩
  | callv => exact ⟨rfl, rfl⟩
  | _ => simp only [COp.xs, List.mem_cons, List.not_mem_nil, or_false, forall_eq_or_imp, forall_eq] at hx <;> simp only [COp.rd, COp.wr, hx, and_self]

/-! ### What an operation does not look at may be anything -/
theorem rowAt_same {h h' : Hp} {n ver : Nat} (e : h' n = h n) : rowAt? h' n ver = rowAt? h n ver := by unfold rowAt?; rw [e]
theorem oElems_same {h h' : Hp} {x : AV} (e : ∀ m ∈ x.nms, h' m = h m) : oElems h' x = oElems h x := by
  cases x with
  | ref n ver i len => simp only [oElems]; rw [rowAt_same (e n (by simp [AV.nms, AV.nms1]))]
  | sc v => cases v with
    | slice A n c => cases n <;> rfl
    | _ => rfl
  | _ => rfl
theorem oIsNil_same {h h' : Hp} {x : AV} (e : ∀ m ∈ x.nms, h' m = h m) : oIsNil h' x = oIsNil h x := by
  cases x with
  | ref n ver i len => cases len with
    | zero => rfl
    | succ len => simp only [oIsNil]; rw [rowAt_same (e n (by simp [AV.nms, AV.nms1]))]
  | sc v => cases v <;> rfl
  | imm l => cases l <;> rfl
  | full l => cases l <;> rfl
  | _ => rfl
theorem oLoad_same {h h' : Hp} {agg : Bool} {k : Nat} {x : AV} (e : ∀ m ∈ x.nms, h' m = h m) : oLoad agg k h' x = oLoad agg k h x := by
  cases x with
  | ptr n ver i len => simp only [oLoad]; rw [rowAt_same (e n (by simp [AV.nms, AV.nms1]))]
  | _ => rfl
theorem oIndexS_same {h h' : Hp} {k : Nat} {x i : AV} (e : ∀ m ∈ x.nms, h' m = h m) : oIndexS k h' x i = oIndexS k h x i := by
  cases x with
  | ref n ver i0 len => simp only [oIndexS]; rw [rowAt_same (e n (by simp [AV.nms, AV.nms1]))]
  | _ => rfl
theorem oSlice_same {h h' : Hp} {k : Nat} {x : AV} {lo hi mx : Option AV} (e : ∀ m ∈ x.nms, h' m = h m) : oSlice h' k x lo hi mx = oSlice h k x lo hi mx := by
  cases x with
  | ref n ver i0 len => simp only [oSlice]; rw [rowAt_same (e n (by simp [AV.nms, AV.nms1]))]
  | _ => rfl
theorem oMapGet_same {h h' : Hp} {z m k : AV} (e : ∀ n ∈ m.nms, h' n = h n) : oMapGet h' z m k = oMapGet h z m k := by
  cases m with
  | mp n ver =>
    have e' := e n (by simp [AV.nms, AV.nms1])
    cases k with
    | sc v => cases v with
      | int kk i => cases kk <;> simp only [oMapGet, e']
      | _ => rfl
    | _ => rfl
  | _ => rfl

theorem dl_set {h h' : Hp} {n : Nat} {v : AV} {x x' : Nat × Blk} (e : x' = x) : dl n (some (v, hset h' n x')) = dl n (some (v, hset h n x)) := by
  subst e; simp [dl, hset]
theorem dl_here {h h' : Hp} {n : Nat} {v : AV} (e : h' n = h n) : dl n (some (v, h')) = dl n (some (v, h)) := by
  simp [dl, e]
theorem dl0_set {h h' : Hp} {n : Nat} {x x' : Nat × Blk} (e : x' = x) : dl0 n (some (hset h' n x')) = dl0 n (some (hset h n x)) := by
  subst e; simp [dl0, hset]
theorem dl0_here {h h' : Hp} {n : Nat} (e : h' n = h n) : dl0 n (some h') = dl0 n (some h) := by
  simp [dl0, e]

theorem oNew_same {h h' : Hp} {n : Nat} {v : AV} (e : h' n = h n) : dl n (oNew h' n v) = dl n (oNew h n v) := by
  unfold oNew; split
  · rw [e]; exact dl_set rfl
  · rfl
theorem oStore_same {h h' : Hp} {n k : Nat} {p v : AV} (e : h' (nameOr n p) = h (nameOr n p)) : dl0 (nameOr n p) (oStore k h' p v) = dl0 (nameOr n p) (oStore k h p v) := by
  unfold oStore
  split
  · rename_i n0 ver e0 c0
    simp only [nameOr] at e ⊢
    rw [rowAt_same e]
    cases rowAt? h _ _ with
    | none => rfl
    | some r =>
      simp only [Option.bind_some]
      cases r.2[e0]? with
      | none => rfl
      | some el =>
        simp only [Option.bind_some]
        split
        · exact dl0_set rfl
        · rfl
  · rfl
theorem oMake_same {h h' : Hp} {n k : Nat} {z x : AV} (e : h' n = h n) : dl n (oMake h' n k z x) = dl n (oMake h n k z x) := by
  unfold oMake; split
  · split
    · rw [e]; exact dl_set rfl
    · rfl
  · rfl
theorem oMk0_same {h h' : Hp} {n k : Nat} {x : AV} (e : h' n = h n) : dl n (oMk0 h' n k x) = dl n (oMk0 h n k x) := by
  unfold oMk0; split
  · split
    · rw [e]; exact dl_set rfl
    · rfl
  · rfl
theorem oLit_same {h h' : Hp} {n k : Nat} {vs : List AV} (e : h' n = h n) : dl n (oLit h' n k vs) = dl n (oLit h n k vs) := by
  unfold oLit
  split
  · split
    · exact dl_here e
    · split
      · exact dl_here e
      · rw [e]; exact dl_set rfl
  · rfl
theorem oAppend_same {h h' : Hp} {n k : Nat} {s : AV} {ys : List AV} (e : h' (nameOr n s) = h (nameOr n s)) : dl (nameOr n s) (oAppend h' n k s ys) = dl (nameOr n s) (oAppend h n k s ys) := by
  unfold oAppend
  split
  · split
    · simp only [nameOr] at e ⊢
      rw [e]
      split
      · exact dl_here e
      · split
        · exact dl_set rfl
        · rfl
    · simp only [nameOr] at e ⊢
      split
      · exact dl_here e
      · split
        · rw [e]; exact dl_set rfl
        · rfl
    · simp only [nameOr] at e ⊢
      rw [rowAt_same e]
      cases rowAt? h _ _ with
      | none => rfl
      | some r =>
        simp only [Option.bind_some]
        split
        · split
          · exact dl_set rfl
          · split
            · exact dl_set rfl
            · rfl
        · rfl
    · rfl
  · rfl
theorem oCopy_same {h h' : Hp} {n k : Nat} {s : AV} {ys : List AV} (e : h' (nameOr n s) = h (nameOr n s)) : dl (nameOr n s) (oCopy h' k s ys) = dl (nameOr n s) (oCopy h k s ys) := by
  unfold oCopy
  split
  · split
    · simp only [nameOr] at e ⊢
      rw [rowAt_same e]
      cases rowAt? h _ _ with
      | none => rfl
      | some r =>
        simp only [Option.bind_some]
        split
        · exact dl_set rfl
        · rfl
    · rfl
  · rfl
theorem oClear_same {h h' : Hp} {n k : Nat} {z s : AV} (e : h' (nameOr n s) = h (nameOr n s)) : dl0 (nameOr n s) (oClear h' k z s) = dl0 (nameOr n s) (oClear h k z s) := by
  unfold oClear
  split
  · split
    · exact dl0_here e
    · simp only [nameOr] at e ⊢
      rw [rowAt_same e]
      cases rowAt? h _ _ with
      | none => rfl
      | some r =>
        simp only [Option.bind_some]
        split
        · exact dl0_set rfl
        · rfl
    · rfl
  · rfl
theorem oMapPut_same {h h' : Hp} {n : Nat} {m k v : AV} (e : h' (nameOr n m) = h (nameOr n m)) : dl0 (nameOr n m) (oMapPut h' m k v) = dl0 (nameOr n m) (oMapPut h m k v) := by
  unfold oMapPut
  split
  · simp only [nameOr] at e ⊢
    rw [e]
    split
    · split
      · exact dl0_set rfl
      · rfl
    · rfl
  · rfl

theorem ev_heap {c : COp} {e : Env} {n : Nat} {h h' : Hp} (hh : ∀ m ∈ c.rd n e, h' m = h m) : c.ev n e h' = c.ev n e h := by
  cases c with
  | alloc z => exact oNew_same (hh n (by simp [COp.rd]))
  | box x => exact oNew_same (hh n (by simp [COp.rd]))
  | load agg k p => simp only [COp.ev]; rw [oLoad_same (by simpa [COp.rd] using hh)]
  | store k p v => exact oStore_same (hh _ (by simp [COp.rd]))
  | iaddrS k x i => simp only [COp.ev]; rw [oIndexS_same (by simpa [COp.rd] using hh)]
  | isnil x => simp only [COp.ev]; rw [oIsNil_same (by simpa [COp.rd] using hh)]
  | cstr x => simp only [COp.ev, oConvStr]; rw [oElems_same (by simpa [COp.rd] using hh)]
  | make k z x => exact oMake_same (hh n (by simp [COp.rd]))
  | mk0 k x => exact oMk0_same (hh n (by simp [COp.rd]))
  | lit k xs => exact oLit_same (hh n (by simp [COp.rd]))
  | slc k x lo hi m => simp only [COp.ev]; rw [oSlice_same (by simpa [COp.rd] using hh)]
  | app k s x =>
    simp only [COp.ev]
    rw [oElems_same (x := aEval e x) (fun m hm => hh m (by simp only [COp.rd]; exact List.mem_cons_of_mem _ hm))]
    cases oElems h (aEval e x) with
    | none => rfl
    | some ys => exact oAppend_same (hh _ (by simp [COp.rd]))
  | appZ k z s x =>
    simp only [COp.ev]
    split
    · split
      · exact oAppend_same (s := .nl) (hh n (by simp [COp.rd]))
      · rfl
    · rfl
  | cpy k d x =>
    simp only [COp.ev]
    rw [oElems_same (x := aEval e x) (fun m hm => hh m (by simp only [COp.rd]; exact List.mem_cons_of_mem _ hm))]
    cases oElems h (aEval e x) with
    | none => rfl
    | some ys => exact oCopy_same (hh _ (by simp [COp.rd]))
  | clr k z d => exact oClear_same (hh _ (by simp [COp.rd]))
  | mnew =>
    have := hh n (by simp [COp.rd])
    simp only [COp.ev, oMapNew]
    rw [this]; exact dl_set rfl
  | mput m k v => exact oMapPut_same (hh _ (by simp [COp.rd]))
  | mget z m k => simp only [COp.ev]; rw [oMapGet_same (by simpa [COp.rd] using hh)]
  | _ => rfl

theorem dl_name {n : Nat} {r : Option (AV × Hp)} {v : AV} {d : Dl} (h : dl n r = some (v, d)) : d.map (·.1) = some n := by
  unfold dl at h; obtain ⟨_, _, h2⟩ := Option.map_eq_some_iff.1 h; cases h2; rfl
theorem dl0_name {n : Nat} {r : Option Hp} {v : AV} {d : Dl} (h : dl0 n r = some (v, d)) : d.map (·.1) = some n := by
  unfold dl0 at h; obtain ⟨_, _, h2⟩ := Option.map_eq_some_iff.1 h; cases h2; rfl
theorem pu_name {r : Option AV} {v : AV} {d : Dl} (h : pu r = some (v, d)) : d.map (·.1) = (none : Option Nat) := by
  rw [(pu_some h).2]; rfl
theorem ev_name {c : COp} {e : Env} {n : Nat} {h : Hp} {v : AV} {d : Dl} (hv : c.ev n e h = some (v, d)) : d.map (·.1) = c.wr n e := by
  cases c <;> simp only [COp.ev] at hv <;> first
    | exact dl_name hv
    | exact dl0_name hv
    | exact pu_name hv
    | (cases hv; rfl)
    | (split at hv <;> first | (cases hv; rfl) | (cases hv; done) | skip)
    | cases hv
  · split at hv
    · exact dl_name hv
    · cases hv
theorem wr_rd {c : COp} {e : Env} {n m : Nat} (h : c.wr n e = some m) : m ∈ c.rd n e := by
  cases c <;> simp only [COp.wr] at h <;> first | (cases h; done) | (cases h; simp [COp.rd])

end
end Go.Proofs.Ytihljollfbogeaa
