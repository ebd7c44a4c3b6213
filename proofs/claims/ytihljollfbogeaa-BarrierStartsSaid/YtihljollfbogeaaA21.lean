/- Drawn regions of the small language are those of the program. No condition. -/
import Derived.Test.YtihljollfbogeaaA20
namespace Go.Proofs.Ytihljollfbogeaa
open Go Go.RowKit

/-- What an operation waits for. -/
def edgesOf (o : Oper) : List Nat := (o.after.toList.filter (Region.binds .any)).map (·.on)
def addTo (x : Nat) (l : List Nat) : List Nat := if l.contains x then l else x :: l
/-- Whatever comes before, for each operation. -/
def ancTab : List (List Nat) → List (List Nat) → List (List Nat)
  | acc, [] => acc
  | acc, es :: r => ancTab (acc ++ [es.foldr (fun e l => addTo e ((acc.getD e []).foldr addTo l)) []]) r
def anc (tb : List (List Nat)) (j i : Nat) : Bool := (tb.getD i []).contains j
def ancOk (es tb : List (List Nat)) : Bool :=
  (List.range tb.length).all fun i => (tb.getD i []).all fun j => (es.getD i []).any fun e => e == j || (decide (e < i) && anc tb j e)
def edgesLt (es : List (List Nat)) : Bool := (List.range es.length).all fun i => (es.getD i []).all fun e => decide (e < i)
def unord (tb : List (List Nat)) (n : Nat) : List (Nat × Nat) := (List.range n).flatMap fun i => ((List.range i).filter fun j => !anc tb j i).map fun j => (j, i)

/-- Looks at no block. -/
def COp.quiet : COp → Bool
  | .mv _ | .pick .. | .inv _ | .bin .. | .chk _ | .faddr .. | .iaddrA .. | .field .. | .ext .. | .cint .. | .build .. | .len _ | .cap _ | .mn .. | .mx .. | .fn .. => true
  | _ => false

def loudPair (cs : List CIns) (p : Nat × Nat) : Bool := match cs[p.1]?, cs[p.2]? with | some x, some y => !x.op.quiet && !y.op.quiet | _, _ => false
def apartPair (cs : List CIns) (p : Nat × Nat) : Bool := match cs[p.1]?, cs[p.2]? with | some x, some y => slotsApart x y | _, _ => false

def compDraw (P : Program) (nt : Nat) (ops : List Oper) : Option CC :=
  match compAll P nt ops ops with
  | none => none
  | some cs =>
    if (ancOk (ops.map edgesOf) (ancTab [] (ops.map edgesOf)) && edgesLt (ops.map edgesOf) && (unord (ancTab [] (ops.map edgesOf)) cs.length).all (apartPair cs)) = true
    then some (.draw cs ((unord (ancTab [] (ops.map edgesOf)) cs.length).filter (loudPair cs))) else none

section
variable {P : Program} {w : World} {α : Al} {base nt : Nat} {h : Hp} {H : Hand} {I : Inl} {q : Nat}

theorem compAll_get {ops : List Oper} : ∀ {l : List Oper} {cs : List CIns}, compAll P nt ops l = some cs → cs.length = l.length ∧ ∀ (i : Nat) (o : Oper), l[i]? = some o → ∃ c, cs[i]? = some c ∧ compIns P nt ops o = some c
  | [], cs, h => by cases h; exact ⟨rfl, fun i o h => by simp at h⟩
  | o :: l, cs, h => by
    unfold compAll at h
    split at h
    · rename_i c cs' h1 h2
      cases h
      obtain ⟨h3, h4⟩ := compAll_get h2
      refine ⟨by simp [h3], fun i o' ho => ?_⟩
      cases i with
      | zero => simp at ho; subst ho; exact ⟨c, rfl, h1⟩
      | succ i => exact h4 i o' (by simpa using ho)
    · cases h

theorem quiet_rd {c : COp} {n : Nat} {e : Env} (hq : c.quiet = true) : c.isCall = false ∧ c.rd n e = [] ∧ c.wr n e = none := by
  cases c <;> first | exact ⟨rfl, rfl, rfl⟩ | (simp [COp.quiet] at hq)
theorem indep_quiet {x : Ev} : indep (.simple [] none) x = true ∧ indep x (.simple [] none) = true := by
  cases x with
  | nothing => exact ⟨rfl, rfl⟩
  | simple r w => constructor <;> cases w <;> simp [indep]
  | call h h' => constructor <;> simp [indep, quick]
theorem indep_nothing {x : Ev} : indep .nothing x = true ∧ indep x .nothing = true := by
  cases x with
  | nothing => exact ⟨rfl, rfl⟩
  | simple r w => exact ⟨rfl, by cases w <;> rfl⟩
  | call h h' => exact ⟨rfl, rfl⟩
theorem quiet_ev {i : CIns} {s s1 : St} {ev : Ev} (hq : i.op.quiet = true) (h : insD H I q i s = some (s1, ev)) : ev = .nothing ∨ ev = .simple [] none := by
  have op : ∀ r, opD H I (nameOf q i.dst) i.op s = some r → r.2.2 = .simple [] none := fun r hr => by
    obtain ⟨hc, h1, h2⟩ := quiet_rd (n := nameOf q i.dst) (e := s.1) hq
    have : opD H I (nameOf q i.dst) i.op s = ((i.op.ev (nameOf q i.dst) s.1 s.2).map fun q' => (q'.1, appD s.2 q'.2, .simple (i.op.rd (nameOf q i.dst) s.1) (i.op.wr (nameOf q i.dst) s.1))) := by
      cases hop : i.op <;> rw [hop] at hc <;> first | rfl | (simp [COp.isCall] at hc)
    rw [this, h1, h2] at hr
    obtain ⟨y, _, h4⟩ := Option.map_eq_some_iff.1 hr
    rw [← h4]
  unfold insD at h
  split at h
  · obtain ⟨r, h1, h2⟩ := Option.map_eq_some_iff.1 h
    cases h2
    exact .inr (op r h1)
  · split at h
    · split at h
      · obtain ⟨r, h1, h2⟩ := Option.map_eq_some_iff.1 h
        cases h2
        exact .inr (op r h1)
      · cases h; exact .inl rfl
    · cases h; exact .inl rfl
    · cases h

/-- A state's drawn run gives each operation what it did. -/
theorem drawA_get : ∀ {cs : List CIns} {s s' : St} {evs : List Ev}, drawA H I q cs s = some (s', evs) → evs.length = cs.length ∧ ∀ (i : Nat) (c : CIns) (ev : Ev), cs[i]? = some c → evs[i]? = some ev → ∃ s1 s2, insD H I q c s1 = some (s2, ev)
  | [], s, s', evs, h => by cases h; exact ⟨rfl, fun i c ev h => by simp at h⟩
  | c :: cs, s, s', evs, h => by
    simp only [drawA] at h
    obtain ⟨⟨s1, ev⟩, h1, h2⟩ := Option.bind_eq_some_iff.1 h
    obtain ⟨⟨s2, evs'⟩, h3, h4⟩ := Option.map_eq_some_iff.1 h2
    cases h4
    obtain ⟨h5, h6⟩ := drawA_get h3
    refine ⟨by simp [h5], fun i c' ev' hc he => ?_⟩
    cases i with
    | zero => simp at hc he; subst hc; subst he; exact ⟨s, s1, h1⟩
    | succ i => exact h6 i c' ev' (by simpa using hc) (by simpa using he)

/-- What was listed is closed: whoever comes before something listed is listed. -/
theorem listed_anc {es tb : List (List Nat)} {L : Nat → Prop} (hok : ancOk es tb = true) (hcl : ∀ k, L k → ∀ e ∈ es.getD k [], L e) : ∀ (i j : Nat), anc tb j i = true → (∀ e ∈ es.getD i [], L e) → L j := by
  intro i
  induction i using Nat.strongRecOn with
  | _ i ih =>
    intro j ha hl
    have hlt : i < tb.length := by
      rcases Nat.lt_or_ge i tb.length with h | h
      · exact h
      · unfold anc at ha
        rw [List.getD_eq_getElem?_getD, List.getElem?_eq_none h] at ha
        simp at ha
    have h1 := List.all_eq_true.1 hok i (List.mem_range.2 hlt)
    have h2 := List.all_eq_true.1 h1 j (by simpa [anc] using ha)
    obtain ⟨e, he, h3⟩ := List.any_eq_true.1 h2
    simp only [Bool.or_eq_true, beq_iff_eq, Bool.and_eq_true, decide_eq_true_eq] at h3
    rcases h3 with rfl | ⟨h3, h4⟩
    · exact hl _ he
    · exact ih e h3 j h4 (hcl e (hl e he))

theorem any_ok (hH : HandOk P H) (hI : InlOk P I) {ops : Array Oper} {es tb : List (List Nat)} (hes : es = ops.toList.map edgesOf) (hok : ancOk es tb = true) (hlt : edgesLt es = true) {Q : Exit → Act → World → Prop} :
    ∀ (fuel : Nat) (listed : Array Bool) (rem : List (Nat × CIns × Ev)) (s s' : St) (a : Act) (w : World) (α : Al), rem.length = fuel → listed.size = ops.size →
      (∀ r ∈ rem, ∃ o, ops[r.1]? = some o ∧ compIns P nt ops.toList o = some r.2.1) →
      (∀ k, k ∈ rem.map (·.1) ↔ k < ops.size ∧ listed.getD k true = false) →
      rem.Pairwise (fun x y => x.1 < y.1 ∧ (anc tb x.1 y.1 = true ∨ (slotsApart x.2.1 y.2.1 = true ∧ indep x.2.2 y.2.2 = true))) →
      (∀ k, listed.getD k false = true → ∀ e ∈ es.getD k [], listed.getD e false = true) →
      drawA H I q (rem.map (·.2.1)) s = some (s', rem.map (·.2.2)) → Inv nt base s a w α → (∀ a' w' α', Inv nt base s' a' w' α' → Ext w α w' α' → Q .normal a' w') →
      wpAnyIn Fence.wide 0 P .any ops Q fuel listed a w := by
  have rdy : ∀ (listed : Array Bool) (i : Nat), i ∈ Region.ready .any ops listed ↔ i < ops.size ∧ listed.getD i true = false ∧ ∀ e ∈ es.getD i [], listed.getD e false = true := by
    intro listed i
    unfold Region.ready
    rw [List.mem_filter, List.mem_range]
    constructor
    · rintro ⟨h1, h2⟩
      simp only [Bool.and_eq_true, Bool.not_eq_true'] at h2
      refine ⟨h1, h2.1, fun e he => ?_⟩
      have ho : ops[i]? = some ops[i] := by simp [h1]
      have h3 := h2.2
      rw [ho] at h3
      simp only [Option.map_some, Option.getD_some] at h3
      rw [hes, List.getD_eq_getElem?_getD, List.getElem?_map] at he
      simp only [Array.getElem?_toList, ho, Option.map_some, Option.getD_some, edgesOf] at he
      obtain ⟨e', he', rfl⟩ := List.mem_map.1 he
      obtain ⟨he1, he2⟩ := List.mem_filter.1 he'
      have := Array.all_eq_true_iff_forall_mem.1 h3 e' (Array.mem_toList_iff.1 he1)
      simpa [he2] using this
    · rintro ⟨h1, h2, h3⟩
      refine ⟨h1, ?_⟩
      simp only [Bool.and_eq_true, Bool.not_eq_true']
      refine ⟨h2, ?_⟩
      have ho : ops[i]? = some ops[i] := by simp [h1]
      rw [ho]
      simp only [Option.map_some, Option.getD_some]
      refine Array.all_eq_true_iff_forall_mem.2 fun e he => ?_
      cases hb : Region.binds .any e with
      | false => simp
      | true =>
        simp only [Bool.not_true, Bool.false_or]
        refine h3 e.on ?_
        rw [hes, List.getD_eq_getElem?_getD, List.getElem?_map]
        simp only [Array.getElem?_toList, ho, Option.map_some, Option.getD_some, edgesOf]
        exact List.mem_map.2 ⟨e, List.mem_filter.2 ⟨Array.mem_toList_iff.2 he, hb⟩, rfl⟩
  intro fuel
  induction fuel with
  | zero =>
    intro listed rem s s' a w α hl hsz hops hmem hpw hcl hd inv hQ
    have hr : rem = [] := List.eq_nil_of_length_eq_zero hl
    subst hr
    cases hd
    refine ⟨?_, hQ a w α inv (Ext.refl w α)⟩
    refine List.eq_nil_iff_forall_not_mem.2 fun i hi => ?_
    obtain ⟨h1, h2, _⟩ := (rdy listed i).1 hi
    have := (hmem i).2 ⟨h1, h2⟩
    simp at this
  | succ fuel ih =>
    intro listed rem s s' a w α hl hsz hops hmem hpw hcl hd inv hQ
    refine ⟨fun hnil => ?_, fun i hi => ?_⟩
    · -- the first one that is left could come up
      exfalso
      cases rem with
      | nil => simp at hl
      | cons x rest =>
        have hx := (hmem x.1).1 (by simp)
        have : x.1 ∈ Region.ready .any ops listed := (rdy listed x.1).2 ⟨hx.1, hx.2, fun e he => ?_⟩
        · rw [hnil] at this; cases this
        · have h1 : x.1 < es.length := by rw [hes]; simpa using hx.1
          have h2 := List.all_eq_true.1 (List.all_eq_true.1 hlt x.1 (List.mem_range.2 h1)) e he
          have h3 : e < x.1 := of_decide_eq_true h2
          have h4 : e < listed.size := by omega
          cases hb : listed[e] with
          | true => simp [Array.getD, h4, hb]
          | false =>
            exfalso
            have h5 := (hmem e).2 ⟨by omega, by simp [Array.getD, h4, hb]⟩
            simp only [List.map_cons, List.mem_cons] at h5
            rcases h5 with h5 | h5
            · omega
            · obtain ⟨y, hy, h6⟩ := List.mem_map.1 h5
              have := (List.rel_of_pairwise_cons hpw hy).1
              omega
    · obtain ⟨h1, h2, h3⟩ := (rdy listed i).1 hi
      have hin := (hmem i).2 ⟨h1, h2⟩
      obtain ⟨y, hy, hyi⟩ := List.mem_map.1 hin
      obtain ⟨l1, l2, rfl⟩ := List.append_of_mem hy
      have hpw' := List.pairwise_append.1 hpw
      have hbefore : ∀ x ∈ l1, slotsApart x.2.1 y.2.1 = true ∧ indep x.2.2 y.2.2 = true := fun x hx => by
        have hxy := hpw'.2.2 x hx y (by simp)
        rcases hxy.2 with ha | ha
        · exfalso
          have hl := listed_anc (L := fun k => listed.getD k false = true) hok hcl y.1 x.1 ha (by rw [hyi]; exact h3)
          have hu := ((hmem x.1).1 (List.mem_map.2 ⟨x, List.mem_append_left _ hx, rfl⟩)).2
          have hxs : x.1 < listed.size := by
            have := ((hmem x.1).1 (List.mem_map.2 ⟨x, List.mem_append_left _ hx, rfl⟩)).1
            omega
          simp only [Array.getD, hxs, dite_true] at hl hu
          rw [hl] at hu
          cases hu
        · exact ha
      obtain ⟨o, ho, hco⟩ := hops y hy
      rw [hyi] at ho
      have hd' : drawA H I q ((l1.map (·.2)).map (·.1) ++ y.2.1 :: l2.map (·.2.1)) s = some (s', (l1.map (·.2)).map (·.2) ++ y.2.2 :: l2.map (·.2.2)) := by
        have e1 : (l1.map (·.2)).map (·.1) = l1.map (·.2.1) := by simp
        have e2 : (l1.map (·.2)).map (·.2) = l1.map (·.2.2) := by simp
        rw [e1, e2]
        simpa using hd
      obtain ⟨s1, hs1, hd1⟩ := front hd' (fun z hz => by
        obtain ⟨x, hx, rfl⟩ := List.mem_map.1 hz
        exact hbefore x hx)
      refine ins_then hH hI ho hco (insD_A hs1) inv fun a' w' α' inv' ext => ?_
      have hinc : ∀ k, k ∈ (l1 ++ l2).map (·.1) ↔ k ∈ (l1 ++ y :: l2).map (·.1) ∧ k ≠ i := by
        intro k
        have hne1 : ∀ x ∈ l1, x.1 ≠ i := fun x hx => by have := (hpw'.2.2 x hx y (by simp)).1; omega
        have hne2 : ∀ x ∈ l2, x.1 ≠ i := fun x hx => by have := (List.rel_of_pairwise_cons hpw'.2.1 hx).1; omega
        simp only [List.map_append, List.map_cons, List.mem_append, List.mem_cons]
        constructor
        · rintro (h | h)
          · obtain ⟨x, hx, rfl⟩ := List.mem_map.1 h; exact ⟨.inl h, hne1 x hx⟩
          · obtain ⟨x, hx, rfl⟩ := List.mem_map.1 h; exact ⟨.inr (.inr h), hne2 x hx⟩
        · rintro ⟨h | h | h, hk⟩
          · exact .inl h
          · exact absurd (h.trans hyi) hk
          · exact .inr h
      have his : i < listed.size := by omega
      have hset : ∀ (k : Nat) (d : Bool), (listed.setIfInBounds i true).getD k d = if k = i then true else listed.getD k d := fun k d => by
        rw [Array.getD_eq_getD_getElem?, Array.getD_eq_getD_getElem?, Array.getElem?_setIfInBounds]
        by_cases e : k = i
        · subst e; simp [his]
        · rw [if_neg (Ne.symm e), if_neg e]
      refine ih (listed.setIfInBounds i true) (l1 ++ l2) s1 s' a' w' α' (by simp at hl ⊢; omega) (by simpa using hsz) (fun r hr => hops r (by
          rcases List.mem_append.1 hr with h | h
          · exact List.mem_append_left _ h
          · exact List.mem_append_right _ (List.mem_cons_of_mem _ h))) (fun k => ?_) ?_ (fun k hk e he => ?_) ?_ inv' (fun a'' w'' α'' i'' e'' => hQ a'' w'' α'' i'' (ext.trans e''))
      · rw [hinc k, hmem k, hset]
        by_cases e : k = i
        · subst e; simp
        · simp [e]
      · exact hpw.sublist (List.Sublist.append_left (List.sublist_cons_self y l2) l1)
      · rw [hset]
        rw [hset] at hk
        by_cases e1 : e = i
        · rw [if_pos e1]
        · rw [if_neg e1]
          by_cases e2 : k = i
          · subst e2; exact h3 e he
          · rw [if_neg e2] at hk; exact hcl k hk e he
      · have e1 : (l1.map (·.2)).map (·.1) = l1.map (·.2.1) := by simp
        have e2 : (l1.map (·.2)).map (·.2) = l1.map (·.2.2) := by simp
        rw [e1, e2] at hd1
        simpa using hd1

end
end Go.Proofs.Ytihljollfbogeaa
