/- What was read as data has a shape of abstract values. No condition. -/
import Derived.Test.YtihljollfbogeaaMc
import Derived.Carry
import Derived.ChangeSame
import Derived.JoinedOf
import Derived.JoinedAt
namespace Go.Proofs.Ytihljollfbogeaa
open Go Go.RowKit

/-- The shape of a type; 'none' and 'more' list the fields of a struct. -/
inductive Sh where
  | int (k : IntKind)
  | bool
  | str
  | slice (e : Sh)
  | arr (n : Nat) (e : Sh)
  | agg (fs : Sh)
  | none
  | more (f r : Sh)
def Sh.size : Sh → Nat
  | .arr n e => n * e.size
  | .agg fs => fs.size
  | .none => 0
  | .more f r => f.size + r.size
  | _ => 1
def Sh.isAgg : Sh → Bool
  | .arr .. | .agg .. => true
  | _ => false
def wrapS (e : Sh) (cs : List AV) : AV := if e.isAgg then .agg cs else cs.headD .junk
/-- Cells of that shape. -/
def Fits : Sh → List AV → Prop
  | .int k, cs => ∃ n, (Lit.int k n).wf = true ∧ cs = [.sc (.int k n)]
  | .bool, cs => ∃ b, cs = [.sc (.bool b)]
  | .str, cs => ∃ s, cs = [.sc (.string s)]
  | .slice e, cs => ∃ xs : List AV, (∀ x ∈ xs, ∃ l, Fits e l ∧ l.length = e.size ∧ x = wrapS e l) ∧ cs = [.imm xs]
  | .arr n e, cs => ∃ ls : List (List AV), ls.length = n ∧ (∀ l ∈ ls, Fits e l ∧ l.length = e.size) ∧ cs = ls.flatten
  | .agg fs, cs => Fits fs cs
  | .none, cs => cs = []
  | .more f r, cs => ∃ a b, cs = a ++ b ∧ Fits f a ∧ a.length = f.size ∧ Fits r b

def chk (P : Program) : Sh → Sum TypeId (List Field × Nat) → Bool
  | .int k, .inl t => match P.underlying t with | some (.int k') => decide (k = k') | _ => false
  | .bool, .inl t => match P.underlying t with | some .bool => true | _ => false
  | .str, .inl t => match P.underlying t with | some .string => true | _ => false
  | .slice e, .inl t => match P.underlying t with | some (.slice te) => chk P e (.inl te) && P.cellsOf te == e.size && decide (0 < e.size) | _ => false
  | .arr n e, .inl t => match P.underlying t with | some (.array n' te) => n == n' && chk P e (.inl te) && P.cellsOf te == e.size && P.cellsOf t == n * e.size | _ => false
  | .agg fs, .inl t => match P.underlying t with | some (.struct fl) => chk P fs (.inr (fl.toList, 0)) && P.cellsOf t == fs.size | _ => false
  | .none, .inr ([], _) => true
  | .more s r, .inr (f :: fl, off) => f.offset == off && chk P s (.inl f.type) && P.cellsOf f.type == s.size && chk P r (.inr (fl, off + s.size))
  | _, _ => false

section
variable {H : Type} {enc : TypeId × Value → H} {P : Program} {w : World} {spare : Nat → Bool} {held : Bool}

/-- Cells and what they say. -/
def Says (w : World) (as : List AV) (cs : List Value) : Prop := as.length = cs.length ∧ ∀ (i : Nat) (a : AV) (u : Value), as[i]? = some a → cs[i]? = some u → V0 w (fun b => b < w.heap.size) a u

theorem mapM_each {α β : Type} {f : α → Option β} : ∀ {l : List α} {ys : List β}, l.mapM f = some ys → ∀ a ∈ l, ∃ y, f a = some y
  | [], _, _, a, ha => by cases ha
  | x :: l, ys, h, a, ha => by
    simp only [List.mapM_cons, Option.bind_eq_bind] at h
    obtain ⟨y, h1, h2⟩ := Option.bind_eq_some_iff.1 h
    obtain ⟨zs, h3, _⟩ := Option.bind_eq_some_iff.1 h2
    rcases List.mem_cons.1 ha with rfl | ha
    · exact ⟨y, h1⟩
    · exact mapM_each h3 a ha

theorem says_append {as bs : List AV} {cs ds : List Value} (h : Says w as cs) (k : Says w bs ds) : Says w (as ++ bs) (cs ++ ds) := by
  refine ⟨by simp [h.1, k.1], fun i a u ha hu => ?_⟩
  by_cases hi : i < as.length
  · rw [List.getElem?_append_left hi] at ha
    rw [List.getElem?_append_left (by rw [← h.1]; exact hi)] at hu
    exact h.2 i a u ha hu
  · rw [List.getElem?_append_right (by omega)] at ha
    rw [List.getElem?_append_right (by rw [← h.1]; omega), ← h.1] at hu
    exact k.2 _ a u ha hu

def Reads (enc : TypeId × Value → H) (P : Program) (w : World) (spare : Nat → Bool) (held : Bool) (fuel : Nat) : Prop :=
  ∀ (sh : Sh) (t : TypeId) (cs : List Value) (x : DataW H × List MemPlace), chk P sh (.inl t) = true → DataW.trod enc P w 0 spare held fuel t cs = some x → ∃ as, Fits sh as ∧ as.length = sh.size ∧ Says w as cs

theorem reads_fields {fuel : Nat} (ih : Reads enc P w spare held fuel) (cs : List Value) : ∀ (sh : Sh) (fl : List Field) (off : Nat) (xs : List (DataW H × List MemPlace)), chk P sh (.inr (fl, off)) = true → off + sh.size = cs.length →
    (fl.mapM fun f => DataW.trod enc P w 0 spare held fuel f.type ((cs.drop f.offset).take (P.cellsOf f.type))) = some xs → ∃ as, Fits sh as ∧ as.length = sh.size ∧ Says w as (cs.drop off) := by
  intro sh
  induction sh with
  | none =>
    intro fl off xs hc hl h
    simp only [Sh.size, Nat.add_zero] at hl
    refine ⟨[], rfl, rfl, ?_, fun i a u ha => by simp at ha⟩
    simp [hl]
  | more s r _ ihr =>
    intro fl off xs hc hl h
    cases fl with
    | nil => simp [chk] at hc
    | cons f fl =>
      simp only [chk, Bool.and_eq_true, beq_iff_eq] at hc
      obtain ⟨⟨⟨rfl, h1⟩, h2⟩, h3⟩ := hc
      simp only [List.mapM_cons, Option.bind_eq_bind] at h
      obtain ⟨y, h4, h5⟩ := Option.bind_eq_some_iff.1 h
      obtain ⟨zs, h6, _⟩ := Option.bind_eq_some_iff.1 h5
      simp only [Sh.size] at hl
      obtain ⟨as, k1, k2, k3⟩ := ih s _ _ _ h1 h4
      obtain ⟨bs, l1, l2, l3⟩ := ihr fl (f.offset + s.size) zs h3 (by omega) h6
      refine ⟨as ++ bs, ⟨as, bs, rfl, k1, k2, l1⟩, by simp [Sh.size, k2, l2], ?_⟩
      rw [h2] at k3
      have := says_append k3 l3
      rwa [show (cs.drop f.offset).take s.size ++ cs.drop (f.offset + s.size) = cs.drop f.offset by rw [← List.drop_drop, List.take_append_drop]] at this
  | _ => intro fl off xs hc; simp [chk] at hc

theorem V0.sc_int (k : IntKind) (n : Int) : V0 w (fun b => b < w.heap.size) (.sc (.int k n)) (.int k n) := .sc _ rfl

theorem reads_all : ∀ fuel, Reads enc P w spare held fuel
  | 0 => fun sh t cs x hc h => by simp [DataW.trod] at h
  | fuel + 1 => fun sh t cs x hc h => by
    have ih := reads_all fuel
    cases sh with
    | none => simp [chk] at hc
    | more => simp [chk] at hc
    | int k =>
      simp only [chk] at hc
      split at hc
      · rename_i k' hu
        have := of_decide_eq_true hc
        subst this
        simp only [DataW.trod, hu] at h
        split at h <;> try (simp_all; done)
        rename_i heq
        split at h
        · rename_i hk
          obtain ⟨rfl, hw⟩ := hk
          simp at heq
          subst heq
          exact ⟨[.sc (.int k _)], ⟨_, hw, rfl⟩, rfl, rfl, fun i a u ha hu' => by
            match i, ha, hu' with
            | 0, ha, hu' => simp at ha hu'; subst ha; subst hu'; exact .sc _ rfl⟩
        · cases h
      · cases hc
    | bool =>
      simp only [chk] at hc
      split at hc
      · rename_i hu
        simp only [DataW.trod, hu] at h
        split at h <;> try (simp_all; done)
        rename_i b _
        exact ⟨[.sc (.bool b)], ⟨_, rfl⟩, rfl, rfl, fun i a u ha hu' => by
          match i, ha, hu' with
          | 0, ha, hu' => simp at ha hu'; subst ha; subst hu'; exact .sc _ rfl⟩
      · cases hc
    | str =>
      simp only [chk] at hc
      split at hc
      · rename_i hu
        simp only [DataW.trod, hu] at h
        split at h <;> try (simp_all; done)
        rename_i s _
        exact ⟨[.sc (.string s)], ⟨_, rfl⟩, rfl, rfl, fun i a u ha hu' => by
          match i, ha, hu' with
          | 0, ha, hu' => simp at ha hu'; subst ha; subst hu'; exact .sc _ rfl⟩
      · cases hc
    | agg fs =>
      simp only [chk] at hc
      split at hc
      · rename_i fl hu
        simp only [Bool.and_eq_true, beq_iff_eq] at hc
        obtain ⟨h1, h2⟩ := hc
        simp only [DataW.trod, hu] at h
        split at h
        · rename_i hl
          obtain ⟨xs, h3, _⟩ := Option.map_eq_some_iff.1 h
          obtain ⟨as, k1, k2, k3⟩ := reads_fields ih cs fs fl.toList 0 xs h1 (by omega) h3
          exact ⟨as, k1, k2, by simpa using k3⟩
        · cases h
      · cases hc
    | arr n e =>
      simp only [chk] at hc
      split at hc
      · rename_i n' te hu
        simp only [Bool.and_eq_true, beq_iff_eq] at hc
        obtain ⟨⟨⟨rfl, h1⟩, h2⟩, h3⟩ := hc
        simp only [DataW.trod, hu] at h
        split at h
        · rename_i hl
          obtain ⟨xs, h4, _⟩ := Option.map_eq_some_iff.1 h
          have each := mapM_each h4
          have key : ∀ m, m ≤ n → ∃ ls : List (List AV), ls.length = m ∧ (∀ l ∈ ls, Fits e l ∧ l.length = e.size) ∧ ls.flatten.length = m * e.size ∧ Says w ls.flatten (cs.take (m * e.size)) := by
            intro m
            induction m with
            | zero => intro _; exact ⟨[], rfl, fun l hl => (by cases hl), by simp, by simp [Says]⟩
            | succ m ihm =>
              intro hm
              obtain ⟨ls, g1, g2, g3, g4⟩ := ihm (by omega)
              obtain ⟨y, hy⟩ := each m (by simp; omega)
              obtain ⟨as, k1, k2, k3⟩ := ih e _ _ _ h1 hy
              rw [h2] at k3
              refine ⟨ls ++ [as], by simp [g1], fun l hl => ?_, by simp [g3, k2, Nat.succ_mul], ?_⟩
              · rcases List.mem_append.1 hl with hl | hl
                · exact g2 l hl
                · rw [List.mem_singleton.1 hl]; exact ⟨k1, k2⟩
              · have := says_append g4 k3
                simp only [List.flatten_append, List.flatten_cons, List.flatten_nil, List.append_nil]
                rwa [show cs.take (m * e.size) ++ (cs.drop (m * e.size)).take e.size = cs.take ((m + 1) * e.size) by rw [Nat.succ_mul, List.take_add]] at this
          obtain ⟨ls, g1, g2, g3, g4⟩ := key n (Nat.le_refl _)
          refine ⟨ls.flatten, ⟨ls, g1, g2, rfl⟩, g3, ?_⟩
          rwa [List.take_of_length_le (by omega)] at g4
        · cases h
      · cases hc
    | slice e =>
      simp only [chk] at hc
      split at hc
      · rename_i te hu
        simp only [Bool.and_eq_true, beq_iff_eq, decide_eq_true_eq] at hc
        obtain ⟨⟨h1, h2⟩, h3⟩ := hc
        simp only [DataW.trod, hu] at h
        split at h <;> try (simp_all; done)
        · refine ⟨[.imm []], ⟨[], fun x hx => (by cases hx), rfl⟩, rfl, rfl, fun i a u ha hu' => ?_⟩
          match i, ha, hu' with
          | 0, ha, hu' =>
            simp at ha hu'
            subst ha; subst hu'
            exact .imm [] none 0 1 0 0 (fun _ _ => undef) (Nat.le_refl _) (fun j el he => by simp at he) (fun j el c a he => by simp at he) (fun j el c a he => by simp at he)
        · rename_i e' a len cap heq
          split at h
          · rename_i hb
            obtain ⟨hb1, hb2, hb3⟩ := hb
            obtain ⟨elems, h4, _⟩ := Option.bind_eq_some_iff.1 h
            have hte : e' = te := by simp at heq; exact heq.symm
            subst hte
            have each := mapM_each h4
            have each2 : ∀ j, ∃ q : List AV × List Value, j < len → Fits e q.1 ∧ q.1.length = e.size ∧ Says w q.1 q.2 ∧ ∀ i, i < e.size → w.cell? ((a.add (j * e.size)).add i) = q.2[i]? := fun j => by
              by_cases hj : j < len
              · obtain ⟨y, hy⟩ := each j (by simpa using hj)
                obtain ⟨cj, hc1, hc2⟩ := Option.bind_eq_some_iff.1 hy
                obtain ⟨as, k1, k2, k3⟩ := ih e _ _ _ h1 hc2
                obtain ⟨_, l1, l2⟩ := World.cells?_some hc1
                rw [h2] at l1 l2
                exact ⟨(as, cj), fun _ => ⟨k1, k2, k3, l2⟩⟩
              · exact ⟨([], []), fun h => absurd h hj⟩
            let F : Nat → List AV × List Value := fun j => (each2 j).choose
            have hF : ∀ j, j < len → Fits e (F j).1 ∧ (F j).1.length = e.size ∧ Says w (F j).1 (F j).2 ∧ ∀ i, i < e.size → w.cell? ((a.add (j * e.size)).add i) = (F j).2[i]? := fun j => (each2 j).choose_spec
            have wrapc : ∀ l : List AV, Fits e l → l.length = e.size → (wrapS e l).cells = l := fun l hf hl => by
              cases e with
              | agg fs => rfl
              | arr n e => rfl
              | none => simp [Sh.size] at h3
              | more f r => simp [chk] at h1
              | int k => obtain ⟨n, _, rfl⟩ := hf; rfl
              | bool => obtain ⟨n, rfl⟩ := hf; rfl
              | str => obtain ⟨n, rfl⟩ := hf; rfl
              | slice e => obtain ⟨n, _, rfl⟩ := hf; rfl
            obtain ⟨b, o, spot⟩ := a
            have hspot : 0 < len → spot = none := fun h0 => by
              obtain ⟨k1, k2, k3, k4⟩ := hF 0 h0
              have g := k4 0 h3
              have hl : 0 < (F 0).2.length := by rw [← k3.1, k2]; exact h3
              rw [List.getElem?_eq_getElem hl] at g
              simpa [Addr.add] using World.cell?_spot g
            have hget : ∀ (j : Nat) (el : AV), ((List.range len).map fun j => wrapS e (F j).1)[j]? = some el → j < len ∧ el = wrapS e (F j).1 := fun j el he => by
              rw [List.getElem?_map] at he
              obtain ⟨y, hy, rfl⟩ := Option.map_eq_some_iff.1 he
              have hj : j < len := by have := (List.getElem?_eq_some_iff.1 hy).1; simpa using this
              have : y = j := by have := (List.getElem?_eq_some_iff.1 hy).2; simpa using this.symm
              subst this
              exact ⟨hj, rfl⟩
            have hin : ∀ (j c : Nat) (x : AV), j < len → (F j).1[c]? = some x → ∃ u, (F j).2[c]? = some u ∧ w.cell? ⟨b, o + (j * e.size + c), none⟩ = some u ∧ V0 w (fun b => b < w.heap.size) x u := fun j c x hj hx => by
              obtain ⟨k1, k2, k3, k4⟩ := hF j hj
              have hc : c < e.size := by rw [← k2]; exact (List.getElem?_eq_some_iff.1 hx).1
              have hl : c < (F j).2.length := by rw [← k3.1, k2]; exact hc
              refine ⟨(F j).2[c], List.getElem?_eq_getElem hl, ?_, k3.2 c x _ hx (List.getElem?_eq_getElem hl)⟩
              have g := k4 c hc
              rw [List.getElem?_eq_getElem hl] at g
              rw [hspot (by omega)] at g
              rw [← g]
              rw [add_at, add_at, Nat.add_assoc]
            refine ⟨[.imm ((List.range len).map fun j => wrapS e (F j).1)], ⟨_, fun x hx => ?_, rfl⟩, rfl, rfl, fun i a' u ha hu' => ?_⟩
            · obtain ⟨j, hj, rfl⟩ := List.mem_map.1 hx
              obtain ⟨k1, k2, _, _⟩ := hF j (by simpa using hj)
              exact ⟨_, k1, k2, rfl⟩
            · match i, ha, hu' with
              | 0, ha, hu' =>
                simp at ha hu'
                subst ha; subst hu'
                have := V0.imm (w := w) (ok := fun b => b < w.heap.size) ((List.range len).map fun j => wrapS e (F j).1) (some ⟨b, o, spot⟩) cap e.size b o (fun j c => ((F j).2[c]?).getD undef) (by simpa using hb2) (fun j el he => ?_) (fun j el c x he hx => ?_) (fun j el c x he hx => ?_)
                · simpa using this
                · obtain ⟨hj, rfl⟩ := hget j el he
                  obtain ⟨k1, k2, k3, k4⟩ := hF j hj
                  rw [wrapc _ k1 k2, hspot (by omega)]
                  refine ⟨k2, rfl, ?_⟩
                  have hl : 0 < (F j).1.length := by rw [k2]; exact h3
                  obtain ⟨u, _, g, _⟩ := hin j 0 (F j).1[0] hj (List.getElem?_eq_getElem hl)
                  exact World.block_lt_of_cell? w _ g
                · obtain ⟨hj, rfl⟩ := hget j el he
                  obtain ⟨k1, k2, k3, k4⟩ := hF j hj
                  rw [wrapc _ k1 k2] at hx
                  obtain ⟨u, g1, g2, _⟩ := hin j c x hj hx
                  rw [g1]
                  exact g2
                · obtain ⟨hj, rfl⟩ := hget j el he
                  obtain ⟨k1, k2, k3, k4⟩ := hF j hj
                  rw [wrapc _ k1 k2] at hx
                  obtain ⟨u, g1, _, g3⟩ := hin j c x hj hx
                  rw [g1]
                  exact g3
          · cases h
      · cases hc

end
end Go.Proofs.Ytihljollfbogeaa
