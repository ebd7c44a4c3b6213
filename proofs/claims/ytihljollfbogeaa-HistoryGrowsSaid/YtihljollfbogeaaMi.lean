/- Slices of our own that grow: from nothing, or made. No condition. -/
import Derived.Test.YtihljollfbogeaaMh
namespace Go.Proofs.Ytihljollfbogeaa
open Go Go.RowKit
/-- a: a slice of ours under name n, with elements L of k cells. -/
def Gw (h : Hp) (n k : Nat) (a : AV) (L : List AV) : Prop := (a = .nl ∧ L = []) ∨ ∃ v, a = .ref n v 0 L.length ∧ h n = (v, .row k L)
/-- The same, not nil. -/
def Gr (h : Hp) (n k : Nat) (a : AV) (L : List AV) : Prop := ∃ v, a = .ref n v 0 L.length ∧ h n = (v, .row k L)
theorem Gr.toGw {h : Hp} {n k : Nat} {a : AV} {L : List AV} (g : Gr h n k a L) : Gw h n k a L := .inr g
theorem Gr.name {h : Hp} {n k : Nat} {a : AV} {L : List AV} (g : Gr h n k a L) (m : Nat) : nameOr m a = n := by
  obtain ⟨v, rfl, _⟩ := g; rfl
theorem Gr.mk {h : Hp} {n k v i : Nat} {L : List AV} (hn : h n = (v, .row k L)) (hi : L.length = i) : Gr h n k (.ref n v 0 i) L := ⟨v, by rw [hi], hn⟩
theorem Gr.same {h h' : Hp} {n k : Nat} {a : AV} {L : List AV} (g : Gr h n k a L) (e : h' n = h n) : Gr h' n k a L := by
  obtain ⟨v, g1, g2⟩ := g
  exact ⟨v, g1, e.trans g2⟩
theorem Gw.nil {h : Hp} {n k : Nat} : Gw h n k .nl [] := .inl ⟨rfl, rfl⟩
theorem Gw.mk {h : Hp} {n k v i : Nat} {L : List AV} (hn : h n = (v, .row k L)) (hi : L.length = i) : Gw h n k (.ref n v 0 i) L := .inr ⟨v, by rw [hi], hn⟩
theorem Gw.same {h h' : Hp} {n k : Nat} {a : AV} {L : List AV} (g : Gw h n k a L) (e : h' n = h n) : Gw h' n k a L := by
  rcases g with g | ⟨v, g1, g2⟩
  · exact .inl g
  · exact .inr ⟨v, g1, e.trans g2⟩
theorem Gw.name {h : Hp} {n k : Nat} {a : AV} {L : List AV} (g : Gw h n k a L) : nameOr n a = n := by
  rcases g with ⟨rfl, _⟩ | ⟨v, rfl, _⟩ <;> rfl
theorem Gw.len {h : Hp} {n k : Nat} {a : AV} {L : List AV} (g : Gw h n k a L) : oLen a = some (.sc (.int .i64 L.length)) := by
  rcases g with ⟨rfl, rfl⟩ | ⟨v, rfl, _⟩ <;> rfl
theorem Gw.app {h : Hp} {n k : Nat} {a : AV} {L : List AV} {x : AV} (g : Gw h n k a L) (hx : okEl k x = true) (hi : L.length < LIM) :
    ∃ v, oAppend h n k a [x] = some (.ref n v 0 (L.length + 1), hset h n (v, .row k (L ++ [x]))) := by
  have hx' : ([x].all fun v => v.storable && decide (v.cells.length = k)) = true := by simpa [okEl] using hx
  unfold oAppend
  rw [if_pos hx']
  have hl : ¬ LIM = 0 := by omega
  have hl1 : L.length + 1 ≤ LIM := hi
  rcases g with ⟨rfl, rfl⟩ | ⟨v, rfl, g2⟩
  · exact ⟨(h n).1 + 1, by simp [hl]⟩
  · refine ⟨v + 1, ?_⟩
    simp [rowAt?, g2, hl1]
theorem Gr.app {h : Hp} {n k : Nat} {a : AV} {L : List AV} {x : AV} (g : Gr h n k a L) (hx : okEl k x = true) (hi : L.length < LIM) (m : Nat) :
    ∃ v, oAppend h m k a [x] = some (.ref n v 0 (L.length + 1), hset h n (v, .row k (L ++ [x]))) := by
  have hx' : ([x].all fun v => v.storable && decide (v.cells.length = k)) = true := by simpa [okEl] using hx
  unfold oAppend
  rw [if_pos hx']
  have hl1 : L.length + 1 ≤ LIM := hi
  obtain ⟨v, rfl, g2⟩ := g
  refine ⟨v + 1, ?_⟩
  simp [rowAt?, g2, hl1]
theorem Gw.fz1 {h : Hp} {n k : Nat} {a : AV} {L : List AV} (g : Gw h n k a L) (hp : L.all AV.pure = true) : fz1 h a = .imm (L.map norm) := by
  rcases g with ⟨rfl, rfl⟩ | ⟨v, rfl, g2⟩
  · rfl
  · have hr : rowAt? h n v = some (k, L) := by simp [rowAt?, g2]
    rw [fz1_ref, hr, fzRow_all rfl hp]
theorem Gw.cases {h : Hp} {n k : Nat} {a : AV} {L : List AV} (g : Gw h n k a L) {p : AV → Prop} (h1 : p .nl) (h2 : ∀ v, p (.ref n v 0 L.length)) : p a := by
  rcases g with ⟨rfl, _⟩ | ⟨v, rfl, _⟩
  · exact h1
  · exact h2 v
theorem Gw.fzA {h : Hp} {n k : Nat} {a : AV} {L : List AV} (g : Gw h n k a L) (hp : L.all AV.pure = true) : fzA h a = .imm (L.map norm) := by
  rw [← g.fz1 hp]; exact g.cases (p := fun a => Ytihljollfbogeaa.fzA h a = Ytihljollfbogeaa.fz1 h a) rfl fun _ => rfl
theorem Gw.fz {h : Hp} {n k : Nat} {a : AV} {L : List AV} (g : Gw h n k a L) (hp : L.all AV.pure = true) : fz h a = .imm (L.map norm) := by
  rw [← g.fz1 hp]; exact g.cases (p := fun a => Ytihljollfbogeaa.fz h a = Ytihljollfbogeaa.fz1 h a) rfl fun _ => rfl
theorem Gw.out {h : Hp} {n k : Nat} {a : AV} {L : List AV} (g : Gw h n k a L) (hp : L.all AV.pure = true) : outA (a, h) = .imm (L.map norm) := g.fz hp
theorem Gw.one {h : Hp} {n k : Nat} {a : AV} {L : List AV} (g : Gw h n k a L) : a.one = true := g.cases (p := fun a => a.one = true) rfl fun _ => rfl
theorem Gw.cells {h : Hp} {n k : Nat} {a : AV} {L : List AV} (g : Gw h n k a L) : a.cells = [a] := g.cases (p := fun a => a.cells = [a]) rfl fun _ => rfl
theorem Gw.stor {h : Hp} {n k : Nat} {a : AV} {L : List AV} (g : Gw h n k a L) : a.storable = true := g.cases (p := fun a => a.storable = true) rfl fun _ => rfl
/-- The address of an element. -/
theorem Gw.at {h : Hp} {n k i : Nat} {a : AV} {L : List AV} (g : Gw h n k a L) (hi : i < L.length) : ∃ v, oIndexS k h a (.sc (.int .i64 (i : Nat))) = some (.ptr n v i 0) ∧ h n = (v, .row k L) := by
  rcases g with ⟨rfl, rfl⟩ | ⟨v, rfl, g2⟩
  · simp at hi
  · refine ⟨v, ?_, g2⟩
    have : (i : Int) < (L.length : Int) := by omega
    simp [oIndexS, asNum, rowAt?, g2, this]
theorem Gw.grow {h : Hp} {n k : Nat} {a : AV} {L : List AV} {x : AV} (g : Gw h n k a L) (hx : okEl k x = true) (hi : L.length < LIM) (h' : Hp) (e : h' n = h n) :
    oAppend h' n k a [x] = some (.ref n ((h n).1 + 1) 0 (L.length + 1), hset h' n ((h n).1 + 1, .row k (L ++ [x]))) := by
  have hx' : ([x].all fun v => v.storable && decide (v.cells.length = k)) = true := by simpa [okEl] using hx
  unfold oAppend
  rw [if_pos hx']
  have hl : ¬ LIM = 0 := by omega
  have hl1 : L.length + 1 ≤ LIM := hi
  rcases g with ⟨rfl, rfl⟩ | ⟨v, rfl, g2⟩
  · simp [hl, e]
  · simp [rowAt?, g2, hl1, e]
theorem Gr.grow {h : Hp} {n k : Nat} {a : AV} {L : List AV} {x : AV} (g : Gr h n k a L) (hx : okEl k x = true) (hi : L.length < LIM) (m : Nat) (h' : Hp) (e : h' n = h n) :
    oAppend h' m k a [x] = some (.ref n ((h n).1 + 1) 0 (L.length + 1), hset h' n ((h n).1 + 1, .row k (L ++ [x]))) := by
  have hx' : ([x].all fun v => v.storable && decide (v.cells.length = k)) = true := by simpa [okEl] using hx
  unfold oAppend
  rw [if_pos hx']
  have hl1 : L.length + 1 ≤ LIM := hi
  obtain ⟨v, rfl, g2⟩ := g
  simp [rowAt?, g2, hl1, e]
theorem oLen_imm (xs : List AV) : oLen (.imm xs) = some (.sc (.int .i64 xs.length)) := rfl
theorem encI_ok (n : Int) : okEl 1 (encI n) = true := by simp [okEl, encI, AV.storable, AV.cells, AV.one]
theorem encB_ok (n : Bool) : okEl 1 (encB n) = true := by simp [okEl, encB, AV.storable, AV.cells, AV.one]
end Go.Proofs.Ytihljollfbogeaa
