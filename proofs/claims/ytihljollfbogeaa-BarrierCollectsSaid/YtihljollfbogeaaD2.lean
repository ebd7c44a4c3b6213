/- BarrierStarts: whatever the input, true, and the input reads as it did. No condition. -/
import Derived.Test.YtihljollfbogeaaD1
import Derived.Test.YtihljollfbogeaaR1
import Derived.Test.YtihljollfbogeaaF4
namespace Go.Proofs.Ytihljollfbogeaa
open Go Go.RowKit

theorem okC_start (c : Coord) (now patience : Int) : okC (start c now patience).1 ∧ okMs (start c now patience).2.1 := by
  unfold start
  have z : okC Coord.zero ∧ okMs [] := ⟨⟨by simp [Coord.zero], by simp [Coord.zero]⟩, ⟨by simp, fun m hm => by cases hm⟩⟩
  split
  · exact z
  split
  · exact z
  split
  · exact z
  split
  · exact z
  · rename_i h _ _ _
    have := checkCoord_zero (c := c) (by omega)
    exact ⟨⟨by simp; omega, by simp; omega⟩, all_ok this.2.1⟩
theorem okC_new (n : Int) : okC (newCoord n).1 := by
  unfold newCoord
  split
  · exact ⟨by simp [Coord.zero], by simp [Coord.zero]⟩
  · exact ⟨by simp; omega, by simp; omega⟩
theorem ok_result {c : Coord} (hc : okC c) : (result c).1.length ≤ 1073741824 := by
  unfold result; split
  · simp
  · exact hc.1
noncomputable def H3 : Hand := mkH [(37, x37), (38, x38), (39, x39), (40, x39), (41, x41), (42, x42), (43, x43), (44, x44), (45, x45), (46, x45), (47, x47), (48, x47), (49, x49)]
theorem H3_ok : HandOk Try.prog H3 := mkH_ok <| known_more x37_ok <| known_more x38_ok <| known_more x39_ok <| known_more x39_ok' <| known_more x41_ok <| known_more x42_ok <| known_more x43_ok <| known_more x44_ok <| known_more x45_ok <| known_more x45_ok' <| known_more x47_ok <| known_more x47_ok' <| known_more x49_ok known_nil
theorem good4 (c : Coord) (now patience : Int) (hp : in64 patience) : Good Try.prog 4 [c.enc, encI now, encI patience] (encB true) :=
  (good_of_ends H3_ok no_inl mixed Try.func4 k4 (law4_run H3 (fun _ _ _ _ => none) 0 c now patience (few c ⟨0, 0, 0, 0, false, 0, [], []⟩) (start c now patience) (newCoord patience) (result c) (checkCoord c) (x37_eq c _) rfl (fun hf => by
    have hc : okC c := by
      simp only [few, Bool.and_eq_true, decide_eq_true_eq] at hf
      exact ⟨by omega, by omega⟩
    have hs := okC_start c now patience
    exact ⟨x39_eq hc hp, x39_eq hc hp, x41_eq hs.1, x42_eq hs.2, x43_eq hc, x44_eq hc, x45_eq patience, x45_eq patience, x41_eq (okC_new patience), x47_eq hc, x47_eq hc, x49_eq (ok_result hc)⟩))).2

/-! ### Shapes -/
def coordSh : Sh := .agg (.more (.int .i64) (.more (.int .i64) (.more (.int .i64) (.more (.int .i64) (.more (.slice (.int .i64)) (.more (.slice .bool) (.more .bool .none)))))))
theorem fits_int {l : List AV} (h : Fits (.int .i64) l) : ∃ n, in64 n ∧ l = [encI n] := by
  obtain ⟨n, hw, rfl⟩ := h
  simp only [Lit.wf, Bool.and_eq_true, decide_eq_true_eq] at hw
  have e1 : IntKind.i64.min = -9223372036854775808 := rfl
  have e2 : IntKind.i64.max = 9223372036854775807 := rfl
  exact ⟨n, ⟨by omega, by omega⟩, rfl⟩
theorem fits_bool {l : List AV} (h : Fits .bool l) : ∃ b, l = [encB b] := by
  obtain ⟨n, rfl⟩ := h
  exact ⟨n, rfl⟩
theorem list_of {β : Type} (f : β → AV) (p : β → Prop) : ∀ {xs : List AV}, (∀ x ∈ xs, ∃ y, p y ∧ x = f y) → ∃ ys : List β, xs = ys.map f ∧ ∀ y ∈ ys, p y
  | [], _ => ⟨[], rfl, fun y hy => by cases hy⟩
  | x :: xs, h => by
    obtain ⟨ys, h1, h2⟩ := list_of f p (xs := xs) fun z hz => h z (List.mem_cons_of_mem _ hz)
    obtain ⟨y, h3, h4⟩ := h x List.mem_cons_self
    exact ⟨y :: ys, by rw [h4, h1]; rfl, fun z hz => by
      rcases List.mem_cons.1 hz with rfl | hz
      · exact h3
      · exact h2 z hz⟩
theorem fits_ints {l : List AV} (h : Fits (.slice (.int .i64)) l) : ∃ xs : List Int, l = [.imm (xs.map encI)] ∧ ∀ x ∈ xs, in64 x := by
  obtain ⟨xs, hx, rfl⟩ := h
  obtain ⟨ys, rfl, hy⟩ := list_of encI in64 (xs := xs) fun x hx' => by
    obtain ⟨l, h1, _, rfl⟩ := hx x hx'
    obtain ⟨n, hn, rfl⟩ := fits_int h1
    exact ⟨n, hn, rfl⟩
  exact ⟨ys, rfl, hy⟩
theorem fits_bools {l : List AV} (h : Fits (.slice .bool) l) : ∃ xs : List Bool, l = [.imm (xs.map encB)] := by
  obtain ⟨xs, hx, rfl⟩ := h
  obtain ⟨ys, rfl, _⟩ := list_of encB (fun _ => True) (xs := xs) fun x hx' => by
    obtain ⟨l, h1, _, rfl⟩ := hx x hx'
    obtain ⟨n, rfl⟩ := fits_bool h1
    exact ⟨n, trivial, rfl⟩
  exact ⟨ys, rfl⟩
theorem fits_coord {a : AV} (h : FitsV coordSh a) : ∃ c : Coord, a = c.enc := by
  obtain ⟨l, h, _, rfl⟩ := h
  obtain ⟨_, _, rfl, h1, _, _, _, rfl, h2, _, _, _, rfl, h3, _, _, _, rfl, h4, _, _, _, rfl, h5, _, _, _, rfl, h6, _, _, _, rfl, h7, _, rfl⟩ := h
  obtain ⟨n1, _, rfl⟩ := fits_int h1
  obtain ⟨n2, _, rfl⟩ := fits_int h2
  obtain ⟨n3, _, rfl⟩ := fits_int h3
  obtain ⟨n4, _, rfl⟩ := fits_int h4
  obtain ⟨x5, rfl, _⟩ := fits_ints h5
  obtain ⟨x6, rfl⟩ := fits_bools h6
  obtain ⟨b7, rfl⟩ := fits_bool h7
  exact ⟨⟨n1, n2, n3, n4, x5, x6, b7⟩, rfl⟩
theorem fits_intV {a : AV} (h : FitsV (.int .i64) a) : ∃ n, in64 n ∧ a = encI n := by
  obtain ⟨l, h, _, rfl⟩ := h
  obtain ⟨n, hn, rfl⟩ := fits_int h
  exact ⟨n, hn, rfl⟩

theorem Try.own : ownKnob Try.prog.godebug = none := by kernel_rfl
theorem Try.laidOut : laidOutB Try.prog = true := by kernel_rfl
theorem barrierStarts_lifted (os : Os) (started : os.Started) (H : Type) (enc : TypeId × Value → H) :
    ReturnsInHanded {} Try.checked os 4 .any (Rows.barrierStartsSpec.pre6 enc Try.prog Try.f4 [] false) (Rows.barrierStartsSpec.post enc Try.prog Try.f4 false true false false) :=
  law_lifted (C := Try.checked) (tb := 4) Try.own started (by kernel_rfl) Try.func4
    (ChangeSpec.witness6 (enc := enc) (C := Try.checked) false ⟨#[], #[.agg #[.int .i64 0, .int .i64 0, .int .i64 0, .int .i64 0, .slice none 0 0, .slice none 0 0, .bool false], .int .i64 0, .int .i64 0], []⟩ 8 (by kernel_rfl) (by kernel_rfl) (by kernel_rfl) (by kernel_rfl))
    rfl Try.laidOut (by decide +kernel) (by kernel_rfl) (by kernel_rfl)
    (fun ds hd => by match ds, hd with | [_, _, _], _ => rfl)
    [coordSh, .int .i64, .int .i64] (by kernel_rfl)
    (fun l hl => by
      obtain ⟨a, _, rfl, h1, b, _, rfl, h2, c, _, rfl, h3, rfl⟩ := hl
      obtain ⟨c, rfl⟩ := fits_coord h1
      obtain ⟨now, _, rfl⟩ := fits_intV h2
      obtain ⟨patience, hp, rfl⟩ := fits_intV h3
      exact good4 c now patience hp)
theorem named4 : Try.pinned.checked.prog.funcNamed Rows.barrierStartsRow.func = some 4 := by kernel_rfl
theorem inst4 : Try.f4.isInstance Try.pinned.checked.prog Rows.barrierStartsRow.origin Rows.barrierStartsRow.targs := of_decide_eq_true (by kernel_rfl)
theorem wrap4 : Try.f4.isWrapper Try.pinned.checked.prog Rows.barrierStartsRow.wrapper Rows.barrierStartsRow.mainSum := by unfold Func.isWrapper; rw [if_neg (by decide +kernel)]; exact ⟨rfl, rfl⟩
theorem barrierStarts : Rows.BarrierStartsSaid :=
  OpenClaim.holds_of_wide 4 Try.f4 rfl rfl rfl rfl rfl rfl rfl ⟨rfl, rfl, rfl, rfl, rfl⟩ rfl rfl rfl rfl rfl named4 Try.func4 j4 inst4 wrap4 (fun os started H enc _ => barrierStarts_lifted os started H enc)
end Go.Proofs.Ytihljollfbogeaa
