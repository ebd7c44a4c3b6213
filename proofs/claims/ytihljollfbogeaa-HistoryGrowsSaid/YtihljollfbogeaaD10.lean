/- The chapter's examples on histories. No condition. -/
import Derived.Test.YtihljollfbogeaaD9
namespace Go.Proofs.Ytihljollfbogeaa
open Go Go.RowKit
def s1Sec : Sec := ⟨[1, 0, 0, 0, 0, 0, 0, 0], rfl⟩
def exH : Hist := ⟨[4], [⟨0, 0, [s1Sec]⟩, ⟨0, 1, [s1Sec]⟩, ⟨0, 2, [s1Sec]⟩], [⟨0, 0⟩, ⟨0, 1⟩, ⟨1, 0⟩, ⟨0, 2⟩]⟩
def exEv : List Evt := [⟨0, 0⟩, ⟨1, 0⟩, ⟨0, 1⟩]
theorem exH_ok : OkH exH := ⟨by decide, by decide, by decide, fun w hw => by
  simp only [exH, List.mem_cons, List.not_mem_nil, or_false] at hw
  rcases hw with rfl | rfl | rfl <;> decide⟩
theorem w211 : (fnA (mkH []) (fun _ _ _ _ => none) 64 1 c211 [encI 0] hemp).map outA = some (Wr.enc ⟨0, 0, [s1Sec]⟩) := by kernel_rfl
theorem w211' : (fnA (mkH []) (fun _ _ _ _ => none) 64 1 c211 [encI 1] hemp).map outA = some (Wr.enc ⟨0, 1, [s1Sec]⟩) := by kernel_rfl
theorem w211'' : (fnA (mkH []) (fun _ _ _ _ => none) 64 1 c211 [encI 2] hemp).map outA = some (Wr.enc ⟨0, 2, [s1Sec]⟩) := by kernel_rfl
def A122 : List (FuncId × List AV × AV) := [(211, [encI 0], Wr.enc ⟨0, 0, [s1Sec]⟩), (211, [encI 1], Wr.enc ⟨0, 1, [s1Sec]⟩), (211, [encI 2], Wr.enc ⟨0, 2, [s1Sec]⟩)]
theorem A122_ok : HandOk Try.prog (tabH A122) := tabH_ok <| tab_more (good_of_out none_ok no_inl mixed Try.func211 k211 w211) <| tab_more (good_of_out none_ok no_inl mixed Try.func211 k211 w211') <| tab_more (good_of_out none_ok no_inl mixed Try.func211 k211 w211'') tab_nil
theorem w122 : (fnA (tabH A122) (fun _ _ _ _ => none) 64 1 c122 [] hemp).map outA = some exH.enc := by kernel_rfl
theorem good122 : Enters Try.prog 122 ∧ Good Try.prog 122 [] exH.enc := good_of_out A122_ok no_inl mixed Try.func122 k122 w122
theorem w123 : (fnA (mkH []) (fun _ _ _ _ => none) 64 1 c123 [encEs exEv, encEs exEv] hemp).map outA = some (encB true) := by kernel_rfl
noncomputable def A29 : List (FuncId × List AV × AV) := [(122, [], exH.enc),
  (64, [exH.enc, encIs [0, 2]], .tup [(restrictH exH [0, 2]).1.enc, encI (restrictH exH [0, 2]).2]), (64, [exH.enc, encIs [1, 2]], .tup [(restrictH exH [1, 2]).1.enc, encI (restrictH exH [1, 2]).2]),
  (56, [exH.enc], encI (checkH exH)), (30, [exH.enc, encI 0, encI 2], encB (beforeH exH 0 2)), (30, [exH.enc, encI 0, encI 1], encB (beforeH exH 0 1)), (30, [exH.enc, encI 1, encI 2], encB (beforeH exH 1 2)),
  (32, [exH.enc, encIs [1, 2]], encB (closedH exH [1, 2])), (32, [exH.enc, encIs [0, 1]], encB (closedH exH [0, 1])), (123, [encEs exEv, encEs exEv], encB true), (35, [exH.enc, encI 3], encIs (ackH exH 3)), (34, [encIs [0], encIs [0]], encB true)]
theorem okL_50 {l : List Int} (h : l.length ≤ 50) : okL l := by simp only [okL, big]; omega
theorem okL_small {l : List Int} (h : l.length ≤ 3) : okL l := by simp only [okL, big]; omega
theorem A29_ok : HandOk Try.prog (tabH A29) := tabH_ok <|
  tab_more good122 <|
  tab_more (x64_ok _ _ (x64_eq exH_ok (okL_small (by decide)))) <| tab_more (x64_ok _ _ (x64_eq exH_ok (okL_small (by decide)))) <|
  tab_more (x56_ok _ _ (x56_eq exH_ok)) <| tab_more (x30_ok _ _ (x30_eq exH_ok 0 2)) <| tab_more (x30_ok _ _ (x30_eq exH_ok 0 1)) <| tab_more (x30_ok _ _ (x30_eq exH_ok 1 2)) <|
  tab_more (x32_ok _ _ (x32_eq exH_ok (okL_small (by decide)))) <| tab_more (x32_ok _ _ (x32_eq exH_ok (okL_small (by decide)))) <|
  tab_more (good_of_out none_ok no_inl mixed Try.func123 k123 w123) <| tab_more (x35_ok _ _ (x35_eq exH_ok 3)) <| tab_more (x34_ok _ _ (x34_eq [0] (okL_small (by decide)))) <| tab_nil
theorem w29 : (fnA (tabH A29) (fun _ _ _ _ => none) 64 1 c29 [] hemp).map outA = some (.sc (.bool true)) := by kernel_rfl
theorem good29 : Enters Try.prog 29 ∧ Good Try.prog 29 [] (.sc (.bool true)) := good_of_out A29_ok no_inl mixed Try.func29 k29 w29
def x29 : X := fun l => match l with | [] => some (encB true) | _ => none
theorem x29_ok : Known 29 x29 := fun l r hr => by
  unfold x29 at hr
  split at hr
  · cases hr; exact good29
  · cases hr
end Go.Proofs.Ytihljollfbogeaa
