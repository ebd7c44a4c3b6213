/- The row's closed facts that read the head of the program's text. No condition. -/
import Derived.Test.YtihljollfbogeaaR1
import Derived.Test.YtihljollfbogeaaRows
namespace Go.Proofs.Ytihljollfbogeaa
open Go Go.RowKit
def headPre : List Char := [104, 97, 114, 110, 101, 115, 115, 32, 97, 101, 102, 48, 102, 99, 97, 49, 51, 52, 56, 53, 50, 102, 48, 51, 99, 100, 98, 48, 49, 56, 51, 56, 50, 49, 51, 100, 57, 48, 48, 57, 100, 57, 50, 98, 49, 48, 51, 54, 57, 57, 102, 98, 102, 100, 52, 56, 54, 102, 57, 51, 49, 54, 57, 99, 54, 53, 101, 55, 97, 98, 48, 53, 32, 99, 117, 116, 32].map Char.ofNat
def headRest : List Char := [97, 116, 32, 115, 116, 97, 110, 100, 98, 121, 47, 115, 116, 97, 110, 100, 98, 121, 108, 97, 119, 49, 53, 46, 72, 105, 115, 116, 111, 114, 121, 79, 114, 100, 101, 114, 115, 32, 115, 116, 97, 110, 100, 98, 121, 47, 115, 116, 97, 110, 100, 98, 121, 108, 97, 119, 50, 49, 46, 66, 97, 114, 114, 105, 101, 114, 83, 116, 97, 114, 116, 115, 32, 115, 116, 97, 110, 100, 98, 121, 47, 115, 116, 97, 110, 100, 98, 121, 108, 97, 119, 50, 49, 46, 66, 97, 114, 114, 105, 101, 114, 79, 98, 101, 121, 115, 32, 115, 116, 97, 110, 100, 98, 121, 47, 115, 116, 97, 110, 100, 98, 121, 108, 97, 119, 49, 53, 46, 72, 105, 115, 116, 111, 114, 121, 77, 97, 107, 101, 115, 32, 115, 116, 97, 110, 100, 98, 121, 47, 115, 116, 97, 110, 100, 98, 121, 108, 97, 119, 50, 49, 46, 66, 97, 114, 114, 105, 101, 114, 67, 111, 108, 108, 101, 99, 116, 115, 32, 115, 116, 97, 110, 100, 98, 121, 47, 115, 116, 97, 110, 100, 98, 121, 108, 97, 119, 49, 53, 46, 72, 105, 115, 116, 111, 114, 121, 83, 104, 111, 119, 115, 32, 115, 116, 97, 110, 100, 98, 121, 47, 115, 116, 97, 110, 100, 98, 121, 116, 111, 112, 46, 84, 111, 112, 83, 112, 108, 105, 116, 115, 82, 101, 115, 111, 108, 118, 101, 100, 32, 115, 116, 97, 110, 100, 98, 121, 47, 115, 116, 97, 110, 100, 98, 121, 108, 97, 119, 49, 53, 46, 72, 105, 115, 116, 111, 114, 121, 71, 114, 111, 119, 115, 32, 115, 116, 97, 110, 100, 98, 121, 47, 115, 116, 97, 110, 100, 98, 121, 108, 97, 119, 49, 53, 46, 72, 105, 115, 116, 111, 114, 121, 80, 97, 114, 116, 105, 97, 108, 32, 115, 116, 97, 110, 100, 98, 121, 47, 115, 116, 97, 110, 100, 98, 121, 116, 111, 112, 46, 84, 111, 112, 66, 97, 114, 114, 105, 101, 114, 71, 114, 111, 119, 115, 32, 115, 116, 97, 110, 100, 98, 121, 47, 115, 116, 97, 110, 100, 98, 121, 108, 97, 119, 49, 53, 46, 72, 105, 115, 116, 111, 114, 121, 82, 101, 112, 108, 97, 121, 115, 32, 115, 116, 97, 110, 100, 98, 121, 47, 115, 116, 97, 110, 100, 98, 121, 108, 97, 119, 50, 49, 46, 66, 97, 114, 114, 105, 101, 114, 67, 111, 117, 110, 116, 115, 32, 115, 116, 97, 110, 100, 98, 121, 47, 115, 116, 97, 110, 100, 98, 121, 108, 97, 119, 49, 53, 46, 72, 105, 115, 116, 111, 114, 121, 67, 117, 116, 115, 32, 115, 116, 97, 110, 100, 98, 121, 47, 115, 116, 97, 110, 100, 98, 121, 108, 97, 119, 50, 49, 46, 66, 97, 114, 114, 105, 101, 114, 67, 111, 110, 115, 105, 115, 116, 101, 110, 116, 32, 115, 116, 97, 110, 100, 98, 121, 47, 115, 116, 97, 110, 100, 98, 121, 108, 97, 119, 50, 49, 46, 66, 97, 114, 114, 105, 101, 114, 65, 99, 107, 110, 111, 119, 108, 101, 100, 103, 101, 115, 32, 115, 116, 97, 110, 100, 98, 121, 47, 115, 116, 97, 110, 100, 98, 121, 108, 97, 119, 50, 49, 46, 66, 97, 114, 114, 105, 101, 114, 83, 117, 99, 99, 101, 101, 100, 115, 32, 115, 116, 97, 110, 100, 98, 121, 47, 115, 116, 97, 110, 100, 98, 121, 108, 97, 119, 49, 53, 46, 72, 105, 115, 116, 111, 114, 121, 82, 101, 115, 116, 114, 105, 99, 116, 115, 32, 115, 116, 97, 110, 100, 98, 121, 47, 115, 116, 97, 110, 100, 98, 121, 108, 97, 119, 50, 48, 46, 71, 114, 111, 117, 112, 73, 115, 115, 117, 101, 115, 32, 115, 116, 97, 110, 100, 98, 121, 47, 115, 116, 97, 110, 100, 98, 121, 108, 97, 119, 50, 48, 46, 71, 114, 111, 117, 112, 70, 114, 101, 101, 122, 101, 115, 32, 115, 116, 97, 110, 100, 98, 121, 47, 115, 116, 97, 110, 100, 98, 121, 108, 97, 119, 50, 48, 46, 71, 114, 111, 117, 112, 82, 101, 99, 111, 118, 101, 114, 115, 32, 115, 116, 97, 110, 100, 98, 121, 47, 115, 116, 97, 110, 100, 98, 121, 108, 97, 119, 50, 48, 46, 71, 114, 111, 117, 112, 72, 111, 108, 100, 115, 32, 115, 116, 97, 110, 100, 98, 121, 47, 115, 116, 97, 110, 100, 98, 121, 108, 97, 119, 50, 48, 46, 71, 114, 111, 117, 112, 77, 97, 107, 101, 115, 32, 115, 116, 97, 110, 100, 98, 121, 47, 115, 116, 97, 110, 100, 98, 121, 108, 97, 119, 50, 48, 46, 71, 114, 111, 117, 112, 65, 99, 99, 111, 117, 110, 116, 115, 32, 115, 116, 97, 110, 100, 98, 121, 47, 115, 116, 97, 110, 100, 98, 121, 108, 97, 119, 50, 48, 46, 71, 114, 111, 117, 112, 67, 117, 116, 115, 32, 115, 116, 97, 110, 100, 98, 121, 47, 115, 116, 97, 110, 100, 98, 121, 108, 97, 119, 50, 48, 46, 71, 114, 111, 117, 112, 83, 117, 114, 118, 105, 118, 101, 115].map Char.ofNat
theorem head_is : Try.pinned.checked.prog.initOrder = String.ofList (headPre ++ headRest) := by kernel_rfl
theorem head_words : wordsSigns Try.pinned.checked.prog.initOrder.toList = "harness".toList :: (headPre.drop 8).take 64 :: "cut".toList :: wordsSigns headRest := by
  rw [head_is, String.toList_ofList]
  kernel_rfl
theorem head_cut : behindMainWord (wordsSigns Try.pinned.checked.prog.initOrder.toList) = "cut".toList :: wordsSigns headRest := by
  rw [head_words]
  kernel_rfl
theorem strip_cut (R : List (List Char)) : stripLifts liftWords ("cut".toList :: R) = ([], "cut".toList :: R) := by kernel_rfl
theorem cut_gc : ("cut".toList == "gc".toList || "cut".toList == "spec".toList) = false := by kernel_rfl
theorem make_of {P : Program} {R : List (List Char)} (h : behindMainWord (wordsSigns P.initOrder.toList) = "cut".toList :: R) : P.make = some .cut := by
  unfold Program.make
  rw [h]
  simp -implicitDefEqProofs only [cut_gc, beq_self_eq_true, Bool.true_or, if_true]
  rfl
theorem enter_of {P : Program} {R : List (List Char)} (h : behindMainWord (wordsSigns P.initOrder.toList) = "cut".toList :: R) (hl : P.laysLater = false) (hr : P.bearsReflect = false) (hd : P.doorRows = []) : P.mayEnter = true := by
  unfold Program.mayEnter
  rw [h]
  simp -implicitDefEqProofs only [strip_cut, hl, hr, Program.doorFits, hd]
  simp -implicitDefEqProofs
theorem no_later : Try.pinned.checked.prog.laysLater = false := by kernel_rfl
theorem no_reflect : Try.pinned.checked.prog.bearsReflect = false := by kernel_rfl
theorem no_door : Try.pinned.checked.prog.doorRows = [] := by kernel_rfl
theorem fact_make : Try.pinned.checked.prog.make = some .cut := make_of head_cut
theorem fact_enter : Try.pinned.checked.prog.mayEnter = true := enter_of head_cut no_later no_reflect no_door
theorem fact_lifts : Try.pinned.checked.prog.liftsFinal = false := by
  unfold Program.liftsFinal Program.headLifts
  rw [head_words]
  kernel_rfl
theorem fact_laid : laidOutB Try.pinned.checked.prog = true := by kernel_rfl
theorem fact_maps : mapsRowed Try.pinned.checked.prog = true := by kernel_rfl
theorem andT {a b : Bool} (ha : a = true) (hb : b = true) : (a && b) = true := by rw [ha, hb]; rfl
end Go.Proofs.Ytihljollfbogeaa
