/- The closed facts of BarrierCollects's row. No condition. -/
import Derived.Test.YtihljollfbogeaaR2
namespace Go.Proofs.Ytihljollfbogeaa
open Go Go.RowKit
theorem j7_0 : (Rows.barrierCollectsRow.wf (OpenSpec.ofChange Rows.barrierCollectsSpec)) = true := by kernel_rfl
theorem j7_1 : (laidOutB Try.pinned.checked.prog) = true := fact_laid
theorem j7_2 : (mapsRowed Try.pinned.checked.prog) = true := fact_maps
theorem j7_3 : (Try.f7.params.all (Try.pinned.checked.prog.readableRec ·)) = true := by kernel_rfl
theorem j7_4 : (namedTie Try.pinned.checked.prog Rows.barrierCollectsRow.named Rows.barrierCollectsSpec.vars) = true := by kernel_rfl
theorem j7_5 : ((Rows.barrierCollectsRow.stops == [])) = true := by kernel_rfl
theorem j7_6 : ((Try.pinned.checked.prog.stops == [])) = true := by kernel_rfl
theorem j7_7 : ((Rows.barrierCollectsRow.knobs == [])) = true := by kernel_rfl
theorem j7_8 : ((Try.pinned.checked.prog.stopKnobs == [])) = true := by kernel_rfl
theorem j7_9 : ((Rows.barrierCollectsRow.inPlace == Try.pinned.checked.prog.inPlace (7 : FuncId))) = true := by kernel_rfl
theorem j7_10 : ((Rows.barrierCollectsRow.unfollowed == Try.pinned.checked.prog.unfollowed (7 : FuncId))) = true := by kernel_rfl
theorem j7_11 : ((Rows.barrierCollectsRow.recurses == Try.pinned.checked.prog.recurses (7 : FuncId))) = true := by kernel_rfl
theorem j7_12 : ((Rows.barrierCollectsRow.named == Try.pinned.checked.prog.varsNamed (7 : FuncId))) = true := by kernel_rfl
theorem j7_13 : ((Rows.barrierCollectsRow.maps == (Try.f7.params.toList ++ Rows.barrierCollectsSpec.plain.varTypes Try.pinned.checked.prog).any (Try.pinned.checked.prog.mapsRec ·))) = true := by kernel_rfl
theorem j7_14 : ((Rows.barrierCollectsRow.ifaces == (Try.f7.params.toList ++ Rows.barrierCollectsSpec.plain.varTypes Try.pinned.checked.prog).any (Try.pinned.checked.prog.ifacesRec ·))) = true := by kernel_rfl
theorem j7_15 : ((Rows.barrierCollectsRow.mapsOut == Try.pinned.checked.prog.mapsAmong Try.f7.resultTypes.toList)) = true := by kernel_rfl
theorem j7_16 : ((Rows.barrierCollectsRow.loops == (Try.f7.params.toList ++ Rows.barrierCollectsSpec.plain.varTypes Try.pinned.checked.prog).any (Try.pinned.checked.prog.loopsFrom ·))) = true := by kernel_rfl
theorem j7_17 : ((Rows.barrierCollectsRow.wideKeys == (Try.f7.params.toList ++ Rows.barrierCollectsSpec.plain.varTypes Try.pinned.checked.prog ++ Try.f7.resultTypes.toList).any (Try.pinned.checked.prog.wideKeysFrom ·))) = true := by kernel_rfl
theorem j7_18 : (Rows.barrierCollectsSpec.vars.all (Try.pinned.checked.prog.varReadable ·)) = true := by kernel_rfl
theorem j7_19 : (Try.f7.resultTypes.all (fun t => Try.pinned.checked.prog.readableRec t && decide (t < Try.pinned.checked.prog.types.size))) = true := by kernel_rfl
theorem j7_20 : ((Rows.barrierCollectsRow.ifacesOut == Try.f7.resultTypes.toList.any (Try.pinned.checked.prog.ifacesRec ·))) = true := by kernel_rfl
theorem j7_21 : ((Rows.barrierCollectsRow.loopsOut == Try.f7.resultTypes.toList.any (Try.pinned.checked.prog.loopsFrom ·))) = true := by kernel_rfl
theorem j7_22 : ((Rows.barrierCollectsRow.plainKeys == Try.pinned.checked.prog.plainKeys)) = true := by kernel_rfl
theorem j7_23 : (Rows.barrierCollectsRow.shortTexts.isNone) = true := by kernel_rfl
theorem j7_24 : (Try.pinned.checked.prog.stopsHeard) = true := by kernel_rfl
theorem j7_25 : (Try.pinned.checked.prog.mayEnter) = true := fact_enter
theorem j7_26 : ((Rows.barrierCollectsRow.lifted == Try.pinned.checked.prog.liftsFinal)) = true := by rw [fact_lifts]; rfl
theorem j7_27 : ((Try.pinned.checked.prog.make == some Rows.barrierCollectsRow.make)) = true := by rw [fact_make]; rfl
theorem j7_29 : ((Rows.barrierCollectsRow.pinned == Rows.barrierCollectsRow.pinnedBy)) = true := by kernel_rfl
theorem j7_30 : ((Rows.barrierCollectsRow.veiled == (Try.f7.params.toList ++ Rows.barrierCollectsSpec.plain.varTypes Try.pinned.checked.prog ++ Try.f7.resultTypes.toList).any (Try.pinned.checked.prog.veiledRec ·))) = true := by kernel_rfl
theorem j7_31 : (Rows.barrierCollectsRow.veiledFits Try.pinned.checked.prog Try.f7.params.toList (Try.f7.params.toList ++ Rows.barrierCollectsSpec.plain.varTypes Try.pinned.checked.prog ++ Try.f7.resultTypes.toList)) = true := by kernel_rfl
theorem j7 : joinedFacts Try.pinned.checked.prog 7 Try.f7 Rows.barrierCollectsSpec Rows.barrierCollectsRow = true := by
  unfold joinedFacts
  refine andT ?_ j7_31
  refine andT ?_ j7_30
  refine andT ?_ j7_29
  refine andT ?_ (by kernel_rfl)
  refine andT ?_ j7_27
  refine andT ?_ j7_26
  refine andT ?_ j7_25
  refine andT ?_ j7_24
  refine andT ?_ j7_23
  refine andT ?_ j7_22
  refine andT ?_ j7_21
  refine andT ?_ j7_20
  refine andT ?_ j7_19
  refine andT ?_ j7_18
  refine andT ?_ j7_17
  refine andT ?_ j7_16
  refine andT ?_ j7_15
  refine andT ?_ j7_14
  refine andT ?_ j7_13
  refine andT ?_ j7_12
  refine andT ?_ j7_11
  refine andT ?_ j7_10
  refine andT ?_ j7_9
  refine andT ?_ j7_8
  refine andT ?_ j7_7
  refine andT ?_ j7_6
  refine andT ?_ j7_5
  refine andT ?_ j7_4
  refine andT ?_ j7_3
  refine andT ?_ j7_2
  refine andT ?_ j7_1
  exact j7_0
end Go.Proofs.Ytihljollfbogeaa
