/- The closed facts of BarrierCounts's row. No condition. -/
import Derived.Test.YtihljollfbogeaaR2
namespace Go.Proofs.Ytihljollfbogeaa
open Go Go.RowKit
theorem j14_0 : (Rows.barrierCountsRow.wf (OpenSpec.ofChange Rows.barrierCountsSpec)) = true := by kernel_rfl
theorem j14_1 : (laidOutB Try.pinned.checked.prog) = true := fact_laid
theorem j14_2 : (mapsRowed Try.pinned.checked.prog) = true := fact_maps
theorem j14_3 : (Try.f14.params.all (Try.pinned.checked.prog.readableRec ·)) = true := by kernel_rfl
theorem j14_4 : (namedTie Try.pinned.checked.prog Rows.barrierCountsRow.named Rows.barrierCountsSpec.vars) = true := by kernel_rfl
theorem j14_5 : ((Rows.barrierCountsRow.stops == [])) = true := by kernel_rfl
theorem j14_6 : ((Try.pinned.checked.prog.stops == [])) = true := by kernel_rfl
theorem j14_7 : ((Rows.barrierCountsRow.knobs == [])) = true := by kernel_rfl
theorem j14_8 : ((Try.pinned.checked.prog.stopKnobs == [])) = true := by kernel_rfl
theorem j14_9 : ((Rows.barrierCountsRow.inPlace == Try.pinned.checked.prog.inPlace (14 : FuncId))) = true := by kernel_rfl
theorem j14_10 : ((Rows.barrierCountsRow.unfollowed == Try.pinned.checked.prog.unfollowed (14 : FuncId))) = true := by kernel_rfl
theorem j14_11 : ((Rows.barrierCountsRow.recurses == Try.pinned.checked.prog.recurses (14 : FuncId))) = true := by kernel_rfl
theorem j14_12 : ((Rows.barrierCountsRow.named == Try.pinned.checked.prog.varsNamed (14 : FuncId))) = true := by kernel_rfl
theorem j14_13 : ((Rows.barrierCountsRow.maps == (Try.f14.params.toList ++ Rows.barrierCountsSpec.plain.varTypes Try.pinned.checked.prog).any (Try.pinned.checked.prog.mapsRec ·))) = true := by kernel_rfl
theorem j14_14 : ((Rows.barrierCountsRow.ifaces == (Try.f14.params.toList ++ Rows.barrierCountsSpec.plain.varTypes Try.pinned.checked.prog).any (Try.pinned.checked.prog.ifacesRec ·))) = true := by kernel_rfl
theorem j14_15 : ((Rows.barrierCountsRow.mapsOut == Try.pinned.checked.prog.mapsAmong Try.f14.resultTypes.toList)) = true := by kernel_rfl
theorem j14_16 : ((Rows.barrierCountsRow.loops == (Try.f14.params.toList ++ Rows.barrierCountsSpec.plain.varTypes Try.pinned.checked.prog).any (Try.pinned.checked.prog.loopsFrom ·))) = true := by kernel_rfl
theorem j14_17 : ((Rows.barrierCountsRow.wideKeys == (Try.f14.params.toList ++ Rows.barrierCountsSpec.plain.varTypes Try.pinned.checked.prog ++ Try.f14.resultTypes.toList).any (Try.pinned.checked.prog.wideKeysFrom ·))) = true := by kernel_rfl
theorem j14_18 : (Rows.barrierCountsSpec.vars.all (Try.pinned.checked.prog.varReadable ·)) = true := by kernel_rfl
theorem j14_19 : (Try.f14.resultTypes.all (fun t => Try.pinned.checked.prog.readableRec t && decide (t < Try.pinned.checked.prog.types.size))) = true := by kernel_rfl
theorem j14_20 : ((Rows.barrierCountsRow.ifacesOut == Try.f14.resultTypes.toList.any (Try.pinned.checked.prog.ifacesRec ·))) = true := by kernel_rfl
theorem j14_21 : ((Rows.barrierCountsRow.loopsOut == Try.f14.resultTypes.toList.any (Try.pinned.checked.prog.loopsFrom ·))) = true := by kernel_rfl
theorem j14_22 : ((Rows.barrierCountsRow.plainKeys == Try.pinned.checked.prog.plainKeys)) = true := by kernel_rfl
theorem j14_23 : (Rows.barrierCountsRow.shortTexts.isNone) = true := by kernel_rfl
theorem j14_24 : (Try.pinned.checked.prog.stopsHeard) = true := by kernel_rfl
theorem j14_25 : (Try.pinned.checked.prog.mayEnter) = true := fact_enter
theorem j14_26 : ((Rows.barrierCountsRow.lifted == Try.pinned.checked.prog.liftsFinal)) = true := by rw [fact_lifts]; rfl
theorem j14_27 : ((Try.pinned.checked.prog.make == some Rows.barrierCountsRow.make)) = true := by rw [fact_make]; rfl
theorem j14_29 : ((Rows.barrierCountsRow.pinned == Rows.barrierCountsRow.pinnedBy)) = true := by kernel_rfl
theorem j14_30 : ((Rows.barrierCountsRow.veiled == (Try.f14.params.toList ++ Rows.barrierCountsSpec.plain.varTypes Try.pinned.checked.prog ++ Try.f14.resultTypes.toList).any (Try.pinned.checked.prog.veiledRec ·))) = true := by kernel_rfl
theorem j14_31 : (Rows.barrierCountsRow.veiledFits Try.pinned.checked.prog Try.f14.params.toList (Try.f14.params.toList ++ Rows.barrierCountsSpec.plain.varTypes Try.pinned.checked.prog ++ Try.f14.resultTypes.toList)) = true := by kernel_rfl
theorem j14 : joinedFacts Try.pinned.checked.prog 14 Try.f14 Rows.barrierCountsSpec Rows.barrierCountsRow = true := by
  unfold joinedFacts
  refine andT ?_ j14_31
  refine andT ?_ j14_30
  refine andT ?_ j14_29
  refine andT ?_ (by kernel_rfl)
  refine andT ?_ j14_27
  refine andT ?_ j14_26
  refine andT ?_ j14_25
  refine andT ?_ j14_24
  refine andT ?_ j14_23
  refine andT ?_ j14_22
  refine andT ?_ j14_21
  refine andT ?_ j14_20
  refine andT ?_ j14_19
  refine andT ?_ j14_18
  refine andT ?_ j14_17
  refine andT ?_ j14_16
  refine andT ?_ j14_15
  refine andT ?_ j14_14
  refine andT ?_ j14_13
  refine andT ?_ j14_12
  refine andT ?_ j14_11
  refine andT ?_ j14_10
  refine andT ?_ j14_9
  refine andT ?_ j14_8
  refine andT ?_ j14_7
  refine andT ?_ j14_6
  refine andT ?_ j14_5
  refine andT ?_ j14_4
  refine andT ?_ j14_3
  refine andT ?_ j14_2
  refine andT ?_ j14_1
  exact j14_0
end Go.Proofs.Ytihljollfbogeaa
