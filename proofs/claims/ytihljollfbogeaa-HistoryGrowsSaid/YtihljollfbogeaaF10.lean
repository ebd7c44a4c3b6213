/- The closed facts of HistoryGrows's row. No condition. -/
import Derived.Test.YtihljollfbogeaaR2
namespace Go.Proofs.Ytihljollfbogeaa
open Go Go.RowKit
theorem j10_0 : (Rows.historyGrowsRow.wf (OpenSpec.ofChange Rows.historyGrowsSpec)) = true := by kernel_rfl
theorem j10_1 : (laidOutB Try.pinned.checked.prog) = true := fact_laid
theorem j10_2 : (mapsRowed Try.pinned.checked.prog) = true := fact_maps
theorem j10_3 : (Try.f10.params.all (Try.pinned.checked.prog.readableRec ·)) = true := by kernel_rfl
theorem j10_4 : (namedTie Try.pinned.checked.prog Rows.historyGrowsRow.named Rows.historyGrowsSpec.vars) = true := by kernel_rfl
theorem j10_5 : ((Rows.historyGrowsRow.stops == [])) = true := by kernel_rfl
theorem j10_6 : ((Try.pinned.checked.prog.stops == [])) = true := by kernel_rfl
theorem j10_7 : ((Rows.historyGrowsRow.knobs == [])) = true := by kernel_rfl
theorem j10_8 : ((Try.pinned.checked.prog.stopKnobs == [])) = true := by kernel_rfl
theorem j10_9 : ((Rows.historyGrowsRow.inPlace == Try.pinned.checked.prog.inPlace (10 : FuncId))) = true := by kernel_rfl
theorem j10_10 : ((Rows.historyGrowsRow.unfollowed == Try.pinned.checked.prog.unfollowed (10 : FuncId))) = true := by kernel_rfl
theorem j10_11 : ((Rows.historyGrowsRow.recurses == Try.pinned.checked.prog.recurses (10 : FuncId))) = true := by kernel_rfl
theorem j10_12 : ((Rows.historyGrowsRow.named == Try.pinned.checked.prog.varsNamed (10 : FuncId))) = true := by kernel_rfl
theorem j10_13 : ((Rows.historyGrowsRow.maps == (Try.f10.params.toList ++ Rows.historyGrowsSpec.plain.varTypes Try.pinned.checked.prog).any (Try.pinned.checked.prog.mapsRec ·))) = true := by kernel_rfl
theorem j10_14 : ((Rows.historyGrowsRow.ifaces == (Try.f10.params.toList ++ Rows.historyGrowsSpec.plain.varTypes Try.pinned.checked.prog).any (Try.pinned.checked.prog.ifacesRec ·))) = true := by kernel_rfl
theorem j10_15 : ((Rows.historyGrowsRow.mapsOut == Try.pinned.checked.prog.mapsAmong Try.f10.resultTypes.toList)) = true := by kernel_rfl
theorem j10_16 : ((Rows.historyGrowsRow.loops == (Try.f10.params.toList ++ Rows.historyGrowsSpec.plain.varTypes Try.pinned.checked.prog).any (Try.pinned.checked.prog.loopsFrom ·))) = true := by kernel_rfl
theorem j10_17 : ((Rows.historyGrowsRow.wideKeys == (Try.f10.params.toList ++ Rows.historyGrowsSpec.plain.varTypes Try.pinned.checked.prog ++ Try.f10.resultTypes.toList).any (Try.pinned.checked.prog.wideKeysFrom ·))) = true := by kernel_rfl
theorem j10_18 : (Rows.historyGrowsSpec.vars.all (Try.pinned.checked.prog.varReadable ·)) = true := by kernel_rfl
theorem j10_19 : (Try.f10.resultTypes.all (fun t => Try.pinned.checked.prog.readableRec t && decide (t < Try.pinned.checked.prog.types.size))) = true := by kernel_rfl
theorem j10_20 : ((Rows.historyGrowsRow.ifacesOut == Try.f10.resultTypes.toList.any (Try.pinned.checked.prog.ifacesRec ·))) = true := by kernel_rfl
theorem j10_21 : ((Rows.historyGrowsRow.loopsOut == Try.f10.resultTypes.toList.any (Try.pinned.checked.prog.loopsFrom ·))) = true := by kernel_rfl
theorem j10_22 : ((Rows.historyGrowsRow.plainKeys == Try.pinned.checked.prog.plainKeys)) = true := by kernel_rfl
theorem j10_23 : (Rows.historyGrowsRow.shortTexts.isNone) = true := by kernel_rfl
theorem j10_24 : (Try.pinned.checked.prog.stopsHeard) = true := by kernel_rfl
theorem j10_25 : (Try.pinned.checked.prog.mayEnter) = true := fact_enter
theorem j10_26 : ((Rows.historyGrowsRow.lifted == Try.pinned.checked.prog.liftsFinal)) = true := by rw [fact_lifts]; rfl
theorem j10_27 : ((Try.pinned.checked.prog.make == some Rows.historyGrowsRow.make)) = true := by rw [fact_make]; rfl
theorem j10_29 : ((Rows.historyGrowsRow.pinned == Rows.historyGrowsRow.pinnedBy)) = true := by kernel_rfl
theorem j10_30 : ((Rows.historyGrowsRow.veiled == (Try.f10.params.toList ++ Rows.historyGrowsSpec.plain.varTypes Try.pinned.checked.prog ++ Try.f10.resultTypes.toList).any (Try.pinned.checked.prog.veiledRec ·))) = true := by kernel_rfl
theorem j10_31 : (Rows.historyGrowsRow.veiledFits Try.pinned.checked.prog Try.f10.params.toList (Try.f10.params.toList ++ Rows.historyGrowsSpec.plain.varTypes Try.pinned.checked.prog ++ Try.f10.resultTypes.toList)) = true := by kernel_rfl
theorem j10 : joinedFacts Try.pinned.checked.prog 10 Try.f10 Rows.historyGrowsSpec Rows.historyGrowsRow = true := by
  unfold joinedFacts
  refine andT ?_ j10_31
  refine andT ?_ j10_30
  refine andT ?_ j10_29
  refine andT ?_ (by kernel_rfl)
  refine andT ?_ j10_27
  refine andT ?_ j10_26
  refine andT ?_ j10_25
  refine andT ?_ j10_24
  refine andT ?_ j10_23
  refine andT ?_ j10_22
  refine andT ?_ j10_21
  refine andT ?_ j10_20
  refine andT ?_ j10_19
  refine andT ?_ j10_18
  refine andT ?_ j10_17
  refine andT ?_ j10_16
  refine andT ?_ j10_15
  refine andT ?_ j10_14
  refine andT ?_ j10_13
  refine andT ?_ j10_12
  refine andT ?_ j10_11
  refine andT ?_ j10_10
  refine andT ?_ j10_9
  refine andT ?_ j10_8
  refine andT ?_ j10_7
  refine andT ?_ j10_6
  refine andT ?_ j10_5
  refine andT ?_ j10_4
  refine andT ?_ j10_3
  refine andT ?_ j10_2
  refine andT ?_ j10_1
  exact j10_0
end Go.Proofs.Ytihljollfbogeaa
