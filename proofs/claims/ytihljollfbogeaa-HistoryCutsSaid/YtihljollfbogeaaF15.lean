/- The closed facts of HistoryCuts's row. No condition. -/
import Derived.Test.YtihljollfbogeaaR2
namespace Go.Proofs.Ytihljollfbogeaa
open Go Go.RowKit
theorem j15_0 : (Rows.historyCutsRow.wf (OpenSpec.ofChange Rows.historyCutsSpec)) = true := by kernel_rfl
theorem j15_1 : (laidOutB Try.pinned.checked.prog) = true := fact_laid
theorem j15_2 : (mapsRowed Try.pinned.checked.prog) = true := fact_maps
theorem j15_3 : (Try.f15.params.all (Try.pinned.checked.prog.readableRec ·)) = true := by kernel_rfl
theorem j15_4 : (namedTie Try.pinned.checked.prog Rows.historyCutsRow.named Rows.historyCutsSpec.vars) = true := by kernel_rfl
theorem j15_5 : ((Rows.historyCutsRow.stops == [])) = true := by kernel_rfl
theorem j15_6 : ((Try.pinned.checked.prog.stops == [])) = true := by kernel_rfl
theorem j15_7 : ((Rows.historyCutsRow.knobs == [])) = true := by kernel_rfl
theorem j15_8 : ((Try.pinned.checked.prog.stopKnobs == [])) = true := by kernel_rfl
theorem j15_9 : ((Rows.historyCutsRow.inPlace == Try.pinned.checked.prog.inPlace (15 : FuncId))) = true := by kernel_rfl
theorem j15_10 : ((Rows.historyCutsRow.unfollowed == Try.pinned.checked.prog.unfollowed (15 : FuncId))) = true := by kernel_rfl
theorem j15_11 : ((Rows.historyCutsRow.recurses == Try.pinned.checked.prog.recurses (15 : FuncId))) = true := by kernel_rfl
theorem j15_12 : ((Rows.historyCutsRow.named == Try.pinned.checked.prog.varsNamed (15 : FuncId))) = true := by kernel_rfl
theorem j15_13 : ((Rows.historyCutsRow.maps == (Try.f15.params.toList ++ Rows.historyCutsSpec.plain.varTypes Try.pinned.checked.prog).any (Try.pinned.checked.prog.mapsRec ·))) = true := by kernel_rfl
theorem j15_14 : ((Rows.historyCutsRow.ifaces == (Try.f15.params.toList ++ Rows.historyCutsSpec.plain.varTypes Try.pinned.checked.prog).any (Try.pinned.checked.prog.ifacesRec ·))) = true := by kernel_rfl
theorem j15_15 : ((Rows.historyCutsRow.mapsOut == Try.pinned.checked.prog.mapsAmong Try.f15.resultTypes.toList)) = true := by kernel_rfl
theorem j15_16 : ((Rows.historyCutsRow.loops == (Try.f15.params.toList ++ Rows.historyCutsSpec.plain.varTypes Try.pinned.checked.prog).any (Try.pinned.checked.prog.loopsFrom ·))) = true := by kernel_rfl
theorem j15_17 : ((Rows.historyCutsRow.wideKeys == (Try.f15.params.toList ++ Rows.historyCutsSpec.plain.varTypes Try.pinned.checked.prog ++ Try.f15.resultTypes.toList).any (Try.pinned.checked.prog.wideKeysFrom ·))) = true := by kernel_rfl
theorem j15_18 : (Rows.historyCutsSpec.vars.all (Try.pinned.checked.prog.varReadable ·)) = true := by kernel_rfl
theorem j15_19 : (Try.f15.resultTypes.all (fun t => Try.pinned.checked.prog.readableRec t && decide (t < Try.pinned.checked.prog.types.size))) = true := by kernel_rfl
theorem j15_20 : ((Rows.historyCutsRow.ifacesOut == Try.f15.resultTypes.toList.any (Try.pinned.checked.prog.ifacesRec ·))) = true := by kernel_rfl
theorem j15_21 : ((Rows.historyCutsRow.loopsOut == Try.f15.resultTypes.toList.any (Try.pinned.checked.prog.loopsFrom ·))) = true := by kernel_rfl
theorem j15_22 : ((Rows.historyCutsRow.plainKeys == Try.pinned.checked.prog.plainKeys)) = true := by kernel_rfl
theorem j15_23 : (Rows.historyCutsRow.shortTexts.isNone) = true := by kernel_rfl
theorem j15_24 : (Try.pinned.checked.prog.stopsHeard) = true := by kernel_rfl
theorem j15_25 : (Try.pinned.checked.prog.mayEnter) = true := fact_enter
theorem j15_26 : ((Rows.historyCutsRow.lifted == Try.pinned.checked.prog.liftsFinal)) = true := by rw [fact_lifts]; rfl
theorem j15_27 : ((Try.pinned.checked.prog.make == some Rows.historyCutsRow.make)) = true := by rw [fact_make]; rfl
theorem j15_29 : ((Rows.historyCutsRow.pinned == Rows.historyCutsRow.pinnedBy)) = true := by kernel_rfl
theorem j15_30 : ((Rows.historyCutsRow.veiled == (Try.f15.params.toList ++ Rows.historyCutsSpec.plain.varTypes Try.pinned.checked.prog ++ Try.f15.resultTypes.toList).any (Try.pinned.checked.prog.veiledRec ·))) = true := by kernel_rfl
theorem j15_31 : (Rows.historyCutsRow.veiledFits Try.pinned.checked.prog Try.f15.params.toList (Try.f15.params.toList ++ Rows.historyCutsSpec.plain.varTypes Try.pinned.checked.prog ++ Try.f15.resultTypes.toList)) = true := by kernel_rfl
theorem j15 : joinedFacts Try.pinned.checked.prog 15 Try.f15 Rows.historyCutsSpec Rows.historyCutsRow = true := by
  unfold joinedFacts
  refine andT ?_ j15_31
  refine andT ?_ j15_30
  refine andT ?_ j15_29
  refine andT ?_ (by kernel_rfl)
  refine andT ?_ j15_27
  refine andT ?_ j15_26
  refine andT ?_ j15_25
  refine andT ?_ j15_24
  refine andT ?_ j15_23
  refine andT ?_ j15_22
  refine andT ?_ j15_21
  refine andT ?_ j15_20
  refine andT ?_ j15_19
  refine andT ?_ j15_18
  refine andT ?_ j15_17
  refine andT ?_ j15_16
  refine andT ?_ j15_15
  refine andT ?_ j15_14
  refine andT ?_ j15_13
  refine andT ?_ j15_12
  refine andT ?_ j15_11
  refine andT ?_ j15_10
  refine andT ?_ j15_9
  refine andT ?_ j15_8
  refine andT ?_ j15_7
  refine andT ?_ j15_6
  refine andT ?_ j15_5
  refine andT ?_ j15_4
  refine andT ?_ j15_3
  refine andT ?_ j15_2
  refine andT ?_ j15_1
  exact j15_0
end Go.Proofs.Ytihljollfbogeaa
