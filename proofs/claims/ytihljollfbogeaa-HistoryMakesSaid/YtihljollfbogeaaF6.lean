/- The closed facts of HistoryMakes's row. No condition. -/
import Derived.Test.YtihljollfbogeaaR2
namespace Go.Proofs.Ytihljollfbogeaa
open Go Go.RowKit
theorem j6_0 : (Rows.historyMakesRow.wf (OpenSpec.ofChange Rows.historyMakesSpec)) = true := by kernel_rfl
theorem j6_1 : (laidOutB Try.pinned.checked.prog) = true := fact_laid
theorem j6_2 : (mapsRowed Try.pinned.checked.prog) = true := fact_maps
theorem j6_3 : (Try.f6.params.all (Try.pinned.checked.prog.readableRec ·)) = true := by kernel_rfl
theorem j6_4 : (namedTie Try.pinned.checked.prog Rows.historyMakesRow.named Rows.historyMakesSpec.vars) = true := by kernel_rfl
theorem j6_5 : ((Rows.historyMakesRow.stops == [])) = true := by kernel_rfl
theorem j6_6 : ((Try.pinned.checked.prog.stops == [])) = true := by kernel_rfl
theorem j6_7 : ((Rows.historyMakesRow.knobs == [])) = true := by kernel_rfl
theorem j6_8 : ((Try.pinned.checked.prog.stopKnobs == [])) = true := by kernel_rfl
theorem j6_9 : ((Rows.historyMakesRow.inPlace == Try.pinned.checked.prog.inPlace (6 : FuncId))) = true := by kernel_rfl
theorem j6_10 : ((Rows.historyMakesRow.unfollowed == Try.pinned.checked.prog.unfollowed (6 : FuncId))) = true := by kernel_rfl
theorem j6_11 : ((Rows.historyMakesRow.recurses == Try.pinned.checked.prog.recurses (6 : FuncId))) = true := by kernel_rfl
theorem j6_12 : ((Rows.historyMakesRow.named == Try.pinned.checked.prog.varsNamed (6 : FuncId))) = true := by kernel_rfl
theorem j6_13 : ((Rows.historyMakesRow.maps == (Try.f6.params.toList ++ Rows.historyMakesSpec.plain.varTypes Try.pinned.checked.prog).any (Try.pinned.checked.prog.mapsRec ·))) = true := by kernel_rfl
theorem j6_14 : ((Rows.historyMakesRow.ifaces == (Try.f6.params.toList ++ Rows.historyMakesSpec.plain.varTypes Try.pinned.checked.prog).any (Try.pinned.checked.prog.ifacesRec ·))) = true := by kernel_rfl
theorem j6_15 : ((Rows.historyMakesRow.mapsOut == Try.pinned.checked.prog.mapsAmong Try.f6.resultTypes.toList)) = true := by kernel_rfl
theorem j6_16 : ((Rows.historyMakesRow.loops == (Try.f6.params.toList ++ Rows.historyMakesSpec.plain.varTypes Try.pinned.checked.prog).any (Try.pinned.checked.prog.loopsFrom ·))) = true := by kernel_rfl
theorem j6_17 : ((Rows.historyMakesRow.wideKeys == (Try.f6.params.toList ++ Rows.historyMakesSpec.plain.varTypes Try.pinned.checked.prog ++ Try.f6.resultTypes.toList).any (Try.pinned.checked.prog.wideKeysFrom ·))) = true := by kernel_rfl
theorem j6_18 : (Rows.historyMakesSpec.vars.all (Try.pinned.checked.prog.varReadable ·)) = true := by kernel_rfl
theorem j6_19 : (Try.f6.resultTypes.all (fun t => Try.pinned.checked.prog.readableRec t && decide (t < Try.pinned.checked.prog.types.size))) = true := by kernel_rfl
theorem j6_20 : ((Rows.historyMakesRow.ifacesOut == Try.f6.resultTypes.toList.any (Try.pinned.checked.prog.ifacesRec ·))) = true := by kernel_rfl
theorem j6_21 : ((Rows.historyMakesRow.loopsOut == Try.f6.resultTypes.toList.any (Try.pinned.checked.prog.loopsFrom ·))) = true := by kernel_rfl
theorem j6_22 : ((Rows.historyMakesRow.plainKeys == Try.pinned.checked.prog.plainKeys)) = true := by kernel_rfl
theorem j6_23 : (Rows.historyMakesRow.shortTexts.isNone) = true := by kernel_rfl
theorem j6_24 : (Try.pinned.checked.prog.stopsHeard) = true := by kernel_rfl
theorem j6_25 : (Try.pinned.checked.prog.mayEnter) = true := fact_enter
theorem j6_26 : ((Rows.historyMakesRow.lifted == Try.pinned.checked.prog.liftsFinal)) = true := by rw [fact_lifts]; rfl
theorem j6_27 : ((Try.pinned.checked.prog.make == some Rows.historyMakesRow.make)) = true := by rw [fact_make]; rfl
theorem j6_29 : ((Rows.historyMakesRow.pinned == Rows.historyMakesRow.pinnedBy)) = true := by kernel_rfl
theorem j6_30 : ((Rows.historyMakesRow.veiled == (Try.f6.params.toList ++ Rows.historyMakesSpec.plain.varTypes Try.pinned.checked.prog ++ Try.f6.resultTypes.toList).any (Try.pinned.checked.prog.veiledRec ·))) = true := by kernel_rfl
theorem j6_31 : (Rows.historyMakesRow.veiledFits Try.pinned.checked.prog Try.f6.params.toList (Try.f6.params.toList ++ Rows.historyMakesSpec.plain.varTypes Try.pinned.checked.prog ++ Try.f6.resultTypes.toList)) = true := by kernel_rfl
theorem j6 : joinedFacts Try.pinned.checked.prog 6 Try.f6 Rows.historyMakesSpec Rows.historyMakesRow = true := by
  unfold joinedFacts
  refine andT ?_ j6_31
  refine andT ?_ j6_30
  refine andT ?_ j6_29
  refine andT ?_ (by kernel_rfl)
  refine andT ?_ j6_27
  refine andT ?_ j6_26
  refine andT ?_ j6_25
  refine andT ?_ j6_24
  refine andT ?_ j6_23
  refine andT ?_ j6_22
  refine andT ?_ j6_21
  refine andT ?_ j6_20
  refine andT ?_ j6_19
  refine andT ?_ j6_18
  refine andT ?_ j6_17
  refine andT ?_ j6_16
  refine andT ?_ j6_15
  refine andT ?_ j6_14
  refine andT ?_ j6_13
  refine andT ?_ j6_12
  refine andT ?_ j6_11
  refine andT ?_ j6_10
  refine andT ?_ j6_9
  refine andT ?_ j6_8
  refine andT ?_ j6_7
  refine andT ?_ j6_6
  refine andT ?_ j6_5
  refine andT ?_ j6_4
  refine andT ?_ j6_3
  refine andT ?_ j6_2
  refine andT ?_ j6_1
  exact j6_0
end Go.Proofs.Ytihljollfbogeaa
