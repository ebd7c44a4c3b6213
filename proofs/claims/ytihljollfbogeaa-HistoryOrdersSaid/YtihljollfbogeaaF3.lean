/- The closed facts of HistoryOrders's row. No condition. -/
import Derived.Test.YtihljollfbogeaaR2
namespace Go.Proofs.Ytihljollfbogeaa
open Go Go.RowKit
theorem j3_0 : (Rows.historyOrdersRow.wf (OpenSpec.ofChange Rows.historyOrdersSpec)) = true := by kernel_rfl
theorem j3_1 : (laidOutB Try.pinned.checked.prog) = true := fact_laid
theorem j3_2 : (mapsRowed Try.pinned.checked.prog) = true := fact_maps
theorem j3_3 : (Try.f3.params.all (Try.pinned.checked.prog.readableRec ·)) = true := by kernel_rfl
theorem j3_4 : (namedTie Try.pinned.checked.prog Rows.historyOrdersRow.named Rows.historyOrdersSpec.vars) = true := by kernel_rfl
theorem j3_5 : ((Rows.historyOrdersRow.stops == [])) = true := by kernel_rfl
theorem j3_6 : ((Try.pinned.checked.prog.stops == [])) = true := by kernel_rfl
theorem j3_7 : ((Rows.historyOrdersRow.knobs == [])) = true := by kernel_rfl
theorem j3_8 : ((Try.pinned.checked.prog.stopKnobs == [])) = true := by kernel_rfl
theorem j3_9 : ((Rows.historyOrdersRow.inPlace == Try.pinned.checked.prog.inPlace (3 : FuncId))) = true := by kernel_rfl
theorem j3_10 : ((Rows.historyOrdersRow.unfollowed == Try.pinned.checked.prog.unfollowed (3 : FuncId))) = true := by kernel_rfl
theorem j3_11 : ((Rows.historyOrdersRow.recurses == Try.pinned.checked.prog.recurses (3 : FuncId))) = true := by kernel_rfl
theorem j3_12 : ((Rows.historyOrdersRow.named == Try.pinned.checked.prog.varsNamed (3 : FuncId))) = true := by kernel_rfl
theorem j3_13 : ((Rows.historyOrdersRow.maps == (Try.f3.params.toList ++ Rows.historyOrdersSpec.plain.varTypes Try.pinned.checked.prog).any (Try.pinned.checked.prog.mapsRec ·))) = true := by kernel_rfl
theorem j3_14 : ((Rows.historyOrdersRow.ifaces == (Try.f3.params.toList ++ Rows.historyOrdersSpec.plain.varTypes Try.pinned.checked.prog).any (Try.pinned.checked.prog.ifacesRec ·))) = true := by kernel_rfl
theorem j3_15 : ((Rows.historyOrdersRow.mapsOut == Try.pinned.checked.prog.mapsAmong Try.f3.resultTypes.toList)) = true := by kernel_rfl
theorem j3_16 : ((Rows.historyOrdersRow.loops == (Try.f3.params.toList ++ Rows.historyOrdersSpec.plain.varTypes Try.pinned.checked.prog).any (Try.pinned.checked.prog.loopsFrom ·))) = true := by kernel_rfl
theorem j3_17 : ((Rows.historyOrdersRow.wideKeys == (Try.f3.params.toList ++ Rows.historyOrdersSpec.plain.varTypes Try.pinned.checked.prog ++ Try.f3.resultTypes.toList).any (Try.pinned.checked.prog.wideKeysFrom ·))) = true := by kernel_rfl
theorem j3_18 : (Rows.historyOrdersSpec.vars.all (Try.pinned.checked.prog.varReadable ·)) = true := by kernel_rfl
theorem j3_19 : (Try.f3.resultTypes.all (fun t => Try.pinned.checked.prog.readableRec t && decide (t < Try.pinned.checked.prog.types.size))) = true := by kernel_rfl
theorem j3_20 : ((Rows.historyOrdersRow.ifacesOut == Try.f3.resultTypes.toList.any (Try.pinned.checked.prog.ifacesRec ·))) = true := by kernel_rfl
theorem j3_21 : ((Rows.historyOrdersRow.loopsOut == Try.f3.resultTypes.toList.any (Try.pinned.checked.prog.loopsFrom ·))) = true := by kernel_rfl
theorem j3_22 : ((Rows.historyOrdersRow.plainKeys == Try.pinned.checked.prog.plainKeys)) = true := by kernel_rfl
theorem j3_23 : (Rows.historyOrdersRow.shortTexts.isNone) = true := by kernel_rfl
theorem j3_24 : (Try.pinned.checked.prog.stopsHeard) = true := by kernel_rfl
theorem j3_25 : (Try.pinned.checked.prog.mayEnter) = true := fact_enter
theorem j3_26 : ((Rows.historyOrdersRow.lifted == Try.pinned.checked.prog.liftsFinal)) = true := by rw [fact_lifts]; rfl
theorem j3_27 : ((Try.pinned.checked.prog.make == some Rows.historyOrdersRow.make)) = true := by rw [fact_make]; rfl
theorem j3_29 : ((Rows.historyOrdersRow.pinned == Rows.historyOrdersRow.pinnedBy)) = true := by kernel_rfl
theorem j3_30 : ((Rows.historyOrdersRow.veiled == (Try.f3.params.toList ++ Rows.historyOrdersSpec.plain.varTypes Try.pinned.checked.prog ++ Try.f3.resultTypes.toList).any (Try.pinned.checked.prog.veiledRec ·))) = true := by kernel_rfl
theorem j3_31 : (Rows.historyOrdersRow.veiledFits Try.pinned.checked.prog Try.f3.params.toList (Try.f3.params.toList ++ Rows.historyOrdersSpec.plain.varTypes Try.pinned.checked.prog ++ Try.f3.resultTypes.toList)) = true := by kernel_rfl
theorem j3 : joinedFacts Try.pinned.checked.prog 3 Try.f3 Rows.historyOrdersSpec Rows.historyOrdersRow = true := by
  unfold joinedFacts
  refine andT ?_ j3_31
  refine andT ?_ j3_30
  refine andT ?_ j3_29
  refine andT ?_ (by kernel_rfl)
  refine andT ?_ j3_27
  refine andT ?_ j3_26
  refine andT ?_ j3_25
  refine andT ?_ j3_24
  refine andT ?_ j3_23
  refine andT ?_ j3_22
  refine andT ?_ j3_21
  refine andT ?_ j3_20
  refine andT ?_ j3_19
  refine andT ?_ j3_18
  refine andT ?_ j3_17
  refine andT ?_ j3_16
  refine andT ?_ j3_15
  refine andT ?_ j3_14
  refine andT ?_ j3_13
  refine andT ?_ j3_12
  refine andT ?_ j3_11
  refine andT ?_ j3_10
  refine andT ?_ j3_9
  refine andT ?_ j3_8
  refine andT ?_ j3_7
  refine andT ?_ j3_6
  refine andT ?_ j3_5
  refine andT ?_ j3_4
  refine andT ?_ j3_3
  refine andT ?_ j3_2
  refine andT ?_ j3_1
  exact j3_0
end Go.Proofs.Ytihljollfbogeaa
