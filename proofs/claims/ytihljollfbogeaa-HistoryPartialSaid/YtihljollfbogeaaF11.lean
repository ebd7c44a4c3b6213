/- The closed facts of HistoryPartial's row. No condition. -/
import Derived.Test.YtihljollfbogeaaR2
namespace Go.Proofs.Ytihljollfbogeaa
open Go Go.RowKit
theorem j11_0 : (Rows.historyPartialRow.wf (OpenSpec.ofChange Rows.historyPartialSpec)) = true := by kernel_rfl
theorem j11_1 : (laidOutB Try.pinned.checked.prog) = true := fact_laid
theorem j11_2 : (mapsRowed Try.pinned.checked.prog) = true := fact_maps
theorem j11_3 : (Try.f11.params.all (Try.pinned.checked.prog.readableRec ·)) = true := by kernel_rfl
theorem j11_4 : (namedTie Try.pinned.checked.prog Rows.historyPartialRow.named Rows.historyPartialSpec.vars) = true := by kernel_rfl
theorem j11_5 : ((Rows.historyPartialRow.stops == [])) = true := by kernel_rfl
theorem j11_6 : ((Try.pinned.checked.prog.stops == [])) = true := by kernel_rfl
theorem j11_7 : ((Rows.historyPartialRow.knobs == [])) = true := by kernel_rfl
theorem j11_8 : ((Try.pinned.checked.prog.stopKnobs == [])) = true := by kernel_rfl
theorem j11_9 : ((Rows.historyPartialRow.inPlace == Try.pinned.checked.prog.inPlace (11 : FuncId))) = true := by kernel_rfl
theorem j11_10 : ((Rows.historyPartialRow.unfollowed == Try.pinned.checked.prog.unfollowed (11 : FuncId))) = true := by kernel_rfl
theorem j11_11 : ((Rows.historyPartialRow.recurses == Try.pinned.checked.prog.recurses (11 : FuncId))) = true := by kernel_rfl
theorem j11_12 : ((Rows.historyPartialRow.named == Try.pinned.checked.prog.varsNamed (11 : FuncId))) = true := by kernel_rfl
theorem j11_13 : ((Rows.historyPartialRow.maps == (Try.f11.params.toList ++ Rows.historyPartialSpec.plain.varTypes Try.pinned.checked.prog).any (Try.pinned.checked.prog.mapsRec ·))) = true := by kernel_rfl
theorem j11_14 : ((Rows.historyPartialRow.ifaces == (Try.f11.params.toList ++ Rows.historyPartialSpec.plain.varTypes Try.pinned.checked.prog).any (Try.pinned.checked.prog.ifacesRec ·))) = true := by kernel_rfl
theorem j11_15 : ((Rows.historyPartialRow.mapsOut == Try.pinned.checked.prog.mapsAmong Try.f11.resultTypes.toList)) = true := by kernel_rfl
theorem j11_16 : ((Rows.historyPartialRow.loops == (Try.f11.params.toList ++ Rows.historyPartialSpec.plain.varTypes Try.pinned.checked.prog).any (Try.pinned.checked.prog.loopsFrom ·))) = true := by kernel_rfl
theorem j11_17 : ((Rows.historyPartialRow.wideKeys == (Try.f11.params.toList ++ Rows.historyPartialSpec.plain.varTypes Try.pinned.checked.prog ++ Try.f11.resultTypes.toList).any (Try.pinned.checked.prog.wideKeysFrom ·))) = true := by kernel_rfl
theorem j11_18 : (Rows.historyPartialSpec.vars.all (Try.pinned.checked.prog.varReadable ·)) = true := by kernel_rfl
theorem j11_19 : (Try.f11.resultTypes.all (fun t => Try.pinned.checked.prog.readableRec t && decide (t < Try.pinned.checked.prog.types.size))) = true := by kernel_rfl
theorem j11_20 : ((Rows.historyPartialRow.ifacesOut == Try.f11.resultTypes.toList.any (Try.pinned.checked.prog.ifacesRec ·))) = true := by kernel_rfl
theorem j11_21 : ((Rows.historyPartialRow.loopsOut == Try.f11.resultTypes.toList.any (Try.pinned.checked.prog.loopsFrom ·))) = true := by kernel_rfl
theorem j11_22 : ((Rows.historyPartialRow.plainKeys == Try.pinned.checked.prog.plainKeys)) = true := by kernel_rfl
theorem j11_23 : (Rows.historyPartialRow.shortTexts.isNone) = true := by kernel_rfl
theorem j11_24 : (Try.pinned.checked.prog.stopsHeard) = true := by kernel_rfl
theorem j11_25 : (Try.pinned.checked.prog.mayEnter) = true := fact_enter
theorem j11_26 : ((Rows.historyPartialRow.lifted == Try.pinned.checked.prog.liftsFinal)) = true := by rw [fact_lifts]; rfl
theorem j11_27 : ((Try.pinned.checked.prog.make == some Rows.historyPartialRow.make)) = true := by rw [fact_make]; rfl
theorem j11_29 : ((Rows.historyPartialRow.pinned == Rows.historyPartialRow.pinnedBy)) = true := by kernel_rfl
theorem j11_30 : ((Rows.historyPartialRow.veiled == (Try.f11.params.toList ++ Rows.historyPartialSpec.plain.varTypes Try.pinned.checked.prog ++ Try.f11.resultTypes.toList).any (Try.pinned.checked.prog.veiledRec ·))) = true := by kernel_rfl
theorem j11_31 : (Rows.historyPartialRow.veiledFits Try.pinned.checked.prog Try.f11.params.toList (Try.f11.params.toList ++ Rows.historyPartialSpec.plain.varTypes Try.pinned.checked.prog ++ Try.f11.resultTypes.toList)) = true := by kernel_rfl
theorem j11 : joinedFacts Try.pinned.checked.prog 11 Try.f11 Rows.historyPartialSpec Rows.historyPartialRow = true := by
  unfold joinedFacts
  refine andT ?_ j11_31
  refine andT ?_ j11_30
  refine andT ?_ j11_29
  refine andT ?_ (by kernel_rfl)
  refine andT ?_ j11_27
  refine andT ?_ j11_26
  refine andT ?_ j11_25
  refine andT ?_ j11_24
  refine andT ?_ j11_23
  refine andT ?_ j11_22
  refine andT ?_ j11_21
  refine andT ?_ j11_20
  refine andT ?_ j11_19
  refine andT ?_ j11_18
  refine andT ?_ j11_17
  refine andT ?_ j11_16
  refine andT ?_ j11_15
  refine andT ?_ j11_14
  refine andT ?_ j11_13
  refine andT ?_ j11_12
  refine andT ?_ j11_11
  refine andT ?_ j11_10
  refine andT ?_ j11_9
  refine andT ?_ j11_8
  refine andT ?_ j11_7
  refine andT ?_ j11_6
  refine andT ?_ j11_5
  refine andT ?_ j11_4
  refine andT ?_ j11_3
  refine andT ?_ j11_2
  refine andT ?_ j11_1
  exact j11_0
end Go.Proofs.Ytihljollfbogeaa
