/- The closed facts of HistoryReplays's row. No condition. -/
import Derived.Test.YtihljollfbogeaaR2
namespace Go.Proofs.Ytihljollfbogeaa
open Go Go.RowKit
theorem j13_0 : (Rows.historyReplaysRow.wf (OpenSpec.ofChange Rows.historyReplaysSpec)) = true := by kernel_rfl
theorem j13_1 : (laidOutB Try.pinned.checked.prog) = true := fact_laid
theorem j13_2 : (mapsRowed Try.pinned.checked.prog) = true := fact_maps
theorem j13_3 : (Try.f13.params.all (Try.pinned.checked.prog.readableRec ·)) = true := by kernel_rfl
theorem j13_4 : (namedTie Try.pinned.checked.prog Rows.historyReplaysRow.named Rows.historyReplaysSpec.vars) = true := by kernel_rfl
theorem j13_5 : ((Rows.historyReplaysRow.stops == [])) = true := by kernel_rfl
theorem j13_6 : ((Try.pinned.checked.prog.stops == [])) = true := by kernel_rfl
theorem j13_7 : ((Rows.historyReplaysRow.knobs == [])) = true := by kernel_rfl
theorem j13_8 : ((Try.pinned.checked.prog.stopKnobs == [])) = true := by kernel_rfl
theorem j13_9 : ((Rows.historyReplaysRow.inPlace == Try.pinned.checked.prog.inPlace (13 : FuncId))) = true := by kernel_rfl
theorem j13_10 : ((Rows.historyReplaysRow.unfollowed == Try.pinned.checked.prog.unfollowed (13 : FuncId))) = true := by kernel_rfl
theorem j13_11 : ((Rows.historyReplaysRow.recurses == Try.pinned.checked.prog.recurses (13 : FuncId))) = true := by kernel_rfl
theorem j13_12 : ((Rows.historyReplaysRow.named == Try.pinned.checked.prog.varsNamed (13 : FuncId))) = true := by kernel_rfl
theorem j13_13 : ((Rows.historyReplaysRow.maps == (Try.f13.params.toList ++ Rows.historyReplaysSpec.plain.varTypes Try.pinned.checked.prog).any (Try.pinned.checked.prog.mapsRec ·))) = true := by kernel_rfl
theorem j13_14 : ((Rows.historyReplaysRow.ifaces == (Try.f13.params.toList ++ Rows.historyReplaysSpec.plain.varTypes Try.pinned.checked.prog).any (Try.pinned.checked.prog.ifacesRec ·))) = true := by kernel_rfl
theorem j13_15 : ((Rows.historyReplaysRow.mapsOut == Try.pinned.checked.prog.mapsAmong Try.f13.resultTypes.toList)) = true := by kernel_rfl
theorem j13_16 : ((Rows.historyReplaysRow.loops == (Try.f13.params.toList ++ Rows.historyReplaysSpec.plain.varTypes Try.pinned.checked.prog).any (Try.pinned.checked.prog.loopsFrom ·))) = true := by kernel_rfl
theorem j13_17 : ((Rows.historyReplaysRow.wideKeys == (Try.f13.params.toList ++ Rows.historyReplaysSpec.plain.varTypes Try.pinned.checked.prog ++ Try.f13.resultTypes.toList).any (Try.pinned.checked.prog.wideKeysFrom ·))) = true := by kernel_rfl
theorem j13_18 : (Rows.historyReplaysSpec.vars.all (Try.pinned.checked.prog.varReadable ·)) = true := by kernel_rfl
theorem j13_19 : (Try.f13.resultTypes.all (fun t => Try.pinned.checked.prog.readableRec t && decide (t < Try.pinned.checked.prog.types.size))) = true := by kernel_rfl
theorem j13_20 : ((Rows.historyReplaysRow.ifacesOut == Try.f13.resultTypes.toList.any (Try.pinned.checked.prog.ifacesRec ·))) = true := by kernel_rfl
theorem j13_21 : ((Rows.historyReplaysRow.loopsOut == Try.f13.resultTypes.toList.any (Try.pinned.checked.prog.loopsFrom ·))) = true := by kernel_rfl
theorem j13_22 : ((Rows.historyReplaysRow.plainKeys == Try.pinned.checked.prog.plainKeys)) = true := by kernel_rfl
theorem j13_23 : (Rows.historyReplaysRow.shortTexts.isNone) = true := by kernel_rfl
theorem j13_24 : (Try.pinned.checked.prog.stopsHeard) = true := by kernel_rfl
theorem j13_25 : (Try.pinned.checked.prog.mayEnter) = true := fact_enter
theorem j13_26 : ((Rows.historyReplaysRow.lifted == Try.pinned.checked.prog.liftsFinal)) = true := by rw [fact_lifts]; rfl
theorem j13_27 : ((Try.pinned.checked.prog.make == some Rows.historyReplaysRow.make)) = true := by rw [fact_make]; rfl
theorem j13_29 : ((Rows.historyReplaysRow.pinned == Rows.historyReplaysRow.pinnedBy)) = true := by kernel_rfl
theorem j13_30 : ((Rows.historyReplaysRow.veiled == (Try.f13.params.toList ++ Rows.historyReplaysSpec.plain.varTypes Try.pinned.checked.prog ++ Try.f13.resultTypes.toList).any (Try.pinned.checked.prog.veiledRec ·))) = true := by kernel_rfl
theorem j13_31 : (Rows.historyReplaysRow.veiledFits Try.pinned.checked.prog Try.f13.params.toList (Try.f13.params.toList ++ Rows.historyReplaysSpec.plain.varTypes Try.pinned.checked.prog ++ Try.f13.resultTypes.toList)) = true := by kernel_rfl
theorem j13 : joinedFacts Try.pinned.checked.prog 13 Try.f13 Rows.historyReplaysSpec Rows.historyReplaysRow = true := by
  unfold joinedFacts
  refine andT ?_ j13_31
  refine andT ?_ j13_30
  refine andT ?_ j13_29
  refine andT ?_ (by kernel_rfl)
  refine andT ?_ j13_27
  refine andT ?_ j13_26
  refine andT ?_ j13_25
  refine andT ?_ j13_24
  refine andT ?_ j13_23
  refine andT ?_ j13_22
  refine andT ?_ j13_21
  refine andT ?_ j13_20
  refine andT ?_ j13_19
  refine andT ?_ j13_18
  refine andT ?_ j13_17
  refine andT ?_ j13_16
  refine andT ?_ j13_15
  refine andT ?_ j13_14
  refine andT ?_ j13_13
  refine andT ?_ j13_12
  refine andT ?_ j13_11
  refine andT ?_ j13_10
  refine andT ?_ j13_9
  refine andT ?_ j13_8
  refine andT ?_ j13_7
  refine andT ?_ j13_6
  refine andT ?_ j13_5
  refine andT ?_ j13_4
  refine andT ?_ j13_3
  refine andT ?_ j13_2
  refine andT ?_ j13_1
  exact j13_0
end Go.Proofs.Ytihljollfbogeaa
