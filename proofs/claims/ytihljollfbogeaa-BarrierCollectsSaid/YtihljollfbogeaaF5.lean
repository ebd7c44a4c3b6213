/- The closed facts of BarrierObeys's row. No condition. -/
import Derived.Test.YtihljollfbogeaaR2
namespace Go.Proofs.Ytihljollfbogeaa
open Go Go.RowKit
theorem j5_0 : (Rows.barrierObeysRow.wf (OpenSpec.ofChange Rows.barrierObeysSpec)) = true := by kernel_rfl
theorem j5_1 : (laidOutB Try.pinned.checked.prog) = true := fact_laid
theorem j5_2 : (mapsRowed Try.pinned.checked.prog) = true := fact_maps
theorem j5_3 : (Try.f5.params.all (Try.pinned.checked.prog.readableRec ·)) = true := by kernel_rfl
theorem j5_4 : (namedTie Try.pinned.checked.prog Rows.barrierObeysRow.named Rows.barrierObeysSpec.vars) = true := by kernel_rfl
theorem j5_5 : ((Rows.barrierObeysRow.stops == [])) = true := by kernel_rfl
theorem j5_6 : ((Try.pinned.checked.prog.stops == [])) = true := by kernel_rfl
theorem j5_7 : ((Rows.barrierObeysRow.knobs == [])) = true := by kernel_rfl
theorem j5_8 : ((Try.pinned.checked.prog.stopKnobs == [])) = true := by kernel_rfl
theorem j5_9 : ((Rows.barrierObeysRow.inPlace == Try.pinned.checked.prog.inPlace (5 : FuncId))) = true := by kernel_rfl
theorem j5_10 : ((Rows.barrierObeysRow.unfollowed == Try.pinned.checked.prog.unfollowed (5 : FuncId))) = true := by kernel_rfl
theorem j5_11 : ((Rows.barrierObeysRow.recurses == Try.pinned.checked.prog.recurses (5 : FuncId))) = true := by kernel_rfl
theorem j5_12 : ((Rows.barrierObeysRow.named == Try.pinned.checked.prog.varsNamed (5 : FuncId))) = true := by kernel_rfl
theorem j5_13 : ((Rows.barrierObeysRow.maps == (Try.f5.params.toList ++ Rows.barrierObeysSpec.plain.varTypes Try.pinned.checked.prog).any (Try.pinned.checked.prog.mapsRec ·))) = true := by kernel_rfl
theorem j5_14 : ((Rows.barrierObeysRow.ifaces == (Try.f5.params.toList ++ Rows.barrierObeysSpec.plain.varTypes Try.pinned.checked.prog).any (Try.pinned.checked.prog.ifacesRec ·))) = true := by kernel_rfl
theorem j5_15 : ((Rows.barrierObeysRow.mapsOut == Try.pinned.checked.prog.mapsAmong Try.f5.resultTypes.toList)) = true := by kernel_rfl
theorem j5_16 : ((Rows.barrierObeysRow.loops == (Try.f5.params.toList ++ Rows.barrierObeysSpec.plain.varTypes Try.pinned.checked.prog).any (Try.pinned.checked.prog.loopsFrom ·))) = true := by kernel_rfl
theorem j5_17 : ((Rows.barrierObeysRow.wideKeys == (Try.f5.params.toList ++ Rows.barrierObeysSpec.plain.varTypes Try.pinned.checked.prog ++ Try.f5.resultTypes.toList).any (Try.pinned.checked.prog.wideKeysFrom ·))) = true := by kernel_rfl
theorem j5_18 : (Rows.barrierObeysSpec.vars.all (Try.pinned.checked.prog.varReadable ·)) = true := by kernel_rfl
theorem j5_19 : (Try.f5.resultTypes.all (fun t => Try.pinned.checked.prog.readableRec t && decide (t < Try.pinned.checked.prog.types.size))) = true := by kernel_rfl
theorem j5_20 : ((Rows.barrierObeysRow.ifacesOut == Try.f5.resultTypes.toList.any (Try.pinned.checked.prog.ifacesRec ·))) = true := by kernel_rfl
theorem j5_21 : ((Rows.barrierObeysRow.loopsOut == Try.f5.resultTypes.toList.any (Try.pinned.checked.prog.loopsFrom ·))) = true := by kernel_rfl
theorem j5_22 : ((Rows.barrierObeysRow.plainKeys == Try.pinned.checked.prog.plainKeys)) = true := by kernel_rfl
theorem j5_23 : (Rows.barrierObeysRow.shortTexts.isNone) = true := by kernel_rfl
theorem j5_24 : (Try.pinned.checked.prog.stopsHeard) = true := by kernel_rfl
theorem j5_25 : (Try.pinned.checked.prog.mayEnter) = true := fact_enter
theorem j5_26 : ((Rows.barrierObeysRow.lifted == Try.pinned.checked.prog.liftsFinal)) = true := by rw [fact_lifts]; rfl
theorem j5_27 : ((Try.pinned.checked.prog.make == some Rows.barrierObeysRow.make)) = true := by rw [fact_make]; rfl
theorem j5_29 : ((Rows.barrierObeysRow.pinned == Rows.barrierObeysRow.pinnedBy)) = true := by kernel_rfl
theorem j5_30 : ((Rows.barrierObeysRow.veiled == (Try.f5.params.toList ++ Rows.barrierObeysSpec.plain.varTypes Try.pinned.checked.prog ++ Try.f5.resultTypes.toList).any (Try.pinned.checked.prog.veiledRec ·))) = true := by kernel_rfl
theorem j5_31 : (Rows.barrierObeysRow.veiledFits Try.pinned.checked.prog Try.f5.params.toList (Try.f5.params.toList ++ Rows.barrierObeysSpec.plain.varTypes Try.pinned.checked.prog ++ Try.f5.resultTypes.toList)) = true := by kernel_rfl
theorem j5 : joinedFacts Try.pinned.checked.prog 5 Try.f5 Rows.barrierObeysSpec Rows.barrierObeysRow = true := by
  unfold joinedFacts
  refine andT ?_ j5_31
  refine andT ?_ j5_30
  refine andT ?_ j5_29
  refine andT ?_ (by kernel_rfl)
  refine andT ?_ j5_27
  refine andT ?_ j5_26
  refine andT ?_ j5_25
  refine andT ?_ j5_24
  refine andT ?_ j5_23
  refine andT ?_ j5_22
  refine andT ?_ j5_21
  refine andT ?_ j5_20
  refine andT ?_ j5_19
  refine andT ?_ j5_18
  refine andT ?_ j5_17
  refine andT ?_ j5_16
  refine andT ?_ j5_15
  refine andT ?_ j5_14
  refine andT ?_ j5_13
  refine andT ?_ j5_12
  refine andT ?_ j5_11
  refine andT ?_ j5_10
  refine andT ?_ j5_9
  refine andT ?_ j5_8
  refine andT ?_ j5_7
  refine andT ?_ j5_6
  refine andT ?_ j5_5
  refine andT ?_ j5_4
  refine andT ?_ j5_3
  refine andT ?_ j5_2
  refine andT ?_ j5_1
  exact j5_0
end Go.Proofs.Ytihljollfbogeaa
