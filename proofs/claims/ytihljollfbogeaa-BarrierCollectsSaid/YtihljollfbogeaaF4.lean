/- The closed facts of BarrierStarts's row. No condition. -/
import Derived.Test.YtihljollfbogeaaR2
namespace Go.Proofs.Ytihljollfbogeaa
open Go Go.RowKit
theorem j4_0 : (Rows.barrierStartsRow.wf (OpenSpec.ofChange Rows.barrierStartsSpec)) = true := by kernel_rfl
theorem j4_1 : (laidOutB Try.pinned.checked.prog) = true := fact_laid
theorem j4_2 : (mapsRowed Try.pinned.checked.prog) = true := fact_maps
theorem j4_3 : (Try.f4.params.all (Try.pinned.checked.prog.readableRec ·)) = true := by kernel_rfl
theorem j4_4 : (namedTie Try.pinned.checked.prog Rows.barrierStartsRow.named Rows.barrierStartsSpec.vars) = true := by kernel_rfl
theorem j4_5 : ((Rows.barrierStartsRow.stops == [])) = true := by kernel_rfl
theorem j4_6 : ((Try.pinned.checked.prog.stops == [])) = true := by kernel_rfl
theorem j4_7 : ((Rows.barrierStartsRow.knobs == [])) = true := by kernel_rfl
theorem j4_8 : ((Try.pinned.checked.prog.stopKnobs == [])) = true := by kernel_rfl
theorem j4_9 : ((Rows.barrierStartsRow.inPlace == Try.pinned.checked.prog.inPlace (4 : FuncId))) = true := by kernel_rfl
theorem j4_10 : ((Rows.barrierStartsRow.unfollowed == Try.pinned.checked.prog.unfollowed (4 : FuncId))) = true := by kernel_rfl
theorem j4_11 : ((Rows.barrierStartsRow.recurses == Try.pinned.checked.prog.recurses (4 : FuncId))) = true := by kernel_rfl
theorem j4_12 : ((Rows.barrierStartsRow.named == Try.pinned.checked.prog.varsNamed (4 : FuncId))) = true := by kernel_rfl
theorem j4_13 : ((Rows.barrierStartsRow.maps == (Try.f4.params.toList ++ Rows.barrierStartsSpec.plain.varTypes Try.pinned.checked.prog).any (Try.pinned.checked.prog.mapsRec ·))) = true := by kernel_rfl
theorem j4_14 : ((Rows.barrierStartsRow.ifaces == (Try.f4.params.toList ++ Rows.barrierStartsSpec.plain.varTypes Try.pinned.checked.prog).any (Try.pinned.checked.prog.ifacesRec ·))) = true := by kernel_rfl
theorem j4_15 : ((Rows.barrierStartsRow.mapsOut == Try.pinned.checked.prog.mapsAmong Try.f4.resultTypes.toList)) = true := by kernel_rfl
theorem j4_16 : ((Rows.barrierStartsRow.loops == (Try.f4.params.toList ++ Rows.barrierStartsSpec.plain.varTypes Try.pinned.checked.prog).any (Try.pinned.checked.prog.loopsFrom ·))) = true := by kernel_rfl
theorem j4_17 : ((Rows.barrierStartsRow.wideKeys == (Try.f4.params.toList ++ Rows.barrierStartsSpec.plain.varTypes Try.pinned.checked.prog ++ Try.f4.resultTypes.toList).any (Try.pinned.checked.prog.wideKeysFrom ·))) = true := by kernel_rfl
theorem j4_18 : (Rows.barrierStartsSpec.vars.all (Try.pinned.checked.prog.varReadable ·)) = true := by kernel_rfl
theorem j4_19 : (Try.f4.resultTypes.all (fun t => Try.pinned.checked.prog.readableRec t && decide (t < Try.pinned.checked.prog.types.size))) = true := by kernel_rfl
theorem j4_20 : ((Rows.barrierStartsRow.ifacesOut == Try.f4.resultTypes.toList.any (Try.pinned.checked.prog.ifacesRec ·))) = true := by kernel_rfl
theorem j4_21 : ((Rows.barrierStartsRow.loopsOut == Try.f4.resultTypes.toList.any (Try.pinned.checked.prog.loopsFrom ·))) = true := by kernel_rfl
theorem j4_22 : ((Rows.barrierStartsRow.plainKeys == Try.pinned.checked.prog.plainKeys)) = true := by kernel_rfl
theorem j4_23 : (Rows.barrierStartsRow.shortTexts.isNone) = true := by kernel_rfl
theorem j4_24 : (Try.pinned.checked.prog.stopsHeard) = true := by kernel_rfl
theorem j4_25 : (Try.pinned.checked.prog.mayEnter) = true := fact_enter
theorem j4_26 : ((Rows.barrierStartsRow.lifted == Try.pinned.checked.prog.liftsFinal)) = true := by rw [fact_lifts]; rfl
theorem j4_27 : ((Try.pinned.checked.prog.make == some Rows.barrierStartsRow.make)) = true := by rw [fact_make]; rfl
theorem j4_29 : ((Rows.barrierStartsRow.pinned == Rows.barrierStartsRow.pinnedBy)) = true := by kernel_rfl
theorem j4_30 : ((Rows.barrierStartsRow.veiled == (Try.f4.params.toList ++ Rows.barrierStartsSpec.plain.varTypes Try.pinned.checked.prog ++ Try.f4.resultTypes.toList).any (Try.pinned.checked.prog.veiledRec ·))) = true := by kernel_rfl
theorem j4_31 : (Rows.barrierStartsRow.veiledFits Try.pinned.checked.prog Try.f4.params.toList (Try.f4.params.toList ++ Rows.barrierStartsSpec.plain.varTypes Try.pinned.checked.prog ++ Try.f4.resultTypes.toList)) = true := by kernel_rfl
theorem j4 : joinedFacts Try.pinned.checked.prog 4 Try.f4 Rows.barrierStartsSpec Rows.barrierStartsRow = true := by
  unfold joinedFacts
  refine andT ?_ j4_31
  refine andT ?_ j4_30
  refine andT ?_ j4_29
  refine andT ?_ (by kernel_rfl)
  refine andT ?_ j4_27
  refine andT ?_ j4_26
  refine andT ?_ j4_25
  refine andT ?_ j4_24
  refine andT ?_ j4_23
  refine andT ?_ j4_22
  refine andT ?_ j4_21
  refine andT ?_ j4_20
  refine andT ?_ j4_19
  refine andT ?_ j4_18
  refine andT ?_ j4_17
  refine andT ?_ j4_16
  refine andT ?_ j4_15
  refine andT ?_ j4_14
  refine andT ?_ j4_13
  refine andT ?_ j4_12
  refine andT ?_ j4_11
  refine andT ?_ j4_10
  refine andT ?_ j4_9
  refine andT ?_ j4_8
  refine andT ?_ j4_7
  refine andT ?_ j4_6
  refine andT ?_ j4_5
  refine andT ?_ j4_4
  refine andT ?_ j4_3
  refine andT ?_ j4_2
  refine andT ?_ j4_1
  exact j4_0
end Go.Proofs.Ytihljollfbogeaa
