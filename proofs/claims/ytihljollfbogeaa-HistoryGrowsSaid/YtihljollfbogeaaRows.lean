/-
  No cell of these rows narrows 'for every input' (looked for: loops, veiled, ifaces, maps, wideKeys, modest, calm, conditions, laid).
  DERIVED. THE GIVEN ROWS OF THIS SEAT. 25 by the template 'for every input the law returns true; each argument reads behind the call as it read before'; 0 by the template 'total and deterministic' (their statements: YtihljollfbogeaaTotals.lean).
  GIVEN WITH THE SEED: the statements are not yours to turn. If you find one false, say at which input.
  Laid BY PROGRAM, IN A SANDBOX (cutbox-rows.mjs): the forced cells as the released guide's own fill.sh prints them over the translation 79514001c1746515… (all of the seat's roots in one cut). By AI agents, Wed Nov 11 2026. No macro, syntax, notation, axiom, sorry.
-/
import Derived.Test.YtihljollfbogeaaChecked
import GoSem.Claim
import GoSem.ClaimJoined
import GoSem.ClaimMapViews
import Derived.JoinedTies
import Derived.KernelRfl
namespace Go.Proofs.Ytihljollfbogeaa
/- THE CELL 'sum', in the pinned program and in every row, IS THE sha256 OF THE DUMP (.gsa) THAT YtihljollfbogeaaProg.lean LOADS. Nothing in Lean hashes anything: it is a label: what it is worth is what the hold of that sum in a sandbox is worth. -/
noncomputable def Try.pinned : Pinned := { name := "ytihljollfbogeaa", sum := "79514001c1746515a6e66a0002a387f5b05c726fba6a5752ee777ae2fb8d7140", checked := Try.checked }
namespace Rows
def none {H : Type} : Left H := { results := [], args := [] }

/-- 'standbylaw15.HistoryOrders': WHATEVER THE INPUT: true; the input reads as it did. -/
def historyOrdersSpec : ChangeSpec := { name := "historyOrders", fn := fun _ => fun
  | [d1, d2, d3] => { results := [.lit (.bool true)], args := [d1, d2, d3] }
  | _ => none }
def historyOrdersRow : OpenClaim := { program := "ytihljollfbogeaa", sum := "79514001c1746515a6e66a0002a387f5b05c726fba6a5752ee777ae2fb8d7140", func := "standby/standbylaw15.HistoryOrders", spec := "historyOrders", unfollowed := true, recurses := true, apart := false }
def HistoryOrdersSaid : Prop := historyOrdersRow.holds Try.pinned (OpenSpec.ofChange historyOrdersSpec)

/-- ITS FALSE NEIGHBOUR: 'it returns false'. Refute it at one input. -/
def historyOrdersWrong : ChangeSpec := { name := "historyOrders", fn := fun _ => fun
  | [d1, d2, d3] => { results := [.lit (.bool false)], args := [d1, d2, d3] }
  | _ => none }
def HistoryOrdersWrongFalsely : Prop := historyOrdersRow.holds Try.pinned (OpenSpec.ofChange historyOrdersWrong)

/-- 'standbylaw21.BarrierStarts': WHATEVER THE INPUT: true; the input reads as it did. -/
def barrierStartsSpec : ChangeSpec := { name := "barrierStarts", fn := fun _ => fun
  | [d1, d2, d3] => { results := [.lit (.bool true)], args := [d1, d2, d3] }
  | _ => none }
def barrierStartsRow : OpenClaim := { program := "ytihljollfbogeaa", sum := "79514001c1746515a6e66a0002a387f5b05c726fba6a5752ee777ae2fb8d7140", func := "standby/standbylaw21.BarrierStarts", spec := "barrierStarts", unfollowed := true, recurses := true, apart := false }
def BarrierStartsSaid : Prop := barrierStartsRow.holds Try.pinned (OpenSpec.ofChange barrierStartsSpec)

/-- ITS FALSE NEIGHBOUR: 'it returns false'. Refute it at one input. -/
def barrierStartsWrong : ChangeSpec := { name := "barrierStarts", fn := fun _ => fun
  | [d1, d2, d3] => { results := [.lit (.bool false)], args := [d1, d2, d3] }
  | _ => none }
def BarrierStartsWrongFalsely : Prop := barrierStartsRow.holds Try.pinned (OpenSpec.ofChange barrierStartsWrong)

/-- 'standbylaw21.BarrierObeys': WHATEVER THE INPUT: true; the input reads as it did. -/
def barrierObeysSpec : ChangeSpec := { name := "barrierObeys", fn := fun _ => fun
  | [d1, d2] => { results := [.lit (.bool true)], args := [d1, d2] }
  | _ => none }
def barrierObeysRow : OpenClaim := { program := "ytihljollfbogeaa", sum := "79514001c1746515a6e66a0002a387f5b05c726fba6a5752ee777ae2fb8d7140", func := "standby/standbylaw21.BarrierObeys", spec := "barrierObeys", unfollowed := true, recurses := true, apart := false }
def BarrierObeysSaid : Prop := barrierObeysRow.holds Try.pinned (OpenSpec.ofChange barrierObeysSpec)

/-- ITS FALSE NEIGHBOUR: 'it returns false'. Refute it at one input. -/
def barrierObeysWrong : ChangeSpec := { name := "barrierObeys", fn := fun _ => fun
  | [d1, d2] => { results := [.lit (.bool false)], args := [d1, d2] }
  | _ => none }
def BarrierObeysWrongFalsely : Prop := barrierObeysRow.holds Try.pinned (OpenSpec.ofChange barrierObeysWrong)

/-- 'standbylaw15.HistoryMakes': WHATEVER THE INPUT: true; the input reads as it did. -/
def historyMakesSpec : ChangeSpec := { name := "historyMakes", fn := fun _ => fun
  | [d1, d2] => { results := [.lit (.bool true)], args := [d1, d2] }
  | _ => none }
def historyMakesRow : OpenClaim := { program := "ytihljollfbogeaa", sum := "79514001c1746515a6e66a0002a387f5b05c726fba6a5752ee777ae2fb8d7140", func := "standby/standbylaw15.HistoryMakes", spec := "historyMakes", unfollowed := true, recurses := true, apart := false }
def HistoryMakesSaid : Prop := historyMakesRow.holds Try.pinned (OpenSpec.ofChange historyMakesSpec)

/-- ITS FALSE NEIGHBOUR: 'it returns false'. Refute it at one input. -/
def historyMakesWrong : ChangeSpec := { name := "historyMakes", fn := fun _ => fun
  | [d1, d2] => { results := [.lit (.bool false)], args := [d1, d2] }
  | _ => none }
def HistoryMakesWrongFalsely : Prop := historyMakesRow.holds Try.pinned (OpenSpec.ofChange historyMakesWrong)

/-- 'standbylaw21.BarrierCollects': WHATEVER THE INPUT: true; the input reads as it did. -/
def barrierCollectsSpec : ChangeSpec := { name := "barrierCollects", fn := fun _ => fun
  | [d1, d2, d3] => { results := [.lit (.bool true)], args := [d1, d2, d3] }
  | _ => none }
def barrierCollectsRow : OpenClaim := { program := "ytihljollfbogeaa", sum := "79514001c1746515a6e66a0002a387f5b05c726fba6a5752ee777ae2fb8d7140", func := "standby/standbylaw21.BarrierCollects", spec := "barrierCollects", unfollowed := true, recurses := true, apart := false }
def BarrierCollectsSaid : Prop := barrierCollectsRow.holds Try.pinned (OpenSpec.ofChange barrierCollectsSpec)

/-- ITS FALSE NEIGHBOUR: 'it returns false'. Refute it at one input. -/
def barrierCollectsWrong : ChangeSpec := { name := "barrierCollects", fn := fun _ => fun
  | [d1, d2, d3] => { results := [.lit (.bool false)], args := [d1, d2, d3] }
  | _ => none }
def BarrierCollectsWrongFalsely : Prop := barrierCollectsRow.holds Try.pinned (OpenSpec.ofChange barrierCollectsWrong)

/-- 'standbylaw15.HistoryShows': WHATEVER THE INPUT: true; the input reads as it did. -/
def historyShowsSpec : ChangeSpec := { name := "historyShows", fn := fun _ => fun
  | [d1, d2] => { results := [.lit (.bool true)], args := [d1, d2] }
  | _ => none }
def historyShowsRow : OpenClaim := { program := "ytihljollfbogeaa", sum := "79514001c1746515a6e66a0002a387f5b05c726fba6a5752ee777ae2fb8d7140", func := "standby/standbylaw15.HistoryShows", spec := "historyShows", unfollowed := true, recurses := true, apart := false }
def HistoryShowsSaid : Prop := historyShowsRow.holds Try.pinned (OpenSpec.ofChange historyShowsSpec)

/-- ITS FALSE NEIGHBOUR: 'it returns false'. Refute it at one input. -/
def historyShowsWrong : ChangeSpec := { name := "historyShows", fn := fun _ => fun
  | [d1, d2] => { results := [.lit (.bool false)], args := [d1, d2] }
  | _ => none }
def HistoryShowsWrongFalsely : Prop := historyShowsRow.holds Try.pinned (OpenSpec.ofChange historyShowsWrong)

/-- 'standbytop.TopSplitsResolved': WHATEVER THE INPUT: true; the input reads as it did. -/
def topSplitsResolvedSpec : ChangeSpec := { name := "topSplitsResolved", fn := fun _ => fun
  | [d1, d2, d3] => { results := [.lit (.bool true)], args := [d1, d2, d3] }
  | _ => none }
def topSplitsResolvedRow : OpenClaim := { program := "ytihljollfbogeaa", sum := "79514001c1746515a6e66a0002a387f5b05c726fba6a5752ee777ae2fb8d7140", func := "standby/standbytop.TopSplitsResolved", spec := "topSplitsResolved", unfollowed := true, recurses := true, apart := false }
def TopSplitsResolvedSaid : Prop := topSplitsResolvedRow.holds Try.pinned (OpenSpec.ofChange topSplitsResolvedSpec)

/-- ITS FALSE NEIGHBOUR: 'it returns false'. Refute it at one input. -/
def topSplitsResolvedWrong : ChangeSpec := { name := "topSplitsResolved", fn := fun _ => fun
  | [d1, d2, d3] => { results := [.lit (.bool false)], args := [d1, d2, d3] }
  | _ => none }
def TopSplitsResolvedWrongFalsely : Prop := topSplitsResolvedRow.holds Try.pinned (OpenSpec.ofChange topSplitsResolvedWrong)

/-- 'standbylaw15.HistoryGrows': WHATEVER THE INPUT: true; the input reads as it did. -/
def historyGrowsSpec : ChangeSpec := { name := "historyGrows", fn := fun _ => fun
  | [d1, d2, d3] => { results := [.lit (.bool true)], args := [d1, d2, d3] }
  | _ => none }
def historyGrowsRow : OpenClaim := { program := "ytihljollfbogeaa", sum := "79514001c1746515a6e66a0002a387f5b05c726fba6a5752ee777ae2fb8d7140", func := "standby/standbylaw15.HistoryGrows", spec := "historyGrows", unfollowed := true, recurses := true, apart := false }
def HistoryGrowsSaid : Prop := historyGrowsRow.holds Try.pinned (OpenSpec.ofChange historyGrowsSpec)

/-- ITS FALSE NEIGHBOUR: 'it returns false'. Refute it at one input. -/
def historyGrowsWrong : ChangeSpec := { name := "historyGrows", fn := fun _ => fun
  | [d1, d2, d3] => { results := [.lit (.bool false)], args := [d1, d2, d3] }
  | _ => none }
def HistoryGrowsWrongFalsely : Prop := historyGrowsRow.holds Try.pinned (OpenSpec.ofChange historyGrowsWrong)

/-- 'standbylaw15.HistoryPartial': WHATEVER THE INPUT: true; the input reads as it did. -/
def historyPartialSpec : ChangeSpec := { name := "historyPartial", fn := fun _ => fun
  | [d1, d2] => { results := [.lit (.bool true)], args := [d1, d2] }
  | _ => none }
def historyPartialRow : OpenClaim := { program := "ytihljollfbogeaa", sum := "79514001c1746515a6e66a0002a387f5b05c726fba6a5752ee777ae2fb8d7140", func := "standby/standbylaw15.HistoryPartial", spec := "historyPartial", unfollowed := true, recurses := true, apart := false }
def HistoryPartialSaid : Prop := historyPartialRow.holds Try.pinned (OpenSpec.ofChange historyPartialSpec)

/-- ITS FALSE NEIGHBOUR: 'it returns false'. Refute it at one input. -/
def historyPartialWrong : ChangeSpec := { name := "historyPartial", fn := fun _ => fun
  | [d1, d2] => { results := [.lit (.bool false)], args := [d1, d2] }
  | _ => none }
def HistoryPartialWrongFalsely : Prop := historyPartialRow.holds Try.pinned (OpenSpec.ofChange historyPartialWrong)

/-- 'standbytop.TopBarrierGrows': WHATEVER THE INPUT: true; the input reads as it did. -/
def topBarrierGrowsSpec : ChangeSpec := { name := "topBarrierGrows", fn := fun _ => fun
  | [d1, d2, d3] => { results := [.lit (.bool true)], args := [d1, d2, d3] }
  | _ => none }
def topBarrierGrowsRow : OpenClaim := { program := "ytihljollfbogeaa", sum := "79514001c1746515a6e66a0002a387f5b05c726fba6a5752ee777ae2fb8d7140", func := "standby/standbytop.TopBarrierGrows", spec := "topBarrierGrows", unfollowed := true, recurses := true, apart := false }
def TopBarrierGrowsSaid : Prop := topBarrierGrowsRow.holds Try.pinned (OpenSpec.ofChange topBarrierGrowsSpec)

/-- ITS FALSE NEIGHBOUR: 'it returns false'. Refute it at one input. -/
def topBarrierGrowsWrong : ChangeSpec := { name := "topBarrierGrows", fn := fun _ => fun
  | [d1, d2, d3] => { results := [.lit (.bool false)], args := [d1, d2, d3] }
  | _ => none }
def TopBarrierGrowsWrongFalsely : Prop := topBarrierGrowsRow.holds Try.pinned (OpenSpec.ofChange topBarrierGrowsWrong)

/-- 'standbylaw15.HistoryReplays': WHATEVER THE INPUT: true; the input reads as it did. -/
def historyReplaysSpec : ChangeSpec := { name := "historyReplays", fn := fun _ => fun
  | [d] => { results := [.lit (.bool true)], args := [d] }
  | _ => none }
def historyReplaysRow : OpenClaim := { program := "ytihljollfbogeaa", sum := "79514001c1746515a6e66a0002a387f5b05c726fba6a5752ee777ae2fb8d7140", func := "standby/standbylaw15.HistoryReplays", spec := "historyReplays", unfollowed := true, recurses := true, apart := false }
def HistoryReplaysSaid : Prop := historyReplaysRow.holds Try.pinned (OpenSpec.ofChange historyReplaysSpec)

/-- ITS FALSE NEIGHBOUR: 'it returns false'. Refute it at one input. -/
def historyReplaysWrong : ChangeSpec := { name := "historyReplays", fn := fun _ => fun
  | [d] => { results := [.lit (.bool false)], args := [d] }
  | _ => none }
def HistoryReplaysWrongFalsely : Prop := historyReplaysRow.holds Try.pinned (OpenSpec.ofChange historyReplaysWrong)

/-- 'standbylaw21.BarrierCounts': WHATEVER THE INPUT: true; the input reads as it did. -/
def barrierCountsSpec : ChangeSpec := { name := "barrierCounts", fn := fun _ => fun
  | [d1, d2, d3] => { results := [.lit (.bool true)], args := [d1, d2, d3] }
  | _ => none }
def barrierCountsRow : OpenClaim := { program := "ytihljollfbogeaa", sum := "79514001c1746515a6e66a0002a387f5b05c726fba6a5752ee777ae2fb8d7140", func := "standby/standbylaw21.BarrierCounts", spec := "barrierCounts", unfollowed := true, recurses := true, apart := false }
def BarrierCountsSaid : Prop := barrierCountsRow.holds Try.pinned (OpenSpec.ofChange barrierCountsSpec)

/-- ITS FALSE NEIGHBOUR: 'it returns false'. Refute it at one input. -/
def barrierCountsWrong : ChangeSpec := { name := "barrierCounts", fn := fun _ => fun
  | [d1, d2, d3] => { results := [.lit (.bool false)], args := [d1, d2, d3] }
  | _ => none }
def BarrierCountsWrongFalsely : Prop := barrierCountsRow.holds Try.pinned (OpenSpec.ofChange barrierCountsWrong)

/-- 'standbylaw15.HistoryCuts': WHATEVER THE INPUT: true; the input reads as it did. -/
def historyCutsSpec : ChangeSpec := { name := "historyCuts", fn := fun _ => fun
  | [d1, d2, d3] => { results := [.lit (.bool true)], args := [d1, d2, d3] }
  | _ => none }
def historyCutsRow : OpenClaim := { program := "ytihljollfbogeaa", sum := "79514001c1746515a6e66a0002a387f5b05c726fba6a5752ee777ae2fb8d7140", func := "standby/standbylaw15.HistoryCuts", spec := "historyCuts", unfollowed := true, recurses := true, apart := false }
def HistoryCutsSaid : Prop := historyCutsRow.holds Try.pinned (OpenSpec.ofChange historyCutsSpec)

/-- ITS FALSE NEIGHBOUR: 'it returns false'. Refute it at one input. -/
def historyCutsWrong : ChangeSpec := { name := "historyCuts", fn := fun _ => fun
  | [d1, d2, d3] => { results := [.lit (.bool false)], args := [d1, d2, d3] }
  | _ => none }
def HistoryCutsWrongFalsely : Prop := historyCutsRow.holds Try.pinned (OpenSpec.ofChange historyCutsWrong)

/-- 'standbylaw21.BarrierConsistent': WHATEVER THE INPUT: true; the input reads as it did. -/
def barrierConsistentSpec : ChangeSpec := { name := "barrierConsistent", fn := fun _ => fun
  | [d] => { results := [.lit (.bool true)], args := [d] }
  | _ => none }
def barrierConsistentRow : OpenClaim := { program := "ytihljollfbogeaa", sum := "79514001c1746515a6e66a0002a387f5b05c726fba6a5752ee777ae2fb8d7140", func := "standby/standbylaw21.BarrierConsistent", spec := "barrierConsistent", unfollowed := true, recurses := true, apart := false }
def BarrierConsistentSaid : Prop := barrierConsistentRow.holds Try.pinned (OpenSpec.ofChange barrierConsistentSpec)

/-- ITS FALSE NEIGHBOUR: 'it returns false'. Refute it at one input. -/
def barrierConsistentWrong : ChangeSpec := { name := "barrierConsistent", fn := fun _ => fun
  | [d] => { results := [.lit (.bool false)], args := [d] }
  | _ => none }
def BarrierConsistentWrongFalsely : Prop := barrierConsistentRow.holds Try.pinned (OpenSpec.ofChange barrierConsistentWrong)

/-- 'standbylaw21.BarrierAcknowledges': WHATEVER THE INPUT: true; the input reads as it did. -/
def barrierAcknowledgesSpec : ChangeSpec := { name := "barrierAcknowledges", fn := fun _ => fun
  | [d] => { results := [.lit (.bool true)], args := [d] }
  | _ => none }
def barrierAcknowledgesRow : OpenClaim := { program := "ytihljollfbogeaa", sum := "79514001c1746515a6e66a0002a387f5b05c726fba6a5752ee777ae2fb8d7140", func := "standby/standbylaw21.BarrierAcknowledges", spec := "barrierAcknowledges", unfollowed := true, recurses := true, apart := false }
def BarrierAcknowledgesSaid : Prop := barrierAcknowledgesRow.holds Try.pinned (OpenSpec.ofChange barrierAcknowledgesSpec)

/-- ITS FALSE NEIGHBOUR: 'it returns false'. Refute it at one input. -/
def barrierAcknowledgesWrong : ChangeSpec := { name := "barrierAcknowledges", fn := fun _ => fun
  | [d] => { results := [.lit (.bool false)], args := [d] }
  | _ => none }
def BarrierAcknowledgesWrongFalsely : Prop := barrierAcknowledgesRow.holds Try.pinned (OpenSpec.ofChange barrierAcknowledgesWrong)

/-- 'standbylaw21.BarrierSucceeds': WHATEVER THE INPUT: true; the input reads as it did. -/
def barrierSucceedsSpec : ChangeSpec := { name := "barrierSucceeds", fn := fun _ => fun
  | [d1, d2] => { results := [.lit (.bool true)], args := [d1, d2] }
  | _ => none }
def barrierSucceedsRow : OpenClaim := { program := "ytihljollfbogeaa", sum := "79514001c1746515a6e66a0002a387f5b05c726fba6a5752ee777ae2fb8d7140", func := "standby/standbylaw21.BarrierSucceeds", spec := "barrierSucceeds", unfollowed := true, recurses := true, apart := false }
def BarrierSucceedsSaid : Prop := barrierSucceedsRow.holds Try.pinned (OpenSpec.ofChange barrierSucceedsSpec)

/-- ITS FALSE NEIGHBOUR: 'it returns false'. Refute it at one input. -/
def barrierSucceedsWrong : ChangeSpec := { name := "barrierSucceeds", fn := fun _ => fun
  | [d1, d2] => { results := [.lit (.bool false)], args := [d1, d2] }
  | _ => none }
def BarrierSucceedsWrongFalsely : Prop := barrierSucceedsRow.holds Try.pinned (OpenSpec.ofChange barrierSucceedsWrong)

/-- 'standbylaw15.HistoryRestricts': WHATEVER THE INPUT: true; the input reads as it did. -/
def historyRestrictsSpec : ChangeSpec := { name := "historyRestricts", fn := fun _ => fun
  | [d1, d2] => { results := [.lit (.bool true)], args := [d1, d2] }
  | _ => none }
def historyRestrictsRow : OpenClaim := { program := "ytihljollfbogeaa", sum := "79514001c1746515a6e66a0002a387f5b05c726fba6a5752ee777ae2fb8d7140", func := "standby/standbylaw15.HistoryRestricts", spec := "historyRestricts", unfollowed := true, recurses := true, apart := false }
def HistoryRestrictsSaid : Prop := historyRestrictsRow.holds Try.pinned (OpenSpec.ofChange historyRestrictsSpec)

/-- ITS FALSE NEIGHBOUR: 'it returns false'. Refute it at one input. -/
def historyRestrictsWrong : ChangeSpec := { name := "historyRestricts", fn := fun _ => fun
  | [d1, d2] => { results := [.lit (.bool false)], args := [d1, d2] }
  | _ => none }
def HistoryRestrictsWrongFalsely : Prop := historyRestrictsRow.holds Try.pinned (OpenSpec.ofChange historyRestrictsWrong)

/-- 'standbylaw20.GroupIssues': WHATEVER THE INPUT: true; the input reads as it did. -/
def groupIssuesSpec : ChangeSpec := { name := "groupIssues", fn := fun _ => fun
  | [d1, d2, d3] => { results := [.lit (.bool true)], args := [d1, d2, d3] }
  | _ => none }
def groupIssuesRow : OpenClaim := { program := "ytihljollfbogeaa", sum := "79514001c1746515a6e66a0002a387f5b05c726fba6a5752ee777ae2fb8d7140", func := "standby/standbylaw20.GroupIssues", spec := "groupIssues", unfollowed := true, recurses := true, apart := false }
def GroupIssuesSaid : Prop := groupIssuesRow.holds Try.pinned (OpenSpec.ofChange groupIssuesSpec)

/-- ITS FALSE NEIGHBOUR: 'it returns false'. Refute it at one input. -/
def groupIssuesWrong : ChangeSpec := { name := "groupIssues", fn := fun _ => fun
  | [d1, d2, d3] => { results := [.lit (.bool false)], args := [d1, d2, d3] }
  | _ => none }
def GroupIssuesWrongFalsely : Prop := groupIssuesRow.holds Try.pinned (OpenSpec.ofChange groupIssuesWrong)

/-- 'standbylaw20.GroupFreezes': WHATEVER THE INPUT: true; the input reads as it did. -/
def groupFreezesSpec : ChangeSpec := { name := "groupFreezes", fn := fun _ => fun
  | [d] => { results := [.lit (.bool true)], args := [d] }
  | _ => none }
def groupFreezesRow : OpenClaim := { program := "ytihljollfbogeaa", sum := "79514001c1746515a6e66a0002a387f5b05c726fba6a5752ee777ae2fb8d7140", func := "standby/standbylaw20.GroupFreezes", spec := "groupFreezes", unfollowed := true, recurses := true, apart := false }
def GroupFreezesSaid : Prop := groupFreezesRow.holds Try.pinned (OpenSpec.ofChange groupFreezesSpec)

/-- ITS FALSE NEIGHBOUR: 'it returns false'. Refute it at one input. -/
def groupFreezesWrong : ChangeSpec := { name := "groupFreezes", fn := fun _ => fun
  | [d] => { results := [.lit (.bool false)], args := [d] }
  | _ => none }
def GroupFreezesWrongFalsely : Prop := groupFreezesRow.holds Try.pinned (OpenSpec.ofChange groupFreezesWrong)

/-- 'standbylaw20.GroupRecovers': WHATEVER THE INPUT: true; the input reads as it did. -/
def groupRecoversSpec : ChangeSpec := { name := "groupRecovers", fn := fun _ => fun
  | [d1, d2] => { results := [.lit (.bool true)], args := [d1, d2] }
  | _ => none }
def groupRecoversRow : OpenClaim := { program := "ytihljollfbogeaa", sum := "79514001c1746515a6e66a0002a387f5b05c726fba6a5752ee777ae2fb8d7140", func := "standby/standbylaw20.GroupRecovers", spec := "groupRecovers", unfollowed := true, recurses := true, apart := false }
def GroupRecoversSaid : Prop := groupRecoversRow.holds Try.pinned (OpenSpec.ofChange groupRecoversSpec)

/-- ITS FALSE NEIGHBOUR: 'it returns false'. Refute it at one input. -/
def groupRecoversWrong : ChangeSpec := { name := "groupRecovers", fn := fun _ => fun
  | [d1, d2] => { results := [.lit (.bool false)], args := [d1, d2] }
  | _ => none }
def GroupRecoversWrongFalsely : Prop := groupRecoversRow.holds Try.pinned (OpenSpec.ofChange groupRecoversWrong)

/-- 'standbylaw20.GroupHolds': WHATEVER THE INPUT: true; the input reads as it did. -/
def groupHoldsSpec : ChangeSpec := { name := "groupHolds", fn := fun _ => fun
  | [d1, d2, d3] => { results := [.lit (.bool true)], args := [d1, d2, d3] }
  | _ => none }
def groupHoldsRow : OpenClaim := { program := "ytihljollfbogeaa", sum := "79514001c1746515a6e66a0002a387f5b05c726fba6a5752ee777ae2fb8d7140", func := "standby/standbylaw20.GroupHolds", spec := "groupHolds", unfollowed := true, recurses := true, apart := false }
def GroupHoldsSaid : Prop := groupHoldsRow.holds Try.pinned (OpenSpec.ofChange groupHoldsSpec)

/-- ITS FALSE NEIGHBOUR: 'it returns false'. Refute it at one input. -/
def groupHoldsWrong : ChangeSpec := { name := "groupHolds", fn := fun _ => fun
  | [d1, d2, d3] => { results := [.lit (.bool false)], args := [d1, d2, d3] }
  | _ => none }
def GroupHoldsWrongFalsely : Prop := groupHoldsRow.holds Try.pinned (OpenSpec.ofChange groupHoldsWrong)

/-- 'standbylaw20.GroupMakes': WHATEVER THE INPUT: true; the input reads as it did. -/
def groupMakesSpec : ChangeSpec := { name := "groupMakes", fn := fun _ => fun
  | [d1, d2] => { results := [.lit (.bool true)], args := [d1, d2] }
  | _ => none }
def groupMakesRow : OpenClaim := { program := "ytihljollfbogeaa", sum := "79514001c1746515a6e66a0002a387f5b05c726fba6a5752ee777ae2fb8d7140", func := "standby/standbylaw20.GroupMakes", spec := "groupMakes", unfollowed := true, recurses := true, apart := false }
def GroupMakesSaid : Prop := groupMakesRow.holds Try.pinned (OpenSpec.ofChange groupMakesSpec)

/-- ITS FALSE NEIGHBOUR: 'it returns false'. Refute it at one input. -/
def groupMakesWrong : ChangeSpec := { name := "groupMakes", fn := fun _ => fun
  | [d1, d2] => { results := [.lit (.bool false)], args := [d1, d2] }
  | _ => none }
def GroupMakesWrongFalsely : Prop := groupMakesRow.holds Try.pinned (OpenSpec.ofChange groupMakesWrong)

/-- 'standbylaw20.GroupAccounts': WHATEVER THE INPUT: true; the input reads as it did. -/
def groupAccountsSpec : ChangeSpec := { name := "groupAccounts", fn := fun _ => fun
  | [d1, d2] => { results := [.lit (.bool true)], args := [d1, d2] }
  | _ => none }
def groupAccountsRow : OpenClaim := { program := "ytihljollfbogeaa", sum := "79514001c1746515a6e66a0002a387f5b05c726fba6a5752ee777ae2fb8d7140", func := "standby/standbylaw20.GroupAccounts", spec := "groupAccounts", unfollowed := true, recurses := true, apart := false }
def GroupAccountsSaid : Prop := groupAccountsRow.holds Try.pinned (OpenSpec.ofChange groupAccountsSpec)

/-- ITS FALSE NEIGHBOUR: 'it returns false'. Refute it at one input. -/
def groupAccountsWrong : ChangeSpec := { name := "groupAccounts", fn := fun _ => fun
  | [d1, d2] => { results := [.lit (.bool false)], args := [d1, d2] }
  | _ => none }
def GroupAccountsWrongFalsely : Prop := groupAccountsRow.holds Try.pinned (OpenSpec.ofChange groupAccountsWrong)

/-- 'standbylaw20.GroupCuts': WHATEVER THE INPUT: true; the input reads as it did. -/
def groupCutsSpec : ChangeSpec := { name := "groupCuts", fn := fun _ => fun
  | [d1, d2, d3] => { results := [.lit (.bool true)], args := [d1, d2, d3] }
  | _ => none }
def groupCutsRow : OpenClaim := { program := "ytihljollfbogeaa", sum := "79514001c1746515a6e66a0002a387f5b05c726fba6a5752ee777ae2fb8d7140", func := "standby/standbylaw20.GroupCuts", spec := "groupCuts", unfollowed := true, recurses := true, apart := false }
def GroupCutsSaid : Prop := groupCutsRow.holds Try.pinned (OpenSpec.ofChange groupCutsSpec)

/-- ITS FALSE NEIGHBOUR: 'it returns false'. Refute it at one input. -/
def groupCutsWrong : ChangeSpec := { name := "groupCuts", fn := fun _ => fun
  | [d1, d2, d3] => { results := [.lit (.bool false)], args := [d1, d2, d3] }
  | _ => none }
def GroupCutsWrongFalsely : Prop := groupCutsRow.holds Try.pinned (OpenSpec.ofChange groupCutsWrong)

/-- 'standbylaw20.GroupSurvives': WHATEVER THE INPUT: true; the input reads as it did. -/
def groupSurvivesSpec : ChangeSpec := { name := "groupSurvives", fn := fun _ => fun
  | [d1, d2, d3] => { results := [.lit (.bool true)], args := [d1, d2, d3] }
  | _ => none }
def groupSurvivesRow : OpenClaim := { program := "ytihljollfbogeaa", sum := "79514001c1746515a6e66a0002a387f5b05c726fba6a5752ee777ae2fb8d7140", func := "standby/standbylaw20.GroupSurvives", spec := "groupSurvives", unfollowed := true, recurses := true, apart := false }
def GroupSurvivesSaid : Prop := groupSurvivesRow.holds Try.pinned (OpenSpec.ofChange groupSurvivesSpec)

/-- ITS FALSE NEIGHBOUR: 'it returns false'. Refute it at one input. -/
def groupSurvivesWrong : ChangeSpec := { name := "groupSurvives", fn := fun _ => fun
  | [d1, d2, d3] => { results := [.lit (.bool false)], args := [d1, d2, d3] }
  | _ => none }
def GroupSurvivesWrongFalsely : Prop := groupSurvivesRow.holds Try.pinned (OpenSpec.ofChange groupSurvivesWrong)

/- THE SECOND FORM. 'bulk': how many values and letters a reading holds, each counted each time it is reached (what is shared counts as often as it is met; a slice's spare places count too). A statement '..UptoSaid' is the law's where the arguments, and the package variables that the reading takes, are together of bulk at most 1048576: NARROWER than '..Said'. Prove '..Said' where nothing that the law and all that it calls make is longer than what came in: it says more and counts as full. Else prove '..UptoSaid'. A law counts once. -/
mutual
def uptoBulk {H : Type} : DataW H → Nat
  | .lit (.string bytes) => bytes.length + 1
  | .lit _ => 1
  | .nil => 1
  | .ptr d => uptoBulk d + 1
  | .slice elems spare => uptoBulkAll elems + uptoBulkAll spare + 1
  | .agg parts => uptoBulkAll parts + 1
  | .iface _ d => uptoBulk d + 1
  | .map entries => uptoBulkEntries entries + 1
  | .held _ => 1
def uptoBulkAll {H : Type} : List (DataW H) → Nat
  | [] => 0
  | d :: r => uptoBulk d + uptoBulkAll r
def uptoBulkEntries {H : Type} : List (Lit × DataW H) → Nat
  | [] => 0
  | x :: r => uptoBulkEntry x + uptoBulkEntries r
def uptoBulkEntry {H : Type} : Lit × DataW H → Nat
  | (.string bytes, d) => bytes.length + uptoBulk d + 1
  | (_, d) => uptoBulk d + 1
 end
def uptoSmall : (H : Type) → List (DataW H) → Bool := fun _ ds => decide (uptoBulkAll ds ≤ 1048576)
def OpenSpec.upto (s : _root_.Go.ChangeSpec) : _root_.Go.OpenSpec := { _root_.Go.OpenSpec.ofChange s with cond := some uptoSmall }

/-- 'standbylaw15.HistoryOrders', WHERE WHAT IT READS IS OF BULK AT MOST 1048576: true; the input reads as it did. -/
def historyOrdersUptoRow : OpenClaim := { program := "ytihljollfbogeaa", sum := "79514001c1746515a6e66a0002a387f5b05c726fba6a5752ee777ae2fb8d7140", func := "standby/standbylaw15.HistoryOrders", spec := "historyOrders", unfollowed := true, recurses := true, apart := false, narrowed := true }
def HistoryOrdersUptoSaid : Prop := historyOrdersUptoRow.holds Try.pinned (OpenSpec.upto historyOrdersSpec)

/-- 'standbylaw21.BarrierStarts', WHERE WHAT IT READS IS OF BULK AT MOST 1048576: true; the input reads as it did. -/
def barrierStartsUptoRow : OpenClaim := { program := "ytihljollfbogeaa", sum := "79514001c1746515a6e66a0002a387f5b05c726fba6a5752ee777ae2fb8d7140", func := "standby/standbylaw21.BarrierStarts", spec := "barrierStarts", unfollowed := true, recurses := true, apart := false, narrowed := true }
def BarrierStartsUptoSaid : Prop := barrierStartsUptoRow.holds Try.pinned (OpenSpec.upto barrierStartsSpec)

/-- 'standbylaw21.BarrierObeys', WHERE WHAT IT READS IS OF BULK AT MOST 1048576: true; the input reads as it did. -/
def barrierObeysUptoRow : OpenClaim := { program := "ytihljollfbogeaa", sum := "79514001c1746515a6e66a0002a387f5b05c726fba6a5752ee777ae2fb8d7140", func := "standby/standbylaw21.BarrierObeys", spec := "barrierObeys", unfollowed := true, recurses := true, apart := false, narrowed := true }
def BarrierObeysUptoSaid : Prop := barrierObeysUptoRow.holds Try.pinned (OpenSpec.upto barrierObeysSpec)

/-- 'standbylaw15.HistoryMakes', WHERE WHAT IT READS IS OF BULK AT MOST 1048576: true; the input reads as it did. -/
def historyMakesUptoRow : OpenClaim := { program := "ytihljollfbogeaa", sum := "79514001c1746515a6e66a0002a387f5b05c726fba6a5752ee777ae2fb8d7140", func := "standby/standbylaw15.HistoryMakes", spec := "historyMakes", unfollowed := true, recurses := true, apart := false, narrowed := true }
def HistoryMakesUptoSaid : Prop := historyMakesUptoRow.holds Try.pinned (OpenSpec.upto historyMakesSpec)

/-- 'standbylaw21.BarrierCollects', WHERE WHAT IT READS IS OF BULK AT MOST 1048576: true; the input reads as it did. -/
def barrierCollectsUptoRow : OpenClaim := { program := "ytihljollfbogeaa", sum := "79514001c1746515a6e66a0002a387f5b05c726fba6a5752ee777ae2fb8d7140", func := "standby/standbylaw21.BarrierCollects", spec := "barrierCollects", unfollowed := true, recurses := true, apart := false, narrowed := true }
def BarrierCollectsUptoSaid : Prop := barrierCollectsUptoRow.holds Try.pinned (OpenSpec.upto barrierCollectsSpec)

/-- 'standbylaw15.HistoryShows', WHERE WHAT IT READS IS OF BULK AT MOST 1048576: true; the input reads as it did. -/
def historyShowsUptoRow : OpenClaim := { program := "ytihljollfbogeaa", sum := "79514001c1746515a6e66a0002a387f5b05c726fba6a5752ee777ae2fb8d7140", func := "standby/standbylaw15.HistoryShows", spec := "historyShows", unfollowed := true, recurses := true, apart := false, narrowed := true }
def HistoryShowsUptoSaid : Prop := historyShowsUptoRow.holds Try.pinned (OpenSpec.upto historyShowsSpec)

/-- 'standbytop.TopSplitsResolved', WHERE WHAT IT READS IS OF BULK AT MOST 1048576: true; the input reads as it did. -/
def topSplitsResolvedUptoRow : OpenClaim := { program := "ytihljollfbogeaa", sum := "79514001c1746515a6e66a0002a387f5b05c726fba6a5752ee777ae2fb8d7140", func := "standby/standbytop.TopSplitsResolved", spec := "topSplitsResolved", unfollowed := true, recurses := true, apart := false, narrowed := true }
def TopSplitsResolvedUptoSaid : Prop := topSplitsResolvedUptoRow.holds Try.pinned (OpenSpec.upto topSplitsResolvedSpec)

/-- 'standbylaw15.HistoryGrows', WHERE WHAT IT READS IS OF BULK AT MOST 1048576: true; the input reads as it did. -/
def historyGrowsUptoRow : OpenClaim := { program := "ytihljollfbogeaa", sum := "79514001c1746515a6e66a0002a387f5b05c726fba6a5752ee777ae2fb8d7140", func := "standby/standbylaw15.HistoryGrows", spec := "historyGrows", unfollowed := true, recurses := true, apart := false, narrowed := true }
def HistoryGrowsUptoSaid : Prop := historyGrowsUptoRow.holds Try.pinned (OpenSpec.upto historyGrowsSpec)

/-- 'standbylaw15.HistoryPartial', WHERE WHAT IT READS IS OF BULK AT MOST 1048576: true; the input reads as it did. -/
def historyPartialUptoRow : OpenClaim := { program := "ytihljollfbogeaa", sum := "79514001c1746515a6e66a0002a387f5b05c726fba6a5752ee777ae2fb8d7140", func := "standby/standbylaw15.HistoryPartial", spec := "historyPartial", unfollowed := true, recurses := true, apart := false, narrowed := true }
def HistoryPartialUptoSaid : Prop := historyPartialUptoRow.holds Try.pinned (OpenSpec.upto historyPartialSpec)

/-- 'standbytop.TopBarrierGrows', WHERE WHAT IT READS IS OF BULK AT MOST 1048576: true; the input reads as it did. -/
def topBarrierGrowsUptoRow : OpenClaim := { program := "ytihljollfbogeaa", sum := "79514001c1746515a6e66a0002a387f5b05c726fba6a5752ee777ae2fb8d7140", func := "standby/standbytop.TopBarrierGrows", spec := "topBarrierGrows", unfollowed := true, recurses := true, apart := false, narrowed := true }
def TopBarrierGrowsUptoSaid : Prop := topBarrierGrowsUptoRow.holds Try.pinned (OpenSpec.upto topBarrierGrowsSpec)

/-- 'standbylaw15.HistoryReplays', WHERE WHAT IT READS IS OF BULK AT MOST 1048576: true; the input reads as it did. -/
def historyReplaysUptoRow : OpenClaim := { program := "ytihljollfbogeaa", sum := "79514001c1746515a6e66a0002a387f5b05c726fba6a5752ee777ae2fb8d7140", func := "standby/standbylaw15.HistoryReplays", spec := "historyReplays", unfollowed := true, recurses := true, apart := false, narrowed := true }
def HistoryReplaysUptoSaid : Prop := historyReplaysUptoRow.holds Try.pinned (OpenSpec.upto historyReplaysSpec)

/-- 'standbylaw21.BarrierCounts', WHERE WHAT IT READS IS OF BULK AT MOST 1048576: true; the input reads as it did. -/
def barrierCountsUptoRow : OpenClaim := { program := "ytihljollfbogeaa", sum := "79514001c1746515a6e66a0002a387f5b05c726fba6a5752ee777ae2fb8d7140", func := "standby/standbylaw21.BarrierCounts", spec := "barrierCounts", unfollowed := true, recurses := true, apart := false, narrowed := true }
def BarrierCountsUptoSaid : Prop := barrierCountsUptoRow.holds Try.pinned (OpenSpec.upto barrierCountsSpec)

/-- 'standbylaw15.HistoryCuts', WHERE WHAT IT READS IS OF BULK AT MOST 1048576: true; the input reads as it did. -/
def historyCutsUptoRow : OpenClaim := { program := "ytihljollfbogeaa", sum := "79514001c1746515a6e66a0002a387f5b05c726fba6a5752ee777ae2fb8d7140", func := "standby/standbylaw15.HistoryCuts", spec := "historyCuts", unfollowed := true, recurses := true, apart := false, narrowed := true }
def HistoryCutsUptoSaid : Prop := historyCutsUptoRow.holds Try.pinned (OpenSpec.upto historyCutsSpec)

/-- 'standbylaw21.BarrierConsistent', WHERE WHAT IT READS IS OF BULK AT MOST 1048576: true; the input reads as it did. -/
def barrierConsistentUptoRow : OpenClaim := { program := "ytihljollfbogeaa", sum := "79514001c1746515a6e66a0002a387f5b05c726fba6a5752ee777ae2fb8d7140", func := "standby/standbylaw21.BarrierConsistent", spec := "barrierConsistent", unfollowed := true, recurses := true, apart := false, narrowed := true }
def BarrierConsistentUptoSaid : Prop := barrierConsistentUptoRow.holds Try.pinned (OpenSpec.upto barrierConsistentSpec)

/-- 'standbylaw21.BarrierAcknowledges', WHERE WHAT IT READS IS OF BULK AT MOST 1048576: true; the input reads as it did. -/
def barrierAcknowledgesUptoRow : OpenClaim := { program := "ytihljollfbogeaa", sum := "79514001c1746515a6e66a0002a387f5b05c726fba6a5752ee777ae2fb8d7140", func := "standby/standbylaw21.BarrierAcknowledges", spec := "barrierAcknowledges", unfollowed := true, recurses := true, apart := false, narrowed := true }
def BarrierAcknowledgesUptoSaid : Prop := barrierAcknowledgesUptoRow.holds Try.pinned (OpenSpec.upto barrierAcknowledgesSpec)

/-- 'standbylaw21.BarrierSucceeds', WHERE WHAT IT READS IS OF BULK AT MOST 1048576: true; the input reads as it did. -/
def barrierSucceedsUptoRow : OpenClaim := { program := "ytihljollfbogeaa", sum := "79514001c1746515a6e66a0002a387f5b05c726fba6a5752ee777ae2fb8d7140", func := "standby/standbylaw21.BarrierSucceeds", spec := "barrierSucceeds", unfollowed := true, recurses := true, apart := false, narrowed := true }
def BarrierSucceedsUptoSaid : Prop := barrierSucceedsUptoRow.holds Try.pinned (OpenSpec.upto barrierSucceedsSpec)

/-- 'standbylaw15.HistoryRestricts', WHERE WHAT IT READS IS OF BULK AT MOST 1048576: true; the input reads as it did. -/
def historyRestrictsUptoRow : OpenClaim := { program := "ytihljollfbogeaa", sum := "79514001c1746515a6e66a0002a387f5b05c726fba6a5752ee777ae2fb8d7140", func := "standby/standbylaw15.HistoryRestricts", spec := "historyRestricts", unfollowed := true, recurses := true, apart := false, narrowed := true }
def HistoryRestrictsUptoSaid : Prop := historyRestrictsUptoRow.holds Try.pinned (OpenSpec.upto historyRestrictsSpec)

/-- 'standbylaw20.GroupIssues', WHERE WHAT IT READS IS OF BULK AT MOST 1048576: true; the input reads as it did. -/
def groupIssuesUptoRow : OpenClaim := { program := "ytihljollfbogeaa", sum := "79514001c1746515a6e66a0002a387f5b05c726fba6a5752ee777ae2fb8d7140", func := "standby/standbylaw20.GroupIssues", spec := "groupIssues", unfollowed := true, recurses := true, apart := false, narrowed := true }
def GroupIssuesUptoSaid : Prop := groupIssuesUptoRow.holds Try.pinned (OpenSpec.upto groupIssuesSpec)

/-- 'standbylaw20.GroupFreezes', WHERE WHAT IT READS IS OF BULK AT MOST 1048576: true; the input reads as it did. -/
def groupFreezesUptoRow : OpenClaim := { program := "ytihljollfbogeaa", sum := "79514001c1746515a6e66a0002a387f5b05c726fba6a5752ee777ae2fb8d7140", func := "standby/standbylaw20.GroupFreezes", spec := "groupFreezes", unfollowed := true, recurses := true, apart := false, narrowed := true }
def GroupFreezesUptoSaid : Prop := groupFreezesUptoRow.holds Try.pinned (OpenSpec.upto groupFreezesSpec)

/-- 'standbylaw20.GroupRecovers', WHERE WHAT IT READS IS OF BULK AT MOST 1048576: true; the input reads as it did. -/
def groupRecoversUptoRow : OpenClaim := { program := "ytihljollfbogeaa", sum := "79514001c1746515a6e66a0002a387f5b05c726fba6a5752ee777ae2fb8d7140", func := "standby/standbylaw20.GroupRecovers", spec := "groupRecovers", unfollowed := true, recurses := true, apart := false, narrowed := true }
def GroupRecoversUptoSaid : Prop := groupRecoversUptoRow.holds Try.pinned (OpenSpec.upto groupRecoversSpec)

/-- 'standbylaw20.GroupHolds', WHERE WHAT IT READS IS OF BULK AT MOST 1048576: true; the input reads as it did. -/
def groupHoldsUptoRow : OpenClaim := { program := "ytihljollfbogeaa", sum := "79514001c1746515a6e66a0002a387f5b05c726fba6a5752ee777ae2fb8d7140", func := "standby/standbylaw20.GroupHolds", spec := "groupHolds", unfollowed := true, recurses := true, apart := false, narrowed := true }
def GroupHoldsUptoSaid : Prop := groupHoldsUptoRow.holds Try.pinned (OpenSpec.upto groupHoldsSpec)

/-- 'standbylaw20.GroupMakes', WHERE WHAT IT READS IS OF BULK AT MOST 1048576: true; the input reads as it did. -/
def groupMakesUptoRow : OpenClaim := { program := "ytihljollfbogeaa", sum := "79514001c1746515a6e66a0002a387f5b05c726fba6a5752ee777ae2fb8d7140", func := "standby/standbylaw20.GroupMakes", spec := "groupMakes", unfollowed := true, recurses := true, apart := false, narrowed := true }
def GroupMakesUptoSaid : Prop := groupMakesUptoRow.holds Try.pinned (OpenSpec.upto groupMakesSpec)

/-- 'standbylaw20.GroupAccounts', WHERE WHAT IT READS IS OF BULK AT MOST 1048576: true; the input reads as it did. -/
def groupAccountsUptoRow : OpenClaim := { program := "ytihljollfbogeaa", sum := "79514001c1746515a6e66a0002a387f5b05c726fba6a5752ee777ae2fb8d7140", func := "standby/standbylaw20.GroupAccounts", spec := "groupAccounts", unfollowed := true, recurses := true, apart := false, narrowed := true }
def GroupAccountsUptoSaid : Prop := groupAccountsUptoRow.holds Try.pinned (OpenSpec.upto groupAccountsSpec)

/-- 'standbylaw20.GroupCuts', WHERE WHAT IT READS IS OF BULK AT MOST 1048576: true; the input reads as it did. -/
def groupCutsUptoRow : OpenClaim := { program := "ytihljollfbogeaa", sum := "79514001c1746515a6e66a0002a387f5b05c726fba6a5752ee777ae2fb8d7140", func := "standby/standbylaw20.GroupCuts", spec := "groupCuts", unfollowed := true, recurses := true, apart := false, narrowed := true }
def GroupCutsUptoSaid : Prop := groupCutsUptoRow.holds Try.pinned (OpenSpec.upto groupCutsSpec)

/-- 'standbylaw20.GroupSurvives', WHERE WHAT IT READS IS OF BULK AT MOST 1048576: true; the input reads as it did. -/
def groupSurvivesUptoRow : OpenClaim := { program := "ytihljollfbogeaa", sum := "79514001c1746515a6e66a0002a387f5b05c726fba6a5752ee777ae2fb8d7140", func := "standby/standbylaw20.GroupSurvives", spec := "groupSurvives", unfollowed := true, recurses := true, apart := false, narrowed := true }
def GroupSurvivesUptoSaid : Prop := groupSurvivesUptoRow.holds Try.pinned (OpenSpec.upto groupSurvivesSpec)

end Rows
end Go.Proofs.Ytihljollfbogeaa
