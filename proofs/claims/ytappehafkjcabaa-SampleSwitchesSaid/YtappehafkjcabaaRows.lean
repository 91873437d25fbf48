/-
  No cell of these rows narrows 'for every input' (looked for: loops, veiled, ifaces, maps, wideKeys, modest, calm, conditions, laid).
  DERIVED. THE GIVEN ROWS OF THIS SEAT. 11 by the template 'for every input the law returns true; each argument reads behind the call as it read before'; 0 by the template 'total and deterministic' (their statements: YtappehafkjcabaaTotals.lean).
  GIVEN WITH THE SEED: the statements are not yours to turn. If you find one false, say at which input.
  Laid BY PROGRAM, IN A SANDBOX (cutbox-rows.mjs): the forced cells as the released guide's own fill.sh prints them over the translation d1f9bc45aacb7176… (all of the seat's roots in one cut). By AI agents, Wed Nov 11 2026. No macro, syntax, notation, axiom, sorry.
-/
import Derived.Test.YtappehafkjcabaaChecked
import GoSem.Claim
import GoSem.ClaimJoined
import GoSem.ClaimMapViews
import Derived.JoinedTies
import Derived.KernelRfl
namespace Go.Proofs.Ytappehafkjcabaa
/- THE CELL 'sum', in the pinned program and in every row, IS THE sha256 OF THE DUMP (.gsa) THAT YtappehafkjcabaaProg.lean LOADS. Nothing in Lean hashes anything: it is a label: what it is worth is what the hold of that sum in a sandbox is worth. -/
noncomputable def Try.pinned : Pinned := { name := "ytappehafkjcabaa", sum := "d1f9bc45aacb71768f102a3072d8fcad5584127de9a83a7f556f52d865897ea8", checked := Try.checked }
namespace Rows
def none {H : Type} : Left H := { results := [], args := [] }

/-- 'pantoscopelaw05.SampleChances': WHATEVER THE INPUT: true; the input reads as it did. -/
def sampleChancesSpec : ChangeSpec := { name := "sampleChances", fn := fun _ => fun
  | [d1, d2, d3] => { results := [.lit (.bool true)], args := [d1, d2, d3] }
  | _ => none }
def sampleChancesRow : OpenClaim := { program := "ytappehafkjcabaa", sum := "d1f9bc45aacb71768f102a3072d8fcad5584127de9a83a7f556f52d865897ea8", func := "pantoscope/pantoscopelaw05.SampleChances", spec := "sampleChances", apart := false }
def SampleChancesSaid : Prop := sampleChancesRow.holds Try.pinned (OpenSpec.ofChange sampleChancesSpec)

/-- ITS FALSE NEIGHBOUR: 'it returns false'. Refute it at one input. -/
def sampleChancesWrong : ChangeSpec := { name := "sampleChances", fn := fun _ => fun
  | [d1, d2, d3] => { results := [.lit (.bool false)], args := [d1, d2, d3] }
  | _ => none }
def SampleChancesWrongFalsely : Prop := sampleChancesRow.holds Try.pinned (OpenSpec.ofChange sampleChancesWrong)

/-- 'pantoscopelaw05.SamplePlans': WHATEVER THE INPUT: true; the input reads as it did. -/
def samplePlansSpec : ChangeSpec := { name := "samplePlans", fn := fun _ => fun
  | [d1, d2, d3] => { results := [.lit (.bool true)], args := [d1, d2, d3] }
  | _ => none }
def samplePlansRow : OpenClaim := { program := "ytappehafkjcabaa", sum := "d1f9bc45aacb71768f102a3072d8fcad5584127de9a83a7f556f52d865897ea8", func := "pantoscope/pantoscopelaw05.SamplePlans", spec := "samplePlans", apart := false }
def SamplePlansSaid : Prop := samplePlansRow.holds Try.pinned (OpenSpec.ofChange samplePlansSpec)

/-- ITS FALSE NEIGHBOUR: 'it returns false'. Refute it at one input. -/
def samplePlansWrong : ChangeSpec := { name := "samplePlans", fn := fun _ => fun
  | [d1, d2, d3] => { results := [.lit (.bool false)], args := [d1, d2, d3] }
  | _ => none }
def SamplePlansWrongFalsely : Prop := samplePlansRow.holds Try.pinned (OpenSpec.ofChange samplePlansWrong)

/-- 'pantoscopelaw05.SampleWays': WHATEVER THE INPUT: true; the input reads as it did. -/
def sampleWaysSpec : ChangeSpec := { name := "sampleWays", fn := fun _ => fun
  | [d1, d2, d3, d4, d5] => { results := [.lit (.bool true)], args := [d1, d2, d3, d4, d5] }
  | _ => none }
def sampleWaysRow : OpenClaim := { program := "ytappehafkjcabaa", sum := "d1f9bc45aacb71768f102a3072d8fcad5584127de9a83a7f556f52d865897ea8", func := "pantoscope/pantoscopelaw05.SampleWays", spec := "sampleWays", apart := false }
def SampleWaysSaid : Prop := sampleWaysRow.holds Try.pinned (OpenSpec.ofChange sampleWaysSpec)

/-- ITS FALSE NEIGHBOUR: 'it returns false'. Refute it at one input. -/
def sampleWaysWrong : ChangeSpec := { name := "sampleWays", fn := fun _ => fun
  | [d1, d2, d3, d4, d5] => { results := [.lit (.bool false)], args := [d1, d2, d3, d4, d5] }
  | _ => none }
def SampleWaysWrongFalsely : Prop := sampleWaysRow.holds Try.pinned (OpenSpec.ofChange sampleWaysWrong)

/-- 'pantoscopelaw05.SampleAdds': WHATEVER THE INPUT: true; the input reads as it did. -/
def sampleAddsSpec : ChangeSpec := { name := "sampleAdds", fn := fun _ => fun
  | [d1, d2, d3] => { results := [.lit (.bool true)], args := [d1, d2, d3] }
  | _ => none }
def sampleAddsRow : OpenClaim := { program := "ytappehafkjcabaa", sum := "d1f9bc45aacb71768f102a3072d8fcad5584127de9a83a7f556f52d865897ea8", func := "pantoscope/pantoscopelaw05.SampleAdds", spec := "sampleAdds", apart := false }
def SampleAddsSaid : Prop := sampleAddsRow.holds Try.pinned (OpenSpec.ofChange sampleAddsSpec)

/-- ITS FALSE NEIGHBOUR: 'it returns false'. Refute it at one input. -/
def sampleAddsWrong : ChangeSpec := { name := "sampleAdds", fn := fun _ => fun
  | [d1, d2, d3] => { results := [.lit (.bool false)], args := [d1, d2, d3] }
  | _ => none }
def SampleAddsWrongFalsely : Prop := sampleAddsRow.holds Try.pinned (OpenSpec.ofChange sampleAddsWrong)

/-- 'pantoscopelaw05.SampleCounts': WHATEVER THE INPUT: true; the input reads as it did. -/
def sampleCountsSpec : ChangeSpec := { name := "sampleCounts", fn := fun _ => fun
  | [d1, d2] => { results := [.lit (.bool true)], args := [d1, d2] }
  | _ => none }
def sampleCountsRow : OpenClaim := { program := "ytappehafkjcabaa", sum := "d1f9bc45aacb71768f102a3072d8fcad5584127de9a83a7f556f52d865897ea8", func := "pantoscope/pantoscopelaw05.SampleCounts", spec := "sampleCounts", apart := false }
def SampleCountsSaid : Prop := sampleCountsRow.holds Try.pinned (OpenSpec.ofChange sampleCountsSpec)

/-- ITS FALSE NEIGHBOUR: 'it returns false'. Refute it at one input. -/
def sampleCountsWrong : ChangeSpec := { name := "sampleCounts", fn := fun _ => fun
  | [d1, d2] => { results := [.lit (.bool false)], args := [d1, d2] }
  | _ => none }
def SampleCountsWrongFalsely : Prop := sampleCountsRow.holds Try.pinned (OpenSpec.ofChange sampleCountsWrong)

/-- 'pantoscopelaw05.SampleFalls': WHATEVER THE INPUT: true; the input reads as it did. -/
def sampleFallsSpec : ChangeSpec := { name := "sampleFalls", fn := fun _ => fun
  | [d1, d2, d3] => { results := [.lit (.bool true)], args := [d1, d2, d3] }
  | _ => none }
def sampleFallsRow : OpenClaim := { program := "ytappehafkjcabaa", sum := "d1f9bc45aacb71768f102a3072d8fcad5584127de9a83a7f556f52d865897ea8", func := "pantoscope/pantoscopelaw05.SampleFalls", spec := "sampleFalls", apart := false }
def SampleFallsSaid : Prop := sampleFallsRow.holds Try.pinned (OpenSpec.ofChange sampleFallsSpec)

/-- ITS FALSE NEIGHBOUR: 'it returns false'. Refute it at one input. -/
def sampleFallsWrong : ChangeSpec := { name := "sampleFalls", fn := fun _ => fun
  | [d1, d2, d3] => { results := [.lit (.bool false)], args := [d1, d2, d3] }
  | _ => none }
def SampleFallsWrongFalsely : Prop := sampleFallsRow.holds Try.pinned (OpenSpec.ofChange sampleFallsWrong)

/-- 'pantoscopelaw05.SampleLeasts': WHATEVER THE INPUT: true; the input reads as it did. -/
def sampleLeastsSpec : ChangeSpec := { name := "sampleLeasts", fn := fun _ => fun
  | [d1, d2, d3, d4] => { results := [.lit (.bool true)], args := [d1, d2, d3, d4] }
  | _ => none }
def sampleLeastsRow : OpenClaim := { program := "ytappehafkjcabaa", sum := "d1f9bc45aacb71768f102a3072d8fcad5584127de9a83a7f556f52d865897ea8", func := "pantoscope/pantoscopelaw05.SampleLeasts", spec := "sampleLeasts", recurses := true, apart := false }
def SampleLeastsSaid : Prop := sampleLeastsRow.holds Try.pinned (OpenSpec.ofChange sampleLeastsSpec)

/-- ITS FALSE NEIGHBOUR: 'it returns false'. Refute it at one input. -/
def sampleLeastsWrong : ChangeSpec := { name := "sampleLeasts", fn := fun _ => fun
  | [d1, d2, d3, d4] => { results := [.lit (.bool false)], args := [d1, d2, d3, d4] }
  | _ => none }
def SampleLeastsWrongFalsely : Prop := sampleLeastsRow.holds Try.pinned (OpenSpec.ofChange sampleLeastsWrong)

/-- 'pantoscopelaw05.SampleSwitches': WHATEVER THE INPUT: true; the input reads as it did. -/
def sampleSwitchesSpec : ChangeSpec := { name := "sampleSwitches", fn := fun _ => fun
  | [d1, d2] => { results := [.lit (.bool true)], args := [d1, d2] }
  | _ => none }
def sampleSwitchesRow : OpenClaim := { program := "ytappehafkjcabaa", sum := "d1f9bc45aacb71768f102a3072d8fcad5584127de9a83a7f556f52d865897ea8", func := "pantoscope/pantoscopelaw05.SampleSwitches", spec := "sampleSwitches", apart := false }
def SampleSwitchesSaid : Prop := sampleSwitchesRow.holds Try.pinned (OpenSpec.ofChange sampleSwitchesSpec)

/-- ITS FALSE NEIGHBOUR: 'it returns false'. Refute it at one input. -/
def sampleSwitchesWrong : ChangeSpec := { name := "sampleSwitches", fn := fun _ => fun
  | [d1, d2] => { results := [.lit (.bool false)], args := [d1, d2] }
  | _ => none }
def SampleSwitchesWrongFalsely : Prop := sampleSwitchesRow.holds Try.pinned (OpenSpec.ofChange sampleSwitchesWrong)

/-- 'pantoscopelaw05.SampleHistories': WHATEVER THE INPUT: true; the input reads as it did. -/
def sampleHistoriesSpec : ChangeSpec := { name := "sampleHistories", fn := fun _ => fun
  | [d1, d2] => { results := [.lit (.bool true)], args := [d1, d2] }
  | _ => none }
def sampleHistoriesRow : OpenClaim := { program := "ytappehafkjcabaa", sum := "d1f9bc45aacb71768f102a3072d8fcad5584127de9a83a7f556f52d865897ea8", func := "pantoscope/pantoscopelaw05.SampleHistories", spec := "sampleHistories", apart := false }
def SampleHistoriesSaid : Prop := sampleHistoriesRow.holds Try.pinned (OpenSpec.ofChange sampleHistoriesSpec)

/-- ITS FALSE NEIGHBOUR: 'it returns false'. Refute it at one input. -/
def sampleHistoriesWrong : ChangeSpec := { name := "sampleHistories", fn := fun _ => fun
  | [d1, d2] => { results := [.lit (.bool false)], args := [d1, d2] }
  | _ => none }
def SampleHistoriesWrongFalsely : Prop := sampleHistoriesRow.holds Try.pinned (OpenSpec.ofChange sampleHistoriesWrong)

/-- 'pantoscopelaw05.SampleParts': WHATEVER THE INPUT: true; the input reads as it did. -/
def samplePartsSpec : ChangeSpec := { name := "sampleParts", fn := fun _ => fun
  | [d1, d2, d3] => { results := [.lit (.bool true)], args := [d1, d2, d3] }
  | _ => none }
def samplePartsRow : OpenClaim := { program := "ytappehafkjcabaa", sum := "d1f9bc45aacb71768f102a3072d8fcad5584127de9a83a7f556f52d865897ea8", func := "pantoscope/pantoscopelaw05.SampleParts", spec := "sampleParts", apart := false }
def SamplePartsSaid : Prop := samplePartsRow.holds Try.pinned (OpenSpec.ofChange samplePartsSpec)

/-- ITS FALSE NEIGHBOUR: 'it returns false'. Refute it at one input. -/
def samplePartsWrong : ChangeSpec := { name := "sampleParts", fn := fun _ => fun
  | [d1, d2, d3] => { results := [.lit (.bool false)], args := [d1, d2, d3] }
  | _ => none }
def SamplePartsWrongFalsely : Prop := samplePartsRow.holds Try.pinned (OpenSpec.ofChange samplePartsWrong)

/-- 'pantoscopelaw05.SampleRestarts': WHATEVER THE INPUT: true; the input reads as it did. -/
def sampleRestartsSpec : ChangeSpec := { name := "sampleRestarts", fn := fun _ => fun
  | [d1, d2, d3] => { results := [.lit (.bool true)], args := [d1, d2, d3] }
  | _ => none }
def sampleRestartsRow : OpenClaim := { program := "ytappehafkjcabaa", sum := "d1f9bc45aacb71768f102a3072d8fcad5584127de9a83a7f556f52d865897ea8", func := "pantoscope/pantoscopelaw05.SampleRestarts", spec := "sampleRestarts", apart := false }
def SampleRestartsSaid : Prop := sampleRestartsRow.holds Try.pinned (OpenSpec.ofChange sampleRestartsSpec)

/-- ITS FALSE NEIGHBOUR: 'it returns false'. Refute it at one input. -/
def sampleRestartsWrong : ChangeSpec := { name := "sampleRestarts", fn := fun _ => fun
  | [d1, d2, d3] => { results := [.lit (.bool false)], args := [d1, d2, d3] }
  | _ => none }
def SampleRestartsWrongFalsely : Prop := sampleRestartsRow.holds Try.pinned (OpenSpec.ofChange sampleRestartsWrong)

/- THE SECOND FORM. 'bulk': how many values and letters a reading holds, each counted each time it is reached (what is shared counts as often as it is met; a slice's spare places count too). A statement '..UptoSaid' is the law's where the arguments, and the package variables that the reading takes, are together of bulk at most 1048576: NARROWER than '..Said'. Prove '..Said' where nothing that the law and all that it calls make is longer than what came in: it says more and counts as full. Else prove '..UptoSaid'. A law counts once. -/
mutual
def uptoBulk {H : Type} : DataW H → Nat
  | .lit (.string bytes) => bytes.length + 1
  | .lit _ => 1
  | .nil => 1
  | .ptr d => uptoBulk d + 1
  | .slice elems spare => uptoBulkAll elems + uptoBulkAll spare + 1
  | .agg parts => uptoBulkAll parts + 1
  | .iface _ d => uptoBulk d + 1
  | .map entries => uptoBulkEntries entries + 1
  | .held _ => 1
def uptoBulkAll {H : Type} : List (DataW H) → Nat
  | [] => 0
  | d :: r => uptoBulk d + uptoBulkAll r
def uptoBulkEntries {H : Type} : List (Lit × DataW H) → Nat
  | [] => 0
  | x :: r => uptoBulkEntry x + uptoBulkEntries r
def uptoBulkEntry {H : Type} : Lit × DataW H → Nat
  | (.string bytes, d) => bytes.length + uptoBulk d + 1
  | (_, d) => uptoBulk d + 1
 end
def uptoSmall : (H : Type) → List (DataW H) → Bool := fun _ ds => decide (uptoBulkAll ds ≤ 1048576)
def OpenSpec.upto (s : _root_.Go.ChangeSpec) : _root_.Go.OpenSpec := { _root_.Go.OpenSpec.ofChange s with cond := some uptoSmall }

/-- 'pantoscopelaw05.SampleChances', WHERE WHAT IT READS IS OF BULK AT MOST 1048576: true; the input reads as it did. -/
def sampleChancesUptoRow : OpenClaim := { program := "ytappehafkjcabaa", sum := "d1f9bc45aacb71768f102a3072d8fcad5584127de9a83a7f556f52d865897ea8", func := "pantoscope/pantoscopelaw05.SampleChances", spec := "sampleChances", apart := false, narrowed := true }
def SampleChancesUptoSaid : Prop := sampleChancesUptoRow.holds Try.pinned (OpenSpec.upto sampleChancesSpec)

/-- 'pantoscopelaw05.SamplePlans', WHERE WHAT IT READS IS OF BULK AT MOST 1048576: true; the input reads as it did. -/
def samplePlansUptoRow : OpenClaim := { program := "ytappehafkjcabaa", sum := "d1f9bc45aacb71768f102a3072d8fcad5584127de9a83a7f556f52d865897ea8", func := "pantoscope/pantoscopelaw05.SamplePlans", spec := "samplePlans", apart := false, narrowed := true }
def SamplePlansUptoSaid : Prop := samplePlansUptoRow.holds Try.pinned (OpenSpec.upto samplePlansSpec)

/-- 'pantoscopelaw05.SampleWays', WHERE WHAT IT READS IS OF BULK AT MOST 1048576: true; the input reads as it did. -/
def sampleWaysUptoRow : OpenClaim := { program := "ytappehafkjcabaa", sum := "d1f9bc45aacb71768f102a3072d8fcad5584127de9a83a7f556f52d865897ea8", func := "pantoscope/pantoscopelaw05.SampleWays", spec := "sampleWays", apart := false, narrowed := true }
def SampleWaysUptoSaid : Prop := sampleWaysUptoRow.holds Try.pinned (OpenSpec.upto sampleWaysSpec)

/-- 'pantoscopelaw05.SampleAdds', WHERE WHAT IT READS IS OF BULK AT MOST 1048576: true; the input reads as it did. -/
def sampleAddsUptoRow : OpenClaim := { program := "ytappehafkjcabaa", sum := "d1f9bc45aacb71768f102a3072d8fcad5584127de9a83a7f556f52d865897ea8", func := "pantoscope/pantoscopelaw05.SampleAdds", spec := "sampleAdds", apart := false, narrowed := true }
def SampleAddsUptoSaid : Prop := sampleAddsUptoRow.holds Try.pinned (OpenSpec.upto sampleAddsSpec)

/-- 'pantoscopelaw05.SampleCounts', WHERE WHAT IT READS IS OF BULK AT MOST 1048576: true; the input reads as it did. -/
def sampleCountsUptoRow : OpenClaim := { program := "ytappehafkjcabaa", sum := "d1f9bc45aacb71768f102a3072d8fcad5584127de9a83a7f556f52d865897ea8", func := "pantoscope/pantoscopelaw05.SampleCounts", spec := "sampleCounts", apart := false, narrowed := true }
def SampleCountsUptoSaid : Prop := sampleCountsUptoRow.holds Try.pinned (OpenSpec.upto sampleCountsSpec)

/-- 'pantoscopelaw05.SampleFalls', WHERE WHAT IT READS IS OF BULK AT MOST 1048576: true; the input reads as it did. -/
def sampleFallsUptoRow : OpenClaim := { program := "ytappehafkjcabaa", sum := "d1f9bc45aacb71768f102a3072d8fcad5584127de9a83a7f556f52d865897ea8", func := "pantoscope/pantoscopelaw05.SampleFalls", spec := "sampleFalls", apart := false, narrowed := true }
def SampleFallsUptoSaid : Prop := sampleFallsUptoRow.holds Try.pinned (OpenSpec.upto sampleFallsSpec)

/-- 'pantoscopelaw05.SampleLeasts', WHERE WHAT IT READS IS OF BULK AT MOST 1048576: true; the input reads as it did. -/
def sampleLeastsUptoRow : OpenClaim := { program := "ytappehafkjcabaa", sum := "d1f9bc45aacb71768f102a3072d8fcad5584127de9a83a7f556f52d865897ea8", func := "pantoscope/pantoscopelaw05.SampleLeasts", spec := "sampleLeasts", recurses := true, apart := false, narrowed := true }
def SampleLeastsUptoSaid : Prop := sampleLeastsUptoRow.holds Try.pinned (OpenSpec.upto sampleLeastsSpec)

/-- 'pantoscopelaw05.SampleSwitches', WHERE WHAT IT READS IS OF BULK AT MOST 1048576: true; the input reads as it did. -/
def sampleSwitchesUptoRow : OpenClaim := { program := "ytappehafkjcabaa", sum := "d1f9bc45aacb71768f102a3072d8fcad5584127de9a83a7f556f52d865897ea8", func := "pantoscope/pantoscopelaw05.SampleSwitches", spec := "sampleSwitches", apart := false, narrowed := true }
def SampleSwitchesUptoSaid : Prop := sampleSwitchesUptoRow.holds Try.pinned (OpenSpec.upto sampleSwitchesSpec)

/-- 'pantoscopelaw05.SampleHistories', WHERE WHAT IT READS IS OF BULK AT MOST 1048576: true; the input reads as it did. -/
def sampleHistoriesUptoRow : OpenClaim := { program := "ytappehafkjcabaa", sum := "d1f9bc45aacb71768f102a3072d8fcad5584127de9a83a7f556f52d865897ea8", func := "pantoscope/pantoscopelaw05.SampleHistories", spec := "sampleHistories", apart := false, narrowed := true }
def SampleHistoriesUptoSaid : Prop := sampleHistoriesUptoRow.holds Try.pinned (OpenSpec.upto sampleHistoriesSpec)

/-- 'pantoscopelaw05.SampleParts', WHERE WHAT IT READS IS OF BULK AT MOST 1048576: true; the input reads as it did. -/
def samplePartsUptoRow : OpenClaim := { program := "ytappehafkjcabaa", sum := "d1f9bc45aacb71768f102a3072d8fcad5584127de9a83a7f556f52d865897ea8", func := "pantoscope/pantoscopelaw05.SampleParts", spec := "sampleParts", apart := false, narrowed := true }
def SamplePartsUptoSaid : Prop := samplePartsUptoRow.holds Try.pinned (OpenSpec.upto samplePartsSpec)

/-- 'pantoscopelaw05.SampleRestarts', WHERE WHAT IT READS IS OF BULK AT MOST 1048576: true; the input reads as it did. -/
def sampleRestartsUptoRow : OpenClaim := { program := "ytappehafkjcabaa", sum := "d1f9bc45aacb71768f102a3072d8fcad5584127de9a83a7f556f52d865897ea8", func := "pantoscope/pantoscopelaw05.SampleRestarts", spec := "sampleRestarts", apart := false, narrowed := true }
def SampleRestartsUptoSaid : Prop := sampleRestartsUptoRow.holds Try.pinned (OpenSpec.upto sampleRestartsSpec)

end Rows
end Go.Proofs.Ytappehafkjcabaa
