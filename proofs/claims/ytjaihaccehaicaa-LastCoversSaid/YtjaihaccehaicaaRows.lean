/-
  No cell of these rows narrows 'for every input' (looked for: loops, veiled, ifaces, maps, wideKeys, modest, calm, conditions, laid).
  DERIVED. THE GIVEN ROWS OF THIS SEAT. 7 by the template 'for every input the law returns true; each argument reads behind the call as it read before'; 0 by the template 'total and deterministic' (their statements: YtjaihaccehaicaaTotals.lean).
  GIVEN WITH THE SEED: the statements are not yours to turn. If you find one false, say at which input.
  Laid BY PROGRAM, IN A SANDBOX (cutbox-rows.mjs): the forced cells as the released guide's own fill.sh prints them over the translation 893a49fb555cdcef… (all of the seat's roots in one cut). By AI agents, Wed Nov 11 2026. No macro, syntax, notation, axiom, sorry.
-/
import Derived.Test.YtjaihaccehaicaaChecked
import GoSem.Claim
import GoSem.ClaimJoined
import GoSem.ClaimMapViews
import Derived.JoinedTies
import Derived.KernelRfl
namespace Go.Proofs.Ytjaihaccehaicaa
/- THE CELL 'sum', in the pinned program and in every row, IS THE sha256 OF THE DUMP (.gsa) THAT YtjaihaccehaicaaProg.lean LOADS. Nothing in Lean hashes anything: it is a label: what it is worth is what the hold of that sum in a sandbox is worth. -/
noncomputable def Try.pinned : Pinned := { name := "ytjaihaccehaicaa", sum := "893a49fb555cdcef1ffebc45cf45c6befdf5a709c903418e7622f22750a0b34f", checked := Try.checked }
namespace Rows
def none {H : Type} : Left H := { results := [], args := [] }

/-- 'pantoscopelaw03.LastStabs': WHATEVER THE INPUT: true; the input reads as it did. -/
def lastStabsSpec : ChangeSpec := { name := "lastStabs", fn := fun _ => fun
  | [d1, d2, d3] => { results := [.lit (.bool true)], args := [d1, d2, d3] }
  | _ => none }
def lastStabsRow : OpenClaim := { program := "ytjaihaccehaicaa", sum := "893a49fb555cdcef1ffebc45cf45c6befdf5a709c903418e7622f22750a0b34f", func := "pantoscope/pantoscopelaw03.LastStabs", spec := "lastStabs", unfollowed := true, recurses := true, apart := false }
def LastStabsSaid : Prop := lastStabsRow.holds Try.pinned (OpenSpec.ofChange lastStabsSpec)

/-- ITS FALSE NEIGHBOUR: 'it returns false'. Refute it at one input. -/
def lastStabsWrong : ChangeSpec := { name := "lastStabs", fn := fun _ => fun
  | [d1, d2, d3] => { results := [.lit (.bool false)], args := [d1, d2, d3] }
  | _ => none }
def LastStabsWrongFalsely : Prop := lastStabsRow.holds Try.pinned (OpenSpec.ofChange lastStabsWrong)

/-- 'pantoscopelaw03.LastMeasures': WHATEVER THE INPUT: true; the input reads as it did. -/
def lastMeasuresSpec : ChangeSpec := { name := "lastMeasures", fn := fun _ => fun
  | [d1, d2, d3] => { results := [.lit (.bool true)], args := [d1, d2, d3] }
  | _ => none }
def lastMeasuresRow : OpenClaim := { program := "ytjaihaccehaicaa", sum := "893a49fb555cdcef1ffebc45cf45c6befdf5a709c903418e7622f22750a0b34f", func := "pantoscope/pantoscopelaw03.LastMeasures", spec := "lastMeasures", unfollowed := true, recurses := true, apart := false }
def LastMeasuresSaid : Prop := lastMeasuresRow.holds Try.pinned (OpenSpec.ofChange lastMeasuresSpec)

/-- ITS FALSE NEIGHBOUR: 'it returns false'. Refute it at one input. -/
def lastMeasuresWrong : ChangeSpec := { name := "lastMeasures", fn := fun _ => fun
  | [d1, d2, d3] => { results := [.lit (.bool false)], args := [d1, d2, d3] }
  | _ => none }
def LastMeasuresWrongFalsely : Prop := lastMeasuresRow.holds Try.pinned (OpenSpec.ofChange lastMeasuresWrong)

/-- 'pantoscopelaw03.LastGrades': WHATEVER THE INPUT: true; the input reads as it did. -/
def lastGradesSpec : ChangeSpec := { name := "lastGrades", fn := fun _ => fun
  | [d1, d2, d3] => { results := [.lit (.bool true)], args := [d1, d2, d3] }
  | _ => none }
def lastGradesRow : OpenClaim := { program := "ytjaihaccehaicaa", sum := "893a49fb555cdcef1ffebc45cf45c6befdf5a709c903418e7622f22750a0b34f", func := "pantoscope/pantoscopelaw03.LastGrades", spec := "lastGrades", unfollowed := true, recurses := true, apart := false }
def LastGradesSaid : Prop := lastGradesRow.holds Try.pinned (OpenSpec.ofChange lastGradesSpec)

/-- ITS FALSE NEIGHBOUR: 'it returns false'. Refute it at one input. -/
def lastGradesWrong : ChangeSpec := { name := "lastGrades", fn := fun _ => fun
  | [d1, d2, d3] => { results := [.lit (.bool false)], args := [d1, d2, d3] }
  | _ => none }
def LastGradesWrongFalsely : Prop := lastGradesRow.holds Try.pinned (OpenSpec.ofChange lastGradesWrong)

/-- 'pantoscopelaw03.LastWider': WHATEVER THE INPUT: true; the input reads as it did. -/
def lastWiderSpec : ChangeSpec := { name := "lastWider", fn := fun _ => fun
  | [d1, d2, d3, d4] => { results := [.lit (.bool true)], args := [d1, d2, d3, d4] }
  | _ => none }
def lastWiderRow : OpenClaim := { program := "ytjaihaccehaicaa", sum := "893a49fb555cdcef1ffebc45cf45c6befdf5a709c903418e7622f22750a0b34f", func := "pantoscope/pantoscopelaw03.LastWider", spec := "lastWider", unfollowed := true, recurses := true, apart := false }
def LastWiderSaid : Prop := lastWiderRow.holds Try.pinned (OpenSpec.ofChange lastWiderSpec)

/-- ITS FALSE NEIGHBOUR: 'it returns false'. Refute it at one input. -/
def lastWiderWrong : ChangeSpec := { name := "lastWider", fn := fun _ => fun
  | [d1, d2, d3, d4] => { results := [.lit (.bool false)], args := [d1, d2, d3, d4] }
  | _ => none }
def LastWiderWrongFalsely : Prop := lastWiderRow.holds Try.pinned (OpenSpec.ofChange lastWiderWrong)

/-- 'pantoscopelaw03.LastNeeds': WHATEVER THE INPUT: true; the input reads as it did. -/
def lastNeedsSpec : ChangeSpec := { name := "lastNeeds", fn := fun _ => fun
  | [d1, d2] => { results := [.lit (.bool true)], args := [d1, d2] }
  | _ => none }
def lastNeedsRow : OpenClaim := { program := "ytjaihaccehaicaa", sum := "893a49fb555cdcef1ffebc45cf45c6befdf5a709c903418e7622f22750a0b34f", func := "pantoscope/pantoscopelaw03.LastNeeds", spec := "lastNeeds", unfollowed := true, recurses := true, apart := false }
def LastNeedsSaid : Prop := lastNeedsRow.holds Try.pinned (OpenSpec.ofChange lastNeedsSpec)

/-- ITS FALSE NEIGHBOUR: 'it returns false'. Refute it at one input. -/
def lastNeedsWrong : ChangeSpec := { name := "lastNeeds", fn := fun _ => fun
  | [d1, d2] => { results := [.lit (.bool false)], args := [d1, d2] }
  | _ => none }
def LastNeedsWrongFalsely : Prop := lastNeedsRow.holds Try.pinned (OpenSpec.ofChange lastNeedsWrong)

/-- 'pantoscopelaw03.LastSteps': WHATEVER THE INPUT: true; the input reads as it did. -/
def lastStepsSpec : ChangeSpec := { name := "lastSteps", fn := fun _ => fun
  | [d1, d2, d3, d4, d5] => { results := [.lit (.bool true)], args := [d1, d2, d3, d4, d5] }
  | _ => none }
def lastStepsRow : OpenClaim := { program := "ytjaihaccehaicaa", sum := "893a49fb555cdcef1ffebc45cf45c6befdf5a709c903418e7622f22750a0b34f", func := "pantoscope/pantoscopelaw03.LastSteps", spec := "lastSteps", unfollowed := true, recurses := true, apart := false }
def LastStepsSaid : Prop := lastStepsRow.holds Try.pinned (OpenSpec.ofChange lastStepsSpec)

/-- ITS FALSE NEIGHBOUR: 'it returns false'. Refute it at one input. -/
def lastStepsWrong : ChangeSpec := { name := "lastSteps", fn := fun _ => fun
  | [d1, d2, d3, d4, d5] => { results := [.lit (.bool false)], args := [d1, d2, d3, d4, d5] }
  | _ => none }
def LastStepsWrongFalsely : Prop := lastStepsRow.holds Try.pinned (OpenSpec.ofChange lastStepsWrong)

/-- 'pantoscopelaw03.LastCovers': WHATEVER THE INPUT: true; the input reads as it did. -/
def lastCoversSpec : ChangeSpec := { name := "lastCovers", fn := fun _ => fun
  | [d1, d2, d3] => { results := [.lit (.bool true)], args := [d1, d2, d3] }
  | _ => none }
def lastCoversRow : OpenClaim := { program := "ytjaihaccehaicaa", sum := "893a49fb555cdcef1ffebc45cf45c6befdf5a709c903418e7622f22750a0b34f", func := "pantoscope/pantoscopelaw03.LastCovers", spec := "lastCovers", unfollowed := true, recurses := true, apart := false }
def LastCoversSaid : Prop := lastCoversRow.holds Try.pinned (OpenSpec.ofChange lastCoversSpec)

/-- ITS FALSE NEIGHBOUR: 'it returns false'. Refute it at one input. -/
def lastCoversWrong : ChangeSpec := { name := "lastCovers", fn := fun _ => fun
  | [d1, d2, d3] => { results := [.lit (.bool false)], args := [d1, d2, d3] }
  | _ => none }
def LastCoversWrongFalsely : Prop := lastCoversRow.holds Try.pinned (OpenSpec.ofChange lastCoversWrong)

/- THE SECOND FORM. 'bulk': how many values and letters a reading holds, each counted each time it is reached (what is shared counts as often as it is met; a slice's spare places count too). A statement '..UptoSaid' is the law's where the arguments, and the package variables that the reading takes, are together of bulk at most 1048576: NARROWER than '..Said'. Prove '..Said' where nothing that the law and all that it calls make is longer than what came in: it says more and counts as full. Else prove '..UptoSaid'. A law counts once. -/
mutual
def uptoBulk {H : Type} : DataW H → Nat
  | .lit (.string bytes) => bytes.length + 1
  | .lit _ => 1
  | .nil => 1
  | .ptr d => uptoBulk d + 1
  | .slice elems spare => uptoBulkAll elems + uptoBulkAll spare + 1
  | .agg parts => uptoBulkAll parts + 1
  | .iface _ d => uptoBulk d + 1
  | .map entries => uptoBulkEntries entries + 1
  | .held _ => 1
def uptoBulkAll {H : Type} : List (DataW H) → Nat
  | [] => 0
  | d :: r => uptoBulk d + uptoBulkAll r
def uptoBulkEntries {H : Type} : List (Lit × DataW H) → Nat
  | [] => 0
  | x :: r => uptoBulkEntry x + uptoBulkEntries r
def uptoBulkEntry {H : Type} : Lit × DataW H → Nat
  | (.string bytes, d) => bytes.length + uptoBulk d + 1
  | (_, d) => uptoBulk d + 1
 end
def uptoSmall : (H : Type) → List (DataW H) → Bool := fun _ ds => decide (uptoBulkAll ds ≤ 1048576)
def OpenSpec.upto (s : _root_.Go.ChangeSpec) : _root_.Go.OpenSpec := { _root_.Go.OpenSpec.ofChange s with cond := some uptoSmall }

/-- 'pantoscopelaw03.LastStabs', WHERE WHAT IT READS IS OF BULK AT MOST 1048576: true; the input reads as it did. -/
def lastStabsUptoRow : OpenClaim := { program := "ytjaihaccehaicaa", sum := "893a49fb555cdcef1ffebc45cf45c6befdf5a709c903418e7622f22750a0b34f", func := "pantoscope/pantoscopelaw03.LastStabs", spec := "lastStabs", unfollowed := true, recurses := true, apart := false, narrowed := true }
def LastStabsUptoSaid : Prop := lastStabsUptoRow.holds Try.pinned (OpenSpec.upto lastStabsSpec)

/-- 'pantoscopelaw03.LastMeasures', WHERE WHAT IT READS IS OF BULK AT MOST 1048576: true; the input reads as it did. -/
def lastMeasuresUptoRow : OpenClaim := { program := "ytjaihaccehaicaa", sum := "893a49fb555cdcef1ffebc45cf45c6befdf5a709c903418e7622f22750a0b34f", func := "pantoscope/pantoscopelaw03.LastMeasures", spec := "lastMeasures", unfollowed := true, recurses := true, apart := false, narrowed := true }
def LastMeasuresUptoSaid : Prop := lastMeasuresUptoRow.holds Try.pinned (OpenSpec.upto lastMeasuresSpec)

/-- 'pantoscopelaw03.LastGrades', WHERE WHAT IT READS IS OF BULK AT MOST 1048576: true; the input reads as it did. -/
def lastGradesUptoRow : OpenClaim := { program := "ytjaihaccehaicaa", sum := "893a49fb555cdcef1ffebc45cf45c6befdf5a709c903418e7622f22750a0b34f", func := "pantoscope/pantoscopelaw03.LastGrades", spec := "lastGrades", unfollowed := true, recurses := true, apart := false, narrowed := true }
def LastGradesUptoSaid : Prop := lastGradesUptoRow.holds Try.pinned (OpenSpec.upto lastGradesSpec)

/-- 'pantoscopelaw03.LastWider', WHERE WHAT IT READS IS OF BULK AT MOST 1048576: true; the input reads as it did. -/
def lastWiderUptoRow : OpenClaim := { program := "ytjaihaccehaicaa", sum := "893a49fb555cdcef1ffebc45cf45c6befdf5a709c903418e7622f22750a0b34f", func := "pantoscope/pantoscopelaw03.LastWider", spec := "lastWider", unfollowed := true, recurses := true, apart := false, narrowed := true }
def LastWiderUptoSaid : Prop := lastWiderUptoRow.holds Try.pinned (OpenSpec.upto lastWiderSpec)

/-- 'pantoscopelaw03.LastNeeds', WHERE WHAT IT READS IS OF BULK AT MOST 1048576: true; the input reads as it did. -/
def lastNeedsUptoRow : OpenClaim := { program := "ytjaihaccehaicaa", sum := "893a49fb555cdcef1ffebc45cf45c6befdf5a709c903418e7622f22750a0b34f", func := "pantoscope/pantoscopelaw03.LastNeeds", spec := "lastNeeds", unfollowed := true, recurses := true, apart := false, narrowed := true }
def LastNeedsUptoSaid : Prop := lastNeedsUptoRow.holds Try.pinned (OpenSpec.upto lastNeedsSpec)

/-- 'pantoscopelaw03.LastSteps', WHERE WHAT IT READS IS OF BULK AT MOST 1048576: true; the input reads as it did. -/
def lastStepsUptoRow : OpenClaim := { program := "ytjaihaccehaicaa", sum := "893a49fb555cdcef1ffebc45cf45c6befdf5a709c903418e7622f22750a0b34f", func := "pantoscope/pantoscopelaw03.LastSteps", spec := "lastSteps", unfollowed := true, recurses := true, apart := false, narrowed := true }
def LastStepsUptoSaid : Prop := lastStepsUptoRow.holds Try.pinned (OpenSpec.upto lastStepsSpec)

/-- 'pantoscopelaw03.LastCovers', WHERE WHAT IT READS IS OF BULK AT MOST 1048576: true; the input reads as it did. -/
def lastCoversUptoRow : OpenClaim := { program := "ytjaihaccehaicaa", sum := "893a49fb555cdcef1ffebc45cf45c6befdf5a709c903418e7622f22750a0b34f", func := "pantoscope/pantoscopelaw03.LastCovers", spec := "lastCovers", unfollowed := true, recurses := true, apart := false, narrowed := true }
def LastCoversUptoSaid : Prop := lastCoversUptoRow.holds Try.pinned (OpenSpec.upto lastCoversSpec)

end Rows
end Go.Proofs.Ytjaihaccehaicaa
