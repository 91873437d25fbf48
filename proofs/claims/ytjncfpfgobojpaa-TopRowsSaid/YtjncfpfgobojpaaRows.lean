/-
  No cell of these rows narrows 'for every input' (looked for: loops, veiled, ifaces, maps, wideKeys, modest, calm, conditions, laid).
  DERIVED. THE GIVEN ROWS OF THIS SEAT. 13 by the template 'for every input the law returns true; each argument reads behind the call as it read before'; 0 by the template 'total and deterministic' (their statements: YtjncfpfgobojpaaTotals.lean).
  GIVEN WITH THE SEED: the statements are not yours to turn. If you find one false, say at which input.
  Laid BY PROGRAM, IN A SANDBOX (cutbox-rows.mjs): the forced cells as the released guide's own fill.sh prints them over the translation 4799d28527daa1e2… (all of the seat's roots in one cut). By AI agents, Wed Nov 11 2026. No macro, syntax, notation, axiom, sorry.
-/
import Derived.Test.YtjncfpfgobojpaaChecked
import GoSem.Claim
import GoSem.ClaimJoined
import GoSem.ClaimMapViews
import Derived.JoinedTies
import Derived.KernelRfl
namespace Go.Proofs.Ytjncfpfgobojpaa
/- THE CELL 'sum', in the pinned program and in every row, IS THE sha256 OF THE DUMP (.gsa) THAT YtjncfpfgobojpaaProg.lean LOADS. Nothing in Lean hashes anything: it is a label: what it is worth is what the hold of that sum in a sandbox is worth. -/
noncomputable def Try.pinned : Pinned := { name := "ytjncfpfgobojpaa", sum := "4799d28527daa1e2ac668da73944e97cc4082eb6b91e8e55193bf72c5ccea0af", checked := Try.checked }
namespace Rows
def none {H : Type} : Left H := { results := [], args := [] }

/-- 'pantoscopelaw06.BarrelRows': WHATEVER THE INPUT: true; the input reads as it did. -/
def barrelRowsSpec : ChangeSpec := { name := "barrelRows", fn := fun _ => fun
  | [d] => { results := [.lit (.bool true)], args := [d] }
  | _ => none }
def barrelRowsRow : OpenClaim := { program := "ytjncfpfgobojpaa", sum := "4799d28527daa1e2ac668da73944e97cc4082eb6b91e8e55193bf72c5ccea0af", func := "pantoscope/pantoscopelaw06.BarrelRows", spec := "barrelRows", unfollowed := true, recurses := true, plainKeys := false, apart := false }
def BarrelRowsSaid : Prop := barrelRowsRow.holds Try.pinned (OpenSpec.ofChange barrelRowsSpec)

/-- ITS FALSE NEIGHBOUR: 'it returns false'. Refute it at one input. -/
def barrelRowsWrong : ChangeSpec := { name := "barrelRows", fn := fun _ => fun
  | [d] => { results := [.lit (.bool false)], args := [d] }
  | _ => none }
def BarrelRowsWrongFalsely : Prop := barrelRowsRow.holds Try.pinned (OpenSpec.ofChange barrelRowsWrong)

/-- 'pantoscopelaw06.BarrelMore': WHATEVER THE INPUT: true; the input reads as it did. -/
def barrelMoreSpec : ChangeSpec := { name := "barrelMore", fn := fun _ => fun
  | [d1, d2, d3] => { results := [.lit (.bool true)], args := [d1, d2, d3] }
  | _ => none }
def barrelMoreRow : OpenClaim := { program := "ytjncfpfgobojpaa", sum := "4799d28527daa1e2ac668da73944e97cc4082eb6b91e8e55193bf72c5ccea0af", func := "pantoscope/pantoscopelaw06.BarrelMore", spec := "barrelMore", unfollowed := true, recurses := true, plainKeys := false, apart := false }
def BarrelMoreSaid : Prop := barrelMoreRow.holds Try.pinned (OpenSpec.ofChange barrelMoreSpec)

/-- ITS FALSE NEIGHBOUR: 'it returns false'. Refute it at one input. -/
def barrelMoreWrong : ChangeSpec := { name := "barrelMore", fn := fun _ => fun
  | [d1, d2, d3] => { results := [.lit (.bool false)], args := [d1, d2, d3] }
  | _ => none }
def BarrelMoreWrongFalsely : Prop := barrelMoreRow.holds Try.pinned (OpenSpec.ofChange barrelMoreWrong)

/-- 'pantoscopelaw06.BarrelValid': WHATEVER THE INPUT: true; the input reads as it did. -/
def barrelValidSpec : ChangeSpec := { name := "barrelValid", fn := fun _ => fun
  | [d1, d2, d3] => { results := [.lit (.bool true)], args := [d1, d2, d3] }
  | _ => none }
def barrelValidRow : OpenClaim := { program := "ytjncfpfgobojpaa", sum := "4799d28527daa1e2ac668da73944e97cc4082eb6b91e8e55193bf72c5ccea0af", func := "pantoscope/pantoscopelaw06.BarrelValid", spec := "barrelValid", unfollowed := true, recurses := true, plainKeys := false, apart := false }
def BarrelValidSaid : Prop := barrelValidRow.holds Try.pinned (OpenSpec.ofChange barrelValidSpec)

/-- ITS FALSE NEIGHBOUR: 'it returns false'. Refute it at one input. -/
def barrelValidWrong : ChangeSpec := { name := "barrelValid", fn := fun _ => fun
  | [d1, d2, d3] => { results := [.lit (.bool false)], args := [d1, d2, d3] }
  | _ => none }
def BarrelValidWrongFalsely : Prop := barrelValidRow.holds Try.pinned (OpenSpec.ofChange barrelValidWrong)

/-- 'pantoscopelaw06.BarrelBounds': WHATEVER THE INPUT: true; the input reads as it did. -/
def barrelBoundsSpec : ChangeSpec := { name := "barrelBounds", fn := fun _ => fun
  | [d1, d2, d3] => { results := [.lit (.bool true)], args := [d1, d2, d3] }
  | _ => none }
def barrelBoundsRow : OpenClaim := { program := "ytjncfpfgobojpaa", sum := "4799d28527daa1e2ac668da73944e97cc4082eb6b91e8e55193bf72c5ccea0af", func := "pantoscope/pantoscopelaw06.BarrelBounds", spec := "barrelBounds", unfollowed := true, recurses := true, plainKeys := false, apart := false }
def BarrelBoundsSaid : Prop := barrelBoundsRow.holds Try.pinned (OpenSpec.ofChange barrelBoundsSpec)

/-- ITS FALSE NEIGHBOUR: 'it returns false'. Refute it at one input. -/
def barrelBoundsWrong : ChangeSpec := { name := "barrelBounds", fn := fun _ => fun
  | [d1, d2, d3] => { results := [.lit (.bool false)], args := [d1, d2, d3] }
  | _ => none }
def BarrelBoundsWrongFalsely : Prop := barrelBoundsRow.holds Try.pinned (OpenSpec.ofChange barrelBoundsWrong)

/-- 'pantoscopelaw06.BarrelStages': WHATEVER THE INPUT: true; the input reads as it did. -/
def barrelStagesSpec : ChangeSpec := { name := "barrelStages", fn := fun _ => fun
  | [d1, d2, d3] => { results := [.lit (.bool true)], args := [d1, d2, d3] }
  | _ => none }
def barrelStagesRow : OpenClaim := { program := "ytjncfpfgobojpaa", sum := "4799d28527daa1e2ac668da73944e97cc4082eb6b91e8e55193bf72c5ccea0af", func := "pantoscope/pantoscopelaw06.BarrelStages", spec := "barrelStages", unfollowed := true, recurses := true, plainKeys := false, apart := false }
def BarrelStagesSaid : Prop := barrelStagesRow.holds Try.pinned (OpenSpec.ofChange barrelStagesSpec)

/-- ITS FALSE NEIGHBOUR: 'it returns false'. Refute it at one input. -/
def barrelStagesWrong : ChangeSpec := { name := "barrelStages", fn := fun _ => fun
  | [d1, d2, d3] => { results := [.lit (.bool false)], args := [d1, d2, d3] }
  | _ => none }
def BarrelStagesWrongFalsely : Prop := barrelStagesRow.holds Try.pinned (OpenSpec.ofChange barrelStagesWrong)

/-- 'pantoscopelaw06.BarrelHours': WHATEVER THE INPUT: true; the input reads as it did. -/
def barrelHoursSpec : ChangeSpec := { name := "barrelHours", fn := fun _ => fun
  | [d1, d2, d3] => { results := [.lit (.bool true)], args := [d1, d2, d3] }
  | _ => none }
def barrelHoursRow : OpenClaim := { program := "ytjncfpfgobojpaa", sum := "4799d28527daa1e2ac668da73944e97cc4082eb6b91e8e55193bf72c5ccea0af", func := "pantoscope/pantoscopelaw06.BarrelHours", spec := "barrelHours", unfollowed := true, recurses := true, plainKeys := false, apart := false }
def BarrelHoursSaid : Prop := barrelHoursRow.holds Try.pinned (OpenSpec.ofChange barrelHoursSpec)

/-- ITS FALSE NEIGHBOUR: 'it returns false'. Refute it at one input. -/
def barrelHoursWrong : ChangeSpec := { name := "barrelHours", fn := fun _ => fun
  | [d1, d2, d3] => { results := [.lit (.bool false)], args := [d1, d2, d3] }
  | _ => none }
def BarrelHoursWrongFalsely : Prop := barrelHoursRow.holds Try.pinned (OpenSpec.ofChange barrelHoursWrong)

/-- 'pantoscopelaw06.BarrelApart': WHATEVER THE INPUT: true; the input reads as it did. -/
def barrelApartSpec : ChangeSpec := { name := "barrelApart", fn := fun _ => fun
  | [d1, d2] => { results := [.lit (.bool true)], args := [d1, d2] }
  | _ => none }
def barrelApartRow : OpenClaim := { program := "ytjncfpfgobojpaa", sum := "4799d28527daa1e2ac668da73944e97cc4082eb6b91e8e55193bf72c5ccea0af", func := "pantoscope/pantoscopelaw06.BarrelApart", spec := "barrelApart", unfollowed := true, recurses := true, plainKeys := false, apart := false }
def BarrelApartSaid : Prop := barrelApartRow.holds Try.pinned (OpenSpec.ofChange barrelApartSpec)

/-- ITS FALSE NEIGHBOUR: 'it returns false'. Refute it at one input. -/
def barrelApartWrong : ChangeSpec := { name := "barrelApart", fn := fun _ => fun
  | [d1, d2] => { results := [.lit (.bool false)], args := [d1, d2] }
  | _ => none }
def BarrelApartWrongFalsely : Prop := barrelApartRow.holds Try.pinned (OpenSpec.ofChange barrelApartWrong)

/-- 'pantoscopelaw06.BarrelChecks': WHATEVER THE INPUT: true; the input reads as it did. -/
def barrelChecksSpec : ChangeSpec := { name := "barrelChecks", fn := fun _ => fun
  | [d1, d2] => { results := [.lit (.bool true)], args := [d1, d2] }
  | _ => none }
def barrelChecksRow : OpenClaim := { program := "ytjncfpfgobojpaa", sum := "4799d28527daa1e2ac668da73944e97cc4082eb6b91e8e55193bf72c5ccea0af", func := "pantoscope/pantoscopelaw06.BarrelChecks", spec := "barrelChecks", unfollowed := true, recurses := true, plainKeys := false, apart := false }
def BarrelChecksSaid : Prop := barrelChecksRow.holds Try.pinned (OpenSpec.ofChange barrelChecksSpec)

/-- ITS FALSE NEIGHBOUR: 'it returns false'. Refute it at one input. -/
def barrelChecksWrong : ChangeSpec := { name := "barrelChecks", fn := fun _ => fun
  | [d1, d2] => { results := [.lit (.bool false)], args := [d1, d2] }
  | _ => none }
def BarrelChecksWrongFalsely : Prop := barrelChecksRow.holds Try.pinned (OpenSpec.ofChange barrelChecksWrong)

/-- 'pantoscopelaw06.BarrelAssigns': WHATEVER THE INPUT: true; the input reads as it did. -/
def barrelAssignsSpec : ChangeSpec := { name := "barrelAssigns", fn := fun _ => fun
  | [d1, d2, d3] => { results := [.lit (.bool true)], args := [d1, d2, d3] }
  | _ => none }
def barrelAssignsRow : OpenClaim := { program := "ytjncfpfgobojpaa", sum := "4799d28527daa1e2ac668da73944e97cc4082eb6b91e8e55193bf72c5ccea0af", func := "pantoscope/pantoscopelaw06.BarrelAssigns", spec := "barrelAssigns", unfollowed := true, recurses := true, plainKeys := false, apart := false }
def BarrelAssignsSaid : Prop := barrelAssignsRow.holds Try.pinned (OpenSpec.ofChange barrelAssignsSpec)

/-- ITS FALSE NEIGHBOUR: 'it returns false'. Refute it at one input. -/
def barrelAssignsWrong : ChangeSpec := { name := "barrelAssigns", fn := fun _ => fun
  | [d1, d2, d3] => { results := [.lit (.bool false)], args := [d1, d2, d3] }
  | _ => none }
def BarrelAssignsWrongFalsely : Prop := barrelAssignsRow.holds Try.pinned (OpenSpec.ofChange barrelAssignsWrong)

/-- 'pantoscopelaw06.BarrelJudges': WHATEVER THE INPUT: true; the input reads as it did. -/
def barrelJudgesSpec : ChangeSpec := { name := "barrelJudges", fn := fun _ => fun
  | [d1, d2, d3] => { results := [.lit (.bool true)], args := [d1, d2, d3] }
  | _ => none }
def barrelJudgesRow : OpenClaim := { program := "ytjncfpfgobojpaa", sum := "4799d28527daa1e2ac668da73944e97cc4082eb6b91e8e55193bf72c5ccea0af", func := "pantoscope/pantoscopelaw06.BarrelJudges", spec := "barrelJudges", unfollowed := true, recurses := true, plainKeys := false, apart := false }
def BarrelJudgesSaid : Prop := barrelJudgesRow.holds Try.pinned (OpenSpec.ofChange barrelJudgesSpec)

/-- ITS FALSE NEIGHBOUR: 'it returns false'. Refute it at one input. -/
def barrelJudgesWrong : ChangeSpec := { name := "barrelJudges", fn := fun _ => fun
  | [d1, d2, d3] => { results := [.lit (.bool false)], args := [d1, d2, d3] }
  | _ => none }
def BarrelJudgesWrongFalsely : Prop := barrelJudgesRow.holds Try.pinned (OpenSpec.ofChange barrelJudgesWrong)

/-- 'pantoscopelaw06.BarrelTimes': WHATEVER THE INPUT: true; the input reads as it did. -/
def barrelTimesSpec : ChangeSpec := { name := "barrelTimes", fn := fun _ => fun
  | [d1, d2, d3] => { results := [.lit (.bool true)], args := [d1, d2, d3] }
  | _ => none }
def barrelTimesRow : OpenClaim := { program := "ytjncfpfgobojpaa", sum := "4799d28527daa1e2ac668da73944e97cc4082eb6b91e8e55193bf72c5ccea0af", func := "pantoscope/pantoscopelaw06.BarrelTimes", spec := "barrelTimes", unfollowed := true, recurses := true, plainKeys := false, apart := false }
def BarrelTimesSaid : Prop := barrelTimesRow.holds Try.pinned (OpenSpec.ofChange barrelTimesSpec)

/-- ITS FALSE NEIGHBOUR: 'it returns false'. Refute it at one input. -/
def barrelTimesWrong : ChangeSpec := { name := "barrelTimes", fn := fun _ => fun
  | [d1, d2, d3] => { results := [.lit (.bool false)], args := [d1, d2, d3] }
  | _ => none }
def BarrelTimesWrongFalsely : Prop := barrelTimesRow.holds Try.pinned (OpenSpec.ofChange barrelTimesWrong)

/-- 'pantoscopelaw06.BarrelProofs': WHATEVER THE INPUT: true; the input reads as it did. -/
def barrelProofsSpec : ChangeSpec := { name := "barrelProofs", fn := fun _ => fun
  | [d1, d2, d3] => { results := [.lit (.bool true)], args := [d1, d2, d3] }
  | _ => none }
def barrelProofsRow : OpenClaim := { program := "ytjncfpfgobojpaa", sum := "4799d28527daa1e2ac668da73944e97cc4082eb6b91e8e55193bf72c5ccea0af", func := "pantoscope/pantoscopelaw06.BarrelProofs", spec := "barrelProofs", unfollowed := true, recurses := true, plainKeys := false, apart := false }
def BarrelProofsSaid : Prop := barrelProofsRow.holds Try.pinned (OpenSpec.ofChange barrelProofsSpec)

/-- ITS FALSE NEIGHBOUR: 'it returns false'. Refute it at one input. -/
def barrelProofsWrong : ChangeSpec := { name := "barrelProofs", fn := fun _ => fun
  | [d1, d2, d3] => { results := [.lit (.bool false)], args := [d1, d2, d3] }
  | _ => none }
def BarrelProofsWrongFalsely : Prop := barrelProofsRow.holds Try.pinned (OpenSpec.ofChange barrelProofsWrong)

/-- 'pantoscopetop.TopRows': WHATEVER THE INPUT: true; the input reads as it did. -/
def topRowsSpec : ChangeSpec := { name := "topRows", fn := fun _ => fun
  | [d1, d2] => { results := [.lit (.bool true)], args := [d1, d2] }
  | _ => none }
def topRowsRow : OpenClaim := { program := "ytjncfpfgobojpaa", sum := "4799d28527daa1e2ac668da73944e97cc4082eb6b91e8e55193bf72c5ccea0af", func := "pantoscope/pantoscopetop.TopRows", spec := "topRows", unfollowed := true, recurses := true, plainKeys := false, apart := false }
def TopRowsSaid : Prop := topRowsRow.holds Try.pinned (OpenSpec.ofChange topRowsSpec)

/-- ITS FALSE NEIGHBOUR: 'it returns false'. Refute it at one input. -/
def topRowsWrong : ChangeSpec := { name := "topRows", fn := fun _ => fun
  | [d1, d2] => { results := [.lit (.bool false)], args := [d1, d2] }
  | _ => none }
def TopRowsWrongFalsely : Prop := topRowsRow.holds Try.pinned (OpenSpec.ofChange topRowsWrong)

/- THE SECOND FORM. 'bulk': how many values and letters a reading holds, each counted each time it is reached (what is shared counts as often as it is met; a slice's spare places count too). A statement '..UptoSaid' is the law's where the arguments, and the package variables that the reading takes, are together of bulk at most 1048576: NARROWER than '..Said'. Prove '..Said' where nothing that the law and all that it calls make is longer than what came in: it says more and counts as full. Else prove '..UptoSaid'. A law counts once. -/
mutual
def uptoBulk {H : Type} : DataW H → Nat
  | .lit (.string bytes) => bytes.length + 1
  | .lit _ => 1
  | .nil => 1
  | .ptr d => uptoBulk d + 1
  | .slice elems spare => uptoBulkAll elems + uptoBulkAll spare + 1
  | .agg parts => uptoBulkAll parts + 1
  | .iface _ d => uptoBulk d + 1
  | .map entries => uptoBulkEntries entries + 1
  | .held _ => 1
def uptoBulkAll {H : Type} : List (DataW H) → Nat
  | [] => 0
  | d :: r => uptoBulk d + uptoBulkAll r
def uptoBulkEntries {H : Type} : List (Lit × DataW H) → Nat
  | [] => 0
  | x :: r => uptoBulkEntry x + uptoBulkEntries r
def uptoBulkEntry {H : Type} : Lit × DataW H → Nat
  | (.string bytes, d) => bytes.length + uptoBulk d + 1
  | (_, d) => uptoBulk d + 1
 end
def uptoSmall : (H : Type) → List (DataW H) → Bool := fun _ ds => decide (uptoBulkAll ds ≤ 1048576)
def OpenSpec.upto (s : _root_.Go.ChangeSpec) : _root_.Go.OpenSpec := { _root_.Go.OpenSpec.ofChange s with cond := some uptoSmall }

/-- 'pantoscopelaw06.BarrelRows', WHERE WHAT IT READS IS OF BULK AT MOST 1048576: true; the input reads as it did. -/
def barrelRowsUptoRow : OpenClaim := { program := "ytjncfpfgobojpaa", sum := "4799d28527daa1e2ac668da73944e97cc4082eb6b91e8e55193bf72c5ccea0af", func := "pantoscope/pantoscopelaw06.BarrelRows", spec := "barrelRows", unfollowed := true, recurses := true, plainKeys := false, apart := false, narrowed := true }
def BarrelRowsUptoSaid : Prop := barrelRowsUptoRow.holds Try.pinned (OpenSpec.upto barrelRowsSpec)

/-- 'pantoscopelaw06.BarrelMore', WHERE WHAT IT READS IS OF BULK AT MOST 1048576: true; the input reads as it did. -/
def barrelMoreUptoRow : OpenClaim := { program := "ytjncfpfgobojpaa", sum := "4799d28527daa1e2ac668da73944e97cc4082eb6b91e8e55193bf72c5ccea0af", func := "pantoscope/pantoscopelaw06.BarrelMore", spec := "barrelMore", unfollowed := true, recurses := true, plainKeys := false, apart := false, narrowed := true }
def BarrelMoreUptoSaid : Prop := barrelMoreUptoRow.holds Try.pinned (OpenSpec.upto barrelMoreSpec)

/-- 'pantoscopelaw06.BarrelValid', WHERE WHAT IT READS IS OF BULK AT MOST 1048576: true; the input reads as it did. -/
def barrelValidUptoRow : OpenClaim := { program := "ytjncfpfgobojpaa", sum := "4799d28527daa1e2ac668da73944e97cc4082eb6b91e8e55193bf72c5ccea0af", func := "pantoscope/pantoscopelaw06.BarrelValid", spec := "barrelValid", unfollowed := true, recurses := true, plainKeys := false, apart := false, narrowed := true }
def BarrelValidUptoSaid : Prop := barrelValidUptoRow.holds Try.pinned (OpenSpec.upto barrelValidSpec)

/-- 'pantoscopelaw06.BarrelBounds', WHERE WHAT IT READS IS OF BULK AT MOST 1048576: true; the input reads as it did. -/
def barrelBoundsUptoRow : OpenClaim := { program := "ytjncfpfgobojpaa", sum := "4799d28527daa1e2ac668da73944e97cc4082eb6b91e8e55193bf72c5ccea0af", func := "pantoscope/pantoscopelaw06.BarrelBounds", spec := "barrelBounds", unfollowed := true, recurses := true, plainKeys := false, apart := false, narrowed := true }
def BarrelBoundsUptoSaid : Prop := barrelBoundsUptoRow.holds Try.pinned (OpenSpec.upto barrelBoundsSpec)

/-- 'pantoscopelaw06.BarrelStages', WHERE WHAT IT READS IS OF BULK AT MOST 1048576: true; the input reads as it did. -/
def barrelStagesUptoRow : OpenClaim := { program := "ytjncfpfgobojpaa", sum := "4799d28527daa1e2ac668da73944e97cc4082eb6b91e8e55193bf72c5ccea0af", func := "pantoscope/pantoscopelaw06.BarrelStages", spec := "barrelStages", unfollowed := true, recurses := true, plainKeys := false, apart := false, narrowed := true }
def BarrelStagesUptoSaid : Prop := barrelStagesUptoRow.holds Try.pinned (OpenSpec.upto barrelStagesSpec)

/-- 'pantoscopelaw06.BarrelHours', WHERE WHAT IT READS IS OF BULK AT MOST 1048576: true; the input reads as it did. -/
def barrelHoursUptoRow : OpenClaim := { program := "ytjncfpfgobojpaa", sum := "4799d28527daa1e2ac668da73944e97cc4082eb6b91e8e55193bf72c5ccea0af", func := "pantoscope/pantoscopelaw06.BarrelHours", spec := "barrelHours", unfollowed := true, recurses := true, plainKeys := false, apart := false, narrowed := true }
def BarrelHoursUptoSaid : Prop := barrelHoursUptoRow.holds Try.pinned (OpenSpec.upto barrelHoursSpec)

/-- 'pantoscopelaw06.BarrelApart', WHERE WHAT IT READS IS OF BULK AT MOST 1048576: true; the input reads as it did. -/
def barrelApartUptoRow : OpenClaim := { program := "ytjncfpfgobojpaa", sum := "4799d28527daa1e2ac668da73944e97cc4082eb6b91e8e55193bf72c5ccea0af", func := "pantoscope/pantoscopelaw06.BarrelApart", spec := "barrelApart", unfollowed := true, recurses := true, plainKeys := false, apart := false, narrowed := true }
def BarrelApartUptoSaid : Prop := barrelApartUptoRow.holds Try.pinned (OpenSpec.upto barrelApartSpec)

/-- 'pantoscopelaw06.BarrelChecks', WHERE WHAT IT READS IS OF BULK AT MOST 1048576: true; the input reads as it did. -/
def barrelChecksUptoRow : OpenClaim := { program := "ytjncfpfgobojpaa", sum := "4799d28527daa1e2ac668da73944e97cc4082eb6b91e8e55193bf72c5ccea0af", func := "pantoscope/pantoscopelaw06.BarrelChecks", spec := "barrelChecks", unfollowed := true, recurses := true, plainKeys := false, apart := false, narrowed := true }
def BarrelChecksUptoSaid : Prop := barrelChecksUptoRow.holds Try.pinned (OpenSpec.upto barrelChecksSpec)

/-- 'pantoscopelaw06.BarrelAssigns', WHERE WHAT IT READS IS OF BULK AT MOST 1048576: true; the input reads as it did. -/
def barrelAssignsUptoRow : OpenClaim := { program := "ytjncfpfgobojpaa", sum := "4799d28527daa1e2ac668da73944e97cc4082eb6b91e8e55193bf72c5ccea0af", func := "pantoscope/pantoscopelaw06.BarrelAssigns", spec := "barrelAssigns", unfollowed := true, recurses := true, plainKeys := false, apart := false, narrowed := true }
def BarrelAssignsUptoSaid : Prop := barrelAssignsUptoRow.holds Try.pinned (OpenSpec.upto barrelAssignsSpec)

/-- 'pantoscopelaw06.BarrelJudges', WHERE WHAT IT READS IS OF BULK AT MOST 1048576: true; the input reads as it did. -/
def barrelJudgesUptoRow : OpenClaim := { program := "ytjncfpfgobojpaa", sum := "4799d28527daa1e2ac668da73944e97cc4082eb6b91e8e55193bf72c5ccea0af", func := "pantoscope/pantoscopelaw06.BarrelJudges", spec := "barrelJudges", unfollowed := true, recurses := true, plainKeys := false, apart := false, narrowed := true }
def BarrelJudgesUptoSaid : Prop := barrelJudgesUptoRow.holds Try.pinned (OpenSpec.upto barrelJudgesSpec)

/-- 'pantoscopelaw06.BarrelTimes', WHERE WHAT IT READS IS OF BULK AT MOST 1048576: true; the input reads as it did. -/
def barrelTimesUptoRow : OpenClaim := { program := "ytjncfpfgobojpaa", sum := "4799d28527daa1e2ac668da73944e97cc4082eb6b91e8e55193bf72c5ccea0af", func := "pantoscope/pantoscopelaw06.BarrelTimes", spec := "barrelTimes", unfollowed := true, recurses := true, plainKeys := false, apart := false, narrowed := true }
def BarrelTimesUptoSaid : Prop := barrelTimesUptoRow.holds Try.pinned (OpenSpec.upto barrelTimesSpec)

/-- 'pantoscopelaw06.BarrelProofs', WHERE WHAT IT READS IS OF BULK AT MOST 1048576: true; the input reads as it did. -/
def barrelProofsUptoRow : OpenClaim := { program := "ytjncfpfgobojpaa", sum := "4799d28527daa1e2ac668da73944e97cc4082eb6b91e8e55193bf72c5ccea0af", func := "pantoscope/pantoscopelaw06.BarrelProofs", spec := "barrelProofs", unfollowed := true, recurses := true, plainKeys := false, apart := false, narrowed := true }
def BarrelProofsUptoSaid : Prop := barrelProofsUptoRow.holds Try.pinned (OpenSpec.upto barrelProofsSpec)

/-- 'pantoscopetop.TopRows', WHERE WHAT IT READS IS OF BULK AT MOST 1048576: true; the input reads as it did. -/
def topRowsUptoRow : OpenClaim := { program := "ytjncfpfgobojpaa", sum := "4799d28527daa1e2ac668da73944e97cc4082eb6b91e8e55193bf72c5ccea0af", func := "pantoscope/pantoscopetop.TopRows", spec := "topRows", unfollowed := true, recurses := true, plainKeys := false, apart := false, narrowed := true }
def TopRowsUptoSaid : Prop := topRowsUptoRow.holds Try.pinned (OpenSpec.upto topRowsSpec)

end Rows
end Go.Proofs.Ytjncfpfgobojpaa
