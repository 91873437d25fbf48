/-
  No cell of these rows narrows 'for every input' (looked for: loops, veiled, ifaces, maps, wideKeys, modest, calm, conditions, laid).
  DERIVED. THE GIVEN ROWS OF THIS SEAT. 11 by the template 'for every input the law returns true; each argument reads behind the call as it read before'; 0 by the template 'total and deterministic' (their statements: YtbhkbaapfioijaaTotals.lean).
  GIVEN WITH THE SEED: the statements are not yours to turn. If you find one false, say at which input.
  Laid BY PROGRAM, IN A SANDBOX (cutbox-rows.mjs): the forced cells as the released guide's own fill.sh prints them over the translation e6c6e95592cc03fd… (all of the seat's roots in one cut). By AI agents, Wed Nov 11 2026. No macro, syntax, notation, axiom, sorry.
-/
import Derived.Test.YtbhkbaapfioijaaChecked
import GoSem.Claim
import GoSem.ClaimJoined
import GoSem.ClaimMapViews
import Derived.JoinedTies
import Derived.KernelRfl
namespace Go.Proofs.Ytbhkbaapfioijaa
/- THE CELL 'sum', in the pinned program and in every row, IS THE sha256 OF THE DUMP (.gsa) THAT YtbhkbaapfioijaaProg.lean LOADS. Nothing in Lean hashes anything: it is a label: what it is worth is what the hold of that sum in a sandbox is worth. -/
noncomputable def Try.pinned : Pinned := { name := "ytbhkbaapfioijaa", sum := "e6c6e95592cc03fdd1fe9ddb00a246c1140e5539c1edc087bbf9529b13c4046c", checked := Try.checked }
namespace Rows
def none {H : Type} : Left H := { results := [], args := [] }

/-- 'pantoscopetop.TopPairs': WHATEVER THE INPUT: true; the input reads as it did. -/
def topPairsSpec : ChangeSpec := { name := "topPairs", fn := fun _ => fun
  | [d1, d2] => { results := [.lit (.bool true)], args := [d1, d2] }
  | _ => none }
def topPairsRow : OpenClaim := { program := "ytbhkbaapfioijaa", sum := "e6c6e95592cc03fdd1fe9ddb00a246c1140e5539c1edc087bbf9529b13c4046c", func := "pantoscope/pantoscopetop.TopPairs", spec := "topPairs", unfollowed := true, recurses := true, apart := false }
def TopPairsSaid : Prop := topPairsRow.holds Try.pinned (OpenSpec.ofChange topPairsSpec)

/-- ITS FALSE NEIGHBOUR: 'it returns false'. Refute it at one input. -/
def topPairsWrong : ChangeSpec := { name := "topPairs", fn := fun _ => fun
  | [d1, d2] => { results := [.lit (.bool false)], args := [d1, d2] }
  | _ => none }
def TopPairsWrongFalsely : Prop := topPairsRow.holds Try.pinned (OpenSpec.ofChange topPairsWrong)

/-- 'pantoscopelaw04.TempleMore': WHATEVER THE INPUT: true; the input reads as it did. -/
def templeMoreSpec : ChangeSpec := { name := "templeMore", fn := fun _ => fun
  | [d1, d2, d3] => { results := [.lit (.bool true)], args := [d1, d2, d3] }
  | _ => none }
def templeMoreRow : OpenClaim := { program := "ytbhkbaapfioijaa", sum := "e6c6e95592cc03fdd1fe9ddb00a246c1140e5539c1edc087bbf9529b13c4046c", func := "pantoscope/pantoscopelaw04.TempleMore", spec := "templeMore", unfollowed := true, recurses := true, apart := false }
def TempleMoreSaid : Prop := templeMoreRow.holds Try.pinned (OpenSpec.ofChange templeMoreSpec)

/-- ITS FALSE NEIGHBOUR: 'it returns false'. Refute it at one input. -/
def templeMoreWrong : ChangeSpec := { name := "templeMore", fn := fun _ => fun
  | [d1, d2, d3] => { results := [.lit (.bool false)], args := [d1, d2, d3] }
  | _ => none }
def TempleMoreWrongFalsely : Prop := templeMoreRow.holds Try.pinned (OpenSpec.ofChange templeMoreWrong)

/-- 'pantoscopelaw04.TempleValid': WHATEVER THE INPUT: true; the input reads as it did. -/
def templeValidSpec : ChangeSpec := { name := "templeValid", fn := fun _ => fun
  | [d1, d2, d3] => { results := [.lit (.bool true)], args := [d1, d2, d3] }
  | _ => none }
def templeValidRow : OpenClaim := { program := "ytbhkbaapfioijaa", sum := "e6c6e95592cc03fdd1fe9ddb00a246c1140e5539c1edc087bbf9529b13c4046c", func := "pantoscope/pantoscopelaw04.TempleValid", spec := "templeValid", unfollowed := true, recurses := true, apart := false }
def TempleValidSaid : Prop := templeValidRow.holds Try.pinned (OpenSpec.ofChange templeValidSpec)

/-- ITS FALSE NEIGHBOUR: 'it returns false'. Refute it at one input. -/
def templeValidWrong : ChangeSpec := { name := "templeValid", fn := fun _ => fun
  | [d1, d2, d3] => { results := [.lit (.bool false)], args := [d1, d2, d3] }
  | _ => none }
def TempleValidWrongFalsely : Prop := templeValidRow.holds Try.pinned (OpenSpec.ofChange templeValidWrong)

/-- 'pantoscopelaw04.TempleMatches': WHATEVER THE INPUT: true; the input reads as it did. -/
def templeMatchesSpec : ChangeSpec := { name := "templeMatches", fn := fun _ => fun
  | [d1, d2] => { results := [.lit (.bool true)], args := [d1, d2] }
  | _ => none }
def templeMatchesRow : OpenClaim := { program := "ytbhkbaapfioijaa", sum := "e6c6e95592cc03fdd1fe9ddb00a246c1140e5539c1edc087bbf9529b13c4046c", func := "pantoscope/pantoscopelaw04.TempleMatches", spec := "templeMatches", unfollowed := true, recurses := true, apart := false }
def TempleMatchesSaid : Prop := templeMatchesRow.holds Try.pinned (OpenSpec.ofChange templeMatchesSpec)

/-- ITS FALSE NEIGHBOUR: 'it returns false'. Refute it at one input. -/
def templeMatchesWrong : ChangeSpec := { name := "templeMatches", fn := fun _ => fun
  | [d1, d2] => { results := [.lit (.bool false)], args := [d1, d2] }
  | _ => none }
def TempleMatchesWrongFalsely : Prop := templeMatchesRow.holds Try.pinned (OpenSpec.ofChange templeMatchesWrong)

/-- 'pantoscopelaw04.TempleWears': WHATEVER THE INPUT: true; the input reads as it did. -/
def templeWearsSpec : ChangeSpec := { name := "templeWears", fn := fun _ => fun
  | [d1, d2, d3] => { results := [.lit (.bool true)], args := [d1, d2, d3] }
  | _ => none }
def templeWearsRow : OpenClaim := { program := "ytbhkbaapfioijaa", sum := "e6c6e95592cc03fdd1fe9ddb00a246c1140e5539c1edc087bbf9529b13c4046c", func := "pantoscope/pantoscopelaw04.TempleWears", spec := "templeWears", unfollowed := true, recurses := true, apart := false }
def TempleWearsSaid : Prop := templeWearsRow.holds Try.pinned (OpenSpec.ofChange templeWearsSpec)

/-- ITS FALSE NEIGHBOUR: 'it returns false'. Refute it at one input. -/
def templeWearsWrong : ChangeSpec := { name := "templeWears", fn := fun _ => fun
  | [d1, d2, d3] => { results := [.lit (.bool false)], args := [d1, d2, d3] }
  | _ => none }
def TempleWearsWrongFalsely : Prop := templeWearsRow.holds Try.pinned (OpenSpec.ofChange templeWearsWrong)

/-- 'pantoscopelaw04.TempleTolerances': WHATEVER THE INPUT: true; the input reads as it did. -/
def templeTolerancesSpec : ChangeSpec := { name := "templeTolerances", fn := fun _ => fun
  | [d1, d2] => { results := [.lit (.bool true)], args := [d1, d2] }
  | _ => none }
def templeTolerancesRow : OpenClaim := { program := "ytbhkbaapfioijaa", sum := "e6c6e95592cc03fdd1fe9ddb00a246c1140e5539c1edc087bbf9529b13c4046c", func := "pantoscope/pantoscopelaw04.TempleTolerances", spec := "templeTolerances", unfollowed := true, recurses := true, apart := false }
def TempleTolerancesSaid : Prop := templeTolerancesRow.holds Try.pinned (OpenSpec.ofChange templeTolerancesSpec)

/-- ITS FALSE NEIGHBOUR: 'it returns false'. Refute it at one input. -/
def templeTolerancesWrong : ChangeSpec := { name := "templeTolerances", fn := fun _ => fun
  | [d1, d2] => { results := [.lit (.bool false)], args := [d1, d2] }
  | _ => none }
def TempleTolerancesWrongFalsely : Prop := templeTolerancesRow.holds Try.pinned (OpenSpec.ofChange templeTolerancesWrong)

/-- 'pantoscopelaw04.TempleChecks': WHATEVER THE INPUT: true; the input reads as it did. -/
def templeChecksSpec : ChangeSpec := { name := "templeChecks", fn := fun _ => fun
  | [d1, d2, d3] => { results := [.lit (.bool true)], args := [d1, d2, d3] }
  | _ => none }
def templeChecksRow : OpenClaim := { program := "ytbhkbaapfioijaa", sum := "e6c6e95592cc03fdd1fe9ddb00a246c1140e5539c1edc087bbf9529b13c4046c", func := "pantoscope/pantoscopelaw04.TempleChecks", spec := "templeChecks", unfollowed := true, recurses := true, apart := false }
def TempleChecksSaid : Prop := templeChecksRow.holds Try.pinned (OpenSpec.ofChange templeChecksSpec)

/-- ITS FALSE NEIGHBOUR: 'it returns false'. Refute it at one input. -/
def templeChecksWrong : ChangeSpec := { name := "templeChecks", fn := fun _ => fun
  | [d1, d2, d3] => { results := [.lit (.bool false)], args := [d1, d2, d3] }
  | _ => none }
def TempleChecksWrongFalsely : Prop := templeChecksRow.holds Try.pinned (OpenSpec.ofChange templeChecksWrong)

/-- 'pantoscopelaw04.TempleLives': WHATEVER THE INPUT: true; the input reads as it did. -/
def templeLivesSpec : ChangeSpec := { name := "templeLives", fn := fun _ => fun
  | [d] => { results := [.lit (.bool true)], args := [d] }
  | _ => none }
def templeLivesRow : OpenClaim := { program := "ytbhkbaapfioijaa", sum := "e6c6e95592cc03fdd1fe9ddb00a246c1140e5539c1edc087bbf9529b13c4046c", func := "pantoscope/pantoscopelaw04.TempleLives", spec := "templeLives", unfollowed := true, recurses := true, apart := false }
def TempleLivesSaid : Prop := templeLivesRow.holds Try.pinned (OpenSpec.ofChange templeLivesSpec)

/-- ITS FALSE NEIGHBOUR: 'it returns false'. Refute it at one input. -/
def templeLivesWrong : ChangeSpec := { name := "templeLives", fn := fun _ => fun
  | [d] => { results := [.lit (.bool false)], args := [d] }
  | _ => none }
def TempleLivesWrongFalsely : Prop := templeLivesRow.holds Try.pinned (OpenSpec.ofChange templeLivesWrong)

/-- 'pantoscopelaw04.TempleGuards': WHATEVER THE INPUT: true; the input reads as it did. -/
def templeGuardsSpec : ChangeSpec := { name := "templeGuards", fn := fun _ => fun
  | [d1, d2, d3] => { results := [.lit (.bool true)], args := [d1, d2, d3] }
  | _ => none }
def templeGuardsRow : OpenClaim := { program := "ytbhkbaapfioijaa", sum := "e6c6e95592cc03fdd1fe9ddb00a246c1140e5539c1edc087bbf9529b13c4046c", func := "pantoscope/pantoscopelaw04.TempleGuards", spec := "templeGuards", unfollowed := true, recurses := true, apart := false }
def TempleGuardsSaid : Prop := templeGuardsRow.holds Try.pinned (OpenSpec.ofChange templeGuardsSpec)

/-- ITS FALSE NEIGHBOUR: 'it returns false'. Refute it at one input. -/
def templeGuardsWrong : ChangeSpec := { name := "templeGuards", fn := fun _ => fun
  | [d1, d2, d3] => { results := [.lit (.bool false)], args := [d1, d2, d3] }
  | _ => none }
def TempleGuardsWrongFalsely : Prop := templeGuardsRow.holds Try.pinned (OpenSpec.ofChange templeGuardsWrong)

/-- 'pantoscopelaw04.TempleHinges': WHATEVER THE INPUT: true; the input reads as it did. -/
def templeHingesSpec : ChangeSpec := { name := "templeHinges", fn := fun _ => fun
  | [d] => { results := [.lit (.bool true)], args := [d] }
  | _ => none }
def templeHingesRow : OpenClaim := { program := "ytbhkbaapfioijaa", sum := "e6c6e95592cc03fdd1fe9ddb00a246c1140e5539c1edc087bbf9529b13c4046c", func := "pantoscope/pantoscopelaw04.TempleHinges", spec := "templeHinges", unfollowed := true, recurses := true, apart := false }
def TempleHingesSaid : Prop := templeHingesRow.holds Try.pinned (OpenSpec.ofChange templeHingesSpec)

/-- ITS FALSE NEIGHBOUR: 'it returns false'. Refute it at one input. -/
def templeHingesWrong : ChangeSpec := { name := "templeHinges", fn := fun _ => fun
  | [d] => { results := [.lit (.bool false)], args := [d] }
  | _ => none }
def TempleHingesWrongFalsely : Prop := templeHingesRow.holds Try.pinned (OpenSpec.ofChange templeHingesWrong)

/-- 'pantoscopelaw04.TempleProofs': WHATEVER THE INPUT: true; the input reads as it did. -/
def templeProofsSpec : ChangeSpec := { name := "templeProofs", fn := fun _ => fun
  | [d1, d2, d3] => { results := [.lit (.bool true)], args := [d1, d2, d3] }
  | _ => none }
def templeProofsRow : OpenClaim := { program := "ytbhkbaapfioijaa", sum := "e6c6e95592cc03fdd1fe9ddb00a246c1140e5539c1edc087bbf9529b13c4046c", func := "pantoscope/pantoscopelaw04.TempleProofs", spec := "templeProofs", unfollowed := true, recurses := true, apart := false }
def TempleProofsSaid : Prop := templeProofsRow.holds Try.pinned (OpenSpec.ofChange templeProofsSpec)

/-- ITS FALSE NEIGHBOUR: 'it returns false'. Refute it at one input. -/
def templeProofsWrong : ChangeSpec := { name := "templeProofs", fn := fun _ => fun
  | [d1, d2, d3] => { results := [.lit (.bool false)], args := [d1, d2, d3] }
  | _ => none }
def TempleProofsWrongFalsely : Prop := templeProofsRow.holds Try.pinned (OpenSpec.ofChange templeProofsWrong)

/- THE SECOND FORM. 'bulk': how many values and letters a reading holds, each counted each time it is reached (what is shared counts as often as it is met; a slice's spare places count too). A statement '..UptoSaid' is the law's where the arguments, and the package variables that the reading takes, are together of bulk at most 1048576: NARROWER than '..Said'. Prove '..Said' where nothing that the law and all that it calls make is longer than what came in: it says more and counts as full. Else prove '..UptoSaid'. A law counts once. -/
mutual
def uptoBulk {H : Type} : DataW H → Nat
  | .lit (.string bytes) => bytes.length + 1
  | .lit _ => 1
  | .nil => 1
  | .ptr d => uptoBulk d + 1
  | .slice elems spare => uptoBulkAll elems + uptoBulkAll spare + 1
  | .agg parts => uptoBulkAll parts + 1
  | .iface _ d => uptoBulk d + 1
  | .map entries => uptoBulkEntries entries + 1
  | .held _ => 1
def uptoBulkAll {H : Type} : List (DataW H) → Nat
  | [] => 0
  | d :: r => uptoBulk d + uptoBulkAll r
def uptoBulkEntries {H : Type} : List (Lit × DataW H) → Nat
  | [] => 0
  | x :: r => uptoBulkEntry x + uptoBulkEntries r
def uptoBulkEntry {H : Type} : Lit × DataW H → Nat
  | (.string bytes, d) => bytes.length + uptoBulk d + 1
  | (_, d) => uptoBulk d + 1
 end
def uptoSmall : (H : Type) → List (DataW H) → Bool := fun _ ds => decide (uptoBulkAll ds ≤ 1048576)
def OpenSpec.upto (s : _root_.Go.ChangeSpec) : _root_.Go.OpenSpec := { _root_.Go.OpenSpec.ofChange s with cond := some uptoSmall }

/-- 'pantoscopetop.TopPairs', WHERE WHAT IT READS IS OF BULK AT MOST 1048576: true; the input reads as it did. -/
def topPairsUptoRow : OpenClaim := { program := "ytbhkbaapfioijaa", sum := "e6c6e95592cc03fdd1fe9ddb00a246c1140e5539c1edc087bbf9529b13c4046c", func := "pantoscope/pantoscopetop.TopPairs", spec := "topPairs", unfollowed := true, recurses := true, apart := false, narrowed := true }
def TopPairsUptoSaid : Prop := topPairsUptoRow.holds Try.pinned (OpenSpec.upto topPairsSpec)

/-- 'pantoscopelaw04.TempleMore', WHERE WHAT IT READS IS OF BULK AT MOST 1048576: true; the input reads as it did. -/
def templeMoreUptoRow : OpenClaim := { program := "ytbhkbaapfioijaa", sum := "e6c6e95592cc03fdd1fe9ddb00a246c1140e5539c1edc087bbf9529b13c4046c", func := "pantoscope/pantoscopelaw04.TempleMore", spec := "templeMore", unfollowed := true, recurses := true, apart := false, narrowed := true }
def TempleMoreUptoSaid : Prop := templeMoreUptoRow.holds Try.pinned (OpenSpec.upto templeMoreSpec)

/-- 'pantoscopelaw04.TempleValid', WHERE WHAT IT READS IS OF BULK AT MOST 1048576: true; the input reads as it did. -/
def templeValidUptoRow : OpenClaim := { program := "ytbhkbaapfioijaa", sum := "e6c6e95592cc03fdd1fe9ddb00a246c1140e5539c1edc087bbf9529b13c4046c", func := "pantoscope/pantoscopelaw04.TempleValid", spec := "templeValid", unfollowed := true, recurses := true, apart := false, narrowed := true }
def TempleValidUptoSaid : Prop := templeValidUptoRow.holds Try.pinned (OpenSpec.upto templeValidSpec)

/-- 'pantoscopelaw04.TempleMatches', WHERE WHAT IT READS IS OF BULK AT MOST 1048576: true; the input reads as it did. -/
def templeMatchesUptoRow : OpenClaim := { program := "ytbhkbaapfioijaa", sum := "e6c6e95592cc03fdd1fe9ddb00a246c1140e5539c1edc087bbf9529b13c4046c", func := "pantoscope/pantoscopelaw04.TempleMatches", spec := "templeMatches", unfollowed := true, recurses := true, apart := false, narrowed := true }
def TempleMatchesUptoSaid : Prop := templeMatchesUptoRow.holds Try.pinned (OpenSpec.upto templeMatchesSpec)

/-- 'pantoscopelaw04.TempleWears', WHERE WHAT IT READS IS OF BULK AT MOST 1048576: true; the input reads as it did. -/
def templeWearsUptoRow : OpenClaim := { program := "ytbhkbaapfioijaa", sum := "e6c6e95592cc03fdd1fe9ddb00a246c1140e5539c1edc087bbf9529b13c4046c", func := "pantoscope/pantoscopelaw04.TempleWears", spec := "templeWears", unfollowed := true, recurses := true, apart := false, narrowed := true }
def TempleWearsUptoSaid : Prop := templeWearsUptoRow.holds Try.pinned (OpenSpec.upto templeWearsSpec)

/-- 'pantoscopelaw04.TempleTolerances', WHERE WHAT IT READS IS OF BULK AT MOST 1048576: true; the input reads as it did. -/
def templeTolerancesUptoRow : OpenClaim := { program := "ytbhkbaapfioijaa", sum := "e6c6e95592cc03fdd1fe9ddb00a246c1140e5539c1edc087bbf9529b13c4046c", func := "pantoscope/pantoscopelaw04.TempleTolerances", spec := "templeTolerances", unfollowed := true, recurses := true, apart := false, narrowed := true }
def TempleTolerancesUptoSaid : Prop := templeTolerancesUptoRow.holds Try.pinned (OpenSpec.upto templeTolerancesSpec)

/-- 'pantoscopelaw04.TempleChecks', WHERE WHAT IT READS IS OF BULK AT MOST 1048576: true; the input reads as it did. -/
def templeChecksUptoRow : OpenClaim := { program := "ytbhkbaapfioijaa", sum := "e6c6e95592cc03fdd1fe9ddb00a246c1140e5539c1edc087bbf9529b13c4046c", func := "pantoscope/pantoscopelaw04.TempleChecks", spec := "templeChecks", unfollowed := true, recurses := true, apart := false, narrowed := true }
def TempleChecksUptoSaid : Prop := templeChecksUptoRow.holds Try.pinned (OpenSpec.upto templeChecksSpec)

/-- 'pantoscopelaw04.TempleLives', WHERE WHAT IT READS IS OF BULK AT MOST 1048576: true; the input reads as it did. -/
def templeLivesUptoRow : OpenClaim := { program := "ytbhkbaapfioijaa", sum := "e6c6e95592cc03fdd1fe9ddb00a246c1140e5539c1edc087bbf9529b13c4046c", func := "pantoscope/pantoscopelaw04.TempleLives", spec := "templeLives", unfollowed := true, recurses := true, apart := false, narrowed := true }
def TempleLivesUptoSaid : Prop := templeLivesUptoRow.holds Try.pinned (OpenSpec.upto templeLivesSpec)

/-- 'pantoscopelaw04.TempleGuards', WHERE WHAT IT READS IS OF BULK AT MOST 1048576: true; the input reads as it did. -/
def templeGuardsUptoRow : OpenClaim := { program := "ytbhkbaapfioijaa", sum := "e6c6e95592cc03fdd1fe9ddb00a246c1140e5539c1edc087bbf9529b13c4046c", func := "pantoscope/pantoscopelaw04.TempleGuards", spec := "templeGuards", unfollowed := true, recurses := true, apart := false, narrowed := true }
def TempleGuardsUptoSaid : Prop := templeGuardsUptoRow.holds Try.pinned (OpenSpec.upto templeGuardsSpec)

/-- 'pantoscopelaw04.TempleHinges', WHERE WHAT IT READS IS OF BULK AT MOST 1048576: true; the input reads as it did. -/
def templeHingesUptoRow : OpenClaim := { program := "ytbhkbaapfioijaa", sum := "e6c6e95592cc03fdd1fe9ddb00a246c1140e5539c1edc087bbf9529b13c4046c", func := "pantoscope/pantoscopelaw04.TempleHinges", spec := "templeHinges", unfollowed := true, recurses := true, apart := false, narrowed := true }
def TempleHingesUptoSaid : Prop := templeHingesUptoRow.holds Try.pinned (OpenSpec.upto templeHingesSpec)

/-- 'pantoscopelaw04.TempleProofs', WHERE WHAT IT READS IS OF BULK AT MOST 1048576: true; the input reads as it did. -/
def templeProofsUptoRow : OpenClaim := { program := "ytbhkbaapfioijaa", sum := "e6c6e95592cc03fdd1fe9ddb00a246c1140e5539c1edc087bbf9529b13c4046c", func := "pantoscope/pantoscopelaw04.TempleProofs", spec := "templeProofs", unfollowed := true, recurses := true, apart := false, narrowed := true }
def TempleProofsUptoSaid : Prop := templeProofsUptoRow.holds Try.pinned (OpenSpec.upto templeProofsSpec)

end Rows
end Go.Proofs.Ytbhkbaapfioijaa
