/-
  No cell of these rows narrows 'for every input' (looked for: loops, veiled, ifaces, maps, wideKeys, modest, calm, conditions, laid).
  DERIVED. THE GIVEN ROWS OF THIS SEAT. 11 by the template 'for every input the law returns true; each argument reads behind the call as it read before'; 0 by the template 'total and deterministic' (their statements: YtfbhncddniofbaaTotals.lean).
  GIVEN WITH THE SEED: the statements are not yours to turn. If you find one false, say at which input.
  Laid BY PROGRAM, IN A SANDBOX (cutbox-rows.mjs): the forced cells as the released guide's own fill.sh prints them over the translation d406452dbb4ee8d7… (all of the seat's roots in one cut). By AI agents, Wed Nov 11 2026. No macro, syntax, notation, axiom, sorry.
-/
import Derived.Test.YtfbhncddniofbaaChecked
import GoSem.Claim
import GoSem.ClaimJoined
import GoSem.ClaimMapViews
import Derived.JoinedTies
import Derived.KernelRfl
namespace Go.Proofs.Ytfbhncddniofbaa
/- THE CELL 'sum', in the pinned program and in every row, IS THE sha256 OF THE DUMP (.gsa) THAT YtfbhncddniofbaaProg.lean LOADS. Nothing in Lean hashes anything: it is a label: what it is worth is what the hold of that sum in a sandbox is worth. -/
noncomputable def Try.pinned : Pinned := { name := "ytfbhncddniofbaa", sum := "d406452dbb4ee8d768bf9f8d5882ee64d71a725682216d57de9d843bb1c5ad67", checked := Try.checked }
namespace Rows
def none {H : Type} : Left H := { results := [], args := [] }

/-- 'pantoscopetop.TopBooks': WHATEVER THE INPUT: true; the input reads as it did. -/
def topBooksSpec : ChangeSpec := { name := "topBooks", fn := fun _ => fun
  | [d1, d2, d3] => { results := [.lit (.bool true)], args := [d1, d2, d3] }
  | _ => none }
def topBooksRow : OpenClaim := { program := "ytfbhncddniofbaa", sum := "d406452dbb4ee8d768bf9f8d5882ee64d71a725682216d57de9d843bb1c5ad67", func := "pantoscope/pantoscopetop.TopBooks", spec := "topBooks", inPlace := ["maps.clone"], unfollowed := true, recurses := true, plainKeys := false, apart := false }
def TopBooksSaid : Prop := topBooksRow.holds Try.pinned (OpenSpec.ofChange topBooksSpec)

/-- ITS FALSE NEIGHBOUR: 'it returns false'. Refute it at one input. -/
def topBooksWrong : ChangeSpec := { name := "topBooks", fn := fun _ => fun
  | [d1, d2, d3] => { results := [.lit (.bool false)], args := [d1, d2, d3] }
  | _ => none }
def TopBooksWrongFalsely : Prop := topBooksRow.holds Try.pinned (OpenSpec.ofChange topBooksWrong)

/-- 'pantoscopetop.TopJournal': WHATEVER THE INPUT: true; the input reads as it did. -/
def topJournalSpec : ChangeSpec := { name := "topJournal", fn := fun _ => fun
  | [d] => { results := [.lit (.bool true)], args := [d] }
  | _ => none }
def topJournalRow : OpenClaim := { program := "ytfbhncddniofbaa", sum := "d406452dbb4ee8d768bf9f8d5882ee64d71a725682216d57de9d843bb1c5ad67", func := "pantoscope/pantoscopetop.TopJournal", spec := "topJournal", unfollowed := true, recurses := true, plainKeys := false, apart := false }
def TopJournalSaid : Prop := topJournalRow.holds Try.pinned (OpenSpec.ofChange topJournalSpec)

/-- ITS FALSE NEIGHBOUR: 'it returns false'. Refute it at one input. -/
def topJournalWrong : ChangeSpec := { name := "topJournal", fn := fun _ => fun
  | [d] => { results := [.lit (.bool false)], args := [d] }
  | _ => none }
def TopJournalWrongFalsely : Prop := topJournalRow.holds Try.pinned (OpenSpec.ofChange topJournalWrong)

/-- 'pantoscopelaw09.LedgerBooks': WHATEVER THE INPUT: true; the input reads as it did. -/
def ledgerBooksSpec : ChangeSpec := { name := "ledgerBooks", fn := fun _ => fun
  | [d1, d2] => { results := [.lit (.bool true)], args := [d1, d2] }
  | _ => none }
def ledgerBooksRow : OpenClaim := { program := "ytfbhncddniofbaa", sum := "d406452dbb4ee8d768bf9f8d5882ee64d71a725682216d57de9d843bb1c5ad67", func := "pantoscope/pantoscopelaw09.LedgerBooks", spec := "ledgerBooks", unfollowed := true, recurses := true, plainKeys := false, apart := false }
def LedgerBooksSaid : Prop := ledgerBooksRow.holds Try.pinned (OpenSpec.ofChange ledgerBooksSpec)

/-- ITS FALSE NEIGHBOUR: 'it returns false'. Refute it at one input. -/
def ledgerBooksWrong : ChangeSpec := { name := "ledgerBooks", fn := fun _ => fun
  | [d1, d2] => { results := [.lit (.bool false)], args := [d1, d2] }
  | _ => none }
def LedgerBooksWrongFalsely : Prop := ledgerBooksRow.holds Try.pinned (OpenSpec.ofChange ledgerBooksWrong)

/-- 'pantoscopelaw09.LedgerDues': WHATEVER THE INPUT: true; the input reads as it did. -/
def ledgerDuesSpec : ChangeSpec := { name := "ledgerDues", fn := fun _ => fun
  | [d1, d2, d3, d4] => { results := [.lit (.bool true)], args := [d1, d2, d3, d4] }
  | _ => none }
def ledgerDuesRow : OpenClaim := { program := "ytfbhncddniofbaa", sum := "d406452dbb4ee8d768bf9f8d5882ee64d71a725682216d57de9d843bb1c5ad67", func := "pantoscope/pantoscopelaw09.LedgerDues", spec := "ledgerDues", unfollowed := true, recurses := true, plainKeys := false, apart := false }
def LedgerDuesSaid : Prop := ledgerDuesRow.holds Try.pinned (OpenSpec.ofChange ledgerDuesSpec)

/-- ITS FALSE NEIGHBOUR: 'it returns false'. Refute it at one input. -/
def ledgerDuesWrong : ChangeSpec := { name := "ledgerDues", fn := fun _ => fun
  | [d1, d2, d3, d4] => { results := [.lit (.bool false)], args := [d1, d2, d3, d4] }
  | _ => none }
def LedgerDuesWrongFalsely : Prop := ledgerDuesRow.holds Try.pinned (OpenSpec.ofChange ledgerDuesWrong)

/-- 'pantoscopelaw09.LedgerCodes': WHATEVER THE INPUT: true; the input reads as it did. -/
def ledgerCodesSpec : ChangeSpec := { name := "ledgerCodes", fn := fun _ => fun
  | [d1, d2] => { results := [.lit (.bool true)], args := [d1, d2] }
  | _ => none }
def ledgerCodesRow : OpenClaim := { program := "ytfbhncddniofbaa", sum := "d406452dbb4ee8d768bf9f8d5882ee64d71a725682216d57de9d843bb1c5ad67", func := "pantoscope/pantoscopelaw09.LedgerCodes", spec := "ledgerCodes", unfollowed := true, recurses := true, plainKeys := false, apart := false }
def LedgerCodesSaid : Prop := ledgerCodesRow.holds Try.pinned (OpenSpec.ofChange ledgerCodesSpec)

/-- ITS FALSE NEIGHBOUR: 'it returns false'. Refute it at one input. -/
def ledgerCodesWrong : ChangeSpec := { name := "ledgerCodes", fn := fun _ => fun
  | [d1, d2] => { results := [.lit (.bool false)], args := [d1, d2] }
  | _ => none }
def LedgerCodesWrongFalsely : Prop := ledgerCodesRow.holds Try.pinned (OpenSpec.ofChange ledgerCodesWrong)

/-- 'pantoscopelaw09.LedgerBalances': WHATEVER THE INPUT: true; the input reads as it did. -/
def ledgerBalancesSpec : ChangeSpec := { name := "ledgerBalances", fn := fun _ => fun
  | [d1, d2] => { results := [.lit (.bool true)], args := [d1, d2] }
  | _ => none }
def ledgerBalancesRow : OpenClaim := { program := "ytfbhncddniofbaa", sum := "d406452dbb4ee8d768bf9f8d5882ee64d71a725682216d57de9d843bb1c5ad67", func := "pantoscope/pantoscopelaw09.LedgerBalances", spec := "ledgerBalances", unfollowed := true, recurses := true, plainKeys := false, apart := false }
def LedgerBalancesSaid : Prop := ledgerBalancesRow.holds Try.pinned (OpenSpec.ofChange ledgerBalancesSpec)

/-- ITS FALSE NEIGHBOUR: 'it returns false'. Refute it at one input. -/
def ledgerBalancesWrong : ChangeSpec := { name := "ledgerBalances", fn := fun _ => fun
  | [d1, d2] => { results := [.lit (.bool false)], args := [d1, d2] }
  | _ => none }
def LedgerBalancesWrongFalsely : Prop := ledgerBalancesRow.holds Try.pinned (OpenSpec.ofChange ledgerBalancesWrong)

/-- 'pantoscopelaw09.LedgerCompares': WHATEVER THE INPUT: true; the input reads as it did. -/
def ledgerComparesSpec : ChangeSpec := { name := "ledgerCompares", fn := fun _ => fun
  | [d1, d2] => { results := [.lit (.bool true)], args := [d1, d2] }
  | _ => none }
def ledgerComparesRow : OpenClaim := { program := "ytfbhncddniofbaa", sum := "d406452dbb4ee8d768bf9f8d5882ee64d71a725682216d57de9d843bb1c5ad67", func := "pantoscope/pantoscopelaw09.LedgerCompares", spec := "ledgerCompares", inPlace := ["maps.clone"], unfollowed := true, recurses := true, plainKeys := false, apart := false }
def LedgerComparesSaid : Prop := ledgerComparesRow.holds Try.pinned (OpenSpec.ofChange ledgerComparesSpec)

/-- ITS FALSE NEIGHBOUR: 'it returns false'. Refute it at one input. -/
def ledgerComparesWrong : ChangeSpec := { name := "ledgerCompares", fn := fun _ => fun
  | [d1, d2] => { results := [.lit (.bool false)], args := [d1, d2] }
  | _ => none }
def LedgerComparesWrongFalsely : Prop := ledgerComparesRow.holds Try.pinned (OpenSpec.ofChange ledgerComparesWrong)

/-- 'pantoscopelaw09.LedgerSides': WHATEVER THE INPUT: true; the input reads as it did. -/
def ledgerSidesSpec : ChangeSpec := { name := "ledgerSides", fn := fun _ => fun
  | [d1, d2] => { results := [.lit (.bool true)], args := [d1, d2] }
  | _ => none }
def ledgerSidesRow : OpenClaim := { program := "ytfbhncddniofbaa", sum := "d406452dbb4ee8d768bf9f8d5882ee64d71a725682216d57de9d843bb1c5ad67", func := "pantoscope/pantoscopelaw09.LedgerSides", spec := "ledgerSides", inPlace := ["maps.clone"], unfollowed := true, recurses := true, plainKeys := false, apart := false }
def LedgerSidesSaid : Prop := ledgerSidesRow.holds Try.pinned (OpenSpec.ofChange ledgerSidesSpec)

/-- ITS FALSE NEIGHBOUR: 'it returns false'. Refute it at one input. -/
def ledgerSidesWrong : ChangeSpec := { name := "ledgerSides", fn := fun _ => fun
  | [d1, d2] => { results := [.lit (.bool false)], args := [d1, d2] }
  | _ => none }
def LedgerSidesWrongFalsely : Prop := ledgerSidesRow.holds Try.pinned (OpenSpec.ofChange ledgerSidesWrong)

/-- 'pantoscopelaw09.LedgerJoins': WHATEVER THE INPUT: true; the input reads as it did. -/
def ledgerJoinsSpec : ChangeSpec := { name := "ledgerJoins", fn := fun _ => fun
  | [d1, d2] => { results := [.lit (.bool true)], args := [d1, d2] }
  | _ => none }
def ledgerJoinsRow : OpenClaim := { program := "ytfbhncddniofbaa", sum := "d406452dbb4ee8d768bf9f8d5882ee64d71a725682216d57de9d843bb1c5ad67", func := "pantoscope/pantoscopelaw09.LedgerJoins", spec := "ledgerJoins", inPlace := ["maps.clone"], unfollowed := true, recurses := true, plainKeys := false, apart := false }
def LedgerJoinsSaid : Prop := ledgerJoinsRow.holds Try.pinned (OpenSpec.ofChange ledgerJoinsSpec)

/-- ITS FALSE NEIGHBOUR: 'it returns false'. Refute it at one input. -/
def ledgerJoinsWrong : ChangeSpec := { name := "ledgerJoins", fn := fun _ => fun
  | [d1, d2] => { results := [.lit (.bool false)], args := [d1, d2] }
  | _ => none }
def LedgerJoinsWrongFalsely : Prop := ledgerJoinsRow.holds Try.pinned (OpenSpec.ofChange ledgerJoinsWrong)

/-- 'pantoscopelaw09.LedgerParts': WHATEVER THE INPUT: true; the input reads as it did. -/
def ledgerPartsSpec : ChangeSpec := { name := "ledgerParts", fn := fun _ => fun
  | [d1, d2, d3] => { results := [.lit (.bool true)], args := [d1, d2, d3] }
  | _ => none }
def ledgerPartsRow : OpenClaim := { program := "ytfbhncddniofbaa", sum := "d406452dbb4ee8d768bf9f8d5882ee64d71a725682216d57de9d843bb1c5ad67", func := "pantoscope/pantoscopelaw09.LedgerParts", spec := "ledgerParts", inPlace := ["maps.clone"], unfollowed := true, recurses := true, plainKeys := false, apart := false }
def LedgerPartsSaid : Prop := ledgerPartsRow.holds Try.pinned (OpenSpec.ofChange ledgerPartsSpec)

/-- ITS FALSE NEIGHBOUR: 'it returns false'. Refute it at one input. -/
def ledgerPartsWrong : ChangeSpec := { name := "ledgerParts", fn := fun _ => fun
  | [d1, d2, d3] => { results := [.lit (.bool false)], args := [d1, d2, d3] }
  | _ => none }
def LedgerPartsWrongFalsely : Prop := ledgerPartsRow.holds Try.pinned (OpenSpec.ofChange ledgerPartsWrong)

/-- 'pantoscopelaw09.LedgerChanges': WHATEVER THE INPUT: true; the input reads as it did. -/
def ledgerChangesSpec : ChangeSpec := { name := "ledgerChanges", fn := fun _ => fun
  | [d1, d2, d3, d4] => { results := [.lit (.bool true)], args := [d1, d2, d3, d4] }
  | _ => none }
def ledgerChangesRow : OpenClaim := { program := "ytfbhncddniofbaa", sum := "d406452dbb4ee8d768bf9f8d5882ee64d71a725682216d57de9d843bb1c5ad67", func := "pantoscope/pantoscopelaw09.LedgerChanges", spec := "ledgerChanges", unfollowed := true, recurses := true, plainKeys := false, apart := false }
def LedgerChangesSaid : Prop := ledgerChangesRow.holds Try.pinned (OpenSpec.ofChange ledgerChangesSpec)

/-- ITS FALSE NEIGHBOUR: 'it returns false'. Refute it at one input. -/
def ledgerChangesWrong : ChangeSpec := { name := "ledgerChanges", fn := fun _ => fun
  | [d1, d2, d3, d4] => { results := [.lit (.bool false)], args := [d1, d2, d3, d4] }
  | _ => none }
def LedgerChangesWrongFalsely : Prop := ledgerChangesRow.holds Try.pinned (OpenSpec.ofChange ledgerChangesWrong)

/- THE SECOND FORM. 'bulk': how many values and letters a reading holds, each counted each time it is reached (what is shared counts as often as it is met; a slice's spare places count too). A statement '..UptoSaid' is the law's where the arguments, and the package variables that the reading takes, are together of bulk at most 1048576: NARROWER than '..Said'. Prove '..Said' where nothing that the law and all that it calls make is longer than what came in: it says more and counts as full. Else prove '..UptoSaid'. A law counts once. -/
mutual
def uptoBulk {H : Type} : DataW H → Nat
  | .lit (.string bytes) => bytes.length + 1
  | .lit _ => 1
  | .nil => 1
  | .ptr d => uptoBulk d + 1
  | .slice elems spare => uptoBulkAll elems + uptoBulkAll spare + 1
  | .agg parts => uptoBulkAll parts + 1
  | .iface _ d => uptoBulk d + 1
  | .map entries => uptoBulkEntries entries + 1
  | .held _ => 1
def uptoBulkAll {H : Type} : List (DataW H) → Nat
  | [] => 0
  | d :: r => uptoBulk d + uptoBulkAll r
def uptoBulkEntries {H : Type} : List (Lit × DataW H) → Nat
  | [] => 0
  | x :: r => uptoBulkEntry x + uptoBulkEntries r
def uptoBulkEntry {H : Type} : Lit × DataW H → Nat
  | (.string bytes, d) => bytes.length + uptoBulk d + 1
  | (_, d) => uptoBulk d + 1
 end
def uptoSmall : (H : Type) → List (DataW H) → Bool := fun _ ds => decide (uptoBulkAll ds ≤ 1048576)
def OpenSpec.upto (s : _root_.Go.ChangeSpec) : _root_.Go.OpenSpec := { _root_.Go.OpenSpec.ofChange s with cond := some uptoSmall }

/-- 'pantoscopetop.TopBooks', WHERE WHAT IT READS IS OF BULK AT MOST 1048576: true; the input reads as it did. -/
def topBooksUptoRow : OpenClaim := { program := "ytfbhncddniofbaa", sum := "d406452dbb4ee8d768bf9f8d5882ee64d71a725682216d57de9d843bb1c5ad67", func := "pantoscope/pantoscopetop.TopBooks", spec := "topBooks", inPlace := ["maps.clone"], unfollowed := true, recurses := true, plainKeys := false, apart := false, narrowed := true }
def TopBooksUptoSaid : Prop := topBooksUptoRow.holds Try.pinned (OpenSpec.upto topBooksSpec)

/-- 'pantoscopetop.TopJournal', WHERE WHAT IT READS IS OF BULK AT MOST 1048576: true; the input reads as it did. -/
def topJournalUptoRow : OpenClaim := { program := "ytfbhncddniofbaa", sum := "d406452dbb4ee8d768bf9f8d5882ee64d71a725682216d57de9d843bb1c5ad67", func := "pantoscope/pantoscopetop.TopJournal", spec := "topJournal", unfollowed := true, recurses := true, plainKeys := false, apart := false, narrowed := true }
def TopJournalUptoSaid : Prop := topJournalUptoRow.holds Try.pinned (OpenSpec.upto topJournalSpec)

/-- 'pantoscopelaw09.LedgerBooks', WHERE WHAT IT READS IS OF BULK AT MOST 1048576: true; the input reads as it did. -/
def ledgerBooksUptoRow : OpenClaim := { program := "ytfbhncddniofbaa", sum := "d406452dbb4ee8d768bf9f8d5882ee64d71a725682216d57de9d843bb1c5ad67", func := "pantoscope/pantoscopelaw09.LedgerBooks", spec := "ledgerBooks", unfollowed := true, recurses := true, plainKeys := false, apart := false, narrowed := true }
def LedgerBooksUptoSaid : Prop := ledgerBooksUptoRow.holds Try.pinned (OpenSpec.upto ledgerBooksSpec)

/-- 'pantoscopelaw09.LedgerDues', WHERE WHAT IT READS IS OF BULK AT MOST 1048576: true; the input reads as it did. -/
def ledgerDuesUptoRow : OpenClaim := { program := "ytfbhncddniofbaa", sum := "d406452dbb4ee8d768bf9f8d5882ee64d71a725682216d57de9d843bb1c5ad67", func := "pantoscope/pantoscopelaw09.LedgerDues", spec := "ledgerDues", unfollowed := true, recurses := true, plainKeys := false, apart := false, narrowed := true }
def LedgerDuesUptoSaid : Prop := ledgerDuesUptoRow.holds Try.pinned (OpenSpec.upto ledgerDuesSpec)

/-- 'pantoscopelaw09.LedgerCodes', WHERE WHAT IT READS IS OF BULK AT MOST 1048576: true; the input reads as it did. -/
def ledgerCodesUptoRow : OpenClaim := { program := "ytfbhncddniofbaa", sum := "d406452dbb4ee8d768bf9f8d5882ee64d71a725682216d57de9d843bb1c5ad67", func := "pantoscope/pantoscopelaw09.LedgerCodes", spec := "ledgerCodes", unfollowed := true, recurses := true, plainKeys := false, apart := false, narrowed := true }
def LedgerCodesUptoSaid : Prop := ledgerCodesUptoRow.holds Try.pinned (OpenSpec.upto ledgerCodesSpec)

/-- 'pantoscopelaw09.LedgerBalances', WHERE WHAT IT READS IS OF BULK AT MOST 1048576: true; the input reads as it did. -/
def ledgerBalancesUptoRow : OpenClaim := { program := "ytfbhncddniofbaa", sum := "d406452dbb4ee8d768bf9f8d5882ee64d71a725682216d57de9d843bb1c5ad67", func := "pantoscope/pantoscopelaw09.LedgerBalances", spec := "ledgerBalances", unfollowed := true, recurses := true, plainKeys := false, apart := false, narrowed := true }
def LedgerBalancesUptoSaid : Prop := ledgerBalancesUptoRow.holds Try.pinned (OpenSpec.upto ledgerBalancesSpec)

/-- 'pantoscopelaw09.LedgerCompares', WHERE WHAT IT READS IS OF BULK AT MOST 1048576: true; the input reads as it did. -/
def ledgerComparesUptoRow : OpenClaim := { program := "ytfbhncddniofbaa", sum := "d406452dbb4ee8d768bf9f8d5882ee64d71a725682216d57de9d843bb1c5ad67", func := "pantoscope/pantoscopelaw09.LedgerCompares", spec := "ledgerCompares", inPlace := ["maps.clone"], unfollowed := true, recurses := true, plainKeys := false, apart := false, narrowed := true }
def LedgerComparesUptoSaid : Prop := ledgerComparesUptoRow.holds Try.pinned (OpenSpec.upto ledgerComparesSpec)

/-- 'pantoscopelaw09.LedgerSides', WHERE WHAT IT READS IS OF BULK AT MOST 1048576: true; the input reads as it did. -/
def ledgerSidesUptoRow : OpenClaim := { program := "ytfbhncddniofbaa", sum := "d406452dbb4ee8d768bf9f8d5882ee64d71a725682216d57de9d843bb1c5ad67", func := "pantoscope/pantoscopelaw09.LedgerSides", spec := "ledgerSides", inPlace := ["maps.clone"], unfollowed := true, recurses := true, plainKeys := false, apart := false, narrowed := true }
def LedgerSidesUptoSaid : Prop := ledgerSidesUptoRow.holds Try.pinned (OpenSpec.upto ledgerSidesSpec)

/-- 'pantoscopelaw09.LedgerJoins', WHERE WHAT IT READS IS OF BULK AT MOST 1048576: true; the input reads as it did. -/
def ledgerJoinsUptoRow : OpenClaim := { program := "ytfbhncddniofbaa", sum := "d406452dbb4ee8d768bf9f8d5882ee64d71a725682216d57de9d843bb1c5ad67", func := "pantoscope/pantoscopelaw09.LedgerJoins", spec := "ledgerJoins", inPlace := ["maps.clone"], unfollowed := true, recurses := true, plainKeys := false, apart := false, narrowed := true }
def LedgerJoinsUptoSaid : Prop := ledgerJoinsUptoRow.holds Try.pinned (OpenSpec.upto ledgerJoinsSpec)

/-- 'pantoscopelaw09.LedgerParts', WHERE WHAT IT READS IS OF BULK AT MOST 1048576: true; the input reads as it did. -/
def ledgerPartsUptoRow : OpenClaim := { program := "ytfbhncddniofbaa", sum := "d406452dbb4ee8d768bf9f8d5882ee64d71a725682216d57de9d843bb1c5ad67", func := "pantoscope/pantoscopelaw09.LedgerParts", spec := "ledgerParts", inPlace := ["maps.clone"], unfollowed := true, recurses := true, plainKeys := false, apart := false, narrowed := true }
def LedgerPartsUptoSaid : Prop := ledgerPartsUptoRow.holds Try.pinned (OpenSpec.upto ledgerPartsSpec)

/-- 'pantoscopelaw09.LedgerChanges', WHERE WHAT IT READS IS OF BULK AT MOST 1048576: true; the input reads as it did. -/
def ledgerChangesUptoRow : OpenClaim := { program := "ytfbhncddniofbaa", sum := "d406452dbb4ee8d768bf9f8d5882ee64d71a725682216d57de9d843bb1c5ad67", func := "pantoscope/pantoscopelaw09.LedgerChanges", spec := "ledgerChanges", unfollowed := true, recurses := true, plainKeys := false, apart := false, narrowed := true }
def LedgerChangesUptoSaid : Prop := ledgerChangesUptoRow.holds Try.pinned (OpenSpec.upto ledgerChangesSpec)

end Rows
end Go.Proofs.Ytfbhncddniofbaa
