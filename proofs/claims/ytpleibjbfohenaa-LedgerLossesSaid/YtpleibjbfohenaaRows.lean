/-
  No cell of these rows narrows 'for every input' (looked for: loops, veiled, ifaces, maps, wideKeys, modest, calm, conditions, laid).
  DERIVED. THE GIVEN ROWS OF THIS SEAT. 5 by the template 'for every input the law returns true; each argument reads behind the call as it read before'; 0 by the template 'total and deterministic' (their statements: YtpleibjbfohenaaTotals.lean).
  GIVEN WITH THE SEED: the statements are not yours to turn. If you find one false, say at which input.
  Laid BY PROGRAM, IN A SANDBOX (cutbox-rows.mjs): the forced cells as the released guide's own fill.sh prints them over the translation fb0adc6f94d42109… (all of the seat's roots in one cut). By AI agents, Wed Nov 11 2026. No macro, syntax, notation, axiom, sorry.
-/
import Derived.Test.YtpleibjbfohenaaChecked
import GoSem.Claim
import GoSem.ClaimJoined
import GoSem.ClaimMapViews
import Derived.JoinedTies
import Derived.KernelRfl
namespace Go.Proofs.Ytpleibjbfohenaa
/- THE CELL 'sum', in the pinned program and in every row, IS THE sha256 OF THE DUMP (.gsa) THAT YtpleibjbfohenaaProg.lean LOADS. Nothing in Lean hashes anything: it is a label: what it is worth is what the hold of that sum in a sandbox is worth. -/
noncomputable def Try.pinned : Pinned := { name := "ytpleibjbfohenaa", sum := "fb0adc6f94d4210948948312394b62cb4c39fd57d7d248f4f4b290992ed432ed", checked := Try.checked }
namespace Rows
def none {H : Type} : Left H := { results := [], args := [] }

/-- 'pantoscopelaw09.LedgerKept': WHATEVER THE INPUT: true; the input reads as it did. -/
def ledgerKeptSpec : ChangeSpec := { name := "ledgerKept", fn := fun _ => fun
  | [d1, d2] => { results := [.lit (.bool true)], args := [d1, d2] }
  | _ => none }
def ledgerKeptRow : OpenClaim := { program := "ytpleibjbfohenaa", sum := "fb0adc6f94d4210948948312394b62cb4c39fd57d7d248f4f4b290992ed432ed", func := "pantoscope/pantoscopelaw09.LedgerKept", spec := "ledgerKept", apart := false }
def LedgerKeptSaid : Prop := ledgerKeptRow.holds Try.pinned (OpenSpec.ofChange ledgerKeptSpec)

/-- ITS FALSE NEIGHBOUR: 'it returns false'. Refute it at one input. -/
def ledgerKeptWrong : ChangeSpec := { name := "ledgerKept", fn := fun _ => fun
  | [d1, d2] => { results := [.lit (.bool false)], args := [d1, d2] }
  | _ => none }
def LedgerKeptWrongFalsely : Prop := ledgerKeptRow.holds Try.pinned (OpenSpec.ofChange ledgerKeptWrong)

/-- 'pantoscopelaw09.LedgerPlays': WHATEVER THE INPUT: true; the input reads as it did. -/
def ledgerPlaysSpec : ChangeSpec := { name := "ledgerPlays", fn := fun _ => fun
  | [d] => { results := [.lit (.bool true)], args := [d] }
  | _ => none }
def ledgerPlaysRow : OpenClaim := { program := "ytpleibjbfohenaa", sum := "fb0adc6f94d4210948948312394b62cb4c39fd57d7d248f4f4b290992ed432ed", func := "pantoscope/pantoscopelaw09.LedgerPlays", spec := "ledgerPlays", apart := false }
def LedgerPlaysSaid : Prop := ledgerPlaysRow.holds Try.pinned (OpenSpec.ofChange ledgerPlaysSpec)

/-- ITS FALSE NEIGHBOUR: 'it returns false'. Refute it at one input. -/
def ledgerPlaysWrong : ChangeSpec := { name := "ledgerPlays", fn := fun _ => fun
  | [d] => { results := [.lit (.bool false)], args := [d] }
  | _ => none }
def LedgerPlaysWrongFalsely : Prop := ledgerPlaysRow.holds Try.pinned (OpenSpec.ofChange ledgerPlaysWrong)

/-- 'pantoscopelaw09.LedgerLosses': WHATEVER THE INPUT: true; the input reads as it did. -/
def ledgerLossesSpec : ChangeSpec := { name := "ledgerLosses", fn := fun _ => fun
  | [d] => { results := [.lit (.bool true)], args := [d] }
  | _ => none }
def ledgerLossesRow : OpenClaim := { program := "ytpleibjbfohenaa", sum := "fb0adc6f94d4210948948312394b62cb4c39fd57d7d248f4f4b290992ed432ed", func := "pantoscope/pantoscopelaw09.LedgerLosses", spec := "ledgerLosses", apart := false }
def LedgerLossesSaid : Prop := ledgerLossesRow.holds Try.pinned (OpenSpec.ofChange ledgerLossesSpec)

/-- ITS FALSE NEIGHBOUR: 'it returns false'. Refute it at one input. -/
def ledgerLossesWrong : ChangeSpec := { name := "ledgerLosses", fn := fun _ => fun
  | [d] => { results := [.lit (.bool false)], args := [d] }
  | _ => none }
def LedgerLossesWrongFalsely : Prop := ledgerLossesRow.holds Try.pinned (OpenSpec.ofChange ledgerLossesWrong)

/-- 'pantoscopelaw09.LedgerDisks': WHATEVER THE INPUT: true; the input reads as it did. -/
def ledgerDisksSpec : ChangeSpec := { name := "ledgerDisks", fn := fun _ => fun
  | [d1, d2] => { results := [.lit (.bool true)], args := [d1, d2] }
  | _ => none }
def ledgerDisksRow : OpenClaim := { program := "ytpleibjbfohenaa", sum := "fb0adc6f94d4210948948312394b62cb4c39fd57d7d248f4f4b290992ed432ed", func := "pantoscope/pantoscopelaw09.LedgerDisks", spec := "ledgerDisks", apart := false }
def LedgerDisksSaid : Prop := ledgerDisksRow.holds Try.pinned (OpenSpec.ofChange ledgerDisksSpec)

/-- ITS FALSE NEIGHBOUR: 'it returns false'. Refute it at one input. -/
def ledgerDisksWrong : ChangeSpec := { name := "ledgerDisks", fn := fun _ => fun
  | [d1, d2] => { results := [.lit (.bool false)], args := [d1, d2] }
  | _ => none }
def LedgerDisksWrongFalsely : Prop := ledgerDisksRow.holds Try.pinned (OpenSpec.ofChange ledgerDisksWrong)

/-- 'pantoscopelaw09.LedgerNil': WHATEVER THE INPUT: true; the input reads as it did. -/
def ledgerNilSpec : ChangeSpec := { name := "ledgerNil", fn := fun _ => fun
  | [d1, d2] => { results := [.lit (.bool true)], args := [d1, d2] }
  | _ => none }
def ledgerNilRow : OpenClaim := { program := "ytpleibjbfohenaa", sum := "fb0adc6f94d4210948948312394b62cb4c39fd57d7d248f4f4b290992ed432ed", func := "pantoscope/pantoscopelaw09.LedgerNil", spec := "ledgerNil", apart := false }
def LedgerNilSaid : Prop := ledgerNilRow.holds Try.pinned (OpenSpec.ofChange ledgerNilSpec)

/-- ITS FALSE NEIGHBOUR: 'it returns false'. Refute it at one input. -/
def ledgerNilWrong : ChangeSpec := { name := "ledgerNil", fn := fun _ => fun
  | [d1, d2] => { results := [.lit (.bool false)], args := [d1, d2] }
  | _ => none }
def LedgerNilWrongFalsely : Prop := ledgerNilRow.holds Try.pinned (OpenSpec.ofChange ledgerNilWrong)

/- THE SECOND FORM. 'bulk': how many values and letters a reading holds, each counted each time it is reached (what is shared counts as often as it is met; a slice's spare places count too). A statement '..UptoSaid' is the law's where the arguments, and the package variables that the reading takes, are together of bulk at most 1048576: NARROWER than '..Said'. Prove '..Said' where nothing that the law and all that it calls make is longer than what came in: it says more and counts as full. Else prove '..UptoSaid'. A law counts once. -/
mutual
def uptoBulk {H : Type} : DataW H → Nat
  | .lit (.string bytes) => bytes.length + 1
  | .lit _ => 1
  | .nil => 1
  | .ptr d => uptoBulk d + 1
  | .slice elems spare => uptoBulkAll elems + uptoBulkAll spare + 1
  | .agg parts => uptoBulkAll parts + 1
  | .iface _ d => uptoBulk d + 1
  | .map entries => uptoBulkEntries entries + 1
  | .held _ => 1
def uptoBulkAll {H : Type} : List (DataW H) → Nat
  | [] => 0
  | d :: r => uptoBulk d + uptoBulkAll r
def uptoBulkEntries {H : Type} : List (Lit × DataW H) → Nat
  | [] => 0
  | x :: r => uptoBulkEntry x + uptoBulkEntries r
def uptoBulkEntry {H : Type} : Lit × DataW H → Nat
  | (.string bytes, d) => bytes.length + uptoBulk d + 1
  | (_, d) => uptoBulk d + 1
 end
def uptoSmall : (H : Type) → List (DataW H) → Bool := fun _ ds => decide (uptoBulkAll ds ≤ 1048576)
def OpenSpec.upto (s : _root_.Go.ChangeSpec) : _root_.Go.OpenSpec := { _root_.Go.OpenSpec.ofChange s with cond := some uptoSmall }

/-- 'pantoscopelaw09.LedgerKept', WHERE WHAT IT READS IS OF BULK AT MOST 1048576: true; the input reads as it did. -/
def ledgerKeptUptoRow : OpenClaim := { program := "ytpleibjbfohenaa", sum := "fb0adc6f94d4210948948312394b62cb4c39fd57d7d248f4f4b290992ed432ed", func := "pantoscope/pantoscopelaw09.LedgerKept", spec := "ledgerKept", apart := false, narrowed := true }
def LedgerKeptUptoSaid : Prop := ledgerKeptUptoRow.holds Try.pinned (OpenSpec.upto ledgerKeptSpec)

/-- 'pantoscopelaw09.LedgerPlays', WHERE WHAT IT READS IS OF BULK AT MOST 1048576: true; the input reads as it did. -/
def ledgerPlaysUptoRow : OpenClaim := { program := "ytpleibjbfohenaa", sum := "fb0adc6f94d4210948948312394b62cb4c39fd57d7d248f4f4b290992ed432ed", func := "pantoscope/pantoscopelaw09.LedgerPlays", spec := "ledgerPlays", apart := false, narrowed := true }
def LedgerPlaysUptoSaid : Prop := ledgerPlaysUptoRow.holds Try.pinned (OpenSpec.upto ledgerPlaysSpec)

/-- 'pantoscopelaw09.LedgerLosses', WHERE WHAT IT READS IS OF BULK AT MOST 1048576: true; the input reads as it did. -/
def ledgerLossesUptoRow : OpenClaim := { program := "ytpleibjbfohenaa", sum := "fb0adc6f94d4210948948312394b62cb4c39fd57d7d248f4f4b290992ed432ed", func := "pantoscope/pantoscopelaw09.LedgerLosses", spec := "ledgerLosses", apart := false, narrowed := true }
def LedgerLossesUptoSaid : Prop := ledgerLossesUptoRow.holds Try.pinned (OpenSpec.upto ledgerLossesSpec)

/-- 'pantoscopelaw09.LedgerDisks', WHERE WHAT IT READS IS OF BULK AT MOST 1048576: true; the input reads as it did. -/
def ledgerDisksUptoRow : OpenClaim := { program := "ytpleibjbfohenaa", sum := "fb0adc6f94d4210948948312394b62cb4c39fd57d7d248f4f4b290992ed432ed", func := "pantoscope/pantoscopelaw09.LedgerDisks", spec := "ledgerDisks", apart := false, narrowed := true }
def LedgerDisksUptoSaid : Prop := ledgerDisksUptoRow.holds Try.pinned (OpenSpec.upto ledgerDisksSpec)

/-- 'pantoscopelaw09.LedgerNil', WHERE WHAT IT READS IS OF BULK AT MOST 1048576: true; the input reads as it did. -/
def ledgerNilUptoRow : OpenClaim := { program := "ytpleibjbfohenaa", sum := "fb0adc6f94d4210948948312394b62cb4c39fd57d7d248f4f4b290992ed432ed", func := "pantoscope/pantoscopelaw09.LedgerNil", spec := "ledgerNil", apart := false, narrowed := true }
def LedgerNilUptoSaid : Prop := ledgerNilUptoRow.holds Try.pinned (OpenSpec.upto ledgerNilSpec)

end Rows
end Go.Proofs.Ytpleibjbfohenaa
