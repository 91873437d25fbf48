/-
  DERIVED. GIVEN WITH THE SEED: THE CARDS: each row of YtjaihaccehaicaaDoorRows.lean that lists a variable, with what it lists TIED to the program's text (the seventh form; the later family's looks); each row that meets fmt, with fmt's text TOLD by the authors' own Lean function (tested against real Go, not proved from fmt's source: count such statements apart). THE CARD IS WHAT COUNTS. Prove the row's statement (the work); the ties are given (YtjaihaccehaicaaDoorTie.lean); close each card by the builder's one call (the guide's Derived/Test/ToyasCard.lean, 'card_holds'). Laid BY PROGRAM, IN A SANDBOX (cutbox-door.mjs). By AI agents, Wed Nov 11 2026. No macro, syntax, notation, axiom, sorry.
-/
import Derived.Test.YtjaihaccehaicaaDoorRows
import GoSem.ClaimSeven
namespace Go.Proofs.YtjaihaccehaicaaDoor
namespace Rows

/-- THE TIED CARD OF 'pantoscopelaw03.LastLists'. -/
def lastListsCard : Claim7 := { stood := { row := lastListsRow, standIns := [], harness := (true, "c59cae1ca1c99694ef2ccced07a09446128e77637d57ca5911b877ff49ee156b"), looks := false }, kinds := [], alts := [], laidByText := true, laidKinds := [.data], laidTests := true, laidLooks := .later }
def LastListsCardSaid : Prop := Claim7.holds Tryd.pinned (.plain (OpenSpec.ofChange lastListsSpec)) lastListsCard

/-- THE TIED CARD OF 'pantoscopelaw03.LastMore'. -/
def lastMoreCard : Claim7 := { stood := { row := lastMoreRow, standIns := [], harness := (true, "c59cae1ca1c99694ef2ccced07a09446128e77637d57ca5911b877ff49ee156b"), looks := false }, kinds := [], alts := [], laidByText := true, laidKinds := [.data], laidTests := true, laidLooks := .later }
def LastMoreCardSaid : Prop := Claim7.holds Tryd.pinned (.plain (OpenSpec.ofChange lastMoreSpec)) lastMoreCard

/-- THE TIED CARD OF 'pantoscopelaw03.LastFewest'. -/
def lastFewestCard : Claim7 := { stood := { row := lastFewestRow, standIns := [], harness := (true, "c59cae1ca1c99694ef2ccced07a09446128e77637d57ca5911b877ff49ee156b"), looks := false }, kinds := [], alts := [], laidByText := true, laidKinds := [.data], laidTests := true, laidLooks := .later }
def LastFewestCardSaid : Prop := Claim7.holds Tryd.pinned (.plain (OpenSpec.ofChange lastFewestSpec)) lastFewestCard

/-- THE TIED CARD OF 'pantoscopelaw03.LastProofs'. -/
def lastProofsCard : Claim7 := { stood := { row := lastProofsRow, standIns := [], harness := (true, "c59cae1ca1c99694ef2ccced07a09446128e77637d57ca5911b877ff49ee156b"), looks := false }, kinds := [], alts := [], laidByText := true, laidKinds := [.data], laidTests := true, laidLooks := .later }
def LastProofsCardSaid : Prop := Claim7.holds Tryd.pinned (.plain (OpenSpec.ofChange lastProofsSpec)) lastProofsCard

/-- THE TIED CARD OF 'pantoscopetop.TopSizes'. -/
def topSizesCard : Claim7 := { stood := { row := topSizesRow, standIns := [], harness := (true, "c59cae1ca1c99694ef2ccced07a09446128e77637d57ca5911b877ff49ee156b"), looks := false }, kinds := [], alts := [], laidByText := true, laidKinds := [.data], laidTests := true, laidLooks := .later }
def TopSizesCardSaid : Prop := Claim7.holds Tryd.pinned (.plain (OpenSpec.ofChange topSizesSpec)) topSizesCard

/-- THE SECOND FORM's CARD OF 'pantoscopelaw03.LastLists'. -/
def lastListsUptoCard : Claim7 := { stood := { row := lastListsUptoRow, standIns := [], harness := (true, "c59cae1ca1c99694ef2ccced07a09446128e77637d57ca5911b877ff49ee156b"), looks := false }, kinds := [], alts := [], laidByText := true, laidKinds := [.data], laidTests := true, laidLooks := .later }
def LastListsUptoCardSaid : Prop := Claim7.holds Tryd.pinned (.plain (OpenSpec.upto lastListsSpec)) lastListsUptoCard

/-- THE SECOND FORM's CARD OF 'pantoscopelaw03.LastMore'. -/
def lastMoreUptoCard : Claim7 := { stood := { row := lastMoreUptoRow, standIns := [], harness := (true, "c59cae1ca1c99694ef2ccced07a09446128e77637d57ca5911b877ff49ee156b"), looks := false }, kinds := [], alts := [], laidByText := true, laidKinds := [.data], laidTests := true, laidLooks := .later }
def LastMoreUptoCardSaid : Prop := Claim7.holds Tryd.pinned (.plain (OpenSpec.upto lastMoreSpec)) lastMoreUptoCard

/-- THE SECOND FORM's CARD OF 'pantoscopelaw03.LastFewest'. -/
def lastFewestUptoCard : Claim7 := { stood := { row := lastFewestUptoRow, standIns := [], harness := (true, "c59cae1ca1c99694ef2ccced07a09446128e77637d57ca5911b877ff49ee156b"), looks := false }, kinds := [], alts := [], laidByText := true, laidKinds := [.data], laidTests := true, laidLooks := .later }
def LastFewestUptoCardSaid : Prop := Claim7.holds Tryd.pinned (.plain (OpenSpec.upto lastFewestSpec)) lastFewestUptoCard

/-- THE SECOND FORM's CARD OF 'pantoscopelaw03.LastProofs'. -/
def lastProofsUptoCard : Claim7 := { stood := { row := lastProofsUptoRow, standIns := [], harness := (true, "c59cae1ca1c99694ef2ccced07a09446128e77637d57ca5911b877ff49ee156b"), looks := false }, kinds := [], alts := [], laidByText := true, laidKinds := [.data], laidTests := true, laidLooks := .later }
def LastProofsUptoCardSaid : Prop := Claim7.holds Tryd.pinned (.plain (OpenSpec.upto lastProofsSpec)) lastProofsUptoCard

/-- THE SECOND FORM's CARD OF 'pantoscopetop.TopSizes'. -/
def topSizesUptoCard : Claim7 := { stood := { row := topSizesUptoRow, standIns := [], harness := (true, "c59cae1ca1c99694ef2ccced07a09446128e77637d57ca5911b877ff49ee156b"), looks := false }, kinds := [], alts := [], laidByText := true, laidKinds := [.data], laidTests := true, laidLooks := .later }
def TopSizesUptoCardSaid : Prop := Claim7.holds Tryd.pinned (.plain (OpenSpec.upto topSizesSpec)) topSizesUptoCard
end Rows
end Go.Proofs.YtjaihaccehaicaaDoor
