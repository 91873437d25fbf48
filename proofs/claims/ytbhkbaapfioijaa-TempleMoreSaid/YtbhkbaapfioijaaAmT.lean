/- The abstract machine: from a contract to a call in the world, where nothing that was there is written. -/
import Derived.Test.YtbhkbaapfioijaaAmS
import Derived.Below
set_option linter.unusedVariables false
set_option linter.unusedSimpArgs false
namespace Go.Am

/-- the empty heap -/
def AH.nil : AH := ⟨fun _ => none, 1⟩
/-- A law over a heap whose rows are read alone. -/
theorem law_call {P : Program} {f : Nat} {args : List AV} {h : AH} {ι : Inj} {w : World} {vs : Array Value} (hro : ∀ t c, h.m t = some c → c.wr = false) (wr : WRel ι h w) (hv : VRels ι args vs.toList)
    (c : ACalls P f args h fun r h' => r = .b true ∧ h' = h) : Calls P f vs w fun e w' => e = .returned (.bool true) ∧ RowKit.Below w.heap.size w w' :=
  Calls.mono (c.2 ι w vs wr hv) fun e w' ⟨v, r, h', ι', he, ⟨hr, _⟩, h1, h2, h3⟩ => by
    subst hr
    simp only [VRel] at h1
    subst h1
    exact ⟨he, ⟨h3.os, h3.tape, h3.output, h3.size, fun b hb => h3.keep b hb fun t c l hm hc => by rw [hro t c hm] at hc; cases hc⟩⟩
end Go.Am
