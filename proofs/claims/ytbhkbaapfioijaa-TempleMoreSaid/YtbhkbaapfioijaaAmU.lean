/- The abstract machine: arguments of plain types (numbers, bools, strings, structs and arrays of such), opened to their cells. -/
import Derived.Test.YtbhkbaapfioijaaAmT
import Derived.ChangeArms
import Derived.ChangeSame
set_option linter.unusedVariables false
set_option linter.unusedSimpArgs false
namespace Go.Am
open Go.ChangeShapes Go.WideShapes

inductive Kd where
  | i (k : IntKind)
  | b
  | s
def Kd.ok : Kd → Value → Prop
  | .i k, v => ∃ n, v = .int k n ∧ (Lit.int k n).wf = true
  | .b, v => ∃ x, v = .bool x
  | .s, v => ∃ x, v = .string x
def okL : List Kd → List Value → Prop
  | [], cs => cs = []
  | k :: ks, cs => ∃ v r, cs = v :: r ∧ k.ok v ∧ okL ks r
theorem okL_length : ∀ {ks : List Kd} {cs : List Value}, okL ks cs → cs.length = ks.length
  | [], cs, h => by simp only [okL] at h; subst h; rfl
  | k :: ks, cs, h => by
    simp only [okL] at h
    obtain ⟨v, r, rfl, _, h⟩ := h
    simp [okL_length h]
theorem okL_append : ∀ {ks ls : List Kd} {cs ds : List Value}, okL ks cs → okL ls ds → okL (ks ++ ls) (cs ++ ds)
  | [], ls, cs, ds, h, k => by simp only [okL] at h; subst h; exact k
  | x :: ks, ls, cs, ds, h, k => by
    simp only [okL] at h
    obtain ⟨v, r, rfl, h1, h2⟩ := h
    simp only [List.cons_append, okL]
    exact ⟨v, r ++ ds, rfl, h1, okL_append h2 k⟩

def flatF (P : Program) (g : TypeId → Option (List Kd)) : List Field → Nat → Option (List Kd)
  | [], _ => some []
  | fd :: r, off => match g fd.type with
    | some ks => if fd.offset = off ∧ P.cellsOf fd.type = ks.length then (flatF P g r (off + ks.length)).map (ks ++ ·) else none
    | none => none
/-- the cells of a plain type -/
def flat (P : Program) : Nat → TypeId → Option (List Kd)
  | 0, _ => none
  | f + 1, t => match P.underlying t with
    | some (.int k) => some [.i k]
    | some .bool => some [.b]
    | some .string => some [.s]
    | some (.struct fs) => match flatF P (flat P f) fs.toList 0 with
      | some ks => if P.cellsOf t = ks.length then some ks else none
      | none => none
    | _ => none

theorem flatF_ok {P : Program} {g : TypeId → Option (List Kd)} {cs : List Value} : ∀ {l : List Field} {off : Nat} {ks : List Kd}, flatF P g l off = some ks →
    (∀ fd ∈ l, ∀ ks, g fd.type = some ks → okL ks ((cs.drop fd.offset).take (P.cellsOf fd.type))) → okL ks ((cs.drop off).take ks.length)
  | [], off, ks, h, _ => by simp only [flatF, Option.some.injEq] at h; subst h; simp [okL]
  | fd :: r, off, ks, h, H => by
    simp only [flatF] at h
    split at h
    · rename_i k1 hg
      split at h
      · rename_i hc
        simp only [Option.map_eq_some_iff] at h
        obtain ⟨k2, h2, rfl⟩ := h
        have a1 := H fd (by simp) k1 hg
        rw [hc.1, hc.2] at a1
        have a2 := flatF_ok h2 fun f hf => H f (by simp [hf])
        have : (cs.drop off).take (k1 ++ k2).length = (cs.drop off).take k1.length ++ (cs.drop (off + k1.length)).take k2.length := by
          rw [List.length_append, ← List.drop_drop, List.take_add]
        rw [this]
        exact okL_append a1 a2
      · cases h
    · cases h

section
variable {H : Type} {enc : TypeId × Value → H} {P : Program} {w : World} {base : Nat} {spare : Nat → Bool} {held : Bool}
theorem flat_ok : ∀ {f : Nat} {t : TypeId} {ks : List Kd}, flat P f t = some ks → ∀ {fuel : Nat} {cs : List Value} {x : DataW H × List MemPlace}, DataW.trod enc P w base spare held fuel t cs = some x → okL ks cs
  | 0, t, ks, h, _, _, _, _ => by simp [flat] at h
  | f + 1, t, ks, h, fuel, cs, x, hx => by
    simp only [flat] at h
    split at h
    · rename_i k hu
      cases h
      obtain ⟨n, rfl, _, hw⟩ := DataW.trod_int hu hx
      exact ⟨_, [], rfl, ⟨n, rfl, hw⟩, rfl⟩
    · rename_i hu
      cases h
      obtain ⟨b, rfl, _⟩ := DataW.trod_bool hu hx
      exact ⟨_, [], rfl, ⟨b, rfl⟩, rfl⟩
    · rename_i hu
      cases h
      obtain ⟨s, rfl, _⟩ := DataW.trod_string hu hx
      exact ⟨_, [], rfl, ⟨s, rfl⟩, rfl⟩
    · rename_i fs hu
      split at h
      · rename_i k1 hk
        split at h
        · rename_i hl
          cases h
          obtain ⟨xs, n, _, _, hlen, hxs, hf⟩ := DataW.trod_struct hu hx
          have := flatF_ok (cs := cs) hk fun fd hfd ks hg => by
            obtain ⟨i, hi, e⟩ := List.mem_iff_getElem.1 hfd
            have hfi : fs[i]? = some fd := by
              rw [Array.getElem?_eq_getElem (by simpa using hi)]
              simpa using e
            have h1 := hf i fd hfi
            rw [List.getElem?_eq_getElem (by rw [hxs]; simpa using hi)] at h1
            exact flat_ok hg h1
          rw [List.drop_zero, ← hl, ← hlen, List.take_length] at this
          exact this
        · cases h
      · cases h
    · cases h

/-- an argument that is a struct of plain types -/
theorem open_flat {r : Reach} {b0 : Nat} {t : TypeId} {fs : Array Field} {v : Value} {d : DataW H} {p : List MemPlace} {f : Nat} {ks : List Kd} (hs : P.underlying t = some (.struct fs)) (hk : flat P f t = some ks) (hv : Value.okWide P w r b0 t v)
    (h : DataW.Trod enc P w base spare held t v d p) : ∃ cs, v = .agg cs ∧ okL ks cs.toList := by
  obtain ⟨cs, rfl, hsz⟩ := okWide_struct hs hv
  obtain ⟨fuel, hf⟩ := h
  exact ⟨cs, rfl, flat_ok hk hf⟩
end
end Go.Am
