/- The abstract machine: contracts of functions that leave what was there as it was, and yield a new slice. -/
import Derived.Test.YtbhkbaapfioijaaAmP
set_option linter.unusedVariables false
set_option linter.unusedSimpArgs false
namespace Go.Am

/-- what a slice with such cells is found as -/
def IsNew (k : Nat) (n : Nat) (cs : List AV) (s : AV) (h : AH) : Prop := ∃ t o a, s = .sl t o n a ∧ ((t = 0 ∧ n = 0 ∧ cs = []) ∨ ∃ cs0, k = a ∧ h.m t = some (.cells true cs0) ∧ o + n * k ≤ cs0.length ∧ (cs0.drop o).take (n * k) = cs)

/-- where a new slice lies -/
theorem isNew_loc {ι' : Inj} {h'' : AH} {w w' : World} {t o a n k : Nat} {cs : List AV} {h0 : AH} {ι0 : Inj} (h0w : ∀ t c, h0.m t = some c → c.wr = false) (hcs : AV.plains cs = true)
    (hs : (t = 0 ∧ n = 0 ∧ cs = []) ∨ ∃ cs0, k = a ∧ h''.m t = some (.cells true cs0) ∧ o + n * k ≤ cs0.length ∧ (cs0.drop o).take (n * k) = cs) (h2 : WRel ι' h'' w') (h3 : Ext ι0 h0 w ι' h'' w') :
    ∃ loc : Option Loc, (∀ l, loc = some l → w.heap.size ≤ l.b ∧ l.b < w'.heap.size ∧ ι'.φ l.b = none) ∧
      (∀ (ι'' : Inj) (tok : Nat), ι'' tok = loc → ∀ u, VRel ι' (.sl t o n a) u → VRel ι'' (.sl tok 0 n k) u) ∧
      (∀ (ι'' : Inj) (tok : Nat), ι'' tok = loc → (∀ b xs, ι'.φ b = some xs → ι''.φ b = some xs) → BRel ι'' w' tok (.cells true cs)) := by
  rcases hs with ⟨rfl, rfl, rfl⟩ | ⟨cs0, rfl, hm, hle, rfl⟩
  · refine ⟨none, (fun l hl => nomatch hl), fun ι'' tok hi u hu => ?_, fun ι'' tok hi _ => ?_⟩
    · simp only [VRel] at hu ⊢
      rcases hu with ⟨_, x, rfl⟩ | ⟨l, cap, hl, _⟩
      · exact .inl ⟨by trivial, x, rfl⟩
      · rw [h2.nil] at hl; cases hl
    · exact .inl ⟨rfl, hi⟩
  · have hb := (h2.blk t _ hm).2
    simp only [BRel] at hb
    rcases hb with ⟨rfl, hn⟩ | ⟨l, vs', e', fz, q1, q2, q3, q4, q5, q6⟩
    · refine ⟨none, (fun l hl => nomatch hl), fun ι'' tok hi u hu => ?_, fun ι'' tok hi _ => ?_⟩
      · simp only [VRel] at hu ⊢
        rcases hu with ⟨hn0, x, rfl⟩ | ⟨l, cap, hl, _⟩
        · exact .inl ⟨hn0, x, rfl⟩
        · rw [hn] at hl; cases hl
      · exact .inl ⟨by simp, hi⟩
    · refine ⟨some ⟨l.b, l.sh + o, l.sz⟩, fun l' hl' => ?_, fun ι'' tok hi u hu => ?_, fun ι'' tok hi hφ => ?_⟩
      · cases hl'
        refine ⟨?_, (h2.lt t l q1).2, ?_⟩
        · rcases h3.img t _ l hm rfl q1 with hq | ⟨t0, c0, l0, hm0, hc0, _⟩
          · exact hq
          · rw [h0w t0 c0 hm0] at hc0; cases hc0
        · cases hq : ι'.φ l.b with
          | none => rfl
          | some ys => exact absurd rfl ((h2.phi l.b ys hq).2 t _ l hm rfl q1)
      · simp only [VRel] at hu ⊢
        rcases hu with hu | ⟨l', cap, hl', rfl, hc, hr⟩
        · exact .inl hu
        · rw [q1] at hl'; cases hl'
          exact .inr ⟨_, cap, hi, by simp, hc, by simpa [Nat.add_assoc] using hr⟩
      · simp only [BRel]
        refine .inr ⟨_, vs', e', fz, hi, q2, q3, ?_, q5, fun i x hx => ?_⟩
        · simp only [List.length_take, List.length_drop]; omega
        · have hmem : x ∈ (cs0.drop o).take (n * k) := List.mem_of_getElem? hx
          rw [List.getElem?_take] at hx
          split at hx
          · rw [List.getElem?_drop] at hx
            obtain ⟨u, hu1, hu2⟩ := q6 _ _ hx
            exact ⟨u, by simpa [Nat.add_assoc] using hu1, plain_rel hφ (plains_mem hcs hmem) hu2⟩
          · cases hx

/-- A CALL THAT YIELDS A NEW SLICE, proved over rows that are read alone. -/
theorem fresh_call {P : Program} {f : Nat} {args : List AV} {h : AH} {p : Option (List AV × List AV)} {n k : Nat} {cs : List AV} (hpl : plugOk p = true) (hcs : AV.plains cs = true)
    (c : ∀ h' : AH, (∀ t, h'.row t = h.row t) → h'.nx = h.nx → ACalls P f args h' fun r h'' => ∃ s, r = plug p s ∧ IsNew k n cs s h'') : FCalls P f args h p n k cs := by
  have c := c h.ro h.ro_row rfl
  refine ⟨c.1, fun ι w vs wr hv => Calls.mono (c.2 ι w vs wr.ro hv) fun e w' he => ?_⟩
  revert he; rintro ⟨v, r, h'', ι', rfl, ⟨s, rfl, t, o, a, rfl, hs⟩, h1, h2, h3⟩
  obtain ⟨hkeep, hφ, _, _⟩ := ro_back h.ro_wr wr h2 h3 rfl
  obtain ⟨loc, hl1, hl2, hl3⟩ := isNew_loc h.ro_wr hcs hs h2 h3
  exact ⟨v, loc, ι'.φ, rfl, fun l hl => ⟨(hl1 l hl).1, (hl1 l hl).2.1⟩, ⟨hφ.le, fun b xs hb => (hφ.new b xs hb).imp id fun ⟨q1, q2, _⟩ => ⟨q1, q2, fun l hl hbb => by rw [← hbb, (hl1 l hl).2.2] at hb; cases hb⟩⟩,
    fun ι'' tok hi hq => ⟨plug_rel hq hpl h1 (hl2 ι'' tok hi), hl3 ι'' tok hi hq⟩, h3.os, h3.tape, h3.output, h3.size, hkeep, h3.drawn⟩
/-- The same of values alone, over an empty heap. -/
theorem fresh_empty {P : Program} {f : Nat} {args : List AV} {p : Option (List AV × List AV)} {n k : Nat} {cs : List AV} (ha : AV.plains args = true) (hpl : plugOk p = true) (hcs : AV.plains cs = true)
    (c : ACalls P f args ⟨fun _ => none, 1⟩ fun r h'' => ∃ s, r = plug p s ∧ IsNew k n cs s h'') (h : AH) : FCalls P f args h p n k cs := by
  refine ⟨c.1, fun ι w vs wr hv => Calls.mono (c.2 ⟨fun _ => none, ι.φ⟩ w vs (WRel.empty wr) (plains_rel (ι := ι) (ι' := ⟨fun _ => none, ι.φ⟩) (fun _ _ x => x) ha hv)) fun e w' he => ?_⟩
  revert he; rintro ⟨v, r, h'', ι', rfl, ⟨s, rfl, t, o, a, rfl, hs⟩, h1, h2, h3⟩
  have hw0 : ∀ t c, (⟨fun _ => none, 1⟩ : AH).m t = some c → c.wr = false := fun t c h => by cases h
  obtain ⟨hkeep, hφ, _, _⟩ := ro_back (ι0 := ⟨fun _ => none, ι.φ⟩) hw0 wr h2 h3 rfl
  obtain ⟨loc, hl1, hl2, hl3⟩ := isNew_loc hw0 hcs hs h2 h3
  exact ⟨v, loc, ι'.φ, rfl, fun l hl => ⟨(hl1 l hl).1, (hl1 l hl).2.1⟩, ⟨hφ.le, fun b xs hb => (hφ.new b xs hb).imp id fun ⟨q1, q2, _⟩ => ⟨q1, q2, fun l hl hbb => by rw [← hbb, (hl1 l hl).2.2] at hb; cases hb⟩⟩,
    fun ι'' tok hi hq => ⟨plug_rel hq hpl h1 (hl2 ι'' tok hi), hl3 ι'' tok hi hq⟩, h3.os, h3.tape, h3.output, h3.size, hkeep, h3.drawn⟩
end Go.Am
