/- The abstract machine: maps as functions. -/
import Derived.Test.YtbhkbaapfioijaaAmZ
set_option linter.unusedVariables false
set_option linter.unusedSimpArgs false
namespace Go.Am

def lku {α : Type} [DecidableEq α] (a : α) : List (α × AV) → Option AV
  | [] => none
  | p :: r => if a = p.1 then some p.2 else lku a r
def lset {α : Type} [DecidableEq α] (a : α) (v : AV) : List (α × AV) → List (α × AV)
  | [] => [(a, v)]
  | p :: r => if a = p.1 then (a, v) :: r else p :: lset a v r
section
variable {α : Type} [DecidableEq α]
theorem lset_get (a b : α) (v : AV) : ∀ r : List (α × AV), lku b (lset a v r) = if b = a then some v else lku b r
  | [] => rfl
  | p :: r => by
    simp only [lset]
    by_cases h : a = p.1
    · rw [if_pos h]
      simp only [lku]
      by_cases e : b = a
      · rw [if_pos e, if_pos e]
      · rw [if_neg e, if_neg e, if_neg (by rw [← h]; exact e)]
    · rw [if_neg h]
      simp only [lku]
      rw [lset_get a b v r]
      by_cases e : b = p.1
      · rw [if_pos e, if_neg (by rw [e]; exact fun q => h q.symm), if_pos e]
      · rw [if_neg e, if_neg e]
theorem lset_mem {a x : α} {v : AV} : ∀ {r : List (α × AV)}, x ∈ (lset a v r).map Prod.fst → x = a ∨ x ∈ r.map Prod.fst
  | [], h => by simp [lset] at h; exact .inl h
  | p :: r, h => by
    simp only [lset] at h
    split at h
    · rw [List.map_cons, List.mem_cons] at h
      exact h.imp id fun q => by rw [List.map_cons]; exact List.mem_cons_of_mem _ q
    · rw [List.map_cons] at h
      rcases List.mem_cons.1 h with rfl | h'
      · exact .inr (by simp)
      · exact (lset_mem h').imp id fun q => by rw [List.map_cons]; exact List.mem_cons_of_mem _ q
theorem lset_nodup {a : α} {v : AV} : ∀ {r : List (α × AV)}, (r.map Prod.fst).Nodup → ((lset a v r).map Prod.fst).Nodup
  | [], _ => by simp [lset]
  | p :: r, h => by
    rw [List.map_cons, List.nodup_cons] at h
    simp only [lset]
    split
    · rename_i e
      rw [List.map_cons, List.nodup_cons]
      exact ⟨by rw [e]; exact h.1, h.2⟩
    · rename_i e
      rw [List.map_cons, List.nodup_cons]
      exact ⟨fun q => by
        rcases lset_mem q with q | q
        · exact e q.symm
        · exact h.1 q, lset_nodup h.2⟩
theorem lku_mem {a : α} : ∀ {r : List (α × AV)}, lku a r = none ↔ a ∉ r.map Prod.fst
  | [] => by simp [lku]
  | p :: r => by
    simp only [lku, List.map_cons, List.mem_cons]
    by_cases e : a = p.1
    · simp [e]
    · rw [if_neg e, lku_mem]; simp [e]

/-- what a map's entries are as a function; kk, enc: how the keys are laid -/
def MF (enc : α → AV) (es : List (AV × AV)) (g : α → Option AV) : Prop := ∃ ps : List (α × AV), es = ps.map (fun p => (enc p.1, p.2)) ∧ (ps.map Prod.fst).Nodup ∧ ∀ a, lku a ps = g a
variable {kk : Option (List Nat)} {enc : α → AV}
theorem MF.nil : MF enc [] fun _ => none := ⟨[], rfl, by simp, fun _ => rfl⟩
theorem find_ps (hq : ∀ a b, kq kk (enc a) (enc b) = some (decide (a = b))) (a : α) : ∀ (ps : List (α × AV)) (o : Nat),
    (lku a ps = none → mfind kk (enc a) (ps.map fun p => (enc p.1, p.2)) o = some none) ∧
    (∀ v, lku a ps = some v → ∃ j, mfind kk (enc a) (ps.map fun p => (enc p.1, p.2)) o = some (some (o + j, v)) ∧ ∀ u, (ps.map fun p => (enc p.1, p.2)).set j (enc a, u) = (lset a u ps).map fun p => (enc p.1, p.2))
  | [], o => ⟨fun _ => rfl, fun v h => nomatch h⟩
  | p :: r, o => by
    simp only [lku, List.map_cons, mfind, hq]
    by_cases e : a = p.1
    · simp only [e, if_true, decide_true, lset]
      exact ⟨fun h => (by cases h), fun v hv => ⟨0, by cases hv; rfl, fun u => by simp⟩⟩
    · simp only [e, if_false, decide_false, lset]
      obtain ⟨h1, h2⟩ := find_ps hq a r (o + 1)
      refine ⟨h1, fun v hv => ?_⟩
      obtain ⟨j, h3, h4⟩ := h2 v hv
      exact ⟨j + 1, by rw [h3]; simp only [Option.some.injEq, Prod.mk.injEq, and_true]; omega, fun u => by simp [h4 u]⟩
theorem lset_app {a : α} {v : AV} : ∀ {ps : List (α × AV)}, lku a ps = none → lset a v ps = ps ++ [(a, v)]
  | [], _ => rfl
  | p :: r, h => by
    simp only [lku] at h
    split at h
    · cases h
    · rename_i e
      simp only [lset, if_neg e, lset_app h, List.cons_append]
theorem mlk_F (hq : ∀ a b, kq kk (enc a) (enc b) = some (decide (a = b))) {es : List (AV × AV)} {g : α → Option AV} (m : MF enc es g) (z : AV) (ok : Bool) (a : α) :
    mlkB kk z ok (enc a) (.map es) = some (if ok then .tu [(g a).getD z, .b (g a).isSome] else (g a).getD z) := by
  obtain ⟨ps, rfl, _, h2⟩ := m
  simp only [mlkB, hq, decide_true, if_true]
  obtain ⟨q1, q2⟩ := find_ps hq a ps 0
  cases hg : g a with
  | none => rw [q1 ((h2 a).trans hg)]; rfl
  | some v => obtain ⟨j, e, _⟩ := q2 v ((h2 a).trans hg); rw [e]; rfl
/-- the entries behind a store -/
def mpt (kk : Option (List Nat)) (k v : AV) (es : List (AV × AV)) : List (AV × AV) := (mput kk k v es).getD es
theorem mup_F (hq : ∀ a b, kq kk (enc a) (enc b) = some (decide (a = b))) {es : List (AV × AV)} {g : α → Option AV} (m : MF enc es g) (a : α) (v : AV) :
    mupB kk (enc a) v (.map es) = some (.map (mpt kk (enc a) v es)) ∧ MF enc (mpt kk (enc a) v es) fun b => if b = a then some v else g b := by
  obtain ⟨ps, rfl, hn, h2⟩ := m
  have key : mput kk (enc a) v (ps.map fun p => (enc p.1, p.2)) = some ((lset a v ps).map fun p => (enc p.1, p.2)) := by
    unfold mput
    obtain ⟨q1, q2⟩ := find_ps hq a ps 0
    cases hg : g a with
    | none =>
      rw [q1 ((h2 a).trans hg), lset_app ((h2 a).trans hg)]
      simp
    | some u =>
      obtain ⟨j, e, e3⟩ := q2 u ((h2 a).trans hg)
      rw [e, Nat.zero_add]
      simp only [e3 v]
  refine ⟨?_, lset a v ps, ?_, lset_nodup hn, fun b => by rw [lset_get, h2]⟩
  · simp only [mupB, hq, decide_true, if_true, key, Option.map_some, mpt, Option.getD_some]
  · simp only [mpt, key, Option.getD_some]
theorem kq_i (a b : Int) : kq none (.i .i64 a) (.i .i64 b) = some (decide (a = b)) := rfl
end
/-- maps with numbers for keys -/
abbrev MFi (es : List (AV × AV)) (g : Int → Option AV) : Prop := MF (AV.i .i64) es g
theorem MFi.lk {es : List (AV × AV)} {g : Int → Option AV} (m : MFi es g) (z : AV) (ok : Bool) (a : Int) : mlkB none z ok (.i .i64 a) (.map es) = some (if ok then .tu [(g a).getD z, .b (g a).isSome] else (g a).getD z) := mlk_F kq_i m z ok a
theorem MFi.up {es : List (AV × AV)} {g : Int → Option AV} (m : MFi es g) (a : Int) (v : AV) : mupB none (.i .i64 a) v (.map es) = some (.map (mpt none (.i .i64 a) v es)) ∧ MFi (mpt none (.i .i64 a) v es) fun b => if b = a then some v else g b := mup_F kq_i m a v
theorem MFi.eq {es : List (AV × AV)} {g g' : Int → Option AV} (m : MFi es g) (h : ∀ a, g a = g' a) : MFi es g' := (funext h : g = g') ▸ m
/-- a set of numbers -/
def setOf (p : Int → Prop) [DecidablePred p] : Int → Option AV := fun n => if p n then some (.b true) else none
theorem setOf_get (p : Int → Prop) [DecidablePred p] (n : Int) : ((setOf p n).getD (.b false)) = .b (decide (p n)) := by
  unfold setOf; by_cases h : p n <;> simp [h]
theorem MFi.set_lk {es : List (AV × AV)} {p : Int → Prop} [DecidablePred p] (m : MFi es (setOf p)) (a : Int) : mlkB none (.b false) false (.i .i64 a) (.map es) = some (.b (decide (p a))) := by
  rw [MFi.lk m, setOf_get]; rfl
theorem MFi.set_up {es : List (AV × AV)} {p : Int → Prop} [DecidablePred p] (m : MFi es (setOf p)) (a : Int) (q : Int → Prop) [DecidablePred q] (h : ∀ b, q b ↔ (b = a ∨ p b)) : MFi (mpt none (.i .i64 a) (.b true) es) (setOf q) :=
  MFi.eq (MFi.up m a (.b true)).2 fun b => by
    unfold setOf
    have := h b
    by_cases e : b = a
    · rw [if_pos e, if_pos (this.2 (.inl e))]
    · rw [if_neg e]
      by_cases hp : p b
      · rw [if_pos hp, if_pos (this.2 (.inr hp))]
      · rw [if_neg hp, if_neg fun hq => (this.1 hq).elim e hp]
theorem MFi.set_nil {p : Int → Prop} [DecidablePred p] (h : ∀ a, ¬ p a) : MFi [] (setOf p) := MFi.eq MF.nil fun a => by unfold setOf; rw [if_neg (h a)]
end Go.Am
