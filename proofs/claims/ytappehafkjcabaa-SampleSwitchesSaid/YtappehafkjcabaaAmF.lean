/- The abstract machine: how worlds and heaps move on together: a new block, a store, an append. -/
import Derived.Test.YtappehafkjcabaaAmE
import Derived.Laws.CopyRow
import Derived.Laws.Append
set_option linter.unusedVariables false
set_option linter.unusedSimpArgs false
namespace Go.Am

def Inj.set (ι : Inj) (t : Nat) (l : Loc) : Inj := fun s => if s = t then some l else ι s

theorem Inj.le_set {ι : Inj} {t : Nat} (h : ι t = none) (l : Loc) : ι.le (ι.set t l) := fun s l' hs => by
  unfold Inj.set
  by_cases e : s = t
  · subst e; rw [h] at hs; cases hs
  · rw [if_neg e]; exact hs

/-- A token's block says the same in a later world that keeps that block, and for a wider injection. -/
theorem BRel.mono {ι ι' : Inj} {w w' : World} {t : Nat} {c : Blk} (h : BRel ι w t c) (hι : ∀ t l, ι t = some l → ι' t = some l) (ht : ι' t = ι t) (hw : ∀ l, ι t = some l → w'.heap[l.b]? = w.heap[l.b]?) : BRel ι' w' t c := by
  cases c with
  | cells wr cs =>
    simp only [BRel] at *
    rcases h with ⟨h1, h2⟩ | ⟨l, vs, e, fz, h1, h2, h3, h4, h5, h6⟩
    · exact .inl ⟨h1, ht.trans h2⟩
    · refine .inr ⟨l, vs, e, fz, ht.trans h1, (hw l h1).trans h2, h3, h4, h5, fun i a ha => ?_⟩
      obtain ⟨v, hv, hr⟩ := h6 i a ha
      exact ⟨v, hv, hr.mono hι⟩
  | map es =>
    simp only [BRel] at *
    obtain ⟨l, xs, ck, h1, h2, h3, h4⟩ := h
    refine ⟨l, xs, ck, ht.trans h1, (hw l h1).trans h2, h3, fun i k v hi => ?_⟩
    obtain ⟨x, hx, hk, hv⟩ := h4 i k v hi
    exact ⟨x, hx, hk.mono hι, hv.mono hι⟩

section
variable {P : Program} {ι : Inj} {h : AH} {w : World}

theorem WRel.alloc (r : WRel ι h w) {t : Nat} (ht : ι t = none) (hlt : t < h.nx) (h0 : t ≠ 0) {cs : List AV} {vs : Array Value} (e : TypeId) (hl : cs.length ≤ vs.size)
    (hc : ∀ (i : Nat) (x : AV), cs[i]? = some x → ∃ y, vs[i]? = some y ∧ VRel ι x y) : WRel (ι.set t ⟨w.heap.size, 0, vs.size⟩) (h.set t (.cells true cs)) (w.alloc (.cells vs e)) where
  lt s l hs := by
    unfold Inj.set at hs
    by_cases he : s = t
    · subst he; rw [if_pos rfl] at hs; cases hs
      exact ⟨hlt, by rw [World.size_alloc]; exact Nat.lt_succ_self _⟩
    · rw [if_neg he] at hs
      have := r.lt s l hs
      exact ⟨this.1, by rw [World.size_alloc]; omega⟩
  blk s c hs := by
    unfold AH.set at hs
    by_cases he : s = t
    · subst he
      simp only [if_true, Option.some.injEq] at hs
      subst hs
      refine ⟨hlt, ?_⟩
      simp only [BRel]
      refine .inr ⟨⟨w.heap.size, 0, vs.size⟩, vs, e, (0, 0), by simp [Inj.set], heap_alloc_new w _, rfl, by simpa using hl, fun _ => rfl, fun i a ha => ?_⟩
      obtain ⟨y, hy, hr⟩ := hc i a ha
      exact ⟨y, by simpa using hy, hr.mono (Inj.le_set ht _)⟩
    · simp only [if_neg he] at hs
      obtain ⟨h1, h2⟩ := r.blk s c hs
      refine ⟨h1, h2.mono (Inj.le_set ht _) (by simp [Inj.set, he]) fun l hl' => ?_⟩
      have := (r.lt s l hl').2
      exact Go.RowKit.Below.heap_alloc w _ _ this
  inj s s' l l' c c' h1 h2 h3 h4 h5 h6 := by
    unfold AH.set at h1 h2
    unfold Inj.set at h3 h4
    by_cases e1 : s = t <;> by_cases e2 : s' = t
    · rw [e1, e2]
    · subst e1
      simp only [if_true, Option.some.injEq] at h3
      rw [if_neg e2] at h4
      subst h3
      have := (r.lt s' l' h4).2
      simp at h5; omega
    · subst e2
      simp only [if_true, Option.some.injEq] at h4
      rw [if_neg e1] at h3
      subst h4
      have := (r.lt s l h3).2
      simp at h5; omega
    · simp only [if_neg e1] at h1 h3
      simp only [if_neg e2] at h2 h4
      exact r.inj s s' l l' c c' h1 h2 h3 h4 h5 h6
  pos := r.pos
  nil := by simp [Inj.set, Ne.symm h0, r.nil]

/-- What the start of a stretch knew, and a new block. -/
theorem Ext.alloc {ι0 : Inj} {h0 : AH} {w0 : World} (x : Ext ι0 h0 w0 ι h w) {t : Nat} (ht : h0.nx ≤ t) (b : Blk) (o : Obj) (z : Nat) : Ext ι0 h0 w0 (ι.set t ⟨w.heap.size, 0, z⟩) (h.set t b) (w.alloc o) where
  nx := x.nx
  old s hs := by
    have : s ≠ t := by omega
    simp only [Inj.set, if_neg this]
    exact x.old s hs
  os := x.os
  tape := x.tape
  output := x.output
  size := by have := x.size; rw [World.size_alloc]; omega
  keep b hb hk := by rw [Go.RowKit.Below.heap_alloc w _ _ (Nat.lt_of_lt_of_le hb x.size)]; exact x.keep b hb hk
  img s c l hm hc hι := by
    unfold AH.set at hm
    unfold Inj.set at hι
    by_cases e : s = t
    · simp only [if_pos e, Option.some.injEq] at hι
      subst hι
      exact .inl x.size
    · simp only [if_neg e] at hm hι
      exact x.img s c l hm hc hι

/-- A draw from the tape. -/
theorem WRel.drew (r : WRel ι h w) : WRel ι h w.drew := ⟨r.lt, fun t c hc => ⟨(r.blk t c hc).1, (r.blk t c hc).2.mono (fun _ _ x => x) rfl fun _ _ => rfl⟩, r.inj, r.pos, r.nil⟩
theorem Ext.drew {ι0 : Inj} {h0 : AH} {w0 : World} (x : Ext ι0 h0 w0 ι h w) : Ext ι0 h0 w0 ι h w.drew := { x with }
theorem WRel.bump (r : WRel ι h w) (n : Nat) : WRel ι { h with nx := h.nx + n } w :=
  ⟨fun t l ht => ⟨by have := (r.lt t l ht).1; simp; omega, (r.lt t l ht).2⟩, fun t c hc => ⟨by have := (r.blk t c hc).1; simp; omega, (r.blk t c hc).2⟩, r.inj, by have := r.pos; simp; omega, r.nil⟩
theorem Ext.bump {ι0 : Inj} {h0 : AH} {w0 : World} (x : Ext ι0 h0 w0 ι h w) (n : Nat) : Ext ι0 h0 w0 ι { h with nx := h.nx + n } w := { x with nx := by have := x.nx; simp; omega }

/-- A writable row is written. -/
theorem WRel.write (r : WRel ι h w) {t : Nat} {cs : List AV} (hm : h.m t = some (.cells true cs)) {l : Loc} (hl : ι t = some l) {vs : Array Value} {e : TypeId} {fz : Nat × Nat} (hh : w.heap[l.b]? = some (.cells vs e fz))
    {vs' : Array Value} (hs : vs'.size = vs.size) {cs' : List AV} (hlen : l.sh + cs'.length ≤ vs.size) (hc : ∀ (i : Nat) (x : AV), cs'[i]? = some x → ∃ y, vs'[l.sh + i]? = some y ∧ VRel ι x y) :
    WRel ι (h.set t (.cells true cs')) (w.setRow l.b vs') where
  lt s l' hs' := ⟨(r.lt s l' hs').1, by rw [size_setRow]; exact (r.lt s l' hs').2⟩
  blk s c hs' := by
    unfold AH.set at hs'
    have hb := (r.blk t _ hm).2
    simp only [BRel] at hb
    by_cases he : s = t
    · subst he
      simp only [if_true, Option.some.injEq] at hs'
      subst hs'
      refine ⟨(r.blk s _ hm).1, ?_⟩
      simp only [BRel]
      rcases hb with ⟨_, h2⟩ | ⟨l1, vs1, e1, fz1, h1, h2, h3, h4, h5, h6⟩
      · rw [hl] at h2; cases h2
      · rw [hl] at h1; cases h1
        rw [hh] at h2; cases h2
        exact .inr ⟨l, vs', e, fz, hl, setRow_heap w _ _ _ _ _ hh, by omega, by omega, h5, hc⟩
    · simp only [if_neg he] at hs'
      obtain ⟨h1, h2⟩ := r.blk s c hs'
      refine ⟨h1, h2.mono (fun _ _ x => x) rfl fun l' hl' => ?_⟩
      refine setRow_other w _ _ _ fun hbb => ?_
      exact he (r.inj s t l' l c _ hs' hm hl' hl hbb (.inr rfl))
  inj s s' l1 l2 c c' h1 h2 h3 h4 h5 h6 := by
    have hx : ∀ s c, (h.set t (.cells true cs')).m s = some c → ∃ c0, h.m s = some c0 ∧ c0.wr = c.wr := by
      intro s c hs
      unfold AH.set at hs
      by_cases e : s = t
      · subst e; simp only [if_true, Option.some.injEq] at hs; subst hs; exact ⟨_, hm, rfl⟩
      · simp only [if_neg e] at hs; exact ⟨c, hs, rfl⟩
    obtain ⟨c0, q1, q2⟩ := hx s c h1
    obtain ⟨c0', q3, q4⟩ := hx s' c' h2
    exact r.inj s s' l1 l2 c0 c0' q1 q3 h3 h4 h5 (by rw [q2, q4]; exact h6)
  pos := r.pos
  nil := r.nil

theorem Ext.write {ι0 : Inj} {h0 : AH} {w0 : World} (x : Ext ι0 h0 w0 ι h w) {t : Nat} {cs cs' : List AV} (hm : h.m t = some (.cells true cs)) {l : Loc} (hl : ι t = some l) (vs' : Array Value) :
    Ext ι0 h0 w0 ι (h.set t (.cells true cs')) (w.setRow l.b vs') where
  nx := x.nx
  old := x.old
  os := x.os
  tape := x.tape
  output := x.output
  size := by rw [size_setRow]; exact x.size
  keep b hb hk := by
    rw [setRow_other w _ _ _ fun hbl => ?_]
    · exact x.keep b hb hk
    · rcases x.img t _ l hm rfl hl with h1 | ⟨t0, c0, l0, h1, h2, h3, h4⟩
      · omega
      · exact hk t0 c0 l0 h1 h2 h3 (by omega)
  img s c l' hs hc hι := by
    unfold AH.set at hs
    by_cases e : s = t
    · subst e
      exact x.img s _ l' hm rfl hι
    · simp only [if_neg e] at hs
      exact x.img s c l' hs hc hι

/-- Nothing lies at a token any more. -/
theorem AH.kill_le (h : AH) (t : Nat) : (h.kill t).le h := ⟨fun s c hs => by
  unfold AH.kill at hs
  by_cases e : s = t
  · simp [e] at hs
  · simpa [e] using hs, Nat.le_refl _⟩

/-- A row under another token: the same block from a later cell on. -/
theorem WRel.rename (r : WRel ι h w) {t t' : Nat} {cs : List AV} (hm : h.m t = some (.cells true cs)) (ht : ι t' = none) (hlt : t' < h.nx) (h0 : t' ≠ 0) {l : Loc} (hl : ι t = some l) {o : Nat} (ho : o ≤ cs.length) :
    WRel (ι.set t' ⟨l.b, l.sh + o, l.sz⟩) ((h.kill t).set t' (.cells true (cs.drop o))) w where
  lt s l' hs := by
    unfold Inj.set at hs
    by_cases he : s = t'
    · subst he; rw [if_pos rfl] at hs; cases hs
      exact ⟨hlt, (r.lt t l hl).2⟩
    · rw [if_neg he] at hs
      exact r.lt s l' hs
  blk s c hs := by
    unfold AH.set AH.kill at hs
    by_cases he : s = t'
    · subst he
      simp only [if_true, Option.some.injEq] at hs
      subst hs
      refine ⟨hlt, ?_⟩
      have hb := (r.blk t _ hm).2
      simp only [BRel] at hb ⊢
      rcases hb with ⟨_, h2⟩ | ⟨l1, vs1, e1, fz1, h1, h2, h3, h4, h5, h6⟩
      · rw [hl] at h2; cases h2
      · rw [hl] at h1; cases h1
        refine .inr ⟨⟨l.b, l.sh + o, l.sz⟩, vs1, e1, fz1, by simp [Inj.set], h2, h3, ?_, h5, fun i a ha => ?_⟩
        · simp; omega
        · rw [List.getElem?_drop] at ha
          obtain ⟨v, hv, hr⟩ := h6 _ _ ha
          exact ⟨v, by rw [← hv]; congr 1; simp; omega, hr.mono (Inj.le_set ht _)⟩
    · simp only [if_neg he] at hs
      by_cases he2 : s = t
      · simp [he2] at hs
      · simp only [if_neg he2] at hs
        obtain ⟨h1, h2⟩ := r.blk s c hs
        exact ⟨h1, h2.mono (Inj.le_set ht _) (by simp [Inj.set, he]) fun _ _ => rfl⟩
  inj s s' l1 l2 c c' h1 h2 h3 h4 h5 h6 := by
    unfold AH.set AH.kill at h1 h2
    unfold Inj.set at h3 h4
    by_cases e1 : s = t' <;> by_cases e2 : s' = t'
    · rw [e1, e2]
    · subst e1
      simp only [if_true, Option.some.injEq] at h3 h1
      simp only [if_neg e2] at h4 h2
      by_cases e3 : s' = t
      · simp [e3] at h2
      · simp only [if_neg e3] at h2
        subst h3
        exact absurd (r.inj s' t l2 l c' _ h2 hm h4 hl h5.symm (.inr rfl)) e3
    · subst e2
      simp only [if_true, Option.some.injEq] at h4 h2
      simp only [if_neg e1] at h3 h1
      by_cases e3 : s = t
      · simp [e3] at h1
      · simp only [if_neg e3] at h1
        subst h4
        exact absurd (r.inj s t l1 l c _ h1 hm h3 hl h5 (.inr rfl)) e3
    · simp only [if_neg e1] at h1 h3
      simp only [if_neg e2] at h2 h4
      by_cases e3 : s = t
      · simp [e3] at h1
      by_cases e4 : s' = t
      · simp [e4] at h2
      simp only [if_neg e3] at h1
      simp only [if_neg e4] at h2
      exact r.inj s s' l1 l2 c c' h1 h2 h3 h4 h5 h6
  pos := r.pos
  nil := by simp [Inj.set, Ne.symm h0, r.nil]

theorem Ext.rename {ι0 : Inj} {h0 : AH} {w0 : World} (x : Ext ι0 h0 w0 ι h w) {t t' : Nat} {cs cs' : List AV} (hm : h.m t = some (.cells true cs)) {l : Loc} (hl : ι t = some l) (ht : h0.nx ≤ t') (o z : Nat) :
    Ext ι0 h0 w0 (ι.set t' ⟨l.b, o, z⟩) ((h.kill t).set t' (.cells true cs')) w where
  nx := x.nx
  old s hs := by
    have : s ≠ t' := by omega
    simp only [Inj.set, if_neg this]
    exact x.old s hs
  os := x.os
  tape := x.tape
  output := x.output
  size := x.size
  keep := x.keep
  img s c l' hs hc hι := by
    unfold AH.set AH.kill at hs
    unfold Inj.set at hι
    by_cases e : s = t'
    · simp only [if_pos e, Option.some.injEq] at hι
      subst hι
      exact x.img t _ l hm rfl hl
    · simp only [if_neg e] at hs hι
      by_cases e2 : s = t
      · simp [e2] at hs
      · simp only [if_neg e2] at hs
        exact x.img s c l' hs hc hι
end
end Go.Am
