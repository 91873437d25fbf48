/- The abstract machine: how worlds and heaps move on together: a new block, a store, an append. -/
import Derived.Test.YtbhkbaapfioijaaAmE
import Derived.Laws.CopyRow
import Derived.Laws.Append
set_option linter.unusedVariables false
set_option linter.unusedSimpArgs false
namespace Go.Am

def Inj.set (ι : Inj) (t : Nat) (l : Loc) : Inj := ⟨fun s => if s = t then some l else ι s, ι.φ⟩

theorem Inj.le_set {ι : Inj} {t : Nat} (h : ι t = none) (l : Loc) : ι.le (ι.set t l) := Inj.le_of (hφ := rfl) fun s l' hs => by
  unfold Inj.set
  show (if s = t then some l else ι s) = some l'
  by_cases e : s = t
  · subst e; rw [h] at hs; cases hs
  · rw [if_neg e]; exact hs

/-- A token's block says the same in a later world that keeps that block, and for a wider injection. -/
theorem BRel.mono {ι ι' : Inj} {w w' : World} {t : Nat} {c : Blk} (h : BRel ι w t c) (hι : ι.le ι') (ht : ι' t = ι t) (hw : ∀ l, ι t = some l → w'.heap[l.b]? = w.heap[l.b]?) : BRel ι' w' t c := by
  cases c with
  | cells wr cs =>
    simp only [BRel] at *
    rcases h with ⟨h1, h2⟩ | ⟨l, vs, e, fz, h1, h2, h3, h4, h5, h6⟩
    · exact .inl ⟨h1, ht.trans h2⟩
    · refine .inr ⟨l, vs, e, fz, ht.trans h1, (hw l h1).trans h2, h3, h4, h5, fun i a ha => ?_⟩
      obtain ⟨v, hv, hr⟩ := h6 i a ha
      exact ⟨v, hv, hr.mono hι⟩
  | frz cs =>
    simp only [BRel] at *
    obtain ⟨l, vs, e, h1, h2, h3, h4, h6⟩ := h
    refine ⟨l, vs, e, ht.trans h1, (hw l h1).trans h2, h3, h4, fun i a ha => ?_⟩
    obtain ⟨v, hv, hr⟩ := h6 i a ha
    exact ⟨v, hv, hr.mono hι⟩
  | map es =>
    simp only [BRel] at *
    obtain ⟨l, xs, ck, h1, h2, h3, h4⟩ := h
    refine ⟨l, xs, ck, ht.trans h1, (hw l h1).trans h2, h3, fun i k v hi => ?_⟩
    obtain ⟨x, hx, hk, hv⟩ := h4 i k v hi
    exact ⟨x, hx, hk.mono hι, hv.mono hι⟩

section
variable {P : Program} {ι : Inj} {h : AH} {w : World}

theorem WRel.alloc (r : WRel ι h w) {t : Nat} (ht : ι t = none) (hlt : t < h.nx) (h0 : t ≠ 0) {cs : List AV} {vs : Array Value} (e : TypeId) (hl : cs.length ≤ vs.size)
    (hc : ∀ (i : Nat) (x : AV), cs[i]? = some x → ∃ y, vs[i]? = some y ∧ VRel ι x y) : WRel (ι.set t ⟨w.heap.size, 0, vs.size⟩) (h.set t (.cells true cs)) (w.alloc (.cells vs e)) where
  lt s l hs := by
    change (if s = _ then _ else ι s) = _ at hs
    by_cases he : s = t
    · subst he; rw [if_pos rfl] at hs; cases hs
      exact ⟨hlt, by rw [World.size_alloc]; exact Nat.lt_succ_self _⟩
    · rw [if_neg he] at hs
      have := r.lt s l hs
      exact ⟨this.1, by rw [World.size_alloc]; omega⟩
  blk s c hs := by
    unfold AH.set at hs
    by_cases he : s = t
    · subst he
      simp only [if_true, Option.some.injEq] at hs
      subst hs
      refine ⟨hlt, ?_⟩
      simp only [BRel]
      refine .inr ⟨⟨w.heap.size, 0, vs.size⟩, vs, e, (0, 0), by simp [Inj.set], heap_alloc_new w _, rfl, by simpa using hl, fun _ => rfl, fun i a ha => ?_⟩
      obtain ⟨y, hy, hr⟩ := hc i a ha
      exact ⟨y, by simpa using hy, hr.mono (Inj.le_set ht _)⟩
    · simp only [if_neg he] at hs
      obtain ⟨h1, h2⟩ := r.blk s c hs
      refine ⟨h1, h2.mono (Inj.le_set ht _) (by simp [Inj.set, he]) fun l hl' => ?_⟩
      have := (r.lt s l hl').2
      exact Go.RowKit.Below.heap_alloc w _ _ this
  inj s s' l l' c c' h1 h2 h3 h4 h5 h6 := by
    unfold AH.set at h1 h2
    change (if s = _ then _ else ι s) = _ at h3
    change (if s' = _ then _ else ι s') = _ at h4
    by_cases e1 : s = t <;> by_cases e2 : s' = t
    · rw [e1, e2]
    · subst e1
      simp only [if_true, Option.some.injEq] at h3
      rw [if_neg e2] at h4
      subst h3
      have := (r.lt s' l' h4).2
      simp at h5; omega
    · subst e2
      simp only [if_true, Option.some.injEq] at h4
      rw [if_neg e1] at h3
      subst h4
      have := (r.lt s l h3).2
      simp at h5; omega
    · simp only [if_neg e1] at h1 h3
      simp only [if_neg e2] at h2 h4
      exact r.inj s s' l l' c c' h1 h2 h3 h4 h5 h6
  pos := r.pos
  nil := by simp [Inj.set, Ne.symm h0, r.nil]
  phi := phi_step (h' := h.set t (.cells true cs)) r rfl (fun b hb _ => Go.RowKit.Below.heap_alloc w _ _ hb) fun s c l hm hc hl => by
    unfold AH.set at hm
    change (if s = t then _ else ι s) = _ at hl
    by_cases e : s = t
    · simp only [if_pos e, Option.some.injEq] at hl
      subst hl
      exact .inl (Nat.le_refl _)
    · simp only [if_neg e] at hm hl
      exact .inr ⟨s, c, l, hm, hc, hl, rfl⟩

/-- What the start of a stretch knew, and a new block. -/
theorem Ext.alloc {ι0 : Inj} {h0 : AH} {w0 : World} (x : Ext ι0 h0 w0 ι h w) {t : Nat} (ht : h0.nx ≤ t) (b : Blk) (o : Obj) (z : Nat) : Ext ι0 h0 w0 (ι.set t ⟨w.heap.size, 0, z⟩) (h.set t b) (w.alloc o) where
  nx := x.nx
  old s hs := by
    have : s ≠ t := by omega
    show (if s = _ then _ else ι s) = _
    rw [if_neg this]
    exact x.old s hs
  os := x.os
  tape := x.tape
  output := x.output
  size := by have := x.size; rw [World.size_alloc]; omega
  keep b hb hk := by rw [Go.RowKit.Below.heap_alloc w _ _ (Nat.lt_of_lt_of_le hb x.size)]; exact x.keep b hb hk
  img s c l hm hc hι := by
    unfold AH.set at hm
    change (if s = _ then _ else ι s) = _ at hι
    by_cases e : s = t
    · simp only [if_pos e, Option.some.injEq] at hι
      subst hι
      exact .inl x.size
    · simp only [if_neg e] at hm hι
      exact x.img s c l hm hc hι
  phi := x.phi
  new := x.new
  drawn := x.drawn

/-- A draw from the tape. -/
theorem WRel.drew (r : WRel ι h w) : WRel ι h w.drew := ⟨r.lt, fun t c hc => ⟨(r.blk t c hc).1, (r.blk t c hc).2.mono (Inj.le_refl _) rfl fun _ _ => rfl⟩, r.inj, r.pos, r.nil, r.phi⟩
theorem Ext.drew {ι0 : Inj} {h0 : AH} {w0 : World} (x : Ext ι0 h0 w0 ι h w) : Ext ι0 h0 w0 ι h w.drew := { x with drawn := Nat.le_succ_of_le x.drawn }
theorem WRel.bump (r : WRel ι h w) (n : Nat) : WRel ι { h with nx := h.nx + n } w :=
  ⟨fun t l ht => ⟨by have := (r.lt t l ht).1; simp; omega, (r.lt t l ht).2⟩, fun t c hc => ⟨by have := (r.blk t c hc).1; simp; omega, (r.blk t c hc).2⟩, r.inj, by have := r.pos; simp; omega, r.nil, r.phi⟩
theorem Ext.bump {ι0 : Inj} {h0 : AH} {w0 : World} (x : Ext ι0 h0 w0 ι h w) (n : Nat) : Ext ι0 h0 w0 ι { h with nx := h.nx + n } w := { x with nx := by have := x.nx; simp; omega }

/-- A writable row is written. -/
theorem WRel.write (r : WRel ι h w) {t : Nat} {cs : List AV} (hm : h.m t = some (.cells true cs)) {l : Loc} (hl : ι t = some l) {vs : Array Value} {e : TypeId} {fz : Nat × Nat} (hh : w.heap[l.b]? = some (.cells vs e fz))
    {vs' : Array Value} (hs : vs'.size = vs.size) {cs' : List AV} (hlen : l.sh + cs'.length ≤ vs.size) (hc : ∀ (i : Nat) (x : AV), cs'[i]? = some x → ∃ y, vs'[l.sh + i]? = some y ∧ VRel ι x y) :
    WRel ι (h.set t (.cells true cs')) (w.setRow l.b vs') where
  lt s l' hs' := ⟨(r.lt s l' hs').1, by rw [size_setRow]; exact (r.lt s l' hs').2⟩
  blk s c hs' := by
    unfold AH.set at hs'
    have hb := (r.blk t _ hm).2
    simp only [BRel] at hb
    by_cases he : s = t
    · subst he
      simp only [if_true, Option.some.injEq] at hs'
      subst hs'
      refine ⟨(r.blk s _ hm).1, ?_⟩
      simp only [BRel]
      rcases hb with ⟨_, h2⟩ | ⟨l1, vs1, e1, fz1, h1, h2, h3, h4, h5, h6⟩
      · rw [hl] at h2; cases h2
      · rw [hl] at h1; cases h1
        rw [hh] at h2; cases h2
        exact .inr ⟨l, vs', e, fz, hl, setRow_heap w _ _ _ _ _ hh, by omega, by omega, h5, hc⟩
    · simp only [if_neg he] at hs'
      obtain ⟨h1, h2⟩ := r.blk s c hs'
      refine ⟨h1, h2.mono (Inj.le_refl _) rfl fun l' hl' => ?_⟩
      refine setRow_other w _ _ _ fun hbb => ?_
      exact he (r.inj s t l' l c _ hs' hm hl' hl hbb (.inr rfl))
  inj s s' l1 l2 c c' h1 h2 h3 h4 h5 h6 := by
    have hx : ∀ s c, (h.set t (.cells true cs')).m s = some c → ∃ c0, h.m s = some c0 ∧ c0.wr = c.wr := by
      intro s c hs
      unfold AH.set at hs
      by_cases e : s = t
      · subst e; simp only [if_true, Option.some.injEq] at hs; subst hs; exact ⟨_, hm, rfl⟩
      · simp only [if_neg e] at hs; exact ⟨c, hs, rfl⟩
    obtain ⟨c0, q1, q2⟩ := hx s c h1
    obtain ⟨c0', q3, q4⟩ := hx s' c' h2
    exact r.inj s s' l1 l2 c0 c0' q1 q3 h3 h4 h5 (by rw [q2, q4]; exact h6)
  pos := r.pos
  nil := r.nil
  phi := phi_step (h' := h.set t (.cells true cs')) r rfl (fun b hb ho => setRow_other w _ _ _ fun e => ho t _ l hm rfl hl e.symm) fun s c l' hs hc hl' => by
    unfold AH.set at hs
    by_cases e : s = t
    · subst e; exact .inr ⟨s, _, l', hm, rfl, hl', rfl⟩
    · simp only [if_neg e] at hs
      exact .inr ⟨s, c, l', hs, hc, hl', rfl⟩

theorem Ext.write {ι0 : Inj} {h0 : AH} {w0 : World} (x : Ext ι0 h0 w0 ι h w) {t : Nat} {cs cs' : List AV} (hm : h.m t = some (.cells true cs)) {l : Loc} (hl : ι t = some l) (vs' : Array Value) :
    Ext ι0 h0 w0 ι (h.set t (.cells true cs')) (w.setRow l.b vs') where
  nx := x.nx
  old := x.old
  os := x.os
  tape := x.tape
  output := x.output
  size := by rw [size_setRow]; exact x.size
  keep b hb hk := by
    rw [setRow_other w _ _ _ fun hbl => ?_]
    · exact x.keep b hb hk
    · rcases x.img t _ l hm rfl hl with h1 | ⟨t0, c0, l0, h1, h2, h3, h4⟩
      · omega
      · exact hk t0 c0 l0 h1 h2 h3 (by omega)
  img s c l' hs hc hι := by
    unfold AH.set at hs
    by_cases e : s = t
    · subst e
      exact x.img s _ l' hm rfl hι
    · simp only [if_neg e] at hs
      exact x.img s c l' hs hc hι
  phi := x.phi
  new := x.new
  drawn := x.drawn

/-- Nothing lies at a token any more. -/
theorem AH.kill_le (h : AH) (t : Nat) : (h.kill t).le h := ⟨fun s c hs => by
  unfold AH.kill at hs
  by_cases e : s = t
  · simp [e] at hs
  · simpa [e] using hs, Nat.le_refl _⟩

/-- A row under another token: the same block from a later cell on. -/
theorem WRel.rename (r : WRel ι h w) {t t' : Nat} {cs : List AV} (hm : h.m t = some (.cells true cs)) (ht : ι t' = none) (hlt : t' < h.nx) (h0 : t' ≠ 0) {l : Loc} (hl : ι t = some l) {o : Nat} (ho : o ≤ cs.length) :
    WRel (ι.set t' ⟨l.b, l.sh + o, l.sz⟩) ((h.kill t).set t' (.cells true (cs.drop o))) w where
  lt s l' hs := by
    change (if s = _ then _ else ι s) = _ at hs
    by_cases he : s = t'
    · subst he; rw [if_pos rfl] at hs; cases hs
      exact ⟨hlt, (r.lt t l hl).2⟩
    · rw [if_neg he] at hs
      exact r.lt s l' hs
  blk s c hs := by
    unfold AH.set AH.kill at hs
    by_cases he : s = t'
    · subst he
      simp only [if_true, Option.some.injEq] at hs
      subst hs
      refine ⟨hlt, ?_⟩
      have hb := (r.blk t _ hm).2
      simp only [BRel] at hb ⊢
      rcases hb with ⟨_, h2⟩ | ⟨l1, vs1, e1, fz1, h1, h2, h3, h4, h5, h6⟩
      · rw [hl] at h2; cases h2
      · rw [hl] at h1; cases h1
        refine .inr ⟨⟨l.b, l.sh + o, l.sz⟩, vs1, e1, fz1, by simp [Inj.set], h2, h3, ?_, h5, fun i a ha => ?_⟩
        · simp; omega
        · rw [List.getElem?_drop] at ha
          obtain ⟨v, hv, hr⟩ := h6 _ _ ha
          exact ⟨v, by rw [← hv]; congr 1; simp; omega, hr.mono (Inj.le_set ht _)⟩
    · simp only [if_neg he] at hs
      by_cases he2 : s = t
      · simp [he2] at hs
      · simp only [if_neg he2] at hs
        obtain ⟨h1, h2⟩ := r.blk s c hs
        exact ⟨h1, h2.mono (Inj.le_set ht _) (by simp [Inj.set, he]) fun _ _ => rfl⟩
  inj s s' l1 l2 c c' h1 h2 h3 h4 h5 h6 := by
    unfold AH.set AH.kill at h1 h2
    change (if s = _ then _ else ι s) = _ at h3
    change (if s' = _ then _ else ι s') = _ at h4
    by_cases e1 : s = t' <;> by_cases e2 : s' = t'
    · rw [e1, e2]
    · subst e1
      simp only [if_true, Option.some.injEq] at h3 h1
      simp only [if_neg e2] at h4 h2
      by_cases e3 : s' = t
      · simp [e3] at h2
      · simp only [if_neg e3] at h2
        subst h3
        exact absurd (r.inj s' t l2 l c' _ h2 hm h4 hl h5.symm (.inr rfl)) e3
    · subst e2
      simp only [if_true, Option.some.injEq] at h4 h2
      simp only [if_neg e1] at h3 h1
      by_cases e3 : s = t
      · simp [e3] at h1
      · simp only [if_neg e3] at h1
        subst h4
        exact absurd (r.inj s t l1 l c _ h1 hm h3 hl h5 (.inr rfl)) e3
    · simp only [if_neg e1] at h1 h3
      simp only [if_neg e2] at h2 h4
      by_cases e3 : s = t
      · simp [e3] at h1
      by_cases e4 : s' = t
      · simp [e4] at h2
      simp only [if_neg e3] at h1
      simp only [if_neg e4] at h2
      exact r.inj s s' l1 l2 c c' h1 h2 h3 h4 h5 h6
  pos := r.pos
  nil := by simp [Inj.set, Ne.symm h0, r.nil]
  phi := phi_step (h' := (h.kill t).set t' (.cells true (cs.drop o))) r rfl (fun b hb _ => rfl) fun s c l' hs hc hl' => by
    unfold AH.set AH.kill at hs
    change (if s = t' then _ else ι s) = _ at hl'
    by_cases e : s = t'
    · simp only [if_pos e, Option.some.injEq] at hl'
      subst hl'
      exact .inr ⟨t, _, l, hm, rfl, hl, rfl⟩
    · simp only [if_neg e] at hs hl'
      by_cases e2 : s = t
      · simp [e2] at hs
      · simp only [if_neg e2] at hs
        exact .inr ⟨s, c, l', hs, hc, hl', rfl⟩

theorem Ext.rename {ι0 : Inj} {h0 : AH} {w0 : World} (x : Ext ι0 h0 w0 ι h w) {t t' : Nat} {cs cs' : List AV} (hm : h.m t = some (.cells true cs)) {l : Loc} (hl : ι t = some l) (ht : h0.nx ≤ t') (o z : Nat) :
    Ext ι0 h0 w0 (ι.set t' ⟨l.b, o, z⟩) ((h.kill t).set t' (.cells true cs')) w where
  nx := x.nx
  old s hs := by
    have : s ≠ t' := by omega
    show (if s = _ then _ else ι s) = _
    rw [if_neg this]
    exact x.old s hs
  os := x.os
  tape := x.tape
  output := x.output
  size := x.size
  keep := x.keep
  img s c l' hs hc hι := by
    unfold AH.set AH.kill at hs
    change (if s = _ then _ else ι s) = _ at hι
    by_cases e : s = t'
    · simp only [if_pos e, Option.some.injEq] at hι
      subst hι
      exact x.img t _ l hm rfl hl
    · simp only [if_neg e] at hs hι
      by_cases e2 : s = t
      · simp [e2] at hs
      · simp only [if_neg e2] at hs
        exact x.img s c l' hs hc hι
  phi := x.phi
  new := x.new
  drawn := x.drawn

/-! ### A block that is never written again -/
/-- a token is given up, its block frozen for good -/
def Inj.fr (ι : Inj) (b : Nat) (xs : Array Value) : Inj := ⟨ι.f, fun c => if c = b then some xs else ι.φ c⟩
theorem Inj.le_fr {ι : Inj} {b : Nat} {xs : Array Value} (h : ι.φ b = none) : ι.le (ι.fr b xs) := ⟨fun _ _ x => x, fun c ys hc => by
  show (if c = b then some xs else ι.φ c) = some ys
  by_cases e : c = b
  · subst e; rw [h] at hc; cases hc
  · rw [if_neg e]; exact hc⟩
theorem WRel.freeze (r : WRel ι h w) {t : Nat} {cs : List AV} (hm : h.m t = some (.cells true cs)) {l : Loc} (hl : ι t = some l) :
    ∃ xs : Array Value, ι.φ l.b = none ∧ xs.size = l.sz ∧ Lies ι cs xs l.sh ∧ l.sh + cs.length ≤ l.sz ∧ WRel (ι.fr l.b xs) (h.kill t) w ∧ (∀ {ι0 : Inj} {h0 : AH} {w0 : World}, Ext ι0 h0 w0 ι h w → Ext ι0 h0 w0 (ι.fr l.b xs) (h.kill t) w) := by
  have hb := (r.blk t _ hm).2
  simp only [BRel] at hb
  rcases hb with ⟨_, h2⟩ | ⟨l1, vs, e, fz, h1, h2, h3, h4, h5, h6⟩
  · rw [hl] at h2; cases h2
  rw [hl] at h1; cases h1
  have hp : ι.φ l.b = none := by
    cases hq : ι.φ l.b with
    | none => rfl
    | some ys => exact absurd rfl ((r.phi l.b ys hq).2 t _ l hm rfl hl)
  have hk : ∀ s c, (h.kill t).m s = some c → s ≠ t ∧ h.m s = some c := fun s c hs => by
    unfold AH.kill at hs
    by_cases e : s = t
    · simp [e] at hs
    · simp only [if_neg e] at hs; exact ⟨e, hs⟩
  refine ⟨vs, hp, h3, ?_, h4, ⟨r.lt, fun s c hs => ?_, fun s s' l1 l2 c c' q1 q2 => r.inj s s' l1 l2 c c' (hk _ _ q1).2 (hk _ _ q2).2, r.pos, r.nil, fun b xs hx => ?_⟩, fun x => ⟨x.nx, x.old, x.os, x.tape, x.output, x.size, x.keep, fun s c l' hs => x.img s c l' (hk _ _ hs).2, fun b xs hb => (Inj.le_fr hp).phi b xs (x.phi b xs hb), fun b xs hx => ?_, x.drawn⟩⟩
  · refine VRels_iff.2 ⟨by simp; omega, fun i a v ha hv => ?_⟩
    obtain ⟨u, hu, hr⟩ := h6 i a ha
    rw [List.getElem?_take] at hv
    split at hv
    · rw [List.getElem?_drop, Array.getElem?_toList, hu] at hv
      cases hv; exact hr
    · cases hv
  · obtain ⟨_, hs'⟩ := hk _ _ hs
    exact ⟨(r.blk s c hs').1, (r.blk s c hs').2.mono (Inj.le_fr hp) rfl fun _ _ => rfl⟩
  · change (if b = l.b then some vs else ι.φ b) = some xs at hx
    by_cases e' : b = l.b
    · rw [if_pos e'] at hx
      cases hx
      subst e'
      refine ⟨⟨e, fz, h2⟩, fun s c l' hs hc hl' hbb => ?_⟩
      obtain ⟨hne, hs'⟩ := hk _ _ hs
      exact hne (r.inj s t l' l c _ hs' hm hl' hl hbb (.inr rfl))
    · rw [if_neg e'] at hx
      exact ⟨(r.phi b xs hx).1, fun s c l' hs hc hl' => (r.phi b xs hx).2 s c l' (hk _ _ hs).2 hc hl'⟩
  · change (if b = l.b then some vs else ι.φ b) = some xs at hx
    by_cases e' : b = l.b
    · subst e'
      exact .inr (x.img t _ l hm rfl hl)
    · rw [if_neg e'] at hx
      exact x.new b xs hx
end
end Go.Am
