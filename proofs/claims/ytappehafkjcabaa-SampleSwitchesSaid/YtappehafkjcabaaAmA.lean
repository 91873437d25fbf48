/- The abstract machine: values, heaps, and how they relate to the model's worlds. -/
import Derived.Orders
import Derived.Laws.Sem
import Derived.Laws.World
import Derived.Laws.Cells
import Derived.Below
set_option linter.unusedVariables false
set_option linter.unusedSimpArgs false
namespace Go.Am

/-- Abstract values: tokens in the place of block numbers; nothing of capacities. -/
inductive AV where
  | un
  | b (x : Bool)
  | i (k : IntKind) (n : Int)
  | s (x : ByteArray)
  | p (t o : Nat)
  | nilp
  | sl (t o n a : Nat)
  | fn (f : Nat) (fst caps : List AV)
  | nilf
  | mp (t : Nat)
  | nilm
  | ag (cs : List AV)
  | tu (vs : List AV)
  | gd (g : Bool) (v : AV)
  deriving Inhabited

/-- Where a token lies: block, shift, the block's size in cells. -/
structure Loc where
  b : Nat
  sh : Nat
  sz : Nat

abbrev Inj := Nat → Option Loc

mutual
def VRel (ι : Inj) : AV → Value → Prop
  | .un, _ => True
  | .b x, v => v = .bool x
  | .i k n, v => v = .int k n
  | .s x, v => v = .string x
  | .p t o, v => ∃ l, ι t = some l ∧ v = .pointer (some ⟨l.b, l.sh + o, none⟩)
  | .nilp, v => v = .pointer none
  | .sl t o n a, v => (n = 0 ∧ ∃ x, v = .slice x 0 0) ∨
      ∃ l cap, ι t = some l ∧ v = .slice (some ⟨l.b, l.sh + o, none⟩) n cap ∧ n ≤ cap ∧ (a = 0 ∨ l.sh + o + cap * a ≤ l.sz)
  | .fn f fst caps, v => ∃ x y, v = .func (.func f) x y ∧ VRels ι fst x.toList ∧ VRels ι caps y.toList
  | .nilf, v => v = .nilFunc
  | .mp t, v => ∃ l, ι t = some l ∧ v = .map (some l.b)
  | .nilm, v => v = .map none
  | .ag cs, v => ∃ x, v = .agg x ∧ VRels ι cs x.toList
  | .tu vs, v => ∃ x, v = .tuple x ∧ VRels ι vs x.toList
  | .gd g a, v => (g = true → VRel ι a v) ∧ (g = false → v = .tuple #[])
def VRels (ι : Inj) : List AV → List Value → Prop
  | [], vs => vs = []
  | a :: as, vs => ∃ v r, vs = v :: r ∧ VRel ι a v ∧ VRels ι as r
end

theorem VRels_iff {ι : Inj} : ∀ {as : List AV} {vs : List Value}, VRels ι as vs ↔ as.length = vs.length ∧ ∀ (i : Nat) (a : AV) (v : Value), as[i]? = some a → vs[i]? = some v → VRel ι a v
  | [], vs => by
    simp only [VRels]
    constructor
    · rintro rfl; exact ⟨rfl, fun i a v h => by simp at h⟩
    · rintro ⟨h, _⟩; exact List.length_eq_zero_iff.1 h.symm
  | a :: as, vs => by
    simp only [VRels]
    constructor
    · rintro ⟨v, r, rfl, h1, h2⟩
      obtain ⟨hl, hr⟩ := VRels_iff.1 h2
      refine ⟨by simp [hl], fun i x y hx hy => ?_⟩
      cases i with
      | zero => simp at hx hy; subst hx; subst hy; exact h1
      | succ i => simp at hx hy; exact hr i x y hx hy
    · rintro ⟨hl, hr⟩
      match vs, hl with
      | v :: r, hl => exact ⟨v, r, rfl, hr 0 a v rfl rfl, VRels_iff.2 ⟨by simpa using hl, fun i x y hx hy => hr (i + 1) x y (by simpa using hx) (by simpa using hy)⟩⟩

/-- ι' knows at least what ι knows. -/
def Inj.le (ι ι' : Inj) : Prop := ∀ t l, ι t = some l → ι' t = some l
theorem Inj.le_refl (ι : Inj) : ι.le ι := fun _ _ h => h
theorem Inj.le_trans {a b c : Inj} (h : a.le b) (k : b.le c) : a.le c := fun t l x => k t l (h t l x)

mutual
theorem VRel.mono {ι ι' : Inj} (h : ι.le ι') : ∀ {a : AV} {v : Value}, VRel ι a v → VRel ι' a v
  | .un, _, _ => by simp [VRel]
  | .b x, v, r => by simpa [VRel] using r
  | .i k n, v, r => by simpa [VRel] using r
  | .s x, v, r => by simpa [VRel] using r
  | .p t o, v, r => by simp only [VRel] at *; obtain ⟨l, h1, h2⟩ := r; exact ⟨l, h _ _ h1, h2⟩
  | .nilp, v, r => by simpa [VRel] using r
  | .sl t o n a, v, r => by
    simp only [VRel] at *
    rcases r with r | ⟨l, c, h1, h2⟩
    · exact .inl r
    · exact .inr ⟨l, c, h _ _ h1, h2⟩
  | .fn f fst caps, v, r => by simp only [VRel] at *; obtain ⟨x, y, h1, h2, h3⟩ := r; exact ⟨x, y, h1, VRels.mono h h2, VRels.mono h h3⟩
  | .nilf, v, r => by simpa [VRel] using r
  | .mp t, v, r => by simp only [VRel] at *; obtain ⟨l, h1, h2⟩ := r; exact ⟨l, h _ _ h1, h2⟩
  | .nilm, v, r => by simpa [VRel] using r
  | .ag cs, v, r => by simp only [VRel] at *; obtain ⟨x, h1, h2⟩ := r; exact ⟨x, h1, VRels.mono h h2⟩
  | .tu cs, v, r => by simp only [VRel] at *; obtain ⟨x, h1, h2⟩ := r; exact ⟨x, h1, VRels.mono h h2⟩
  | .gd g a, v, r => by simp only [VRel] at *; exact ⟨fun hg => VRel.mono h (r.1 hg), r.2⟩
theorem VRels.mono {ι ι' : Inj} (h : ι.le ι') : ∀ {as : List AV} {vs : List Value}, VRels ι as vs → VRels ι' as vs
  | [], _, r => by simpa [VRels] using r
  | a :: as, vs, r => by simp only [VRels] at *; obtain ⟨v, t, h1, h2, h3⟩ := r; exact ⟨v, t, h1, VRel.mono h h2, VRels.mono h h3⟩
end

/-- The cells that a value fills. -/
def AV.cells : AV → List AV
  | .ag cs => cs
  | v => [v]
/-- fills one cell -/
def AV.one : AV → Bool
  | .un | .ag _ | .tu _ | .gd _ _ => false
  | _ => true
theorem VRel.one {ι : Inj} {a : AV} {v : Value} (h : VRel ι a v) (hk : a.one = true) : v.oneCell' = true := by
  cases a <;> simp [AV.one] at hk <;> simp only [VRel] at h
  case sl => rcases h with ⟨_, x, rfl⟩ | ⟨l, c, _, rfl, _⟩ <;> rfl
  all_goals first
    | (subst h; rfl)
    | (obtain ⟨_, _, rfl⟩ := h; rfl)
    | (obtain ⟨_, _, rfl, _⟩ := h; rfl)
def AV.known : AV → Bool
  | .un | .gd _ _ => false
  | _ => true

theorem VRel.cells {ι : Inj} {a : AV} {v : Value} (h : VRel ι a v) (hk : a.known = true) : VRels ι a.cells v.cells.toList := by
  cases a with
  | un => simp [AV.known] at hk
  | gd g v => simp [AV.known] at hk
  | ag cs => simp only [VRel] at h; obtain ⟨x, rfl, h2⟩ := h; exact h2
  | sl t o n a =>
    have h0 := h
    simp only [VRel] at h
    rcases h with ⟨_, x, rfl⟩ | ⟨l, c, _, rfl, _⟩ <;> simp only [AV.cells, Value.cells, VRels] <;> exact ⟨_, _, rfl, h0, rfl⟩
  | _ =>
    have h0 := h
    simp only [VRel] at h
    first
      | (subst h; simp only [AV.cells, Value.cells, VRels]; exact ⟨_, _, rfl, h0, rfl⟩)
      | (obtain ⟨_, _, rfl⟩ := h; simp only [AV.cells, Value.cells, VRels]; exact ⟨_, _, rfl, h0, rfl⟩)
      | (obtain ⟨_, rfl, _⟩ := h; simp only [AV.cells, Value.cells, VRels]; exact ⟨_, _, rfl, h0, rfl⟩)
      | (obtain ⟨_, _, rfl, _⟩ := h; simp only [AV.cells, Value.cells, VRels]; exact ⟨_, _, rfl, h0, rfl⟩)

/-- A block of the abstract heap: a row of cells (may it be written?), or a map's entries in the order in which they came. -/
inductive Blk where
  | cells (wr : Bool) (cs : List AV)
  | map (es : List (AV × AV))

def Blk.wr : Blk → Bool
  | .cells w _ => w
  | .map _ => true

structure AH where
  m : Nat → Option Blk
  nx : Nat

/-- A token's block in the world. -/
def BRel (ι : Inj) (w : World) (t : Nat) : Blk → Prop
  | .cells wr cs => (cs = [] ∧ ι t = none) ∨ ∃ l vs e fz, ι t = some l ∧ w.heap[l.b]? = some (.cells vs e fz) ∧ vs.size = l.sz ∧ l.sh + cs.length ≤ l.sz ∧
      (wr = true → fz = (0, 0)) ∧ ∀ (i : Nat) (a : AV), cs[i]? = some a → ∃ v : Value, vs[l.sh + i]? = some v ∧ VRel ι a v
  | .map es => ∃ l xs ck, ι t = some l ∧ w.heap[l.b]? = some (.map xs ck) ∧ es.length = xs.size ∧
      ∀ (i : Nat) (k v : AV), es[i]? = some (k, v) → ∃ x : MapEntry, xs[i]? = some x ∧ VRel ι k x.key ∧ VRel ι v x.val

structure WRel (ι : Inj) (h : AH) (w : World) : Prop where
  lt : ∀ t l, ι t = some l → t < h.nx ∧ l.b < w.heap.size
  blk : ∀ t c, h.m t = some c → t < h.nx ∧ BRel ι w t c
  inj : ∀ t t' l l' c c', h.m t = some c → h.m t' = some c' → ι t = some l → ι t' = some l' → l.b = l'.b → (c.wr = true ∨ c'.wr = true) → t = t'
  pos : 0 < h.nx
  nil : ι 0 = none

/-- What a stretch of code may do to the world: tokens keep their places; blocks that no writable token owns keep their contents. -/
structure Ext (ι : Inj) (h : AH) (w : World) (ι' : Inj) (h' : AH) (w' : World) : Prop where
  nx : h.nx ≤ h'.nx
  old : ∀ t, t < h.nx → ι' t = ι t
  os : w'.os = w.os
  tape : w'.tape = w.tape
  output : w'.output = w.output
  size : w.heap.size ≤ w'.heap.size
  keep : ∀ b, b < w.heap.size → (∀ t c l, h.m t = some c → c.wr = true → ι t = some l → l.b ≠ b) → w'.heap[b]? = w.heap[b]?
  img : ∀ t c l, h'.m t = some c → c.wr = true → ι' t = some l → w.heap.size ≤ l.b ∨ ∃ t0 c0 l0, h.m t0 = some c0 ∧ c0.wr = true ∧ ι t0 = some l0 ∧ l0.b = l.b

theorem Ext.le {ι ι' : Inj} {h h' : AH} {w w' : World} (e : Ext ι h w ι' h' w') (hw : WRel ι h w) : ι.le ι' :=
  fun t l ht => by rw [e.old t (hw.lt t l ht).1]; exact ht

theorem Ext.refl (ι : Inj) (h : AH) (w : World) : Ext ι h w ι h w :=
  ⟨Nat.le_refl _, fun _ _ => rfl, rfl, rfl, rfl, Nat.le_refl _, fun _ _ _ => rfl, fun t c l hm hc hι => .inr ⟨t, c, l, hm, hc, hι, rfl⟩⟩

theorem Ext.trans {ι ι' ι'' : Inj} {h h' h'' : AH} {w w' w'' : World} (e : Ext ι h w ι' h' w') (f : Ext ι' h' w' ι'' h'' w'') : Ext ι h w ι'' h'' w'' where
  nx := Nat.le_trans e.nx f.nx
  old t ht := by rw [f.old t (Nat.lt_of_lt_of_le ht e.nx), e.old t ht]
  os := f.os.trans e.os
  tape := f.tape.trans e.tape
  output := f.output.trans e.output
  size := Nat.le_trans e.size f.size
  keep b hb hk := by
    rw [f.keep b (Nat.lt_of_lt_of_le hb e.size) fun t c l hm hc hι hbl => ?_]
    · exact e.keep b hb hk
    · rcases e.img t c l hm hc hι with h1 | ⟨t0, c0, l0, hm0, hc0, hι0, hb0⟩
      · omega
      · exact hk t0 c0 l0 hm0 hc0 hι0 (hb0.trans hbl)
  img t c l hm hc hι := by
    rcases f.img t c l hm hc hι with h1 | ⟨t0, c0, l0, hm0, hc0, hι0, hb0⟩
    · exact .inl (Nat.le_trans e.size h1)
    · rcases e.img t0 c0 l0 hm0 hc0 hι0 with h2 | ⟨t1, c1, l1, hm1, hc1, hι1, hb1⟩
      · exact .inl (by omega)
      · exact .inr ⟨t1, c1, l1, hm1, hc1, hι1, hb1.trans hb0⟩

/-- A smaller heap: some tokens are forgotten. -/
def AH.le (h h' : AH) : Prop := (∀ t c, h.m t = some c → h'.m t = some c) ∧ h'.nx ≤ h.nx
theorem AH.le_refl (h : AH) : h.le h := ⟨fun _ _ x => x, Nat.le_refl _⟩
theorem AH.le_trans {a b c : AH} (h : a.le b) (k : b.le c) : a.le c := ⟨fun t x y => k.1 t x (h.1 t x y), Nat.le_trans k.2 h.2⟩

theorem WRel.drop {ι : Inj} {h h' : AH} {w : World} (r : WRel ι h w) (le : h'.le h) : WRel ι h' w where
  lt t l ht := ⟨Nat.lt_of_lt_of_le (r.lt t l ht).1 le.2, (r.lt t l ht).2⟩
  blk t c hc := ⟨Nat.lt_of_lt_of_le (r.blk t c (le.1 t c hc)).1 le.2, (r.blk t c (le.1 t c hc)).2⟩
  inj t t' l l' c c' h1 h2 := r.inj t t' l l' c c' (le.1 _ _ h1) (le.1 _ _ h2)
  pos := Nat.lt_of_lt_of_le r.pos le.2
  nil := r.nil

theorem Ext.drop {ι ι' : Inj} {h h' h'' : AH} {w w' : World} (e : Ext ι h w ι' h' w') (le : h''.le h') : Ext ι h w ι' h'' w' :=
  { e with nx := Nat.le_trans e.nx le.2, img := fun t c l hm => e.img t c l (le.1 t c hm) }

/-- the slots' state: the last entry of a slot counts -/
abbrev St := List (Nat × AV)
def St.get : St → Nat → AV
  | [], _ => .un
  | (d, v) :: r, t => if t = d then v else St.get r t

structure ARel (N : Nat) (ι : Inj) (st : St) (a : Act) : Prop where
  size : a.tmps.size = N
  defs : a.defers = []
  slot : ∀ d, VRel ι (st.get d) (a.tmps.getD d undef)

theorem ARel.mono {N : Nat} {ι ι' : Inj} {st : St} {a : Act} (r : ARel N ι st a) (h : ι.le ι') : ARel N ι' st a :=
  ⟨r.size, r.defs, fun d => (r.slot d).mono h⟩

theorem ARel.put {N : Nat} {ι : Inj} {st : St} {a : Act} (r : ARel N ι st a) {d : Nat} (hd : d < N) {x : AV} {v : Value} (hv : VRel ι x v) :
    ARel N ι ((d, x) :: st) (a.put (some d) v) where
  size := by simp [Act.put, r.size]
  defs := r.defs
  slot t := by
    simp only [Act.put, St.get]
    by_cases h : t = d
    · subst h
      rw [if_pos rfl, Array.getD_eq_getD_getElem?, Array.getElem?_setIfInBounds_self_of_lt (by rw [r.size]; exact hd)]
      exact hv
    · rw [if_neg h, Array.getD_eq_getD_getElem?, Array.getElem?_setIfInBounds_ne (by omega), ← Array.getD_eq_getD_getElem?]
      exact r.slot t

theorem ARel.none {N : Nat} {ι : Inj} {st : St} {a : Act} (r : ARel N ι st a) (v : Value) : ARel N ι st (a.put none v) := r

end Go.Am
