/- The abstract machine: values, heaps, and how they relate to the model's worlds. -/
import Derived.Orders
import Derived.Laws.Sem
import Derived.Laws.World
import Derived.Laws.Cells
import Derived.Below
set_option linter.unusedVariables false
set_option linter.unusedSimpArgs false
namespace Go.Am

/-- Abstract values: tokens in the place of block numbers; nothing of capacities. -/
inductive AV where
  | un
  | b (x : Bool)
  | i (k : IntKind) (n : Int)
  | s (x : ByteArray)
  | p (t o : Nat)
  | nilp
  | sl (t o n a : Nat)
  | fn (f : Nat) (fst caps : List AV)
  | nilf
  | mp (t : Nat)
  | nilm
  | ag (cs : List AV)
  | tu (vs : List AV)
  | gd (g : Bool) (v : AV)
  | vs (n : Nat) (cs : List AV)
  | pv (cs : List AV) (o : Nat)
  deriving Inhabited

/-- Where a token lies: block, shift, the block's size in cells. -/
structure Loc where
  b : Nat
  sh : Nat
  sz : Nat

/-- Where tokens lie; which blocks are never written again, with their cells. -/
structure Inj where
  f : Nat → Option Loc
  φ : Nat → Option (Array Value)
instance : CoeFun Inj (fun _ => Nat → Option Loc) := ⟨Inj.f⟩

mutual
def VRel (ι : Inj) : AV → Value → Prop
  | .un, _ => True
  | .b x, v => v = .bool x
  | .i k n, v => v = .int k n
  | .s x, v => v = .string x
  | .p t o, v => ∃ l, ι t = some l ∧ v = .pointer (some ⟨l.b, l.sh + o, none⟩)
  | .nilp, v => v = .pointer none
  | .sl t o n a, v => (n = 0 ∧ ∃ x, v = .slice x 0 0) ∨
      ∃ l cap, ι t = some l ∧ v = .slice (some ⟨l.b, l.sh + o, none⟩) n cap ∧ n ≤ cap ∧ (a = 0 ∨ l.sh + o + cap * a ≤ l.sz)
  | .fn f fst caps, v => ∃ x y, v = .func (.func f) x y ∧ VRels ι fst x.toList ∧ VRels ι caps y.toList
  | .nilf, v => v = .nilFunc
  | .mp t, v => ∃ l, ι t = some l ∧ v = .map (some l.b)
  | .nilm, v => v = .map none
  | .ag cs, v => ∃ x, v = .agg x ∧ VRels ι cs x.toList
  | .tu vs, v => ∃ x, v = .tuple x ∧ VRels ι vs x.toList
  | .gd g a, v => (g = true → VRel ι a v) ∧ (g = false → v = .tuple #[])
  | .vs n cs, v => (n = 0 ∧ ∃ x, v = .slice x 0 0) ∨ ∃ (b o cap : Nat) (xs : Array Value), v = .slice (some ⟨b, o, none⟩) n cap ∧ n ≤ cap ∧ ι.φ b = some xs ∧ VRels ι cs ((xs.toList.drop o).take cs.length)
  | .pv cs o, v => ∃ (b s : Nat) (xs : Array Value), v = .pointer (some ⟨b, s + o, none⟩) ∧ ι.φ b = some xs ∧ VRels ι cs ((xs.toList.drop s).take cs.length)
def VRels (ι : Inj) : List AV → List Value → Prop
  | [], vs => vs = []
  | a :: as, vs => ∃ v r, vs = v :: r ∧ VRel ι a v ∧ VRels ι as r
end

theorem VRels_iff {ι : Inj} : ∀ {as : List AV} {vs : List Value}, VRels ι as vs ↔ as.length = vs.length ∧ ∀ (i : Nat) (a : AV) (v : Value), as[i]? = some a → vs[i]? = some v → VRel ι a v
  | [], vs => by
    simp only [VRels]
    constructor
    · rintro rfl; exact ⟨rfl, fun i a v h => by simp at h⟩
    · rintro ⟨h, _⟩; exact List.length_eq_zero_iff.1 h.symm
  | a :: as, vs => by
    simp only [VRels]
    constructor
    · rintro ⟨v, r, rfl, h1, h2⟩
      obtain ⟨hl, hr⟩ := VRels_iff.1 h2
      refine ⟨by simp [hl], fun i x y hx hy => ?_⟩
      cases i with
      | zero => simp at hx hy; subst hx; subst hy; exact h1
      | succ i => simp at hx hy; exact hr i x y hx hy
    · rintro ⟨hl, hr⟩
      match vs, hl with
      | v :: r, hl => exact ⟨v, r, rfl, hr 0 a v rfl rfl, VRels_iff.2 ⟨by simpa using hl, fun i x y hx hy => hr (i + 1) x y (by simpa using hx) (by simpa using hy)⟩⟩

/-- ι' knows at least what ι knows. -/
structure Inj.le (ι ι' : Inj) : Prop where
  tok : ∀ t l, ι t = some l → ι' t = some l
  phi : ∀ b xs, ι.φ b = some xs → ι'.φ b = some xs
theorem Inj.le_refl (ι : Inj) : ι.le ι := ⟨fun _ _ h => h, fun _ _ h => h⟩
theorem Inj.le_trans {a b c : Inj} (h : a.le b) (k : b.le c) : a.le c := ⟨fun t l x => k.tok t l (h.tok t l x), fun b xs x => k.phi b xs (h.phi b xs x)⟩

mutual
theorem VRel.mono {ι ι' : Inj} (h : ι.le ι') : ∀ {a : AV} {v : Value}, VRel ι a v → VRel ι' a v
  | .un, _, _ => by simp [VRel]
  | .b x, v, r => by simpa [VRel] using r
  | .i k n, v, r => by simpa [VRel] using r
  | .s x, v, r => by simpa [VRel] using r
  | .p t o, v, r => by simp only [VRel] at *; obtain ⟨l, h1, h2⟩ := r; exact ⟨l, h.tok _ _ h1, h2⟩
  | .nilp, v, r => by simpa [VRel] using r
  | .sl t o n a, v, r => by
    simp only [VRel] at *
    rcases r with r | ⟨l, c, h1, h2⟩
    · exact .inl r
    · exact .inr ⟨l, c, h.tok _ _ h1, h2⟩
  | .fn f fst caps, v, r => by simp only [VRel] at *; obtain ⟨x, y, h1, h2, h3⟩ := r; exact ⟨x, y, h1, VRels.mono h h2, VRels.mono h h3⟩
  | .nilf, v, r => by simpa [VRel] using r
  | .mp t, v, r => by simp only [VRel] at *; obtain ⟨l, h1, h2⟩ := r; exact ⟨l, h.tok _ _ h1, h2⟩
  | .nilm, v, r => by simpa [VRel] using r
  | .ag cs, v, r => by simp only [VRel] at *; obtain ⟨x, h1, h2⟩ := r; exact ⟨x, h1, VRels.mono h h2⟩
  | .tu cs, v, r => by simp only [VRel] at *; obtain ⟨x, h1, h2⟩ := r; exact ⟨x, h1, VRels.mono h h2⟩
  | .gd g a, v, r => by simp only [VRel] at *; exact ⟨fun hg => VRel.mono h (r.1 hg), r.2⟩
  | .vs n cs, v, r => by
    simp only [VRel] at *
    rcases r with r | ⟨b, o, cap, xs, h1, h2, h3, h4⟩
    · exact .inl r
    · exact .inr ⟨b, o, cap, xs, h1, h2, h.phi _ _ h3, VRels.mono h h4⟩
  | .pv cs o, v, r => by simp only [VRel] at *; obtain ⟨b, s, xs, h1, h2, h3⟩ := r; exact ⟨b, s, xs, h1, h.phi _ _ h2, VRels.mono h h3⟩
theorem VRels.mono {ι ι' : Inj} (h : ι.le ι') : ∀ {as : List AV} {vs : List Value}, VRels ι as vs → VRels ι' as vs
  | [], _, r => by simpa [VRels] using r
  | a :: as, vs, r => by simp only [VRels] at *; obtain ⟨v, t, h1, h2, h3⟩ := r; exact ⟨v, t, h1, VRel.mono h h2, VRels.mono h h3⟩
end

/-- The cells that a value fills. -/
def AV.cells : AV → List AV
  | .ag cs => cs
  | v => [v]
/-- fills one cell -/
def AV.one : AV → Bool
  | .un | .ag _ | .tu _ | .gd _ _ => false
  | _ => true
theorem VRel.one {ι : Inj} {a : AV} {v : Value} (h : VRel ι a v) (hk : a.one = true) : v.oneCell' = true := by
  cases a <;> simp [AV.one] at hk <;> simp only [VRel] at h
  case sl => rcases h with ⟨_, x, rfl⟩ | ⟨l, c, _, rfl, _⟩ <;> rfl
  case vs => rcases h with ⟨_, x, rfl⟩ | ⟨b, o, c, xs, rfl, _⟩ <;> rfl
  case pv => obtain ⟨b, s, xs, rfl, _⟩ := h; rfl
  all_goals first
    | (subst h; rfl)
    | (obtain ⟨_, _, rfl⟩ := h; rfl)
    | (obtain ⟨_, _, rfl, _⟩ := h; rfl)
def AV.known : AV → Bool
  | .un | .gd _ _ => false
  | _ => true

theorem VRel.cells {ι : Inj} {a : AV} {v : Value} (h : VRel ι a v) (hk : a.known = true) : VRels ι a.cells v.cells.toList := by
  cases a with
  | un => simp [AV.known] at hk
  | gd g v => simp [AV.known] at hk
  | ag cs => simp only [VRel] at h; obtain ⟨x, rfl, h2⟩ := h; exact h2
  | sl t o n a =>
    have h0 := h
    simp only [VRel] at h
    rcases h with ⟨_, x, rfl⟩ | ⟨l, c, _, rfl, _⟩ <;> simp only [AV.cells, Value.cells, VRels] <;> exact ⟨_, _, rfl, h0, rfl⟩
  | vs n cs =>
    have h0 := h
    simp only [VRel] at h
    rcases h with ⟨_, x, rfl⟩ | ⟨b, o, c, xs, rfl, _⟩ <;> simp only [AV.cells, Value.cells, VRels] <;> exact ⟨_, _, rfl, h0, rfl⟩
  | pv cs o =>
    have h0 := h
    simp only [VRel] at h
    obtain ⟨b, s, xs, rfl, _⟩ := h
    simp only [AV.cells, Value.cells, VRels]; exact ⟨_, _, rfl, h0, rfl⟩
  | _ =>
    have h0 := h
    simp only [VRel] at h
    first
      | (subst h; simp only [AV.cells, Value.cells, VRels]; exact ⟨_, _, rfl, h0, rfl⟩)
      | (obtain ⟨_, _, rfl⟩ := h; simp only [AV.cells, Value.cells, VRels]; exact ⟨_, _, rfl, h0, rfl⟩)
      | (obtain ⟨_, rfl, _⟩ := h; simp only [AV.cells, Value.cells, VRels]; exact ⟨_, _, rfl, h0, rfl⟩)
      | (obtain ⟨_, _, rfl, _⟩ := h; simp only [AV.cells, Value.cells, VRels]; exact ⟨_, _, rfl, h0, rfl⟩)

/-- A block of the abstract heap: a row of cells (may it be written?), or a map's entries in the order in which they came. -/
inductive Blk where
  | cells (wr : Bool) (cs : List AV)
  | frz (cs : List AV)
  | map (es : List (AV × AV))

def Blk.wr : Blk → Bool
  | .cells w _ => w
  | .frz _ => false
  | .map _ => true

structure AH where
  m : Nat → Option Blk
  nx : Nat

/-- A token's block in the world. -/
def BRel (ι : Inj) (w : World) (t : Nat) : Blk → Prop
  | .cells wr cs => (cs = [] ∧ ι t = none) ∨ ∃ l vs e fz, ι t = some l ∧ w.heap[l.b]? = some (.cells vs e fz) ∧ vs.size = l.sz ∧ l.sh + cs.length ≤ l.sz ∧
      (wr = true → fz = (0, 0)) ∧ ∀ (i : Nat) (a : AV), cs[i]? = some a → ∃ v : Value, vs[l.sh + i]? = some v ∧ VRel ι a v
  | .frz cs => ∃ l vs e, ι t = some l ∧ w.heap[l.b]? = some (.cells vs e (vs.size, vs.size + 1)) ∧ vs.size = l.sz ∧ l.sh + cs.length ≤ l.sz ∧
      ∀ (i : Nat) (a : AV), cs[i]? = some a → ∃ v : Value, vs[l.sh + i]? = some v ∧ VRel ι a v
  | .map es => ∃ l xs ck, ι t = some l ∧ w.heap[l.b]? = some (.map xs ck) ∧ es.length = xs.size ∧
      ∀ (i : Nat) (k v : AV), es[i]? = some (k, v) → ∃ x : MapEntry, xs[i]? = some x ∧ VRel ι k x.key ∧ VRel ι v x.val

structure WRel (ι : Inj) (h : AH) (w : World) : Prop where
  lt : ∀ t l, ι t = some l → t < h.nx ∧ l.b < w.heap.size
  blk : ∀ t c, h.m t = some c → t < h.nx ∧ BRel ι w t c
  inj : ∀ t t' l l' c c', h.m t = some c → h.m t' = some c' → ι t = some l → ι t' = some l' → l.b = l'.b → (c.wr = true ∨ c'.wr = true) → t = t'
  pos : 0 < h.nx
  nil : ι 0 = none
  phi : ∀ b xs, ι.φ b = some xs → (∃ e fz, w.heap[b]? = some (.cells xs e fz)) ∧ ∀ t c l, h.m t = some c → c.wr = true → ι t = some l → l.b ≠ b

theorem phi_step {ι ι' : Inj} {h h' : AH} {w w' : World} (r : WRel ι h w) (hφ : ι'.φ = ι.φ) (keep : ∀ b, b < w.heap.size → (∀ t c l, h.m t = some c → c.wr = true → ι t = some l → l.b ≠ b) → w'.heap[b]? = w.heap[b]?)
    (img : ∀ t c l, h'.m t = some c → c.wr = true → ι' t = some l → w.heap.size ≤ l.b ∨ ∃ t0 c0 l0, h.m t0 = some c0 ∧ c0.wr = true ∧ ι t0 = some l0 ∧ l0.b = l.b) :
    ∀ b xs, ι'.φ b = some xs → (∃ e fz, w'.heap[b]? = some (.cells xs e fz)) ∧ ∀ t c l, h'.m t = some c → c.wr = true → ι' t = some l → l.b ≠ b := by
  intro b xs hb
  rw [hφ] at hb
  obtain ⟨⟨e, fz, hh⟩, ho⟩ := r.phi b xs hb
  have hlt : b < w.heap.size := (Array.getElem?_eq_some_iff.1 hh).1
  refine ⟨⟨e, fz, (keep b hlt ho).trans hh⟩, fun t c l hm hc hl => ?_⟩
  rcases img t c l hm hc hl with q | ⟨t0, c0, l0, h1, h2, h3, h4⟩
  · omega
  · exact fun hbb => ho t0 c0 l0 h1 h2 h3 (h4.trans hbb)
theorem Inj.le_of {ι ι' : Inj} (h : ∀ t l, ι t = some l → ι' t = some l) (hφ : ι'.φ = ι.φ) : ι.le ι' := ⟨h, fun _ _ x => by rw [hφ]; exact x⟩

/-- What a stretch of code may do to the world: tokens keep their places; blocks that no writable token owns keep their contents. -/
structure Ext (ι : Inj) (h : AH) (w : World) (ι' : Inj) (h' : AH) (w' : World) : Prop where
  nx : h.nx ≤ h'.nx
  old : ∀ t, t < h.nx → ι' t = ι t
  os : w'.os = w.os
  tape : w'.tape = w.tape
  output : w'.output = w.output
  size : w.heap.size ≤ w'.heap.size
  keep : ∀ b, b < w.heap.size → (∀ t c l, h.m t = some c → c.wr = true → ι t = some l → l.b ≠ b) → w'.heap[b]? = w.heap[b]?
  img : ∀ t c l, h'.m t = some c → c.wr = true → ι' t = some l → w.heap.size ≤ l.b ∨ ∃ t0 c0 l0, h.m t0 = some c0 ∧ c0.wr = true ∧ ι t0 = some l0 ∧ l0.b = l.b
  phi : ∀ b xs, ι.φ b = some xs → ι'.φ b = some xs
  new : ∀ b xs, ι'.φ b = some xs → ι.φ b = some xs ∨ w.heap.size ≤ b ∨ ∃ t0 c0 l0, h.m t0 = some c0 ∧ c0.wr = true ∧ ι t0 = some l0 ∧ l0.b = b
  drawn : w.drawn ≤ w'.drawn

theorem Ext.le {ι ι' : Inj} {h h' : AH} {w w' : World} (e : Ext ι h w ι' h' w') (hw : WRel ι h w) : ι.le ι' :=
  ⟨fun t l ht => by rw [e.old t (hw.lt t l ht).1]; exact ht, e.phi⟩

theorem Ext.refl (ι : Inj) (h : AH) (w : World) : Ext ι h w ι h w :=
  ⟨Nat.le_refl _, fun _ _ => rfl, rfl, rfl, rfl, Nat.le_refl _, fun _ _ _ => rfl, fun t c l hm hc hι => .inr ⟨t, c, l, hm, hc, hι, rfl⟩, fun _ _ h => h, fun _ _ h => .inl h, Nat.le_refl _⟩

theorem Ext.trans {ι ι' ι'' : Inj} {h h' h'' : AH} {w w' w'' : World} (e : Ext ι h w ι' h' w') (f : Ext ι' h' w' ι'' h'' w'') : Ext ι h w ι'' h'' w'' where
  nx := Nat.le_trans e.nx f.nx
  old t ht := by rw [f.old t (Nat.lt_of_lt_of_le ht e.nx), e.old t ht]
  os := f.os.trans e.os
  tape := f.tape.trans e.tape
  output := f.output.trans e.output
  size := Nat.le_trans e.size f.size
  keep b hb hk := by
    rw [f.keep b (Nat.lt_of_lt_of_le hb e.size) fun t c l hm hc hι hbl => ?_]
    · exact e.keep b hb hk
    · rcases e.img t c l hm hc hι with h1 | ⟨t0, c0, l0, hm0, hc0, hι0, hb0⟩
      · omega
      · exact hk t0 c0 l0 hm0 hc0 hι0 (hb0.trans hbl)
  img t c l hm hc hι := by
    rcases f.img t c l hm hc hι with h1 | ⟨t0, c0, l0, hm0, hc0, hι0, hb0⟩
    · exact .inl (Nat.le_trans e.size h1)
    · rcases e.img t0 c0 l0 hm0 hc0 hι0 with h2 | ⟨t1, c1, l1, hm1, hc1, hι1, hb1⟩
      · exact .inl (by omega)
      · exact .inr ⟨t1, c1, l1, hm1, hc1, hι1, hb1.trans hb0⟩
  phi b xs hb := f.phi b xs (e.phi b xs hb)
  new b xs hb := by
    rcases f.new b xs hb with h1 | h1 | ⟨t0, c0, l0, hm0, hc0, hι0, hb0⟩
    · exact e.new b xs h1
    · exact .inr (.inl (Nat.le_trans e.size h1))
    · rcases e.img t0 c0 l0 hm0 hc0 hι0 with h2 | ⟨t1, c1, l1, hm1, hc1, hι1, hb1⟩
      · exact .inr (.inl (by omega))
      · exact .inr (.inr ⟨t1, c1, l1, hm1, hc1, hι1, hb1.trans hb0⟩)
  drawn := Nat.le_trans e.drawn f.drawn

/-- A smaller heap: some tokens are forgotten. -/
def AH.le (h h' : AH) : Prop := (∀ t c, h.m t = some c → h'.m t = some c) ∧ h'.nx ≤ h.nx
theorem AH.le_refl (h : AH) : h.le h := ⟨fun _ _ x => x, Nat.le_refl _⟩
theorem AH.le_trans {a b c : AH} (h : a.le b) (k : b.le c) : a.le c := ⟨fun t x y => k.1 t x (h.1 t x y), Nat.le_trans k.2 h.2⟩

theorem WRel.drop {ι : Inj} {h h' : AH} {w : World} (r : WRel ι h w) (le : h'.le h) : WRel ι h' w where
  lt t l ht := ⟨Nat.lt_of_lt_of_le (r.lt t l ht).1 le.2, (r.lt t l ht).2⟩
  blk t c hc := ⟨Nat.lt_of_lt_of_le (r.blk t c (le.1 t c hc)).1 le.2, (r.blk t c (le.1 t c hc)).2⟩
  inj t t' l l' c c' h1 h2 := r.inj t t' l l' c c' (le.1 _ _ h1) (le.1 _ _ h2)
  pos := Nat.lt_of_lt_of_le r.pos le.2
  nil := r.nil
  phi b xs hb := ⟨(r.phi b xs hb).1, fun t c l hc => (r.phi b xs hb).2 t c l (le.1 t c hc)⟩

theorem Ext.drop {ι ι' : Inj} {h h' h'' : AH} {w w' : World} (e : Ext ι h w ι' h' w') (le : h''.le h') : Ext ι h w ι' h'' w' :=
  { e with nx := Nat.le_trans e.nx le.2, img := fun t c l hm => e.img t c l (le.1 t c hm) }

/-- the slots' state: the last entry of a slot counts -/
abbrev St := List (Nat × AV)
def St.get : St → Nat → AV
  | [], _ => .un
  | (d, v) :: r, t => if t = d then v else St.get r t

structure ARel (N : Nat) (ι : Inj) (st : St) (a : Act) : Prop where
  size : a.tmps.size = N
  defs : a.defers = []
  slot : ∀ d, VRel ι (st.get d) (a.tmps.getD d undef)

theorem ARel.mono {N : Nat} {ι ι' : Inj} {st : St} {a : Act} (r : ARel N ι st a) (h : ι.le ι') : ARel N ι' st a :=
  ⟨r.size, r.defs, fun d => (r.slot d).mono h⟩

theorem ARel.put {N : Nat} {ι : Inj} {st : St} {a : Act} (r : ARel N ι st a) {d : Nat} (hd : d < N) {x : AV} {v : Value} (hv : VRel ι x v) :
    ARel N ι ((d, x) :: st) (a.put (some d) v) where
  size := by simp [Act.put, r.size]
  defs := r.defs
  slot t := by
    simp only [Act.put, St.get]
    by_cases h : t = d
    · subst h
      rw [if_pos rfl, Array.getD_eq_getD_getElem?, Array.getElem?_setIfInBounds_self_of_lt (by rw [r.size]; exact hd)]
      exact hv
    · rw [if_neg h, Array.getD_eq_getD_getElem?, Array.getElem?_setIfInBounds_ne (by omega), ← Array.getD_eq_getD_getElem?]
      exact r.slot t

theorem ARel.none {N : Nat} {ι : Inj} {st : St} {a : Act} (r : ARel N ι st a) (v : Value) : ARel N ι st (a.put none v) := r

end Go.Am
