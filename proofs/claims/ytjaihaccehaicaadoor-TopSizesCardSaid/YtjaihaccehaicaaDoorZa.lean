/- What the proof of the law needs: the abstract machine, the functions as it reads them, their contracts, part 1. -/
import Derived.Orders
import Derived.Laws.Sem
import Derived.Laws.World
import Derived.Laws.Cells
import Derived.Below
import Derived.IntWalk
import Derived.Laws.CopyRow
import Derived.Laws.Append
import Derived.Laws.StructEq
import Derived.ChangeKeysEq
import Derived.MapKept
import Derived.WideKeyRuns
import Derived.Lib.ConvBytes
import Derived.Laws.AppendOwn
namespace Go.Am
def TABV : Array Value := #[.int .u8 0, .int .u8 1, .int .u8 56, .int .u8 2, .int .u8 57, .int .u8 49, .int .u8 28, .int .u8 3, .int .u8 61, .int .u8 58, .int .u8 42, .int .u8 50, .int .u8 38, .int .u8 29, .int .u8 17, .int .u8 4, .int .u8 62, .int .u8 47, .int .u8 59, .int .u8 36, .int .u8 45, .int .u8 43, .int .u8 51, .int .u8 22, .int .u8 53, .int .u8 39, .int .u8 33, .int .u8 30, .int .u8 24, .int .u8 18, .int .u8 12, .int .u8 5, .int .u8 63, .int .u8 55, .int .u8 48, .int .u8 27, .int .u8 60, .int .u8 41, .int .u8 37, .int .u8 16, .int .u8 46, .int .u8 35, .int .u8 44, .int .u8 21, .int .u8 52, .int .u8 32, .int .u8 23, .int .u8 11, .int .u8 54, .int .u8 26, .int .u8 40, .int .u8 15, .int .u8 34, .int .u8 20, .int .u8 31, .int .u8 10, .int .u8 25, .int .u8 14, .int .u8 19, .int .u8 9, .int .u8 13, .int .u8 8, .int .u8 7, .int .u8 6]
def TAB : Nat → Option (Array Value) := fun g => if g = 0 then some TABV else none
end Go.Am
set_option linter.unusedVariables false
set_option linter.unusedSimpArgs false
namespace Go.Am
variable {dfs : List Deferred}
inductive AV where
 | un
 | b (x : Bool)
 | i (k : IntKind) (n : Int)
 | s (x : ByteArray)
 | p (t o : Nat)
 | nilp
 | sl (t o n a : Nat)
 | fn (f : Nat) (fst caps : List AV)
 | nilf
 | mp (t : Nat)
 | nilm
 | ag (cs : List AV)
 | tu (vs : List AV)
 | gd (g : Bool) (v : AV)
 | vs (n : Nat) (cs : List AV)
 | pv (cs : List AV) (o : Nat)
 | fy (t : Nat)
 deriving Inhabited
structure Loc where
 b : Nat
 sh : Nat
 sz : Nat
structure Inj where
 f : Nat → Option Loc
 φ : Nat → Option (Array Value)
instance : CoeFun Inj (fun _ => Nat → Option Loc) := ⟨Inj.f⟩
mutual
def VRel (ι : Inj) : AV → Value → Prop
 | .un, _ => True
 | .b x, v => v = .bool x
 | .i k n, v => v = .int k n
 | .s x, v => v = .string x
 | .p t o, v => ∃ l, ι t = some l ∧ v = .pointer (some ⟨l.b, l.sh + o, none⟩)
 | .nilp, v => v = .pointer none
 | .sl t o n a, v => (n = 0 ∧ ∃ x, v = .slice x 0 0) ∨
  ∃ l cap, ι t = some l ∧ v = .slice (some ⟨l.b, l.sh + o, none⟩) n cap ∧ n ≤ cap ∧ (a = 0 ∨ l.sh + o + cap * a ≤ l.sz)
 | .fn f fst caps, v => ∃ x y, v = .func (.func f) x y ∧ VRels ι fst x.toList ∧ VRels ι caps y.toList
 | .nilf, v => v = .nilFunc
 | .mp t, v => ∃ l, ι t = some l ∧ v = .map (some l.b)
 | .nilm, v => v = .map none
 | .ag cs, v => ∃ x, v = .agg x ∧ VRels ι cs x.toList
 | .tu vs, v => ∃ x, v = .tuple x ∧ VRels ι vs x.toList
 | .gd g a, v => (g = true → VRel ι a v) ∧ (g = false → v = .tuple #[])
 | .vs n cs, v => (n = 0 ∧ ∃ x, v = .slice x 0 0) ∨ ∃ (b o cap : Nat) (xs : Array Value), v = .slice (some ⟨b, o, none⟩) n cap ∧ n ≤ cap ∧ ι.φ b = some xs ∧ VRels ι cs ((xs.toList.drop o).take cs.length)
 | .pv cs o, v => ∃ (b s : Nat) (xs : Array Value), v = .pointer (some ⟨b, s + o, none⟩) ∧ ι.φ b = some xs ∧ VRels ι cs ((xs.toList.drop s).take cs.length)
 | .fy t, v => ∃ l, ι t = some l ∧ v = .func (.yield l.b) #[] #[]
def VRels (ι : Inj) : List AV → List Value → Prop
 | [], vs => vs = []
 | a :: az, vs => ∃ v r, vs = v :: r ∧ VRel ι a v ∧ VRels ι az r
end
theorem VRels_iff {ι : Inj} : ∀ {az : List AV} {vs : List Value}, VRels ι az vs ↔ az.length = vs.length ∧ ∀ (i : Nat) (a : AV) (v : Value), az[i]? = some a → vs[i]? = some v → VRel ι a v
 | [], vs => by
   simp only [VRels]
   constructor
   ·rintro rfl; exact ⟨rfl, fun i a v h => by simp at h⟩
   ·rintro ⟨h, _⟩; exact List.length_eq_zero_iff.1 h.symm
 | a :: az, vs => by
   simp only [VRels]
   constructor
   ·rintro ⟨v, r, rfl, h1, h2⟩
    obtain ⟨hl, hr⟩ := VRels_iff.1 h2
    refine ⟨by simp [hl], fun i x y hx hy => ?_⟩
    cases i with
    | zero => simp at hx hy; subst hx; subst hy; exact h1
    | succ i => simp at hx hy; exact hr i x y hx hy
   ·rintro ⟨hl, hr⟩
    match vs, hl with
    | v :: r, hl => exact ⟨v, r, rfl, hr 0 a v rfl rfl, VRels_iff.2 ⟨by simpa using hl, fun i x y hx hy => hr (i + 1) x y (by simpa using hx) (by simpa using hy)⟩⟩
structure Inj.le (ι ι' : Inj) : Prop where
 tok : ∀ t l, ι t = some l → ι' t = some l
 phi : ∀ b xs, ι.φ b = some xs → ι'.φ b = some xs
def TabOK (φ : Nat → Option (Array Value)) : Prop := ∀ b xs, TAB b = some xs → φ b = some xs
theorem TabOK.mono {ι ι' : Inj} (t : TabOK ι.φ) (h : ι.le ι') : TabOK ι'.φ := fun b xs x => h.phi b xs (t b xs x)
theorem Inj.le_refl (ι : Inj) : ι.le ι := ⟨fun _ _ h => h, fun _ _ h => h⟩
theorem Inj.le_trans {a b c : Inj} (h : a.le b) (k : b.le c) : a.le c := ⟨fun t l x => k.tok t l (h.tok t l x), fun b xs x => k.phi b xs (h.phi b xs x)⟩
mutual
theorem VRel.mono {ι ι' : Inj} (h : ι.le ι') : ∀ {a : AV} {v : Value}, VRel ι a v → VRel ι' a v
 | .un, _, _ => by simp [VRel]
 | .b x, v, r => by simpa [VRel] using r
 | .i k n, v, r => by simpa [VRel] using r
 | .s x, v, r => by simpa [VRel] using r
 | .p t o, v, r => by simp only [VRel] at *; obtain ⟨l, h1, h2⟩ := r; exact ⟨l, h.tok _ _ h1, h2⟩
 | .nilp, v, r => by simpa [VRel] using r
 | .sl t o n a, v, r => by
   simp only [VRel] at *
   rcases r with r | ⟨l, c, h1, h2⟩
   ·exact .inl r
   ·exact .inr ⟨l, c, h.tok _ _ h1, h2⟩
 | .fn f fst caps, v, r => by simp only [VRel] at *; obtain ⟨x, y, h1, h2, h3⟩ := r; exact ⟨x, y, h1, VRels.mono h h2, VRels.mono h h3⟩
 | .nilf, v, r => by simpa [VRel] using r
 | .mp t, v, r => by simp only [VRel] at *; obtain ⟨l, h1, h2⟩ := r; exact ⟨l, h.tok _ _ h1, h2⟩
 | .nilm, v, r => by simpa [VRel] using r
 | .ag cs, v, r => by simp only [VRel] at *; obtain ⟨x, h1, h2⟩ := r; exact ⟨x, h1, VRels.mono h h2⟩
 | .tu cs, v, r => by simp only [VRel] at *; obtain ⟨x, h1, h2⟩ := r; exact ⟨x, h1, VRels.mono h h2⟩
 | .gd g a, v, r => by simp only [VRel] at *; exact ⟨fun hg => VRel.mono h (r.1 hg), r.2⟩
 | .vs n cs, v, r => by
   simp only [VRel] at *
   rcases r with r | ⟨b, o, cap, xs, h1, h2, h3, h4⟩
   ·exact .inl r
   ·exact .inr ⟨b, o, cap, xs, h1, h2, h.phi _ _ h3, VRels.mono h h4⟩
 | .pv cs o, v, r => by simp only [VRel] at *; obtain ⟨b, s, xs, h1, h2, h3⟩ := r; exact ⟨b, s, xs, h1, h.phi _ _ h2, VRels.mono h h3⟩
 | .fy t, v, r => by simp only [VRel] at *; obtain ⟨l, h1, h2⟩ := r; exact ⟨l, h.tok _ _ h1, h2⟩
theorem VRels.mono {ι ι' : Inj} (h : ι.le ι') : ∀ {az : List AV} {vs : List Value}, VRels ι az vs → VRels ι' az vs
 | [], _, r => by simpa [VRels] using r
 | a :: az, vs, r => by simp only [VRels] at *; obtain ⟨v, t, h1, h2, h3⟩ := r; exact ⟨v, t, h1, VRel.mono h h2, VRels.mono h h3⟩
end
def AV.cells : AV → List AV
 | .ag cs => cs
 | v => [v]
def AV.one : AV → Bool
 | .un | .ag _ | .tu _ | .gd _ _ => false
 | _ => true
theorem VRel.one {ι : Inj} {a : AV} {v : Value} (h : VRel ι a v) (hk : a.one = true) : v.oneCell' = true := by
 cases a <;> simp [AV.one] at hk <;> simp only [VRel] at h
 case sl => rcases h with ⟨_, x, rfl⟩ | ⟨l, c, _, rfl, _⟩ <;> rfl
 case vs => rcases h with ⟨_, x, rfl⟩ | ⟨b, o, c, xs, rfl, _⟩ <;> rfl
 case pv => obtain ⟨b, s, xs, rfl, _⟩ := h; rfl
 all_goals first
  | (subst h; rfl)
  | (obtain ⟨_, _, rfl⟩ := h; rfl)
  | (obtain ⟨_, _, rfl, _⟩ := h; rfl)
def AV.known : AV → Bool
 | .un | .gd _ _ => false
 | _ => true
theorem VRel.cells {ι : Inj} {a : AV} {v : Value} (h : VRel ι a v) (hk : a.known = true) : VRels ι a.cells v.cells.toList := by
 cases a with
 | un => simp [AV.known] at hk
 | gd g v => simp [AV.known] at hk
 | ag cs => simp only [VRel] at h; obtain ⟨x, rfl, h2⟩ := h; exact h2
 | sl t o n a =>
   have h0 := h
   simp only [VRel] at h
   rcases h with ⟨_, x, rfl⟩ | ⟨l, c, _, rfl, _⟩ <;> simp only [AV.cells, Value.cells, VRels] <;> exact ⟨_, _, rfl, h0, rfl⟩
 | vs n cs =>
   have h0 := h
   simp only [VRel] at h
   rcases h with ⟨_, x, rfl⟩ | ⟨b, o, c, xs, rfl, _⟩ <;> simp only [AV.cells, Value.cells, VRels] <;> exact ⟨_, _, rfl, h0, rfl⟩
 | pv cs o =>
   have h0 := h
   simp only [VRel] at h
   obtain ⟨b, s, xs, rfl, _⟩ := h
   simp only [AV.cells, Value.cells, VRels]; exact ⟨_, _, rfl, h0, rfl⟩
 | _ =>
   have h0 := h
   simp only [VRel] at h
   first
    | (subst h; simp only [AV.cells, Value.cells, VRels]; exact ⟨_, _, rfl, h0, rfl⟩)
    | (obtain ⟨_, _, rfl⟩ := h; simp only [AV.cells, Value.cells, VRels]; exact ⟨_, _, rfl, h0, rfl⟩)
    | (obtain ⟨_, rfl, _⟩ := h; simp only [AV.cells, Value.cells, VRels]; exact ⟨_, _, rfl, h0, rfl⟩)
    | (obtain ⟨_, _, rfl, _⟩ := h; simp only [AV.cells, Value.cells, VRels]; exact ⟨_, _, rfl, h0, rfl⟩)
inductive Blk where
 | cells (wr : Bool) (cs : List AV)
 | frz (cs : List AV)
 | map (es : List (AV × AV))
 | raw (R : Inj → Loop → Prop)
def Blk.wr : Blk → Bool
 | .cells w _ => w
 | .frz _ => false
 | .map _ => true
 | .raw _ => true
structure AH where
 m : Nat → Option Blk
 nx : Nat
def BRel (ι : Inj) (w : World) (t : Nat) : Blk → Prop
 | .cells wr cs => (cs = [] ∧ ι t = none) ∨ ∃ l vs e fz, ι t = some l ∧ w.heap[l.b]? = some (.cells vs e fz) ∧ vs.size = l.sz ∧ l.sh + cs.length ≤ l.sz ∧
  (wr = true → fz = (0, 0)) ∧ ∀ (i : Nat) (a : AV), cs[i]? = some a → ∃ v : Value, vs[l.sh + i]? = some v ∧ VRel ι a v
 | .frz cs => ∃ l vs e, ι t = some l ∧ w.heap[l.b]? = some (.cells vs e (vs.size, vs.size + 1)) ∧ vs.size = l.sz ∧ l.sh + cs.length ≤ l.sz ∧
  ∀ (i : Nat) (a : AV), cs[i]? = some a → ∃ v : Value, vs[l.sh + i]? = some v ∧ VRel ι a v
 | .map es => ∃ l xs ck, ι t = some l ∧ w.heap[l.b]? = some (.map xs ck) ∧ es.length = xs.size ∧
  ∀ (i : Nat) (k v : AV), es[i]? = some (k, v) → ∃ x : MapEntry, xs[i]? = some x ∧ VRel ι k x.key ∧ VRel ι v x.val
 | .raw R => ∃ l L, ι t = some l ∧ w.heap[l.b]? = some (.loop L) ∧ ∀ ι' : Inj, ι.le ι' → R ι' L
structure WRel (ι : Inj) (h : AH) (w : World) : Prop where
 lt : ∀ t l, ι t = some l → t < h.nx ∧ l.b < w.heap.size
 blk : ∀ t c, h.m t = some c → t < h.nx ∧ BRel ι w t c
 inj : ∀ t t' l l' c c', h.m t = some c → h.m t' = some c' → ι t = some l → ι t' = some l' → l.b = l'.b → (c.wr = true ∨ c'.wr = true) → t = t'
 pos : 0 < h.nx
 nil0 : ι 0 = none ∧ TabOK ι.φ
 phi : ∀ b xs, ι.φ b = some xs → (∃ e fz, w.heap[b]? = some (.cells xs e fz)) ∧ ∀ t c l, h.m t = some c → c.wr = true → ι t = some l → l.b ≠ b
theorem WRel.nil {ι : Inj} {h : AH} {w : World} (r : WRel ι h w) : ι 0 = none := r.nil0.1
theorem phi_step {ι ι' : Inj} {h h' : AH} {w w' : World} (r : WRel ι h w) (hφ : ι'.φ = ι.φ) (keep : ∀ b, b < w.heap.size → (∀ t c l, h.m t = some c → c.wr = true → ι t = some l → l.b ≠ b) → w'.heap[b]? = w.heap[b]?)
 (img : ∀ t c l, h'.m t = some c → c.wr = true → ι' t = some l → w.heap.size ≤ l.b ∨ ∃ t0 c0 l0, h.m t0 = some c0 ∧ c0.wr = true ∧ ι t0 = some l0 ∧ l0.b = l.b) :
 ∀ b xs, ι'.φ b = some xs → (∃ e fz, w'.heap[b]? = some (.cells xs e fz)) ∧ ∀ t c l, h'.m t = some c → c.wr = true → ι' t = some l → l.b ≠ b := by
 intro b xs hb
 rw [hφ] at hb
 obtain ⟨⟨e, fz, hh⟩, ho⟩ := r.phi b xs hb
 have hlt : b < w.heap.size := (Array.getElem?_eq_some_iff.1 hh).1
 refine ⟨⟨e, fz, (keep b hlt ho).trans hh⟩, fun t c l hm hc hl => ?_⟩
 rcases img t c l hm hc hl with q | ⟨t0, c0, l0, h1, h2, h3, h4⟩
 ·omega
 ·exact fun hbb => ho t0 c0 l0 h1 h2 h3 (h4.trans hbb)
theorem Inj.le_of {ι ι' : Inj} (h : ∀ t l, ι t = some l → ι' t = some l) (hφ : ι'.φ = ι.φ) : ι.le ι' := ⟨h, fun _ _ x => by rw [hφ]; exact x⟩
structure Ext (ι : Inj) (h : AH) (w : World) (ι' : Inj) (h' : AH) (w' : World) : Prop where
 nx : h.nx ≤ h'.nx
 old : ∀ t, t < h.nx → ι' t = ι t
 os : w'.os = w.os
 tape : w'.tape = w.tape
 output : w'.output = w.output
 size : w.heap.size ≤ w'.heap.size
 keep : ∀ b, b < w.heap.size → (∀ t c l, h.m t = some c → c.wr = true → ι t = some l → l.b ≠ b) → w'.heap[b]? = w.heap[b]?
 img : ∀ t c l, h'.m t = some c → c.wr = true → ι' t = some l → w.heap.size ≤ l.b ∨ ∃ t0 c0 l0, h.m t0 = some c0 ∧ c0.wr = true ∧ ι t0 = some l0 ∧ l0.b = l.b
 phi : ∀ b xs, ι.φ b = some xs → ι'.φ b = some xs
 new : ∀ b xs, ι'.φ b = some xs → ι.φ b = some xs ∨ w.heap.size ≤ b ∨ ∃ t0 c0 l0, h.m t0 = some c0 ∧ c0.wr = true ∧ ι t0 = some l0 ∧ l0.b = b
 drawn : w.drawn ≤ w'.drawn
theorem Ext.le {ι ι' : Inj} {h h' : AH} {w w' : World} (e : Ext ι h w ι' h' w') (hw : WRel ι h w) : ι.le ι' :=
 ⟨fun t l ht => by rw [e.old t (hw.lt t l ht).1]; exact ht, e.phi⟩
theorem Ext.refl (ι : Inj) (h : AH) (w : World) : Ext ι h w ι h w :=
 ⟨Nat.le_refl _, fun _ _ => rfl, rfl, rfl, rfl, Nat.le_refl _, fun _ _ _ => rfl, fun t c l hm hc hι => .inr ⟨t, c, l, hm, hc, hι, rfl⟩, fun _ _ h => h, fun _ _ h => .inl h, Nat.le_refl _⟩
theorem Ext.trans {ι ι' ι'' : Inj} {h h' h'' : AH} {w w' w'' : World} (e : Ext ι h w ι' h' w') (f : Ext ι' h' w' ι'' h'' w'') : Ext ι h w ι'' h'' w'' where
 nx := Nat.le_trans e.nx f.nx
 old t ht := by rw [f.old t (Nat.lt_of_lt_of_le ht e.nx), e.old t ht]
 os := f.os.trans e.os
 tape := f.tape.trans e.tape
 output := f.output.trans e.output
 size := Nat.le_trans e.size f.size
 keep b hb hk := by
  rw [f.keep b (Nat.lt_of_lt_of_le hb e.size) fun t c l hm hc hι hbl => ?_]
  ·exact e.keep b hb hk
  ·rcases e.img t c l hm hc hι with h1 | ⟨t0, c0, l0, hm0, hc0, hι0, hb0⟩
   ·omega
   ·exact hk t0 c0 l0 hm0 hc0 hι0 (hb0.trans hbl)
 img t c l hm hc hι := by
  rcases f.img t c l hm hc hι with h1 | ⟨t0, c0, l0, hm0, hc0, hι0, hb0⟩
  ·exact .inl (Nat.le_trans e.size h1)
  ·rcases e.img t0 c0 l0 hm0 hc0 hι0 with h2 | ⟨t1, c1, l1, hm1, hc1, hι1, hb1⟩
   ·exact .inl (by omega)
   ·exact .inr ⟨t1, c1, l1, hm1, hc1, hι1, hb1.trans hb0⟩
 phi b xs hb := f.phi b xs (e.phi b xs hb)
 new b xs hb := by
  rcases f.new b xs hb with h1 | h1 | ⟨t0, c0, l0, hm0, hc0, hι0, hb0⟩
  ·exact e.new b xs h1
  ·exact .inr (.inl (Nat.le_trans e.size h1))
  ·rcases e.img t0 c0 l0 hm0 hc0 hι0 with h2 | ⟨t1, c1, l1, hm1, hc1, hι1, hb1⟩
   ·exact .inr (.inl (by omega))
   ·exact .inr (.inr ⟨t1, c1, l1, hm1, hc1, hι1, hb1.trans hb0⟩)
 drawn := Nat.le_trans e.drawn f.drawn
def AH.le (h h' : AH) : Prop := (∀ t c, h.m t = some c → h'.m t = some c) ∧ h'.nx ≤ h.nx
theorem AH.le_refl (h : AH) : h.le h := ⟨fun _ _ x => x, Nat.le_refl _⟩
theorem WRel.drop {ι : Inj} {h h' : AH} {w : World} (r : WRel ι h w) (le : h'.le h) : WRel ι h' w where
 lt t l ht := ⟨Nat.lt_of_lt_of_le (r.lt t l ht).1 le.2, (r.lt t l ht).2⟩
 blk t c hc := ⟨Nat.lt_of_lt_of_le (r.blk t c (le.1 t c hc)).1 le.2, (r.blk t c (le.1 t c hc)).2⟩
 inj t t' l l' c c' h1 h2 := r.inj t t' l l' c c' (le.1 _ _ h1) (le.1 _ _ h2)
 pos := Nat.lt_of_lt_of_le r.pos le.2
 nil0 := r.nil0
 phi b xs hb := ⟨(r.phi b xs hb).1, fun t c l hc => (r.phi b xs hb).2 t c l (le.1 t c hc)⟩
theorem Ext.drop {ι ι' : Inj} {h h' h'' : AH} {w w' : World} (e : Ext ι h w ι' h' w') (le : h''.le h') : Ext ι h w ι' h'' w' :=
 { e with nx := Nat.le_trans e.nx le.2, img := fun t c l hm => e.img t c l (le.1 t c hm) }
abbrev St := List (Nat × AV)
def St.get : St → Nat → AV
 | [], _ => .un
 | (d, v) :: r, t => if t = d then v else St.get r t
structure ARel (N : Nat) (dfs : List Deferred) (ι : Inj) (st : St) (a : Act) : Prop where
 size : a.tmps.size = N
 defs : a.defers = dfs
 tab : TabOK ι.φ
 slot : ∀ d, VRel ι (st.get d) (a.tmps.getD d undef)
theorem ARel.mono {N : Nat} {ι ι' : Inj} {st : St} {a : Act} (r : ARel N dfs ι st a) (h : ι.le ι') : ARel N dfs ι' st a :=
 ⟨r.size, r.defs, r.tab.mono h, fun d => (r.slot d).mono h⟩
theorem ARel.put {N : Nat} {ι : Inj} {st : St} {a : Act} (r : ARel N dfs ι st a) {d : Nat} (hd : d < N) {x : AV} {v : Value} (hv : VRel ι x v) :
 ARel N dfs ι ((d, x) :: st) (a.put (some d) v) where
 size := by simp [Act.put, r.size]
 defs := r.defs
 tab := r.tab
 slot t := by
  simp only [Act.put, St.get]
  by_cases h : t = d
  ·subst h
   rw [if_pos rfl, Array.getD_eq_getD_getElem?, Array.getElem?_setIfInBounds_self_of_lt (by rw [r.size]; exact hd)]
   exact hv
  ·rw [if_neg h, Array.getD_eq_getD_getElem?, Array.getElem?_setIfInBounds_ne (by omega), ← Array.getD_eq_getD_getElem?]
   exact r.slot t
theorem ARel.none {N : Nat} {ι : Inj} {st : St} {a : Act} (r : ARel N dfs ι st a) (v : Value) : ARel N dfs ι st (a.put none v) := r
end Go.Am
set_option linter.unusedVariables false
set_option linter.unusedSimpArgs false
namespace Go.Am
inductive AX where
 | t (n : Nat)
 | c (v : AV)
 deriving Inhabited
def AX.val (st : St) : AX → AV
 | .t n => st.get n
 | .c v => v
inductive AOp where
 | mv (x : AX)
 | pick (c a b : AX)
 | bin (bt : Bool) (op : BinOp) (x y : AX)
 | neg (x : AX)
 | not (x : AX)
 | conv (k : IntKind) (x : AX)
 | ext (x : AX) (i : Nat)
 | fa (x : AX) (off : Nat)
 | fld (x : AX) (off : Nat) (n : Option Nat)
 | ia (k : Nat) (x i : AX)
 | iap (n k : Nat) (x i : AX)
 | iv (n k : Nat) (g : Bool) (x i : AX)
 | sli (k : Nat) (x : AX) (lo hi : Option AX)
 | slp (n k : Nat) (x : AX) (lo hi : Option AX)
 | nck (x : AX)
 | bld (zero : List AV) (parts : List (Nat × Nat × AX))
 | len (x : AX)
 | mm (mx : Bool) (x : AX) (xs : List AX)
 | mkf (f : Nat) (fst caps : List AX)
 | eqn (neg : Bool) (x y : AX)
 | eqa (neg : Bool) (ks : List Nat) (x y : AX)
 | eqs (neg : Bool) (x y : AX)
 | str (x : AX)
 | sl3 (k : Nat) (x : AX) (lo : Option AX) (hi mx : AX)
 | ld (n : Option Nat) (x : AX)
 | box (x : AX)
 | alloc (zero : List AV)
 | bsl (k : Nat) (zero : List AV) (parts : List (Nat × Nat × AX))
 | mks (k bytes : Nat) (zero : List AV) (len cap : AX)
 | sto (n : Option Nat) (x v : AX)
 | app (k bytes : Nat) (x y : AX)
 | byt (x : AX)
 | cvt (x : AX)
 | eqz (neg : Bool) (x : AX)
 | mlk (kk : Option (List Nat)) (z : AV) (ok : Bool) (x k : AX)
 | mln (x : AX)
 | mkm
 | mup (kk : Option (List Nat)) (x k v : AX)
 | call (f : AX) (args : List AX)
 deriving Inhabited
def AH.row (h : AH) (t : Nat) : Option (List AV) :=
 match h.m t with
 | some (.cells _ cs) => some cs
 | some (.frz cs) => some cs
 | _ => none
def abits (op : BinOp) (k : IntKind) (x y : Int) : Int :=
 let a := BitVec.ofInt k.bits x
 let b := BitVec.ofInt k.bits y
 k.wrap ((match op with
  | .and => a &&& b
  | .or => a ||| b
  | .xor => a ^^^ b
  | _ => a &&& ~~~b).toNat)
def aint (op : BinOp) (k : IntKind) (x y : Int) : Option AV :=
 match op with
 | .add => some (.i k (k.wrap (x + y)))
 | .sub => some (.i k (k.wrap (x - y)))
 | .mul => some (.i k (k.wrap (x * y)))
 | .quo => if y = 0 then none else some (.i k (k.wrap (x.tdiv y)))
 | .rem => if y = 0 then none else some (.i k (x.tmod y))
 | .and => some (.i k (abits .and k x y))
 | .or => some (.i k (abits .or k x y))
 | .xor => some (.i k (abits .xor k x y))
 | .andNot => some (.i k (abits .andNot k x y))
 | .shl => if 0 ≤ y then some (.i k (k.wrap (x * 2 ^ (min y.toNat k.bits)))) else none
 | .shr => if 0 ≤ y then some (.i k (x.fdiv (2 ^ (min y.toNat k.bits)))) else none
 | .eql => some (.b (x == y))
 | .neq => some (.b (x != y))
 | .lss => some (.b (x < y))
 | .leq => some (.b (x ≤ y))
 | .gtr => some (.b (y < x))
 | .geq => some (.b (y ≤ x))
def abin (bt : Bool) (op : BinOp) (x y : AV) : Option AV :=
 match x, y with
 | .i k a, .i k' b => if k = k' ∨ op = .shl ∨ op = .shr then aint op k a b else none
 | .b a, .b b => if bt then (match op with | .eql => some (.b (a == b)) | .neq => some (.b (a != b)) | _ => none) else none
 | _, _ => none
def afill (ρ : AX → AV) : List AV → List (Nat × Nat × AX) → Option (List AV)
 | cs, [] => some cs
 | cs, (off, n, x) :: r =>
   if (ρ x).known ∧ (ρ x).cells.length = n ∧ off + n ≤ cs.length then
    afill ρ (cs.take off ++ ((ρ x).cells ++ cs.drop (off + n))) r
   else none
def amm (mx : Bool) : AV → List AV → Option AV
 | v, [] => some v
 | .i k x, .i k' y :: r => if k = k' then amm mx (.i k (if mx then (if x < y then y else x) else (if y < x then y else x))) r else none
 | _, _ :: _ => none
def rd (cs : List AV) (o : Nat) : Option Nat → Option AV
 | none => cs[o]?
 | some n => if o + n ≤ cs.length then some (.ag ((cs.drop o).take n)) else none
def isNil : AV → Option Bool
 | .nilp => some true
 | .p _ _ => some false
 | .pv _ _ => some false
 | _ => none
def vsub (k : Nat) (lo hi : Option AX) (l h : Nat) (cs : List AV) : List AV :=
 match lo, hi with
 | none, none => cs
 | some _, none => cs.drop (l * k)
 | none, some _ => cs.take (h * k)
 | some _, some _ => (cs.drop (l * k)).take ((h - l) * k)
def bound (ρ : AX → AV) (d : Nat) : Option AX → Option Nat
 | none => some d
 | some x => match ρ x with
   | .i _ n => if 0 ≤ n then some n.toNat else none
   | _ => none
def aeq : List Nat → List AV → List AV → Option Bool
 | [], [], [] => some true
 | 0 :: ks, .i k a :: r, .i k' b :: s => if k = k' then (aeq ks r s).map (decide (a = b) && ·) else none
 | 1 :: ks, .b a :: r, .b b :: s => (aeq ks r s).map ((a == b) && ·)
 | 2 :: ks, .s a :: r, .s b :: s => (aeq ks r s).map ((a.toList == b.toList) && ·)
 | _, _, _ => none
def abytes : List AV → Option (List UInt8)
 | [] => some []
 | .i .u8 n :: r => (abytes r).map (UInt8.ofNat n.toNat :: ·)
 | _ => none
def kq (kk : Option (List Nat)) (a b : AV) : Option Bool :=
 match kk, a, b with
 | none, .i k x, .i k' y => if k = k' then some (decide (x = y)) else none
 | some ks, .ag cs, .ag ds => aeq ks cs ds
 | _, _, _ => none
def mfind (kk : Option (List Nat)) (key : AV) : List (AV × AV) → Nat → Option (Option (Nat × AV))
 | [], _ => some none
 | e :: es, i => match kq kk key e.1 with
   | some true => some (some (i, e.2))
   | some false => mfind kk key es (i + 1)
   | none => none
def mput (kk : Option (List Nat)) (key v : AV) (es : List (AV × AV)) : Option (List (AV × AV)) :=
 match mfind kk key es 0 with
 | some (some (i, _)) => some (es.set i (key, v))
 | some none => some (es ++ [(key, v)])
 | none => none
def strip (g : Bool) : AV → AV
 | .gd g' v => if (!g || g') = true then v else .gd g' v
 | v => v
def apick (t : Bool) (x y : AV) : Option AV :=
 match x, y with
 | .b p, .b q => some (.b (if t then p else q))
 | x, y => some (if t then x else y)
def AOp.ev (ρ : AX → AV) (h : AH) : AOp → Option AV
 | .mv x => some (ρ x)
 | .pick c a b => match ρ c with
   | .b t => apick t (strip t (ρ a)) (strip (!t) (ρ b))
   | _ => none
 | .bin bt op x y => abin bt op (ρ x) (ρ y)
 | .neg x => match ρ x with
   | .i k n => some (.i k (k.wrap (0 - n)))
   | _ => none
 | .not x => match ρ x with
   | .b t => some (.b !t)
   | _ => none
 | .conv k x => match ρ x with
   | .i _ n => some (.i k (k.wrap n))
   | _ => none
 | .ext x i => match ρ x with
   | .tu vs => vs[i]?
   | _ => none
 | .fa x off => match ρ x with
   | .p t o => some (.p t (o + off))
   | .pv cs o => some (.pv cs (o + off))
   | _ => none
 | .fld x off n => match ρ x with
   | .ag cs => rd cs off n
   | _ => none
 | .ia k x i => match ρ x, ρ i with
   | .sl t o n _, .i _ j => if 0 ≤ j ∧ j < n then some (.p t (o + j.toNat * k)) else none
   | .vs n cs, .i _ j => if 0 ≤ j ∧ j < n then some (.pv cs (j.toNat * k)) else none
   | _, _ => none
 | .iap n k x i => match ρ x, ρ i with
   | .p t o, .i _ j => if 0 ≤ j ∧ j < n then some (.p t (o + j.toNat * k)) else none
   | .pv cs o, .i _ j => if 0 ≤ j ∧ j < n then some (.pv cs (o + j.toNat * k)) else none
   | _, _ => none
 | .iv n k g x i => match ρ x, ρ i with
   | .ag cs, .i _ j => if 0 ≤ j ∧ j < n ∧ n * k ≤ cs.length then (if g then some (.ag ((cs.drop (j.toNat * k)).take k)) else cs[j.toNat * k]?) else none
   | _, _ => none
 | .sli k x lo hi => match ρ x with
   | .sl t o n a => match bound ρ 0 lo, bound ρ n hi with
     | some l, some h => if l ≤ h ∧ h ≤ n then some (.sl t (o + l * k) (h - l) (if a = k then k else 0)) else none
     | _, _ => none
   | .vs n cs => match bound ρ 0 lo, bound ρ n hi with
     | some l, some h => if l ≤ h ∧ h ≤ n then some (.vs (h - l) (vsub k lo hi l h cs)) else none
     | _, _ => none
   | _ => none
 | .slp n k x lo hi => match ρ x with
   | .p t o => match bound ρ 0 lo, bound ρ n hi with
     | some l, some h => if l ≤ h ∧ h ≤ n then some (.sl t (o + l * k) (h - l) 0) else none
     | _, _ => none
   | .pv cs o => match bound ρ 0 lo, bound ρ n hi with
     | some l, some h => if l ≤ h ∧ h ≤ n then some (.vs (h - l) ((cs.drop (o + l * k)).take ((h - l) * k))) else none
     | _, _ => none
   | _ => none
 | .nck x => match ρ x with
   | .p t o => some (.p t o)
   | .pv cs o => some (.pv cs o)
   | .fn f a b => some (.fn f a b)
   | _ => none
 | .bld zero parts => (afill ρ zero parts).map .ag
 | .len x => match ρ x with
   | .sl _ _ n _ => some (.i .i64 n)
   | .vs n _ => some (.i .i64 n)
   | _ => none
 | .mm mx x xs => amm mx (ρ x) (xs.map ρ)
 | .mkf f a b => some (.fn f (a.map ρ) (b.map ρ))
 | .eqn ng x y => match isNil (ρ x), isNil (ρ y) with
   | some true, some t => some (.b (t != ng))
   | some false, some true => some (.b ng)
   | _, _ => none
 | .ld n x => match ρ x with
   | .p t o => match h.row t with
     | some cs => rd cs o n
     | none => none
   | .pv cs o => rd cs o n
   | _ => none
 | .eqa ng ks x y => match ρ x, ρ y with
   | .ag cs, .ag ds => (aeq ks cs ds).map fun b => .b (b != ng)
   | _, _ => none
 | .eqs ng x y => match ρ x, ρ y with
   | .s a, .s b => some (.b ((a.toList == b.toList) != ng))
   | _, _ => none
 | .str x => match ρ x with
   | .sl t o n _ => if n = 0 then some (.s ByteArray.empty) else match h.row t with
     | some cs => if o + n ≤ cs.length then (abytes ((cs.drop o).take n)).map fun l => .s ⟨l.toArray⟩ else none
     | none => none
   | .vs n cs => if n = cs.length then (abytes cs).map fun l => .s ⟨l.toArray⟩ else none
   | _ => none
 | .sl3 k x lo hi mx => match ρ x with
   | .sl t o n a => match bound ρ 0 lo, bound ρ n (some hi), bound ρ n (some mx) with
     | some l, some h, some m => if l ≤ h ∧ h ≤ m ∧ m ≤ n then (if m = l then some (.sl 0 0 0 0) else some (.sl t (o + l * k) (h - l) (if a = k then k else 0))) else none
     | _, _, _ => none
   | .vs n cs => match bound ρ 0 lo, bound ρ n (some hi), bound ρ n (some mx) with
     | some l, some h, some m => if l ≤ h ∧ h ≤ m ∧ m ≤ n ∧ m = l then some (.sl 0 0 0 0) else none
     | _, _, _ => none
   | _ => none
 | .mlk kk z ok x k => match ρ x with
   | .nilm => if kq kk (ρ k) (ρ k) = some true then some (if ok then .tu [z, .b false] else z) else none
   | .mp t => match h.m t with
     | some (.map es) => if kq kk (ρ k) (ρ k) = some true then (match mfind kk (ρ k) es 0 with
       | some (some (_, v)) => some (if ok then .tu [v, .b true] else v)
       | some none => some (if ok then .tu [z, .b false] else z)
       | none => none) else none
     | _ => none
   | _ => none
 | .mln x => match ρ x with
   | .nilm => some (.i .i64 0)
   | .mp t => match h.m t with
     | some (.map es) => some (.i .i64 es.length)
     | _ => none
   | _ => none
 | _ => none
def AOp.al (ρ : AX → AV) (tok : Nat) : AOp → Option (AV × List AV)
 | .box x => if (ρ x).known then some (.p tok 0, (ρ x).cells) else none
 | .alloc zero => some (.p tok 0, zero)
 | .bsl k zero parts => (afill ρ zero parts).map fun cs => (if zero.length = 0 then .sl 0 0 0 k else .sl tok 0 (if k = 0 then 0 else zero.length / k) k, cs)
 | .mks k bytes zero ln cp => match ρ ln, ρ cp with
   | .i .i64 n, .i .i64 c => if 0 ≤ n ∧ n ≤ c ∧ c ≤ 281474976710656 ∧ bytes * c ≤ 281474976710656 then some (.sl tok 0 n.toNat k, (List.replicate n.toNat zero).flatten) else none
   | _, _ => none
 | _ => none
def wrt (cs : List AV) (o : Nat) (x : AV) : Option Nat → Option (List AV)
 | none => if x.one ∧ o < cs.length then some (cs.set o x) else none
 | some n => if x.known ∧ x.cells.all AV.one ∧ x.cells.length = n ∧ o + n ≤ cs.length then some (cs.take o ++ (x.cells ++ cs.drop (o + n))) else none
def AH.set (h : AH) (t : Nat) (b : Blk) : AH := { h with m := fun s => if s = t then some b else h.m s }
def AH.kill (h : AH) (t : Nat) : AH := { h with m := fun s => if s = t then none else h.m s }
def AH.sto (h : AH) (n : Option Nat) (x v : AV) : Option AH :=
 match x with
 | .p t o => match h.m t with
   | some (.cells true cs) => (wrt cs o v n).map fun cs' => h.set t (.cells true cs')
   | _ => none
 | _ => none
def AH.elems (h : AH) (k : Nat) : AV → Option (List AV)
 | .sl t o m _ => if m = 0 then some [] else match h.row t with
   | some cs => if o + m * k ≤ cs.length then some ((cs.drop o).take (m * k)) else none
   | none => none
 | .vs m cs => if m * k = cs.length then some cs else none
 | _ => none
def AV.sln : AV → Option Nat
 | .sl _ _ n _ => some n
 | .vs n _ => some n
 | _ => none
def AH.app (h : AH) (k bytes tok : Nat) (x y : AV) : Option (AV × AH) :=
 match x, y.sln, h.elems k y with
 | .sl t o n a, some m, some ys =>
  if ys.all AV.one ∧ k ≠ 0 ∧ n + m ≤ 140737488355328 ∧ (n + m) * bytes ≤ 140737488355328 then
   if t = 0 then (if n = 0 then some (.sl tok 0 m k, h.set tok (.cells true ys)) else none)
   else match h.m t with
    | some (.cells true cs) => if a = k ∧ o + n * k = cs.length then some (.sl tok 0 (n + m) k, (h.kill t).set tok (.cells true (cs.drop o ++ ys))) else none
    | _ => none
  else none
 | _, _, _ => none
def AH.qpp (h : AH) (k bytes tok : Nat) (x y : AV) : Option (AV × List AV) :=
 match x, y.sln, h.elems k y with
 | .sl t _ n _, some m, some ys => if t = 0 ∧ n = 0 ∧ ys.all AV.one ∧ k ≠ 0 ∧ n + m ≤ 140737488355328 ∧ (n + m) * bytes ≤ 140737488355328 then some (.sl tok 0 m k, ys) else none
 | _, _, _ => none
theorem qpp_app {h : AH} {k bytes tok : Nat} {x y v : AV} {cs : List AV} (e : h.qpp k bytes tok x y = some (v, cs)) : h.app k bytes tok x y = some (v, h.set tok (.cells true cs)) := by
 unfold AH.qpp at e
 split at e
 ·rename_i hy1 hy2
  split at e
  ·rename_i hc
   obtain ⟨h1, h2, h3, h4, h5, h6⟩ := hc
   cases e
   unfold AH.app
   simp only [hy1, hy2]
   rw [if_pos ⟨h3, h4, h5, h6⟩, if_pos h1, if_pos h2]
  ·cases e
 ·cases e
def AH.cvt (h : AH) : AV → Option AH
 | .sl t _ n _ => if n = 0 then none else match h.m t with
   | some (.cells true cs) => some (h.set t (.frz cs))
   | _ => none
 | _ => none
def AH.mup (h : AH) (kk : Option (List Nat)) (x k v : AV) : Option AH :=
 match x with
 | .mp t => match h.m t with
   | some (.map es) => if kq kk k k = some true then (mput kk k v es).map fun es' => h.set t (.map es') else none
   | _ => none
 | _ => none
def bcells (b : ByteArray) : List AV := b.data.toList.map fun c => .i .u8 c.toNat
structure AOper where
 d : Option Nat
 g : Option (Nat × Bool)
 op : AOp
 deriving Inhabited
def absV1 : Value → Option AV
 | .bool x => some (.b x)
 | .int k n => some (.i k n)
 | .string s => some (.s s)
 | .pointer none => some .nilp
 | .slice none 0 0 => some (.sl 0 0 0 0)
 | .nilFunc => some .nilf
 | .map none => some .nilm
 | _ => none
def absV : Value → Option AV
 | .agg cs => (cs.toList.mapM absV1).map .ag
 | v => absV1 v
def nilSl : Operand → Bool
 | .const (.slice none 0 0) => true
 | _ => false
theorem nilSl_eq {y : Operand} (h : nilSl y = true) : y = .const (.slice none 0 0) := by
 unfold nilSl at h
 split at h
 ·rfl
 ·cases h
def toX : Operand → Option AX
 | .tmp t => some (.t t)
 | .const v => (absV v).map .c
 | .func f => some (.c (.fn f [] []))
 | .global g => (TAB g).bind fun xs => (xs.toList.mapM absV1).map fun cs => .c (.pv cs 0)
def toXs (xs : Array Operand) : Option (List AX) := xs.toList.mapM toX
def toXo : Option Operand → Option (Option AX)
 | none => some none
 | some x => (toX x).map some
def szOf (P : Program) (t : TypeId) : Option Nat := (P.info? t).map (·.size)
def aggOf (P : Program) (t : TypeId) : Option Bool := (P.underlying t).map fun | .struct _ | .array _ _ => true | _ => false
def ldOf (P : Program) (t : TypeId) : Option (Option Nat) := do
 let g ← aggOf P t
 let n ← szOf P t
 if g then some (some n) else if n = 1 then some none else none
def zeroOf (P : Program) (t : TypeId) : Option (List AV) := do
 let i ← P.info? t
 let z ← i.zero
 let v ← absV z
 some v.cells
def flatEqF (g : TypeId → Option (List Nat)) : List Field → Nat → Option (List Nat)
 | [], _ => some []
 | fd :: r, off => match g fd.type with
   | some n => if fd.offset = off ∧ fd.name ≠ "_" then (flatEqF g r (off + n.length)).map (n ++ ·) else none
   | none => none
def flatEq (P : Program) : Nat → TypeId → Option (List Nat)
 | 0, _ => none
 | f + 1, t => match P.underlying t with
   | some (.int _) => if szOf P t = some 1 then some [0] else none
   | some .bool => if szOf P t = some 1 then some [1] else none
   | some .string => if szOf P t = some 1 then some [2] else none
   | some (.struct fs) => match flatEqF (flatEq P f) fs.toList 0 with
     | some n => if P.stoodInHeld t = false ∧ szOf P t = some n.length then some n else none
     | none => none
   | some (.array n e) => match flatEq P f e with
     | some m => if szOf P t = some (List.replicate n m).flatten.length then some (List.replicate n m).flatten else none
     | none => none
   | _ => none
def keyK (P : Program) (t : TypeId) : Option (Option (List Nat)) :=
 match P.underlying t with
 | some (.int _) => some none
 | some (.struct _) => (flatEq P 8 t).bind fun ks => if ks.all (· != 2) = true then some (some ks) else none
 | some (.array _ _) => (flatEq P 8 t).bind fun ks => if ks.all (· != 2) = true then some (some ks) else none
 | _ => none
def zeroV (P : Program) (t : TypeId) : Option AV := do
 let i ← P.info? t
 absV (← i.zero)
def AOp.ofCall (P : Program) (c : Call) : Option AOp :=
 match c.callee with
 | .value f => do some (.call (← toX f) (← toXs c.args))
 | .builtin .len => match c.argTypes[0]?, c.args.toList with
   | some t, [x] => match P.underlying t with
     | some (.slice _) => do some (.len (← toX x))
     | some (.map _ _) => do some (.mln (← toX x))
     | _ => none
   | _, _ => none
 | .builtin .min => match c.args.toList with
   | x :: xs => do some (.mm false (← toX x) (← xs.mapM toX))
   | [] => none
 | .builtin .max => match c.args.toList with
   | x :: xs => do some (.mm true (← toX x) (← xs.mapM toX))
   | [] => none
 | .builtin .append => match c.argTypes.toList, c.args.toList with
   | [t, u], [x, y] => match P.underlying t, P.underlying u with
     | some (.slice e), some (.slice _) => do
       let z ← zeroOf P e
       let k ← szOf P e
       if z.length ≠ k then none else some (.app k (← (P.info? e).map (·.bytes)) (← toX x) (← toX y))
     | _, _ => none
   | _, _ => none
 | _ => none
def AOp.of (P : Program) : Op → Option AOp
 | .move x | .assign x => do some (.mv (← toX x))
 | .pick c a b => do some (.pick (← toX c) (← toX a) (← toX b))
 | .binOp op xt x y _ =>
   match op with
   | .eql | .neq =>
     match P.underlying xt with
     | some .bool => do some (.bin true op (← toX x) (← toX y))
     | some (.int _) => do some (.bin false op (← toX x) (← toX y))
     | some (.pointer e) => do if (← szOf P e) = 0 then none else some (.eqn (op == .neq) (← toX x) (← toX y))
     | some .string => do some (.eqs (op == .neq) (← toX x) (← toX y))
     | some (.struct _) | some (.array _ _) => do
       let ks ← flatEq P 8 xt
       if P.eqGuardType P.depth xt = false then some (.eqa (op == .neq) ks (← toX x) (← toX y)) else none
     | some (.slice _) => do if nilSl y = true then some (.eqz (op == .neq) (← toX x)) else none
     | _ => none
   | _ => do some (.bin false op (← toX x) (← toX y))
 | .unOp .neg _ x => do some (.neg (← toX x))
 | .unOp .not _ x => do some (.not (← toX x))
 | .convert s d x =>
   match P.underlying s, P.underlying d with
   | some (.int _), some (.int k) => do some (.conv k (← toX x))
   | some (.slice e), some .string => match P.underlying e with
     | some (.int .u8) => do some (.str (← toX x))
     | _ => none
   | some .string, some (.slice e) => match P.underlying e with
     | some (.int .u8) => do some (.byt (← toX x))
     | _ => none
   | some (.slice _), some (.slice e) => match P.underlying e with
     | some (.int .u8) => do if s == d then some (.cvt (← toX x)) else none
     | _ => none
   | _, _ => none
 | .extract t i => do some (.ext (← toX t) i)
 | .fieldAddr s x f =>
   match P.underlying s with
   | some (.struct fs) => match fs[f]? with
     | some fl => do if (← szOf P fl.type) = 0 then none else some (.fa (← toX x) fl.offset)
     | none => none
   | _ => none
 | .field s x f =>
   match P.underlying s with
   | some (.struct fs) => match fs[f]? with
     | some fl => do some (.fld (← toX x) fl.offset (← ldOf P fl.type))
     | none => none
   | _ => none
 | .indexAddr t x i =>
   match P.underlying t with
   | some (.slice e) => do some (.ia (← szOf P e) (← toX x) (← toX i))
   | some (.array n e) => do some (.iap n (← szOf P e) (← toX x) (← toX i))
   | _ => none
 | .index t x i =>
   match P.underlying t with
   | some (.array n e) => do
     let g ← aggOf P e
     let k ← szOf P e
     if g = false ∧ k ≠ 1 then none else some (.iv n k g (← toX x) (← toX i))
   | _ => none
 | .slice t x lo hi none =>
   match P.underlying t with
   | some (.slice e) => do some (.sli (← szOf P e) (← toX x) (← toXo lo) (← toXo hi))
   | some (.array n e) => do some (.slp n (← szOf P e) (← toX x) (← toXo lo) (← toXo hi))
   | _ => none
 | .slice t x lo (some hi) (some mx) =>
   match P.underlying t with
   | some (.slice e) => do some (.sl3 (← szOf P e) (← toX x) (← toXo lo) (← toX hi) (← toX mx))
   | _ => none
 | .nilCheck x => do some (.nck (← toX x))
 | .load t x => do some (.ld (← ldOf P t) (← toX x))
 | .store t x v => do some (.sto (← ldOf P t) (← toX x) (← toX v))
 | .alloc e => do some (.alloc (← zeroOf P e))
 | .box _ x => do some (.box (← toX x))
 | .build t parts =>
   match P.underlying t with
   | some (.struct fs) => do
     let z ← zeroOf P t
     let ps ← parts.toList.mapM fun (p : Nat × Operand) => do
      let fl ← fs[p.1]?
      some (fl.offset, ← szOf P fl.type, ← toX p.2)
     if fs.toList.all fun fl => (szOf P fl.type).isSome then some (.bld z ps) else none
   | some (.array _ e) => do
     let z ← zeroOf P t
     let k ← szOf P e
     let ps ← parts.toList.mapM fun (p : Nat × Operand) => do some (p.1 * k, k, ← toX p.2)
     some (.bld z ps)
   | _ => none
 | .buildSlice t n parts =>
   match P.underlying t with
   | some (.slice e) => do
     let k ← szOf P e
     let z ← zeroOf P e
     let ps ← parts.toList.mapM fun (p : Nat × Operand) => do some (p.1 * k, k, ← toX p.2)
     if k ≠ 0 ∧ z.length = k ∧ n * k ≤ 16777216 then some (.bsl k (List.replicate n z).flatten ps) else none
   | _ => none
 | .makeSlice t l c =>
   match P.underlying t with
   | some (.slice e) => do
     let k ← szOf P e
     let z ← zeroOf P e
     let b ← (P.info? e).map (·.bytes)
     if k ≠ 0 ∧ z.length = k then some (.mks k b z (← toX l) (← toX c)) else none
   | _ => none
 | .makeMap _ none => some .mkm
 | .lookup t x i ok =>
   match P.underlying t with
   | some (.map k e) => do some (.mlk (← keyK P k) (← zeroV P e) ok (← toX x) (← toX i))
   | _ => none
 | .mapUpdate t m k x =>
   match P.underlying t with
   | some (.map kt _) => do some (.mup (← keyK P kt) (← toX m) (← toX k) (← toX x))
   | _ => none
 | .insert t m k x =>
   match P.underlying t with
   | some (.map kt _) => do some (.mup (← keyK P kt) (← toX m) (← toX k) (← toX x))
   | _ => none
 | .makeFunc (.func f) a b => do some (.mkf f (← toXs a) (← toXs b))
 | .call c => AOp.ofCall P c
 | _ => none
end Go.Am
set_option linter.unusedVariables false
set_option linter.unusedSimpArgs false
namespace Go.Am
variable {dfs : List Deferred}
theorem absV1_sound {ι : Inj} {v : Value} {a : AV} (h : absV1 v = some a) : VRel ι a v := by
 unfold absV1 at h
 split at h <;> simp only [Option.some.injEq, reduceCtorEq] at h <;> subst h <;> simp [VRel]
theorem absV_sound {ι : Inj} {v : Value} {a : AV} (h : absV v = some a) : VRel ι a v := by
 unfold absV at h
 split at h
 ·rename_i cs
  simp only [Option.map_eq_some_iff] at h
  obtain ⟨l, hl, rfl⟩ := h
  simp only [VRel]
  refine ⟨cs, rfl, ?_⟩
  generalize cs.toList = xs at hl
  induction xs generalizing l with
  | nil => simp at hl; subst hl; simp [VRels]
  | cons x xs ih =>
    simp only [List.mapM_cons, Option.pure_def, Option.bind_eq_bind, Option.bind_eq_some_iff, Option.some.injEq] at hl
    obtain ⟨y, hy, ys, hys, rfl⟩ := hl
    simp only [VRels]
    exact ⟨x, xs, rfl, absV1_sound hy, ih ys hys⟩
 ·exact absV1_sound h
theorem toX_sound {N : Nat} {ι : Inj} {st : St} {a : Act} (r : ARel N dfs ι st a) {x : Operand} {ax : AX} (h : toX x = some ax) : VRel ι (ax.val st) (a.eval x) := by
 cases x with
 | tmp t => simp [toX] at h; subst h; exact r.slot t
 | const v =>
   simp only [toX, Option.map_eq_some_iff] at h
   obtain ⟨y, hy, rfl⟩ := h
   exact absV_sound hy
 | func f =>
   simp [toX] at h; subst h
   simp only [AX.val, VRel, Act.eval, VRels]
   exact ⟨#[], #[], rfl, rfl, rfl⟩
 | global g =>
   simp only [toX, Option.bind_eq_some_iff, Option.map_eq_some_iff] at h
   obtain ⟨xs, h1, cs, h2, rfl⟩ := h
   have hv : VRels ι cs xs.toList := by
    clear h1
    generalize xs.toList = ys at h2
    induction ys generalizing cs with
    | nil => simp at h2; subst h2; simp [VRels]
    | cons x ys ih =>
      simp only [List.mapM_cons, Option.pure_def, Option.bind_eq_bind, Option.bind_eq_some_iff, Option.some.injEq] at h2
      obtain ⟨y, hy, zs, hzs, rfl⟩ := h2
      simp only [VRels]
      exact ⟨x, ys, rfl, absV1_sound hy, ih zs hzs⟩
   simp only [AX.val, VRel]
   refine ⟨g, 0, xs, rfl, r.tab g xs h1, ?_⟩
   rw [List.drop_zero, List.take_of_length_le (by rw [(VRels_iff.1 hv).1]; exact Nat.le_refl _)]
   exact hv
theorem mapM_length {α β : Type} {f : α → Option β} : ∀ {xs : List α} {ys : List β}, xs.mapM f = some ys → ys.length = xs.length
 | [], ys, h => by simp at h; subst h; rfl
 | x :: xs, ys, h => by
   simp only [List.mapM_cons, Option.pure_def, Option.bind_eq_bind, Option.bind_eq_some_iff, Option.some.injEq] at h
   obtain ⟨y, hy, zs, hzs, rfl⟩ := h
   simp [mapM_length hzs]
theorem toXs_sound {N : Nat} {ι : Inj} {st : St} {a : Act} (r : ARel N dfs ι st a) : ∀ {xs : List Operand} {ys : List AX}, xs.mapM toX = some ys → VRels ι (ys.map (AX.val st)) (xs.map a.eval)
 | [], ys, h => by simp at h; subst h; simp [VRels]
 | x :: xs, ys, h => by
   simp only [List.mapM_cons, Option.pure_def, Option.bind_eq_bind, Option.bind_eq_some_iff, Option.some.injEq] at h
   obtain ⟨y, hy, zs, hzs, rfl⟩ := h
   simp only [List.map_cons, VRels]
   exact ⟨_, _, rfl, toX_sound r hy, toXs_sound r hzs⟩
theorem VRels.append {ι : Inj} : ∀ {az bs : List AV} {vs us : List Value}, VRels ι az vs → VRels ι bs us → VRels ι (az ++ bs) (vs ++ us)
 | [], _, _, _, h, k => by simp only [VRels] at h; subst h; exact k
 | a :: az, _, _, _, h, k => by
   simp only [VRels] at h
   obtain ⟨v, r, rfl, h1, h2⟩ := h
   simp only [List.cons_append, VRels]
   exact ⟨_, _, rfl, h1, VRels.append h2 k⟩
theorem VRels.length {ι : Inj} {az : List AV} {vs : List Value} (h : VRels ι az vs) : az.length = vs.length := (VRels_iff.1 h).1
theorem VRels.get {ι : Inj} {az : List AV} {vs : List Value} (h : VRels ι az vs) {i : Nat} {a : AV} (ha : az[i]? = some a) : ∃ v, vs[i]? = some v ∧ VRel ι a v := by
 obtain ⟨hl, hr⟩ := VRels_iff.1 h
 have hi : i < vs.length := by have := (List.getElem?_eq_some_iff.1 ha).1; omega
 exact ⟨vs[i], List.getElem?_eq_getElem hi, hr i a _ ha (List.getElem?_eq_getElem hi)⟩
theorem VRels.drop {ι : Inj} (n : Nat) {az : List AV} {vs : List Value} (h : VRels ι az vs) : VRels ι (az.drop n) (vs.drop n) := by
 obtain ⟨hl, hr⟩ := VRels_iff.1 h
 exact VRels_iff.2 ⟨by simp [hl], fun i a v ha hv => hr (n + i) a v (by simpa using ha) (by simpa using hv)⟩
theorem VRels.take {ι : Inj} (n : Nat) {az : List AV} {vs : List Value} (h : VRels ι az vs) : VRels ι (az.take n) (vs.take n) := by
 obtain ⟨hl, hr⟩ := VRels_iff.1 h
 refine VRels_iff.2 ⟨by simp [hl], fun i a v ha hv => ?_⟩
 rw [List.getElem?_take] at ha hv
 split at ha
 ·rename_i hi; rw [if_pos hi] at hv; exact hr i a v ha hv
 ·cases ha
section
variable {P : Program} {N : Nat} {ι : Inj} {st : St} {a : Act} {h : AH} {w : World}
theorem Addr.add_eq (b o n : Nat) : Addr.add ⟨b, o, none⟩ n = ⟨b, o + n, none⟩ := by
 unfold Addr.add
 split
 ·rename_i h; subst h; rfl
 ·rfl
theorem szOf_run {t : TypeId} {n : Nat} (hs : szOf P t = some n) (w : World) : (sizeOf t).run P w = .ok n w := by
 unfold szOf at hs
 simp only [Option.map_eq_some_iff] at hs
 obtain ⟨i, hi, rfl⟩ := hs
 simp [sizeOf, typeInfo, hi]
theorem und_run {t : TypeId} {d : TypeDesc} (hs : P.underlying t = some d) (w : World) : (underlying t).run P w = .ok d w := by
 simp [underlying, hs]
theorem agg_run {t : TypeId} {g : Bool} (hs : aggOf P t = some g) (w : World) : (isAgg t).run P w = .ok g w := by
 unfold aggOf at hs
 simp only [Option.map_eq_some_iff] at hs
 obtain ⟨d, hd, rfl⟩ := hs
 simp only [isAgg, Sem.run_bind, und_run hd, Result.andThen_ok]
 cases d <;> rfl
theorem ldOf_spec {t : TypeId} {n : Option Nat} (hs : ldOf P t = some n) : ∃ g k, aggOf P t = some g ∧ szOf P t = some k ∧ n = (if g then some k else none) ∧ (g = false → k = 1) := by
 unfold ldOf at hs
 simp only [Option.bind_eq_bind, Option.bind_eq_some_iff] at hs
 obtain ⟨g, hg, k, hk, h⟩ := hs
 refine ⟨g, k, hg, hk, ?_⟩
 cases g
 ·simp only [Bool.false_eq_true, if_false] at h ⊢
  split at h
  ·rename_i h1; cases h; exact ⟨rfl, fun _ => h1⟩
  ·cases h
 ·simp only [if_true, Option.some.injEq] at h
  exact ⟨h.symm, fun h => by cases h⟩
theorem cell_of_row (rw : WRel ι h w) {t : Nat} {cs : List AV} (hr : h.row t = some cs) {i : Nat} {x : AV} (hx : cs[i]? = some x) {l : Loc} (hl : ι t = some l) :
 ∃ v, w.cell? ⟨l.b, l.sh + i, none⟩ = some v ∧ VRel ι x v := by
 unfold AH.row at hr
 split at hr
 ·rename_i wr cs' hm
  simp only [Option.some.injEq] at hr
  subst hr
  have hb := (rw.blk t _ hm).2
  simp only [BRel] at hb
  rcases hb with ⟨he, _⟩ | ⟨l', vs, e, fz, hl', hh, _, _, _, hc⟩
  ·subst he; simp at hx
  ·rw [hl] at hl'; cases hl'
   obtain ⟨v, hv, h2⟩ := hc i x hx
   exact ⟨v, by simp [World.cell?, hh, hv], h2⟩
 ·rename_i cs' hm
  simp only [Option.some.injEq] at hr
  subst hr
  have hb := (rw.blk t _ hm).2
  simp only [BRel] at hb
  obtain ⟨l', vs, e, hl', hh, _, _, hc⟩ := hb
  rw [hl] at hl'; cases hl'
  obtain ⟨v, hv, h2⟩ := hc i x hx
  exact ⟨v, by simp [World.cell?, hh, hv], h2⟩
 ·cases hr
def Lies (ι : Inj) (cs : List AV) (xs : Array Value) (s : Nat) : Prop := VRels ι cs ((xs.toList.drop s).take cs.length)
theorem Lies.drop {cs : List AV} {xs : Array Value} {s : Nat} (r : Lies ι cs xs s) (d : Nat) : Lies ι (cs.drop d) xs (s + d) := by
 have := VRels.drop d r
 unfold Lies
 rw [List.length_drop, ← List.drop_drop]
 rwa [List.drop_take] at this
theorem Lies.take {cs : List AV} {xs : Array Value} {s : Nat} (r : Lies ι cs xs s) (d : Nat) : Lies ι (cs.take d) xs s := by
 have := VRels.take d r
 unfold Lies
 rw [List.length_take]
 rwa [List.take_take] at this
theorem Lies.get {cs : List AV} {xs : Array Value} {s : Nat} (r : Lies ι cs xs s) {i : Nat} {x : AV} (hx : cs[i]? = some x) : ∃ v, xs[s + i]? = some v ∧ VRel ι x v := by
 obtain ⟨v, hv, h2⟩ := VRels.get r hx
 rw [List.getElem?_take] at hv
 split at hv
 ·rw [List.getElem?_drop] at hv
  exact ⟨v, by simpa using hv, h2⟩
 ·cases hv
theorem cell_of_phi (rw : WRel ι h w) {b s : Nat} {xs : Array Value} (hp : ι.φ b = some xs) {cs : List AV} (r : Lies ι cs xs s) {i : Nat} {x : AV} (hx : cs[i]? = some x) :
 ∃ v, w.cell? ⟨b, s + i, none⟩ = some v ∧ VRel ι x v := by
 obtain ⟨v, hv, h2⟩ := r.get hx
 obtain ⟨⟨e, fz, hh⟩, _⟩ := rw.phi b xs hp
 exact ⟨v, by simp [World.cell?, hh, hv], h2⟩
theorem loadCells_of_phi (rw : WRel ι h w) {b s : Nat} {xs : Array Value} (hp : ι.φ b = some xs) {cs : List AV} (r : Lies ι cs xs s) {o n : Nat} (hn : o + n ≤ cs.length) :
 ∃ vs : Array Value, (loadCells ⟨b, s + o, none⟩ n).run P w = .ok vs w ∧ VRels ι ((cs.drop o).take n) vs.toList := by
 have key : ∀ n i (acc : Array Value), o + i + n ≤ cs.length → ∃ us : List Value, (loadCellsFrom ⟨b, s + o, none⟩ i n acc).run P w = .ok (acc ++ us.toArray) w ∧ VRels ι ((cs.drop (o + i)).take n) us := by
  intro n
  induction n with
  | zero => intro i acc _; exact ⟨[], by simp [loadCellsFrom], by simp [VRels]⟩
  | succ n ih =>
    intro i acc hle
    have hlt : o + i < cs.length := by omega
    obtain ⟨v, hv, hr'⟩ := cell_of_phi rw hp r (List.getElem?_eq_getElem hlt)
    obtain ⟨us, h1, h2⟩ := ih (i + 1) (acc.push v) (by omega)
    refine ⟨v :: us, ?_, ?_⟩
    ·simp only [loadCellsFrom, Sem.run_bind, run_load, Addr.add_eq]
     rw [show s + o + i = s + (o + i) by omega, hv]
     simp only [Result.andThen_ok]
     rw [h1]
     congr 1
     apply Array.ext'
     simp
    ·rw [List.drop_eq_getElem_cons hlt]
     simp only [List.take_succ_cons, VRels]
     exact ⟨_, _, rfl, hr', by rw [show o + i + 1 = o + (i + 1) by omega]; exact h2⟩
 obtain ⟨us, h1, h2⟩ := key n 0 #[] (by omega)
 exact ⟨us.toArray, by simpa [loadCells] using h1, by simpa using h2⟩
theorem ld_phi (rw : WRel ι h w) {t : TypeId} {n : Option Nat} (hn : ldOf P t = some n) {b s o : Nat} {xs : Array Value} (hp : ι.φ b = some xs) {cs : List AV} (r : Lies ι cs xs s) {x : AV}
 (hx : rd cs o n = some x) : ∃ v, (loadVar t ⟨b, s + o, none⟩).run P w = .ok v w ∧ VRel ι x v := by
 obtain ⟨g, m, hg, hm, rfl, _⟩ := ldOf_spec hn
 cases g with
 | false =>
   have hx : cs[o]? = some x := hx
   obtain ⟨v, hv, h2⟩ := cell_of_phi rw hp r hx
   exact ⟨v, by simp [loadVar, agg_run hg, hv], h2⟩
 | true =>
   have hx : (if o + m ≤ cs.length then some (AV.ag ((cs.drop o).take m)) else none) = some x := hx
   split at hx
   ·rename_i hle
    simp only [Option.some.injEq] at hx
    subst hx
    obtain ⟨vs, h1, h2⟩ := loadCells_of_phi (P := P) rw hp r hle
    refine ⟨.agg vs, by simp [loadVar, agg_run hg, szOf_run hm, h1], ?_⟩
    simp only [VRel]
    exact ⟨vs, rfl, h2⟩
   ·cases hx
theorem loadCells_of_row (rw : WRel ι h w) {t : Nat} {cs : List AV} (hr : h.row t = some cs) {o n : Nat} (hn : o + n ≤ cs.length) {l : Loc} (hl : ι t = some l) :
 ∃ vs : Array Value, (loadCells ⟨l.b, l.sh + o, none⟩ n).run P w = .ok vs w ∧ VRels ι ((cs.drop o).take n) vs.toList := by
 have key : ∀ n i (acc : Array Value), o + i + n ≤ cs.length → ∃ us : List Value, (loadCellsFrom ⟨l.b, l.sh + o, none⟩ i n acc).run P w = .ok (acc ++ us.toArray) w ∧ VRels ι ((cs.drop (o + i)).take n) us := by
  intro n
  induction n with
  | zero => intro i acc _; exact ⟨[], by simp [loadCellsFrom], by simp [VRels]⟩
  | succ n ih =>
    intro i acc hle
    have hlt : o + i < cs.length := by omega
    obtain ⟨v, hv, hr'⟩ := cell_of_row rw hr (List.getElem?_eq_getElem hlt) hl
    obtain ⟨us, h1, h2⟩ := ih (i + 1) (acc.push v) (by omega)
    refine ⟨v :: us, ?_, ?_⟩
    ·simp only [loadCellsFrom, Sem.run_bind, run_load, Addr.add_eq]
     rw [show l.sh + o + i = l.sh + (o + i) by omega, hv]
     simp only [Result.andThen_ok]
     rw [h1]
     congr 1
     apply Array.ext'
     simp
    ·rw [List.drop_eq_getElem_cons hlt]
     simp only [List.take_succ_cons, VRels]
     exact ⟨_, _, rfl, hr', by rw [show o + i + 1 = o + (i + 1) by omega]; exact h2⟩
 obtain ⟨us, h1, h2⟩ := key n 0 #[] (by omega)
 exact ⟨us.toArray, by simpa [loadCells] using h1, by simpa using h2⟩
theorem ld_sound (rw : WRel ι h w) {t : TypeId} {n : Option Nat} (hn : ldOf P t = some n) {k o : Nat} {cs : List AV} (hr : h.row k = some cs) {x : AV}
 (hx : rd cs o n = some x) {l : Loc} (hl : ι k = some l) :
 ∃ v, (loadVar t ⟨l.b, l.sh + o, none⟩).run P w = .ok v w ∧ VRel ι x v := by
 obtain ⟨g, m, hg, hm, rfl, _⟩ := ldOf_spec hn
 cases g with
 | false =>
   have hx : cs[o]? = some x := hx
   obtain ⟨v, hv, h2⟩ := cell_of_row rw hr hx hl
   exact ⟨v, by simp [loadVar, agg_run hg, hv], h2⟩
 | true =>
   have hx : (if o + m ≤ cs.length then some (AV.ag ((cs.drop o).take m)) else none) = some x := hx
   split at hx
   ·rename_i hle
    simp only [Option.some.injEq] at hx
    subst hx
    obtain ⟨vs, h1, h2⟩ := loadCells_of_row (P := P) rw hr hle hl
    refine ⟨.agg vs, by simp [loadVar, agg_run hg, szOf_run hm, h1], ?_⟩
    simp only [VRel]
    exact ⟨vs, rfl, h2⟩
   ·cases hx
def Sound (P : Program) (ι : Inj) (st : St) (a : Act) (h : AH) (w : World) (o : Oper) (ao : AOp) : Prop :=
 ∀ v, ao.ev (AX.val st) h = some v → ∃ u, (execOp a.eval o).run P w = .ok (.value u) w ∧ VRel ι v u
theorem run_equalIn_bool (d : Nat) {t : TypeId} (hu : P.underlying t = some .bool) (p q : Bool) (w : World) : (Op.equalIn (d + 1) t (.bool p) (.bool q)).run P w = .ok (p == q) w := by
 simp [Op.equalIn, und_run hu]
theorem run_eql_bool {t : TypeId} (hu : P.underlying t = some .bool) (p q : Bool) (w : World) : (binOp .eql t (.bool p) (.bool q)).run P w = .ok (.bool (p == q)) w := by
 simp only [binOp]
 simp [Op.equal, Op.maxDepth, run_equalIn_bool 9999 hu]
theorem run_neq_bool {t : TypeId} (hu : P.underlying t = some .bool) (p q : Bool) (w : World) : (binOp .neq t (.bool p) (.bool q)).run P w = .ok (.bool (p != q)) w := by
 simp only [binOp]
 simp [Op.equal, Op.maxDepth, run_equalIn_bool 9999 hu, bne]
theorem sound_bin (ra : ARel N dfs ι st a) {o : Oper} {op : BinOp} {xt yt : TypeId} {x y : Operand} (ho : o.op = .binOp op xt x y yt) {bt : Bool} {ax ay : AX}
 (hx : toX x = some ax) (hy : toX y = some ay) (hb : bt = true → P.underlying xt = some .bool) : Sound P ι st a h w o (.bin bt op ax ay) := by
 intro v hv
 have rx := toX_sound ra hx
 have ry := toX_sound ra hy
 simp only [AOp.ev] at hv
 generalize ax.val st = u at *
 generalize ay.val st = z at *
 simp only [execOp, ho]
 generalize a.eval x = vx at *
 generalize a.eval y = vy at *
 unfold abin at hv
 split at hv
 ·-- integers
  rename_i k n k' m
  simp only [VRel] at rx ry
  subst rx; subst ry
  have hg : (eqGuard op xt x y (.int k n) (.int k' m)).run P w = .ok () w := by
   unfold eqGuard; split <;> rfl
  split at hv
  ·rename_i hk
   have fin : ∃ u, (binOp op xt (.int k n) (.int k' m)).run P w = .ok u w ∧ VRel ι v u := by
    cases op <;> simp only [aint] at hv
    case shl =>
     split at hv
     ·rename_i h0; cases hv
      refine ⟨.int k (k.wrap (n * 2 ^ (min m.toNat k.bits))), ?_, by simp only [VRel]⟩
      have h1 : ¬ m < 0 := by omega
      simp [binOp, Op.shift, h1]
     ·cases hv
    case shr =>
     split at hv
     ·rename_i h0; cases hv
      refine ⟨.int k (n.fdiv (2 ^ (min m.toNat k.bits))), ?_, by simp only [VRel]⟩
      have h1 : ¬ m < 0 := by omega
      simp [binOp, Op.shift, h1]
     ·cases hv
    case quo =>
     split at hv
     ·cases hv
     ·rename_i h0; cases hv
      obtain rfl : k = k' := by simpa using hk
      exact ⟨.int k (k.wrap (n.tdiv m)), by simp [binOp, Op.intDiv, h0], by simp only [VRel]⟩
    case rem =>
     split at hv
     ·cases hv
     ·rename_i h0; cases hv
      obtain rfl : k = k' := by simpa using hk
      exact ⟨.int k (n.tmod m), by simp [binOp, Op.intDiv, h0], by simp only [VRel]⟩
    all_goals
     cases hv
     obtain rfl : k = k' := by simpa using hk
     exact ⟨_, by simp [binOp, Op.intArith, Op.intBits, Op.intCmp]; rfl, by simp [VRel, abits]⟩
   obtain ⟨u, h1, h2⟩ := fin
   exact ⟨u, by simp [hg, h1], h2⟩
  ·cases hv
 ·rename_i p q
  simp only [VRel] at rx ry
  subst rx; subst ry
  split at hv
  ·rename_i ht
   have hg : (eqGuard op xt x y (.bool p) (.bool q)).run P w = .ok () w := by
    unfold eqGuard; split <;> rfl
   split at hv
   ·cases hv
    exact ⟨.bool (p == q), by simp [hg, run_eql_bool (hb ht)], by simp only [VRel]⟩
   ·cases hv
    exact ⟨.bool (p != q), by simp [hg, run_neq_bool (hb ht)], by simp only [VRel]⟩
   ·cases hv
  ·cases hv
 ·cases hv
end
end Go.Am
set_option linter.unusedVariables false
set_option linter.unusedSimpArgs false
namespace Go.Am
variable {dfs : List Deferred}
section
variable {P : Program} {N : Nat} {ι : Inj} {st : St} {a : Act} {h : AH} {w : World}
theorem sound_mv (ra : ARel N dfs ι st a) {o : Oper} {x : Operand} (ho : o.op = .move x ∨ o.op = .assign x) {ax : AX} (hx : toX x = some ax) : Sound P ι st a h w o (.mv ax) := by
 intro v hv
 simp only [AOp.ev, Option.some.injEq] at hv
 subst hv
 rcases ho with ho | ho <;> exact ⟨_, by simp [execOp, ho], toX_sound ra hx⟩
theorem strip_sound {g : Bool} (hg : g = true) {x : AV} {u : Value} (r : VRel ι x u) : VRel ι (strip g x) u := by
 unfold strip
 split
 ·rename_i g' v
  split
  ·rename_i hc
   subst hg
   simp only [VRel] at r
   exact r.1 (by simpa using hc)
  ·exact r
 ·exact r
theorem sound_pick (ra : ARel N dfs ι st a) {o : Oper} {c x y : Operand} (ho : o.op = .pick c x y) {ac ax ay : AX} (hc : toX c = some ac) (hx : toX x = some ax) (hy : toX y = some ay) :
 Sound P ι st a h w o (.pick ac ax ay) := by
 intro v hv
 simp only [AOp.ev] at hv
 have rc := toX_sound ra hc
 split at hv
 ·rename_i t ht
  rw [ht] at rc
  simp only [VRel] at rc
  cases t
  ·refine ⟨a.eval y, by simp [execOp, ho, rc, asBool], ?_⟩
   have r := strip_sound (g := true) rfl (toX_sound ra hy)
   have : v = strip true (ay.val st) := by
    simp only [Bool.not_false] at hv
    generalize strip true (ay.val st) = q at hv
    unfold apick at hv
    split at hv <;> simp at hv <;> exact hv.symm
   rw [this]; exact r
  ·refine ⟨a.eval x, by simp [execOp, ho, rc, asBool], ?_⟩
   have r := strip_sound (g := true) rfl (toX_sound ra hx)
   have : v = strip true (ax.val st) := by
    generalize strip true (ax.val st) = q at hv
    unfold apick at hv
    split at hv <;> simp at hv <;> exact hv.symm
   rw [this]; exact r
 ·cases hv
theorem sound_neg (ra : ARel N dfs ι st a) {o : Oper} {t : TypeId} {x : Operand} (ho : o.op = .unOp .neg t x) {ax : AX} (hx : toX x = some ax) : Sound P ι st a h w o (.neg ax) := by
 intro v hv
 simp only [AOp.ev] at hv
 have rx := toX_sound ra hx
 split at hv
 ·rename_i k n ht
  rw [ht] at rx
  simp only [VRel] at rx
  cases hv
  exact ⟨.int k (k.wrap (0 - n)), by simp [execOp, ho, rx, Op.unary, Op.intArith], by simp only [VRel]⟩
 ·cases hv
theorem sound_not (ra : ARel N dfs ι st a) {o : Oper} {t : TypeId} {x : Operand} (ho : o.op = .unOp .not t x) {ax : AX} (hx : toX x = some ax) : Sound P ι st a h w o (.not ax) := by
 intro v hv
 simp only [AOp.ev] at hv
 have rx := toX_sound ra hx
 split at hv
 ·rename_i t ht
  rw [ht] at rx
  simp only [VRel] at rx
  cases hv
  exact ⟨.bool !t, by simp [execOp, ho, rx, Op.unary], by simp only [VRel]⟩
 ·cases hv
theorem sound_conv (ra : ARel N dfs ι st a) {o : Oper} {s d : TypeId} {x : Operand} (ho : o.op = .convert s d x) {ks k : IntKind} (hs : P.underlying s = some (.int ks)) (hd : P.underlying d = some (.int k))
 {ax : AX} (hx : toX x = some ax) : Sound P ι st a h w o (.conv k ax) := by
 intro v hv
 simp only [AOp.ev] at hv
 have rx := toX_sound ra hx
 split at hv
 ·rename_i k' n ht
  rw [ht] at rx
  simp only [VRel] at rx
  cases hv
  exact ⟨.int k (k.wrap n), by simp [execOp, ho, rx, convert, und_run hs, und_run hd, Conv.intToInt], by simp only [VRel]⟩
 ·cases hv
theorem sound_ext (ra : ARel N dfs ι st a) {o : Oper} {x : Operand} {i : Nat} (ho : o.op = .extract x i) {ax : AX} (hx : toX x = some ax) : Sound P ι st a h w o (.ext ax i) := by
 intro v hv
 simp only [AOp.ev] at hv
 have rx := toX_sound ra hx
 split at hv
 ·rename_i vs ht
  rw [ht] at rx
  simp only [VRel] at rx
  obtain ⟨us, hu, hr⟩ := rx
  obtain ⟨u, h1, h2⟩ := hr.get hv
  refine ⟨u, ?_, h2⟩
  have h1' : us[i]? = some u := by simpa using h1
  simp [execOp, ho, hu, Instr.extract, h1']
 ·cases hv
theorem sound_fa (ra : ARel N dfs ι st a) {o : Oper} {s : TypeId} {x : Operand} {f : Nat} (ho : o.op = .fieldAddr s x f) {fs : Array Field} (hs : P.underlying s = some (.struct fs)) {fl : Field} (hf : fs[f]? = some fl)
 {n : Nat} (hn : szOf P fl.type = some n) (h0 : n ≠ 0) {ax : AX} (hx : toX x = some ax) : Sound P ι st a h w o (.fa ax fl.offset) := by
 intro v hv
 simp only [AOp.ev] at hv
 have rx := toX_sound ra hx
 split at hv
 ·rename_i t o' ht
  rw [ht] at rx
  simp only [VRel] at rx
  obtain ⟨l, hl, hp⟩ := rx
  cases hv
  refine ⟨.pointer (some ⟨l.b, l.sh + o' + fl.offset, none⟩), ?_, ?_⟩
  ·simp [execOp, ho, hp, Instr.fieldAt, und_run hs, hf, Instr.sureAddr, fieldPlace, szOf_run hn, h0, Addr.add_eq]
  ·simp only [VRel]; exact ⟨l, hl, by rw [Nat.add_assoc]⟩
 ·rename_i cs o' ht
  rw [ht] at rx
  simp only [VRel] at rx
  obtain ⟨b, s, xs, hp, hf, hr⟩ := rx
  cases hv
  refine ⟨.pointer (some ⟨b, s + o' + fl.offset, none⟩), ?_, ?_⟩
  ·simp [execOp, ho, hp, Instr.fieldAt, und_run hs, ‹fs[f]? = some fl›, Instr.sureAddr, fieldPlace, szOf_run hn, h0, Addr.add_eq]
  ·simp only [VRel]; exact ⟨b, s, xs, by rw [Nat.add_assoc], hf, hr⟩
 ·cases hv
theorem part_run {t : TypeId} {n : Option Nat} (hn : ldOf P t = some n) {cs : List AV} {vs : Array Value} (hr : VRels ι cs vs.toList) {off : Nat} {x : AV}
 (hx : rd cs off n = some x) (w : World) :
 ∃ v, (part t vs off).run P w = .ok v w ∧ VRel ι x v := by
 obtain ⟨g, m, hg, hm, rfl, _⟩ := ldOf_spec hn
 cases g with
 | false =>
   have hx : cs[off]? = some x := hx
   obtain ⟨u, h1, h2⟩ := hr.get hx
   have h1' : vs[off]? = some u := by simpa using h1
   exact ⟨u, by simp [part, agg_run hg, h1'], h2⟩
 | true =>
   have hx : (if off + m ≤ cs.length then some (AV.ag ((cs.drop off).take m)) else none) = some x := hx
   split at hx
   ·cases hx
    refine ⟨.agg (vs.extract off (off + m)), by simp [part, agg_run hg, szOf_run hm], ?_⟩
    simp only [VRel]
    refine ⟨_, rfl, ?_⟩
    have := (hr.drop off).take m
    simpa [List.drop_take] using this
   ·cases hx
theorem sound_fld (ra : ARel N dfs ι st a) {o : Oper} {s : TypeId} {x : Operand} {f : Nat} (ho : o.op = .field s x f) {fs : Array Field} (hs : P.underlying s = some (.struct fs)) {fl : Field} (hf : fs[f]? = some fl)
 {n : Option Nat} (hn : ldOf P fl.type = some n) {ax : AX} (hx : toX x = some ax) : Sound P ι st a h w o (.fld ax fl.offset n) := by
 intro v hv
 simp only [AOp.ev] at hv
 have rx := toX_sound ra hx
 split at hv
 ·rename_i cs ht
  rw [ht] at rx
  simp only [VRel] at rx
  obtain ⟨vs, he, hr⟩ := rx
  obtain ⟨u, h1, h2⟩ := part_run (P := P) hn hr hv w
  exact ⟨u, by simp [execOp, ho, he, Instr.field, und_run hs, hf, asAgg, h1], h2⟩
 ·cases hv
theorem sound_ia (ra : ARel N dfs ι st a) {o : Oper} {t : TypeId} {x i : Operand} (ho : o.op = .indexAddr t x i) {e : TypeId} (hs : P.underlying t = some (.slice e)) {k : Nat} (hk : szOf P e = some k)
 {ax ai : AX} (hx : toX x = some ax) (hi : toX i = some ai) : Sound P ι st a h w o (.ia k ax ai) := by
 intro v hv
 simp only [AOp.ev] at hv
 have rx := toX_sound ra hx
 have ri := toX_sound ra hi
 split at hv
 ·rename_i t' o' n m kk j h1 h2
  rw [h1] at rx; rw [h2] at ri
  simp only [VRel] at rx ri
  split at hv
  ·rename_i hj
   cases hv
   rcases rx with ⟨h0, _⟩ | ⟨l, cap, hl, hv, hc, _⟩
   ·omega
   ·refine ⟨.pointer (some ⟨l.b, l.sh + o' + j.toNat * k, none⟩), ?_, ?_⟩
    ·simp [execOp, ho, hv, ri, Instr.indexAt, asIntOf, und_run hs, hj.1, hj.2, szOf_run hk, Addr.add_eq]
    ·simp only [VRel]; exact ⟨l, hl, by rw [Nat.add_assoc]⟩
  ·cases hv
 ·rename_i n cs kk j h1 h2
  rw [h1] at rx; rw [h2] at ri
  simp only [VRel] at rx ri
  split at hv
  ·rename_i hj
   cases hv
   rcases rx with ⟨h0, _⟩ | ⟨b, s, cap, xs, hv, hc, hf, hr⟩
   ·omega
   ·refine ⟨.pointer (some ⟨b, s + j.toNat * k, none⟩), ?_, ?_⟩
    ·simp [execOp, ho, hv, ri, Instr.indexAt, asIntOf, und_run hs, hj.1, hj.2, szOf_run hk, Addr.add_eq]
    ·simp only [VRel]; exact ⟨b, s, xs, rfl, hf, hr⟩
  ·cases hv
 ·cases hv
theorem sound_iap (ra : ARel N dfs ι st a) {o : Oper} {t : TypeId} {x i : Operand} (ho : o.op = .indexAddr t x i) {n : Nat} {e : TypeId} (hs : P.underlying t = some (.array n e)) {k : Nat} (hk : szOf P e = some k)
 {ax ai : AX} (hx : toX x = some ax) (hi : toX i = some ai) : Sound P ι st a h w o (.iap n k ax ai) := by
 intro v hv
 simp only [AOp.ev] at hv
 have rx := toX_sound ra hx
 have ri := toX_sound ra hi
 split at hv
 ·rename_i t' o' kk j h1 h2
  rw [h1] at rx; rw [h2] at ri
  simp only [VRel] at rx ri
  split at hv
  ·rename_i hj
   cases hv
   obtain ⟨l, hl, hv⟩ := rx
   refine ⟨.pointer (some ⟨l.b, l.sh + o' + j.toNat * k, none⟩), ?_, ?_⟩
   ·simp [execOp, ho, hv, ri, Instr.indexAt, asIntOf, und_run hs, hj.1, hj.2, szOf_run hk, Addr.add_eq, Instr.sureAddr]
   ·simp only [VRel]; exact ⟨l, hl, by rw [Nat.add_assoc]⟩
  ·cases hv
 ·rename_i cs o' kk j h1 h2
  rw [h1] at rx; rw [h2] at ri
  simp only [VRel] at rx ri
  split at hv
  ·rename_i hj
   cases hv
   obtain ⟨b, s, xs, hv, hf, hr⟩ := rx
   refine ⟨.pointer (some ⟨b, s + o' + j.toNat * k, none⟩), ?_, ?_⟩
   ·simp [execOp, ho, hv, ri, Instr.indexAt, asIntOf, und_run hs, hj.1, hj.2, szOf_run hk, Addr.add_eq, Instr.sureAddr]
   ·simp only [VRel]; exact ⟨b, s, xs, by rw [Nat.add_assoc], hf, hr⟩
  ·cases hv
 ·cases hv
theorem sound_iv (ra : ARel N dfs ι st a) {o : Oper} {t : TypeId} {x i : Operand} (ho : o.op = .index t x i) {n : Nat} {e : TypeId} (hs : P.underlying t = some (.array n e)) {k : Nat} (hk : szOf P e = some k)
 {g : Bool} (hg : aggOf P e = some g) (hk1 : g = false → k = 1) {ax ai : AX} (hx : toX x = some ax) (hi : toX i = some ai) : Sound P ι st a h w o (.iv n k g ax ai) := by
 intro v hv
 simp only [AOp.ev] at hv
 have rx := toX_sound ra hx
 have ri := toX_sound ra hi
 split at hv
 ·rename_i cs kk j h1 h2
  rw [h1] at rx; rw [h2] at ri
  simp only [VRel] at rx ri
  split at hv
  ·rename_i hj
   obtain ⟨vs, hv', hr⟩ := rx
   have hn : ldOf P e = some (if g then some k else none) := by
    unfold ldOf
    simp only [hg, hk, Option.bind_eq_bind, Option.bind_some]
    cases g
    ·simp [hk1 rfl]
    ·rfl
   have hlt : j.toNat + 1 ≤ n := by omega
   have hle : j.toNat * k + k ≤ cs.length := by
    have := Nat.mul_le_mul_right k hlt
    rw [Nat.add_mul, Nat.one_mul] at this
    omega
   obtain ⟨u, h3, h4⟩ := part_run (P := P) (off := j.toNat * k) (x := v) hn hr (by
    cases g
    ·show cs[j.toNat * k]? = some v
     simpa using hv
    ·show (if j.toNat * k + k ≤ cs.length then some (AV.ag ((cs.drop (j.toNat * k)).take k)) else none) = some v
     rw [if_pos hle]; exact hv) w
   exact ⟨u, by simp [execOp, ho, hv', ri, Instr.index, asIntOf, und_run hs, hj.1, hj.2.1, szOf_run hk, h3], h4⟩
  ·cases hv
 ·cases hv
theorem sound_nck (ra : ARel N dfs ι st a) {o : Oper} {x : Operand} (ho : o.op = .nilCheck x) {ax : AX} (hx : toX x = some ax) : Sound P ι st a h w o (.nck ax) := by
 intro v hv
 simp only [AOp.ev] at hv
 have rx := toX_sound ra hx
 split at hv
 ·rename_i t o' ht
  cases hv
  have r0 := rx
  rw [ht] at rx r0
  simp only [VRel] at rx
  obtain ⟨l, hl, hp⟩ := rx
  exact ⟨a.eval x, by simp [execOp, ho, hp], r0⟩
 ·rename_i cs o' ht
  cases hv
  have r0 := rx
  rw [ht] at rx r0
  simp only [VRel] at rx
  obtain ⟨b, s, xs, hp, _⟩ := rx
  exact ⟨a.eval x, by simp [execOp, ho, hp], r0⟩
 ·rename_i f x1 x2 ht
  cases hv
  have r0 := rx
  rw [ht] at rx r0
  simp only [VRel] at rx
  obtain ⟨p, q, hp, _⟩ := rx
  exact ⟨a.eval x, by simp [execOp, ho, hp], r0⟩
 ·cases hv
theorem sound_len (ra : ARel N dfs ι st a) {o : Oper} {c : Call} (ho : o.op = .call c) (hc : c.callee = .builtin .len) {t : TypeId} {x : Operand} (ht : c.argTypes[0]? = some t) (hx' : c.args.toList = [x]) {e : TypeId} (hs : P.underlying t = some (.slice e))
 {ax : AX} (hx : toX x = some ax) : Sound P ι st a h w o (.len ax) := by
 intro v hv
 simp only [AOp.ev] at hv
 have rx := toX_sound ra hx
 have harg : c.args = #[x] := by rw [← Array.toArray_toList (xs := c.args), hx']
 split at hv
 ·rename_i t' o' n m h1
  rw [h1] at rx
  cases hv
  simp only [VRel] at rx
  have : ∃ p q, a.eval x = .slice p n q := by
   rcases rx with ⟨rfl, y, hy⟩ | ⟨l, cap, _, hv, _⟩
   ·exact ⟨_, _, hy⟩
   ·exact ⟨_, _, hv⟩
  obtain ⟨p, q, hp⟩ := this
  exact ⟨.int .i64 n, by simp [execOp, ho, resolve, hc, invoke, builtin, Builtin.len_, ht, harg, hp, und_run hs, goInt], by simp only [VRel]⟩
 ·rename_i n cs h1
  rw [h1] at rx
  cases hv
  simp only [VRel] at rx
  have : ∃ p q, a.eval x = .slice p n q := by
   rcases rx with ⟨rfl, y, hy⟩ | ⟨b, s, cap, xs, hv, _⟩
   ·exact ⟨_, _, hy⟩
   ·exact ⟨_, _, hv⟩
  obtain ⟨p, q, hp⟩ := this
  exact ⟨.int .i64 n, by simp [execOp, ho, resolve, hc, invoke, builtin, Builtin.len_, ht, harg, hp, und_run hs, goInt], by simp only [VRel]⟩
 ·cases hv
theorem sound_mkf (ra : ARel N dfs ι st a) {o : Oper} {f : Nat} {x y : Array Operand} (ho : o.op = .makeFunc (.func f) x y) {ax ay : List AX} (hx : toXs x = some ax) (hy : toXs y = some ay) :
 Sound P ι st a h w o (.mkf f ax ay) := by
 intro v hv
 simp only [AOp.ev, Option.some.injEq] at hv
 subst hv
 refine ⟨.func (.func f) (x.map a.eval) (y.map a.eval), by simp [execOp, ho, Instr.makeFunc], ?_⟩
 simp only [VRel]
 refine ⟨_, _, rfl, ?_, ?_⟩
 ·rw [Array.toList_map]; exact toXs_sound ra hx
 ·rw [Array.toList_map]; exact toXs_sound ra hy
theorem sound_ld (ra : ARel N dfs ι st a) (rw' : WRel ι h w) {o : Oper} {t : TypeId} {x : Operand} (ho : o.op = .load t x) {n : Option Nat} (hn : ldOf P t = some n) {ax : AX} (hx : toX x = some ax) :
 Sound P ι st a h w o (.ld n ax) := by
 intro v hv
 simp only [AOp.ev] at hv
 have rx := toX_sound ra hx
 split at hv
 ·rename_i t' o' ht
  rw [ht] at rx
  simp only [VRel] at rx
  obtain ⟨l, hl, hp⟩ := rx
  split at hv
  ·rename_i cs hr
   obtain ⟨u, h1, h2⟩ := ld_sound (P := P) rw' hn hr hv hl
   exact ⟨u, by simp [execOp, ho, hp, Instr.loadAt, Instr.sureAddr, h1], h2⟩
  ·cases hv
 ·rename_i cs o' ht
  rw [ht] at rx
  simp only [VRel] at rx
  obtain ⟨b, s, xs, hp, hf, hr⟩ := rx
  obtain ⟨u, h1, h2⟩ := ld_phi (P := P) rw' hn hf hr hv
  exact ⟨u, by simp [execOp, ho, hp, Instr.loadAt, Instr.sureAddr, h1], h2⟩
 ·cases hv
theorem run_equalIn_ptr (d : Nat) {t e : TypeId} (hu : P.underlying t = some (.pointer e)) (x y : Option Addr) (w : World) :
 (Op.equalIn (d + 1) t (.pointer none) (.pointer y)).run P w = .ok y.isNone w ∧ (Op.equalIn (d + 1) t (.pointer x) (.pointer none)).run P w = .ok x.isNone w := by
 constructor
 ·simp [Op.equalIn, und_run hu]
 ·cases x <;> simp [Op.equalIn, und_run hu]
theorem isNil_spec {x : AV} {t : Bool} (h : isNil x = some t) {v : Value} (r : VRel ι x v) : ∃ p : Option Addr, v = .pointer p ∧ p.isNone = t := by
 unfold isNil at h
 split at h <;> simp at h <;> subst h <;> simp only [VRel] at r
 ·exact ⟨none, r, rfl⟩
 ·obtain ⟨l, _, hv⟩ := r; exact ⟨_, hv, rfl⟩
 ·obtain ⟨b, s, xs, hv, _⟩ := r; exact ⟨_, hv, rfl⟩
theorem sound_eqn (ra : ARel N dfs ι st a) {o : Oper} {op : BinOp} {xt yt : TypeId} {x y : Operand} (ho : o.op = .binOp op xt x y yt) (hop : op = .eql ∨ op = .neq) {e : TypeId} (hs : P.underlying xt = some (.pointer e))
 {ax ay : AX} (hx : toX x = some ax) (hy : toX y = some ay) : Sound P ι st a h w o (.eqn (op == .neq) ax ay) := by
 intro v hv
 have rx := toX_sound ra hx
 have ry := toX_sound ra hy
 simp only [AOp.ev] at hv
 split at hv
 ·rename_i t hx1 hy1
  cases hv
  obtain ⟨p, hp, hp'⟩ := isNil_spec hx1 rx
  obtain ⟨q, hq, hq'⟩ := isNil_spec hy1 ry
  have : p = none := by cases p <;> simp at hp' ⊢
  subst this
  subst hq'
  have h1 := (run_equalIn_ptr (P := P) 9999 hs none q w).1
  rcases hop with rfl | rfl
  ·refine ⟨.bool q.isNone, ?_, by simp only [VRel]; cases q <;> rfl⟩
   simp [execOp, ho, hp, hq, eqGuard, binOp, Op.equal, Op.maxDepth, h1]
  ·refine ⟨.bool !q.isNone, ?_, by simp only [VRel]; cases q <;> rfl⟩
   simp [execOp, ho, hp, hq, eqGuard, binOp, Op.equal, Op.maxDepth, h1]
 ·rename_i hx1 hy1
  cases hv
  obtain ⟨p, hp, hp'⟩ := isNil_spec hx1 rx
  obtain ⟨q, hq, hq'⟩ := isNil_spec hy1 ry
  have : q = none := by cases q <;> simp at hq' ⊢
  subst this
  have h1 := (run_equalIn_ptr (P := P) 9999 hs p none w).2
  rw [hp'] at h1
  rcases hop with rfl | rfl
  ·refine ⟨.bool false, ?_, by simp only [VRel]; rfl⟩
   simp [execOp, ho, hp, hq, eqGuard, binOp, Op.equal, Op.maxDepth, h1]
  ·refine ⟨.bool true, ?_, by simp only [VRel]; rfl⟩
   simp [execOp, ho, hp, hq, eqGuard, binOp, Op.equal, Op.maxDepth, h1]
 ·cases hv
theorem amm_sound {mx : Bool} : ∀ {xs : List AV} {us : List Value} {x v : AV} {u : Value}, amm mx x xs = some v → VRel ι x u → VRels ι xs us → (xs ≠ [] → ∃ k n, x = .i k n) →
 ∃ r, (us.foldlM (if mx then Builtin.max2 else Builtin.min2) u : Sem Value).run P w = .ok r w ∧ VRel ι v r
 | [], us, x, v, u, h, hr, hrs, _ => by
   simp only [VRels] at hrs; subst hrs
   simp only [amm, Option.some.injEq] at h; subst h
   exact ⟨u, by simp [List.foldlM], hr⟩
 | y :: ys, us, x, v, u, h, hr, hrs, hi => by
   obtain ⟨k, n, rfl⟩ := hi (by simp)
   simp only [VRels] at hrs
   obtain ⟨z, rs, rfl, h1, h2⟩ := hrs
   simp only [VRel] at hr
   subst hr
   cases y <;> simp only [amm, reduceCtorEq] at h
   rename_i k' m
   simp only [VRel] at h1
   subst h1
   split at h
   ·rename_i hk
    subst hk
    obtain ⟨r, h3, h4⟩ := amm_sound (u := .int k (if mx then (if n < m then m else n) else (if m < n then m else n))) h (by simp only [VRel]) h2 (fun _ => ⟨_, _, rfl⟩)
    refine ⟨r, ?_, h4⟩
    cases mx <;> simpa [List.foldlM, Builtin.min2, Builtin.max2] using h3
   ·cases h
theorem sound_mm (ra : ARel N dfs ι st a) {o : Oper} {c : Call} (ho : o.op = .call c) {mx : Bool} (hc : c.callee = .builtin (if mx then .max else .min)) {x : Operand} {xs : List Operand} (hx' : c.args.toList = x :: xs)
 {ax : AX} {axs : List AX} (hx : toX x = some ax) (hxs : xs.mapM toX = some axs) : Sound P ι st a h w o (.mm mx ax axs) := by
 intro v hv
 simp only [AOp.ev] at hv
 have rx := toX_sound ra hx
 have rxs := toXs_sound ra hxs
 have hi : axs.map (AX.val st) ≠ [] → ∃ k n, ax.val st = .i k n := by
  intro hne
  generalize axs.map (AX.val st) = l at *
  generalize ax.val st = y at *
  match l, hne with
  | z :: zs, _ =>
    unfold amm at hv
    split at hv
    ·rename_i h; cases h
    ·exact ⟨_, _, rfl⟩
    ·cases hv
 obtain ⟨r, h1, h2⟩ := amm_sound (P := P) (w := w) hv rx rxs hi
 refine ⟨r, ?_, h2⟩
 have hl : (Array.map a.eval c.args).toList = a.eval x :: xs.map a.eval := by simp [hx']
 cases mx
 ·simp only [Bool.false_eq_true, if_false] at hc h1
  simp [execOp, ho, resolve, hc, invoke, builtin, Builtin.min_, hx', h1]
 ·simp only [if_true] at hc h1
  simp [execOp, ho, resolve, hc, invoke, builtin, Builtin.max_, hx', h1]
theorem bound_sound (ra : ARel N dfs ι st a) {d : Nat} {x : Option Operand} {ax : Option AX} (hx : toXo x = some ax) {n : Nat} (hb : bound (AX.val st) d ax = some n) :
 (x = none ∧ n = d) ∨ ∃ y k m, x = some y ∧ a.eval y = .int k m ∧ 0 ≤ m ∧ n = m.toNat := by
 cases x with
 | none =>
   simp only [toXo, Option.some.injEq] at hx; subst hx
   simp only [bound, Option.some.injEq] at hb
   exact .inl ⟨rfl, hb.symm⟩
 | some y =>
   simp only [toXo, Option.map_eq_some_iff] at hx
   obtain ⟨ay, hy, rfl⟩ := hx
   have ry := toX_sound ra hy
   simp only [bound] at hb
   split at hb
   ·rename_i k m ht
    rw [ht] at ry
    simp only [VRel] at ry
    split at hb
    ·rename_i h0
     cases hb
     exact .inr ⟨y, k, m, rfl, ry, h0, rfl⟩
    ·cases hb
   ·cases hb
theorem sliceBounds_run (isSlice : Bool) {n cap lo hi : Nat} {x y : Option Operand} (hn : n ≤ cap)
 (h1 : (x = none ∧ lo = 0) ∨ ∃ z k m, x = some z ∧ a.eval z = .int k m ∧ 0 ≤ m ∧ lo = m.toNat)
 (h2 : (y = none ∧ hi = n) ∨ ∃ z k m, y = some z ∧ a.eval z = .int k m ∧ 0 ≤ m ∧ hi = m.toNat) (hlh : lo ≤ hi) (hh : hi ≤ n) :
 (Instr.sliceBounds isSlice n cap (x.map a.eval) (y.map a.eval) none).run P w = .ok (lo, hi, cap) w := by
 rcases h1 with ⟨rfl, rfl⟩ | ⟨z, k, m, rfl, hz, h0, rfl⟩ <;> rcases h2 with ⟨rfl, rfl⟩ | ⟨z', k', m', rfl, hz', h0', rfl⟩
 ·simp [Instr.sliceBounds]
 ·have : m' ≤ (cap : Int) := by omega
  simp [Instr.sliceBounds, Instr.sliceBound, asIntOf, hz', h0', this]
 ·have : m ≤ (hi : Int) := by omega
  simp [Instr.sliceBounds, Instr.sliceBound, asIntOf, hz, h0, this]
 ·have h3 : m' ≤ (cap : Int) := by omega
  have h4 : m ≤ (m'.toNat : Int) := by omega
  simp [Instr.sliceBounds, Instr.sliceBound, asIntOf, hz, hz', h0, h0', h3]
  omega
theorem sound_sli (ra : ARel N dfs ι st a) {o : Oper} {t : TypeId} {x : Operand} {lo hi : Option Operand} (ho : o.op = .slice t x lo hi none) {e : TypeId} (hs : P.underlying t = some (.slice e)) {k : Nat} (hk : szOf P e = some k)
 {ax : AX} (hx : toX x = some ax) {al ah : Option AX} (hl : toXo lo = some al) (hh : toXo hi = some ah) : Sound P ι st a h w o (.sli k ax al ah) := by
 intro v hv
 simp only [AOp.ev] at hv
 have rx := toX_sound ra hx
 split at hv
 ·rename_i t' o' n m h1
  rw [h1] at rx
  simp only [VRel] at rx
  split at hv
  ·rename_i l hh' hb1 hb2
   split at hv
   ·rename_i hle
    cases hv
    have b1 := bound_sound ra hl hb1
    have b2 := bound_sound ra hh hb2
    rcases rx with ⟨rfl, y, hy⟩ | ⟨lc, cap, hlc, hy, hc, hcap⟩
    ·have hr := sliceBounds_run (P := P) (w := w) true (Nat.le_refl 0) b1 b2 hle.1 hle.2
     have hl0 : l = 0 := by omega
     have hh0 : hh' = 0 := by omega
     subst hl0; subst hh0
     refine ⟨.slice y 0 0, by simp [execOp, ho, hy, Instr.sliceAt, Instr.slice, und_run hs, hr, szOf_run hk], ?_⟩
     simp only [VRel]
     exact Or.inl ⟨by first | trivial | omega, y, rfl⟩
    ·have hr := sliceBounds_run (P := P) (w := w) true hc b1 b2 hle.1 hle.2
     refine ⟨.slice (if cap = l then some (⟨lc.b, lc.sh + o', none⟩ : Addr) else some (Addr.add ⟨lc.b, lc.sh + o', none⟩ (l * k))) (hh' - l) (cap - l), by simp [execOp, ho, hy, Instr.sliceAt, Instr.slice, und_run hs, hr, szOf_run hk], ?_⟩
     simp only [VRel]
     by_cases hcl : cap = l
     ·left
      exact ⟨by omega, _, by rw [show hh' - l = 0 by omega, show cap - l = 0 by omega]⟩
     ·right
      refine ⟨lc, cap - l, hlc, ?_, by omega, ?_⟩
      ·rw [if_neg hcl]
       rw [Addr.add_eq, Nat.add_assoc]
      ·split
       ·rename_i hmk
        subst hmk
        rw [Nat.sub_mul]
        have : l * m ≤ cap * m := Nat.mul_le_mul_right m (by omega)
        rcases hcap with h0 | hcap
        ·exact .inl h0
        ·exact .inr (by omega)
       ·exact .inl rfl
   ·cases hv
  ·cases hv
 ·rename_i n cs h1
  rw [h1] at rx
  simp only [VRel] at rx
  split at hv
  ·rename_i l hh' hb1 hb2
   split at hv
   ·rename_i hle
    cases hv
    have b1 := bound_sound ra hl hb1
    have b2 := bound_sound ra hh hb2
    rcases rx with ⟨rfl, y, hy⟩ | ⟨b, s, cap, xs, hy, hc, hf, hr0⟩
    ·have hr := sliceBounds_run (P := P) (w := w) true (Nat.le_refl 0) b1 b2 hle.1 hle.2
     have hl0 : l = 0 := by omega
     have hh0 : hh' = 0 := by omega
     subst hl0; subst hh0
     refine ⟨.slice y 0 0, by simp [execOp, ho, hy, Instr.sliceAt, Instr.slice, und_run hs, hr, szOf_run hk], ?_⟩
     simp only [VRel]
     exact Or.inl ⟨by first | trivial | omega, y, rfl⟩
    ·have hr := sliceBounds_run (P := P) (w := w) true hc b1 b2 hle.1 hle.2
     refine ⟨.slice (if cap = l then some (⟨b, s, none⟩ : Addr) else some (Addr.add ⟨b, s, none⟩ (l * k))) (hh' - l) (cap - l), by simp [execOp, ho, hy, Instr.sliceAt, Instr.slice, und_run hs, hr, szOf_run hk], ?_⟩
     simp only [VRel]
     by_cases hcl : cap = l
     ·left
      exact ⟨by omega, _, by rw [show hh' - l = 0 by omega, show cap - l = 0 by omega]⟩
     ·right
      refine ⟨b, s + l * k, cap - l, xs, ?_, by omega, hf, ?_⟩
      ·rw [if_neg hcl, Addr.add_eq]
      ·have b1' : al = none → l = 0 := fun e => by subst e; simp only [bound, Option.some.injEq] at hb1; exact hb1.symm
       have b2' : ah = none → hh' = n := fun e => by subst e; simp only [bound, Option.some.injEq] at hb2; exact hb2.symm
       unfold vsub
       split
       ·rw [b1' rfl, Nat.zero_mul, Nat.add_zero]; exact hr0
       ·exact Lies.drop hr0 _
       ·rw [b1' rfl, Nat.zero_mul, Nat.add_zero]; exact Lies.take hr0 _
       ·exact Lies.take (Lies.drop hr0 _) _
   ·cases hv
  ·cases hv
 ·cases hv
theorem sound_slp (ra : ARel N dfs ι st a) {o : Oper} {t : TypeId} {x : Operand} {lo hi : Option Operand} (ho : o.op = .slice t x lo hi none) {n : Nat} {e : TypeId} (hs : P.underlying t = some (.array n e)) {k : Nat} (hk : szOf P e = some k)
 {ax : AX} (hx : toX x = some ax) {al ah : Option AX} (hl : toXo lo = some al) (hh : toXo hi = some ah) : Sound P ι st a h w o (.slp n k ax al ah) := by
 intro v hv
 simp only [AOp.ev] at hv
 have rx := toX_sound ra hx
 split at hv
 ·rename_i t' o' h1
  rw [h1] at rx
  simp only [VRel] at rx
  obtain ⟨lc, hlc, hy⟩ := rx
  split at hv
  ·rename_i l hh' hb1 hb2
   split at hv
   ·rename_i hle
    cases hv
    have b1 := bound_sound ra hl hb1
    have b2 := bound_sound ra hh hb2
    have hr := sliceBounds_run (P := P) (w := w) false (Nat.le_refl n) b1 b2 hle.1 hle.2
    refine ⟨.slice (some (if n = l then ⟨lc.b, lc.sh + o', none⟩ else Addr.add ⟨lc.b, lc.sh + o', none⟩ (l * k))) (hh' - l) (n - l), by simp [execOp, ho, hy, Instr.sliceAt, Instr.sureAddr, und_run hs, hr, szOf_run hk], ?_⟩
    simp only [VRel]
    by_cases hcl : n = l
    ·left
     exact ⟨by omega, _, by rw [show hh' - l = 0 by omega, show n - l = 0 by omega]⟩
    ·right
     refine ⟨lc, n - l, hlc, ?_, by omega, .inl (by trivial)⟩
     rw [if_neg hcl, Addr.add_eq, Nat.add_assoc]
   ·cases hv
  ·cases hv
 ·rename_i cs o' h1
  rw [h1] at rx
  simp only [VRel] at rx
  obtain ⟨b, s, xs, hy, hf, hr0⟩ := rx
  split at hv
  ·rename_i l hh' hb1 hb2
   split at hv
   ·rename_i hle
    cases hv
    have b1 := bound_sound ra hl hb1
    have b2 := bound_sound ra hh hb2
    have hr := sliceBounds_run (P := P) (w := w) false (Nat.le_refl n) b1 b2 hle.1 hle.2
    refine ⟨.slice (some (if n = l then ⟨b, s + o', none⟩ else Addr.add ⟨b, s + o', none⟩ (l * k))) (hh' - l) (n - l), by simp [execOp, ho, hy, Instr.sliceAt, Instr.sureAddr, und_run hs, hr, szOf_run hk], ?_⟩
    simp only [VRel]
    by_cases hcl : n = l
    ·left
     exact ⟨by omega, _, by rw [show hh' - l = 0 by omega, show n - l = 0 by omega]⟩
    ·right
     refine ⟨b, s + (o' + l * k), n - l, xs, ?_, by omega, hf, Lies.take (Lies.drop hr0 _) _⟩
     rw [if_neg hcl, Addr.add_eq, Nat.add_assoc]
   ·cases hv
  ·cases hv
 ·cases hv
end
end Go.Am
set_option linter.unusedVariables false
set_option linter.unusedSimpArgs false
namespace Go.Am
variable {dfs : List Deferred}
section
variable {P : Program} {N : Nat} {ι : Inj} {st : St} {a : Act} {h : AH} {w : World}
theorem fold_set (off : Nat) : ∀ (l : List Value) (k : Nat) (cs : Array Value), off + k + l.length ≤ cs.size →
 ((l.zipIdx k).foldl (fun (cs : Array Value) (p : Value × Nat) => cs.setIfInBounds (off + p.2) p.1) cs).toList = cs.toList.take (off + k) ++ (l ++ cs.toList.drop (off + k + l.length))
 | [], k, cs, _ => by simp
 | v :: l, k, cs, hle => by
   simp only [List.length_cons] at hle
   simp only [List.zipIdx_cons, List.foldl_cons]
   rw [fold_set off l (k + 1) _ (by simp; omega)]
   have hlt : off + k < cs.toList.length := by simp; omega
   simp only [Array.toList_setIfInBounds, List.length_cons]
   rw [show off + (k + 1) = (off + k) + 1 by omega]
   rw [List.take_add_one, List.take_set_of_le (by omega), List.drop_set_of_lt (by omega)]
   rw [List.getElem?_set_self hlt]
   simp only [Option.toList_some, List.append_assoc, List.cons_append, List.nil_append]
   rw [show off + k + 1 + l.length = off + k + (l.length + 1) by omega]
theorem fill_sound (place : Nat → Option (Nat × Nat)) : ∀ (ps : List (Nat × Value)) (qs : List (Nat × Nat × AX)) (cs : List AV) (vs : Array Value) (cs' : List AV),
 (∀ (i : Nat) (p : Nat × Value) (q : Nat × Nat × AX), ps[i]? = some p → qs[i]? = some q → place p.1 = some (q.1, q.2.1) ∧ VRel ι (q.2.2.val st) p.2) → ps.length = qs.length →
 VRels ι cs vs.toList → afill (AX.val st) cs qs = some cs' → ∃ vs' : Array Value, Instr.fill place vs ps = some vs' ∧ VRels ι cs' vs'.toList
 | [], [], cs, vs, cs', _, _, hr, hf => by simp only [afill, Option.some.injEq] at hf; subst hf; exact ⟨vs, by simp [Instr.fill], hr⟩
 | [], q :: qs, _, _, _, _, hl, _, _ => by simp at hl
 | p :: ps, [], _, _, _, _, hl, _, _ => by simp at hl
 | (i, v) :: ps, (off, n, x) :: qs, cs, vs, cs', hp, hl, hr, hf => by
   obtain ⟨h1, h2⟩ := hp 0 _ _ rfl rfl
   simp only at h1 h2
   simp only [afill] at hf
   split at hf
   ·rename_i hc
    obtain ⟨hk, hn, hle⟩ := hc
    have hcells := h2.cells hk
    have hlen := hcells.length
    have hlr := hr.length
    simp only [Array.length_toList] at hlen hlr
    have e1 : ((x.val st).cells.length) = v.cells.size := hlen
    have hsz : v.cells.size = n := by omega
    have key := fold_set off v.cells.toList 0 vs (by simp; omega)
    simp only [Nat.add_zero, Array.length_toList] at key
    have harr : (v.cells.zipIdx.foldl (fun (cs : Array Value) (p : Value × Nat) => cs.setIfInBounds (off + p.2) p.1) vs).toList = vs.toList.take off ++ (v.cells.toList ++ vs.toList.drop (off + v.cells.size)) := by
     rw [← key, ← Array.foldl_toList]
     simp
    have hr' : VRels ι (cs.take off ++ ((x.val st).cells ++ cs.drop (off + n))) (v.cells.zipIdx.foldl (fun (cs : Array Value) (p : Value × Nat) => cs.setIfInBounds (off + p.2) p.1) vs).toList := by
     rw [harr, ← hsz]
     exact (hr.take off).append (hcells.append (hr.drop _))
    obtain ⟨vs', h3, h4⟩ := fill_sound place ps qs _ _ cs' (fun j p q hp' hq' => hp (j + 1) p q (by simpa using hp') (by simpa using hq')) (by simpa using hl) hr' hf
    refine ⟨vs', ?_, h4⟩
    simp only [Instr.fill, h1]
    rw [if_neg]
    ·exact h3
    ·simp
     omega
   ·cases hf
theorem zeroOf_run {t : TypeId} {z : List AV} (hz : zeroOf P t = some z) (ι : Inj) (w : World) : ∃ v, (zeroValue t).run P w = .ok v w ∧ VRels ι z v.cells.toList := by
 unfold zeroOf at hz
 simp only [Option.bind_eq_bind, Option.bind_eq_some_iff, Option.some.injEq] at hz
 obtain ⟨i, hi, v, hv, x, hx, rfl⟩ := hz
 refine ⟨v, by simp [zeroValue, typeInfo, hi, hv], ?_⟩
 have hr := absV_sound (ι := ι) hx
 refine hr.cells ?_
 cases x <;> first | rfl | skip
 all_goals
  unfold absV at hx
  split at hx
  ·simp at hx
  ·unfold absV1 at hx
   split at hx <;> simp at hx
theorem parts_sound (ra : ARel N dfs ι st a) {f : Nat × Operand → Option (Nat × Nat × AX)} (place : Nat → Option (Nat × Nat))
 (hf : ∀ p q, f p = some q → place p.1 = some (q.1, q.2.1) ∧ toX p.2 = some q.2.2) : ∀ {ps : List (Nat × Operand)} {qs : List (Nat × Nat × AX)}, ps.mapM f = some qs →
 (∀ (i : Nat) (p : Nat × Value) (q : Nat × Nat × AX), (ps.map fun (p : Nat × Operand) => (p.1, a.eval p.2))[i]? = some p → qs[i]? = some q → place p.1 = some (q.1, q.2.1) ∧ VRel ι (q.2.2.val st) p.2)
 | [], qs, h, i, p, q, hp, _ => by simp at hp
 | x :: xs, qs, h, i, p, q, hp, hq => by
   simp only [List.mapM_cons, Option.pure_def, Option.bind_eq_bind, Option.bind_eq_some_iff, Option.some.injEq] at h
   obtain ⟨y, hy, ys, hys, rfl⟩ := h
   cases i with
   | zero =>
     simp at hp hq
     subst hp; subst hq
     obtain ⟨h1, h2⟩ := hf _ _ hy
     exact ⟨h1, toX_sound ra h2⟩
   | succ i =>
     simp at hp hq
     exact parts_sound ra place hf hys i p q (by simpa using hp) hq
theorem sound_bld_struct (ra : ARel N dfs ι st a) {o : Oper} {t : TypeId} {parts : Array (Nat × Operand)} (ho : o.op = .build t parts) {fs : Array Field} (hs : P.underlying t = some (.struct fs)) {z : List AV} (hz : zeroOf P t = some z)
 (hall : ∀ fl ∈ fs.toList, (szOf P fl.type).isSome) {qs : List (Nat × Nat × AX)}
 (hq : parts.toList.mapM (fun (p : Nat × Operand) => do let fl ← fs[p.1]?; some (fl.offset, ← szOf P fl.type, ← toX p.2)) = some qs) : Sound P ι st a h w o (.bld z qs) := by
 intro v hv
 simp only [AOp.ev, Option.map_eq_some_iff] at hv
 obtain ⟨cs, hcs, rfl⟩ := hv
 obtain ⟨zv, hzr, hzz⟩ := zeroOf_run hz ι w
 have hmap : ∀ (l : List Field) (acc : Array (Nat × Nat)), (∀ fl ∈ l, (szOf P fl.type).isSome) →
  (l.mapM fun (f : Field) => (do pure (f.offset, ← sizeOf f.type) : Sem (Nat × Nat))).run P w = .ok (l.map fun f => (f.offset, (szOf P f.type).getD 0)) w := by
  intro l
  induction l with
  | nil => intro _ _; rfl
  | cons f l ih =>
    intro acc hl
    obtain ⟨n, hn⟩ := Option.isSome_iff_exists.1 (hl f (by simp))
    have := ih acc fun g hg => hl g (by simp [hg])
    simp only [List.mapM_cons, Sem.run_bind, szOf_run hn, Result.andThen_ok, Sem.run_pure, this, List.map_cons, hn, Option.getD_some]
 let places : Array (Nat × Nat) := (fs.toList.map fun f => (f.offset, (szOf P f.type).getD 0)).toArray
 have hpl : (fs.mapM fun (f : Field) => (do pure (f.offset, ← sizeOf f.type) : Sem (Nat × Nat))).run P w = .ok places w := by
  rw [Array.mapM_eq_mapM_toList]
  simp only [Sem.run_map, hmap fs.toList #[] hall, Result.andThen_ok]
  rfl
 have hp := parts_sound ra (places[·]?) (f := fun (p : Nat × Operand) => do let fl ← fs[p.1]?; some (fl.offset, ← szOf P fl.type, ← toX p.2)) (fun p q hpq => by
  simp only [Option.bind_eq_bind, Option.bind_eq_some_iff, Option.some.injEq] at hpq
  obtain ⟨fl, hfl, n, hn, x, hx, rfl⟩ := hpq
  refine ⟨?_, hx⟩
  simp [places, hfl, hn]) hq
 have hlen := mapM_length hq
 obtain ⟨vs', h1, h2⟩ := fill_sound (places[·]?) (parts.toList.map fun (p : Nat × Operand) => (p.1, a.eval p.2)) qs z zv.cells cs hp (by simp [hlen]) hzz hcs
 refine ⟨.agg vs', ?_, ?_⟩
 ·simp only [execOp, ho, Instr.build, Sem.run_bind, hzr, Result.andThen_ok, und_run hs, hpl]
  have e : (parts.map fun (x : Nat × Operand) => (x.1, a.eval x.2)).toList = parts.toList.map fun (p : Nat × Operand) => (p.1, a.eval p.2) := by simp
  rw [e, h1]
  rfl
 ·simp only [VRel]
  exact ⟨vs', rfl, h2⟩
theorem sound_bld_array (ra : ARel N dfs ι st a) {o : Oper} {t : TypeId} {parts : Array (Nat × Operand)} (ho : o.op = .build t parts) {n : Nat} {e : TypeId} (hs : P.underlying t = some (.array n e)) {z : List AV} (hz : zeroOf P t = some z)
 {k : Nat} (hk : szOf P e = some k) {qs : List (Nat × Nat × AX)}
 (hq : parts.toList.mapM (fun (p : Nat × Operand) => do some (p.1 * k, k, ← toX p.2)) = some qs) : Sound P ι st a h w o (.bld z qs) := by
 intro v hv
 simp only [AOp.ev, Option.map_eq_some_iff] at hv
 obtain ⟨cs, hcs, rfl⟩ := hv
 obtain ⟨zv, hzr, hzz⟩ := zeroOf_run hz ι w
 have hp := parts_sound ra (fun i => some (i * k, k)) (f := fun (p : Nat × Operand) => do some (p.1 * k, k, ← toX p.2)) (fun p q hpq => by
  simp only [Option.bind_eq_bind, Option.bind_eq_some_iff, Option.some.injEq] at hpq
  obtain ⟨x, hx, rfl⟩ := hpq
  exact ⟨rfl, hx⟩) hq
 have hlen := mapM_length hq
 obtain ⟨vs', h1, h2⟩ := fill_sound (fun i => some (i * k, k)) (parts.toList.map fun (p : Nat × Operand) => (p.1, a.eval p.2)) qs z zv.cells cs hp (by simp [hlen]) hzz hcs
 refine ⟨.agg vs', ?_, ?_⟩
 ·simp only [execOp, ho, Instr.build, Sem.run_bind, hzr, Result.andThen_ok, und_run hs, szOf_run hk]
  have e : (parts.map fun (x : Nat × Operand) => (x.1, a.eval x.2)).toList = parts.toList.map fun (p : Nat × Operand) => (p.1, a.eval p.2) := by simp
  rw [e, h1]
  rfl
 ·simp only [VRel]
  exact ⟨vs', rfl, h2⟩
def SoundAl (P : Program) (ι : Inj) (st : St) (a : Act) (w : World) (o : Oper) (ao : AOp) : Prop :=
 ∀ tok v cs, ao.al (AX.val st) tok = some (v, cs) → ∃ u vs e, (execOp a.eval o).run P w = .ok (.value u) (w.alloc (.cells vs e)) ∧ cs.length ≤ vs.size ∧
   (∀ (i : Nat) (x : AV), cs[i]? = some x → ∃ y, vs[i]? = some y ∧ VRel ι x y) ∧ ∀ ι' : Inj, ι' tok = some ⟨w.heap.size, 0, vs.size⟩ → VRel ι' v u
theorem sound_box (ra : ARel N dfs ι st a) {o : Oper} {t : TypeId} {x : Operand} (ho : o.op = .box t x) {ax : AX} (hx : toX x = some ax) : SoundAl P ι st a w o (.box ax) := by
 intro tok v cs hv
 simp only [AOp.al] at hv
 split at hv
 ·rename_i hk
  cases hv
  have hc := (toX_sound ra hx).cells hk
  refine ⟨.pointer (some ⟨w.heap.size, 0, none⟩), (a.eval x).cells, t, ?_, ?_, ?_, ?_⟩
  ·simp [execOp, ho, Instr.box, newVar, newRow]
  ·have := hc.length; simp at this; omega
  ·intro i y hy; obtain ⟨u, h1, h2⟩ := hc.get hy; exact ⟨u, by simpa using h1, h2⟩
  ·intro ι' hι; simp only [VRel]; exact ⟨_, hι, rfl⟩
 ·cases hv
theorem sound_alloc {o : Oper} {t : TypeId} (ho : o.op = .alloc t) {z : List AV} (hz : zeroOf P t = some z) : SoundAl P ι st a w o (.alloc z) := by
 intro tok v cs hv
 simp only [AOp.al, Option.some.injEq, Prod.mk.injEq] at hv
 obtain ⟨rfl, rfl⟩ := hv
 obtain ⟨zv, hzr, hzz⟩ := zeroOf_run hz ι w
 refine ⟨.pointer (some ⟨w.heap.size, 0, none⟩), zv.cells, t, ?_, ?_, ?_, ?_⟩
 ·simp [execOp, ho, Instr.alloc, hzr, newVar, newRow]
 ·have := hzz.length; simp at this; omega
 ·intro i y hy; obtain ⟨u, h1, h2⟩ := hzz.get hy; exact ⟨u, by simpa using h1, h2⟩
 ·intro ι' hι; simp only [VRel]; exact ⟨_, hι, rfl⟩
theorem VRels_replicate {z : List AV} {zv : List Value} (hz : VRels ι z zv) (n : Nat) : VRels ι (List.replicate n z).flatten (List.replicate n zv).flatten := by
 induction n with
 | zero => simp [VRels]
 | succ n ih => simp only [List.replicate_succ, List.flatten_cons]; exact hz.append ih
theorem zeros_eq (z : Array Value) (n : Nat) : ((Array.range (n * z.size)).map (fun i => z[i % z.size]!)).toList = (List.replicate n z.toList).flatten := by
 simp only [Array.toList_map, Array.toList_range]
 induction n with
 | zero => simp
 | succ n ih =>
   rw [Nat.succ_mul, List.range_add, List.map_append, ih, List.replicate_succ', List.flatten_append, List.map_map]
   congr 1
   simp only [List.flatten_cons, List.flatten_nil, List.append_nil]
   apply List.ext_getElem?
   intro i
   simp only [List.getElem?_map]
   by_cases hi : i < z.size
   ·rw [List.getElem?_range hi]
    simp [Nat.mod_eq_of_lt hi, hi]
   ·rw [List.getElem?_eq_none (by simp; omega)]
    simp; omega
theorem sound_bsl (ra : ARel N dfs ι st a) {o : Oper} {t : TypeId} {n : Nat} {parts : Array (Nat × Operand)} (ho : o.op = .buildSlice t n parts) {e : TypeId} (hs : P.underlying t = some (.slice e)) {z : List AV} (hz : zeroOf P e = some z)
 {k : Nat} (hk : szOf P e = some k) (hk0 : k ≠ 0) (hzk : z.length = k) (hn : n * k ≤ 16777216) {qs : List (Nat × Nat × AX)}
 (hq : parts.toList.mapM (fun (p : Nat × Operand) => do some (p.1 * k, k, ← toX p.2)) = some qs) : SoundAl P ι st a w o (.bsl k (List.replicate n z).flatten qs) := by
 intro tok v cs hv
 simp only [AOp.al, Option.map_eq_some_iff, Prod.mk.injEq] at hv
 obtain ⟨cs', hcs, rfl, rfl⟩ := hv
 obtain ⟨zv, hzr, hzz⟩ := zeroOf_run hz ι w
 have hzl := hzz.length
 simp only [Array.length_toList] at hzl
 have hp := parts_sound ra (fun i => some (i * k, k)) (f := fun (p : Nat × Operand) => do some (p.1 * k, k, ← toX p.2)) (fun p q hpq => by
  simp only [Option.bind_eq_bind, Option.bind_eq_some_iff, Option.some.injEq] at hpq
  obtain ⟨x, hx, rfl⟩ := hpq
  exact ⟨rfl, hx⟩) hq
 have hlen := mapM_length hq
 have hrow : VRels ι (List.replicate n z).flatten ((Array.range (n * k)).map (fun i => zv.cells[i % zv.cells.size]!)).toList := by
  have := zeros_eq zv.cells n
  rw [show zv.cells.size = k by omega] at this ⊢
  rw [this]
  exact VRels_replicate hzz n
 obtain ⟨vs', h1, h2⟩ := fill_sound (fun i => some (i * k, k)) (parts.toList.map fun (p : Nat × Operand) => (p.1, a.eval p.2)) qs _ _ cs' hp (by simp [hlen]) hrow hcs
 have hcl : cs'.length = vs'.size := by have := h2.length; simpa using this
 have hzf : (List.replicate n z).flatten.length / k = n := by
  simp [hzk]
  exact Nat.mul_div_cancel _ (by omega)
 have hsz : vs'.size = n * k := by
  have hl : ∀ (qs : List (Nat × Nat × AX)) (c c' : List AV), afill (AX.val st) c qs = some c' → c'.length = c.length := by
   intro qs
   induction qs with
   | nil => intro c c' h; simp only [afill, Option.some.injEq] at h; rw [h]
   | cons q qs ih =>
     intro c c' h
     obtain ⟨off, m, x⟩ := q
     simp only [afill] at h
     split at h
     ·rename_i hc
      rw [ih _ _ h]
      simp
      omega
     ·cases h
  rw [← hcl, hl _ _ _ hcs]
  simp [hzk]
 have hrun : (execOp a.eval o).run P w = .ok (.value (.slice (some ⟨w.heap.size, 0, none⟩) n n)) (w.alloc (.cells vs' e)) := by
  have e1 : (parts.map fun (x : Nat × Operand) => (x.1, a.eval x.2)).toList = parts.toList.map fun (p : Nat × Operand) => (p.1, a.eval p.2) := by simp
  have h24 : ¬ n * k > 2 ^ 24 := by simp; omega
  simp only [execOp, ho, Instr.buildSlice, Sem.run_bind, und_run hs, Result.andThen_ok, szOf_run hk]
  rw [if_neg h24]
  simp only [pure_bind]
  by_cases h0 : n * k = 0
  ·have hn0 : n = 0 := by rcases Nat.mul_eq_zero.1 h0 with h | h; exact h; exact absurd h hk0
   subst hn0
   simp only [Nat.zero_mul] at h1 ⊢
   simp only [if_true, Sem.run_pure]
   rw [e1]
   have : (Array.map (fun i => (#[] : Array Value)[i % (#[] : Array Value).size]!) (Array.range 0)) = (Array.map (fun i => zv.cells[i % zv.cells.size]!) (Array.range 0)) := by simp
   rw [this, h1]
   rfl
  ·simp only [if_neg h0, Sem.run_bind, hzr, Result.andThen_ok, Sem.run_pure]
   rw [e1, h1]
   rfl
 refine ⟨_, vs', e, hrun, by omega, ?_, ?_⟩
 ·intro i y hy; obtain ⟨u, h3, h4⟩ := h2.get hy; exact ⟨u, by simpa using h3, h4⟩
 ·intro ι' hι
  by_cases h0 : (List.replicate n z).flatten.length = 0
  ·rw [if_pos h0]
   have hn0 : n = 0 := by
    have : (List.replicate n z).flatten.length = n * k := by simp [hzk]
    rw [this] at h0
    rcases Nat.mul_eq_zero.1 h0 with h | h
    ·exact h
    ·exact absurd h hk0
   subst hn0
   simp only [VRel]
   exact .inl ⟨trivial, _, rfl⟩
  ·rw [if_neg h0, if_neg hk0, hzf]
   simp only [VRel]
   exact .inr ⟨_, n, hι, rfl, Nat.le_refl _, .inr (by simp; omega)⟩
theorem sound_mks (ra : ARel N dfs ι st a) {o : Oper} {t : TypeId} {x y : Operand} (ho : o.op = .makeSlice t x y) {e : TypeId} (hs : P.underlying t = some (.slice e)) {z : List AV} (hz : zeroOf P e = some z)
 {k b : Nat} (hk : szOf P e = some k) (hk0 : k ≠ 0) (hzk : z.length = k) (hb : (P.info? e).map (·.bytes) = some b) {ax ay : AX} (hx : toX x = some ax) (hy : toX y = some ay) :
 SoundAl P ι st a w o (.mks k b z ax ay) := by
 intro tok v cs hv
 have rx := toX_sound ra hx
 have ry := toX_sound ra hy
 simp only [AOp.al] at hv
 split at hv
 ·rename_i n c h1 h2
  rw [h1] at rx; rw [h2] at ry
  simp only [VRel] at rx ry
  split at hv
  ·rename_i hc
   obtain ⟨hn0, hnc, hc48, hcap⟩ := hc
   cases hv
   obtain ⟨zv, hzr, hzz⟩ := zeroOf_run hz ι w
   have hzl := hzz.length
   simp only [Array.length_toList] at hzl
   simp only [Option.map_eq_some_iff] at hb
   obtain ⟨ti, hti, hbb⟩ := hb
   have hwn : IntKind.i64.wrap n = n := IntWalk.i64_in n ⟨by omega, by omega⟩
   have hwc : IntKind.i64.wrap c = c := IntWalk.i64_in c ⟨by omega, by omega⟩
   have hti' : (typeInfo e).run P w = .ok ti w := by simp [typeInfo, hti]
   have hlarge : ¬ (b : Int) * c > 2 ^ 48 := by simp; omega
   have hlt : ¬ c < 0 := by omega
   have hlt2 : ¬ n < 0 := by omega
   have hlt3 : ¬ n > c := by omega
   let vs : Array Value := (Array.range (c.toNat * k)).map (fun i => zv.cells[i % zv.cells.size]!)
   have hrun : (execOp a.eval o).run P w = .ok (.value (.slice (some ⟨w.heap.size, 0, none⟩) n.toNat c.toNat)) (w.alloc (.cells vs e)) := by
    simp only [execOp, ho, Instr.makeSlice, Sem.run_bind, und_run hs, Result.andThen_ok, asInt, asIntOf, rx, ry, Sem.run_pure, hti', hwn, hwc, hbb]
    rw [if_neg (by simp [hlt, hlt2, hlt3]; simpa using hlarge)]
    simp only [Sem.run_bind, run_askRoom, Result.andThen_ok, szOf_run hk, pure_bind]
    by_cases h0 : c.toNat * k = 0
    ·simp only [h0, if_true, Sem.run_pure, Result.andThen_ok]
     have : vs = Array.map (fun i => (#[] : Array Value)[i % (#[] : Array Value).size]!) (Array.range 0) := by simp [vs, h0]
     simp [newRow, this]
    ·simp only [if_neg h0, Sem.run_bind, hzr, Result.andThen_ok, Sem.run_pure]
     simp [newRow, vs]
   have hrow : vs.toList = (List.replicate c.toNat zv.cells.toList).flatten := by
    have := zeros_eq zv.cells c.toNat
    rw [show zv.cells.size = k by omega] at this
    simp only [vs]
    rw [show zv.cells.size = k by omega]
    exact this
   have hcn : n.toNat ≤ c.toNat := by omega
   have hrel : VRels ι (List.replicate c.toNat z).flatten vs.toList := by rw [hrow]; exact VRels_replicate hzz _
   have hsplit : (List.replicate c.toNat z).flatten = (List.replicate n.toNat z).flatten ++ (List.replicate (c.toNat - n.toNat) z).flatten := by
    rw [← List.flatten_append, List.replicate_append_replicate]
    congr 2
    omega
   have hvs : vs.size = c.toNat * k := by simp [vs]
   refine ⟨_, vs, e, hrun, ?_, ?_, ?_⟩
   ·simp [hzk, hvs]; exact Nat.mul_le_mul_right k hcn
   ·intro i q hq
    have : (List.replicate c.toNat z).flatten[i]? = some q := by
     rw [hsplit, List.getElem?_append_left (List.getElem?_eq_some_iff.1 hq).1]
     exact hq
    obtain ⟨u, h3, h4⟩ := hrel.get this
    exact ⟨u, by simpa using h3, h4⟩
   ·intro ι' hι
    simp only [VRel]
    exact .inr ⟨_, c.toNat, hι, rfl, hcn, .inr (by simp [hvs])⟩
  ·cases hv
 ·cases hv
end
end Go.Am
set_option linter.unusedVariables false
set_option linter.unusedSimpArgs false
namespace Go.Am
def Inj.set (ι : Inj) (t : Nat) (l : Loc) : Inj := ⟨fun s => if s = t then some l else ι s, ι.φ⟩
theorem Inj.le_set {ι : Inj} {t : Nat} (h : ι t = none) (l : Loc) : ι.le (ι.set t l) := Inj.le_of (hφ := rfl) fun s l' hs => by
 unfold Inj.set
 show (if s = t then some l else ι s) = some l'
 by_cases e : s = t
 ·subst e; rw [h] at hs; cases hs
 ·rw [if_neg e]; exact hs
theorem BRel.mono {ι ι' : Inj} {w w' : World} {t : Nat} {c : Blk} (h : BRel ι w t c) (hι : ι.le ι') (ht : ι' t = ι t) (hw : ∀ l, ι t = some l → w'.heap[l.b]? = w.heap[l.b]?) : BRel ι' w' t c := by
 cases c with
 | cells wr cs =>
   simp only [BRel] at *
   rcases h with ⟨h1, h2⟩ | ⟨l, vs, e, fz, h1, h2, h3, h4, h5, h6⟩
   ·exact .inl ⟨h1, ht.trans h2⟩
   ·refine .inr ⟨l, vs, e, fz, ht.trans h1, (hw l h1).trans h2, h3, h4, h5, fun i a ha => ?_⟩
    obtain ⟨v, hv, hr⟩ := h6 i a ha
    exact ⟨v, hv, hr.mono hι⟩
 | frz cs =>
   simp only [BRel] at *
   obtain ⟨l, vs, e, h1, h2, h3, h4, h6⟩ := h
   refine ⟨l, vs, e, ht.trans h1, (hw l h1).trans h2, h3, h4, fun i a ha => ?_⟩
   obtain ⟨v, hv, hr⟩ := h6 i a ha
   exact ⟨v, hv, hr.mono hι⟩
 | map es =>
   simp only [BRel] at *
   obtain ⟨l, xs, ck, h1, h2, h3, h4⟩ := h
   refine ⟨l, xs, ck, ht.trans h1, (hw l h1).trans h2, h3, fun i k v hi => ?_⟩
   obtain ⟨x, hx, hk, hv⟩ := h4 i k v hi
   exact ⟨x, hx, hk.mono hι, hv.mono hι⟩
 | raw R =>
   simp only [BRel] at *
   obtain ⟨l, L, h1, h2, h4⟩ := h
   exact ⟨l, L, ht.trans h1, (hw l h1).trans h2, fun ι2 le => h4 ι2 (Inj.le_trans hι le)⟩
section
variable {P : Program} {ι : Inj} {h : AH} {w : World}
theorem WRel.alloc (r : WRel ι h w) {t : Nat} (ht : ι t = none) (hlt : t < h.nx) (h0 : t ≠ 0) {cs : List AV} {vs : Array Value} (e : TypeId) (hl : cs.length ≤ vs.size)
 (hc : ∀ (i : Nat) (x : AV), cs[i]? = some x → ∃ y, vs[i]? = some y ∧ VRel ι x y) : WRel (ι.set t ⟨w.heap.size, 0, vs.size⟩) (h.set t (.cells true cs)) (w.alloc (.cells vs e)) where
 lt s l hs := by
  change (if s = _ then _ else ι s) = _ at hs
  by_cases he : s = t
  ·subst he; rw [if_pos rfl] at hs; cases hs
   exact ⟨hlt, by rw [World.size_alloc]; exact Nat.lt_succ_self _⟩
  ·rw [if_neg he] at hs
   have := r.lt s l hs
   exact ⟨this.1, by rw [World.size_alloc]; omega⟩
 blk s c hs := by
  unfold AH.set at hs
  by_cases he : s = t
  ·subst he
   simp only [if_true, Option.some.injEq] at hs
   subst hs
   refine ⟨hlt, ?_⟩
   simp only [BRel]
   refine .inr ⟨⟨w.heap.size, 0, vs.size⟩, vs, e, (0, 0), by simp [Inj.set], heap_alloc_new w _, rfl, by simpa using hl, fun _ => rfl, fun i a ha => ?_⟩
   obtain ⟨y, hy, hr⟩ := hc i a ha
   exact ⟨y, by simpa using hy, hr.mono (Inj.le_set ht _)⟩
  ·simp only [if_neg he] at hs
   obtain ⟨h1, h2⟩ := r.blk s c hs
   refine ⟨h1, h2.mono (Inj.le_set ht _) (by simp [Inj.set, he]) fun l hl' => ?_⟩
   have := (r.lt s l hl').2
   exact Go.RowKit.Below.heap_alloc w _ _ this
 inj s s' l l' c c' h1 h2 h3 h4 h5 h6 := by
  unfold AH.set at h1 h2
  change (if s = _ then _ else ι s) = _ at h3
  change (if s' = _ then _ else ι s') = _ at h4
  by_cases e1 : s = t <;> by_cases e2 : s' = t
  ·rw [e1, e2]
  ·subst e1
   simp only [if_true, Option.some.injEq] at h3
   rw [if_neg e2] at h4
   subst h3
   have := (r.lt s' l' h4).2
   simp at h5; omega
  ·subst e2
   simp only [if_true, Option.some.injEq] at h4
   rw [if_neg e1] at h3
   subst h4
   have := (r.lt s l h3).2
   simp at h5; omega
  ·simp only [if_neg e1] at h1 h3
   simp only [if_neg e2] at h2 h4
   exact r.inj s s' l l' c c' h1 h2 h3 h4 h5 h6
 pos := r.pos
 nil0 := ⟨by simp [Inj.set, Ne.symm h0, r.nil], r.nil0.2⟩
 phi := phi_step (h' := h.set t (.cells true cs)) r rfl (fun b hb _ => Go.RowKit.Below.heap_alloc w _ _ hb) fun s c l hm hc hl => by
  unfold AH.set at hm
  change (if s = t then _ else ι s) = _ at hl
  by_cases e : s = t
  ·simp only [if_pos e, Option.some.injEq] at hl
   subst hl
   exact .inl (Nat.le_refl _)
  ·simp only [if_neg e] at hm hl
   exact .inr ⟨s, c, l, hm, hc, hl, rfl⟩
theorem Ext.alloc {ι0 : Inj} {h0 : AH} {w0 : World} (x : Ext ι0 h0 w0 ι h w) {t : Nat} (ht : h0.nx ≤ t) (b : Blk) (o : Obj) (z : Nat) : Ext ι0 h0 w0 (ι.set t ⟨w.heap.size, 0, z⟩) (h.set t b) (w.alloc o) where
 nx := x.nx
 old s hs := by
  have : s ≠ t := by omega
  show (if s = _ then _ else ι s) = _
  rw [if_neg this]
  exact x.old s hs
 os := x.os
 tape := x.tape
 output := x.output
 size := by have := x.size; rw [World.size_alloc]; omega
 keep b hb hk := by rw [Go.RowKit.Below.heap_alloc w _ _ (Nat.lt_of_lt_of_le hb x.size)]; exact x.keep b hb hk
 img s c l hm hc hι := by
  unfold AH.set at hm
  change (if s = _ then _ else ι s) = _ at hι
  by_cases e : s = t
  ·simp only [if_pos e, Option.some.injEq] at hι
   subst hι
   exact .inl x.size
  ·simp only [if_neg e] at hm hι
   exact x.img s c l hm hc hι
 phi := x.phi
 new := x.new
 drawn := x.drawn
theorem WRel.drew (r : WRel ι h w) : WRel ι h w.drew := ⟨r.lt, fun t c hc => ⟨(r.blk t c hc).1, (r.blk t c hc).2.mono (Inj.le_refl _) rfl fun _ _ => rfl⟩, r.inj, r.pos, r.nil0, r.phi⟩
theorem Ext.drew {ι0 : Inj} {h0 : AH} {w0 : World} (x : Ext ι0 h0 w0 ι h w) : Ext ι0 h0 w0 ι h w.drew := { x with drawn := Nat.le_succ_of_le x.drawn }
theorem WRel.bump (r : WRel ι h w) (n : Nat) : WRel ι { h with nx := h.nx + n } w :=
 ⟨fun t l ht => ⟨by have := (r.lt t l ht).1; simp; omega, (r.lt t l ht).2⟩, fun t c hc => ⟨by have := (r.blk t c hc).1; simp; omega, (r.blk t c hc).2⟩, r.inj, by have := r.pos; simp; omega, r.nil0, r.phi⟩
theorem Ext.bump {ι0 : Inj} {h0 : AH} {w0 : World} (x : Ext ι0 h0 w0 ι h w) (n : Nat) : Ext ι0 h0 w0 ι { h with nx := h.nx + n } w := { x with nx := by have := x.nx; simp; omega }
theorem WRel.write (r : WRel ι h w) {t : Nat} {cs : List AV} (hm : h.m t = some (.cells true cs)) {l : Loc} (hl : ι t = some l) {vs : Array Value} {e : TypeId} {fz : Nat × Nat} (hh : w.heap[l.b]? = some (.cells vs e fz))
 {vs' : Array Value} (hs : vs'.size = vs.size) {cs' : List AV} (hlen : l.sh + cs'.length ≤ vs.size) (hc : ∀ (i : Nat) (x : AV), cs'[i]? = some x → ∃ y, vs'[l.sh + i]? = some y ∧ VRel ι x y) :
 WRel ι (h.set t (.cells true cs')) (w.setRow l.b vs') where
 lt s l' hs' := ⟨(r.lt s l' hs').1, by rw [size_setRow]; exact (r.lt s l' hs').2⟩
 blk s c hs' := by
  unfold AH.set at hs'
  have hb := (r.blk t _ hm).2
  simp only [BRel] at hb
  by_cases he : s = t
  ·subst he
   simp only [if_true, Option.some.injEq] at hs'
   subst hs'
   refine ⟨(r.blk s _ hm).1, ?_⟩
   simp only [BRel]
   rcases hb with ⟨_, h2⟩ | ⟨l1, vs1, e1, fz1, h1, h2, h3, h4, h5, h6⟩
   ·rw [hl] at h2; cases h2
   ·rw [hl] at h1; cases h1
    rw [hh] at h2; cases h2
    exact .inr ⟨l, vs', e, fz, hl, setRow_heap w _ _ _ _ _ hh, by omega, by omega, h5, hc⟩
  ·simp only [if_neg he] at hs'
   obtain ⟨h1, h2⟩ := r.blk s c hs'
   refine ⟨h1, h2.mono (Inj.le_refl _) rfl fun l' hl' => ?_⟩
   refine setRow_other w _ _ _ fun hbb => ?_
   exact he (r.inj s t l' l c _ hs' hm hl' hl hbb (.inr rfl))
 inj s s' l1 l2 c c' h1 h2 h3 h4 h5 h6 := by
  have hx : ∀ s c, (h.set t (.cells true cs')).m s = some c → ∃ c0, h.m s = some c0 ∧ c0.wr = c.wr := by
   intro s c hs
   unfold AH.set at hs
   by_cases e : s = t
   ·subst e; simp only [if_true, Option.some.injEq] at hs; subst hs; exact ⟨_, hm, rfl⟩
   ·simp only [if_neg e] at hs; exact ⟨c, hs, rfl⟩
  obtain ⟨c0, q1, q2⟩ := hx s c h1
  obtain ⟨c0', q3, q4⟩ := hx s' c' h2
  exact r.inj s s' l1 l2 c0 c0' q1 q3 h3 h4 h5 (by rw [q2, q4]; exact h6)
 pos := r.pos
 nil0 := r.nil0
 phi := phi_step (h' := h.set t (.cells true cs')) r rfl (fun b hb ho => setRow_other w _ _ _ fun e => ho t _ l hm rfl hl e.symm) fun s c l' hs hc hl' => by
  unfold AH.set at hs
  by_cases e : s = t
  ·subst e; exact .inr ⟨s, _, l', hm, rfl, hl', rfl⟩
  ·simp only [if_neg e] at hs
   exact .inr ⟨s, c, l', hs, hc, hl', rfl⟩
theorem Ext.write {ι0 : Inj} {h0 : AH} {w0 : World} (x : Ext ι0 h0 w0 ι h w) {t : Nat} {cs cs' : List AV} (hm : h.m t = some (.cells true cs)) {l : Loc} (hl : ι t = some l) (vs' : Array Value) :
 Ext ι0 h0 w0 ι (h.set t (.cells true cs')) (w.setRow l.b vs') where
 nx := x.nx
 old := x.old
 os := x.os
 tape := x.tape
 output := x.output
 size := by rw [size_setRow]; exact x.size
 keep b hb hk := by
  rw [setRow_other w _ _ _ fun hbl => ?_]
  ·exact x.keep b hb hk
  ·rcases x.img t _ l hm rfl hl with h1 | ⟨t0, c0, l0, h1, h2, h3, h4⟩
   ·omega
   ·exact hk t0 c0 l0 h1 h2 h3 (by omega)
 img s c l' hs hc hι := by
  unfold AH.set at hs
  by_cases e : s = t
  ·subst e
   exact x.img s _ l' hm rfl hι
  ·simp only [if_neg e] at hs
   exact x.img s c l' hs hc hι
 phi := x.phi
 new := x.new
 drawn := x.drawn
theorem AH.kill_le (h : AH) (t : Nat) : (h.kill t).le h := ⟨fun s c hs => by
 unfold AH.kill at hs
 by_cases e : s = t
 ·simp [e] at hs
 ·simpa [e] using hs, Nat.le_refl _⟩
theorem WRel.rename (r : WRel ι h w) {t t' : Nat} {cs : List AV} (hm : h.m t = some (.cells true cs)) (ht : ι t' = none) (hlt : t' < h.nx) (h0 : t' ≠ 0) {l : Loc} (hl : ι t = some l) {o : Nat} (ho : o ≤ cs.length) :
 WRel (ι.set t' ⟨l.b, l.sh + o, l.sz⟩) ((h.kill t).set t' (.cells true (cs.drop o))) w where
 lt s l' hs := by
  change (if s = _ then _ else ι s) = _ at hs
  by_cases he : s = t'
  ·subst he; rw [if_pos rfl] at hs; cases hs
   exact ⟨hlt, (r.lt t l hl).2⟩
  ·rw [if_neg he] at hs
   exact r.lt s l' hs
 blk s c hs := by
  unfold AH.set AH.kill at hs
  by_cases he : s = t'
  ·subst he
   simp only [if_true, Option.some.injEq] at hs
   subst hs
   refine ⟨hlt, ?_⟩
   have hb := (r.blk t _ hm).2
   simp only [BRel] at hb ⊢
   rcases hb with ⟨_, h2⟩ | ⟨l1, vs1, e1, fz1, h1, h2, h3, h4, h5, h6⟩
   ·rw [hl] at h2; cases h2
   ·rw [hl] at h1; cases h1
    refine .inr ⟨⟨l.b, l.sh + o, l.sz⟩, vs1, e1, fz1, by simp [Inj.set], h2, h3, ?_, h5, fun i a ha => ?_⟩
    ·simp; omega
    ·rw [List.getElem?_drop] at ha
     obtain ⟨v, hv, hr⟩ := h6 _ _ ha
     exact ⟨v, by rw [← hv]; congr 1; simp; omega, hr.mono (Inj.le_set ht _)⟩
  ·simp only [if_neg he] at hs
   by_cases he2 : s = t
   ·simp [he2] at hs
   ·simp only [if_neg he2] at hs
    obtain ⟨h1, h2⟩ := r.blk s c hs
    exact ⟨h1, h2.mono (Inj.le_set ht _) (by simp [Inj.set, he]) fun _ _ => rfl⟩
 inj s s' l1 l2 c c' h1 h2 h3 h4 h5 h6 := by
  unfold AH.set AH.kill at h1 h2
  change (if s = _ then _ else ι s) = _ at h3
  change (if s' = _ then _ else ι s') = _ at h4
  by_cases e1 : s = t' <;> by_cases e2 : s' = t'
  ·rw [e1, e2]
  ·subst e1
   simp only [if_true, Option.some.injEq] at h3 h1
   simp only [if_neg e2] at h4 h2
   by_cases e3 : s' = t
   ·simp [e3] at h2
   ·simp only [if_neg e3] at h2
    subst h3
    exact absurd (r.inj s' t l2 l c' _ h2 hm h4 hl h5.symm (.inr rfl)) e3
  ·subst e2
   simp only [if_true, Option.some.injEq] at h4 h2
   simp only [if_neg e1] at h3 h1
   by_cases e3 : s = t
   ·simp [e3] at h1
   ·simp only [if_neg e3] at h1
    subst h4
    exact absurd (r.inj s t l1 l c _ h1 hm h3 hl h5 (.inr rfl)) e3
  ·simp only [if_neg e1] at h1 h3
   simp only [if_neg e2] at h2 h4
   by_cases e3 : s = t
   ·simp [e3] at h1
   by_cases e4 : s' = t
   ·simp [e4] at h2
   simp only [if_neg e3] at h1
   simp only [if_neg e4] at h2
   exact r.inj s s' l1 l2 c c' h1 h2 h3 h4 h5 h6
 pos := r.pos
 nil0 := ⟨by simp [Inj.set, Ne.symm h0, r.nil], r.nil0.2⟩
 phi := phi_step (h' := (h.kill t).set t' (.cells true (cs.drop o))) r rfl (fun b hb _ => rfl) fun s c l' hs hc hl' => by
  unfold AH.set AH.kill at hs
  change (if s = t' then _ else ι s) = _ at hl'
  by_cases e : s = t'
  ·simp only [if_pos e, Option.some.injEq] at hl'
   subst hl'
   exact .inr ⟨t, _, l, hm, rfl, hl, rfl⟩
  ·simp only [if_neg e] at hs hl'
   by_cases e2 : s = t
   ·simp [e2] at hs
   ·simp only [if_neg e2] at hs
    exact .inr ⟨s, c, l', hs, hc, hl', rfl⟩
theorem Ext.rename {ι0 : Inj} {h0 : AH} {w0 : World} (x : Ext ι0 h0 w0 ι h w) {t t' : Nat} {cs cs' : List AV} (hm : h.m t = some (.cells true cs)) {l : Loc} (hl : ι t = some l) (ht : h0.nx ≤ t') (o z : Nat) :
 Ext ι0 h0 w0 (ι.set t' ⟨l.b, o, z⟩) ((h.kill t).set t' (.cells true cs')) w where
 nx := x.nx
 old s hs := by
  have : s ≠ t' := by omega
  show (if s = _ then _ else ι s) = _
  rw [if_neg this]
  exact x.old s hs
 os := x.os
 tape := x.tape
 output := x.output
 size := x.size
 keep := x.keep
 img s c l' hs hc hι := by
  unfold AH.set AH.kill at hs
  change (if s = _ then _ else ι s) = _ at hι
  by_cases e : s = t'
  ·simp only [if_pos e, Option.some.injEq] at hι
   subst hι
   exact x.img t _ l hm rfl hl
  ·simp only [if_neg e] at hs hι
   by_cases e2 : s = t
   ·simp [e2] at hs
   ·simp only [if_neg e2] at hs
    exact x.img s c l' hs hc hι
 phi := x.phi
 new := x.new
 drawn := x.drawn
def Inj.fr (ι : Inj) (b : Nat) (xs : Array Value) : Inj := ⟨ι.f, fun c => if c = b then some xs else ι.φ c⟩
theorem Inj.le_fr {ι : Inj} {b : Nat} {xs : Array Value} (h : ι.φ b = none) : ι.le (ι.fr b xs) := ⟨fun _ _ x => x, fun c ys hc => by
 show (if c = b then some xs else ι.φ c) = some ys
 by_cases e : c = b
 ·subst e; rw [h] at hc; cases hc
 ·rw [if_neg e]; exact hc⟩
theorem WRel.freeze (r : WRel ι h w) {t : Nat} {cs : List AV} (hm : h.m t = some (.cells true cs)) {l : Loc} (hl : ι t = some l) :
 ∃ xs : Array Value, ι.φ l.b = none ∧ xs.size = l.sz ∧ Lies ι cs xs l.sh ∧ l.sh + cs.length ≤ l.sz ∧ WRel (ι.fr l.b xs) (h.kill t) w ∧ (∀ {ι0 : Inj} {h0 : AH} {w0 : World}, Ext ι0 h0 w0 ι h w → Ext ι0 h0 w0 (ι.fr l.b xs) (h.kill t) w) := by
 have hb := (r.blk t _ hm).2
 simp only [BRel] at hb
 rcases hb with ⟨_, h2⟩ | ⟨l1, vs, e, fz, h1, h2, h3, h4, h5, h6⟩
 ·rw [hl] at h2; cases h2
 rw [hl] at h1; cases h1
 have hp : ι.φ l.b = none := by
  cases hq : ι.φ l.b with
  | none => rfl
  | some ys => exact absurd rfl ((r.phi l.b ys hq).2 t _ l hm rfl hl)
 have hk : ∀ s c, (h.kill t).m s = some c → s ≠ t ∧ h.m s = some c := fun s c hs => by
  unfold AH.kill at hs
  by_cases e : s = t
  ·simp [e] at hs
  ·simp only [if_neg e] at hs; exact ⟨e, hs⟩
 refine ⟨vs, hp, h3, ?_, h4, ⟨r.lt, fun s c hs => ?_, fun s s' l1 l2 c c' q1 q2 => r.inj s s' l1 l2 c c' (hk _ _ q1).2 (hk _ _ q2).2, r.pos, ⟨r.nil, r.nil0.2.mono (Inj.le_fr hp)⟩, fun b xs hx => ?_⟩, fun x => ⟨x.nx, x.old, x.os, x.tape, x.output, x.size, x.keep, fun s c l' hs => x.img s c l' (hk _ _ hs).2, fun b xs hb => (Inj.le_fr hp).phi b xs (x.phi b xs hb), fun b xs hx => ?_, x.drawn⟩⟩
 ·refine VRels_iff.2 ⟨by simp; omega, fun i a v ha hv => ?_⟩
  obtain ⟨u, hu, hr⟩ := h6 i a ha
  rw [List.getElem?_take] at hv
  split at hv
  ·rw [List.getElem?_drop, Array.getElem?_toList, hu] at hv
   cases hv; exact hr
  ·cases hv
 ·obtain ⟨_, hs'⟩ := hk _ _ hs
  exact ⟨(r.blk s c hs').1, (r.blk s c hs').2.mono (Inj.le_fr hp) rfl fun _ _ => rfl⟩
 ·change (if b = l.b then some vs else ι.φ b) = some xs at hx
  by_cases e' : b = l.b
  ·rw [if_pos e'] at hx
   cases hx
   subst e'
   refine ⟨⟨e, fz, h2⟩, fun s c l' hs hc hl' hbb => ?_⟩
   obtain ⟨hne, hs'⟩ := hk _ _ hs
   exact hne (r.inj s t l' l c _ hs' hm hl' hl hbb (.inr rfl))
  ·rw [if_neg e'] at hx
   exact ⟨(r.phi b xs hx).1, fun s c l' hs hc hl' => (r.phi b xs hx).2 s c l' (hk _ _ hs).2 hc hl'⟩
 ·change (if b = l.b then some vs else ι.φ b) = some xs at hx
  by_cases e' : b = l.b
  ·subst e'
   exact .inr (x.img t _ l hm rfl hl)
  ·rw [if_neg e'] at hx
   exact x.new b xs hx
end
end Go.Am
set_option linter.unusedVariables false
set_option linter.unusedSimpArgs false
namespace Go.Am
variable {dfs : List Deferred}
section
variable {P : Program} {N : Nat} {ι : Inj} {st : St} {a : Act} {h : AH} {w : World}
def Moves (P : Program) (ι : Inj) (h : AH) (w : World) (a : Act) (o : Oper) (nv : Value → Next) (r : AV) (h' : AH) (tok : Nat) : Prop :=
 ∃ u w' ι', (execOp a.eval o).run P w = .ok (nv u) w' ∧ ι.le ι' ∧ (∀ s, s ≠ tok → ι' s = ι s) ∧ VRel ι' r u ∧ WRel ι' h' w' ∧
   ∀ ι0 h0 w0, Ext ι0 h0 w0 ι h w → h0.nx ≤ tok → Ext ι0 h0 w0 ι' h' w'
theorem sto_moves (ra : ARel N dfs ι st a) (rw' : WRel ι h w) {o : Oper} {t : TypeId} {x v : Operand} (ho : o.op = .store t x v) {n : Option Nat} (hn : ldOf P t = some n) {ax av : AX} (hx : toX x = some ax) (hv : toX v = some av)
 {h' : AH} (hs : h.sto n (ax.val st) (av.val st) = some h') (tok : Nat) : Moves P ι h w a o (fun _ => .skip) .un h' tok := by
 have rx := toX_sound ra hx
 have rv := toX_sound ra hv
 unfold AH.sto at hs
 split at hs
 ·rename_i k off he
  rw [he] at rx
  simp only [VRel] at rx
  obtain ⟨l, hl, hp⟩ := rx
  split at hs
  ·rename_i cs hm
   simp only [Option.map_eq_some_iff] at hs
   obtain ⟨cs', hw, rfl⟩ := hs
   have hb := (rw'.blk k _ hm).2
   simp only [BRel] at hb
   rcases hb with ⟨_, h2⟩ | ⟨l1, vs, e, fz, h1, h2, h3, h4, h5, h6⟩
   ·rw [hl] at h2; cases h2
   rw [hl] at h1; cases h1
   have h5 := h5 (by trivial)
   subst h5
   obtain ⟨g, m, hg, hm', hnn, hg1⟩ := ldOf_spec hn
   -- the cells that are written
   have key : ∃ xs : List AV, (∀ y ∈ xs, y.one = true) ∧ VRels ι xs (a.eval v).cells.toList ∧ xs.length = m ∧ off + m ≤ cs.length ∧ cs' = cs.take off ++ (xs ++ cs.drop (off + m)) := by
    cases g with
    | false =>
      have : n = none := hnn
      subst this
      have hm1 := hg1 rfl
      subst hm1
      simp only [wrt] at hw
      split at hw
      ·rename_i hc
       cases hw
       have h1c := rv.one hc.1
       have hcells : (a.eval v).cells = #[a.eval v] := by
        cases hq : a.eval v <;> simp [hq, Value.oneCell'] at h1c <;> rfl
       refine ⟨[av.val st], by simpa using hc.1, ?_, rfl, by omega, ?_⟩
       ·rw [hcells]; simp only [VRels]; exact ⟨_, _, rfl, rv, rfl⟩
       ·rw [List.set_eq_take_append_cons_drop, if_pos hc.2]; rfl
      ·cases hw
    | true =>
      have : n = some m := hnn
      subst this
      simp only [wrt] at hw
      split at hw
      ·rename_i hc
       cases hw
       obtain ⟨c1, c2, c3, c4⟩ := hc
       exact ⟨(av.val st).cells, fun y hy => List.all_eq_true.1 c2 y hy, rv.cells c1, c3, c4, rfl⟩
      ·cases hw
   obtain ⟨xs, x1, x2, x3, x4, rfl⟩ := key
   have hxl := x2.length
   simp only [Array.length_toList] at hxl
   have hone : ∀ u ∈ (a.eval v).cells.toList, u.oneCell' = true := by
    intro u hu
    obtain ⟨i, hi, rfl⟩ := List.mem_iff_getElem.1 hu
    obtain ⟨hl', hr⟩ := VRels_iff.1 x2
    have hi' : i < xs.length := by omega
    exact (hr i xs[i] _ (List.getElem?_eq_getElem hi') (List.getElem?_eq_getElem hi)).one (x1 _ (List.getElem_mem hi'))
   have hst := run_storeCells_at P l.b (l.sh + off) e (a.eval v).cells.toList 0 vs w h2 (by simp; omega) hone
   simp only [Nat.add_zero] at hst
   let vs' : Array Value := (vs.toList.take (l.sh + off) ++ (a.eval v).cells.toList ++ vs.toList.drop (l.sh + off + (a.eval v).cells.toList.length)).toArray
   have hsz : vs'.size = vs.size := by simp [vs']; omega
   refine ⟨undef, w.setRow l.b vs', ι, ?_, Inj.le_refl _, fun _ _ => rfl, by simp [VRel], ?_, fun ι0 h0 w0 x _ => x.write hm hl vs'⟩
   ·simp only [execOp, ho, Instr.storeAt, hp, Instr.sureAddr, storeVar, Sem.run_bind, Sem.run_pure, Result.andThen_ok, szOf_run hm']
    rw [if_neg (by omega)]
    simp only [Sem.run_bind, Sem.run_pure, Result.andThen_ok, pure_bind, hst]
    rfl
   ·refine rw'.write hm hl h2 hsz (by simp; omega) fun i y hy => ?_
    simp only [vs', List.getElem?_toArray]
    rw [List.append_assoc]
    by_cases c1 : i < off
    ·rw [List.getElem?_append_left (by simp; omega), List.getElem?_take_of_lt c1] at hy
     obtain ⟨u, hu, hr⟩ := h6 i y hy
     refine ⟨u, ?_, hr⟩
     rw [List.getElem?_append_left (by simp; omega), List.getElem?_take_of_lt (by omega)]
     simpa using hu
    ·rw [List.getElem?_append_right (by simp; omega)] at hy
     have e1 : (cs.take off).length = off := by simp; omega
     rw [e1] at hy
     by_cases c2 : i - off < xs.length
     ·rw [List.getElem?_append_left c2] at hy
      obtain ⟨u, hu, hr⟩ := x2.get hy
      refine ⟨u, ?_, hr⟩
      rw [List.getElem?_append_right (by simp; omega), List.getElem?_append_left (by simp; omega)]
      rw [← hu]; congr 1; simp; omega
     ·rw [List.getElem?_append_right (by omega), List.getElem?_drop] at hy
      obtain ⟨u, hu, hr⟩ := h6 _ y hy
      refine ⟨u, ?_, hr⟩
      rw [List.getElem?_append_right (by simp; omega), List.getElem?_append_right (by simp; omega), List.getElem?_drop]
      rw [← Array.getElem?_toList] at hu
      rw [← hu]; congr 1; simp; omega
  ·cases hs
 ·cases hs
theorem elems_sound0 (rw' : WRel ι h w) {k t o m a2 : Nat} {ys : List AV} (he : h.elems k (.sl t o m a2) = some ys) {y : Value} (ry : VRel ι (.sl t o m a2) y) :
 ∃ us : List Value, (∀ (D : World), (∀ b, D.cell? b = w.cell? b) → (Builtin.firstCells k m y).run P D = .ok us.toArray D) ∧ VRels ι ys us ∧ ys.length = m * k ∧ (∀ D : World, (Builtin.lenOf y).run P D = .ok m D) := by
 simp only [AH.elems] at he
 simp only [VRel] at ry
 by_cases hm : m = 0
 ·subst hm
  simp only [if_true, Option.some.injEq] at he
  subst he
  refine ⟨[], fun D _ => ?_, by simp [VRels], by simp, ?_⟩
  ·rcases ry with ⟨_, x, rfl⟩ | ⟨l, cap, _, rfl, _⟩
   ·cases x <;> simp [Builtin.firstCells, loadCells, loadCellsFrom]
   ·simp [Builtin.firstCells, loadCells, loadCellsFrom]
  ·intro D
   rcases ry with ⟨_, x, rfl⟩ | ⟨l, cap, _, rfl, _⟩ <;> rfl
 ·rw [if_neg hm] at he
  split at he
  ·rename_i cs hr
   split at he
   ·rename_i hle
    cases he
    rcases ry with ⟨h0, _⟩ | ⟨l, cap, hl, rfl, _⟩
    ·exact absurd h0 hm
    ·have hlen : ((cs.drop o).take (m * k)).length = m * k := by simp; omega
     have hget : ∀ i : Nat, i < m * k → ∃ v, w.cell? ⟨l.b, l.sh + o + i, none⟩ = some v ∧ ∃ x, ((cs.drop o).take (m * k))[i]? = some x ∧ VRel ι x v := by
      intro i hi
      have hlt : o + i < cs.length := by omega
      obtain ⟨v, hv, hr'⟩ := cell_of_row rw' hr (List.getElem?_eq_getElem hlt) hl
      refine ⟨v, by rw [← hv, Nat.add_assoc], cs[o + i], ?_, hr'⟩
      rw [List.getElem?_take_of_lt hi, List.getElem?_drop, List.getElem?_eq_getElem hlt]
     let us : List Value := (List.range (m * k)).map fun i => (w.cell? ⟨l.b, l.sh + o + i, none⟩).getD undef
     have hus : ∀ i, i < m * k → us[i]? = w.cell? ⟨l.b, l.sh + o + i, none⟩ := by
      intro i hi
      obtain ⟨v, hv, _⟩ := hget i hi
      simp [us, hi, hv]
     refine ⟨us, fun D hD => ?_, ?_, hlen, fun _ => rfl⟩
     ·refine run_firstCells_some D k m _ _ _ us (by simp [us]) fun j v hv => ?_
      have hj : j < m * k := by have := (List.getElem?_eq_some_iff.1 hv).1; simpa [us] using this
      rw [Addr.add_eq, hD, ← hus j hj]
      exact hv
     ·refine VRels_iff.2 ⟨by rw [hlen]; simp [us], fun i x v hx hv => ?_⟩
      have hi : i < m * k := by have := (List.getElem?_eq_some_iff.1 hx).1; omega
      obtain ⟨v', hv', x', hx', hr'⟩ := hget i hi
      rw [hus i hi, hv'] at hv
      cases hv
      rw [hx'] at hx
      cases hx
      exact hr'
   ·cases he
  ·cases he
theorem elems_sound (rw' : WRel ι h w) {k m : Nat} {ay : AV} {ys : List AV} (hm : ay.sln = some m) (he : h.elems k ay = some ys) {y : Value} (ry : VRel ι ay y) :
 ∃ us : List Value, (∀ (D : World), (∀ b, D.cell? b = w.cell? b) → (Builtin.firstCells k m y).run P D = .ok us.toArray D) ∧ VRels ι ys us ∧ ys.length = m * k ∧ (∀ D : World, (Builtin.lenOf y).run P D = .ok m D) := by
 cases ay <;> simp only [AV.sln, reduceCtorEq, Option.some.injEq] at hm
 case sl => subst hm; exact elems_sound0 rw' he ry
 case vs n cs =>
  subst hm
  simp only [AH.elems] at he
  simp only [VRel] at ry
  split at he
  ·rename_i hle
   cases he
   rcases ry with ⟨rfl, x, rfl⟩ | ⟨b, s, cap, xs, rfl, hc, hf, hr⟩
   ·have : ys = [] := List.length_eq_zero_iff.1 (by omega)
    subst this
    refine ⟨[], fun D _ => ?_, by simp [VRels], by simp, fun D => rfl⟩
    cases x <;> simp [Builtin.firstCells, loadCells, loadCellsFrom]
   ·refine ⟨(xs.toList.drop s).take ys.length, fun D hD => ?_, hr, hle.symm, fun _ => rfl⟩
    have hl := hr.length
    refine run_firstCells_some D k n _ _ _ _ (by rw [← hl]; exact hle.symm) fun j v hv => ?_
    have hj : j < ys.length := by have := (List.getElem?_eq_some_iff.1 hv).1; rw [← hl] at this; exact this
    rw [List.getElem?_take_of_lt hj, List.getElem?_drop] at hv
    obtain ⟨⟨e, fz, hh⟩, _⟩ := rw'.phi b xs hf
    rw [Addr.add_eq, hD]
    simp only [World.cell?, hh]
    simpa using hv
  ·cases he
theorem Moves.mk' {o : Oper} {nv : Value → Next} {r : AV} {h' : AH} {tok : Nat} (u : Value) (w' : World) (ι' : Inj) (h1 : (execOp a.eval o).run P w = .ok (nv u) w') (h2 : ι.le ι') (h3 : ∀ s, s ≠ tok → ι' s = ι s) (h4 : VRel ι' r u) (h5 : WRel ι' h' w')
 (h6 : ∀ ι0 h0 w0, Ext ι0 h0 w0 ι h w → h0.nx ≤ tok → Ext ι0 h0 w0 ι' h' w') : Moves P ι h w a o nv r h' tok := ⟨u, w', ι', h1, h2, h3, h4, h5, h6⟩
theorem app_moves (ra : ARel N dfs ι st a) (rw' : WRel ι h w) {o : Oper} {c : Call} (ho : o.op = .call c) (hc : c.callee = .builtin .append) {t u : TypeId} (hat : c.argTypes.toList = [t, u]) {x y : Operand} (har : c.args.toList = [x, y])
 {e e' : TypeId} (ht : P.underlying t = some (.slice e)) (hu : P.underlying u = some (.slice e')) {k : Nat} (hk : szOf P e = some k) {bytes : Nat} (hby : (P.info? e).map (·.bytes) = some bytes) {z : List AV} (hz : zeroOf P e = some z) (hzl : z.length = k)
 {ax ay : AX} (hx : toX x = some ax) (hy : toX y = some ay) {tok : Nat} {r : AV} {h' : AH} (hs : h.app k bytes tok (ax.val st) (ay.val st) = some (r, h'))
 (hf1 : ι tok = none) (hf3 : tok < h.nx) (hf4 : tok ≠ 0) : Moves P ι h w a o .value r h' tok := by
 have rx := toX_sound ra hx
 have ry := toX_sound ra hy
 have e1 : c.argTypes = #[t, u] := by rw [← Array.toArray_toList (xs := c.argTypes), hat]
 have e2 : c.args = #[x, y] := by rw [← Array.toArray_toList (xs := c.args), har]
 obtain ⟨ti, hti, hbb⟩ := Option.map_eq_some_iff.1 hby
 have hks : ti.size = k := by unfold szOf at hk; rw [hti] at hk; simpa using hk
 have hzv : ∃ zv, ti.zero = some zv ∧ zv.cells.size = k := by
  obtain ⟨zv', hr1, hr2⟩ := zeroOf_run hz ι w
  unfold zeroOf at hz
  simp only [hti, Option.bind_eq_bind, Option.bind_some, Option.bind_eq_some_iff] at hz
  obtain ⟨zv, hzv, _⟩ := hz
  simp only [zeroValue, typeInfo, Sem.run_bind, run_program, Result.andThen_ok, hti, Sem.run_pure, hzv] at hr1
  cases hr1
  have := hr2.length
  simp only [Array.length_toList] at this
  exact ⟨_, hzv, by omega⟩
 obtain ⟨zv, hzv, hzsz⟩ := hzv
 have hexec : ∀ D : World, (execOp a.eval o).run P D = ((Builtin.append_ #[t, u] o.type #[a.eval x, a.eval y]).run P D).andThen fun v D' => Result.ok (Next.value v) D' := by
  intro D
  simp [execOp, ho, resolve, hc, invoke, builtin, e1, e2]
 unfold AH.app at hs
 split at hs
 ·rename_i t1 o1 n1 a1 m ys q1 q2 hel
  rw [q1] at rx
  obtain ⟨us, hfirst, hus, hyl, hlen⟩ := elems_sound (P := P) rw' q2 hel ry
  ·split at hs
   ·rename_i hcond
    obtain ⟨hall, hk0, hmax, hbytes⟩ := hcond
    have hul : us.length = m * k := by rw [← hus.length]; exact hyl
    have hone : ∀ q ∈ us, q.oneCell' = true := by
     intro q hq
     obtain ⟨i, hi, rfl⟩ := List.mem_iff_getElem.1 hq
     obtain ⟨hl', hr⟩ := VRels_iff.1 hus
     have hi' : i < ys.length := by omega
     exact (hr i ys[i] _ (List.getElem?_eq_getElem hi') (List.getElem?_eq_getElem hi)).one (List.all_eq_true.1 hall _ (List.getElem_mem hi'))
    -- THE SOURCE DOES NOT FIT: a new row
    have grow : ∀ (base : Option Addr) (cap : Nat) (olds : List Value) (cs : List AV) (hh : AH), a.eval x = .slice base n1 cap → cap < n1 + m → hh.le h → hh.nx = h.nx →
     (∀ D : World, (∀ b, D.cell? b = w.cell? b) → (Builtin.firstCells k n1 (.slice base n1 cap)).run P D = .ok olds.toArray D) → VRels ι cs olds → olds.length = n1 * k →
     Moves P ι h w a o .value (.sl tok 0 (n1 + m) k) (hh.set tok (.cells true (cs ++ ys))) tok := by
     intro base cap olds cs hh hev hlt hle hnx hfo hro hol
     have hns : ¬ (n1 + m ≤ cap) := by omega
     have hfit := growslice_fits (bytes := bytes) hlt hbytes
     have h63 : ¬ (9223372036854775807 < ((n1 : Int) + (m : Int))) := by omega
     have h48 : ¬ (281474976710656 < Builtin.nextslicecap (n1 + m) cap * bytes) := by omega
     let nc := grownCap w (n1 + m) cap e
     let row : Array Value := (olds ++ us).toArray ++ Builtin.zeroCells zv.cells (nc - (n1 + m))
     have hrun : (Builtin.append_ #[t, u] o.type #[a.eval x, a.eval y]).run P w = .ok (.slice (some ⟨w.heap.size, 0, none⟩) (n1 + m) nc) (w.drew.alloc (.cells row e)) := by
      have f1 := hfirst w.drew (fun b => rfl)
      have f2 := hfo w.drew (fun b => rfl)
      rw [hev]
      simp [Builtin.append_, und_run ht, und_run hu, sizeOf, typeInfo, zeroValue, hti, hzv, hks, hbb, hlen, hns, h63, h48, Question.forced, f1, f2, newRow, nc, row, grownCap]
      congr 2
      apply Array.ext'
      simp
     have hncge : n1 + m ≤ nc := by simp only [nc, grownCap, Question.cut]; omega
     have hrow : VRels ι (cs ++ ys) (olds ++ us) := hro.append hus
     have hrl : (cs ++ ys).length = (n1 + m) * k := by rw [hrow.length, List.length_append, hol, hul, Nat.add_mul]
     have hsz : row.size = nc * k := by
      simp only [row, Array.size_append, List.size_toArray, List.length_append, hol, hul, Builtin.zeroCells, Array.size_map, Array.size_range, hzsz]
      rw [← Nat.add_mul, ← Nat.add_mul]
      congr 1; omega
     have r1 := (rw'.drop hle).drew
     refine Moves.mk' (.slice (some ⟨w.heap.size, 0, none⟩) (n1 + m) nc) (w.drew.alloc (.cells row e)) (ι.set tok ⟨w.heap.size, 0, row.size⟩) (by rw [hexec, hrun]; rfl) (Inj.le_set hf1 _) (fun s hs' => by simp [Inj.set, hs']) ?_ ?_ ?_
     ·simp only [VRel]
      exact .inr ⟨⟨w.heap.size, 0, row.size⟩, nc, by simp [Inj.set], rfl, hncge, .inr (by simp [hsz])⟩
     ·refine r1.alloc hf1 (by omega) hf4 e (by rw [hrl, hsz]; exact Nat.mul_le_mul_right k hncge) fun i q hq => ?_
      obtain ⟨v, hv, hr⟩ := hrow.get hq
      refine ⟨v, ?_, hr⟩
      have hi : i < (olds ++ us).length := (List.getElem?_eq_some_iff.1 hv).1
      simp only [row]
      rw [Array.getElem?_append_left (by simpa using hi)]
      simpa using hv
     ·intro ι0 h0 w0 x0 hlt0
      exact ((x0.drop hle).drew).alloc hlt0 _ _ _
    -- NOTHING IS KNOWN OF THE FIRST ARGUMENT's BLOCK: it has no cells
    have empty : ∀ (b0 : Option Addr) (hh : AH), n1 = 0 → a.eval x = .slice b0 0 0 → hh.le h → hh.nx = h.nx → Moves P ι h w a o .value (.sl tok 0 (n1 + m) k) (hh.set tok (.cells true ys)) tok := by
     intro b0 hh hn hev hle hnx
     subst hn
     by_cases hm : m = 0
     ·subst hm
      have hys : ys = [] := List.length_eq_zero_iff.1 (by simpa using hyl)
      subst hys
      have hus0 : us = [] := List.length_eq_zero_iff.1 (by simpa using hul)
      subst hus0
      have hrun : (Builtin.append_ #[t, u] o.type #[a.eval x, a.eval y]).run P w = .ok (.slice b0 0 0) w := by
       have f1 := hfirst w (fun b => rfl)
       rw [hev]
       cases b0 <;> simp [Builtin.append_, und_run ht, und_run hu, sizeOf, typeInfo, hti, hlen, f1, hks, storeCells]
      refine Moves.mk' (.slice b0 0 0) w ι (by rw [hexec, hrun]; rfl) (Inj.le_refl _) (fun _ _ => rfl) (by simp only [VRel]; exact .inl ⟨by trivial, b0, rfl⟩) ?_ ?_
      ·have r1 := rw'.drop hle
       refine ⟨fun s l hs' => r1.lt s l hs', fun s c0 hs' => ?_, fun s s' l l' c0 c0' q3 q4 q5 q6 q7 q8 => ?_, r1.pos, r1.nil0, fun b xs hb => ⟨(r1.phi b xs hb).1, fun s c0 l hs' hc0 hl => ?_⟩⟩
       ·unfold AH.set at hs'
        by_cases he : s = tok
        ·subst he
         simp only [if_true, Option.some.injEq] at hs'
         subst hs'
         exact ⟨by simp only [AH.set]; omega, .inl ⟨rfl, hf1⟩⟩
        ·simp only [if_neg he] at hs'
         exact r1.blk s c0 hs'
       ·unfold AH.set at q3 q4
        have e3 : s ≠ tok := fun he => by subst he; rw [hf1] at q5; cases q5
        have e4 : s' ≠ tok := fun he => by subst he; rw [hf1] at q6; cases q6
        simp only [if_neg e3] at q3
        simp only [if_neg e4] at q4
        exact r1.inj s s' l l' c0 c0' q3 q4 q5 q6 q7 q8
       ·unfold AH.set at hs'
        have e3 : s ≠ tok := fun he => by subst he; rw [hf1] at hl; cases hl
        simp only [if_neg e3] at hs'
        exact (r1.phi b xs hb).2 s c0 l hs' hc0 hl
      ·intro ι0 h0 w0 x0 hlt0
       have x1 := x0.drop hle
       refine { x1 with img := fun s c0 l hs' hc0 hl => ?_ }
       unfold AH.set at hs'
       have e3 : s ≠ tok := fun he => by subst he; rw [hf1] at hl; cases hl
       simp only [if_neg e3] at hs'
       exact x1.img s c0 l hs' hc0 hl
     ·have := grow b0 0 [] [] hh hev (by omega) hle hnx (fun D _ => by cases b0 <;> simp [Builtin.firstCells, loadCells, loadCellsFrom]) (by simp [VRels]) (by simp)
      simpa using this
    by_cases ht0 : t1 = 0
    ·rw [if_pos ht0] at hs
     split at hs
     ·rename_i hn0
      cases hs
      simp only [VRel] at rx
      rcases rx with ⟨_, b0, hb0⟩ | ⟨l, cap, hl, _⟩
      ·have := empty b0 h hn0 hb0 (AH.le_refl _) rfl
       rw [hn0, Nat.zero_add] at this
       exact this
      ·rw [ht0, rw'.nil] at hl; cases hl
     ·cases hs
    ·rw [if_neg ht0] at hs
     split at hs
     ·rename_i cs hm1
      split at hs
      ·rename_i hend
       obtain ⟨hak, hend⟩ := hend
       cases hs
       subst hak
       simp only [VRel] at rx
       rcases rx with ⟨hn0, b0, hb0⟩ | ⟨l, cap, hl, hev, hncap, hcap⟩
       ·have hd : cs.drop o1 = [] := List.drop_eq_nil_of_le (by rw [hn0] at hend; omega)
        rw [hd, List.nil_append]
        exact empty b0 (h.kill t1) hn0 hb0 (h.kill_le t1) rfl
       ·have hcap : l.sh + o1 + cap * a1 ≤ l.sz := hcap.resolve_left hk0
        have hdl : (cs.drop o1).length = n1 * a1 := by simp; omega
        have hb := (rw'.blk t1 _ hm1).2
        simp only [BRel] at hb
        rcases hb with ⟨_, h2⟩ | ⟨l1, vs, e0, fz, h1, h2, h3, h4, h5, h6⟩
        ·rw [hl] at h2; cases h2
        rw [hl] at h1; cases h1
        have h5 := h5 (by trivial)
        subst h5
        by_cases hroom : n1 + m ≤ cap
        ·-- IN PLACE
         have hmul : (n1 + m) * a1 ≤ cap * a1 := Nat.mul_le_mul_right a1 hroom
         rw [Nat.add_mul] at hmul
         have hst := run_storeCells_at P l.b (l.sh + o1 + n1 * a1) e0 us 0 vs w h2 (by omega) hone
         simp only [Nat.add_zero] at hst
         let vs' : Array Value := (vs.toList.take (l.sh + o1 + n1 * a1) ++ us ++ vs.toList.drop (l.sh + o1 + n1 * a1 + us.length)).toArray
         have hsz : vs'.size = vs.size := by simp [vs']; omega
         have hrun : (Builtin.append_ #[t, u] o.type #[a.eval x, a.eval y]).run P w = .ok (.slice (some ⟨l.b, l.sh + o1, none⟩) (n1 + m) cap) (w.setRow l.b vs') := by
          have f1 := hfirst w (fun b => rfl)
          rw [hev]
          simp [Builtin.append_, und_run ht, und_run hu, sizeOf, typeInfo, hti, hlen, f1, hks, hroom, Addr.add_eq, hst, vs']
         have r1 := rw'.rename hm1 hf1 hf3 hf4 hl (o := o1) (by omega)
         have hm2 : ((h.kill t1).set tok (.cells true (cs.drop o1))).m tok = some (.cells true (cs.drop o1)) := by simp [AH.set]
         have hl2 : (ι.set tok ⟨l.b, l.sh + o1, l.sz⟩) tok = some ⟨l.b, l.sh + o1, l.sz⟩ := by simp [Inj.set]
         have hset : ∀ c1 c2, ((h.kill t1).set tok c1).set tok c2 = (h.kill t1).set tok c2 := by
          intro c1 c2; unfold AH.set; congr 1; funext s; by_cases hs' : s = tok <;> simp [hs']
         refine Moves.mk' (.slice (some ⟨l.b, l.sh + o1, none⟩) (n1 + m) cap) (w.setRow l.b vs') (ι.set tok ⟨l.b, l.sh + o1, l.sz⟩) (by rw [hexec, hrun]; rfl) (Inj.le_set hf1 _) (fun s hs' => by simp [Inj.set, hs']) ?_ ?_ ?_
         ·simp only [VRel]
          exact .inr ⟨⟨l.b, l.sh + o1, l.sz⟩, cap, hl2, rfl, hroom, .inr (by simpa using hcap)⟩
         ·have := r1.write hm2 hl2 h2 hsz (cs' := cs.drop o1 ++ ys) (by simp only [List.length_append, hdl, hyl]; omega) fun i q hq => ?_
          ·rw [hset] at this; exact this
          ·simp only [vs', List.getElem?_toArray]
           rw [List.append_assoc]
           by_cases c1 : i < n1 * a1
           ·rw [List.getElem?_append_left (by omega), List.getElem?_drop] at hq
            obtain ⟨v, hv, hr⟩ := h6 _ q hq
            refine ⟨v, ?_, hr.mono (Inj.le_set hf1 _)⟩
            rw [List.getElem?_append_left (by simp; omega), List.getElem?_take_of_lt (by omega)]
            rw [← Array.getElem?_toList] at hv
            rw [← hv]; congr 1; omega
           ·rw [List.getElem?_append_right (by omega), hdl] at hq
            obtain ⟨v, hv, hr⟩ := hus.get hq
            have hi : i - n1 * a1 < us.length := (List.getElem?_eq_some_iff.1 hv).1
            refine ⟨v, ?_, hr.mono (Inj.le_set hf1 _)⟩
            rw [List.getElem?_append_right (by simp; omega), List.getElem?_append_left (by simp; omega)]
            rw [← hv]; congr 1; simp; omega
         ·intro ι0 h0 w0 x0 hlt0
          have := (x0.rename (cs' := cs.drop o1) hm1 hl hlt0 (l.sh + o1) l.sz).write (cs' := cs.drop o1 ++ ys) hm2 hl2 vs'
          rw [hset] at this
          exact this
        ·have hro : VRels ι (cs.drop o1) ((vs.toList.drop (l.sh + o1)).take (n1 * a1)) := by
          refine VRels_iff.2 ⟨by rw [hdl]; simp; omega, fun i q v hq hv => ?_⟩
          rw [List.getElem?_drop] at hq
          obtain ⟨v', hv', hr⟩ := h6 _ q hq
          have hi : i < n1 * a1 := by have := (List.getElem?_eq_some_iff.1 hv).1; simp at this; omega
          rw [List.getElem?_take_of_lt hi, List.getElem?_drop] at hv
          rw [← Array.getElem?_toList] at hv'
          rw [show l.sh + o1 + i = l.sh + (o1 + i) by omega, hv'] at hv
          cases hv
          exact hr
         refine grow (some ⟨l.b, l.sh + o1, none⟩) cap ((vs.toList.drop (l.sh + o1)).take (n1 * a1)) (cs.drop o1) (h.kill t1) hev (by omega) (h.kill_le t1) rfl (fun D hD => ?_) hro (by rw [← hro.length, hdl])
         refine run_firstCells_some D a1 n1 _ _ _ _ (by rw [← hro.length, hdl]) fun j v hv => ?_
         have hj : j < n1 * a1 := by have := (List.getElem?_eq_some_iff.1 hv).1; rw [← hro.length, hdl] at this; exact this
         rw [List.getElem?_take_of_lt hj, List.getElem?_drop] at hv
         rw [Addr.add_eq, hD]
         simp only [World.cell?, h2]
         simpa using hv
      ·cases hs
     ·cases hs
   ·cases hs
 ·cases hs
end
end Go.Am
set_option linter.unusedVariables false
set_option linter.unusedSimpArgs false
namespace Go.Am
variable {dfs : List Deferred}
theorem aeq_int {ks : List Nat} {xs ys : List AV} {b : Bool} (h : aeq (0 :: ks) xs ys = some b) : ∃ k p q r s c, xs = .i k p :: r ∧ ys = .i k q :: s ∧ aeq ks r s = some c ∧ b = (decide (p = q) && c) := by
 cases xs with
 | nil => simp [aeq] at h
 | cons x r =>
   cases ys with
   | nil => cases x <;> simp [aeq] at h
   | cons y s =>
     cases x <;> cases y <;> simp only [aeq, reduceCtorEq] at h
     case i.i k p k' q =>
      split at h
      ·rename_i hk
       subst hk
       simp only [Option.map_eq_some_iff] at h
       obtain ⟨c, hc, rfl⟩ := h
       exact ⟨_, _, _, _, _, c, rfl, rfl, hc, rfl⟩
      ·cases h
theorem aeq_bool {ks : List Nat} {xs ys : List AV} {b : Bool} (h : aeq (1 :: ks) xs ys = some b) : ∃ p q r s c, xs = .b p :: r ∧ ys = .b q :: s ∧ aeq ks r s = some c ∧ b = ((p == q) && c) := by
 cases xs with
 | nil => simp [aeq] at h
 | cons x r =>
   cases ys with
   | nil => cases x <;> simp [aeq] at h
   | cons y s =>
     cases x <;> cases y <;> simp only [aeq, reduceCtorEq] at h
     case b.b p q =>
      simp only [Option.map_eq_some_iff] at h
      obtain ⟨c, hc, rfl⟩ := h
      exact ⟨_, _, _, _, c, rfl, rfl, hc, rfl⟩
theorem aeq_str {ks : List Nat} {xs ys : List AV} {b : Bool} (h : aeq (2 :: ks) xs ys = some b) : ∃ p q r s c, xs = .s p :: r ∧ ys = .s q :: s ∧ aeq ks r s = some c ∧ b = ((p.toList == q.toList) && c) := by
 cases xs with
 | nil => simp [aeq] at h
 | cons x r =>
   cases ys with
   | nil => cases x <;> simp [aeq] at h
   | cons y s =>
     cases x <;> cases y <;> simp only [aeq, reduceCtorEq] at h
     case s.s p q =>
      simp only [Option.map_eq_some_iff] at h
      obtain ⟨c, hc, rfl⟩ := h
      exact ⟨_, _, _, _, c, rfl, rfl, hc, rfl⟩
theorem aeq_nil {xs ys : List AV} {b : Bool} (h : aeq [] xs ys = some b) : xs = [] ∧ ys = [] ∧ b = true := by
 cases xs <;> cases ys <;> simp [aeq] at h
 exact ⟨rfl, rfl, h⟩
theorem aeq_kind {k : Nat} {ks : List Nat} {xs ys : List AV} {b : Bool} (h : aeq (k :: ks) xs ys = some b) : k = 0 ∨ k = 1 ∨ k = 2 := by
 match k with
 | 0 => exact .inl rfl
 | 1 => exact .inr (.inl rfl)
 | 2 => exact .inr (.inr rfl)
 | k + 3 => simp [aeq] at h
theorem aeq_append : ∀ {ks : List Nat} {ls : List Nat} {xs ys : List AV} {b : Bool}, aeq (ks ++ ls) xs ys = some b → ∃ b1 b2, aeq ks (xs.take ks.length) (ys.take ks.length) = some b1 ∧ aeq ls (xs.drop ks.length) (ys.drop ks.length) = some b2 ∧ b = (b1 && b2)
 | [], ls, xs, ys, b, h => ⟨true, b, by simp [aeq], by simpa using h, by simp⟩
 | k :: ks, ls, xs, ys, b, h => by
   rw [List.cons_append] at h
   rcases aeq_kind h with rfl | rfl | rfl
   ·obtain ⟨kk, p, q, r, s, c, rfl, rfl, hc, rfl⟩ := aeq_int h
    obtain ⟨b1, b2, h1, h2, rfl⟩ := aeq_append hc
    exact ⟨decide (p = q) && b1, b2, by simp [aeq, h1], by simpa using h2, by rw [Bool.and_assoc]⟩
   ·obtain ⟨p, q, r, s, c, rfl, rfl, hc, rfl⟩ := aeq_bool h
    obtain ⟨b1, b2, h1, h2, rfl⟩ := aeq_append hc
    exact ⟨(p == q) && b1, b2, by simp [aeq, h1], by simpa using h2, by rw [Bool.and_assoc]⟩
   ·obtain ⟨p, q, r, s, c, rfl, rfl, hc, rfl⟩ := aeq_str h
    obtain ⟨b1, b2, h1, h2, rfl⟩ := aeq_append hc
    exact ⟨(p.toList == q.toList) && b1, b2, by simp [aeq, h1], by simpa using h2, by rw [Bool.and_assoc]⟩
theorem aeq_length : ∀ {ks : List Nat} {xs ys : List AV} {b : Bool}, aeq ks xs ys = some b → xs.length = ks.length ∧ ys.length = ks.length
 | [], xs, ys, b, h => by obtain ⟨rfl, rfl, _⟩ := aeq_nil h; exact ⟨rfl, rfl⟩
 | k :: ks, xs, ys, b, h => by
   rcases aeq_kind h with rfl | rfl | rfl
   ·obtain ⟨kk, p, q, r, s, c, rfl, rfl, hc, rfl⟩ := aeq_int h
    have := aeq_length hc; simp [this]
   ·obtain ⟨p, q, r, s, c, rfl, rfl, hc, rfl⟩ := aeq_bool h
    have := aeq_length hc; simp [this]
   ·obtain ⟨p, q, r, s, c, rfl, rfl, hc, rfl⟩ := aeq_str h
    have := aeq_length hc; simp [this]
section
variable {P : Program} {N : Nat} {ι : Inj} {st : St} {a : Act} {h : AH} {w : World}
theorem flatEq_sz {f : Nat} {t : TypeId} {n : List Nat} (hf : flatEq P f t = some n) : szOf P t = some n.length ∧ ∃ g, aggOf P t = some g ∧ (g = false → n.length = 1) := by
 cases f with
 | zero => simp [flatEq] at hf
 | succ f =>
   simp only [flatEq] at hf
   split at hf
   ·rename_i hu
    split at hf
    ·rename_i h; cases hf; exact ⟨h, false, by simp [aggOf, hu], fun _ => rfl⟩
    ·cases hf
   ·rename_i hu
    split at hf
    ·rename_i h; cases hf; exact ⟨h, false, by simp [aggOf, hu], fun _ => rfl⟩
    ·cases hf
   ·rename_i hu
    split at hf
    ·rename_i h; cases hf; exact ⟨h, false, by simp [aggOf, hu], fun _ => rfl⟩
    ·cases hf
   ·rename_i hu
    split at hf
    ·split at hf
     ·rename_i h; cases hf; exact ⟨h.2, true, by simp [aggOf, hu], fun q => nomatch q⟩
     ·cases hf
    ·cases hf
   ·rename_i hu
    split at hf
    ·split at hf
     ·rename_i h; cases hf; exact ⟨h, true, by simp [aggOf, hu], fun q => nomatch q⟩
     ·cases hf
    ·cases hf
   ·cases hf
theorem part_flat {f : Nat} {t : TypeId} {n : List Nat} (hf : flatEq P f t = some n) {cs : List AV} {vs : Array Value} (hr : VRels ι cs vs.toList) {off : Nat} (ho : off + n.length ≤ cs.length) (w : World) :
 ∃ v, (part t vs off).run P w = .ok v w ∧ (aggOf P t = some true → ∃ xs, v = .agg xs ∧ VRels ι ((cs.drop off).take n.length) xs.toList) ∧ (∀ p, (cs.drop off).take n.length = [p] → aggOf P t = some false → VRel ι p v) := by
 obtain ⟨hs, g, hg, h1⟩ := flatEq_sz hf
 cases g with
 | true =>
   have hx : rd cs off (some n.length) = some (.ag ((cs.drop off).take n.length)) := by simp only [rd]; rw [if_pos ho]
   obtain ⟨v, r1, r2⟩ := part_run (P := P) (t := t) (n := some n.length) (by simp [ldOf, hg, hs]) hr hx w
   simp only [VRel] at r2
   obtain ⟨x, rfl, r2⟩ := r2
   exact ⟨_, r1, fun _ => ⟨x, rfl, r2⟩, fun p _ h => by simp [hg] at h⟩
 | false =>
   have hn := h1 rfl
   obtain ⟨p, hp⟩ : ∃ p, cs[off]? = some p := ⟨cs[off]'(by omega), List.getElem?_eq_getElem _⟩
   have hx : rd cs off none = some p := hp
   obtain ⟨v, r1, r2⟩ := part_run (P := P) (t := t) (n := none) (by simp [ldOf, hg, hs, hn]) hr hx w
   have e : (cs.drop off).take n.length = [p] := by
    rw [hn]
    refine List.ext_getElem? fun i => ?_
    rw [List.getElem?_take]
    cases i with
    | zero => simp [hp]
    | succ i => simp
   exact ⟨v, r1, fun h => by simp [hg] at h, fun q hq _ => by rw [e] at hq; cases hq; exact r2⟩
theorem eq_flat : ∀ (f : Nat) {t : TypeId} {n : List Nat}, flatEq P f t = some n → ∀ (d : Nat), f ≤ d → ∀ {cs ds : List AV} {b : Bool} {u v : Value}, aeq n cs ds = some b →
 (∀ p, cs = [p] → aggOf P t = some false → VRel ι p u) → (∀ p, ds = [p] → aggOf P t = some false → VRel ι p v) → (aggOf P t = some true → ∃ xs, u = .agg xs ∧ VRels ι cs xs.toList) → (aggOf P t = some true → ∃ xs, v = .agg xs ∧ VRels ι ds xs.toList) →
 ∀ w : World, (Op.equalIn d t u v).run P w = .ok b w
 | 0, t, n, hf, _, _, _, _, _, _, _, _, _, _, _, _, _ => by simp [flatEq] at hf
 | f + 1, t, n, hf, d, hd, cs, ds, b, u, v, hq, u1, v1, u2, v2, w => by
   obtain ⟨d, rfl⟩ : ∃ d', d = d' + 1 := ⟨d - 1, by omega⟩
   simp only [flatEq] at hf
   split at hf
   ·rename_i k hu
    split at hf
    ·cases hf
     have hag : aggOf P t = some false := by simp [aggOf, hu]
     obtain ⟨kk, p, q, r, s, c, rfl, rfl, hc, rfl⟩ := aeq_int hq
     obtain ⟨rfl, rfl, rfl⟩ := aeq_nil hc
     have a1 := u1 _ rfl hag
     have a2 := v1 _ rfl hag
     simp only [VRel] at a1 a2
     subst a1; subst a2
     rw [run_equalIn_int w d t kk k p q hu, Bool.and_true]; rfl
    ·cases hf
   ·rename_i hu
    split at hf
    ·cases hf
     have hag : aggOf P t = some false := by simp [aggOf, hu]
     obtain ⟨p, q, r, s, c, rfl, rfl, hc, rfl⟩ := aeq_bool hq
     obtain ⟨rfl, rfl, rfl⟩ := aeq_nil hc
     have a1 := u1 _ rfl hag
     have a2 := v1 _ rfl hag
     simp only [VRel] at a1 a2
     subst a1; subst a2
     rw [run_equalIn_bool d hu p q w, Bool.and_true]
    ·cases hf
   ·rename_i hu
    split at hf
    ·cases hf
     have hag : aggOf P t = some false := by simp [aggOf, hu]
     obtain ⟨p, q, r, s, c, rfl, rfl, hc, rfl⟩ := aeq_str hq
     obtain ⟨rfl, rfl, rfl⟩ := aeq_nil hc
     have a1 := u1 _ rfl hag
     have a2 := v1 _ rfl hag
     simp only [VRel] at a1 a2
     subst a1; subst a2
     rw [run_equalIn_string w d t p q hu, Bool.and_true]
    ·cases hf
   ·rename_i fs hu
    split at hf
    ·rename_i m hm
     split at hf
     ·rename_i hc
      cases hf
      have hag : aggOf P t = some true := by simp [aggOf, hu]
      obtain ⟨xs, rfl, rx⟩ := u2 hag
      obtain ⟨ys, rfl, ry⟩ := v2 hag
      have hfo : P.fieldsOf t = fs := by simp [Program.fieldsOf, hu]
      rw [run_equalIn_struct w d t xs ys (by rw [hfo]; exact hu) hc.1, hfo]
      have lens := aeq_length hq
      have go : ∀ (l : List Field) (off : Nat) (m : List Nat) (b : Bool), flatEqF (flatEq P f) l off = some m → off + m.length ≤ cs.length → off + m.length ≤ ds.length →
       aeq m ((cs.drop off).take m.length) ((ds.drop off).take m.length) = some b → (Op.eqFields d xs ys l).run P w = .ok b w := by
       intro l
       induction l with
       | nil =>
         intro off m b hm _ _ hq
         simp only [flatEqF, Option.some.injEq] at hm
         subst hm
         simp [aeq] at hq
         subst hq
         simp [Op.eqFields]
       | cons fd l ih =>
         intro off m b hm h1 h2 hq
         simp only [flatEqF] at hm
         split at hm
         ·rename_i k1 hk1
          split at hm
          ·rename_i hcc
           simp only [Option.map_eq_some_iff] at hm
           obtain ⟨k2, hk2, rfl⟩ := hm
           rw [List.length_append] at h1 h2
           obtain ⟨b1, b2, q1, q2, rfl⟩ := aeq_append hq
           rw [List.take_take, List.take_take, List.length_append, Nat.min_eq_left (Nat.le_add_right _ _)] at q1
           rw [List.drop_take, List.drop_take, List.drop_drop, List.drop_drop, List.length_append, Nat.add_sub_cancel_left] at q2
           obtain ⟨v1, r1, r2, r3⟩ := part_flat hk1 rx (off := off) (by omega) w
           obtain ⟨v2, s1, s2, s3⟩ := part_flat hk1 ry (off := off) (by omega) w
           have e := eq_flat f hk1 d (by omega) q1 r3 s3 r2 s2 w
           have rest := ih (off + k1.length) k2 b2 hk2 (by omega) (by omega) q2
           rw [← hcc.1] at r1 s1
           simp only [Op.eqFields, hcc.2, ne_eq, not_false_eq_true, if_true, Sem.run_bind, r1, s1, e, Result.andThen_ok]
           cases b1
           ·simp
           ·simp [rest]
          ·cases hm
         ·cases hm
      refine go fs.toList 0 _ b hm (by omega) (by omega) ?_
      rw [List.drop_zero, List.drop_zero, List.take_of_length_le (by omega), List.take_of_length_le (by omega)]
      exact hq
     ·cases hf
    ·cases hf
   ·rename_i m e hu
    split at hf
    ·rename_i k1 hk1
     split at hf
     ·rename_i hc
      cases hf
      have hag : aggOf P t = some true := by simp [aggOf, hu]
      obtain ⟨xs, rfl, rx⟩ := u2 hag
      obtain ⟨ys, rfl, ry⟩ := v2 hag
      have hsz := (flatEq_sz hk1).1
      obtain ⟨i, hi, hsi⟩ : ∃ i, P.info? e = some i ∧ i.size = k1.length := by
       unfold szOf at hsz
       simp only [Option.map_eq_some_iff] at hsz
       exact hsz
      have hcell : P.cellsOf e = k1.length := by simp [Program.cellsOf, hi, hsi]
      rw [run_equalIn_array w d xs ys hu hi, hcell]
      have lens := aeq_length hq
      have hlen : (List.replicate m k1).flatten.length = m * k1.length := by simp
      have go : ∀ (m' s : Nat) (b : Bool), s + m' = m → aeq (List.replicate m' k1).flatten (cs.drop (s * k1.length)) (ds.drop (s * k1.length)) = some b → (Op.eqItems d e k1.length xs ys (List.range' s m')).run P w = .ok b w := by
       intro m'
       induction m' with
       | zero =>
         intro s b hs hq
         simp only [List.replicate_zero, List.flatten_nil] at hq
         obtain ⟨_, _, rfl⟩ := aeq_nil hq
         simp [Op.eqItems]
       | succ m' ih =>
         intro s b hs hq
         rw [List.replicate_succ, List.flatten_cons] at hq
         have hl := aeq_length hq
         simp only [List.length_append, List.length_drop] at hl
         obtain ⟨b1, b2, q1, q2, rfl⟩ := aeq_append hq
         rw [List.drop_drop, List.drop_drop, show s * k1.length + k1.length = (s + 1) * k1.length by rw [Nat.succ_mul]] at q2
         have ho : s * k1.length + k1.length ≤ cs.length ∧ s * k1.length + k1.length ≤ ds.length := by
          rcases Nat.eq_zero_or_pos k1.length with h0 | h0
          ·rw [h0]; simp
          ·omega
         obtain ⟨v1, r1, r2, r3⟩ := part_flat hk1 rx (off := s * k1.length) ho.1 w
         obtain ⟨v2, s1, s2, s3⟩ := part_flat hk1 ry (off := s * k1.length) ho.2 w
         have e' := eq_flat f hk1 d (by omega) q1 r3 s3 r2 s2 w
         have rest := ih (s + 1) b2 (by omega) q2
         rw [List.range'_succ]
         simp only [Op.eqItems, Sem.run_bind, r1, s1, e', Result.andThen_ok]
         cases b1
         ·simp
         ·simp [rest]
      have := go m 0 b (by omega) (by simpa using hq)
      rwa [← List.range_eq_range'] at this
     ·cases hf
    ·cases hf
   ·cases hf
theorem sound_eqa (ra : ARel N dfs ι st a) {o : Oper} {op : BinOp} {xt yt : TypeId} {x y : Operand} (ho : o.op = .binOp op xt x y yt) (hop : op = .eql ∨ op = .neq) {ks : List Nat} (hf : flatEq P 8 xt = some ks) (hag : aggOf P xt = some true) (hgd : P.eqGuardType P.depth xt = false)
 {ax ay : AX} (hx : toX x = some ax) (hy : toX y = some ay) : Sound P ι st a h w o (.eqa (op == .neq) ks ax ay) := by
 intro v hv
 have rx := toX_sound ra hx
 have ry := toX_sound ra hy
 simp only [AOp.ev] at hv
 split at hv
 ·rename_i cs ds h1 h2
  simp only [Option.map_eq_some_iff] at hv
  obtain ⟨b, hb, rfl⟩ := hv
  rw [h1] at rx
  rw [h2] at ry
  simp only [VRel] at rx ry
  obtain ⟨xs, hxs, rx⟩ := rx
  obtain ⟨ys, hys, ry⟩ := ry
  have e := eq_flat (P := P) (ι := ι) 8 hf 10000 (by omega) hb (u := .agg xs) (v := .agg ys) (fun p _ hq => by simp [hag] at hq) (fun p _ hq => by simp [hag] at hq) (fun _ => ⟨xs, rfl, rx⟩) (fun _ => ⟨ys, rfl, ry⟩) w
  refine ⟨.bool (b != (op == .neq)), ?_, by simp only [VRel]⟩
  simp only [execOp, ho, hxs, hys]
  have hg := run_eqGuard_agg (P := P) w op xt x y xs ys hgd
  rcases hop with rfl | rfl
  ·have : (b != (BinOp.eql == BinOp.neq)) = b := by cases b <;> rfl
   simp [hg, run_eql_struct, e, this]
  ·have : (b != (BinOp.neq == BinOp.neq)) = !b := by cases b <;> rfl
   simp [hg, run_neq_struct, e, this]
 ·cases hv
theorem sound_eqs (ra : ARel N dfs ι st a) {o : Oper} {op : BinOp} {xt yt : TypeId} {x y : Operand} (ho : o.op = .binOp op xt x y yt) (hop : op = .eql ∨ op = .neq)
 {ax ay : AX} (hx : toX x = some ax) (hy : toX y = some ay) : Sound P ι st a h w o (.eqs (op == .neq) ax ay) := by
 intro v hv
 have rx := toX_sound ra hx
 have ry := toX_sound ra hy
 simp only [AOp.ev] at hv
 split at hv
 ·rename_i p q h1 h2
  cases hv
  rw [h1] at rx
  rw [h2] at ry
  simp only [VRel] at rx ry
  refine ⟨.bool ((p.toList == q.toList) != (op == .neq)), ?_, by simp only [VRel]⟩
  simp only [execOp, ho, rx, ry]
  have hg : (eqGuard op xt x y (.string p) (.string q)).run P w = .ok () w := by
   unfold eqGuard; split <;> rfl
  rcases hop with rfl | rfl
  ·have : ∀ b : Bool, (b != (BinOp.eql == BinOp.neq)) = b := fun b => by cases b <;> rfl
   simp [hg, binOp, Op.stringOp, this]
  ·have : ∀ b : Bool, (b != (BinOp.neq == BinOp.neq)) = !b := fun b => by cases b <;> rfl
   simp [hg, binOp, Op.stringOp, this]
 ·cases hv
theorem abytes_cells : ∀ {cs : List AV} {l : List UInt8} {vs : List Value}, abytes cs = some l → VRels ι cs vs → ∃ ns : List Int, vs = ns.map (Value.int .u8) ∧ l = ns.map (fun n => UInt8.ofNat n.toNat)
 | [], l, vs, h, r => by
   simp only [abytes, Option.some.injEq] at h
   simp only [VRels] at r
   subst h; subst r; exact ⟨[], rfl, rfl⟩
 | c :: cs, l, vs, h, r => by
   unfold abytes at h
   split at h
   ·rename_i h0; cases h0
   ·rename_i n r' h0
    cases h0
    simp only [Option.map_eq_some_iff] at h
    obtain ⟨l', hl, rfl⟩ := h
    simp only [VRels] at r
    obtain ⟨v, q, rfl, r1, r2⟩ := r
    simp only [VRel] at r1
    subst r1
    obtain ⟨ns, rfl, rfl⟩ := abytes_cells hl r2
    exact ⟨n :: ns, rfl, rfl⟩
   ·cases h
theorem push_bytes (ns : List Int) : ∀ (s : ByteArray), (ns.foldl (fun (s : ByteArray) n => s.push (UInt8.ofNat n.toNat)) s) = ⟨s.data ++ (ns.map fun n => UInt8.ofNat n.toNat).toArray⟩ := by
 induction ns with
 | nil => intro s; simp
 | cons n ns ih => intro s; rw [List.foldl_cons, ih]; simp [ByteArray.push]
theorem sound_str (ra : ARel N dfs ι st a) (rw' : WRel ι h w) {o : Oper} {s d : TypeId} {x : Operand} (ho : o.op = .convert s d x) {e : TypeId} (hs : P.underlying s = some (.slice e)) (he : P.underlying e = some (.int .u8)) (hd : P.underlying d = some .string)
 {ax : AX} (hx : toX x = some ax) : Sound P ι st a h w o (.str ax) := by
 intro v hv
 have rx := toX_sound ra hx
 simp only [AOp.ev] at hv
 split at hv
 ·rename_i t o' n m h1
  rw [h1] at rx
  simp only [VRel] at rx
  split at hv
  ·rename_i h0
   cases hv
   subst h0
   refine ⟨.string ByteArray.empty, ?_, by simp only [VRel]⟩
   rcases rx with ⟨_, y, hy⟩ | ⟨l, cap, hl, hy, _⟩
   ·cases y with
    | none => simp [execOp, ho, hy, convert, und_run hs, und_run hd, und_run he, Conv.bytesToString]
    | some y => simp [execOp, ho, hy, convert, und_run hs, und_run hd, und_run he, Conv.bytesToString, loadCells, loadCellsFrom]
   ·simp [execOp, ho, hy, convert, und_run hs, und_run hd, und_run he, Conv.bytesToString, loadCells, loadCellsFrom]
  ·rename_i h0
   split at hv
   ·rename_i cs hr
    split at hv
    ·rename_i hle
     simp only [Option.map_eq_some_iff] at hv
     obtain ⟨l, hl, rfl⟩ := hv
     rcases rx with ⟨hn, _⟩ | ⟨lc, cap, hlc, hy, _⟩
     ·exact absurd hn h0
     obtain ⟨vs, r1, r2⟩ := loadCells_of_row (P := P) rw' hr hle hlc
     obtain ⟨ns, hns, rfl⟩ := abytes_cells hl r2
     refine ⟨.string ⟨(ns.map fun n => UInt8.ofNat n.toNat).toArray⟩, ?_, by simp only [VRel]⟩
     have hvs : vs = (ns.map (Value.int .u8)).toArray := by rw [← hns]
     subst hvs
     simp only [execOp, ho, hy]
     simp [convert, und_run hs, und_run hd, und_run he, Conv.bytesToString, r1]
     have := push_bytes ns ByteArray.empty
     rw [show (List.foldl (fun (b : ByteArray) a => b.push (UInt8.ofNat a.toNat)) ByteArray.empty ns) = _ from this]
     simp
    ·cases hv
   ·cases hv
 ·rename_i n cs h1
  rw [h1] at rx
  simp only [VRel] at rx
  split at hv
  ·rename_i hle
   simp only [Option.map_eq_some_iff] at hv
   obtain ⟨l, hl, rfl⟩ := hv
   rcases rx with ⟨hn, y, hy⟩ | ⟨b, s0, cap, xs, hy, hc, hf, hr0⟩
   ·have : cs = [] := List.length_eq_zero_iff.1 (by omega)
    subst this
    simp only [abytes, Option.some.injEq] at hl
    subst hl
    refine ⟨.string ByteArray.empty, ?_, by simp only [VRel]; rfl⟩
    cases y with
    | none => simp [execOp, ho, hy, convert, und_run hs, und_run hd, und_run he, Conv.bytesToString]
    | some y => simp [execOp, ho, hy, convert, und_run hs, und_run hd, und_run he, Conv.bytesToString, loadCells, loadCellsFrom]
   ·obtain ⟨vs, r1, r2⟩ := loadCells_of_phi (P := P) rw' hf hr0 (o := 0) (n := n) (by omega)
    rw [List.drop_zero, hle, List.take_length] at r2
    obtain ⟨ns, hns, rfl⟩ := abytes_cells hl r2
    refine ⟨.string ⟨(ns.map fun n => UInt8.ofNat n.toNat).toArray⟩, ?_, by simp only [VRel]⟩
    have hvs : vs = (ns.map (Value.int .u8)).toArray := by rw [← hns]
    subst hvs
    simp only [Nat.add_zero] at r1
    simp only [execOp, ho, hy]
    simp [convert, und_run hs, und_run hd, und_run he, Conv.bytesToString, r1]
    have := push_bytes ns ByteArray.empty
    rw [show (List.foldl (fun (b : ByteArray) a => b.push (UInt8.ofNat a.toNat)) ByteArray.empty ns) = _ from this]
    simp
  ·cases hv
 ·cases hv
theorem sound_sl3 (ra : ARel N dfs ι st a) {o : Oper} {t : TypeId} {x hi mx : Operand} {lo : Option Operand} (ho : o.op = .slice t x lo (some hi) (some mx)) {e : TypeId} (hs : P.underlying t = some (.slice e)) {k : Nat} (hk : szOf P e = some k)
 {ax ah am : AX} (hx : toX x = some ax) {al : Option AX} (hl : toXo lo = some al) (hh : toX hi = some ah) (hm : toX mx = some am) : Sound P ι st a h w o (.sl3 k ax al ah am) := by
 intro v hv
 simp only [AOp.ev] at hv
 have rx := toX_sound ra hx
 split at hv
 ·rename_i t' o' n m h1
  rw [h1] at rx
  simp only [VRel] at rx
  split at hv
  ·rename_i l hh' mm hb1 hb2 hb3
   split at hv
   ·rename_i hle
    have b1 := bound_sound ra hl hb1
    have b2 := bound_sound ra (show toXo (some hi) = some (some ah) by simp [toXo, hh]) hb2
    have b3 := bound_sound ra (show toXo (some mx) = some (some am) by simp [toXo, hm]) hb3
    rcases b2 with ⟨q, _⟩ | ⟨y2, k2, m2, e2, r2, z2, rfl⟩
    ·cases q
    rcases b3 with ⟨q, _⟩ | ⟨y3, k3, m3, e3, r3, z3, rfl⟩
    ·cases q
    cases e2; cases e3
    have run : ∀ cap, n ≤ cap → (Instr.sliceBounds true n cap (lo.map a.eval) (some (a.eval hi)) (some (a.eval mx))).run P w = .ok (l, m2.toNat, m3.toNat) w := by
     intro cap hc
     have c3 : m3 ≤ (cap : Int) := by omega
     have c2 : m2 ≤ (m3.toNat : Int) := by omega
     rcases b1 with ⟨rfl, rfl⟩ | ⟨y1, k1, m1, rfl, r1, z1, rfl⟩
     ·have c2' : m2 ≤ max m3 0 := by omega
      simp [Instr.sliceBounds, Instr.sliceBound, asIntOf, r2, r3, z2, z3, c2', c3, Int.not_lt.2 c2']
     ·have c1 : m1 ≤ max m2 0 := by omega
      have c2' : m2 ≤ max m3 0 := by omega
      simp [Instr.sliceBounds, Instr.sliceBound, asIntOf, r1, r2, r3, z1, z2, z3, c1, c2', c3, Int.not_lt.2 c1, Int.not_lt.2 c2']
    rcases rx with ⟨rfl, y, hy⟩ | ⟨lc, cap, hlc, hy, hc, hcap⟩
    ·have hr := run 0 (Nat.le_refl 0)
     have hl0 : l = 0 := by omega
     have hh0 : m2.toNat = 0 := by omega
     have hm0 : m3.toNat = 0 := by omega
     rw [hl0, hh0, hm0] at hr
     rw [if_pos (by omega)] at hv
     cases hv
     refine ⟨.slice y 0 0, by simp [execOp, ho, hy, Instr.sliceAt, Instr.slice, und_run hs, hr, szOf_run hk], ?_⟩
     simp only [VRel]
     exact Or.inl ⟨by first | trivial | omega, y, rfl⟩
    ·have hr := run cap hc
     refine ⟨.slice (if m3.toNat = l then some (⟨lc.b, lc.sh + o', none⟩ : Addr) else some (Addr.add ⟨lc.b, lc.sh + o', none⟩ (l * k))) (m2.toNat - l) (m3.toNat - l), by simp [execOp, ho, hy, Instr.sliceAt, Instr.slice, und_run hs, hr, szOf_run hk], ?_⟩
     by_cases hcl : m3.toNat = l
     ·rw [if_pos hcl] at hv
      cases hv
      simp only [VRel]
      exact .inl ⟨by trivial, _, by rw [show m2.toNat - l = 0 by omega, show m3.toNat - l = 0 by omega]⟩
     ·rw [if_neg hcl] at hv
      cases hv
      simp only [VRel]
      right
      refine ⟨lc, m3.toNat - l, hlc, ?_, by omega, ?_⟩
      ·rw [if_neg hcl]
       rw [Addr.add_eq, Nat.add_assoc]
      ·split
       ·rename_i hmk
        subst hmk
        have q1 : l * m + (m3.toNat - l) * m = m3.toNat * m := by rw [← Nat.add_mul]; congr 1; omega
        have q2 : m3.toNat * m ≤ cap * m := Nat.mul_le_mul_right m (by omega)
        rcases hcap with h0 | hcap
        ·exact .inl h0
        ·exact .inr (by omega)
       ·exact .inl rfl
   ·cases hv
  ·cases hv
 ·rename_i n cs h1
  rw [h1] at rx
  simp only [VRel] at rx
  split at hv
  ·rename_i l hh' mm hb1 hb2 hb3
   split at hv
   ·rename_i hle
    have b1 := bound_sound ra hl hb1
    have b2 := bound_sound ra (show toXo (some hi) = some (some ah) by simp [toXo, hh]) hb2
    have b3 := bound_sound ra (show toXo (some mx) = some (some am) by simp [toXo, hm]) hb3
    rcases b2 with ⟨q, _⟩ | ⟨y2, k2, m2, e2, r2, z2, rfl⟩
    ·cases q
    rcases b3 with ⟨q, _⟩ | ⟨y3, k3, m3, e3, r3, z3, rfl⟩
    ·cases q
    cases e2; cases e3
    have run : ∀ cap, n ≤ cap → (Instr.sliceBounds true n cap (lo.map a.eval) (some (a.eval hi)) (some (a.eval mx))).run P w = .ok (l, m2.toNat, m3.toNat) w := by
     intro cap hc
     have c3 : m3 ≤ (cap : Int) := by omega
     have c2 : m2 ≤ (m3.toNat : Int) := by omega
     rcases b1 with ⟨rfl, rfl⟩ | ⟨y1, k1, m1, rfl, r1, z1, rfl⟩
     ·have c2' : m2 ≤ max m3 0 := by omega
      simp [Instr.sliceBounds, Instr.sliceBound, asIntOf, r2, r3, z2, z3, c2', c3, Int.not_lt.2 c2']
     ·have c1 : m1 ≤ max m2 0 := by omega
      have c2' : m2 ≤ max m3 0 := by omega
      simp [Instr.sliceBounds, Instr.sliceBound, asIntOf, r1, r2, r3, z1, z2, z3, c1, c2', c3, Int.not_lt.2 c1, Int.not_lt.2 c2']
    cases hv
    have hcl := hle.2.2.2
    rcases rx with ⟨rfl, y, hy⟩ | ⟨b, s, cap, xs, hy, hc, hf, hr0⟩
    ·have hr := run 0 (Nat.le_refl 0)
     have hl0 : l = 0 := by omega
     have hh0 : m2.toNat = 0 := by omega
     have hm0 : m3.toNat = 0 := by omega
     rw [hl0, hh0, hm0] at hr
     refine ⟨.slice y 0 0, by simp [execOp, ho, hy, Instr.sliceAt, Instr.slice, und_run hs, hr, szOf_run hk], ?_⟩
     simp only [VRel]
     exact Or.inl ⟨by first | trivial | omega, y, rfl⟩
    ·have hr := run cap hc
     refine ⟨.slice (if m3.toNat = l then some (⟨b, s, none⟩ : Addr) else some (Addr.add ⟨b, s, none⟩ (l * k))) (m2.toNat - l) (m3.toNat - l), by simp [execOp, ho, hy, Instr.sliceAt, Instr.slice, und_run hs, hr, szOf_run hk], ?_⟩
     simp only [VRel]
     exact .inl ⟨by trivial, _, by rw [show m2.toNat - l = 0 by omega, show m3.toNat - l = 0 by omega]⟩
   ·cases hv
  ·cases hv
 ·cases hv
end
end Go.Am
set_option linter.unusedVariables false
set_option linter.unusedSimpArgs false
namespace Go.Am
variable {dfs : List Deferred}
section
variable {P : Program} {N : Nat} {ι : Inj} {st : St} {a : Act} {h : AH} {w : World}
theorem aeq_eq : ∀ {ks : List Nat} {xs ys : List AV} {us vs : List Value}, ks.all (· != 2) = true → aeq ks xs ys = some true → VRels ι xs us → VRels ι ys vs → us = vs ∧ ∀ u ∈ us, ∀ n, Instr.sameBits n u u = true
 | [], xs, ys, us, vs, _, h, r, s => by
   obtain ⟨rfl, rfl, _⟩ := aeq_nil h
   simp only [VRels] at r s
   subst r; subst s; exact ⟨rfl, fun u hu => by cases hu⟩
 | k :: ks, xs, ys, us, vs, h2, h, r, s => by
   simp only [List.all_cons, Bool.and_eq_true] at h2
   rcases aeq_kind h with rfl | rfl | rfl
   ·obtain ⟨kk, p, q, r', s', c, rfl, rfl, hc, hb⟩ := aeq_int h
    simp only [VRels, VRel] at r s
    obtain ⟨_, u2, rfl, rfl, r2⟩ := r
    obtain ⟨_, v2, rfl, rfl, s2⟩ := s
    have hb' : p = q ∧ c = true := by simpa using hb.symm
    obtain ⟨rfl, rfl⟩ := hb'
    obtain ⟨e2, e3⟩ := aeq_eq h2.2 hc r2 s2
    subst e2
    refine ⟨rfl, fun u hu n => ?_⟩
    rcases List.mem_cons.1 hu with rfl | hu
    ·cases n <;> simp [Instr.sameBits]
    ·exact e3 u hu n
   ·obtain ⟨p, q, r', s', c, rfl, rfl, hc, hb⟩ := aeq_bool h
    simp only [VRels, VRel] at r s
    obtain ⟨_, u2, rfl, rfl, r2⟩ := r
    obtain ⟨_, v2, rfl, rfl, s2⟩ := s
    have hb' : p = q ∧ c = true := by simpa using hb.symm
    obtain ⟨rfl, rfl⟩ := hb'
    obtain ⟨e2, e3⟩ := aeq_eq h2.2 hc r2 s2
    subst e2
    refine ⟨rfl, fun u hu n => ?_⟩
    rcases List.mem_cons.1 hu with rfl | hu
    ·cases n <;> simp [Instr.sameBits]
    ·exact e3 u hu n
   ·simp at h2
theorem sameBits_agg {us : Array Value} (h : ∀ u ∈ us.toList, ∀ n, Instr.sameBits n u u = true) : Instr.sameBits 10000 (.agg us) (.agg us) = true := by
 simp only [Instr.sameBits, BEq.rfl, Bool.true_and, List.all_eq_true]
 intro p hp
 obtain ⟨x, y⟩ := p
 have : x = y := by
  have hz : us.toList.zip us.toList = us.toList.map fun x => (x, x) := by
   generalize us.toList = l
   induction l with
   | nil => rfl
   | cons a l ih => simp [ih]
  rw [hz] at hp
  obtain ⟨z, _, e⟩ := List.mem_map.1 hp
  cases e; rfl
 subst this
 exact h x (List.of_mem_zip hp).1 _
structure KeyOk (P : Program) (kt : TypeId) (kk : Option (List Nat)) : Prop where
 sc : kk = none → ∃ k, P.underlying kt = some (.int k)
 ag : ∀ ks, kk = some ks → flatEq P 8 kt = some ks ∧ aggOf P kt = some true ∧ ks.all (· != 2) = true ∧ (match P.underlying kt with | some (.array _ _) | some (.struct _) => true | _ => false) = true
theorem keyK_ok {kt : TypeId} {kk : Option (List Nat)} (h : keyK P kt = some kk) : KeyOk P kt kk := by
 unfold keyK at h
 split at h
 ·rename_i k hu; cases h; exact ⟨fun _ => ⟨k, hu⟩, fun ks hk => nomatch hk⟩
 ·rename_i fs hu
  simp only [Option.bind_eq_some_iff] at h
  obtain ⟨ks, hf, h⟩ := h
  split at h
  ·rename_i h2; cases h
   exact ⟨(fun e => by cases e), fun ks' e => by cases e; exact ⟨hf, by simp [aggOf, hu], h2, by simp [hu]⟩⟩
  ·cases h
 ·rename_i n e hu
  simp only [Option.bind_eq_some_iff] at h
  obtain ⟨ks, hf, h⟩ := h
  split at h
  ·rename_i h2; cases h
   exact ⟨(fun e => by cases e), fun ks' e => by cases e; exact ⟨hf, by simp [aggOf, hu], h2, by simp [hu]⟩⟩
  ·cases h
 ·cases h
theorem kq_eq {kt : TypeId} {kk : Option (List Nat)} (ok : KeyOk P kt kk) {x y : AV} {u v : Value} (h : kq kk x y = some true) (r : VRel ι x u) (s : VRel ι y v) : u = v ∧ Instr.sameBits 10000 u u = true := by
 unfold kq at h
 split at h
 ·split at h
  ·rename_i hk; subst hk
   simp only [Option.some.injEq, decide_eq_true_eq] at h
   subst h
   simp only [VRel] at r s
   subst r; subst s
   exact ⟨rfl, by simp [Instr.sameBits]⟩
  ·cases h
 ·rename_i ks cs ds
  simp only [VRel] at r s
  obtain ⟨xs, rfl, r⟩ := r
  obtain ⟨ys, rfl, s⟩ := s
  obtain ⟨e, e2⟩ := aeq_eq (ok.ag ks rfl).2.2.1 h r s
  have : xs = ys := Array.toList_inj.1 e
  subst this
  exact ⟨rfl, sameBits_agg e2⟩
 ·cases h
theorem check_flat (em : Bool) : ∀ (f : Nat) {t : TypeId} {n : List Nat}, flatEq P f t = some n → ∀ (d : Nat), f ≤ d → ∀ {cs : List AV} {u : Value}, cs.length = n.length → (aggOf P t = some true → ∃ xs, u = .agg xs ∧ VRels ι cs xs.toList) →
 ∀ w : World, (Instr.checkKey em d t u).run P w = .ok () w
 | 0, t, n, hf, _, _, _, _, _, _, _ => by simp [flatEq] at hf
 | f + 1, t, n, hf, d, hd, cs, u, hl, hu', w => by
   obtain ⟨d, rfl⟩ : ∃ d', d = d' + 1 := ⟨d - 1, by omega⟩
   simp only [flatEq] at hf
   split at hf
   ·rename_i k hu; simp [Instr.checkKey, und_run hu]
   ·rename_i hu; simp [Instr.checkKey, und_run hu]
   ·rename_i hu; simp [Instr.checkKey, und_run hu]
   ·rename_i fs hu
    split at hf
    ·rename_i m hm
     split at hf
     ·cases hf
      obtain ⟨xs, rfl, rx⟩ := hu' (by simp [aggOf, hu])
      rw [Instr.checkKey]
      simp only [Sem.run_bind, und_run hu, Result.andThen_ok]
      rw [← Array.forIn_toList]
      have go : ∀ (l : List Field) (off : Nat) (m : List Nat), flatEqF (flatEq P f) l off = some m → off + m.length ≤ cs.length →
       (forIn l PUnit.unit fun (f : Field) (_ : PUnit) => (if f.name ≠ "_" then (do Instr.checkKey em d f.type (← part f.type xs f.offset); pure (ForInStep.yield PUnit.unit)) else pure (ForInStep.yield PUnit.unit) : Sem (ForInStep PUnit))).run P w = .ok () w := by
       intro l
       induction l with
       | nil => intro off m _ _; simp
       | cons fd l ih =>
         intro off m hm h1
         simp only [flatEqF] at hm
         split at hm
         ·rename_i k1 hk1
          split at hm
          ·rename_i hcc
           simp only [Option.map_eq_some_iff] at hm
           obtain ⟨k2, hk2, rfl⟩ := hm
           rw [List.length_append] at h1
           obtain ⟨v1, r1, r2, r3⟩ := part_flat hk1 rx (off := off) (by omega) w
           have e := check_flat em f hk1 d (by omega) (cs := (cs.drop off).take k1.length) (by simp; omega) r2 w
           have rest := ih (off + k1.length) k2 hk2 (by omega)
           rw [← hcc.1] at r1
           simp only [List.forIn_cons, Sem.run_bind, hcc.2, ne_eq, not_false_eq_true, if_true, Result.andThen_ok, r1, e, Sem.run_pure]
           exact rest
          ·cases hm
         ·cases hm
      rw [go fs.toList 0 _ hm (by omega)]; rfl
     ·cases hf
    ·cases hf
   ·rename_i nn e hu
    split at hf
    ·rename_i k1 hk1
     split at hf
     ·rename_i hc
      cases hf
      obtain ⟨xs, rfl, rx⟩ := hu' (by simp [aggOf, hu])
      have hsz := (flatEq_sz hk1).1
      rw [Instr.checkKey]
      simp only [Sem.run_bind, und_run hu, Result.andThen_ok]
      simp only [Std.Legacy.Range.forIn_eq_forIn_range', Std.Legacy.Range.size, Nat.sub_zero, Nat.add_one_sub_one, Nat.div_one]
      have hlen : (List.replicate nn k1).flatten.length = nn * k1.length := by simp
      have each : ∀ i ∈ List.range' 0 nn, i < nn := fun i hi => by simpa using hi
      generalize List.range' 0 nn = is at each
      induction is with
      | nil => simp
      | cons j is ih =>
        have hj := each j (by simp)
        have hle : j * k1.length + k1.length ≤ cs.length := by
         have := Nat.mul_le_mul_right k1.length (show j + 1 ≤ nn by omega)
         rw [Nat.succ_mul] at this
         omega
        obtain ⟨v1, r1, r2, r3⟩ := part_flat hk1 rx (off := j * k1.length) hle w
        have e' := check_flat em f hk1 d (by omega) (cs := (cs.drop (j * k1.length)).take k1.length) (by simp; omega) r2 w
        simp only [List.forIn_cons, Sem.run_bind, szOf_run hsz, Result.andThen_ok, r1, e', Sem.run_pure]
        exact ih (fun y hy => each y (by simp [hy]))
     ·cases hf
    ·cases hf
   ·cases hf
theorem check_run {kt : TypeId} {kk : Option (List Nat)} (ok : KeyOk P kt kk) {x : AV} {u : Value} (hq : kq kk x x = some true) (r : VRel ι x u) (em : Bool) (w : World) : (Instr.checkKey em 10000 kt u).run P w = .ok () w := by
 cases kk with
 | none =>
   obtain ⟨k, hu⟩ := ok.sc rfl
   show (Instr.checkKey em (9999 + 1) kt u).run P w = .ok () w
   rw [Instr.checkKey]
   simp [und_run hu]
 | some ks =>
   obtain ⟨hf, hag, _, _⟩ := ok.ag ks rfl
   cases x <;> simp only [kq, reduceCtorEq] at hq
   rename_i cs
   have := (aeq_length hq).1
   simp only [VRel] at r
   exact check_flat (ι := ι) em 8 hf 10000 (by omega) this (fun _ => r) w
def EL (ι : Inj) : List (AV × AV) → List MapEntry → Prop
 | [], xs => xs = []
 | e :: es, xs => ∃ x r, xs = x :: r ∧ VRel ι e.1 x.key ∧ VRel ι e.2 x.val ∧ EL ι es r
theorem EL.get : ∀ {es : List (AV × AV)} {xs : List MapEntry}, EL ι es xs → ∀ {i : Nat} {k v : AV}, es[i]? = some (k, v) → ∃ x, xs[i]? = some x ∧ VRel ι k x.key ∧ VRel ι v x.val
 | [], xs, h, i, k, v, hi => by simp at hi
 | e :: es, xs, h, i, k, v, hi => by
   obtain ⟨x, r, rfl, h1, h2, h3⟩ := h
   cases i with
   | zero => simp at hi; subst hi; exact ⟨x, rfl, h1, h2⟩
   | succ i => simp at hi; obtain ⟨y, hy, q⟩ := h3.get hi; exact ⟨y, by simpa using hy, q⟩
theorem EL.length : ∀ {es : List (AV × AV)} {xs : List MapEntry}, EL ι es xs → es.length = xs.length
 | [], xs, h => by simp only [EL] at h; subst h; rfl
 | e :: es, xs, h => by obtain ⟨x, r, rfl, h1, h2, h3⟩ := h; simp [h3.length]
theorem EL.of : ∀ {es : List (AV × AV)} {xs : List MapEntry}, es.length = xs.length → (∀ (i : Nat) (k v : AV), es[i]? = some (k, v) → ∃ x : MapEntry, xs[i]? = some x ∧ VRel ι k x.key ∧ VRel ι v x.val) → EL ι es xs
 | [], xs, hl, _ => List.length_eq_zero_iff.1 hl.symm
 | e :: es, [], hl, _ => by simp at hl
 | e :: es, x :: xs, hl, h => by
   obtain ⟨y, hy, h1, h2⟩ := h 0 e.1 e.2 rfl
   simp at hy; subst hy
   exact ⟨x, xs, rfl, h1, h2, EL.of (by simpa using hl) fun i k v hi => by
    obtain ⟨y, hy, q⟩ := h (i + 1) k v (by simpa using hi)
    exact ⟨y, by simpa using hy, q⟩⟩
def FRel (ι : Inj) (kk : Option (List Nat)) (key : AV) (es : List (AV × AV)) (xs : List MapEntry) (o : Nat) : Option (Nat × AV) → Option (Nat × Value) → Prop
 | none, r => r = none
 | some (i, v), r => ∃ (j : Nat) (x : MapEntry) (k : AV), r = some (i, x.val) ∧ i = o + j ∧ es[j]? = some (k, v) ∧ xs[j]? = some x ∧ VRel ι v x.val ∧ kq kk key k = some true
theorem FRel.up {kk : Option (List Nat)} {key : AV} {e : AV × AV} {es : List (AV × AV)} {x : MapEntry} {xs : List MapEntry} {o : Nat} {r : Option (Nat × AV)} {r' : Option (Nat × Value)} (h : FRel ι kk key es xs (o + 1) r r') : FRel ι kk key (e :: es) (x :: xs) o r r' := by
 cases r with
 | none => exact h
 | some p =>
   obtain ⟨i, v⟩ := p
   obtain ⟨j, y, k, h1, h2, h3, h4, h5⟩ := h
   exact ⟨j + 1, y, k, h1, by omega, by simpa using h3, by simpa using h4, h5⟩
theorem findNow_run {k0 : IntKind} {key : AV} {u : Value} (ru : VRel ι key u) (hq : kq none key key = some true) : ∀ {es : List (AV × AV)} {xs : List MapEntry} {o : Nat} {r : Option (Nat × AV)}, EL ι es xs → mfind none key es o = some r →
 ∃ r', Instr.findNow (.int k0) u xs o = some r' ∧ FRel ι none key es xs o r r'
 | [], xs, o, r, el, hf => by
   simp only [EL] at el
   subst el
   simp only [mfind, Option.some.injEq] at hf
   subst hf
   exact ⟨none, rfl, rfl⟩
 | e :: es, xs, o, r, el, hf => by
   obtain ⟨x, xs, rfl, h1, h2, h3⟩ := el
   cases key <;> simp only [kq, reduceCtorEq] at hq
   rename_i k n
   have ru' := ru
   simp only [VRel] at ru
   simp only [mfind] at hf
   obtain ⟨e1, e2⟩ := e
   have now : ∀ b, kq none (.i k n) e1 = some b → Instr.sameNow (.int k0) u x.key = some b := by
    intro b hb
    cases e1 <;> simp only [kq, reduceCtorEq] at hb
    rename_i k' m
    split at hb
    ·rename_i hk; subst hk
     cases hb
     simp only [VRel] at h1
     rw [ru, h1]
     simp [Instr.sameNow]; rfl
    ·cases hb
   cases hb : kq none (.i k n) e1 with
   | none => simp only [hb, reduceCtorEq] at hf
   | some b =>
     have hn := now b hb
     simp only [hb] at hf
     cases b with
     | true =>
       simp only [Option.some.injEq] at hf
       subst hf
       exact ⟨some (o, x.val), by simp [Instr.findNow, hn], 0, x, e1, rfl, by omega, rfl, rfl, h2, hb⟩
     | false =>
       obtain ⟨r', q1, q2⟩ := findNow_run (k0 := k0) ru' (by simp [kq]) h3 hf
       exact ⟨r', by simp [Instr.findNow, hn, q1], q2.up⟩
theorem findAsk_run {kt : TypeId} {ks : List Nat} (ok : KeyOk P kt (some ks)) {key : AV} {u : Value} (ru : VRel ι key u) (w : World) : ∀ {es : List (AV × AV)} {xs : List MapEntry} {o : Nat} {r : Option (Nat × AV)}, EL ι es xs → mfind (some ks) key es o = some r →
 ∃ r', (Instr.findAsking kt u xs o).run P w = .ok r' w ∧ FRel ι (some ks) key es xs o r r'
 | [], xs, o, r, el, hf => by
   simp only [EL] at el
   subst el
   simp only [mfind, Option.some.injEq] at hf
   subst hf
   exact ⟨none, by simp [Instr.findAsking], rfl⟩
 | e :: es, xs, o, r, el, hf => by
   obtain ⟨x, xs, rfl, h1, h2, h3⟩ := el
   simp only [mfind] at hf
   obtain ⟨e1, e2⟩ := e
   obtain ⟨hfl, hag, _, _⟩ := ok.ag ks rfl
   have ask : ∀ b, kq (some ks) key e1 = some b → (Op.equal kt u x.key).run P w = .ok b w := by
    intro b hb
    unfold kq at hb
    split at hb
    ·rename_i hh; cases hh
    ·rename_i ks' cs ds hk
     cases hk
     simp only [VRel] at ru h1
     exact eq_flat (P := P) (ι := ι) 8 hfl 10000 (by omega) hb (fun p _ hq => by simp [hag] at hq) (fun p _ hq => by simp [hag] at hq) (fun _ => ru) (fun _ => h1) w
    ·cases hb
   cases hb : kq (some ks) key e1 with
   | none => simp only [hb, reduceCtorEq] at hf
   | some b =>
     have hn := ask b hb
     simp only [hb] at hf
     cases b with
     | true =>
       simp only [Option.some.injEq] at hf
       subst hf
       exact ⟨some (o, x.val), by simp [Instr.findAsking, hn], 0, x, e1, rfl, by omega, rfl, rfl, h2, hb⟩
     | false =>
       obtain ⟨r', q1, q2⟩ := findAsk_run ok ru w h3 hf
       exact ⟨r', by simp [Instr.findAsking, hn, q1], q2.up⟩
theorem find_run {kt : TypeId} {kk : Option (List Nat)} (ok : KeyOk P kt kk) {key : AV} {u : Value} (ru : VRel ι key u) (hq : kq kk key key = some true) (w : World) {es : List (AV × AV)} {xs : List MapEntry} {r : Option (Nat × AV)} (el : EL ι es xs) (hf : mfind kk key es 0 = some r) :
 ∃ r', (Instr.findKey kt u xs).run P w = .ok r' w ∧ FRel ι kk key es xs 0 r r' := by
 cases kk with
 | none =>
   obtain ⟨k, hu⟩ := ok.sc rfl
   obtain ⟨r', h1, h2⟩ := findNow_run (k0 := k) ru hq el hf
   exact ⟨r', by simp [Instr.findKey, und_run hu, h1], h2⟩
 | some ks =>
   obtain ⟨r', h1, h2⟩ := findAsk_run ok ru w el hf
   exact ⟨r', by rw [run_findKey_eq w (ok.ag ks rfl).2.2.2]; exact h1, h2⟩
theorem map_of (rw' : WRel ι h w) {t : Nat} {es : List (AV × AV)} (hm : h.m t = some (.map es)) : ∃ l xs ck, ι t = some l ∧ w.heap[l.b]? = some (.map xs ck) ∧ EL ι es xs.toList := by
 have hb := (rw'.blk t _ hm).2
 simp only [BRel] at hb
 obtain ⟨l, xs, ck, h1, h2, h3, h4⟩ := hb
 exact ⟨l, xs, ck, h1, h2, EL.of (by simpa using h3) fun i k v hi => by simpa using h4 i k v hi⟩
theorem zeroV_run {t : TypeId} {z : AV} (hz : zeroV P t = some z) (w : World) : ∃ v, (zeroValue t).run P w = .ok v w ∧ VRel ι z v := by
 unfold zeroV at hz
 simp only [Option.bind_eq_bind, Option.bind_eq_some_iff] at hz
 obtain ⟨i, hi, v, hv, hx⟩ := hz
 exact ⟨v, by simp [zeroValue, typeInfo, hi, hv], absV_sound hx⟩
theorem sound_mlk (ra : ARel N dfs ι st a) (rw' : WRel ι h w) {o : Oper} {t kt e : TypeId} {x i : Operand} {ok : Bool} (ho : o.op = .lookup t x i ok) (ht : P.underlying t = some (.map kt e)) {kk : Option (List Nat)} (hk : keyK P kt = some kk) {z : AV} (hz : zeroV P e = some z)
 {ax ai : AX} (hx : toX x = some ax) (hi : toX i = some ai) : Sound P ι st a h w o (.mlk kk z ok ax ai) := by
 intro v hv
 have rx := toX_sound ra hx
 have ri := toX_sound ra hi
 have K := keyK_ok hk
 simp only [AOp.ev] at hv
 obtain ⟨zv, hzr, hzv⟩ := zeroV_run (ι := ι) hz w
 split at hv
 ·rename_i hn
  rw [hn] at rx
  simp only [VRel] at rx
  split at hv
  ·rename_i hq
   cases hv
   have hc := check_run K hq ri true w
   have hfn : (Instr.findKey kt (a.eval i) []).run P w = .ok none w := by
    obtain ⟨r', h1, h2⟩ := find_run K ri hq w (es := []) (xs := []) rfl (r := none) (by simp [mfind])
    simp only [FRel] at h2
    subst h2; exact h1
   refine ⟨if ok then .tuple #[zv, .bool false] else zv, ?_, ?_⟩
   ·simp [execOp, ho, rx, Instr.lookup, und_run ht, hc, hfn, hzr, Result.andThen]
   ·cases ok
    ·exact hzv
    ·simp only [if_true, VRel, VRels]; exact ⟨_, rfl, _, _, rfl, hzv, _, _, rfl, rfl, rfl⟩
  ·cases hv
 ·rename_i tk htk
  rw [htk] at rx
  simp only [VRel] at rx
  obtain ⟨l, hl, hp⟩ := rx
  split at hv
  ·rename_i es hm
   obtain ⟨l', xs, ck, h1, h2, h3⟩ := map_of rw' hm
   rw [hl] at h1; cases h1
   split at hv
   ·rename_i hq
    have hc := check_run K hq ri xs.isEmpty w
    split at hv
    ·rename_i j v' hf
     cases hv
     obtain ⟨r', q1, q2⟩ := find_run K ri hq w h3 hf
     obtain ⟨j', x', k', rfl, _, e3, e4, e5, _⟩ := q2
     refine ⟨if ok then .tuple #[x'.val, .bool true] else x'.val, ?_, ?_⟩
     ·simp [execOp, ho, hp, Instr.lookup, und_run ht, MapKept.run_getObj_map h2, hc, q1, Result.andThen]
     ·cases ok
      ·exact e5
      ·simp only [if_true, VRel, VRels]; exact ⟨_, rfl, _, _, rfl, e5, _, _, rfl, rfl, rfl⟩
    ·rename_i hf
     cases hv
     obtain ⟨r', q1, q2⟩ := find_run K ri hq w h3 hf
     simp only [FRel] at q2
     subst q2
     refine ⟨if ok then .tuple #[zv, .bool false] else zv, ?_, ?_⟩
     ·simp [execOp, ho, hp, Instr.lookup, und_run ht, MapKept.run_getObj_map h2, hc, q1, hzr, Result.andThen]
     ·cases ok
      ·exact hzv
      ·simp only [if_true, VRel, VRels]; exact ⟨_, rfl, _, _, rfl, hzv, _, _, rfl, rfl, rfl⟩
    ·cases hv
   ·cases hv
  ·cases hv
 ·cases hv
theorem sound_mln (ra : ARel N dfs ι st a) (rw' : WRel ι h w) {o : Oper} {c : Call} (ho : o.op = .call c) (hc : c.callee = .builtin .len) {t : TypeId} {x : Operand} (ht : c.argTypes[0]? = some t) (hx' : c.args.toList = [x]) {k e : TypeId} (hs : P.underlying t = some (.map k e))
 {ax : AX} (hx : toX x = some ax) : Sound P ι st a h w o (.mln ax) := by
 intro v hv
 simp only [AOp.ev] at hv
 have rx := toX_sound ra hx
 have harg : c.args = #[x] := by rw [← Array.toArray_toList (xs := c.args), hx']
 split at hv
 ·rename_i hn
  rw [hn] at rx
  simp only [VRel] at rx
  cases hv
  exact ⟨.int .i64 0, by simp [execOp, ho, resolve, hc, invoke, builtin, Builtin.len_, ht, harg, rx, und_run hs, goInt], by simp only [VRel]⟩
 ·rename_i tk htk
  rw [htk] at rx
  simp only [VRel] at rx
  obtain ⟨l, hl, hp⟩ := rx
  split at hv
  ·rename_i es hm
   cases hv
   obtain ⟨l', xs, ck, h1, h2, h3⟩ := map_of rw' hm
   rw [hl] at h1; cases h1
   have hlen := h3.length
   refine ⟨.int .i64 xs.size, by simp [execOp, ho, resolve, hc, invoke, builtin, Builtin.len_, ht, harg, hp, und_run hs, goInt, MapKept.run_getObj_map h2, Result.andThen], ?_⟩
   simp only [VRel]
   rw [hlen]; simp
  ·cases hv
 ·cases hv
def mapWorld (w : World) (b : Nat) (o : Obj) : World := { w with heap := w.heap.setIfInBounds b o }
theorem EL.set {es : List (AV × AV)} {xs : List MapEntry} {j : Nat} {k v : AV} {y : MapEntry} (el : EL ι es xs) (hk : VRel ι k y.key) (hv : VRel ι v y.val) : EL ι (es.set j (k, v)) (xs.set j y) := by
 refine EL.of (by simp [el.length]) fun i k' v' hi => ?_
 rw [List.getElem?_set] at hi ⊢
 by_cases e : j = i
 ·subst e
  simp only [if_true] at hi ⊢
  split at hi
  ·rename_i hlt
   cases hi
   rw [if_pos (by rw [← el.length]; exact hlt)]
   exact ⟨y, rfl, hk, hv⟩
  ·cases hi
 ·simp only [e, if_false] at hi ⊢
  exact el.get hi
theorem EL.snoc {es : List (AV × AV)} {xs : List MapEntry} {k v : AV} {y : MapEntry} (el : EL ι es xs) (hk : VRel ι k y.key) (hv : VRel ι v y.val) : EL ι (es ++ [(k, v)]) (xs ++ [y]) := by
 refine EL.of (by simp [el.length]) fun i k' v' hi => ?_
 rw [List.getElem?_append] at hi ⊢
 rw [← el.length]
 split at hi
 ·rename_i hlt; rw [if_pos hlt]; exact el.get hi
 ·rename_i hlt
  rw [if_neg hlt]
  cases hn : i - es.length with
  | zero => rw [hn] at hi; simp at hi; obtain ⟨rfl, rfl⟩ := hi; exact ⟨y, rfl, hk, hv⟩
  | succ n => rw [hn] at hi; simp at hi
theorem mup_run (ra : ARel N dfs ι st a) (rw' : WRel ι h w) {o : Oper} {t kt e : TypeId} {x k v : Operand} (ho : o.op = .mapUpdate t x k v ∨ o.op = .insert t x k v) (ht : P.underlying t = some (.map kt e)) {kk : Option (List Nat)} (hk : keyK P kt = some kk)
 {ax ak av : AX} (hx : toX x = some ax) (hkk : toX k = some ak) (hvv : toX v = some av) {h' : AH} (hc : h.mup kk (ax.val st) (ak.val st) (av.val st) = some h') :
 ∃ tk l es es' xs ck, h.m tk = some (.map es) ∧ ι tk = some l ∧ h' = h.set tk (.map es') ∧ (execOp a.eval o).run P w = .ok .skip (mapWorld w l.b (.map xs ck)) ∧ EL ι es' xs.toList ∧ l.b < w.heap.size := by
 have rx := toX_sound ra hx
 have rk := toX_sound ra hkk
 have rv := toX_sound ra hvv
 have K := keyK_ok hk
 unfold AH.mup at hc
 split at hc
 ·rename_i tk htk
  rw [htk] at rx
  simp only [VRel] at rx
  obtain ⟨l, hl, hp⟩ := rx
  split at hc
  ·rename_i es hm
   obtain ⟨l', xs, ck, h1, h2, h3⟩ := map_of rw' hm
   rw [hl] at h1; cases h1
   have hlt : l.b < w.heap.size := (Array.getElem?_eq_some_iff.1 h2).1
   split at hc
   ·rename_i hq
    simp only [Option.map_eq_some_iff] at hc
    obtain ⟨es', hput, rfl⟩ := hc
    have hck := check_run K hq rk false w
    unfold mput at hput
    split at hput
    ·rename_i j v' hf
     cases hput
     obtain ⟨r', q1, q2⟩ := find_run K rk hq w h3 hf
     obtain ⟨j', x', k', rfl, e0, e3, e4, e5, hsame⟩ := q2
     obtain rfl : j' = j := by omega
     obtain ⟨y, hy, hyk, _⟩ := h3.get e3
     have hxy : x' = y := by rw [hy] at e4; cases e4; rfl
     subst hxy
     obtain ⟨hkeq, hsb⟩ := kq_eq K hsame rk hyk
     have hxj : xs[j']? = some x' := by simpa using e4
     have hst : (Instr.keyThatStays x'.key (a.eval k)).run P w = .ok (a.eval k) w := by
      rw [← hkeq]
      simp [Instr.keyThatStays, hsb]
     have hset : ∀ o, (setObj l.b o).run P w = .ok () (mapWorld w l.b o) := fun o => MapKept.run_setObj_map o h2
     refine ⟨tk, l, es, _, xs.modify j' fun e => { e with key := a.eval k, val := a.eval v }, ck, hm, hl, rfl, ?_, ?_, hlt⟩
     ·rcases ho with ho | ho <;> simp [execOp, ho, hp, Instr.mapUpdate, und_run ht, MapKept.run_getObj_map h2, hck, q1, hxj, hst, hset, Result.andThen]
     ·have : (xs.modify j' fun e => { e with key := a.eval k, val := a.eval v }).toList = xs.toList.set j' { x' with key := a.eval k, val := a.eval v } := by
       refine List.ext_getElem? fun i => ?_
       rw [List.getElem?_set]
       simp only [Array.getElem?_toList, Array.getElem?_modify]
       by_cases e : j' = i
       ·subst e
        have hlt' : j' < xs.size := (Array.getElem?_eq_some_iff.1 hxj).1
        rw [Array.getElem?_eq_getElem hlt'] at hxj
        simp [hlt', Option.some.inj hxj]
       ·simp [e]
      rw [this]
      exact h3.set rk rv
    ·rename_i hf
     cases hput
     obtain ⟨r', q1, q2⟩ := find_run K rk hq w h3 hf
     simp only [FRel] at q2
     subst q2
     refine ⟨tk, l, es, _, xs.push { key := a.eval k, val := a.eval v, born := ck }, ck + 1, hm, hl, rfl, ?_, ?_, hlt⟩
     ·have hset : ∀ o, (setObj l.b o).run P w = .ok () (mapWorld w l.b o) := fun o => MapKept.run_setObj_map o h2
      rcases ho with ho | ho <;> simp [execOp, ho, hp, Instr.mapUpdate, und_run ht, MapKept.run_getObj_map h2, hck, q1, hset, Result.andThen]
     ·rw [Array.toList_push]
      exact h3.snoc rk rv
    ·cases hput
   ·cases hc
  ·cases hc
 ·cases hc
end
end Go.Am
set_option linter.unusedVariables false
set_option linter.unusedSimpArgs false
namespace Go.Am
variable {dfs : List Deferred}
inductive OfR (P : Program) : Op → AOp → Prop
 | move {x ax} (hx : toX x = some ax) : OfR P (.move x) (.mv ax)
 | assign {x ax} (hx : toX x = some ax) : OfR P (.assign x) (.mv ax)
 | pick {c x y ac ax ay} (hc : toX c = some ac) (hx : toX x = some ax) (hy : toX y = some ay) : OfR P (.pick c x y) (.pick ac ax ay)
 | bin {op xt yt x y b ax ay} (hb : b = true → P.underlying xt = some .bool) (hx : toX x = some ax) (hy : toX y = some ay) : OfR P (.binOp op xt x y yt) (.bin b op ax ay)
 | eqn {op xt yt x y e ax ay} (hq : op = .eql ∨ op = .neq) (hu : P.underlying xt = some (.pointer e)) (hx : toX x = some ax) (hy : toX y = some ay) : OfR P (.binOp op xt x y yt) (.eqn (op == .neq) ax ay)
 | eqa {op xt yt x y ks ax ay} (hq : op = .eql ∨ op = .neq) (hf : flatEq P 8 xt = some ks) (hag : aggOf P xt = some true) (hgd : P.eqGuardType P.depth xt = false) (hx : toX x = some ax) (hy : toX y = some ay) : OfR P (.binOp op xt x y yt) (.eqa (op == .neq) ks ax ay)
 | eqs {op xt yt x y ax ay} (hq : op = .eql ∨ op = .neq) (hx : toX x = some ax) (hy : toX y = some ay) : OfR P (.binOp op xt x y yt) (.eqs (op == .neq) ax ay)
 | str {s d x e ax} (hs : P.underlying s = some (.slice e)) (he : P.underlying e = some (.int .u8)) (hd : P.underlying d = some .string) (hx : toX x = some ax) : OfR P (.convert s d x) (.str ax)
 | cvt {s d x e e' ax} (hsd : s = d) (hs : P.underlying s = some (.slice e')) (hd : P.underlying d = some (.slice e)) (he : P.underlying e = some (.int .u8)) (hx : toX x = some ax) : OfR P (.convert s d x) (.cvt ax)
 | eqz {op xt yt x e ax} (hq : op = .eql ∨ op = .neq) (hu : P.underlying xt = some (.slice e)) (hx : toX x = some ax) : OfR P (.binOp op xt x (.const (.slice none 0 0)) yt) (.eqz (op == .neq) ax)
 | byt {s d x e ax} (hs : P.underlying s = some .string) (hd : P.underlying d = some (.slice e)) (he : P.underlying e = some (.int .u8)) (hx : toX x = some ax) : OfR P (.convert s d x) (.byt ax)
 | sl3 {t x lo hi mx e k ax al ah am} (hs : P.underlying t = some (.slice e)) (hk : szOf P e = some k) (hx : toX x = some ax) (hl : toXo lo = some al) (hh : toX hi = some ah) (hm : toX mx = some am) : OfR P (.slice t x lo (some hi) (some mx)) (.sl3 k ax al ah am)
 | neg {t x ax} (hx : toX x = some ax) : OfR P (.unOp .neg t x) (.neg ax)
 | not {t x ax} (hx : toX x = some ax) : OfR P (.unOp .not t x) (.not ax)
 | conv {s d x ks k ax} (hs : P.underlying s = some (.int ks)) (hd : P.underlying d = some (.int k)) (hx : toX x = some ax) : OfR P (.convert s d x) (.conv k ax)
 | ext {x i ax} (hx : toX x = some ax) : OfR P (.extract x i) (.ext ax i)
 | fa {s x f fs fl n ax} (hs : P.underlying s = some (.struct fs)) (hfl : fs[f]? = some fl) (hn : szOf P fl.type = some n) (h0 : n ≠ 0) (hx : toX x = some ax) : OfR P (.fieldAddr s x f) (.fa ax fl.offset)
 | fld {s x f fs fl n ax} (hs : P.underlying s = some (.struct fs)) (hfl : fs[f]? = some fl) (hn : ldOf P fl.type = some n) (hx : toX x = some ax) : OfR P (.field s x f) (.fld ax fl.offset n)
 | ia {t x i e k ax ai} (hs : P.underlying t = some (.slice e)) (hk : szOf P e = some k) (hx : toX x = some ax) (hi : toX i = some ai) : OfR P (.indexAddr t x i) (.ia k ax ai)
 | iap {t x i n e k ax ai} (hs : P.underlying t = some (.array n e)) (hk : szOf P e = some k) (hx : toX x = some ax) (hi : toX i = some ai) : OfR P (.indexAddr t x i) (.iap n k ax ai)
 | iv {t x i n e k g ax ai} (hs : P.underlying t = some (.array n e)) (hk : szOf P e = some k) (hg : aggOf P e = some g) (hk1 : g = false → k = 1) (hx : toX x = some ax) (hi : toX i = some ai) : OfR P (.index t x i) (.iv n k g ax ai)
 | sli {t x lo hi e k ax al ah} (hs : P.underlying t = some (.slice e)) (hk : szOf P e = some k) (hx : toX x = some ax) (hl : toXo lo = some al) (hh : toXo hi = some ah) : OfR P (.slice t x lo hi none) (.sli k ax al ah)
 | slp {t x lo hi n e k ax al ah} (hs : P.underlying t = some (.array n e)) (hk : szOf P e = some k) (hx : toX x = some ax) (hl : toXo lo = some al) (hh : toXo hi = some ah) : OfR P (.slice t x lo hi none) (.slp n k ax al ah)
 | nck {x ax} (hx : toX x = some ax) : OfR P (.nilCheck x) (.nck ax)
 | ld {t x n ax} (hn : ldOf P t = some n) (hx : toX x = some ax) : OfR P (.load t x) (.ld n ax)
 | bldS {t parts fs z ps} (hs : P.underlying t = some (.struct fs)) (hz : zeroOf P t = some z) (hall : ∀ fl ∈ fs.toList, (szOf P fl.type).isSome)
  (hps : parts.toList.mapM (fun (p : Nat × Operand) => do let fl ← fs[p.1]?; some (fl.offset, ← szOf P fl.type, ← toX p.2)) = some ps) : OfR P (.build t parts) (.bld z ps)
 | bldA {t parts n e z k ps} (hs : P.underlying t = some (.array n e)) (hz : zeroOf P t = some z) (hk : szOf P e = some k)
  (hps : parts.toList.mapM (fun (p : Nat × Operand) => do some (p.1 * k, k, ← toX p.2)) = some ps) : OfR P (.build t parts) (.bld z ps)
 | mkf {f x y ax ay} (hx : toXs x = some ax) (hy : toXs y = some ay) : OfR P (.makeFunc (.func f) x y) (.mkf f ax ay)
 | len {c t x e ax} (hc : c.callee = .builtin .len) (ht : c.argTypes[0]? = some t) (hx' : c.args.toList = [x]) (hs : P.underlying t = some (.slice e)) (hx : toX x = some ax) : OfR P (.call c) (.len ax)
 | mm {c x xs ax axs} (mx : Bool) (hc : c.callee = .builtin (if mx then .max else .min)) (hx' : c.args.toList = x :: xs) (hx : toX x = some ax) (hxs : xs.mapM toX = some axs) : OfR P (.call c) (.mm mx ax axs)
 | app {c t u x y e e' k b z ax ay} (hc : c.callee = .builtin .append) (hat : c.argTypes.toList = [t, u]) (har : c.args.toList = [x, y]) (ht : P.underlying t = some (.slice e)) (hu : P.underlying u = some (.slice e'))
  (hk : szOf P e = some k) (hb : (P.info? e).map (·.bytes) = some b) (hz : zeroOf P e = some z) (hzl : z.length = k) (hx : toX x = some ax) (hy : toX y = some ay) : OfR P (.call c) (.app k b ax ay)
 | call {c f af axs} (hc : c.callee = .value f) (hf : toX f = some af) (hxs : toXs c.args = some axs) : OfR P (.call c) (.call af axs)
 | box {e x ax} (hx : toX x = some ax) : OfR P (.box e x) (.box ax)
 | alloc {e z} (hz : zeroOf P e = some z) : OfR P (.alloc e) (.alloc z)
 | bsl {t n parts e z k ps} (hs : P.underlying t = some (.slice e)) (hz : zeroOf P e = some z) (hk : szOf P e = some k) (hk0 : k ≠ 0) (hzk : z.length = k) (hn : n * k ≤ 16777216)
  (hps : parts.toList.mapM (fun (p : Nat × Operand) => do some (p.1 * k, k, ← toX p.2)) = some ps) : OfR P (.buildSlice t n parts) (.bsl k (List.replicate n z).flatten ps)
 | mks {t x y e z k b ax ay} (hs : P.underlying t = some (.slice e)) (hz : zeroOf P e = some z) (hk : szOf P e = some k) (hk0 : k ≠ 0) (hzk : z.length = k) (hb : (P.info? e).map (·.bytes) = some b) (hx : toX x = some ax) (hy : toX y = some ay) :
  OfR P (.makeSlice t x y) (.mks k b z ax ay)
 | mkm {t} : OfR P (.makeMap t none) .mkm
 | mlk {t kt e x i ok kk z ax ai} (ht : P.underlying t = some (.map kt e)) (hk : keyK P kt = some kk) (hz : zeroV P e = some z) (hx : toX x = some ax) (hi : toX i = some ai) : OfR P (.lookup t x i ok) (.mlk kk z ok ax ai)
 | mup {t kt e x k v kk ax ak av} (ht : P.underlying t = some (.map kt e)) (hk : keyK P kt = some kk) (hx : toX x = some ax) (hi : toX k = some ak) (hv : toX v = some av) : OfR P (.mapUpdate t x k v) (.mup kk ax ak av)
 | ins {t kt e x k v kk ax ak av} (ht : P.underlying t = some (.map kt e)) (hk : keyK P kt = some kk) (hx : toX x = some ax) (hi : toX k = some ak) (hv : toX v = some av) : OfR P (.insert t x k v) (.mup kk ax ak av)
 | mln {c t x kt e ax} (hc : c.callee = .builtin .len) (ht : c.argTypes[0]? = some t) (hx' : c.args.toList = [x]) (hs : P.underlying t = some (.map kt e)) (hx : toX x = some ax) : OfR P (.call c) (.mln ax)
 | sto {t x v n ax av} (hn : ldOf P t = some n) (hx : toX x = some ax) (hv : toX v = some av) : OfR P (.store t x v) (.sto n ax av)
theorem of_R {P : Program} {op : Op} {ao : AOp} (hao : AOp.of P op = some ao) : OfR P op ao := by
 cases op <;> simp only [AOp.of, reduceCtorEq] at hao
 case move x =>
  simp only [Option.bind_eq_bind, Option.bind_eq_some_iff, Option.some.injEq] at hao
  obtain ⟨ax, hx, rfl⟩ := hao
  exact .move hx
 case assign x =>
  simp only [Option.bind_eq_bind, Option.bind_eq_some_iff, Option.some.injEq] at hao
  obtain ⟨ax, hx, rfl⟩ := hao
  exact .assign hx
 case pick c x y =>
  simp only [Option.bind_eq_bind, Option.bind_eq_some_iff, Option.some.injEq] at hao
  obtain ⟨ac, hc, ax, hx, ay, hy, rfl⟩ := hao
  exact .pick hc hx hy
 case binOp op xt x y yt =>
  have plain : ∀ {b : Bool} {ao : AOp}, (b = true → P.underlying xt = some .bool) → (do some (AOp.bin b op (← toX x) (← toX y))) = some ao → OfR P (.binOp op xt x y yt) ao := by
   intro b ao hb hq
   simp only [Option.bind_eq_bind, Option.bind_eq_some_iff, Option.some.injEq] at hq
   obtain ⟨ax, hx, ay, hy, rfl⟩ := hq
   exact .bin hb hx hy
  have eqs : (op = .eql ∨ op = .neq) → (match P.underlying xt with
   | some .bool => do some (AOp.bin true op (← toX x) (← toX y))
   | some (.int _) => do some (AOp.bin false op (← toX x) (← toX y))
   | some (.pointer e) => do if (← szOf P e) = 0 then none else some (AOp.eqn (op == .neq) (← toX x) (← toX y))
   | some .string => do some (.eqs (op == .neq) (← toX x) (← toX y))
   | some (.struct _) | some (.array _ _) => do
     let ks ← flatEq P 8 xt
     if P.eqGuardType P.depth xt = false then some (.eqa (op == .neq) ks (← toX x) (← toX y)) else none
   | some (.slice _) => do if nilSl y = true then some (.eqz (op == .neq) (← toX x)) else none
   | _ => none) = some ao → OfR P (.binOp op xt x y yt) ao := by
   intro hq hm
   split at hm
   ·rename_i hu; exact plain (fun _ => hu) hm
   ·exact plain (fun hf => by cases hf) hm
   ·rename_i e hu
    simp only [Option.bind_eq_bind, Option.bind_eq_some_iff] at hm
    obtain ⟨n, hn, hm⟩ := hm
    split at hm
    ·cases hm
    ·simp only [Option.bind_eq_some_iff, Option.some.injEq] at hm
     obtain ⟨ax, hx, ay, hy, rfl⟩ := hm
     exact .eqn hq hu hx hy
   ·simp only [Option.bind_eq_bind, Option.bind_eq_some_iff, Option.some.injEq] at hm
    obtain ⟨ax, hx, ay, hy, rfl⟩ := hm
    exact .eqs hq hx hy
   ·rename_i fs hu
    simp only [Option.bind_eq_bind, Option.bind_eq_some_iff] at hm
    obtain ⟨ks, hf, hm⟩ := hm
    split at hm
    ·rename_i hgd
     simp only [Option.bind_eq_some_iff, Option.some.injEq] at hm
     obtain ⟨ax, hx, ay, hy, rfl⟩ := hm
     exact .eqa hq hf (by simp [aggOf, hu]) hgd hx hy
    ·cases hm
   ·rename_i n e hu
    simp only [Option.bind_eq_bind, Option.bind_eq_some_iff] at hm
    obtain ⟨ks, hf, hm⟩ := hm
    split at hm
    ·rename_i hgd
     simp only [Option.bind_eq_some_iff, Option.some.injEq] at hm
     obtain ⟨ax, hx, ay, hy, rfl⟩ := hm
     exact .eqa hq hf (by simp [aggOf, hu]) hgd hx hy
    ·cases hm
   ·rename_i e hu
    split at hm
    ·rename_i hy
     simp only [Option.bind_eq_bind, Option.bind_eq_some_iff, Option.some.injEq] at hm
     obtain ⟨ax, hx, rfl⟩ := hm
     rw [nilSl_eq hy]
     exact .eqz hq hu hx
    ·cases hm
   ·cases hm
  cases op
  case eql => exact eqs (.inl rfl) hao
  case neq => exact eqs (.inr rfl) hao
  all_goals exact plain (fun hf => by cases hf) hao
 case unOp op t x =>
  cases op <;> simp only [Option.bind_eq_bind, Option.bind_eq_some_iff, Option.some.injEq, reduceCtorEq] at hao
  ·obtain ⟨ax, hx, rfl⟩ := hao; exact .neg hx
  ·obtain ⟨ax, hx, rfl⟩ := hao; exact .not hx
 case convert s d x =>
  split at hao
  ·rename_i ks k hs hd
   simp only [Option.bind_eq_bind, Option.bind_eq_some_iff, Option.some.injEq] at hao
   obtain ⟨ax, hx, rfl⟩ := hao
   exact .conv hs hd hx
  ·rename_i e hs hd
   split at hao
   ·rename_i he
    simp only [Option.bind_eq_bind, Option.bind_eq_some_iff, Option.some.injEq] at hao
    obtain ⟨ax, hx, rfl⟩ := hao
    exact .str hs he hd hx
   ·cases hao
  ·rename_i e hs hd
   split at hao
   ·rename_i he
    simp only [Option.bind_eq_bind, Option.bind_eq_some_iff, Option.some.injEq] at hao
    obtain ⟨ax, hx, rfl⟩ := hao
    exact .byt hs hd he hx
   ·cases hao
  ·rename_i e' e hs hd
   split at hao
   ·rename_i he
    simp only [Option.bind_eq_bind] at hao
    split at hao
    ·rename_i hsd
     simp only [Option.bind_eq_some_iff, Option.some.injEq] at hao
     obtain ⟨ax, hx, rfl⟩ := hao
     exact .cvt (by simpa using hsd) hs hd he hx
    ·cases hao
   ·cases hao
  ·cases hao
 case extract t i =>
  simp only [Option.bind_eq_bind, Option.bind_eq_some_iff, Option.some.injEq] at hao
  obtain ⟨ax, hx, rfl⟩ := hao
  exact .ext hx
 case fieldAddr s x f =>
  split at hao
  ·rename_i fs hs
   split at hao
   ·rename_i fl hfl
    simp only [Option.bind_eq_bind, Option.bind_eq_some_iff] at hao
    obtain ⟨n, hn, hao⟩ := hao
    split at hao
    ·cases hao
    ·rename_i h0
     simp only [Option.bind_eq_some_iff, Option.some.injEq] at hao
     obtain ⟨ax, hx, rfl⟩ := hao
     exact .fa hs hfl hn h0 hx
   ·cases hao
  ·cases hao
 case field s x f =>
  split at hao
  ·rename_i fs hs
   split at hao
   ·rename_i fl hfl
    simp only [Option.bind_eq_bind, Option.bind_eq_some_iff, Option.some.injEq] at hao
    obtain ⟨ax, hx, n, hn, rfl⟩ := hao
    exact .fld hs hfl hn hx
   ·cases hao
  ·cases hao
 case indexAddr t x i =>
  split at hao
  ·rename_i e hs
   simp only [Option.bind_eq_bind, Option.bind_eq_some_iff, Option.some.injEq] at hao
   obtain ⟨k, hk, ax, hx, ai, hi, rfl⟩ := hao
   exact .ia hs hk hx hi
  ·rename_i n e hs
   simp only [Option.bind_eq_bind, Option.bind_eq_some_iff, Option.some.injEq] at hao
   obtain ⟨k, hk, ax, hx, ai, hi, rfl⟩ := hao
   exact .iap hs hk hx hi
  ·cases hao
 case index t x i =>
  split at hao
  ·rename_i n e hs
   simp only [Option.bind_eq_bind, Option.bind_eq_some_iff] at hao
   obtain ⟨g, hg, k, hk, hao⟩ := hao
   split at hao
   ·cases hao
   ·rename_i hc
    simp only [Option.bind_eq_some_iff, Option.some.injEq] at hao
    obtain ⟨ax, hx, ai, hi, rfl⟩ := hao
    exact .iv hs hk hg (fun hg0 => Classical.byContradiction fun hk1 => hc ⟨hg0, hk1⟩) hx hi
  ·cases hao
 case slice t x lo hi mx =>
  cases mx with
  | some m =>
    cases hi with
    | none => simp at hao
    | some hi =>
    simp only at hao
    split at hao
    ·rename_i e hs
     simp only [Option.bind_eq_bind, Option.bind_eq_some_iff, Option.some.injEq] at hao
     obtain ⟨k, hk, ax, hx, al, hl, ah, hh, am, hm, rfl⟩ := hao
     exact .sl3 hs hk hx hl hh hm
    ·cases hao
  | none =>
    simp only at hao
    split at hao
    ·rename_i e hs
     simp only [Option.bind_eq_bind, Option.bind_eq_some_iff, Option.some.injEq] at hao
     obtain ⟨k, hk, ax, hx, al, hl, ah, hh, rfl⟩ := hao
     exact .sli hs hk hx hl hh
    ·rename_i n e hs
     simp only [Option.bind_eq_bind, Option.bind_eq_some_iff, Option.some.injEq] at hao
     obtain ⟨k, hk, ax, hx, al, hl, ah, hh, rfl⟩ := hao
     exact .slp hs hk hx hl hh
    ·cases hao
 case nilCheck x =>
  simp only [Option.bind_eq_bind, Option.bind_eq_some_iff, Option.some.injEq] at hao
  obtain ⟨ax, hx, rfl⟩ := hao
  exact .nck hx
 case load t x =>
  simp only [Option.bind_eq_bind, Option.bind_eq_some_iff, Option.some.injEq] at hao
  obtain ⟨n, hn, ax, hx, rfl⟩ := hao
  exact .ld hn hx
 case build t parts =>
  split at hao
  ·rename_i fs hs
   simp only [Option.bind_eq_bind, Option.bind_eq_some_iff] at hao
   obtain ⟨z, hz, ps, hps, hao⟩ := hao
   split at hao
   ·rename_i hall
    cases hao
    exact .bldS hs hz (fun fl hfl => List.all_eq_true.1 hall fl hfl) hps
   ·cases hao
  ·rename_i n e hs
   simp only [Option.bind_eq_bind, Option.bind_eq_some_iff, Option.some.injEq] at hao
   obtain ⟨z, hz, k, hk, ps, hps, rfl⟩ := hao
   exact .bldA hs hz hk hps
  ·cases hao
 case makeMap t r =>
  cases r <;> simp only [Option.some.injEq, reduceCtorEq] at hao
  subst hao
  exact .mkm
 case lookup t x i ok =>
  split at hao
  ·rename_i k e hs
   simp only [Option.bind_eq_bind, Option.bind_eq_some_iff, Option.some.injEq] at hao
   obtain ⟨kk, hk, z, hz, ax, hx, ai, hi, rfl⟩ := hao
   exact .mlk hs hk hz hx hi
  ·cases hao
 case mapUpdate t m k x =>
  split at hao
  ·rename_i kt e hs
   simp only [Option.bind_eq_bind, Option.bind_eq_some_iff, Option.some.injEq] at hao
   obtain ⟨kk, hk, ax, hx, ai, hi, av, hv, rfl⟩ := hao
   exact .mup hs hk hx hi hv
  ·cases hao
 case insert t m k x =>
  split at hao
  ·rename_i kt e hs
   simp only [Option.bind_eq_bind, Option.bind_eq_some_iff, Option.some.injEq] at hao
   obtain ⟨kk, hk, ax, hx, ai, hi, av, hv, rfl⟩ := hao
   exact .ins hs hk hx hi hv
  ·cases hao
 case makeFunc fn x y =>
  cases fn <;> simp only [Option.bind_eq_bind, Option.bind_eq_some_iff, Option.some.injEq, reduceCtorEq] at hao
  obtain ⟨ax, hx, ay, hy, rfl⟩ := hao
  exact .mkf hx hy
 case call c =>
  unfold AOp.ofCall at hao
  split at hao
  ·rename_i f hc
   simp only [Option.bind_eq_bind, Option.bind_eq_some_iff, Option.some.injEq] at hao
   obtain ⟨_, hf, _, hxs, rfl⟩ := hao
   exact .call hc hf hxs
  ·rename_i hc
   split at hao
   ·rename_i t x ht hx'
    split at hao
    ·rename_i e hs
     simp only [Option.bind_eq_bind, Option.bind_eq_some_iff, Option.some.injEq] at hao
     obtain ⟨ax, hx, rfl⟩ := hao
     exact .len hc ht hx' hs hx
    ·rename_i k e hs
     simp only [Option.bind_eq_bind, Option.bind_eq_some_iff, Option.some.injEq] at hao
     obtain ⟨ax, hx, rfl⟩ := hao
     exact .mln hc ht hx' hs hx
    ·cases hao
   ·cases hao
  ·rename_i hc
   split at hao
   ·rename_i x xs hx'
    simp only [Option.bind_eq_bind, Option.bind_eq_some_iff, Option.some.injEq] at hao
    obtain ⟨ax, hx, axs, hxs, rfl⟩ := hao
    exact .mm false hc hx' hx hxs
   ·cases hao
  ·rename_i hc
   split at hao
   ·rename_i x xs hx'
    simp only [Option.bind_eq_bind, Option.bind_eq_some_iff, Option.some.injEq] at hao
    obtain ⟨ax, hx, axs, hxs, rfl⟩ := hao
    exact .mm true hc hx' hx hxs
   ·cases hao
  ·rename_i hc
   split at hao
   ·rename_i t u x y hat har
    split at hao
    ·rename_i e e' ht hu
     simp only [Option.bind_eq_bind, Option.bind_eq_some_iff] at hao
     obtain ⟨z, hz, k, hk, hao⟩ := hao
     split at hao
     ·cases hao
     ·rename_i hzl
      simp only [Option.bind_eq_some_iff, Option.some.injEq] at hao
      obtain ⟨b, hb, ax, hx, ay, hy, rfl⟩ := hao
      exact .app hc hat har ht hu hk hb hz (Classical.not_not.1 hzl) hx hy
    ·cases hao
   ·cases hao
  ·cases hao
 case alloc e =>
  simp only [Option.bind_eq_bind, Option.bind_eq_some_iff, Option.some.injEq] at hao
  obtain ⟨_, hz, rfl⟩ := hao
  exact .alloc hz
 case box e x =>
  simp only [Option.bind_eq_bind, Option.bind_eq_some_iff, Option.some.injEq] at hao
  obtain ⟨_, hx, rfl⟩ := hao
  exact .box hx
 case store t x y =>
  simp only [Option.bind_eq_bind, Option.bind_eq_some_iff, Option.some.injEq] at hao
  obtain ⟨_, hn, _, hx, _, hv, rfl⟩ := hao
  exact .sto hn hx hv
 case buildSlice t n ps =>
  split at hao
  ·rename_i e hs
   simp only [Option.bind_eq_bind, Option.bind_eq_some_iff] at hao
   obtain ⟨k, hk, z, hz, ps', hps, hao⟩ := hao
   split at hao
   ·rename_i hc
    cases hao
    exact .bsl hs hz hk hc.1 hc.2.1 hc.2.2 hps
   ·cases hao
  ·cases hao
 case makeSlice t l c =>
  split at hao
  ·rename_i e hs
   simp only [Option.bind_eq_bind, Option.bind_eq_some_iff] at hao
   obtain ⟨k, hk, z, hz, b, hb, hao⟩ := hao
   split at hao
   ·rename_i hc
    simp only [Option.bind_eq_some_iff, Option.some.injEq] at hao
    obtain ⟨ax, hx, ay, hy, rfl⟩ := hao
    exact .mks hs hz hk hc.1 hc.2 hb hx hy
   ·cases hao
  ·cases hao
section
variable {P : Program} {N : Nat} {ι : Inj} {st : St} {a : Act} {h : AH} {w : World}
theorem sound_all (ra : ARel N dfs ι st a) (rw' : WRel ι h w) {o : Oper} {ao : AOp} (hao : OfR P o.op ao) : Sound P ι st a h w o ao := by
 generalize hop : o.op = op at hao
 cases hao with
 | move hx => exact sound_mv ra (.inl hop) hx
 | assign hx => exact sound_mv ra (.inr hop) hx
 | pick hc hx hy => exact sound_pick ra hop hc hx hy
 | bin hb hx hy => exact sound_bin ra hop hx hy hb
 | eqn hq hu hx hy => exact sound_eqn ra hop hq hu hx hy
 | eqa hq hf hag hgd hx hy => exact sound_eqa ra hop hq hf hag hgd hx hy
 | eqs hq hx hy => exact sound_eqs ra hop hq hx hy
 | str hs he hd hx => exact sound_str ra rw' hop hs he hd hx
 | sl3 hs hk hx hl hh hm => exact sound_sl3 ra hop hs hk hx hl hh hm
 | neg hx => exact sound_neg ra hop hx
 | not hx => exact sound_not ra hop hx
 | conv hs hd hx => exact sound_conv ra hop hs hd hx
 | ext hx => exact sound_ext ra hop hx
 | fa hs hfl hn h0 hx => exact sound_fa ra hop hs hfl hn h0 hx
 | fld hs hfl hn hx => exact sound_fld ra hop hs hfl hn hx
 | ia hs hk hx hi => exact sound_ia ra hop hs hk hx hi
 | iap hs hk hx hi => exact sound_iap ra hop hs hk hx hi
 | iv hs hk hg hk1 hx hi => exact sound_iv ra hop hs hk hg hk1 hx hi
 | sli hs hk hx hl hh => exact sound_sli ra hop hs hk hx hl hh
 | slp hs hk hx hl hh => exact sound_slp ra hop hs hk hx hl hh
 | nck hx => exact sound_nck ra hop hx
 | ld hn hx => exact sound_ld ra rw' hop hn hx
 | bldS hs hz hall hps => exact sound_bld_struct ra hop hs hz hall hps
 | bldA hs hz hk hps => exact sound_bld_array ra hop hs hz hk hps
 | mkf hx hy => exact sound_mkf ra hop hx hy
 | len hc ht hx' hs hx => exact sound_len ra hop hc ht hx' hs hx
 | mm mx hc hx' hx hxs => exact sound_mm ra hop hc hx' hx hxs
 | mlk ht hk hz hx hi => exact sound_mlk ra rw' hop ht hk hz hx hi
 | mln hc ht hx' hs hx => exact sound_mln ra rw' hop hc ht hx' hs hx
 | _ => intro v hv; simp [AOp.ev] at hv
theorem soundAl_all (ra : ARel N dfs ι st a) {o : Oper} {ao : AOp} (hao : OfR P o.op ao) : SoundAl P ι st a w o ao := by
 generalize hop : o.op = op at hao
 cases hao with
 | box hx => exact sound_box ra hop hx
 | alloc hz => exact sound_alloc hop hz
 | bsl hs hz hk hk0 hzk hn hps => exact sound_bsl ra hop hs hz hk hk0 hzk hn hps
 | mks hs hz hk hk0 hzk hb hx hy => exact sound_mks ra hop hs hz hk hk0 hzk hb hx hy
 | _ => intro tok v cs hv; simp [AOp.al] at hv
end
end Go.Am
set_option linter.unusedVariables false
set_option linter.unusedSimpArgs false
namespace Go.Am
variable {dfs : List Deferred}
structure ACalls (P : Program) (f : Nat) (args : List AV) (h : AH) (R : AV → AH → Prop) : Prop where
 ex : ∃ fn, P.funcs[f]? = some fn ∧ (fn.name == "runtime.NumGoroutine") = false ∧ fn.body.isNone = false
 run : ∀ (ι : Inj) (w : World) (vs : Array Value), WRel ι h w → VRels ι args vs.toList →
  Calls P f vs w fun e w' => ∃ v r h' ι', e = .returned v ∧ R r h' ∧ VRel ι' r v ∧ WRel ι' h' w' ∧ Ext ι h w ι' h' w'
theorem ACalls.mono {P : Program} {f : Nat} {args : List AV} {h : AH} {R R' : AV → AH → Prop} (c : ACalls P f args h R) (hr : ∀ r h', R r h' → R' r h') : ACalls P f args h R' :=
 ⟨c.1, fun ι w vs hw hv => Calls.mono (c.2 ι w vs hw hv) fun e w' ⟨v, r, h', ι', h1, h2, h3⟩ => ⟨v, r, h', ι', h1, hr _ _ h2, h3⟩⟩
theorem ACalls.drop {P : Program} {f : Nat} {args : List AV} {h : AH} {R : AV → AH → Prop} (c : ACalls P f args h R) {R' : AV → AH → Prop} (hr : ∀ r h', R r h' → ∃ h'', h''.le h' ∧ R' r h'') : ACalls P f args h R' :=
 ⟨c.1, fun ι w vs hw hv => Calls.mono (c.2 ι w vs hw hv) fun e w' ⟨v, r, h', ι', h1, h2, h3, h4, h5⟩ => by
  obtain ⟨h'', hle, h2'⟩ := hr _ _ h2
  exact ⟨v, r, h'', ι', h1, h2', h3, h4.drop hle, h5.drop hle⟩⟩
mutual
def AV.plain : AV → Bool
 | .p .. | .sl .. | .mp .. | .fy .. => false
 | .fn _ x y => AV.plains x && AV.plains y
 | .ag cs => AV.plains cs
 | .tu cs => AV.plains cs
 | .gd _ v => v.plain
 | .vs _ cs => AV.plains cs
 | .pv cs _ => AV.plains cs
 | _ => true
def AV.plains : List AV → Bool
 | [] => true
 | v :: r => v.plain && AV.plains r
end
mutual
theorem plain_rel {ι ι' : Inj} (hφ : ∀ b xs, ι.φ b = some xs → ι'.φ b = some xs) : ∀ {a : AV} {v : Value}, a.plain = true → VRel ι a v → VRel ι' a v
 | .un, _, _, _ => by simp [VRel]
 | .b x, v, _, r => by simpa [VRel] using r
 | .i k n, v, _, r => by simpa [VRel] using r
 | .s x, v, _, r => by simpa [VRel] using r
 | .p t o, v, q, r => by simp [AV.plain] at q
 | .nilp, v, _, r => by simpa [VRel] using r
 | .sl t o n a, v, q, r => by simp [AV.plain] at q
 | .fn f fst caps, v, q, r => by
   simp only [AV.plain, Bool.and_eq_true] at q
   simp only [VRel] at *; obtain ⟨x, y, h1, h2, h3⟩ := r; exact ⟨x, y, h1, plains_rel hφ q.1 h2, plains_rel hφ q.2 h3⟩
 | .nilf, v, _, r => by simpa [VRel] using r
 | .mp t, v, q, r => by simp [AV.plain] at q
 | .fy t, v, q, r => by simp [AV.plain] at q
 | .nilm, v, _, r => by simpa [VRel] using r
 | .ag cs, v, q, r => by
   simp only [AV.plain] at q
   simp only [VRel] at *; obtain ⟨x, h1, h2⟩ := r; exact ⟨x, h1, plains_rel hφ q h2⟩
 | .tu cs, v, q, r => by
   simp only [AV.plain] at q
   simp only [VRel] at *; obtain ⟨x, h1, h2⟩ := r; exact ⟨x, h1, plains_rel hφ q h2⟩
 | .gd g a, v, q, r => by
   simp only [AV.plain] at q
   simp only [VRel] at *; exact ⟨fun hg => plain_rel hφ q (r.1 hg), r.2⟩
 | .vs n cs, v, q, r => by
   simp only [AV.plain] at q
   simp only [VRel] at *
   rcases r with r | ⟨b, o, cap, xs, h1, h2, h3, h4⟩
   ·exact .inl r
   ·exact .inr ⟨b, o, cap, xs, h1, h2, hφ _ _ h3, plains_rel hφ q h4⟩
 | .pv cs o, v, q, r => by
   simp only [AV.plain] at q
   simp only [VRel] at *; obtain ⟨b, s, xs, h1, h2, h3⟩ := r; exact ⟨b, s, xs, h1, hφ _ _ h2, plains_rel hφ q h3⟩
theorem plains_rel {ι ι' : Inj} (hφ : ∀ b xs, ι.φ b = some xs → ι'.φ b = some xs) : ∀ {az : List AV} {vs : List Value}, AV.plains az = true → VRels ι az vs → VRels ι' az vs
 | [], _, _, r => by simpa [VRels] using r
 | a :: az, vs, q, r => by
   simp only [AV.plains, Bool.and_eq_true] at q
   simp only [VRels] at *; obtain ⟨v, t, h1, h2, h3⟩ := r; exact ⟨v, t, h1, plain_rel hφ q.1 h2, plains_rel hφ q.2 h3⟩
end
def plug : Option (List AV × List AV) → AV → AV
 | none, s => s
 | some (a, b), s => .tu (a ++ s :: b)
def plugOk : Option (List AV × List AV) → Bool
 | none => true
 | some (a, b) => AV.plains a && AV.plains b
theorem VRels_append {ι : Inj} : ∀ {az bs : List AV} {vs : List Value}, VRels ι (az ++ bs) vs ↔ ∃ x y, vs = x ++ y ∧ VRels ι az x ∧ VRels ι bs y
 | [], bs, vs => by
   simp only [List.nil_append, VRels]
   exact ⟨fun h => ⟨[], vs, rfl, rfl, h⟩, fun ⟨x, y, e, h1, h2⟩ => by subst h1; simpa [e] using h2⟩
 | a :: az, bs, vs => by
   simp only [List.cons_append, VRels]
   constructor
   ·rintro ⟨v, r, rfl, h1, h2⟩
    obtain ⟨x, y, rfl, h3, h4⟩ := VRels_append.1 h2
    exact ⟨v :: x, y, rfl, ⟨v, x, rfl, h1, h3⟩, h4⟩
   ·rintro ⟨x, y, rfl, ⟨v, r, rfl, h1, h2⟩, h3⟩
    exact ⟨v, r ++ y, rfl, h1, VRels_append.2 ⟨r, y, rfl, h2, h3⟩⟩
theorem plug_rel {ι ι' : Inj} (hφ : ∀ b xs, ι.φ b = some xs → ι'.φ b = some xs) {p : Option (List AV × List AV)} {s s' : AV} {u : Value} (hp : plugOk p = true) (r : VRel ι (plug p s) u) (hs : ∀ v, VRel ι s v → VRel ι' s' v) : VRel ι' (plug p s') u := by
 cases p with
 | none => exact hs u r
 | some ab =>
   obtain ⟨a, b⟩ := ab
   simp only [plugOk, Bool.and_eq_true] at hp
   simp only [plug, VRel] at r ⊢
   obtain ⟨x, rfl, r⟩ := r
   refine ⟨x, rfl, ?_⟩
   obtain ⟨y, z, e, h1, h2⟩ := VRels_append.1 r
   simp only [VRels] at h2
   obtain ⟨v, q, rfl, h3, h4⟩ := h2
   rw [e]
   exact VRels_append.2 ⟨y, v :: q, rfl, plains_rel hφ hp.1 h1, by simp only [VRels]; exact ⟨v, q, rfl, hs v h3, plains_rel hφ hp.2 h4⟩⟩
theorem plains_mem : ∀ {xs : List AV} {x : AV}, AV.plains xs = true → x ∈ xs → x.plain = true
 | y :: ys, x, h, hm => by
   simp only [AV.plains, Bool.and_eq_true] at h
   rcases List.mem_cons.1 hm with rfl | hm
   ·exact h.1
   ·exact plains_mem h.2 hm
def Inj.lay (ι : Inj) (t : Nat) (l : Option Loc) : Inj := ⟨fun s => if s = t then l else ι s, ι.φ⟩
def Inj.ph (ι : Inj) (φ : Nat → Option (Array Value)) : Inj := ⟨ι.f, φ⟩
structure PhiOk (φ φ' : Nat → Option (Array Value)) (w w' : World) (loc : Option Loc) : Prop where
 le : ∀ b xs, φ b = some xs → φ' b = some xs
 new : ∀ b xs, φ' b = some xs → φ b = some xs ∨ (w.heap.size ≤ b ∧ (∃ e fz, w'.heap[b]? = some (.cells xs e fz)) ∧ ∀ l, loc = some l → l.b ≠ b)
theorem PhiOk.refl (φ : Nat → Option (Array Value)) (w w' : World) (loc : Option Loc) : PhiOk φ φ w w' loc := ⟨fun _ _ h => h, fun _ _ h => .inl h⟩
theorem Inj.lay_same (ι : Inj) (t : Nat) (l : Option Loc) : ι.lay t l t = l := by simp [Inj.lay]
theorem Inj.lay_ne (ι : Inj) {t s : Nat} (h : s ≠ t) (l : Option Loc) : ι.lay t l s = ι s := by simp [Inj.lay, h]
theorem Inj.le_lay {ι : Inj} {t : Nat} (h : ι t = none) (l : Option Loc) : ι.le (ι.lay t l) := Inj.le_of (hφ := rfl) fun s x hs => by
 have : s ≠ t := fun e => by subst e; rw [h] at hs; cases hs
 rw [Inj.lay_ne ι this]; exact hs
structure FCalls (P : Program) (f : Nat) (args : List AV) (h : AH) (p : Option (List AV × List AV)) (n k : Nat) (cs : List AV) : Prop where
 ex : ∃ fn, P.funcs[f]? = some fn ∧ (fn.name == "runtime.NumGoroutine") = false ∧ fn.body.isNone = false
 run : ∀ (ι : Inj) (w : World) (vs : Array Value), WRel ι h w → VRels ι args vs.toList →
  Calls P f vs w fun e w' => ∃ v loc φ', e = .returned v ∧ (∀ l, loc = some l → w.heap.size ≤ l.b ∧ l.b < w'.heap.size) ∧ PhiOk ι.φ φ' w w' loc ∧
   (∀ (ι' : Inj) (t : Nat), ι' t = loc → (∀ b xs, φ' b = some xs → ι'.φ b = some xs) → VRel ι' (plug p (.sl t 0 n k)) v ∧ BRel ι' w' t (.cells true cs)) ∧
   w'.os = w.os ∧ w'.tape = w.tape ∧ w'.output = w.output ∧ w.heap.size ≤ w'.heap.size ∧ (∀ b, b < w.heap.size → w'.heap[b]? = w.heap[b]?) ∧ w.drawn ≤ w'.drawn
theorem FCalls.frame {P : Program} {f : Nat} {args : List AV} {hb h : AH} {p : Option (List AV × List AV)} {n k : Nat} {cs : List AV} (c : FCalls P f args hb p n k cs) (hle : hb.le h) : FCalls P f args h p n k cs :=
 ⟨c.1, fun ι w vs wr hv => c.2 ι w vs (wr.drop hle) hv⟩
theorem WRel.lay {ι : Inj} {h : AH} {w w' : World} {t : Nat} {loc : Option Loc} {bk : Blk} {φ' : Nat → Option (Array Value)} (hφ : PhiOk ι.φ φ' w w' loc) (wr : WRel ι h w) (ht : ι t = none) (ht0 : t ≠ 0) (ht1 : t < h.nx) (hl : ∀ l, loc = some l → w.heap.size ≤ l.b ∧ l.b < w'.heap.size)
 (hb : BRel ((ι.ph φ').lay t loc) w' t bk) (hs : w.heap.size ≤ w'.heap.size) (hk : ∀ b, b < w.heap.size → w'.heap[b]? = w.heap[b]?) : WRel ((ι.ph φ').lay t loc) (h.set t bk) w' := by
 have hle : ι.le ((ι.ph φ').lay t loc) := ⟨fun s l hs => by
  have : s ≠ t := fun e => by subst e; rw [ht] at hs; cases hs
  rw [Inj.lay_ne _ this]; exact hs, hφ.le⟩
 have ln : ∀ {s : Nat}, s ≠ t → ((ι.ph φ').lay t loc) s = ι s := fun h => by rw [Inj.lay_ne _ h]; rfl
 have hm1 : ∀ s c, (h.set t bk).m s = some c → (s = t ∧ c = bk) ∨ (s ≠ t ∧ h.m s = some c) := fun s c hc => by
  unfold AH.set at hc
  by_cases e : s = t
  ·subst e; simp only [if_true, Option.some.injEq] at hc; exact .inl ⟨rfl, hc.symm⟩
  ·simp only [if_neg e] at hc; exact .inr ⟨e, hc⟩
 refine ⟨fun s l h' => ?_, fun s c hc => ?_, fun s s' l l' c c' hc hc' hll hll' hbb hw => ?_, wr.pos, ?_, fun b xs hx => ?_⟩
 ·show s < h.nx ∧ _
  by_cases e : s = t
  ·subst e; rw [Inj.lay_same] at h'; exact ⟨ht1, (hl l h').2⟩
  ·rw [ln e] at h'; exact ⟨(wr.lt s l h').1, Nat.lt_of_lt_of_le (wr.lt s l h').2 hs⟩
 ·show s < h.nx ∧ _
  rcases hm1 s c hc with ⟨rfl, rfl⟩ | ⟨e, hc⟩
  ·exact ⟨ht1, hb⟩
  ·exact ⟨(wr.blk s c hc).1, (wr.blk s c hc).2.mono hle (ln e) fun l hl => hk l.b (wr.lt s l hl).2⟩
 ·rcases hm1 s c hc with ⟨rfl, rfl⟩ | ⟨e, hc⟩ <;> rcases hm1 s' c' hc' with ⟨rfl, rfl⟩ | ⟨e', hc'⟩
  ·rfl
  ·rw [Inj.lay_same] at hll
   rw [ln e'] at hll'
   have := (hl l hll).1
   have := (wr.lt s' l' hll').2
   omega
  ·rw [Inj.lay_same] at hll'
   rw [ln e] at hll
   have := (hl l' hll').1
   have := (wr.lt s l hll).2
   omega
  ·rw [ln e] at hll
   rw [ln e'] at hll'
   exact wr.inj s s' l l' c c' hc hc' hll hll' hbb hw
 ·exact ⟨by rw [ln (Ne.symm ht0)]; exact wr.nil, wr.nil0.2.mono hle⟩
 ·have hx' : φ' b = some xs := hx
  have ow : ∀ s c l, (h.set t bk).m s = some c → c.wr = true → ((ι.ph φ').lay t loc) s = some l → (∃ l0, loc = some l0 ∧ l.b = l0.b) ∨ (∃ c0, h.m s = some c0 ∧ c0.wr = true ∧ ι s = some l) := fun s c l hc hw hl' => by
   rcases hm1 s c hc with ⟨rfl, rfl⟩ | ⟨e, hc⟩
   ·rw [Inj.lay_same] at hl'; exact .inl ⟨l, hl', rfl⟩
   ·rw [ln e] at hl'; exact .inr ⟨c, hc, hw, hl'⟩
  rcases hφ.new b xs hx' with q | ⟨q1, q2, q3⟩
  ·obtain ⟨⟨e, fz, hh⟩, ho⟩ := wr.phi b xs q
   have hlt : b < w.heap.size := (Array.getElem?_eq_some_iff.1 hh).1
   refine ⟨⟨e, fz, (hk b hlt).trans hh⟩, fun s c l hc hw hl' => ?_⟩
   rcases ow s c l hc hw hl' with ⟨l0, h1, h2⟩ | ⟨c0, h1, h2, h3⟩
   ·have := (hl l0 h1).1; omega
   ·exact ho s c0 l h1 h2 h3
  ·refine ⟨q2, fun s c l hc hw hl' => ?_⟩
   rcases ow s c l hc hw hl' with ⟨l0, h1, h2⟩ | ⟨c0, h1, h2, h3⟩
   ·rw [h2]; exact q3 l0 h1
   ·have := (wr.lt s l h3).2; omega
theorem Ext.lay {ι0 ι : Inj} {h0 h : AH} {w0 w w' : World} {t : Nat} {loc : Option Loc} {bk : Blk} {φ' : Nat → Option (Array Value)} (hφ : PhiOk ι.φ φ' w w' loc) (x : Ext ι0 h0 w0 ι h w) (ht : h0.nx ≤ t) (hl : ∀ l, loc = some l → w.heap.size ≤ l.b ∧ l.b < w'.heap.size)
 (hdr : w.drawn ≤ w'.drawn) (ho : w'.os = w.os) (htp : w'.tape = w.tape) (hou : w'.output = w.output) (hs : w.heap.size ≤ w'.heap.size) (hk : ∀ b, b < w.heap.size → w'.heap[b]? = w.heap[b]?) : Ext ι0 h0 w0 ((ι.ph φ').lay t loc) (h.set t bk) w' := by
 have ln : ∀ {s : Nat}, s ≠ t → ((ι.ph φ').lay t loc) s = ι s := fun h => by rw [Inj.lay_ne _ h]; rfl
 refine ⟨x.nx, fun s hs' => ?_, ho.trans x.os, htp.trans x.tape, hou.trans x.output, Nat.le_trans x.size hs, fun b hb hkk => ?_, fun s c l hc hcw hll => ?_, fun b xs hb => hφ.le b xs (x.phi b xs hb), fun b xs hb => ?_, Nat.le_trans x.drawn hdr⟩
 ·rw [ln (by omega)]; exact x.old s hs'
 ·rw [hk b (Nat.lt_of_lt_of_le hb x.size)]; exact x.keep b hb hkk
 ·unfold AH.set at hc
  by_cases e : s = t
  ·subst e
   rw [Inj.lay_same] at hll
   have := (hl l hll).1
   have := x.size
   exact .inl (by omega)
  ·simp only [if_neg e] at hc
   rw [ln e] at hll
   exact x.img s c l hc hcw hll
 ·rcases hφ.new b xs hb with q | ⟨q1, _⟩
  ·exact x.new b xs q
  ·exact .inr (.inl (Nat.le_trans x.size q1))
theorem WRel.refit {ι : Inj} {h : AH} {w w' : World} (r : WRel ι h w) {t : Nat} {c0 : Blk} (hm : h.m t = some c0) (hw0 : c0.wr = true) {l : Loc} (hl : ι t = some l) {bk : Blk} (hs : w'.heap.size = w.heap.size) (hk : ∀ b, b ≠ l.b → w'.heap[b]? = w.heap[b]?) (hb : BRel ι w' t bk) :
 WRel ι (h.set t bk) w' := by
 have hm1 : ∀ s c, (h.set t bk).m s = some c → (s = t ∧ c = bk) ∨ (s ≠ t ∧ h.m s = some c) := fun s c hc => by
  unfold AH.set at hc
  by_cases e : s = t
  ·subst e; simp only [if_true, Option.some.injEq] at hc; exact .inl ⟨rfl, hc.symm⟩
  ·simp only [if_neg e] at hc; exact .inr ⟨e, hc⟩
 have ht := (r.blk t _ hm).1
 refine ⟨fun s l' h' => ⟨(r.lt s l' h').1, by rw [hs]; exact (r.lt s l' h').2⟩, fun s c hc => ?_, fun s s' l1 l2 c c' hc hc' hl1 hl2 hbb hw => ?_, r.pos, r.nil0, phi_step (h' := h.set t bk) r rfl (fun b _ ho => hk b fun e => ho t _ l hm hw0 hl e.symm) fun s c l' hc hcw hl' => ?_⟩
 ·show s < h.nx ∧ _
  rcases hm1 s c hc with ⟨rfl, rfl⟩ | ⟨e, hc⟩
  ·exact ⟨ht, hb⟩
  ·refine ⟨(r.blk s c hc).1, (r.blk s c hc).2.mono (Inj.le_refl _) rfl fun l' hl' => hk l'.b fun hbb => ?_⟩
   exact e (r.inj s t l' l c _ hc hm hl' hl hbb (.inr hw0))
 ·rcases hm1 s c hc with ⟨rfl, rfl⟩ | ⟨e, hcA⟩ <;> rcases hm1 s' c' hc' with ⟨rfl, rfl⟩ | ⟨e', hcB⟩
  ·rfl
  ·exact r.inj _ _ l1 l2 _ c' hm hcB hl1 hl2 hbb (.inl hw0)
  ·exact r.inj _ _ l1 l2 c _ hcA hm hl1 hl2 hbb (.inr hw0)
  ·exact r.inj _ _ l1 l2 c c' hcA hcB hl1 hl2 hbb hw
 ·rcases hm1 s c hc with ⟨rfl, rfl⟩ | ⟨e, hcA⟩
  ·exact .inr ⟨s, _, l', hm, hw0, hl', rfl⟩
  ·exact .inr ⟨s, c, l', hcA, hcw, hl', rfl⟩
theorem Ext.refit {ι0 ι : Inj} {h0 h : AH} {w0 w w' : World} (x : Ext ι0 h0 w0 ι h w) {t : Nat} {c0 : Blk} (hm : h.m t = some c0) (hw0 : c0.wr = true) {l : Loc} (hl : ι t = some l) {bk : Blk} (hs : w'.heap.size = w.heap.size) (hk : ∀ b, b ≠ l.b → w'.heap[b]? = w.heap[b]?)
 (hdr : w.drawn ≤ w'.drawn) (ho : w'.os = w.os) (htp : w'.tape = w.tape) (hou : w'.output = w.output) : Ext ι0 h0 w0 ι (h.set t bk) w' := by
 refine ⟨x.nx, x.old, ho.trans x.os, htp.trans x.tape, hou.trans x.output, by rw [hs]; exact x.size, fun b hb hkk => ?_, fun s c l' hc hcw hll => ?_, x.phi, x.new, Nat.le_trans x.drawn hdr⟩
 ·by_cases e : b = l.b
  ·rcases x.img t _ l hm hw0 hl with q | ⟨t0, c0, l0, q1, q2, q3, q4⟩
   ·omega
   ·exact absurd (q4.trans e.symm) (hkk t0 c0 l0 q1 q2 q3)
  ·rw [hk b e]; exact x.keep b hb hkk
 ·unfold AH.set at hc
  by_cases e : s = t
  ·subst e
   rw [hl] at hll; cases hll
   exact x.img _ _ l hm hw0 hl
  ·simp only [if_neg e] at hc
   exact x.img s c l' hc hcw hll
def CallsA (P : Program) (tok : Nat) (f : Nat) (args : List AV) (h : AH) (K : AV → AH → Prop) : Prop :=
 ACalls P f args h K ∨ ∃ p n k cs, FCalls P f args h p n k cs ∧ K (plug p (.sl tok 0 n k)) (h.set tok (.cells true cs))
theorem CallsA.mono {P : Program} {tok f : Nat} {args : List AV} {h : AH} {K K' : AV → AH → Prop} (c : CallsA P tok f args h K) (hk : ∀ r h', K r h' → K' r h') : CallsA P tok f args h K' :=
 c.imp (fun c => c.mono hk) fun ⟨p, n, k, cs, c, q⟩ => ⟨p, n, k, cs, c, hk _ _ q⟩
def put (d : Option Nat) (v : AV) (st : St) : St :=
 match d with
 | some d => (d, v) :: st
 | none => st
def AOp.isAl : AOp → Bool
 | .box _ | .alloc _ | .bsl .. | .mks .. => true
 | _ => false
def evA (P : Program) (tok : Nat) (d : Option Nat) (o : AOp) (st : St) (h : AH) (K : St → AH → Prop) : Prop :=
 match o with
 | .sto n x v => match h.sto n (x.val st) (v.val st) with
   | some h' => K (put d .un st) h'
   | none => False
 | .app k b x y => match h.app k b tok (x.val st) (y.val st) with
   | some (r, h') => K (put d r st) h'
   | none => False
 | .byt x => match x.val st with
   | .s b => K (put d (.sl tok 0 b.size 0) st) (h.set tok (.frz (bcells b)))
   | _ => False
 | .cvt x => match h.cvt (x.val st) with
   | some h' => K (put d (x.val st) st) h'
   | none => False
 | .eqz ng x => match x.val st with
   | .sl _ _ n _ => if n = 0 then ∀ b, K (put d (.b b) st) h else K (put d (.b ng) st) h
   | .vs n _ => if n = 0 then ∀ b, K (put d (.b b) st) h else K (put d (.b ng) st) h
   | _ => False
 | .mkm => K (put d (.mp tok) st) (h.set tok (.map []))
 | .mup kk x k v => match h.mup kk (x.val st) (k.val st) (v.val st) with
   | some h' => K (put d .un st) h'
   | none => False
 | .call f args => match f.val st with
   | .fn f fst caps => CallsA P tok f (fst ++ args.map (AX.val st) ++ caps) h fun r h' => K (put d r st) h'
   | _ => False
 | o => if o.isAl then match o.al (AX.val st) tok with
     | some (v, cs) => K (put d v st) (h.set tok (.cells true cs))
     | none => False
  else match o.ev (AX.val st) h with
   | some v => K (put d v st) h
   | none => False
def AOp.isVal : AOp → Bool
 | .box _ | .alloc _ | .bsl .. | .mks .. | .sto .. | .app .. | .byt _ | .cvt _ | .eqz .. | .mkm | .mup .. | .call .. => false
 | _ => true
def guardOf (v : AV) (want : Bool) : Option Bool :=
 match v with
 | .b b => some (b == want)
 | .gd g (.b b) => some (g && (b == want))
 | .gd false _ => some false
 | .tu [] => some false
 | _ => none
def stS (g : Bool) (st : St) : St := st.map fun p => (p.1, strip g p.2)
theorem stS_get (g : Bool) : ∀ (st : St) (d : Nat), (stS g st).get d = strip g (st.get d)
 | [], d => by simp [stS, St.get, strip]
 | (k, v) :: r, d => by
   have ih := stS_get g r d
   simp only [stS] at ih
   simp only [stS, List.map_cons, St.get]
   split
   ·rfl
   ·exact ih
def evC (P : Program) (tok : Nat) (g : Bool) (d : Option Nat) (o : AOp) (st : St) (h : AH) (K : St → AH → Prop) : Prop :=
 match o with
 | .call f args => match f.val (stS g st) with
   | .fn f fst caps => ∃ v, (g = true → ACalls P f (fst ++ args.map (AX.val (stS g st)) ++ caps) h fun r h' => r = v ∧ h' = h) ∧ K (put d (.gd g v) st) h
   | _ => False
 | o => if o.isVal then ∃ v, (g = true → o.ev (AX.val (stS g st)) h = some v) ∧ K (put d (.gd g v) st) h
   else if o.isAl then (g = true → match o.al (AX.val (stS g st)) tok with
    | some (v, cs) => K (put d (.gd g v) st) (h.set tok (.cells true cs))
    | none => False) ∧ (g = false → K (put d (.gd g .un) st) h)
   else (g = true → evA P tok d o (stS g st) h K) ∧ (g = false → K (put d (.gd g .un) st) h)
def evG (P : Program) (tok : Nat) (o : AOper) (st : St) (h : AH) (K : St → AH → Prop) : Prop :=
 match o.g with
 | none => evA P tok o.d o.op st h K
 | some (s, want) => match guardOf (st.get s) want with
   | some g => evC P tok g o.d o.op st h K ∨ (g = true ∧ evA P tok o.d o.op (stS true st) h K)
   | none => False
def AOper.of (P : Program) (ops : Array Oper) (o : Oper) : Option AOper := do
 let op ← AOp.of P o.op
 match o.guard with
 | none => some ⟨o.dst, none, op⟩
 | some (j, w) => match (ops[j]?).bind (·.dst) with
   | some d => some ⟨o.dst, some (d, w), op⟩
   | none => none
structure Inv (N : Nat) (dfs : List Deferred) (ι0 : Inj) (h0 : AH) (w0 : World) (base n : Nat) (F : Nat → Prop) (st : St) (h : AH) (a : Act) (w : World) (ι : Inj) : Prop where
 ar : ARel N dfs ι st a
 wr : WRel ι h w
 ex : Ext ι0 h0 w0 ι h w
 fr : ∀ j, j < n → F j → ι (base + j) = none
 nx : base + n ≤ h.nx
 b0 : h0.nx ≤ base
 b1 : 0 < base
section
variable {P : Program} {N : Nat} {ι0 : Inj} {h0 : AH} {w0 : World} {base n : Nat} {F : Nat → Prop} {st : St} {h : AH} {a : Act} {w : World} {ι : Inj} {ops : Array Oper} {Q : Exit → Act → World → Prop}
theorem ARel.put' (r : ARel N dfs ι st a) {d : Option Nat} (hd : ∀ x, d = some x → x < N) {v : AV} {u : Value} (hv : VRel ι v u) : ARel N dfs ι (Go.Am.put d v st) (a.put d u) := by
 cases d with
 | none => exact r
 | some d => exact r.put (hd d rfl) hv
theorem call_wp {o : Oper} {c : Call} {f : Operand} {af : AX} {axs : List AX} (hopp : o.op = .call c) (hc : c.callee = .value f) (hfx : toX f = some af) (hxs : toXs c.args = some axs) (ar : ARel N dfs ι st a) (wr : WRel ι h w)
 {fid : Nat} {fst caps : List AV} (hf : af.val st = .fn fid fst caps) {R : AV → AH → Prop} (e : ACalls P fid (fst ++ axs.map (AX.val st) ++ caps) h R) :
 o.wp P a w (fun a' w' => ∃ v r h' ι', a' = a.put o.dst v ∧ R r h' ∧ VRel ι' r v ∧ WRel ι' h' w' ∧ Ext ι h w ι' h' w') Q := by
 have rf := toX_sound ar hfx
 rw [hf] at rf
 simp only [VRel] at rf
 obtain ⟨x1, y1, hv, q1, q2⟩ := rf
 have qa := toXs_sound ar (xs := c.args.toList) hxs
 obtain ⟨⟨fn, hfn, hnm, hbd⟩, hcall⟩ := e
 have hrel : VRels ι (fst ++ axs.map (AX.val st) ++ caps) (x1 ++ c.args.map a.eval ++ y1).toList := by
  simp only [Array.toList_append, Array.toList_map]
  exact (q1.append qa).append q2
 have hrun : (execOp a.eval o).run P w = .ok (.enter fid (x1 ++ c.args.map a.eval ++ y1)) w := by
  have hnm2 : fn.name ≠ "runtime.NumGoroutine" := by intro hh; simp [hh] at hnm
  have hbd2 : fn.body ≠ none := by intro hh; simp [hh] at hbd
  simp [execOp, hopp, resolve, hc, hv, Deferred.ofValue, invoke, callFunc, hfn, hnm2, hbd2]
 unfold Oper.wp
 rw [hrun]
 simp only [Oper.upon]
 refine Calls.mono (hcall ι w _ wr hrel) fun e' w' he => ?_
 obtain ⟨v, r, h', ι', rfl, hr, hv', hw', hx⟩ := he
 exact ⟨v, r, h', ι', rfl, hr, hv', hw', hx⟩
theorem fcall_wp {o : Oper} {c : Call} {f : Operand} {af : AX} {axs : List AX} (hopp : o.op = .call c) (hc : c.callee = .value f) (hfx : toX f = some af) (hxs : toXs c.args = some axs) (ar : ARel N dfs ι st a) (wr : WRel ι h w)
 {fid : Nat} {fst caps : List AV} (hf : af.val st = .fn fid fst caps) {p : Option (List AV × List AV)} {nn kk : Nat} {cs : List AV} (e : FCalls P fid (fst ++ axs.map (AX.val st) ++ caps) h p nn kk cs) :
 o.wp P a w (fun a' w' => ∃ v loc φ', a' = a.put o.dst v ∧ (∀ l, loc = some l → w.heap.size ≤ l.b ∧ l.b < w'.heap.size) ∧ PhiOk ι.φ φ' w w' loc ∧
  (∀ (ι' : Inj) (t : Nat), ι' t = loc → (∀ b xs, φ' b = some xs → ι'.φ b = some xs) → VRel ι' (plug p (.sl t 0 nn kk)) v ∧ BRel ι' w' t (.cells true cs)) ∧
  w'.os = w.os ∧ w'.tape = w.tape ∧ w'.output = w.output ∧ w.heap.size ≤ w'.heap.size ∧ (∀ b, b < w.heap.size → w'.heap[b]? = w.heap[b]?) ∧ w.drawn ≤ w'.drawn) Q := by
 have rf := toX_sound ar hfx
 rw [hf] at rf
 simp only [VRel] at rf
 obtain ⟨x1, y1, hv, q1, q2⟩ := rf
 have qa := toXs_sound ar (xs := c.args.toList) hxs
 obtain ⟨⟨fn, hfn, hnm, hbd⟩, hcall⟩ := e
 have hrel : VRels ι (fst ++ axs.map (AX.val st) ++ caps) (x1 ++ c.args.map a.eval ++ y1).toList := by
  simp only [Array.toList_append, Array.toList_map]
  exact (q1.append qa).append q2
 have hrun : (execOp a.eval o).run P w = .ok (.enter fid (x1 ++ c.args.map a.eval ++ y1)) w := by
  have hnm2 : fn.name ≠ "runtime.NumGoroutine" := by intro hh; simp [hh] at hnm
  have hbd2 : fn.body ≠ none := by intro hh; simp [hh] at hbd
  simp [execOp, hopp, resolve, hc, hv, Deferred.ofValue, invoke, callFunc, hfn, hnm2, hbd2]
 unfold Oper.wp
 rw [hrun]
 simp only [Oper.upon]
 refine Calls.mono (hcall ι w _ wr hrel) fun e' w' he => ?_
 obtain ⟨v, loc, φ', rfl, hr⟩ := he
 exact ⟨v, loc, φ', rfl, hr⟩
theorem cvt_run (ra : ARel N dfs ι st a) (rw' : WRel ι h w) {o : Oper} {s d : TypeId} {x : Operand} (ho : o.op = .convert s d x) (hsd : s = d) {e e' : TypeId} (hs : P.underlying s = some (.slice e')) (hd : P.underlying d = some (.slice e)) (he : P.underlying e = some (.int .u8))
 {ax : AX} (hx : toX x = some ax) {h' : AH} (hc : h.cvt (ax.val st) = some h') :
 ∃ t n l cs, h.m t = some (.cells true cs) ∧ ι t = some l ∧ (execOp a.eval o).run P w = .ok (.value (a.eval x)) (w.freeze ⟨l.b, n, none⟩ 1) ∧ (w.freeze ⟨l.b, n, none⟩ 1).heap.size = w.heap.size ∧ (∀ b, b ≠ l.b → (w.freeze ⟨l.b, n, none⟩ 1).heap[b]? = w.heap[b]?) ∧
   BRel ι (w.freeze ⟨l.b, n, none⟩ 1) t (.frz cs) ∧ h' = h.set t (.frz cs) := by
 have rx := toX_sound ra hx
 unfold AH.cvt at hc
 split at hc
 ·rename_i t o' n m h1
  rw [h1] at rx
  simp only [VRel] at rx
  split at hc
  ·cases hc
  ·rename_i h0
   split at hc
   ·rename_i cs hm
    cases hc
    rcases rx with ⟨h0', _⟩ | ⟨l, cap, hl, hy, _⟩
    ·exact absurd h0' h0
    ·have hb := (rw'.blk t _ hm).2
     simp only [BRel] at hb
     rcases hb with ⟨_, hn⟩ | ⟨l', vs, el, fz, hl', hh, h3, h4, h5, h6⟩
     ·rw [hl] at hn; cases hn
     rw [hl] at hl'; cases hl'
     have hfz := h5 trivial
     subst hfz
     have hlt : l.b < w.heap.size := (rw'.lt t l hl).2
     have hsh : w.shape? l.b = some (el, vs.size) := by simp [World.shape?, hh]
     have hmk : (markStringish ⟨l.b, l.sh + o', none⟩).run P w = .ok () (w.freeze ⟨l.b, vs.size, none⟩ 1) := by
      simp [markStringish, hsh]
     have hheap : (w.freeze ⟨l.b, vs.size, none⟩ 1).heap[l.b]? = some (.cells vs el (vs.size, vs.size + 1)) := by
      simp [World.freeze, Array.getElem?_modify, hh]
     refine ⟨t, vs.size, l, cs, hm, hl, ?_, by simp [World.freeze], fun b hb => ?_, ?_, rfl⟩
     ·subst hsd
      have hee : e' = e := by rw [hs] at hd; cases hd; rfl
      subst hee
      simp [execOp, ho, hy, convert, und_run hs, und_run he, hmk]
     ·simp [World.freeze, Array.getElem?_modify, Ne.symm hb]
     ·simp only [BRel]
      exact ⟨l, vs, el, hl, hheap, h3, h4, h6⟩
   ·cases hc
 ·cases hc
theorem run_eqz {o : Oper} {op : BinOp} {xt yt : TypeId} {x : Operand} (ho : o.op = .binOp op xt x (.const (.slice none 0 0)) yt) (hop : op = .eql ∨ op = .neq) {e : TypeId} (hu : P.underlying xt = some (.slice e)) {c : Option Addr} {n cap : Nat} (hx : a.eval x = .slice c n cap) :
 (execOp a.eval o).run P w = .ok (.value (.bool (c.isNone != (op == .neq)))) w := by
 have h0 : ∀ d, (Op.equalIn (d + 1) xt (.slice c n cap) (.slice none 0 0)).run P w = .ok c.isNone w := by
  intro d
  cases c <;> simp [Op.equalIn, und_run hu]
 have h1 := h0 9999
 have h2 : a.eval (.const (.slice none 0 0)) = .slice none 0 0 := rfl
 rcases hop with rfl | rfl
 ·simp [execOp, ho, hx, h2, eqGuard, binOp, Op.equal, Op.maxDepth, h1]
  cases c <;> rfl
 ·simp [execOp, ho, hx, h2, eqGuard, binOp, Op.equal, Op.maxDepth, h1]
  try (cases c <;> rfl)
theorem run_byt {o : Oper} {s d : TypeId} {x : Operand} (ho : o.op = .convert s d x) {e : TypeId} (hs : P.underlying s = some .string) (hd : P.underlying d = some (.slice e)) (he : P.underlying e = some (.int .u8)) {b : ByteArray} (hx : a.eval x = .string b) :
 (execOp a.eval o).run P w = .ok (.value (.slice (some ⟨w.heap.size, 0, none⟩) b.size (grownCap w b.size 0 e))) (Lib.bytesWorld w e b) := by
 have := Lib.run_convert_string_bytes w s d e b hs hd he
 simp only [execOp, ho, hx, Sem.run_bind, Sem.run_map, this, Result.andThen_ok, Sem.run_pure]
theorem byt_rel {e : TypeId} (b : ByteArray) (ι' : Inj) (t : Nat) (hι : ι' t = some ⟨w.heap.size, 0, (Lib.bytesCells w e b).size⟩) :
 VRel ι' (.sl t 0 b.size 0) (.slice (some ⟨w.heap.size, 0, none⟩) b.size (grownCap w b.size 0 e)) ∧ BRel ι' (Lib.bytesWorld w e b) t (.frz (bcells b)) := by
 have hg := grownCap_ge w b.size 0 e
 have hsz : (Lib.bytesCells w e b).size = grownCap w b.size 0 e := by
  simp only [Lib.bytesCells, Array.size_append, Array.size_map, Array.size_replicate]
  have : b.data.size = b.size := rfl
  omega
 refine ⟨?_, ?_⟩
 ·simp only [VRel]
  exact .inr ⟨_, _, hι, rfl, hg, .inl trivial⟩
 ·refine ⟨_, _, e, hι, Lib.bytesWorld_at_new w e b, rfl, ?_, fun i a' hi => ?_⟩
  ·simp only [bcells, List.length_map, Array.length_toList, Nat.zero_add]
   have : b.data.size = b.size := rfl
   omega
  ·simp only [bcells, List.getElem?_map, Option.map_eq_some_iff] at hi
   obtain ⟨c, hc, rfl⟩ := hi
   have hlt : i < b.data.size := by
    have := (List.getElem?_eq_some_iff.1 hc).1
    simpa using this
   refine ⟨.int .u8 c.toNat, ?_, by simp only [VRel]⟩
   have hc' : b.data[i]? = some c := by simpa using hc
   simp only [Lib.bytesCells, Nat.zero_add]
   rw [Array.getElem?_append_left (by simpa using hlt), Array.getElem?_map, hc']
   rfl
theorem evG_wpOp {i : Nat} {o : Oper} (ho : ops[i]? = some o) {ao : AOper} (hao : AOper.of P ops o = some ao) (hd : ∀ x, o.dst = some x → x < N) (hg : ∀ s b, ao.g = some (s, b) → s < N)
 (hi : i < n) (hF : F i) (I : Inv N dfs ι0 h0 w0 base n F st h a w ι) {K : St → AH → Prop} (e : evG P (base + i) ao st h K) :
 wpOp P ops Q i (fun a' w' => ∃ st' h' ι', K st' h' ∧ Inv N dfs ι0 h0 w0 base n (fun j => F j ∧ j ≠ i) st' h' a' w' ι') a w := by
 unfold AOper.of at hao
 simp only [Option.bind_eq_bind, Option.bind_eq_some_iff] at hao
 obtain ⟨op, hop, hao⟩ := hao
 have hR := of_R hop
 unfold wpOp
 simp only [ho]
 -- what a run of the operation gives
 have run : ∀ {st : St} {K : St → AH → Prop}, Inv N dfs ι0 h0 w0 base n F st h a w ι → evA P (base + i) o.dst op st h K → o.wp P a w (fun a' w' => ∃ st' h' ι', K st' h' ∧ Inv N dfs ι0 h0 w0 base n (fun j => F j ∧ j ≠ i) st' h' a' w' ι') Q := by
  intro st K I e
  have weak : ∀ {st' a'}, ARel N dfs ι st' a' → Inv N dfs ι0 h0 w0 base n (fun j => F j ∧ j ≠ i) st' h a' w ι := fun r => ⟨r, I.wr, I.ex, fun j hj hf => I.fr j hj hf.1, I.nx, I.b0, I.b1⟩
  have htok1 := I.fr i hi hF
  have htok2 : base + i < h.nx := by have := I.nx; omega
  have htok3 : base + i ≠ 0 := by have := I.b1; omega
  have htok4 : h0.nx ≤ base + i := by have := I.b0; omega
  unfold evA at e
  split at e
  ·-- a store
   rename_i n' x v
   split at e
   ·rename_i h' hs
    generalize hopp : o.op = oo at hR
    cases hR with
    | sto hn hx hv =>
      obtain ⟨u, w', ι', r1, r2, r3, r4, r5, r6⟩ := sto_moves (P := P) I.ar I.wr hopp hn hx hv hs (base + i)
      unfold Oper.wp
      rw [r1]
      simp only [Oper.upon]
      refine ⟨_, _, ι', e, ⟨(I.ar.mono r2).put' hd (by simp [VRel]), r5, r6 _ _ _ I.ex htok4, fun j hj hf => ?_, ?_, I.b0, I.b1⟩⟩
      ·rw [r3 _ (by have := hf.2; omega)]; exact I.fr j hj hf.1
      ·have := I.nx
       unfold AH.sto at hs
       split at hs
       ·split at hs
        ·simp only [Option.map_eq_some_iff] at hs
         obtain ⟨_, _, rfl⟩ := hs
         exact this
        ·cases hs
       ·cases hs
   ·exact e.elim
  ·-- an append
   rename_i k b x y
   split at e
   ·rename_i r h' hs
    generalize hopp : o.op = oo at hR
    cases hR with
    | app hc hat har ht hu hk hb hz hzl hx hy =>
      obtain ⟨u, w', ι', r1, r2, r3, r4, r5, r6⟩ := app_moves (P := P) I.ar I.wr hopp hc hat har ht hu hk hb hz hzl hx hy hs htok1 htok2 htok3
      unfold Oper.wp
      rw [r1]
      simp only [Oper.upon]
      refine ⟨_, _, ι', e, ⟨(I.ar.mono r2).put' hd r4, r5, r6 _ _ _ I.ex htok4, fun j hj hf => ?_, ?_, I.b0, I.b1⟩⟩
      ·rw [r3 _ (by have := hf.2; omega)]; exact I.fr j hj hf.1
      ·have := I.nx
       unfold AH.app at hs
       split at hs
       ·split at hs
        ·split at hs
         ·split at hs
          ·cases hs; exact this
          ·cases hs
         ·split at hs
          ·split at hs
           ·cases hs; exact this
           ·cases hs
          ·cases hs
        ·cases hs
       ·cases hs
   ·exact e.elim
  ·-- the bytes of a string
   rename_i x
   split at e
   ·rename_i b hb
    generalize hopp : o.op = oo at hR
    cases hR with
    | @byt _ _ _ e' _ hs hd' he hx =>
      have rx := toX_sound I.ar hx
      rw [hb] at rx
      simp only [VRel] at rx
      unfold Oper.wp
      rw [run_byt (P := P) hopp hs hd' he rx]
      simp only [Oper.upon]
      have hl : ∀ l, some (⟨w.heap.size, 0, (Lib.bytesCells w e' b).size⟩ : Loc) = some l → w.heap.size ≤ l.b ∧ l.b < (Lib.bytesWorld w e' b).heap.size := fun l hl => by
       simp only [Option.some.injEq] at hl
       subst hl
       rw [Lib.bytesWorld_size]
       exact ⟨Nat.le_refl _, Nat.lt_succ_self _⟩
      obtain ⟨hvr, hbr⟩ := byt_rel (w := w) (e := e') b (ι.lay (base + i) (some ⟨w.heap.size, 0, (Lib.bytesCells w e' b).size⟩)) (base + i) (Inj.lay_same _ _ _)
      have hsz : w.heap.size ≤ (Lib.bytesWorld w e' b).heap.size := by rw [Lib.bytesWorld_size]; exact Nat.le_succ _
      have hkk := fun b' hb' => Lib.bytesWorld_at_old w e' b b' hb'
      refine ⟨_, _, ι.lay (base + i) _, e, ⟨(I.ar.mono (Inj.le_lay htok1 _)).put' hd hvr, WRel.lay (PhiOk.refl _ _ _ _) I.wr htok1 htok3 htok2 hl hbr hsz hkk, Ext.lay (PhiOk.refl _ _ _ _) I.ex htok4 hl (by first | exact Nat.le_refl _ | exact Nat.le_succ _) rfl rfl rfl hsz hkk, fun j hj hf => ?_, I.nx, I.b0, I.b1⟩⟩
      rw [Inj.lay_ne ι (by have := hf.2; omega)]
      exact I.fr j hj hf.1
   ·exact e.elim
  ·-- a converted row
   rename_i x
   split at e
   ·rename_i h' hs
    generalize hopp : o.op = oo at hR
    cases hR with
    | @cvt s d x' e1 e2 _ hsd hsu hd' he hx =>
      obtain ⟨t, n, l, cs, hm, hl, hrun, hs', hk, hbr, hh'⟩ := cvt_run (P := P) I.ar I.wr hopp hsd hsu hd' he hx hs
      unfold Oper.wp
      rw [hrun]
      simp only [Oper.upon]
      subst hh'
      exact ⟨_, _, ι, e, ⟨I.ar.put' hd (toX_sound I.ar hx), I.wr.refit hm rfl hl hs' hk hbr, I.ex.refit hm rfl hl hs' hk (Nat.le_refl _) rfl rfl rfl, fun j hj hf => I.fr j hj hf.1, I.nx, I.b0, I.b1⟩⟩
   ·exact e.elim
  ·-- is a slice nil?
   rename_i ng x
   split at e
   ·rename_i t o' n' a' hb
    generalize hopp : o.op = oo at hR
    cases hR with
    | @eqz op xt yt x' e' _ hq hu hx =>
      have rx := toX_sound I.ar hx
      rw [hb] at rx
      simp only [VRel] at rx
      unfold Oper.wp
      rcases rx with ⟨h0, y, hy⟩ | ⟨l, cap, hl, hy, _⟩
      ·rw [run_eqz (P := P) hopp hq hu hy]
       simp only [Oper.upon]
       rw [if_pos h0] at e
       exact ⟨_, _, ι, e (y.isNone != (op == BinOp.neq)), weak (I.ar.put' hd (by simp only [VRel]))⟩
      ·rw [run_eqz (P := P) hopp hq hu hy]
       simp only [Oper.upon]
       split at e
       ·exact ⟨_, _, ι, e ((some (⟨l.b, l.sh + o', none⟩ : Addr)).isNone != (op == BinOp.neq)), weak (I.ar.put' hd (by simp only [VRel]))⟩
       ·exact ⟨_, _, ι, e, weak (I.ar.put' hd (by simp only [VRel]; cases (op == BinOp.neq) <;> rfl))⟩
   ·rename_i n' cs' hb
    generalize hopp : o.op = oo at hR
    cases hR with
    | @eqz op xt yt x' e' _ hq hu hx =>
      have rx := toX_sound I.ar hx
      rw [hb] at rx
      simp only [VRel] at rx
      unfold Oper.wp
      rcases rx with ⟨h0, y, hy⟩ | ⟨b, s, cap, xs, hy, _⟩
      ·rw [run_eqz (P := P) hopp hq hu hy]
       simp only [Oper.upon]
       rw [if_pos h0] at e
       exact ⟨_, _, ι, e (y.isNone != (op == BinOp.neq)), weak (I.ar.put' hd (by simp only [VRel]))⟩
      ·rw [run_eqz (P := P) hopp hq hu hy]
       simp only [Oper.upon]
       split at e
       ·exact ⟨_, _, ι, e ((some (⟨b, s, none⟩ : Addr)).isNone != (op == BinOp.neq)), weak (I.ar.put' hd (by simp only [VRel]))⟩
       ·exact ⟨_, _, ι, e, weak (I.ar.put' hd (by simp only [VRel]; cases (op == BinOp.neq) <;> rfl))⟩
   ·exact e.elim
  ·-- a new map
   generalize hopp : o.op = oo at hR
   cases hR with
   | @mkm t =>
     unfold Oper.wp
     have hrun : (execOp a.eval o).run P w = .ok (.value (.map (some w.heap.size))) (w.alloc (.map #[] 0)) := by
      simp [execOp, hopp, Instr.makeMap]
     rw [hrun]
     simp only [Oper.upon]
     have hl : ∀ l, some (⟨w.heap.size, 0, 0⟩ : Loc) = some l → w.heap.size ≤ l.b ∧ l.b < (w.alloc (.map #[] 0)).heap.size := fun l hl => by
      simp only [Option.some.injEq] at hl
      subst hl
      rw [World.size_alloc]
      exact ⟨Nat.le_refl _, Nat.lt_succ_self _⟩
     have hsz : w.heap.size ≤ (w.alloc (.map #[] 0)).heap.size := by rw [World.size_alloc]; exact Nat.le_succ _
     have hkk : ∀ b, b < w.heap.size → (w.alloc (.map #[] 0)).heap[b]? = w.heap[b]? := fun b hb => Go.RowKit.Below.heap_alloc w _ _ hb
     have hbr : BRel (ι.lay (base + i) (some ⟨w.heap.size, 0, 0⟩)) (w.alloc (.map #[] 0)) (base + i) (.map []) := by
      simp only [BRel]
      exact ⟨_, #[], 0, Inj.lay_same _ _ _, heap_alloc_new w _, rfl, fun i k v hi => by simp at hi⟩
     refine ⟨_, _, ι.lay (base + i) _, e, ⟨(I.ar.mono (Inj.le_lay htok1 _)).put' hd (by simp only [VRel]; exact ⟨_, Inj.lay_same _ _ _, rfl⟩), WRel.lay (PhiOk.refl _ _ _ _) I.wr htok1 htok3 htok2 hl hbr hsz hkk, Ext.lay (PhiOk.refl _ _ _ _) I.ex htok4 hl (by first | exact Nat.le_refl _ | exact Nat.le_succ _) rfl rfl rfl hsz hkk, fun j hj hf => ?_, I.nx, I.b0, I.b1⟩⟩
     rw [Inj.lay_ne ι (by have := hf.2; omega)]
     exact I.fr j hj hf.1
  ·-- a store into a map
   rename_i kk x k v
   split at e
   ·rename_i h' hs
    have key : ∃ tk l es es' xs ck, h.m tk = some (.map es) ∧ ι tk = some l ∧ h' = h.set tk (.map es') ∧ (execOp a.eval o).run P w = .ok .skip (mapWorld w l.b (.map xs ck)) ∧ EL ι es' xs.toList ∧ l.b < w.heap.size := by
     generalize hopp : o.op = oo at hR
     cases hR with
     | mup ht hk hx hi hv => exact mup_run I.ar I.wr (.inl hopp) ht hk hx hi hv hs
     | ins ht hk hx hi hv => exact mup_run I.ar I.wr (.inr hopp) ht hk hx hi hv hs
    obtain ⟨tk, l, es, es', xs, ck, hm, hl, rfl, hrun, hel, hlt⟩ := key
    unfold Oper.wp
    rw [hrun]
    simp only [Oper.upon]
    have hs' : (mapWorld w l.b (.map xs ck)).heap.size = w.heap.size := by simp [mapWorld]
    have hk' : ∀ b, b ≠ l.b → (mapWorld w l.b (.map xs ck)).heap[b]? = w.heap[b]? := fun b hb => by simp [mapWorld, Array.getElem?_setIfInBounds_ne (Ne.symm hb)]
    have hbr : BRel ι (mapWorld w l.b (.map xs ck)) tk (.map es') := by
     simp only [BRel]
     refine ⟨l, xs, ck, hl, by simp [mapWorld, hlt], by simpa using hel.length, fun i k v hi => ?_⟩
     simpa using hel.get hi
    exact ⟨_, _, ι, e, ⟨I.ar.put' hd (by simp [VRel]), I.wr.refit hm rfl hl hs' hk' hbr, I.ex.refit hm rfl hl hs' hk' (Nat.le_refl _) rfl rfl rfl, fun j hj hf => I.fr j hj hf.1, I.nx, I.b0, I.b1⟩⟩
   ·exact e.elim
  ·-- a call
   rename_i f args
   split at e
   ·rename_i fid fst caps hf
    generalize hopp : o.op = oo at hR
    cases hR with
    | @call c cf _ _ hc hfx hxs =>
      rcases e with e | ⟨p, nn, kk, cs, e, k⟩
      case inr =>
       refine Oper.wp_mono ?_ (fcall_wp hopp hc hfx hxs I.ar I.wr hf e)
       rintro a' w' ⟨v, loc, φ', rfl, hl, hφ, hvb, ho, htp, hou, hs, hkk, hdr⟩
       obtain ⟨hv', hb'⟩ := hvb ((ι.ph φ').lay (base + i) loc) (base + i) (Inj.lay_same _ _ _) (fun _ _ h => h)
       refine ⟨_, _, (ι.ph φ').lay (base + i) loc, k, ⟨(I.ar.mono (ι' := (ι.ph φ').lay (base + i) loc) ⟨fun s x hs => (Inj.le_lay htok1 loc).tok s x hs, hφ.le⟩).put' hd hv', I.wr.lay hφ htok1 htok3 htok2 hl hb' hs hkk, I.ex.lay hφ htok4 hl hdr ho htp hou hs hkk, fun j hj hf => ?_, I.nx, I.b0, I.b1⟩⟩
       rw [Inj.lay_ne _ (by have := hf.2; omega)]
       exact I.fr j hj hf.1
      refine Oper.wp_mono ?_ (call_wp hopp hc hfx hxs I.ar I.wr hf e)
      rintro a' w' ⟨v, r, h', ι', rfl, hr, hv', hw', hx⟩
      refine ⟨_, _, ι', hr, ⟨(I.ar.mono (hx.le I.wr)).put' hd hv', hw', I.ex.trans hx, fun j hj hf => ?_, Nat.le_trans I.nx hx.nx, I.b0, I.b1⟩⟩
      rw [hx.old _ (by have := I.nx; omega)]
      exact I.fr j hj hf.1
   ·exact e.elim
  ·split at e
   ·-- a new block
    split at e
    ·rename_i v cs hal
     obtain ⟨u, vs, el, r1, r2, r3, r4⟩ := soundAl_all I.ar (w := w) hR _ _ _ hal
     unfold Oper.wp
     rw [r1]
     simp only [Oper.upon]
     have hset : (ι.set (base + i) ⟨w.heap.size, 0, vs.size⟩) (base + i) = some ⟨w.heap.size, 0, vs.size⟩ := by simp [Inj.set]
     refine ⟨_, _, ι.set (base + i) ⟨w.heap.size, 0, vs.size⟩, e, ⟨(I.ar.mono (Inj.le_set htok1 _)).put' hd (r4 _ hset), I.wr.alloc htok1 htok2 htok3 el r2 r3, I.ex.alloc htok4 _ _ _, fun j hj hf => ?_, I.nx, I.b0, I.b1⟩⟩
     have : base + j ≠ base + i := by have := hf.2; omega
     simp only [Inj.set, if_neg this]
     exact I.fr j hj hf.1
    ·exact e.elim
   ·-- a value
    split at e
    ·rename_i v hv
     obtain ⟨u, r1, r2⟩ := sound_all I.ar I.wr hR v hv
     unfold Oper.wp
     rw [r1]
     simp only [Oper.upon]
     exact ⟨_, _, ι, e, weak (I.ar.put' hd r2)⟩
    ·exact e.elim
 -- the guard
 cases hgo : o.guard with
 | none =>
   simp only [hgo, Option.some.injEq] at hao
   subst hao
   simp only [evG] at e
   simp only [Region.wanted, hgo, if_true]
   exact .inl (run I e)
 | some jw =>
   obtain ⟨j, want⟩ := jw
   simp only [hgo] at hao
   split at hao
   ·rename_i d hdj
    cases hao
    have hdN : d < N := hg d want rfl
    have rd := I.ar.slot d
    have hyi : yielded ops a.tmps j = match a.tmps.getD d undef with | .bool b => some b | _ => none := by
     unfold yielded
     rw [hdj]
     have : a.tmps[d]? = some (a.tmps.getD d undef) := by
      rw [Array.getD_eq_getD_getElem?, Array.getElem?_eq_getElem (by rw [I.ar.size]; exact hdN)]
      rfl
     simp only [Option.bind_some, this]
     cases a.tmps.getD d undef <;> rfl
    simp only [evG] at e
    split at e
    ·rename_i g hgd
     -- the guard is met if and only if g
     have hw : Region.wanted o (yielded ops a.tmps) = g := by
      have hww : Region.wanted o (yielded ops a.tmps) = (yielded ops a.tmps j == some want) := by simp [Region.wanted, hgo]
      rw [hww, hyi]
      unfold guardOf at hgd
      split at hgd
      ·rename_i b hb
       cases hgd
       rw [hb] at rd
       simp only [VRel] at rd
       rw [rd]
       cases b <;> cases want <;> rfl
      ·rename_i g0 b hb
       cases hgd
       rw [hb] at rd
       simp only [VRel] at rd
       cases g0
       ·rw [rd.2 rfl]; rfl
       ·rw [rd.1 rfl]; cases b <;> cases want <;> rfl
      ·rename_i hb
       cases hgd
       rw [hb] at rd
       simp only [VRel] at rd
       rw [rd.2 trivial]; rfl
      ·rename_i hb
       cases hgd
       rw [hb] at rd
       simp only [VRel] at rd
       obtain ⟨x, hx, _⟩ := rd
       rw [hx]; rfl
      ·cases hgd
     rw [hw]
     -- what holds where the guard is not met
     have skip : ∀ {v : AV}, g = false → K (put o.dst (.gd g v) st) h → (fun a' w' => ∃ st' h' ι', K st' h' ∧ Inv N dfs ι0 h0 w0 base n (fun j => F j ∧ j ≠ i) st' h' a' w' ι') (a.put o.dst undef) w := fun hg0 k =>
      ⟨_, _, ι, k, ⟨I.ar.put' hd (by simp only [VRel]; refine ⟨fun h => ?_, fun _ => rfl⟩; rw [hg0] at h; cases h), I.wr, I.ex, fun j hj hf => I.fr j hj hf.1, I.nx, I.b0, I.b1⟩⟩
     cases g with
     | false =>
       rw [if_neg (by simp)]
       rcases e with e | ⟨e, _⟩
       case inr => cases e
       unfold evC at e
       split at e
       ·split at e
        ·obtain ⟨v, _, k⟩ := e; exact skip rfl k
        ·exact e.elim
       ·split at e
        ·obtain ⟨v, _, k⟩ := e; exact skip rfl k
        ·split at e
         ·exact skip rfl (e.2 rfl)
         ·exact skip rfl (e.2 rfl)
     | true =>
       rw [if_pos rfl]
       refine .inl ?_
       have IS : Inv N dfs ι0 h0 w0 base n F (stS true st) h a w ι := ⟨⟨I.ar.size, I.ar.defs, I.ar.tab, fun d => by rw [stS_get]; exact strip_sound rfl (I.ar.slot d)⟩, I.wr, I.ex, I.fr, I.nx, I.b0, I.b1⟩
       have under : ∀ {v : AV} {u : Value} {ι' : Inj}, VRel ι' v u → VRel ι' (.gd true v) u := fun r => by simp only [VRel]; exact ⟨fun _ => r, fun h => by cases h⟩
       rcases e with e | ⟨_, e⟩
       case inr => exact run IS e
       unfold evC at e
       split at e
       ·-- a call
        rename_i f args
        split at e
        ·rename_i fid fst caps hf
         obtain ⟨v, hcall, k⟩ := e
         generalize hopp : o.op = oo at hR
         cases hR with
         | @call c cf _ _ hc hfx hxs =>
           refine Oper.wp_mono ?_ (call_wp hopp hc hfx hxs IS.ar IS.wr hf (hcall rfl))
           rintro a' w' ⟨u, r, h', ι', rfl, ⟨rfl, rfl⟩, hv', hw', hx⟩
           refine ⟨_, _, ι', k, ⟨(I.ar.mono (hx.le I.wr)).put' hd (under hv'), hw', I.ex.trans hx, fun j hj hf => ?_, Nat.le_trans I.nx hx.nx, I.b0, I.b1⟩⟩
           rw [hx.old _ (by have := I.nx; omega)]
           exact I.fr j hj hf.1
        ·exact e.elim
       ·split at e
        ·obtain ⟨v0, hv0, k⟩ := e
         obtain ⟨u, r1, r2⟩ := sound_all IS.ar IS.wr hR v0 (hv0 rfl)
         unfold Oper.wp
         rw [r1]
         simp only [Oper.upon]
         exact ⟨_, _, ι, k, ⟨I.ar.put' hd (under r2), I.wr, I.ex, fun j hj hf => I.fr j hj hf.1, I.nx, I.b0, I.b1⟩⟩
        ·split at e
         ·have e1 := e.1 rfl
          split at e1
          ·rename_i v cs hal
           have htok1 := I.fr i hi hF
           have htok2 : base + i < h.nx := by have := I.nx; omega
           have htok3 : base + i ≠ 0 := by have := I.b1; omega
           have htok4 : h0.nx ≤ base + i := by have := I.b0; omega
           obtain ⟨u, vs, el, r1, r2, r3, r4⟩ := soundAl_all IS.ar (w := w) hR _ _ _ hal
           unfold Oper.wp
           rw [r1]
           simp only [Oper.upon]
           have hset : (ι.set (base + i) ⟨w.heap.size, 0, vs.size⟩) (base + i) = some ⟨w.heap.size, 0, vs.size⟩ := by simp [Inj.set]
           refine ⟨_, _, ι.set (base + i) ⟨w.heap.size, 0, vs.size⟩, e1, ⟨(I.ar.mono (Inj.le_set htok1 _)).put' hd (under (r4 _ hset)), I.wr.alloc htok1 htok2 htok3 el r2 r3, I.ex.alloc htok4 _ _ _, fun j hj hf => ?_, I.nx, I.b0, I.b1⟩⟩
           have : base + j ≠ base + i := by have := hf.2; omega
           simp only [Inj.set, if_neg this]
           exact I.fr j hj hf.1
          ·exact e1.elim
         ·exact run IS (e.1 rfl)
    ·exact e.elim
   ·cases hao
end
end Go.Am
