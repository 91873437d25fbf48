/- The abstract machine: contracts; one operation of a region; a region whose operations come in the text's order. -/
import Derived.Lib.ConvBytes
import Derived.Laws.AppendOwn
import Derived.Test.YtbhkbaapfioijaaAmH
set_option linter.unusedVariables false
set_option linter.unusedSimpArgs false
namespace Go.Am

/-- A CONTRACT: called with such arguments in a world with such a heap, the function returns a value and leaves a heap of which R holds. -/
structure ACalls (P : Program) (f : Nat) (args : List AV) (h : AH) (R : AV → AH → Prop) : Prop where
  ex : ∃ fn, P.funcs[f]? = some fn ∧ (fn.name == "runtime.NumGoroutine") = false ∧ fn.body.isNone = false
  run : ∀ (ι : Inj) (w : World) (vs : Array Value), WRel ι h w → VRels ι args vs.toList →
    Calls P f vs w fun e w' => ∃ v r h' ι', e = .returned v ∧ R r h' ∧ VRel ι' r v ∧ WRel ι' h' w' ∧ Ext ι h w ι' h' w'

theorem ACalls.mono {P : Program} {f : Nat} {args : List AV} {h : AH} {R R' : AV → AH → Prop} (c : ACalls P f args h R) (hr : ∀ r h', R r h' → R' r h') : ACalls P f args h R' :=
  ⟨c.1, fun ι w vs hw hv => Calls.mono (c.2 ι w vs hw hv) fun e w' ⟨v, r, h', ι', h1, h2, h3⟩ => ⟨v, r, h', ι', h1, hr _ _ h2, h3⟩⟩

/-- What was forgotten may be forgotten from the first: a contract for a smaller heap. -/
theorem ACalls.drop {P : Program} {f : Nat} {args : List AV} {h : AH} {R : AV → AH → Prop} (c : ACalls P f args h R) {R' : AV → AH → Prop} (hr : ∀ r h', R r h' → ∃ h'', h''.le h' ∧ R' r h'') : ACalls P f args h R' :=
  ⟨c.1, fun ι w vs hw hv => Calls.mono (c.2 ι w vs hw hv) fun e w' ⟨v, r, h', ι', h1, h2, h3, h4, h5⟩ => by
    obtain ⟨h'', hle, h2'⟩ := hr _ _ h2
    exact ⟨v, r, h'', ι', h1, h2', h3, h4.drop hle, h5.drop hle⟩⟩

mutual
/-- no token occurs -/
def AV.plain : AV → Bool
  | .p .. | .sl .. | .mp .. => false
  | .fn _ x y => AV.plains x && AV.plains y
  | .ag cs => AV.plains cs
  | .tu cs => AV.plains cs
  | .gd _ v => v.plain
  | .vs _ cs => AV.plains cs
  | .pv cs _ => AV.plains cs
  | _ => true
def AV.plains : List AV → Bool
  | [] => true
  | v :: r => v.plain && AV.plains r
end

mutual
theorem plain_rel {ι ι' : Inj} (hφ : ∀ b xs, ι.φ b = some xs → ι'.φ b = some xs) : ∀ {a : AV} {v : Value}, a.plain = true → VRel ι a v → VRel ι' a v
  | .un, _, _, _ => by simp [VRel]
  | .b x, v, _, r => by simpa [VRel] using r
  | .i k n, v, _, r => by simpa [VRel] using r
  | .s x, v, _, r => by simpa [VRel] using r
  | .p t o, v, q, r => by simp [AV.plain] at q
  | .nilp, v, _, r => by simpa [VRel] using r
  | .sl t o n a, v, q, r => by simp [AV.plain] at q
  | .fn f fst caps, v, q, r => by
    simp only [AV.plain, Bool.and_eq_true] at q
    simp only [VRel] at *; obtain ⟨x, y, h1, h2, h3⟩ := r; exact ⟨x, y, h1, plains_rel hφ q.1 h2, plains_rel hφ q.2 h3⟩
  | .nilf, v, _, r => by simpa [VRel] using r
  | .mp t, v, q, r => by simp [AV.plain] at q
  | .nilm, v, _, r => by simpa [VRel] using r
  | .ag cs, v, q, r => by
    simp only [AV.plain] at q
    simp only [VRel] at *; obtain ⟨x, h1, h2⟩ := r; exact ⟨x, h1, plains_rel hφ q h2⟩
  | .tu cs, v, q, r => by
    simp only [AV.plain] at q
    simp only [VRel] at *; obtain ⟨x, h1, h2⟩ := r; exact ⟨x, h1, plains_rel hφ q h2⟩
  | .gd g a, v, q, r => by
    simp only [AV.plain] at q
    simp only [VRel] at *; exact ⟨fun hg => plain_rel hφ q (r.1 hg), r.2⟩
  | .vs n cs, v, q, r => by
    simp only [AV.plain] at q
    simp only [VRel] at *
    rcases r with r | ⟨b, o, cap, xs, h1, h2, h3, h4⟩
    · exact .inl r
    · exact .inr ⟨b, o, cap, xs, h1, h2, hφ _ _ h3, plains_rel hφ q h4⟩
  | .pv cs o, v, q, r => by
    simp only [AV.plain] at q
    simp only [VRel] at *; obtain ⟨b, s, xs, h1, h2, h3⟩ := r; exact ⟨b, s, xs, h1, hφ _ _ h2, plains_rel hφ q h3⟩
theorem plains_rel {ι ι' : Inj} (hφ : ∀ b xs, ι.φ b = some xs → ι'.φ b = some xs) : ∀ {as : List AV} {vs : List Value}, AV.plains as = true → VRels ι as vs → VRels ι' as vs
  | [], _, _, r => by simpa [VRels] using r
  | a :: as, vs, q, r => by
    simp only [AV.plains, Bool.and_eq_true] at q
    simp only [VRels] at *; obtain ⟨v, t, h1, h2, h3⟩ := r; exact ⟨v, t, h1, plain_rel hφ q.1 h2, plains_rel hφ q.2 h3⟩
end

/-- a value with a hole: the slice itself, or a place among several results -/
def plug : Option (List AV × List AV) → AV → AV
  | none, s => s
  | some (a, b), s => .tu (a ++ s :: b)
def plugOk : Option (List AV × List AV) → Bool
  | none => true
  | some (a, b) => AV.plains a && AV.plains b

theorem VRels_append {ι : Inj} : ∀ {as bs : List AV} {vs : List Value}, VRels ι (as ++ bs) vs ↔ ∃ x y, vs = x ++ y ∧ VRels ι as x ∧ VRels ι bs y
  | [], bs, vs => by
    simp only [List.nil_append, VRels]
    exact ⟨fun h => ⟨[], vs, rfl, rfl, h⟩, fun ⟨x, y, e, h1, h2⟩ => by subst h1; simpa [e] using h2⟩
  | a :: as, bs, vs => by
    simp only [List.cons_append, VRels]
    constructor
    · rintro ⟨v, r, rfl, h1, h2⟩
      obtain ⟨x, y, rfl, h3, h4⟩ := VRels_append.1 h2
      exact ⟨v :: x, y, rfl, ⟨v, x, rfl, h1, h3⟩, h4⟩
    · rintro ⟨x, y, rfl, ⟨v, r, rfl, h1, h2⟩, h3⟩
      exact ⟨v, r ++ y, rfl, h1, VRels_append.2 ⟨r, y, rfl, h2, h3⟩⟩

theorem plug_rel {ι ι' : Inj} (hφ : ∀ b xs, ι.φ b = some xs → ι'.φ b = some xs) {p : Option (List AV × List AV)} {s s' : AV} {u : Value} (hp : plugOk p = true) (r : VRel ι (plug p s) u) (hs : ∀ v, VRel ι s v → VRel ι' s' v) : VRel ι' (plug p s') u := by
  cases p with
  | none => exact hs u r
  | some ab =>
    obtain ⟨a, b⟩ := ab
    simp only [plugOk, Bool.and_eq_true] at hp
    simp only [plug, VRel] at r ⊢
    obtain ⟨x, rfl, r⟩ := r
    refine ⟨x, rfl, ?_⟩
    obtain ⟨y, z, e, h1, h2⟩ := VRels_append.1 r
    simp only [VRels] at h2
    obtain ⟨v, q, rfl, h3, h4⟩ := h2
    rw [e]
    exact VRels_append.2 ⟨y, v :: q, rfl, plains_rel hφ hp.1 h1, by simp only [VRels]; exact ⟨v, q, rfl, hs v h3, plains_rel hφ hp.2 h4⟩⟩

theorem plains_mem : ∀ {xs : List AV} {x : AV}, AV.plains xs = true → x ∈ xs → x.plain = true
  | y :: ys, x, h, hm => by
    simp only [AV.plains, Bool.and_eq_true] at h
    rcases List.mem_cons.1 hm with rfl | hm
    · exact h.1
    · exact plains_mem h.2 hm

def Inj.lay (ι : Inj) (t : Nat) (l : Option Loc) : Inj := ⟨fun s => if s = t then l else ι s, ι.φ⟩
/-- with other knowledge of what is never written again -/
def Inj.ph (ι : Inj) (φ : Nat → Option (Array Value)) : Inj := ⟨ι.f, φ⟩
/-- more is known of what is never written again: of new blocks alone -/
structure PhiOk (φ φ' : Nat → Option (Array Value)) (w w' : World) (loc : Option Loc) : Prop where
  le : ∀ b xs, φ b = some xs → φ' b = some xs
  new : ∀ b xs, φ' b = some xs → φ b = some xs ∨ (w.heap.size ≤ b ∧ (∃ e fz, w'.heap[b]? = some (.cells xs e fz)) ∧ ∀ l, loc = some l → l.b ≠ b)
theorem PhiOk.refl (φ : Nat → Option (Array Value)) (w w' : World) (loc : Option Loc) : PhiOk φ φ w w' loc := ⟨fun _ _ h => h, fun _ _ h => .inl h⟩
theorem Inj.lay_same (ι : Inj) (t : Nat) (l : Option Loc) : ι.lay t l t = l := by simp [Inj.lay]
theorem Inj.lay_ne (ι : Inj) {t s : Nat} (h : s ≠ t) (l : Option Loc) : ι.lay t l s = ι s := by simp [Inj.lay, h]
theorem Inj.le_lay {ι : Inj} {t : Nat} (h : ι t = none) (l : Option Loc) : ι.le (ι.lay t l) := Inj.le_of (hφ := rfl) fun s x hs => by
  have : s ≠ t := fun e => by subst e; rw [h] at hs; cases hs
  rw [Inj.lay_ne ι this]; exact hs

/-- A CONTRACT of a function that leaves everything as it was and yields a new slice: its cells may be laid under any free token. -/
structure FCalls (P : Program) (f : Nat) (args : List AV) (h : AH) (p : Option (List AV × List AV)) (n k : Nat) (cs : List AV) : Prop where
  ex : ∃ fn, P.funcs[f]? = some fn ∧ (fn.name == "runtime.NumGoroutine") = false ∧ fn.body.isNone = false
  run : ∀ (ι : Inj) (w : World) (vs : Array Value), WRel ι h w → VRels ι args vs.toList →
    Calls P f vs w fun e w' => ∃ v loc φ', e = .returned v ∧ (∀ l, loc = some l → w.heap.size ≤ l.b ∧ l.b < w'.heap.size) ∧ PhiOk ι.φ φ' w w' loc ∧
      (∀ (ι' : Inj) (t : Nat), ι' t = loc → (∀ b xs, φ' b = some xs → ι'.φ b = some xs) → VRel ι' (plug p (.sl t 0 n k)) v ∧ BRel ι' w' t (.cells true cs)) ∧
      w'.os = w.os ∧ w'.tape = w.tape ∧ w'.output = w.output ∧ w.heap.size ≤ w'.heap.size ∧ (∀ b, b < w.heap.size → w'.heap[b]? = w.heap[b]?) ∧ w.drawn ≤ w'.drawn

theorem FCalls.frame {P : Program} {f : Nat} {args : List AV} {hb h : AH} {p : Option (List AV × List AV)} {n k : Nat} {cs : List AV} (c : FCalls P f args hb p n k cs) (hle : hb.le h) : FCalls P f args h p n k cs :=
  ⟨c.1, fun ι w vs wr hv => c.2 ι w vs (wr.drop hle) hv⟩

/-- the new block laid under a token -/
theorem WRel.lay {ι : Inj} {h : AH} {w w' : World} {t : Nat} {loc : Option Loc} {bk : Blk} {φ' : Nat → Option (Array Value)} (hφ : PhiOk ι.φ φ' w w' loc) (wr : WRel ι h w) (ht : ι t = none) (ht0 : t ≠ 0) (ht1 : t < h.nx) (hl : ∀ l, loc = some l → w.heap.size ≤ l.b ∧ l.b < w'.heap.size)
    (hb : BRel ((ι.ph φ').lay t loc) w' t bk) (hs : w.heap.size ≤ w'.heap.size) (hk : ∀ b, b < w.heap.size → w'.heap[b]? = w.heap[b]?) : WRel ((ι.ph φ').lay t loc) (h.set t bk) w' := by
  have hle : ι.le ((ι.ph φ').lay t loc) := ⟨fun s l hs => by
    have : s ≠ t := fun e => by subst e; rw [ht] at hs; cases hs
    rw [Inj.lay_ne _ this]; exact hs, hφ.le⟩
  have ln : ∀ {s : Nat}, s ≠ t → ((ι.ph φ').lay t loc) s = ι s := fun h => by rw [Inj.lay_ne _ h]; rfl
  have hm1 : ∀ s c, (h.set t bk).m s = some c → (s = t ∧ c = bk) ∨ (s ≠ t ∧ h.m s = some c) := fun s c hc => by
    unfold AH.set at hc
    by_cases e : s = t
    · subst e; simp only [if_true, Option.some.injEq] at hc; exact .inl ⟨rfl, hc.symm⟩
    · simp only [if_neg e] at hc; exact .inr ⟨e, hc⟩
  refine ⟨fun s l h' => ?_, fun s c hc => ?_, fun s s' l l' c c' hc hc' hll hll' hbb hw => ?_, wr.pos, ?_, fun b xs hx => ?_⟩
  · show s < h.nx ∧ _
    by_cases e : s = t
    · subst e; rw [Inj.lay_same] at h'; exact ⟨ht1, (hl l h').2⟩
    · rw [ln e] at h'; exact ⟨(wr.lt s l h').1, Nat.lt_of_lt_of_le (wr.lt s l h').2 hs⟩
  · show s < h.nx ∧ _
    rcases hm1 s c hc with ⟨rfl, rfl⟩ | ⟨e, hc⟩
    · exact ⟨ht1, hb⟩
    · exact ⟨(wr.blk s c hc).1, (wr.blk s c hc).2.mono hle (ln e) fun l hl => hk l.b (wr.lt s l hl).2⟩
  · rcases hm1 s c hc with ⟨rfl, rfl⟩ | ⟨e, hc⟩ <;> rcases hm1 s' c' hc' with ⟨rfl, rfl⟩ | ⟨e', hc'⟩
    · rfl
    · rw [Inj.lay_same] at hll
      rw [ln e'] at hll'
      have := (hl l hll).1
      have := (wr.lt s' l' hll').2
      omega
    · rw [Inj.lay_same] at hll'
      rw [ln e] at hll
      have := (hl l' hll').1
      have := (wr.lt s l hll).2
      omega
    · rw [ln e] at hll
      rw [ln e'] at hll'
      exact wr.inj s s' l l' c c' hc hc' hll hll' hbb hw
  · rw [ln (Ne.symm ht0)]; exact wr.nil
  · have hx' : φ' b = some xs := hx
    have ow : ∀ s c l, (h.set t bk).m s = some c → c.wr = true → ((ι.ph φ').lay t loc) s = some l → (∃ l0, loc = some l0 ∧ l.b = l0.b) ∨ (∃ c0, h.m s = some c0 ∧ c0.wr = true ∧ ι s = some l) := fun s c l hc hw hl' => by
      rcases hm1 s c hc with ⟨rfl, rfl⟩ | ⟨e, hc⟩
      · rw [Inj.lay_same] at hl'; exact .inl ⟨l, hl', rfl⟩
      · rw [ln e] at hl'; exact .inr ⟨c, hc, hw, hl'⟩
    rcases hφ.new b xs hx' with q | ⟨q1, q2, q3⟩
    · obtain ⟨⟨e, fz, hh⟩, ho⟩ := wr.phi b xs q
      have hlt : b < w.heap.size := (Array.getElem?_eq_some_iff.1 hh).1
      refine ⟨⟨e, fz, (hk b hlt).trans hh⟩, fun s c l hc hw hl' => ?_⟩
      rcases ow s c l hc hw hl' with ⟨l0, h1, h2⟩ | ⟨c0, h1, h2, h3⟩
      · have := (hl l0 h1).1; omega
      · exact ho s c0 l h1 h2 h3
    · refine ⟨q2, fun s c l hc hw hl' => ?_⟩
      rcases ow s c l hc hw hl' with ⟨l0, h1, h2⟩ | ⟨c0, h1, h2, h3⟩
      · rw [h2]; exact q3 l0 h1
      · have := (wr.lt s l h3).2; omega

theorem Ext.lay {ι0 ι : Inj} {h0 h : AH} {w0 w w' : World} {t : Nat} {loc : Option Loc} {bk : Blk} {φ' : Nat → Option (Array Value)} (hφ : PhiOk ι.φ φ' w w' loc) (x : Ext ι0 h0 w0 ι h w) (ht : h0.nx ≤ t) (hl : ∀ l, loc = some l → w.heap.size ≤ l.b ∧ l.b < w'.heap.size)
    (hdr : w.drawn ≤ w'.drawn) (ho : w'.os = w.os) (htp : w'.tape = w.tape) (hou : w'.output = w.output) (hs : w.heap.size ≤ w'.heap.size) (hk : ∀ b, b < w.heap.size → w'.heap[b]? = w.heap[b]?) : Ext ι0 h0 w0 ((ι.ph φ').lay t loc) (h.set t bk) w' := by
  have ln : ∀ {s : Nat}, s ≠ t → ((ι.ph φ').lay t loc) s = ι s := fun h => by rw [Inj.lay_ne _ h]; rfl
  refine ⟨x.nx, fun s hs' => ?_, ho.trans x.os, htp.trans x.tape, hou.trans x.output, Nat.le_trans x.size hs, fun b hb hkk => ?_, fun s c l hc hcw hll => ?_, fun b xs hb => hφ.le b xs (x.phi b xs hb), fun b xs hb => ?_, Nat.le_trans x.drawn hdr⟩
  · rw [ln (by omega)]; exact x.old s hs'
  · rw [hk b (Nat.lt_of_lt_of_le hb x.size)]; exact x.keep b hb hkk
  · unfold AH.set at hc
    by_cases e : s = t
    · subst e
      rw [Inj.lay_same] at hll
      have := (hl l hll).1
      have := x.size
      exact .inl (by omega)
    · simp only [if_neg e] at hc
      rw [ln e] at hll
      exact x.img s c l hc hcw hll
  · rcases hφ.new b xs hb with q | ⟨q1, _⟩
    · exact x.new b xs q
    · exact .inr (.inl (Nat.le_trans x.size q1))

/-- a row of a writable token, changed for good -/
theorem WRel.refit {ι : Inj} {h : AH} {w w' : World} (r : WRel ι h w) {t : Nat} {c0 : Blk} (hm : h.m t = some c0) (hw0 : c0.wr = true) {l : Loc} (hl : ι t = some l) {bk : Blk} (hs : w'.heap.size = w.heap.size) (hk : ∀ b, b ≠ l.b → w'.heap[b]? = w.heap[b]?) (hb : BRel ι w' t bk) :
    WRel ι (h.set t bk) w' := by
  have hm1 : ∀ s c, (h.set t bk).m s = some c → (s = t ∧ c = bk) ∨ (s ≠ t ∧ h.m s = some c) := fun s c hc => by
    unfold AH.set at hc
    by_cases e : s = t
    · subst e; simp only [if_true, Option.some.injEq] at hc; exact .inl ⟨rfl, hc.symm⟩
    · simp only [if_neg e] at hc; exact .inr ⟨e, hc⟩
  have ht := (r.blk t _ hm).1
  refine ⟨fun s l' h' => ⟨(r.lt s l' h').1, by rw [hs]; exact (r.lt s l' h').2⟩, fun s c hc => ?_, fun s s' l1 l2 c c' hc hc' hl1 hl2 hbb hw => ?_, r.pos, r.nil, phi_step (h' := h.set t bk) r rfl (fun b _ ho => hk b fun e => ho t _ l hm hw0 hl e.symm) fun s c l' hc hcw hl' => ?_⟩
  · show s < h.nx ∧ _
    rcases hm1 s c hc with ⟨rfl, rfl⟩ | ⟨e, hc⟩
    · exact ⟨ht, hb⟩
    · refine ⟨(r.blk s c hc).1, (r.blk s c hc).2.mono (Inj.le_refl _) rfl fun l' hl' => hk l'.b fun hbb => ?_⟩
      exact e (r.inj s t l' l c _ hc hm hl' hl hbb (.inr hw0))
  · rcases hm1 s c hc with ⟨rfl, rfl⟩ | ⟨e, hcA⟩ <;> rcases hm1 s' c' hc' with ⟨rfl, rfl⟩ | ⟨e', hcB⟩
    · rfl
    · exact r.inj _ _ l1 l2 _ c' hm hcB hl1 hl2 hbb (.inl hw0)
    · exact r.inj _ _ l1 l2 c _ hcA hm hl1 hl2 hbb (.inr hw0)
    · exact r.inj _ _ l1 l2 c c' hcA hcB hl1 hl2 hbb hw
  · rcases hm1 s c hc with ⟨rfl, rfl⟩ | ⟨e, hcA⟩
    · exact .inr ⟨s, _, l', hm, hw0, hl', rfl⟩
    · exact .inr ⟨s, c, l', hcA, hcw, hl', rfl⟩
theorem Ext.refit {ι0 ι : Inj} {h0 h : AH} {w0 w w' : World} (x : Ext ι0 h0 w0 ι h w) {t : Nat} {c0 : Blk} (hm : h.m t = some c0) (hw0 : c0.wr = true) {l : Loc} (hl : ι t = some l) {bk : Blk} (hs : w'.heap.size = w.heap.size) (hk : ∀ b, b ≠ l.b → w'.heap[b]? = w.heap[b]?)
    (hdr : w.drawn ≤ w'.drawn) (ho : w'.os = w.os) (htp : w'.tape = w.tape) (hou : w'.output = w.output) : Ext ι0 h0 w0 ι (h.set t bk) w' := by
  refine ⟨x.nx, x.old, ho.trans x.os, htp.trans x.tape, hou.trans x.output, by rw [hs]; exact x.size, fun b hb hkk => ?_, fun s c l' hc hcw hll => ?_, x.phi, x.new, Nat.le_trans x.drawn hdr⟩
  · by_cases e : b = l.b
    · rcases x.img t _ l hm hw0 hl with q | ⟨t0, c0, l0, q1, q2, q3, q4⟩
      · omega
      · exact absurd (q4.trans e.symm) (hkk t0 c0 l0 q1 q2 q3)
    · rw [hk b e]; exact x.keep b hb hkk
  · unfold AH.set at hc
    by_cases e : s = t
    · subst e
      rw [hl] at hll; cases hll
      exact x.img _ _ l hm hw0 hl
    · simp only [if_neg e] at hc
      exact x.img s c l' hc hcw hll

/-- A call in a region: by a contract; or by one for a new slice, whose cells are laid under the operation's token. -/
def CallsA (P : Program) (tok : Nat) (f : Nat) (args : List AV) (h : AH) (K : AV → AH → Prop) : Prop :=
  ACalls P f args h K ∨ ∃ p n k cs, FCalls P f args h p n k cs ∧ K (plug p (.sl tok 0 n k)) (h.set tok (.cells true cs))
theorem CallsA.mono {P : Program} {tok f : Nat} {args : List AV} {h : AH} {K K' : AV → AH → Prop} (c : CallsA P tok f args h K) (hk : ∀ r h', K r h' → K' r h') : CallsA P tok f args h K' :=
  c.imp (fun c => c.mono hk) fun ⟨p, n, k, cs, c, q⟩ => ⟨p, n, k, cs, c, hk _ _ q⟩

def put (d : Option Nat) (v : AV) (st : St) : St :=
  match d with
  | some d => (d, v) :: st
  | none => st

def AOp.isAl : AOp → Bool
  | .box _ | .alloc _ | .bsl .. | .mks .. => true
  | _ => false

/-- ONE OPERATION, run. -/
def evA (P : Program) (tok : Nat) (d : Option Nat) (o : AOp) (st : St) (h : AH) (K : St → AH → Prop) : Prop :=
  match o with
  | .sto n x v => match h.sto n (x.val st) (v.val st) with
    | some h' => K (put d .un st) h'
    | none => False
  | .app k b x y => match h.app k b tok (x.val st) (y.val st) with
    | some (r, h') => K (put d r st) h'
    | none => False
  | .byt x => match x.val st with
    | .s b => K (put d (.sl tok 0 b.size 0) st) (h.set tok (.frz (bcells b)))
    | _ => False
  | .cvt x => match h.cvt (x.val st) with
    | some h' => K (put d (x.val st) st) h'
    | none => False
  | .eqz ng x => match x.val st with
    | .sl _ _ n _ => if n = 0 then ∀ b, K (put d (.b b) st) h else K (put d (.b ng) st) h
    | .vs n _ => if n = 0 then ∀ b, K (put d (.b b) st) h else K (put d (.b ng) st) h
    | _ => False
  | .mkm => K (put d (.mp tok) st) (h.set tok (.map []))
  | .mup kk x k v => match h.mup kk (x.val st) (k.val st) (v.val st) with
    | some h' => K (put d .un st) h'
    | none => False
  | .call f args => match f.val st with
    | .fn f fst caps => CallsA P tok f (fst ++ args.map (AX.val st) ++ caps) h fun r h' => K (put d r st) h'
    | _ => False
  | o => if o.isAl then match o.al (AX.val st) tok with
      | some (v, cs) => K (put d v st) (h.set tok (.cells true cs))
      | none => False
    else match o.ev (AX.val st) h with
      | some v => K (put d v st) h
      | none => False

def AOp.isVal : AOp → Bool
  | .box _ | .alloc _ | .bsl .. | .mks .. | .sto .. | .app .. | .byt _ | .cvt _ | .eqz .. | .mkm | .mup .. | .call .. => false
  | _ => true
/-- is a guard met? -/
def guardOf (v : AV) (want : Bool) : Option Bool :=
  match v with
  | .b b => some (b == want)
  | .gd g (.b b) => some (g && (b == want))
  | .tu [] => some false
  | _ => none
def stS (g : Bool) (st : St) : St := st.map fun p => (p.1, strip g p.2)
theorem stS_get (g : Bool) : ∀ (st : St) (d : Nat), (stS g st).get d = strip g (st.get d)
  | [], d => by simp [stS, St.get, strip]
  | (k, v) :: r, d => by
    have ih := stS_get g r d
    simp only [stS] at ih
    simp only [stS, List.map_cons, St.get]
    split
    · rfl
    · exact ih

/-- ONE OPERATION under a condition: where it does not hold the slot says so. -/
def evC (P : Program) (tok : Nat) (g : Bool) (d : Option Nat) (o : AOp) (st : St) (h : AH) (K : St → AH → Prop) : Prop :=
  match o with
  | .call f args => match f.val (stS g st) with
    | .fn f fst caps => ∃ v, (g = true → ACalls P f (fst ++ args.map (AX.val (stS g st)) ++ caps) h fun r h' => r = v ∧ h' = h) ∧ K (put d (.gd g v) st) h
    | _ => False
  | o => if o.isVal then ∃ v, (g = true → o.ev (AX.val (stS g st)) h = some v) ∧ K (put d (.gd g v) st) h
    else if o.isAl then (g = true → match o.al (AX.val (stS g st)) tok with
        | some (v, cs) => K (put d (.gd g v) st) (h.set tok (.cells true cs))
        | none => False) ∧ (g = false → K (put d (.gd g .un) st) h)
    else (g = true → evA P tok d o (stS g st) h K) ∧ (g = false → K (put d (.gd g .un) st) h)

/-- Under its guard. -/
def evG (P : Program) (tok : Nat) (o : AOper) (st : St) (h : AH) (K : St → AH → Prop) : Prop :=
  match o.g with
  | none => evA P tok o.d o.op st h K
  | some (s, want) => match guardOf (st.get s) want with
    | some g => evC P tok g o.d o.op st h K ∨ (g = true ∧ evA P tok o.d o.op (stS true st) h K)
    | none => False

theorem evA_mono {P : Program} {tok : Nat} {d : Option Nat} {o : AOp} {st : St} {h : AH} {K K' : St → AH → Prop} (hk : ∀ s h, K s h → K' s h) (e : evA P tok d o st h K) : evA P tok d o st h K' := by
  cases o <;> simp only [evA, AOp.isAl, if_true, if_false, Bool.false_eq_true] at e ⊢
  case sto n x v => generalize h.sto n (x.val st) (v.val st) = r at e ⊢; cases r <;> first | exact e.elim | exact hk _ _ e
  case app k b x y => generalize h.app k b tok (x.val st) (y.val st) = r at e ⊢; cases r <;> first | exact e.elim | exact hk _ _ e
  case cvt x => generalize h.cvt (x.val st) = r at e ⊢; cases r <;> first | exact e.elim | exact hk _ _ e
  case eqz ng x =>
    split at e
    · split at e
      · rename_i h0; simp only [h0]; exact fun b => hk _ _ (e b)
      · rename_i h0; simp only [h0]; exact hk _ _ e
    · split at e
      · rename_i h0; simp only [h0]; exact fun b => hk _ _ (e b)
      · rename_i h0; simp only [h0]; exact hk _ _ e
    · exact e.elim
  case byt x => generalize x.val st = r at e ⊢; cases r <;> first | exact e.elim | exact hk _ _ e
  case mkm => exact hk _ _ e
  case mup kk x k v => generalize h.mup kk (x.val st) (k.val st) (v.val st) = r at e ⊢; cases r <;> first | exact e.elim | exact hk _ _ e
  case call f args => generalize f.val st = r at e ⊢; cases r <;> first | exact e.elim | exact CallsA.mono e fun r h' => hk _ _
  case box => generalize AOp.al (AX.val st) tok _ = r at e ⊢; cases r <;> first | exact e.elim | exact hk _ _ e
  case alloc => generalize AOp.al (AX.val st) tok _ = r at e ⊢; cases r <;> first | exact e.elim | exact hk _ _ e
  case bsl => generalize AOp.al (AX.val st) tok _ = r at e ⊢; cases r <;> first | exact e.elim | exact hk _ _ e
  case mks => generalize AOp.al (AX.val st) tok _ = r at e ⊢; cases r <;> first | exact e.elim | exact hk _ _ e
  all_goals (generalize AOp.ev (AX.val st) h _ = r at e ⊢; cases r <;> first | exact e.elim | exact hk _ _ e)

/-- How a region's operation is read. -/
def AOper.of (P : Program) (ops : Array Oper) (o : Oper) : Option AOper := do
  let op ← AOp.of P o.op
  match o.guard with
  | none => some ⟨o.dst, none, op⟩
  | some (j, w) => match (ops[j]?).bind (·.dst) with
    | some d => some ⟨o.dst, some (d, w), op⟩
    | none => none

/-- What holds between two operations: the slots, the heap, and the world; 'F' tells which operations have not been run (their tokens are free). -/
structure Inv (N : Nat) (ι0 : Inj) (h0 : AH) (w0 : World) (base n : Nat) (F : Nat → Prop) (st : St) (h : AH) (a : Act) (w : World) (ι : Inj) : Prop where
  ar : ARel N ι st a
  wr : WRel ι h w
  ex : Ext ι0 h0 w0 ι h w
  fr : ∀ j, j < n → F j → ι (base + j) = none
  nx : base + n ≤ h.nx
  b0 : h0.nx ≤ base
  b1 : 0 < base

section
variable {P : Program} {N : Nat} {ι0 : Inj} {h0 : AH} {w0 : World} {base n : Nat} {F : Nat → Prop} {st : St} {h : AH} {a : Act} {w : World} {ι : Inj} {ops : Array Oper} {Q : Exit → Act → World → Prop}

theorem ARel.put' (r : ARel N ι st a) {d : Option Nat} (hd : ∀ x, d = some x → x < N) {v : AV} {u : Value} (hv : VRel ι v u) : ARel N ι (Go.Am.put d v st) (a.put d u) := by
  cases d with
  | none => exact r
  | some d => exact r.put (hd d rfl) hv

/-- A call by a contract. -/
theorem call_wp {o : Oper} {c : Call} {f : Operand} {af : AX} {axs : List AX} (hopp : o.op = .call c) (hc : c.callee = .value f) (hfx : toX f = some af) (hxs : toXs c.args = some axs) (ar : ARel N ι st a) (wr : WRel ι h w)
    {fid : Nat} {fst caps : List AV} (hf : af.val st = .fn fid fst caps) {R : AV → AH → Prop} (e : ACalls P fid (fst ++ axs.map (AX.val st) ++ caps) h R) :
    o.wp P a w (fun a' w' => ∃ v r h' ι', a' = a.put o.dst v ∧ R r h' ∧ VRel ι' r v ∧ WRel ι' h' w' ∧ Ext ι h w ι' h' w') Q := by
  have rf := toX_sound ar hfx
  rw [hf] at rf
  simp only [VRel] at rf
  obtain ⟨x1, y1, hv, q1, q2⟩ := rf
  have qa := toXs_sound ar (xs := c.args.toList) hxs
  obtain ⟨⟨fn, hfn, hnm, hbd⟩, hcall⟩ := e
  have hrel : VRels ι (fst ++ axs.map (AX.val st) ++ caps) (x1 ++ c.args.map a.eval ++ y1).toList := by
    simp only [Array.toList_append, Array.toList_map]
    exact (q1.append qa).append q2
  have hrun : (execOp a.eval o).run P w = .ok (.enter fid (x1 ++ c.args.map a.eval ++ y1)) w := by
    have hnm2 : fn.name ≠ "runtime.NumGoroutine" := by intro hh; simp [hh] at hnm
    have hbd2 : fn.body ≠ none := by intro hh; simp [hh] at hbd
    simp [execOp, hopp, resolve, hc, hv, Deferred.ofValue, invoke, callFunc, hfn, hnm2, hbd2]
  unfold Oper.wp
  rw [hrun]
  simp only [Oper.upon]
  refine Calls.mono (hcall ι w _ wr hrel) fun e' w' he => ?_
  obtain ⟨v, r, h', ι', rfl, hr, hv', hw', hx⟩ := he
  exact ⟨v, r, h', ι', rfl, hr, hv', hw', hx⟩

theorem fcall_wp {o : Oper} {c : Call} {f : Operand} {af : AX} {axs : List AX} (hopp : o.op = .call c) (hc : c.callee = .value f) (hfx : toX f = some af) (hxs : toXs c.args = some axs) (ar : ARel N ι st a) (wr : WRel ι h w)
    {fid : Nat} {fst caps : List AV} (hf : af.val st = .fn fid fst caps) {p : Option (List AV × List AV)} {nn kk : Nat} {cs : List AV} (e : FCalls P fid (fst ++ axs.map (AX.val st) ++ caps) h p nn kk cs) :
    o.wp P a w (fun a' w' => ∃ v loc φ', a' = a.put o.dst v ∧ (∀ l, loc = some l → w.heap.size ≤ l.b ∧ l.b < w'.heap.size) ∧ PhiOk ι.φ φ' w w' loc ∧
      (∀ (ι' : Inj) (t : Nat), ι' t = loc → (∀ b xs, φ' b = some xs → ι'.φ b = some xs) → VRel ι' (plug p (.sl t 0 nn kk)) v ∧ BRel ι' w' t (.cells true cs)) ∧
      w'.os = w.os ∧ w'.tape = w.tape ∧ w'.output = w.output ∧ w.heap.size ≤ w'.heap.size ∧ (∀ b, b < w.heap.size → w'.heap[b]? = w.heap[b]?) ∧ w.drawn ≤ w'.drawn) Q := by
  have rf := toX_sound ar hfx
  rw [hf] at rf
  simp only [VRel] at rf
  obtain ⟨x1, y1, hv, q1, q2⟩ := rf
  have qa := toXs_sound ar (xs := c.args.toList) hxs
  obtain ⟨⟨fn, hfn, hnm, hbd⟩, hcall⟩ := e
  have hrel : VRels ι (fst ++ axs.map (AX.val st) ++ caps) (x1 ++ c.args.map a.eval ++ y1).toList := by
    simp only [Array.toList_append, Array.toList_map]
    exact (q1.append qa).append q2
  have hrun : (execOp a.eval o).run P w = .ok (.enter fid (x1 ++ c.args.map a.eval ++ y1)) w := by
    have hnm2 : fn.name ≠ "runtime.NumGoroutine" := by intro hh; simp [hh] at hnm
    have hbd2 : fn.body ≠ none := by intro hh; simp [hh] at hbd
    simp [execOp, hopp, resolve, hc, hv, Deferred.ofValue, invoke, callFunc, hfn, hnm2, hbd2]
  unfold Oper.wp
  rw [hrun]
  simp only [Oper.upon]
  refine Calls.mono (hcall ι w _ wr hrel) fun e' w' he => ?_
  obtain ⟨v, loc, φ', rfl, hr⟩ := he
  exact ⟨v, loc, φ', rfl, hr⟩

theorem cvt_run (ra : ARel N ι st a) (rw' : WRel ι h w) {o : Oper} {s d : TypeId} {x : Operand} (ho : o.op = .convert s d x) (hsd : s = d) {e e' : TypeId} (hs : P.underlying s = some (.slice e')) (hd : P.underlying d = some (.slice e)) (he : P.underlying e = some (.int .u8))
    {ax : AX} (hx : toX x = some ax) {h' : AH} (hc : h.cvt (ax.val st) = some h') :
    ∃ t n l cs, h.m t = some (.cells true cs) ∧ ι t = some l ∧ (execOp a.eval o).run P w = .ok (.value (a.eval x)) (w.freeze ⟨l.b, n, none⟩ 1) ∧ (w.freeze ⟨l.b, n, none⟩ 1).heap.size = w.heap.size ∧ (∀ b, b ≠ l.b → (w.freeze ⟨l.b, n, none⟩ 1).heap[b]? = w.heap[b]?) ∧
      BRel ι (w.freeze ⟨l.b, n, none⟩ 1) t (.frz cs) ∧ h' = h.set t (.frz cs) := by
  have rx := toX_sound ra hx
  unfold AH.cvt at hc
  split at hc
  · rename_i t o' n m h1
    rw [h1] at rx
    simp only [VRel] at rx
    split at hc
    · cases hc
    · rename_i h0
      split at hc
      · rename_i cs hm
        cases hc
        rcases rx with ⟨h0', _⟩ | ⟨l, cap, hl, hy, _⟩
        · exact absurd h0' h0
        · have hb := (rw'.blk t _ hm).2
          simp only [BRel] at hb
          rcases hb with ⟨_, hn⟩ | ⟨l', vs, el, fz, hl', hh, h3, h4, h5, h6⟩
          · rw [hl] at hn; cases hn
          rw [hl] at hl'; cases hl'
          have hfz := h5 trivial
          subst hfz
          have hlt : l.b < w.heap.size := (rw'.lt t l hl).2
          have hsh : w.shape? l.b = some (el, vs.size) := by simp [World.shape?, hh]
          have hmk : (markStringish ⟨l.b, l.sh + o', none⟩).run P w = .ok () (w.freeze ⟨l.b, vs.size, none⟩ 1) := by
            simp [markStringish, hsh]
          have hheap : (w.freeze ⟨l.b, vs.size, none⟩ 1).heap[l.b]? = some (.cells vs el (vs.size, vs.size + 1)) := by
            simp [World.freeze, Array.getElem?_modify, hh]
          refine ⟨t, vs.size, l, cs, hm, hl, ?_, by simp [World.freeze], fun b hb => ?_, ?_, rfl⟩
          · subst hsd
            have hee : e' = e := by rw [hs] at hd; cases hd; rfl
            subst hee
            simp [execOp, ho, hy, convert, und_run hs, und_run he, hmk]
          · simp [World.freeze, Array.getElem?_modify, Ne.symm hb]
          · simp only [BRel]
            exact ⟨l, vs, el, hl, hheap, h3, h4, h6⟩
      · cases hc
  · cases hc
theorem run_eqz {o : Oper} {op : BinOp} {xt yt : TypeId} {x : Operand} (ho : o.op = .binOp op xt x (.const (.slice none 0 0)) yt) (hop : op = .eql ∨ op = .neq) {e : TypeId} (hu : P.underlying xt = some (.slice e)) {c : Option Addr} {n cap : Nat} (hx : a.eval x = .slice c n cap) :
    (execOp a.eval o).run P w = .ok (.value (.bool (c.isNone != (op == .neq)))) w := by
  have h0 : ∀ d, (Op.equalIn (d + 1) xt (.slice c n cap) (.slice none 0 0)).run P w = .ok c.isNone w := by
    intro d
    cases c <;> simp [Op.equalIn, und_run hu]
  have h1 := h0 9999
  have h2 : a.eval (.const (.slice none 0 0)) = .slice none 0 0 := rfl
  rcases hop with rfl | rfl
  · simp [execOp, ho, hx, h2, eqGuard, binOp, Op.equal, Op.maxDepth, h1]
    cases c <;> rfl
  · simp [execOp, ho, hx, h2, eqGuard, binOp, Op.equal, Op.maxDepth, h1]
    try (cases c <;> rfl)
theorem run_byt {o : Oper} {s d : TypeId} {x : Operand} (ho : o.op = .convert s d x) {e : TypeId} (hs : P.underlying s = some .string) (hd : P.underlying d = some (.slice e)) (he : P.underlying e = some (.int .u8)) {b : ByteArray} (hx : a.eval x = .string b) :
    (execOp a.eval o).run P w = .ok (.value (.slice (some ⟨w.heap.size, 0, none⟩) b.size (grownCap w b.size 0 e))) (Lib.bytesWorld w e b) := by
  have := Lib.run_convert_string_bytes w s d e b hs hd he
  simp only [execOp, ho, hx, Sem.run_bind, Sem.run_map, this, Result.andThen_ok, Sem.run_pure]
theorem byt_rel {e : TypeId} (b : ByteArray) (ι' : Inj) (t : Nat) (hι : ι' t = some ⟨w.heap.size, 0, (Lib.bytesCells w e b).size⟩) :
    VRel ι' (.sl t 0 b.size 0) (.slice (some ⟨w.heap.size, 0, none⟩) b.size (grownCap w b.size 0 e)) ∧ BRel ι' (Lib.bytesWorld w e b) t (.frz (bcells b)) := by
  have hg := grownCap_ge w b.size 0 e
  have hsz : (Lib.bytesCells w e b).size = grownCap w b.size 0 e := by
    simp only [Lib.bytesCells, Array.size_append, Array.size_map, Array.size_replicate]
    have : b.data.size = b.size := rfl
    omega
  refine ⟨?_, ?_⟩
  · simp only [VRel]
    exact .inr ⟨_, _, hι, rfl, hg, .inl trivial⟩
  · refine ⟨_, _, e, hι, Lib.bytesWorld_at_new w e b, rfl, ?_, fun i a' hi => ?_⟩
    · simp only [bcells, List.length_map, Array.length_toList, Nat.zero_add]
      have : b.data.size = b.size := rfl
      omega
    · simp only [bcells, List.getElem?_map, Option.map_eq_some_iff] at hi
      obtain ⟨c, hc, rfl⟩ := hi
      have hlt : i < b.data.size := by
        have := (List.getElem?_eq_some_iff.1 hc).1
        simpa using this
      refine ⟨.int .u8 c.toNat, ?_, by simp only [VRel]⟩
      have hc' : b.data[i]? = some c := by simpa using hc
      simp only [Lib.bytesCells, Nat.zero_add]
      rw [Array.getElem?_append_left (by simpa using hlt), Array.getElem?_map, hc']
      rfl

/-- THE STEP: one operation of a region, at the concrete machine. -/
theorem evG_wpOp {i : Nat} {o : Oper} (ho : ops[i]? = some o) {ao : AOper} (hao : AOper.of P ops o = some ao) (hd : ∀ x, o.dst = some x → x < N) (hg : ∀ s b, ao.g = some (s, b) → s < N)
    (hi : i < n) (hF : F i) (I : Inv N ι0 h0 w0 base n F st h a w ι) {K : St → AH → Prop} (e : evG P (base + i) ao st h K) :
    wpOp P ops Q i (fun a' w' => ∃ st' h' ι', K st' h' ∧ Inv N ι0 h0 w0 base n (fun j => F j ∧ j ≠ i) st' h' a' w' ι') a w := by
  unfold AOper.of at hao
  simp only [Option.bind_eq_bind, Option.bind_eq_some_iff] at hao
  obtain ⟨op, hop, hao⟩ := hao
  have hR := of_R hop
  unfold wpOp
  simp only [ho]
  -- what a run of the operation gives
  have run : ∀ {st : St} {K : St → AH → Prop}, Inv N ι0 h0 w0 base n F st h a w ι → evA P (base + i) o.dst op st h K → o.wp P a w (fun a' w' => ∃ st' h' ι', K st' h' ∧ Inv N ι0 h0 w0 base n (fun j => F j ∧ j ≠ i) st' h' a' w' ι') Q := by
    intro st K I e
    have weak : ∀ {st' a'}, ARel N ι st' a' → Inv N ι0 h0 w0 base n (fun j => F j ∧ j ≠ i) st' h a' w ι := fun r => ⟨r, I.wr, I.ex, fun j hj hf => I.fr j hj hf.1, I.nx, I.b0, I.b1⟩
    have htok1 := I.fr i hi hF
    have htok2 : base + i < h.nx := by have := I.nx; omega
    have htok3 : base + i ≠ 0 := by have := I.b1; omega
    have htok4 : h0.nx ≤ base + i := by have := I.b0; omega
    unfold evA at e
    split at e
    · -- a store
      rename_i n' x v
      split at e
      · rename_i h' hs
        generalize hopp : o.op = oo at hR
        cases hR with
        | sto hn hx hv =>
          obtain ⟨u, w', ι', r1, r2, r3, r4, r5, r6⟩ := sto_moves (P := P) I.ar I.wr hopp hn hx hv hs (base + i)
          unfold Oper.wp
          rw [r1]
          simp only [Oper.upon]
          refine ⟨_, _, ι', e, ⟨(I.ar.mono r2).put' hd (by simp [VRel]), r5, r6 _ _ _ I.ex htok4, fun j hj hf => ?_, ?_, I.b0, I.b1⟩⟩
          · rw [r3 _ (by have := hf.2; omega)]; exact I.fr j hj hf.1
          · have := I.nx
            unfold AH.sto at hs
            split at hs
            · split at hs
              · simp only [Option.map_eq_some_iff] at hs
                obtain ⟨_, _, rfl⟩ := hs
                exact this
              · cases hs
            · cases hs
      · exact e.elim
    · -- an append
      rename_i k b x y
      split at e
      · rename_i r h' hs
        generalize hopp : o.op = oo at hR
        cases hR with
        | app hc hat har ht hu hk hb hz hzl hx hy =>
          obtain ⟨u, w', ι', r1, r2, r3, r4, r5, r6⟩ := app_moves (P := P) I.ar I.wr hopp hc hat har ht hu hk hb hz hzl hx hy hs htok1 htok2 htok3
          unfold Oper.wp
          rw [r1]
          simp only [Oper.upon]
          refine ⟨_, _, ι', e, ⟨(I.ar.mono r2).put' hd r4, r5, r6 _ _ _ I.ex htok4, fun j hj hf => ?_, ?_, I.b0, I.b1⟩⟩
          · rw [r3 _ (by have := hf.2; omega)]; exact I.fr j hj hf.1
          · have := I.nx
            unfold AH.app at hs
            split at hs
            · split at hs
              · split at hs
                · split at hs
                  · cases hs; exact this
                  · cases hs
                · split at hs
                  · split at hs
                    · cases hs; exact this
                    · cases hs
                  · cases hs
              · cases hs
            · cases hs
      · exact e.elim
    · -- the bytes of a string
      rename_i x
      split at e
      · rename_i b hb
        generalize hopp : o.op = oo at hR
        cases hR with
        | @byt _ _ _ e' _ hs hd' he hx =>
          have rx := toX_sound I.ar hx
          rw [hb] at rx
          simp only [VRel] at rx
          unfold Oper.wp
          rw [run_byt (P := P) hopp hs hd' he rx]
          simp only [Oper.upon]
          have hl : ∀ l, some (⟨w.heap.size, 0, (Lib.bytesCells w e' b).size⟩ : Loc) = some l → w.heap.size ≤ l.b ∧ l.b < (Lib.bytesWorld w e' b).heap.size := fun l hl => by
            simp only [Option.some.injEq] at hl
            subst hl
            rw [Lib.bytesWorld_size]
            exact ⟨Nat.le_refl _, Nat.lt_succ_self _⟩
          obtain ⟨hvr, hbr⟩ := byt_rel (w := w) (e := e') b (ι.lay (base + i) (some ⟨w.heap.size, 0, (Lib.bytesCells w e' b).size⟩)) (base + i) (Inj.lay_same _ _ _)
          have hsz : w.heap.size ≤ (Lib.bytesWorld w e' b).heap.size := by rw [Lib.bytesWorld_size]; exact Nat.le_succ _
          have hkk := fun b' hb' => Lib.bytesWorld_at_old w e' b b' hb'
          refine ⟨_, _, ι.lay (base + i) _, e, ⟨(I.ar.mono (Inj.le_lay htok1 _)).put' hd hvr, WRel.lay (PhiOk.refl _ _ _ _) I.wr htok1 htok3 htok2 hl hbr hsz hkk, Ext.lay (PhiOk.refl _ _ _ _) I.ex htok4 hl (by first | exact Nat.le_refl _ | exact Nat.le_succ _) rfl rfl rfl hsz hkk, fun j hj hf => ?_, I.nx, I.b0, I.b1⟩⟩
          rw [Inj.lay_ne ι (by have := hf.2; omega)]
          exact I.fr j hj hf.1
      · exact e.elim
    · -- a converted row
      rename_i x
      split at e
      · rename_i h' hs
        generalize hopp : o.op = oo at hR
        cases hR with
        | @cvt s d x' e1 e2 _ hsd hsu hd' he hx =>
          obtain ⟨t, n, l, cs, hm, hl, hrun, hs', hk, hbr, hh'⟩ := cvt_run (P := P) I.ar I.wr hopp hsd hsu hd' he hx hs
          unfold Oper.wp
          rw [hrun]
          simp only [Oper.upon]
          subst hh'
          exact ⟨_, _, ι, e, ⟨I.ar.put' hd (toX_sound I.ar hx), I.wr.refit hm rfl hl hs' hk hbr, I.ex.refit hm rfl hl hs' hk (Nat.le_refl _) rfl rfl rfl, fun j hj hf => I.fr j hj hf.1, I.nx, I.b0, I.b1⟩⟩
      · exact e.elim
    · -- is a slice nil?
      rename_i ng x
      split at e
      · rename_i t o' n' a' hb
        generalize hopp : o.op = oo at hR
        cases hR with
        | @eqz op xt yt x' e' _ hq hu hx =>
          have rx := toX_sound I.ar hx
          rw [hb] at rx
          simp only [VRel] at rx
          unfold Oper.wp
          rcases rx with ⟨h0, y, hy⟩ | ⟨l, cap, hl, hy, _⟩
          · rw [run_eqz (P := P) hopp hq hu hy]
            simp only [Oper.upon]
            rw [if_pos h0] at e
            exact ⟨_, _, ι, e (y.isNone != (op == BinOp.neq)), weak (I.ar.put' hd (by simp only [VRel]))⟩
          · rw [run_eqz (P := P) hopp hq hu hy]
            simp only [Oper.upon]
            split at e
            · exact ⟨_, _, ι, e ((some (⟨l.b, l.sh + o', none⟩ : Addr)).isNone != (op == BinOp.neq)), weak (I.ar.put' hd (by simp only [VRel]))⟩
            · exact ⟨_, _, ι, e, weak (I.ar.put' hd (by simp only [VRel]; cases (op == BinOp.neq) <;> rfl))⟩
      · rename_i n' cs' hb
        generalize hopp : o.op = oo at hR
        cases hR with
        | @eqz op xt yt x' e' _ hq hu hx =>
          have rx := toX_sound I.ar hx
          rw [hb] at rx
          simp only [VRel] at rx
          unfold Oper.wp
          rcases rx with ⟨h0, y, hy⟩ | ⟨b, s, cap, xs, hy, _⟩
          · rw [run_eqz (P := P) hopp hq hu hy]
            simp only [Oper.upon]
            rw [if_pos h0] at e
            exact ⟨_, _, ι, e (y.isNone != (op == BinOp.neq)), weak (I.ar.put' hd (by simp only [VRel]))⟩
          · rw [run_eqz (P := P) hopp hq hu hy]
            simp only [Oper.upon]
            split at e
            · exact ⟨_, _, ι, e ((some (⟨b, s, none⟩ : Addr)).isNone != (op == BinOp.neq)), weak (I.ar.put' hd (by simp only [VRel]))⟩
            · exact ⟨_, _, ι, e, weak (I.ar.put' hd (by simp only [VRel]; cases (op == BinOp.neq) <;> rfl))⟩
      · exact e.elim
    · -- a new map
      generalize hopp : o.op = oo at hR
      cases hR with
      | @mkm t =>
        unfold Oper.wp
        have hrun : (execOp a.eval o).run P w = .ok (.value (.map (some w.heap.size))) (w.alloc (.map #[] 0)) := by
          simp [execOp, hopp, Instr.makeMap]
        rw [hrun]
        simp only [Oper.upon]
        have hl : ∀ l, some (⟨w.heap.size, 0, 0⟩ : Loc) = some l → w.heap.size ≤ l.b ∧ l.b < (w.alloc (.map #[] 0)).heap.size := fun l hl => by
          simp only [Option.some.injEq] at hl
          subst hl
          rw [World.size_alloc]
          exact ⟨Nat.le_refl _, Nat.lt_succ_self _⟩
        have hsz : w.heap.size ≤ (w.alloc (.map #[] 0)).heap.size := by rw [World.size_alloc]; exact Nat.le_succ _
        have hkk : ∀ b, b < w.heap.size → (w.alloc (.map #[] 0)).heap[b]? = w.heap[b]? := fun b hb => Go.RowKit.Below.heap_alloc w _ _ hb
        have hbr : BRel (ι.lay (base + i) (some ⟨w.heap.size, 0, 0⟩)) (w.alloc (.map #[] 0)) (base + i) (.map []) := by
          simp only [BRel]
          exact ⟨_, #[], 0, Inj.lay_same _ _ _, heap_alloc_new w _, rfl, fun i k v hi => by simp at hi⟩
        refine ⟨_, _, ι.lay (base + i) _, e, ⟨(I.ar.mono (Inj.le_lay htok1 _)).put' hd (by simp only [VRel]; exact ⟨_, Inj.lay_same _ _ _, rfl⟩), WRel.lay (PhiOk.refl _ _ _ _) I.wr htok1 htok3 htok2 hl hbr hsz hkk, Ext.lay (PhiOk.refl _ _ _ _) I.ex htok4 hl (by first | exact Nat.le_refl _ | exact Nat.le_succ _) rfl rfl rfl hsz hkk, fun j hj hf => ?_, I.nx, I.b0, I.b1⟩⟩
        rw [Inj.lay_ne ι (by have := hf.2; omega)]
        exact I.fr j hj hf.1
    · -- a store into a map
      rename_i kk x k v
      split at e
      · rename_i h' hs
        have key : ∃ tk l es es' xs ck, h.m tk = some (.map es) ∧ ι tk = some l ∧ h' = h.set tk (.map es') ∧ (execOp a.eval o).run P w = .ok .skip (mapWorld w l.b (.map xs ck)) ∧ EL ι es' xs.toList ∧ l.b < w.heap.size := by
          generalize hopp : o.op = oo at hR
          cases hR with
          | mup ht hk hx hi hv => exact mup_run I.ar I.wr (.inl hopp) ht hk hx hi hv hs
          | ins ht hk hx hi hv => exact mup_run I.ar I.wr (.inr hopp) ht hk hx hi hv hs
        obtain ⟨tk, l, es, es', xs, ck, hm, hl, rfl, hrun, hel, hlt⟩ := key
        unfold Oper.wp
        rw [hrun]
        simp only [Oper.upon]
        have hs' : (mapWorld w l.b (.map xs ck)).heap.size = w.heap.size := by simp [mapWorld]
        have hk' : ∀ b, b ≠ l.b → (mapWorld w l.b (.map xs ck)).heap[b]? = w.heap[b]? := fun b hb => by simp [mapWorld, Array.getElem?_setIfInBounds_ne (Ne.symm hb)]
        have hbr : BRel ι (mapWorld w l.b (.map xs ck)) tk (.map es') := by
          simp only [BRel]
          refine ⟨l, xs, ck, hl, by simp [mapWorld, hlt], by simpa using hel.length, fun i k v hi => ?_⟩
          simpa using hel.get hi
        exact ⟨_, _, ι, e, ⟨I.ar.put' hd (by simp [VRel]), I.wr.refit hm rfl hl hs' hk' hbr, I.ex.refit hm rfl hl hs' hk' (Nat.le_refl _) rfl rfl rfl, fun j hj hf => I.fr j hj hf.1, I.nx, I.b0, I.b1⟩⟩
      · exact e.elim
    · -- a call
      rename_i f args
      split at e
      · rename_i fid fst caps hf
        generalize hopp : o.op = oo at hR
        cases hR with
        | @call c cf _ _ hc hfx hxs =>
          rcases e with e | ⟨p, nn, kk, cs, e, k⟩
          case inr =>
            refine Oper.wp_mono ?_ (fcall_wp hopp hc hfx hxs I.ar I.wr hf e)
            rintro a' w' ⟨v, loc, φ', rfl, hl, hφ, hvb, ho, htp, hou, hs, hkk, hdr⟩
            obtain ⟨hv', hb'⟩ := hvb ((ι.ph φ').lay (base + i) loc) (base + i) (Inj.lay_same _ _ _) (fun _ _ h => h)
            refine ⟨_, _, (ι.ph φ').lay (base + i) loc, k, ⟨(I.ar.mono (ι' := (ι.ph φ').lay (base + i) loc) ⟨fun s x hs => (Inj.le_lay htok1 loc).tok s x hs, hφ.le⟩).put' hd hv', I.wr.lay hφ htok1 htok3 htok2 hl hb' hs hkk, I.ex.lay hφ htok4 hl hdr ho htp hou hs hkk, fun j hj hf => ?_, I.nx, I.b0, I.b1⟩⟩
            rw [Inj.lay_ne _ (by have := hf.2; omega)]
            exact I.fr j hj hf.1
          refine Oper.wp_mono ?_ (call_wp hopp hc hfx hxs I.ar I.wr hf e)
          rintro a' w' ⟨v, r, h', ι', rfl, hr, hv', hw', hx⟩
          refine ⟨_, _, ι', hr, ⟨(I.ar.mono (hx.le I.wr)).put' hd hv', hw', I.ex.trans hx, fun j hj hf => ?_, Nat.le_trans I.nx hx.nx, I.b0, I.b1⟩⟩
          rw [hx.old _ (by have := I.nx; omega)]
          exact I.fr j hj hf.1
      · exact e.elim
    · split at e
      · -- a new block
        split at e
        · rename_i v cs hal
          obtain ⟨u, vs, el, r1, r2, r3, r4⟩ := soundAl_all I.ar (w := w) hR _ _ _ hal
          unfold Oper.wp
          rw [r1]
          simp only [Oper.upon]
          have hset : (ι.set (base + i) ⟨w.heap.size, 0, vs.size⟩) (base + i) = some ⟨w.heap.size, 0, vs.size⟩ := by simp [Inj.set]
          refine ⟨_, _, ι.set (base + i) ⟨w.heap.size, 0, vs.size⟩, e, ⟨(I.ar.mono (Inj.le_set htok1 _)).put' hd (r4 _ hset), I.wr.alloc htok1 htok2 htok3 el r2 r3, I.ex.alloc htok4 _ _ _, fun j hj hf => ?_, I.nx, I.b0, I.b1⟩⟩
          have : base + j ≠ base + i := by have := hf.2; omega
          simp only [Inj.set, if_neg this]
          exact I.fr j hj hf.1
        · exact e.elim
      · -- a value
        split at e
        · rename_i v hv
          obtain ⟨u, r1, r2⟩ := sound_all I.ar I.wr hR v hv
          unfold Oper.wp
          rw [r1]
          simp only [Oper.upon]
          exact ⟨_, _, ι, e, weak (I.ar.put' hd r2)⟩
        · exact e.elim
  -- the guard
  cases hgo : o.guard with
  | none =>
    simp only [hgo, Option.some.injEq] at hao
    subst hao
    simp only [evG] at e
    simp only [Region.wanted, hgo, if_true]
    exact .inl (run I e)
  | some jw =>
    obtain ⟨j, want⟩ := jw
    simp only [hgo] at hao
    split at hao
    · rename_i d hdj
      cases hao
      have hdN : d < N := hg d want rfl
      have rd := I.ar.slot d
      have hyi : yielded ops a.tmps j = match a.tmps.getD d undef with | .bool b => some b | _ => none := by
        unfold yielded
        rw [hdj]
        have : a.tmps[d]? = some (a.tmps.getD d undef) := by
          rw [Array.getD_eq_getD_getElem?, Array.getElem?_eq_getElem (by rw [I.ar.size]; exact hdN)]
          rfl
        simp only [Option.bind_some, this]
        cases a.tmps.getD d undef <;> rfl
      simp only [evG] at e
      split at e
      · rename_i g hgd
        -- the guard is met if and only if g
        have hw : Region.wanted o (yielded ops a.tmps) = g := by
          have hww : Region.wanted o (yielded ops a.tmps) = (yielded ops a.tmps j == some want) := by simp [Region.wanted, hgo]
          rw [hww, hyi]
          unfold guardOf at hgd
          split at hgd
          · rename_i b hb
            cases hgd
            rw [hb] at rd
            simp only [VRel] at rd
            rw [rd]
            cases b <;> cases want <;> rfl
          · rename_i g0 b hb
            cases hgd
            rw [hb] at rd
            simp only [VRel] at rd
            cases g0
            · rw [rd.2 rfl]; rfl
            · rw [rd.1 rfl]; cases b <;> cases want <;> rfl
          · rename_i hb
            cases hgd
            rw [hb] at rd
            simp only [VRel] at rd
            obtain ⟨x, hx, _⟩ := rd
            rw [hx]; rfl
          · cases hgd
        rw [hw]
        -- what holds where the guard is not met
        have skip : ∀ {v : AV}, g = false → K (put o.dst (.gd g v) st) h → (fun a' w' => ∃ st' h' ι', K st' h' ∧ Inv N ι0 h0 w0 base n (fun j => F j ∧ j ≠ i) st' h' a' w' ι') (a.put o.dst undef) w := fun hg0 k =>
          ⟨_, _, ι, k, ⟨I.ar.put' hd (by simp only [VRel]; refine ⟨fun h => ?_, fun _ => rfl⟩; rw [hg0] at h; cases h), I.wr, I.ex, fun j hj hf => I.fr j hj hf.1, I.nx, I.b0, I.b1⟩⟩
        cases g with
        | false =>
          rw [if_neg (by simp)]
          rcases e with e | ⟨e, _⟩
          case inr => cases e
          unfold evC at e
          split at e
          · split at e
            · obtain ⟨v, _, k⟩ := e; exact skip rfl k
            · exact e.elim
          · split at e
            · obtain ⟨v, _, k⟩ := e; exact skip rfl k
            · split at e
              · exact skip rfl (e.2 rfl)
              · exact skip rfl (e.2 rfl)
        | true =>
          rw [if_pos rfl]
          refine .inl ?_
          have IS : Inv N ι0 h0 w0 base n F (stS true st) h a w ι := ⟨⟨I.ar.size, I.ar.defs, fun d => by rw [stS_get]; exact strip_sound rfl (I.ar.slot d)⟩, I.wr, I.ex, I.fr, I.nx, I.b0, I.b1⟩
          have under : ∀ {v : AV} {u : Value} {ι' : Inj}, VRel ι' v u → VRel ι' (.gd true v) u := fun r => by simp only [VRel]; exact ⟨fun _ => r, fun h => by cases h⟩
          rcases e with e | ⟨_, e⟩
          case inr => exact run IS e
          unfold evC at e
          split at e
          · -- a call
            rename_i f args
            split at e
            · rename_i fid fst caps hf
              obtain ⟨v, hcall, k⟩ := e
              generalize hopp : o.op = oo at hR
              cases hR with
              | @call c cf _ _ hc hfx hxs =>
                refine Oper.wp_mono ?_ (call_wp hopp hc hfx hxs IS.ar IS.wr hf (hcall rfl))
                rintro a' w' ⟨u, r, h', ι', rfl, ⟨rfl, rfl⟩, hv', hw', hx⟩
                refine ⟨_, _, ι', k, ⟨(I.ar.mono (hx.le I.wr)).put' hd (under hv'), hw', I.ex.trans hx, fun j hj hf => ?_, Nat.le_trans I.nx hx.nx, I.b0, I.b1⟩⟩
                rw [hx.old _ (by have := I.nx; omega)]
                exact I.fr j hj hf.1
            · exact e.elim
          · split at e
            · obtain ⟨v0, hv0, k⟩ := e
              obtain ⟨u, r1, r2⟩ := sound_all IS.ar IS.wr hR v0 (hv0 rfl)
              unfold Oper.wp
              rw [r1]
              simp only [Oper.upon]
              exact ⟨_, _, ι, k, ⟨I.ar.put' hd (under r2), I.wr, I.ex, fun j hj hf => I.fr j hj hf.1, I.nx, I.b0, I.b1⟩⟩
            · split at e
              · have e1 := e.1 rfl
                split at e1
                · rename_i v cs hal
                  have htok1 := I.fr i hi hF
                  have htok2 : base + i < h.nx := by have := I.nx; omega
                  have htok3 : base + i ≠ 0 := by have := I.b1; omega
                  have htok4 : h0.nx ≤ base + i := by have := I.b0; omega
                  obtain ⟨u, vs, el, r1, r2, r3, r4⟩ := soundAl_all IS.ar (w := w) hR _ _ _ hal
                  unfold Oper.wp
                  rw [r1]
                  simp only [Oper.upon]
                  have hset : (ι.set (base + i) ⟨w.heap.size, 0, vs.size⟩) (base + i) = some ⟨w.heap.size, 0, vs.size⟩ := by simp [Inj.set]
                  refine ⟨_, _, ι.set (base + i) ⟨w.heap.size, 0, vs.size⟩, e1, ⟨(I.ar.mono (Inj.le_set htok1 _)).put' hd (under (r4 _ hset)), I.wr.alloc htok1 htok2 htok3 el r2 r3, I.ex.alloc htok4 _ _ _, fun j hj hf => ?_, I.nx, I.b0, I.b1⟩⟩
                  have : base + j ≠ base + i := by have := hf.2; omega
                  simp only [Inj.set, if_neg this]
                  exact I.fr j hj hf.1
                · exact e1.elim
              · exact run IS (e.1 rfl)
      · exact e.elim
    · cases hao
end
end Go.Am
