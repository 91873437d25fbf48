/- What the proof of the law needs: the abstract machine, the functions as it reads them, their contracts, part 3. -/
import Derived.Test.YtbhkbaapfioijaaZb
import Derived.Shelf.SlSortCmp.NoneTotal
set_option linter.unusedVariables false
set_option linter.unusedSimpArgs false
namespace Go.Am
mutual
/-- no slice, no pointer -/
def AV.scal : AV → Bool
  | .p .. | .sl .. | .mp .. | .vs .. | .pv .. | .fn .. => false
  | .ag cs => AV.scals cs
  | .tu cs => AV.scals cs
  | .gd _ v => v.scal
  | _ => true
def AV.scals : List AV → Bool
  | [] => true
  | v :: r => v.scal && AV.scals r
end
mutual
theorem scal_rel {ι ι' : Inj} : ∀ {a : AV} {v : Value}, a.scal = true → VRel ι a v → VRel ι' a v
  | .un, _, _, _ => by simp [VRel]
  | .b x, v, _, r => by simpa [VRel] using r
  | .i k n, v, _, r => by simpa [VRel] using r
  | .s x, v, _, r => by simpa [VRel] using r
  | .p t o, v, q, r => by simp [AV.scal] at q
  | .nilp, v, _, r => by simpa [VRel] using r
  | .sl t o n a, v, q, r => by simp [AV.scal] at q
  | .fn f fst caps, v, q, r => by simp [AV.scal] at q
  | .nilf, v, _, r => by simpa [VRel] using r
  | .mp t, v, q, r => by simp [AV.scal] at q
  | .nilm, v, _, r => by simpa [VRel] using r
  | .vs n cs, v, q, r => by simp [AV.scal] at q
  | .pv cs o, v, q, r => by simp [AV.scal] at q
  | .ag cs, v, q, r => by
    simp only [AV.scal] at q
    simp only [VRel] at *; obtain ⟨x, h1, h2⟩ := r; exact ⟨x, h1, scals_rel q h2⟩
  | .tu cs, v, q, r => by
    simp only [AV.scal] at q
    simp only [VRel] at *; obtain ⟨x, h1, h2⟩ := r; exact ⟨x, h1, scals_rel q h2⟩
  | .gd g a, v, q, r => by
    simp only [AV.scal] at q
    simp only [VRel] at *; exact ⟨fun hg => scal_rel q (r.1 hg), r.2⟩
theorem scals_rel {ι ι' : Inj} : ∀ {az : List AV} {vs : List Value}, AV.scals az = true → VRels ι az vs → VRels ι' az vs
  | [], _, _, r => by simpa [VRels] using r
  | a :: az, vs, q, r => by
    simp only [AV.scals, Bool.and_eq_true] at q
    simp only [VRels] at *; obtain ⟨v, t, h1, h2, h3⟩ := r; exact ⟨v, t, h1, scal_rel q.1 h2, scals_rel q.2 h3⟩
end
mutual
/-- what a value is at this moment, with rows az they are -/
inductive Now (h : AH) : AV → AV → Prop
  | same {v : AV} (hp : v.plain = true) : Now h v v
  | nil {o a : Nat} : Now h (.sl 0 o 0 a) (.vs 0 [])
  | sl {t o n a : Nat} {cs ds es : List AV} (hr : h.row t = some cs) (hd : (cs.drop o).take ds.length = ds) (hv : Nows h ds es) : Now h (.sl t o n a) (.vs n es)
  | p {t o : Nat} {cs es : List AV} (hr : h.row t = some cs) (hv : Nows h cs es) : Now h (.p t o) (.pv es o)
  | ag {vs ws : List AV} (hv : Nows h vs ws) : Now h (.ag vs) (.ag ws)
  | fn {f : Nat} {az bs as' bs' : List AV} (h1 : Nows h az as') (h2 : Nows h bs bs') : Now h (.fn f az bs) (.fn f as' bs')
inductive Nows (h : AH) : List AV → List AV → Prop
  | nil : Nows h [] []
  | cons {v w : AV} {vs ws : List AV} (hv : Now h v w) (hs : Nows h vs ws) : Nows h (v :: vs) (w :: ws)
end
theorem Nows.same {h : AH} : ∀ {vs : List AV}, AV.plains vs = true → Nows h vs vs
  | [], _ => .nil
  | v :: vs, q => by
    simp only [AV.plains, Bool.and_eq_true] at q
    exact .cons (.same q.1) (Nows.same q.2)
theorem Nows.length {h : AH} : ∀ {vs ws : List AV}, Nows h vs ws → vs.length = ws.length
  | _, _, .nil => rfl
  | _, _, .cons _ hs => by simp [Nows.length hs]
/-- a row from its start -/
theorem Now.row {h : AH} {t n a : Nat} {cs : List AV} (hr : h.row t = some cs) (hp : AV.plains cs = true) : Now h (.sl t 0 n a) (.vs n cs) :=
  .sl (ds := cs) hr (by rw [List.drop_zero, List.take_length]) (Nows.same hp)
theorem row_at {ι : Inj} {h : AH} {w : World} (wr : WRel ι h w) {t : Nat} {cs : List AV} (hr : h.row t = some cs) {l : Loc} (hl : ι t = some l) : ∃ xs, φW w l.b = some xs ∧ Lies ι cs xs l.sh := by
  have key : ∀ {vs : Array Value} {e : TypeId} {fz : Nat × Nat}, w.heap[l.b]? = some (.cells vs e fz) → l.sh + cs.length ≤ vs.size → (∀ (i : Nat) (a : AV), cs[i]? = some a → ∃ v : Value, vs[l.sh + i]? = some v ∧ VRel ι a v) → ∃ xs, φW w l.b = some xs ∧ Lies ι cs xs l.sh := by
    intro vs e fz h1 h2 h3
    refine ⟨vs, by unfold φW; rw [h1], VRels_iff.2 ⟨by simp; omega, fun i a v ha hv => ?_⟩⟩
    obtain ⟨u, hu, hr⟩ := h3 i a ha
    rw [List.getElem?_take] at hv
    split at hv
    · rw [List.getElem?_drop, Array.getElem?_toList, hu] at hv
      cases hv; exact hr
    · cases hv
  unfold AH.row at hr
  split at hr
  · rename_i wr' cs' hm
    cases hr
    have hb := (wr.blk t _ hm).2
    simp only [BRel] at hb
    rcases hb with ⟨_, h2⟩ | ⟨l1, vs, e, fz, h1, h2, h3, h4, h5, h6⟩
    · rw [hl] at h2; cases h2
    · rw [hl] at h1; cases h1
      exact key h2 (by omega) h6
  · rename_i cs' hm
    cases hr
    have hb := (wr.blk t _ hm).2
    simp only [BRel] at hb
    obtain ⟨l1, vs, e, h1, h2, h3, h4, h6⟩ := hb
    rw [hl] at h1; cases h1
    exact key h2 (by omega) h6
  · cases hr
mutual
theorem Now.rel {ι : Inj} {h : AH} {w : World} (wr : WRel ι h w) : ∀ {v v' : AV} {u : Value}, Now h v v' → VRel ι v u → VRel (ιφ w) v' u
  | _, _, u, .same hp, r => plain_rel (fun b xs hb => by
      obtain ⟨⟨e, fz, hh⟩, _⟩ := wr.phi b xs hb
      show φW w b = some xs
      unfold φW; rw [hh]) hp r
  | _, _, u, @Now.nil _ o a, r => by
    simp only [VRel] at r ⊢
    rcases r with ⟨h0, x, rfl⟩ | ⟨l, cap, hl, _⟩
    · exact .inl ⟨by trivial, x, rfl⟩
    · rw [wr.nil] at hl; cases hl
  | _, _, u, @Now.sl _ t o n a cs ds es hr hd hv, r => by
    simp only [VRel] at r ⊢
    rcases r with ⟨h0, x, rfl⟩ | ⟨l, cap, hl, rfl, hc, _⟩
    · exact .inl ⟨h0, x, rfl⟩
    · obtain ⟨xs, hx, hL⟩ := row_at wr hr hl
      refine .inr ⟨l.b, l.sh + o, cap, xs, rfl, hc, hx, ?_⟩
      rw [← Nows.length hv]
      have := Lies.take (Lies.drop hL o) ds.length
      rw [hd] at this
      exact Nows.rel wr hv this
  | _, _, u, @Now.p _ t o cs es hr hv, r => by
    simp only [VRel] at r ⊢
    obtain ⟨l, hl, rfl⟩ := r
    obtain ⟨xs, hx, hL⟩ := row_at wr hr hl
    refine ⟨l.b, l.sh, xs, rfl, hx, ?_⟩
    rw [← Nows.length hv]
    exact Nows.rel wr hv hL
  | _, _, u, .ag hv, r => by simp only [VRel] at r ⊢; obtain ⟨x, hx, r⟩ := r; exact ⟨x, hx, Nows.rel wr hv r⟩
  | _, _, u, .fn h1 h2, r => by simp only [VRel] at r ⊢; obtain ⟨x, y, hx, r1, r2⟩ := r; exact ⟨x, y, hx, Nows.rel wr h1 r1, Nows.rel wr h2 r2⟩
theorem Nows.rel {ι : Inj} {h : AH} {w : World} (wr : WRel ι h w) : ∀ {vs ws : List AV} {us : List Value}, Nows h vs ws → VRels ι vs us → VRels (ιφ w) ws us
  | _, _, us, .nil, r => by simpa only [VRels] using r
  | _, _, us, .cons hv hs, r => by
    simp only [VRels] at r ⊢
    obtain ⟨u, us, rfl, r1, r2⟩ := r
    exact ⟨u, us, rfl, Now.rel wr hv r1, Nows.rel wr hs r2⟩
end
/-- A call of values, with rows az they are. -/
theorem PC.at {P : Program} {f : Nat} {args args' : List AV} {v : AV} (c : PC P f args v) (hv : v.scal = true) {h : AH} (F : Nows h args' args) : ACalls P f args' h fun r h' => r = v ∧ h' = h := by
  refine ⟨(c H1).ex, fun ι w vs wr hvs => ?_⟩
  refine Calls.mono ((c H1).run (ιφ w) w vs (WRel.h1 (φW_ok w)) (Nows.rel wr F hvs)) fun e w' he => ?_
  obtain ⟨u, r, h', ι', rfl, ⟨rfl, rfl⟩, h1, h2, h3⟩ := he
  have hk : ∀ b, b < w.heap.size → w'.heap[b]? = w.heap[b]? := fun b hb => h3.keep b hb fun t c l hm => by cases hm
  refine ⟨u, _, h, ι, rfl, ⟨rfl, rfl⟩, scal_rel hv h1, ⟨fun t l ht => ⟨(wr.lt t l ht).1, Nat.lt_of_lt_of_le (wr.lt t l ht).2 h3.size⟩, fun t c hc => ⟨(wr.blk t c hc).1, (wr.blk t c hc).2.mono (Inj.le_refl _) rfl fun l hl => hk l.b (wr.lt t l hl).2⟩, wr.inj, wr.pos, wr.nil, fun b xs hb => ?_⟩,
    ⟨Nat.le_refl _, fun _ _ => rfl, h3.os, h3.tape, h3.output, h3.size, fun b hb _ => hk b hb, fun t c l hm hc hl => .inr ⟨t, c, l, hm, hc, hl, rfl⟩, fun _ _ x => x, fun _ _ x => .inl x, h3.drawn⟩⟩
  obtain ⟨⟨e, fz, hh⟩, h4⟩ := wr.phi b xs hb
  have hlt : b < w.heap.size := (Array.getElem?_eq_some_iff.1 hh).1
  exact ⟨⟨e, fz, (hk b hlt).trans hh⟩, h4⟩
end Go.Am
set_option linter.unusedVariables false
set_option linter.unusedSimpArgs false
namespace Go.Am
/-- called with such values the function yields a value of which R holds, and leaves everything az it was -/
abbrev PCR (P : Program) (f : Nat) (args : List AV) (R : AV → Prop) : Prop := ∀ h, ACalls P f args h fun r h' => R r ∧ h' = h
theorem pcr_fn {P : Program} {f : Nat} {ac : AC} {ars : List ARes} {N : Nat} (hf : fnOf P f = some (ac, ars, N)) {args : List AV} {R : AV → Prop} (ha : AV.plains args = true) (hp : ∀ v, R v → v.plain = true) (hN : args.length ≤ N)
    (hw : W P N ac (athen (Post ars fun r h => ∃ v, R v ∧ Ends v r h) (Fin (Post ars fun r h => ∃ v, R v ∧ Ends v r h))) (initSt args) H1) : PCR P f args R := fun h =>
  empty_call (R := R) ha (acalls_frz ((a_fn hf hN fun _ _ => hw).mono fun r h' ⟨v, hv, h'', F⟩ => ⟨v, h'', F, hv⟩)) hp h
end Go.Am
set_option linter.unusedVariables false
set_option linter.unusedSimpArgs false
namespace Go.Am
open Go.Proofs Go.Shelf Go.Sort
/-- a later world that differs in new blocks and draws alone -/
theorem world_grown {w w' : World} (ho : w'.os = w.os) (ht : w'.tape = w.tape) (hu : w'.output = w.output) (hs : w.heap.size ≤ w'.heap.size) (hk : ∀ b, b < w.heap.size → w'.heap[b]? = w.heap[b]?) (hd : w.drawn ≤ w'.drawn) :
    ∃ q os, w' = grow (w.drewN q) os := by
  refine ⟨w'.drawn - w.drawn, w'.heap.extract w.heap.size w'.heap.size, ?_⟩
  have hh : w'.heap = w.heap ++ w'.heap.extract w.heap.size w'.heap.size := by
    refine Array.ext_getElem? fun i => ?_
    rw [Array.getElem?_append]
    split
    · rename_i hi; exact hk i hi
    · rename_i hi
      rw [Array.getElem?_extract]
      split
      · congr 1; omega
      · rw [Array.getElem?_eq_none (by omega)]
  obtain ⟨heap, tape, drawn, os, output⟩ := w
  obtain ⟨heap', tape', drawn', os', output'⟩ := w'
  simp only at ho ht hu hd hh
  subst ho; subst ht; subst hu
  simp only [grow, World.drewN, World.mk.injEq, and_true, true_and]
  exact ⟨hh, by omega⟩
/-- nothing but new blocks -/
theorem WRel.grown {ι : Inj} {h : AH} {w w' : World} (r : WRel ι h w) (hs : w.heap.size ≤ w'.heap.size) (hk : ∀ b, b < w.heap.size → w'.heap[b]? = w.heap[b]?) : WRel ι h w' where
  lt t l ht := ⟨(r.lt t l ht).1, Nat.lt_of_lt_of_le (r.lt t l ht).2 hs⟩
  blk t c hc := ⟨(r.blk t c hc).1, (r.blk t c hc).2.mono (Inj.le_refl _) rfl fun l hl => hk l.b (r.lt t l hl).2⟩
  inj := r.inj
  pos := r.pos
  nil := r.nil
  phi b xs hb := by
    obtain ⟨⟨e, fz, hh⟩, h2⟩ := r.phi b xs hb
    have hlt : b < w.heap.size := (Array.getElem?_eq_some_iff.1 hh).1
    exact ⟨⟨e, fz, (hk b hlt).trans hh⟩, h2⟩
theorem Ext.grown {ι0 ι : Inj} {h0 h : AH} {w0 w w' : World} (x : Ext ι0 h0 w0 ι h w) (ho : w'.os = w.os) (ht : w'.tape = w.tape) (hu : w'.output = w.output) (hs : w.heap.size ≤ w'.heap.size) (hk : ∀ b, b < w.heap.size → w'.heap[b]? = w.heap[b]?) (hd : w.drawn ≤ w'.drawn) : Ext ι0 h0 w0 ι h w' :=
  ⟨x.nx, x.old, ho.trans x.os, ht.trans x.tape, hu.trans x.output, Nat.le_trans x.size hs, fun b hb hkk => (hk b (Nat.lt_of_lt_of_le hb x.size)).trans (x.keep b hb hkk), x.img, x.phi, x.new, Nat.le_trans x.drawn hd⟩
section
variable {P : Program} {ρ : Ren} {α : Type} [Inhabited α]
/-- data that fill one cell, in both worlds -/
structure Enc1 (E : α → AV) (enc : α → Value) : Prop where
  rel : ∀ (ι : Inj) x v, VRel ι (E x) v ↔ v = enc x
  one : ∀ x, (E x).one = true
  plain : ∀ x, (E x).plain = true
theorem putRow_heap (enc : α → Value) (w : World) (blk off m : Nat) (d : Array α) (os : Array Obj) {vs : Array Value} {e : TypeId} {fz : Nat × Nat} (hh : w.heap[blk]? = some (.cells vs e fz)) :
    (sortWorld enc w blk off m d os).heap[blk]? = some (.cells (putCells enc off d vs) e fz) ∧ (∀ b, b < w.heap.size → b ≠ blk → (sortWorld enc w blk off m d os).heap[b]? = w.heap[b]?) ∧ w.heap.size ≤ (sortWorld enc w blk off m d os).heap.size := by
  have hlt : blk < w.heap.size := (Array.getElem?_eq_some_iff.1 hh).1
  have hw : (sortWorld enc w blk off m d os).heap = w.heap.modify blk (onCells (putCells enc off d)) ++ os := rfl
  refine ⟨?_, fun b hb hne => ?_, ?_⟩
  · rw [hw, Array.getElem?_append_left (by simpa using hlt), Array.getElem?_modify, if_pos rfl, hh]; rfl
  · rw [hw, Array.getElem?_append_left (by simpa using hb), Array.getElem?_modify, if_neg (Ne.symm hne)]
  · rw [hw, Array.size_append, Array.size_modify]; omega
theorem set_self {h : AH} {t : Nat} {b : Blk} (hm : h.m t = some b) : h.set t b = h := by
  unfold AH.set
  have : (fun s => if s = t then some b else h.m s) = h.m := by
    funext s
    by_cases e : s = t
    · subst e; simp [hm]
    · simp [e]
  rw [this]
/-- .. at no element -/
theorem sort_none (L : SlLaysF.n6 P ρ) (g : Nat) (caps : List AV) (h : AH) (t o a : Nat) : ACalls P (ρ.f 6) [.sl t o 0 a, .fn g [] caps] h fun r h' => r = .tu [] ∧ h' = h := by
  refine ⟨?_, fun ι w vs wr hv => ?_⟩
  · obtain ⟨nm, hn, hf⟩ := L.f6
    exact ⟨_, hf, hn, rfl⟩
  simp only [VRels] at hv
  obtain ⟨sv, r1, ev, hs, fv, r2, e2, hfn, rfl⟩ := hv
  subst e2
  obtain rfl : vs = #[sv, fv] := by cases vs; simp_all
  have hslice : ∃ p cap, sv = .slice p 0 cap := by
    simp only [VRel] at hs
    rcases hs with ⟨_, x, rfl⟩ | ⟨l, cap, _, rfl, _⟩
    · exact ⟨_, _, rfl⟩
    · exact ⟨_, _, rfl⟩
  obtain ⟨p, cap, rfl⟩ := hslice
  refine Calls.mono (AnyF.slices_SortFunc_none (P := P) (ρ := ρ) { L with } p cap _ w) fun e w' ⟨he, hw⟩ => ?_
  subst hw
  exact ⟨.tuple #[], .tu [], h, ι, he, ⟨rfl, rfl⟩, by simp only [VRel]; exact ⟨#[], rfl, by simp [VRels]⟩, wr, .refl _ _ _⟩
set_option maxHeartbeats 1000000 in
/-- slices.SortFunc at elements of one cell, by a comparison that parts whatever two that are not one. -/
theorem sort_one (L : SlLaysF.n6 P ρ) {E : α → AV} {enc : α → Value} (hE : Enc1 E enc) {cf : α → α → Int} (hO : SWO (ltOf cf)) (hT : ∀ x y, (ltOf cf) x y = false → (ltOf cf) y x = false → x = y)
    {g : Nat} {caps : List AV} (hcp : AV.plains caps = true) (hc : ∀ x y, PC P g ([E x, E y] ++ caps) (.i .i64 (cf x y))) {h : AH} {t a : Nat} {d : List α} (hm : h.m t = some (.cells true (d.map E))) (hlen : d.length < 4611686018427387904) :
    ACalls P (ρ.f 6) [.sl t 0 d.length a, .fn g [] caps] h fun r h' => r = .tu [] ∧ h' = h.set t (.cells true ((d.mergeSort fun x y => !(ltOf cf) y x).map E)) := by
  refine ⟨?_, fun ι w vs wr hv => ?_⟩
  · obtain ⟨nm, hn, hf⟩ := L.f6
    exact ⟨_, hf, hn, rfl⟩
  simp only [VRels] at hv
  obtain ⟨sv, r1, ev, hs, fv, r2, e2, hfn, rfl⟩ := hv
  subst e2
  simp only [VRel] at hfn
  obtain ⟨x0, cb, rfl, hx0, hcb⟩ := hfn
  simp only [VRels] at hx0
  obtain rfl : x0 = #[] := by cases x0; simp_all
  obtain rfl : vs = #[sv, .func (.func g) #[] cb] := by cases vs; simp_all
  by_cases hd0 : d = []
  · -- nothing to sort
    subst hd0
    have hslice : ∃ p cap, sv = .slice p 0 cap := by
      simp only [VRel] at hs
      rcases hs with ⟨_, x, rfl⟩ | ⟨l, cap, _, rfl, _⟩
      · exact ⟨_, _, rfl⟩
      · exact ⟨_, _, rfl⟩
    obtain ⟨p, cap, rfl⟩ := hslice
    refine Calls.mono (AnyF.slices_SortFunc_none (P := P) (ρ := ρ) { L with } p cap _ w) fun e w' ⟨he, hw⟩ => ?_
    subst hw
    refine ⟨.tuple #[], .tu [], _, ι, he, ⟨rfl, rfl⟩, by simp only [VRel]; exact ⟨#[], rfl, by simp [VRels]⟩, ?_, ?_⟩
    · have : h.set t (.cells true ((([] : List α).mergeSort fun x y => !(ltOf cf) y x).map E)) = h := by
        unfold AH.set
        have : (fun s => if s = t then some (Blk.cells true ((([] : List α).mergeSort fun x y => !(ltOf cf) y x).map E)) else h.m s) = h.m := by
          funext s
          by_cases e : s = t
          · subst e; simp [hm]
          · simp [e]
        rw [this]
      rw [this]; exact wr
    · have : h.set t (.cells true ((([] : List α).mergeSort fun x y => !(ltOf cf) y x).map E)) = h := by
        unfold AH.set
        have : (fun s => if s = t then some (Blk.cells true ((([] : List α).mergeSort fun x y => !(ltOf cf) y x).map E)) else h.m s) = h.m := by
          funext s
          by_cases e : s = t
          · subst e; simp [hm]
          · simp [e]
        rw [this]
      rw [this]; exact .refl _ _ _
  have hdl : d.length ≠ 0 := fun e => hd0 (List.length_eq_zero_iff.1 e)
  simp only [VRel] at hs
  rcases hs with ⟨h0, _⟩ | ⟨l, cap, hl, rfl, hcap, _⟩
  · exact absurd h0 hdl
  have hb := (wr.blk t _ hm).2
  simp only [BRel] at hb
  rcases hb with ⟨he, _⟩ | ⟨l', vs, e, fz, hl', hh, h3, h4, h5, h6⟩
  · exact absurd (by simpa using he) hd0
  rw [hl] at hl'; cases hl'
  have hfz := h5 trivial
  subst hfz
  simp only [Nat.add_zero]
  have hcell : ∀ j, j < d.length → ∃ x, d[j]? = some x ∧ vs[l.sh + j]? = some (enc x) := fun j hj => by
    obtain ⟨u, hu, hr⟩ := h6 j (E d[j]) (by simp [hj])
    rw [hE.rel] at hr
    subst hr
    exact ⟨d[j], by simp [hj], hu⟩
  have hH : Holds enc w l.b l.sh d.toArray := fun j hj => by
    obtain ⟨x, hx, hc⟩ := hcell j (by simpa using hj)
    refine ⟨?_, ?_⟩
    · simp only [World.cell?, hh]
      rw [if_neg (by simp), hc]
      have : d.toArray[j]! = x := by simp [getElem!_def, hx]
      rw [this]
    · simp [World.frozen?, hh]
  have hblk : l.b < w.heap.size := (wr.lt t l hl).2
  obtain ⟨fn, hfn, hnm, hbd⟩ := (hc default default H1).ex
  have eg : ∀ args w, (callFunc g args).run P w = .ok (.enter g args) w := by
    cases hbody : fn.body with
    | none => rw [hbody] at hbd; cases hbd
    | some c => exact enters_of hfn hnm hbody
  have hcmp : CmpLays1 P g cb enc cf l.b l.sh d.toArray.size w := by
    intro m os dk hsz x y
    obtain ⟨p1, p2, p3⟩ := putRow_heap enc w l.b l.sh m dk os hh
    have hφ : ∀ b xs, ι.φ b = some xs → ∃ e fz, (sortWorld enc w l.b l.sh m dk os).heap[b]? = some (.cells xs e fz) := fun b xs hbx => by
      obtain ⟨⟨e', fz', hh'⟩, ho⟩ := wr.phi b xs hbx
      have hlt : b < w.heap.size := (Array.getElem?_eq_some_iff.1 hh').1
      exact ⟨e', fz', (p2 b hlt fun e => ho t _ l hm rfl hl e.symm).trans hh'⟩
    refine Calls.mono ((hc x y H1).run ⟨fun _ => none, ι.φ⟩ _ (#[enc x, enc y] ++ cb) (WRel.h1 hφ) ?_) fun e w' he => ?_
    · simp only [Array.toList_append]
      refine VRels.append ?_ (plains_rel (ι := ι) (ι' := ⟨fun _ => none, ι.φ⟩) (fun _ _ x => x) hcp hcb)
      simp only [VRels]
      exact ⟨_, _, rfl, (hE.rel _ _ _).2 rfl, _, _, rfl, (hE.rel _ _ _).2 rfl, rfl⟩
    · obtain ⟨v, r, h', ι', rfl, ⟨rfl, rfl⟩, q1, q2, q3⟩ := he
      simp only [VRel] at q1
      subst q1
      exact ⟨rfl, world_grown q3.os q3.tape q3.output q3.size (fun b hb => q3.keep b hb fun t c l hm => by cases hm) q3.drawn⟩
  refine Calls.mono (Any.slices_SortFunc_total L enc (fun x => ((hE.rel ι x _).2 rfl).one (hE.one x)) cf hO g cb l.b l.sh cap d.toArray w eg hcmp hH hblk (by simpa using hlen) hT) fun e' w' he => ?_
  obtain ⟨he, n, os, hw⟩ := he
  rw [List.toList_toArray] at hw
  generalize hsd : (d.mergeSort fun x y => !(ltOf cf) y x) = d' at hw ⊢
  have hlen' : d'.length = d.length := by rw [← hsd]; exact List.length_mergeSort _
  obtain ⟨p1, p2, p3⟩ := putRow_heap enc w l.b l.sh n d'.toArray os hh
  rw [← hw] at p1 p2 p3
  have hbr : BRel ι w' t (.cells true (d'.map E)) := by
    simp only [BRel]
    refine .inr ⟨l, _, e, _, hl, p1, by simp [putCells, h3], by simpa [hlen'] using h4, fun _ => rfl, fun i a ha => ?_⟩
    simp only [List.getElem?_map, Option.map_eq_some_iff] at ha
    obtain ⟨x, hx, rfl⟩ := ha
    have hi : i < d'.length := (List.getElem?_eq_some_iff.1 hx).1
    obtain ⟨_, _, hc⟩ := hcell i (by omega)
    refine ⟨enc x, ?_, (hE.rel _ _ _).2 rfl⟩
    simp only [putCells, Array.getElem?_mapIdx, hc, Option.map_some]
    rw [if_pos ⟨by omega, by simp; omega⟩]
    have : d'.toArray[l.sh + i - l.sh]! = x := by simp [getElem!_def, hx]
    rw [this]
  -- the step within the old blocks, then the new ones
  let w1 : World := { w with heap := w.heap.modify l.b (onCells (putCells enc l.sh d'.toArray)) }
  have k1 : w1.heap.size = w.heap.size := by simp [w1]
  have k2 : ∀ b, b ≠ l.b → w1.heap[b]? = w.heap[b]? := fun b hb => by simp [w1, Array.getElem?_modify, Ne.symm hb]
  have k3 : ∀ b, b < w1.heap.size → w'.heap[b]? = w1.heap[b]? := fun b hb => by
    rw [k1] at hb
    by_cases e' : b = l.b
    · subst e'
      rw [p1]
      simp only [w1, Array.getElem?_modify, if_pos, hh]; rfl
    · rw [p2 b hb e', k2 b e']
  have k4 : w1.heap.size ≤ w'.heap.size := by rw [k1]; exact p3
  have hbr1 : BRel ι w1 t (.cells true (d'.map E)) := hbr.mono (Inj.le_refl _) rfl fun l2 hl2 => by
    rw [hl] at hl2; cases hl2
    rw [k3 l.b (by rw [k1]; exact hblk)]
  have wr1 := wr.refit hm rfl hl k1 k2 hbr1
  have ex1 := (Ext.refl ι h w).refit (bk := .cells true (d'.map E)) hm rfl hl k1 k2 (Nat.le_refl _) rfl rfl rfl
  have o1 : w'.os = w1.os := by rw [hw]; rfl
  have o2 : w'.tape = w1.tape := by rw [hw]; rfl
  have o3 : w'.output = w1.output := by rw [hw]; rfl
  have o4 : w1.drawn ≤ w'.drawn := by rw [hw]; show w.drawn ≤ w.drawn + n; omega
  exact ⟨.tuple #[], .tu [], _, ι, he, ⟨rfl, rfl⟩, by simp only [VRel]; exact ⟨#[], rfl, by simp [VRels]⟩, wr1.grown k4 k3, ex1.grown o1 o2 o3 k4 k3 o4⟩
end
end Go.Am
