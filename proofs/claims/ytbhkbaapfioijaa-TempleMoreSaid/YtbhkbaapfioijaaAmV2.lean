/- The abstract machine: a function of values called with rows that may still be written; its result bears none of them. -/
import Derived.Test.YtbhkbaapfioijaaAmZ
import Derived.Test.YtbhkbaapfioijaaAmY
set_option linter.unusedVariables false
set_option linter.unusedSimpArgs false
namespace Go.Am

mutual
/-- no slice, no pointer -/
def AV.scal : AV → Bool
  | .p .. | .sl .. | .mp .. | .vs .. | .pv .. | .fn .. => false
  | .ag cs => AV.scals cs
  | .tu cs => AV.scals cs
  | .gd _ v => v.scal
  | _ => true
def AV.scals : List AV → Bool
  | [] => true
  | v :: r => v.scal && AV.scals r
end
mutual
theorem scal_rel {ι ι' : Inj} : ∀ {a : AV} {v : Value}, a.scal = true → VRel ι a v → VRel ι' a v
  | .un, _, _, _ => by simp [VRel]
  | .b x, v, _, r => by simpa [VRel] using r
  | .i k n, v, _, r => by simpa [VRel] using r
  | .s x, v, _, r => by simpa [VRel] using r
  | .p t o, v, q, r => by simp [AV.scal] at q
  | .nilp, v, _, r => by simpa [VRel] using r
  | .sl t o n a, v, q, r => by simp [AV.scal] at q
  | .fn f fst caps, v, q, r => by simp [AV.scal] at q
  | .nilf, v, _, r => by simpa [VRel] using r
  | .mp t, v, q, r => by simp [AV.scal] at q
  | .nilm, v, _, r => by simpa [VRel] using r
  | .vs n cs, v, q, r => by simp [AV.scal] at q
  | .pv cs o, v, q, r => by simp [AV.scal] at q
  | .ag cs, v, q, r => by
    simp only [AV.scal] at q
    simp only [VRel] at *; obtain ⟨x, h1, h2⟩ := r; exact ⟨x, h1, scals_rel q h2⟩
  | .tu cs, v, q, r => by
    simp only [AV.scal] at q
    simp only [VRel] at *; obtain ⟨x, h1, h2⟩ := r; exact ⟨x, h1, scals_rel q h2⟩
  | .gd g a, v, q, r => by
    simp only [AV.scal] at q
    simp only [VRel] at *; exact ⟨fun hg => scal_rel q (r.1 hg), r.2⟩
theorem scals_rel {ι ι' : Inj} : ∀ {as : List AV} {vs : List Value}, AV.scals as = true → VRels ι as vs → VRels ι' as vs
  | [], _, _, r => by simpa [VRels] using r
  | a :: as, vs, q, r => by
    simp only [AV.scals, Bool.and_eq_true] at q
    simp only [VRels] at *; obtain ⟨v, t, h1, h2, h3⟩ := r; exact ⟨v, t, h1, scal_rel q.1 h2, scals_rel q.2 h3⟩
end

mutual
/-- what a value is at this moment, with rows as they are -/
inductive Now (h : AH) : AV → AV → Prop
  | same {v : AV} (hp : v.plain = true) : Now h v v
  | nil {o a : Nat} : Now h (.sl 0 o 0 a) (.vs 0 [])
  | sl {t o n a : Nat} {cs ds es : List AV} (hr : h.row t = some cs) (hd : (cs.drop o).take ds.length = ds) (hv : Nows h ds es) : Now h (.sl t o n a) (.vs n es)
  | p {t o : Nat} {cs es : List AV} (hr : h.row t = some cs) (hv : Nows h cs es) : Now h (.p t o) (.pv es o)
  | ag {vs ws : List AV} (hv : Nows h vs ws) : Now h (.ag vs) (.ag ws)
  | fn {f : Nat} {as bs as' bs' : List AV} (h1 : Nows h as as') (h2 : Nows h bs bs') : Now h (.fn f as bs) (.fn f as' bs')
inductive Nows (h : AH) : List AV → List AV → Prop
  | nil : Nows h [] []
  | cons {v w : AV} {vs ws : List AV} (hv : Now h v w) (hs : Nows h vs ws) : Nows h (v :: vs) (w :: ws)
end
theorem Nows.same {h : AH} : ∀ {vs : List AV}, AV.plains vs = true → Nows h vs vs
  | [], _ => .nil
  | v :: vs, q => by
    simp only [AV.plains, Bool.and_eq_true] at q
    exact .cons (.same q.1) (Nows.same q.2)
theorem Nows.length {h : AH} : ∀ {vs ws : List AV}, Nows h vs ws → vs.length = ws.length
  | _, _, .nil => rfl
  | _, _, .cons _ hs => by simp [Nows.length hs]
/-- a row from its start -/
theorem Now.row {h : AH} {t n a : Nat} {cs : List AV} (hr : h.row t = some cs) (hp : AV.plains cs = true) : Now h (.sl t 0 n a) (.vs n cs) :=
  .sl (ds := cs) hr (by rw [List.drop_zero, List.take_length]) (Nows.same hp)

theorem row_at {ι : Inj} {h : AH} {w : World} (wr : WRel ι h w) {t : Nat} {cs : List AV} (hr : h.row t = some cs) {l : Loc} (hl : ι t = some l) : ∃ xs, φW w l.b = some xs ∧ Lies ι cs xs l.sh := by
  have key : ∀ {vs : Array Value} {e : TypeId} {fz : Nat × Nat}, w.heap[l.b]? = some (.cells vs e fz) → l.sh + cs.length ≤ vs.size → (∀ (i : Nat) (a : AV), cs[i]? = some a → ∃ v : Value, vs[l.sh + i]? = some v ∧ VRel ι a v) → ∃ xs, φW w l.b = some xs ∧ Lies ι cs xs l.sh := by
    intro vs e fz h1 h2 h3
    refine ⟨vs, by unfold φW; rw [h1], VRels_iff.2 ⟨by simp; omega, fun i a v ha hv => ?_⟩⟩
    obtain ⟨u, hu, hr⟩ := h3 i a ha
    rw [List.getElem?_take] at hv
    split at hv
    · rw [List.getElem?_drop, Array.getElem?_toList, hu] at hv
      cases hv; exact hr
    · cases hv
  unfold AH.row at hr
  split at hr
  · rename_i wr' cs' hm
    cases hr
    have hb := (wr.blk t _ hm).2
    simp only [BRel] at hb
    rcases hb with ⟨_, h2⟩ | ⟨l1, vs, e, fz, h1, h2, h3, h4, h5, h6⟩
    · rw [hl] at h2; cases h2
    · rw [hl] at h1; cases h1
      exact key h2 (by omega) h6
  · rename_i cs' hm
    cases hr
    have hb := (wr.blk t _ hm).2
    simp only [BRel] at hb
    obtain ⟨l1, vs, e, h1, h2, h3, h4, h6⟩ := hb
    rw [hl] at h1; cases h1
    exact key h2 (by omega) h6
  · cases hr

mutual
theorem Now.rel {ι : Inj} {h : AH} {w : World} (wr : WRel ι h w) : ∀ {v v' : AV} {u : Value}, Now h v v' → VRel ι v u → VRel (ιφ w) v' u
  | _, _, u, .same hp, r => plain_rel (fun b xs hb => by
      obtain ⟨⟨e, fz, hh⟩, _⟩ := wr.phi b xs hb
      show φW w b = some xs
      unfold φW; rw [hh]) hp r
  | _, _, u, @Now.nil _ o a, r => by
    simp only [VRel] at r ⊢
    rcases r with ⟨h0, x, rfl⟩ | ⟨l, cap, hl, _⟩
    · exact .inl ⟨by trivial, x, rfl⟩
    · rw [wr.nil] at hl; cases hl
  | _, _, u, @Now.sl _ t o n a cs ds es hr hd hv, r => by
    simp only [VRel] at r ⊢
    rcases r with ⟨h0, x, rfl⟩ | ⟨l, cap, hl, rfl, hc, _⟩
    · exact .inl ⟨h0, x, rfl⟩
    · obtain ⟨xs, hx, hL⟩ := row_at wr hr hl
      refine .inr ⟨l.b, l.sh + o, cap, xs, rfl, hc, hx, ?_⟩
      rw [← Nows.length hv]
      have := Lies.take (Lies.drop hL o) ds.length
      rw [hd] at this
      exact Nows.rel wr hv this
  | _, _, u, @Now.p _ t o cs es hr hv, r => by
    simp only [VRel] at r ⊢
    obtain ⟨l, hl, rfl⟩ := r
    obtain ⟨xs, hx, hL⟩ := row_at wr hr hl
    refine ⟨l.b, l.sh, xs, rfl, hx, ?_⟩
    rw [← Nows.length hv]
    exact Nows.rel wr hv hL
  | _, _, u, .ag hv, r => by simp only [VRel] at r ⊢; obtain ⟨x, hx, r⟩ := r; exact ⟨x, hx, Nows.rel wr hv r⟩
  | _, _, u, .fn h1 h2, r => by simp only [VRel] at r ⊢; obtain ⟨x, y, hx, r1, r2⟩ := r; exact ⟨x, y, hx, Nows.rel wr h1 r1, Nows.rel wr h2 r2⟩
theorem Nows.rel {ι : Inj} {h : AH} {w : World} (wr : WRel ι h w) : ∀ {vs ws : List AV} {us : List Value}, Nows h vs ws → VRels ι vs us → VRels (ιφ w) ws us
  | _, _, us, .nil, r => by simpa only [VRels] using r
  | _, _, us, .cons hv hs, r => by
    simp only [VRels] at r ⊢
    obtain ⟨u, us, rfl, r1, r2⟩ := r
    exact ⟨u, us, rfl, Now.rel wr hv r1, Nows.rel wr hs r2⟩
end

/-- A call of values, with rows as they are. -/
theorem PC.at {P : Program} {f : Nat} {args args' : List AV} {v : AV} (c : PC P f args v) (hv : v.scal = true) {h : AH} (F : Nows h args' args) : ACalls P f args' h fun r h' => r = v ∧ h' = h := by
  refine ⟨(c H1).ex, fun ι w vs wr hvs => ?_⟩
  refine Calls.mono ((c H1).run (ιφ w) w vs (WRel.h1 (φW_ok w)) (Nows.rel wr F hvs)) fun e w' he => ?_
  obtain ⟨u, r, h', ι', rfl, ⟨rfl, rfl⟩, h1, h2, h3⟩ := he
  have hk : ∀ b, b < w.heap.size → w'.heap[b]? = w.heap[b]? := fun b hb => h3.keep b hb fun t c l hm => by cases hm
  refine ⟨u, _, h, ι, rfl, ⟨rfl, rfl⟩, scal_rel hv h1, ⟨fun t l ht => ⟨(wr.lt t l ht).1, Nat.lt_of_lt_of_le (wr.lt t l ht).2 h3.size⟩, fun t c hc => ⟨(wr.blk t c hc).1, (wr.blk t c hc).2.mono (Inj.le_refl _) rfl fun l hl => hk l.b (wr.lt t l hl).2⟩, wr.inj, wr.pos, wr.nil, fun b xs hb => ?_⟩,
    ⟨Nat.le_refl _, fun _ _ => rfl, h3.os, h3.tape, h3.output, h3.size, fun b hb _ => hk b hb, fun t c l hm hc hl => .inr ⟨t, c, l, hm, hc, hl, rfl⟩, fun _ _ x => x, fun _ _ x => .inl x, h3.drawn⟩⟩
  obtain ⟨⟨e, fz, hh⟩, h4⟩ := wr.phi b xs hb
  have hlt : b < w.heap.size := (Array.getElem?_eq_some_iff.1 hh).1
  exact ⟨⟨e, fz, (hk b hlt).trans hh⟩, h4⟩
end Go.Am
