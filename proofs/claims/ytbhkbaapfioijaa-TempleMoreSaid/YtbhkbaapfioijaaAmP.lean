/- The abstract machine: rules in the form in which they are used; laws of heaps. -/
import Derived.Test.YtbhkbaapfioijaaAmO
set_option linter.unusedVariables false
set_option linter.unusedSimpArgs false
namespace Go.Am

def AH.bump (h : AH) (n : Nat) : AH := { h with nx := h.nx + n }
def AH.ok (h : AH) : Prop := ∀ t c, h.m t = some c → t < h.nx

theorem AH.bump_nx (h : AH) (n : Nat) : (h.bump n).nx = h.nx + n := rfl
theorem AH.set_nx (h : AH) (t : Nat) (b : Blk) : (h.set t b).nx = h.nx := rfl
theorem AH.kill_nx (h : AH) (t : Nat) : (h.kill t).nx = h.nx := rfl
theorem AH.bump_m (h : AH) (n : Nat) (t : Nat) : (h.bump n).m t = h.m t := rfl
theorem AH.set_m_same (h : AH) (t : Nat) (b : Blk) : (h.set t b).m t = some b := by simp [AH.set]
theorem AH.set_m_ne {h : AH} {t s : Nat} (e : s ≠ t) (b : Blk) : (h.set t b).m s = h.m s := by simp [AH.set, e]
theorem AH.kill_m_ne {h : AH} {t s : Nat} (e : s ≠ t) : (h.kill t).m s = h.m s := by simp [AH.kill, e]
theorem AH.bump_row (h : AH) (n : Nat) (t : Nat) : (h.bump n).row t = h.row t := rfl
theorem AH.set_row_same (h : AH) (t : Nat) (w : Bool) (cs : List AV) : (h.set t (.cells w cs)).row t = some cs := by simp [AH.row, AH.set_m_same]
theorem AH.set_row_ne {h : AH} {t s : Nat} (e : s ≠ t) (b : Blk) : (h.set t b).row s = h.row s := by simp [AH.row, AH.set_m_ne e]
theorem AH.kill_row_ne {h : AH} {t s : Nat} (e : s ≠ t) : (h.kill t).row s = h.row s := by simp [AH.row, AH.kill_m_ne e]
theorem AH.set_set (h : AH) (t : Nat) (b c : Blk) : (h.set t b).set t c = h.set t c := by
  unfold AH.set; congr 1; funext s; by_cases e : s = t <;> simp [e]

theorem AH.row_le {h0 h : AH} (e : h0.le h) {t : Nat} {cs : List AV} (r : h0.row t = some cs) : h.row t = some cs := by
  unfold AH.row at r ⊢
  split at r
  · rename_i w cs' hm; rw [e.1 _ _ hm]; exact r
  · rename_i cs' hm; rw [e.1 _ _ hm]; exact r
  · cases r
theorem AH.ok.row {h : AH} (ok : h.ok) {t : Nat} {cs : List AV} (r : h.row t = some cs) : t < h.nx := by
  unfold AH.row at r
  split at r
  · rename_i w cs' hm; exact ok _ _ hm
  · rename_i cs' hm; exact ok _ _ hm
  · cases r
theorem AH.ok.bump {h : AH} (ok : h.ok) (n : Nat) : (h.bump n).ok := fun t c hc => by have := ok t c hc; simp [AH.bump]; omega
theorem AH.ok.set {h : AH} (ok : h.ok) {t : Nat} (ht : t < h.nx) (b : Blk) : (h.set t b).ok := fun s c hc => by
  unfold AH.set at hc
  by_cases e : s = t
  · subst e; exact ht
  · simp only [if_neg e] at hc; exact ok s c hc

section
variable {P : Program} {N : Nat} {Q : Exit → St → AH → Prop} {K : St → AH → Prop} {st st' : St} {h h' : AH}

/-- Every token of a heap lies below the next one: this comes for nothing. -/
theorem w_ok {c : AC} (w : h.ok → 0 < h.nx → W P N c Q st h) : W P N c Q st h := fun c' hc ι a wd ar wr => w (fun t b hb => (wr.blk t b hb).1) wr.pos c' hc ι a wd ar wr

/-! ### One piece of code, with what comes behind it -/
theorem k_skip (q : K st h) : W P N .skip (athen K Q) st h := w_skip q
theorem k_seq {a b : AC} (q : W P N a (athen (fun st h => W P N b (athen K Q) st h) (athen K Q)) st h) : W P N (.seq a b) (athen K Q) st h := w_seq q
theorem k_run {ops : List AOper} (e : run h.nx ops 0 (some (st, h.bump ops.length)) = some (st', h')) (q : K st' h') : W P N (.reg ops) (athen K Q) st h := w_run e q
theorem k_reg {ops : List AOper} (e : evOps P h.nx ops 0 st (h.bump ops.length) K) : W P N (.reg ops) (athen K Q) st h := w_reg e
theorem evHA_mono {tok : Nat} {hb : AH} {d : Option Nat} {o : AOp} {st : St} {h : AH} {A B : St → AH → Prop} (hk : ∀ st h, A st h → B st h) (e : evHA P tok hb d o st h A) : evHA P tok hb d o st h B := by
  cases o <;> simp only [evHA, AOp.isAl, if_true, if_false, Bool.false_eq_true] at e ⊢
  case call f args =>
    revert e; split
    · rintro ⟨ts, r, nb, h0, h1, h2⟩; exact ⟨ts, r, nb, h0, h1, hk _ _ h2⟩
    · exact id
  all_goals (revert e; split <;> first | exact fun e => hk _ _ e | exact fun e => e.elim)
theorem evHC_mono {tok : Nat} {hb : AH} {g : Bool} {d : Option Nat} {o : AOp} {st : St} {h : AH} {A B : St → AH → Prop} (hk : ∀ st h, A st h → B st h) (e : evHC P tok hb g d o st h A) : evHC P tok hb g d o st h B := by
  cases o <;> simp only [evHC, AOp.isVal, if_true, if_false, Bool.false_eq_true] at e ⊢
  case call f args =>
    revert e; split
    · rintro ⟨v, h0, h1⟩; exact ⟨v, h0, hk _ _ h1⟩
    · exact id
  all_goals first
    | (obtain ⟨v, h1, h2⟩ := e; exact ⟨v, h1, hk _ _ h2⟩)
    | (refine ⟨fun hg => ?_, fun hg => hk _ _ (e.2 hg)⟩
       have e := e.1 hg
       revert e; split <;> first | exact fun e => hk _ _ e | exact fun e => e.elim)
theorem evHG_mono {tok : Nat} {hb : AH} {o : AOper} {st : St} {h : AH} {A B : St → AH → Prop} (hk : ∀ st h, A st h → B st h) (e : evHG P tok hb o st h A) : evHG P tok hb o st h B := by
  unfold evHG at *
  revert e; split
  · exact evHA_mono hk
  · split
    · exact evHC_mono hk
    · exact id
theorem evHead_mono {base : Nat} {hb : AH} : ∀ {ops : List AOper} {i : Nat} {st : St} {h : AH} {K K' : St → AH → Prop} (hk : ∀ st h, K st h → K' st h), evHead P base hb ops i st h K → evHead P base hb ops i st h K'
  | [], _, _, _, _, _, hk, e => hk _ _ e
  | o :: os, i, st, h, K, K', hk, e => by
    exact evHG_mono (fun _ _ => evHead_mono hk) e
theorem k_head {m : Nat} {ops : List AOper} (hn : (ops.take m).any (fun o => o.op.late) = false) (e : evHead P h.nx (h.bump ops.length) (ops.take m) 0 st (h.bump ops.length) fun st' h' => evOps P h.nx (ops.drop m) m st' h' K) : W P N (.head m ops) (athen K Q) st h :=
  w_head (evHead_mono (fun _ _ q => ⟨sepP_none hn, q⟩) e)
/-- a head with a store: what is read must be apart from what is written -/
structure SepK (ops : List AOper) (st : St) (K : Prop) : Prop where
  sep : sepP ops st
  go : K
def sepQ (st : St) (l : List AOper) : List AOper → Prop
  | [] => True
  | a :: r => (match a.op with
    | .sto _ y _ => sepG st y l
    | .mup _ y _ _ => sepG st y l
    | _ => True) ∧ sepQ st l r
theorem sepQ_mem {st : St} {l : List AOper} {a : AOper} : ∀ {r : List AOper}, sepQ st l r → a ∈ r → a.op.late = true → ∀ y, a.op.xs.head? = some y → sepG st y l
  | [], _, h, _, _, _ => by cases h
  | b :: r, hs, h, hl, y, hy => by
    rcases List.mem_cons.1 h with rfl | h
    · have := hs.1
      cases ho : a.op <;> simp only [ho, AOp.late, Bool.false_eq_true] at hl <;> simp only [ho, AOp.xs, List.head?_cons, Option.some.injEq] at hy this <;> (subst hy; exact this)
    · exact sepQ_mem hs.2 h hl y hy
theorem sepQ_P {st : St} {l : List AOper} (h : sepQ st l l) : sepP l st := fun ak hk hl y hy => sepQ_mem h hk hl y hy
theorem k_headS {m : Nat} {ops : List AOper} (e : evHead P h.nx (h.bump ops.length) (ops.take m) 0 st (h.bump ops.length) fun st' h' => SepK (ops.take m) st' (evOps P h.nx (ops.drop m) m st' h' K)) : W P N (.head m ops) (athen K Q) st h :=
  w_head (evHead_mono (fun _ _ q => ⟨q.sep, q.go⟩) e)
theorem k_cond {c : AX} {a b : AC} {t : Bool} (ht : c.val st = .b t) (h1 : t = true → W P N a (athen K Q) st h) (h2 : t = false → W P N b (athen K Q) st h) : W P N (.cond c a b) (athen K Q) st h := w_cond ht h1 h2
theorem w_keep {c : AC} (ks : List Nat) (w : W P N c Q (keep ks st) h) : W P N c Q st h := W.keep ks w

/-! ### Contracts that leave the heap as it was -/
def Blk.ro : Blk → Blk
  | .cells _ cs => .cells false cs
  | .frz cs => .frz cs
  | .map es => .map es
/-- the same rows, to be read alone (a map stays what it is) -/
def AH.ro (h : AH) : AH := { h with m := fun t => match h.m t with
  | some (.cells _ cs) => some (.cells false cs)
  | some (.frz cs) => some (.frz cs)
  | _ => none }
theorem AH.ro_row (h : AH) (t : Nat) : h.ro.row t = h.row t := by
  have q : h.ro.m t = match h.m t with
    | some (.cells _ cs) => some (.cells false cs)
    | some (.frz cs) => some (.frz cs)
    | _ => none := rfl
  unfold AH.row
  rw [q]
  rcases h.m t with _ | ⟨w, cs⟩ | cs | es <;> rfl
theorem AH.ro_nx (h : AH) : h.ro.nx = h.nx := rfl
theorem AH.ro_m {h : AH} {t : Nat} {c : Blk} (e : h.ro.m t = some c) : c.wr = false ∧ ((∃ w cs, h.m t = some (.cells w cs) ∧ c = .cells false cs) ∨ ∃ cs, h.m t = some (.frz cs) ∧ c = .frz cs) := by
  unfold AH.ro at e
  simp only at e
  split at e
  · rename_i w cs hm; cases e; exact ⟨rfl, .inl ⟨w, cs, hm, rfl⟩⟩
  · rename_i cs hm; cases e; exact ⟨rfl, .inr ⟨cs, hm, rfl⟩⟩
  · cases e

theorem WRel.ro {ι : Inj} {w : World} (r : WRel ι h w) : WRel ι h.ro w where
  lt := r.lt
  blk t c hc := by
    obtain ⟨_, ⟨wr, cs, hm, rfl⟩ | ⟨cs, hm, rfl⟩⟩ := AH.ro_m hc
    case inr => exact ⟨(r.blk t _ hm).1, (r.blk t _ hm).2⟩
    refine ⟨(r.blk t _ hm).1, ?_⟩
    have hb := (r.blk t _ hm).2
    simp only [BRel] at hb ⊢
    rcases hb with hb | ⟨l, vs, e, fz, h1, h2, h3, h4, h5, h6⟩
    · exact .inl hb
    · exact .inr ⟨l, vs, e, fz, h1, h2, h3, h4, (fun q => nomatch q), h6⟩
  inj t t' l l' c c' h1 h2 h3 h4 h5 h6 := by
    obtain ⟨q1, _⟩ := AH.ro_m h1
    obtain ⟨q2, _⟩ := AH.ro_m h2
    rw [q1, q2] at h6
    simp at h6
  pos := r.pos
  nil := r.nil
  phi b xs hb := ⟨(r.phi b xs hb).1, fun t c l hc hw => by rw [(AH.ro_m hc).1] at hw; cases hw⟩

/-- behind a stretch over rows that are read alone: everything as it was, and more known of what is never written again -/
theorem ro_back {ι ι' : Inj} {h0 h' : AH} {w w' : World} (h0w : ∀ t c, h0.m t = some c → c.wr = false) (wr : WRel ι h w) {ι0 : Inj} (h2 : WRel ι' h' w') (h3 : Ext ι0 h0 w ι' h' w') (hp : ι0.φ = ι.φ) :
    (∀ b, b < w.heap.size → w'.heap[b]? = w.heap[b]?) ∧ PhiOk ι.φ ι'.φ w w' none ∧ WRel (ι.ph ι'.φ) h w' ∧ Ext ι h w (ι.ph ι'.φ) h w' := by
  have hkeep : ∀ b, b < w.heap.size → w'.heap[b]? = w.heap[b]? := fun b hb => h3.keep b hb fun t c l hm hc => by
    rw [h0w t c hm] at hc; cases hc
  have hφ : PhiOk ι.φ ι'.φ w w' none := ⟨by rw [← hp]; exact h3.phi, fun b xs hb => by
    rcases h3.new b xs hb with q | q | ⟨t0, c0, l0, q1, q2, _⟩
    · rw [hp] at q; exact .inl q
    · exact .inr ⟨q, (h2.phi b xs hb).1, fun l hl => nomatch hl⟩
    · rw [h0w t0 c0 q1] at q2; cases q2⟩
  refine ⟨hkeep, hφ, ⟨fun t l hl => ⟨(wr.lt t l hl).1, Nat.lt_of_lt_of_le (wr.lt t l hl).2 h3.size⟩, fun t c hc => ⟨(wr.blk t c hc).1, (wr.blk t c hc).2.mono ⟨fun _ _ x => x, hφ.le⟩ rfl fun l hl => hkeep l.b (wr.lt t l hl).2⟩, wr.inj, wr.pos, wr.nil, fun b xs hb => ⟨(h2.phi b xs hb).1, fun t c l hc hw hl => ?_⟩⟩,
    ⟨Nat.le_refl _, fun _ _ => rfl, h3.os, h3.tape, h3.output, h3.size, fun b hb _ => hkeep b hb, fun t c l hm hc hl => .inr ⟨t, c, l, hm, hc, hl, rfl⟩, hφ.le, fun b xs hb => ?_, h3.drawn⟩⟩
  · rcases hφ.new b xs hb with q | ⟨q, _⟩
    · exact (wr.phi b xs q).2 t c l hc hw hl
    · have := (wr.lt t l hl).2; omega
  · rcases hφ.new b xs hb with q | ⟨q, _⟩
    · exact .inl q
    · exact .inr (.inl q)
theorem AH.ro_wr (h : AH) : ∀ t c, h.ro.m t = some c → c.wr = false := fun _ _ hm => (AH.ro_m hm).1

/-- A call whose result bears no token, proved over rows that are read alone: it leaves every heap as it was. -/
theorem pure_call {f : Nat} {args : List AV} {R : AV → Prop} (c : ∀ h' : AH, (∀ t, h'.row t = h.row t) → h'.nx = h.nx → ACalls P f args h' fun r _ => R r) (hp : ∀ r, R r → r.plain = true) : ACalls P f args h fun r h' => R r ∧ h' = h := by
  have c := c h.ro h.ro_row rfl
  refine ⟨c.1, fun ι w vs wr hv => Calls.mono (c.2 ι w vs wr.ro hv) fun e w' he => ?_⟩
  revert he; rintro ⟨v, r, h', ι', rfl, hR, h1, h2, h3⟩
  obtain ⟨_, hφ, k1, k2⟩ := ro_back h.ro_wr wr h2 h3 rfl
  exact ⟨v, r, h, ι.ph ι'.φ, rfl, ⟨hR, rfl⟩, plain_rel (ι := ι') (ι' := ι.ph ι'.φ) (fun _ _ x => x) (hp r hR) h1, k1, k2⟩

theorem WRel.empty {ι : Inj} {w : World} (wr : WRel ι h w) : WRel ⟨fun _ => none, ι.φ⟩ ⟨fun _ => none, 1⟩ w where
  lt t l h := by cases h
  blk t c h := by cases h
  inj t t' l l' c c' h := by cases h
  pos := Nat.zero_lt_one
  nil := rfl
  phi b xs hb := ⟨(wr.phi b xs hb).1, fun t c l hc => by cases hc⟩
/-- A CALL OF VALUES ALONE: proved over an empty heap, it leaves every heap as it was. -/
theorem empty_call {f : Nat} {args : List AV} {R : AV → Prop} (ha : AV.plains args = true) (c : ACalls P f args ⟨fun _ => none, 1⟩ fun r _ => R r) (hp : ∀ r, R r → r.plain = true) (h : AH) : ACalls P f args h fun r h' => R r ∧ h' = h := by
  refine ⟨c.1, fun ι w vs wr hv => ?_⟩
  refine Calls.mono (c.2 ⟨fun _ => none, ι.φ⟩ w vs (WRel.empty wr) (plains_rel (ι := ι) (ι' := ⟨fun _ => none, ι.φ⟩) (fun _ _ x => x) ha hv)) fun e w' he => ?_
  revert he; rintro ⟨v, r, h', ι', rfl, hR, h1, h2, h3⟩
  obtain ⟨_, hφ, k1, k2⟩ := ro_back (ι0 := ⟨fun _ => none, ι.φ⟩) (fun t c h => by cases h) wr h2 h3 rfl
  exact ⟨v, r, h, ι.ph ι'.φ, rfl, ⟨hR, rfl⟩, plain_rel (ι := ι') (ι' := ι.ph ι'.φ) (fun _ _ x => x) (hp r hR) h1, k1, k2⟩
end
end Go.Am
