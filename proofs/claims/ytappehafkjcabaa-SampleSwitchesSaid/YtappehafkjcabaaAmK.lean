/- The abstract machine: a region that draws its order: quiet operations in whatever order, then the rest in the text's order. -/
import Derived.Test.YtappehafkjcabaaAmJ
set_option linter.unusedVariables false
set_option linter.unusedSimpArgs false
namespace Go.Am

def AOp.xs : AOp → List AX
  | .mv x | .neg x | .not x | .conv _ x | .ext x _ | .fa x _ | .fld x _ _ | .nck x | .len x | .ld _ x | .box x | .str x => [x]
  | .pick c a b => [c, a, b]
  | .bin _ _ x y | .ia _ x y | .iap _ _ x y | .iv _ _ _ x y | .eqn _ x y | .eqa _ _ x y | .eqs _ x y | .mks _ _ _ x y | .sto _ x y | .app _ _ x y => [x, y]
  | .sli _ x lo hi | .slp _ _ x lo hi => x :: (lo.toList ++ hi.toList)
  | .sl3 _ x lo hi mx => x :: (lo.toList ++ [hi, mx])
  | .bld _ ps | .bsl _ _ ps => ps.map (·.2.2)
  | .mm _ x xs => x :: xs
  | .mkf _ a b => a ++ b
  | .alloc _ => []
  | .call f xs => f :: xs

theorem afill_congr {ρ ρ' : AX → AV} : ∀ {ps : List (Nat × Nat × AX)} {cs : List AV}, (∀ x ∈ ps.map (·.2.2), ρ x = ρ' x) → afill ρ cs ps = afill ρ' cs ps
  | [], cs, _ => rfl
  | (off, n, x) :: ps, cs, h => by
    simp only [afill]
    rw [h x (by simp)]
    split
    · exact afill_congr fun y hy => h y (by simp at hy ⊢; exact .inr hy)
    · rfl

theorem bound_congr {ρ ρ' : AX → AV} {d : Nat} {x : Option AX} (h : ∀ y ∈ x.toList, ρ y = ρ' y) : bound ρ d x = bound ρ' d x := by
  cases x with
  | none => rfl
  | some y => simp only [bound]; rw [h y (by simp)]

/-- the token that a value leads to -/
def AV.tok : AV → Option Nat
  | .p t _ => some t
  | .sl t _ n _ => if n = 0 then none else some t
  | .mp t => some t
  | _ => none
theorem row_of_m {h h' : AH} {t : Nat} (hm : ∀ c, h.m t = some c → h'.m t = some c) {cs : List AV} (hr : h.row t = some cs) : h'.row t = some cs := by
  unfold AH.row at hr ⊢
  split at hr
  · rename_i w cs' hq; rw [hm _ hq]; exact hr
  · cases hr

theorem ev_congr {ρ ρ' : AX → AV} {h h' : AH} {o : AOp} {v : AV} (hx : ∀ x ∈ o.xs, ρ x = ρ' x) (hl : ∀ x t, x ∈ o.xs → (ρ x).tok = some t → ∀ c, h.m t = some c → h'.m t = some c) (e : o.ev ρ h = some v) : o.ev ρ' h' = some v := by
  cases o <;> simp only [AOp.xs, List.mem_cons, List.not_mem_nil, or_false, forall_eq_or_imp, forall_eq] at hx <;> simp only [AOp.ev] at e ⊢
  case ld n x =>
    rw [← hx]
    cases hp : ρ x <;> simp only [hp] at e ⊢ <;> try exact e
    rename_i t o'
    cases hr : h.row t with
    | none => rw [hr] at e; cases e
    | some cs => rw [hr] at e; rw [row_of_m (hl x t (by simp [AOp.xs]) (by rw [hp]; rfl)) hr]; exact e
  case str x =>
    rw [← hx]
    cases hp : ρ x <;> simp only [hp] at e ⊢ <;> try exact e
    rename_i t o' n a'
    split at e
    · rename_i h0; rw [if_pos h0]; exact e
    · rename_i h0
      rw [if_neg h0]
      cases hr : h.row t with
      | none => rw [hr] at e; cases e
      | some cs => rw [hr] at e; rw [row_of_m (hl x t (by simp [AOp.xs]) (by rw [hp]; simp [AV.tok, h0])) hr]; exact e
  case sli k x lo hi =>
    rw [← hx.1, ← bound_congr (fun y hy => hx.2 y (by simp at hy ⊢; exact .inl hy))]
    cases hq : ρ x <;> simp only [hq] at e ⊢ <;> try exact e
    rw [← bound_congr (fun y hy => hx.2 y (by simp at hy ⊢; exact .inr hy))]
    exact e
  case sl3 k x lo hi mx =>
    rw [← hx.1, ← bound_congr (fun y hy => hx.2 y (by simp at hy ⊢; exact .inl hy))]
    cases hq : ρ x <;> simp only [hq] at e ⊢ <;> try exact e
    rw [← bound_congr (x := some hi) (fun y hy => hx.2 y (by simp at hy ⊢; exact .inr (.inl hy))), ← bound_congr (x := some mx) (fun y hy => hx.2 y (by simp at hy ⊢; exact .inr (.inr hy)))]
    exact e
  case slp n k x lo hi =>
    rw [← hx.1, ← bound_congr (fun y hy => hx.2 y (by simp at hy ⊢; exact .inl hy)), ← bound_congr (fun y hy => hx.2 y (by simp at hy ⊢; exact .inr hy))]
    exact e
  case bld z ps => rw [← afill_congr hx]; exact e
  case mm mx x xs =>
    rw [← hx.1, ← List.map_congr_left (f := ρ) (g := ρ') fun y hy => hx.2 y hy]
    exact e
  case mkf f a b =>
    rw [← List.map_congr_left (f := ρ) (g := ρ') (l := a) fun y hy => hx y (by simp [hy]), ← List.map_congr_left (f := ρ) (g := ρ') (l := b) fun y hy => hx y (by simp [hy])]
    exact e
  case pick c a b => rw [← hx.1, ← hx.2.1, ← hx.2.2]; exact e
  all_goals first
    | exact e
    | (rw [← hx]; exact e)
    | (rw [← hx.1, ← hx.2]; exact e)

theorem al_congr {ρ ρ' : AX → AV} {o : AOp} {tok : Nat} (hx : ∀ x ∈ o.xs, ρ x = ρ' x) : o.al ρ tok = o.al ρ' tok := by
  cases o <;> simp only [AOp.xs, List.mem_cons, List.not_mem_nil, or_false, forall_eq_or_imp, forall_eq] at hx <;> simp only [AOp.al]
  case box x => rw [hx]
  case bsl k z ps => rw [afill_congr hx]
  case mks k b z x y => rw [hx.1, hx.2]

/-- A contract that leaves the heap alone serves in a wider heap. -/
theorem ACalls.frame {P : Program} {f : Nat} {args : List AV} {hb h : AH} {v : AV} (c : ACalls P f args hb fun r h' => r = v ∧ h' = hb) (hle : hb.le h) (hnx : h.nx = hb.nx) : ACalls P f args h fun r h' => r = v ∧ h' = h := by
  refine ⟨c.1, fun ι w vs wr hv => Calls.mono (c.2 ι w vs (wr.drop hle) hv) fun e w' he => ?_⟩
  revert he; rintro ⟨u, r, h', ι', rfl, ⟨rfl, rfl⟩, h1, h2, h3⟩
  have hold : ∀ t c, h.m t = some c → ι' t = ι t := fun t c ht => h3.old t (by rw [← hnx]; exact (wr.blk t c ht).1)
  have hkeep : ∀ t c l, h.m t = some c → h'.m t = none → ι t = some l → w'.heap[l.b]? = w.heap[l.b]? := by
    intro t c l ht hn hl
    refine h3.keep l.b (wr.lt t l hl).2 fun t0 c0 l0 hm0 hw0 hl0 hbb => ?_
    have := wr.inj t0 t l0 l c0 c (hle.1 _ _ hm0) ht hl0 hl hbb (.inl hw0)
    subst this
    rw [hn] at hm0; cases hm0
  refine ⟨u, _, h, ι', rfl, ⟨rfl, rfl⟩, h1, ⟨fun t l hl => ?_, fun t c ht => ?_, fun t t' l l' c c' h4 h5 h6 h7 h8 h9 => ?_, wr.pos, h2.nil⟩, ⟨by omega, fun t ht => h3.old t (by omega), h3.os, h3.tape, h3.output, h3.size, fun b hbb hk => ?_, fun t c l ht hc hl => ?_⟩⟩
  · rw [hnx]; exact h2.lt t l hl
  · refine ⟨(wr.blk t c ht).1, ?_⟩
    cases hq : h'.m t with
    | some c0 =>
      have := hle.1 _ _ hq
      rw [ht] at this; cases this
      exact (h2.blk t _ hq).2
    | none => exact (wr.blk t c ht).2.mono (fun s l hs => by rw [h3.old s (by rw [← hnx]; exact (wr.lt s l hs).1)]; exact hs) (hold t c ht) fun l hl => hkeep t c l ht hq hl
  · rw [hold t c h4] at h6
    rw [hold t' c' h5] at h7
    exact wr.inj t t' l l' c c' h4 h5 h6 h7 h8 h9
  · exact h3.keep b hbb fun t c l ht hc hl => hk t c l (hle.1 _ _ ht) hc hl
  · rw [hold t c ht] at hl
    exact .inr ⟨t, c, l, ht, hc, hl, rfl⟩

/-! ### One quiet operation -/
section
variable (P : Program)

def setNb (h : AH) (tok : Nat) : Option (List AV) → AH
  | some cs => h.set tok (.cells true cs)
  | none => h
/-- a call that may come in any order -/
def okCall (tok : Nat) (hb : AH) (f : Nat) (args : List AV) (r : AV) (nb : Option (List AV)) : Prop :=
  (nb = none ∧ ACalls P f args hb fun r' h' => r' = r ∧ h' = hb) ∨ ∃ p n k cs, nb = some cs ∧ r = plug p (.sl tok 0 n k) ∧ FCalls P f args hb p n k cs
/-- an operation that may come in any order: a value, a new block, or a call that leaves the heap alone. 'hb': the heap at the region's start. -/
def evHA (tok : Nat) (hb : AH) (d : Option Nat) (o : AOp) (st : St) (h : AH) (K : St → AH → Prop) : Prop :=
  match o with
  | .sto .. => False
  | .app .. => False
  | .call f args => match f.val st with
    | .fn f fst caps => ∃ r nb, okCall P tok hb f (fst ++ args.map (AX.val st) ++ caps) r nb ∧ K (put d r st) (setNb h tok nb)
    | _ => False
  | o => if o.isAl then match o.al (AX.val st) tok with
      | some (v, cs) => K (put d v st) (h.set tok (.cells true cs))
      | none => False
    else match o.ev (AX.val st) h with
      | some v => K (put d v st) h
      | none => False
def evHC (tok : Nat) (hb : AH) (g : Bool) (d : Option Nat) (o : AOp) (st : St) (h : AH) (K : St → AH → Prop) : Prop :=
  match o with
  | .sto .. => False
  | .app .. => False
  | .call f args => match f.val (stS g st) with
    | .fn f fst caps => ∃ v, (g = true → ACalls P f (fst ++ args.map (AX.val (stS g st)) ++ caps) hb fun r h' => r = v ∧ h' = hb) ∧ K (put d (.gd g v) st) h
    | _ => False
  | o => if o.isVal then ∃ v, (g = true → o.ev (AX.val (stS g st)) h = some v) ∧ K (put d (.gd g v) st) h
    else (g = true → match o.al (AX.val (stS g st)) tok with
        | some (v, cs) => K (put d (.gd g v) st) (h.set tok (.cells true cs))
        | none => False) ∧ (g = false → K (put d (.gd g .un) st) h)
def evHG (tok : Nat) (hb : AH) (o : AOper) (st : St) (h : AH) (K : St → AH → Prop) : Prop :=
  match o.g with
  | none => evHA P tok hb o.d o.op st h K
  | some (s, want) => match guardOf (st.get s) want with
    | some g => evHC P tok hb g o.d o.op st h K
    | none => False
def evHead (base : Nat) (hb : AH) : List AOper → Nat → St → AH → (St → AH → Prop) → Prop
  | [], _, st, h, K => K st h
  | o :: os, i, st, h, K => evHG P (base + i) hb o st h fun st' h' => evHead base hb os (i + 1) st' h' K

/-- what a quiet operation yields -/
def okA (tok : Nat) (hb : AH) (o : AOp) (st : St) (h : AH) (v : AV) (nb : Option (List AV)) : Prop :=
  match o with
  | .sto .. => False
  | .app .. => False
  | .call f args => ∃ fid fst caps, f.val st = .fn fid fst caps ∧ okCall P tok hb fid (fst ++ args.map (AX.val st) ++ caps) v nb
  | o => if o.isAl then ∃ cs, nb = some cs ∧ o.al (AX.val st) tok = some (v, cs) else nb = none ∧ o.ev (AX.val st) h = some v
def okC (tok : Nat) (hb : AH) (g : Bool) (o : AOp) (st : St) (h : AH) (v : AV) (nb : Option (List AV)) : Prop :=
  match o with
  | .sto .. => False
  | .app .. => False
  | .call f args => nb = none ∧ ∃ v0 fid fst caps, v = .gd g v0 ∧ f.val (stS g st) = .fn fid fst caps ∧ (g = true → ACalls P fid (fst ++ args.map (AX.val (stS g st)) ++ caps) hb fun r' h' => r' = v0 ∧ h' = hb)
  | o => if o.isVal then nb = none ∧ ∃ v0, v = .gd g v0 ∧ (g = true → o.ev (AX.val (stS g st)) h = some v0)
    else (g = true ∧ ∃ v0 cs, o.al (AX.val (stS g st)) tok = some (v0, cs) ∧ v = .gd g v0 ∧ nb = some cs) ∨ (g = false ∧ v = .gd g .un ∧ nb = none)
def okG (tok : Nat) (hb : AH) (o : AOper) (st : St) (h : AH) (v : AV) (nb : Option (List AV)) : Prop :=
  match o.g with
  | none => okA P tok hb o.op st h v nb
  | some (s, want) => match guardOf (st.get s) want with
    | some g => okC P tok hb g o.op st h v nb
    | none => False
end

section
variable {P : Program}
theorem okA_of {tok : Nat} {hb : AH} {d : Option Nat} {o : AOp} {st : St} {h : AH} {K : St → AH → Prop} (e : evHA P tok hb d o st h K) : ∃ v nb, okA P tok hb o st h v nb ∧ K (put d v st) (setNb h tok nb) := by
  cases o <;> simp only [evHA, okA, AOp.isAl, if_true, if_false, Bool.false_eq_true] at e ⊢
  case call f args =>
    split at e
    · rename_i fid fst caps hf
      obtain ⟨r, nb, h1, h2⟩ := e
      exact ⟨r, nb, ⟨_, _, _, hf, h1⟩, h2⟩
    · exact e.elim
  case box => split at e <;> first | exact e.elim | (rename_i hq; exact ⟨_, _, ⟨_, rfl, hq⟩, e⟩)
  case alloc => split at e <;> first | exact e.elim | (rename_i hq; exact ⟨_, _, ⟨_, rfl, hq⟩, e⟩)
  case bsl => split at e <;> first | exact e.elim | (rename_i hq; exact ⟨_, _, ⟨_, rfl, hq⟩, e⟩)
  case mks => split at e <;> first | exact e.elim | (rename_i hq; exact ⟨_, _, ⟨_, rfl, hq⟩, e⟩)
  all_goals (split at e <;> first | exact e.elim | (rename_i hq; exact ⟨_, none, ⟨rfl, hq⟩, e⟩))

theorem okC_of {tok : Nat} {hb : AH} {g : Bool} {d : Option Nat} {o : AOp} {st : St} {h : AH} {K : St → AH → Prop} (e : evHC P tok hb g d o st h K) : ∃ v nb, okC P tok hb g o st h v nb ∧ K (put d v st) (setNb h tok nb) := by
  have al : ∀ {op : AOp}, ((g = true → match op.al (AX.val (stS g st)) tok with
        | some (v, cs) => K (put d (.gd g v) st) (h.set tok (.cells true cs))
        | none => False) ∧ (g = false → K (put d (.gd g .un) st) h)) →
      ∃ v nb, ((g = true ∧ ∃ v0 cs, op.al (AX.val (stS g st)) tok = some (v0, cs) ∧ v = .gd g v0 ∧ nb = some cs) ∨ (g = false ∧ v = .gd g .un ∧ nb = none)) ∧ K (put d v st) (setNb h tok nb) := by
    intro op e
    cases g with
    | false => exact ⟨_, none, .inr ⟨rfl, rfl, rfl⟩, e.2 rfl⟩
    | true =>
      have e1 := e.1 rfl
      split at e1
      · rename_i v cs hq; exact ⟨_, some cs, .inl ⟨rfl, v, cs, hq, rfl, rfl⟩, e1⟩
      · exact e1.elim
  cases o <;> simp only [evHC, okC, AOp.isVal, if_true, if_false, Bool.false_eq_true] at e ⊢
  case call f args =>
    split at e
    · rename_i fid fst caps hf
      obtain ⟨v, h1, h2⟩ := e
      exact ⟨.gd g v, none, ⟨rfl, v, fid, fst, caps, rfl, hf, h1⟩, h2⟩
    · exact e.elim
  case box => exact al e
  case alloc => exact al e
  case bsl => exact al e
  case mks => exact al e
  all_goals (obtain ⟨v, h1, h2⟩ := e; exact ⟨.gd g v, none, ⟨rfl, v, rfl, h1⟩, h2⟩)

theorem okG_of {tok : Nat} {hb : AH} {o : AOper} {st : St} {h : AH} {K : St → AH → Prop} (e : evHG P tok hb o st h K) : ∃ v nb, okG P tok hb o st h v nb ∧ K (put o.d v st) (setNb h tok nb) := by
  unfold evHG at e
  unfold okG
  cases hg : o.g with
  | none => simp only [hg] at e ⊢; exact okA_of e
  | some sw =>
    obtain ⟨s, want⟩ := sw
    simp only [hg] at e ⊢
    cases hq : guardOf (st.get s) want with
    | none => simp only [hq] at e
    | some g => simp only [hq] at e ⊢; exact okC_of e

theorem okA_ev {tok : Nat} {hb : AH} {d : Option Nat} {o : AOp} {st : St} {h : AH} {v : AV} {nb : Option (List AV)} (hle : hb.le h) (hnx : h.nx = hb.nx) (e : okA P tok hb o st h v nb) :
    evA P tok d o st h fun st' h' => st' = put d v st ∧ h' = setNb h tok nb := by
  cases o <;> simp only [evA, okA, AOp.isAl, if_true, if_false, Bool.false_eq_true] at e ⊢
  case call f args =>
    obtain ⟨fid, fst, caps, hf, hc⟩ := e
    simp only [hf]
    rcases hc with ⟨rfl, hc⟩ | ⟨p, n, k, cs, rfl, rfl, hc⟩
    · exact .inl ((hc.frame hle hnx).mono fun r h' ⟨h1, h2⟩ => ⟨by rw [h1], h2⟩)
    · exact .inr ⟨p, n, k, cs, hc.frame hle, rfl, rfl⟩
  case box => obtain ⟨cs, rfl, hq⟩ := e; simp only [hq]; refine ⟨?_, ?_⟩ <;> first | trivial | rfl
  case alloc => obtain ⟨cs, rfl, hq⟩ := e; simp only [hq]; refine ⟨?_, ?_⟩ <;> first | trivial | rfl
  case bsl => obtain ⟨cs, rfl, hq⟩ := e; simp only [hq]; refine ⟨?_, ?_⟩ <;> first | trivial | rfl
  case mks => obtain ⟨cs, rfl, hq⟩ := e; simp only [hq]; refine ⟨?_, ?_⟩ <;> first | trivial | rfl
  all_goals (obtain ⟨rfl, hq⟩ := e; simp only [hq]; refine ⟨?_, ?_⟩ <;> first | trivial | rfl)

theorem okC_ev {tok : Nat} {hb : AH} {g : Bool} {d : Option Nat} {o : AOp} {st : St} {h : AH} {v : AV} {nb : Option (List AV)} (hle : hb.le h) (hnx : h.nx = hb.nx) (e : okC P tok hb g o st h v nb) :
    evC P tok g d o st h fun st' h' => st' = put d v st ∧ h' = setNb h tok nb := by
  have al : ∀ {op : AOp}, ((g = true ∧ ∃ v0 cs, op.al (AX.val (stS g st)) tok = some (v0, cs) ∧ v = .gd g v0 ∧ nb = some cs) ∨ (g = false ∧ v = .gd g .un ∧ nb = none)) →
      ((g = true → match op.al (AX.val (stS g st)) tok with
        | some (v', cs) => put d (.gd g v') st = put d v st ∧ h.set tok (.cells true cs) = setNb h tok nb
        | none => False) ∧ (g = false → put d (.gd g .un) st = put d v st ∧ h = setNb h tok nb)) := by
    rintro op (⟨hg, v0, cs, hq, rfl, rfl⟩ | ⟨hg, rfl, rfl⟩)
    · refine ⟨fun _ => ?_, fun h => by rw [hg] at h; cases h⟩
      rw [hq]; exact ⟨rfl, rfl⟩
    · exact ⟨(fun h => by rw [hg] at h; cases h), fun _ => ⟨rfl, rfl⟩⟩
  cases o <;> simp only [evC, okC, AOp.isVal, AOp.isAl, if_true, if_false, Bool.false_eq_true] at e ⊢
  case call f args =>
    obtain ⟨rfl, v0, fid, fst, caps, rfl, hf, hc⟩ := e
    simp only [hf]
    exact ⟨v0, fun hg => (hc hg).frame hle hnx, rfl, rfl⟩
  case box => exact al e
  case alloc => exact al e
  case bsl => exact al e
  case mks => exact al e
  all_goals (obtain ⟨rfl, v0, rfl, hq⟩ := e; exact ⟨v0, hq, rfl, rfl⟩)

theorem okG_ev {tok : Nat} {hb : AH} {o : AOper} {st : St} {h : AH} {v : AV} {nb : Option (List AV)} (hle : hb.le h) (hnx : h.nx = hb.nx) (e : okG P tok hb o st h v nb) :
    evG P tok o st h fun st' h' => st' = put o.d v st ∧ h' = setNb h tok nb := by
  unfold okG at e
  unfold evG
  cases hg : o.g with
  | none => simp only [hg] at e ⊢; exact okA_ev hle hnx e
  | some sw =>
    obtain ⟨s, want⟩ := sw
    simp only [hg] at e ⊢
    cases hq : guardOf (st.get s) want with
    | none => simp only [hq] at e
    | some g => simp only [hq] at e ⊢; exact okC_ev hle hnx e

/-- the slots that an operation looks at -/
def AX.slot : AX → Option Nat
  | .t n => some n
  | .c _ => none
def AOper.reads (o : AOper) : List Nat := o.op.xs.filterMap AX.slot ++ (match o.g with | some (s, _) => [s] | none => [])

theorem okA_move {tok : Nat} {hb : AH} {o : AOp} {st st' : St} {h h' : AH} {v : AV} {nb : Option (List AV)} (hx : ∀ x ∈ o.xs, x.val st = x.val st')
    (hl : ∀ x t, x ∈ o.xs → (x.val st).tok = some t → ∀ c, h.m t = some c → h'.m t = some c) (e : okA P tok hb o st h v nb) : okA P tok hb o st' h' v nb := by
  cases hop : o <;> simp only [hop] at e hx hl <;> simp only [okA, AOp.isAl, if_true, if_false, Bool.false_eq_true] at e ⊢
  case call f args =>
    obtain ⟨fid, fst, caps, hf, hc⟩ := e
    refine ⟨fid, fst, caps, by rw [← hx f (by simp [AOp.xs])]; exact hf, ?_⟩
    rw [← List.map_congr_left (f := AX.val st) (g := AX.val st') fun y hy => hx y (by simp [AOp.xs, hy])]
    exact hc
  case box => obtain ⟨cs, rfl, hq⟩ := e; exact ⟨cs, rfl, by rw [← al_congr hx]; exact hq⟩
  case alloc => obtain ⟨cs, rfl, hq⟩ := e; exact ⟨cs, rfl, by rw [← al_congr hx]; exact hq⟩
  case bsl => obtain ⟨cs, rfl, hq⟩ := e; exact ⟨cs, rfl, by rw [← al_congr hx]; exact hq⟩
  case mks => obtain ⟨cs, rfl, hq⟩ := e; exact ⟨cs, rfl, by rw [← al_congr hx]; exact hq⟩
  all_goals
    obtain ⟨rfl, hq⟩ := e
    exact ⟨rfl, ev_congr hx hl hq⟩

theorem okC_move {tok : Nat} {hb : AH} {g : Bool} {o : AOp} {st st' : St} {h h' : AH} {v : AV} {nb : Option (List AV)} (hx : ∀ x ∈ o.xs, x.val (stS g st) = x.val (stS g st'))
    (hl : g = true → ∀ x t, x ∈ o.xs → (x.val (stS g st)).tok = some t → ∀ c, h.m t = some c → h'.m t = some c) (e : okC P tok hb g o st h v nb) : okC P tok hb g o st' h' v nb := by
  have al : ∀ {op : AOp}, (∀ x ∈ op.xs, x.val (stS g st) = x.val (stS g st')) → ((g = true ∧ ∃ v0 cs, op.al (AX.val (stS g st)) tok = some (v0, cs) ∧ v = .gd g v0 ∧ nb = some cs) ∨ (g = false ∧ v = .gd g .un ∧ nb = none)) →
      ((g = true ∧ ∃ v0 cs, op.al (AX.val (stS g st')) tok = some (v0, cs) ∧ v = .gd g v0 ∧ nb = some cs) ∨ (g = false ∧ v = .gd g .un ∧ nb = none)) := by
    rintro op hx (⟨hg, v0, cs, hq, r⟩ | r)
    · exact .inl ⟨hg, v0, cs, by rw [← al_congr hx]; exact hq, r⟩
    · exact .inr r
  cases hop : o <;> simp only [hop] at e hx hl <;> simp only [okC, AOp.isVal, if_true, if_false, Bool.false_eq_true] at e ⊢
  case call f args =>
    obtain ⟨rfl, v0, fid, fst, caps, rfl, hf, hc⟩ := e
    refine ⟨rfl, v0, fid, fst, caps, rfl, by rw [← hx f (by simp [AOp.xs])]; exact hf, ?_⟩
    rw [← List.map_congr_left (f := AX.val (stS g st)) (g := AX.val (stS g st')) fun y hy => hx y (by simp [AOp.xs, hy])]
    exact hc
  case box => exact al hx e
  case alloc => exact al hx e
  case bsl => exact al hx e
  case mks => exact al hx e
  all_goals
    obtain ⟨rfl, v0, rfl, hq⟩ := e
    exact ⟨rfl, v0, rfl, fun hg => ev_congr hx (hl hg) (hq hg)⟩

theorem okG_move {tok : Nat} {hb : AH} {o : AOper} {st st' : St} {h h' : AH} {v : AV} {nb : Option (List AV)} (hs : ∀ x ∈ o.reads, st.get x = st'.get x)
    (hl : ∀ x t, x ∈ o.op.xs → (x.val (stS true st)).tok = some t → ∀ c, h.m t = some c → h'.m t = some c) (e : okG P tok hb o st h v nb) : okG P tok hb o st' h' v nb := by
  have hx : ∀ x ∈ o.op.xs, x.val st = x.val st' := by
    intro x hx
    cases x with
    | t n => exact hs n (by unfold AOper.reads; exact List.mem_append_left _ (List.mem_filterMap.2 ⟨.t n, hx, rfl⟩))
    | c v => rfl
  have hxS : ∀ g, ∀ x ∈ o.op.xs, x.val (stS g st) = x.val (stS g st') := by
    intro g x hx'
    cases x with
    | t n => simp only [AX.val, stS_get]; rw [show st.get n = st'.get n from hx _ hx']
    | c v => rfl
  unfold okG at e ⊢
  cases hg : o.g with
  | none =>
    simp only [hg] at e ⊢
    refine okA_move hx (fun x t hx' hp => hl x t hx' ?_) e
    cases x with
    | t n =>
      simp only [AX.val] at hp ⊢
      rw [stS_get]
      generalize st.get n = v at hp ⊢
      cases v <;> simp only [AV.tok, reduceCtorEq] at hp ⊢ <;> exact hp
    | c v => exact hp
  | some sw =>
    obtain ⟨s, want⟩ := sw
    simp only [hg] at e ⊢
    have : st.get s = st'.get s := hs s (by unfold AOper.reads; simp [hg])
    rw [← this]
    cases hq : guardOf (st.get s) want with
    | none => simp only [hq] at e
    | some g =>
      simp only [hq] at e ⊢
      exact okC_move (hxS g) (fun hg' x t hx' hp => hl x t hx' (by subst hg'; exact hp)) e
end
end Go.Am
