/- The abstract machine: a region that draws its order: quiet operations in whatever order, then the rest in the text's order. -/
import Derived.Test.YtbhkbaapfioijaaAmJ
set_option linter.unusedVariables false
set_option linter.unusedSimpArgs false
namespace Go.Am

def AOp.xs : AOp → List AX
  | .mv x | .neg x | .not x | .conv _ x | .ext x _ | .fa x _ | .fld x _ _ | .nck x | .len x | .ld _ x | .box x | .str x | .cvt x | .byt x | .eqz _ x | .mln x => [x]
  | .pick c a b => [c, a, b]
  | .bin _ _ x y | .ia _ x y | .iap _ _ x y | .iv _ _ _ x y | .eqn _ x y | .eqa _ _ x y | .eqs _ x y | .mks _ _ _ x y | .sto _ x y | .app _ _ x y | .mlk _ _ _ x y => [x, y]
  | .mup _ x k v => [x, k, v]
  | .sli _ x lo hi | .slp _ _ x lo hi => x :: (lo.toList ++ hi.toList)
  | .sl3 _ x lo hi mx => x :: (lo.toList ++ [hi, mx])
  | .bld _ ps | .bsl _ _ ps => ps.map (·.2.2)
  | .mm _ x xs => x :: xs
  | .mkf _ a b => a ++ b
  | .alloc _ | .mkm => []
  | .call f xs => f :: xs

theorem afill_congr {ρ ρ' : AX → AV} : ∀ {ps : List (Nat × Nat × AX)} {cs : List AV}, (∀ x ∈ ps.map (·.2.2), ρ x = ρ' x) → afill ρ cs ps = afill ρ' cs ps
  | [], cs, _ => rfl
  | (off, n, x) :: ps, cs, h => by
    simp only [afill]
    rw [h x (by simp)]
    split
    · exact afill_congr fun y hy => h y (by simp at hy ⊢; exact .inr hy)
    · rfl

theorem bound_congr {ρ ρ' : AX → AV} {d : Nat} {x : Option AX} (h : ∀ y ∈ x.toList, ρ y = ρ' y) : bound ρ d x = bound ρ' d x := by
  cases x with
  | none => rfl
  | some y => simp only [bound]; rw [h y (by simp)]

/-- the token that a value leads to -/
def AV.tok : AV → Option Nat
  | .p t _ => some t
  | .sl t _ n _ => if n = 0 then none else some t
  | .mp t => some t
  | _ => none
theorem row_of_m {h h' : AH} {t : Nat} (hm : ∀ c, h.m t = some c → h'.m t = some c) {cs : List AV} (hr : h.row t = some cs) : h'.row t = some cs := by
  unfold AH.row at hr ⊢
  split at hr
  · rename_i w cs' hq; rw [hm _ hq]; exact hr
  · rename_i cs' hq; rw [hm _ hq]; exact hr
  · cases hr

theorem qpp_move {h h' : AH} {k b tok : Nat} {x y : AV} {r : AV × List AV} (hl : ∀ t, y.tok = some t → ∀ c, h.m t = some c → h'.m t = some c) (e : h.qpp k b tok x y = some r) : h'.qpp k b tok x y = some r := by
  have he : ∀ ys, h.elems k y = some ys → h'.elems k y = some ys := by
    intro ys hy
    unfold AH.elems at hy ⊢
    cases y <;> simp only at hy ⊢ <;> try exact hy
    rename_i t2 o2 m a2
    by_cases h0 : m = 0
    · rw [if_pos h0] at hy ⊢; exact hy
    · rw [if_neg h0] at hy ⊢
      cases hr : h.row t2 with
      | none => rw [hr] at hy; cases hy
      | some cs => rw [hr] at hy; rw [row_of_m (hl t2 (by simp only [AV.tok, if_neg h0])) hr]; exact hy
  unfold AH.qpp at e ⊢
  split at e
  · rename_i t o n a m ys h1 h2
    simp only [h1, he ys h2]
    exact e
  · cases e

theorem ev_congr {ρ ρ' : AX → AV} {h h' : AH} {o : AOp} {v : AV} (hx : ∀ x ∈ o.xs, ρ x = ρ' x) (hl : ∀ x t, x ∈ o.xs → (ρ x).tok = some t → ∀ c, h.m t = some c → h'.m t = some c) (e : o.ev ρ h = some v) : o.ev ρ' h' = some v := by
  cases o <;> simp only [AOp.xs, List.mem_cons, List.not_mem_nil, or_false, forall_eq_or_imp, forall_eq] at hx <;> simp only [AOp.ev] at e ⊢
  case ld n x =>
    rw [← hx]
    cases hp : ρ x <;> simp only [hp] at e ⊢ <;> try exact e
    rename_i t o'
    cases hr : h.row t with
    | none => rw [hr] at e; cases e
    | some cs => rw [hr] at e; rw [row_of_m (hl x t (by simp [AOp.xs]) (by rw [hp]; rfl)) hr]; exact e
  case str x =>
    rw [← hx]
    cases hp : ρ x <;> simp only [hp] at e ⊢ <;> try exact e
    rename_i t o' n a'
    split at e
    · rename_i h0; rw [if_pos h0]; exact e
    · rename_i h0
      rw [if_neg h0]
      cases hr : h.row t with
      | none => rw [hr] at e; cases e
      | some cs => rw [hr] at e; rw [row_of_m (hl x t (by simp [AOp.xs]) (by rw [hp]; simp [AV.tok, h0])) hr]; exact e
  case sli k x lo hi =>
    rw [← hx.1, ← bound_congr (fun y hy => hx.2 y (by simp at hy ⊢; exact .inl hy))]
    cases hq : ρ x <;> simp only [hq] at e ⊢ <;> try exact e
    all_goals
      rw [← bound_congr (fun y hy => hx.2 y (by simp at hy ⊢; exact .inr hy))]
      exact e
  case sl3 k x lo hi mx =>
    rw [← hx.1, ← bound_congr (fun y hy => hx.2 y (by simp at hy ⊢; exact .inl hy))]
    cases hq : ρ x <;> simp only [hq] at e ⊢ <;> try exact e
    all_goals
      rw [← bound_congr (x := some hi) (fun y hy => hx.2 y (by simp at hy ⊢; exact .inr (.inl hy))), ← bound_congr (x := some mx) (fun y hy => hx.2 y (by simp at hy ⊢; exact .inr (.inr hy)))]
      exact e
  case slp n k x lo hi =>
    rw [← hx.1, ← bound_congr (fun y hy => hx.2 y (by simp at hy ⊢; exact .inl hy)), ← bound_congr (fun y hy => hx.2 y (by simp at hy ⊢; exact .inr hy))]
    exact e
  case bld z ps => rw [← afill_congr hx]; exact e
  case mlk kk z ok x k =>
    rw [← hx.1, ← hx.2]
    cases hp : ρ x <;> simp only [hp] at e ⊢ <;> try exact e
    rename_i t
    cases hr : h.m t with
    | none => rw [hr] at e; cases e
    | some c => rw [hr] at e; rw [hl x t (by simp [AOp.xs]) (by rw [hp]; rfl) c hr]; exact e
  case mln x =>
    rw [← hx]
    cases hp : ρ x <;> simp only [hp] at e ⊢ <;> try exact e
    rename_i t
    cases hr : h.m t with
    | none => rw [hr] at e; cases e
    | some c => rw [hr] at e; rw [hl x t (by simp [AOp.xs]) (by rw [hp]; rfl) c hr]; exact e
  case mm mx x xs =>
    rw [← hx.1, ← List.map_congr_left (f := ρ) (g := ρ') fun y hy => hx.2 y hy]
    exact e
  case mkf f a b =>
    rw [← List.map_congr_left (f := ρ) (g := ρ') (l := a) fun y hy => hx y (by simp [hy]), ← List.map_congr_left (f := ρ) (g := ρ') (l := b) fun y hy => hx y (by simp [hy])]
    exact e
  case pick c a b => rw [← hx.1, ← hx.2.1, ← hx.2.2]; exact e
  all_goals first
    | exact e
    | (rw [← hx]; exact e)
    | (rw [← hx.1, ← hx.2]; exact e)

theorem al_congr {ρ ρ' : AX → AV} {o : AOp} {tok : Nat} (hx : ∀ x ∈ o.xs, ρ x = ρ' x) : o.al ρ tok = o.al ρ' tok := by
  cases o <;> simp only [AOp.xs, List.mem_cons, List.not_mem_nil, or_false, forall_eq_or_imp, forall_eq] at hx <;> simp only [AOp.al]
  case box x => rw [hx]
  case bsl k z ps => rw [afill_congr hx]
  case mks k b z x y => rw [hx.1, hx.2]

/-- A contract that leaves the heap alone serves in a wider heap. -/
theorem ACalls.frame {P : Program} {f : Nat} {args : List AV} {hb h : AH} {v : AV} (c : ACalls P f args hb fun r h' => r = v ∧ h' = hb) (hle : hb.le h) (hnx : h.nx = hb.nx) : ACalls P f args h fun r h' => r = v ∧ h' = h := by
  refine ⟨c.1, fun ι w vs wr hv => Calls.mono (c.2 ι w vs (wr.drop hle) hv) fun e w' he => ?_⟩
  revert he; rintro ⟨u, r, h', ι', rfl, ⟨rfl, rfl⟩, h1, h2, h3⟩
  have hold : ∀ t c, h.m t = some c → ι' t = ι t := fun t c ht => h3.old t (by rw [← hnx]; exact (wr.blk t c ht).1)
  have hkeep : ∀ t c l, h.m t = some c → h'.m t = none → ι t = some l → w'.heap[l.b]? = w.heap[l.b]? := by
    intro t c l ht hn hl
    refine h3.keep l.b (wr.lt t l hl).2 fun t0 c0 l0 hm0 hw0 hl0 hbb => ?_
    have := wr.inj t0 t l0 l c0 c (hle.1 _ _ hm0) ht hl0 hl hbb (.inl hw0)
    subst this
    rw [hn] at hm0; cases hm0
  refine ⟨u, _, h, ι', rfl, ⟨rfl, rfl⟩, h1, ⟨fun t l hl => ?_, fun t c ht => ?_, fun t t' l l' c c' h4 h5 h6 h7 h8 h9 => ?_, wr.pos, h2.nil, fun b xs hb => ⟨(h2.phi b xs hb).1, fun t c l ht hc hl => ?_⟩⟩, ⟨by omega, fun t ht => h3.old t (by omega), h3.os, h3.tape, h3.output, h3.size, fun b hbb hk => ?_, fun t c l ht hc hl => ?_, h3.phi, fun b xs hb => ?_, h3.drawn⟩⟩
  · rw [hnx]; exact h2.lt t l hl
  · refine ⟨(wr.blk t c ht).1, ?_⟩
    cases hq : h'.m t with
    | some c0 =>
      have := hle.1 _ _ hq
      rw [ht] at this; cases this
      exact (h2.blk t _ hq).2
    | none => exact (wr.blk t c ht).2.mono ⟨fun s l hs => by rw [h3.old s (by rw [← hnx]; exact (wr.lt s l hs).1)]; exact hs, h3.phi⟩ (hold t c ht) fun l hl => hkeep t c l ht hq hl
  · rw [hold t c h4] at h6
    rw [hold t' c' h5] at h7
    exact wr.inj t t' l l' c c' h4 h5 h6 h7 h8 h9
  · rw [hold t c ht] at hl
    rcases h3.new b xs hb with q | q | ⟨t0, c0, l0, q1, q2, q3, q4⟩
    · exact (wr.phi b xs q).2 t c l ht hc hl
    · have := (wr.lt t l hl).2; omega
    · exact absurd q4 ((h2.phi b xs hb).2 t0 c0 l0 q1 q2 (by rw [hold t0 c0 (hle.1 _ _ q1)]; exact q3))
  · exact h3.keep b hbb fun t c l ht hc hl => hk t c l (hle.1 _ _ ht) hc hl
  · rw [hold t c ht] at hl
    exact .inr ⟨t, c, l, ht, hc, hl, rfl⟩
  · rcases h3.new b xs hb with q | q | ⟨t0, c0, l0, q1, q2, q3, q4⟩
    · exact .inl q
    · exact .inr (.inl q)
    · exact .inr (.inr ⟨t0, c0, l0, hle.1 _ _ q1, q2, q3, q4⟩)

/-- a heap, with some of another one's blocks -/
def AH.plus (hb h : AH) : List Nat → AH
  | [] => hb
  | t :: ts => { hb.plus h ts with m := fun s => if s = t then h.m t else (hb.plus h ts).m s }
theorem AH.plus_nx (hb h : AH) : ∀ ts, (hb.plus h ts).nx = hb.nx
  | [] => rfl
  | _ :: ts => AH.plus_nx hb h ts
theorem AH.plus_m {hb h : AH} {s : Nat} {c : Blk} : ∀ {ts : List Nat}, (hb.plus h ts).m s = some c → (s ∈ ts ∧ h.m s = some c) ∨ hb.m s = some c
  | [], e => .inr e
  | t :: ts, e => by
    simp only [AH.plus] at e
    by_cases q : s = t
    · subst q; rw [if_pos rfl] at e; exact .inl ⟨List.mem_cons_self, e⟩
    · rw [if_neg q] at e
      rcases AH.plus_m e with ⟨h1, h2⟩ | h1
      · exact .inl ⟨List.mem_cons_of_mem _ h1, h2⟩
      · exact .inr h1
theorem AH.plus_le {hb h : AH} (hle : hb.le h) (ts : List Nat) : (hb.plus h ts).le h :=
  ⟨fun s c e => by rcases AH.plus_m e with ⟨_, h2⟩ | h2; exact h2; exact hle.1 _ _ h2, by rw [AH.plus_nx]; exact hle.2⟩
theorem AH.plus_mono {hb h h' : AH} : ∀ {ts : List Nat}, (∀ t ∈ ts, ∀ c, h.m t = some c → h'.m t = some c) → (hb.plus h ts).le (hb.plus h' ts)
  | [], _ => AH.le_refl _
  | t :: ts, hl => by
    have ih := AH.plus_mono (hb := hb) (ts := ts) (h := h) (h' := h') fun t ht => hl t (List.mem_cons_of_mem _ ht)
    refine ⟨fun s c e => ?_, by rw [AH.plus_nx, AH.plus_nx]; exact Nat.le_refl _⟩
    simp only [AH.plus] at e ⊢
    by_cases q : s = t
    · rw [if_pos q] at e ⊢; exact hl t List.mem_cons_self c e
    · rw [if_neg q] at e ⊢; exact ih.1 s c e

/-! ### One quiet operation -/
section
variable (P : Program)

def setNb (h : AH) (tok : Nat) : Option (List AV) → AH
  | some cs => h.set tok (.cells true cs)
  | none => h
/-- what an operation does to the heap: one block, set -/
abbrev NB := Option (Nat × Blk)
def setE (h : AH) : NB → AH
  | some p => h.set p.1 p.2
  | none => h
def nbE (tok : Nat) (nb : Option (List AV)) : NB := nb.map fun cs => (tok, Blk.cells true cs)
theorem setE_nbE (h : AH) (tok : Nat) (nb : Option (List AV)) : setE h (nbE tok nb) = setNb h tok nb := by cases nb <;> rfl
/-- a store, as a block that is set -/
def AH.stoE (h : AH) (n : Option Nat) (x v : AV) : NB :=
  match x with
  | .p t o => match h.m t with
    | some (.cells true cs) => (wrt cs o v n).map fun cs' => (t, .cells true cs')
    | _ => none
  | _ => none
def AH.mupE (h : AH) (kk : Option (List Nat)) (x k v : AV) : NB :=
  match x with
  | .mp t => match h.m t with
    | some (.map es) => if kq kk k k = some true then (mput kk k v es).map fun es' => (t, .map es') else none
    | _ => none
  | _ => none
theorem sto_E (h : AH) (n : Option Nat) (x v : AV) : h.sto n x v = (h.stoE n x v).map fun p => h.set p.1 p.2 := by
  cases x <;> try rfl
  rename_i t o
  simp only [AH.sto, AH.stoE]
  rcases h.m t with _ | (⟨_ | _, cs⟩ | cs | es) <;> try rfl
  simp only []
  rw [Option.map_map]; rfl
theorem mup_E (h : AH) (kk : Option (List Nat)) (x k v : AV) : h.mup kk x k v = (h.mupE kk x k v).map fun p => h.set p.1 p.2 := by
  cases x <;> try rfl
  rename_i t
  simp only [AH.mup, AH.mupE]
  rcases h.m t with _ | (⟨_ | _, cs⟩ | cs | es) <;> try rfl
  simp only []
  split
  · rw [Option.map_map]; rfl
  · rfl
theorem stoE_move {h h' : AH} {n : Option Nat} {x v : AV} {p : Nat × Blk} (hl : ∀ t, x.tok = some t → ∀ c, h.m t = some c → h'.m t = some c) (e : h.stoE n x v = some p) : h'.stoE n x v = some p := by
  unfold AH.stoE at *
  split at e
  · rename_i t o
    split at e
    · rename_i hq; rw [hl t rfl _ hq]; exact e
    · cases e
  · cases e
theorem mupE_move {h h' : AH} {kk : Option (List Nat)} {x k v : AV} {p : Nat × Blk} (hl : ∀ t, x.tok = some t → ∀ c, h.m t = some c → h'.m t = some c) (e : h.mupE kk x k v = some p) : h'.mupE kk x k v = some p := by
  unfold AH.mupE at *
  split at e
  · rename_i t
    split at e
    · rename_i hq; rw [hl t rfl _ hq]; exact e
    · cases e
  · cases e
/-- writes into a block that was there -/
def AOp.late : AOp → Bool
  | .sto .. | .mup .. => true
  | _ => false
def AOp.lateOk : AOp → Bool
  | .sto n _ _ => n != some 0
  | _ => true
/-- calls a function -/
def AOp.cal : AOp → Bool
  | .call .. => true
  | _ => false
/-- looks at no block -/
def AOp.free : AOp → Bool
  | .ld .. | .str .. | .mlk .. | .mln .. | .call .. | .app .. | .byt .. | .cvt .. | .eqz .. | .mkm | .sto .. | .mup .. => false
  | _ => true
theorem ev_free {o : AOp} (hf : o.free = true) (ρ : AX → AV) (h h' : AH) : o.ev ρ h = o.ev ρ h' := by
  cases o <;> first | rfl | cases hf
def goodB : Blk → Prop
  | .cells _ cs => cs ≠ []
  | .frz cs => True
  | .map _ => True
/-- a call that may come in any order -/
def okCall (tok : Nat) (hb : AH) (f : Nat) (args : List AV) (r : AV) (nb : Option (List AV)) : Prop :=
  (nb = none ∧ ACalls P f args hb fun r' h' => r' = r ∧ h' = hb) ∨ ∃ p n k cs, nb = some cs ∧ r = plug p (.sl tok 0 n k) ∧ FCalls P f args hb p n k cs
/-- an operation that may come in any order: a value, a new block, or a call that leaves the heap alone. 'hb': the heap at the region's start. -/
def evHA (tok : Nat) (hb : AH) (d : Option Nat) (o : AOp) (st : St) (h : AH) (K : St → AH → Prop) : Prop :=
  match o with
  | .sto n x v => match h.sto n (x.val st) (v.val st) with
    | some h' => K (put d .un st) h'
    | none => False
  | .app k b x y => match h.qpp k b tok (x.val st) (y.val st) with
    | some (v, cs) => K (put d v st) (h.set tok (.cells true cs))
    | none => False
  | .byt _ => False
  | .eqz .. => False
  | .cvt _ => False
  | .mkm => False
  | .mup kk x k v => match h.mup kk (x.val st) (k.val st) (v.val st) with
    | some h' => K (put d .un st) h'
    | none => False
  | .call f args => match f.val st with
    | .fn f fst caps => ∃ ts r nb, (∀ t ∈ ts, ∃ x ∈ args, (x.val st).tok = some t) ∧ okCall P tok (hb.plus h ts) f (fst ++ args.map (AX.val st) ++ caps) r nb ∧ K (put d r st) (setNb h tok nb)
    | _ => False
  | o => if o.isAl then match o.al (AX.val st) tok with
      | some (v, cs) => K (put d v st) (h.set tok (.cells true cs))
      | none => False
    else match o.ev (AX.val st) h with
      | some v => K (put d v st) h
      | none => False
def evHC (tok : Nat) (hb : AH) (g : Bool) (d : Option Nat) (o : AOp) (st : St) (h : AH) (K : St → AH → Prop) : Prop :=
  match o with
  | .sto .. => False
  | .app .. => False
  | .byt _ => False
  | .eqz .. => False
  | .cvt _ => False
  | .mkm => False
  | .mup .. => False
  | .call f args => match f.val (stS g st) with
    | .fn f fst caps => ∃ v, (g = true → ACalls P f (fst ++ args.map (AX.val (stS g st)) ++ caps) hb fun r h' => r = v ∧ h' = hb) ∧ K (put d (.gd g v) st) h
    | _ => False
  | o => if o.isVal then ∃ v, (g = true → o.ev (AX.val (stS g st)) h = some v) ∧ K (put d (.gd g v) st) h
    else (g = true → match o.al (AX.val (stS g st)) tok with
        | some (v, cs) => K (put d (.gd g v) st) (h.set tok (.cells true cs))
        | none => False) ∧ (g = false → K (put d (.gd g .un) st) h)
def evHG (tok : Nat) (hb : AH) (o : AOper) (st : St) (h : AH) (K : St → AH → Prop) : Prop :=
  match o.g with
  | none => evHA P tok hb o.d o.op st h K
  | some (s, want) => match guardOf (st.get s) want with
    | some g => evHC P tok hb g o.d o.op st h K
    | none => False
def evHead (base : Nat) (hb : AH) : List AOper → Nat → St → AH → (St → AH → Prop) → Prop
  | [], _, st, h, K => K st h
  | o :: os, i, st, h, K => evHG P (base + i) hb o st h fun st' h' => evHead base hb os (i + 1) st' h' K

/-- what a quiet operation yields -/
def okA (tok : Nat) (hb : AH) (o : AOp) (st : St) (h : AH) (v : AV) (nb : NB) : Prop :=
  match o with
  | .sto n x w => v = .un ∧ ∃ p, nb = some p ∧ h.stoE n (x.val st) (w.val st) = some p
  | .app k b x y => ∃ cs, nb = some (tok, .cells true cs) ∧ h.qpp k b tok (x.val st) (y.val st) = some (v, cs)
  | .byt _ => False
  | .eqz .. => False
  | .cvt _ => False
  | .mkm => False
  | .mup kk x k w => v = .un ∧ ∃ p, nb = some p ∧ h.mupE kk (x.val st) (k.val st) (w.val st) = some p
  | .call f args => ∃ ts fid fst caps n0, nb = nbE tok n0 ∧ (∀ t ∈ ts, ∃ x ∈ args, (x.val st).tok = some t) ∧ f.val st = .fn fid fst caps ∧ okCall P tok (hb.plus h ts) fid (fst ++ args.map (AX.val st) ++ caps) v n0
  | o => if o.isAl then ∃ cs, nb = some (tok, .cells true cs) ∧ o.al (AX.val st) tok = some (v, cs) else nb = none ∧ o.ev (AX.val st) h = some v
def okC (tok : Nat) (hb : AH) (g : Bool) (o : AOp) (st : St) (h : AH) (v : AV) (nb : NB) : Prop :=
  match o with
  | .sto .. => False
  | .app .. => False
  | .byt _ => False
  | .eqz .. => False
  | .cvt _ => False
  | .mkm => False
  | .mup .. => False
  | .call f args => nb = none ∧ ∃ v0 fid fst caps, v = .gd g v0 ∧ f.val (stS g st) = .fn fid fst caps ∧ (g = true → ACalls P fid (fst ++ args.map (AX.val (stS g st)) ++ caps) hb fun r' h' => r' = v0 ∧ h' = hb)
  | o => if o.isVal then nb = none ∧ ∃ v0, v = .gd g v0 ∧ (g = true → o.ev (AX.val (stS g st)) h = some v0)
    else (g = true ∧ ∃ v0 cs, o.al (AX.val (stS g st)) tok = some (v0, cs) ∧ v = .gd g v0 ∧ nb = some (tok, .cells true cs)) ∨ (g = false ∧ v = .gd g .un ∧ nb = none)
def okG (tok : Nat) (hb : AH) (o : AOper) (st : St) (h : AH) (v : AV) (nb : NB) : Prop :=
  match o.g with
  | none => okA P tok hb o.op st h v nb
  | some (s, want) => match guardOf (st.get s) want with
    | some g => okC P tok hb g o.op st h v nb
    | none => False
end

section
variable {P : Program}
theorem okA_of {tok : Nat} {hb : AH} {d : Option Nat} {o : AOp} {st : St} {h : AH} {K : St → AH → Prop} (e : evHA P tok hb d o st h K) : ∃ v nb, okA P tok hb o st h v nb ∧ K (put d v st) (setE h nb) := by
  cases o <;> simp only [evHA, okA, AOp.isAl, if_true, if_false, Bool.false_eq_true] at e ⊢
  case call f args =>
    split at e
    · rename_i fid fst caps hf
      obtain ⟨ts, r, nb, h0, h1, h2⟩ := e
      exact ⟨r, nbE tok nb, ⟨ts, _, _, _, nb, rfl, h0, hf, h1⟩, by rw [setE_nbE]; exact h2⟩
    · exact e.elim
  case sto n x v =>
    rw [sto_E] at e
    cases hq : h.stoE n (x.val st) (v.val st) with
    | none => rw [hq] at e; exact e.elim
    | some p => rw [hq] at e; exact ⟨_, some p, ⟨rfl, p, rfl, rfl⟩, e⟩
  case mup kk x k v =>
    rw [mup_E] at e
    cases hq : h.mupE kk (x.val st) (k.val st) (v.val st) with
    | none => rw [hq] at e; exact e.elim
    | some p => rw [hq] at e; exact ⟨_, some p, ⟨rfl, p, rfl, rfl⟩, e⟩
  case app => split at e <;> first | exact e.elim | (rename_i hq; exact ⟨_, _, ⟨_, rfl, hq⟩, e⟩)
  case box => split at e <;> first | exact e.elim | (rename_i hq; exact ⟨_, _, ⟨_, rfl, hq⟩, e⟩)
  case alloc => split at e <;> first | exact e.elim | (rename_i hq; exact ⟨_, _, ⟨_, rfl, hq⟩, e⟩)
  case bsl => split at e <;> first | exact e.elim | (rename_i hq; exact ⟨_, _, ⟨_, rfl, hq⟩, e⟩)
  case mks => split at e <;> first | exact e.elim | (rename_i hq; exact ⟨_, _, ⟨_, rfl, hq⟩, e⟩)
  all_goals (split at e <;> first | exact e.elim | (rename_i hq; exact ⟨_, none, ⟨rfl, hq⟩, e⟩))

theorem okC_of {tok : Nat} {hb : AH} {g : Bool} {d : Option Nat} {o : AOp} {st : St} {h : AH} {K : St → AH → Prop} (e : evHC P tok hb g d o st h K) : ∃ v nb, okC P tok hb g o st h v nb ∧ K (put d v st) (setE h nb) := by
  have al : ∀ {op : AOp}, ((g = true → match op.al (AX.val (stS g st)) tok with
        | some (v, cs) => K (put d (.gd g v) st) (h.set tok (.cells true cs))
        | none => False) ∧ (g = false → K (put d (.gd g .un) st) h)) →
      ∃ v nb, ((g = true ∧ ∃ v0 cs, op.al (AX.val (stS g st)) tok = some (v0, cs) ∧ v = .gd g v0 ∧ nb = some (tok, .cells true cs)) ∨ (g = false ∧ v = .gd g .un ∧ nb = none)) ∧ K (put d v st) (setE h nb) := by
    intro op e
    cases g with
    | false => exact ⟨_, none, .inr ⟨rfl, rfl, rfl⟩, e.2 rfl⟩
    | true =>
      have e1 := e.1 rfl
      split at e1
      · rename_i v cs hq; exact ⟨_, some (tok, .cells true cs), .inl ⟨rfl, v, cs, hq, rfl, rfl⟩, e1⟩
      · exact e1.elim
  cases o <;> simp only [evHC, okC, AOp.isVal, if_true, if_false, Bool.false_eq_true] at e ⊢
  case call f args =>
    split at e
    · rename_i fid fst caps hf
      obtain ⟨v, h1, h2⟩ := e
      exact ⟨.gd g v, none, ⟨rfl, v, fid, fst, caps, rfl, hf, h1⟩, h2⟩
    · exact e.elim
  case box => exact al e
  case alloc => exact al e
  case bsl => exact al e
  case mks => exact al e
  all_goals (obtain ⟨v, h1, h2⟩ := e; exact ⟨.gd g v, none, ⟨rfl, v, rfl, h1⟩, h2⟩)

theorem okG_of {tok : Nat} {hb : AH} {o : AOper} {st : St} {h : AH} {K : St → AH → Prop} (e : evHG P tok hb o st h K) : ∃ v nb, okG P tok hb o st h v nb ∧ K (put o.d v st) (setE h nb) := by
  unfold evHG at e
  unfold okG
  cases hg : o.g with
  | none => simp only [hg] at e ⊢; exact okA_of e
  | some sw =>
    obtain ⟨s, want⟩ := sw
    simp only [hg] at e ⊢
    cases hq : guardOf (st.get s) want with
    | none => simp only [hq] at e
    | some g => simp only [hq] at e ⊢; exact okC_of e

theorem okA_ev {tok : Nat} {hb : AH} {d : Option Nat} {o : AOp} {st : St} {h : AH} {v : AV} {nb : NB} (hle : o.cal = true → hb.le h) (hnx : h.nx = hb.nx) (e : okA P tok hb o st h v nb) :
    evA P tok d o st h fun st' h' => st' = put d v st ∧ h' = setE h nb := by
  cases o <;> simp only [evA, okA, AOp.isAl, if_true, if_false, Bool.false_eq_true] at e ⊢
  case call f args =>
    obtain ⟨ts, fid, fst, caps, n0, rfl, _, hf, hc⟩ := e
    have hnx : h.nx = (hb.plus h ts).nx := by rw [AH.plus_nx]; exact hnx
    have hle := AH.plus_le (hle rfl) ts
    simp only [hf, setE_nbE]
    rcases hc with ⟨rfl, hc⟩ | ⟨p, n, k, cs, rfl, rfl, hc⟩
    · exact .inl ((hc.frame hle hnx).mono fun r h' ⟨h1, h2⟩ => ⟨by rw [h1], h2⟩)
    · exact .inr ⟨p, n, k, cs, hc.frame hle, rfl, rfl⟩
  case sto n x w => obtain ⟨rfl, p, rfl, hq⟩ := e; rw [sto_E, hq]; exact ⟨rfl, rfl⟩
  case mup kk x k w => obtain ⟨rfl, p, rfl, hq⟩ := e; rw [mup_E, hq]; exact ⟨rfl, rfl⟩
  case app => obtain ⟨cs, rfl, hq⟩ := e; simp only [qpp_app hq]; refine ⟨?_, ?_⟩ <;> first | trivial | rfl
  case box => obtain ⟨cs, rfl, hq⟩ := e; simp only [hq]; refine ⟨?_, ?_⟩ <;> first | trivial | rfl
  case alloc => obtain ⟨cs, rfl, hq⟩ := e; simp only [hq]; refine ⟨?_, ?_⟩ <;> first | trivial | rfl
  case bsl => obtain ⟨cs, rfl, hq⟩ := e; simp only [hq]; refine ⟨?_, ?_⟩ <;> first | trivial | rfl
  case mks => obtain ⟨cs, rfl, hq⟩ := e; simp only [hq]; refine ⟨?_, ?_⟩ <;> first | trivial | rfl
  all_goals (obtain ⟨rfl, hq⟩ := e; simp only [hq]; refine ⟨?_, ?_⟩ <;> first | trivial | rfl)

theorem okC_ev {tok : Nat} {hb : AH} {g : Bool} {d : Option Nat} {o : AOp} {st : St} {h : AH} {v : AV} {nb : NB} (hle : o.cal = true → hb.le h) (hnx : h.nx = hb.nx) (e : okC P tok hb g o st h v nb) :
    evC P tok g d o st h fun st' h' => st' = put d v st ∧ h' = setE h nb := by
  have al : ∀ {op : AOp}, ((g = true ∧ ∃ v0 cs, op.al (AX.val (stS g st)) tok = some (v0, cs) ∧ v = .gd g v0 ∧ nb = some (tok, .cells true cs)) ∨ (g = false ∧ v = .gd g .un ∧ nb = none)) →
      ((g = true → match op.al (AX.val (stS g st)) tok with
        | some (v', cs) => put d (.gd g v') st = put d v st ∧ h.set tok (.cells true cs) = setE h nb
        | none => False) ∧ (g = false → put d (.gd g .un) st = put d v st ∧ h = setE h nb)) := by
    rintro op (⟨hg, v0, cs, hq, rfl, rfl⟩ | ⟨hg, rfl, rfl⟩)
    · refine ⟨fun _ => ?_, fun h => by rw [hg] at h; cases h⟩
      rw [hq]; exact ⟨rfl, rfl⟩
    · exact ⟨(fun h => by rw [hg] at h; cases h), fun _ => ⟨rfl, rfl⟩⟩
  cases o <;> simp only [evC, okC, AOp.isVal, AOp.isAl, if_true, if_false, Bool.false_eq_true] at e ⊢
  case call f args =>
    obtain ⟨rfl, v0, fid, fst, caps, rfl, hf, hc⟩ := e
    simp only [hf]
    exact ⟨v0, fun hg => (hc hg).frame (hle rfl) hnx, rfl, rfl⟩
  case box => exact al e
  case alloc => exact al e
  case bsl => exact al e
  case mks => exact al e
  all_goals (obtain ⟨rfl, v0, rfl, hq⟩ := e; exact ⟨v0, hq, rfl, rfl⟩)

theorem okG_ev {tok : Nat} {hb : AH} {o : AOper} {st : St} {h : AH} {v : AV} {nb : NB} (hle : o.op.cal = true → hb.le h) (hnx : h.nx = hb.nx) (e : okG P tok hb o st h v nb) :
    evG P tok o st h fun st' h' => st' = put o.d v st ∧ h' = setE h nb := by
  unfold okG at e
  unfold evG
  cases hg : o.g with
  | none => simp only [hg] at e ⊢; exact okA_ev hle hnx e
  | some sw =>
    obtain ⟨s, want⟩ := sw
    simp only [hg] at e ⊢
    cases hq : guardOf (st.get s) want with
    | none => simp only [hq] at e
    | some g => simp only [hq] at e ⊢; exact .inl (okC_ev hle hnx e)

/-- the slots that an operation looks at -/
def AX.slot : AX → Option Nat
  | .t n => some n
  | .c _ => none
def AOper.reads (o : AOper) : List Nat := o.op.xs.filterMap AX.slot ++ (match o.g with | some (s, _) => [s] | none => [])

theorem okA_move {tok : Nat} {hb : AH} {o : AOp} {st st' : St} {h h' : AH} {v : AV} {nb : NB} (hx : ∀ x ∈ o.xs, x.val st = x.val st')
    (hl : o.free = false → ∀ x t, x ∈ o.xs → (x.val st).tok = some t → ∀ c, h.m t = some c → h'.m t = some c) (e : okA P tok hb o st h v nb) : okA P tok hb o st' h' v nb := by
  cases hop : o <;> simp only [hop] at e hx hl <;> simp only [okA, AOp.isAl, if_true, if_false, Bool.false_eq_true] at e ⊢
  case call f args =>
    have hl := hl rfl
    obtain ⟨ts, fid, fst, caps, n0, rfl, hts, hf, hc⟩ := e
    refine ⟨ts, fid, fst, caps, n0, rfl, fun t ht => ?_, by rw [← hx f (by simp [AOp.xs])]; exact hf, ?_⟩
    · obtain ⟨x, hx1, hx2⟩ := hts t ht
      exact ⟨x, hx1, by rw [← hx x (by simp [AOp.xs, hx1])]; exact hx2⟩
    · rw [← List.map_congr_left (f := AX.val st) (g := AX.val st') fun y hy => hx y (by simp [AOp.xs, hy])]
      have hm : (hb.plus h ts).le (hb.plus h' ts) := AH.plus_mono fun t ht c hc => by
        obtain ⟨x, hx1, hx2⟩ := hts t ht
        exact hl x t (by simp [AOp.xs, hx1]) hx2 c hc
      rcases hc with ⟨h1, h2⟩ | ⟨p, n, k, cs, h1, h2, h3⟩
      · exact .inl ⟨h1, h2.frame hm (by rw [AH.plus_nx, AH.plus_nx])⟩
      · exact .inr ⟨p, n, k, cs, h1, h2, h3.frame hm⟩
  case sto n x w => obtain ⟨rfl, p, rfl, hq⟩ := e; exact ⟨rfl, p, rfl, by rw [← hx x (by simp [AOp.xs]), ← hx w (by simp [AOp.xs])]; exact stoE_move (fun t ht => hl rfl x t (by simp [AOp.xs]) ht) hq⟩
  case mup kk x k w => obtain ⟨rfl, p, rfl, hq⟩ := e; exact ⟨rfl, p, rfl, by rw [← hx x (by simp [AOp.xs]), ← hx w (by simp [AOp.xs]), ← hx k (by simp [AOp.xs])]; exact mupE_move (fun t ht => hl rfl x t (by simp [AOp.xs]) ht) hq⟩
  case app k b x y => obtain ⟨cs, rfl, hq⟩ := e; exact ⟨cs, rfl, by rw [← hx x (by simp [AOp.xs]), ← hx y (by simp [AOp.xs])]; exact qpp_move (fun t ht => hl rfl y t (by simp [AOp.xs]) ht) hq⟩
  case box => obtain ⟨cs, rfl, hq⟩ := e; exact ⟨cs, rfl, by rw [← al_congr hx]; exact hq⟩
  case alloc => obtain ⟨cs, rfl, hq⟩ := e; exact ⟨cs, rfl, by rw [← al_congr hx]; exact hq⟩
  case bsl => obtain ⟨cs, rfl, hq⟩ := e; exact ⟨cs, rfl, by rw [← al_congr hx]; exact hq⟩
  case mks => obtain ⟨cs, rfl, hq⟩ := e; exact ⟨cs, rfl, by rw [← al_congr hx]; exact hq⟩
  all_goals
    obtain ⟨rfl, hq⟩ := e
    first
      | exact ⟨rfl, ev_congr hx (hl rfl) hq⟩
      | exact ⟨rfl, ev_congr (h := h') hx (fun _ _ _ _ _ hc => hc) ((ev_free rfl _ _ _).trans hq)⟩

theorem okC_move {tok : Nat} {hb : AH} {g : Bool} {o : AOp} {st st' : St} {h h' : AH} {v : AV} {nb : NB} (hx : ∀ x ∈ o.xs, x.val (stS g st) = x.val (stS g st'))
    (hl : o.free = false → g = true → ∀ x t, x ∈ o.xs → (x.val (stS g st)).tok = some t → ∀ c, h.m t = some c → h'.m t = some c) (e : okC P tok hb g o st h v nb) : okC P tok hb g o st' h' v nb := by
  have al : ∀ {op : AOp}, (∀ x ∈ op.xs, x.val (stS g st) = x.val (stS g st')) → ((g = true ∧ ∃ v0 cs, op.al (AX.val (stS g st)) tok = some (v0, cs) ∧ v = .gd g v0 ∧ nb = some (tok, .cells true cs)) ∨ (g = false ∧ v = .gd g .un ∧ nb = none)) →
      ((g = true ∧ ∃ v0 cs, op.al (AX.val (stS g st')) tok = some (v0, cs) ∧ v = .gd g v0 ∧ nb = some (tok, .cells true cs)) ∨ (g = false ∧ v = .gd g .un ∧ nb = none)) := by
    rintro op hx (⟨hg, v0, cs, hq, r⟩ | r)
    · exact .inl ⟨hg, v0, cs, by rw [← al_congr hx]; exact hq, r⟩
    · exact .inr r
  cases hop : o <;> simp only [hop] at e hx hl <;> simp only [okC, AOp.isVal, if_true, if_false, Bool.false_eq_true] at e ⊢
  case call f args =>
    obtain ⟨rfl, v0, fid, fst, caps, rfl, hf, hc⟩ := e
    refine ⟨rfl, v0, fid, fst, caps, rfl, by rw [← hx f (by simp [AOp.xs])]; exact hf, ?_⟩
    rw [← List.map_congr_left (f := AX.val (stS g st)) (g := AX.val (stS g st')) fun y hy => hx y (by simp [AOp.xs, hy])]
    exact hc
  case box => exact al hx e
  case alloc => exact al hx e
  case bsl => exact al hx e
  case mks => exact al hx e
  all_goals
    obtain ⟨rfl, v0, rfl, hq⟩ := e
    first
      | exact ⟨rfl, v0, rfl, fun hg => ev_congr hx (hl rfl hg) (hq hg)⟩
      | exact ⟨rfl, v0, rfl, fun hg => ev_congr (h := h') hx (fun _ _ _ _ _ hc => hc) ((ev_free rfl _ _ _).trans (hq hg))⟩

theorem okG_move {tok : Nat} {hb : AH} {o : AOper} {st st' : St} {h h' : AH} {v : AV} {nb : NB} (hs : ∀ x ∈ o.reads, st.get x = st'.get x)
    (hl : o.op.free = false → ∀ x t, x ∈ o.op.xs → (x.val (stS true st)).tok = some t → ∀ c, h.m t = some c → h'.m t = some c) (e : okG P tok hb o st h v nb) : okG P tok hb o st' h' v nb := by
  have hx : ∀ x ∈ o.op.xs, x.val st = x.val st' := by
    intro x hx
    cases x with
    | t n => exact hs n (by unfold AOper.reads; exact List.mem_append_left _ (List.mem_filterMap.2 ⟨.t n, hx, rfl⟩))
    | c v => rfl
  have hxS : ∀ g, ∀ x ∈ o.op.xs, x.val (stS g st) = x.val (stS g st') := by
    intro g x hx'
    cases x with
    | t n => simp only [AX.val, stS_get]; rw [show st.get n = st'.get n from hx _ hx']
    | c v => rfl
  unfold okG at e ⊢
  cases hg : o.g with
  | none =>
    simp only [hg] at e ⊢
    refine okA_move hx (fun hf x t hx' hp => hl hf x t hx' ?_) e
    cases x with
    | t n =>
      simp only [AX.val] at hp ⊢
      rw [stS_get]
      generalize st.get n = v at hp ⊢
      cases v <;> simp only [AV.tok, reduceCtorEq] at hp ⊢ <;> exact hp
    | c v => exact hp
  | some sw =>
    obtain ⟨s, want⟩ := sw
    simp only [hg] at e ⊢
    have : st.get s = st'.get s := hs s (by unfold AOper.reads; simp [hg])
    rw [← this]
    cases hq : guardOf (st.get s) want with
    | none => simp only [hq] at e
    | some g =>
      simp only [hq] at e ⊢
      exact okC_move (hxS g) (fun hf hg' x t hx' hp => hl hf x t hx' (by subst hg'; exact hp)) e
theorem wrt_ne {cs : List AV} {o : Nat} {x : AV} {n : Option Nat} {cs' : List AV} (hn : n ≠ some 0) (e : wrt cs o x n = some cs') : cs' ≠ [] := by
  unfold wrt at e
  split at e
  · split at e
    · rename_i h; cases e; intro hh
      have := congrArg List.length hh
      simp at this; subst this; simp at h
    · cases e
  · rename_i n
    split at e
    · rename_i h; cases e; intro hh
      have := congrArg List.length hh
      simp at this
      have h3 := h.2.2.1
      rw [this.2.1] at h3
      exact hn (by simp at h3; rw [← h3])
    · cases e
theorem okG_nb {tok : Nat} {hb : AH} {o : AOper} {st : St} {h : AH} {v : AV} {t : Nat} {c : Blk} (e : okG P tok hb o st h v (some (t, c))) : (t = tok ∧ o.op.late = false) ∨ (o.op.late = true ∧ (∃ c0, h.m t = some c0) ∧ (o.op.lateOk = true → goodB c) ∧ ∃ x, o.op.xs.head? = some x ∧ (x.val (stS true st)).tok = some t) := by
  have mv : ∀ {x : AX} {t : Nat}, (x.val st).tok = some t → (x.val (stS true st)).tok = some t := by
    intro x t hp
    cases x with
    | t n =>
      simp only [AX.val] at hp ⊢
      rw [stS_get]
      generalize st.get n = v at hp ⊢
      cases v <;> simp only [AV.tok, reduceCtorEq] at hp ⊢ <;> exact hp
    | c v => exact hp
  unfold okG at e
  cases hg : o.g with
  | none =>
    simp only [hg] at e
    cases hop : o.op <;> simp only [hop, okA, AOp.isAl, if_true, if_false, Bool.false_eq_true, reduceCtorEq, false_and, Option.some.injEq, Prod.mk.injEq] at e
    case sto n x w =>
      obtain ⟨rfl, p, rfl, hq⟩ := e
      refine .inr ⟨rfl, ?_⟩
      unfold AH.stoE at hq
      split at hq
      · rename_i t' o' hx
        split at hq
        · rename_i cs hm
          simp only [Option.map_eq_some_iff, Prod.mk.injEq] at hq
          obtain ⟨cs', hw, rfl, rfl⟩ := hq
          exact ⟨⟨_, hm⟩, fun hlo => wrt_ne (by simpa [AOp.lateOk] using hlo) hw, x, rfl, mv (by rw [hx]; rfl)⟩
        · cases hq
      · cases hq
    case mup kk x k w =>
      obtain ⟨rfl, p, rfl, hq⟩ := e
      refine .inr ⟨rfl, ?_⟩
      unfold AH.mupE at hq
      split at hq
      · rename_i t' hx
        split at hq
        · rename_i es hm
          split at hq
          · simp only [Option.map_eq_some_iff, Prod.mk.injEq] at hq
            obtain ⟨cs', hw, rfl, rfl⟩ := hq
            exact ⟨⟨_, hm⟩, fun _ => trivial, x, rfl, mv (by rw [hx]; rfl)⟩
          · cases hq
        · cases hq
      · cases hq
    case call f args =>
      obtain ⟨ts, fid, fst, caps, n0, hn, _⟩ := e
      cases n0 with
      | none => cases hn
      | some cs => simp only [nbE, Option.map_some, Option.some.injEq, Prod.mk.injEq] at hn; exact .inl ⟨hn.1, rfl⟩
    all_goals (obtain ⟨cs, ⟨rfl, _⟩, _⟩ := e; exact .inl ⟨rfl, rfl⟩)
  | some sw =>
    obtain ⟨s, want⟩ := sw
    simp only [hg] at e
    cases hq : guardOf (st.get s) want with
    | none => simp only [hq] at e
    | some g =>
      simp only [hq] at e
      cases hop : o.op <;> simp only [hop, okC, AOp.isVal, if_true, if_false, Bool.false_eq_true, reduceCtorEq, false_and, and_false, or_false, Option.some.injEq, Prod.mk.injEq] at e
      all_goals (obtain ⟨_, v0, cs, _, _, rfl, _⟩ := e; exact .inl ⟨rfl, rfl⟩)
end
end Go.Am
