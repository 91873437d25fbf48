/- The abstract machine: stretches without calls, reckoned; the whole code's precondition in one formula. -/
import Derived.Test.YtbhkbaapfioijaaAmN
import Derived.IntWalk
set_option linter.unusedVariables false
set_option linter.unusedSimpArgs false
namespace Go.Am

def stepA (tok : Nat) (d : Option Nat) (o : AOp) (st : St) (h : AH) : Option (St × AH) :=
  match o with
  | .sto n x v => (h.sto n (x.val st) (v.val st)).map fun h' => (put d .un st, h')
  | .app k b x y => (h.app k b tok (x.val st) (y.val st)).map fun p => (put d p.1 st, p.2)
  | .byt x => match x.val st with
    | .s b => some (put d (.sl tok 0 b.size 0) st, h.set tok (.frz (bcells b)))
    | _ => none
  | .cvt x => (h.cvt (x.val st)).map fun h' => (put d (x.val st) st, h')
  | .eqz .. => none
  | .mkm => some (put d (.mp tok) st, h.set tok (.map []))
  | .mup kk x k v => (h.mup kk (x.val st) (k.val st) (v.val st)).map fun h' => (put d .un st, h')
  | .call _ _ => none
  | o => if o.isAl then (o.al (AX.val st) tok).map fun p => (put d p.1 st, h.set tok (.cells true p.2))
    else (o.ev (AX.val st) h).map fun v => (put d v st, h)
def stepC (g : Bool) (d : Option Nat) (o : AOp) (st : St) (h : AH) : Option (St × AH) :=
  if o.isVal then (o.ev (AX.val (stS g st)) h).map fun v => (put d (.gd g v) st, h) else none
def stepO (tok : Nat) (o : AOper) (st : St) (h : AH) : Option (St × AH) :=
  match o.g with
  | none => stepA tok o.d o.op st h
  | some (s, want) => match guardOf (st.get s) want with
    | some g => stepC g o.d o.op st h
    | none => none
def run (base : Nat) : List AOper → Nat → Option (St × AH) → Option (St × AH)
  | [], _, s => s
  | _ :: _, _, none => none
  | o :: os, i, some (st, h) => run base os (i + 1) (stepO (base + i) o st h)

theorem run_none (base : Nat) : ∀ (os : List AOper) (i : Nat), run base os i none = none
  | [], _ => rfl
  | _ :: _, _ => rfl

theorem evA_step {P : Program} {tok : Nat} {d : Option Nat} {o : AOp} {st st' : St} {h h' : AH} (e : stepA tok d o st h = some (st', h')) {K : St → AH → Prop} (k : K st' h') : evA P tok d o st h K := by
  cases o <;> simp only [stepA, evA, AOp.isAl, if_true, if_false, Bool.false_eq_true, Option.map_eq_some_iff, Prod.mk.injEq, reduceCtorEq] at e ⊢
  case sto => obtain ⟨a, ha, rfl, rfl⟩ := e; rw [ha]; exact k
  case app => obtain ⟨a, ha, rfl, rfl⟩ := e; rw [ha]; exact k
  case cvt x => obtain ⟨a, ha, rfl, rfl⟩ := e; rw [ha]; exact k
  case mup => obtain ⟨a, ha, rfl, rfl⟩ := e; rw [ha]; exact k
  case mkm => simp only [Option.some.injEq, Prod.mk.injEq] at e; obtain ⟨rfl, rfl⟩ := e; exact k
  case byt x => split at e <;> first | (cases e; done) | (rename_i hb; cases e; rw [hb]; exact k)
  case box => obtain ⟨a, ha, rfl, rfl⟩ := e; rw [ha]; exact k
  case alloc => obtain ⟨a, ha, rfl, rfl⟩ := e; rw [ha]; exact k
  case bsl => obtain ⟨a, ha, rfl, rfl⟩ := e; rw [ha]; exact k
  case mks => obtain ⟨a, ha, rfl, rfl⟩ := e; rw [ha]; exact k
  all_goals (obtain ⟨a, ha, rfl, rfl⟩ := e; rw [ha]; exact k)

theorem evC_step {P : Program} {tok : Nat} {g : Bool} {d : Option Nat} {o : AOp} {st st' : St} {h h' : AH} (e : stepC g d o st h = some (st', h')) {K : St → AH → Prop} (k : K st' h') : evC P tok g d o st h K := by
  unfold stepC at e
  cases o <;> simp only [AOp.isVal, if_true, if_false, Bool.false_eq_true, reduceCtorEq, Option.map_eq_some_iff, Prod.mk.injEq] at e <;> simp only [evC, AOp.isVal, if_true]
  all_goals (obtain ⟨a, ha, rfl, rfl⟩ := e; exact ⟨a, fun _ => ha, k⟩)

theorem evG_step {P : Program} {tok : Nat} {o : AOper} {st st' : St} {h h' : AH} (e : stepO tok o st h = some (st', h')) {K : St → AH → Prop} (k : K st' h') : evG P tok o st h K := by
  unfold stepO at e
  unfold evG
  cases hg : o.g with
  | none => simp only [hg] at e ⊢; exact evA_step e k
  | some sw =>
    obtain ⟨s, want⟩ := sw
    simp only [hg] at e ⊢
    cases hq : guardOf (st.get s) want with
    | none => simp only [hq, reduceCtorEq] at e
    | some g => simp only [hq] at e ⊢; exact .inl (evC_step e k)

theorem evOps_run {P : Program} {base : Nat} : ∀ {ops : List AOper} {i : Nat} {st st' : St} {h h' : AH} (e : run base ops i (some (st, h)) = some (st', h')) {K : St → AH → Prop} (k : K st' h'), evOps P base ops i st h K
  | [], i, st, st', h, h', e, K, k => by simp only [run, Option.some.injEq, Prod.mk.injEq] at e; obtain ⟨rfl, rfl⟩ := e; exact k
  | o :: os, i, st, st', h, h', e, K, k => by
    simp only [run] at e
    simp only [evOps]
    cases hq : stepO (base + i) o st h with
    | none => rw [hq, run_none] at e; cases e
    | some p => rw [hq] at e; exact evG_step hq (evOps_run e k)

def AOp.quiet : AOp → Bool
  | .app .. | .byt _ | .cvt _ | .eqz .. | .mkm => false
  | _ => true
theorem evHA_step {P : Program} {tok : Nat} {hb : AH} {d : Option Nat} {o : AOp} {st st' : St} {h h' : AH} (hq : o.quiet = true) (e : stepA tok d o st h = some (st', h')) {K : St → AH → Prop} (k : K st' h') : evHA P tok hb d o st h K := by
  cases o <;> simp only [AOp.quiet, Bool.false_eq_true] at hq <;> simp only [stepA, evHA, AOp.isAl, if_true, if_false, Bool.false_eq_true, Option.map_eq_some_iff, Prod.mk.injEq, reduceCtorEq] at e ⊢
  all_goals (obtain ⟨a, ha, rfl, rfl⟩ := e; rw [ha]; exact k)
theorem evHC_step {P : Program} {tok : Nat} {hb : AH} {g : Bool} {d : Option Nat} {o : AOp} {st st' : St} {h h' : AH} (e : stepC g d o st h = some (st', h')) {K : St → AH → Prop} (k : K st' h') : evHC P tok hb g d o st h K := by
  unfold stepC at e
  cases o <;> simp only [AOp.isVal, if_true, if_false, Bool.false_eq_true, reduceCtorEq, Option.map_eq_some_iff, Prod.mk.injEq] at e <;> simp only [evHC, AOp.isVal, if_true]
  all_goals (obtain ⟨a, ha, rfl, rfl⟩ := e; exact ⟨a, fun _ => ha, k⟩)
theorem evHG_step {P : Program} {tok : Nat} {hb : AH} {o : AOper} {st st' : St} {h h' : AH} (hq : o.op.quiet = true) (e : stepO tok o st h = some (st', h')) {K : St → AH → Prop} (k : K st' h') : evHG P tok hb o st h K := by
  unfold stepO at e
  unfold evHG
  cases hg : o.g with
  | none => simp only [hg] at e ⊢; exact evHA_step hq e k
  | some sw =>
    obtain ⟨s, want⟩ := sw
    simp only [hg] at e ⊢
    cases hq' : guardOf (st.get s) want with
    | none => simp only [hq', reduceCtorEq] at e
    | some g => simp only [hq'] at e ⊢; exact evHC_step e k
theorem evHead_run {P : Program} {base : Nat} {hb : AH} : ∀ {ops : List AOper} (hq : ops.all (fun o => o.op.quiet) = true) {i : Nat} {st st' : St} {h h' : AH} (e : run base ops i (some (st, h)) = some (st', h')) {K : St → AH → Prop} (k : K st' h'), evHead P base hb ops i st h K
  | [], _, i, st, st', h, h', e, K, k => by simp only [run, Option.some.injEq, Prod.mk.injEq] at e; obtain ⟨rfl, rfl⟩ := e; exact k
  | o :: os, hq, i, st, st', h, h', e, K, k => by
    simp only [run] at e
    simp only [evHead]
    simp only [List.all_cons, Bool.and_eq_true] at hq
    cases hs : stepO (base + i) o st h with
    | none => rw [hs, run_none] at e; cases e
    | some p => rw [hs] at e; exact evHG_step hq.1 hs (evHead_run hq.2 e k)

theorem evOps_append {P : Program} {base : Nat} {K : St → AH → Prop} : ∀ {l r : List AOper} {i : Nat} {st : St} {h : AH}, evOps P base l i st h (fun st h => evOps P base r (i + l.length) st h K) → evOps P base (l ++ r) i st h K
  | [], r, i, st, h, e => by simpa [evOps] using e
  | o :: l, r, i, st, h, e => by
    simp only [List.cons_append, evOps] at e ⊢
    have mono : ∀ {tok : Nat} {o : AOper} {st : St} {h : AH} {K K' : St → AH → Prop}, (∀ s h, K s h → K' s h) → evG P tok o st h K → evG P tok o st h K' := by
      intro tok o st h K K' hk e
      unfold evG at *
      cases hg : o.g with
      | none => simp only [hg] at e ⊢; exact evA_mono hk e
      | some sw =>
        obtain ⟨s, want⟩ := sw
        simp only [hg] at e ⊢
        cases hq : guardOf (st.get s) want with
        | none => simp only [hq] at e
        | some g =>
          simp only [hq] at e ⊢
          rcases e with e | ⟨hgt, e⟩
          case inr => exact .inr ⟨hgt, evA_mono hk e⟩
          refine .inl ?_
          cases hop : o.op <;> simp only [hop, evC, AOp.isVal, AOp.isAl, if_true, if_false, Bool.false_eq_true] at e ⊢
          case call f args =>
            split at e
            · obtain ⟨v, h1, h2⟩ := e; exact ⟨v, h1, hk _ _ h2⟩
            · exact e.elim
          case box => exact ⟨fun hgt => by have := e.1 hgt; split at this <;> first | exact hk _ _ this | exact this, fun hgf => hk _ _ (e.2 hgf)⟩
          case alloc => exact ⟨fun hgt => by have := e.1 hgt; split at this <;> first | exact hk _ _ this | exact this, fun hgf => hk _ _ (e.2 hgf)⟩
          case bsl => exact ⟨fun hgt => by have := e.1 hgt; split at this <;> first | exact hk _ _ this | exact this, fun hgf => hk _ _ (e.2 hgf)⟩
          case mks => exact ⟨fun hgt => by have := e.1 hgt; split at this <;> first | exact hk _ _ this | exact this, fun hgf => hk _ _ (e.2 hgf)⟩
          case sto => exact ⟨fun hgt => evA_mono hk (e.1 hgt), fun hgf => hk _ _ (e.2 hgf)⟩
          case app => exact ⟨fun hgt => evA_mono hk (e.1 hgt), fun hgf => hk _ _ (e.2 hgf)⟩
          case cvt => exact ⟨fun hgt => evA_mono hk (e.1 hgt), fun hgf => hk _ _ (e.2 hgf)⟩
          case eqz => exact ⟨fun hgt => evA_mono hk (e.1 hgt), fun hgf => hk _ _ (e.2 hgf)⟩
          case byt => exact ⟨fun hgt => evA_mono hk (e.1 hgt), fun hgf => hk _ _ (e.2 hgf)⟩
          case mkm => exact ⟨fun hgt => evA_mono hk (e.1 hgt), fun hgf => hk _ _ (e.2 hgf)⟩
          case mup => exact ⟨fun hgt => evA_mono hk (e.1 hgt), fun hgf => hk _ _ (e.2 hgf)⟩
          all_goals (obtain ⟨v, h1, h2⟩ := e; exact ⟨v, h1, hk _ _ h2⟩)
    refine mono (fun s h e' => ?_) e
    refine evOps_append ?_
    rw [show i + 1 + l.length = i + (o :: l).length by simp; omega]
    exact e'

/-- a stretch without calls, then a call (without a guard), then the rest -/
theorem evOps_call {P : Program} {base : Nat} {pre post : List AOper} {d : Option Nat} {f : AX} {args : List AX} {i : Nat} {st st' : St} {h h' : AH} {K : St → AH → Prop} (e : run base pre i (some (st, h)) = some (st', h')) {fid : Nat} {fst caps : List AV} (hf : f.val st' = .fn fid fst caps)
    (c : ACalls P fid (fst ++ args.map (AX.val st') ++ caps) h' fun r h'' => evOps P base post (i + (pre.length + 1)) (put d r st') h'' K) : evOps P base (pre ++ ⟨d, none, .call f args⟩ :: post) i st h K := by
  refine evOps_append (evOps_run e ?_)
  simp only [evOps, evG, evA, hf]
  rw [show i + pre.length + 1 = i + (pre.length + 1) by omega]
  exact .inl c

section
variable {P : Program} {N : Nat} {Q : Exit → St → AH → Prop} {st st' : St} {h h' : AH}

/-- keep some slots alone -/
def keep (ks : List Nat) (st : St) : St := ks.map fun k => (k, st.get k)
theorem keep_get (st : St) : ∀ (ks : List Nat) (d : Nat), (keep ks st).get d = if d ∈ ks then st.get d else .un
  | [], d => by simp [keep, St.get]
  | k :: ks, d => by
    have ih := keep_get st ks d
    simp only [keep] at ih
    simp only [keep, List.map_cons, St.get, ih, List.mem_cons]
    by_cases h : d = k
    · subst h; simp
    · simp [h]
theorem W.keep {c : AC} (ks : List Nat) (w : W P N c Q (keep ks st) h) : W P N c Q st h :=
  w.weaken (fun d => by rw [keep_get]; split <;> simp) (AH.le_refl h) rfl

theorem w_run {ops : List AOper} (e : run h.nx ops 0 (some (st, { h with nx := h.nx + ops.length })) = some (st', h')) (q : Q .normal st' h') : W P N (.reg ops) Q st h := w_reg (evOps_run e q)
end
end Go.Am
