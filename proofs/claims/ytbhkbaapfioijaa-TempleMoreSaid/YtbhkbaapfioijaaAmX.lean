/- The abstract machine: what changes in the reckoning alone: rows that are never written again become values; calls of values. -/
import Derived.Test.YtbhkbaapfioijaaAmW
set_option linter.unusedVariables false
set_option linter.unusedSimpArgs false
namespace Go.Am

mutual
/-- a value, with what lies in t (cells cs) as a value of its own -/
inductive FrzV (t : Nat) (cs : List AV) : AV → AV → Prop
  | same {v : AV} : FrzV t cs v v
  | un {v : AV} : FrzV t cs v .un
  | sl {o n k a : Nat} (h : o + n * k ≤ cs.length) : FrzV t cs (.sl t o n a) (.vs n ((cs.drop o).take (n * k)))
  | nil {o a : Nat} : FrzV t cs (.sl 0 o 0 a) (.vs 0 [])
  | p {o : Nat} : FrzV t cs (.p t o) (.pv cs o)
  | tu {vs ws : List AV} (h : FrzVs t cs vs ws) : FrzV t cs (.tu vs) (.tu ws)
  | ag {vs ws : List AV} (h : FrzVs t cs vs ws) : FrzV t cs (.ag vs) (.ag ws)
  | fn {f : Nat} {as bs as' bs' : List AV} (h : FrzVs t cs as as') (h' : FrzVs t cs bs bs') : FrzV t cs (.fn f as bs) (.fn f as' bs')
inductive FrzVs (t : Nat) (cs : List AV) : List AV → List AV → Prop
  | nil : FrzVs t cs [] []
  | cons {v w : AV} {vs ws : List AV} (h : FrzV t cs v w) (hs : FrzVs t cs vs ws) : FrzVs t cs (v :: vs) (w :: ws)
end

/-- where t lies, or that it has no cells -/
def FrzAt (ι ι' : Inj) (t : Nat) (cs : List AV) : Prop :=
  ι 0 = none ∧ ((ι t = none ∧ cs = []) ∨ ∃ l xs, ι t = some l ∧ ι'.φ l.b = some xs ∧ Lies ι cs xs l.sh)

mutual
theorem FrzV.rel {ι ι' : Inj} (le : ι.le ι') {t : Nat} {cs : List AV} (F : FrzAt ι ι' t cs) : ∀ {v w : AV} {u : Value}, FrzV t cs v w → VRel ι v u → VRel ι' w u
  | _, _, _, .same, r => r.mono le
  | _, _, _, .un, r => by simp [VRel]
  | _, _, _, @FrzV.sl _ _ o n k a h, r => by
    simp only [VRel] at r ⊢
    rcases r with ⟨h0, x, rfl⟩ | ⟨l, cap, hl, rfl, hc, _⟩
    · exact .inl ⟨h0, x, rfl⟩
    · rcases F.2 with ⟨hn, _⟩ | ⟨l', xs, hl', hp, hr⟩
      · rw [hl] at hn; cases hn
      · rw [hl] at hl'; cases hl'
        exact .inr ⟨l.b, l.sh + o, cap, xs, rfl, hc, hp, VRels.mono le (Lies.take (Lies.drop hr o) _)⟩
  | _, _, _, .nil, r => by
    simp only [VRel] at r ⊢
    rcases r with ⟨h0, x, rfl⟩ | ⟨l, cap, hl, _⟩
    · exact .inl ⟨by trivial, x, rfl⟩
    · rw [F.1] at hl; cases hl
  | _, _, _, @FrzV.p _ _ o, r => by
    simp only [VRel] at r ⊢
    obtain ⟨l, hl, rfl⟩ := r
    rcases F.2 with ⟨hn, _⟩ | ⟨l', xs, hl', hp, hr⟩
    · rw [hl] at hn; cases hn
    · rw [hl] at hl'; cases hl'
      exact ⟨l.b, l.sh, xs, rfl, hp, VRels.mono le hr⟩
  | _, _, _, .tu h, r => by simp only [VRel] at r ⊢; obtain ⟨x, hx, r⟩ := r; exact ⟨x, hx, FrzVs.rel le F h r⟩
  | _, _, _, .ag h, r => by simp only [VRel] at r ⊢; obtain ⟨x, hx, r⟩ := r; exact ⟨x, hx, FrzVs.rel le F h r⟩
  | _, _, _, .fn h h', r => by simp only [VRel] at r ⊢; obtain ⟨x, y, hx, r1, r2⟩ := r; exact ⟨x, y, hx, FrzVs.rel le F h r1, FrzVs.rel le F h' r2⟩
theorem FrzVs.rel {ι ι' : Inj} (le : ι.le ι') {t : Nat} {cs : List AV} (F : FrzAt ι ι' t cs) : ∀ {vs ws : List AV} {us : List Value}, FrzVs t cs vs ws → VRels ι vs us → VRels ι' ws us
  | _, _, _, .nil, r => by simpa only [VRels] using r
  | _, _, _, .cons h hs, r => by
    simp only [VRels] at r ⊢
    obtain ⟨u, us, rfl, r1, r2⟩ := r
    exact ⟨u, us, rfl, FrzV.rel le F h r1, FrzVs.rel le F hs r2⟩
end
theorem FrzVs.length {t : Nat} {cs : List AV} : ∀ {vs ws : List AV}, FrzVs t cs vs ws → vs.length = ws.length
  | _, _, .nil => rfl
  | _, _, .cons _ hs => by simp [FrzVs.length hs]
theorem FrzVs.get {t : Nat} {cs : List AV} : ∀ {vs ws : List AV}, FrzVs t cs vs ws → ∀ {i : Nat} {w : AV}, ws[i]? = some w → ∃ v, vs[i]? = some v ∧ FrzV t cs v w
  | _, _, .nil, i, w, h => by simp at h
  | _, _, .cons h hs, 0, w, e => by simp at e; subst e; exact ⟨_, rfl, h⟩
  | _, _, .cons h hs, i + 1, w, e => by simp at e; simpa using FrzVs.get hs e

/-- a heap without t: other rows hold as before, or with t's cells as values -/
structure FrzH (t : Nat) (cs : List AV) (h h1 : AH) : Prop where
  nx : h1.nx = h.nx
  m : ∀ s c, h1.m s = some c → s ≠ t ∧ (h.m s = some c ∨ ∃ w ds ds', h.m s = some (.cells w ds) ∧ c = .cells w ds' ∧ FrzVs t cs ds ds')
theorem FrzH.kill (t : Nat) (cs : List AV) (h : AH) : FrzH t cs h (h.kill t) := ⟨rfl, fun s c hs => by
  unfold AH.kill at hs
  by_cases e : s = t
  · simp [e] at hs
  · simp only [if_neg e] at hs; exact ⟨e, .inl hs⟩⟩
theorem FrzH.set {t s : Nat} {cs : List AV} {h h1 : AH} (F : FrzH t cs h h1) (hne : s ≠ t) {w : Bool} {ds ds' : List AV} (hs : h.m s = some (.cells w ds)) (hd : FrzVs t cs ds ds') : FrzH t cs h (h1.set s (.cells w ds')) := ⟨F.nx, fun s' c hs' => by
  unfold AH.set at hs'
  by_cases e : s' = s
  · subst e
    simp only [if_true, Option.some.injEq] at hs'
    exact ⟨hne, .inr ⟨w, ds, ds', hs, hs'.symm, hd⟩⟩
  · simp only [if_neg e] at hs'; exact F.m s' c hs'⟩

theorem frz_wr {c c0 : Blk} {t : Nat} {cs : List AV} (h : c0 = c ∨ ∃ w ds ds', c0 = .cells w ds ∧ c = .cells w ds' ∧ FrzVs t cs ds ds') : c0.wr = c.wr := by
  rcases h with rfl | ⟨w, ds, ds', rfl, rfl, _⟩ <;> rfl

/-- THE STEP: t is never written again. -/
theorem frz_world {ι : Inj} {h h1 : AH} {w : World} {t : Nat} {cs : List AV} (r : WRel ι h w) (hm : h.m t = some (.cells true cs)) (F : FrzH t cs h h1) :
    ∃ ι', ι.le ι' ∧ FrzAt ι ι' t cs ∧ WRel ι' h1 w ∧ Ext ι h w ι' h1 w := by
  have old : ∀ s c, h1.m s = some c → ∃ c0, h.m s = some c0 ∧ c0.wr = c.wr ∧ s ≠ t := fun s c hs => by
    obtain ⟨hne, q | ⟨w, ds, ds', q1, q2, _⟩⟩ := F.m s c hs
    · exact ⟨c, q, rfl, hne⟩
    · exact ⟨_, q1, by rw [q2]; rfl, hne⟩
  have key : ∃ ι' : Inj, ι.le ι' ∧ ι'.f = ι.f ∧ FrzAt ι ι' t cs ∧ WRel ι' (h.kill t) w ∧ Ext ι h w ι' (h.kill t) w := by
    cases hl : ι t with
    | none =>
      have hb := (r.blk t _ hm).2
      simp only [BRel] at hb
      rcases hb with ⟨rfl, _⟩ | ⟨l, _, _, _, h1, _⟩
      · exact ⟨ι, Inj.le_refl _, rfl, ⟨r.nil, .inl ⟨hl, rfl⟩⟩, r.drop (h.kill_le t), (Ext.refl ι h w).drop (h.kill_le t)⟩
      · rw [hl] at h1; cases h1
    | some l =>
      obtain ⟨xs, hp, _, hr, _, h2, h3⟩ := r.freeze hm hl
      exact ⟨ι.fr l.b xs, Inj.le_fr hp, rfl, ⟨r.nil, .inr ⟨l, xs, hl, by simp [Inj.fr], hr⟩⟩, h2, h3 (Ext.refl ι h w)⟩
  obtain ⟨ι', le, hf, FA, wr, ex⟩ := key
  have hkm : ∀ s c, h.m s = some c → s ≠ t → (h.kill t).m s = some c := fun s c hs hne => by simp [AH.kill, hne, hs]
  refine ⟨ι', le, FA, ⟨fun s l hs => by rw [F.nx]; exact wr.lt s l hs, fun s c hs => ?_, fun s s' l l' c c' h1 h2 h3 h4 h5 h6 => ?_, by rw [F.nx]; exact wr.pos, wr.nil, fun b xs hb => ⟨(wr.phi b xs hb).1, fun s c l hs hc hl => ?_⟩⟩,
    ⟨by rw [F.nx]; exact ex.nx, ex.old, ex.os, ex.tape, ex.output, ex.size, ex.keep, fun s c l hs hc hl => ?_, ex.phi, ex.new, ex.drawn⟩⟩
  · obtain ⟨hne, q | ⟨wb, ds, ds', q1, q2, q3⟩⟩ := F.m s c hs
    · rw [F.nx]; exact wr.blk s c (hkm s c q hne)
    · rw [F.nx]
      refine ⟨(wr.blk s _ (hkm s _ q1 hne)).1, ?_⟩
      have hb := (r.blk s _ q1).2
      subst q2
      simp only [BRel] at hb ⊢
      have hfs : ι' s = ι s := by rw [hf]
      rcases hb with ⟨rfl, hn⟩ | ⟨l, vs, e, fz, h1, h2, h3, h4, h5, h6⟩
      · have : ds' = [] := List.length_eq_zero_iff.1 q3.length.symm
        exact .inl ⟨this, by rw [hfs]; exact hn⟩
      · refine .inr ⟨l, vs, e, fz, by rw [hfs]; exact h1, h2, h3, by rw [← q3.length]; exact h4, h5, fun i a ha => ?_⟩
        obtain ⟨v, hv, hvv⟩ := q3.get ha
        obtain ⟨u, hu, hr⟩ := h6 i v hv
        exact ⟨u, hu, FrzV.rel le FA hvv hr⟩
  · obtain ⟨c0, q1, q2, q3⟩ := old s c h1
    obtain ⟨c0', q4, q5, q6⟩ := old s' c' h2
    exact wr.inj s s' l l' c0 c0' (hkm _ _ q1 q3) (hkm _ _ q4 q6) h3 h4 h5 (by rw [q2, q5]; exact h6)
  · obtain ⟨c0, q1, q2, q3⟩ := old s c hs
    exact (wr.phi b xs hb).2 s c0 l (hkm _ _ q1 q3) (q2.trans hc) hl
  · obtain ⟨c0, q1, q2, q3⟩ := old s c hs
    exact ex.img s c0 l (hkm _ _ q1 q3) (q2.trans hc) hl

/-- the same of results -/
inductive FrzR : AH → AV → AH → AV → Prop
  | done {h : AH} {r : AV} : FrzR h r h r
  | step {h h1 h2 : AH} {t : Nat} {cs : List AV} {r r1 r2 : AV} (hm : h.m t = some (.cells true cs)) (F : FrzH t cs h h1) (hv : FrzV t cs r r1) (rest : FrzR h1 r1 h2 r2) : FrzR h r h2 r2
  | zero {h h2 : AH} {r r1 r2 : AV} (hv : FrzV 0 [] r r1) (rest : FrzR h r1 h2 r2) : FrzR h r h2 r2
theorem FrzR.world {h h2 : AH} {r r2 : AV} (F : FrzR h r h2 r2) : ∀ {ι : Inj} {w : World} {u : Value}, WRel ι h w → VRel ι r u → ∃ ι', VRel ι' r2 u ∧ WRel ι' h2 w ∧ Ext ι h w ι' h2 w := by
  induction F with
  | done => intro ι w u wr hr; exact ⟨ι, hr, wr, .refl _ _ _⟩
  | step hm F hv rest ih =>
    intro ι w u wr hr
    obtain ⟨ι1, le, FA, wr1, ex1⟩ := frz_world wr hm F
    obtain ⟨ι2, h1, h2, h3⟩ := ih wr1 (FrzV.rel le FA hv hr)
    exact ⟨ι2, h1, h2, ex1.trans h3⟩
  | zero hv rest ih =>
    intro ι w u wr hr
    exact ih wr (FrzV.rel (Inj.le_refl ι) ⟨wr.nil, .inl ⟨wr.nil, rfl⟩⟩ hv hr)
theorem acalls_frz {P : Program} {f : Nat} {args : List AV} {h : AH} {R : AV → AH → Prop} (c : ACalls P f args h fun r h' => ∃ r' h'', FrzR h' r h'' r' ∧ R r' h'') : ACalls P f args h R :=
  ⟨c.1, fun ι w vs wr hv => Calls.mono (c.2 ι w vs wr hv) fun e w' he => by
    obtain ⟨v, r, h', ι', rfl, ⟨r', h'', F, hR⟩, h1, h2, h3⟩ := he
    obtain ⟨ι2, q1, q2, q3⟩ := F.world h2 h1
    exact ⟨v, r', h'', ι2, rfl, hR, q1, q2, h3.trans q3⟩⟩

section
variable {P : Program} {N : Nat} {Q : Exit → St → AH → Prop} {st st' : St} {h h' : AH}
/-- ahead of a piece of code: what lies in t is a value from here on -/
theorem w_frzH {c : AC} {t : Nat} {cs : List AV} (hm : h.m t = some (.cells true cs)) (F : FrzH t cs h h') (hst : ∀ d, FrzV t cs (st.get d) (st'.get d)) (w : W P N c Q st' h') : W P N c Q st h := fun c' hc ι a wd ar wr => by
  obtain ⟨ι', le, FA, wr', ex⟩ := frz_world wr hm F
  refine wp_mono (w c' hc ι' a wd ⟨ar.size, ar.defs, fun d => FrzV.rel le FA (hst d) (ar.slot d)⟩ wr') fun e a' w' l => ?_
  obtain ⟨st'', h'', ι'', q, ar', wr'', x⟩ := l
  exact ⟨st'', h'', ι'', q, ar', wr'', ex.trans x⟩
theorem w_frz {c : AC} {t : Nat} {cs : List AV} (hm : h.m t = some (.cells true cs)) (hst : ∀ d, FrzV t cs (st.get d) (st'.get d)) (w : W P N c Q st' (h.kill t)) : W P N c Q st h := w_frzH hm (FrzH.kill t cs h) hst w
theorem w_frz0 {c : AC} (hst : ∀ d, FrzV 0 [] (st.get d) (st'.get d)) (w : W P N c Q st' h) : W P N c Q st h := fun c' hc ι a wd ar wr =>
  w c' hc ι a wd ⟨ar.size, ar.defs, fun d => FrzV.rel (Inj.le_refl ι) ⟨wr.nil, .inl ⟨wr.nil, rfl⟩⟩ (hst d) (ar.slot d)⟩ wr
/-- a nil slice gets a row of its own (with no cells), to be appended to like any other -/
theorem w_virt {c : AC} (k d : Nat) (hd : st.get d = .sl 0 0 0 0) (w : W P N c Q ((d, .sl h.nx 0 0 k) :: st) ((h.bump 1).set h.nx (.cells true []))) : W P N c Q st h := fun c' hc ι a wd ar wr => by
  have hn : ι h.nx = none := by
    cases hq : ι h.nx with
    | none => rfl
    | some l => have := (wr.lt _ l hq).1; omega
  have hm1 : ∀ s c, ((h.bump 1).set h.nx (.cells true [])).m s = some c → (s = h.nx ∧ c = .cells true []) ∨ h.m s = some c := fun s c hs => by
    unfold AH.set at hs
    by_cases e : s = h.nx
    · subst e; simp only [if_true, Option.some.injEq] at hs; exact .inl ⟨rfl, hs.symm⟩
    · simp only [if_neg e] at hs; exact .inr hs
  have wr' : WRel ι ((h.bump 1).set h.nx (.cells true [])) wd := by
    refine ⟨fun t l hl => ⟨by have := (wr.lt t l hl).1; show t < h.nx + 1; omega, (wr.lt t l hl).2⟩, fun t c hc => ?_, fun t t' l l' c c' h1 h2 h3 h4 h5 h6 => ?_, Nat.succ_pos _, wr.nil, fun b xs hb => ⟨(wr.phi b xs hb).1, fun t c l hc hw hl => ?_⟩⟩
    · rcases hm1 t c hc with ⟨rfl, rfl⟩ | hc
      · exact ⟨by show h.nx < h.nx + 1; omega, .inl ⟨rfl, hn⟩⟩
      · exact ⟨by have := (wr.blk t c hc).1; show t < h.nx + 1; omega, (wr.blk t c hc).2⟩
    · rcases hm1 t c h1 with ⟨rfl, rfl⟩ | h1
      · rw [hn] at h3; cases h3
      rcases hm1 t' c' h2 with ⟨rfl, rfl⟩ | h2
      · rw [hn] at h4; cases h4
      exact wr.inj t t' l l' c c' h1 h2 h3 h4 h5 h6
    · rcases hm1 t c hc with ⟨rfl, rfl⟩ | hc
      · rw [hn] at hl; cases hl
      · exact (wr.phi b xs hb).2 t c l hc hw hl
  have ex : Ext ι h wd ι ((h.bump 1).set h.nx (.cells true [])) wd := by
    refine ⟨Nat.le_succ _, fun _ _ => rfl, rfl, rfl, rfl, Nat.le_refl _, fun _ _ _ => rfl, fun t c l hc hw hl => ?_, fun _ _ x => x, fun _ _ x => .inl x, Nat.le_refl _⟩
    rcases hm1 t c hc with ⟨rfl, rfl⟩ | hc
    · rw [hn] at hl; cases hl
    · exact .inr ⟨t, c, l, hc, hw, hl, rfl⟩
  have ar' : ARel N ι ((d, .sl h.nx 0 0 k) :: st) a := ⟨ar.size, ar.defs, fun s => by
    simp only [St.get]
    by_cases e : s = d
    · subst e
      rw [if_pos rfl]
      have := ar.slot s
      rw [hd] at this
      simp only [VRel] at this ⊢
      rcases this with ⟨_, x, hx⟩ | ⟨l, cap, hl, _⟩
      · exact .inl ⟨by trivial, x, hx⟩
      · rw [wr.nil] at hl; cases hl
    · rw [if_neg e]; exact ar.slot s⟩
  refine wp_mono (w c' hc ι a wd ar' wr') fun e a' w' l => ?_
  obtain ⟨st'', h'', ι'', q, ar'', wr'', x⟩ := l
  exact ⟨st'', h'', ι'', q, ar'', wr'', ex.trans x⟩
end

/-! ### Calls of values -/
/-- called with such values the function yields that value, and leaves everything as it was -/
abbrev PC (P : Program) (f : Nat) (args : List AV) (v : AV) : Prop := ∀ h, ACalls P f args h fun r h' => r = v ∧ h' = h
/-- the heap in which a call of values is reckoned -/
def H1 : AH := ⟨fun _ => none, 1⟩
theorem H1_nx : H1.nx = 1 := rfl
theorem H1_m (t : Nat) : H1.m t = none := rfl
/-- what is owed at the end: the value, once what it holds is never written again -/
def Ends (v : AV) (r : AV) (h : AH) : Prop := ∃ h', FrzR h r h' v
theorem pc_fn {P : Program} {f : Nat} {ac : AC} {ars : List ARes} {N : Nat} (hf : fnOf P f = some (ac, ars, N)) {args : List AV} {v : AV} (ha : AV.plains args = true) (hv : v.plain = true) (hN : args.length ≤ N)
    (hw : W P N ac (athen (Post ars (Ends v)) (Fin (Post ars (Ends v)))) (initSt args) H1) : PC P f args v := fun h =>
  empty_call (R := fun r => r = v) ha (acalls_frz ((a_fn hf hN fun _ _ => hw).mono fun r h' ⟨h'', F⟩ => ⟨v, h'', F, rfl⟩)) (fun r e => by rw [e]; exact hv) h
theorem ends_of {v : AV} {h : AH} : Ends v v h := ⟨h, .done⟩
/-- a result that is a new slice -/
theorem ends_sl {t n k : Nat} {cs : List AV} {h : AH} {a : Nat} (hm : h.m t = some (.cells true cs)) (hl : n * k = cs.length) : Ends (.vs n cs) (.sl t 0 n a) h :=
  ⟨_, .step hm (FrzH.kill _ _ _) (by
    have := @FrzV.sl t cs 0 n k a (by omega)
    rwa [List.drop_zero, hl, List.take_length] at this) .done⟩
theorem ends_nil {a : Nat} {h : AH} : Ends (.vs 0 []) (.sl 0 0 0 a) h := ⟨h, .zero .nil .done⟩
/-- .. and a number beside it -/
theorem ends_sl2 {t n k : Nat} {cs : List AV} {h : AH} {a : Nat} {x : AV} (hm : h.m t = some (.cells true cs)) (hl : n * k = cs.length) : Ends (.tu [.vs n cs, x]) (.tu [.sl t 0 n a, x]) h :=
  ⟨_, .step hm (FrzH.kill _ _ _) (.tu (.cons (by
    have := @FrzV.sl t cs 0 n k a (by omega)
    rwa [List.drop_zero, hl, List.take_length] at this) (.cons .same .nil))) .done⟩
theorem ends_nil2 {a : Nat} {h : AH} {x : AV} : Ends (.tu [.vs 0 [], x]) (.tu [.sl 0 0 0 a, x]) h := ⟨h, .zero (.tu (.cons .nil (.cons .same .nil))) .done⟩

theorem WRel.h1 {w : World} {φ : Nat → Option (Array Value)} (hφ : ∀ b xs, φ b = some xs → ∃ e fz, w.heap[b]? = some (.cells xs e fz)) : WRel ⟨fun _ => none, φ⟩ H1 w where
  lt t l h := by cases h
  blk t c h := by cases h
  inj t t' l l' c c' h := by cases h
  pos := Nat.zero_lt_one
  nil := rfl
  phi b xs hb := ⟨hφ b xs hb, fun t c l hc => by cases hc⟩
/-- A law of values. -/
theorem law_pc {P : Program} {f : Nat} {as : List AV} {vs : Array Value} {w : World} {φ : Nat → Option (Array Value)} (hφ : ∀ b xs, φ b = some xs → ∃ e fz, w.heap[b]? = some (.cells xs e fz)) (hv : VRels ⟨fun _ => none, φ⟩ as vs.toList) (c : PC P f as (.b true)) :
    Calls P f vs w fun e w' => e = .returned (.bool true) ∧ RowKit.Below w.heap.size w w' := by
  refine Calls.mono ((c H1).2 ⟨fun _ => none, φ⟩ w vs (WRel.h1 hφ) hv) fun e w' he => ?_
  obtain ⟨v, r, h', ι', rfl, ⟨rfl, rfl⟩, h1, h2, h3⟩ := he
  simp only [VRel] at h1
  subst h1
  exact ⟨rfl, ⟨h3.os, h3.tape, h3.output, h3.size, fun b hb => h3.keep b hb fun t c l hm => by cases hm⟩⟩
end Go.Am
