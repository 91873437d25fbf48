/- The abstract machine: code. -/
import Derived.Test.YtbhkbaapfioijaaAmI
set_option linter.unusedVariables false
set_option linter.unusedSimpArgs false
namespace Go.Am

/-- A region's operations, in the text's order. -/
def evOps (P : Program) (base : Nat) : List AOper → Nat → St → AH → (St → AH → Prop) → Prop
  | [], _, st, h, K => K st h
  | o :: os, i, st, h, K => evG P (base + i) o st h fun st' h' => evOps P base os (i + 1) st' h' K

def AOper.fits (N : Nat) (o : AOper) : Bool :=
  (match o.d with | some d => d < N | none => true) && (match o.g with | some (s, _) => s < N | none => true)

def opersOf (P : Program) (N : Nat) (ops : Array Oper) : Option (List AOper) := do
  let l ← ops.toList.mapM (AOper.of P ops)
  if l.all (AOper.fits N) then some l else none

inductive AC where
  | skip
  | reg (ops : List AOper)
  | head (m : Nat) (ops : List AOper)
  | seq (a b : AC)
  | cond (c : AX) (a b : AC)
  | blk (id : Nat) (b : AC)
  | loop (b : AC)
  | exit (id : Nat)
  | ret

def Lift (N : Nat) (ι0 : Inj) (h0 : AH) (w0 : World) (Q : Exit → St → AH → Prop) : Exit → Act → World → Prop := fun e a w =>
  ∃ st h ι, Q e st h ∧ ARel N ι st a ∧ WRel ι h w ∧ Ext ι0 h0 w0 ι h w

/-- The weakest precondition of code, over slots and heap. -/
def Awp (P : Program) (N : Nat) (c : Code) (Q : Exit → St → AH → Prop) (st : St) (h : AH) : Prop :=
  ∀ ι a w, ARel N ι st a → WRel ι h w → c.wp P (Lift N ι h w Q) a w

def athen (K : St → AH → Prop) (Q : Exit → St → AH → Prop) : Exit → St → AH → Prop
  | .normal, st, h => K st h
  | e, st, h => Q e st h
def ablk (id : Nat) (Q : Exit → St → AH → Prop) : Exit → St → AH → Prop
  | .exit id', st, h => if id' = id then Q .normal st h else Q (.exit id') st h
  | e, st, h => Q e st h

section
variable {P : Program} {N : Nat} {Q Q' : Exit → St → AH → Prop} {st : St} {h : AH}

theorem Lift.start {ι0 : Inj} {w0 : World} {ι : Inj} {h' : AH} {w : World} {h : AH} {e : Exit} {a : Act} {w' : World} (x : Ext ι0 h w0 ι h' w) (l : Lift N ι h' w Q e a w') : Lift N ι0 h w0 Q e a w' :=
  let ⟨st, h'', ι', q, ar, wr, x'⟩ := l; ⟨st, h'', ι', q, ar, wr, x.trans x'⟩

theorem Awp.mono {c : Code} (hw : Awp P N c Q st h) (hq : ∀ e st h, Q e st h → Q' e st h) : Awp P N c Q' st h := fun ι a w ar wr =>
  wp_mono (hw ι a w ar wr) fun e a' w' l => let ⟨st', h', ι', q, r⟩ := l; ⟨st', h', ι', hq _ _ _ q, r⟩

theorem awp_skip (q : Q .normal st h) : Awp P N .skip Q st h := fun ι a w ar wr => wp_skip ⟨st, h, ι, q, ar, wr, .refl _ _ _⟩
theorem awp_exit {id : Nat} (q : Q (.exit id) st h) : Awp P N (.exit id) Q st h := fun ι a w ar wr => wp_exit ⟨st, h, ι, q, ar, wr, .refl _ _ _⟩
theorem awp_ret (q : Q .ret st h) : Awp P N .ret Q st h := fun ι a w ar wr => wp_ret ⟨st, h, ι, q, ar, wr, .refl _ _ _⟩

theorem awp_seq {x y : Code} (hx : Awp P N x (athen (fun st h => Awp P N y Q st h) Q) st h) : Awp P N (.seq x y) Q st h := fun ι a w ar wr =>
  wp_seq (wp_mono (hx ι a w ar wr) fun e a' w' l => by
    obtain ⟨st', h', ι', q, ar', wr', x⟩ := l
    · cases e with
      | normal => exact wp_mono (q ι' a' w' ar' wr') fun e a w l => l.start x
      | _ => exact ⟨st', h', ι', q, ar', wr', x⟩)

theorem awp_cond {c : Operand} {x y : Code} {ax : AX} (hx : toX c = some ax) {t : Bool} (ht : ax.val st = .b t) (ht1 : t = true → Awp P N x Q st h) (ht2 : t = false → Awp P N y Q st h) : Awp P N (.cond c x y) Q st h := fun ι a w ar wr => by
  have r := toX_sound ar hx
  rw [ht] at r
  simp only [VRel] at r
  exact wp_cond_split r (fun e => ht1 e ι a w ar wr) (fun e => ht2 e ι a w ar wr)

theorem awp_block {id : Nat} {c : Code} (hc : Awp P N c (ablk id Q) st h) : Awp P N (.block id c) Q st h := fun ι a w ar wr =>
  wp_block (wp_mono (hc ι a w ar wr) fun e a' w' l => by
    obtain ⟨st', h', ι', q, ar', wr', x⟩ := l
    · cases e with
      | exit id' =>
        simp only [Exit.inBlock]
        simp only [ablk] at q
        split
        · rename_i hid; rw [if_pos hid] at q; exact ⟨st', h', ι', q, ar', wr', x⟩
        · rename_i hid; rw [if_neg hid] at q; exact ⟨st', h', ι', q, ar', wr', x⟩
      | _ => exact ⟨st', h', ι', q, ar', wr', x⟩)

/-- Slots and tokens may be forgotten. -/
theorem Awp.weaken {c : Code} {st' : St} {h' : AH} (hst : ∀ d, st'.get d = .un ∨ st'.get d = st.get d) (hh : h'.le h) (hnx : h'.nx = h.nx) (hw : Awp P N c Q st' h') : Awp P N c Q st h := fun ι a w ar wr =>
  wp_mono (hw ι a w ⟨ar.size, ar.defs, fun d => by
    rcases hst d with e | e
    · rw [e]; simp [VRel]
    · rw [e]; exact ar.slot d⟩ (wr.drop hh)) fun e a' w' l =>
    let ⟨st'', h'', ι', q, ar', wr', x⟩ := l; ⟨st'', h'', ι', q, ar', wr', (Ext.refl ι h w).drop hh |>.trans x⟩

end

/-- A loop, with a number that every round lowers. -/
theorem wp_loop_rel {P : Program} {Q : Exit → Act → World → Prop} {c : Code} (R : Nat → Act → World → Prop)
    (round : ∀ n a w, R n a w → c.wp P (Exit.then (fun a' w' => ∃ m, m < n ∧ R m a' w') Q) a w) {n : Nat} {a : Act} {w : World} (h0 : R n a w) : (Code.loop c).wp P Q a w := by
  intro b k cs
  have key : ∀ n a w, R n a w → ∃ e a' w', Q e a' w' ∧ Arrives P (lone (b.at a (.code c :: .inLoop c :: k)) cs w) b k cs e a' w' := by
    intro n
    induction n using Nat.strongRecOn with
    | _ n ih =>
      intro a w hR
      obtain ⟨e, a₁, w₁, hq, harr⟩ := round n a w hR b (.inLoop c :: k) cs
      cases e with
      | normal =>
        obtain ⟨m, hm, hR₁⟩ := hq
        obtain ⟨e₂, a₂, w₂, hq₂, harr₂⟩ := ih m hm a₁ w₁ hR₁
        exact ⟨e₂, a₂, w₂, hq₂, .of_steps (Steps.trans harr (.one step_inLoop)) harr₂⟩
      | exit id => exact ⟨_, a₁, w₁, hq, .pass (x := .inLoop c) rfl (fun _ _ => .inl (by simp)) harr⟩
      | goto l => exact ⟨_, a₁, w₁, hq, .pass (x := .inLoop c) rfl (fun _ _ => .inl (by simp)) harr⟩
      | ret => exact ⟨_, a₁, w₁, hq, .pass (x := .inLoop c) rfl (fun _ _ => .inl (by simp)) harr⟩
      | panic ch => exact ⟨_, a₁, w₁, hq, .pass (x := .inLoop c) rfl (fun _ _ => .inl (by simp)) harr⟩
      | outgrown => exact ⟨_, a₁, w₁, hq, .pass (x := .inLoop c) rfl (fun _ _ => .inl (by simp)) harr⟩
  obtain ⟨e, a', w', hq, harr⟩ := key n a w h0
  exact ⟨e, a', w', hq, .of_steps (.one step_loop) harr⟩

section
variable {P : Program} {N : Nat} {Q Q' : Exit → St → AH → Prop} {st : St} {h : AH}

theorem awp_loop {c : Code} (I : Nat → St → AH → Prop) {n : Nat} (h0 : I n st h) (round : ∀ n st h, I n st h → Awp P N c (athen (fun st' h' => ∃ m h'', m < n ∧ h''.le h' ∧ I m st' h'') Q) st h) : Awp P N (.loop c) Q st h := fun ι a w ar wr => by
  refine wp_loop_rel (n := n) (fun n a' w' => ∃ st' h' ι', I n st' h' ∧ ARel N ι' st' a' ∧ WRel ι' h' w' ∧ Ext ι h w ι' h' w') ?_ ⟨st, h, ι, h0, ar, wr, .refl _ _ _⟩
  rintro n a' w' ⟨st', h', ι', hI, ar', wr', x⟩
  refine wp_mono (round n st' h' hI ι' a' w' ar' wr') fun e a'' w'' l => ?_
  obtain ⟨st'', h'', ι'', q, ar'', wr'', x'⟩ := l
  · cases e with
    | normal =>
      obtain ⟨m, h3, hm, hle, hI'⟩ := q
      exact ⟨m, hm, st'', h3, ι'', hI', ar'', wr''.drop hle, (x.trans x').drop hle⟩
    | _ => exact ⟨st'', h'', ι'', q, ar'', wr'', x.trans x'⟩

/-- A region whose operations come in the text's order. -/
theorem evOps_wpOps {ι0 : Inj} {h0 : AH} {w0 : World} {base : Nat} {ops : Array Oper} {aops : List AOper} (hof : opersOf P N ops = some aops) {QQ : Exit → Act → World → Prop} {K : St → AH → Prop}
    (hK : ∀ st h ι a w, K st h → ARel N ι st a → WRel ι h w → Ext ι0 h0 w0 ι h w → QQ .normal a w) :
    ∀ (m i : Nat), i + m = ops.size → ∀ (st : St) (h : AH) (ι : Inj) (a : Act) (w : World), Inv N ι0 h0 w0 base ops.size (fun j => i ≤ j) st h a w ι → evOps P base (aops.drop i) i st h K → wpOps P ops QQ (List.range' i m) a w := by
  unfold opersOf at hof
  simp only [Option.bind_eq_bind, Option.bind_eq_some_iff] at hof
  obtain ⟨l, hl, hof⟩ := hof
  split at hof
  · rename_i hall
    simp only [Option.some.injEq] at hof
    subst hof
    have hlen := mapM_length hl
    have hget : ∀ (i : Nat) (o : Oper), ops[i]? = some o → ∃ ao, l[i]? = some ao ∧ AOper.of P ops o = some ao := by
      have gen : ∀ (xs : List Oper) (ys : List AOper), xs.mapM (AOper.of P ops) = some ys → ∀ (i : Nat) (o : Oper), xs[i]? = some o → ∃ ao, ys[i]? = some ao ∧ AOper.of P ops o = some ao := by
        intro xs
        induction xs with
        | nil => intro ys h i o ho; simp at ho
        | cons x xs ih =>
          intro ys h i o ho
          simp only [List.mapM_cons, Option.pure_def, Option.bind_eq_bind, Option.bind_eq_some_iff, Option.some.injEq] at h
          obtain ⟨y, hy, zs, hzs, rfl⟩ := h
          cases i with
          | zero => simp at ho; subst ho; exact ⟨y, rfl, hy⟩
          | succ i => simpa using ih zs hzs i o (by simpa using ho)
      intro i o ho
      exact gen _ _ hl i o (by simpa using ho)
    intro m
    induction m with
    | zero =>
      intro i hi st h ι a w I e
      have : l.drop i = [] := List.drop_eq_nil_of_le (by rw [hlen]; simp; omega)
      rw [this] at e
      simp only [evOps] at e
      simp only [List.range'_zero, wpOps]
      exact hK st h ι a w e I.ar I.wr I.ex
    | succ m ih =>
      intro i hi st h ι a w I e
      have hlt : i < ops.size := by omega
      obtain ⟨ao, hao, hof⟩ := hget i ops[i] (by simp [hlt])
      have hil : i < l.length := by rw [hlen]; simpa using hlt
      rw [List.drop_eq_getElem_cons hil] at e
      have : l[i] = ao := by rw [List.getElem?_eq_getElem hil] at hao; simpa using hao
      rw [this] at e
      simp only [evOps] at e
      have hfit := List.all_eq_true.1 hall ao (by rw [← this]; exact List.getElem_mem hil)
      unfold AOper.fits at hfit
      rw [List.range'_succ, wpOps_cons]
      have hd : ao.d = ops[i].dst := by
        unfold AOper.of at hof
        simp only [Option.bind_eq_bind, Option.bind_eq_some_iff] at hof
        obtain ⟨op, _, hof⟩ := hof
        split at hof
        · cases hof; rfl
        · split at hof
          · cases hof; rfl
          · cases hof
      refine wpOp_mono ?_ (evG_wpOp (o := ops[i]) (by simp [hlt]) hof (fun x hx => ?_) (fun s b hs => ?_) hlt (Nat.le_refl i) I e)
      · rintro a' w' ⟨st', h', ι', k, I'⟩
        exact ih (i + 1) (by omega) st' h' ι' a' w' ⟨I'.ar, I'.wr, I'.ex, fun j hj hf => I'.fr j hj ⟨by omega, by omega⟩, I'.nx, I'.b0, I'.b1⟩ k
      · rw [← hd] at hx; rw [hx] at hfit; simp at hfit; exact hfit.1
      · rw [hs] at hfit; simp at hfit; exact hfit.2
  · cases hof

theorem awp_region {id : Nat} {ops : Array Oper} {aops : List AOper} (hof : opersOf P N ops = some aops) (e : evOps P h.nx aops 0 st { h with nx := h.nx + aops.length } fun st h => Q .normal st h) : Awp P N (.region id ops false) Q st h := fun ι a w ar wr => by
  have hlen : aops.length = ops.size := by
    unfold opersOf at hof
    simp only [Option.bind_eq_bind, Option.bind_eq_some_iff] at hof
    obtain ⟨l, hl, hof⟩ := hof
    split at hof
    · cases hof; simpa using mapM_length hl
    · cases hof
  refine wp_region ?_
  rw [List.range_eq_range']
  refine evOps_wpOps (ι0 := ι) (h0 := h) (w0 := w) (base := h.nx) hof (fun st' h' ι' a' w' k ar' wr' x => ⟨st', h', ι', k, ar', wr', x⟩) ops.size 0 (by omega) st { h with nx := h.nx + aops.length } ι a w
    ⟨ar, wr.bump _, (Ext.refl ι h w).bump _, fun j hj hf => ?_, by simp [hlen], Nat.le_refl _, wr.pos⟩ (by simpa using e)
  cases hq : ι (h.nx + j) with
  | none => rfl
  | some l => have := (wr.lt _ l hq).1; omega

/-! ### Functions -/
inductive ARes where
  | t (n : Nat)
  | c (n : Nat) (k : Option Nat)
def resOf (P : Program) (rs : List ResultVar) : Option (List ARes) := rs.mapM fun
  | .tmp t => some (.t t)
  | .cell t ty => (ldOf P ty).map (.c t)
def ARes.val (st : St) (h : AH) : ARes → Option AV
  | .t n => some (st.get n)
  | .c n k => match st.get n with
    | .p tk o => match h.row tk with
      | some cs => rd cs o k
      | none => none
    | _ => none
def aone : List AV → AV
  | [v] => v
  | vs => .tu vs
def initSt (args : List AV) : St := args.zipIdx.map fun (v, i) => (i, v)


theorem initSt_get (args : List AV) (d : Nat) : (initSt args).get d = args.getD d .un := by
  unfold initSt
  have key : ∀ (l : List AV) (k d : Nat), St.get ((l.zipIdx k).map fun (p : AV × Nat) => (p.2, p.1)) d = if k ≤ d then l.getD (d - k) .un else .un := by
    intro l
    induction l with
    | nil => intro k d; simp [St.get]
    | cons x l ih =>
      intro k d
      simp only [List.zipIdx_cons, List.map_cons, St.get, ih]
      by_cases h1 : d = k
      · subst h1; simp
      · rw [if_neg h1]
        by_cases h2 : k + 1 ≤ d
        · rw [if_pos h2, if_pos (by omega)]
          rw [show d - k = (d - (k + 1)) + 1 by omega]
          simp
        · rw [if_neg h2, if_neg (by omega)]
  have := key args 0 d
  simpa using this

def resRun (tmps : Array Value) : ResultVar → Sem Value
  | .tmp t => pure (tmps.getD t undef)
  | .cell a t => do loadVar t (← asAddr (tmps.getD a undef))

theorem results_eq (fn : Func) (tmps : Array Value) : results fn tmps = (do
    let vs ← fn.results.mapM (resRun tmps)
    pure (if h : vs.size = 1 then vs[0] else .tuple vs)) := by
  unfold results
  congr 1

theorem ares_run {ι : Inj} {a : Act} {w : World} (ar : ARel N ι st a) (wr : WRel ι h w) : ∀ {rs : List ResultVar} {ars : List ARes}, resOf P rs = some ars → ∀ {vs : List AV}, ars.mapM (ARes.val st h) = some vs →
    ∃ us : List Value, (rs.mapM (resRun a.tmps)).run P w = .ok us w ∧ VRels ι vs us
  | [], ars, h1, vs, h2 => by
    simp [resOf] at h1; subst h1
    simp at h2; subst h2
    exact ⟨[], by simp, by simp [VRels]⟩
  | r :: rs, ars, h1, vs, h2 => by
    simp only [resOf, List.mapM_cons, Option.pure_def, Option.bind_eq_bind, Option.bind_eq_some_iff, Option.some.injEq] at h1
    obtain ⟨y, hy, ys, hys, rfl⟩ := h1
    simp only [List.mapM_cons, Option.pure_def, Option.bind_eq_bind, Option.bind_eq_some_iff, Option.some.injEq] at h2
    obtain ⟨v, hv, us, hus, rfl⟩ := h2
    obtain ⟨zs, hz1, hz2⟩ := ares_run ar wr (rs := rs) (ars := ys) hys hus
    have one : ∃ u, (resRun a.tmps r).run P w = .ok u w ∧ VRel ι v u := by
      cases r with
      | tmp t =>
        simp at hy; subst hy
        simp only [ARes.val, Option.some.injEq] at hv
        subst hv
        exact ⟨_, rfl, ar.slot t⟩
      | cell c t =>
        simp only [Option.map_eq_some_iff] at hy
        obtain ⟨k, hk, rfl⟩ := hy
        simp only [ARes.val] at hv
        split at hv
        · rename_i tk o hg
          have rd' := ar.slot c
          rw [hg] at rd'
          simp only [VRel] at rd'
          obtain ⟨l, hl, hp⟩ := rd'
          split at hv
          · rename_i cs hrow
            obtain ⟨u, h3, h4⟩ := ld_sound (P := P) wr hk hrow hv hl
            exact ⟨u, by simp [resRun, hp, asAddr, h3], h4⟩
          · cases hv
        · cases hv
    obtain ⟨u, h5, h6⟩ := one
    refine ⟨u :: zs, ?_, by simp only [VRels]; exact ⟨_, _, rfl, h6, hz2⟩⟩
    simp only [List.mapM_cons, Sem.run_bind, h5, Result.andThen_ok, hz1, Sem.run_pure]

/-- A CONTRACT OUT OF A BODY. -/
theorem acalls_of {f : Nat} {fn : Func} {c : Code} {args : List AV} {ars : List ARes} {R : AV → AH → Prop} (hf : P.funcs[f]? = some fn) (hn : (fn.name == "runtime.NumGoroutine") = false) (hb : fn.body = some c)
    (hr : resOf P fn.results.toList = some ars) (hN : args.length ≤ fn.ntmps)
    (hw : Awp P fn.ntmps c (fun e st h' => (e = .normal ∨ e = .ret) ∧ ∃ vs, ars.mapM (ARes.val st h') = some vs ∧ ∃ h'', h''.le h' ∧ R (aone vs) h'') (initSt args) h) : ACalls P f args h R := by
  refine ⟨⟨fn, hf, hn, by rw [hb]; rfl⟩, fun ι w vs wr hv => ?_⟩
  have hsz : vs.size = args.length := by have := hv.length; simpa using this.symm
  refine calls_of_wp hf hb (wp_mono (hw ι { tmps := vs ++ Array.replicate (fn.ntmps - vs.size) undef, defers := [] } w ⟨by simp; omega, rfl, fun d => ?_⟩ wr) fun e a' w' l => ?_)
  · rw [initSt_get]
    by_cases hd : d < args.length
    · obtain ⟨hl, hrr⟩ := VRels_iff.1 hv
      have h1 : args[d]? = some args[d] := List.getElem?_eq_getElem hd
      have h2 : vs.toList[d]? = some vs[d] := by simp [hsz, hd]
      have := hrr d _ _ h1 h2
      rw [List.getD_eq_getElem?_getD, h1]
      have e3 : (vs ++ Array.replicate (fn.ntmps - vs.size) undef).getD d undef = vs[d] := by
        rw [Array.getD_eq_getD_getElem?, Array.getElem?_append_left (by omega)]
        simp [hsz, hd]
      rw [e3]
      exact this
    · rw [List.getD_eq_getElem?_getD, List.getElem?_eq_none (by omega)]
      simp [VRel]
  · obtain ⟨st', h', ι', ⟨he, us, hus, h'', hle, hR⟩, ar', wr', x⟩ := l
    · obtain ⟨zs, hz1, hz2⟩ := ares_run (P := P) ar' wr' hr hus
      have hres : ∃ v, (results fn a'.tmps).run P w' = .ok v w' ∧ VRel ι' (aone us) v := by
        have e1 : (fn.results.mapM (resRun a'.tmps)).run P w' = .ok zs.toArray w' := by
          rw [Array.mapM_eq_mapM_toList]
          simp only [Sem.run_map, hz1, Result.andThen_ok]
        rw [results_eq]
        simp only [Sem.run_bind]
        rw [e1]
        simp only [Result.andThen_ok, Sem.run_pure]
        match us, zs, hz2 with
        | [], zs, hz2 =>
          simp only [VRels] at hz2; subst hz2
          exact ⟨_, rfl, by simp only [aone, VRel]; exact ⟨#[], rfl, by simp [VRels]⟩⟩
        | [v], zs, hz2 =>
          simp only [VRels] at hz2
          obtain ⟨u, r, rfl, h1, rfl⟩ := hz2
          exact ⟨_, rfl, by simpa [aone] using h1⟩
        | v1 :: v2 :: vs', zs, hz2 =>
          have hl := hz2.length
          refine ⟨.tuple zs.toArray, ?_, by simp only [aone, VRel]; exact ⟨_, rfl, by simpa using hz2⟩⟩
          rw [dif_neg (by simp at hl ⊢; omega)]
      obtain ⟨v, h1, h2⟩ := hres
      rcases he with rfl | rfl <;> simp only [bodyPost] <;> exact ⟨ar'.defs, v, h1, ⟨v, _, h'', ι', rfl, hR, h2, wr'.drop hle, x.drop hle⟩⟩
end
end Go.Am
