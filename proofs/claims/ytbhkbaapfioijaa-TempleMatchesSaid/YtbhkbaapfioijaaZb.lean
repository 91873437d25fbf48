/- What the proof of the law needs: the abstract machine, the functions as it reads them, their contracts, part 2. -/
import Derived.Test.YtbhkbaapfioijaaZa
import Derived.Test.YtbhkbaapfioijaaProg
import Derived.KernelRfl
import Derived.ChangeArms
import Derived.ChangeSame
set_option linter.unusedVariables false
set_option linter.unusedSimpArgs false
namespace Go.Am
/-- A region's operations, in the text's order. -/
def evOps (P : Program) (base : Nat) : List AOper → Nat → St → AH → (St → AH → Prop) → Prop
  | [], _, st, h, K => K st h
  | o :: os, i, st, h, K => evG P (base + i) o st h fun st' h' => evOps P base os (i + 1) st' h' K
def AOper.fits (N : Nat) (o : AOper) : Bool :=
  (match o.d with | some d => d < N | none => true) && (match o.g with | some (s, _) => s < N | none => true)
def opersOf (P : Program) (N : Nat) (ops : Array Oper) : Option (List AOper) := do
  let l ← ops.toList.mapM (AOper.of P ops)
  if l.all (AOper.fits N) then some l else none
inductive AC where
  | skip
  | reg (ops : List AOper)
  | head (m : Nat) (ops : List AOper)
  | seq (a b : AC)
  | cond (c : AX) (a b : AC)
  | blk (id : Nat) (b : AC)
  | loop (b : AC)
  | exit (id : Nat)
  | ret
def Lift (N : Nat) (ι0 : Inj) (h0 : AH) (w0 : World) (Q : Exit → St → AH → Prop) : Exit → Act → World → Prop := fun e a w =>
  ∃ st h ι, Q e st h ∧ ARel N ι st a ∧ WRel ι h w ∧ Ext ι0 h0 w0 ι h w
/-- The weakest precondition of code, over slots and heap. -/
def Awp (P : Program) (N : Nat) (c : Code) (Q : Exit → St → AH → Prop) (st : St) (h : AH) : Prop :=
  ∀ ι a w, ARel N ι st a → WRel ι h w → c.wp P (Lift N ι h w Q) a w
def athen (K : St → AH → Prop) (Q : Exit → St → AH → Prop) : Exit → St → AH → Prop
  | .normal, st, h => K st h
  | e, st, h => Q e st h
def ablk (id : Nat) (Q : Exit → St → AH → Prop) : Exit → St → AH → Prop
  | .exit id', st, h => if id' = id then Q .normal st h else Q (.exit id') st h
  | e, st, h => Q e st h
section
variable {P : Program} {N : Nat} {Q Q' : Exit → St → AH → Prop} {st : St} {h : AH}
theorem Lift.start {ι0 : Inj} {w0 : World} {ι : Inj} {h' : AH} {w : World} {h : AH} {e : Exit} {a : Act} {w' : World} (x : Ext ι0 h w0 ι h' w) (l : Lift N ι h' w Q e a w') : Lift N ι0 h w0 Q e a w' :=
  let ⟨st, h'', ι', q, ar, wr, x'⟩ := l; ⟨st, h'', ι', q, ar, wr, x.trans x'⟩
theorem Awp.mono {c : Code} (hw : Awp P N c Q st h) (hq : ∀ e st h, Q e st h → Q' e st h) : Awp P N c Q' st h := fun ι a w ar wr =>
  wp_mono (hw ι a w ar wr) fun e a' w' l => let ⟨st', h', ι', q, r⟩ := l; ⟨st', h', ι', hq _ _ _ q, r⟩
theorem awp_skip (q : Q .normal st h) : Awp P N .skip Q st h := fun ι a w ar wr => wp_skip ⟨st, h, ι, q, ar, wr, .refl _ _ _⟩
theorem awp_exit {id : Nat} (q : Q (.exit id) st h) : Awp P N (.exit id) Q st h := fun ι a w ar wr => wp_exit ⟨st, h, ι, q, ar, wr, .refl _ _ _⟩
theorem awp_ret (q : Q .ret st h) : Awp P N .ret Q st h := fun ι a w ar wr => wp_ret ⟨st, h, ι, q, ar, wr, .refl _ _ _⟩
theorem awp_seq {x y : Code} (hx : Awp P N x (athen (fun st h => Awp P N y Q st h) Q) st h) : Awp P N (.seq x y) Q st h := fun ι a w ar wr =>
  wp_seq (wp_mono (hx ι a w ar wr) fun e a' w' l => by
    obtain ⟨st', h', ι', q, ar', wr', x⟩ := l
    · cases e with
      | normal => exact wp_mono (q ι' a' w' ar' wr') fun e a w l => l.start x
      | _ => exact ⟨st', h', ι', q, ar', wr', x⟩)
theorem awp_cond {c : Operand} {x y : Code} {ax : AX} (hx : toX c = some ax) {t : Bool} (ht : ax.val st = .b t) (ht1 : t = true → Awp P N x Q st h) (ht2 : t = false → Awp P N y Q st h) : Awp P N (.cond c x y) Q st h := fun ι a w ar wr => by
  have r := toX_sound ar hx
  rw [ht] at r
  simp only [VRel] at r
  exact wp_cond_split r (fun e => ht1 e ι a w ar wr) (fun e => ht2 e ι a w ar wr)
theorem awp_block {id : Nat} {c : Code} (hc : Awp P N c (ablk id Q) st h) : Awp P N (.block id c) Q st h := fun ι a w ar wr =>
  wp_block (wp_mono (hc ι a w ar wr) fun e a' w' l => by
    obtain ⟨st', h', ι', q, ar', wr', x⟩ := l
    · cases e with
      | exit id' =>
        simp only [Exit.inBlock]
        simp only [ablk] at q
        split
        · rename_i hid; rw [if_pos hid] at q; exact ⟨st', h', ι', q, ar', wr', x⟩
        · rename_i hid; rw [if_neg hid] at q; exact ⟨st', h', ι', q, ar', wr', x⟩
      | _ => exact ⟨st', h', ι', q, ar', wr', x⟩)
/-- Slots and tokens may be forgotten. -/
theorem Awp.weaken {c : Code} {st' : St} {h' : AH} (hst : ∀ d, st'.get d = .un ∨ st'.get d = st.get d) (hh : h'.le h) (hnx : h'.nx = h.nx) (hw : Awp P N c Q st' h') : Awp P N c Q st h := fun ι a w ar wr =>
  wp_mono (hw ι a w ⟨ar.size, ar.defs, fun d => by
    rcases hst d with e | e
    · rw [e]; simp [VRel]
    · rw [e]; exact ar.slot d⟩ (wr.drop hh)) fun e a' w' l =>
    let ⟨st'', h'', ι', q, ar', wr', x⟩ := l; ⟨st'', h'', ι', q, ar', wr', (Ext.refl ι h w).drop hh |>.trans x⟩
end
/-- A loop, with a number that every round lowers. -/
theorem wp_loop_rel {P : Program} {Q : Exit → Act → World → Prop} {c : Code} (R : Nat → Act → World → Prop)
    (round : ∀ n a w, R n a w → c.wp P (Exit.then (fun a' w' => ∃ m, m < n ∧ R m a' w') Q) a w) {n : Nat} {a : Act} {w : World} (h0 : R n a w) : (Code.loop c).wp P Q a w := by
  intro b k cs
  have key : ∀ n a w, R n a w → ∃ e a' w', Q e a' w' ∧ Arrives P (lone (b.at a (.code c :: .inLoop c :: k)) cs w) b k cs e a' w' := by
    intro n
    induction n using Nat.strongRecOn with
    | _ n ih =>
      intro a w hR
      obtain ⟨e, a₁, w₁, hq, harr⟩ := round n a w hR b (.inLoop c :: k) cs
      cases e with
      | normal =>
        obtain ⟨m, hm, hR₁⟩ := hq
        obtain ⟨e₂, a₂, w₂, hq₂, harr₂⟩ := ih m hm a₁ w₁ hR₁
        exact ⟨e₂, a₂, w₂, hq₂, .of_steps (Steps.trans harr (.one step_inLoop)) harr₂⟩
      | exit id => exact ⟨_, a₁, w₁, hq, .pass (x := .inLoop c) rfl (fun _ _ => .inl (by simp)) harr⟩
      | goto l => exact ⟨_, a₁, w₁, hq, .pass (x := .inLoop c) rfl (fun _ _ => .inl (by simp)) harr⟩
      | ret => exact ⟨_, a₁, w₁, hq, .pass (x := .inLoop c) rfl (fun _ _ => .inl (by simp)) harr⟩
      | panic ch => exact ⟨_, a₁, w₁, hq, .pass (x := .inLoop c) rfl (fun _ _ => .inl (by simp)) harr⟩
      | outgrown => exact ⟨_, a₁, w₁, hq, .pass (x := .inLoop c) rfl (fun _ _ => .inl (by simp)) harr⟩
  obtain ⟨e, a', w', hq, harr⟩ := key n a w h0
  exact ⟨e, a', w', hq, .of_steps (.one step_loop) harr⟩
section
variable {P : Program} {N : Nat} {Q Q' : Exit → St → AH → Prop} {st : St} {h : AH}
theorem awp_loop {c : Code} (I : Nat → St → AH → Prop) {n : Nat} (h0 : I n st h) (round : ∀ n st h, I n st h → Awp P N c (athen (fun st' h' => ∃ m h'', m < n ∧ h''.le h' ∧ I m st' h'') Q) st h) : Awp P N (.loop c) Q st h := fun ι a w ar wr => by
  refine wp_loop_rel (n := n) (fun n a' w' => ∃ st' h' ι', I n st' h' ∧ ARel N ι' st' a' ∧ WRel ι' h' w' ∧ Ext ι h w ι' h' w') ?_ ⟨st, h, ι, h0, ar, wr, .refl _ _ _⟩
  rintro n a' w' ⟨st', h', ι', hI, ar', wr', x⟩
  refine wp_mono (round n st' h' hI ι' a' w' ar' wr') fun e a'' w'' l => ?_
  obtain ⟨st'', h'', ι'', q, ar'', wr'', x'⟩ := l
  · cases e with
    | normal =>
      obtain ⟨m, h3, hm, hle, hI'⟩ := q
      exact ⟨m, hm, st'', h3, ι'', hI', ar'', wr''.drop hle, (x.trans x').drop hle⟩
    | _ => exact ⟨st'', h'', ι'', q, ar'', wr'', x.trans x'⟩
/-- A region whose operations come in the text's order. -/
theorem evOps_wpOps {ι0 : Inj} {h0 : AH} {w0 : World} {base : Nat} {ops : Array Oper} {aops : List AOper} (hof : opersOf P N ops = some aops) {QQ : Exit → Act → World → Prop} {K : St → AH → Prop}
    (hK : ∀ st h ι a w, K st h → ARel N ι st a → WRel ι h w → Ext ι0 h0 w0 ι h w → QQ .normal a w) :
    ∀ (m i : Nat), i + m = ops.size → ∀ (st : St) (h : AH) (ι : Inj) (a : Act) (w : World), Inv N ι0 h0 w0 base ops.size (fun j => i ≤ j) st h a w ι → evOps P base (aops.drop i) i st h K → wpOps P ops QQ (List.range' i m) a w := by
  unfold opersOf at hof
  simp only [Option.bind_eq_bind, Option.bind_eq_some_iff] at hof
  obtain ⟨l, hl, hof⟩ := hof
  split at hof
  · rename_i hall
    simp only [Option.some.injEq] at hof
    subst hof
    have hlen := mapM_length hl
    have hget : ∀ (i : Nat) (o : Oper), ops[i]? = some o → ∃ ao, l[i]? = some ao ∧ AOper.of P ops o = some ao := by
      have gen : ∀ (xs : List Oper) (ys : List AOper), xs.mapM (AOper.of P ops) = some ys → ∀ (i : Nat) (o : Oper), xs[i]? = some o → ∃ ao, ys[i]? = some ao ∧ AOper.of P ops o = some ao := by
        intro xs
        induction xs with
        | nil => intro ys h i o ho; simp at ho
        | cons x xs ih =>
          intro ys h i o ho
          simp only [List.mapM_cons, Option.pure_def, Option.bind_eq_bind, Option.bind_eq_some_iff, Option.some.injEq] at h
          obtain ⟨y, hy, zs, hzs, rfl⟩ := h
          cases i with
          | zero => simp at ho; subst ho; exact ⟨y, rfl, hy⟩
          | succ i => simpa using ih zs hzs i o (by simpa using ho)
      intro i o ho
      exact gen _ _ hl i o (by simpa using ho)
    intro m
    induction m with
    | zero =>
      intro i hi st h ι a w I e
      have : l.drop i = [] := List.drop_eq_nil_of_le (by rw [hlen]; simp; omega)
      rw [this] at e
      simp only [evOps] at e
      simp only [List.range'_zero, wpOps]
      exact hK st h ι a w e I.ar I.wr I.ex
    | succ m ih =>
      intro i hi st h ι a w I e
      have hlt : i < ops.size := by omega
      obtain ⟨ao, hao, hof⟩ := hget i ops[i] (by simp [hlt])
      have hil : i < l.length := by rw [hlen]; simpa using hlt
      rw [List.drop_eq_getElem_cons hil] at e
      have : l[i] = ao := by rw [List.getElem?_eq_getElem hil] at hao; simpa using hao
      rw [this] at e
      simp only [evOps] at e
      have hfit := List.all_eq_true.1 hall ao (by rw [← this]; exact List.getElem_mem hil)
      unfold AOper.fits at hfit
      rw [List.range'_succ, wpOps_cons]
      have hd : ao.d = ops[i].dst := by
        unfold AOper.of at hof
        simp only [Option.bind_eq_bind, Option.bind_eq_some_iff] at hof
        obtain ⟨op, _, hof⟩ := hof
        split at hof
        · cases hof; rfl
        · split at hof
          · cases hof; rfl
          · cases hof
      refine wpOp_mono ?_ (evG_wpOp (o := ops[i]) (by simp [hlt]) hof (fun x hx => ?_) (fun s b hs => ?_) hlt (Nat.le_refl i) I e)
      · rintro a' w' ⟨st', h', ι', k, I'⟩
        exact ih (i + 1) (by omega) st' h' ι' a' w' ⟨I'.ar, I'.wr, I'.ex, fun j hj hf => I'.fr j hj ⟨by omega, by omega⟩, I'.nx, I'.b0, I'.b1⟩ k
      · rw [← hd] at hx; rw [hx] at hfit; simp at hfit; exact hfit.1
      · rw [hs] at hfit; simp at hfit; exact hfit.2
  · cases hof
theorem awp_region {id : Nat} {ops : Array Oper} {aops : List AOper} (hof : opersOf P N ops = some aops) (e : evOps P h.nx aops 0 st { h with nx := h.nx + aops.length } fun st h => Q .normal st h) : Awp P N (.region id ops false) Q st h := fun ι a w ar wr => by
  have hlen : aops.length = ops.size := by
    unfold opersOf at hof
    simp only [Option.bind_eq_bind, Option.bind_eq_some_iff] at hof
    obtain ⟨l, hl, hof⟩ := hof
    split at hof
    · cases hof; simpa using mapM_length hl
    · cases hof
  refine wp_region ?_
  rw [List.range_eq_range']
  refine evOps_wpOps (ι0 := ι) (h0 := h) (w0 := w) (base := h.nx) hof (fun st' h' ι' a' w' k ar' wr' x => ⟨st', h', ι', k, ar', wr', x⟩) ops.size 0 (by omega) st { h with nx := h.nx + aops.length } ι a w
    ⟨ar, wr.bump _, (Ext.refl ι h w).bump _, fun j hj hf => ?_, by simp [hlen], Nat.le_refl _, wr.pos⟩ (by simpa using e)
  cases hq : ι (h.nx + j) with
  | none => rfl
  | some l => have := (wr.lt _ l hq).1; omega
/-! ### Functions -/
inductive ARes where
  | t (n : Nat)
  | c (n : Nat) (k : Option Nat)
def resOf (P : Program) (rs : List ResultVar) : Option (List ARes) := rs.mapM fun
  | .tmp t => some (.t t)
  | .cell t ty => (ldOf P ty).map (.c t)
def ARes.val (st : St) (h : AH) : ARes → Option AV
  | .t n => some (st.get n)
  | .c n k => match st.get n with
    | .p tk o => match h.row tk with
      | some cs => rd cs o k
      | none => none
    | _ => none
def aone : List AV → AV
  | [v] => v
  | vs => .tu vs
def initSt (args : List AV) : St := args.zipIdx.map fun (v, i) => (i, v)
theorem initSt_get (args : List AV) (d : Nat) : (initSt args).get d = args.getD d .un := by
  unfold initSt
  have key : ∀ (l : List AV) (k d : Nat), St.get ((l.zipIdx k).map fun (p : AV × Nat) => (p.2, p.1)) d = if k ≤ d then l.getD (d - k) .un else .un := by
    intro l
    induction l with
    | nil => intro k d; simp [St.get]
    | cons x l ih =>
      intro k d
      simp only [List.zipIdx_cons, List.map_cons, St.get, ih]
      by_cases h1 : d = k
      · subst h1; simp
      · rw [if_neg h1]
        by_cases h2 : k + 1 ≤ d
        · rw [if_pos h2, if_pos (by omega)]
          rw [show d - k = (d - (k + 1)) + 1 by omega]
          simp
        · rw [if_neg h2, if_neg (by omega)]
  have := key args 0 d
  simpa using this
def resRun (tmps : Array Value) : ResultVar → Sem Value
  | .tmp t => pure (tmps.getD t undef)
  | .cell a t => do loadVar t (← asAddr (tmps.getD a undef))
theorem results_eq (fn : Func) (tmps : Array Value) : results fn tmps = (do
    let vs ← fn.results.mapM (resRun tmps)
    pure (if h : vs.size = 1 then vs[0] else .tuple vs)) := by
  unfold results
  congr 1
theorem ares_run {ι : Inj} {a : Act} {w : World} (ar : ARel N ι st a) (wr : WRel ι h w) : ∀ {rs : List ResultVar} {ars : List ARes}, resOf P rs = some ars → ∀ {vs : List AV}, ars.mapM (ARes.val st h) = some vs →
    ∃ us : List Value, (rs.mapM (resRun a.tmps)).run P w = .ok us w ∧ VRels ι vs us
  | [], ars, h1, vs, h2 => by
    simp [resOf] at h1; subst h1
    simp at h2; subst h2
    exact ⟨[], by simp, by simp [VRels]⟩
  | r :: rs, ars, h1, vs, h2 => by
    simp only [resOf, List.mapM_cons, Option.pure_def, Option.bind_eq_bind, Option.bind_eq_some_iff, Option.some.injEq] at h1
    obtain ⟨y, hy, ys, hys, rfl⟩ := h1
    simp only [List.mapM_cons, Option.pure_def, Option.bind_eq_bind, Option.bind_eq_some_iff, Option.some.injEq] at h2
    obtain ⟨v, hv, us, hus, rfl⟩ := h2
    obtain ⟨zs, hz1, hz2⟩ := ares_run ar wr (rs := rs) (ars := ys) hys hus
    have one : ∃ u, (resRun a.tmps r).run P w = .ok u w ∧ VRel ι v u := by
      cases r with
      | tmp t =>
        simp at hy; subst hy
        simp only [ARes.val, Option.some.injEq] at hv
        subst hv
        exact ⟨_, rfl, ar.slot t⟩
      | cell c t =>
        simp only [Option.map_eq_some_iff] at hy
        obtain ⟨k, hk, rfl⟩ := hy
        simp only [ARes.val] at hv
        split at hv
        · rename_i tk o hg
          have rd' := ar.slot c
          rw [hg] at rd'
          simp only [VRel] at rd'
          obtain ⟨l, hl, hp⟩ := rd'
          split at hv
          · rename_i cs hrow
            obtain ⟨u, h3, h4⟩ := ld_sound (P := P) wr hk hrow hv hl
            exact ⟨u, by simp [resRun, hp, asAddr, h3], h4⟩
          · cases hv
        · cases hv
    obtain ⟨u, h5, h6⟩ := one
    refine ⟨u :: zs, ?_, by simp only [VRels]; exact ⟨_, _, rfl, h6, hz2⟩⟩
    simp only [List.mapM_cons, Sem.run_bind, h5, Result.andThen_ok, hz1, Sem.run_pure]
/-- A CONTRACT OUT OF A BODY. -/
theorem acalls_of {f : Nat} {fn : Func} {c : Code} {args : List AV} {ars : List ARes} {R : AV → AH → Prop} (hf : P.funcs[f]? = some fn) (hn : (fn.name == "runtime.NumGoroutine") = false) (hb : fn.body = some c)
    (hr : resOf P fn.results.toList = some ars) (hN : args.length ≤ fn.ntmps)
    (hw : Awp P fn.ntmps c (fun e st h' => (e = .normal ∨ e = .ret) ∧ ∃ vs, ars.mapM (ARes.val st h') = some vs ∧ ∃ h'', h''.le h' ∧ R (aone vs) h'') (initSt args) h) : ACalls P f args h R := by
  refine ⟨⟨fn, hf, hn, by rw [hb]; rfl⟩, fun ι w vs wr hv => ?_⟩
  have hsz : vs.size = args.length := by have := hv.length; simpa using this.symm
  refine calls_of_wp hf hb (wp_mono (hw ι { tmps := vs ++ Array.replicate (fn.ntmps - vs.size) undef, defers := [] } w ⟨by simp; omega, rfl, fun d => ?_⟩ wr) fun e a' w' l => ?_)
  · rw [initSt_get]
    by_cases hd : d < args.length
    · obtain ⟨hl, hrr⟩ := VRels_iff.1 hv
      have h1 : args[d]? = some args[d] := List.getElem?_eq_getElem hd
      have h2 : vs.toList[d]? = some vs[d] := by simp [hsz, hd]
      have := hrr d _ _ h1 h2
      rw [List.getD_eq_getElem?_getD, h1]
      have e3 : (vs ++ Array.replicate (fn.ntmps - vs.size) undef).getD d undef = vs[d] := by
        rw [Array.getD_eq_getD_getElem?, Array.getElem?_append_left (by omega)]
        simp [hsz, hd]
      rw [e3]
      exact this
    · rw [List.getD_eq_getElem?_getD, List.getElem?_eq_none (by omega)]
      simp [VRel]
  · obtain ⟨st', h', ι', ⟨he, us, hus, h'', hle, hR⟩, ar', wr', x⟩ := l
    · obtain ⟨zs, hz1, hz2⟩ := ares_run (P := P) ar' wr' hr hus
      have hres : ∃ v, (results fn a'.tmps).run P w' = .ok v w' ∧ VRel ι' (aone us) v := by
        have e1 : (fn.results.mapM (resRun a'.tmps)).run P w' = .ok zs.toArray w' := by
          rw [Array.mapM_eq_mapM_toList]
          simp only [Sem.run_map, hz1, Result.andThen_ok]
        rw [results_eq]
        simp only [Sem.run_bind]
        rw [e1]
        simp only [Result.andThen_ok, Sem.run_pure]
        match us, zs, hz2 with
        | [], zs, hz2 =>
          simp only [VRels] at hz2; subst hz2
          exact ⟨_, rfl, by simp only [aone, VRel]; exact ⟨#[], rfl, by simp [VRels]⟩⟩
        | [v], zs, hz2 =>
          simp only [VRels] at hz2
          obtain ⟨u, r, rfl, h1, rfl⟩ := hz2
          exact ⟨_, rfl, by simpa [aone] using h1⟩
        | v1 :: v2 :: vs', zs, hz2 =>
          have hl := hz2.length
          refine ⟨.tuple zs.toArray, ?_, by simp only [aone, VRel]; exact ⟨_, rfl, by simpa using hz2⟩⟩
          rw [dif_neg (by simp at hl ⊢; omega)]
      obtain ⟨v, h1, h2⟩ := hres
      rcases he with rfl | rfl <;> simp only [bodyPost] <;> exact ⟨ar'.defs, v, h1, ⟨v, _, h'', ι', rfl, hR, h2, wr'.drop hle, x.drop hle⟩⟩
end
end Go.Am
set_option linter.unusedVariables false
set_option linter.unusedSimpArgs false
namespace Go.Am
def AOp.xs : AOp → List AX
  | .mv x | .neg x | .not x | .conv _ x | .ext x _ | .fa x _ | .fld x _ _ | .nck x | .len x | .ld _ x | .box x | .str x | .cvt x | .byt x | .eqz _ x | .mln x => [x]
  | .pick c a b => [c, a, b]
  | .bin _ _ x y | .ia _ x y | .iap _ _ x y | .iv _ _ _ x y | .eqn _ x y | .eqa _ _ x y | .eqs _ x y | .mks _ _ _ x y | .sto _ x y | .app _ _ x y | .mlk _ _ _ x y => [x, y]
  | .mup _ x k v => [x, k, v]
  | .sli _ x lo hi | .slp _ _ x lo hi => x :: (lo.toList ++ hi.toList)
  | .sl3 _ x lo hi mx => x :: (lo.toList ++ [hi, mx])
  | .bld _ ps | .bsl _ _ ps => ps.map (·.2.2)
  | .mm _ x xs => x :: xs
  | .mkf _ a b => a ++ b
  | .alloc _ | .mkm => []
  | .call f xs => f :: xs
theorem afill_congr {ρ ρ' : AX → AV} : ∀ {ps : List (Nat × Nat × AX)} {cs : List AV}, (∀ x ∈ ps.map (·.2.2), ρ x = ρ' x) → afill ρ cs ps = afill ρ' cs ps
  | [], cs, _ => rfl
  | (off, n, x) :: ps, cs, h => by
    simp only [afill]
    rw [h x (by simp)]
    split
    · exact afill_congr fun y hy => h y (by simp at hy ⊢; exact .inr hy)
    · rfl
theorem bound_congr {ρ ρ' : AX → AV} {d : Nat} {x : Option AX} (h : ∀ y ∈ x.toList, ρ y = ρ' y) : bound ρ d x = bound ρ' d x := by
  cases x with
  | none => rfl
  | some y => simp only [bound]; rw [h y (by simp)]
/-- the token that a value leads to -/
def AV.tok : AV → Option Nat
  | .p t _ => some t
  | .sl t _ n _ => if n = 0 then none else some t
  | .mp t => some t
  | _ => none
theorem row_of_m {h h' : AH} {t : Nat} (hm : ∀ c, h.m t = some c → h'.m t = some c) {cs : List AV} (hr : h.row t = some cs) : h'.row t = some cs := by
  unfold AH.row at hr ⊢
  split at hr
  · rename_i w cs' hq; rw [hm _ hq]; exact hr
  · rename_i cs' hq; rw [hm _ hq]; exact hr
  · cases hr
theorem qpp_move {h h' : AH} {k b tok : Nat} {x y : AV} {r : AV × List AV} (hl : ∀ t, y.tok = some t → ∀ c, h.m t = some c → h'.m t = some c) (e : h.qpp k b tok x y = some r) : h'.qpp k b tok x y = some r := by
  have he : ∀ ys, h.elems k y = some ys → h'.elems k y = some ys := by
    intro ys hy
    unfold AH.elems at hy ⊢
    cases y <;> simp only at hy ⊢ <;> try exact hy
    rename_i t2 o2 m a2
    by_cases h0 : m = 0
    · rw [if_pos h0] at hy ⊢; exact hy
    · rw [if_neg h0] at hy ⊢
      cases hr : h.row t2 with
      | none => rw [hr] at hy; cases hy
      | some cs => rw [hr] at hy; rw [row_of_m (hl t2 (by simp only [AV.tok, if_neg h0])) hr]; exact hy
  unfold AH.qpp at e ⊢
  split at e
  · rename_i t o n a m ys h1 h2
    simp only [h1, he ys h2]
    exact e
  · cases e
theorem ev_congr {ρ ρ' : AX → AV} {h h' : AH} {o : AOp} {v : AV} (hx : ∀ x ∈ o.xs, ρ x = ρ' x) (hl : ∀ x t, x ∈ o.xs → (ρ x).tok = some t → ∀ c, h.m t = some c → h'.m t = some c) (e : o.ev ρ h = some v) : o.ev ρ' h' = some v := by
  cases o <;> simp only [AOp.xs, List.mem_cons, List.not_mem_nil, or_false, forall_eq_or_imp, forall_eq] at hx <;> simp only [AOp.ev] at e ⊢
  case ld n x =>
    rw [← hx]
    cases hp : ρ x <;> simp only [hp] at e ⊢ <;> try exact e
    rename_i t o'
    cases hr : h.row t with
    | none => rw [hr] at e; cases e
    | some cs => rw [hr] at e; rw [row_of_m (hl x t (by simp [AOp.xs]) (by rw [hp]; rfl)) hr]; exact e
  case str x =>
    rw [← hx]
    cases hp : ρ x <;> simp only [hp] at e ⊢ <;> try exact e
    rename_i t o' n a'
    split at e
    · rename_i h0; rw [if_pos h0]; exact e
    · rename_i h0
      rw [if_neg h0]
      cases hr : h.row t with
      | none => rw [hr] at e; cases e
      | some cs => rw [hr] at e; rw [row_of_m (hl x t (by simp [AOp.xs]) (by rw [hp]; simp [AV.tok, h0])) hr]; exact e
  case sli k x lo hi =>
    rw [← hx.1, ← bound_congr (fun y hy => hx.2 y (by simp at hy ⊢; exact .inl hy))]
    cases hq : ρ x <;> simp only [hq] at e ⊢ <;> try exact e
    all_goals
      rw [← bound_congr (fun y hy => hx.2 y (by simp at hy ⊢; exact .inr hy))]
      exact e
  case sl3 k x lo hi mx =>
    rw [← hx.1, ← bound_congr (fun y hy => hx.2 y (by simp at hy ⊢; exact .inl hy))]
    cases hq : ρ x <;> simp only [hq] at e ⊢ <;> try exact e
    all_goals
      rw [← bound_congr (x := some hi) (fun y hy => hx.2 y (by simp at hy ⊢; exact .inr (.inl hy))), ← bound_congr (x := some mx) (fun y hy => hx.2 y (by simp at hy ⊢; exact .inr (.inr hy)))]
      exact e
  case slp n k x lo hi =>
    rw [← hx.1, ← bound_congr (fun y hy => hx.2 y (by simp at hy ⊢; exact .inl hy)), ← bound_congr (fun y hy => hx.2 y (by simp at hy ⊢; exact .inr hy))]
    exact e
  case bld z ps => rw [← afill_congr hx]; exact e
  case mlk kk z ok x k =>
    rw [← hx.1, ← hx.2]
    cases hp : ρ x <;> simp only [hp] at e ⊢ <;> try exact e
    rename_i t
    cases hr : h.m t with
    | none => rw [hr] at e; cases e
    | some c => rw [hr] at e; rw [hl x t (by simp [AOp.xs]) (by rw [hp]; rfl) c hr]; exact e
  case mln x =>
    rw [← hx]
    cases hp : ρ x <;> simp only [hp] at e ⊢ <;> try exact e
    rename_i t
    cases hr : h.m t with
    | none => rw [hr] at e; cases e
    | some c => rw [hr] at e; rw [hl x t (by simp [AOp.xs]) (by rw [hp]; rfl) c hr]; exact e
  case mm mx x xs =>
    rw [← hx.1, ← List.map_congr_left (f := ρ) (g := ρ') fun y hy => hx.2 y hy]
    exact e
  case mkf f a b =>
    rw [← List.map_congr_left (f := ρ) (g := ρ') (l := a) fun y hy => hx y (by simp [hy]), ← List.map_congr_left (f := ρ) (g := ρ') (l := b) fun y hy => hx y (by simp [hy])]
    exact e
  case pick c a b => rw [← hx.1, ← hx.2.1, ← hx.2.2]; exact e
  all_goals first
    | exact e
    | (rw [← hx]; exact e)
    | (rw [← hx.1, ← hx.2]; exact e)
theorem al_congr {ρ ρ' : AX → AV} {o : AOp} {tok : Nat} (hx : ∀ x ∈ o.xs, ρ x = ρ' x) : o.al ρ tok = o.al ρ' tok := by
  cases o <;> simp only [AOp.xs, List.mem_cons, List.not_mem_nil, or_false, forall_eq_or_imp, forall_eq] at hx <;> simp only [AOp.al]
  case box x => rw [hx]
  case bsl k z ps => rw [afill_congr hx]
  case mks k b z x y => rw [hx.1, hx.2]
/-- A contract that leaves the heap alone serves in a wider heap. -/
theorem ACalls.frame {P : Program} {f : Nat} {args : List AV} {hb h : AH} {v : AV} (c : ACalls P f args hb fun r h' => r = v ∧ h' = hb) (hle : hb.le h) (hnx : h.nx = hb.nx) : ACalls P f args h fun r h' => r = v ∧ h' = h := by
  refine ⟨c.1, fun ι w vs wr hv => Calls.mono (c.2 ι w vs (wr.drop hle) hv) fun e w' he => ?_⟩
  revert he; rintro ⟨u, r, h', ι', rfl, ⟨rfl, rfl⟩, h1, h2, h3⟩
  have hold : ∀ t c, h.m t = some c → ι' t = ι t := fun t c ht => h3.old t (by rw [← hnx]; exact (wr.blk t c ht).1)
  have hkeep : ∀ t c l, h.m t = some c → h'.m t = none → ι t = some l → w'.heap[l.b]? = w.heap[l.b]? := by
    intro t c l ht hn hl
    refine h3.keep l.b (wr.lt t l hl).2 fun t0 c0 l0 hm0 hw0 hl0 hbb => ?_
    have := wr.inj t0 t l0 l c0 c (hle.1 _ _ hm0) ht hl0 hl hbb (.inl hw0)
    subst this
    rw [hn] at hm0; cases hm0
  refine ⟨u, _, h, ι', rfl, ⟨rfl, rfl⟩, h1, ⟨fun t l hl => ?_, fun t c ht => ?_, fun t t' l l' c c' h4 h5 h6 h7 h8 h9 => ?_, wr.pos, h2.nil, fun b xs hb => ⟨(h2.phi b xs hb).1, fun t c l ht hc hl => ?_⟩⟩, ⟨by omega, fun t ht => h3.old t (by omega), h3.os, h3.tape, h3.output, h3.size, fun b hbb hk => ?_, fun t c l ht hc hl => ?_, h3.phi, fun b xs hb => ?_, h3.drawn⟩⟩
  · rw [hnx]; exact h2.lt t l hl
  · refine ⟨(wr.blk t c ht).1, ?_⟩
    cases hq : h'.m t with
    | some c0 =>
      have := hle.1 _ _ hq
      rw [ht] at this; cases this
      exact (h2.blk t _ hq).2
    | none => exact (wr.blk t c ht).2.mono ⟨fun s l hs => by rw [h3.old s (by rw [← hnx]; exact (wr.lt s l hs).1)]; exact hs, h3.phi⟩ (hold t c ht) fun l hl => hkeep t c l ht hq hl
  · rw [hold t c h4] at h6
    rw [hold t' c' h5] at h7
    exact wr.inj t t' l l' c c' h4 h5 h6 h7 h8 h9
  · rw [hold t c ht] at hl
    rcases h3.new b xs hb with q | q | ⟨t0, c0, l0, q1, q2, q3, q4⟩
    · exact (wr.phi b xs q).2 t c l ht hc hl
    · have := (wr.lt t l hl).2; omega
    · exact absurd q4 ((h2.phi b xs hb).2 t0 c0 l0 q1 q2 (by rw [hold t0 c0 (hle.1 _ _ q1)]; exact q3))
  · exact h3.keep b hbb fun t c l ht hc hl => hk t c l (hle.1 _ _ ht) hc hl
  · rw [hold t c ht] at hl
    exact .inr ⟨t, c, l, ht, hc, hl, rfl⟩
  · rcases h3.new b xs hb with q | q | ⟨t0, c0, l0, q1, q2, q3, q4⟩
    · exact .inl q
    · exact .inr (.inl q)
    · exact .inr (.inr ⟨t0, c0, l0, hle.1 _ _ q1, q2, q3, q4⟩)
/-- a heap, with some of another one's blocks -/
def AH.plus (hb h : AH) : List Nat → AH
  | [] => hb
  | t :: ts => { hb.plus h ts with m := fun s => if s = t then h.m t else (hb.plus h ts).m s }
theorem AH.plus_nx (hb h : AH) : ∀ ts, (hb.plus h ts).nx = hb.nx
  | [] => rfl
  | _ :: ts => AH.plus_nx hb h ts
theorem AH.plus_m {hb h : AH} {s : Nat} {c : Blk} : ∀ {ts : List Nat}, (hb.plus h ts).m s = some c → (s ∈ ts ∧ h.m s = some c) ∨ hb.m s = some c
  | [], e => .inr e
  | t :: ts, e => by
    simp only [AH.plus] at e
    by_cases q : s = t
    · subst q; rw [if_pos rfl] at e; exact .inl ⟨List.mem_cons_self, e⟩
    · rw [if_neg q] at e
      rcases AH.plus_m e with ⟨h1, h2⟩ | h1
      · exact .inl ⟨List.mem_cons_of_mem _ h1, h2⟩
      · exact .inr h1
theorem AH.plus_le {hb h : AH} (hle : hb.le h) (ts : List Nat) : (hb.plus h ts).le h :=
  ⟨fun s c e => by rcases AH.plus_m e with ⟨_, h2⟩ | h2; exact h2; exact hle.1 _ _ h2, by rw [AH.plus_nx]; exact hle.2⟩
theorem AH.plus_mono {hb h h' : AH} : ∀ {ts : List Nat}, (∀ t ∈ ts, ∀ c, h.m t = some c → h'.m t = some c) → (hb.plus h ts).le (hb.plus h' ts)
  | [], _ => AH.le_refl _
  | t :: ts, hl => by
    have ih := AH.plus_mono (hb := hb) (ts := ts) (h := h) (h' := h') fun t ht => hl t (List.mem_cons_of_mem _ ht)
    refine ⟨fun s c e => ?_, by rw [AH.plus_nx, AH.plus_nx]; exact Nat.le_refl _⟩
    simp only [AH.plus] at e ⊢
    by_cases q : s = t
    · rw [if_pos q] at e ⊢; exact hl t List.mem_cons_self c e
    · rw [if_neg q] at e ⊢; exact ih.1 s c e
section
variable (P : Program)
def setNb (h : AH) (tok : Nat) : Option (List AV) → AH
  | some cs => h.set tok (.cells true cs)
  | none => h
/-- what an operation does to the heap: one block, set -/
abbrev NB := Option (Nat × Blk)
def setE (h : AH) : NB → AH
  | some p => h.set p.1 p.2
  | none => h
def nbE (tok : Nat) (nb : Option (List AV)) : NB := nb.map fun cs => (tok, Blk.cells true cs)
theorem setE_nbE (h : AH) (tok : Nat) (nb : Option (List AV)) : setE h (nbE tok nb) = setNb h tok nb := by cases nb <;> rfl
/-- a store, az a block that is set -/
def AH.stoE (h : AH) (n : Option Nat) (x v : AV) : NB :=
  match x with
  | .p t o => match h.m t with
    | some (.cells true cs) => (wrt cs o v n).map fun cs' => (t, .cells true cs')
    | _ => none
  | _ => none
def AH.mupE (h : AH) (kk : Option (List Nat)) (x k v : AV) : NB :=
  match x with
  | .mp t => match h.m t with
    | some (.map es) => if kq kk k k = some true then (mput kk k v es).map fun es' => (t, .map es') else none
    | _ => none
  | _ => none
theorem sto_E (h : AH) (n : Option Nat) (x v : AV) : h.sto n x v = (h.stoE n x v).map fun p => h.set p.1 p.2 := by
  cases x <;> try rfl
  rename_i t o
  simp only [AH.sto, AH.stoE]
  rcases h.m t with _ | (⟨_ | _, cs⟩ | cs | es) <;> try rfl
  simp only []
  rw [Option.map_map]; rfl
theorem mup_E (h : AH) (kk : Option (List Nat)) (x k v : AV) : h.mup kk x k v = (h.mupE kk x k v).map fun p => h.set p.1 p.2 := by
  cases x <;> try rfl
  rename_i t
  simp only [AH.mup, AH.mupE]
  rcases h.m t with _ | (⟨_ | _, cs⟩ | cs | es) <;> try rfl
  simp only []
  split
  · rw [Option.map_map]; rfl
  · rfl
theorem stoE_move {h h' : AH} {n : Option Nat} {x v : AV} {p : Nat × Blk} (hl : ∀ t, x.tok = some t → ∀ c, h.m t = some c → h'.m t = some c) (e : h.stoE n x v = some p) : h'.stoE n x v = some p := by
  unfold AH.stoE at *
  split at e
  · rename_i t o
    split at e
    · rename_i hq; rw [hl t rfl _ hq]; exact e
    · cases e
  · cases e
theorem mupE_move {h h' : AH} {kk : Option (List Nat)} {x k v : AV} {p : Nat × Blk} (hl : ∀ t, x.tok = some t → ∀ c, h.m t = some c → h'.m t = some c) (e : h.mupE kk x k v = some p) : h'.mupE kk x k v = some p := by
  unfold AH.mupE at *
  split at e
  · rename_i t
    split at e
    · rename_i hq; rw [hl t rfl _ hq]; exact e
    · cases e
  · cases e
/-- writes into a block that was there -/
def AOp.late : AOp → Bool
  | .sto .. | .mup .. => true
  | _ => false
def AOp.lateOk : AOp → Bool
  | .sto n _ _ => n != some 0
  | _ => true
/-- calls a function -/
def AOp.cal : AOp → Bool
  | .call .. => true
  | _ => false
/-- looks at no block -/
def AOp.free : AOp → Bool
  | .ld .. | .str .. | .mlk .. | .mln .. | .call .. | .app .. | .byt .. | .cvt .. | .eqz .. | .mkm | .sto .. | .mup .. => false
  | _ => true
theorem ev_free {o : AOp} (hf : o.free = true) (ρ : AX → AV) (h h' : AH) : o.ev ρ h = o.ev ρ h' := by
  cases o <;> first | rfl | cases hf
def goodB : Blk → Prop
  | .cells _ cs => cs ≠ []
  | .frz cs => True
  | .map _ => True
/-- a call that may come in any order -/
def okCall (tok : Nat) (hb : AH) (f : Nat) (args : List AV) (r : AV) (nb : Option (List AV)) : Prop :=
  (nb = none ∧ ACalls P f args hb fun r' h' => r' = r ∧ h' = hb) ∨ ∃ p n k cs, nb = some cs ∧ r = plug p (.sl tok 0 n k) ∧ FCalls P f args hb p n k cs
/-- an operation that may come in any order: a value, a new block, or a call that leaves the heap alone. 'hb': the heap at the region's start. -/
def evHA (tok : Nat) (hb : AH) (d : Option Nat) (o : AOp) (st : St) (h : AH) (K : St → AH → Prop) : Prop :=
  match o with
  | .sto n x v => match h.sto n (x.val st) (v.val st) with
    | some h' => K (put d .un st) h'
    | none => False
  | .app k b x y => match h.qpp k b tok (x.val st) (y.val st) with
    | some (v, cs) => K (put d v st) (h.set tok (.cells true cs))
    | none => False
  | .byt _ => False
  | .eqz .. => False
  | .cvt _ => False
  | .mkm => False
  | .mup kk x k v => match h.mup kk (x.val st) (k.val st) (v.val st) with
    | some h' => K (put d .un st) h'
    | none => False
  | .call f args => match f.val st with
    | .fn f fst caps => ∃ ts r nb, (∀ t ∈ ts, ∃ x ∈ args, (x.val st).tok = some t) ∧ okCall P tok (hb.plus h ts) f (fst ++ args.map (AX.val st) ++ caps) r nb ∧ K (put d r st) (setNb h tok nb)
    | _ => False
  | o => if o.isAl then match o.al (AX.val st) tok with
      | some (v, cs) => K (put d v st) (h.set tok (.cells true cs))
      | none => False
    else match o.ev (AX.val st) h with
      | some v => K (put d v st) h
      | none => False
def evHC (tok : Nat) (hb : AH) (g : Bool) (d : Option Nat) (o : AOp) (st : St) (h : AH) (K : St → AH → Prop) : Prop :=
  match o with
  | .sto .. => False
  | .app .. => False
  | .byt _ => False
  | .eqz .. => False
  | .cvt _ => False
  | .mkm => False
  | .mup .. => False
  | .call f args => match f.val (stS g st) with
    | .fn f fst caps => ∃ v, (g = true → ACalls P f (fst ++ args.map (AX.val (stS g st)) ++ caps) hb fun r h' => r = v ∧ h' = hb) ∧ K (put d (.gd g v) st) h
    | _ => False
  | o => if o.isVal then ∃ v, (g = true → o.ev (AX.val (stS g st)) h = some v) ∧ K (put d (.gd g v) st) h
    else (g = true → match o.al (AX.val (stS g st)) tok with
        | some (v, cs) => K (put d (.gd g v) st) (h.set tok (.cells true cs))
        | none => False) ∧ (g = false → K (put d (.gd g .un) st) h)
def evHG (tok : Nat) (hb : AH) (o : AOper) (st : St) (h : AH) (K : St → AH → Prop) : Prop :=
  match o.g with
  | none => evHA P tok hb o.d o.op st h K
  | some (s, want) => match guardOf (st.get s) want with
    | some g => evHC P tok hb g o.d o.op st h K
    | none => False
def evHead (base : Nat) (hb : AH) : List AOper → Nat → St → AH → (St → AH → Prop) → Prop
  | [], _, st, h, K => K st h
  | o :: os, i, st, h, K => evHG P (base + i) hb o st h fun st' h' => evHead base hb os (i + 1) st' h' K
/-- what a quiet operation yields -/
def okA (tok : Nat) (hb : AH) (o : AOp) (st : St) (h : AH) (v : AV) (nb : NB) : Prop :=
  match o with
  | .sto n x w => v = .un ∧ ∃ p, nb = some p ∧ h.stoE n (x.val st) (w.val st) = some p
  | .app k b x y => ∃ cs, nb = some (tok, .cells true cs) ∧ h.qpp k b tok (x.val st) (y.val st) = some (v, cs)
  | .byt _ => False
  | .eqz .. => False
  | .cvt _ => False
  | .mkm => False
  | .mup kk x k w => v = .un ∧ ∃ p, nb = some p ∧ h.mupE kk (x.val st) (k.val st) (w.val st) = some p
  | .call f args => ∃ ts fid fst caps n0, nb = nbE tok n0 ∧ (∀ t ∈ ts, ∃ x ∈ args, (x.val st).tok = some t) ∧ f.val st = .fn fid fst caps ∧ okCall P tok (hb.plus h ts) fid (fst ++ args.map (AX.val st) ++ caps) v n0
  | o => if o.isAl then ∃ cs, nb = some (tok, .cells true cs) ∧ o.al (AX.val st) tok = some (v, cs) else nb = none ∧ o.ev (AX.val st) h = some v
def okC (tok : Nat) (hb : AH) (g : Bool) (o : AOp) (st : St) (h : AH) (v : AV) (nb : NB) : Prop :=
  match o with
  | .sto .. => False
  | .app .. => False
  | .byt _ => False
  | .eqz .. => False
  | .cvt _ => False
  | .mkm => False
  | .mup .. => False
  | .call f args => nb = none ∧ ∃ v0 fid fst caps, v = .gd g v0 ∧ f.val (stS g st) = .fn fid fst caps ∧ (g = true → ACalls P fid (fst ++ args.map (AX.val (stS g st)) ++ caps) hb fun r' h' => r' = v0 ∧ h' = hb)
  | o => if o.isVal then nb = none ∧ ∃ v0, v = .gd g v0 ∧ (g = true → o.ev (AX.val (stS g st)) h = some v0)
    else (g = true ∧ ∃ v0 cs, o.al (AX.val (stS g st)) tok = some (v0, cs) ∧ v = .gd g v0 ∧ nb = some (tok, .cells true cs)) ∨ (g = false ∧ v = .gd g .un ∧ nb = none)
def okG (tok : Nat) (hb : AH) (o : AOper) (st : St) (h : AH) (v : AV) (nb : NB) : Prop :=
  match o.g with
  | none => okA P tok hb o.op st h v nb
  | some (s, want) => match guardOf (st.get s) want with
    | some g => okC P tok hb g o.op st h v nb
    | none => False
end
section
variable {P : Program}
theorem okA_of {tok : Nat} {hb : AH} {d : Option Nat} {o : AOp} {st : St} {h : AH} {K : St → AH → Prop} (e : evHA P tok hb d o st h K) : ∃ v nb, okA P tok hb o st h v nb ∧ K (put d v st) (setE h nb) := by
  cases o <;> simp only [evHA, okA, AOp.isAl, if_true, if_false, Bool.false_eq_true] at e ⊢
  case call f args =>
    split at e
    · rename_i fid fst caps hf
      obtain ⟨ts, r, nb, h0, h1, h2⟩ := e
      exact ⟨r, nbE tok nb, ⟨ts, _, _, _, nb, rfl, h0, hf, h1⟩, by rw [setE_nbE]; exact h2⟩
    · exact e.elim
  case sto n x v =>
    rw [sto_E] at e
    cases hq : h.stoE n (x.val st) (v.val st) with
    | none => rw [hq] at e; exact e.elim
    | some p => rw [hq] at e; exact ⟨_, some p, ⟨rfl, p, rfl, rfl⟩, e⟩
  case mup kk x k v =>
    rw [mup_E] at e
    cases hq : h.mupE kk (x.val st) (k.val st) (v.val st) with
    | none => rw [hq] at e; exact e.elim
    | some p => rw [hq] at e; exact ⟨_, some p, ⟨rfl, p, rfl, rfl⟩, e⟩
  case app => split at e <;> first | exact e.elim | (rename_i hq; exact ⟨_, _, ⟨_, rfl, hq⟩, e⟩)
  case box => split at e <;> first | exact e.elim | (rename_i hq; exact ⟨_, _, ⟨_, rfl, hq⟩, e⟩)
  case alloc => split at e <;> first | exact e.elim | (rename_i hq; exact ⟨_, _, ⟨_, rfl, hq⟩, e⟩)
  case bsl => split at e <;> first | exact e.elim | (rename_i hq; exact ⟨_, _, ⟨_, rfl, hq⟩, e⟩)
  case mks => split at e <;> first | exact e.elim | (rename_i hq; exact ⟨_, _, ⟨_, rfl, hq⟩, e⟩)
  all_goals (split at e <;> first | exact e.elim | (rename_i hq; exact ⟨_, none, ⟨rfl, hq⟩, e⟩))
theorem okC_of {tok : Nat} {hb : AH} {g : Bool} {d : Option Nat} {o : AOp} {st : St} {h : AH} {K : St → AH → Prop} (e : evHC P tok hb g d o st h K) : ∃ v nb, okC P tok hb g o st h v nb ∧ K (put d v st) (setE h nb) := by
  have al : ∀ {op : AOp}, ((g = true → match op.al (AX.val (stS g st)) tok with
        | some (v, cs) => K (put d (.gd g v) st) (h.set tok (.cells true cs))
        | none => False) ∧ (g = false → K (put d (.gd g .un) st) h)) →
      ∃ v nb, ((g = true ∧ ∃ v0 cs, op.al (AX.val (stS g st)) tok = some (v0, cs) ∧ v = .gd g v0 ∧ nb = some (tok, .cells true cs)) ∨ (g = false ∧ v = .gd g .un ∧ nb = none)) ∧ K (put d v st) (setE h nb) := by
    intro op e
    cases g with
    | false => exact ⟨_, none, .inr ⟨rfl, rfl, rfl⟩, e.2 rfl⟩
    | true =>
      have e1 := e.1 rfl
      split at e1
      · rename_i v cs hq; exact ⟨_, some (tok, .cells true cs), .inl ⟨rfl, v, cs, hq, rfl, rfl⟩, e1⟩
      · exact e1.elim
  cases o <;> simp only [evHC, okC, AOp.isVal, if_true, if_false, Bool.false_eq_true] at e ⊢
  case call f args =>
    split at e
    · rename_i fid fst caps hf
      obtain ⟨v, h1, h2⟩ := e
      exact ⟨.gd g v, none, ⟨rfl, v, fid, fst, caps, rfl, hf, h1⟩, h2⟩
    · exact e.elim
  case box => exact al e
  case alloc => exact al e
  case bsl => exact al e
  case mks => exact al e
  all_goals (obtain ⟨v, h1, h2⟩ := e; exact ⟨.gd g v, none, ⟨rfl, v, rfl, h1⟩, h2⟩)
theorem okG_of {tok : Nat} {hb : AH} {o : AOper} {st : St} {h : AH} {K : St → AH → Prop} (e : evHG P tok hb o st h K) : ∃ v nb, okG P tok hb o st h v nb ∧ K (put o.d v st) (setE h nb) := by
  unfold evHG at e
  unfold okG
  cases hg : o.g with
  | none => simp only [hg] at e ⊢; exact okA_of e
  | some sw =>
    obtain ⟨s, want⟩ := sw
    simp only [hg] at e ⊢
    cases hq : guardOf (st.get s) want with
    | none => simp only [hq] at e
    | some g => simp only [hq] at e ⊢; exact okC_of e
theorem okA_ev {tok : Nat} {hb : AH} {d : Option Nat} {o : AOp} {st : St} {h : AH} {v : AV} {nb : NB} (hle : o.cal = true → hb.le h) (hnx : h.nx = hb.nx) (e : okA P tok hb o st h v nb) :
    evA P tok d o st h fun st' h' => st' = put d v st ∧ h' = setE h nb := by
  cases o <;> simp only [evA, okA, AOp.isAl, if_true, if_false, Bool.false_eq_true] at e ⊢
  case call f args =>
    obtain ⟨ts, fid, fst, caps, n0, rfl, _, hf, hc⟩ := e
    have hnx : h.nx = (hb.plus h ts).nx := by rw [AH.plus_nx]; exact hnx
    have hle := AH.plus_le (hle rfl) ts
    simp only [hf, setE_nbE]
    rcases hc with ⟨rfl, hc⟩ | ⟨p, n, k, cs, rfl, rfl, hc⟩
    · exact .inl ((hc.frame hle hnx).mono fun r h' ⟨h1, h2⟩ => ⟨by rw [h1], h2⟩)
    · exact .inr ⟨p, n, k, cs, hc.frame hle, rfl, rfl⟩
  case sto n x w => obtain ⟨rfl, p, rfl, hq⟩ := e; rw [sto_E, hq]; exact ⟨rfl, rfl⟩
  case mup kk x k w => obtain ⟨rfl, p, rfl, hq⟩ := e; rw [mup_E, hq]; exact ⟨rfl, rfl⟩
  case app => obtain ⟨cs, rfl, hq⟩ := e; simp only [qpp_app hq]; refine ⟨?_, ?_⟩ <;> first | trivial | rfl
  case box => obtain ⟨cs, rfl, hq⟩ := e; simp only [hq]; refine ⟨?_, ?_⟩ <;> first | trivial | rfl
  case alloc => obtain ⟨cs, rfl, hq⟩ := e; simp only [hq]; refine ⟨?_, ?_⟩ <;> first | trivial | rfl
  case bsl => obtain ⟨cs, rfl, hq⟩ := e; simp only [hq]; refine ⟨?_, ?_⟩ <;> first | trivial | rfl
  case mks => obtain ⟨cs, rfl, hq⟩ := e; simp only [hq]; refine ⟨?_, ?_⟩ <;> first | trivial | rfl
  all_goals (obtain ⟨rfl, hq⟩ := e; simp only [hq]; refine ⟨?_, ?_⟩ <;> first | trivial | rfl)
theorem okC_ev {tok : Nat} {hb : AH} {g : Bool} {d : Option Nat} {o : AOp} {st : St} {h : AH} {v : AV} {nb : NB} (hle : o.cal = true → hb.le h) (hnx : h.nx = hb.nx) (e : okC P tok hb g o st h v nb) :
    evC P tok g d o st h fun st' h' => st' = put d v st ∧ h' = setE h nb := by
  have al : ∀ {op : AOp}, ((g = true ∧ ∃ v0 cs, op.al (AX.val (stS g st)) tok = some (v0, cs) ∧ v = .gd g v0 ∧ nb = some (tok, .cells true cs)) ∨ (g = false ∧ v = .gd g .un ∧ nb = none)) →
      ((g = true → match op.al (AX.val (stS g st)) tok with
        | some (v', cs) => put d (.gd g v') st = put d v st ∧ h.set tok (.cells true cs) = setE h nb
        | none => False) ∧ (g = false → put d (.gd g .un) st = put d v st ∧ h = setE h nb)) := by
    rintro op (⟨hg, v0, cs, hq, rfl, rfl⟩ | ⟨hg, rfl, rfl⟩)
    · refine ⟨fun _ => ?_, fun h => by rw [hg] at h; cases h⟩
      rw [hq]; exact ⟨rfl, rfl⟩
    · exact ⟨(fun h => by rw [hg] at h; cases h), fun _ => ⟨rfl, rfl⟩⟩
  cases o <;> simp only [evC, okC, AOp.isVal, AOp.isAl, if_true, if_false, Bool.false_eq_true] at e ⊢
  case call f args =>
    obtain ⟨rfl, v0, fid, fst, caps, rfl, hf, hc⟩ := e
    simp only [hf]
    exact ⟨v0, fun hg => (hc hg).frame (hle rfl) hnx, rfl, rfl⟩
  case box => exact al e
  case alloc => exact al e
  case bsl => exact al e
  case mks => exact al e
  all_goals (obtain ⟨rfl, v0, rfl, hq⟩ := e; exact ⟨v0, hq, rfl, rfl⟩)
theorem okG_ev {tok : Nat} {hb : AH} {o : AOper} {st : St} {h : AH} {v : AV} {nb : NB} (hle : o.op.cal = true → hb.le h) (hnx : h.nx = hb.nx) (e : okG P tok hb o st h v nb) :
    evG P tok o st h fun st' h' => st' = put o.d v st ∧ h' = setE h nb := by
  unfold okG at e
  unfold evG
  cases hg : o.g with
  | none => simp only [hg] at e ⊢; exact okA_ev hle hnx e
  | some sw =>
    obtain ⟨s, want⟩ := sw
    simp only [hg] at e ⊢
    cases hq : guardOf (st.get s) want with
    | none => simp only [hq] at e
    | some g => simp only [hq] at e ⊢; exact .inl (okC_ev hle hnx e)
/-- the slots that an operation looks at -/
def AX.slot : AX → Option Nat
  | .t n => some n
  | .c _ => none
def AOper.reads (o : AOper) : List Nat := o.op.xs.filterMap AX.slot ++ (match o.g with | some (s, _) => [s] | none => [])
theorem okA_move {tok : Nat} {hb : AH} {o : AOp} {st st' : St} {h h' : AH} {v : AV} {nb : NB} (hx : ∀ x ∈ o.xs, x.val st = x.val st')
    (hl : o.free = false → ∀ x t, x ∈ o.xs → (x.val st).tok = some t → ∀ c, h.m t = some c → h'.m t = some c) (e : okA P tok hb o st h v nb) : okA P tok hb o st' h' v nb := by
  cases hop : o <;> simp only [hop] at e hx hl <;> simp only [okA, AOp.isAl, if_true, if_false, Bool.false_eq_true] at e ⊢
  case call f args =>
    have hl := hl rfl
    obtain ⟨ts, fid, fst, caps, n0, rfl, hts, hf, hc⟩ := e
    refine ⟨ts, fid, fst, caps, n0, rfl, fun t ht => ?_, by rw [← hx f (by simp [AOp.xs])]; exact hf, ?_⟩
    · obtain ⟨x, hx1, hx2⟩ := hts t ht
      exact ⟨x, hx1, by rw [← hx x (by simp [AOp.xs, hx1])]; exact hx2⟩
    · rw [← List.map_congr_left (f := AX.val st) (g := AX.val st') fun y hy => hx y (by simp [AOp.xs, hy])]
      have hm : (hb.plus h ts).le (hb.plus h' ts) := AH.plus_mono fun t ht c hc => by
        obtain ⟨x, hx1, hx2⟩ := hts t ht
        exact hl x t (by simp [AOp.xs, hx1]) hx2 c hc
      rcases hc with ⟨h1, h2⟩ | ⟨p, n, k, cs, h1, h2, h3⟩
      · exact .inl ⟨h1, h2.frame hm (by rw [AH.plus_nx, AH.plus_nx])⟩
      · exact .inr ⟨p, n, k, cs, h1, h2, h3.frame hm⟩
  case sto n x w => obtain ⟨rfl, p, rfl, hq⟩ := e; exact ⟨rfl, p, rfl, by rw [← hx x (by simp [AOp.xs]), ← hx w (by simp [AOp.xs])]; exact stoE_move (fun t ht => hl rfl x t (by simp [AOp.xs]) ht) hq⟩
  case mup kk x k w => obtain ⟨rfl, p, rfl, hq⟩ := e; exact ⟨rfl, p, rfl, by rw [← hx x (by simp [AOp.xs]), ← hx w (by simp [AOp.xs]), ← hx k (by simp [AOp.xs])]; exact mupE_move (fun t ht => hl rfl x t (by simp [AOp.xs]) ht) hq⟩
  case app k b x y => obtain ⟨cs, rfl, hq⟩ := e; exact ⟨cs, rfl, by rw [← hx x (by simp [AOp.xs]), ← hx y (by simp [AOp.xs])]; exact qpp_move (fun t ht => hl rfl y t (by simp [AOp.xs]) ht) hq⟩
  case box => obtain ⟨cs, rfl, hq⟩ := e; exact ⟨cs, rfl, by rw [← al_congr hx]; exact hq⟩
  case alloc => obtain ⟨cs, rfl, hq⟩ := e; exact ⟨cs, rfl, by rw [← al_congr hx]; exact hq⟩
  case bsl => obtain ⟨cs, rfl, hq⟩ := e; exact ⟨cs, rfl, by rw [← al_congr hx]; exact hq⟩
  case mks => obtain ⟨cs, rfl, hq⟩ := e; exact ⟨cs, rfl, by rw [← al_congr hx]; exact hq⟩
  all_goals
    obtain ⟨rfl, hq⟩ := e
    first
      | exact ⟨rfl, ev_congr hx (hl rfl) hq⟩
      | exact ⟨rfl, ev_congr (h := h') hx (fun _ _ _ _ _ hc => hc) ((ev_free rfl _ _ _).trans hq)⟩
theorem okC_move {tok : Nat} {hb : AH} {g : Bool} {o : AOp} {st st' : St} {h h' : AH} {v : AV} {nb : NB} (hx : ∀ x ∈ o.xs, x.val (stS g st) = x.val (stS g st'))
    (hl : o.free = false → g = true → ∀ x t, x ∈ o.xs → (x.val (stS g st)).tok = some t → ∀ c, h.m t = some c → h'.m t = some c) (e : okC P tok hb g o st h v nb) : okC P tok hb g o st' h' v nb := by
  have al : ∀ {op : AOp}, (∀ x ∈ op.xs, x.val (stS g st) = x.val (stS g st')) → ((g = true ∧ ∃ v0 cs, op.al (AX.val (stS g st)) tok = some (v0, cs) ∧ v = .gd g v0 ∧ nb = some (tok, .cells true cs)) ∨ (g = false ∧ v = .gd g .un ∧ nb = none)) →
      ((g = true ∧ ∃ v0 cs, op.al (AX.val (stS g st')) tok = some (v0, cs) ∧ v = .gd g v0 ∧ nb = some (tok, .cells true cs)) ∨ (g = false ∧ v = .gd g .un ∧ nb = none)) := by
    rintro op hx (⟨hg, v0, cs, hq, r⟩ | r)
    · exact .inl ⟨hg, v0, cs, by rw [← al_congr hx]; exact hq, r⟩
    · exact .inr r
  cases hop : o <;> simp only [hop] at e hx hl <;> simp only [okC, AOp.isVal, if_true, if_false, Bool.false_eq_true] at e ⊢
  case call f args =>
    obtain ⟨rfl, v0, fid, fst, caps, rfl, hf, hc⟩ := e
    refine ⟨rfl, v0, fid, fst, caps, rfl, by rw [← hx f (by simp [AOp.xs])]; exact hf, ?_⟩
    rw [← List.map_congr_left (f := AX.val (stS g st)) (g := AX.val (stS g st')) fun y hy => hx y (by simp [AOp.xs, hy])]
    exact hc
  case box => exact al hx e
  case alloc => exact al hx e
  case bsl => exact al hx e
  case mks => exact al hx e
  all_goals
    obtain ⟨rfl, v0, rfl, hq⟩ := e
    first
      | exact ⟨rfl, v0, rfl, fun hg => ev_congr hx (hl rfl hg) (hq hg)⟩
      | exact ⟨rfl, v0, rfl, fun hg => ev_congr (h := h') hx (fun _ _ _ _ _ hc => hc) ((ev_free rfl _ _ _).trans (hq hg))⟩
theorem okG_move {tok : Nat} {hb : AH} {o : AOper} {st st' : St} {h h' : AH} {v : AV} {nb : NB} (hs : ∀ x ∈ o.reads, st.get x = st'.get x)
    (hl : o.op.free = false → ∀ x t, x ∈ o.op.xs → (x.val (stS true st)).tok = some t → ∀ c, h.m t = some c → h'.m t = some c) (e : okG P tok hb o st h v nb) : okG P tok hb o st' h' v nb := by
  have hx : ∀ x ∈ o.op.xs, x.val st = x.val st' := by
    intro x hx
    cases x with
    | t n => exact hs n (by unfold AOper.reads; exact List.mem_append_left _ (List.mem_filterMap.2 ⟨.t n, hx, rfl⟩))
    | c v => rfl
  have hxS : ∀ g, ∀ x ∈ o.op.xs, x.val (stS g st) = x.val (stS g st') := by
    intro g x hx'
    cases x with
    | t n => simp only [AX.val, stS_get]; rw [show st.get n = st'.get n from hx _ hx']
    | c v => rfl
  unfold okG at e ⊢
  cases hg : o.g with
  | none =>
    simp only [hg] at e ⊢
    refine okA_move hx (fun hf x t hx' hp => hl hf x t hx' ?_) e
    cases x with
    | t n =>
      simp only [AX.val] at hp ⊢
      rw [stS_get]
      generalize st.get n = v at hp ⊢
      cases v <;> simp only [AV.tok, reduceCtorEq] at hp ⊢ <;> exact hp
    | c v => exact hp
  | some sw =>
    obtain ⟨s, want⟩ := sw
    simp only [hg] at e ⊢
    have : st.get s = st'.get s := hs s (by unfold AOper.reads; simp [hg])
    rw [← this]
    cases hq : guardOf (st.get s) want with
    | none => simp only [hq] at e
    | some g =>
      simp only [hq] at e ⊢
      exact okC_move (hxS g) (fun hf hg' x t hx' hp => hl hf x t hx' (by subst hg'; exact hp)) e
theorem wrt_ne {cs : List AV} {o : Nat} {x : AV} {n : Option Nat} {cs' : List AV} (hn : n ≠ some 0) (e : wrt cs o x n = some cs') : cs' ≠ [] := by
  unfold wrt at e
  split at e
  · split at e
    · rename_i h; cases e; intro hh
      have := congrArg List.length hh
      simp at this; subst this; simp at h
    · cases e
  · rename_i n
    split at e
    · rename_i h; cases e; intro hh
      have := congrArg List.length hh
      simp at this
      have h3 := h.2.2.1
      rw [this.2.1] at h3
      exact hn (by simp at h3; rw [← h3])
    · cases e
theorem okG_nb {tok : Nat} {hb : AH} {o : AOper} {st : St} {h : AH} {v : AV} {t : Nat} {c : Blk} (e : okG P tok hb o st h v (some (t, c))) : (t = tok ∧ o.op.late = false) ∨ (o.op.late = true ∧ (∃ c0, h.m t = some c0) ∧ (o.op.lateOk = true → goodB c) ∧ ∃ x, o.op.xs.head? = some x ∧ (x.val (stS true st)).tok = some t) := by
  have mv : ∀ {x : AX} {t : Nat}, (x.val st).tok = some t → (x.val (stS true st)).tok = some t := by
    intro x t hp
    cases x with
    | t n =>
      simp only [AX.val] at hp ⊢
      rw [stS_get]
      generalize st.get n = v at hp ⊢
      cases v <;> simp only [AV.tok, reduceCtorEq] at hp ⊢ <;> exact hp
    | c v => exact hp
  unfold okG at e
  cases hg : o.g with
  | none =>
    simp only [hg] at e
    cases hop : o.op <;> simp only [hop, okA, AOp.isAl, if_true, if_false, Bool.false_eq_true, reduceCtorEq, false_and, Option.some.injEq, Prod.mk.injEq] at e
    case sto n x w =>
      obtain ⟨rfl, p, rfl, hq⟩ := e
      refine .inr ⟨rfl, ?_⟩
      unfold AH.stoE at hq
      split at hq
      · rename_i t' o' hx
        split at hq
        · rename_i cs hm
          simp only [Option.map_eq_some_iff, Prod.mk.injEq] at hq
          obtain ⟨cs', hw, rfl, rfl⟩ := hq
          exact ⟨⟨_, hm⟩, fun hlo => wrt_ne (by simpa [AOp.lateOk] using hlo) hw, x, rfl, mv (by rw [hx]; rfl)⟩
        · cases hq
      · cases hq
    case mup kk x k w =>
      obtain ⟨rfl, p, rfl, hq⟩ := e
      refine .inr ⟨rfl, ?_⟩
      unfold AH.mupE at hq
      split at hq
      · rename_i t' hx
        split at hq
        · rename_i es hm
          split at hq
          · simp only [Option.map_eq_some_iff, Prod.mk.injEq] at hq
            obtain ⟨cs', hw, rfl, rfl⟩ := hq
            exact ⟨⟨_, hm⟩, fun _ => trivial, x, rfl, mv (by rw [hx]; rfl)⟩
          · cases hq
        · cases hq
      · cases hq
    case call f args =>
      obtain ⟨ts, fid, fst, caps, n0, hn, _⟩ := e
      cases n0 with
      | none => cases hn
      | some cs => simp only [nbE, Option.map_some, Option.some.injEq, Prod.mk.injEq] at hn; exact .inl ⟨hn.1, rfl⟩
    all_goals (obtain ⟨cs, ⟨rfl, _⟩, _⟩ := e; exact .inl ⟨rfl, rfl⟩)
  | some sw =>
    obtain ⟨s, want⟩ := sw
    simp only [hg] at e
    cases hq : guardOf (st.get s) want with
    | none => simp only [hq] at e
    | some g =>
      simp only [hq] at e
      cases hop : o.op <;> simp only [hop, okC, AOp.isVal, if_true, if_false, Bool.false_eq_true, reduceCtorEq, false_and, and_false, or_false, Option.some.injEq, Prod.mk.injEq] at e
      all_goals (obtain ⟨_, v0, cs, _, _, rfl, _⟩ := e; exact .inl ⟨rfl, rfl⟩)
end
end Go.Am
set_option linter.unusedVariables false
set_option linter.unusedSimpArgs false
namespace Go.Am
def stD (aops : List AOper) (ρ : Nat → AV) (st0 : St) (D : Nat → Bool) : Nat → St
  | 0 => st0
  | k + 1 => if D k then put ((aops[k]?).bind (·.d)) (ρ k) (stD aops ρ st0 D k) else stD aops ρ st0 D k
def hD (β : Nat → NB) (hb : AH) (D : Nat → Bool) : Nat → AH
  | 0 => hb
  | k + 1 => if D k then setE (hD β hb D k) (β k) else hD β hb D k
def full : Nat → Bool := fun _ => true
theorem put_get (d : Option Nat) (v : AV) (st : St) (x : Nat) : (put d v st).get x = if d = some x then v else st.get x := by
  cases d with
  | none => simp [put]
  | some d =>
    simp only [put, St.get, Option.some.injEq]
    by_cases h : x = d
    · subst h; simp
    · rw [if_neg h, if_neg (fun e => h e.symm)]
section
variable {aops : List AOper} {ρ ρ' : Nat → AV} {β β' : Nat → NB} {st0 : St} {hb : AH} {base : Nat} {D D' : Nat → Bool}
theorem stD_congr : ∀ {k : Nat}, (∀ j, j < k → ρ j = ρ' j ∧ D j = D' j) → stD aops ρ st0 D k = stD aops ρ' st0 D' k
  | 0, _ => rfl
  | k + 1, h => by
    obtain ⟨h1, h2⟩ := h k (Nat.lt_succ_self _)
    simp only [stD, stD_congr (k := k) fun j hj => h j (by omega), h1, h2]
theorem hD_congr : ∀ {k : Nat}, (∀ j, j < k → β j = β' j ∧ D j = D' j) → hD β hb D k = hD β' hb D' k
  | 0, _ => rfl
  | k + 1, h => by
    obtain ⟨h1, h2⟩ := h k (Nat.lt_succ_self _)
    simp only [hD, hD_congr (k := k) fun j hj => h j (by omega), h1, h2]
theorem setE_nx (h : AH) (b : NB) : (setE h b).nx = h.nx := by cases b <;> rfl
theorem setE_m (h : AH) (b : NB) (t : Nat) : (setE h b).m t = match b with | some (t', c) => if t = t' then some c else h.m t | none => h.m t := by
  rcases b with _ | ⟨t', c⟩ <;> rfl
theorem setE_ne (h : AH) {b : NB} {t : Nat} (hn : ∀ c, b ≠ some (t, c)) : (setE h b).m t = h.m t := by
  rcases b with _ | ⟨t', c⟩
  · rfl
  · simp only [setE, AH.set]
    rw [if_neg (fun e => hn c (by rw [e]))]
theorem setE_same (h : AH) (t : Nat) (c : Blk) : (setE h (some (t, c))).m t = some c := by simp [setE, AH.set]
theorem hD_nx : ∀ (k : Nat), (hD β hb D k).nx = hb.nx
  | 0 => rfl
  | k + 1 => by simp only [hD]; split <;> simp [setE_nx, hD_nx k]
/-- What the quiet operations of a region yield, one behind the other. -/
theorem head_ok {P : Program} {m : Nat} (hm : m ≤ aops.length) {K : St → AH → Prop} : ∀ (k i : Nat), i + k = m → ∀ (ρ0 : Nat → AV) (β0 : Nat → NB),
    evHead P base hb ((aops.drop i).take k) i (stD aops ρ0 st0 full i) (hD β0 hb full i) K →
    ∃ ρ β, (∀ j, j < i → ρ j = ρ0 j ∧ β j = β0 j) ∧ (∀ j ao, i ≤ j → j < m → aops[j]? = some ao → okG P (base + j) hb ao (stD aops ρ st0 full j) (hD β hb full j) (ρ j) (β j)) ∧
      K (stD aops ρ st0 full m) (hD β hb full m)
  | 0, i, hi, ρ0, β0, e => by
    simp only [List.take_zero, evHead] at e
    have : i = m := by omega
    subst this
    exact ⟨ρ0, β0, fun _ _ => ⟨rfl, rfl⟩, fun j ao h1 h2 => by omega, e⟩
  | k + 1, i, hi, ρ0, β0, e => by
    have hlt : i < aops.length := by omega
    rw [List.drop_eq_getElem_cons hlt, List.take_succ_cons] at e
    simp only [evHead] at e
    obtain ⟨v, nb, hok, hK⟩ := okG_of e
    let ρ1 : Nat → AV := fun j => if j = i then v else ρ0 j
    let β1 : Nat → NB := fun j => if j = i then nb else β0 j
    have hlow : ∀ j, j < i → ρ1 j = ρ0 j ∧ β1 j = β0 j := fun j hj => by
      have : j ≠ i := by omega
      simp [ρ1, β1, this]
    have e1 : stD aops ρ1 st0 full (i + 1) = put aops[i].d v (stD aops ρ0 st0 full i) := by
      simp only [stD, full, if_true, List.getElem?_eq_getElem hlt, Option.bind_some]
      rw [stD_congr (ρ := ρ1) (ρ' := ρ0) (D := full) (D' := full) fun j hj => ⟨(hlow j hj).1, rfl⟩]
      simp [ρ1]
    have e2 : hD β1 hb full (i + 1) = setE (hD β0 hb full i) nb := by
      simp only [hD, full, if_true]
      rw [hD_congr (β := β1) (β' := β0) (D := full) (D' := full) fun j hj => ⟨(hlow j hj).2, rfl⟩]
      simp [β1]
    obtain ⟨ρ, β, h1, h2, h3⟩ := head_ok hm k (i + 1) (by omega) ρ1 β1 (by rw [e1, e2]; exact hK)
    refine ⟨ρ, β, fun j hj => ?_, fun j ao hij hjm hao => ?_, h3⟩
    · obtain ⟨q1, q2⟩ := h1 j (by omega)
      exact ⟨q1.trans (hlow j hj).1, q2.trans (hlow j hj).2⟩
    · by_cases hji : j = i
      · subst hji
        obtain ⟨q1, q2⟩ := h1 j (by omega)
        have hao' : aops[j] = ao := by rw [List.getElem?_eq_getElem hlt] at hao; simpa using hao
        rw [← hao', q1, q2]
        rw [stD_congr (ρ := ρ) (ρ' := ρ0) (D' := full) fun l hl => ⟨(h1 l (by omega)).1.trans (hlow l hl).1, rfl⟩,
          hD_congr (β := β) (β' := β0) (D' := full) fun l hl => ⟨(h1 l (by omega)).2.trans (hlow l hl).2, rfl⟩]
        simpa [ρ1, β1] using hok
      · exact h2 j ao (by omega) hjm hao
end
/-! ### What is asked of a region's operations, and how it is looked up -/
def AOper.clash (x y : AOper) : Bool :=
  (match x.d with | some d => y.reads.contains d || y.d == some d | none => false) || (match y.d with | some d => x.reads.contains d | none => false)
def AX.noPtr : AX → Bool
  | .c (.p _ _) => false
  | .c (.sl _ _ n _) => n == 0
  | .c (.mp _) => false
  | _ => true
structure HeadOK (ops : Array Oper) (aops : List AOper) (dep : Nat → Nat → Prop) (m : Nat) : Prop where
  c1 : ∀ (j : Nat) (o : Oper) (e : Edge), ops[j]? = some o → e ∈ o.after → Region.binds .any e = true → e.on < j
  c2 : ∀ (j : Nat) (o : Oper) (i : Nat), ops[j]? = some o → dep i j → ∃ e ∈ o.after, Region.binds .any e = true ∧ (e.on = i ∨ dep i e.on)
  c3 : ∀ (i j : Nat) (ai aj : AOper), i < j → aops[i]? = some ai → aops[j]? = some aj → ai.clash aj = true → dep i j
  c4 : ∀ i j, m ≤ j → j < ops.size → i < j → dep i j
  c5 : ∀ (i : Nat) (ai : AOper), aops[i]? = some ai → ∀ x ∈ ai.op.xs, x.noPtr = true
  c6 : ∀ (i k : Nat) (ai ak : AOper), i < m → k < m → aops[i]? = some ai → aops[k]? = some ak → ai.op.late = true → ak.op.late = true → i = k
  c7 : ∀ (i j : Nat) (ai aj : AOper), i < m → j < m → aops[i]? = some ai → aops[j]? = some aj → ai.op.late = true → ai.op.lateOk = true ∧ aj.op.cal = false
  c8 : ∀ (k i j : Nat) (ak ai aj : AOper), k < m → i ≤ j → j < m → aops[k]? = some ak → ak.op.late = true → aops[i]? = some ai → aops[j]? = some aj → ai.op.free = false → ∀ x, x ∈ ai.reads → aj.d ≠ some x
/-- apart: no one block -/
def tokNe (a b : AV) : Prop := a.tok = none ∨ b.tok = none ∨ a.tok ≠ b.tok
/-- what other operations read is not what the store y writes -/
def sepG (st : St) (y : AX) : List AOper → Prop
  | [] => True
  | a :: r => (a.op.free = false → a.op.late = false → ∀ x ∈ a.op.xs, tokNe (y.val (stS true st)) (x.val (stS true st))) ∧ sepG st y r
def sepP (ops : List AOper) (st : St) : Prop := ∀ ak ∈ ops, ak.op.late = true → ∀ y, ak.op.xs.head? = some y → sepG st y ops
theorem sepG_at {st : St} {y : AX} {a : AOper} : ∀ {l : List AOper}, sepG st y l → a ∈ l → a.op.free = false → a.op.late = false → ∀ x ∈ a.op.xs, tokNe (y.val (stS true st)) (x.val (stS true st))
  | [], _, h, _, _, _, _ => by cases h
  | b :: r, hs, h, h1, h2, x, hx => by
    rcases List.mem_cons.1 h with rfl | h
    · exact hs.1 h1 h2 x hx
    · exact sepG_at hs.2 h h1 h2 x hx
section
variable {ops : Array Oper} {aops : List AOper} {dep : Nat → Nat → Prop} {m : Nat} {D : Nat → Bool}
def Closed (ops : Array Oper) (D : Nat → Bool) : Prop := ∀ (j : Nat) (o : Oper) (e : Edge), D j = true → ops[j]? = some o → e ∈ o.after → Region.binds .any e = true → D e.on = true
theorem closed_dep (H : HeadOK ops aops dep m) (hc : Closed ops D) (hin : ∀ j, D j = true → j < ops.size) : ∀ (j i : Nat), D j = true → dep i j → D i = true := by
  intro j
  induction j using Nat.strongRecOn with
  | _ j ih =>
    intro i hj hd
    have hlt := hin j hj
    have ho : ops[j]? = some ops[j] := by simp [hlt]
    obtain ⟨e, he, hb, hor⟩ := H.c2 j _ i ho hd
    have hde := hc j _ e hj ho he hb
    rcases hor with rfl | hor
    · exact hde
    · exact ih e.on (H.c1 j _ e ho he hb) i hde hor
theorem clash_iff {x y : AOper} {d : Nat} : (x.d = some d ∧ (d ∈ y.reads ∨ y.d = some d)) ∨ (y.d = some d ∧ d ∈ x.reads) → x.clash y = true := by
  unfold AOper.clash
  rintro (⟨h1, h2⟩ | ⟨h1, h2⟩)
  · simp only [h1]
    rcases h2 with h2 | h2
    · simp [h2]
    · simp [h2]
  · simp [h1, h2]
variable {ρ : Nat → AV} {β : Nat → NB} {st0 : St} {hb : AH} {base : Nat}
/-- The slots that an operation looks at hold what they hold in the text's order. -/
theorem slots_same (H : HeadOK ops aops dep m) (hlen : aops.length = ops.size) (hc : Closed ops D) (hin : ∀ j, D j = true → j < ops.size) {i : Nat} {ai : AOper} (hai : aops[i]? = some ai) (him : i < m) (hni : D i = false)
    (hdeps : ∀ k, dep k i → D k = true) {x : Nat} (hx : x ∈ ai.reads) : (stD aops ρ st0 D m).get x = (stD aops ρ st0 full i).get x := by
  have low : ∀ k, k ≤ i → (stD aops ρ st0 D k).get x = (stD aops ρ st0 full k).get x := by
    intro k
    induction k with
    | zero => intro _; rfl
    | succ k ih =>
      intro hk
      simp only [stD, full, if_true]
      by_cases hd : D k = true
      · rw [if_pos hd, put_get, put_get, ih (by omega)]
      · have hnk : ¬ ((aops[k]?.bind fun x => x.d) = some x) := by
          intro hdk
          cases hak : aops[k]? with
          | none => rw [hak] at hdk; cases hdk
          | some ak =>
            rw [hak] at hdk
            exact hd (hdeps k (H.c3 k i ak ai (by omega) hak hai (clash_iff (.inl ⟨hdk, .inl hx⟩))))
        rw [if_neg hd, put_get, if_neg hnk]
        exact ih (by omega)
  have high : ∀ k, i ≤ k → (stD aops ρ st0 D k).get x = (stD aops ρ st0 D i).get x := by
    intro k hk
    induction k with
    | zero => have : i = 0 := by omega
              subst this; rfl
    | succ k ih =>
      by_cases hik : i = k + 1
      · subst hik; rfl
      · simp only [stD]
        by_cases hd : D k = true
        · rw [if_pos hd, put_get, if_neg ?_, ih (by omega)]
          intro hdk
          have hne : k ≠ i := fun e => by subst e; rw [hni] at hd; cases hd
          cases hak : aops[k]? with
          | none => rw [hak] at hdk; cases hdk
          | some ak =>
            rw [hak] at hdk
            have := closed_dep H hc hin k i hd (H.c3 i k ai ak (by omega) hai hak (clash_iff (.inr ⟨hdk, hx⟩)))
            rw [hni] at this; cases this
        · rw [if_neg hd]; exact ih (by omega)
  rw [high m (by omega), low i (Nat.le_refl _)]
/-- One operation more. -/
theorem stD_insert (H : HeadOK ops aops dep m) (hc : Closed ops D) (hin : ∀ j, D j = true → j < ops.size) {i : Nat} {ai : AOper} (hai : aops[i]? = some ai) (him : i < m) (hni : D i = false) (x : Nat) :
    (stD aops ρ st0 (fun j => D j || j == i) m).get x = (put ai.d (ρ i) (stD aops ρ st0 D m)).get x := by
  have key : ∀ k, i < k → (stD aops ρ st0 (fun j => D j || j == i) k).get x = (put ai.d (ρ i) (stD aops ρ st0 D k)).get x := by
    intro k hk
    induction k with
    | zero => omega
    | succ k ih =>
      by_cases hik : k = i
      · subst hik
        simp only [stD, hni, Bool.false_or, beq_self_eq_true, if_true, hai, Option.bind_some, Bool.false_eq_true, if_false]
        have hlow : stD aops ρ st0 (fun j => D j || j == k) k = stD aops ρ st0 D k := stD_congr fun j hj => by
          have : (j == k) = false := by simp; omega
          exact ⟨rfl, by simp [this]⟩
        rw [hlow]
      · have hb' : (k == i) = false := by simpa using hik
        simp only [stD, hb', Bool.or_false]
        by_cases hd : D k = true
        · rw [if_pos hd, if_pos hd, put_get, ih (by omega), put_get, put_get, put_get]
          by_cases h1 : (aops[k]?.bind fun x => x.d) = some x
          · rw [if_pos h1, if_pos h1]
            split
            · rename_i h2
              cases hak : aops[k]? with
              | none => rw [hak] at h1; cases h1
              | some ak =>
                rw [hak] at h1
                have := closed_dep H hc hin k i hd (H.c3 i k ai ak (by omega) hai hak (clash_iff (.inl ⟨h2, .inr h1⟩)))
                rw [hni] at this; cases this
            · rfl
          · rw [if_neg h1, if_neg h1]
        · rw [if_neg hd, if_neg hd]; exact ih (by omega)
  exact key m him
/-- what is known of the blocks that a region's head makes or writes -/
structure NbOK (aops : List AOper) (hb : AH) (base m : Nat) (ρ : Nat → AV) (st0 : St) (β : Nat → NB) : Prop where
  nb : ∀ j, j < m → ∀ t c, β j = some (t, c) → ∃ ao, aops[j]? = some ao ∧ ((t = base + j ∧ ao.op.late = false) ∨ (ao.op.late = true ∧ (∃ c0, (hD β hb full j).m t = some c0) ∧ (ao.op.lateOk = true → goodB c) ∧ ∃ y, ao.op.xs.head? = some y ∧ (y.val (stS true (stD aops ρ st0 full j))).tok = some t))
  sep : ∀ (i k : Nat) (ai ak : AOper), i < m → k < m → aops[i]? = some ai → aops[k]? = some ak → ai.op.free = false → ai.op.late = false → ak.op.late = true → ∀ y, ak.op.xs.head? = some y → ∀ x ∈ ai.op.xs, ∀ t, (y.val (stS true (stD aops ρ st0 full k))).tok = some t → (x.val (stS true (stD aops ρ st0 full i))).tok = some t → False
  none' : ∀ t, base ≤ t → hb.m t = none
variable (B : NbOK aops hb base m ρ st0 β)
include B
theorem full_lt : ∀ (i : Nat), i ≤ m → ∀ t c, (hD β hb full i).m t = some c → t < base + i
  | 0, _, t, c, h => by
    rcases Nat.lt_or_ge t base with q | q
    · omega
    · rw [show hD β hb full 0 = hb from rfl, B.none' t q] at h; cases h
  | i + 1, hi, t, c, h => by
    simp only [hD, full, if_true] at h
    by_cases hn : ∀ c, β i ≠ some (t, c)
    · rw [setE_ne _ hn] at h
      have := full_lt i (by omega) t c h; omega
    · obtain ⟨c1, h1⟩ := Classical.not_forall.1 hn
      obtain ⟨ao, _, h2⟩ := B.nb i (by omega) t c1 (Classical.not_not.1 h1)
      rcases h2 with ⟨h2, _⟩ | ⟨_, ⟨c0, h2⟩, _⟩
      · omega
      · have := full_lt i (by omega) t c0 h2; omega
omit B in
theorem hD_none {D : Nat → Bool} {t : Nat} : ∀ (k : Nat), (∀ j c, j < k → D j = true → β j ≠ some (t, c)) → (hD β hb D k).m t = hb.m t
  | 0, _ => rfl
  | k + 1, h => by
    simp only [hD]
    split
    · rename_i hd
      rw [setE_ne _ fun c => h k c (by omega) hd]
      exact hD_none k fun j c hj => h j c (by omega)
    · exact hD_none k fun j c hj => h j c (by omega)
theorem hD_le (hnl : ∀ j ao, j < m → aops[j]? = some ao → ao.op.late = false) : hb.le (hD β hb D m) :=
  by
  refine ⟨fun t c ht => ?_, by rw [hD_nx]; exact Nat.le_refl _⟩
  rw [hD_none m fun j c hj hd hb' => ?_]
  · exact ht
  · obtain ⟨ao, hao, h2⟩ := B.nb j hj t c hb'
    rcases h2 with ⟨h2, _⟩ | ⟨h2, _⟩
    · rw [B.none' t (by omega)] at ht; cases ht
    · rw [hnl j ao hj hao] at h2; cases h2
/-- a block that a late store set is one of the world's -/
theorem late_good (hgood : ∀ j ao, j < m → aops[j]? = some ao → ao.op.late = true → ao.op.lateOk = true) {j : Nat} {ao : AOper} {t : Nat} {c : Blk} (hj : j < m) (hao : aops[j]? = some ao) (hl : ao.op.late = true) (hbj : β j = some (t, c)) (hd : D j = true) :
    ∀ k, j < k → k ≤ m → ∃ c', (hD β hb D k).m t = some c' ∧ goodB c'
  | 0, h, _ => by omega
  | k + 1, hk, hm => by
    simp only [hD]
    have hjt : t < base + j := by
      obtain ⟨ao', hao', h2⟩ := B.nb j hj t c hbj
      rw [hao] at hao'; cases hao'
      rcases h2 with ⟨_, h2⟩ | ⟨_, ⟨c0, h2⟩, _⟩
      · rw [hl] at h2; cases h2
      · exact full_lt B j (by omega) t c0 h2
    have own : ∀ c1, β k = some (t, c1) → goodB c1 := by
      intro c1 h1
      obtain ⟨ao', hao', h2⟩ := B.nb k (by omega) t c1 h1
      rcases h2 with ⟨h2, _⟩ | ⟨h2, _, h3, _⟩
      · omega
      · exact h3 (hgood k ao' (by omega) hao' h2)
    by_cases hdk : D k = true
    · rw [if_pos hdk]
      by_cases hn : ∀ c, β k ≠ some (t, c)
      · rw [setE_ne _ hn]
        have : j ≠ k := fun e => by subst e; exact hn c hbj
        exact late_good hgood hj hao hl hbj hd k (by omega) (by omega)
      · obtain ⟨c1, h1⟩ := Classical.not_forall.1 hn
        have h1 := Classical.not_not.1 h1
        rw [h1, setE_same]
        exact ⟨c1, rfl, own c1 h1⟩
    · rw [if_neg hdk]
      have : j ≠ k := fun e => by subst e; exact hdk hd
      exact late_good hgood hj hao hl hbj hd k (by omega) (by omega)
/-- The block that an operation reads is the one of the text's order. -/
theorem read_same (H : HeadOK ops aops dep m) (hc : Closed ops D) (hin : ∀ j, D j = true → j < ops.size) {i : Nat} {ai : AOper} (hai : aops[i]? = some ai) (him : i < m) (hni : D i = false) (hfree : ai.op.free = false)
    (hdeps : ∀ k, dep k i → D k = true) {t : Nat} {x : AX} (hx : x ∈ ai.op.xs) (hxt : (x.val (stS true (stD aops ρ st0 full i))).tok = some t) (hnew : ∀ j, j < m → D j = false → t ≠ base + j) {c : Blk} (hr : (hD β hb full i).m t = some c) : (hD β hb D m).m t = some c := by
  have hti := full_lt B i (by omega) t c hr
  have late2 : ∀ k ao, k < m → k ≠ i → aops[k]? = some ao → ao.op.late = true → ∀ y, ao.op.xs.head? = some y → (y.val (stS true (stD aops ρ st0 full k))).tok = some t → False := by
    intro k ao hk hne hao hl y hy1 hy2
    have hnl : ai.op.late = false := by
      cases h : ai.op.late with
      | false => rfl
      | true => exact absurd (H.c6 i k ai ao him hk hai hao h hl).symm hne
    exact B.sep i k ai ao him hk hai hao hfree hnl hl y hy1 x hx t hy2 hxt
  have low : ∀ k, k ≤ i → (hD β hb D k).m t = (hD β hb full k).m t := by
    intro k
    induction k with
    | zero => intro _; rfl
    | succ k ih =>
      intro hk
      simp only [hD, full, if_true]
      by_cases hd : D k = true
      · rw [if_pos hd, setE_m, setE_m, ih (by omega)]
      · rw [if_neg hd, ih (by omega), setE_ne]
        intro c' hb'
        obtain ⟨ao, hao, h2⟩ := B.nb k (by omega) t c' hb'
        rcases h2 with ⟨h2, _⟩ | ⟨h2, _, _, y, hy1, hy2⟩
        · exact hnew k (by omega) (by simpa using hd) h2
        · exact late2 k ao (by omega) (by omega) hao h2 y hy1 hy2
  have high : ∀ k, i ≤ k → k ≤ m → (hD β hb D k).m t = (hD β hb D i).m t := by
    intro k hk
    induction k with
    | zero => intro _; have : i = 0 := by omega
              subst this; rfl
    | succ k ih =>
      intro hkm
      by_cases hik : i = k + 1
      · subst hik; rfl
      · simp only [hD]
        by_cases hd : D k = true
        · rw [if_pos hd, setE_ne, ih (by omega) (by omega)]
          intro c' hb'
          have hne : k ≠ i := fun e => by subst e; rw [hni] at hd; cases hd
          obtain ⟨ao, hao, h2⟩ := B.nb k (by omega) t c' hb'
          rcases h2 with ⟨h2, _⟩ | ⟨h2, _, _, y, hy1, hy2⟩
          · omega
          · exact late2 k ao (by omega) hne hao h2 y hy1 hy2
        · rw [if_neg hd]; exact ih (by omega) (by omega)
  rw [high m (by omega) (Nat.le_refl _), low i (Nat.le_refl _)]; exact hr
theorem hD_insert (H : HeadOK ops aops dep m) (hc : Closed ops D) (hin : ∀ j, D j = true → j < ops.size) {i : Nat} {ai : AOper} (hai : aops[i]? = some ai) (him : i < m) (hni : D i = false)
    (hreal : ∀ j ao t c, j < m → D j = true → aops[j]? = some ao → ao.op.late = true → β j = some (t, c) → t ≠ base + i) : hD β hb (fun j => D j || j == i) m = setE (hD β hb D m) (β i) := by
  have hx : ∀ (a b : AH), (∀ t, a.m t = b.m t) → a.nx = b.nx → a = b := by
    intro a b h1 h2
    cases a; cases b
    simp only [AH.mk.injEq]
    exact ⟨funext h1, h2⟩
  refine hx _ _ (fun t => ?_) (by rw [hD_nx, setE_nx, hD_nx])
  have hlow : hD β hb (fun j => D j || j == i) i = hD β hb D i := hD_congr fun j hj => by
    have : (j == i) = false := by simp; omega
    exact ⟨rfl, by simp [this]⟩
  have key : ∀ k, i < k → k ≤ m → (hD β hb (fun j => D j || j == i) k).m t = (setE (hD β hb D k) (β i)).m t := by
    intro k hk
    induction k with
    | zero => omega
    | succ k ih =>
      intro hkm
      by_cases hik : k = i
      · subst hik
        simp only [hD, hni, Bool.false_or, beq_self_eq_true, if_true, Bool.false_eq_true, if_false]
        rw [hlow]
      · have hb' : (k == i) = false := by simpa using hik
        simp only [hD, hb', Bool.or_false]
        by_cases hd : D k = true
        · rw [if_pos hd, if_pos hd]
          have ih := ih (by omega) (by omega)
          cases hbi : β i with
          | none => rw [hbi] at ih; rw [setE_m, ih]; simp only [setE]; rw [← setE_m]; rfl
          | some p =>
            obtain ⟨t', c'⟩ := p
            rw [hbi] at ih
            by_cases ht : t = t'
            · subst ht
              rw [setE_same] at ih ⊢
              rw [setE_ne, ih]
              intro c2 h2
              obtain ⟨ao, hao, q⟩ := B.nb k (by omega) t c2 h2
              obtain ⟨ai', hai', q'⟩ := B.nb i him t c' hbi
              rw [hai] at hai'; cases hai'
              rcases q' with ⟨q', hl'⟩ | ⟨q', ⟨c0, q2⟩, _⟩
              · rcases q with ⟨q, _⟩ | ⟨q, _⟩
                · omega
                · exact hreal k ao t c2 (by omega) hd hao q h2 q'
              · have := full_lt B i (by omega) t c0 q2
                rcases q with ⟨q, _⟩ | ⟨q, _⟩
                · omega
                · exact hik (H.c6 k i ao ai (by omega) him hao hai q q')
            · have e1 : ∀ h : AH, (setE h (some (t', c'))).m t = h.m t := fun h => setE_ne _ fun c e => by cases e; exact ht rfl
              rw [e1] at ih ⊢
              rw [setE_m, setE_m, ih]
        · rw [if_neg hd, if_neg hd]; exact ih (by omega) (by omega)
  exact key m him (Nat.le_refl _)
end
end Go.Am
set_option linter.unusedVariables false
set_option linter.unusedSimpArgs false
namespace Go.Am
def cnt (D : Nat → Bool) : Nat → Nat
  | 0 => 0
  | k + 1 => cnt D k + (if D k then 1 else 0)
theorem cnt_le (D : Nat → Bool) : ∀ k, cnt D k ≤ k
  | 0 => Nat.le_refl _
  | k + 1 => by have := cnt_le D k; simp only [cnt]; split <;> omega
theorem cnt_all {D : Nat → Bool} : ∀ {k : Nat}, cnt D k = k → ∀ j, j < k → D j = true
  | 0, _, j, hj => by omega
  | k + 1, h, j, hj => by
    have := cnt_le D k
    simp only [cnt] at h
    by_cases hd : D k = true
    · rw [if_pos hd] at h
      by_cases hjk : j = k
      · subst hjk; exact hd
      · exact cnt_all (k := k) (by omega) j (by omega)
    · rw [if_neg hd] at h; omega
theorem cnt_congr {D D' : Nat → Bool} : ∀ {k : Nat}, (∀ j, j < k → D j = D' j) → cnt D k = cnt D' k
  | 0, _ => rfl
  | k + 1, h => by simp only [cnt, cnt_congr (k := k) fun j hj => h j (by omega), h k (Nat.lt_succ_self _)]
theorem cnt_insert {D : Nat → Bool} {i : Nat} (hi : D i = false) : ∀ {k : Nat}, i < k → cnt (fun j => D j || j == i) k = cnt D k + 1
  | 0, h => by omega
  | k + 1, h => by
    simp only [cnt]
    by_cases hik : i = k
    · subst hik
      have : cnt (fun j => D j || j == i) i = cnt D i := cnt_congr fun j hj => by
        have : (j == i) = false := by simp; omega
        simp [this]
      rw [this]
      simp [hi]
    · have hb : (k == i) = false := by simp; omega
      rw [cnt_insert hi (by omega)]
      simp only [hb, Bool.or_false]
      omega
section
variable {P : Program} {N : Nat} {Q : Exit → St → AH → Prop} {st0 : St} {h0 hb : AH} {w0 : World} {ι0 : Inj} {base : Nat} {ops : Array Oper} {aops : List AOper} {dep : Nat → Nat → Prop} {m : Nat}
theorem opersOf_spec (hof : opersOf P N ops = some aops) : aops.length = ops.size ∧ ∀ (i : Nat) (o : Oper), ops[i]? = some o → ∃ ao, aops[i]? = some ao ∧ AOper.of P ops o = some ao ∧ ao.d = o.dst ∧ (∀ x, o.dst = some x → x < N) ∧ ∀ s b, ao.g = some (s, b) → s < N := by
  unfold opersOf at hof
  simp only [Option.bind_eq_bind, Option.bind_eq_some_iff] at hof
  obtain ⟨l, hl, hof⟩ := hof
  split at hof
  · rename_i hall
    simp only [Option.some.injEq] at hof
    subst hof
    refine ⟨by simpa using mapM_length hl, fun i o ho => ?_⟩
    have gen : ∀ (xs : List Oper) (ys : List AOper), xs.mapM (AOper.of P ops) = some ys → ∀ (i : Nat) (o : Oper), xs[i]? = some o → ∃ ao, ys[i]? = some ao ∧ AOper.of P ops o = some ao := by
      intro xs
      induction xs with
      | nil => intro ys h i o ho; simp at ho
      | cons x xs ih =>
        intro ys h i o ho
        simp only [List.mapM_cons, Option.pure_def, Option.bind_eq_bind, Option.bind_eq_some_iff, Option.some.injEq] at h
        obtain ⟨y, hy, zs, hzs, rfl⟩ := h
        cases i with
        | zero => simp at ho; subst ho; exact ⟨y, rfl, hy⟩
        | succ i => simpa using ih zs hzs i o (by simpa using ho)
    obtain ⟨ao, hao, hof⟩ := gen _ _ hl i o (by simpa using ho)
    have hfit := List.all_eq_true.1 hall ao (List.mem_of_getElem? hao)
    unfold AOper.fits at hfit
    have hd : ao.d = o.dst := by
      unfold AOper.of at hof
      simp only [Option.bind_eq_bind, Option.bind_eq_some_iff] at hof
      obtain ⟨op, _, hof⟩ := hof
      split at hof
      · cases hof; rfl
      · split at hof
        · cases hof; rfl
        · cases hof
    refine ⟨ao, hao, hof, hd, fun x hx => ?_, fun s b hs => ?_⟩
    · rw [← hd] at hx; rw [hx] at hfit; simp at hfit; exact hfit.1
    · rw [hs] at hfit; simp at hfit; exact hfit.2
  · cases hof
def lst (listed : Array Bool) : Nat → Bool := fun j => listed.getD j false
theorem lst_set {listed : Array Bool} {i : Nat} (hi : i < listed.size) : lst (listed.setIfInBounds i true) = fun j => lst listed j || j == i := by
  funext j
  unfold lst
  simp only [Array.getD_eq_getD_getElem?]
  by_cases h : j = i
  · subst h; simp [Array.getElem?_setIfInBounds_self_of_lt hi]
  · rw [Array.getElem?_setIfInBounds_ne (by omega)]
    have : (j == i) = false := by simpa using h
    simp [this]
theorem ready_spec {listed : Array Bool} (hs : listed.size = ops.size) {i : Nat} (hi : i ∈ Region.ready .any ops listed) : i < ops.size ∧ lst listed i = false ∧ ∀ o e, ops[i]? = some o → e ∈ o.after → Region.binds .any e = true → lst listed e.on = true := by
  obtain ⟨h1, o, ho, h2⟩ := mem_ready.1 hi
  have hlt : i < ops.size := (Array.getElem?_eq_some_iff.1 ho).1
  refine ⟨hlt, ?_, fun o' e ho' he hb => ?_⟩
  · unfold lst
    have hlt' : i < listed.size := by omega
    rw [Array.getD_eq_getD_getElem?, Array.getElem?_eq_getElem hlt'] at h1 ⊢
    simpa using h1
  · rw [ho] at ho'; cases ho'; exact h2 e he hb
theorem ready_of {listed : Array Bool} (hs : listed.size = ops.size) {i : Nat} (hi : i < ops.size) (hn : lst listed i = false) (hd : ∀ o e, ops[i]? = some o → e ∈ o.after → Region.binds .any e = true → lst listed e.on = true) : i ∈ Region.ready .any ops listed := by
  refine mem_ready.2 ⟨?_, ops[i], by simp [hi], fun e he hb => hd _ e (by simp [hi]) he hb⟩
  unfold lst at hn
  have hlt' : i < listed.size := by omega
  rw [Array.getD_eq_getD_getElem?, Array.getElem?_eq_getElem hlt'] at hn ⊢
  simpa using hn
/-- Nothing is ready: everything is done. -/
theorem ready_nil (H : HeadOK ops aops dep m) {listed : Array Bool} (hs : listed.size = ops.size) (hr : Region.ready .any ops listed = []) : ∀ j, j < ops.size → lst listed j = true := by
  intro j
  induction j using Nat.strongRecOn with
  | _ j ih =>
    intro hj
    cases hq : lst listed j with
    | true => rfl
    | false =>
      have : j ∈ Region.ready .any ops listed := ready_of hs hj hq fun o e ho he hb => ih e.on (H.c1 j o e ho he hb) (by have := H.c1 j o e ho he hb; omega)
      rw [hr] at this; cases this
theorem lst_lt {listed : Array Bool} (hs : listed.size = ops.size) {j : Nat} (h : lst listed j = true) : j < ops.size := by
  unfold lst at h
  rw [Array.getD_eq_getD_getElem?] at h
  by_cases hj : j < listed.size
  · omega
  · rw [Array.getElem?_eq_none (by omega)] at h; simp at h
variable {QQ : Exit → Act → World → Prop} {K : St → AH → Prop}
theorem tail_wpAny (H : HeadOK ops aops dep m) (hof : opersOf P N ops = some aops)
    (hK : ∀ st h ι a w, K st h → ARel N ι st a → WRel ι h w → Ext ι0 h0 w0 ι h w → QQ .normal a w) :
    ∀ (fuel : Nat) (listed : Array Bool) (a : Act) (w : World) (i : Nat) (st : St) (h : AH) (ι : Inj), i + fuel = ops.size → m ≤ i → listed.size = ops.size → (∀ j, lst listed j = true ↔ j < i) →
      Inv N ι0 h0 w0 base ops.size (fun j => i ≤ j) st h a w ι → evOps P base (aops.drop i) i st h K → wpAny P .any ops QQ fuel listed a w := by
  obtain ⟨hlen, hget⟩ := opersOf_spec hof
  intro fuel
  induction fuel with
  | zero =>
    intro listed a w i st h ι hi hm hs hl I e
    have hnil : Region.ready .any ops listed = [] := by
      cases hr : Region.ready .any ops listed with
      | nil => rfl
      | cons x xs =>
        obtain ⟨h1, h2, _⟩ := ready_spec hs (i := x) (by rw [hr]; simp)
        have := (hl x).2 (by omega)
        rw [h2] at this; cases this
    rw [List.drop_eq_nil_of_le (by omega)] at e
    exact ⟨hnil, hK st h ι a w e I.ar I.wr I.ex⟩
  | succ fuel ih =>
    intro listed a w i st h ι hi hm hs hl I e
    refine ⟨fun hr => ?_, fun j hj => ?_⟩
    · have := (hl i).1 (ready_nil H hs hr i (by omega)); omega
    · obtain ⟨h1, h2, h3⟩ := ready_spec hs hj
      have hij : i ≤ j := by
        rcases Nat.lt_or_ge j i with hq | hq
        · rw [(hl j).2 hq] at h2; cases h2
        · exact hq
      have hji : j = i := by
        rcases Nat.eq_or_lt_of_le hij with hq | hq
        · exact hq.symm
        · exfalso
          have hdep := H.c4 i j (by omega) h1 hq
          obtain ⟨e', he', hb', hor⟩ := H.c2 j ops[j] i (by simp [h1]) hdep
          have hle := h3 _ e' (by simp [h1]) he' hb'
          have hc : Closed ops (lst listed) := fun a b c hd hb hc he => (hl _).2 (by
            have q1 := (hl a).1 hd
            have q2 := H.c1 a b c hb hc he
            omega)
          rcases hor with hor | hor
          · rw [hor] at hle; have := (hl i).1 hle; omega
          · have := closed_dep H hc (fun j hj => lst_lt hs hj) _ _ hle hor
            have := (hl i).1 this; omega
      subst hji
      obtain ⟨ao, hao, hofo, hd, hdN, hgN⟩ := hget j ops[j] (by simp [h1])
      have hil : j < aops.length := by omega
      rw [List.drop_eq_getElem_cons hil] at e
      have : aops[j] = ao := by rw [List.getElem?_eq_getElem hil] at hao; simpa using hao
      rw [this] at e
      simp only [evOps] at e
      refine wpOp_mono ?_ (evG_wpOp (o := ops[j]) (by simp [h1]) hofo hdN hgN h1 (Nat.le_refl j) I e)
      rintro a' w' ⟨st', h', ι', k, I'⟩
      refine ih _ a' w' (j + 1) st' h' ι' (by omega) (by omega) (by simpa using hs) (fun l => ?_) ⟨I'.ar, I'.wr, I'.ex, fun l hl' hf => I'.fr l hl' ⟨by omega, by omega⟩, I'.nx, I'.b0, I'.b1⟩ k
      rw [lst_set (by omega)]
      simp only [Bool.or_eq_true, beq_iff_eq, hl l]
      omega
theorem head_wpAny (H : HeadOK ops aops dep m) (hof : opersOf P N ops = some aops) (hmn : m ≤ ops.size)
    (hK : ∀ st h ι a w, K st h → ARel N ι st a → WRel ι h w → Ext ι0 h0 w0 ι h w → QQ .normal a w) {ρ : Nat → AV} {β : Nat → NB} (hnone : ∀ t, base ≤ t → hb.m t = none)
    (hok : ∀ j ao, j < m → aops[j]? = some ao → okG P (base + j) hb ao (stD aops ρ st0 full j) (hD β hb full j) (ρ j) (β j))
    (hsep : ∀ (i k : Nat) (ai ak : AOper), i < m → k < m → aops[i]? = some ai → aops[k]? = some ak → ai.op.free = false → ai.op.late = false → ak.op.late = true → ∀ y, ak.op.xs.head? = some y → ∀ x ∈ ai.op.xs, ∀ t, (y.val (stS true (stD aops ρ st0 full k))).tok = some t → (x.val (stS true (stD aops ρ st0 full i))).tok = some t → False)
    (htail : evOps P base (aops.drop m) m (stD aops ρ st0 full m) (hD β hb full m) K) :
    ∀ (fuel : Nat) (listed : Array Bool) (a : Act) (w : World) (ι : Inj), cnt (lst listed) ops.size + fuel = ops.size → listed.size = ops.size → Closed ops (lst listed) → (∀ j, lst listed j = true → j < m) →
      Inv N ι0 h0 w0 base ops.size (fun j => lst listed j = false) (stD aops ρ st0 (lst listed) m) (hD β hb (lst listed) m) a w ι → wpAny P .any ops QQ fuel listed a w := by
  obtain ⟨hlen, hget⟩ := opersOf_spec hof
  have B : NbOK aops hb base m ρ st0 β := ⟨fun j hj t c hbj => by
    have hja : aops[j]? = some aops[j] := List.getElem?_eq_getElem (by omega)
    have := hok j _ hj hja
    rw [hbj] at this
    rcases okG_nb this with q | ⟨q1, q2, q3, q4⟩
    · exact ⟨_, hja, .inl q⟩
    · exact ⟨_, hja, .inr ⟨q1, q2, q3, q4⟩⟩, hsep, hnone⟩
  intro fuel
  induction fuel with
  | zero =>
    intro listed a w ι hc hs hcl hlm I
    have hall := cnt_all (D := lst listed) (k := ops.size) (by omega)
    have hms : m = ops.size := by
      rcases Nat.eq_or_lt_of_le hmn with hq | hq
      · exact hq
      · have := hlm m (hall m hq); omega
    refine tail_wpAny H hof hK 0 listed a w m (stD aops ρ st0 full m) (hD β hb full m) ι (by omega) (Nat.le_refl _) hs (fun j => ⟨hlm j, fun hj => hall j (by omega)⟩) ?_ htail
    have e1 : stD aops ρ st0 (lst listed) m = stD aops ρ st0 full m := stD_congr fun j hj => ⟨rfl, hall j (by omega)⟩
    have e2 : hD β hb (lst listed) m = hD β hb full m := hD_congr fun j hj => ⟨rfl, hall j (by omega)⟩
    rw [← e1, ← e2]
    exact ⟨I.ar, I.wr, I.ex, fun j hj hf => by omega, I.nx, I.b0, I.b1⟩
  | succ fuel ih =>
    intro listed a w ι hc hs hcl hlm I
    refine ⟨fun hr => ?_, fun i hi => ?_⟩
    · exfalso
      have hall := ready_nil H hs hr
      have : ∀ k, k ≤ ops.size → cnt (lst listed) k = k := by
        intro k
        induction k with
        | zero => intro _; rfl
        | succ k ihk => intro hk; simp only [cnt, ihk (by omega), hall k (by omega), if_true]
      have := this ops.size (Nat.le_refl _)
      omega
    · obtain ⟨h1, h2, h3⟩ := ready_spec hs hi
      have hin : ∀ j, lst listed j = true → j < ops.size := fun j hj => lst_lt hs hj
      have hdeps : ∀ k, dep k i → lst listed k = true := by
        intro k hk
        obtain ⟨e', he', hb', hor⟩ := H.c2 i ops[i] k (by simp [h1]) hk
        have hle := h3 _ e' (by simp [h1]) he' hb'
        rcases hor with hor | hor
        · rw [← hor]; exact hle
        · exact closed_dep H hcl hin _ _ hle hor
      obtain ⟨ao, hao, hofo, hd, hdN, hgN⟩ := hget i ops[i] (by simp [h1])
      by_cases him : i < m
      · -- A QUIET OPERATION
        have hle : ao.op.cal = true → hb.le (hD β hb (lst listed) m) := fun hcal => hD_le B fun j aj hj haj => by
          cases hq : aj.op.late with
          | false => rfl
          | true => have := (H.c7 j i aj ao hj him haj hao hq).2; rw [hcal] at this; cases this
        have hmove : okG P (base + i) hb ao (stD aops ρ st0 (lst listed) m) (hD β hb (lst listed) m) (ρ i) (β i) := by
          refine okG_move (fun x hx => (slots_same H hlen hcl hin hao him h2 hdeps hx).symm) (fun hfree x t hx hp c hr => ?_) (hok i ao him hao)
          -- the token that is read lies in the world already
          have hreal : ∃ l, ι t = some l := by
            have tokrel : ∀ {v : AV} {u : Value}, v.tok = some t → VRel ι v u → ∃ l, ι t = some l := by
              intro v u hv r
              cases v <;> simp only [AV.tok, reduceCtorEq, Option.some.injEq] at hv
              case p => subst hv; simp only [VRel] at r; obtain ⟨l, hl, _⟩ := r; exact ⟨l, hl⟩
              case mp => subst hv; simp only [VRel] at r; obtain ⟨l, hl, _⟩ := r; exact ⟨l, hl⟩
              case sl t' o' n' a' =>
                split at hv
                · cases hv
                · rename_i h0
                  cases hv
                  simp only [VRel] at r
                  rcases r with ⟨h1, _⟩ | ⟨l, cap, hl, _⟩
                  · exact absurd h1 h0
                  · exact ⟨l, hl⟩
            cases x with
            | c v =>
              have := H.c5 i ao hao _ hx
              simp only [AX.val] at hp
              cases v <;> simp only [AV.tok, reduceCtorEq, Option.some.injEq] at hp <;> simp only [AX.noPtr, Bool.false_eq_true] at this
              simp only [beq_iff_eq] at this
              rw [if_pos this] at hp
              cases hp
            | t n =>
              have hsame := slots_same (ρ := ρ) (st0 := st0) H hlen hcl hin hao him h2 hdeps (x := n) (by unfold AOper.reads; exact List.mem_append_left _ (List.mem_filterMap.2 ⟨.t n, hx, rfl⟩))
              have r := strip_sound (g := true) rfl (I.ar.slot n)
              simp only [AX.val, stS_get] at hp
              rw [hsame] at r
              exact tokrel hp r
          obtain ⟨l, hl⟩ := hreal
          exact read_same B H hcl hin hao him h2 hfree hdeps hx hp (fun j hj hdj ht => by
            have := I.fr j (by omega) hdj
            rw [← ht, hl] at this; cases this) hr
        have hev := okG_ev hle (hD_nx m) hmove
        refine wpOp_mono ?_ (evG_wpOp (o := ops[i]) (by simp [h1]) hofo hdN hgN h1 h2 I hev)
        rintro a' w' ⟨st', h', ι', ⟨rfl, rfl⟩, I'⟩
        have hset := lst_set (listed := listed) (i := i) (by omega)
        refine ih (listed.setIfInBounds i true) a' w' ι' ?_ (by simpa using hs) ?_ ?_ ?_
        · rw [hset, cnt_insert h2 h1]; omega
        · rw [hset]
          intro j o e hj ho he hb'
          simp only [Bool.or_eq_true, beq_iff_eq] at hj ⊢
          rcases hj with hj | rfl
          · exact .inl (hcl j o e hj ho he hb')
          · exact .inl (h3 o e ho he hb')
        · rw [hset]
          intro j hj
          simp only [Bool.or_eq_true, beq_iff_eq] at hj
          rcases hj with hj | rfl
          · exact hlm j hj
          · exact him
        · rw [hset, hD_insert B H hcl hin hao him h2 fun j aj t c hj hdj haj hlt hbj ht => by
            obtain ⟨c', hc', hg⟩ := late_good B (fun j aj hj haj hl => (H.c7 j j aj aj hj hj haj haj hl).1) hj haj hlt hbj hdj m hj (Nat.le_refl _)
            have hfr := I.fr i (by omega) h2
            have hb := (I.wr.blk t c' hc').2
            rw [← ht] at hfr
            cases c' with
            | cells wr cs =>
              rcases hb with ⟨hb, _⟩ | ⟨l, _, _, _, hb, _⟩
              · exact hg hb
              · rw [hfr] at hb; cases hb
            | frz cs => obtain ⟨l, _, _, hb, _⟩ := hb; rw [hfr] at hb; cases hb
            | map es => obtain ⟨l, _, _, hb, _⟩ := hb; rw [hfr] at hb; cases hb]
          refine ⟨⟨I'.ar.size, I'.ar.defs, fun x => ?_⟩, I'.wr, I'.ex, fun j hj hf => ?_, I'.nx, I'.b0, I'.b1⟩
          · rw [stD_insert H hcl hin hao him h2]
            exact I'.ar.slot x
          · simp only [Bool.or_eq_false_iff, beq_eq_false_iff_ne] at hf
            exact I'.fr j hj ⟨hf.1, hf.2⟩
      · -- THE TAIL BEGINS
        have hbelow : ∀ k, k < i → lst listed k = true := fun k hk => hdeps k (H.c4 k i (by omega) h1 hk)
        have hmi : i = m := by
          rcases Nat.eq_or_lt_of_le (Nat.not_lt.1 him) with hq | hq
          · exact hq.symm
          · have := hlm m (hbelow m hq); omega
        subst hmi
        have e1 : stD aops ρ st0 (lst listed) i = stD aops ρ st0 full i := stD_congr fun j hj => ⟨rfl, hbelow j hj⟩
        have e2 : hD β hb (lst listed) i = hD β hb full i := hD_congr fun j hj => ⟨rfl, hbelow j hj⟩
        rw [e1, e2] at I
        have hcnt : cnt (lst listed) ops.size = i := by
          have : ∀ k, k ≤ ops.size → cnt (lst listed) k = min k i := by
            intro k
            induction k with
            | zero => intro _; simp [cnt]
            | succ k ihk =>
              intro hk
              simp only [cnt, ihk (by omega)]
              by_cases hki : k < i
              · rw [if_pos (hbelow k hki)]; omega
              · rw [if_neg (fun hq => hki (hlm k hq))]; omega
          have := this ops.size (Nat.le_refl _)
          omega
        have := tail_wpAny H hof hK (fuel + 1) listed a w i _ _ ι (by omega) (Nat.le_refl _) hs (fun j => ⟨hlm j, hbelow j⟩)
          ⟨I.ar, I.wr, I.ex, fun j hj hf => I.fr j hj (by cases hq : lst listed j with | false => rfl | true => have := hlm j hq; omega), I.nx, I.b0, I.b1⟩ htail
        exact this.2 i hi
/-- A REGION THAT DRAWS ITS ORDER. -/
theorem awp_head {id : Nat} {st : St} {h : AH} (hmix : P.follows .mixedOrders = true) (hof : opersOf P N ops = some aops) (H : HeadOK ops aops dep m) (hmn : m ≤ ops.size)
    (e : evHead P h.nx { h with nx := h.nx + aops.length } (aops.take m) 0 st { h with nx := h.nx + aops.length } fun st' h' => sepP (aops.take m) st' ∧ evOps P h.nx (aops.drop m) m st' h' fun st h => Q .normal st h) :
    Awp P N (.region id ops true) Q st h := fun ι a w ar wr => by
  obtain ⟨hlen, _⟩ := opersOf_spec hof
  refine wp_region_any hmix ?_
  obtain ⟨ρ, β, _, hok, hsp, htail⟩ := head_ok (P := P) (aops := aops) (st0 := st) (hb := { h with nx := h.nx + aops.length }) (base := h.nx) (m := m) (by omega) m 0 (by omega) (fun _ => .un) (fun _ => none) (by simpa [stD, hD] using e)
  have hfalse : lst (Array.replicate ops.size false) = fun _ => false := by
    funext j
    unfold lst
    rw [Array.getD_eq_getD_getElem?]
    by_cases hj : j < ops.size
    · simp [hj]
    · rw [Array.getElem?_eq_none (by simp; omega)]; rfl
  have hst : stD aops ρ st (fun _ => false) m = st := by
    have : ∀ k, stD aops ρ st (fun _ => false) k = st := by
      intro k; induction k with
      | zero => rfl
      | succ k ih => simp [stD, ih]
    exact this m
  have hhd : hD β { h with nx := h.nx + aops.length } (fun _ => false) m = { h with nx := h.nx + aops.length } := by
    have : ∀ k, hD β { h with nx := h.nx + aops.length } (fun _ => false) k = { h with nx := h.nx + aops.length } := by
      intro k; induction k with
      | zero => rfl
      | succ k ih => simp [hD, ih]
    exact this m
  refine head_wpAny (ι0 := ι) (h0 := h) (w0 := w) (base := h.nx) (st0 := st) (hb := { h with nx := h.nx + aops.length }) (K := fun st h => Q .normal st h) H hof hmn (fun st' h' ι' a' w' k ar' wr' x => ⟨st', h', ι', k, ar', wr', x⟩) (fun t ht => ?_)
    (fun j ao hj hao => hok j ao (Nat.zero_le _) hj hao) (fun i k ai ak hi hk hai hak hf hnl hl y hy x hx t h1 h2 => ?_) htail ops.size _ a _ ι ?_ (by simp) ?_ ?_ ?_
  · cases hq : h.m t with
    | none => rfl
    | some c => have := (wr.blk t c hq).1; omega
  · -- what is read is not what is stored
    have tk : ∀ (i : Nat) (ai : AOper), i < m → aops[i]? = some ai → ai ∈ aops.take m := fun i ai hi ha => by
      refine List.mem_of_getElem? (i := i) ?_
      rw [List.getElem?_take, if_pos hi]; exact ha
    have hs := sepG_at (hsp ak (tk k ak hk hak) hl y hy) (tk i ai hi hai) hf hnl x hx
    have stay : ∀ (i : Nat) (ai : AOper), i < m → aops[i]? = some ai → ai.op.free = false → ∀ x ∈ ai.op.xs, x.val (stS true (stD aops ρ st full m)) = x.val (stS true (stD aops ρ st full i)) := by
      intro i ai hi hai hf x hx
      cases x with
      | c v => rfl
      | t n =>
        simp only [AX.val, stS_get]
        have : ∀ k, i ≤ k → k ≤ m → (stD aops ρ st full k).get n = (stD aops ρ st full i).get n := by
          intro j hij
          induction j with
          | zero => intro _; have : i = 0 := by omega
                    subst this; rfl
          | succ j ih =>
            intro hjm
            by_cases e : i = j + 1
            · subst e; rfl
            · simp only [stD, full, if_true]
              rw [put_get, if_neg, ih (by omega) (by omega)]
              have hja : aops[j]? = some aops[j] := List.getElem?_eq_getElem (by omega)
              rw [hja]
              exact H.c8 k i j ak ai _ hk (by omega) (by omega) hak hl hai hja hf n (by unfold AOper.reads; exact List.mem_append_left _ (List.mem_filterMap.2 ⟨.t n, hx, rfl⟩))
        rw [this m (by omega) (Nat.le_refl _)]
    have hlf : ak.op.free = false := by cases h : ak.op <;> simp [h, AOp.late, AOp.free] at hl ⊢
    rw [stay k ak hk hak hlf y (List.mem_of_mem_head? hy), stay i ai hi hai hf x hx] at hs
    rcases hs with hs | hs | hs
    · rw [hs] at h1; cases h1
    · rw [hs] at h2; cases h2
    · exact hs (h1.trans h2.symm)
  · rw [hfalse]
    have : ∀ k, cnt (fun _ => false) k = 0 := by
      intro k; induction k with
      | zero => rfl
      | succ k ih => simp [cnt, ih]
    rw [this]; omega
  · rw [hfalse]; intro j o e' hj; cases hj
  · rw [hfalse]; intro j hj; cases hj
  · rw [hfalse, hst, hhd]
    refine ⟨ar, (wr.bump _).drew, ((Ext.refl ι h w).bump _).drew, fun j hj hf => ?_, by simp [hlen], Nat.le_refl _, wr.pos⟩
    cases hq : ι (h.nx + j) with
    | none => rfl
    | some l => have := (wr.lt _ l hq).1; omega
end
end Go.Am
set_option linter.unusedVariables false
set_option linter.unusedSimpArgs false
namespace Go.Am
/-- for each operation of a region: which others come before it, az bits -/
def masks (ops : List Oper) : List Nat :=
  ops.foldl (fun ms o => ms ++ [o.after.foldl (fun s e => if Region.binds .any e then s ||| 2 ^ e.on ||| ms.getD e.on 0 else s) 0]) []
def allBefore (ms : List Nat) (j : Nat) : Bool := (List.range j).all fun i => (ms.getD j 0).testBit i
/-- where the tail begins whose operations come in the text's order -/
def tailAt (ms : List Nat) : Nat → Nat
  | 0 => 0
  | m + 1 => if allBefore ms m then tailAt ms m else m + 1
/-- one store only, no call, and what is read is not set behind it -/
def lateB (l : List AOper) : Bool :=
  (l.zipIdx.all fun (aj, j) => l.zipIdx.all fun (ai, i) => decide (i = j) || !ai.op.late || !aj.op.late) &&
  (l.all fun a => (!a.op.late || a.op.lateOk) && !a.op.cal) &&
  (l.zipIdx.all fun (aj, j) => l.zipIdx.all fun (ai, i) => !decide (i ≤ j) || ai.op.free || ai.reads.all fun x => aj.d != some x)
def headB (ops : Array Oper) (aops : List AOper) (ms : List Nat) (m : Nat) : Bool :=
  (ops.toList.zipIdx.all fun (o, j) => o.after.all fun e => !Region.binds .any e || e.on < j) &&
  (ops.toList.zipIdx.all fun (o, j) => decide (ms.getD j 0 < 2 ^ ops.size) && (List.range ops.size).all fun i => !(ms.getD j 0).testBit i ||
    o.after.toList.any fun e => Region.binds .any e && (e.on == i || (ms.getD e.on 0).testBit i)) &&
  (aops.zipIdx.all fun (aj, j) => aops.zipIdx.all fun (ai, i) => !decide (i < j) || !ai.clash aj || (ms.getD j 0).testBit i) &&
  ((List.range ops.size).all fun j => !decide (m ≤ j) || allBefore ms j) &&
  (aops.all fun a => a.op.xs.all AX.noPtr) && decide (m ≤ ops.size) &&
  (!(aops.take m).any (fun a => a.op.late) || lateB (aops.take m))
theorem zipIdx_all {α : Type} {l : List α} {p : α × Nat → Bool} (h : l.zipIdx.all p = true) {i : Nat} {x : α} (hx : l[i]? = some x) : p (x, i) = true := by
  refine List.all_eq_true.1 h (x, i) ?_
  rw [List.mem_zipIdx_iff_getElem?]
  exact hx
theorem headB_spec {ops : Array Oper} {aops : List AOper} {ms : List Nat} {m : Nat} (h : headB ops aops ms m = true) : HeadOK ops aops (fun i j => (ms.getD j 0).testBit i = true) m ∧ m ≤ ops.size := by
  unfold headB at h
  simp only [Bool.and_eq_true, decide_eq_true_eq] at h
  obtain ⟨⟨⟨⟨⟨⟨h1, h2⟩, h3⟩, h4⟩, h5⟩, h6⟩, h7⟩ := h
  have tk : ∀ {i : Nat} {ai : AOper}, i < m → aops[i]? = some ai → (aops.take m)[i]? = some ai := fun hi ha => by rw [List.getElem?_take]; simp [hi, ha]
  have h7 : ∀ {i : Nat} {ai : AOper}, i < m → aops[i]? = some ai → ai.op.late = true →
      lateB (aops.take m) = true := fun {i ai} hi ha hl => by
    simp only [Bool.or_eq_true, Bool.not_eq_true'] at h7
    rcases h7 with h7 | h7
    · have := List.any_eq_false.1 h7 ai (List.mem_of_getElem? (tk hi ha))
      exact absurd hl this
    · exact h7
  refine ⟨⟨fun j o e ho he hb => ?_, fun j o i ho hd => ?_, fun i j ai aj hij hai haj hc => ?_, fun i j hm hj hij => ?_, fun i ai hai x hx => ?_, fun i k ai ak him hkm hai hak hl1 hl2 => ?_, fun i j ai aj him hjm hai haj hl => ?_, fun k i j ak ai aj hk hij hjm hak hl hai haj hf x hx => ?_⟩, h6⟩
  · have := zipIdx_all h1 (i := j) (x := o) (by simpa using ho)
    simp only [Array.all_eq_true_iff_forall_mem] at this
    have := this e he
    simpa [hb] using this
  · have := zipIdx_all h2 (i := j) (x := o) (by simpa using ho)
    simp only [Bool.and_eq_true, decide_eq_true_eq] at this
    obtain ⟨q1, q2⟩ := this
    have hi : i < ops.size := by
      rcases Nat.lt_or_ge i ops.size with hq | hq
      · exact hq
      · have := Nat.testBit_lt_two_pow (Nat.lt_of_lt_of_le q1 (Nat.pow_le_pow_right (by omega) hq))
        rw [hd] at this; cases this
    have := List.all_eq_true.1 q2 i (List.mem_range.2 hi)
    rw [hd] at this
    simp only [Bool.not_true, Bool.false_or, List.any_eq_true] at this
    obtain ⟨e, he, hb⟩ := this
    simp only [Bool.and_eq_true, Bool.or_eq_true, beq_iff_eq] at hb
    exact ⟨e, by simpa using he, hb.1, hb.2⟩
  · have := zipIdx_all (zipIdx_all h3 (i := j) (x := aj) haj) (i := i) (x := ai) hai
    simpa [hij, hc] using this
  · have := List.all_eq_true.1 h4 j (List.mem_range.2 hj)
    simp only [hm, decide_true, Bool.not_true, Bool.false_or] at this
    exact List.all_eq_true.1 this i (List.mem_range.2 hij)
  · have := List.all_eq_true.1 h5 ai (List.mem_of_getElem? hai)
    exact List.all_eq_true.1 this x hx
  · have h8 := h7 him hai hl1
    unfold lateB at h8
    simp only [Bool.and_eq_true] at h8
    have := zipIdx_all (zipIdx_all h8.1.1 (i := k) (x := ak) (tk hkm hak)) (i := i) (x := ai) (tk him hai)
    simpa [hl1, hl2] using this
  · have h8 := h7 him hai hl
    unfold lateB at h8
    simp only [Bool.and_eq_true] at h8
    have e1 := List.all_eq_true.1 h8.1.2 ai (List.mem_of_getElem? (tk him hai))
    have e2 := List.all_eq_true.1 h8.1.2 aj (List.mem_of_getElem? (tk hjm haj))
    simp only [hl, Bool.not_true, Bool.false_or, Bool.and_eq_true, Bool.not_eq_true'] at e1 e2
    exact ⟨e1.1, e2.2⟩
  · have h8 := h7 hk hak hl
    unfold lateB at h8
    simp only [Bool.and_eq_true] at h8
    have := zipIdx_all (zipIdx_all h8.2 (i := j) (x := aj) (tk hjm haj)) (i := i) (x := ai) (tk (by omega) hai)
    simp only [hij, decide_true, Bool.not_true, Bool.false_or, hf, List.all_eq_true, bne_iff_ne] at this
    exact this x hx
def AC.of (P : Program) (N : Nat) : Code → Option AC
  | .skip => some .skip
  | .region _ ops false => (opersOf P N ops).map .reg
  | .region _ ops true => do
    let l ← opersOf P N ops
    let ms := masks ops.toList
    let m := tailAt ms ops.size
    if P.follows .mixedOrders && headB ops l ms m then some (.head m l) else none
  | .seq a b => do some (.seq (← AC.of P N a) (← AC.of P N b))
  | .cond c a b => do some (.cond (← toX c) (← AC.of P N a) (← AC.of P N b))
  | .block id b => do some (.blk id (← AC.of P N b))
  | .loop b => do some (.loop (← AC.of P N b))
  | .exit id => some (.exit id)
  | .ret => some .ret
  | _ => none
inductive CodeR (P : Program) (N : Nat) : Code → AC → Prop
  | skip : CodeR P N .skip .skip
  | reg {id ops l} (h : opersOf P N ops = some l) : CodeR P N (.region id ops false) (.reg l)
  | head {id ops l m ms} (h : opersOf P N ops = some l) (hm : P.follows .mixedOrders = true) (hh : headB ops l ms m = true) : CodeR P N (.region id ops true) (.head m l)
  | seq {a b x y} (ha : CodeR P N a x) (hb : CodeR P N b y) : CodeR P N (.seq a b) (.seq x y)
  | cond {c a b z x y} (hc : toX c = some z) (ha : CodeR P N a x) (hb : CodeR P N b y) : CodeR P N (.cond c a b) (.cond z x y)
  | blk {id b y} (hb : CodeR P N b y) : CodeR P N (.block id b) (.blk id y)
  | loop {b y} (hb : CodeR P N b y) : CodeR P N (.loop b) (.loop y)
  | exit {id} : CodeR P N (.exit id) (.exit id)
  | ret : CodeR P N .ret .ret
theorem code_R {P : Program} {N : Nat} : ∀ {c : Code} {ac : AC}, AC.of P N c = some ac → CodeR P N c ac
  | .skip, ac, h => by simp [AC.of] at h; subst h; exact .skip
  | .region id ops false, ac, h => by
    simp only [AC.of, Option.map_eq_some_iff] at h
    obtain ⟨l, hl, rfl⟩ := h
    exact .reg hl
  | .region id ops true, ac, h => by
    simp only [AC.of, Option.bind_eq_bind, Option.bind_eq_some_iff] at h
    obtain ⟨l, hl, h⟩ := h
    split at h
    · rename_i hc
      simp only [Bool.and_eq_true] at hc
      cases h
      exact .head hl hc.1 hc.2
    · cases h
  | .seq a b, ac, h => by
    simp only [AC.of, Option.bind_eq_bind, Option.bind_eq_some_iff, Option.some.injEq] at h
    obtain ⟨x, hx, y, hy, rfl⟩ := h
    exact .seq (code_R hx) (code_R hy)
  | .cond c a b, ac, h => by
    simp only [AC.of, Option.bind_eq_bind, Option.bind_eq_some_iff, Option.some.injEq] at h
    obtain ⟨z, hz, x, hx, y, hy, rfl⟩ := h
    exact .cond hz (code_R hx) (code_R hy)
  | .block id b, ac, h => by
    simp only [AC.of, Option.bind_eq_bind, Option.bind_eq_some_iff, Option.some.injEq] at h
    obtain ⟨y, hy, rfl⟩ := h
    exact .blk (code_R hy)
  | .loop b, ac, h => by
    simp only [AC.of, Option.bind_eq_bind, Option.bind_eq_some_iff, Option.some.injEq] at h
    obtain ⟨y, hy, rfl⟩ := h
    exact .loop (code_R hy)
  | .exit id, ac, h => by simp [AC.of] at h; subst h; exact .exit
  | .ret, ac, h => by simp [AC.of] at h; subst h; exact .ret
  | .rangeFunc .., ac, h => by simp [AC.of] at h
  | .scope _, ac, h => by simp [AC.of] at h
  | .label _, ac, h => by simp [AC.of] at h
  | .goto _, ac, h => by simp [AC.of] at h
  | .refuse _, ac, h => by simp [AC.of] at h
/-- The weakest precondition of code az it is read. -/
def W (P : Program) (N : Nat) (c : AC) (Q : Exit → St → AH → Prop) (st : St) (h : AH) : Prop := ∀ c', CodeR P N c' c → Awp P N c' Q st h
section
variable {P : Program} {N : Nat} {Q Q' : Exit → St → AH → Prop} {st : St} {h : AH}
theorem w_skip (q : Q .normal st h) : W P N .skip Q st h := fun c hc => by cases hc; exact awp_skip q
theorem w_exit {id : Nat} (q : Q (.exit id) st h) : W P N (.exit id) Q st h := fun c hc => by cases hc; exact awp_exit q
theorem w_ret (q : Q .ret st h) : W P N .ret Q st h := fun c hc => by cases hc; exact awp_ret q
theorem w_seq {a b : AC} (q : W P N a (athen (fun st h => W P N b Q st h) Q) st h) : W P N (.seq a b) Q st h := fun c hc => by
  cases hc with
  | seq ha hb =>
    refine awp_seq ((q _ ha).mono fun e st h hq => ?_)
    cases e with
    | normal => exact hq _ hb
    | _ => exact hq
theorem w_cond {c : AX} {a b : AC} {t : Bool} (ht : c.val st = .b t) (h1 : t = true → W P N a Q st h) (h2 : t = false → W P N b Q st h) : W P N (.cond c a b) Q st h := fun c hc => by
  cases hc with
  | cond hz ha hb => exact awp_cond hz ht (fun e => h1 e _ ha) (fun e => h2 e _ hb)
theorem w_blk {id : Nat} {b : AC} (q : W P N b (ablk id Q) st h) : W P N (.blk id b) Q st h := fun c hc => by
  cases hc with
  | blk hb => exact awp_block (q _ hb)
theorem w_loop {b : AC} (I : Nat → St → AH → Prop) (n : Nat) (h0 : I n st h) (round : ∀ n st h, I n st h → W P N b (athen (fun st' h' => ∃ m h'', m < n ∧ h''.le h' ∧ I m st' h'') Q) st h) : W P N (.loop b) Q st h := fun c hc => by
  cases hc with
  | loop hb => exact awp_loop I h0 fun n st h hI => round n st h hI _ hb
theorem w_reg {ops : List AOper} (e : evOps P h.nx ops 0 st { h with nx := h.nx + ops.length } fun st h => Q .normal st h) : W P N (.reg ops) Q st h := fun c hc => by
  cases hc with
  | reg hl => exact awp_region hl e
theorem sepP_none {ops : List AOper} {st : St} (h : ops.any (fun o => o.op.late) = false) : sepP ops st := fun ak hk hl => absurd hl (List.any_eq_false.1 h ak hk)
theorem w_head {m : Nat} {ops : List AOper} (e : evHead P h.nx { h with nx := h.nx + ops.length } (ops.take m) 0 st { h with nx := h.nx + ops.length } fun st' h' => sepP (ops.take m) st' ∧ evOps P h.nx (ops.drop m) m st' h' fun st h => Q .normal st h) :
    W P N (.head m ops) Q st h := fun c hc => by
  cases hc with
  | head hl hm hh =>
    obtain ⟨H, hmn⟩ := headB_spec hh
    exact awp_head hm hl H hmn e
theorem W.mono {c : AC} (w : W P N c Q st h) (hq : ∀ e st h, Q e st h → Q' e st h) : W P N c Q' st h := fun c' hc => (w c' hc).mono hq
theorem W.weaken {c : AC} {st' : St} {h' : AH} (hst : ∀ d, st'.get d = .un ∨ st'.get d = st.get d) (hh : h'.le h) (hnx : h'.nx = h.nx) (w : W P N c Q st' h') : W P N c Q st h := fun c' hc => (w c' hc).weaken hst hh hnx
end
/-- A function az it is read: its code, its results, the number of its slots. -/
def fnOf (P : Program) (f : Nat) : Option (AC × List ARes × Nat) := do
  let fn ← P.funcs[f]?
  let c ← fn.body
  let ac ← AC.of P fn.ntmps c
  let rs ← resOf P fn.results.toList
  if fn.name == "runtime.NumGoroutine" then none else some (ac, rs, fn.ntmps)
theorem acalls_fn {P : Program} {f : Nat} {ac : AC} {ars : List ARes} {N : Nat} (hf : fnOf P f = some (ac, ars, N)) {args : List AV} {h : AH} {R : AV → AH → Prop} (hN : args.length ≤ N)
    (hw : W P N ac (fun e st h' => (e = .normal ∨ e = .ret) ∧ ∃ vs, ars.mapM (ARes.val st h') = some vs ∧ ∃ h'', h''.le h' ∧ R (aone vs) h'') (initSt args) h) : ACalls P f args h R := by
  unfold fnOf at hf
  simp only [Option.bind_eq_bind, Option.bind_eq_some_iff] at hf
  obtain ⟨fn, hfn, c, hc, ac', hac, rs, hrs, hf⟩ := hf
  split at hf
  · cases hf
  · rename_i hn
    simp only [Option.some.injEq, Prod.mk.injEq] at hf
    obtain ⟨rfl, rfl, rfl⟩ := hf
    exact acalls_of hfn (by simpa using hn) hc hrs hN (hw c (code_R hac))
end Go.Am
set_option linter.unusedVariables false
set_option linter.unusedSimpArgs false
namespace Go.Am
def stepA (tok : Nat) (d : Option Nat) (o : AOp) (st : St) (h : AH) : Option (St × AH) :=
  match o with
  | .sto n x v => (h.sto n (x.val st) (v.val st)).map fun h' => (put d .un st, h')
  | .app k b x y => (h.app k b tok (x.val st) (y.val st)).map fun p => (put d p.1 st, p.2)
  | .byt x => match x.val st with
    | .s b => some (put d (.sl tok 0 b.size 0) st, h.set tok (.frz (bcells b)))
    | _ => none
  | .cvt x => (h.cvt (x.val st)).map fun h' => (put d (x.val st) st, h')
  | .eqz .. => none
  | .mkm => some (put d (.mp tok) st, h.set tok (.map []))
  | .mup kk x k v => (h.mup kk (x.val st) (k.val st) (v.val st)).map fun h' => (put d .un st, h')
  | .call _ _ => none
  | o => if o.isAl then (o.al (AX.val st) tok).map fun p => (put d p.1 st, h.set tok (.cells true p.2))
    else (o.ev (AX.val st) h).map fun v => (put d v st, h)
def stepC (g : Bool) (d : Option Nat) (o : AOp) (st : St) (h : AH) : Option (St × AH) :=
  if o.isVal then (o.ev (AX.val (stS g st)) h).map fun v => (put d (.gd g v) st, h) else none
def stepO (tok : Nat) (o : AOper) (st : St) (h : AH) : Option (St × AH) :=
  match o.g with
  | none => stepA tok o.d o.op st h
  | some (s, want) => match guardOf (st.get s) want with
    | some g => stepC g o.d o.op st h
    | none => none
def run (base : Nat) : List AOper → Nat → Option (St × AH) → Option (St × AH)
  | [], _, s => s
  | _ :: _, _, none => none
  | o :: os, i, some (st, h) => run base os (i + 1) (stepO (base + i) o st h)
theorem evA_step {P : Program} {tok : Nat} {d : Option Nat} {o : AOp} {st st' : St} {h h' : AH} (e : stepA tok d o st h = some (st', h')) {K : St → AH → Prop} (k : K st' h') : evA P tok d o st h K := by
  cases o <;> simp only [stepA, evA, AOp.isAl, if_true, if_false, Bool.false_eq_true, Option.map_eq_some_iff, Prod.mk.injEq, reduceCtorEq] at e ⊢
  case sto => obtain ⟨a, ha, rfl, rfl⟩ := e; rw [ha]; exact k
  case app => obtain ⟨a, ha, rfl, rfl⟩ := e; rw [ha]; exact k
  case cvt x => obtain ⟨a, ha, rfl, rfl⟩ := e; rw [ha]; exact k
  case mup => obtain ⟨a, ha, rfl, rfl⟩ := e; rw [ha]; exact k
  case mkm => simp only [Option.some.injEq, Prod.mk.injEq] at e; obtain ⟨rfl, rfl⟩ := e; exact k
  case byt x => split at e <;> first | (cases e; done) | (rename_i hb; cases e; rw [hb]; exact k)
  case box => obtain ⟨a, ha, rfl, rfl⟩ := e; rw [ha]; exact k
  case alloc => obtain ⟨a, ha, rfl, rfl⟩ := e; rw [ha]; exact k
  case bsl => obtain ⟨a, ha, rfl, rfl⟩ := e; rw [ha]; exact k
  case mks => obtain ⟨a, ha, rfl, rfl⟩ := e; rw [ha]; exact k
  all_goals (obtain ⟨a, ha, rfl, rfl⟩ := e; rw [ha]; exact k)
def AOp.quiet : AOp → Bool
  | .app .. | .byt _ | .cvt _ | .eqz .. | .mkm => false
  | _ => true
theorem evHA_step {P : Program} {tok : Nat} {hb : AH} {d : Option Nat} {o : AOp} {st st' : St} {h h' : AH} (hq : o.quiet = true) (e : stepA tok d o st h = some (st', h')) {K : St → AH → Prop} (k : K st' h') : evHA P tok hb d o st h K := by
  cases o <;> simp only [AOp.quiet, Bool.false_eq_true] at hq <;> simp only [stepA, evHA, AOp.isAl, if_true, if_false, Bool.false_eq_true, Option.map_eq_some_iff, Prod.mk.injEq, reduceCtorEq] at e ⊢
  all_goals (obtain ⟨a, ha, rfl, rfl⟩ := e; rw [ha]; exact k)
section
variable {P : Program} {N : Nat} {Q : Exit → St → AH → Prop} {st st' : St} {h h' : AH}
/-- keep some slots alone -/
def keep (ks : List Nat) (st : St) : St := ks.map fun k => (k, st.get k)
theorem keep_get (st : St) : ∀ (ks : List Nat) (d : Nat), (keep ks st).get d = if d ∈ ks then st.get d else .un
  | [], d => by simp [keep, St.get]
  | k :: ks, d => by
    have ih := keep_get st ks d
    simp only [keep] at ih
    simp only [keep, List.map_cons, St.get, ih, List.mem_cons]
    by_cases h : d = k
    · subst h; simp
    · simp [h]
theorem W.keep {c : AC} (ks : List Nat) (w : W P N c Q (keep ks st) h) : W P N c Q st h :=
  w.weaken (fun d => by rw [keep_get]; split <;> simp) (AH.le_refl h) rfl
end
end Go.Am
namespace Go.Proofs.Ytbhkbaapfioijaa
open Go Go.Am Go.Proofs
/-! 3: pantoscope/pantoscopetop.TopPairs · slots 214 · [0 l, 1 tols, 2 l, 3 tols, 5 last, 6 most, 7 tol, 8 i, 9 n, 10 e, 11 p, 12 f, 13 g, 14 h, 15 is, 16 j, 17 worst, 18 j, 19 k, 20 t, 21 j, 22 colour, 23 left, 24 right, 25 i, 26 _, 27 e] -/
def c3r0 : List AOper := [
  ⟨(some 3), none, .box (.t 1)⟩,
  ⟨(some 4), none, .mv (.c (.b false))⟩]
def c3r1 : List AOper := [
  ⟨(some 28), none, .mv (.t 0)⟩,
  ⟨(some 29), none, .len (.t 28)⟩,
  ⟨(some 30), none, .bin false .gtr (.t 29) (.c (.i .i64 16))⟩,
  ⟨(some 31), none, .mv (.t 30)⟩,
  ⟨(some 32), (some (31, false)), .mv (.t 0)⟩,
  ⟨(some 33), (some (31, false)), .call (.c (.fn 14 [] [])) [(.t 32)]⟩,
  ⟨(some 34), (some (31, false)), .not (.t 33)⟩,
  ⟨(some 35), none, .pick (.t 31) (.c (.b true)) (.t 34)⟩]
def c3r2 : List AOper := [
  ⟨(some 36), none, .call (.c (.fn 15 [] [])) []⟩,
  ⟨(some 4), none, .mv (.t 36)⟩]
def c3r3 : List AOper := [
  ⟨(some 5), none, .mv (.c (.i .i64 (-1)))⟩,
  ⟨(some 6), none, .mv (.c (.i .i64 0))⟩]
def c3r4 : List AOper := [
  ⟨(some 7), none, .mv (.c (.i .i64 0))⟩]
def c3r5 : List AOper := [
  ⟨(some 8), none, .mv (.c (.i .i64 0))⟩]
def c3r6 : List AOper := [
  ⟨(some 37), none, .mv (.t 8)⟩,
  ⟨(some 38), none, .bin false .lss (.t 37) (.c (.i .i64 3))⟩]
def c3r7 : List AOper := [
  ⟨(some 41), none, .mv (.t 7)⟩,
  ⟨(some 42), none, .mv (.t 8)⟩,
  ⟨(some 43), none, .iap 3 1 (.t 3) (.t 42)⟩,
  ⟨(some 44), none, .ld none (.t 43)⟩,
  ⟨(some 45), none, .conv .i64 (.t 44)⟩,
  ⟨(some 46), none, .bin false .rem (.t 45) (.c (.i .i64 400))⟩,
  ⟨(some 47), none, .bin false .add (.t 41) (.t 46)⟩,
  ⟨(some 48), none, .mm false (.t 47) [(.c (.i .i64 1000))]⟩,
  ⟨(some 7), none, .mv (.t 48)⟩]
def c3r8 : List AOper := [
  ⟨(some 50), none, .mv (.t 0)⟩,
  ⟨(some 51), none, .mv (.t 7)⟩,
  ⟨(some 52), none, .call (.c (.fn 16 [] [])) [(.t 50), (.t 51)]⟩,
  ⟨(some 49), none, .mv (.t 52)⟩,
  ⟨(some 53), none, .ext (.t 49) 0⟩,
  ⟨(some 54), none, .ext (.t 49) 1⟩,
  ⟨(some 9), none, .mv (.t 53)⟩,
  ⟨(some 10), none, .mv (.t 54)⟩]
def c3r9 : List AOper := [
  ⟨(some 56), none, .mv (.t 0)⟩,
  ⟨(some 57), none, .mv (.t 7)⟩,
  ⟨(some 58), none, .call (.c (.fn 17 [] [])) [(.t 56), (.t 57)]⟩,
  ⟨(some 55), none, .mv (.t 58)⟩,
  ⟨(some 59), none, .ext (.t 55) 0⟩,
  ⟨(some 60), none, .ext (.t 55) 1⟩,
  ⟨(some 11), none, .mv (.t 59)⟩,
  ⟨(some 12), none, .mv (.t 60)⟩]
def c3r10 : List AOper := [
  ⟨(some 62), none, .mv (.t 0)⟩,
  ⟨(some 63), none, .mv (.t 7)⟩,
  ⟨(some 64), none, .call (.c (.fn 18 [] [])) [(.t 62), (.t 63)]⟩,
  ⟨(some 61), none, .mv (.t 64)⟩,
  ⟨(some 65), none, .ext (.t 61) 0⟩,
  ⟨(some 66), none, .ext (.t 61) 1⟩,
  ⟨(some 13), none, .mv (.t 65)⟩,
  ⟨(some 14), none, .mv (.t 66)⟩]
def c3r11 : List AOper := [
  ⟨(some 67), none, .mv (.t 10)⟩,
  ⟨(some 68), none, .bin false .neq (.t 67) (.c (.i .i64 0))⟩,
  ⟨(some 69), none, .mv (.t 68)⟩,
  ⟨(some 70), (some (69, false)), .mv (.t 12)⟩,
  ⟨(some 71), (some (69, false)), .bin false .neq (.t 70) (.c (.i .i64 0))⟩,
  ⟨(some 72), none, .pick (.t 69) (.c (.b true)) (.t 71)⟩,
  ⟨(some 73), none, .mv (.t 72)⟩,
  ⟨(some 74), (some (73, false)), .mv (.t 14)⟩,
  ⟨(some 75), (some (73, false)), .bin false .neq (.t 74) (.c (.i .i64 0))⟩,
  ⟨(some 76), none, .pick (.t 73) (.c (.b true)) (.t 75)⟩,
  ⟨(some 77), none, .mv (.t 76)⟩,
  ⟨(some 78), (some (77, false)), .mv (.t 11)⟩,
  ⟨(some 79), (some (77, false)), .len (.t 78)⟩,
  ⟨(some 80), (some (77, false)), .mv (.t 9)⟩,
  ⟨(some 81), (some (77, false)), .bin false .neq (.t 79) (.t 80)⟩,
  ⟨(some 82), none, .pick (.t 77) (.c (.b true)) (.t 81)⟩,
  ⟨(some 83), none, .mv (.t 82)⟩,
  ⟨(some 84), (some (83, false)), .mv (.t 13)⟩,
  ⟨(some 85), (some (83, false)), .len (.t 84)⟩,
  ⟨(some 86), (some (83, false)), .mv (.t 9)⟩,
  ⟨(some 87), (some (83, false)), .bin false .neq (.t 85) (.t 86)⟩,
  ⟨(some 88), none, .pick (.t 83) (.c (.b true)) (.t 87)⟩,
  ⟨(some 89), none, .mv (.t 88)⟩,
  ⟨(some 90), (some (89, false)), .mv (.t 9)⟩,
  ⟨(some 91), (some (89, false)), .mv (.t 5)⟩,
  ⟨(some 92), (some (89, false)), .bin false .lss (.t 90) (.t 91)⟩,
  ⟨(some 93), none, .pick (.t 89) (.c (.b true)) (.t 92)⟩,
  ⟨(some 94), none, .mv (.t 93)⟩,
  ⟨(some 95), (some (94, false)), .mv (.t 0)⟩,
  ⟨(some 96), (some (94, false)), .mv (.t 7)⟩,
  ⟨(some 97), (some (94, false)), .mv (.t 11)⟩,
  ⟨(some 98), (some (94, false)), .call (.c (.fn 19 [] [])) [(.t 95), (.t 96), (.t 97)]⟩,
  ⟨(some 99), (some (94, false)), .bin false .neq (.t 98) (.c (.i .i64 0))⟩,
  ⟨(some 100), none, .pick (.t 94) (.c (.b true)) (.t 99)⟩]
def c3r12 : List AOper := [
  ⟨(some 4), none, .mv (.c (.b false))⟩]
def c3r13 : List AOper := [
  ⟨(some 102), none, .mv (.t 0)⟩,
  ⟨(some 103), none, .mv (.t 7)⟩,
  ⟨(some 104), none, .mv (.t 13)⟩,
  ⟨(some 105), none, .call (.c (.fn 20 [] [])) [(.t 102), (.t 103), (.t 104)]⟩,
  ⟨(some 101), none, .mv (.t 105)⟩,
  ⟨(some 106), none, .ext (.t 101) 0⟩,
  ⟨(some 107), none, .ext (.t 101) 1⟩,
  ⟨(some 15), none, .mv (.t 106)⟩,
  ⟨(some 16), none, .mv (.t 107)⟩]
def c3r14 : List AOper := [
  ⟨(some 108), none, .mv (.t 15)⟩,
  ⟨(some 109), none, .not (.t 108)⟩,
  ⟨(some 110), none, .mv (.t 109)⟩,
  ⟨(some 111), (some (110, false)), .mv (.t 16)⟩,
  ⟨(some 112), (some (110, false)), .bin false .neq (.t 111) (.c (.i .i64 0))⟩,
  ⟨(some 113), none, .pick (.t 110) (.c (.b true)) (.t 112)⟩]
def c3r15 : List AOper := [
  ⟨(some 4), none, .mv (.c (.b false))⟩]
def c3r16 : List AOper := [
  ⟨(some 115), none, .mv (.t 0)⟩,
  ⟨(some 116), none, .mv (.t 11)⟩,
  ⟨(some 117), none, .call (.c (.fn 21 [] [])) [(.t 115), (.t 116)]⟩,
  ⟨(some 114), none, .mv (.t 117)⟩,
  ⟨(some 118), none, .ext (.t 114) 0⟩,
  ⟨(some 119), none, .ext (.t 114) 1⟩,
  ⟨(some 17), none, .mv (.t 118)⟩,
  ⟨(some 18), none, .mv (.t 119)⟩]
def c3r17 : List AOper := [
  ⟨(some 120), none, .mv (.t 18)⟩,
  ⟨(some 121), none, .bin false .neq (.t 120) (.c (.i .i64 0))⟩,
  ⟨(some 122), none, .mv (.t 121)⟩,
  ⟨(some 123), (some (122, false)), .mv (.t 17)⟩,
  ⟨(some 124), (some (122, false)), .mv (.t 7)⟩,
  ⟨(some 125), (some (122, false)), .bin false .gtr (.t 123) (.t 124)⟩,
  ⟨(some 126), none, .pick (.t 122) (.c (.b true)) (.t 125)⟩]
def c3r18 : List AOper := [
  ⟨(some 4), none, .mv (.c (.b false))⟩]
def c3r19 : List AOper := [
  ⟨(some 127), none, .mv (.t 5)⟩,
  ⟨(some 128), none, .bin false .add (.t 127) (.c (.i .i64 1))⟩,
  ⟨(some 19), none, .mv (.t 128)⟩]
def c3r20 : List AOper := [
  ⟨(some 129), none, .mv (.t 19)⟩,
  ⟨(some 130), none, .mv (.t 9)⟩,
  ⟨(some 131), none, .bin false .leq (.t 129) (.t 130)⟩]
def c3r21 : List AOper := [
  ⟨(some 135), none, .mv (.t 0)⟩,
  ⟨(some 136), none, .mv (.t 19)⟩,
  ⟨(some 137), none, .call (.c (.fn 22 [] [])) [(.t 135), (.t 136)]⟩,
  ⟨(some 134), none, .mv (.t 137)⟩,
  ⟨(some 138), none, .ext (.t 134) 0⟩,
  ⟨(some 139), none, .ext (.t 134) 1⟩,
  ⟨(some 20), none, .mv (.t 138)⟩,
  ⟨(some 21), none, .mv (.t 139)⟩]
def c3r22 : List AOper := [
  ⟨(some 140), none, .mv (.t 21)⟩,
  ⟨(some 141), none, .bin false .neq (.t 140) (.c (.i .i64 0))⟩,
  ⟨(some 142), none, .mv (.t 141)⟩,
  ⟨(some 143), (some (142, false)), .mv (.t 20)⟩,
  ⟨(some 144), (some (142, false)), .mv (.t 7)⟩,
  ⟨(some 145), (some (142, false)), .bin false .gtr (.t 143) (.t 144)⟩,
  ⟨(some 146), none, .pick (.t 142) (.c (.b true)) (.t 145)⟩]
def c3r23 : List AOper := [
  ⟨(some 4), none, .mv (.c (.b false))⟩]
def c3r24 : List AOper := [
  ⟨(some 132), none, .mv (.t 19)⟩,
  ⟨(some 133), none, .bin false .add (.t 132) (.c (.i .i64 1))⟩,
  ⟨(some 19), none, .mv (.t 133)⟩]
abbrev c3b25 : AC := (.seq (.seq (.reg c3r20) (.cond (.t 131) .skip (.exit 2))) (.seq (.blk 3 (.seq (.reg c3r21) (.seq (.reg c3r22) (.cond (.t 146) (.seq (.reg c3r23) .ret) .skip)))) (.reg c3r24)))
def c3r26 : List AOper := [
  ⟨(some 147), none, .mv (.t 9)⟩,
  ⟨(some 5), none, .mv (.t 147)⟩]
def c3r27 : List AOper := [
  ⟨(some 39), none, .mv (.t 8)⟩,
  ⟨(some 40), none, .bin false .add (.t 39) (.c (.i .i64 1))⟩,
  ⟨(some 8), none, .mv (.t 40)⟩]
abbrev c3b28 : AC := (.seq (.seq (.reg c3r6) (.cond (.t 38) .skip (.exit 0))) (.seq (.blk 1 (.seq (.reg c3r7) (.seq (.reg c3r8) (.seq (.reg c3r9) (.seq (.reg c3r10) (.seq (.seq (.reg c3r11) (.cond (.t 100) (.seq (.reg c3r12) .ret) .skip)) (.seq (.seq (.reg c3r13) (.seq (.reg c3r14) (.cond (.t 113) (.seq (.reg c3r15) .ret) .skip))) (.seq (.reg c3r16) (.seq (.seq (.reg c3r17) (.cond (.t 126) (.seq (.reg c3r18) .ret) .skip)) (.seq (.seq (.reg c3r19) (.blk 2 (.loop c3b25))) (.reg c3r26))))))))))) (.reg c3r27)))
def c3r29 : List AOper := [
  ⟨(some 22), none, .mv (.c (.i .i64 1))⟩]
def c3r30 : List AOper := [
  ⟨(some 148), none, .mv (.t 22)⟩,
  ⟨(some 149), none, .bin false .leq (.t 148) (.c (.i .i64 9))⟩]
def c3r31 : List AOper := [
  ⟨(some 23), none, .mv (.c (.i .i64 0))⟩,
  ⟨(some 24), none, .mv (.c (.i .i64 0))⟩]
def c3r32 : List AOper := [
  ⟨(some 25), none, .mv (.c (.i .i64 0))⟩]
def c3r33 : List AOper := [
  ⟨(some 152), none, .mv (.t 25)⟩,
  ⟨(some 153), none, .mv (.t 0)⟩,
  ⟨(some 154), none, .len (.t 153)⟩,
  ⟨(some 155), none, .bin false .lss (.t 152) (.t 154)⟩]
def c3r34 : List AOper := [
  ⟨(some 158), none, .mv (.t 0)⟩,
  ⟨(some 159), none, .mv (.t 25)⟩,
  ⟨(some 160), none, .ia 4 (.t 158) (.t 159)⟩,
  ⟨(some 161), none, .fa (.t 160) 3⟩,
  ⟨(some 162), none, .ld none (.t 161)⟩,
  ⟨(some 163), none, .mv (.t 22)⟩,
  ⟨(some 164), none, .bin false .eql (.t 162) (.t 163)⟩,
  ⟨(some 165), none, .mv (.t 164)⟩,
  ⟨(some 166), (some (165, true)), .mv (.t 0)⟩,
  ⟨(some 167), (some (165, true)), .mv (.t 25)⟩,
  ⟨(some 168), (some (165, true)), .ia 4 (.t 166) (.t 167)⟩,
  ⟨(some 169), (some (165, true)), .fa (.t 168) 1⟩,
  ⟨(some 170), (some (165, true)), .ld none (.t 169)⟩,
  ⟨(some 171), (some (165, true)), .bin false .eql (.t 170) (.c (.i .i64 1))⟩,
  ⟨(some 172), none, .pick (.t 165) (.t 171) (.c (.b false))⟩]
def c3r35 : List AOper := [
  ⟨(some 173), none, .mv (.t 23)⟩,
  ⟨(some 174), none, .bin false .add (.t 173) (.c (.i .i64 1))⟩,
  ⟨(some 23), none, .mv (.t 174)⟩]
def c3r36 : List AOper := [
  ⟨(some 175), none, .mv (.t 0)⟩,
  ⟨(some 176), none, .mv (.t 25)⟩,
  ⟨(some 177), none, .ia 4 (.t 175) (.t 176)⟩,
  ⟨(some 178), none, .fa (.t 177) 3⟩,
  ⟨(some 179), none, .ld none (.t 178)⟩,
  ⟨(some 180), none, .mv (.t 22)⟩,
  ⟨(some 181), none, .bin false .eql (.t 179) (.t 180)⟩,
  ⟨(some 182), none, .mv (.t 181)⟩,
  ⟨(some 183), (some (182, true)), .mv (.t 0)⟩,
  ⟨(some 184), (some (182, true)), .mv (.t 25)⟩,
  ⟨(some 185), (some (182, true)), .ia 4 (.t 183) (.t 184)⟩,
  ⟨(some 186), (some (182, true)), .fa (.t 185) 1⟩,
  ⟨(some 187), (some (182, true)), .ld none (.t 186)⟩,
  ⟨(some 188), (some (182, true)), .bin false .eql (.t 187) (.c (.i .i64 2))⟩,
  ⟨(some 189), none, .pick (.t 182) (.t 188) (.c (.b false))⟩]
def c3r37 : List AOper := [
  ⟨(some 190), none, .mv (.t 24)⟩,
  ⟨(some 191), none, .bin false .add (.t 190) (.c (.i .i64 1))⟩,
  ⟨(some 24), none, .mv (.t 191)⟩]
def c3r38 : List AOper := [
  ⟨(some 156), none, .mv (.t 25)⟩,
  ⟨(some 157), none, .bin false .add (.t 156) (.c (.i .i64 1))⟩,
  ⟨(some 25), none, .mv (.t 157)⟩]
abbrev c3b39 : AC := (.seq (.seq (.reg c3r33) (.cond (.t 155) .skip (.exit 6))) (.seq (.blk 7 (.seq (.seq (.reg c3r34) (.cond (.t 172) (.reg c3r35) .skip)) (.seq (.reg c3r36) (.cond (.t 189) (.reg c3r37) .skip)))) (.reg c3r38)))
def c3r40 : List AOper := [
  ⟨(some 192), none, .mv (.t 6)⟩,
  ⟨(some 193), none, .mv (.t 23)⟩,
  ⟨(some 194), none, .mv (.t 24)⟩,
  ⟨(some 195), none, .mm false (.t 193) [(.t 194)]⟩,
  ⟨(some 196), none, .bin false .add (.t 192) (.t 195)⟩,
  ⟨(some 6), none, .mv (.t 196)⟩]
def c3r41 : List AOper := [
  ⟨(some 150), none, .mv (.t 22)⟩,
  ⟨(some 151), none, .bin false .add (.t 150) (.c (.i .i64 1))⟩,
  ⟨(some 22), none, .mv (.t 151)⟩]
abbrev c3b42 : AC := (.seq (.seq (.reg c3r30) (.cond (.t 149) .skip (.exit 4))) (.seq (.blk 5 (.seq (.reg c3r31) (.seq (.seq (.reg c3r32) (.blk 6 (.loop c3b39))) (.reg c3r40)))) (.reg c3r41)))
def c3r43 : List AOper := [
  ⟨(some 198), none, .mv (.t 0)⟩,
  ⟨(some 199), none, .mv (.t 6)⟩,
  ⟨(some 200), none, .bin false .add (.t 199) (.c (.i .i64 1))⟩,
  ⟨(some 201), none, .call (.c (.fn 22 [] [])) [(.t 198), (.t 200)]⟩,
  ⟨(some 197), none, .mv (.t 201)⟩,
  ⟨(some 202), none, .ext (.t 197) 0⟩,
  ⟨(some 203), none, .ext (.t 197) 1⟩,
  ⟨(some 26), none, .mv (.t 202)⟩,
  ⟨(some 27), none, .mv (.t 203)⟩]
def c3r44 : List AOper := [
  ⟨(some 204), none, .mv (.t 5)⟩,
  ⟨(some 205), none, .mv (.t 6)⟩,
  ⟨(some 206), none, .bin false .leq (.t 204) (.t 205)⟩,
  ⟨(some 207), none, .mv (.t 206)⟩,
  ⟨(some 208), (some (207, true)), .mv (.t 27)⟩,
  ⟨(some 209), (some (207, true)), .bin false .eql (.t 208) (.c (.i .i64 4))⟩,
  ⟨(some 210), none, .pick (.t 207) (.t 209) (.c (.b false))⟩,
  ⟨(some 211), none, .mv (.t 210)⟩,
  ⟨(some 212), (some (211, true)), .call (.c (.fn 15 [] [])) []⟩,
  ⟨(some 213), none, .pick (.t 211) (.t 212) (.c (.b false))⟩,
  ⟨(some 4), none, .mv (.t 213)⟩]
abbrev c3 : AC := (.seq (.reg c3r0) (.seq (.seq (.reg c3r1) (.cond (.t 35) (.seq (.reg c3r2) .ret) .skip)) (.seq (.reg c3r3) (.seq (.reg c3r4) (.seq (.seq (.reg c3r5) (.blk 0 (.loop c3b28))) (.seq (.seq (.reg c3r29) (.blk 4 (.loop c3b42))) (.seq (.reg c3r43) (.seq (.reg c3r44) .ret))))))))
def q3 : List ARes := [.t 4]
/-! 4: pantoscope/pantoscopelaw04.TempleMore · slots 139 · [0 l, 1 more, 2 at, 3 l, 4 more, 5 at, 7 tol, 8 turn, 9 n, 10 e, 11 turned, 12 i, 13 m, 14 f, 15 k, 16 g, 17 longer, 18 k, 19 g] -/
def c4r0 : List AOper := [
  ⟨(some 4), none, .box (.t 1)⟩,
  ⟨(some 5), none, .box (.t 2)⟩,
  ⟨(some 6), none, .mv (.c (.b false))⟩]
def c4r1 : List AOper := [
  ⟨(some 20), none, .iap 2 1 (.t 5) (.c (.i .i64 0))⟩,
  ⟨(some 21), none, .ld none (.t 20)⟩,
  ⟨(some 22), none, .iap 2 1 (.t 5) (.c (.i .i64 1))⟩,
  ⟨(some 23), none, .ld none (.t 22)⟩,
  ⟨(some 24), none, .conv .u64 (.t 23)⟩,
  ⟨(some 25), none, .bin false .rem (.t 24) (.c (.i .u64 100))⟩,
  ⟨(some 26), none, .conv .i64 (.t 25)⟩,
  ⟨(some 7), none, .mv (.t 21)⟩,
  ⟨(some 8), none, .mv (.t 26)⟩]
def c4r2 : List AOper := [
  ⟨(some 27), none, .mv (.t 0)⟩,
  ⟨(some 28), none, .call (.c (.fn 23 [] [])) [(.t 27), (.c (.i .i64 40))]⟩,
  ⟨(some 29), none, .mv (.t 28)⟩,
  ⟨(some 30), (some (29, false)), .mv (.t 0)⟩,
  ⟨(some 31), (some (29, false)), .call (.c (.fn 14 [] [])) [(.t 30)]⟩,
  ⟨(some 32), (some (29, false)), .not (.t 31)⟩,
  ⟨(some 33), none, .pick (.t 29) (.c (.b true)) (.t 32)⟩,
  ⟨(some 34), none, .mv (.t 33)⟩,
  ⟨(some 35), (some (34, false)), .mv (.t 7)⟩,
  ⟨(some 36), (some (34, false)), .bin false .lss (.t 35) (.c (.i .i64 0))⟩,
  ⟨(some 37), none, .pick (.t 34) (.c (.b true)) (.t 36)⟩,
  ⟨(some 38), none, .mv (.t 37)⟩,
  ⟨(some 39), (some (38, false)), .mv (.t 7)⟩,
  ⟨(some 40), (some (38, false)), .bin false .gtr (.t 39) (.c (.i .i64 1000))⟩,
  ⟨(some 41), none, .pick (.t 38) (.c (.b true)) (.t 40)⟩]
def c4r3 : List AOper := [
  ⟨(some 42), none, .call (.c (.fn 24 [] [])) []⟩,
  ⟨(some 6), none, .mv (.t 42)⟩]
def c4r4 : List AOper := [
  ⟨(some 44), none, .mv (.t 0)⟩,
  ⟨(some 45), none, .mv (.t 7)⟩,
  ⟨(some 46), none, .call (.c (.fn 16 [] [])) [(.t 44), (.t 45)]⟩,
  ⟨(some 43), none, .mv (.t 46)⟩,
  ⟨(some 47), none, .ext (.t 43) 0⟩,
  ⟨(some 48), none, .ext (.t 43) 1⟩,
  ⟨(some 9), none, .mv (.t 47)⟩,
  ⟨(some 10), none, .mv (.t 48)⟩]
def c4r5 : List AOper := [
  ⟨(some 49), none, .mv (.t 10)⟩,
  ⟨(some 50), none, .bin false .neq (.t 49) (.c (.i .i64 0))⟩]
def c4r6 : List AOper := [
  ⟨(some 6), none, .mv (.c (.b false))⟩]
def c4r7 : List AOper := [
  ⟨(some 11), none, .mv (.c (.sl 0 0 0 0))⟩]
def c4r8 : List AOper := [
  ⟨(some 12), none, .mv (.c (.i .i64 0))⟩]
def c4r9 : List AOper := [
  ⟨(some 51), none, .mv (.t 12)⟩,
  ⟨(some 52), none, .mv (.t 0)⟩,
  ⟨(some 53), none, .len (.t 52)⟩,
  ⟨(some 54), none, .bin false .lss (.t 51) (.t 53)⟩]
def c4r10 : List AOper := [
  ⟨(some 57), none, .mv (.t 11)⟩,
  ⟨(some 58), none, .mv (.t 0)⟩,
  ⟨(some 59), none, .mv (.t 0)⟩,
  ⟨(some 60), none, .len (.t 59)⟩,
  ⟨(some 61), none, .bin false .sub (.t 60) (.c (.i .i64 1))⟩,
  ⟨(some 62), none, .mv (.t 12)⟩,
  ⟨(some 63), none, .mv (.t 8)⟩,
  ⟨(some 64), none, .bin false .add (.t 62) (.t 63)⟩,
  ⟨(some 65), none, .mv (.t 0)⟩,
  ⟨(some 66), none, .len (.t 65)⟩,
  ⟨(some 67), none, .bin false .rem (.t 64) (.t 66)⟩,
  ⟨(some 68), none, .bin false .sub (.t 61) (.t 67)⟩,
  ⟨(some 69), none, .ia 4 (.t 58) (.t 68)⟩,
  ⟨(some 70), none, .ld (some 4) (.t 69)⟩,
  ⟨(some 71), none, .bsl 4 [.i .i64 0, .i .i64 0, .i .i64 0, .i .i64 0] [(0, 4, (.t 70))]⟩,
  ⟨(some 72), none, .app 4 32 (.t 57) (.t 71)⟩,
  ⟨(some 11), none, .mv (.t 72)⟩]
def c4r11 : List AOper := [
  ⟨(some 55), none, .mv (.t 12)⟩,
  ⟨(some 56), none, .bin false .add (.t 55) (.c (.i .i64 1))⟩,
  ⟨(some 12), none, .mv (.t 56)⟩]
abbrev c4b12 : AC := (.seq (.seq (.reg c4r9) (.cond (.t 54) .skip (.exit 0))) (.seq (.blk 1 (.reg c4r10)) (.reg c4r11)))
def c4r13 : List AOper := [
  ⟨(some 74), none, .mv (.t 11)⟩,
  ⟨(some 75), none, .mv (.t 7)⟩,
  ⟨(some 76), none, .call (.c (.fn 16 [] [])) [(.t 74), (.t 75)]⟩,
  ⟨(some 73), none, .mv (.t 76)⟩,
  ⟨(some 77), none, .ext (.t 73) 0⟩,
  ⟨(some 78), none, .ext (.t 73) 1⟩,
  ⟨(some 13), none, .mv (.t 77)⟩,
  ⟨(some 14), none, .mv (.t 78)⟩]
def c4r14 : List AOper := [
  ⟨(some 79), none, .mv (.t 14)⟩,
  ⟨(some 80), none, .bin false .neq (.t 79) (.c (.i .i64 0))⟩,
  ⟨(some 81), none, .mv (.t 80)⟩,
  ⟨(some 82), (some (81, false)), .mv (.t 13)⟩,
  ⟨(some 83), (some (81, false)), .mv (.t 9)⟩,
  ⟨(some 84), (some (81, false)), .bin false .neq (.t 82) (.t 83)⟩,
  ⟨(some 85), none, .pick (.t 81) (.c (.b true)) (.t 84)⟩]
def c4r15 : List AOper := [
  ⟨(some 6), none, .mv (.c (.b false))⟩]
def c4r16 : List AOper := [
  ⟨(some 86), none, .mv (.t 7)⟩,
  ⟨(some 87), none, .bin false .lss (.t 86) (.c (.i .i64 1000))⟩]
def c4r17 : List AOper := [
  ⟨(some 89), none, .mv (.t 0)⟩,
  ⟨(some 90), none, .mv (.t 7)⟩,
  ⟨(some 91), none, .bin false .add (.t 90) (.c (.i .i64 1))⟩,
  ⟨(some 92), none, .call (.c (.fn 16 [] [])) [(.t 89), (.t 91)]⟩,
  ⟨(some 88), none, .mv (.t 92)⟩,
  ⟨(some 93), none, .ext (.t 88) 0⟩,
  ⟨(some 94), none, .ext (.t 88) 1⟩,
  ⟨(some 15), none, .mv (.t 93)⟩,
  ⟨(some 16), none, .mv (.t 94)⟩]
def c4r18 : List AOper := [
  ⟨(some 95), none, .mv (.t 16)⟩,
  ⟨(some 96), none, .bin false .neq (.t 95) (.c (.i .i64 0))⟩,
  ⟨(some 97), none, .mv (.t 96)⟩,
  ⟨(some 98), (some (97, false)), .mv (.t 15)⟩,
  ⟨(some 99), (some (97, false)), .mv (.t 9)⟩,
  ⟨(some 100), (some (97, false)), .bin false .lss (.t 98) (.t 99)⟩,
  ⟨(some 101), none, .pick (.t 97) (.c (.b true)) (.t 100)⟩]
def c4r19 : List AOper := [
  ⟨(some 6), none, .mv (.c (.b false))⟩]
def c4r20 : List AOper := [
  ⟨(some 17), none, .mv (.c (.sl 0 0 0 0))⟩]
def c4r21 : List AOper := [
  ⟨(some 102), none, .mv (.t 17)⟩,
  ⟨(some 103), none, .mv (.t 0)⟩,
  ⟨(some 104), none, .app 4 32 (.t 102) (.t 103)⟩,
  ⟨(some 17), none, .mv (.t 104)⟩]
def c4r22 : List AOper := [
  ⟨(some 105), none, .mv (.t 17)⟩,
  ⟨(some 106), none, .ld (some 4) (.t 4)⟩,
  ⟨(some 107), none, .bsl 4 [.i .i64 0, .i .i64 0, .i .i64 0, .i .i64 0] [(0, 4, (.t 106))]⟩,
  ⟨(some 108), none, .app 4 32 (.t 105) (.t 107)⟩,
  ⟨(some 17), none, .mv (.t 108)⟩]
def c4r23 : List AOper := [
  ⟨(some 110), none, .mv (.t 17)⟩,
  ⟨(some 111), none, .mv (.t 7)⟩,
  ⟨(some 112), none, .call (.c (.fn 16 [] [])) [(.t 110), (.t 111)]⟩,
  ⟨(some 109), none, .mv (.t 112)⟩,
  ⟨(some 113), none, .ext (.t 109) 0⟩,
  ⟨(some 114), none, .ext (.t 109) 1⟩,
  ⟨(some 18), none, .mv (.t 113)⟩,
  ⟨(some 19), none, .mv (.t 114)⟩]
def c4r24 : List AOper := [
  ⟨(some 115), none, .mv (.t 17)⟩,
  ⟨(some 116), none, .call (.c (.fn 14 [] [])) [(.t 115)]⟩,
  ⟨(some 117), none, .not (.t 116)⟩]
def c4r25 : List AOper := [
  ⟨(some 118), none, .mv (.t 19)⟩,
  ⟨(some 119), none, .bin false .eql (.t 118) (.c (.i .i64 40))⟩,
  ⟨(some 120), none, .mv (.t 119)⟩,
  ⟨(some 121), (some (120, true)), .call (.c (.fn 24 [] [])) []⟩,
  ⟨(some 122), none, .pick (.t 120) (.t 121) (.c (.b false))⟩,
  ⟨(some 6), none, .mv (.t 122)⟩]
def c4r26 : List AOper := [
  ⟨(some 123), none, .mv (.t 19)⟩,
  ⟨(some 124), none, .bin false .eql (.t 123) (.c (.i .i64 0))⟩,
  ⟨(some 125), none, .mv (.t 124)⟩,
  ⟨(some 126), (some (125, true)), .mv (.t 18)⟩,
  ⟨(some 127), (some (125, true)), .mv (.t 9)⟩,
  ⟨(some 128), (some (125, true)), .bin false .eql (.t 126) (.t 127)⟩,
  ⟨(some 129), (some (125, true)), .mv (.t 128)⟩,
  ⟨(some 130), (some (129, false)), .mv (.t 18)⟩,
  ⟨(some 131), (some (129, false)), .mv (.t 9)⟩,
  ⟨(some 132), (some (129, false)), .bin false .add (.t 131) (.c (.i .i64 1))⟩,
  ⟨(some 133), (some (129, false)), .bin false .eql (.t 130) (.t 132)⟩,
  ⟨(some 134), (some (125, true)), .pick (.t 129) (.c (.b true)) (.t 133)⟩,
  ⟨(some 135), none, .pick (.t 125) (.t 134) (.c (.b false))⟩,
  ⟨(some 136), none, .mv (.t 135)⟩,
  ⟨(some 137), (some (136, true)), .call (.c (.fn 24 [] [])) []⟩,
  ⟨(some 138), none, .pick (.t 136) (.t 137) (.c (.b false))⟩,
  ⟨(some 6), none, .mv (.t 138)⟩]
abbrev c4 : AC := (.seq (.reg c4r0) (.seq (.head 8 c4r1) (.seq (.seq (.reg c4r2) (.cond (.t 41) (.seq (.reg c4r3) .ret) .skip)) (.seq (.reg c4r4) (.seq (.seq (.reg c4r5) (.cond (.t 50) (.seq (.reg c4r6) .ret) .skip)) (.seq (.reg c4r7) (.seq (.seq (.reg c4r8) (.blk 0 (.loop c4b12))) (.seq (.reg c4r13) (.seq (.seq (.reg c4r14) (.cond (.t 85) (.seq (.reg c4r15) .ret) .skip)) (.seq (.seq (.reg c4r16) (.cond (.t 87) (.seq (.reg c4r17) (.seq (.reg c4r18) (.cond (.t 101) (.seq (.reg c4r19) .ret) .skip))) .skip)) (.seq (.reg c4r20) (.seq (.reg c4r21) (.seq (.reg c4r22) (.seq (.reg c4r23) (.seq (.seq (.reg c4r24) (.cond (.t 117) (.seq (.reg c4r25) .ret) .skip)) (.seq (.reg c4r26) .ret))))))))))))))))
def q4 : List ARes := [.t 6]
/-! 5: pantoscope/pantoscopelaw04.TempleValid · slots 52 · [0 l, 1 two, 2 tol, 3 l, 4 two, 5 tol, 7 a, 8 b, 9 x, 10 e, 11 y, 12 f] -/
def c5r0 : List AOper := [
  ⟨(some 4), none, .box (.t 1)⟩,
  ⟨(some 6), none, .mv (.c (.b false))⟩]
def c5r1 : List AOper := [
  ⟨(some 13), none, .iap 2 4 (.t 4) (.c (.i .i64 0))⟩,
  ⟨(some 14), none, .ld (some 4) (.t 13)⟩,
  ⟨(some 15), none, .iap 2 4 (.t 4) (.c (.i .i64 1))⟩,
  ⟨(some 16), none, .ld (some 4) (.t 15)⟩,
  ⟨(some 7), none, .alloc [.i .i64 0, .i .i64 0, .i .i64 0, .i .i64 0]⟩,
  ⟨(some 8), none, .alloc [.i .i64 0, .i .i64 0, .i .i64 0, .i .i64 0]⟩,
  ⟨none, none, .sto (some 4) (.t 7) (.t 14)⟩,
  ⟨none, none, .sto (some 4) (.t 8) (.t 16)⟩]
def c5r2 : List AOper := [
  ⟨(some 17), none, .mv (.t 0)⟩,
  ⟨(some 18), none, .call (.c (.fn 23 [] [])) [(.t 17), (.c (.i .i64 70))]⟩]
def c5r3 : List AOper := [
  ⟨(some 19), none, .call (.c (.fn 24 [] [])) []⟩,
  ⟨(some 6), none, .mv (.t 19)⟩]
def c5r4 : List AOper := [
  ⟨(some 21), none, .ld (some 4) (.t 7)⟩,
  ⟨(some 22), none, .ld (some 4) (.t 8)⟩,
  ⟨(some 23), none, .mv (.t 2)⟩,
  ⟨(some 24), none, .call (.c (.fn 25 [] [])) [(.t 21), (.t 22), (.t 23)]⟩,
  ⟨(some 20), none, .mv (.t 24)⟩,
  ⟨(some 25), none, .ext (.t 20) 0⟩,
  ⟨(some 26), none, .ext (.t 20) 1⟩,
  ⟨(some 9), none, .mv (.t 25)⟩,
  ⟨(some 10), none, .mv (.t 26)⟩]
def c5r5 : List AOper := [
  ⟨(some 28), none, .ld (some 4) (.t 7)⟩,
  ⟨(some 29), none, .ld (some 4) (.t 8)⟩,
  ⟨(some 30), none, .mv (.t 2)⟩,
  ⟨(some 31), none, .call (.c (.fn 26 [] [])) [(.t 28), (.t 29), (.t 30)]⟩,
  ⟨(some 27), none, .mv (.t 31)⟩,
  ⟨(some 32), none, .ext (.t 27) 0⟩,
  ⟨(some 33), none, .ext (.t 27) 1⟩,
  ⟨(some 11), none, .mv (.t 32)⟩,
  ⟨(some 12), none, .mv (.t 33)⟩]
def c5r6 : List AOper := [
  ⟨(some 34), none, .mv (.t 0)⟩,
  ⟨(some 35), none, .call (.c (.fn 27 [] [])) [(.t 34)]⟩,
  ⟨(some 36), none, .mv (.t 0)⟩,
  ⟨(some 37), none, .call (.c (.fn 14 [] [])) [(.t 36)]⟩,
  ⟨(some 38), none, .bin true .eql (.t 35) (.t 37)⟩,
  ⟨(some 39), none, .mv (.t 38)⟩,
  ⟨(some 40), (some (39, true)), .mv (.t 9)⟩,
  ⟨(some 41), (some (39, true)), .mv (.t 11)⟩,
  ⟨(some 42), (some (39, true)), .bin true .eql (.t 40) (.t 41)⟩,
  ⟨(some 43), none, .pick (.t 39) (.t 42) (.c (.b false))⟩,
  ⟨(some 44), none, .mv (.t 43)⟩,
  ⟨(some 45), (some (44, true)), .mv (.t 10)⟩,
  ⟨(some 46), (some (44, true)), .mv (.t 12)⟩,
  ⟨(some 47), (some (44, true)), .bin false .eql (.t 45) (.t 46)⟩,
  ⟨(some 48), none, .pick (.t 44) (.t 47) (.c (.b false))⟩,
  ⟨(some 49), none, .mv (.t 48)⟩,
  ⟨(some 50), (some (49, true)), .call (.c (.fn 24 [] [])) []⟩,
  ⟨(some 51), none, .pick (.t 49) (.t 50) (.c (.b false))⟩,
  ⟨(some 6), none, .mv (.t 51)⟩]
abbrev c5 : AC := (.seq (.reg c5r0) (.seq (.head 7 c5r1) (.seq (.seq (.reg c5r2) (.cond (.t 18) (.seq (.reg c5r3) .ret) .skip)) (.seq (.reg c5r4) (.seq (.reg c5r5) (.seq (.reg c5r6) .ret))))))
def q5 : List ARes := [.t 6]
/-! 6: pantoscope/pantoscopelaw04.TempleMatches · slots 87 · [0 l, 1 tol, 2 l, 3 tol, 5 p, 6 e, 7 q, 8 f, 9 n, 10 g, 11 m, 12 h, 13 r, 14 i, 15 s, 16 j] -/
def c6r0 : List AOper := [
  ⟨(some 4), none, .mv (.c (.b false))⟩]
def c6r1 : List AOper := [
  ⟨(some 17), none, .mv (.t 0)⟩,
  ⟨(some 18), none, .call (.c (.fn 23 [] [])) [(.t 17), (.c (.i .i64 40))]⟩]
def c6r2 : List AOper := [
  ⟨(some 19), none, .call (.c (.fn 24 [] [])) []⟩,
  ⟨(some 4), none, .mv (.t 19)⟩]
def c6r3 : List AOper := [
  ⟨(some 21), none, .mv (.t 0)⟩,
  ⟨(some 22), none, .mv (.t 1)⟩,
  ⟨(some 23), none, .call (.c (.fn 17 [] [])) [(.t 21), (.t 22)]⟩,
  ⟨(some 20), none, .mv (.t 23)⟩,
  ⟨(some 24), none, .ext (.t 20) 0⟩,
  ⟨(some 25), none, .ext (.t 20) 1⟩,
  ⟨(some 5), none, .mv (.t 24)⟩,
  ⟨(some 6), none, .mv (.t 25)⟩]
def c6r4 : List AOper := [
  ⟨(some 27), none, .mv (.t 0)⟩,
  ⟨(some 28), none, .mv (.t 1)⟩,
  ⟨(some 29), none, .call (.c (.fn 28 [] [])) [(.t 27), (.t 28)]⟩,
  ⟨(some 26), none, .mv (.t 29)⟩,
  ⟨(some 30), none, .ext (.t 26) 0⟩,
  ⟨(some 31), none, .ext (.t 26) 1⟩,
  ⟨(some 7), none, .mv (.t 30)⟩,
  ⟨(some 8), none, .mv (.t 31)⟩]
def c6r5 : List AOper := [
  ⟨(some 33), none, .mv (.t 0)⟩,
  ⟨(some 34), none, .mv (.t 1)⟩,
  ⟨(some 35), none, .call (.c (.fn 16 [] [])) [(.t 33), (.t 34)]⟩,
  ⟨(some 32), none, .mv (.t 35)⟩,
  ⟨(some 36), none, .ext (.t 32) 0⟩,
  ⟨(some 37), none, .ext (.t 32) 1⟩,
  ⟨(some 9), none, .mv (.t 36)⟩,
  ⟨(some 10), none, .mv (.t 37)⟩]
def c6r6 : List AOper := [
  ⟨(some 39), none, .mv (.t 0)⟩,
  ⟨(some 40), none, .mv (.t 1)⟩,
  ⟨(some 41), none, .call (.c (.fn 29 [] [])) [(.t 39), (.t 40)]⟩,
  ⟨(some 38), none, .mv (.t 41)⟩,
  ⟨(some 42), none, .ext (.t 38) 0⟩,
  ⟨(some 43), none, .ext (.t 38) 1⟩,
  ⟨(some 11), none, .mv (.t 42)⟩,
  ⟨(some 12), none, .mv (.t 43)⟩]
def c6r7 : List AOper := [
  ⟨(some 45), none, .mv (.t 0)⟩,
  ⟨(some 46), none, .mv (.t 1)⟩,
  ⟨(some 47), none, .call (.c (.fn 30 [] [])) [(.t 45), (.t 46)]⟩,
  ⟨(some 44), none, .mv (.t 47)⟩,
  ⟨(some 48), none, .ext (.t 44) 0⟩,
  ⟨(some 49), none, .ext (.t 44) 1⟩,
  ⟨(some 13), none, .mv (.t 48)⟩,
  ⟨(some 14), none, .mv (.t 49)⟩]
def c6r8 : List AOper := [
  ⟨(some 51), none, .mv (.t 0)⟩,
  ⟨(some 52), none, .mv (.t 1)⟩,
  ⟨(some 53), none, .call (.c (.fn 31 [] [])) [(.t 51), (.t 52)]⟩,
  ⟨(some 50), none, .mv (.t 53)⟩,
  ⟨(some 54), none, .ext (.t 50) 0⟩,
  ⟨(some 55), none, .ext (.t 50) 1⟩,
  ⟨(some 15), none, .mv (.t 54)⟩,
  ⟨(some 16), none, .mv (.t 55)⟩]
def c6r9 : List AOper := [
  ⟨(some 56), none, .mv (.t 5)⟩,
  ⟨(some 57), none, .mv (.t 7)⟩,
  ⟨(some 58), none, .call (.c (.fn 32 [] [])) [(.t 56), (.t 57)]⟩,
  ⟨(some 59), none, .mv (.t 58)⟩,
  ⟨(some 60), (some (59, true)), .mv (.t 6)⟩,
  ⟨(some 61), (some (59, true)), .mv (.t 8)⟩,
  ⟨(some 62), (some (59, true)), .bin false .eql (.t 60) (.t 61)⟩,
  ⟨(some 63), none, .pick (.t 59) (.t 62) (.c (.b false))⟩,
  ⟨(some 64), none, .mv (.t 63)⟩,
  ⟨(some 65), (some (64, true)), .mv (.t 9)⟩,
  ⟨(some 66), (some (64, true)), .mv (.t 11)⟩,
  ⟨(some 67), (some (64, true)), .bin false .eql (.t 65) (.t 66)⟩,
  ⟨(some 68), none, .pick (.t 64) (.t 67) (.c (.b false))⟩,
  ⟨(some 69), none, .mv (.t 68)⟩,
  ⟨(some 70), (some (69, true)), .mv (.t 10)⟩,
  ⟨(some 71), (some (69, true)), .mv (.t 12)⟩,
  ⟨(some 72), (some (69, true)), .bin false .eql (.t 70) (.t 71)⟩,
  ⟨(some 73), none, .pick (.t 69) (.t 72) (.c (.b false))⟩,
  ⟨(some 74), none, .mv (.t 73)⟩,
  ⟨(some 75), (some (74, true)), .mv (.t 13)⟩,
  ⟨(some 76), (some (74, true)), .mv (.t 15)⟩,
  ⟨(some 77), (some (74, true)), .call (.c (.fn 33 [] [])) [(.t 75), (.t 76)]⟩,
  ⟨(some 78), none, .pick (.t 74) (.t 77) (.c (.b false))⟩,
  ⟨(some 79), none, .mv (.t 78)⟩,
  ⟨(some 80), (some (79, true)), .mv (.t 14)⟩,
  ⟨(some 81), (some (79, true)), .mv (.t 16)⟩,
  ⟨(some 82), (some (79, true)), .bin false .eql (.t 80) (.t 81)⟩,
  ⟨(some 83), none, .pick (.t 79) (.t 82) (.c (.b false))⟩,
  ⟨(some 84), none, .mv (.t 83)⟩,
  ⟨(some 85), (some (84, true)), .call (.c (.fn 24 [] [])) []⟩,
  ⟨(some 86), none, .pick (.t 84) (.t 85) (.c (.b false))⟩,
  ⟨(some 4), none, .mv (.t 86)⟩]
abbrev c6 : AC := (.seq (.reg c6r0) (.seq (.seq (.reg c6r1) (.cond (.t 18) (.seq (.reg c6r2) .ret) .skip)) (.seq (.reg c6r3) (.seq (.reg c6r4) (.seq (.reg c6r5) (.seq (.reg c6r6) (.seq (.reg c6r7) (.seq (.reg c6r8) (.seq (.reg c6r9) .ret)))))))))
def q6 : List ARes := [.t 4]
theorem fn6 : fnOf Try.prog 6 = some (c6, q6, 87) := by kernel_rfl
/-! 7: pantoscope/pantoscopelaw04.TempleWears · slots 138 · [0 h, 1 f, 2 n, 3 h, 4 f, 5 n, 7 a, 8 e, 9 b, 10 g, 11 c, 12 i, 13 d, 14 j] -/
def c7r0 : List AOper := [
  ⟨(some 3), none, .box (.t 0)⟩,
  ⟨(some 4), none, .box (.t 1)⟩,
  ⟨(some 5), none, .box (.t 2)⟩,
  ⟨(some 6), none, .mv (.c (.b false))⟩]
def c7r1 : List AOper := [
  ⟨(some 15), none, .ld (some 4) (.t 3)⟩,
  ⟨(some 16), none, .call (.c (.fn 34 [] [])) [(.t 15)]⟩,
  ⟨(some 17), none, .not (.t 16)⟩,
  ⟨(some 18), none, .mv (.t 17)⟩,
  ⟨(some 19), (some (18, false)), .iap 2 1 (.t 5) (.c (.i .i64 0))⟩,
  ⟨(some 20), (some (18, false)), .ld none (.t 19)⟩,
  ⟨(some 21), (some (18, false)), .bin false .lss (.t 20) (.c (.i .i64 0))⟩,
  ⟨(some 22), none, .pick (.t 18) (.c (.b true)) (.t 21)⟩,
  ⟨(some 23), none, .mv (.t 22)⟩,
  ⟨(some 24), (some (23, false)), .iap 2 1 (.t 5) (.c (.i .i64 1))⟩,
  ⟨(some 25), (some (23, false)), .ld none (.t 24)⟩,
  ⟨(some 26), (some (23, false)), .bin false .lss (.t 25) (.c (.i .i64 0))⟩,
  ⟨(some 27), none, .pick (.t 23) (.c (.b true)) (.t 26)⟩,
  ⟨(some 28), none, .mv (.t 27)⟩,
  ⟨(some 29), (some (28, false)), .iap 2 1 (.t 5) (.c (.i .i64 0))⟩,
  ⟨(some 30), (some (28, false)), .ld none (.t 29)⟩,
  ⟨(some 31), (some (28, false)), .bin false .gtr (.t 30) (.c (.i .i64 2000))⟩,
  ⟨(some 32), none, .pick (.t 28) (.c (.b true)) (.t 31)⟩,
  ⟨(some 33), none, .mv (.t 32)⟩,
  ⟨(some 34), (some (33, false)), .iap 2 1 (.t 5) (.c (.i .i64 1))⟩,
  ⟨(some 35), (some (33, false)), .ld none (.t 34)⟩,
  ⟨(some 36), (some (33, false)), .bin false .gtr (.t 35) (.c (.i .i64 2000))⟩,
  ⟨(some 37), none, .pick (.t 33) (.c (.b true)) (.t 36)⟩,
  ⟨(some 38), none, .mv (.t 37)⟩,
  ⟨(some 39), (some (38, false)), .iap 2 1 (.t 4) (.c (.i .i64 0))⟩,
  ⟨(some 40), (some (38, false)), .ld none (.t 39)⟩,
  ⟨(some 41), (some (38, false)), .bin false .lss (.t 40) (.c (.i .i64 0))⟩,
  ⟨(some 42), none, .pick (.t 38) (.c (.b true)) (.t 41)⟩,
  ⟨(some 43), none, .mv (.t 42)⟩,
  ⟨(some 44), (some (43, false)), .iap 2 1 (.t 4) (.c (.i .i64 0))⟩,
  ⟨(some 45), (some (43, false)), .ld none (.t 44)⟩,
  ⟨(some 46), (some (43, false)), .iap 2 1 (.t 4) (.c (.i .i64 1))⟩,
  ⟨(some 47), (some (43, false)), .ld none (.t 46)⟩,
  ⟨(some 48), (some (43, false)), .bin false .gtr (.t 45) (.t 47)⟩,
  ⟨(some 49), none, .pick (.t 43) (.c (.b true)) (.t 48)⟩,
  ⟨(some 50), none, .mv (.t 49)⟩,
  ⟨(some 51), (some (50, false)), .iap 2 1 (.t 4) (.c (.i .i64 1))⟩,
  ⟨(some 52), (some (50, false)), .ld none (.t 51)⟩,
  ⟨(some 53), (some (50, false)), .fa (.t 3) 1⟩,
  ⟨(some 54), (some (50, false)), .ld none (.t 53)⟩,
  ⟨(some 55), (some (50, false)), .bin false .gtr (.t 52) (.t 54)⟩,
  ⟨(some 56), none, .pick (.t 50) (.c (.b true)) (.t 55)⟩]
def c7r2 : List AOper := [
  ⟨(some 57), none, .call (.c (.fn 24 [] [])) []⟩,
  ⟨(some 6), none, .mv (.t 57)⟩]
def c7r3 : List AOper := [
  ⟨(some 59), none, .ld (some 4) (.t 3)⟩,
  ⟨(some 60), none, .iap 2 1 (.t 4) (.c (.i .i64 0))⟩,
  ⟨(some 61), none, .ld none (.t 60)⟩,
  ⟨(some 62), none, .iap 2 1 (.t 5) (.c (.i .i64 0))⟩,
  ⟨(some 63), none, .ld none (.t 62)⟩,
  ⟨(some 64), none, .call (.c (.fn 35 [] [])) [(.t 59), (.t 61), (.t 63)]⟩,
  ⟨(some 58), none, .mv (.t 64)⟩,
  ⟨(some 65), none, .ext (.t 58) 0⟩,
  ⟨(some 66), none, .ext (.t 58) 1⟩,
  ⟨(some 7), none, .mv (.t 65)⟩,
  ⟨(some 8), none, .mv (.t 66)⟩]
def c7r4 : List AOper := [
  ⟨(some 68), none, .ld (some 4) (.t 3)⟩,
  ⟨(some 69), none, .iap 2 1 (.t 4) (.c (.i .i64 1))⟩,
  ⟨(some 70), none, .ld none (.t 69)⟩,
  ⟨(some 71), none, .iap 2 1 (.t 5) (.c (.i .i64 0))⟩,
  ⟨(some 72), none, .ld none (.t 71)⟩,
  ⟨(some 73), none, .call (.c (.fn 35 [] [])) [(.t 68), (.t 70), (.t 72)]⟩,
  ⟨(some 67), none, .mv (.t 73)⟩,
  ⟨(some 74), none, .ext (.t 67) 0⟩,
  ⟨(some 75), none, .ext (.t 67) 1⟩,
  ⟨(some 9), none, .mv (.t 74)⟩,
  ⟨(some 10), none, .mv (.t 75)⟩]
def c7r5 : List AOper := [
  ⟨(some 77), none, .ld (some 4) (.t 3)⟩,
  ⟨(some 78), none, .mv (.t 7)⟩,
  ⟨(some 79), none, .iap 2 1 (.t 5) (.c (.i .i64 1))⟩,
  ⟨(some 80), none, .ld none (.t 79)⟩,
  ⟨(some 81), none, .call (.c (.fn 35 [] [])) [(.t 77), (.t 78), (.t 80)]⟩,
  ⟨(some 76), none, .mv (.t 81)⟩,
  ⟨(some 82), none, .ext (.t 76) 0⟩,
  ⟨(some 83), none, .ext (.t 76) 1⟩,
  ⟨(some 11), none, .mv (.t 82)⟩,
  ⟨(some 12), none, .mv (.t 83)⟩]
def c7r6 : List AOper := [
  ⟨(some 85), none, .ld (some 4) (.t 3)⟩,
  ⟨(some 86), none, .iap 2 1 (.t 4) (.c (.i .i64 0))⟩,
  ⟨(some 87), none, .ld none (.t 86)⟩,
  ⟨(some 88), none, .iap 2 1 (.t 5) (.c (.i .i64 0))⟩,
  ⟨(some 89), none, .ld none (.t 88)⟩,
  ⟨(some 90), none, .iap 2 1 (.t 5) (.c (.i .i64 1))⟩,
  ⟨(some 91), none, .ld none (.t 90)⟩,
  ⟨(some 92), none, .bin false .add (.t 89) (.t 91)⟩,
  ⟨(some 93), none, .call (.c (.fn 35 [] [])) [(.t 85), (.t 87), (.t 92)]⟩,
  ⟨(some 84), none, .mv (.t 93)⟩,
  ⟨(some 94), none, .ext (.t 84) 0⟩,
  ⟨(some 95), none, .ext (.t 84) 1⟩,
  ⟨(some 13), none, .mv (.t 94)⟩,
  ⟨(some 14), none, .mv (.t 95)⟩]
def c7r7 : List AOper := [
  ⟨(some 96), none, .mv (.t 8)⟩,
  ⟨(some 97), none, .bin false .eql (.t 96) (.c (.i .i64 0))⟩,
  ⟨(some 98), none, .mv (.t 97)⟩,
  ⟨(some 99), (some (98, true)), .mv (.t 10)⟩,
  ⟨(some 100), (some (98, true)), .bin false .eql (.t 99) (.c (.i .i64 0))⟩,
  ⟨(some 101), none, .pick (.t 98) (.t 100) (.c (.b false))⟩,
  ⟨(some 102), none, .mv (.t 101)⟩,
  ⟨(some 103), (some (102, true)), .mv (.t 12)⟩,
  ⟨(some 104), (some (102, true)), .bin false .eql (.t 103) (.c (.i .i64 0))⟩,
  ⟨(some 105), none, .pick (.t 102) (.t 104) (.c (.b false))⟩,
  ⟨(some 106), none, .mv (.t 105)⟩,
  ⟨(some 107), (some (106, true)), .mv (.t 14)⟩,
  ⟨(some 108), (some (106, true)), .bin false .eql (.t 107) (.c (.i .i64 0))⟩,
  ⟨(some 109), none, .pick (.t 106) (.t 108) (.c (.b false))⟩,
  ⟨(some 110), none, .mv (.t 109)⟩,
  ⟨(some 111), (some (110, true)), .mv (.t 7)⟩,
  ⟨(some 112), (some (110, true)), .mv (.t 9)⟩,
  ⟨(some 113), (some (110, true)), .bin false .leq (.t 111) (.t 112)⟩,
  ⟨(some 114), none, .pick (.t 110) (.t 113) (.c (.b false))⟩,
  ⟨(some 115), none, .mv (.t 114)⟩,
  ⟨(some 116), (some (115, true)), .mv (.t 7)⟩,
  ⟨(some 117), (some (115, true)), .iap 2 1 (.t 4) (.c (.i .i64 0))⟩,
  ⟨(some 118), (some (115, true)), .ld none (.t 117)⟩,
  ⟨(some 119), (some (115, true)), .bin false .leq (.t 116) (.t 118)⟩,
  ⟨(some 120), none, .pick (.t 115) (.t 119) (.c (.b false))⟩,
  ⟨(some 121), none, .mv (.t 120)⟩,
  ⟨(some 122), (some (121, true)), .mv (.t 7)⟩,
  ⟨(some 123), (some (121, true)), .bin false .geq (.t 122) (.c (.i .i64 0))⟩,
  ⟨(some 124), none, .pick (.t 121) (.t 123) (.c (.b false))⟩,
  ⟨(some 125), none, .mv (.t 124)⟩,
  ⟨(some 126), (some (125, true)), .mv (.t 11)⟩,
  ⟨(some 127), (some (125, true)), .mv (.t 13)⟩,
  ⟨(some 128), (some (125, true)), .bin false .eql (.t 126) (.t 127)⟩,
  ⟨(some 129), none, .pick (.t 125) (.t 128) (.c (.b false))⟩,
  ⟨(some 130), none, .mv (.t 129)⟩,
  ⟨(some 131), (some (130, true)), .mv (.t 11)⟩,
  ⟨(some 132), (some (130, true)), .mv (.t 7)⟩,
  ⟨(some 133), (some (130, true)), .bin false .leq (.t 131) (.t 132)⟩,
  ⟨(some 134), none, .pick (.t 130) (.t 133) (.c (.b false))⟩,
  ⟨(some 135), none, .mv (.t 134)⟩,
  ⟨(some 136), (some (135, true)), .call (.c (.fn 24 [] [])) []⟩,
  ⟨(some 137), none, .pick (.t 135) (.t 136) (.c (.b false))⟩,
  ⟨(some 6), none, .mv (.t 137)⟩]
abbrev c7 : AC := (.seq (.reg c7r0) (.seq (.seq (.reg c7r1) (.cond (.t 56) (.seq (.reg c7r2) .ret) .skip)) (.seq (.reg c7r3) (.seq (.reg c7r4) (.seq (.reg c7r5) (.seq (.reg c7r6) (.seq (.reg c7r7) .ret)))))))
def q7 : List ARes := [.t 6]
/-! 8: pantoscope/pantoscopelaw04.TempleTolerances · slots 71 · [0 l, 1 n, 2 l, 3 n, 5 t, 6 e, 7 u, 8 f, 9 m, 10 g, 11 k, 12 h] -/
def c8r0 : List AOper := [
  ⟨(some 4), none, .mv (.c (.b false))⟩]
def c8r1 : List AOper := [
  ⟨(some 13), none, .mv (.t 0)⟩,
  ⟨(some 14), none, .call (.c (.fn 23 [] [])) [(.t 13), (.c (.i .i64 24))]⟩]
def c8r2 : List AOper := [
  ⟨(some 15), none, .call (.c (.fn 24 [] [])) []⟩,
  ⟨(some 4), none, .mv (.t 15)⟩]
def c8r3 : List AOper := [
  ⟨(some 17), none, .mv (.t 0)⟩,
  ⟨(some 18), none, .mv (.t 1)⟩,
  ⟨(some 19), none, .call (.c (.fn 22 [] [])) [(.t 17), (.t 18)]⟩,
  ⟨(some 16), none, .mv (.t 19)⟩,
  ⟨(some 20), none, .ext (.t 16) 0⟩,
  ⟨(some 21), none, .ext (.t 16) 1⟩,
  ⟨(some 5), none, .mv (.t 20)⟩,
  ⟨(some 6), none, .mv (.t 21)⟩]
def c8r4 : List AOper := [
  ⟨(some 23), none, .mv (.t 0)⟩,
  ⟨(some 24), none, .mv (.t 1)⟩,
  ⟨(some 25), none, .call (.c (.fn 36 [] [])) [(.t 23), (.t 24)]⟩,
  ⟨(some 22), none, .mv (.t 25)⟩,
  ⟨(some 26), none, .ext (.t 22) 0⟩,
  ⟨(some 27), none, .ext (.t 22) 1⟩,
  ⟨(some 7), none, .mv (.t 26)⟩,
  ⟨(some 8), none, .mv (.t 27)⟩]
def c8r5 : List AOper := [
  ⟨(some 28), none, .mv (.t 5)⟩,
  ⟨(some 29), none, .mv (.t 7)⟩,
  ⟨(some 30), none, .bin false .neq (.t 28) (.t 29)⟩,
  ⟨(some 31), none, .mv (.t 30)⟩,
  ⟨(some 32), (some (31, false)), .mv (.t 6)⟩,
  ⟨(some 33), (some (31, false)), .mv (.t 8)⟩,
  ⟨(some 34), (some (31, false)), .bin false .neq (.t 32) (.t 33)⟩,
  ⟨(some 35), none, .pick (.t 31) (.c (.b true)) (.t 34)⟩,
  ⟨(some 36), none, .mv (.t 35)⟩,
  ⟨(some 37), (some (36, false)), .call (.c (.fn 24 [] [])) []⟩,
  ⟨(some 38), (some (36, false)), .not (.t 37)⟩,
  ⟨(some 39), none, .pick (.t 36) (.c (.b true)) (.t 38)⟩]
def c8r6 : List AOper := [
  ⟨(some 4), none, .mv (.c (.b false))⟩]
def c8r7 : List AOper := [
  ⟨(some 40), none, .mv (.t 6)⟩,
  ⟨(some 41), none, .bin false .neq (.t 40) (.c (.i .i64 0))⟩]
def c8r8 : List AOper := [
  ⟨(some 4), none, .mv (.c (.b true))⟩]
def c8r9 : List AOper := [
  ⟨(some 43), none, .mv (.t 0)⟩,
  ⟨(some 44), none, .mv (.t 5)⟩,
  ⟨(some 45), none, .call (.c (.fn 16 [] [])) [(.t 43), (.t 44)]⟩,
  ⟨(some 42), none, .mv (.t 45)⟩,
  ⟨(some 46), none, .ext (.t 42) 0⟩,
  ⟨(some 47), none, .ext (.t 42) 1⟩,
  ⟨(some 9), none, .mv (.t 46)⟩,
  ⟨(some 10), none, .mv (.t 47)⟩]
def c8r10 : List AOper := [
  ⟨(some 48), none, .mv (.t 10)⟩,
  ⟨(some 49), none, .bin false .neq (.t 48) (.c (.i .i64 0))⟩,
  ⟨(some 50), none, .mv (.t 49)⟩,
  ⟨(some 51), (some (50, false)), .mv (.t 9)⟩,
  ⟨(some 52), (some (50, false)), .mv (.t 1)⟩,
  ⟨(some 53), (some (50, false)), .bin false .lss (.t 51) (.t 52)⟩,
  ⟨(some 54), none, .pick (.t 50) (.c (.b true)) (.t 53)⟩]
def c8r11 : List AOper := [
  ⟨(some 4), none, .mv (.c (.b false))⟩]
def c8r12 : List AOper := [
  ⟨(some 55), none, .mv (.t 5)⟩,
  ⟨(some 56), none, .bin false .eql (.t 55) (.c (.i .i64 0))⟩]
def c8r13 : List AOper := [
  ⟨(some 4), none, .mv (.c (.b true))⟩]
def c8r14 : List AOper := [
  ⟨(some 58), none, .mv (.t 0)⟩,
  ⟨(some 59), none, .mv (.t 5)⟩,
  ⟨(some 60), none, .bin false .sub (.t 59) (.c (.i .i64 1))⟩,
  ⟨(some 61), none, .call (.c (.fn 16 [] [])) [(.t 58), (.t 60)]⟩,
  ⟨(some 57), none, .mv (.t 61)⟩,
  ⟨(some 62), none, .ext (.t 57) 0⟩,
  ⟨(some 63), none, .ext (.t 57) 1⟩,
  ⟨(some 11), none, .mv (.t 62)⟩,
  ⟨(some 12), none, .mv (.t 63)⟩]
def c8r15 : List AOper := [
  ⟨(some 64), none, .mv (.t 12)⟩,
  ⟨(some 65), none, .bin false .eql (.t 64) (.c (.i .i64 0))⟩,
  ⟨(some 66), none, .mv (.t 65)⟩,
  ⟨(some 67), (some (66, true)), .mv (.t 11)⟩,
  ⟨(some 68), (some (66, true)), .mv (.t 1)⟩,
  ⟨(some 69), (some (66, true)), .bin false .lss (.t 67) (.t 68)⟩,
  ⟨(some 70), none, .pick (.t 66) (.t 69) (.c (.b false))⟩,
  ⟨(some 4), none, .mv (.t 70)⟩]
abbrev c8 : AC := (.seq (.reg c8r0) (.seq (.seq (.reg c8r1) (.cond (.t 14) (.seq (.reg c8r2) .ret) .skip)) (.seq (.reg c8r3) (.seq (.reg c8r4) (.seq (.seq (.reg c8r5) (.cond (.t 39) (.seq (.reg c8r6) .ret) .skip)) (.seq (.seq (.reg c8r7) (.cond (.t 41) (.seq (.reg c8r8) .ret) .skip)) (.seq (.reg c8r9) (.seq (.seq (.reg c8r10) (.cond (.t 54) (.seq (.reg c8r11) .ret) .skip)) (.seq (.seq (.reg c8r12) (.cond (.t 56) (.seq (.reg c8r13) .ret) .skip)) (.seq (.reg c8r14) (.seq (.reg c8r15) .ret)))))))))))
def q8 : List ARes := [.t 4]
/-! 14: pantoscope/pantoscoperef04.Valid · slots 36 · [0 l, 1 l, 3 i, 4 k] -/
def c14r0 : List AOper := [
  ⟨(some 2), none, .mv (.c (.b false))⟩]
def c14r1 : List AOper := [
  ⟨(some 5), none, .mv (.t 0)⟩,
  ⟨(some 6), none, .len (.t 5)⟩,
  ⟨(some 7), none, .bin false .gtr (.t 6) (.c (.i .i64 60))⟩]
def c14r2 : List AOper := [
  ⟨(some 2), none, .mv (.c (.b false))⟩]
def c14r3 : List AOper := [
  ⟨(some 3), none, .mv (.c (.i .i64 0))⟩]
def c14r4 : List AOper := [
  ⟨(some 8), none, .mv (.t 3)⟩,
  ⟨(some 9), none, .mv (.t 0)⟩,
  ⟨(some 10), none, .len (.t 9)⟩,
  ⟨(some 11), none, .bin false .lss (.t 8) (.t 10)⟩]
def c14r5 : List AOper := [
  ⟨(some 14), none, .mv (.t 0)⟩,
  ⟨(some 15), none, .mv (.t 3)⟩,
  ⟨(some 16), none, .ia 4 (.t 14) (.t 15)⟩,
  ⟨(some 17), none, .ld (some 4) (.t 16)⟩,
  ⟨(some 18), none, .call (.c (.fn 48 [] [])) [(.t 17)]⟩,
  ⟨(some 19), none, .not (.t 18)⟩]
def c14r6 : List AOper := [
  ⟨(some 2), none, .mv (.c (.b false))⟩]
def c14r7 : List AOper := [
  ⟨(some 4), none, .mv (.c (.i .i64 0))⟩]
def c14r8 : List AOper := [
  ⟨(some 20), none, .mv (.t 4)⟩,
  ⟨(some 21), none, .mv (.t 3)⟩,
  ⟨(some 22), none, .bin false .lss (.t 20) (.t 21)⟩]
def c14r9 : List AOper := [
  ⟨(some 25), none, .mv (.t 0)⟩,
  ⟨(some 26), none, .mv (.t 4)⟩,
  ⟨(some 27), none, .ia 4 (.t 25) (.t 26)⟩,
  ⟨(some 28), none, .fa (.t 27) 0⟩,
  ⟨(some 29), none, .ld none (.t 28)⟩,
  ⟨(some 30), none, .mv (.t 0)⟩,
  ⟨(some 31), none, .mv (.t 3)⟩,
  ⟨(some 32), none, .ia 4 (.t 30) (.t 31)⟩,
  ⟨(some 33), none, .fa (.t 32) 0⟩,
  ⟨(some 34), none, .ld none (.t 33)⟩,
  ⟨(some 35), none, .bin false .eql (.t 29) (.t 34)⟩]
def c14r10 : List AOper := [
  ⟨(some 2), none, .mv (.c (.b false))⟩]
def c14r11 : List AOper := [
  ⟨(some 23), none, .mv (.t 4)⟩,
  ⟨(some 24), none, .bin false .add (.t 23) (.c (.i .i64 1))⟩,
  ⟨(some 4), none, .mv (.t 24)⟩]
abbrev c14b12 : AC := (.seq (.seq (.reg c14r8) (.cond (.t 22) .skip (.exit 2))) (.seq (.blk 3 (.seq (.head 10 c14r9) (.cond (.t 35) (.seq (.reg c14r10) .ret) .skip))) (.reg c14r11)))
def c14r13 : List AOper := [
  ⟨(some 12), none, .mv (.t 3)⟩,
  ⟨(some 13), none, .bin false .add (.t 12) (.c (.i .i64 1))⟩,
  ⟨(some 3), none, .mv (.t 13)⟩]
abbrev c14b14 : AC := (.seq (.seq (.reg c14r4) (.cond (.t 11) .skip (.exit 0))) (.seq (.blk 1 (.seq (.seq (.reg c14r5) (.cond (.t 19) (.seq (.reg c14r6) .ret) .skip)) (.seq (.reg c14r7) (.blk 2 (.loop c14b12))))) (.reg c14r13)))
def c14r15 : List AOper := [
  ⟨(some 2), none, .mv (.c (.b true))⟩]
abbrev c14 : AC := (.seq (.reg c14r0) (.seq (.seq (.reg c14r1) (.cond (.t 7) (.seq (.reg c14r2) .ret) .skip)) (.seq (.seq (.reg c14r3) (.blk 0 (.loop c14b14))) (.seq (.reg c14r15) .ret))))
def q14 : List ARes := [.t 2]
theorem fn14 : fnOf Try.prog 14 = some (c14, q14, 36) := by kernel_rfl
/-! 16: pantoscope/temple.Most · slots 17 · [0 l, 1 tol, 2 l, 3 tol, 6 pairs, 7 e] -/
def c16r0 : List AOper := [
  ⟨(some 4), none, .mv (.c (.i .i64 0))⟩,
  ⟨(some 5), none, .mv (.c (.i .i64 0))⟩]
def c16r1 : List AOper := [
  ⟨(some 9), none, .mv (.t 0)⟩,
  ⟨(some 10), none, .mv (.t 1)⟩,
  ⟨(some 11), none, .call (.c (.fn 17 [] [])) [(.t 9), (.t 10)]⟩,
  ⟨(some 8), none, .mv (.t 11)⟩,
  ⟨(some 12), none, .ext (.t 8) 0⟩,
  ⟨(some 13), none, .ext (.t 8) 1⟩,
  ⟨(some 6), none, .mv (.t 12)⟩,
  ⟨(some 7), none, .mv (.t 13)⟩]
def c16r2 : List AOper := [
  ⟨(some 14), none, .mv (.t 6)⟩,
  ⟨(some 15), none, .len (.t 14)⟩,
  ⟨(some 16), none, .mv (.t 7)⟩,
  ⟨(some 4), none, .mv (.t 15)⟩,
  ⟨(some 5), none, .mv (.t 16)⟩]
abbrev c16 : AC := (.seq (.reg c16r0) (.seq (.reg c16r1) (.seq (.reg c16r2) .ret)))
def q16 : List ARes := [.t 4, .t 5]
theorem fn16 : fnOf Try.prog 16 = some (c16, q16, 17) := by kernel_rfl
/-! 17: pantoscope/temple.Match · slots 16 · [0 l, 1 tol, 2 l, 3 tol, 6 e] -/
def c17r0 : List AOper := [
  ⟨(some 4), none, .mv (.c (.sl 0 0 0 0))⟩,
  ⟨(some 5), none, .mv (.c (.i .i64 0))⟩]
def c17r1 : List AOper := [
  ⟨(some 7), none, .mv (.t 0)⟩,
  ⟨(some 8), none, .mv (.t 1)⟩,
  ⟨(some 9), none, .call (.c (.fn 49 [] [])) [(.t 7), (.t 8)]⟩,
  ⟨(some 6), none, .mv (.t 9)⟩]
def c17r2 : List AOper := [
  ⟨(some 10), none, .mv (.t 6)⟩,
  ⟨(some 11), none, .bin false .neq (.t 10) (.c (.i .i64 0))⟩]
def c17r3 : List AOper := [
  ⟨(some 12), none, .mv (.t 6)⟩,
  ⟨(some 4), none, .mv (.c (.sl 0 0 0 0))⟩,
  ⟨(some 5), none, .mv (.t 12)⟩]
def c17r4 : List AOper := [
  ⟨(some 13), none, .mv (.t 0)⟩,
  ⟨(some 14), none, .mv (.t 1)⟩,
  ⟨(some 15), none, .call (.c (.fn 50 [] [])) [(.t 13), (.t 14)]⟩,
  ⟨(some 4), none, .mv (.t 15)⟩,
  ⟨(some 5), none, .mv (.c (.i .i64 0))⟩]
abbrev c17 : AC := (.seq (.reg c17r0) (.seq (.seq (.reg c17r1) (.seq (.reg c17r2) (.cond (.t 11) (.seq (.reg c17r3) .ret) .skip))) (.seq (.reg c17r4) .ret)))
def q17 : List ARes := [.t 4, .t 5]
theorem fn17 : fnOf Try.prog 17 = some (c17, q17, 16) := by kernel_rfl
/-! 23: pantoscope/pantoscopelaw04.Wide · slots 9 · [0 l, 1 n, 2 l, 3 n] -/
def c23r0 : List AOper := [
  ⟨(some 4), none, .mv (.c (.b false))⟩]
def c23r1 : List AOper := [
  ⟨(some 5), none, .mv (.t 0)⟩,
  ⟨(some 6), none, .len (.t 5)⟩,
  ⟨(some 7), none, .mv (.t 1)⟩,
  ⟨(some 8), none, .bin false .gtr (.t 6) (.t 7)⟩,
  ⟨(some 4), none, .mv (.t 8)⟩]
abbrev c23 : AC := (.seq (.reg c23r0) (.seq (.reg c23r1) .ret))
def q23 : List ARes := [.t 4]
theorem fn23 : fnOf Try.prog 23 = some (c23, q23, 9) := by kernel_rfl
/-! 24: pantoscope/pantoscopelaw04.sane · slots 41 · [1 l, 2 p, 3 e, 4 n, 5 f] -/
def c24r0 : List AOper := [
  ⟨(some 0), none, .mv (.c (.b false))⟩]
def c24r1 : List AOper := [
  ⟨(some 6), none, .bld [.i .i64 0, .i .i64 0, .i .i64 0, .i .i64 0] [(0, 1, (.c (.i .i64 1))), (1, 1, (.c (.i .i64 1))), (2, 1, (.c (.i .i64 104))), (3, 1, (.c (.i .i64 1)))]⟩,
  ⟨(some 7), none, .bld [.i .i64 0, .i .i64 0, .i .i64 0, .i .i64 0] [(0, 1, (.c (.i .i64 2))), (1, 1, (.c (.i .i64 2))), (2, 1, (.c (.i .i64 103))), (3, 1, (.c (.i .i64 1)))]⟩,
  ⟨(some 8), none, .bsl 4 [.i .i64 0, .i .i64 0, .i .i64 0, .i .i64 0, .i .i64 0, .i .i64 0, .i .i64 0, .i .i64 0] [(0, 4, (.t 6)), (4, 4, (.t 7))]⟩,
  ⟨(some 1), none, .mv (.t 8)⟩]
def c24r2 : List AOper := [
  ⟨(some 10), none, .mv (.t 1)⟩,
  ⟨(some 11), none, .call (.c (.fn 17 [] [])) [(.t 10), (.c (.i .i64 2))]⟩,
  ⟨(some 9), none, .mv (.t 11)⟩,
  ⟨(some 12), none, .ext (.t 9) 0⟩,
  ⟨(some 13), none, .ext (.t 9) 1⟩,
  ⟨(some 2), none, .mv (.t 12)⟩,
  ⟨(some 3), none, .mv (.t 13)⟩]
def c24r3 : List AOper := [
  ⟨(some 15), none, .mv (.t 1)⟩,
  ⟨(some 16), none, .call (.c (.fn 16 [] [])) [(.t 15), (.c (.i .i64 0))]⟩,
  ⟨(some 14), none, .mv (.t 16)⟩,
  ⟨(some 17), none, .ext (.t 14) 0⟩,
  ⟨(some 18), none, .ext (.t 14) 1⟩,
  ⟨(some 4), none, .mv (.t 17)⟩,
  ⟨(some 5), none, .mv (.t 18)⟩]
def c24r4 : List AOper := [
  ⟨(some 19), none, .mv (.t 3)⟩,
  ⟨(some 20), none, .bin false .eql (.t 19) (.c (.i .i64 0))⟩,
  ⟨(some 21), none, .mv (.t 20)⟩,
  ⟨(some 22), (some (21, true)), .mv (.t 5)⟩,
  ⟨(some 23), (some (21, true)), .bin false .eql (.t 22) (.c (.i .i64 0))⟩,
  ⟨(some 24), none, .pick (.t 21) (.t 23) (.c (.b false))⟩,
  ⟨(some 25), none, .mv (.t 24)⟩,
  ⟨(some 26), (some (25, true)), .mv (.t 4)⟩,
  ⟨(some 27), (some (25, true)), .bin false .eql (.t 26) (.c (.i .i64 0))⟩,
  ⟨(some 28), none, .pick (.t 25) (.t 27) (.c (.b false))⟩,
  ⟨(some 29), none, .mv (.t 28)⟩,
  ⟨(some 30), (some (29, true)), .mv (.t 2)⟩,
  ⟨(some 31), (some (29, true)), .len (.t 30)⟩,
  ⟨(some 32), (some (29, true)), .bin false .eql (.t 31) (.c (.i .i64 1))⟩,
  ⟨(some 33), none, .pick (.t 29) (.t 32) (.c (.b false))⟩,
  ⟨(some 34), none, .mv (.t 33)⟩,
  ⟨(some 35), (some (34, true)), .mv (.t 2)⟩,
  ⟨(some 36), (some (34, true)), .ia 2 (.t 35) (.c (.i .i64 0))⟩,
  ⟨(some 37), (some (34, true)), .ld (some 2) (.t 36)⟩,
  ⟨(some 38), (some (34, true)), .bld [.i .i64 0, .i .i64 0] [(0, 1, (.c (.i .i64 0))), (1, 1, (.c (.i .i64 1)))]⟩,
  ⟨(some 39), (some (34, true)), .eqa false [0, 0] (.t 37) (.t 38)⟩,
  ⟨(some 40), none, .pick (.t 34) (.t 39) (.c (.b false))⟩,
  ⟨(some 0), none, .mv (.t 40)⟩]
abbrev c24 : AC := (.seq (.reg c24r0) (.seq (.reg c24r1) (.seq (.reg c24r2) (.seq (.reg c24r3) (.seq (.reg c24r4) .ret)))))
def q24 : List ARes := [.t 0]
theorem fn24 : fnOf Try.prog 24 = some (c24, q24, 41) := by kernel_rfl
/-! 27: pantoscope/temple.Valid · slots 29 · [0 l, 1 l, 3 had, 4 _, 5 t] -/
def c27r0 : List AOper := [
  ⟨(some 2), none, .mv (.c (.b false))⟩]
def c27r1 : List AOper := [
  ⟨(some 6), none, .mv (.t 0)⟩,
  ⟨(some 7), none, .len (.t 6)⟩,
  ⟨(some 8), none, .bin false .gtr (.t 7) (.c (.i .i64 60))⟩]
def c27r2 : List AOper := [
  ⟨(some 2), none, .mv (.c (.b false))⟩]
def c27r3 : List AOper := [
  ⟨(some 9), none, .mkm⟩,
  ⟨(some 3), none, .mv (.t 9)⟩]
def c27r4 : List AOper := [
  ⟨(some 10), none, .mv (.t 0)⟩,
  ⟨(some 11), none, .len (.t 10)⟩,
  ⟨(some 12), none, .mv (.c (.i .i64 0))⟩]
def c27r5 : List AOper := [
  ⟨(some 13), none, .bin false .lss (.t 12) (.t 11)⟩]
def c27r6 : List AOper := [
  ⟨(some 14), none, .ia 4 (.t 10) (.t 12)⟩,
  ⟨(some 15), none, .ld (some 4) (.t 14)⟩,
  ⟨(some 5), none, .alloc [.i .i64 0, .i .i64 0, .i .i64 0, .i .i64 0]⟩,
  ⟨none, none, .sto (some 4) (.t 5) (.t 15)⟩]
def c27r7 : List AOper := [
  ⟨(some 16), none, .ld (some 4) (.t 5)⟩,
  ⟨(some 17), none, .call (.c (.fn 63 [] [])) [(.t 16)]⟩,
  ⟨(some 18), none, .not (.t 17)⟩,
  ⟨(some 19), none, .mv (.t 18)⟩,
  ⟨(some 20), (some (19, false)), .mv (.t 3)⟩,
  ⟨(some 21), (some (19, false)), .fa (.t 5) 0⟩,
  ⟨(some 22), (some (19, false)), .ld none (.t 21)⟩,
  ⟨(some 23), (some (19, false)), .mlk none (.b false) false (.t 20) (.t 22)⟩,
  ⟨(some 24), none, .pick (.t 19) (.c (.b true)) (.t 23)⟩]
def c27r8 : List AOper := [
  ⟨(some 2), none, .mv (.c (.b false))⟩]
def c27r9 : List AOper := [
  ⟨(some 25), none, .mv (.t 3)⟩,
  ⟨(some 26), none, .fa (.t 5) 0⟩,
  ⟨(some 27), none, .ld none (.t 26)⟩,
  ⟨none, none, .mup none (.t 25) (.t 27) (.c (.b true))⟩]
def c27r10 : List AOper := [
  ⟨(some 28), none, .bin false .add (.t 12) (.c (.i .i64 1))⟩,
  ⟨(some 12), none, .mv (.t 28)⟩]
abbrev c27b11 : AC := (.seq (.reg c27r5) (.seq (.cond (.t 13) .skip (.exit 0)) (.seq (.blk 1 (.seq (.reg c27r6) (.seq (.seq (.reg c27r7) (.cond (.t 24) (.seq (.reg c27r8) .ret) .skip)) (.reg c27r9)))) (.reg c27r10))))
def c27r12 : List AOper := [
  ⟨(some 2), none, .mv (.c (.b true))⟩]
abbrev c27 : AC := (.seq (.reg c27r0) (.seq (.seq (.reg c27r1) (.cond (.t 8) (.seq (.reg c27r2) .ret) .skip)) (.seq (.reg c27r3) (.seq (.seq (.reg c27r4) (.blk 0 (.loop c27b11))) (.seq (.reg c27r12) .ret)))))
def q27 : List ARes := [.t 2]
theorem fn27 : fnOf Try.prog 27 = some (c27, q27, 29) := by kernel_rfl
/-! 28: pantoscope/pantoscoperef04.Match · slots 16 · [0 l, 1 tol, 2 l, 3 tol, 6 e] -/
def c28r0 : List AOper := [
  ⟨(some 4), none, .mv (.c (.sl 0 0 0 0))⟩,
  ⟨(some 5), none, .mv (.c (.i .i64 0))⟩]
def c28r1 : List AOper := [
  ⟨(some 7), none, .mv (.t 0)⟩,
  ⟨(some 8), none, .mv (.t 1)⟩,
  ⟨(some 9), none, .call (.c (.fn 55 [] [])) [(.t 7), (.t 8)]⟩,
  ⟨(some 6), none, .mv (.t 9)⟩]
def c28r2 : List AOper := [
  ⟨(some 10), none, .mv (.t 6)⟩,
  ⟨(some 11), none, .bin false .neq (.t 10) (.c (.i .i64 0))⟩]
def c28r3 : List AOper := [
  ⟨(some 12), none, .mv (.t 6)⟩,
  ⟨(some 4), none, .mv (.c (.sl 0 0 0 0))⟩,
  ⟨(some 5), none, .mv (.t 12)⟩]
def c28r4 : List AOper := [
  ⟨(some 13), none, .mv (.t 0)⟩,
  ⟨(some 14), none, .mv (.t 1)⟩,
  ⟨(some 15), none, .call (.c (.fn 64 [] [])) [(.t 13), (.t 14)]⟩,
  ⟨(some 4), none, .mv (.t 15)⟩,
  ⟨(some 5), none, .mv (.c (.i .i64 0))⟩]
abbrev c28 : AC := (.seq (.reg c28r0) (.seq (.reg c28r1) (.seq (.seq (.reg c28r2) (.cond (.t 11) (.seq (.reg c28r3) .ret) .skip)) (.seq (.reg c28r4) .ret))))
def q28 : List ARes := [.t 4, .t 5]
theorem fn28 : fnOf Try.prog 28 = some (c28, q28, 16) := by kernel_rfl
/-! 29: pantoscope/pantoscoperef04.Most · slots 16 · [0 l, 1 tol, 2 l, 3 tol, 6 e] -/
def c29r0 : List AOper := [
  ⟨(some 4), none, .mv (.c (.i .i64 0))⟩,
  ⟨(some 5), none, .mv (.c (.i .i64 0))⟩]
def c29r1 : List AOper := [
  ⟨(some 7), none, .mv (.t 0)⟩,
  ⟨(some 8), none, .mv (.t 1)⟩,
  ⟨(some 9), none, .call (.c (.fn 55 [] [])) [(.t 7), (.t 8)]⟩,
  ⟨(some 6), none, .mv (.t 9)⟩]
def c29r2 : List AOper := [
  ⟨(some 10), none, .mv (.t 6)⟩,
  ⟨(some 11), none, .bin false .neq (.t 10) (.c (.i .i64 0))⟩]
def c29r3 : List AOper := [
  ⟨(some 12), none, .mv (.t 6)⟩,
  ⟨(some 4), none, .mv (.c (.i .i64 0))⟩,
  ⟨(some 5), none, .mv (.t 12)⟩]
def c29r4 : List AOper := [
  ⟨(some 13), none, .mv (.t 0)⟩,
  ⟨(some 14), none, .mv (.t 1)⟩,
  ⟨(some 15), none, .call (.c (.fn 65 [] [])) [(.t 13), (.t 14)]⟩,
  ⟨(some 4), none, .mv (.t 15)⟩,
  ⟨(some 5), none, .mv (.c (.i .i64 0))⟩]
abbrev c29 : AC := (.seq (.reg c29r0) (.seq (.reg c29r1) (.seq (.seq (.reg c29r2) (.cond (.t 11) (.seq (.reg c29r3) .ret) .skip)) (.seq (.reg c29r4) .ret))))
def q29 : List ARes := [.t 4, .t 5]
theorem fn29 : fnOf Try.prog 29 = some (c29, q29, 16) := by kernel_rfl
/-! 30: pantoscope/temple.Rest · slots 56 · [0 l, 1 tol, 2 l, 3 tol, 6 pairs, 7 e, 8 in, 9 _, 10 p, 11 out, 12 i, 13 is] -/
def c30r0 : List AOper := [
  ⟨(some 4), none, .mv (.c (.sl 0 0 0 0))⟩,
  ⟨(some 5), none, .mv (.c (.i .i64 0))⟩]
def c30r1 : List AOper := [
  ⟨(some 15), none, .mv (.t 0)⟩,
  ⟨(some 16), none, .mv (.t 1)⟩,
  ⟨(some 17), none, .call (.c (.fn 17 [] [])) [(.t 15), (.t 16)]⟩,
  ⟨(some 14), none, .mv (.t 17)⟩,
  ⟨(some 18), none, .ext (.t 14) 0⟩,
  ⟨(some 19), none, .ext (.t 14) 1⟩,
  ⟨(some 6), none, .mv (.t 18)⟩,
  ⟨(some 7), none, .mv (.t 19)⟩]
def c30r2 : List AOper := [
  ⟨(some 20), none, .mv (.t 7)⟩,
  ⟨(some 21), none, .bin false .neq (.t 20) (.c (.i .i64 0))⟩]
def c30r3 : List AOper := [
  ⟨(some 22), none, .mv (.t 7)⟩,
  ⟨(some 4), none, .mv (.c (.sl 0 0 0 0))⟩,
  ⟨(some 5), none, .mv (.t 22)⟩]
def c30r4 : List AOper := [
  ⟨(some 23), none, .mv (.t 0)⟩,
  ⟨(some 24), none, .len (.t 23)⟩,
  ⟨(some 25), none, .mks 1 1 [.b false] (.t 24) (.t 24)⟩,
  ⟨(some 8), none, .mv (.t 25)⟩]
def c30r5 : List AOper := [
  ⟨(some 26), none, .mv (.t 6)⟩,
  ⟨(some 27), none, .len (.t 26)⟩,
  ⟨(some 28), none, .mv (.c (.i .i64 0))⟩]
def c30r6 : List AOper := [
  ⟨(some 29), none, .bin false .lss (.t 28) (.t 27)⟩]
def c30r7 : List AOper := [
  ⟨(some 30), none, .ia 2 (.t 26) (.t 28)⟩,
  ⟨(some 31), none, .ld (some 2) (.t 30)⟩,
  ⟨(some 10), none, .alloc [.i .i64 0, .i .i64 0]⟩,
  ⟨none, none, .sto (some 2) (.t 10) (.t 31)⟩]
def c30r8 : List AOper := [
  ⟨(some 32), none, .mv (.t 8)⟩,
  ⟨(some 33), none, .iap 2 1 (.t 10) (.c (.i .i64 0))⟩,
  ⟨(some 34), none, .ld none (.t 33)⟩,
  ⟨(some 35), none, .mv (.t 8)⟩,
  ⟨(some 36), none, .iap 2 1 (.t 10) (.c (.i .i64 1))⟩,
  ⟨(some 37), none, .ld none (.t 36)⟩,
  ⟨(some 38), none, .ia 1 (.t 32) (.t 34)⟩,
  ⟨none, none, .sto none (.t 38) (.c (.b true))⟩,
  ⟨(some 39), none, .ia 1 (.t 35) (.t 37)⟩,
  ⟨none, none, .sto none (.t 39) (.c (.b true))⟩]
def c30r9 : List AOper := [
  ⟨(some 40), none, .bin false .add (.t 28) (.c (.i .i64 1))⟩,
  ⟨(some 28), none, .mv (.t 40)⟩]
abbrev c30b10 : AC := (.seq (.reg c30r6) (.seq (.cond (.t 29) .skip (.exit 0)) (.seq (.blk 1 (.seq (.reg c30r7) (.head 8 c30r8))) (.reg c30r9))))
def c30r11 : List AOper := [
  ⟨(some 11), none, .mv (.c (.sl 0 0 0 0))⟩]
def c30r12 : List AOper := [
  ⟨(some 41), none, .mv (.t 8)⟩,
  ⟨(some 42), none, .len (.t 41)⟩,
  ⟨(some 43), none, .mv (.c (.i .i64 0))⟩]
def c30r13 : List AOper := [
  ⟨(some 44), none, .bin false .lss (.t 43) (.t 42)⟩]
def c30r14 : List AOper := [
  ⟨(some 45), none, .mv (.t 43)⟩,
  ⟨(some 46), none, .ia 1 (.t 41) (.t 43)⟩,
  ⟨(some 47), none, .ld none (.t 46)⟩,
  ⟨(some 12), none, .mv (.t 45)⟩,
  ⟨(some 13), none, .mv (.t 47)⟩]
def c30r15 : List AOper := [
  ⟨(some 48), none, .mv (.t 13)⟩,
  ⟨(some 49), none, .not (.t 48)⟩]
def c30r16 : List AOper := [
  ⟨(some 50), none, .mv (.t 11)⟩,
  ⟨(some 51), none, .mv (.t 12)⟩,
  ⟨(some 52), none, .bsl 1 [.i .i64 0] [(0, 1, (.t 51))]⟩,
  ⟨(some 53), none, .app 1 8 (.t 50) (.t 52)⟩,
  ⟨(some 11), none, .mv (.t 53)⟩]
def c30r17 : List AOper := [
  ⟨(some 54), none, .bin false .add (.t 43) (.c (.i .i64 1))⟩,
  ⟨(some 43), none, .mv (.t 54)⟩]
abbrev c30b18 : AC := (.seq (.reg c30r13) (.seq (.cond (.t 44) .skip (.exit 2)) (.seq (.blk 3 (.seq (.reg c30r14) (.seq (.reg c30r15) (.cond (.t 49) (.reg c30r16) .skip)))) (.reg c30r17))))
def c30r19 : List AOper := [
  ⟨(some 55), none, .mv (.t 11)⟩,
  ⟨(some 4), none, .mv (.t 55)⟩,
  ⟨(some 5), none, .mv (.c (.i .i64 0))⟩]
abbrev c30 : AC := (.seq (.reg c30r0) (.seq (.reg c30r1) (.seq (.seq (.reg c30r2) (.cond (.t 21) (.seq (.reg c30r3) .ret) .skip)) (.seq (.reg c30r4) (.seq (.seq (.reg c30r5) (.blk 0 (.loop c30b10))) (.seq (.reg c30r11) (.seq (.seq (.reg c30r12) (.blk 2 (.loop c30b18))) (.seq (.reg c30r19) .ret))))))))
def q30 : List ARes := [.t 4, .t 5]
theorem fn30 : fnOf Try.prog 30 = some (c30, q30, 56) := by kernel_rfl
/-! 31: pantoscope/pantoscoperef04.Rest · slots 59 · [0 l, 1 tol, 2 l, 3 tol, 6 e, 7 pairs, 8 out, 9 i, 10 in, 11 k] -/
def c31r0 : List AOper := [
  ⟨(some 4), none, .mv (.c (.sl 0 0 0 0))⟩,
  ⟨(some 5), none, .mv (.c (.i .i64 0))⟩]
def c31r1 : List AOper := [
  ⟨(some 12), none, .mv (.t 0)⟩,
  ⟨(some 13), none, .mv (.t 1)⟩,
  ⟨(some 14), none, .call (.c (.fn 55 [] [])) [(.t 12), (.t 13)]⟩,
  ⟨(some 6), none, .mv (.t 14)⟩]
def c31r2 : List AOper := [
  ⟨(some 15), none, .mv (.t 6)⟩,
  ⟨(some 16), none, .bin false .neq (.t 15) (.c (.i .i64 0))⟩]
def c31r3 : List AOper := [
  ⟨(some 17), none, .mv (.t 6)⟩,
  ⟨(some 4), none, .mv (.c (.sl 0 0 0 0))⟩,
  ⟨(some 5), none, .mv (.t 17)⟩]
def c31r4 : List AOper := [
  ⟨(some 18), none, .mv (.t 0)⟩,
  ⟨(some 19), none, .mv (.t 1)⟩,
  ⟨(some 20), none, .call (.c (.fn 64 [] [])) [(.t 18), (.t 19)]⟩,
  ⟨(some 7), none, .mv (.t 20)⟩]
def c31r5 : List AOper := [
  ⟨(some 8), none, .mv (.c (.sl 0 0 0 0))⟩]
def c31r6 : List AOper := [
  ⟨(some 9), none, .mv (.c (.i .i64 0))⟩]
def c31r7 : List AOper := [
  ⟨(some 21), none, .mv (.t 9)⟩,
  ⟨(some 22), none, .mv (.t 0)⟩,
  ⟨(some 23), none, .len (.t 22)⟩,
  ⟨(some 24), none, .bin false .lss (.t 21) (.t 23)⟩]
def c31r8 : List AOper := [
  ⟨(some 10), none, .mv (.c (.b false))⟩]
def c31r9 : List AOper := [
  ⟨(some 11), none, .mv (.c (.i .i64 0))⟩]
def c31r10 : List AOper := [
  ⟨(some 27), none, .mv (.t 11)⟩,
  ⟨(some 28), none, .mv (.t 7)⟩,
  ⟨(some 29), none, .len (.t 28)⟩,
  ⟨(some 30), none, .bin false .lss (.t 27) (.t 29)⟩]
def c31r11 : List AOper := [
  ⟨(some 33), none, .mv (.t 10)⟩,
  ⟨(some 34), none, .mv (.t 33)⟩,
  ⟨(some 35), (some (34, false)), .mv (.t 7)⟩,
  ⟨(some 36), (some (34, false)), .mv (.t 11)⟩,
  ⟨(some 37), (some (34, false)), .ia 2 (.t 35) (.t 36)⟩,
  ⟨(some 38), (some (34, false)), .iap 2 1 (.t 37) (.c (.i .i64 0))⟩,
  ⟨(some 39), (some (34, false)), .ld none (.t 38)⟩,
  ⟨(some 40), (some (34, false)), .mv (.t 9)⟩,
  ⟨(some 41), (some (34, false)), .bin false .eql (.t 39) (.t 40)⟩,
  ⟨(some 42), none, .pick (.t 34) (.c (.b true)) (.t 41)⟩,
  ⟨(some 43), none, .mv (.t 42)⟩,
  ⟨(some 44), (some (43, false)), .mv (.t 7)⟩,
  ⟨(some 45), (some (43, false)), .mv (.t 11)⟩,
  ⟨(some 46), (some (43, false)), .ia 2 (.t 44) (.t 45)⟩,
  ⟨(some 47), (some (43, false)), .iap 2 1 (.t 46) (.c (.i .i64 1))⟩,
  ⟨(some 48), (some (43, false)), .ld none (.t 47)⟩,
  ⟨(some 49), (some (43, false)), .mv (.t 9)⟩,
  ⟨(some 50), (some (43, false)), .bin false .eql (.t 48) (.t 49)⟩,
  ⟨(some 51), none, .pick (.t 43) (.c (.b true)) (.t 50)⟩,
  ⟨(some 10), none, .mv (.t 51)⟩]
def c31r12 : List AOper := [
  ⟨(some 31), none, .mv (.t 11)⟩,
  ⟨(some 32), none, .bin false .add (.t 31) (.c (.i .i64 1))⟩,
  ⟨(some 11), none, .mv (.t 32)⟩]
abbrev c31b13 : AC := (.seq (.seq (.reg c31r10) (.cond (.t 30) .skip (.exit 2))) (.seq (.blk 3 (.reg c31r11)) (.reg c31r12)))
def c31r14 : List AOper := [
  ⟨(some 52), none, .mv (.t 10)⟩,
  ⟨(some 53), none, .not (.t 52)⟩]
def c31r15 : List AOper := [
  ⟨(some 54), none, .mv (.t 8)⟩,
  ⟨(some 55), none, .mv (.t 9)⟩,
  ⟨(some 56), none, .bsl 1 [.i .i64 0] [(0, 1, (.t 55))]⟩,
  ⟨(some 57), none, .app 1 8 (.t 54) (.t 56)⟩,
  ⟨(some 8), none, .mv (.t 57)⟩]
def c31r16 : List AOper := [
  ⟨(some 25), none, .mv (.t 9)⟩,
  ⟨(some 26), none, .bin false .add (.t 25) (.c (.i .i64 1))⟩,
  ⟨(some 9), none, .mv (.t 26)⟩]
abbrev c31b17 : AC := (.seq (.seq (.reg c31r7) (.cond (.t 24) .skip (.exit 0))) (.seq (.blk 1 (.seq (.reg c31r8) (.seq (.seq (.reg c31r9) (.blk 2 (.loop c31b13))) (.seq (.reg c31r14) (.cond (.t 53) (.reg c31r15) .skip))))) (.reg c31r16)))
def c31r18 : List AOper := [
  ⟨(some 58), none, .mv (.t 8)⟩,
  ⟨(some 4), none, .mv (.t 58)⟩,
  ⟨(some 5), none, .mv (.c (.i .i64 0))⟩]
abbrev c31 : AC := (.seq (.reg c31r0) (.seq (.reg c31r1) (.seq (.seq (.reg c31r2) (.cond (.t 16) (.seq (.reg c31r3) .ret) .skip)) (.seq (.reg c31r4) (.seq (.reg c31r5) (.seq (.seq (.reg c31r6) (.blk 0 (.loop c31b17))) (.seq (.reg c31r18) .ret)))))))
def q31 : List ARes := [.t 4, .t 5]
theorem fn31 : fnOf Try.prog 31 = some (c31, q31, 59) := by kernel_rfl
/-! 32: pantoscope/pantoscopelaw04.samePairs · slots 26 · [0 a, 1 b, 2 a, 3 b, 5 i] -/
def c32r0 : List AOper := [
  ⟨(some 4), none, .mv (.c (.b false))⟩]
def c32r1 : List AOper := [
  ⟨(some 6), none, .mv (.t 0)⟩,
  ⟨(some 7), none, .len (.t 6)⟩,
  ⟨(some 8), none, .mv (.t 1)⟩,
  ⟨(some 9), none, .len (.t 8)⟩,
  ⟨(some 10), none, .bin false .neq (.t 7) (.t 9)⟩]
def c32r2 : List AOper := [
  ⟨(some 4), none, .mv (.c (.b false))⟩]
def c32r3 : List AOper := [
  ⟨(some 5), none, .mv (.c (.i .i64 0))⟩]
def c32r4 : List AOper := [
  ⟨(some 11), none, .mv (.t 5)⟩,
  ⟨(some 12), none, .mv (.t 0)⟩,
  ⟨(some 13), none, .len (.t 12)⟩,
  ⟨(some 14), none, .bin false .lss (.t 11) (.t 13)⟩]
def c32r5 : List AOper := [
  ⟨(some 17), none, .mv (.t 0)⟩,
  ⟨(some 18), none, .mv (.t 5)⟩,
  ⟨(some 19), none, .ia 2 (.t 17) (.t 18)⟩,
  ⟨(some 20), none, .ld (some 2) (.t 19)⟩,
  ⟨(some 21), none, .mv (.t 1)⟩,
  ⟨(some 22), none, .mv (.t 5)⟩,
  ⟨(some 23), none, .ia 2 (.t 21) (.t 22)⟩,
  ⟨(some 24), none, .ld (some 2) (.t 23)⟩,
  ⟨(some 25), none, .eqa true [0, 0] (.t 20) (.t 24)⟩]
def c32r6 : List AOper := [
  ⟨(some 4), none, .mv (.c (.b false))⟩]
def c32r7 : List AOper := [
  ⟨(some 15), none, .mv (.t 5)⟩,
  ⟨(some 16), none, .bin false .add (.t 15) (.c (.i .i64 1))⟩,
  ⟨(some 5), none, .mv (.t 16)⟩]
abbrev c32b8 : AC := (.seq (.seq (.reg c32r4) (.cond (.t 14) .skip (.exit 0))) (.seq (.blk 1 (.seq (.head 8 c32r5) (.cond (.t 25) (.seq (.reg c32r6) .ret) .skip))) (.reg c32r7)))
def c32r9 : List AOper := [
  ⟨(some 4), none, .mv (.c (.b true))⟩]
abbrev c32 : AC := (.seq (.reg c32r0) (.seq (.seq (.reg c32r1) (.cond (.t 10) (.seq (.reg c32r2) .ret) .skip)) (.seq (.seq (.reg c32r3) (.blk 0 (.loop c32b8))) (.seq (.reg c32r9) .ret))))
def q32 : List ARes := [.t 4]
theorem fn32 : fnOf Try.prog 32 = some (c32, q32, 26) := by kernel_rfl
/-! 33: pantoscope/pantoscopelaw04.same · slots 26 · [0 a, 1 b, 2 a, 3 b, 5 i] -/
def c33r0 : List AOper := [
  ⟨(some 4), none, .mv (.c (.b false))⟩]
def c33r1 : List AOper := [
  ⟨(some 6), none, .mv (.t 0)⟩,
  ⟨(some 7), none, .len (.t 6)⟩,
  ⟨(some 8), none, .mv (.t 1)⟩,
  ⟨(some 9), none, .len (.t 8)⟩,
  ⟨(some 10), none, .bin false .neq (.t 7) (.t 9)⟩]
def c33r2 : List AOper := [
  ⟨(some 4), none, .mv (.c (.b false))⟩]
def c33r3 : List AOper := [
  ⟨(some 5), none, .mv (.c (.i .i64 0))⟩]
def c33r4 : List AOper := [
  ⟨(some 11), none, .mv (.t 5)⟩,
  ⟨(some 12), none, .mv (.t 0)⟩,
  ⟨(some 13), none, .len (.t 12)⟩,
  ⟨(some 14), none, .bin false .lss (.t 11) (.t 13)⟩]
def c33r5 : List AOper := [
  ⟨(some 17), none, .mv (.t 0)⟩,
  ⟨(some 18), none, .mv (.t 5)⟩,
  ⟨(some 19), none, .ia 1 (.t 17) (.t 18)⟩,
  ⟨(some 20), none, .ld none (.t 19)⟩,
  ⟨(some 21), none, .mv (.t 1)⟩,
  ⟨(some 22), none, .mv (.t 5)⟩,
  ⟨(some 23), none, .ia 1 (.t 21) (.t 22)⟩,
  ⟨(some 24), none, .ld none (.t 23)⟩,
  ⟨(some 25), none, .bin false .neq (.t 20) (.t 24)⟩]
def c33r6 : List AOper := [
  ⟨(some 4), none, .mv (.c (.b false))⟩]
def c33r7 : List AOper := [
  ⟨(some 15), none, .mv (.t 5)⟩,
  ⟨(some 16), none, .bin false .add (.t 15) (.c (.i .i64 1))⟩,
  ⟨(some 5), none, .mv (.t 16)⟩]
abbrev c33b8 : AC := (.seq (.seq (.reg c33r4) (.cond (.t 14) .skip (.exit 0))) (.seq (.blk 1 (.seq (.head 8 c33r5) (.cond (.t 25) (.seq (.reg c33r6) .ret) .skip))) (.reg c33r7)))
def c33r9 : List AOper := [
  ⟨(some 4), none, .mv (.c (.b true))⟩]
abbrev c33 : AC := (.seq (.reg c33r0) (.seq (.seq (.reg c33r1) (.cond (.t 10) (.seq (.reg c33r2) .ret) .skip)) (.seq (.seq (.reg c33r3) (.blk 0 (.loop c33b8))) (.seq (.reg c33r9) .ret))))
def q33 : List ARes := [.t 4]
theorem fn33 : fnOf Try.prog 33 = some (c33, q33, 26) := by kernel_rfl
/-! 48: pantoscope/pantoscoperef04.validTemple · slots 41 · [0 t, 1 t] -/
def c48r0 : List AOper := [
  ⟨(some 1), none, .box (.t 0)⟩,
  ⟨(some 2), none, .mv (.c (.b false))⟩]
def c48r1 : List AOper := [
  ⟨(some 3), none, .fa (.t 1) 0⟩,
  ⟨(some 4), none, .ld none (.t 3)⟩,
  ⟨(some 5), none, .bin false .geq (.t 4) (.c (.i .i64 1))⟩,
  ⟨(some 6), none, .mv (.t 5)⟩,
  ⟨(some 7), (some (6, true)), .fa (.t 1) 0⟩,
  ⟨(some 8), (some (6, true)), .ld none (.t 7)⟩,
  ⟨(some 9), (some (6, true)), .bin false .leq (.t 8) (.c (.i .i64 1000000000))⟩,
  ⟨(some 10), none, .pick (.t 6) (.t 9) (.c (.b false))⟩,
  ⟨(some 11), none, .mv (.t 10)⟩,
  ⟨(some 12), (some (11, true)), .fa (.t 1) 1⟩,
  ⟨(some 13), (some (11, true)), .ld none (.t 12)⟩,
  ⟨(some 14), (some (11, true)), .bin false .eql (.t 13) (.c (.i .i64 1))⟩,
  ⟨(some 15), (some (11, true)), .mv (.t 14)⟩,
  ⟨(some 16), (some (15, false)), .fa (.t 1) 1⟩,
  ⟨(some 17), (some (15, false)), .ld none (.t 16)⟩,
  ⟨(some 18), (some (15, false)), .bin false .eql (.t 17) (.c (.i .i64 2))⟩,
  ⟨(some 19), (some (11, true)), .pick (.t 15) (.c (.b true)) (.t 18)⟩,
  ⟨(some 20), none, .pick (.t 11) (.t 19) (.c (.b false))⟩,
  ⟨(some 21), none, .mv (.t 20)⟩,
  ⟨(some 22), (some (21, true)), .fa (.t 1) 2⟩,
  ⟨(some 23), (some (21, true)), .ld none (.t 22)⟩,
  ⟨(some 24), (some (21, true)), .bin false .geq (.t 23) (.c (.i .i64 1))⟩,
  ⟨(some 25), none, .pick (.t 21) (.t 24) (.c (.b false))⟩,
  ⟨(some 26), none, .mv (.t 25)⟩,
  ⟨(some 27), (some (26, true)), .fa (.t 1) 2⟩,
  ⟨(some 28), (some (26, true)), .ld none (.t 27)⟩,
  ⟨(some 29), (some (26, true)), .bin false .leq (.t 28) (.c (.i .i64 2000))⟩,
  ⟨(some 30), none, .pick (.t 26) (.t 29) (.c (.b false))⟩,
  ⟨(some 31), none, .mv (.t 30)⟩,
  ⟨(some 32), (some (31, true)), .fa (.t 1) 3⟩,
  ⟨(some 33), (some (31, true)), .ld none (.t 32)⟩,
  ⟨(some 34), (some (31, true)), .bin false .geq (.t 33) (.c (.i .i64 1))⟩,
  ⟨(some 35), none, .pick (.t 31) (.t 34) (.c (.b false))⟩,
  ⟨(some 36), none, .mv (.t 35)⟩,
  ⟨(some 37), (some (36, true)), .fa (.t 1) 3⟩,
  ⟨(some 38), (some (36, true)), .ld none (.t 37)⟩,
  ⟨(some 39), (some (36, true)), .bin false .leq (.t 38) (.c (.i .i64 9))⟩,
  ⟨(some 40), none, .pick (.t 36) (.t 39) (.c (.b false))⟩,
  ⟨(some 2), none, .mv (.t 40)⟩]
abbrev c48 : AC := (.seq (.reg c48r0) (.seq (.reg c48r1) .ret))
def q48 : List ARes := [.t 2]
theorem fn48 : fnOf Try.prog 48 = some (c48, q48, 41) := by kernel_rfl
/-! 49: pantoscope/temple.asked · slots 13 · [0 l, 1 tol, 2 l, 3 tol] -/
def c49r0 : List AOper := [
  ⟨(some 4), none, .mv (.c (.i .i64 0))⟩]
def c49r1 : List AOper := [
  ⟨(some 6), none, .mv (.t 0)⟩,
  ⟨(some 7), none, .call (.c (.fn 27 [] [])) [(.t 6)]⟩,
  ⟨(some 8), none, .not (.t 7)⟩,
  ⟨(some 5), none, .mv (.t 8)⟩]
def c49r2 : List AOper := [
  ⟨(some 4), none, .mv (.c (.i .i64 40))⟩]
def c49r3 : List AOper := [
  ⟨(some 10), none, .mv (.t 1)⟩,
  ⟨(some 11), none, .call (.c (.fn 71 [] [])) [(.c (.i .i64 0)), (.t 10), (.c (.i .i64 1000))]⟩,
  ⟨(some 12), none, .not (.t 11)⟩,
  ⟨(some 9), none, .mv (.t 12)⟩]
def c49r4 : List AOper := [
  ⟨(some 4), none, .mv (.c (.i .i64 2))⟩]
def c49r5 : List AOper := [
  ⟨(some 4), none, .mv (.c (.i .i64 0))⟩]
abbrev c49 : AC := (.seq (.reg c49r0) (.seq (.blk 0 (.seq (.reg c49r1) (.cond (.t 5) (.seq (.reg c49r2) .ret) (.seq (.reg c49r3) (.cond (.t 9) (.seq (.reg c49r4) .ret) .skip))))) (.seq (.reg c49r5) .ret)))
def q49 : List ARes := [.t 4]
theorem fn49 : fnOf Try.prog 49 = some (c49, q49, 13) := by kernel_rfl
/-! 50: pantoscope/temple.match · slots 72 · [0 l, 1 tol, 2 l, 3 tol, 5 out, 6 colour, 7 left, 8 right, 9 a, 10 b] -/
def c50r0 : List AOper := [
  ⟨(some 4), none, .mv (.c (.sl 0 0 0 0))⟩]
def c50r1 : List AOper := [
  ⟨(some 5), none, .mv (.c (.sl 0 0 0 0))⟩]
def c50r2 : List AOper := [
  ⟨(some 6), none, .mv (.c (.i .i64 1))⟩]
def c50r3 : List AOper := [
  ⟨(some 11), none, .mv (.t 6)⟩,
  ⟨(some 12), none, .bin false .leq (.t 11) (.c (.i .i64 9))⟩]
def c50r4 : List AOper := [
  ⟨(some 15), none, .mv (.t 0)⟩,
  ⟨(some 16), none, .mv (.t 6)⟩,
  ⟨(some 17), none, .call (.c (.fn 74 [] [])) [(.t 15), (.c (.i .i64 1)), (.t 16)]⟩,
  ⟨(some 18), none, .mv (.t 0)⟩,
  ⟨(some 19), none, .mv (.t 6)⟩,
  ⟨(some 20), none, .call (.c (.fn 74 [] [])) [(.t 18), (.c (.i .i64 2)), (.t 19)]⟩,
  ⟨(some 7), none, .mv (.t 17)⟩,
  ⟨(some 8), none, .mv (.t 20)⟩]
def c50r5 : List AOper := [
  ⟨(some 21), none, .mv (.t 7)⟩,
  ⟨(some 22), none, .len (.t 21)⟩,
  ⟨(some 23), none, .bin false .gtr (.t 22) (.c (.i .i64 0))⟩,
  ⟨(some 24), none, .mv (.t 23)⟩,
  ⟨(some 25), (some (24, true)), .mv (.t 8)⟩,
  ⟨(some 26), (some (24, true)), .len (.t 25)⟩,
  ⟨(some 27), (some (24, true)), .bin false .gtr (.t 26) (.c (.i .i64 0))⟩,
  ⟨(some 28), none, .pick (.t 24) (.t 27) (.c (.b false))⟩]
def c50r6 : List AOper := [
  ⟨(some 29), none, .mv (.t 0)⟩,
  ⟨(some 30), none, .mv (.t 7)⟩,
  ⟨(some 31), none, .ia 1 (.t 30) (.c (.i .i64 0))⟩,
  ⟨(some 32), none, .ld none (.t 31)⟩,
  ⟨(some 33), none, .ia 4 (.t 29) (.t 32)⟩,
  ⟨(some 34), none, .ld (some 4) (.t 33)⟩,
  ⟨(some 35), none, .mv (.t 0)⟩,
  ⟨(some 36), none, .mv (.t 8)⟩,
  ⟨(some 37), none, .ia 1 (.t 36) (.c (.i .i64 0))⟩,
  ⟨(some 38), none, .ld none (.t 37)⟩,
  ⟨(some 39), none, .ia 4 (.t 35) (.t 38)⟩,
  ⟨(some 40), none, .ld (some 4) (.t 39)⟩,
  ⟨(some 9), none, .alloc [.i .i64 0, .i .i64 0, .i .i64 0, .i .i64 0]⟩,
  ⟨(some 10), none, .alloc [.i .i64 0, .i .i64 0, .i .i64 0, .i .i64 0]⟩,
  ⟨none, none, .sto (some 4) (.t 9) (.t 34)⟩,
  ⟨none, none, .sto (some 4) (.t 10) (.t 40)⟩]
def c50r7 : List AOper := [
  ⟨(some 44), none, .ld (some 4) (.t 9)⟩,
  ⟨(some 45), none, .ld (some 4) (.t 10)⟩,
  ⟨(some 46), none, .call (.c (.fn 60 [] [])) [(.t 44), (.t 45)]⟩,
  ⟨(some 47), none, .mv (.t 1)⟩,
  ⟨(some 48), none, .bin false .leq (.t 46) (.t 47)⟩,
  ⟨(some 43), none, .mv (.t 48)⟩]
def c50r8 : List AOper := [
  ⟨(some 49), none, .mv (.t 5)⟩,
  ⟨(some 50), none, .mv (.t 7)⟩,
  ⟨(some 51), none, .ia 1 (.t 50) (.c (.i .i64 0))⟩,
  ⟨(some 52), none, .ld none (.t 51)⟩,
  ⟨(some 53), none, .mv (.t 8)⟩,
  ⟨(some 54), none, .ia 1 (.t 53) (.c (.i .i64 0))⟩,
  ⟨(some 55), none, .ld none (.t 54)⟩,
  ⟨(some 56), none, .bld [.i .i64 0, .i .i64 0] [(0, 1, (.t 52)), (1, 1, (.t 55))]⟩,
  ⟨(some 57), none, .bsl 2 [.i .i64 0, .i .i64 0] [(0, 2, (.t 56))]⟩,
  ⟨(some 58), none, .app 2 16 (.t 49) (.t 57)⟩,
  ⟨(some 5), none, .mv (.t 58)⟩]
def c50r9 : List AOper := [
  ⟨(some 59), none, .mv (.t 7)⟩,
  ⟨(some 60), none, .sli 1 (.t 59) (some (.c (.i .i64 1))) none⟩,
  ⟨(some 61), none, .mv (.t 8)⟩,
  ⟨(some 62), none, .sli 1 (.t 61) (some (.c (.i .i64 1))) none⟩,
  ⟨(some 7), none, .mv (.t 60)⟩,
  ⟨(some 8), none, .mv (.t 62)⟩]
def c50r10 : List AOper := [
  ⟨(some 64), none, .fa (.t 9) 2⟩,
  ⟨(some 65), none, .ld none (.t 64)⟩,
  ⟨(some 66), none, .fa (.t 10) 2⟩,
  ⟨(some 67), none, .ld none (.t 66)⟩,
  ⟨(some 68), none, .bin false .lss (.t 65) (.t 67)⟩,
  ⟨(some 63), none, .mv (.t 68)⟩]
def c50r11 : List AOper := [
  ⟨(some 69), none, .mv (.t 7)⟩,
  ⟨(some 70), none, .sli 1 (.t 69) (some (.c (.i .i64 1))) none⟩,
  ⟨(some 7), none, .mv (.t 70)⟩]
def c50r12 : List AOper := [
  ⟨(some 41), none, .mv (.t 8)⟩,
  ⟨(some 42), none, .sli 1 (.t 41) (some (.c (.i .i64 1))) none⟩,
  ⟨(some 8), none, .mv (.t 42)⟩]
abbrev c50b13 : AC := (.seq (.seq (.reg c50r5) (.cond (.t 28) .skip (.exit 2))) (.blk 3 (.seq (.head 15 c50r6) (.blk 4 (.seq (.reg c50r7) (.cond (.t 43) (.seq (.head 9 c50r8) (.head 5 c50r9)) (.seq (.reg c50r10) (.cond (.t 63) (.reg c50r11) (.reg c50r12)))))))))
def c50r14 : List AOper := [
  ⟨(some 13), none, .mv (.t 6)⟩,
  ⟨(some 14), none, .bin false .add (.t 13) (.c (.i .i64 1))⟩,
  ⟨(some 6), none, .mv (.t 14)⟩]
abbrev c50b15 : AC := (.seq (.seq (.reg c50r3) (.cond (.t 12) .skip (.exit 0))) (.seq (.blk 1 (.seq (.reg c50r4) (.blk 2 (.loop c50b13)))) (.reg c50r14)))
def c50r16 : List AOper := [
  ⟨(some 71), none, .mv (.t 5)⟩,
  ⟨(some 4), none, .mv (.t 71)⟩]
abbrev c50 : AC := (.seq (.reg c50r0) (.seq (.reg c50r1) (.seq (.seq (.reg c50r2) (.blk 0 (.loop c50b15))) (.seq (.reg c50r16) .ret))))
def q50 : List ARes := [.t 4]
theorem fn50 : fnOf Try.prog 50 = some (c50, q50, 72) := by kernel_rfl
/-! 53: pantoscope/pantoscoperef04.tolerated · slots 9 · [0 tol, 1 tol] -/
def c53r0 : List AOper := [
  ⟨(some 2), none, .mv (.c (.b false))⟩]
def c53r1 : List AOper := [
  ⟨(some 3), none, .mv (.t 0)⟩,
  ⟨(some 4), none, .bin false .geq (.t 3) (.c (.i .i64 0))⟩,
  ⟨(some 5), none, .mv (.t 4)⟩,
  ⟨(some 6), (some (5, true)), .mv (.t 0)⟩,
  ⟨(some 7), (some (5, true)), .bin false .leq (.t 6) (.c (.i .i64 1000))⟩,
  ⟨(some 8), none, .pick (.t 5) (.t 7) (.c (.b false))⟩,
  ⟨(some 2), none, .mv (.t 8)⟩]
abbrev c53 : AC := (.seq (.reg c53r0) (.seq (.reg c53r1) .ret))
def q53 : List ARes := [.t 2]
theorem fn53 : fnOf Try.prog 53 = some (c53, q53, 9) := by kernel_rfl
/-! 55: pantoscope/pantoscoperef04.asked · slots 11 · [0 l, 1 tol, 2 l, 3 tol] -/
def c55r0 : List AOper := [
  ⟨(some 4), none, .mv (.c (.i .i64 0))⟩]
def c55r1 : List AOper := [
  ⟨(some 5), none, .mv (.t 0)⟩,
  ⟨(some 6), none, .call (.c (.fn 14 [] [])) [(.t 5)]⟩,
  ⟨(some 7), none, .not (.t 6)⟩]
def c55r2 : List AOper := [
  ⟨(some 4), none, .mv (.c (.i .i64 40))⟩]
def c55r3 : List AOper := [
  ⟨(some 8), none, .mv (.t 1)⟩,
  ⟨(some 9), none, .call (.c (.fn 53 [] [])) [(.t 8)]⟩,
  ⟨(some 10), none, .not (.t 9)⟩]
def c55r4 : List AOper := [
  ⟨(some 4), none, .mv (.c (.i .i64 2))⟩]
def c55r5 : List AOper := [
  ⟨(some 4), none, .mv (.c (.i .i64 0))⟩]
abbrev c55 : AC := (.seq (.reg c55r0) (.seq (.seq (.reg c55r1) (.cond (.t 7) (.seq (.reg c55r2) .ret) .skip)) (.seq (.seq (.reg c55r3) (.cond (.t 10) (.seq (.reg c55r4) .ret) .skip)) (.seq (.reg c55r5) .ret))))
def q55 : List ARes := [.t 4]
theorem fn55 : fnOf Try.prog 55 = some (c55, q55, 11) := by kernel_rfl
/-! 57: pantoscope/pantoscoperef04.can · slots 26 · [0 a, 1 b, 2 tol, 3 a, 4 b, 5 tol] -/
def c57r0 : List AOper := [
  ⟨(some 3), none, .box (.t 0)⟩,
  ⟨(some 4), none, .box (.t 1)⟩,
  ⟨(some 6), none, .mv (.c (.b false))⟩]
def c57r1 : List AOper := [
  ⟨(some 7), none, .fa (.t 3) 1⟩,
  ⟨(some 8), none, .ld none (.t 7)⟩,
  ⟨(some 9), none, .fa (.t 4) 1⟩,
  ⟨(some 10), none, .ld none (.t 9)⟩,
  ⟨(some 11), none, .bin false .neq (.t 8) (.t 10)⟩,
  ⟨(some 12), none, .mv (.t 11)⟩,
  ⟨(some 13), (some (12, true)), .fa (.t 3) 3⟩,
  ⟨(some 14), (some (12, true)), .ld none (.t 13)⟩,
  ⟨(some 15), (some (12, true)), .fa (.t 4) 3⟩,
  ⟨(some 16), (some (12, true)), .ld none (.t 15)⟩,
  ⟨(some 17), (some (12, true)), .bin false .eql (.t 14) (.t 16)⟩,
  ⟨(some 18), none, .pick (.t 12) (.t 17) (.c (.b false))⟩,
  ⟨(some 19), none, .mv (.t 18)⟩,
  ⟨(some 20), (some (19, true)), .ld (some 4) (.t 3)⟩,
  ⟨(some 21), (some (19, true)), .ld (some 4) (.t 4)⟩,
  ⟨(some 22), (some (19, true)), .call (.c (.fn 68 [] [])) [(.t 20), (.t 21)]⟩,
  ⟨(some 23), (some (19, true)), .mv (.t 2)⟩,
  ⟨(some 24), (some (19, true)), .bin false .leq (.t 22) (.t 23)⟩,
  ⟨(some 25), none, .pick (.t 19) (.t 24) (.c (.b false))⟩,
  ⟨(some 6), none, .mv (.t 25)⟩]
abbrev c57 : AC := (.seq (.reg c57r0) (.seq (.reg c57r1) .ret))
def q57 : List ARes := [.t 6]
theorem fn57 : fnOf Try.prog 57 = some (c57, q57, 26) := by kernel_rfl
/-! 60: pantoscope/temple.apart · slots 16 · [0 a, 1 b, 2 a, 3 b] -/
def c60r0 : List AOper := [
  ⟨(some 2), none, .box (.t 0)⟩,
  ⟨(some 3), none, .box (.t 1)⟩,
  ⟨(some 4), none, .mv (.c (.i .i64 0))⟩]
def c60r1 : List AOper := [
  ⟨(some 5), none, .fa (.t 2) 2⟩,
  ⟨(some 6), none, .ld none (.t 5)⟩,
  ⟨(some 7), none, .fa (.t 3) 2⟩,
  ⟨(some 8), none, .ld none (.t 7)⟩,
  ⟨(some 9), none, .bin false .sub (.t 6) (.t 8)⟩,
  ⟨(some 10), none, .fa (.t 3) 2⟩,
  ⟨(some 11), none, .ld none (.t 10)⟩,
  ⟨(some 12), none, .fa (.t 2) 2⟩,
  ⟨(some 13), none, .ld none (.t 12)⟩,
  ⟨(some 14), none, .bin false .sub (.t 11) (.t 13)⟩,
  ⟨(some 15), none, .mm true (.t 9) [(.t 14)]⟩,
  ⟨(some 4), none, .mv (.t 15)⟩]
abbrev c60 : AC := (.seq (.reg c60r0) (.seq (.reg c60r1) .ret))
def q60 : List ARes := [.t 4]
theorem fn60 : fnOf Try.prog 60 = some (c60, q60, 16) := by kernel_rfl
/-! 63: pantoscope/temple.right · slots 21 · [0 t, 1 t] -/
def c63r0 : List AOper := [
  ⟨(some 1), none, .box (.t 0)⟩,
  ⟨(some 2), none, .mv (.c (.b false))⟩]
def c63r1 : List AOper := [
  ⟨(some 3), none, .fa (.t 1) 0⟩,
  ⟨(some 4), none, .ld none (.t 3)⟩,
  ⟨(some 5), none, .call (.c (.fn 71 [] [])) [(.c (.i .i64 1)), (.t 4), (.c (.i .i64 1000000000))]⟩,
  ⟨(some 6), none, .mv (.t 5)⟩,
  ⟨(some 7), (some (6, true)), .fa (.t 1) 1⟩,
  ⟨(some 8), (some (6, true)), .ld none (.t 7)⟩,
  ⟨(some 9), (some (6, true)), .call (.c (.fn 71 [] [])) [(.c (.i .i64 1)), (.t 8), (.c (.i .i64 2))]⟩,
  ⟨(some 10), none, .pick (.t 6) (.t 9) (.c (.b false))⟩,
  ⟨(some 11), none, .mv (.t 10)⟩,
  ⟨(some 12), (some (11, true)), .fa (.t 1) 2⟩,
  ⟨(some 13), (some (11, true)), .ld none (.t 12)⟩,
  ⟨(some 14), (some (11, true)), .call (.c (.fn 71 [] [])) [(.c (.i .i64 1)), (.t 13), (.c (.i .i64 2000))]⟩,
  ⟨(some 15), none, .pick (.t 11) (.t 14) (.c (.b false))⟩,
  ⟨(some 16), none, .mv (.t 15)⟩,
  ⟨(some 17), (some (16, true)), .fa (.t 1) 3⟩,
  ⟨(some 18), (some (16, true)), .ld none (.t 17)⟩,
  ⟨(some 19), (some (16, true)), .call (.c (.fn 71 [] [])) [(.c (.i .i64 1)), (.t 18), (.c (.i .i64 9))]⟩,
  ⟨(some 20), none, .pick (.t 16) (.t 19) (.c (.b false))⟩,
  ⟨(some 2), none, .mv (.t 20)⟩]
abbrev c63 : AC := (.seq (.reg c63r0) (.seq (.reg c63r1) .ret))
def q63 : List ARes := [.t 2]
theorem fn63 : fnOf Try.prog 63 = some (c63, q63, 21) := by kernel_rfl
/-! 64: pantoscope/pantoscoperef04.match · slots 82 · [0 l, 1 tol, 2 l, 3 tol, 5 out, 6 gone, 7 colour, 8 p, 9 q] -/
def c64r0 : List AOper := [
  ⟨(some 4), none, .mv (.c (.sl 0 0 0 0))⟩]
def c64r1 : List AOper := [
  ⟨(some 5), none, .mv (.c (.sl 0 0 0 0))⟩]
def c64r2 : List AOper := [
  ⟨(some 10), none, .mv (.t 0)⟩,
  ⟨(some 11), none, .len (.t 10)⟩,
  ⟨(some 12), none, .mks 1 1 [.b false] (.t 11) (.t 11)⟩,
  ⟨(some 6), none, .mv (.t 12)⟩]
def c64r3 : List AOper := [
  ⟨(some 7), none, .mv (.c (.i .i64 1))⟩]
def c64r4 : List AOper := [
  ⟨(some 13), none, .mv (.t 7)⟩,
  ⟨(some 14), none, .bin false .leq (.t 13) (.c (.i .i64 9))⟩]
def c64r5 : List AOper := [
  ⟨(some 17), none, .mv (.t 0)⟩,
  ⟨(some 18), none, .mv (.t 6)⟩,
  ⟨(some 19), none, .mv (.t 7)⟩,
  ⟨(some 20), none, .call (.c (.fn 75 [] [])) [(.t 17), (.t 18), (.c (.i .i64 1)), (.t 19)]⟩,
  ⟨(some 21), none, .mv (.t 0)⟩,
  ⟨(some 22), none, .mv (.t 6)⟩,
  ⟨(some 23), none, .mv (.t 7)⟩,
  ⟨(some 24), none, .call (.c (.fn 75 [] [])) [(.t 21), (.t 22), (.c (.i .i64 2)), (.t 23)]⟩,
  ⟨(some 8), none, .mv (.t 20)⟩,
  ⟨(some 9), none, .mv (.t 24)⟩]
def c64r6 : List AOper := [
  ⟨(some 25), none, .mv (.t 8)⟩,
  ⟨(some 26), none, .bin false .geq (.t 25) (.c (.i .i64 0))⟩,
  ⟨(some 27), none, .mv (.t 26)⟩,
  ⟨(some 28), (some (27, true)), .mv (.t 9)⟩,
  ⟨(some 29), (some (27, true)), .bin false .geq (.t 28) (.c (.i .i64 0))⟩,
  ⟨(some 30), none, .pick (.t 27) (.t 29) (.c (.b false))⟩]
def c64r7 : List AOper := [
  ⟨(some 35), none, .mv (.t 0)⟩,
  ⟨(some 36), none, .mv (.t 8)⟩,
  ⟨(some 37), none, .ia 4 (.t 35) (.t 36)⟩,
  ⟨(some 38), none, .ld (some 4) (.t 37)⟩,
  ⟨(some 39), none, .mv (.t 0)⟩,
  ⟨(some 40), none, .mv (.t 9)⟩,
  ⟨(some 41), none, .ia 4 (.t 39) (.t 40)⟩,
  ⟨(some 42), none, .ld (some 4) (.t 41)⟩,
  ⟨(some 43), none, .call (.c (.fn 68 [] [])) [(.t 38), (.t 42)]⟩,
  ⟨(some 44), none, .mv (.t 1)⟩,
  ⟨(some 45), none, .bin false .leq (.t 43) (.t 44)⟩,
  ⟨(some 34), none, .mv (.t 45)⟩]
def c64r8 : List AOper := [
  ⟨(some 46), none, .mv (.t 5)⟩,
  ⟨(some 47), none, .mv (.t 8)⟩,
  ⟨(some 48), none, .mv (.t 9)⟩,
  ⟨(some 49), none, .bld [.i .i64 0, .i .i64 0] [(0, 1, (.t 47)), (1, 1, (.t 48))]⟩,
  ⟨(some 50), none, .bsl 2 [.i .i64 0, .i .i64 0] [(0, 2, (.t 49))]⟩,
  ⟨(some 51), none, .app 2 16 (.t 46) (.t 50)⟩,
  ⟨(some 5), none, .mv (.t 51)⟩]
def c64r9 : List AOper := [
  ⟨(some 52), none, .mv (.t 6)⟩,
  ⟨(some 53), none, .mv (.t 8)⟩,
  ⟨(some 54), none, .mv (.t 6)⟩,
  ⟨(some 55), none, .mv (.t 9)⟩,
  ⟨(some 56), none, .ia 1 (.t 52) (.t 53)⟩,
  ⟨none, none, .sto none (.t 56) (.c (.b true))⟩,
  ⟨(some 57), none, .ia 1 (.t 54) (.t 55)⟩,
  ⟨none, none, .sto none (.t 57) (.c (.b true))⟩]
def c64r10 : List AOper := [
  ⟨(some 59), none, .mv (.t 0)⟩,
  ⟨(some 60), none, .mv (.t 8)⟩,
  ⟨(some 61), none, .ia 4 (.t 59) (.t 60)⟩,
  ⟨(some 62), none, .fa (.t 61) 2⟩,
  ⟨(some 63), none, .ld none (.t 62)⟩,
  ⟨(some 64), none, .mv (.t 0)⟩,
  ⟨(some 65), none, .mv (.t 9)⟩,
  ⟨(some 66), none, .ia 4 (.t 64) (.t 65)⟩,
  ⟨(some 67), none, .fa (.t 66) 2⟩,
  ⟨(some 68), none, .ld none (.t 67)⟩,
  ⟨(some 69), none, .bin false .lss (.t 63) (.t 68)⟩,
  ⟨(some 58), none, .mv (.t 69)⟩]
def c64r11 : List AOper := [
  ⟨(some 70), none, .mv (.t 6)⟩,
  ⟨(some 71), none, .mv (.t 8)⟩,
  ⟨(some 72), none, .ia 1 (.t 70) (.t 71)⟩,
  ⟨none, none, .sto none (.t 72) (.c (.b true))⟩]
def c64r12 : List AOper := [
  ⟨(some 31), none, .mv (.t 6)⟩,
  ⟨(some 32), none, .mv (.t 9)⟩,
  ⟨(some 33), none, .ia 1 (.t 31) (.t 32)⟩,
  ⟨none, none, .sto none (.t 33) (.c (.b true))⟩]
def c64r13 : List AOper := [
  ⟨(some 73), none, .mv (.t 0)⟩,
  ⟨(some 74), none, .mv (.t 6)⟩,
  ⟨(some 75), none, .mv (.t 7)⟩,
  ⟨(some 76), none, .call (.c (.fn 75 [] [])) [(.t 73), (.t 74), (.c (.i .i64 1)), (.t 75)]⟩,
  ⟨(some 77), none, .mv (.t 0)⟩,
  ⟨(some 78), none, .mv (.t 6)⟩,
  ⟨(some 79), none, .mv (.t 7)⟩,
  ⟨(some 80), none, .call (.c (.fn 75 [] [])) [(.t 77), (.t 78), (.c (.i .i64 2)), (.t 79)]⟩,
  ⟨(some 8), none, .mv (.t 76)⟩,
  ⟨(some 9), none, .mv (.t 80)⟩]
abbrev c64b14 : AC := (.seq (.seq (.reg c64r6) (.cond (.t 30) .skip (.exit 2))) (.blk 3 (.seq (.blk 4 (.seq (.head 10 c64r7) (.cond (.t 34) (.seq (.reg c64r8) (.reg c64r9)) (.seq (.head 10 c64r10) (.cond (.t 58) (.reg c64r11) (.reg c64r12)))))) (.reg c64r13))))
def c64r15 : List AOper := [
  ⟨(some 15), none, .mv (.t 7)⟩,
  ⟨(some 16), none, .bin false .add (.t 15) (.c (.i .i64 1))⟩,
  ⟨(some 7), none, .mv (.t 16)⟩]
abbrev c64b16 : AC := (.seq (.seq (.reg c64r4) (.cond (.t 14) .skip (.exit 0))) (.seq (.blk 1 (.seq (.reg c64r5) (.blk 2 (.loop c64b14)))) (.reg c64r15)))
def c64r17 : List AOper := [
  ⟨(some 81), none, .mv (.t 5)⟩,
  ⟨(some 4), none, .mv (.t 81)⟩]
abbrev c64 : AC := (.seq (.reg c64r0) (.seq (.reg c64r1) (.seq (.reg c64r2) (.seq (.seq (.reg c64r3) (.blk 0 (.loop c64b16))) (.seq (.reg c64r17) .ret)))))
def q64 : List ARes := [.t 4]
theorem fn64 : fnOf Try.prog 64 = some (c64, q64, 82) := by kernel_rfl
/-! 65: pantoscope/pantoscoperef04.most · slots 46 · [0 l, 1 tol, 2 l, 3 tol, 5 partner, 6 i, 7 n, 8 i] -/
def c65r0 : List AOper := [
  ⟨(some 4), none, .mv (.c (.i .i64 0))⟩]
def c65r1 : List AOper := [
  ⟨(some 9), none, .mv (.t 0)⟩,
  ⟨(some 10), none, .len (.t 9)⟩,
  ⟨(some 11), none, .mks 1 8 [.i .i64 0] (.t 10) (.t 10)⟩,
  ⟨(some 5), none, .mv (.t 11)⟩]
def c65r2 : List AOper := [
  ⟨(some 6), none, .mv (.c (.i .i64 0))⟩]
def c65r3 : List AOper := [
  ⟨(some 12), none, .mv (.t 6)⟩,
  ⟨(some 13), none, .mv (.t 0)⟩,
  ⟨(some 14), none, .len (.t 13)⟩,
  ⟨(some 15), none, .bin false .lss (.t 12) (.t 14)⟩]
def c65r4 : List AOper := [
  ⟨(some 18), none, .mv (.t 5)⟩,
  ⟨(some 19), none, .mv (.t 6)⟩,
  ⟨(some 20), none, .ia 1 (.t 18) (.t 19)⟩,
  ⟨none, none, .sto none (.t 20) (.c (.i .i64 (-1)))⟩]
def c65r5 : List AOper := [
  ⟨(some 16), none, .mv (.t 6)⟩,
  ⟨(some 17), none, .bin false .add (.t 16) (.c (.i .i64 1))⟩,
  ⟨(some 6), none, .mv (.t 17)⟩]
abbrev c65b6 : AC := (.seq (.seq (.reg c65r3) (.cond (.t 15) .skip (.exit 0))) (.seq (.blk 1 (.reg c65r4)) (.reg c65r5)))
def c65r7 : List AOper := [
  ⟨(some 7), none, .mv (.c (.i .i64 0))⟩]
def c65r8 : List AOper := [
  ⟨(some 8), none, .mv (.c (.i .i64 0))⟩]
def c65r9 : List AOper := [
  ⟨(some 21), none, .mv (.t 8)⟩,
  ⟨(some 22), none, .mv (.t 0)⟩,
  ⟨(some 23), none, .len (.t 22)⟩,
  ⟨(some 24), none, .bin false .lss (.t 21) (.t 23)⟩]
def c65r10 : List AOper := [
  ⟨(some 27), none, .mv (.t 0)⟩,
  ⟨(some 28), none, .mv (.t 8)⟩,
  ⟨(some 29), none, .ia 4 (.t 27) (.t 28)⟩,
  ⟨(some 30), none, .fa (.t 29) 1⟩,
  ⟨(some 31), none, .ld none (.t 30)⟩,
  ⟨(some 32), none, .bin false .eql (.t 31) (.c (.i .i64 1))⟩,
  ⟨(some 33), none, .mv (.t 32)⟩,
  ⟨(some 34), (some (33, true)), .mv (.t 0)⟩,
  ⟨(some 35), (some (33, true)), .mv (.t 1)⟩,
  ⟨(some 36), (some (33, true)), .mv (.t 5)⟩,
  ⟨(some 37), (some (33, true)), .mv (.t 0)⟩,
  ⟨(some 38), (some (33, true)), .len (.t 37)⟩,
  ⟨(some 39), (some (33, true)), .mks 1 1 [.b false] (.t 38) (.t 38)⟩,
  ⟨(some 40), (some (33, true)), .mv (.t 8)⟩,
  ⟨(some 41), (some (33, true)), .call (.c (.fn 76 [] [])) [(.t 34), (.t 35), (.t 36), (.t 39), (.t 40)]⟩,
  ⟨(some 42), none, .pick (.t 33) (.t 41) (.c (.b false))⟩]
def c65r11 : List AOper := [
  ⟨(some 43), none, .mv (.t 7)⟩,
  ⟨(some 44), none, .bin false .add (.t 43) (.c (.i .i64 1))⟩,
  ⟨(some 7), none, .mv (.t 44)⟩]
def c65r12 : List AOper := [
  ⟨(some 25), none, .mv (.t 8)⟩,
  ⟨(some 26), none, .bin false .add (.t 25) (.c (.i .i64 1))⟩,
  ⟨(some 8), none, .mv (.t 26)⟩]
abbrev c65b13 : AC := (.seq (.seq (.reg c65r9) (.cond (.t 24) .skip (.exit 2))) (.seq (.blk 3 (.seq (.reg c65r10) (.cond (.t 42) (.reg c65r11) .skip))) (.reg c65r12)))
def c65r14 : List AOper := [
  ⟨(some 45), none, .mv (.t 7)⟩,
  ⟨(some 4), none, .mv (.t 45)⟩]
abbrev c65 : AC := (.seq (.reg c65r0) (.seq (.reg c65r1) (.seq (.seq (.reg c65r2) (.blk 0 (.loop c65b6))) (.seq (.reg c65r7) (.seq (.seq (.reg c65r8) (.blk 2 (.loop c65b13))) (.seq (.reg c65r14) .ret))))))
def q65 : List ARes := [.t 4]
theorem fn65 : fnOf Try.prog 65 = some (c65, q65, 46) := by kernel_rfl
/-! 68: pantoscope/pantoscoperef04.apart · slots 16 · [0 a, 1 b, 2 a, 3 b] -/
def c68r0 : List AOper := [
  ⟨(some 2), none, .box (.t 0)⟩,
  ⟨(some 3), none, .box (.t 1)⟩,
  ⟨(some 4), none, .mv (.c (.i .i64 0))⟩]
def c68r1 : List AOper := [
  ⟨(some 5), none, .fa (.t 2) 2⟩,
  ⟨(some 6), none, .ld none (.t 5)⟩,
  ⟨(some 7), none, .fa (.t 3) 2⟩,
  ⟨(some 8), none, .ld none (.t 7)⟩,
  ⟨(some 9), none, .bin false .sub (.t 6) (.t 8)⟩,
  ⟨(some 10), none, .fa (.t 3) 2⟩,
  ⟨(some 11), none, .ld none (.t 10)⟩,
  ⟨(some 12), none, .fa (.t 2) 2⟩,
  ⟨(some 13), none, .ld none (.t 12)⟩,
  ⟨(some 14), none, .bin false .sub (.t 11) (.t 13)⟩,
  ⟨(some 15), none, .mm true (.t 9) [(.t 14)]⟩,
  ⟨(some 4), none, .mv (.t 15)⟩]
abbrev c68 : AC := (.seq (.reg c68r0) (.seq (.reg c68r1) .ret))
def q68 : List ARes := [.t 4]
theorem fn68 : fnOf Try.prog 68 = some (c68, q68, 16) := by kernel_rfl
/-! 71: pantoscope/temple.between · slots 15 · [0 low, 1 n, 2 high, 3 low, 4 n, 5 high] -/
def c71r0 : List AOper := [
  ⟨(some 6), none, .mv (.c (.b false))⟩]
def c71r1 : List AOper := [
  ⟨(some 7), none, .mv (.t 0)⟩,
  ⟨(some 8), none, .mv (.t 1)⟩,
  ⟨(some 9), none, .bin false .leq (.t 7) (.t 8)⟩,
  ⟨(some 10), none, .mv (.t 9)⟩,
  ⟨(some 11), (some (10, true)), .mv (.t 1)⟩,
  ⟨(some 12), (some (10, true)), .mv (.t 2)⟩,
  ⟨(some 13), (some (10, true)), .bin false .leq (.t 11) (.t 12)⟩,
  ⟨(some 14), none, .pick (.t 10) (.t 13) (.c (.b false))⟩,
  ⟨(some 6), none, .mv (.t 14)⟩]
abbrev c71 : AC := (.seq (.reg c71r0) (.seq (.reg c71r1) .ret))
def q71 : List ARes := [.t 6]
theorem fn71 : fnOf Try.prog 71 = some (c71, q71, 15) := by kernel_rfl
/-! 74: pantoscope/temple.side · slots 37 · [0 l, 1 side, 2 colour, 3 l, 4 side, 5 colour, 7 out, 8 i, 9 t] -/
def c74r0 : List AOper := [
  ⟨(some 6), none, .mv (.c (.sl 0 0 0 0))⟩]
def c74r1 : List AOper := [
  ⟨(some 7), none, .mv (.c (.sl 0 0 0 0))⟩]
def c74r2 : List AOper := [
  ⟨(some 10), none, .mv (.t 0)⟩,
  ⟨(some 11), none, .len (.t 10)⟩,
  ⟨(some 12), none, .mv (.c (.i .i64 0))⟩]
def c74r3 : List AOper := [
  ⟨(some 13), none, .bin false .lss (.t 12) (.t 11)⟩]
def c74r4 : List AOper := [
  ⟨(some 14), none, .mv (.t 12)⟩,
  ⟨(some 15), none, .ia 4 (.t 10) (.t 12)⟩,
  ⟨(some 16), none, .ld (some 4) (.t 15)⟩,
  ⟨(some 9), none, .alloc [.i .i64 0, .i .i64 0, .i .i64 0, .i .i64 0]⟩,
  ⟨(some 8), none, .mv (.t 14)⟩,
  ⟨none, none, .sto (some 4) (.t 9) (.t 16)⟩]
def c74r5 : List AOper := [
  ⟨(some 17), none, .fa (.t 9) 1⟩,
  ⟨(some 18), none, .ld none (.t 17)⟩,
  ⟨(some 19), none, .mv (.t 1)⟩,
  ⟨(some 20), none, .bin false .eql (.t 18) (.t 19)⟩,
  ⟨(some 21), none, .mv (.t 20)⟩,
  ⟨(some 22), (some (21, true)), .fa (.t 9) 3⟩,
  ⟨(some 23), (some (21, true)), .ld none (.t 22)⟩,
  ⟨(some 24), (some (21, true)), .mv (.t 2)⟩,
  ⟨(some 25), (some (21, true)), .bin false .eql (.t 23) (.t 24)⟩,
  ⟨(some 26), none, .pick (.t 21) (.t 25) (.c (.b false))⟩]
def c74r6 : List AOper := [
  ⟨(some 27), none, .mv (.t 7)⟩,
  ⟨(some 28), none, .mv (.t 8)⟩,
  ⟨(some 29), none, .bsl 1 [.i .i64 0] [(0, 1, (.t 28))]⟩,
  ⟨(some 30), none, .app 1 8 (.t 27) (.t 29)⟩,
  ⟨(some 7), none, .mv (.t 30)⟩]
def c74r7 : List AOper := [
  ⟨(some 31), none, .bin false .add (.t 12) (.c (.i .i64 1))⟩,
  ⟨(some 12), none, .mv (.t 31)⟩]
abbrev c74b8 : AC := (.seq (.reg c74r3) (.seq (.cond (.t 13) .skip (.exit 0)) (.seq (.blk 1 (.seq (.reg c74r4) (.seq (.reg c74r5) (.cond (.t 26) (.reg c74r6) .skip)))) (.reg c74r7))))
def c74r9 : List AOper := [
  ⟨(some 32), none, .mv (.t 7)⟩,
  ⟨(some 33), none, .mv (.t 0)⟩,
  ⟨(some 34), none, .call (.c (.fn 78 [] [])) [(.t 33)]⟩,
  ⟨(some 35), none, .call (.c (.fn 77 [] [])) [(.t 32), (.t 34)]⟩]
def c74r10 : List AOper := [
  ⟨(some 36), none, .mv (.t 7)⟩,
  ⟨(some 6), none, .mv (.t 36)⟩]
abbrev c74 : AC := (.seq (.reg c74r0) (.seq (.reg c74r1) (.seq (.seq (.reg c74r2) (.blk 0 (.loop c74b8))) (.seq (.reg c74r9) (.seq (.reg c74r10) .ret)))))
def q74 : List ARes := [.t 6]
theorem fn74 : fnOf Try.prog 74 = some (c74, q74, 37) := by kernel_rfl
/-! 75: pantoscope/pantoscoperef04.least · slots 82 · [0 l, 1 gone, 2 side, 3 colour, 4 l, 5 gone, 6 side, 7 colour, 9 best, 10 i] -/
def c75r0 : List AOper := [
  ⟨(some 8), none, .mv (.c (.i .i64 0))⟩]
def c75r1 : List AOper := [
  ⟨(some 9), none, .mv (.c (.i .i64 (-1)))⟩]
def c75r2 : List AOper := [
  ⟨(some 10), none, .mv (.c (.i .i64 0))⟩]
def c75r3 : List AOper := [
  ⟨(some 11), none, .mv (.t 10)⟩,
  ⟨(some 12), none, .mv (.t 0)⟩,
  ⟨(some 13), none, .len (.t 12)⟩,
  ⟨(some 14), none, .bin false .lss (.t 11) (.t 13)⟩]
def c75r4 : List AOper := [
  ⟨(some 17), none, .mv (.t 1)⟩,
  ⟨(some 18), none, .mv (.t 10)⟩,
  ⟨(some 19), none, .ia 1 (.t 17) (.t 18)⟩,
  ⟨(some 20), none, .ld none (.t 19)⟩,
  ⟨(some 21), none, .mv (.t 20)⟩,
  ⟨(some 22), (some (21, false)), .mv (.t 0)⟩,
  ⟨(some 23), (some (21, false)), .mv (.t 10)⟩,
  ⟨(some 24), (some (21, false)), .ia 4 (.t 22) (.t 23)⟩,
  ⟨(some 25), (some (21, false)), .fa (.t 24) 1⟩,
  ⟨(some 26), (some (21, false)), .ld none (.t 25)⟩,
  ⟨(some 27), (some (21, false)), .mv (.t 2)⟩,
  ⟨(some 28), (some (21, false)), .bin false .neq (.t 26) (.t 27)⟩,
  ⟨(some 29), none, .pick (.t 21) (.c (.b true)) (.t 28)⟩,
  ⟨(some 30), none, .mv (.t 29)⟩,
  ⟨(some 31), (some (30, false)), .mv (.t 0)⟩,
  ⟨(some 32), (some (30, false)), .mv (.t 10)⟩,
  ⟨(some 33), (some (30, false)), .ia 4 (.t 31) (.t 32)⟩,
  ⟨(some 34), (some (30, false)), .fa (.t 33) 3⟩,
  ⟨(some 35), (some (30, false)), .ld none (.t 34)⟩,
  ⟨(some 36), (some (30, false)), .mv (.t 3)⟩,
  ⟨(some 37), (some (30, false)), .bin false .neq (.t 35) (.t 36)⟩,
  ⟨(some 38), none, .pick (.t 30) (.c (.b true)) (.t 37)⟩]
def c75r5 : List AOper := [
  ⟨(some 39), none, .mv (.t 9)⟩,
  ⟨(some 40), none, .bin false .lss (.t 39) (.c (.i .i64 0))⟩,
  ⟨(some 41), none, .mv (.t 40)⟩,
  ⟨(some 42), (some (41, false)), .mv (.t 0)⟩,
  ⟨(some 43), (some (41, false)), .mv (.t 10)⟩,
  ⟨(some 44), (some (41, false)), .ia 4 (.t 42) (.t 43)⟩,
  ⟨(some 45), (some (41, false)), .fa (.t 44) 2⟩,
  ⟨(some 46), (some (41, false)), .ld none (.t 45)⟩,
  ⟨(some 47), (some (41, false)), .mv (.t 0)⟩,
  ⟨(some 48), (some (41, false)), .mv (.t 9)⟩,
  ⟨(some 49), (some (41, false)), .ia 4 (.t 47) (.t 48)⟩,
  ⟨(some 50), (some (41, false)), .fa (.t 49) 2⟩,
  ⟨(some 51), (some (41, false)), .ld none (.t 50)⟩,
  ⟨(some 52), (some (41, false)), .bin false .lss (.t 46) (.t 51)⟩,
  ⟨(some 53), none, .pick (.t 41) (.c (.b true)) (.t 52)⟩,
  ⟨(some 54), none, .mv (.t 53)⟩,
  ⟨(some 55), (some (54, false)), .mv (.t 0)⟩,
  ⟨(some 56), (some (54, false)), .mv (.t 10)⟩,
  ⟨(some 57), (some (54, false)), .ia 4 (.t 55) (.t 56)⟩,
  ⟨(some 58), (some (54, false)), .fa (.t 57) 2⟩,
  ⟨(some 59), (some (54, false)), .ld none (.t 58)⟩,
  ⟨(some 60), (some (54, false)), .mv (.t 0)⟩,
  ⟨(some 61), (some (54, false)), .mv (.t 9)⟩,
  ⟨(some 62), (some (54, false)), .ia 4 (.t 60) (.t 61)⟩,
  ⟨(some 63), (some (54, false)), .fa (.t 62) 2⟩,
  ⟨(some 64), (some (54, false)), .ld none (.t 63)⟩,
  ⟨(some 65), (some (54, false)), .bin false .eql (.t 59) (.t 64)⟩,
  ⟨(some 66), (some (54, false)), .mv (.t 65)⟩,
  ⟨(some 67), (some (66, true)), .mv (.t 0)⟩,
  ⟨(some 68), (some (66, true)), .mv (.t 10)⟩,
  ⟨(some 69), (some (66, true)), .ia 4 (.t 67) (.t 68)⟩,
  ⟨(some 70), (some (66, true)), .fa (.t 69) 0⟩,
  ⟨(some 71), (some (66, true)), .ld none (.t 70)⟩,
  ⟨(some 72), (some (66, true)), .mv (.t 0)⟩,
  ⟨(some 73), (some (66, true)), .mv (.t 9)⟩,
  ⟨(some 74), (some (66, true)), .ia 4 (.t 72) (.t 73)⟩,
  ⟨(some 75), (some (66, true)), .fa (.t 74) 0⟩,
  ⟨(some 76), (some (66, true)), .ld none (.t 75)⟩,
  ⟨(some 77), (some (66, true)), .bin false .lss (.t 71) (.t 76)⟩,
  ⟨(some 78), (some (54, false)), .pick (.t 66) (.t 77) (.c (.b false))⟩,
  ⟨(some 79), none, .pick (.t 54) (.c (.b true)) (.t 78)⟩]
def c75r6 : List AOper := [
  ⟨(some 80), none, .mv (.t 10)⟩,
  ⟨(some 9), none, .mv (.t 80)⟩]
def c75r7 : List AOper := [
  ⟨(some 15), none, .mv (.t 10)⟩,
  ⟨(some 16), none, .bin false .add (.t 15) (.c (.i .i64 1))⟩,
  ⟨(some 10), none, .mv (.t 16)⟩]
abbrev c75b8 : AC := (.seq (.seq (.reg c75r3) (.cond (.t 14) .skip (.exit 0))) (.seq (.blk 1 (.seq (.seq (.reg c75r4) (.cond (.t 38) (.exit 1) .skip)) (.seq (.head 38 c75r5) (.cond (.t 79) (.reg c75r6) .skip)))) (.reg c75r7)))
def c75r9 : List AOper := [
  ⟨(some 81), none, .mv (.t 9)⟩,
  ⟨(some 8), none, .mv (.t 81)⟩]
abbrev c75 : AC := (.seq (.reg c75r0) (.seq (.reg c75r1) (.seq (.seq (.reg c75r2) (.blk 0 (.loop c75b8))) (.seq (.reg c75r9) .ret))))
def q75 : List ARes := [.t 8]
theorem fn75 : fnOf Try.prog 75 = some (c75, q75, 82) := by kernel_rfl
/-! 76: pantoscope/pantoscoperef04.found · slots 58 · [0 l, 1 tol, 2 partner, 3 seen, 4 i, 5 l, 6 tol, 7 partner, 8 seen, 9 i, 11 k] -/
def c76r0 : List AOper := [
  ⟨(some 10), none, .mv (.c (.b false))⟩]
def c76r1 : List AOper := [
  ⟨(some 11), none, .mv (.c (.i .i64 0))⟩]
def c76r2 : List AOper := [
  ⟨(some 12), none, .mv (.t 11)⟩,
  ⟨(some 13), none, .mv (.t 0)⟩,
  ⟨(some 14), none, .len (.t 13)⟩,
  ⟨(some 15), none, .bin false .lss (.t 12) (.t 14)⟩]
def c76r3 : List AOper := [
  ⟨(some 18), none, .mv (.t 3)⟩,
  ⟨(some 19), none, .mv (.t 11)⟩,
  ⟨(some 20), none, .ia 1 (.t 18) (.t 19)⟩,
  ⟨(some 21), none, .ld none (.t 20)⟩,
  ⟨(some 22), none, .mv (.t 21)⟩,
  ⟨(some 23), (some (22, false)), .mv (.t 0)⟩,
  ⟨(some 24), (some (22, false)), .mv (.t 4)⟩,
  ⟨(some 25), (some (22, false)), .ia 4 (.t 23) (.t 24)⟩,
  ⟨(some 26), (some (22, false)), .ld (some 4) (.t 25)⟩,
  ⟨(some 27), (some (22, false)), .mv (.t 0)⟩,
  ⟨(some 28), (some (22, false)), .mv (.t 11)⟩,
  ⟨(some 29), (some (22, false)), .ia 4 (.t 27) (.t 28)⟩,
  ⟨(some 30), (some (22, false)), .ld (some 4) (.t 29)⟩,
  ⟨(some 31), (some (22, false)), .mv (.t 1)⟩,
  ⟨(some 32), (some (22, false)), .call (.c (.fn 57 [] [])) [(.t 26), (.t 30), (.t 31)]⟩,
  ⟨(some 33), (some (22, false)), .not (.t 32)⟩,
  ⟨(some 34), none, .pick (.t 22) (.c (.b true)) (.t 33)⟩]
def c76r4 : List AOper := [
  ⟨(some 35), none, .mv (.t 3)⟩,
  ⟨(some 36), none, .mv (.t 11)⟩,
  ⟨(some 37), none, .ia 1 (.t 35) (.t 36)⟩,
  ⟨none, none, .sto none (.t 37) (.c (.b true))⟩]
def c76r5 : List AOper := [
  ⟨(some 38), none, .mv (.t 2)⟩,
  ⟨(some 39), none, .mv (.t 11)⟩,
  ⟨(some 40), none, .ia 1 (.t 38) (.t 39)⟩,
  ⟨(some 41), none, .ld none (.t 40)⟩,
  ⟨(some 42), none, .bin false .lss (.t 41) (.c (.i .i64 0))⟩,
  ⟨(some 43), none, .mv (.t 42)⟩,
  ⟨(some 44), (some (43, false)), .mv (.t 0)⟩,
  ⟨(some 45), (some (43, false)), .mv (.t 1)⟩,
  ⟨(some 46), (some (43, false)), .mv (.t 2)⟩,
  ⟨(some 47), (some (43, false)), .mv (.t 3)⟩,
  ⟨(some 48), (some (43, false)), .mv (.t 2)⟩,
  ⟨(some 49), (some (43, false)), .mv (.t 11)⟩,
  ⟨(some 50), (some (43, false)), .ia 1 (.t 48) (.t 49)⟩,
  ⟨(some 51), (some (43, false)), .ld none (.t 50)⟩,
  ⟨(some 52), (some (43, false)), .call (.c (.fn 76 [] [])) [(.t 44), (.t 45), (.t 46), (.t 47), (.t 51)]⟩,
  ⟨(some 53), none, .pick (.t 43) (.c (.b true)) (.t 52)⟩]
def c76r6 : List AOper := [
  ⟨(some 54), none, .mv (.t 2)⟩,
  ⟨(some 55), none, .mv (.t 11)⟩,
  ⟨(some 56), none, .mv (.t 4)⟩,
  ⟨(some 57), none, .ia 1 (.t 54) (.t 55)⟩,
  ⟨none, none, .sto none (.t 57) (.t 56)⟩]
def c76r7 : List AOper := [
  ⟨(some 10), none, .mv (.c (.b true))⟩]
def c76r8 : List AOper := [
  ⟨(some 16), none, .mv (.t 11)⟩,
  ⟨(some 17), none, .bin false .add (.t 16) (.c (.i .i64 1))⟩,
  ⟨(some 11), none, .mv (.t 17)⟩]
abbrev c76b9 : AC := (.seq (.seq (.reg c76r2) (.cond (.t 15) .skip (.exit 0))) (.seq (.blk 1 (.seq (.seq (.head 14 c76r3) (.cond (.t 34) (.exit 1) .skip)) (.seq (.reg c76r4) (.seq (.reg c76r5) (.cond (.t 53) (.seq (.reg c76r6) (.seq (.reg c76r7) .ret)) .skip))))) (.reg c76r8)))
def c76r10 : List AOper := [
  ⟨(some 10), none, .mv (.c (.b false))⟩]
abbrev c76 : AC := (.seq (.reg c76r0) (.seq (.seq (.reg c76r1) (.blk 0 (.loop c76b9))) (.seq (.reg c76r10) .ret)))
def q76 : List ARes := [.t 10]
theorem fn76 : fnOf Try.prog 76 = some (c76, q76, 58) := by kernel_rfl
def q77 : List ARes := []
/-! 78: pantoscope/temple.shorter · slots 4 · [0 l, 1 l] -/
def c78r0 : List AOper := [
  ⟨(some 1), none, .box (.t 0)⟩,
  ⟨(some 2), none, .mv (.c (.nilf))⟩]
def c78r1 : List AOper := [
  ⟨(some 3), none, .mkf 81 [] [(.t 1)]⟩,
  ⟨(some 2), none, .mv (.t 3)⟩]
abbrev c78 : AC := (.seq (.reg c78r0) (.seq (.reg c78r1) .ret))
def q78 : List ARes := [.t 2]
theorem fn78 : fnOf Try.prog 78 = some (c78, q78, 4) := by kernel_rfl
/-! 81: pantoscope/temple.shorter$1 · slots 30 · [0 i, 1 k, 3 i, 4 k] -/
def c81r0 : List AOper := [
  ⟨(some 5), none, .mv (.c (.i .i64 0))⟩]
def c81r1 : List AOper := [
  ⟨(some 6), none, .ld none (.t 2)⟩,
  ⟨(some 7), none, .mv (.t 0)⟩,
  ⟨(some 8), none, .ia 4 (.t 6) (.t 7)⟩,
  ⟨(some 9), none, .fa (.t 8) 2⟩,
  ⟨(some 10), none, .ld none (.t 9)⟩,
  ⟨(some 11), none, .ld none (.t 2)⟩,
  ⟨(some 12), none, .mv (.t 1)⟩,
  ⟨(some 13), none, .ia 4 (.t 11) (.t 12)⟩,
  ⟨(some 14), none, .fa (.t 13) 2⟩,
  ⟨(some 15), none, .ld none (.t 14)⟩,
  ⟨(some 16), none, .call (.c (.fn 83 [] [])) [(.t 10), (.t 15)]⟩,
  ⟨(some 17), none, .ld none (.t 2)⟩,
  ⟨(some 18), none, .mv (.t 0)⟩,
  ⟨(some 19), none, .ia 4 (.t 17) (.t 18)⟩,
  ⟨(some 20), none, .fa (.t 19) 0⟩,
  ⟨(some 21), none, .ld none (.t 20)⟩,
  ⟨(some 22), none, .ld none (.t 2)⟩,
  ⟨(some 23), none, .mv (.t 1)⟩,
  ⟨(some 24), none, .ia 4 (.t 22) (.t 23)⟩,
  ⟨(some 25), none, .fa (.t 24) 0⟩,
  ⟨(some 26), none, .ld none (.t 25)⟩,
  ⟨(some 27), none, .call (.c (.fn 83 [] [])) [(.t 21), (.t 26)]⟩,
  ⟨(some 28), none, .bsl 1 [.i .i64 0, .i .i64 0] [(0, 1, (.t 16)), (1, 1, (.t 27))]⟩,
  ⟨(some 29), none, .call (.c (.fn 82 [] [])) [(.t 28)]⟩,
  ⟨(some 5), none, .mv (.t 29)⟩]
abbrev c81 : AC := (.seq (.reg c81r0) (.seq (.head 21 c81r1) .ret))
def q81 : List ARes := [.t 5]
theorem fn81 : fnOf Try.prog 81 = some (c81, q81, 30) := by kernel_rfl
/-! 82: cmp.Or[int] · slots 18 · [0 vals, 1 vals, 3 zero, 4 _, 5 val] -/
def c82r0 : List AOper := [
  ⟨(some 2), none, .mv (.c (.i .i64 0))⟩]
def c82r1 : List AOper := [
  ⟨(some 3), none, .mv (.c (.i .i64 0))⟩]
def c82r2 : List AOper := [
  ⟨(some 6), none, .mv (.t 0)⟩,
  ⟨(some 7), none, .len (.t 6)⟩,
  ⟨(some 8), none, .mv (.c (.i .i64 0))⟩]
def c82r3 : List AOper := [
  ⟨(some 9), none, .bin false .lss (.t 8) (.t 7)⟩]
def c82r4 : List AOper := [
  ⟨(some 10), none, .ia 1 (.t 6) (.t 8)⟩,
  ⟨(some 11), none, .ld none (.t 10)⟩,
  ⟨(some 5), none, .mv (.t 11)⟩]
def c82r5 : List AOper := [
  ⟨(some 12), none, .mv (.t 5)⟩,
  ⟨(some 13), none, .mv (.t 3)⟩,
  ⟨(some 14), none, .bin false .neq (.t 12) (.t 13)⟩]
def c82r6 : List AOper := [
  ⟨(some 15), none, .mv (.t 5)⟩,
  ⟨(some 2), none, .mv (.t 15)⟩]
def c82r7 : List AOper := [
  ⟨(some 16), none, .bin false .add (.t 8) (.c (.i .i64 1))⟩,
  ⟨(some 8), none, .mv (.t 16)⟩]
abbrev c82b8 : AC := (.seq (.reg c82r3) (.seq (.cond (.t 9) .skip (.exit 0)) (.seq (.blk 1 (.seq (.reg c82r4) (.seq (.reg c82r5) (.cond (.t 14) (.seq (.reg c82r6) .ret) .skip)))) (.reg c82r7))))
def c82r9 : List AOper := [
  ⟨(some 17), none, .mv (.t 3)⟩,
  ⟨(some 2), none, .mv (.t 17)⟩]
abbrev c82 : AC := (.seq (.reg c82r0) (.seq (.reg c82r1) (.seq (.seq (.reg c82r2) (.blk 0 (.loop c82b8))) (.seq (.reg c82r9) .ret))))
def q82 : List ARes := [.t 2]
theorem fn82 : fnOf Try.prog 82 = some (c82, q82, 18) := by kernel_rfl
/-! 83: cmp.Compare[int] · slots 20 · [0 x, 1 y, 2 x, 3 y, 5 xNaN, 6 yNaN] -/
def c83r0 : List AOper := [
  ⟨(some 4), none, .mv (.c (.i .i64 0))⟩]
def c83r1 : List AOper := [
  ⟨(some 7), none, .mv (.t 0)⟩,
  ⟨(some 8), none, .call (.c (.fn 94 [] [])) [(.t 7)]⟩,
  ⟨(some 5), none, .mv (.t 8)⟩]
def c83r2 : List AOper := [
  ⟨(some 9), none, .mv (.t 1)⟩,
  ⟨(some 10), none, .call (.c (.fn 94 [] [])) [(.t 9)]⟩,
  ⟨(some 6), none, .mv (.t 10)⟩]
def c83r3 : List AOper := [
  ⟨(some 11), none, .mv (.t 5)⟩]
def c83r4 : List AOper := [
  ⟨(some 12), none, .mv (.t 6)⟩]
def c83r5 : List AOper := [
  ⟨(some 4), none, .mv (.c (.i .i64 0))⟩]
def c83r6 : List AOper := [
  ⟨(some 4), none, .mv (.c (.i .i64 (-1)))⟩]
def c83r7 : List AOper := [
  ⟨(some 13), none, .mv (.t 6)⟩]
def c83r8 : List AOper := [
  ⟨(some 4), none, .mv (.c (.i .i64 1))⟩]
def c83r9 : List AOper := [
  ⟨(some 14), none, .mv (.t 0)⟩,
  ⟨(some 15), none, .mv (.t 1)⟩,
  ⟨(some 16), none, .bin false .lss (.t 14) (.t 15)⟩]
def c83r10 : List AOper := [
  ⟨(some 4), none, .mv (.c (.i .i64 (-1)))⟩]
def c83r11 : List AOper := [
  ⟨(some 17), none, .mv (.t 0)⟩,
  ⟨(some 18), none, .mv (.t 1)⟩,
  ⟨(some 19), none, .bin false .gtr (.t 17) (.t 18)⟩]
def c83r12 : List AOper := [
  ⟨(some 4), none, .mv (.c (.i .i64 1))⟩]
def c83r13 : List AOper := [
  ⟨(some 4), none, .mv (.c (.i .i64 0))⟩]
abbrev c83 : AC := (.seq (.reg c83r0) (.seq (.reg c83r1) (.seq (.reg c83r2) (.seq (.seq (.reg c83r3) (.cond (.t 11) (.seq (.seq (.reg c83r4) (.cond (.t 12) (.seq (.reg c83r5) .ret) .skip)) (.seq (.reg c83r6) .ret)) .skip)) (.seq (.seq (.reg c83r7) (.cond (.t 13) (.seq (.reg c83r8) .ret) .skip)) (.seq (.seq (.reg c83r9) (.cond (.t 16) (.seq (.reg c83r10) .ret) .skip)) (.seq (.seq (.reg c83r11) (.cond (.t 19) (.seq (.reg c83r12) .ret) .skip)) (.seq (.reg c83r13) .ret))))))))
def q83 : List ARes := [.t 4]
theorem fn83 : fnOf Try.prog 83 = some (c83, q83, 20) := by kernel_rfl
/-! 94: cmp.isNaN[int] · slots 6 · [0 x, 1 x] -/
def c94r0 : List AOper := [
  ⟨(some 2), none, .mv (.c (.b false))⟩]
def c94r1 : List AOper := [
  ⟨(some 3), none, .mv (.t 0)⟩,
  ⟨(some 4), none, .mv (.t 0)⟩,
  ⟨(some 5), none, .bin false .neq (.t 3) (.t 4)⟩,
  ⟨(some 2), none, .mv (.t 5)⟩]
abbrev c94 : AC := (.seq (.reg c94r0) (.seq (.reg c94r1) .ret))
def q94 : List ARes := [.t 2]
theorem fn94 : fnOf Try.prog 94 = some (c94, q94, 6) := by kernel_rfl
end Go.Proofs.Ytbhkbaapfioijaa
set_option linter.unusedVariables false
set_option linter.unusedSimpArgs false
namespace Go.Am
def AH.bump (h : AH) (n : Nat) : AH := { h with nx := h.nx + n }
def AH.ok (h : AH) : Prop := ∀ t c, h.m t = some c → t < h.nx
theorem AH.bump_nx (h : AH) (n : Nat) : (h.bump n).nx = h.nx + n := rfl
theorem AH.set_nx (h : AH) (t : Nat) (b : Blk) : (h.set t b).nx = h.nx := rfl
theorem AH.kill_nx (h : AH) (t : Nat) : (h.kill t).nx = h.nx := rfl
theorem AH.bump_m (h : AH) (n : Nat) (t : Nat) : (h.bump n).m t = h.m t := rfl
theorem AH.set_m_same (h : AH) (t : Nat) (b : Blk) : (h.set t b).m t = some b := by simp [AH.set]
theorem AH.set_m_ne {h : AH} {t s : Nat} (e : s ≠ t) (b : Blk) : (h.set t b).m s = h.m s := by simp [AH.set, e]
theorem AH.kill_m_ne {h : AH} {t s : Nat} (e : s ≠ t) : (h.kill t).m s = h.m s := by simp [AH.kill, e]
theorem AH.bump_row (h : AH) (n : Nat) (t : Nat) : (h.bump n).row t = h.row t := rfl
theorem AH.set_row_same (h : AH) (t : Nat) (w : Bool) (cs : List AV) : (h.set t (.cells w cs)).row t = some cs := by simp [AH.row, AH.set_m_same]
theorem AH.set_row_ne {h : AH} {t s : Nat} (e : s ≠ t) (b : Blk) : (h.set t b).row s = h.row s := by simp [AH.row, AH.set_m_ne e]
theorem AH.kill_row_ne {h : AH} {t s : Nat} (e : s ≠ t) : (h.kill t).row s = h.row s := by simp [AH.row, AH.kill_m_ne e]
theorem AH.ok.row {h : AH} (ok : h.ok) {t : Nat} {cs : List AV} (r : h.row t = some cs) : t < h.nx := by
  unfold AH.row at r
  split at r
  · rename_i w cs' hm; exact ok _ _ hm
  · rename_i cs' hm; exact ok _ _ hm
  · cases r
theorem AH.ok.bump {h : AH} (ok : h.ok) (n : Nat) : (h.bump n).ok := fun t c hc => by have := ok t c hc; simp [AH.bump]; omega
theorem AH.ok.set {h : AH} (ok : h.ok) {t : Nat} (ht : t < h.nx) (b : Blk) : (h.set t b).ok := fun s c hc => by
  unfold AH.set at hc
  by_cases e : s = t
  · subst e; exact ht
  · simp only [if_neg e] at hc; exact ok s c hc
section
variable {P : Program} {N : Nat} {Q : Exit → St → AH → Prop} {K : St → AH → Prop} {st st' : St} {h h' : AH}
/-- Every token of a heap lies below the next one: this comes for nothing. -/
theorem w_ok {c : AC} (w : h.ok → 0 < h.nx → W P N c Q st h) : W P N c Q st h := fun c' hc ι a wd ar wr => w (fun t b hb => (wr.blk t b hb).1) wr.pos c' hc ι a wd ar wr
/-! ### One piece of code, with what comes behind it -/
theorem k_skip (q : K st h) : W P N .skip (athen K Q) st h := w_skip q
theorem k_seq {a b : AC} (q : W P N a (athen (fun st h => W P N b (athen K Q) st h) (athen K Q)) st h) : W P N (.seq a b) (athen K Q) st h := w_seq q
theorem k_reg {ops : List AOper} (e : evOps P h.nx ops 0 st (h.bump ops.length) K) : W P N (.reg ops) (athen K Q) st h := w_reg e
theorem evHA_mono {tok : Nat} {hb : AH} {d : Option Nat} {o : AOp} {st : St} {h : AH} {A B : St → AH → Prop} (hk : ∀ st h, A st h → B st h) (e : evHA P tok hb d o st h A) : evHA P tok hb d o st h B := by
  cases o <;> simp only [evHA, AOp.isAl, if_true, if_false, Bool.false_eq_true] at e ⊢
  case call f args =>
    revert e; split
    · rintro ⟨ts, r, nb, h0, h1, h2⟩; exact ⟨ts, r, nb, h0, h1, hk _ _ h2⟩
    · exact id
  all_goals (revert e; split <;> first | exact fun e => hk _ _ e | exact fun e => e.elim)
theorem evHC_mono {tok : Nat} {hb : AH} {g : Bool} {d : Option Nat} {o : AOp} {st : St} {h : AH} {A B : St → AH → Prop} (hk : ∀ st h, A st h → B st h) (e : evHC P tok hb g d o st h A) : evHC P tok hb g d o st h B := by
  cases o <;> simp only [evHC, AOp.isVal, if_true, if_false, Bool.false_eq_true] at e ⊢
  case call f args =>
    revert e; split
    · rintro ⟨v, h0, h1⟩; exact ⟨v, h0, hk _ _ h1⟩
    · exact id
  all_goals first
    | (obtain ⟨v, h1, h2⟩ := e; exact ⟨v, h1, hk _ _ h2⟩)
    | (refine ⟨fun hg => ?_, fun hg => hk _ _ (e.2 hg)⟩
       have e := e.1 hg
       revert e; split <;> first | exact fun e => hk _ _ e | exact fun e => e.elim)
theorem evHG_mono {tok : Nat} {hb : AH} {o : AOper} {st : St} {h : AH} {A B : St → AH → Prop} (hk : ∀ st h, A st h → B st h) (e : evHG P tok hb o st h A) : evHG P tok hb o st h B := by
  unfold evHG at *
  revert e; split
  · exact evHA_mono hk
  · split
    · exact evHC_mono hk
    · exact id
theorem evHead_mono {base : Nat} {hb : AH} : ∀ {ops : List AOper} {i : Nat} {st : St} {h : AH} {K K' : St → AH → Prop} (hk : ∀ st h, K st h → K' st h), evHead P base hb ops i st h K → evHead P base hb ops i st h K'
  | [], _, _, _, _, _, hk, e => hk _ _ e
  | o :: os, i, st, h, K, K', hk, e => by
    exact evHG_mono (fun _ _ => evHead_mono hk) e
theorem k_head {m : Nat} {ops : List AOper} (hn : (ops.take m).any (fun o => o.op.late) = false) (e : evHead P h.nx (h.bump ops.length) (ops.take m) 0 st (h.bump ops.length) fun st' h' => evOps P h.nx (ops.drop m) m st' h' K) : W P N (.head m ops) (athen K Q) st h :=
  w_head (evHead_mono (fun _ _ q => ⟨sepP_none hn, q⟩) e)
/-- a head with a store: what is read must be apart from what is written -/
structure SepK (ops : List AOper) (st : St) (K : Prop) : Prop where
  sep : sepP ops st
  go : K
def sepQ (st : St) (l : List AOper) : List AOper → Prop
  | [] => True
  | a :: r => (match a.op with
    | .sto _ y _ => sepG st y l
    | .mup _ y _ _ => sepG st y l
    | _ => True) ∧ sepQ st l r
theorem sepQ_mem {st : St} {l : List AOper} {a : AOper} : ∀ {r : List AOper}, sepQ st l r → a ∈ r → a.op.late = true → ∀ y, a.op.xs.head? = some y → sepG st y l
  | [], _, h, _, _, _ => by cases h
  | b :: r, hs, h, hl, y, hy => by
    rcases List.mem_cons.1 h with rfl | h
    · have := hs.1
      cases ho : a.op <;> simp only [ho, AOp.late, Bool.false_eq_true] at hl <;> simp only [ho, AOp.xs, List.head?_cons, Option.some.injEq] at hy this <;> (subst hy; exact this)
    · exact sepQ_mem hs.2 h hl y hy
theorem sepQ_P {st : St} {l : List AOper} (h : sepQ st l l) : sepP l st := fun ak hk hl y hy => sepQ_mem h hk hl y hy
theorem k_headS {m : Nat} {ops : List AOper} (e : evHead P h.nx (h.bump ops.length) (ops.take m) 0 st (h.bump ops.length) fun st' h' => SepK (ops.take m) st' (evOps P h.nx (ops.drop m) m st' h' K)) : W P N (.head m ops) (athen K Q) st h :=
  w_head (evHead_mono (fun _ _ q => ⟨q.sep, q.go⟩) e)
theorem k_cond {c : AX} {a b : AC} {t : Bool} (ht : c.val st = .b t) (h1 : t = true → W P N a (athen K Q) st h) (h2 : t = false → W P N b (athen K Q) st h) : W P N (.cond c a b) (athen K Q) st h := w_cond ht h1 h2
theorem w_keep {c : AC} (ks : List Nat) (w : W P N c Q (keep ks st) h) : W P N c Q st h := W.keep ks w
/-- behind a stretch over rows that are read alone: everything az it was, and more known of what is never written again -/
theorem ro_back {ι ι' : Inj} {h0 h' : AH} {w w' : World} (h0w : ∀ t c, h0.m t = some c → c.wr = false) (wr : WRel ι h w) {ι0 : Inj} (h2 : WRel ι' h' w') (h3 : Ext ι0 h0 w ι' h' w') (hp : ι0.φ = ι.φ) :
    (∀ b, b < w.heap.size → w'.heap[b]? = w.heap[b]?) ∧ PhiOk ι.φ ι'.φ w w' none ∧ WRel (ι.ph ι'.φ) h w' ∧ Ext ι h w (ι.ph ι'.φ) h w' := by
  have hkeep : ∀ b, b < w.heap.size → w'.heap[b]? = w.heap[b]? := fun b hb => h3.keep b hb fun t c l hm hc => by
    rw [h0w t c hm] at hc; cases hc
  have hφ : PhiOk ι.φ ι'.φ w w' none := ⟨by rw [← hp]; exact h3.phi, fun b xs hb => by
    rcases h3.new b xs hb with q | q | ⟨t0, c0, l0, q1, q2, _⟩
    · rw [hp] at q; exact .inl q
    · exact .inr ⟨q, (h2.phi b xs hb).1, fun l hl => nomatch hl⟩
    · rw [h0w t0 c0 q1] at q2; cases q2⟩
  refine ⟨hkeep, hφ, ⟨fun t l hl => ⟨(wr.lt t l hl).1, Nat.lt_of_lt_of_le (wr.lt t l hl).2 h3.size⟩, fun t c hc => ⟨(wr.blk t c hc).1, (wr.blk t c hc).2.mono ⟨fun _ _ x => x, hφ.le⟩ rfl fun l hl => hkeep l.b (wr.lt t l hl).2⟩, wr.inj, wr.pos, wr.nil, fun b xs hb => ⟨(h2.phi b xs hb).1, fun t c l hc hw hl => ?_⟩⟩,
    ⟨Nat.le_refl _, fun _ _ => rfl, h3.os, h3.tape, h3.output, h3.size, fun b hb _ => hkeep b hb, fun t c l hm hc hl => .inr ⟨t, c, l, hm, hc, hl, rfl⟩, hφ.le, fun b xs hb => ?_, h3.drawn⟩⟩
  · rcases hφ.new b xs hb with q | ⟨q, _⟩
    · exact (wr.phi b xs q).2 t c l hc hw hl
    · have := (wr.lt t l hl).2; omega
  · rcases hφ.new b xs hb with q | ⟨q, _⟩
    · exact .inl q
    · exact .inr (.inl q)
theorem WRel.empty {ι : Inj} {w : World} (wr : WRel ι h w) : WRel ⟨fun _ => none, ι.φ⟩ ⟨fun _ => none, 1⟩ w where
  lt t l h := by cases h
  blk t c h := by cases h
  inj t t' l l' c c' h := by cases h
  pos := Nat.zero_lt_one
  nil := rfl
  phi b xs hb := ⟨(wr.phi b xs hb).1, fun t c l hc => by cases hc⟩
/-- A CALL OF VALUES ALONE: proved over an empty heap, it leaves every heap az it was. -/
theorem empty_call {f : Nat} {args : List AV} {R : AV → Prop} (ha : AV.plains args = true) (c : ACalls P f args ⟨fun _ => none, 1⟩ fun r _ => R r) (hp : ∀ r, R r → r.plain = true) (h : AH) : ACalls P f args h fun r h' => R r ∧ h' = h := by
  refine ⟨c.1, fun ι w vs wr hv => ?_⟩
  refine Calls.mono (c.2 ⟨fun _ => none, ι.φ⟩ w vs (WRel.empty wr) (plains_rel (ι := ι) (ι' := ⟨fun _ => none, ι.φ⟩) (fun _ _ x => x) ha hv)) fun e w' he => ?_
  revert he; rintro ⟨v, r, h', ι', rfl, hR, h1, h2, h3⟩
  obtain ⟨_, hφ, k1, k2⟩ := ro_back (ι0 := ⟨fun _ => none, ι.φ⟩) (fun t c h => by cases h) wr h2 h3 rfl
  exact ⟨v, r, h, ι.ph ι'.φ, rfl, ⟨hR, rfl⟩, plain_rel (ι := ι') (ι' := ι.ph ι'.φ) (fun _ _ x => x) (hp r hR) h1, k1, k2⟩
end
end Go.Am
set_option linter.unusedVariables false
set_option linter.unusedSimpArgs false
namespace Go.Am
/-- what the calls yield: by the operation's number -/
abbrev Orc := List (Nat × AV × Option (List AV))
section
variable {P : Program} {orc : Orc} {base : Nat}
variable {N : Nat} {Q : Exit → St → AH → Prop} {K : St → AH → Prop} {st st' st1 : St} {h h' h1 : AH}
end
/-! ### Reading -/
def AH.read (h : AH) (t o : Nat) (n : Option Nat) : Option AV := match h.row t with
  | some cs => rd cs o n
  | none => none
theorem ev_ld {ρ : AX → AV} {h : AH} {n : Option Nat} {x : AX} : AOp.ev ρ h (.ld n x) = match ρ x with
    | .p t o => h.read t o n
    | .pv cs o => rd cs o n
    | _ => none := by
  simp only [AOp.ev, AH.read]
  cases ρ x <;> rfl
theorem ev_pick (ρ : AX → AV) (H : AH) (c a b : AX) : AOp.ev ρ H (.pick c a b) = match ρ c with
    | .b t => apick t (strip t (ρ a)) (strip (!t) (ρ b))
    | _ => none := rfl
theorem ev_neg (ρ : AX → AV) (H : AH) (x : AX) : AOp.ev ρ H (.neg x) = match ρ x with
    | .i k n => some (.i k (k.wrap (0 - n)))
    | _ => none := rfl
theorem ev_not (ρ : AX → AV) (H : AH) (x : AX) : AOp.ev ρ H (.not x) = match ρ x with
    | .b t => some (.b !t)
    | _ => none := rfl
theorem ev_conv (ρ : AX → AV) (H : AH) (k : IntKind) (x : AX) : AOp.ev ρ H (.conv k x) = match ρ x with
    | .i _ n => some (.i k (k.wrap n))
    | _ => none := rfl
theorem ev_ext (ρ : AX → AV) (H : AH) (x : AX) (i : Nat) : AOp.ev ρ H (.ext x i) = match ρ x with
    | .tu vs => vs[i]?
    | _ => none := rfl
theorem ev_fa (ρ : AX → AV) (H : AH) (x : AX) (off : Nat) : AOp.ev ρ H (.fa x off) = match ρ x with
    | .p t o => some (.p t (o + off))
    | .pv cs o => some (.pv cs (o + off))
    | _ => none := rfl
theorem ev_fld (ρ : AX → AV) (H : AH) (x : AX) (off : Nat) (n : Option Nat) : AOp.ev ρ H (.fld x off n) = match ρ x with
    | .ag cs => rd cs off n
    | _ => none := rfl
theorem ev_ia (ρ : AX → AV) (H : AH) (k : Nat) (x i : AX) : AOp.ev ρ H (.ia k x i) = match ρ x, ρ i with
    | .sl t o n _, .i _ j => if 0 ≤ j ∧ j < n then some (.p t (o + j.toNat * k)) else none
    | .vs n cs, .i _ j => if 0 ≤ j ∧ j < n then some (.pv cs (j.toNat * k)) else none
    | _, _ => none := rfl
theorem ev_iap (ρ : AX → AV) (H : AH) (n k : Nat) (x i : AX) : AOp.ev ρ H (.iap n k x i) = match ρ x, ρ i with
    | .p t o, .i _ j => if 0 ≤ j ∧ j < n then some (.p t (o + j.toNat * k)) else none
    | .pv cs o, .i _ j => if 0 ≤ j ∧ j < n then some (.pv cs (o + j.toNat * k)) else none
    | _, _ => none := rfl
theorem ev_iv (ρ : AX → AV) (H : AH) (n k : Nat) (g : Bool) (x i : AX) : AOp.ev ρ H (.iv n k g x i) = match ρ x, ρ i with
    | .ag cs, .i _ j => if 0 ≤ j ∧ j < n ∧ n * k ≤ cs.length then (if g then some (.ag ((cs.drop (j.toNat * k)).take k)) else cs[j.toNat * k]?) else none
    | _, _ => none := rfl
theorem ev_sli (ρ : AX → AV) (H : AH) (k : Nat) (x : AX) (lo hi : Option AX) : AOp.ev ρ H (.sli k x lo hi) = match ρ x with
    | .sl t o n a => match bound ρ 0 lo, bound ρ n hi with
      | some l, some h => if l ≤ h ∧ h ≤ n then some (.sl t (o + l * k) (h - l) (if a = k then k else 0)) else none
      | _, _ => none
    | .vs n cs => match bound ρ 0 lo, bound ρ n hi with
      | some l, some h => if l ≤ h ∧ h ≤ n then some (.vs (h - l) (vsub k lo hi l h cs)) else none
      | _, _ => none
    | _ => none := rfl
theorem ev_slp (ρ : AX → AV) (H : AH) (n k : Nat) (x : AX) (lo hi : Option AX) : AOp.ev ρ H (.slp n k x lo hi) = match ρ x with
    | .p t o => match bound ρ 0 lo, bound ρ n hi with
      | some l, some h => if l ≤ h ∧ h ≤ n then some (.sl t (o + l * k) (h - l) 0) else none
      | _, _ => none
    | .pv cs o => match bound ρ 0 lo, bound ρ n hi with
      | some l, some h => if l ≤ h ∧ h ≤ n then some (.vs (h - l) ((cs.drop (o + l * k)).take ((h - l) * k))) else none
      | _, _ => none
    | _ => none := rfl
theorem ev_nck (ρ : AX → AV) (H : AH) (x : AX) : AOp.ev ρ H (.nck x) = match ρ x with
    | .p t o => some (.p t o)
    | .pv cs o => some (.pv cs o)
    | .fn f a b => some (.fn f a b)
    | _ => none := rfl
theorem ev_bld (ρ : AX → AV) (H : AH) (zero : List AV) (parts : List (Nat × Nat × AX)) : AOp.ev ρ H (.bld zero parts) = (afill ρ zero parts).map .ag := rfl
theorem ev_len (ρ : AX → AV) (H : AH) (x : AX) : AOp.ev ρ H (.len x) = match ρ x with
    | .sl _ _ n _ => some (.i .i64 n)
    | .vs n _ => some (.i .i64 n)
    | _ => none := rfl
theorem ev_eqn (ρ : AX → AV) (H : AH) (ng : Bool) (x y : AX) : AOp.ev ρ H (.eqn ng x y) = match isNil (ρ x), isNil (ρ y) with
    | some true, some t => some (.b (t != ng))
    | some false, some true => some (.b ng)
    | _, _ => none := rfl
theorem read_bump (h : AH) (k t o : Nat) (n : Option Nat) : (h.bump k).read t o n = h.read t o n := rfl
theorem read_set_same (h : AH) (t : Nat) (w : Bool) (cs : List AV) (o : Nat) (n : Option Nat) : (h.set t (.cells w cs)).read t o n = rd cs o n := by simp [AH.read, AH.set_row_same]
theorem read_set_ne {h : AH} {t s : Nat} (e : s ≠ t) (b : Blk) (o : Nat) (n : Option Nat) : (h.set t b).read s o n = h.read s o n := by simp [AH.read, AH.set_row_ne e]
theorem read_kill_ne {h : AH} {t s : Nat} (e : s ≠ t) (o : Nat) (n : Option Nat) : (h.kill t).read s o n = h.read s o n := by simp [AH.read, AH.kill_row_ne e]
theorem vsub_nn (k l h : Nat) (cs : List AV) : vsub k none none l h cs = cs := rfl
theorem vsub_sn (k l h : Nat) (x : AX) (cs : List AV) : vsub k (some x) none l h cs = cs.drop (l * k) := rfl
theorem vsub_ns (k l h : Nat) (x : AX) (cs : List AV) : vsub k none (some x) l h cs = cs.take (h * k) := rfl
theorem vsub_ss (k l h : Nat) (x y : AX) (cs : List AV) : vsub k (some x) (some y) l h cs = (cs.drop (l * k)).take ((h - l) * k) := rfl
theorem read_row {h : AH} {t : Nat} {cs : List AV} (e : h.row t = some cs) (o : Nat) (n : Option Nat) : h.read t o n = rd cs o n := by simp [AH.read, e]
/-! ### Values -/
theorem wrap64 {n : Int} (h1 : -9223372036854775808 ≤ n) (h2 : n ≤ 9223372036854775807) : IntKind.i64.wrap n = n := IntWalk.i64_in n ⟨h1, h2⟩
theorem initSt0 : initSt [] = [] := rfl
theorem initSt1 (a : AV) : initSt [a] = [(0, a)] := rfl
theorem initSt2 (a b : AV) : initSt [a, b] = [(0, a), (1, b)] := rfl
theorem initSt3 (a b c : AV) : initSt [a, b, c] = [(0, a), (1, b), (2, c)] := rfl
theorem initSt4 (a b c d : AV) : initSt [a, b, c, d] = [(0, a), (1, b), (2, c), (3, d)] := rfl
theorem initSt5 (a b c d e : AV) : initSt [a, b, c, d, e] = [(0, a), (1, b), (2, c), (3, d), (4, e)] := rfl
theorem pick_and (t p : Bool) : apick t (.b p) (.b false) = some (.b (t && p)) := by cases t <;> rfl
theorem pick_or (t q : Bool) : apick t (.b true) (.b q) = some (.b (t || q)) := by cases t <;> rfl
theorem strip_self (g : Bool) (v : AV) : strip g (.gd g v) = v := by cases g <;> rfl
theorem strip_b (g b : Bool) : strip g (.b b) = .b b := rfl
theorem strip_i (g : Bool) (k : IntKind) (n : Int) : strip g (.i k n) = .i k n := rfl
theorem strip_p (g : Bool) (t o : Nat) : strip g (.p t o) = .p t o := rfl
theorem strip_sl (g : Bool) (t o n a : Nat) : strip g (.sl t o n a) = .sl t o n a := rfl
theorem strip_vs (g : Bool) (n : Nat) (cs : List AV) : strip g (.vs n cs) = .vs n cs := rfl
theorem strip_pv (g : Bool) (cs : List AV) (o : Nat) : strip g (.pv cs o) = .pv cs o := rfl
theorem strip_ag (g : Bool) (cs : List AV) : strip g (.ag cs) = .ag cs := rfl
theorem strip_tu (g : Bool) (cs : List AV) : strip g (.tu cs) = .tu cs := rfl
theorem guard_t (b : Bool) : guardOf (.b b) true = some b := by cases b <;> rfl
theorem guard_f (b : Bool) : guardOf (.b b) false = some (!b) := by cases b <;> rfl
/-! ### A function -/
def Post (ars : List ARes) (R : AV → AH → Prop) (st : St) (h : AH) : Prop := ∃ vs, ars.mapM (ARes.val st h) = some vs ∧ R (aone vs) h
def Fin (K : St → AH → Prop) (e : Exit) (st : St) (h : AH) : Prop := e = .ret ∧ K st h
theorem a_fn {P : Program} {f : Nat} {ac : AC} {ars : List ARes} {N : Nat} (hf : fnOf P f = some (ac, ars, N)) {args : List AV} {h : AH} {R : AV → AH → Prop} (hN : args.length ≤ N)
    (hw : h.ok → 0 < h.nx → W P N ac (athen (Post ars R) (Fin (Post ars R))) (initSt args) h) : ACalls P f args h R := by
  refine acalls_fn hf hN (w_ok fun ok pos => (hw ok pos).mono fun e st h' q => ?_)
  cases e <;> simp only [athen, Fin, Post, reduceCtorEq, false_and, true_and] at q
  · exact ⟨.inl rfl, q.imp fun vs hv => ⟨hv.1, h', AH.le_refl _, hv.2⟩⟩
  · exact ⟨.inr rfl, q.imp fun vs hv => ⟨hv.1, h', AH.le_refl _, hv.2⟩⟩
theorem k_ret {P : Program} {N : Nat} {Q : Exit → St → AH → Prop} {K : St → AH → Prop} {st : St} {h : AH} (q : Q .ret st h) : W P N .ret (athen K Q) st h := w_ret q
theorem k_exit {P : Program} {N : Nat} {Q : Exit → St → AH → Prop} {K : St → AH → Prop} {st : St} {h : AH} {id : Nat} (q : Q (.exit id) st h) : W P N (.exit id) (athen K Q) st h := w_exit q
theorem fin {K : St → AH → Prop} {st : St} {h : AH} (q : K st h) : Fin K .ret st h := ⟨rfl, q⟩
theorem post1 {R : AV → AH → Prop} {st : St} {h : AH} {a : Nat} (q : R (st.get a) h) : Post [.t a] R st h := ⟨[st.get a], rfl, q⟩
theorem post2 {R : AV → AH → Prop} {st : St} {h : AH} {a b : Nat} (q : R (.tu [st.get a, st.get b]) h) : Post [.t a, .t b] R st h := ⟨[st.get a, st.get b], rfl, q⟩
theorem post3 {R : AV → AH → Prop} {st : St} {h : AH} {a b c : Nat} (q : R (.tu [st.get a, st.get b, st.get c]) h) : Post [.t a, .t b, .t c] R st h := ⟨[st.get a, st.get b, st.get c], rfl, q⟩
theorem postc {R : AV → AH → Prop} {st : St} {h : AH} {a : Nat} {k : Option Nat} {t o : Nat} {v : AV} (e : st.get a = .p t o) (e2 : h.read t o k = some v) (q : R v h) : Post [.c a k] R st h := by
  have e3 : ARes.val st h (.c a k) = some v := by
    unfold ARes.val
    simp only [e]
    exact e2
  exact ⟨[v], by simp [e3], q⟩
/-- a block, with what comes behind it -/
theorem k_blk {P : Program} {N : Nat} {Q : Exit → St → AH → Prop} {K : St → AH → Prop} {st : St} {h : AH} {id : Nat} {b : AC} (q : W P N b (athen K (ablk id (athen K Q))) st h) : W P N (.blk id b) (athen K Q) st h :=
  w_blk (q.mono fun e st h he => by cases e <;> exact he)
theorem out_blk {Q : Exit → St → AH → Prop} {K : St → AH → Prop} {st : St} {h : AH} {id : Nat} (q : K st h) : ablk id (athen K Q) (.exit id) st h := by simpa [ablk, athen] using q
theorem thru {K : St → AH → Prop} {Q : Exit → St → AH → Prop} {st : St} {h : AH} {id : Nat} (q : Q (.exit id) st h) : athen K Q (.exit id) st h := q
theorem pass {Q : Exit → St → AH → Prop} {st : St} {h : AH} {id id' : Nat} (hne : id' ≠ id) (q : Q (.exit id') st h) : ablk id Q (.exit id') st h := by simpa [ablk, hne] using q
theorem ret_blk {Q : Exit → St → AH → Prop} {K : St → AH → Prop} {st : St} {h : AH} {id : Nat} (q : Q .ret st h) : ablk id (athen K Q) .ret st h := q
/-- a loop within its block: 'I n st h' at each round's start, n falling -/
theorem k_loop {P : Program} {N : Nat} {Q : Exit → St → AH → Prop} {K : St → AH → Prop} {st : St} {h : AH} {b : AC} (I : Nat → St → AH → Prop) (n : Nat) (h0 : I n st h)
    (round : ∀ n st h, I n st h → W P N b (athen (fun st' h' => ∃ m, m < n ∧ I m st' h') Q) st h) : W P N (.loop b) (athen K Q) st h :=
  w_loop I n h0 fun n st h hI => (round n st h hI).mono fun e st' h' q => by
    cases e
    case normal => obtain ⟨m, hm, q⟩ := q; exact ⟨m, h', hm, AH.le_refl _, q⟩
    all_goals exact q
end Go.Am
set_option linter.unusedVariables false
set_option linter.unusedSimpArgs false
namespace Go.Am
def cl (n : Nat) (f : Nat → AV) : List AV := (List.range n).map f
theorem cl_len (n : Nat) (f : Nat → AV) : (cl n f).length = n := by simp [cl]
theorem cl_get {n x : Nat} (f : Nat → AV) (h : x < n) : (cl n f)[x]? = some (f x) := by simp [cl, h]
theorem cl_ext {n : Nat} {f g : Nat → AV} (h : ∀ x, x < n → f x = g x) : cl n f = cl n g := by
  unfold cl
  exact List.map_congr_left fun x hx => h x (List.mem_range.1 hx)
theorem list_cl {l : List AV} {n : Nat} {f : Nat → AV} (hl : l.length = n) (h : ∀ x, x < n → l[x]? = some (f x)) : l = cl n f := by
  refine List.ext_getElem? fun i => ?_
  by_cases hi : i < n
  · rw [h i hi, cl_get f hi]
  · rw [List.getElem?_eq_none (by omega), List.getElem?_eq_none (by rw [cl_len]; omega)]
theorem cl_set (n x : Nat) (f : Nat → AV) (v : AV) : (cl n f).set x v = cl n fun y => if y = x then v else f y := by
  refine list_cl (by simp [cl_len]) fun y hy => ?_
  rw [List.getElem?_set]
  by_cases e : x = y
  · subst e; simp [cl_len, hy]
  · rw [if_neg e, if_neg (fun h => e h.symm), cl_get f hy]
theorem cl_app (n m : Nat) (f g : Nat → AV) : cl n f ++ cl m g = cl (n + m) fun x => if x < n then f x else g (x - n) := by
  refine list_cl (by simp [cl_len]) fun x hx => ?_
  by_cases h : x < n
  · rw [List.getElem?_append_left (by rw [cl_len]; exact h), cl_get f h, if_pos h]
  · rw [List.getElem?_append_right (by rw [cl_len]; omega), cl_len, cl_get g (by omega), if_neg h]
theorem cl_drop (n a : Nat) (f : Nat → AV) : (cl n f).drop a = cl (n - a) fun x => f (a + x) := by
  refine list_cl (by simp [cl_len]) fun x hx => ?_
  rw [List.getElem?_drop, cl_get f (by omega)]
theorem cl_take {n a : Nat} (f : Nat → AV) (h : a ≤ n) : (cl n f).take a = cl a f := by
  refine list_cl (by simp [cl_len]; omega) fun x hx => ?_
  rw [List.getElem?_take_of_lt hx, cl_get f (by omega)]
theorem cl_all (n : Nat) (f : Nat → AV) (p : AV → Bool) (h : ∀ x, x < n → p (f x) = true) : (cl n f).all p = true := by
  simp only [cl, List.all_map, List.all_eq_true, List.mem_range]
  exact h
theorem cl_one_i (n : Nat) (k : IntKind) (f : Nat → Int) : (cl n fun x => .i k (f x)).all AV.one = true := cl_all _ _ _ fun _ _ => rfl
theorem cl_one_b (n : Nat) (f : Nat → Bool) : (cl n fun x => .b (f x)).all AV.one = true := cl_all _ _ _ fun _ _ => rfl
theorem cons_cl (v : AV) (n : Nat) (f : Nat → AV) : v :: cl n f = cl (n + 1) fun x => if x = 0 then v else f (x - 1) := by
  refine list_cl (by simp [cl_len]) fun x hx => ?_
  cases x with
  | zero => simp
  | succ x => simp only [List.getElem?_cons_succ]; rw [cl_get f (by omega), if_neg (by omega)]; simp
theorem row_m {h : AH} {t : Nat} {w : Bool} {cs : List AV} (e : h.m t = some (.cells w cs)) : h.row t = some cs := by simp [AH.row, e]
theorem AH.ok.m {h : AH} (ok : h.ok) {t : Nat} {b : Blk} (r : h.m t = some b) : t < h.nx := ok _ _ r
theorem cl_snoc (n : Nat) (f : Nat → AV) (v : AV) : cl n f ++ [v] = cl (n + 1) fun x => if x < n then f x else v := cl_app n 1 f fun _ => v
theorem cl_set_i (k : IntKind) (n x : Nat) (f : Nat → Int) (v : Int) : (cl n fun x => .i k (f x)).set x (.i k v) = cl n fun y => .i k (if y = x then v else f y) := by
  rw [cl_set]; refine cl_ext fun y hy => ?_; split <;> rfl
theorem cl_app_i (k : IntKind) (n m : Nat) (f g : Nat → Int) : (cl n fun x => .i k (f x)) ++ (cl m fun x => .i k (g x)) = cl (n + m) fun x => .i k (if x < n then f x else g (x - n)) := by
  rw [cl_app]; refine cl_ext fun y hy => ?_; split <;> rfl
theorem cl_snoc_i (k : IntKind) (n : Nat) (f : Nat → Int) (v : Int) : (cl n fun x => .i k (f x)) ++ [.i k v] = cl (n + 1) fun x => .i k (if x < n then f x else v) := by
  rw [cl_snoc]; refine cl_ext fun y hy => ?_; split <;> rfl
theorem cons_cl_i (k : IntKind) (n : Nat) (f : Nat → Int) (v : Int) : .i k v :: (cl n fun x => .i k (f x)) = cl (n + 1) fun x => .i k (if x = 0 then v else f (x - 1)) := by
  rw [cons_cl]; refine cl_ext fun y hy => ?_; split <;> rfl
theorem cl_set_b (n x : Nat) (f : Nat → Bool) (v : Bool) : (cl n fun x => .b (f x)).set x (.b v) = cl n fun y => .b (if y = x then v else f y) := by
  rw [cl_set]; refine cl_ext fun y hy => ?_; split <;> rfl
theorem cl_app_b (n m : Nat) (f g : Nat → Bool) : (cl n fun x => .b (f x)) ++ (cl m fun x => .b (g x)) = cl (n + m) fun x => .b (if x < n then f x else g (x - n)) := by
  rw [cl_app]; refine cl_ext fun y hy => ?_; split <;> rfl
theorem cl_snoc_b (n : Nat) (f : Nat → Bool) (v : Bool) : (cl n fun x => .b (f x)) ++ [.b v] = cl (n + 1) fun x => .b (if x < n then f x else v) := by
  rw [cl_snoc]; refine cl_ext fun y hy => ?_; split <;> rfl
theorem cons_cl_b (n : Nat) (f : Nat → Bool) (v : Bool) : .b v :: (cl n fun x => .b (f x)) = cl (n + 1) fun x => .b (if x = 0 then v else f (x - 1)) := by
  rw [cons_cl]; refine cl_ext fun y hy => ?_; split <;> rfl
theorem toNat_succ (n : Nat) : ((n : Int) + 1).toNat = n + 1 := rfl
theorem k_inv {P : Program} {N : Nat} {c : AC} {Q : Exit → St → AH → Prop} {st s' : St} {h : AH} {ks : List Nat} (e : Am.keep ks st = s') (w : W P N c Q s' h) : W P N c Q st h := w_keep ks (by rw [e]; exact w)
theorem toNat_cast (n : Nat) : (n : Int).toNat = n := rfl
end Go.Am
set_option linter.unusedVariables false
set_option linter.unusedSimpArgs false
namespace Go.Am
/-- the empty heap -/
def AH.nil : AH := ⟨fun _ => none, 1⟩
end Go.Am
set_option linter.unusedVariables false
set_option linter.unusedSimpArgs false
namespace Go.Am
open Go.ChangeShapes Go.WideShapes
inductive Kd where
  | i (k : IntKind)
  | b
  | s
def Kd.ok : Kd → Value → Prop
  | .i k, v => ∃ n, v = .int k n ∧ (Lit.int k n).wf = true
  | .b, v => ∃ x, v = .bool x
  | .s, v => ∃ x, v = .string x
section
variable {H : Type} {enc : TypeId × Value → H} {P : Program} {w : World} {base : Nat} {spare : Nat → Bool} {held : Bool}
end
end Go.Am
set_option linter.unusedVariables false
set_option linter.unusedSimpArgs false
namespace Go.Am
def AOp.isCall : AOp → Bool
  | .call .. | .eqz .. => true
  | _ => false
def AOp.isApp : AOp → Bool
  | .app .. => true
  | _ => false
/-- One operation, reckoned; under a guard that is not met nothing is asked of it. -/
def stepU (tok : Nat) (o : AOper) (st : St) (h : AH) : Option (St × AH) :=
  match o.g with
  | none => stepA tok o.d o.op st h
  | some (s, want) => match guardOf (st.get s) want with
    | none => none
    | some g =>
      if o.op.isVal = true then
        (if g = true then (o.op.ev (AX.val (stS g st)) h).map fun v => (put o.d (.gd g v) st, h)
         else some (put o.d (.gd g ((o.op.ev (AX.val (stS g st)) h).getD .un)) st, h))
      else if o.op.isAl = true then
        (if g = true then (o.op.al (AX.val (stS g st)) tok).map fun p => (put o.d (.gd g p.1) st, h.set tok (.cells true p.2))
         else some (put o.d (.gd g .un) st, h))
      else if o.op.isCall = true then none
      else if g = true then stepA tok o.d o.op (stS true st) h else some (put o.d (.gd g .un) st, h)
inductive Res where
  | done (st : St) (h : AH)
  | call (o : AOper) (os : List AOper) (i : Nat) (st : St) (h : AH)
  | bad
/-- up to the next call (in a head: or append) -/
def runS (hd : Bool) (base : Nat) : List AOper → Nat → Option (St × AH) → Res
  | _, _, none => .bad
  | [], _, some (st, h) => .done st h
  | o :: os, i, some (st, h) => if (o.op.isCall || (o.op.isApp && hd)) = true then .call o os i st h else runS hd base os (i + 1) (stepU (base + i) o st h)
def evR (P : Program) (base : Nat) : Res → (St → AH → Prop) → Prop
  | .done st h, K => K st h
  | .call o os i st h, K => evG P (base + i) o st h fun st h => evOps P base os (i + 1) st h K
  | .bad, _ => False
def evHR (P : Program) (base : Nat) (hb : AH) : Res → (St → AH → Prop) → Prop
  | .done st h, K => K st h
  | .call o os i st h, K => evHG P (base + i) hb o st h fun st h => evHead P base hb os (i + 1) st h K
  | .bad, _ => False
theorem evG_stepU {P : Program} {tok : Nat} {o : AOper} {st st' : St} {h h' : AH} (e : stepU tok o st h = some (st', h')) {K : St → AH → Prop} (k : K st' h') : evG P tok o st h K := by
  obtain ⟨d, og, op⟩ := o
  cases og with
  | none => exact evA_step (by simpa only [stepU] using e) k
  | some sw =>
    obtain ⟨s, want⟩ := sw
    simp only [stepU] at e
    simp only [evG]
    cases hq : guardOf (st.get s) want with
    | none => simp only [hq, reduceCtorEq] at e
    | some g =>
      simp only [hq] at e ⊢
      by_cases h3 : g = true ∧ op.isVal = false ∧ op.isAl = false ∧ op.isCall = false
      · obtain ⟨rfl, h4, h5, h6⟩ := h3
        simp only [h4, h5, h6, Bool.false_eq_true, if_false, if_true] at e
        exact .inr ⟨rfl, evA_step e k⟩
      refine .inl ?_
      cases op <;> simp only [AOp.isVal, AOp.isAl, AOp.isCall, if_true, if_false, Bool.false_eq_true, reduceCtorEq, and_self, and_true, not_true_eq_false, Bool.not_eq_true] at e h3 <;> simp only [evC, AOp.isVal, AOp.isAl, if_true, if_false, Bool.false_eq_true] <;> first | (subst h3; simp only [if_false, Bool.false_eq_true, Option.some.injEq, Prod.mk.injEq] at e; obtain ⟨e1, e2⟩ := e; subst e1; subst e2; exact ⟨fun hg => absurd hg Bool.false_ne_true, fun _ => k⟩) | skip <;> cases g <;>
        simp only [if_true, if_false, Bool.false_eq_true, Option.map_eq_some_iff, Option.some.injEq, Prod.mk.injEq, reduceCtorEq] at e <;>
        first
          | (obtain ⟨e1, e2⟩ := e; subst e1; subst e2; exact ⟨_, fun hg => absurd hg Bool.false_ne_true, k⟩)
          | (obtain ⟨a, ha, e1, e2⟩ := e; subst e1; subst e2; exact ⟨a, fun _ => ha, k⟩)
          | (obtain ⟨e1, e2⟩ := e; subst e1; subst e2; exact ⟨fun hg => absurd hg Bool.false_ne_true, fun _ => k⟩)
          | (obtain ⟨a, ha, e1, e2⟩ := e; subst e1; subst e2; exact ⟨fun _ => by rw [ha]; exact k, fun hg => absurd hg (by simp)⟩)
theorem evHG_stepU {P : Program} {tok : Nat} {hb : AH} {o : AOper} (hq' : o.op.quiet = true) (hl : (!o.op.late || o.g.isNone) = true) {st st' : St} {h h' : AH} (e : stepU tok o st h = some (st', h')) {K : St → AH → Prop} (k : K st' h') : evHG P tok hb o st h K := by
  obtain ⟨d, og, op⟩ := o
  cases og with
  | none => exact evHA_step hq' (by simpa only [stepU] using e) k
  | some sw =>
    obtain ⟨s, want⟩ := sw
    simp only [stepU] at e
    simp only [evHG]
    cases hq : guardOf (st.get s) want with
    | none => simp only [hq, reduceCtorEq] at e
    | some g =>
      simp only [hq] at e ⊢
      cases op <;> simp only [AOp.quiet, AOp.late, Bool.not_true, Bool.not_false, Bool.false_or, Option.isNone, Bool.false_eq_true] at hq' hl <;> simp only [AOp.isVal, AOp.isAl, AOp.isCall, if_true, if_false, Bool.false_eq_true, reduceCtorEq] at e <;> simp only [evHC, AOp.isVal, AOp.isAl, if_true, if_false, Bool.false_eq_true] <;> cases g <;>
        simp only [if_true, if_false, Bool.false_eq_true, Option.map_eq_some_iff, Option.some.injEq, Prod.mk.injEq, reduceCtorEq] at e <;>
        first
          | (obtain ⟨e1, e2⟩ := e; subst e1; subst e2; exact ⟨_, fun hg => absurd hg Bool.false_ne_true, k⟩)
          | (obtain ⟨a, ha, e1, e2⟩ := e; subst e1; subst e2; exact ⟨a, fun _ => ha, k⟩)
          | (obtain ⟨e1, e2⟩ := e; subst e1; subst e2; exact ⟨fun hg => absurd hg Bool.false_ne_true, fun _ => k⟩)
          | (obtain ⟨a, ha, e1, e2⟩ := e; subst e1; subst e2; exact ⟨fun _ => by rw [ha]; exact k, fun hg => absurd hg (by simp)⟩)
theorem runS_none (hd : Bool) (base : Nat) : ∀ (os : List AOper) (i : Nat), runS hd base os i none = .bad
  | [], _ => rfl
  | _ :: _, _ => rfl
section
variable {P : Program} {base i : Nat} {hb : AH} {K : St → AH → Prop} {st st' : St} {h h' : AH} {R : Res}
theorem s_go : ∀ {ops : List AOper} {i : Nat} {st : St} {h : AH} (e : runS false base ops i (some (st, h)) = R) (k : evR P base R K), evOps P base ops i st h K
  | [], i, st, h, e, k => by simp only [runS] at e; subst e; exact k
  | o :: os, i, st, h, e, k => by
    simp only [runS] at e
    split at e
    · subst e; exact k
    · simp only [evOps]
      cases hs : stepU (base + i) o st h with
      | none => rw [hs, runS_none] at e; subst e; exact k.elim
      | some p =>
        obtain ⟨st1, h1⟩ := p
        rw [hs] at e
        exact evG_stepU hs (s_go e k)
theorem h_go : ∀ {ops : List AOper} (hq : ops.all (fun o => (o.op.quiet && (!o.op.late || o.g.isNone)) || o.op.isApp) = true) {i : Nat} {st : St} {h : AH} (e : runS true base ops i (some (st, h)) = R) (k : evHR P base hb R K), evHead P base hb ops i st h K
  | [], _, i, st, h, e, k => by simp only [runS] at e; subst e; exact k
  | o :: os, hq, i, st, h, e, k => by
    simp only [runS] at e
    simp only [List.all_cons, Bool.and_eq_true] at hq
    split at e
    · subst e; exact k
    · simp only [evHead]
      cases hs : stepU (base + i) o st h with
      | none => rw [hs, runS_none] at e; subst e; exact k.elim
      | some p =>
        obtain ⟨st1, h1⟩ := p
        rw [hs] at e
        rename_i hst
        have hq1 : o.op.quiet = true ∧ (!o.op.late || o.g.isNone) = true := by
          have := hq.1
          cases ho : o.op <;> simp_all [AOp.quiet, AOp.isApp, AOp.isCall, AOp.late]
        exact evHG_stepU hq1.1 hq1.2 hs (h_go hq.2 e k)
theorem r_done (k : K st h) : evR P base (.done st h) K := k
theorem hr_done (k : K st h) : evHR P base hb (.done st h) K := k
variable {d : Option Nat} {f : AX} {args : List AX} {os : List AOper} {fid j : Nat} {fst caps az : List AV} {v : AV} {s : Nat} {want g : Bool}
theorem chk_r {o : AOper} (e : evR P base (.call o os i st h) K) : evR P base (.call o os i st h) K := e
theorem chk_h {o : AOper} (e : evHR P base hb (.call o os i st h) K) : evHR P base hb (.call o os i st h) K := e
/-- a call that leaves everything az it was -/
theorem r_callP (hf : f.val st = .fn fid fst caps) (ha : fst ++ args.map (AX.val st) ++ caps = az) (c : ACalls P fid az h fun r h' => r = v ∧ h' = h) (hj : i + 1 = j) (k : evOps P base os j (put d v st) h K) :
    evR P base (.call ⟨d, none, .call f args⟩ os i st h) K := by
  subst ha; subst hj
  simp only [evR, evG, evA, hf]
  exact .inl (c.mono fun r h' ⟨hr, hh⟩ => by subst hr; subst hh; exact k)
/-- a call of any kind -/
theorem r_callX {R : AV → AH → Prop} (hf : f.val st = .fn fid fst caps) (ha : fst ++ args.map (AX.val st) ++ caps = az) (c : ACalls P fid az h R) (hj : i + 1 = j) (k : ∀ r h', R r h' → evOps P base os j (put d r st) h' K) :
    evR P base (.call ⟨d, none, .call f args⟩ os i st h) K := by
  subst ha; subst hj
  simp only [evR, evG, evA, hf]
  exact .inl (c.mono k)
/-- a call under a guard -/
theorem r_callG (hg : guardOf (st.get s) want = some g) (hf : f.val (stS g st) = .fn fid fst caps) (ha : fst ++ args.map (AX.val (stS g st)) ++ caps = az) (c : g = true → ACalls P fid az h fun r h' => r = v ∧ h' = h) (hj : i + 1 = j)
    (k : evOps P base os j (put d (.gd g v) st) h K) : evR P base (.call ⟨d, some (s, want), .call f args⟩ os i st h) K := by
  subst ha; subst hj
  simp only [evR, evG, hg, evC, hf]
  exact .inl ⟨v, c, k⟩
theorem r_callF (hg : guardOf (st.get s) want = some g) (hg2 : g = false) (hf : f.val (stS false st) = .fn fid fst caps) (hj : i + 1 = j)
    (k : evOps P base os j (put d (.gd false .un) st) h K) : evR P base (.call ⟨d, some (s, want), .call f args⟩ os i st h) K := by
  subst hj; subst hg2
  simp only [evR, evG, hg, evC, hf]
  exact .inl ⟨.un, fun q => (nomatch q), k⟩
theorem r_callTX {R : AV → AH → Prop} (hg : guardOf (st.get s) want = some true) (hf : f.val (stS true st) = .fn fid fst caps) (ha : fst ++ args.map (AX.val (stS true st)) ++ caps = az) (c : ACalls P fid az h R) (hj : i + 1 = j) (k : ∀ r h', R r h' → evOps P base os j (put d r (stS true st)) h' K) :
    evR P base (.call ⟨d, some (s, want), .call f args⟩ os i st h) K := by
  subst ha; subst hj
  simp only [evR, evG, hg, evA, hf]
  exact .inr ⟨trivial, .inl (c.mono k)⟩
theorem hr_app {kk b : Nat} {x y : AX} {cs : List AV} (e : h.qpp kk b (base + i) (x.val st) (y.val st) = some (v, cs)) (hj : i + 1 = j) (k : evHead P base hb os j (put d v st) (h.set (base + i) (.cells true cs)) K) :
    evHR P base hb (.call ⟨d, none, .app kk b x y⟩ os i st h) K := by
  subst hj
  simp only [evHR, evHG, evHA, e]
  exact k
theorem hr_callP (hf : f.val st = .fn fid fst caps) (ha : fst ++ args.map (AX.val st) ++ caps = az) (c : ACalls P fid az hb fun r h' => r = v ∧ h' = hb) (hj : i + 1 = j) (k : evHead P base hb os j (put d v st) h K) :
    evHR P base hb (.call ⟨d, none, .call f args⟩ os i st h) K := by
  subst ha; subst hj
  simp only [evHR, evHG, evHA, hf]
  exact ⟨[], v, none, (fun _ h => nomatch h), .inl ⟨rfl, c⟩, k⟩
/-- a call whose argument lies in a block of this head -/
def firstTok : List AV → Option Nat
  | [] => none
  | .sl t _ n _ :: r => if n = 0 then firstTok r else some t
  | _ :: r => firstTok r
theorem firstTok_mem : ∀ {l : List AV} {t : Nat}, firstTok l = some t → ∃ v ∈ l, v.tok = some t
  | v :: r, t, e => by
    have up : firstTok r = some t → ∃ v' ∈ v :: r, v'.tok = some t := fun h => by
      obtain ⟨x, h1, h2⟩ := firstTok_mem h
      exact ⟨x, List.mem_cons_of_mem _ h1, h2⟩
    cases v
    case sl t' o n a =>
      simp only [firstTok] at e
      split at e
      · exact up e
      · rename_i h0
        cases e
        exact ⟨_, List.mem_cons_self, by simp only [AV.tok, if_neg h0]⟩
    all_goals exact up e
theorem hr_callP1 {t : Nat} (hf : f.val st = .fn fid fst caps) (ha : fst ++ args.map (AX.val st) ++ caps = az) (ht : firstTok (args.map (AX.val st)) = some t) (c : ACalls P fid az (hb.plus h [t]) fun r h' => r = v ∧ h' = hb.plus h [t]) (hj : i + 1 = j) (k : evHead P base hb os j (put d v st) h K) :
    evHR P base hb (.call ⟨d, none, .call f args⟩ os i st h) K := by
  subst ha; subst hj
  simp only [evHR, evHG, evHA, hf]
  refine ⟨[t], v, none, fun s hs => ?_, .inl ⟨rfl, c⟩, k⟩
  obtain ⟨x, h1, h2⟩ := firstTok_mem ht
  obtain ⟨y, h3, rfl⟩ := List.mem_map.1 h1
  rw [List.mem_singleton] at hs
  subst hs
  exact ⟨y, h3, h2⟩
theorem hr_callG (hg : guardOf (st.get s) want = some g) (hf : f.val (stS g st) = .fn fid fst caps) (ha : fst ++ args.map (AX.val (stS g st)) ++ caps = az) (c : g = true → ACalls P fid az hb fun r h' => r = v ∧ h' = hb) (hj : i + 1 = j)
    (k : evHead P base hb os j (put d (.gd g v) st) h K) : evHR P base hb (.call ⟨d, some (s, want), .call f args⟩ os i st h) K := by
  subst ha; subst hj
  simp only [evHR, evHG, hg, evHC, hf]
  exact ⟨v, c, k⟩
theorem hr_callF (hg : guardOf (st.get s) want = some g) (hg2 : g = false) (hf : f.val (stS false st) = .fn fid fst caps) (hj : i + 1 = j)
    (k : evHead P base hb os j (put d (.gd false .un) st) h K) : evHR P base hb (.call ⟨d, some (s, want), .call f args⟩ os i st h) K := by
  subst hj; subst hg2
  simp only [evHR, evHG, hg, evHC, hf]
  exact ⟨.un, fun q => (nomatch q), k⟩
end
section
variable {P : Program} {N : Nat} {Q : Exit → St → AH → Prop} {K : St → AH → Prop} {st : St} {h : AH}
theorem ret_thru (q : Q .ret st h) : athen K Q .ret st h := q
theorem k_blkS {id : Nat} {a b : AC} (q : W P N (.seq a b) (athen K (ablk id (athen K Q))) st h) : W P N (.blk id (.seq a b)) (athen K Q) st h := k_blk q
theorem k_condP {c : AX} {a b : AC} {t : Bool} {p : Prop} (ht : c.val st = .b t) (hp : (t = true) = p) (h1 : p → W P N a (athen K Q) st h) (h2 : ¬ p → W P N b (athen K Q) st h) : W P N (.cond c a b) (athen K Q) st h :=
  k_cond ht (fun q => h1 (hp ▸ q)) (fun q => h2 (hp ▸ by simp [q]))
end
theorem post0 {R : AV → AH → Prop} {st : St} {h : AH} (q : R (.tu []) h) : Post [] R st h := ⟨[], rfl, q⟩
theorem apick_t (x y : AV) : apick true x y = some x := by cases x <;> cases y <;> rfl
theorem apick_f (x y : AV) : apick false x y = some y := by cases x <;> cases y <;> rfl
theorem strip_n (g : Bool) : strip g .nilp = .nilp := rfl
theorem strip_s (g : Bool) (x : ByteArray) : strip g (.s x) = .s x := rfl
theorem strip_fn (g : Bool) (f : Nat) (a b : List AV) : strip g (.fn f a b) = .fn f a b := rfl
theorem strip_mp (g : Bool) (t : Nat) : strip g (.mp t) = .mp t := rfl
theorem strip_nm (g : Bool) : strip g .nilm = .nilm := rfl
theorem strip_nf (g : Bool) : strip g .nilf = .nilf := rfl
end Go.Am
