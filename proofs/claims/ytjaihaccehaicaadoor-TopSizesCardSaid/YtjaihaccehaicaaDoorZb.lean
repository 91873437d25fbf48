/- What the proof of the law needs: the abstract machine, the functions as it reads them, their contracts, part 2. -/
import Derived.Test.YtjaihaccehaicaaDoorZa
import Derived.CallsIn
import Derived.ChangeArms
import Derived.ChangeSame
set_option linter.unusedVariables false
set_option linter.unusedSimpArgs false
namespace Go.Am
variable {dfs : List Deferred}
def evOps (P : Program) (base : Nat) : List AOper → Nat → St → AH → (St → AH → Prop) → Prop
 | [], _, st, h, K => K st h
 | o :: os, i, st, h, K => evG P (base + i) o st h fun st' h' => evOps P base os (i + 1) st' h' K
def AOper.fits (N : Nat) (o : AOper) : Bool :=
 (match o.d with | some d => d < N | none => true) && (match o.g with | some (s, _) => s < N | none => true)
def opersOf (P : Program) (N : Nat) (ops : Array Oper) : Option (List AOper) := do
 let l ← ops.toList.mapM (AOper.of P ops)
 if l.all (AOper.fits N) then some l else none
inductive AC where
 | skip
 | reg (ops : List AOper)
 | head (m : Nat) (ops : List AOper)
 | seq (a b : AC)
 | cond (c : AX) (a b : AC)
 | blk (id : Nat) (b : AC)
 | loop (b : AC)
 | exit (id : Nat)
 | ret
 | bad
 | rf (g : AX) (ps : List Nat) (a b : AC)
def Lift (N : Nat) (dfs : List Deferred) (ι0 : Inj) (h0 : AH) (w0 : World) (Q : Exit → St → AH → Prop) : Exit → Act → World → Prop := fun e a w =>
 ∃ st h ι, Q e st h ∧ ARel N dfs ι st a ∧ WRel ι h w ∧ Ext ι0 h0 w0 ι h w
def RF (o : Option Nat) : Fence := { Fence.wide with round := o }
def Cwp (P : Program) (c : Code) (Q : Exit → Act → World → Prop) (a : Act) (w : World) : Prop := ∀ o, c.wpIn (RF o) 0 P Q a w
section
variable {P : Program} {Q Q' : Exit → Act → World → Prop} {a : Act} {w : World}
theorem Cwp.wp {c : Code} (h : Cwp P c Q a w) : c.wp P Q a w := wpIn_wide.1 (h none)
theorem wp_mono {c : Code} (h : Cwp P c Q a w) (hq : ∀ e a w, Q e a w → Q' e a w) : Cwp P c Q' a w := fun o => wpIn_mono (h o) hq
theorem wp_skip (h : Q .normal a w) : Cwp P .skip Q a w := fun o => wpIn_skip h
theorem wp_exit {id : Nat} (h : Q (.exit id) a w) : Cwp P (.exit id) Q a w := fun o => wpIn_exit h
theorem wp_ret (h : Q .ret a w) : Cwp P .ret Q a w := fun o => wpIn_ret h
theorem wp_seq {x y : Code} (h : Cwp P x (Exit.then (Cwp P y Q) Q) a w) : Cwp P (.seq x y) Q a w := fun o =>
 wpIn_seq (wpIn_mono (h o) fun e a w q => by
  cases e with
  | normal => exact q o
  | _ => exact q)
theorem wp_cond_split {c : Operand} {x y : Code} {t : Bool} (hc : a.eval c = .bool t) (ht : t = true → Cwp P x Q a w) (hf : t = false → Cwp P y Q a w) : Cwp P (.cond c x y) Q a w := fun o =>
 wpIn_cond hc (by
  cases t with
  | true => exact ht rfl o
  | false => exact hf rfl o)
theorem wp_block {id : Nat} {c : Code} (h : Cwp P c (Exit.inBlock id Q) a w) : Cwp P (.block id c) Q a w := fun o => wpIn_block (h o)
theorem upon_in {o : Oper} {ro : Option Nat} {next next' : Act → World → Prop} (hn : ∀ a w, next a w → next' a w) {r : Result Next} (h : o.upon P a next Q r) : o.uponIn (RF ro) 0 P a next' Q r := by
 have nd : (RF ro).depth.isSome = true → 1 ≤ 0 := fun q => by cases q
 cases r with
 | ok nx w' =>
   cases nx with
   | value v => exact hn _ _ h
   | skip => exact hn _ _ h
   | «defer» d => exact hn _ _ h
   | enter f args =>
     refine ⟨nd, callsIn_wide.2 (Calls.mono h fun e w' q => ?_)⟩
     cases e with
     | returned v => exact hn _ _ q
     | panicked c => exact q
     | outgrown => exact q
   | row row args => exact ⟨nd, fun c cs _ => let ⟨v, w', r, s⟩ := h c cs; ⟨v, w', hn _ _ r, stepsIn_wide.2 s⟩⟩
   | _ => exact h.elim
 | halt x w' =>
   cases x with
   | panic v => exact h
   | _ => exact h.elim
theorem wpOps_in {ops : Array Oper} (hd : ∀ (i : Nat) (o : Oper), ops[i]? = some o → ∀ c, o.op ≠ .defer c) (hl : ¬ LetsOut Q) {ro : Option Nat} : ∀ {l : List Nat} {a : Act} {w : World}, wpOps P ops Q l a w → wpOpsIn (RF ro) 0 P ops Q l a w
 | [], _, _, h => h
 | i :: rest, a, w, h => by
   unfold wpOps at h
   unfold wpOpsIn
   cases ho : ops[i]? with
   | none => rw [ho] at h; exact wpOps_in hd hl h
   | some o =>
     rw [ho] at h
     simp only at h ⊢
     split
     ·rename_i q
      rw [if_pos q] at h
      refine ⟨fun _ _ => trivial, ?_⟩
      rw [Oper.semAt_eq _ _ _ (hd i o ho)]
      exact upon_in (fun a w q => wpOps_in hd hl q) (h.resolve_right fun z => hl z.2)
     ·rename_i q
      rw [if_neg q] at h
      exact ⟨fun _ _ => trivial, wpOps_in hd hl h⟩
theorem wp_region {id : Nat} {ops : Array Oper} (hd : ∀ (i : Nat) (o : Oper), ops[i]? = some o → ∀ c, o.op ≠ .defer c) (hl : ¬ LetsOut Q) (h : wpOps P ops Q (List.range ops.size) a w) : Cwp P (.region id ops false) Q a w := fun o => wpIn_region (wpOps_in hd hl h)
theorem wp_region_any {id : Nat} {ops : Array Oper} (hd : ∀ (i : Nat) (o : Oper), ops[i]? = some o → ∀ c, o.op ≠ .defer c) (hl : ¬ LetsOut Q) (hm : P.follows .mixedOrders = true)
 (h : wpAny P .any ops Q ops.size (Array.replicate ops.size false) a { w with drawn := w.drawn + 1 }) : Cwp P (.region id ops true) Q a w := fun o =>
 wpIn_region_draw fun t => wpOps_in hd hl (by
  simp only [Region.schedule, hm, Bool.true_or, if_true]
  exact wpAny_sound ops.size t _ a _ h)
end
theorem mapM_some {α β : Type} {f : α → Option β} : ∀ {xs : List α} {ys : List β}, xs.mapM f = some ys → ∀ x ∈ xs, ∃ y, f x = some y
 | [], ys, h, x, hx => by cases hx
 | z :: xs, ys, h, x, hx => by
   simp only [List.mapM_cons, Option.pure_def, Option.bind_eq_bind, Option.bind_eq_some_iff, Option.some.injEq] at h
   obtain ⟨y, hy, zs, hzs, rfl⟩ := h
   rcases List.mem_cons.1 hx with rfl | hx
   ·exact ⟨y, hy⟩
   ·exact mapM_some hzs x hx
theorem opersOf_nd {P : Program} {N : Nat} {ops : Array Oper} {aops : List AOper} (hof : opersOf P N ops = some aops) : ∀ (i : Nat) (o : Oper), ops[i]? = some o → ∀ c, o.op ≠ .defer c := fun i o ho c hc => by
 unfold opersOf at hof
 simp only [Option.bind_eq_bind, Option.bind_eq_some_iff] at hof
 obtain ⟨l, hl, _⟩ := hof
 obtain ⟨ao, h⟩ := mapM_some hl o (List.mem_of_getElem? (i := i) (by simpa using ho))
 unfold AOper.of at h
 simp only [Option.bind_eq_bind, Option.bind_eq_some_iff] at h
 obtain ⟨op, h, _⟩ := h
 rw [hc] at h
 cases h
def Awp (P : Program) (N : Nat) (c : Code) (Q : Exit → St → AH → Prop) (st : St) (h : AH) : Prop :=
 ∀ dfs ι a w, ARel N dfs ι st a → WRel ι h w → Cwp P c (Lift N dfs ι h w Q) a w
def athen (K : St → AH → Prop) (Q : Exit → St → AH → Prop) : Exit → St → AH → Prop
 | .normal, st, h => K st h
 | e, st, h => Q e st h
def ablk (id : Nat) (Q : Exit → St → AH → Prop) : Exit → St → AH → Prop
 | .exit id', st, h => if id' = id then Q .normal st h else Q (.exit id') st h
 | e, st, h => Q e st h
section
variable {P : Program} {N : Nat} {Q Q' : Exit → St → AH → Prop} {st : St} {h : AH}
theorem Lift.start {ι0 : Inj} {w0 : World} {ι : Inj} {h' : AH} {w : World} {h : AH} {e : Exit} {a : Act} {w' : World} (x : Ext ι0 h w0 ι h' w) (l : Lift N dfs ι h' w Q e a w') : Lift N dfs ι0 h w0 Q e a w' :=
 let ⟨st, h'', ι', q, ar, wr, x'⟩ := l; ⟨st, h'', ι', q, ar, wr, x.trans x'⟩
theorem Awp.mono {c : Code} (hw : Awp P N c Q st h) (hq : ∀ e st h, Q e st h → Q' e st h) : Awp P N c Q' st h := fun dfs ι a w ar wr =>
 wp_mono (hw dfs ι a w ar wr) fun e a' w' l => let ⟨st', h', ι', q, r⟩ := l; ⟨st', h', ι', hq _ _ _ q, r⟩
theorem awp_skip (q : Q .normal st h) : Awp P N .skip Q st h := fun dfs ι a w ar wr => wp_skip ⟨st, h, ι, q, ar, wr, .refl _ _ _⟩
theorem awp_exit {id : Nat} (q : Q (.exit id) st h) : Awp P N (.exit id) Q st h := fun dfs ι a w ar wr => wp_exit ⟨st, h, ι, q, ar, wr, .refl _ _ _⟩
theorem awp_ret (q : Q .ret st h) : Awp P N .ret Q st h := fun dfs ι a w ar wr => wp_ret ⟨st, h, ι, q, ar, wr, .refl _ _ _⟩
theorem awp_seq {x y : Code} (hx : Awp P N x (athen (fun st h => Awp P N y Q st h) Q) st h) : Awp P N (.seq x y) Q st h := fun dfs ι a w ar wr =>
 wp_seq (wp_mono (hx dfs ι a w ar wr) fun e a' w' l => by
  obtain ⟨st', h', ι', q, ar', wr', x⟩ := l
  ·cases e with
   | normal => exact wp_mono (q dfs ι' a' w' ar' wr') fun e a w l => l.start x
   | _ => exact ⟨st', h', ι', q, ar', wr', x⟩)
theorem awp_cond {c : Operand} {x y : Code} {ax : AX} (hx : toX c = some ax) {t : Bool} (ht : ax.val st = .b t) (ht1 : t = true → Awp P N x Q st h) (ht2 : t = false → Awp P N y Q st h) : Awp P N (.cond c x y) Q st h := fun dfs ι a w ar wr => by
 have r := toX_sound ar hx
 rw [ht] at r
 simp only [VRel] at r
 exact wp_cond_split r (fun e => ht1 e dfs ι a w ar wr) (fun e => ht2 e dfs ι a w ar wr)
theorem awp_block {id : Nat} {c : Code} (hc : Awp P N c (ablk id Q) st h) : Awp P N (.block id c) Q st h := fun dfs ι a w ar wr =>
 wp_block (wp_mono (hc dfs ι a w ar wr) fun e a' w' l => by
  obtain ⟨st', h', ι', q, ar', wr', x⟩ := l
  ·cases e with
   | exit id' =>
     simp only [Exit.inBlock]
     simp only [ablk] at q
     split
     ·rename_i hid; rw [if_pos hid] at q; exact ⟨st', h', ι', q, ar', wr', x⟩
     ·rename_i hid; rw [if_neg hid] at q; exact ⟨st', h', ι', q, ar', wr', x⟩
   | _ => exact ⟨st', h', ι', q, ar', wr', x⟩)
theorem Awp.weaken {c : Code} {st' : St} {h' : AH} (hst : ∀ d, st'.get d = .un ∨ st'.get d = st.get d) (hh : h'.le h) (hnx : h'.nx = h.nx) (hw : Awp P N c Q st' h') : Awp P N c Q st h := fun dfs ι a w ar wr =>
 wp_mono (hw dfs ι a w ⟨ar.size, ar.defs, ar.tab, fun d => by
  rcases hst d with e | e
  ·rw [e]; simp [VRel]
  ·rw [e]; exact ar.slot d⟩ (wr.drop hh)) fun e a' w' l =>
  let ⟨st'', h'', ι', q, ar', wr', x⟩ := l; ⟨st'', h'', ι', q, ar', wr', (Ext.refl ι h w).drop hh |>.trans x⟩
end
theorem wp_loop_rel {P : Program} {Q : Exit → Act → World → Prop} {c : Code} (R : Nat → Act → World → Prop)
 (round : ∀ n a w, R n a w → Cwp P c (Exit.then (fun a' w' => ∃ m, m < n ∧ R m a' w') Q) a w) {n : Nat} {a : Act} {w : World} (h0 : R n a w) : Cwp P (Code.loop c) Q a w := fun o => by
 classical
 have least : ∀ {a : Act} {w : World}, (∃ n, R n a w) → ∃ n, R n a w ∧ ∀ m, R m a w → n ≤ m := fun {a w} ⟨n, h⟩ => by
  induction n using Nat.strongRecOn with
  | _ n ih =>
    by_cases q : ∃ m, m < n ∧ R m a w
    ·obtain ⟨m, hm, hr⟩ := q; exact ih m hm hr
    ·exact ⟨n, h, fun m hm => Classical.byContradiction fun z => q ⟨m, by omega, hm⟩⟩
 refine wpIn_loop (fun a w => ∃ n, R n a w) (fun a w => if h : ∃ n, R n a w then (least h).choose else 0) ⟨n, h0⟩ fun a w hI => ?_
 refine wpIn_mono (round _ a w (least hI).choose_spec.1 o) fun e a' w' q => ?_
 cases e with
 | normal =>
   obtain ⟨m, hm, hr⟩ := q
   refine ⟨⟨m, hr⟩, ?_⟩
   have := (least ⟨m, hr⟩).choose_spec.2 m hr
   simp only [dif_pos hI, dif_pos (show ∃ n, R n a' w' from ⟨m, hr⟩)]
   omega
 | _ => exact q
def nrm (Q : Exit → St → AH → Prop) : Exit → St → AH → Prop := fun e st h => e = .normal ∧ Q .normal st h
theorem nrm_lets {N : Nat} {ι : Inj} {h : AH} {w : World} {Q : Exit → St → AH → Prop} : ¬ LetsOut (Lift N dfs ι h w (nrm Q)) := fun ⟨_, _, _, _, _, q, _⟩ => by cases q.1
theorem nrm_lift {N : Nat} {ι : Inj} {h : AH} {w : World} {Q : Exit → St → AH → Prop} : ∀ e a w', Lift N dfs ι h w (nrm Q) e a w' → Lift N dfs ι h w Q e a w' := fun e a w' ⟨st, h', ι', q, r⟩ => by
 obtain ⟨rfl, q⟩ := q
 exact ⟨st, h', ι', q, r⟩
section
variable {P : Program} {N : Nat} {Q Q' : Exit → St → AH → Prop} {st : St} {h : AH}
theorem awp_loop {c : Code} (I : Nat → St → AH → Prop) {n : Nat} (h0 : I n st h) (round : ∀ n st h, I n st h → Awp P N c (athen (fun st' h' => ∃ m h'', m < n ∧ h''.le h' ∧ I m st' h'') Q) st h) : Awp P N (.loop c) Q st h := fun dfs ι a w ar wr => by
 refine wp_loop_rel (n := n) (fun n a' w' => ∃ st' h' ι', I n st' h' ∧ ARel N dfs ι' st' a' ∧ WRel ι' h' w' ∧ Ext ι h w ι' h' w') ?_ ⟨st, h, ι, h0, ar, wr, .refl _ _ _⟩
 rintro n a' w' ⟨st', h', ι', hI, ar', wr', x⟩
 refine wp_mono (round n st' h' hI dfs ι' a' w' ar' wr') fun e a'' w'' l => ?_
 obtain ⟨st'', h'', ι'', q, ar'', wr'', x'⟩ := l
 ·cases e with
  | normal =>
    obtain ⟨m, h3, hm, hle, hI'⟩ := q
    exact ⟨m, hm, st'', h3, ι'', hI', ar'', wr''.drop hle, (x.trans x').drop hle⟩
  | _ => exact ⟨st'', h'', ι'', q, ar'', wr'', x.trans x'⟩
theorem evOps_wpOps {ι0 : Inj} {h0 : AH} {w0 : World} {base : Nat} {ops : Array Oper} {aops : List AOper} (hof : opersOf P N ops = some aops) {QQ : Exit → Act → World → Prop} {K : St → AH → Prop}
 (hK : ∀ st h ι a w, K st h → ARel N dfs ι st a → WRel ι h w → Ext ι0 h0 w0 ι h w → QQ .normal a w) :
 ∀ (m i : Nat), i + m = ops.size → ∀ (st : St) (h : AH) (ι : Inj) (a : Act) (w : World), Inv N dfs ι0 h0 w0 base ops.size (fun j => i ≤ j) st h a w ι → evOps P base (aops.drop i) i st h K → wpOps P ops QQ (List.range' i m) a w := by
 unfold opersOf at hof
 simp only [Option.bind_eq_bind, Option.bind_eq_some_iff] at hof
 obtain ⟨l, hl, hof⟩ := hof
 split at hof
 ·rename_i hall
  simp only [Option.some.injEq] at hof
  subst hof
  have hlen := mapM_length hl
  have hget : ∀ (i : Nat) (o : Oper), ops[i]? = some o → ∃ ao, l[i]? = some ao ∧ AOper.of P ops o = some ao := by
   have gen : ∀ (xs : List Oper) (ys : List AOper), xs.mapM (AOper.of P ops) = some ys → ∀ (i : Nat) (o : Oper), xs[i]? = some o → ∃ ao, ys[i]? = some ao ∧ AOper.of P ops o = some ao := by
    intro xs
    induction xs with
    | nil => intro ys h i o ho; simp at ho
    | cons x xs ih =>
      intro ys h i o ho
      simp only [List.mapM_cons, Option.pure_def, Option.bind_eq_bind, Option.bind_eq_some_iff, Option.some.injEq] at h
      obtain ⟨y, hy, zs, hzs, rfl⟩ := h
      cases i with
      | zero => simp at ho; subst ho; exact ⟨y, rfl, hy⟩
      | succ i => simpa using ih zs hzs i o (by simpa using ho)
   intro i o ho
   exact gen _ _ hl i o (by simpa using ho)
  intro m
  induction m with
  | zero =>
    intro i hi st h ι a w I e
    have : l.drop i = [] := List.drop_eq_nil_of_le (by rw [hlen]; simp; omega)
    rw [this] at e
    simp only [evOps] at e
    simp only [List.range'_zero, wpOps]
    exact hK st h ι a w e I.ar I.wr I.ex
  | succ m ih =>
    intro i hi st h ι a w I e
    have hlt : i < ops.size := by omega
    obtain ⟨ao, hao, hof⟩ := hget i ops[i] (by simp [hlt])
    have hil : i < l.length := by rw [hlen]; simpa using hlt
    rw [List.drop_eq_getElem_cons hil] at e
    have : l[i] = ao := by rw [List.getElem?_eq_getElem hil] at hao; simpa using hao
    rw [this] at e
    simp only [evOps] at e
    have hfit := List.all_eq_true.1 hall ao (by rw [← this]; exact List.getElem_mem hil)
    unfold AOper.fits at hfit
    rw [List.range'_succ, wpOps_cons]
    have hd : ao.d = ops[i].dst := by
     unfold AOper.of at hof
     simp only [Option.bind_eq_bind, Option.bind_eq_some_iff] at hof
     obtain ⟨op, _, hof⟩ := hof
     split at hof
     ·cases hof; rfl
     ·split at hof
      ·cases hof; rfl
      ·cases hof
    refine wpOp_mono ?_ (evG_wpOp (o := ops[i]) (by simp [hlt]) hof (fun x hx => ?_) (fun s b hs => ?_) hlt (Nat.le_refl i) I e)
    ·rintro a' w' ⟨st', h', ι', k, I'⟩
     exact ih (i + 1) (by omega) st' h' ι' a' w' ⟨I'.ar, I'.wr, I'.ex, fun j hj hf => I'.fr j hj ⟨by omega, by omega⟩, I'.nx, I'.b0, I'.b1⟩ k
    ·rw [← hd] at hx; rw [hx] at hfit; simp at hfit; exact hfit.1
    ·rw [hs] at hfit; simp at hfit; exact hfit.2
 ·cases hof
theorem awp_region {id : Nat} {ops : Array Oper} {aops : List AOper} (hof : opersOf P N ops = some aops) (e : evOps P h.nx aops 0 st { h with nx := h.nx + aops.length } fun st h => Q .normal st h) : Awp P N (.region id ops false) Q st h := fun dfs ι a w ar wr => by
 have hlen : aops.length = ops.size := by
  unfold opersOf at hof
  simp only [Option.bind_eq_bind, Option.bind_eq_some_iff] at hof
  obtain ⟨l, hl, hof⟩ := hof
  split at hof
  ·cases hof; simpa using mapM_length hl
  ·cases hof
 refine wp_mono (wp_region (opersOf_nd hof) (nrm_lets (Q := Q)) ?_) nrm_lift
 rw [List.range_eq_range']
 refine evOps_wpOps (ι0 := ι) (h0 := h) (w0 := w) (base := h.nx) hof (fun st' h' ι' a' w' k ar' wr' x => ⟨st', h', ι', ⟨rfl, k⟩, ar', wr', x⟩) ops.size 0 (by omega) st { h with nx := h.nx + aops.length } ι a w
  ⟨ar, wr.bump _, (Ext.refl ι h w).bump _, fun j hj hf => ?_, by simp [hlen], Nat.le_refl _, wr.pos⟩ (by simpa using e)
 cases hq : ι (h.nx + j) with
 | none => rfl
 | some l => have := (wr.lt _ l hq).1; omega
inductive ARes where
 | t (n : Nat)
 | c (n : Nat) (k : Option Nat)
def resOf (P : Program) (rs : List ResultVar) : Option (List ARes) := rs.mapM fun
 | .tmp t => some (.t t)
 | .cell t ty => (ldOf P ty).map (.c t)
def ARes.val (st : St) (h : AH) : ARes → Option AV
 | .t n => some (st.get n)
 | .c n k => match st.get n with
   | .p tk o => match h.row tk with
     | some cs => rd cs o k
     | none => none
   | _ => none
def aone : List AV → AV
 | [v] => v
 | vs => .tu vs
def initSt (args : List AV) : St := args.zipIdx.map fun (v, i) => (i, v)
theorem initSt_get (args : List AV) (d : Nat) : (initSt args).get d = args.getD d .un := by
 unfold initSt
 have key : ∀ (l : List AV) (k d : Nat), St.get ((l.zipIdx k).map fun (p : AV × Nat) => (p.2, p.1)) d = if k ≤ d then l.getD (d - k) .un else .un := by
  intro l
  induction l with
  | nil => intro k d; simp [St.get]
  | cons x l ih =>
    intro k d
    simp only [List.zipIdx_cons, List.map_cons, St.get, ih]
    by_cases h1 : d = k
    ·subst h1; simp
    ·rw [if_neg h1]
     by_cases h2 : k + 1 ≤ d
     ·rw [if_pos h2, if_pos (by omega)]
      rw [show d - k = (d - (k + 1)) + 1 by omega]
      simp
     ·rw [if_neg h2, if_neg (by omega)]
 have := key args 0 d
 simpa using this
def resRun (tmps : Array Value) : ResultVar → Sem Value
 | .tmp t => pure (tmps.getD t undef)
 | .cell a t => do loadVar t (← asAddr (tmps.getD a undef))
theorem results_eq (fn : Func) (tmps : Array Value) : results fn tmps = (do
 let vs ← fn.results.mapM (resRun tmps)
 pure (if h : vs.size = 1 then vs[0] else .tuple vs)) := by
 unfold results
 congr 1
theorem ares_run {ι : Inj} {a : Act} {w : World} (ar : ARel N dfs ι st a) (wr : WRel ι h w) : ∀ {rs : List ResultVar} {ars : List ARes}, resOf P rs = some ars → ∀ {vs : List AV}, ars.mapM (ARes.val st h) = some vs →
 ∃ us : List Value, (rs.mapM (resRun a.tmps)).run P w = .ok us w ∧ VRels ι vs us
 | [], ars, h1, vs, h2 => by
   simp [resOf] at h1; subst h1
   simp at h2; subst h2
   exact ⟨[], by simp, by simp [VRels]⟩
 | r :: rs, ars, h1, vs, h2 => by
   simp only [resOf, List.mapM_cons, Option.pure_def, Option.bind_eq_bind, Option.bind_eq_some_iff, Option.some.injEq] at h1
   obtain ⟨y, hy, ys, hys, rfl⟩ := h1
   simp only [List.mapM_cons, Option.pure_def, Option.bind_eq_bind, Option.bind_eq_some_iff, Option.some.injEq] at h2
   obtain ⟨v, hv, us, hus, rfl⟩ := h2
   obtain ⟨zs, hz1, hz2⟩ := ares_run ar wr (rs := rs) (ars := ys) hys hus
   have one : ∃ u, (resRun a.tmps r).run P w = .ok u w ∧ VRel ι v u := by
    cases r with
    | tmp t =>
      simp at hy; subst hy
      simp only [ARes.val, Option.some.injEq] at hv
      subst hv
      exact ⟨_, rfl, ar.slot t⟩
    | cell c t =>
      simp only [Option.map_eq_some_iff] at hy
      obtain ⟨k, hk, rfl⟩ := hy
      simp only [ARes.val] at hv
      split at hv
      ·rename_i tk o hg
       have rd' := ar.slot c
       rw [hg] at rd'
       simp only [VRel] at rd'
       obtain ⟨l, hl, hp⟩ := rd'
       split at hv
       ·rename_i cs hrow
        obtain ⟨u, h3, h4⟩ := ld_sound (P := P) wr hk hrow hv hl
        exact ⟨u, by simp [resRun, hp, asAddr, h3], h4⟩
       ·cases hv
      ·cases hv
   obtain ⟨u, h5, h6⟩ := one
   refine ⟨u :: zs, ?_, by simp only [VRels]; exact ⟨_, _, rfl, h6, hz2⟩⟩
   simp only [List.mapM_cons, Sem.run_bind, h5, Result.andThen_ok, hz1, Sem.run_pure]
theorem start_rel {N : Nat} {args : List AV} {ι : Inj} {vs : Array Value} (hT : TabOK ι.φ) (hv : VRels ι args vs.toList) (hN : args.length ≤ N) : ARel N [] ι (initSt args) { tmps := vs ++ Array.replicate (N - vs.size) undef, defers := [] } := by
 have hsz : vs.size = args.length := by have := hv.length; simpa using this.symm
 refine ⟨by simp; omega, rfl, hT, fun d => ?_⟩
 rw [initSt_get]
 by_cases hd : d < args.length
 ·obtain ⟨hl, hrr⟩ := VRels_iff.1 hv
  have h1 : args[d]? = some args[d] := List.getElem?_eq_getElem hd
  have h2 : vs.toList[d]? = some vs[d] := by simp [hsz, hd]
  have := hrr d _ _ h1 h2
  rw [List.getD_eq_getElem?_getD, h1]
  have e3 : (vs ++ Array.replicate (N - vs.size) undef).getD d undef = vs[d] := by
   rw [Array.getD_eq_getD_getElem?, Array.getElem?_append_left (by omega)]
   simp [hsz, hd]
  rw [e3]
  exact this
 ·rw [List.getD_eq_getElem?_getD, List.getElem?_eq_none (by omega)]
  simp [VRel]
theorem res_run {fn : Func} {ars : List ARes} (hr : resOf P fn.results.toList = some ars) {N : Nat} {ι : Inj} {st : St} {a : Act} {h : AH} {w : World} (ar : ARel N dfs ι st a) (wr : WRel ι h w) {us : List AV} (hus : ars.mapM (ARes.val st h) = some us) :
 ∃ v, (results fn a.tmps).run P w = .ok v w ∧ VRel ι (aone us) v := by
 obtain ⟨zs, hz1, hz2⟩ := ares_run (P := P) ar wr hr hus
 have e1 : (fn.results.mapM (resRun a.tmps)).run P w = .ok zs.toArray w := by
  rw [Array.mapM_eq_mapM_toList]
  simp only [Sem.run_map, hz1, Result.andThen_ok]
 rw [results_eq]
 simp only [Sem.run_bind]
 rw [e1]
 simp only [Result.andThen_ok, Sem.run_pure]
 match us, zs, hz2 with
 | [], zs, hz2 =>
   simp only [VRels] at hz2; subst hz2
   exact ⟨_, rfl, by simp only [aone, VRel]; exact ⟨#[], rfl, by simp [VRels]⟩⟩
 | [v], zs, hz2 =>
   simp only [VRels] at hz2
   obtain ⟨u, r, rfl, h1, rfl⟩ := hz2
   exact ⟨_, rfl, by simpa [aone] using h1⟩
 | v1 :: v2 :: vs', zs, hz2 =>
   have hl := hz2.length
   refine ⟨.tuple zs.toArray, ?_, by simp only [aone, VRel]; exact ⟨_, rfl, by simpa using hz2⟩⟩
   rw [dif_neg (by simp at hl ⊢; omega)]
theorem acalls_of {f : Nat} {fn : Func} {c : Code} {args : List AV} {ars : List ARes} {R : AV → AH → Prop} (hf : P.funcs[f]? = some fn) (hn : (fn.name == "runtime.NumGoroutine") = false) (hb : fn.body = some c)
 (hr : resOf P fn.results.toList = some ars) (hN : args.length ≤ fn.ntmps)
 (hw : Awp P fn.ntmps c (fun e st h' => (e = .normal ∨ e = .ret) ∧ ∃ vs, ars.mapM (ARes.val st h') = some vs ∧ ∃ h'', h''.le h' ∧ R (aone vs) h'') (initSt args) h) : ACalls P f args h R := by
 refine ⟨⟨fn, hf, hn, by rw [hb]; rfl⟩, fun ι w vs wr hv => ?_⟩
 refine calls_of_wp hf hb (Cwp.wp (wp_mono (hw [] ι { tmps := vs ++ Array.replicate (fn.ntmps - vs.size) undef, defers := [] } w (start_rel wr.nil0.2 hv hN) wr) fun e a' w' l => ?_))
 obtain ⟨st', h', ι', ⟨he, us, hus, h'', hle, hR⟩, ar', wr', x⟩ := l
 obtain ⟨v, h1, h2⟩ := res_run hr ar' wr' hus
 rcases he with rfl | rfl <;> simp only [bodyPost] <;> exact ⟨ar'.defs, v, h1, ⟨v, _, h'', ι', rfl, hR, h2, wr'.drop hle, x.drop hle⟩⟩
end
end Go.Am
set_option linter.unusedVariables false
set_option linter.unusedSimpArgs false
namespace Go.Am
def AOp.xs : AOp → List AX
 | .mv x | .neg x | .not x | .conv _ x | .ext x _ | .fa x _ | .fld x _ _ | .nck x | .len x | .ld _ x | .box x | .str x | .cvt x | .byt x | .eqz _ x | .mln x => [x]
 | .pick c a b => [c, a, b]
 | .bin _ _ x y | .ia _ x y | .iap _ _ x y | .iv _ _ _ x y | .eqn _ x y | .eqa _ _ x y | .eqs _ x y | .mks _ _ _ x y | .sto _ x y | .app _ _ x y | .mlk _ _ _ x y => [x, y]
 | .mup _ x k v => [x, k, v]
 | .sli _ x lo hi | .slp _ _ x lo hi => x :: (lo.toList ++ hi.toList)
 | .sl3 _ x lo hi mx => x :: (lo.toList ++ [hi, mx])
 | .bld _ ps | .bsl _ _ ps => ps.map (·.2.2)
 | .mm _ x xs => x :: xs
 | .mkf _ a b => a ++ b
 | .alloc _ | .mkm => []
 | .call f xs => f :: xs
theorem afill_congr {ρ ρ' : AX → AV} : ∀ {ps : List (Nat × Nat × AX)} {cs : List AV}, (∀ x ∈ ps.map (·.2.2), ρ x = ρ' x) → afill ρ cs ps = afill ρ' cs ps
 | [], cs, _ => rfl
 | (off, n, x) :: ps, cs, h => by
   simp only [afill]
   rw [h x (by simp)]
   split
   ·exact afill_congr fun y hy => h y (by simp at hy ⊢; exact .inr hy)
   ·rfl
theorem bound_congr {ρ ρ' : AX → AV} {d : Nat} {x : Option AX} (h : ∀ y ∈ x.toList, ρ y = ρ' y) : bound ρ d x = bound ρ' d x := by
 cases x with
 | none => rfl
 | some y => simp only [bound]; rw [h y (by simp)]
def AV.tok : AV → Option Nat
 | .p t _ => some t
 | .sl t _ n _ => if n = 0 then none else some t
 | .mp t => some t
 | _ => none
theorem row_of_m {h h' : AH} {t : Nat} (hm : ∀ c, h.m t = some c → h'.m t = some c) {cs : List AV} (hr : h.row t = some cs) : h'.row t = some cs := by
 unfold AH.row at hr ⊢
 split at hr
 ·rename_i w cs' hq; rw [hm _ hq]; exact hr
 ·rename_i cs' hq; rw [hm _ hq]; exact hr
 ·cases hr
theorem qpp_move {h h' : AH} {k b tok : Nat} {x y : AV} {r : AV × List AV} (hl : ∀ t, y.tok = some t → ∀ c, h.m t = some c → h'.m t = some c) (e : h.qpp k b tok x y = some r) : h'.qpp k b tok x y = some r := by
 have he : ∀ ys, h.elems k y = some ys → h'.elems k y = some ys := by
  intro ys hy
  unfold AH.elems at hy ⊢
  cases y <;> simp only at hy ⊢ <;> try exact hy
  rename_i t2 o2 m a2
  by_cases h0 : m = 0
  ·rw [if_pos h0] at hy ⊢; exact hy
  ·rw [if_neg h0] at hy ⊢
   cases hr : h.row t2 with
   | none => rw [hr] at hy; cases hy
   | some cs => rw [hr] at hy; rw [row_of_m (hl t2 (by simp only [AV.tok, if_neg h0])) hr]; exact hy
 unfold AH.qpp at e ⊢
 split at e
 ·rename_i t o n a m ys h1 h2
  simp only [h1, he ys h2]
  exact e
 ·cases e
theorem ev_congr {ρ ρ' : AX → AV} {h h' : AH} {o : AOp} {v : AV} (hx : ∀ x ∈ o.xs, ρ x = ρ' x) (hl : ∀ x t, x ∈ o.xs → (ρ x).tok = some t → ∀ c, h.m t = some c → h'.m t = some c) (e : o.ev ρ h = some v) : o.ev ρ' h' = some v := by
 cases o <;> simp only [AOp.xs, List.mem_cons, List.not_mem_nil, or_false, forall_eq_or_imp, forall_eq] at hx <;> simp only [AOp.ev] at e ⊢
 case ld n x =>
  rw [← hx]
  cases hp : ρ x <;> simp only [hp] at e ⊢ <;> try exact e
  rename_i t o'
  cases hr : h.row t with
  | none => rw [hr] at e; cases e
  | some cs => rw [hr] at e; rw [row_of_m (hl x t (by simp [AOp.xs]) (by rw [hp]; rfl)) hr]; exact e
 case str x =>
  rw [← hx]
  cases hp : ρ x <;> simp only [hp] at e ⊢ <;> try exact e
  rename_i t o' n a'
  split at e
  ·rename_i h0; rw [if_pos h0]; exact e
  ·rename_i h0
   rw [if_neg h0]
   cases hr : h.row t with
   | none => rw [hr] at e; cases e
   | some cs => rw [hr] at e; rw [row_of_m (hl x t (by simp [AOp.xs]) (by rw [hp]; simp [AV.tok, h0])) hr]; exact e
 case sli k x lo hi =>
  rw [← hx.1, ← bound_congr (fun y hy => hx.2 y (by simp at hy ⊢; exact .inl hy))]
  cases hq : ρ x <;> simp only [hq] at e ⊢ <;> try exact e
  all_goals
   rw [← bound_congr (fun y hy => hx.2 y (by simp at hy ⊢; exact .inr hy))]
   exact e
 case sl3 k x lo hi mx =>
  rw [← hx.1, ← bound_congr (fun y hy => hx.2 y (by simp at hy ⊢; exact .inl hy))]
  cases hq : ρ x <;> simp only [hq] at e ⊢ <;> try exact e
  all_goals
   rw [← bound_congr (x := some hi) (fun y hy => hx.2 y (by simp at hy ⊢; exact .inr (.inl hy))), ← bound_congr (x := some mx) (fun y hy => hx.2 y (by simp at hy ⊢; exact .inr (.inr hy)))]
   exact e
 case slp n k x lo hi =>
  rw [← hx.1, ← bound_congr (fun y hy => hx.2 y (by simp at hy ⊢; exact .inl hy)), ← bound_congr (fun y hy => hx.2 y (by simp at hy ⊢; exact .inr hy))]
  exact e
 case bld z ps => rw [← afill_congr hx]; exact e
 case mlk kk z ok x k =>
  rw [← hx.1, ← hx.2]
  cases hp : ρ x <;> simp only [hp] at e ⊢ <;> try exact e
  rename_i t
  cases hr : h.m t with
  | none => rw [hr] at e; cases e
  | some c => rw [hr] at e; rw [hl x t (by simp [AOp.xs]) (by rw [hp]; rfl) c hr]; exact e
 case mln x =>
  rw [← hx]
  cases hp : ρ x <;> simp only [hp] at e ⊢ <;> try exact e
  rename_i t
  cases hr : h.m t with
  | none => rw [hr] at e; cases e
  | some c => rw [hr] at e; rw [hl x t (by simp [AOp.xs]) (by rw [hp]; rfl) c hr]; exact e
 case mm mx x xs =>
  rw [← hx.1, ← List.map_congr_left (f := ρ) (g := ρ') fun y hy => hx.2 y hy]
  exact e
 case mkf f a b =>
  rw [← List.map_congr_left (f := ρ) (g := ρ') (l := a) fun y hy => hx y (by simp [hy]), ← List.map_congr_left (f := ρ) (g := ρ') (l := b) fun y hy => hx y (by simp [hy])]
  exact e
 case pick c a b => rw [← hx.1, ← hx.2.1, ← hx.2.2]; exact e
 all_goals first
  | exact e
  | (rw [← hx]; exact e)
  | (rw [← hx.1, ← hx.2]; exact e)
theorem al_congr {ρ ρ' : AX → AV} {o : AOp} {tok : Nat} (hx : ∀ x ∈ o.xs, ρ x = ρ' x) : o.al ρ tok = o.al ρ' tok := by
 cases o <;> simp only [AOp.xs, List.mem_cons, List.not_mem_nil, or_false, forall_eq_or_imp, forall_eq] at hx <;> simp only [AOp.al]
 case box x => rw [hx]
 case bsl k z ps => rw [afill_congr hx]
 case mks k b z x y => rw [hx.1, hx.2]
theorem ACalls.frame {P : Program} {f : Nat} {args : List AV} {hb h : AH} {v : AV} (c : ACalls P f args hb fun r h' => r = v ∧ h' = hb) (hle : hb.le h) (hnx : h.nx = hb.nx) : ACalls P f args h fun r h' => r = v ∧ h' = h := by
 refine ⟨c.1, fun ι w vs wr hv => Calls.mono (c.2 ι w vs (wr.drop hle) hv) fun e w' he => ?_⟩
 revert he; rintro ⟨u, r, h', ι', rfl, ⟨rfl, rfl⟩, h1, h2, h3⟩
 have hold : ∀ t c, h.m t = some c → ι' t = ι t := fun t c ht => h3.old t (by rw [← hnx]; exact (wr.blk t c ht).1)
 have hkeep : ∀ t c l, h.m t = some c → h'.m t = none → ι t = some l → w'.heap[l.b]? = w.heap[l.b]? := by
  intro t c l ht hn hl
  refine h3.keep l.b (wr.lt t l hl).2 fun t0 c0 l0 hm0 hw0 hl0 hbb => ?_
  have := wr.inj t0 t l0 l c0 c (hle.1 _ _ hm0) ht hl0 hl hbb (.inl hw0)
  subst this
  rw [hn] at hm0; cases hm0
 refine ⟨u, _, h, ι', rfl, ⟨rfl, rfl⟩, h1, ⟨fun t l hl => ?_, fun t c ht => ?_, fun t t' l l' c c' h4 h5 h6 h7 h8 h9 => ?_, wr.pos, h2.nil0, fun b xs hb => ⟨(h2.phi b xs hb).1, fun t c l ht hc hl => ?_⟩⟩, ⟨by omega, fun t ht => h3.old t (by omega), h3.os, h3.tape, h3.output, h3.size, fun b hbb hk => ?_, fun t c l ht hc hl => ?_, h3.phi, fun b xs hb => ?_, h3.drawn⟩⟩
 ·rw [hnx]; exact h2.lt t l hl
 ·refine ⟨(wr.blk t c ht).1, ?_⟩
  cases hq : h'.m t with
  | some c0 =>
    have := hle.1 _ _ hq
    rw [ht] at this; cases this
    exact (h2.blk t _ hq).2
  | none => exact (wr.blk t c ht).2.mono ⟨fun s l hs => by rw [h3.old s (by rw [← hnx]; exact (wr.lt s l hs).1)]; exact hs, h3.phi⟩ (hold t c ht) fun l hl => hkeep t c l ht hq hl
 ·rw [hold t c h4] at h6
  rw [hold t' c' h5] at h7
  exact wr.inj t t' l l' c c' h4 h5 h6 h7 h8 h9
 ·rw [hold t c ht] at hl
  rcases h3.new b xs hb with q | q | ⟨t0, c0, l0, q1, q2, q3, q4⟩
  ·exact (wr.phi b xs q).2 t c l ht hc hl
  ·have := (wr.lt t l hl).2; omega
  ·exact absurd q4 ((h2.phi b xs hb).2 t0 c0 l0 q1 q2 (by rw [hold t0 c0 (hle.1 _ _ q1)]; exact q3))
 ·exact h3.keep b hbb fun t c l ht hc hl => hk t c l (hle.1 _ _ ht) hc hl
 ·rw [hold t c ht] at hl
  exact .inr ⟨t, c, l, ht, hc, hl, rfl⟩
 ·rcases h3.new b xs hb with q | q | ⟨t0, c0, l0, q1, q2, q3, q4⟩
  ·exact .inl q
  ·exact .inr (.inl q)
  ·exact .inr (.inr ⟨t0, c0, l0, hle.1 _ _ q1, q2, q3, q4⟩)
def AH.plus (hb h : AH) : List Nat → AH
 | [] => hb
 | t :: ts => { hb.plus h ts with m := fun s => if s = t then h.m t else (hb.plus h ts).m s }
theorem AH.plus_nx (hb h : AH) : ∀ ts, (hb.plus h ts).nx = hb.nx
 | [] => rfl
 | _ :: ts => AH.plus_nx hb h ts
theorem AH.plus_m {hb h : AH} {s : Nat} {c : Blk} : ∀ {ts : List Nat}, (hb.plus h ts).m s = some c → (s ∈ ts ∧ h.m s = some c) ∨ hb.m s = some c
 | [], e => .inr e
 | t :: ts, e => by
   simp only [AH.plus] at e
   by_cases q : s = t
   ·subst q; rw [if_pos rfl] at e; exact .inl ⟨List.mem_cons_self, e⟩
   ·rw [if_neg q] at e
    rcases AH.plus_m e with ⟨h1, h2⟩ | h1
    ·exact .inl ⟨List.mem_cons_of_mem _ h1, h2⟩
    ·exact .inr h1
theorem AH.plus_le {hb h : AH} (hle : hb.le h) (ts : List Nat) : (hb.plus h ts).le h :=
 ⟨fun s c e => by rcases AH.plus_m e with ⟨_, h2⟩ | h2; exact h2; exact hle.1 _ _ h2, by rw [AH.plus_nx]; exact hle.2⟩
theorem AH.plus_mono {hb h h' : AH} : ∀ {ts : List Nat}, (∀ t ∈ ts, ∀ c, h.m t = some c → h'.m t = some c) → (hb.plus h ts).le (hb.plus h' ts)
 | [], _ => AH.le_refl _
 | t :: ts, hl => by
   have ih := AH.plus_mono (hb := hb) (ts := ts) (h := h) (h' := h') fun t ht => hl t (List.mem_cons_of_mem _ ht)
   refine ⟨fun s c e => ?_, by rw [AH.plus_nx, AH.plus_nx]; exact Nat.le_refl _⟩
   simp only [AH.plus] at e ⊢
   by_cases q : s = t
   ·rw [if_pos q] at e ⊢; exact hl t List.mem_cons_self c e
   ·rw [if_neg q] at e ⊢; exact ih.1 s c e
section
variable (P : Program)
def setNb (h : AH) (tok : Nat) : Option (List AV) → AH
 | some cs => h.set tok (.cells true cs)
 | none => h
abbrev NB := Option (Nat × Blk)
def setE (h : AH) : NB → AH
 | some p => h.set p.1 p.2
 | none => h
def nbE (tok : Nat) (nb : Option (List AV)) : NB := nb.map fun cs => (tok, Blk.cells true cs)
theorem setE_nbE (h : AH) (tok : Nat) (nb : Option (List AV)) : setE h (nbE tok nb) = setNb h tok nb := by cases nb <;> rfl
def AH.stoE (h : AH) (n : Option Nat) (x v : AV) : NB :=
 match x with
 | .p t o => match h.m t with
   | some (.cells true cs) => (wrt cs o v n).map fun cs' => (t, .cells true cs')
   | _ => none
 | _ => none
def AH.mupE (h : AH) (kk : Option (List Nat)) (x k v : AV) : NB :=
 match x with
 | .mp t => match h.m t with
   | some (.map es) => if kq kk k k = some true then (mput kk k v es).map fun es' => (t, .map es') else none
   | _ => none
 | _ => none
theorem sto_E (h : AH) (n : Option Nat) (x v : AV) : h.sto n x v = (h.stoE n x v).map fun p => h.set p.1 p.2 := by
 cases x <;> try rfl
 rename_i t o
 simp only [AH.sto, AH.stoE]
 rcases h.m t with _ | (⟨_ | _, cs⟩ | cs | es) <;> try rfl
 simp only []
 rw [Option.map_map]; rfl
theorem mup_E (h : AH) (kk : Option (List Nat)) (x k v : AV) : h.mup kk x k v = (h.mupE kk x k v).map fun p => h.set p.1 p.2 := by
 cases x <;> try rfl
 rename_i t
 simp only [AH.mup, AH.mupE]
 rcases h.m t with _ | (⟨_ | _, cs⟩ | cs | es) <;> try rfl
 simp only []
 split
 ·rw [Option.map_map]; rfl
 ·rfl
theorem stoE_move {h h' : AH} {n : Option Nat} {x v : AV} {p : Nat × Blk} (hl : ∀ t, x.tok = some t → ∀ c, h.m t = some c → h'.m t = some c) (e : h.stoE n x v = some p) : h'.stoE n x v = some p := by
 unfold AH.stoE at *
 split at e
 ·rename_i t o
  split at e
  ·rename_i hq; rw [hl t rfl _ hq]; exact e
  ·cases e
 ·cases e
theorem mupE_move {h h' : AH} {kk : Option (List Nat)} {x k v : AV} {p : Nat × Blk} (hl : ∀ t, x.tok = some t → ∀ c, h.m t = some c → h'.m t = some c) (e : h.mupE kk x k v = some p) : h'.mupE kk x k v = some p := by
 unfold AH.mupE at *
 split at e
 ·rename_i t
  split at e
  ·rename_i hq; rw [hl t rfl _ hq]; exact e
  ·cases e
 ·cases e
def AOp.late : AOp → Bool
 | .sto .. | .mup .. => true
 | _ => false
def AOp.lateOk : AOp → Bool
 | .sto n _ _ => n != some 0
 | _ => true
def AOp.cal : AOp → Bool
 | .call .. => true
 | _ => false
def AOp.free : AOp → Bool
 | .ld .. | .str .. | .mlk .. | .mln .. | .call .. | .app .. | .byt .. | .cvt .. | .eqz .. | .mkm | .sto .. | .mup .. => false
 | _ => true
theorem ev_free {o : AOp} (hf : o.free = true) (ρ : AX → AV) (h h' : AH) : o.ev ρ h = o.ev ρ h' := by
 cases o <;> first | rfl | cases hf
def goodB : Blk → Prop
 | .cells _ cs => cs ≠ []
 | .frz cs => True
 | .map _ => True
 | .raw _ => True
def okCall (tok : Nat) (hb : AH) (f : Nat) (args : List AV) (r : AV) (nb : Option (List AV)) : Prop :=
 (nb = none ∧ ACalls P f args hb fun r' h' => r' = r ∧ h' = hb) ∨ ∃ p n k cs, nb = some cs ∧ r = plug p (.sl tok 0 n k) ∧ FCalls P f args hb p n k cs
def evHA (tok : Nat) (hb : AH) (d : Option Nat) (o : AOp) (st : St) (h : AH) (K : St → AH → Prop) : Prop :=
 match o with
 | .sto n x v => match h.sto n (x.val st) (v.val st) with
   | some h' => K (put d .un st) h'
   | none => False
 | .app k b x y => match h.qpp k b tok (x.val st) (y.val st) with
   | some (v, cs) => K (put d v st) (h.set tok (.cells true cs))
   | none => False
 | .byt _ => False
 | .eqz .. => False
 | .cvt _ => False
 | .mkm => False
 | .mup kk x k v => match h.mup kk (x.val st) (k.val st) (v.val st) with
   | some h' => K (put d .un st) h'
   | none => False
 | .call f args => match f.val st with
   | .fn f fst caps => ∃ ts r nb, (∀ t ∈ ts, ∃ x ∈ args, (x.val st).tok = some t) ∧ okCall P tok (hb.plus h ts) f (fst ++ args.map (AX.val st) ++ caps) r nb ∧ K (put d r st) (setNb h tok nb)
   | _ => False
 | o => if o.isAl then match o.al (AX.val st) tok with
     | some (v, cs) => K (put d v st) (h.set tok (.cells true cs))
     | none => False
  else match o.ev (AX.val st) h with
   | some v => K (put d v st) h
   | none => False
def evHC (tok : Nat) (hb : AH) (g : Bool) (d : Option Nat) (o : AOp) (st : St) (h : AH) (K : St → AH → Prop) : Prop :=
 match o with
 | .sto .. => False
 | .app .. => False
 | .byt _ => False
 | .eqz .. => False
 | .cvt _ => False
 | .mkm => False
 | .mup .. => False
 | .call f args => match f.val (stS g st) with
   | .fn f fst caps => ∃ v, (g = true → ACalls P f (fst ++ args.map (AX.val (stS g st)) ++ caps) hb fun r h' => r = v ∧ h' = hb) ∧ K (put d (.gd g v) st) h
   | _ => False
 | o => if o.isVal then ∃ v, (g = true → o.ev (AX.val (stS g st)) h = some v) ∧ K (put d (.gd g v) st) h
   else (g = true → match o.al (AX.val (stS g st)) tok with
    | some (v, cs) => K (put d (.gd g v) st) (h.set tok (.cells true cs))
    | none => False) ∧ (g = false → K (put d (.gd g .un) st) h)
def evHG (tok : Nat) (hb : AH) (o : AOper) (st : St) (h : AH) (K : St → AH → Prop) : Prop :=
 match o.g with
 | none => evHA P tok hb o.d o.op st h K
 | some (s, want) => match guardOf (st.get s) want with
   | some g => evHC P tok hb g o.d o.op st h K
   | none => False
def evHead (base : Nat) (hb : AH) : List AOper → Nat → St → AH → (St → AH → Prop) → Prop
 | [], _, st, h, K => K st h
 | o :: os, i, st, h, K => evHG P (base + i) hb o st h fun st' h' => evHead base hb os (i + 1) st' h' K
def okA (tok : Nat) (hb : AH) (o : AOp) (st : St) (h : AH) (v : AV) (nb : NB) : Prop :=
 match o with
 | .sto n x w => v = .un ∧ ∃ p, nb = some p ∧ h.stoE n (x.val st) (w.val st) = some p
 | .app k b x y => ∃ cs, nb = some (tok, .cells true cs) ∧ h.qpp k b tok (x.val st) (y.val st) = some (v, cs)
 | .byt _ => False
 | .eqz .. => False
 | .cvt _ => False
 | .mkm => False
 | .mup kk x k w => v = .un ∧ ∃ p, nb = some p ∧ h.mupE kk (x.val st) (k.val st) (w.val st) = some p
 | .call f args => ∃ ts fid fst caps n0, nb = nbE tok n0 ∧ (∀ t ∈ ts, ∃ x ∈ args, (x.val st).tok = some t) ∧ f.val st = .fn fid fst caps ∧ okCall P tok (hb.plus h ts) fid (fst ++ args.map (AX.val st) ++ caps) v n0
 | o => if o.isAl then ∃ cs, nb = some (tok, .cells true cs) ∧ o.al (AX.val st) tok = some (v, cs) else nb = none ∧ o.ev (AX.val st) h = some v
def okC (tok : Nat) (hb : AH) (g : Bool) (o : AOp) (st : St) (h : AH) (v : AV) (nb : NB) : Prop :=
 match o with
 | .sto .. => False
 | .app .. => False
 | .byt _ => False
 | .eqz .. => False
 | .cvt _ => False
 | .mkm => False
 | .mup .. => False
 | .call f args => nb = none ∧ ∃ v0 fid fst caps, v = .gd g v0 ∧ f.val (stS g st) = .fn fid fst caps ∧ (g = true → ACalls P fid (fst ++ args.map (AX.val (stS g st)) ++ caps) hb fun r' h' => r' = v0 ∧ h' = hb)
 | o => if o.isVal then nb = none ∧ ∃ v0, v = .gd g v0 ∧ (g = true → o.ev (AX.val (stS g st)) h = some v0)
   else (g = true ∧ ∃ v0 cs, o.al (AX.val (stS g st)) tok = some (v0, cs) ∧ v = .gd g v0 ∧ nb = some (tok, .cells true cs)) ∨ (g = false ∧ v = .gd g .un ∧ nb = none)
def okG (tok : Nat) (hb : AH) (o : AOper) (st : St) (h : AH) (v : AV) (nb : NB) : Prop :=
 match o.g with
 | none => okA P tok hb o.op st h v nb
 | some (s, want) => match guardOf (st.get s) want with
   | some g => okC P tok hb g o.op st h v nb
   | none => False
end
section
variable {P : Program}
theorem okA_of {tok : Nat} {hb : AH} {d : Option Nat} {o : AOp} {st : St} {h : AH} {K : St → AH → Prop} (e : evHA P tok hb d o st h K) : ∃ v nb, okA P tok hb o st h v nb ∧ K (put d v st) (setE h nb) := by
 cases o <;> simp only [evHA, okA, AOp.isAl, if_true, if_false, Bool.false_eq_true] at e ⊢
 case call f args =>
  split at e
  ·rename_i fid fst caps hf
   obtain ⟨ts, r, nb, h0, h1, h2⟩ := e
   exact ⟨r, nbE tok nb, ⟨ts, _, _, _, nb, rfl, h0, hf, h1⟩, by rw [setE_nbE]; exact h2⟩
  ·exact e.elim
 case sto n x v =>
  rw [sto_E] at e
  cases hq : h.stoE n (x.val st) (v.val st) with
  | none => rw [hq] at e; exact e.elim
  | some p => rw [hq] at e; exact ⟨_, some p, ⟨rfl, p, rfl, rfl⟩, e⟩
 case mup kk x k v =>
  rw [mup_E] at e
  cases hq : h.mupE kk (x.val st) (k.val st) (v.val st) with
  | none => rw [hq] at e; exact e.elim
  | some p => rw [hq] at e; exact ⟨_, some p, ⟨rfl, p, rfl, rfl⟩, e⟩
 case app => split at e <;> first | exact e.elim | (rename_i hq; exact ⟨_, _, ⟨_, rfl, hq⟩, e⟩)
 case box => split at e <;> first | exact e.elim | (rename_i hq; exact ⟨_, _, ⟨_, rfl, hq⟩, e⟩)
 case alloc => split at e <;> first | exact e.elim | (rename_i hq; exact ⟨_, _, ⟨_, rfl, hq⟩, e⟩)
 case bsl => split at e <;> first | exact e.elim | (rename_i hq; exact ⟨_, _, ⟨_, rfl, hq⟩, e⟩)
 case mks => split at e <;> first | exact e.elim | (rename_i hq; exact ⟨_, _, ⟨_, rfl, hq⟩, e⟩)
 all_goals (split at e <;> first | exact e.elim | (rename_i hq; exact ⟨_, none, ⟨rfl, hq⟩, e⟩))
theorem okC_of {tok : Nat} {hb : AH} {g : Bool} {d : Option Nat} {o : AOp} {st : St} {h : AH} {K : St → AH → Prop} (e : evHC P tok hb g d o st h K) : ∃ v nb, okC P tok hb g o st h v nb ∧ K (put d v st) (setE h nb) := by
 have al : ∀ {op : AOp}, ((g = true → match op.al (AX.val (stS g st)) tok with
  | some (v, cs) => K (put d (.gd g v) st) (h.set tok (.cells true cs))
  | none => False) ∧ (g = false → K (put d (.gd g .un) st) h)) →
  ∃ v nb, ((g = true ∧ ∃ v0 cs, op.al (AX.val (stS g st)) tok = some (v0, cs) ∧ v = .gd g v0 ∧ nb = some (tok, .cells true cs)) ∨ (g = false ∧ v = .gd g .un ∧ nb = none)) ∧ K (put d v st) (setE h nb) := by
  intro op e
  cases g with
  | false => exact ⟨_, none, .inr ⟨rfl, rfl, rfl⟩, e.2 rfl⟩
  | true =>
    have e1 := e.1 rfl
    split at e1
    ·rename_i v cs hq; exact ⟨_, some (tok, .cells true cs), .inl ⟨rfl, v, cs, hq, rfl, rfl⟩, e1⟩
    ·exact e1.elim
 cases o <;> simp only [evHC, okC, AOp.isVal, if_true, if_false, Bool.false_eq_true] at e ⊢
 case call f args =>
  split at e
  ·rename_i fid fst caps hf
   obtain ⟨v, h1, h2⟩ := e
   exact ⟨.gd g v, none, ⟨rfl, v, fid, fst, caps, rfl, hf, h1⟩, h2⟩
  ·exact e.elim
 case box => exact al e
 case alloc => exact al e
 case bsl => exact al e
 case mks => exact al e
 all_goals (obtain ⟨v, h1, h2⟩ := e; exact ⟨.gd g v, none, ⟨rfl, v, rfl, h1⟩, h2⟩)
theorem okG_of {tok : Nat} {hb : AH} {o : AOper} {st : St} {h : AH} {K : St → AH → Prop} (e : evHG P tok hb o st h K) : ∃ v nb, okG P tok hb o st h v nb ∧ K (put o.d v st) (setE h nb) := by
 unfold evHG at e
 unfold okG
 cases hg : o.g with
 | none => simp only [hg] at e ⊢; exact okA_of e
 | some sw =>
   obtain ⟨s, want⟩ := sw
   simp only [hg] at e ⊢
   cases hq : guardOf (st.get s) want with
   | none => simp only [hq] at e
   | some g => simp only [hq] at e ⊢; exact okC_of e
theorem okA_ev {tok : Nat} {hb : AH} {d : Option Nat} {o : AOp} {st : St} {h : AH} {v : AV} {nb : NB} (hle : o.cal = true → hb.le h) (hnx : h.nx = hb.nx) (e : okA P tok hb o st h v nb) :
 evA P tok d o st h fun st' h' => st' = put d v st ∧ h' = setE h nb := by
 cases o <;> simp only [evA, okA, AOp.isAl, if_true, if_false, Bool.false_eq_true] at e ⊢
 case call f args =>
  obtain ⟨ts, fid, fst, caps, n0, rfl, _, hf, hc⟩ := e
  have hnx : h.nx = (hb.plus h ts).nx := by rw [AH.plus_nx]; exact hnx
  have hle := AH.plus_le (hle rfl) ts
  simp only [hf, setE_nbE]
  rcases hc with ⟨rfl, hc⟩ | ⟨p, n, k, cs, rfl, rfl, hc⟩
  ·exact .inl ((hc.frame hle hnx).mono fun r h' ⟨h1, h2⟩ => ⟨by rw [h1], h2⟩)
  ·exact .inr ⟨p, n, k, cs, hc.frame hle, rfl, rfl⟩
 case sto n x w => obtain ⟨rfl, p, rfl, hq⟩ := e; rw [sto_E, hq]; exact ⟨rfl, rfl⟩
 case mup kk x k w => obtain ⟨rfl, p, rfl, hq⟩ := e; rw [mup_E, hq]; exact ⟨rfl, rfl⟩
 case app => obtain ⟨cs, rfl, hq⟩ := e; simp only [qpp_app hq]; refine ⟨?_, ?_⟩ <;> first | trivial | rfl
 case box => obtain ⟨cs, rfl, hq⟩ := e; simp only [hq]; refine ⟨?_, ?_⟩ <;> first | trivial | rfl
 case alloc => obtain ⟨cs, rfl, hq⟩ := e; simp only [hq]; refine ⟨?_, ?_⟩ <;> first | trivial | rfl
 case bsl => obtain ⟨cs, rfl, hq⟩ := e; simp only [hq]; refine ⟨?_, ?_⟩ <;> first | trivial | rfl
 case mks => obtain ⟨cs, rfl, hq⟩ := e; simp only [hq]; refine ⟨?_, ?_⟩ <;> first | trivial | rfl
 all_goals (obtain ⟨rfl, hq⟩ := e; simp only [hq]; refine ⟨?_, ?_⟩ <;> first | trivial | rfl)
theorem okC_ev {tok : Nat} {hb : AH} {g : Bool} {d : Option Nat} {o : AOp} {st : St} {h : AH} {v : AV} {nb : NB} (hle : o.cal = true → hb.le h) (hnx : h.nx = hb.nx) (e : okC P tok hb g o st h v nb) :
 evC P tok g d o st h fun st' h' => st' = put d v st ∧ h' = setE h nb := by
 have al : ∀ {op : AOp}, ((g = true ∧ ∃ v0 cs, op.al (AX.val (stS g st)) tok = some (v0, cs) ∧ v = .gd g v0 ∧ nb = some (tok, .cells true cs)) ∨ (g = false ∧ v = .gd g .un ∧ nb = none)) →
  ((g = true → match op.al (AX.val (stS g st)) tok with
    | some (v', cs) => put d (.gd g v') st = put d v st ∧ h.set tok (.cells true cs) = setE h nb
    | none => False) ∧ (g = false → put d (.gd g .un) st = put d v st ∧ h = setE h nb)) := by
  rintro op (⟨hg, v0, cs, hq, rfl, rfl⟩ | ⟨hg, rfl, rfl⟩)
  ·refine ⟨fun _ => ?_, fun h => by rw [hg] at h; cases h⟩
   rw [hq]; exact ⟨rfl, rfl⟩
  ·exact ⟨(fun h => by rw [hg] at h; cases h), fun _ => ⟨rfl, rfl⟩⟩
 cases o <;> simp only [evC, okC, AOp.isVal, AOp.isAl, if_true, if_false, Bool.false_eq_true] at e ⊢
 case call f args =>
  obtain ⟨rfl, v0, fid, fst, caps, rfl, hf, hc⟩ := e
  simp only [hf]
  exact ⟨v0, fun hg => (hc hg).frame (hle rfl) hnx, rfl, rfl⟩
 case box => exact al e
 case alloc => exact al e
 case bsl => exact al e
 case mks => exact al e
 all_goals (obtain ⟨rfl, v0, rfl, hq⟩ := e; exact ⟨v0, hq, rfl, rfl⟩)
theorem okG_ev {tok : Nat} {hb : AH} {o : AOper} {st : St} {h : AH} {v : AV} {nb : NB} (hle : o.op.cal = true → hb.le h) (hnx : h.nx = hb.nx) (e : okG P tok hb o st h v nb) :
 evG P tok o st h fun st' h' => st' = put o.d v st ∧ h' = setE h nb := by
 unfold okG at e
 unfold evG
 cases hg : o.g with
 | none => simp only [hg] at e ⊢; exact okA_ev hle hnx e
 | some sw =>
   obtain ⟨s, want⟩ := sw
   simp only [hg] at e ⊢
   cases hq : guardOf (st.get s) want with
   | none => simp only [hq] at e
   | some g => simp only [hq] at e ⊢; exact .inl (okC_ev hle hnx e)
def AX.slot : AX → Option Nat
 | .t n => some n
 | .c _ => none
def AOper.reads (o : AOper) : List Nat := o.op.xs.filterMap AX.slot ++ (match o.g with | some (s, _) => [s] | none => [])
theorem okA_move {tok : Nat} {hb : AH} {o : AOp} {st st' : St} {h h' : AH} {v : AV} {nb : NB} (hx : ∀ x ∈ o.xs, x.val st = x.val st')
 (hl : o.free = false → ∀ x t, x ∈ o.xs → (x.val st).tok = some t → ∀ c, h.m t = some c → h'.m t = some c) (e : okA P tok hb o st h v nb) : okA P tok hb o st' h' v nb := by
 cases hop : o <;> simp only [hop] at e hx hl <;> simp only [okA, AOp.isAl, if_true, if_false, Bool.false_eq_true] at e ⊢
 case call f args =>
  have hl := hl rfl
  obtain ⟨ts, fid, fst, caps, n0, rfl, hts, hf, hc⟩ := e
  refine ⟨ts, fid, fst, caps, n0, rfl, fun t ht => ?_, by rw [← hx f (by simp [AOp.xs])]; exact hf, ?_⟩
  ·obtain ⟨x, hx1, hx2⟩ := hts t ht
   exact ⟨x, hx1, by rw [← hx x (by simp [AOp.xs, hx1])]; exact hx2⟩
  ·rw [← List.map_congr_left (f := AX.val st) (g := AX.val st') fun y hy => hx y (by simp [AOp.xs, hy])]
   have hm : (hb.plus h ts).le (hb.plus h' ts) := AH.plus_mono fun t ht c hc => by
    obtain ⟨x, hx1, hx2⟩ := hts t ht
    exact hl x t (by simp [AOp.xs, hx1]) hx2 c hc
   rcases hc with ⟨h1, h2⟩ | ⟨p, n, k, cs, h1, h2, h3⟩
   ·exact .inl ⟨h1, h2.frame hm (by rw [AH.plus_nx, AH.plus_nx])⟩
   ·exact .inr ⟨p, n, k, cs, h1, h2, h3.frame hm⟩
 case sto n x w => obtain ⟨rfl, p, rfl, hq⟩ := e; exact ⟨rfl, p, rfl, by rw [← hx x (by simp [AOp.xs]), ← hx w (by simp [AOp.xs])]; exact stoE_move (fun t ht => hl rfl x t (by simp [AOp.xs]) ht) hq⟩
 case mup kk x k w => obtain ⟨rfl, p, rfl, hq⟩ := e; exact ⟨rfl, p, rfl, by rw [← hx x (by simp [AOp.xs]), ← hx w (by simp [AOp.xs]), ← hx k (by simp [AOp.xs])]; exact mupE_move (fun t ht => hl rfl x t (by simp [AOp.xs]) ht) hq⟩
 case app k b x y => obtain ⟨cs, rfl, hq⟩ := e; exact ⟨cs, rfl, by rw [← hx x (by simp [AOp.xs]), ← hx y (by simp [AOp.xs])]; exact qpp_move (fun t ht => hl rfl y t (by simp [AOp.xs]) ht) hq⟩
 case box => obtain ⟨cs, rfl, hq⟩ := e; exact ⟨cs, rfl, by rw [← al_congr hx]; exact hq⟩
 case alloc => obtain ⟨cs, rfl, hq⟩ := e; exact ⟨cs, rfl, by rw [← al_congr hx]; exact hq⟩
 case bsl => obtain ⟨cs, rfl, hq⟩ := e; exact ⟨cs, rfl, by rw [← al_congr hx]; exact hq⟩
 case mks => obtain ⟨cs, rfl, hq⟩ := e; exact ⟨cs, rfl, by rw [← al_congr hx]; exact hq⟩
 all_goals
  obtain ⟨rfl, hq⟩ := e
  first
   | exact ⟨rfl, ev_congr hx (hl rfl) hq⟩
   | exact ⟨rfl, ev_congr (h := h') hx (fun _ _ _ _ _ hc => hc) ((ev_free rfl _ _ _).trans hq)⟩
theorem okC_move {tok : Nat} {hb : AH} {g : Bool} {o : AOp} {st st' : St} {h h' : AH} {v : AV} {nb : NB} (hx : ∀ x ∈ o.xs, x.val (stS g st) = x.val (stS g st'))
 (hl : o.free = false → g = true → ∀ x t, x ∈ o.xs → (x.val (stS g st)).tok = some t → ∀ c, h.m t = some c → h'.m t = some c) (e : okC P tok hb g o st h v nb) : okC P tok hb g o st' h' v nb := by
 have al : ∀ {op : AOp}, (∀ x ∈ op.xs, x.val (stS g st) = x.val (stS g st')) → ((g = true ∧ ∃ v0 cs, op.al (AX.val (stS g st)) tok = some (v0, cs) ∧ v = .gd g v0 ∧ nb = some (tok, .cells true cs)) ∨ (g = false ∧ v = .gd g .un ∧ nb = none)) →
  ((g = true ∧ ∃ v0 cs, op.al (AX.val (stS g st')) tok = some (v0, cs) ∧ v = .gd g v0 ∧ nb = some (tok, .cells true cs)) ∨ (g = false ∧ v = .gd g .un ∧ nb = none)) := by
  rintro op hx (⟨hg, v0, cs, hq, r⟩ | r)
  ·exact .inl ⟨hg, v0, cs, by rw [← al_congr hx]; exact hq, r⟩
  ·exact .inr r
 cases hop : o <;> simp only [hop] at e hx hl <;> simp only [okC, AOp.isVal, if_true, if_false, Bool.false_eq_true] at e ⊢
 case call f args =>
  obtain ⟨rfl, v0, fid, fst, caps, rfl, hf, hc⟩ := e
  refine ⟨rfl, v0, fid, fst, caps, rfl, by rw [← hx f (by simp [AOp.xs])]; exact hf, ?_⟩
  rw [← List.map_congr_left (f := AX.val (stS g st)) (g := AX.val (stS g st')) fun y hy => hx y (by simp [AOp.xs, hy])]
  exact hc
 case box => exact al hx e
 case alloc => exact al hx e
 case bsl => exact al hx e
 case mks => exact al hx e
 all_goals
  obtain ⟨rfl, v0, rfl, hq⟩ := e
  first
   | exact ⟨rfl, v0, rfl, fun hg => ev_congr hx (hl rfl hg) (hq hg)⟩
   | exact ⟨rfl, v0, rfl, fun hg => ev_congr (h := h') hx (fun _ _ _ _ _ hc => hc) ((ev_free rfl _ _ _).trans (hq hg))⟩
theorem okG_move {tok : Nat} {hb : AH} {o : AOper} {st st' : St} {h h' : AH} {v : AV} {nb : NB} (hs : ∀ x ∈ o.reads, st.get x = st'.get x)
 (hl : o.op.free = false → ∀ x t, x ∈ o.op.xs → (x.val (stS true st)).tok = some t → ∀ c, h.m t = some c → h'.m t = some c) (e : okG P tok hb o st h v nb) : okG P tok hb o st' h' v nb := by
 have hx : ∀ x ∈ o.op.xs, x.val st = x.val st' := by
  intro x hx
  cases x with
  | t n => exact hs n (by unfold AOper.reads; exact List.mem_append_left _ (List.mem_filterMap.2 ⟨.t n, hx, rfl⟩))
  | c v => rfl
 have hxS : ∀ g, ∀ x ∈ o.op.xs, x.val (stS g st) = x.val (stS g st') := by
  intro g x hx'
  cases x with
  | t n => simp only [AX.val, stS_get]; rw [show st.get n = st'.get n from hx _ hx']
  | c v => rfl
 unfold okG at e ⊢
 cases hg : o.g with
 | none =>
   simp only [hg] at e ⊢
   refine okA_move hx (fun hf x t hx' hp => hl hf x t hx' ?_) e
   cases x with
   | t n =>
     simp only [AX.val] at hp ⊢
     rw [stS_get]
     generalize st.get n = v at hp ⊢
     cases v <;> simp only [AV.tok, reduceCtorEq] at hp ⊢ <;> exact hp
   | c v => exact hp
 | some sw =>
   obtain ⟨s, want⟩ := sw
   simp only [hg] at e ⊢
   have : st.get s = st'.get s := hs s (by unfold AOper.reads; simp [hg])
   rw [← this]
   cases hq : guardOf (st.get s) want with
   | none => simp only [hq] at e
   | some g =>
     simp only [hq] at e ⊢
     exact okC_move (hxS g) (fun hf hg' x t hx' hp => hl hf x t hx' (by subst hg'; exact hp)) e
theorem wrt_ne {cs : List AV} {o : Nat} {x : AV} {n : Option Nat} {cs' : List AV} (hn : n ≠ some 0) (e : wrt cs o x n = some cs') : cs' ≠ [] := by
 unfold wrt at e
 split at e
 ·split at e
  ·rename_i h; cases e; intro hh
   have := congrArg List.length hh
   simp at this; subst this; simp at h
  ·cases e
 ·rename_i n
  split at e
  ·rename_i h; cases e; intro hh
   have := congrArg List.length hh
   simp at this
   have h3 := h.2.2.1
   rw [this.2.1] at h3
   exact hn (by simp at h3; rw [← h3])
  ·cases e
theorem okG_nb {tok : Nat} {hb : AH} {o : AOper} {st : St} {h : AH} {v : AV} {t : Nat} {c : Blk} (e : okG P tok hb o st h v (some (t, c))) : (t = tok ∧ o.op.late = false) ∨ (o.op.late = true ∧ (∃ c0, h.m t = some c0) ∧ (o.op.lateOk = true → goodB c) ∧ ∃ x, o.op.xs.head? = some x ∧ (x.val (stS true st)).tok = some t) := by
 have mv : ∀ {x : AX} {t : Nat}, (x.val st).tok = some t → (x.val (stS true st)).tok = some t := by
  intro x t hp
  cases x with
  | t n =>
    simp only [AX.val] at hp ⊢
    rw [stS_get]
    generalize st.get n = v at hp ⊢
    cases v <;> simp only [AV.tok, reduceCtorEq] at hp ⊢ <;> exact hp
  | c v => exact hp
 unfold okG at e
 cases hg : o.g with
 | none =>
   simp only [hg] at e
   cases hop : o.op <;> simp only [hop, okA, AOp.isAl, if_true, if_false, Bool.false_eq_true, reduceCtorEq, false_and, Option.some.injEq, Prod.mk.injEq] at e
   case sto n x w =>
    obtain ⟨rfl, p, rfl, hq⟩ := e
    refine .inr ⟨rfl, ?_⟩
    unfold AH.stoE at hq
    split at hq
    ·rename_i t' o' hx
     split at hq
     ·rename_i cs hm
      simp only [Option.map_eq_some_iff, Prod.mk.injEq] at hq
      obtain ⟨cs', hw, rfl, rfl⟩ := hq
      exact ⟨⟨_, hm⟩, fun hlo => wrt_ne (by simpa [AOp.lateOk] using hlo) hw, x, rfl, mv (by rw [hx]; rfl)⟩
     ·cases hq
    ·cases hq
   case mup kk x k w =>
    obtain ⟨rfl, p, rfl, hq⟩ := e
    refine .inr ⟨rfl, ?_⟩
    unfold AH.mupE at hq
    split at hq
    ·rename_i t' hx
     split at hq
     ·rename_i es hm
      split at hq
      ·simp only [Option.map_eq_some_iff, Prod.mk.injEq] at hq
       obtain ⟨cs', hw, rfl, rfl⟩ := hq
       exact ⟨⟨_, hm⟩, fun _ => trivial, x, rfl, mv (by rw [hx]; rfl)⟩
      ·cases hq
     ·cases hq
    ·cases hq
   case call f args =>
    obtain ⟨ts, fid, fst, caps, n0, hn, _⟩ := e
    cases n0 with
    | none => cases hn
    | some cs => simp only [nbE, Option.map_some, Option.some.injEq, Prod.mk.injEq] at hn; exact .inl ⟨hn.1, rfl⟩
   all_goals (obtain ⟨cs, ⟨rfl, _⟩, _⟩ := e; exact .inl ⟨rfl, rfl⟩)
 | some sw =>
   obtain ⟨s, want⟩ := sw
   simp only [hg] at e
   cases hq : guardOf (st.get s) want with
   | none => simp only [hq] at e
   | some g =>
     simp only [hq] at e
     cases hop : o.op <;> simp only [hop, okC, AOp.isVal, if_true, if_false, Bool.false_eq_true, reduceCtorEq, false_and, and_false, or_false, Option.some.injEq, Prod.mk.injEq] at e
     all_goals (obtain ⟨_, v0, cs, _, _, rfl, _⟩ := e; exact .inl ⟨rfl, rfl⟩)
end
end Go.Am
set_option linter.unusedVariables false
set_option linter.unusedSimpArgs false
namespace Go.Am
def stD (aops : List AOper) (ρ : Nat → AV) (st0 : St) (D : Nat → Bool) : Nat → St
 | 0 => st0
 | k + 1 => if D k then put ((aops[k]?).bind (·.d)) (ρ k) (stD aops ρ st0 D k) else stD aops ρ st0 D k
def hD (β : Nat → NB) (hb : AH) (D : Nat → Bool) : Nat → AH
 | 0 => hb
 | k + 1 => if D k then setE (hD β hb D k) (β k) else hD β hb D k
def full : Nat → Bool := fun _ => true
theorem put_get (d : Option Nat) (v : AV) (st : St) (x : Nat) : (put d v st).get x = if d = some x then v else st.get x := by
 cases d with
 | none => simp [put]
 | some d =>
   simp only [put, St.get, Option.some.injEq]
   by_cases h : x = d
   ·subst h; simp
   ·rw [if_neg h, if_neg (fun e => h e.symm)]
section
variable {aops : List AOper} {ρ ρ' : Nat → AV} {β β' : Nat → NB} {st0 : St} {hb : AH} {base : Nat} {D D' : Nat → Bool}
theorem stD_congr : ∀ {k : Nat}, (∀ j, j < k → ρ j = ρ' j ∧ D j = D' j) → stD aops ρ st0 D k = stD aops ρ' st0 D' k
 | 0, _ => rfl
 | k + 1, h => by
   obtain ⟨h1, h2⟩ := h k (Nat.lt_succ_self _)
   simp only [stD, stD_congr (k := k) fun j hj => h j (by omega), h1, h2]
theorem hD_congr : ∀ {k : Nat}, (∀ j, j < k → β j = β' j ∧ D j = D' j) → hD β hb D k = hD β' hb D' k
 | 0, _ => rfl
 | k + 1, h => by
   obtain ⟨h1, h2⟩ := h k (Nat.lt_succ_self _)
   simp only [hD, hD_congr (k := k) fun j hj => h j (by omega), h1, h2]
theorem setE_nx (h : AH) (b : NB) : (setE h b).nx = h.nx := by cases b <;> rfl
theorem setE_m (h : AH) (b : NB) (t : Nat) : (setE h b).m t = match b with | some (t', c) => if t = t' then some c else h.m t | none => h.m t := by
 rcases b with _ | ⟨t', c⟩ <;> rfl
theorem setE_ne (h : AH) {b : NB} {t : Nat} (hn : ∀ c, b ≠ some (t, c)) : (setE h b).m t = h.m t := by
 rcases b with _ | ⟨t', c⟩
 ·rfl
 ·simp only [setE, AH.set]
  rw [if_neg (fun e => hn c (by rw [e]))]
theorem setE_same (h : AH) (t : Nat) (c : Blk) : (setE h (some (t, c))).m t = some c := by simp [setE, AH.set]
theorem hD_nx : ∀ (k : Nat), (hD β hb D k).nx = hb.nx
 | 0 => rfl
 | k + 1 => by simp only [hD]; split <;> simp [setE_nx, hD_nx k]
theorem head_ok {P : Program} {m : Nat} (hm : m ≤ aops.length) {K : St → AH → Prop} : ∀ (k i : Nat), i + k = m → ∀ (ρ0 : Nat → AV) (β0 : Nat → NB),
 evHead P base hb ((aops.drop i).take k) i (stD aops ρ0 st0 full i) (hD β0 hb full i) K →
 ∃ ρ β, (∀ j, j < i → ρ j = ρ0 j ∧ β j = β0 j) ∧ (∀ j ao, i ≤ j → j < m → aops[j]? = some ao → okG P (base + j) hb ao (stD aops ρ st0 full j) (hD β hb full j) (ρ j) (β j)) ∧
   K (stD aops ρ st0 full m) (hD β hb full m)
 | 0, i, hi, ρ0, β0, e => by
   simp only [List.take_zero, evHead] at e
   have : i = m := by omega
   subst this
   exact ⟨ρ0, β0, fun _ _ => ⟨rfl, rfl⟩, fun j ao h1 h2 => by omega, e⟩
 | k + 1, i, hi, ρ0, β0, e => by
   have hlt : i < aops.length := by omega
   rw [List.drop_eq_getElem_cons hlt, List.take_succ_cons] at e
   simp only [evHead] at e
   obtain ⟨v, nb, hok, hK⟩ := okG_of e
   let ρ1 : Nat → AV := fun j => if j = i then v else ρ0 j
   let β1 : Nat → NB := fun j => if j = i then nb else β0 j
   have hlow : ∀ j, j < i → ρ1 j = ρ0 j ∧ β1 j = β0 j := fun j hj => by
    have : j ≠ i := by omega
    simp [ρ1, β1, this]
   have e1 : stD aops ρ1 st0 full (i + 1) = put aops[i].d v (stD aops ρ0 st0 full i) := by
    simp only [stD, full, if_true, List.getElem?_eq_getElem hlt, Option.bind_some]
    rw [stD_congr (ρ := ρ1) (ρ' := ρ0) (D := full) (D' := full) fun j hj => ⟨(hlow j hj).1, rfl⟩]
    simp [ρ1]
   have e2 : hD β1 hb full (i + 1) = setE (hD β0 hb full i) nb := by
    simp only [hD, full, if_true]
    rw [hD_congr (β := β1) (β' := β0) (D := full) (D' := full) fun j hj => ⟨(hlow j hj).2, rfl⟩]
    simp [β1]
   obtain ⟨ρ, β, h1, h2, h3⟩ := head_ok hm k (i + 1) (by omega) ρ1 β1 (by rw [e1, e2]; exact hK)
   refine ⟨ρ, β, fun j hj => ?_, fun j ao hij hjm hao => ?_, h3⟩
   ·obtain ⟨q1, q2⟩ := h1 j (by omega)
    exact ⟨q1.trans (hlow j hj).1, q2.trans (hlow j hj).2⟩
   ·by_cases hji : j = i
    ·subst hji
     obtain ⟨q1, q2⟩ := h1 j (by omega)
     have hao' : aops[j] = ao := by rw [List.getElem?_eq_getElem hlt] at hao; simpa using hao
     rw [← hao', q1, q2]
     rw [stD_congr (ρ := ρ) (ρ' := ρ0) (D' := full) fun l hl => ⟨(h1 l (by omega)).1.trans (hlow l hl).1, rfl⟩,
      hD_congr (β := β) (β' := β0) (D' := full) fun l hl => ⟨(h1 l (by omega)).2.trans (hlow l hl).2, rfl⟩]
     simpa [ρ1, β1] using hok
    ·exact h2 j ao (by omega) hjm hao
end
def AOper.clash (x y : AOper) : Bool :=
 (match x.d with | some d => y.reads.contains d || y.d == some d | none => false) || (match y.d with | some d => x.reads.contains d | none => false)
def AX.noPtr : AX → Bool
 | .c (.p _ _) => false
 | .c (.sl _ _ n _) => n == 0
 | .c (.mp _) => false
 | _ => true
def AOper.lazy (o : AOper) : Bool :=
 match o.g, o.op, o.d with
 | none, .mv _, some _ => true
 | _, _, _ => false
def AOper.app1 (o : AOper) : Bool :=
 match o.g, o.op with
 | none, .app .. => true
 | _, _ => false
theorem AOper.lazy_is {o : AOper} (h : o.lazy = true) : ∃ d x, o = ⟨some d, none, .mv x⟩ := by
 obtain ⟨d, g, op⟩ := o
 cases g with
 | some _ => simp [AOper.lazy] at h
 | none =>
   cases d with
   | none => cases op <;> simp [AOper.lazy] at h
   | some d => cases op <;> simp [AOper.lazy] at h; exact ⟨d, _, rfl⟩
theorem AOper.app1_is {o : AOper} (h : o.app1 = true) : ∃ k b x y, o = ⟨o.d, none, .app k b x y⟩ := by
 obtain ⟨d, g, op⟩ := o
 cases g with
 | some _ => simp [AOper.app1] at h
 | none => cases op <;> simp [AOper.app1] at h; exact ⟨_, _, _, _, rfl⟩
structure HeadOK (ops : Array Oper) (aops : List AOper) (dep : Nat → Nat → Prop) (m : Nat) : Prop where
 c1 : ∀ (j : Nat) (o : Oper) (e : Edge), ops[j]? = some o → e ∈ o.after → Region.binds .any e = true → e.on < j
 c2 : ∀ (j : Nat) (o : Oper) (i : Nat), ops[j]? = some o → dep i j → ∃ e ∈ o.after, Region.binds .any e = true ∧ (e.on = i ∨ dep i e.on)
 c3 : ∀ (i j : Nat) (ai aj : AOper), i < j → aops[i]? = some ai → aops[j]? = some aj → ai.clash aj = true → dep i j
 c4 : ∀ i j, m ≤ j → j < ops.size → i < j → dep i j ∨ (j = m ∧ (∃ a, aops[i]? = some a ∧ a.lazy = true) ∧ ∃ b, aops[m]? = some b ∧ b.app1 = true)
 c5 : ∀ (i : Nat) (ai : AOper), aops[i]? = some ai → ∀ x ∈ ai.op.xs, x.noPtr = true
 c6 : ∀ (i k : Nat) (ai ak : AOper), i < m → k < m → aops[i]? = some ai → aops[k]? = some ak → ai.op.late = true → ak.op.late = true → i = k
 c7 : ∀ (i j : Nat) (ai aj : AOper), i < m → j < m → aops[i]? = some ai → aops[j]? = some aj → ai.op.late = true → ai.op.lateOk = true ∧ (aj.op.cal = false ∨ dep j i)
 c8 : ∀ (k i j : Nat) (ak ai aj : AOper), k < m → i ≤ j → j < m → aops[k]? = some ak → ak.op.late = true → aops[i]? = some ai → aops[j]? = some aj → ai.op.free = false → ∀ x, x ∈ ai.reads → aj.d ≠ some x
 c9 : ∀ (i j : Nat) (ai aj : AOper), i < j → j < m → aops[i]? = some ai → aops[j]? = some aj → ai.op.cal = true → aj.op.cal = true → dep i j
def tokNe (a b : AV) : Prop := a.tok = none ∨ b.tok = none ∨ a.tok ≠ b.tok
def sepG (st : St) (y : AX) : List AOper → Prop
 | [] => True
 | a :: r => (a.op.free = false → a.op.late = false → ∀ x ∈ a.op.xs, tokNe (y.val (stS true st)) (x.val (stS true st))) ∧ sepG st y r
def sepP (ops : List AOper) (st : St) : Prop := ∀ ak ∈ ops, ak.op.late = true → ∀ y, ak.op.xs.head? = some y → sepG st y ops
theorem sepG_at {st : St} {y : AX} {a : AOper} : ∀ {l : List AOper}, sepG st y l → a ∈ l → a.op.free = false → a.op.late = false → ∀ x ∈ a.op.xs, tokNe (y.val (stS true st)) (x.val (stS true st))
 | [], _, h, _, _, _, _ => by cases h
 | b :: r, hs, h, h1, h2, x, hx => by
   rcases List.mem_cons.1 h with rfl | h
   ·exact hs.1 h1 h2 x hx
   ·exact sepG_at hs.2 h h1 h2 x hx
section
variable {ops : Array Oper} {aops : List AOper} {dep : Nat → Nat → Prop} {m : Nat} {D : Nat → Bool}
def Closed (ops : Array Oper) (D : Nat → Bool) : Prop := ∀ (j : Nat) (o : Oper) (e : Edge), D j = true → ops[j]? = some o → e ∈ o.after → Region.binds .any e = true → D e.on = true
theorem closed_dep (H : HeadOK ops aops dep m) (hc : Closed ops D) (hin : ∀ j, D j = true → j < ops.size) : ∀ (j i : Nat), D j = true → dep i j → D i = true := by
 intro j
 induction j using Nat.strongRecOn with
 | _ j ih =>
   intro i hj hd
   have hlt := hin j hj
   have ho : ops[j]? = some ops[j] := by simp [hlt]
   obtain ⟨e, he, hb, hor⟩ := H.c2 j _ i ho hd
   have hde := hc j _ e hj ho he hb
   rcases hor with rfl | hor
   ·exact hde
   ·exact ih e.on (H.c1 j _ e ho he hb) i hde hor
theorem clash_iff {x y : AOper} {d : Nat} : (x.d = some d ∧ (d ∈ y.reads ∨ y.d = some d)) ∨ (y.d = some d ∧ d ∈ x.reads) → x.clash y = true := by
 unfold AOper.clash
 rintro (⟨h1, h2⟩ | ⟨h1, h2⟩)
 ·simp only [h1]
  rcases h2 with h2 | h2
  ·simp [h2]
  ·simp [h2]
 ·simp [h1, h2]
variable {ρ : Nat → AV} {β : Nat → NB} {st0 : St} {hb : AH} {base : Nat}
theorem slots_same (H : HeadOK ops aops dep m) (hlen : aops.length = ops.size) (hc : Closed ops D) (hin : ∀ j, D j = true → j < ops.size) {i : Nat} {ai : AOper} (hai : aops[i]? = some ai) (him : i < m) (hni : D i = false)
 (hdeps : ∀ k, dep k i → D k = true) {x : Nat} (hx : x ∈ ai.reads) : (stD aops ρ st0 D m).get x = (stD aops ρ st0 full i).get x := by
 have low : ∀ k, k ≤ i → (stD aops ρ st0 D k).get x = (stD aops ρ st0 full k).get x := by
  intro k
  induction k with
  | zero => intro _; rfl
  | succ k ih =>
    intro hk
    simp only [stD, full, if_true]
    by_cases hd : D k = true
    ·rw [if_pos hd, put_get, put_get, ih (by omega)]
    ·have hnk : ¬ ((aops[k]?.bind fun x => x.d) = some x) := by
      intro hdk
      cases hak : aops[k]? with
      | none => rw [hak] at hdk; cases hdk
      | some ak =>
        rw [hak] at hdk
        exact hd (hdeps k (H.c3 k i ak ai (by omega) hak hai (clash_iff (.inl ⟨hdk, .inl hx⟩))))
     rw [if_neg hd, put_get, if_neg hnk]
     exact ih (by omega)
 have high : ∀ k, i ≤ k → (stD aops ρ st0 D k).get x = (stD aops ρ st0 D i).get x := by
  intro k hk
  induction k with
  | zero => have : i = 0 := by omega
            subst this; rfl
  | succ k ih =>
    by_cases hik : i = k + 1
    ·subst hik; rfl
    ·simp only [stD]
     by_cases hd : D k = true
     ·rw [if_pos hd, put_get, if_neg ?_, ih (by omega)]
      intro hdk
      have hne : k ≠ i := fun e => by subst e; rw [hni] at hd; cases hd
      cases hak : aops[k]? with
      | none => rw [hak] at hdk; cases hdk
      | some ak =>
        rw [hak] at hdk
        have := closed_dep H hc hin k i hd (H.c3 i k ai ak (by omega) hai hak (clash_iff (.inr ⟨hdk, hx⟩)))
        rw [hni] at this; cases this
     ·rw [if_neg hd]; exact ih (by omega)
 rw [high m (by omega), low i (Nat.le_refl _)]
theorem stD_insert (H : HeadOK ops aops dep m) (hc : Closed ops D) (hin : ∀ j, D j = true → j < ops.size) {i : Nat} {ai : AOper} (hai : aops[i]? = some ai) (him : i < m) (hni : D i = false) (x : Nat) :
 (stD aops ρ st0 (fun j => D j || j == i) m).get x = (put ai.d (ρ i) (stD aops ρ st0 D m)).get x := by
 have key : ∀ k, i < k → (stD aops ρ st0 (fun j => D j || j == i) k).get x = (put ai.d (ρ i) (stD aops ρ st0 D k)).get x := by
  intro k hk
  induction k with
  | zero => omega
  | succ k ih =>
    by_cases hik : k = i
    ·subst hik
     simp only [stD, hni, Bool.false_or, beq_self_eq_true, if_true, hai, Option.bind_some, Bool.false_eq_true, if_false]
     have hlow : stD aops ρ st0 (fun j => D j || j == k) k = stD aops ρ st0 D k := stD_congr fun j hj => by
      have : (j == k) = false := by simp; omega
      exact ⟨rfl, by simp [this]⟩
     rw [hlow]
    ·have hb' : (k == i) = false := by simpa using hik
     simp only [stD, hb', Bool.or_false]
     by_cases hd : D k = true
     ·rw [if_pos hd, if_pos hd, put_get, ih (by omega), put_get, put_get, put_get]
      by_cases h1 : (aops[k]?.bind fun x => x.d) = some x
      ·rw [if_pos h1, if_pos h1]
       split
       ·rename_i h2
        cases hak : aops[k]? with
        | none => rw [hak] at h1; cases h1
        | some ak =>
          rw [hak] at h1
          have := closed_dep H hc hin k i hd (H.c3 i k ai ak (by omega) hai hak (clash_iff (.inl ⟨h2, .inr h1⟩)))
          rw [hni] at this; cases this
       ·rfl
      ·rw [if_neg h1, if_neg h1]
     ·rw [if_neg hd, if_neg hd]; exact ih (by omega)
 exact key m him
structure NbOK (aops : List AOper) (hb : AH) (base m : Nat) (ρ : Nat → AV) (st0 : St) (β : Nat → NB) : Prop where
 nb : ∀ j, j < m → ∀ t c, β j = some (t, c) → ∃ ao, aops[j]? = some ao ∧ ((t = base + j ∧ ao.op.late = false) ∨ (ao.op.late = true ∧ (∃ c0, (hD β hb full j).m t = some c0) ∧ (ao.op.lateOk = true → goodB c) ∧ ∃ y, ao.op.xs.head? = some y ∧ (y.val (stS true (stD aops ρ st0 full j))).tok = some t))
 sep : ∀ (i k : Nat) (ai ak : AOper), i < m → k < m → aops[i]? = some ai → aops[k]? = some ak → ai.op.free = false → ai.op.late = false → ak.op.late = true → ∀ y, ak.op.xs.head? = some y → ∀ x ∈ ai.op.xs, ∀ t, (y.val (stS true (stD aops ρ st0 full k))).tok = some t → (x.val (stS true (stD aops ρ st0 full i))).tok = some t → False
 none' : ∀ t, base ≤ t → hb.m t = none
variable (B : NbOK aops hb base m ρ st0 β)
include B
theorem full_lt : ∀ (i : Nat), i ≤ m → ∀ t c, (hD β hb full i).m t = some c → t < base + i
 | 0, _, t, c, h => by
   rcases Nat.lt_or_ge t base with q | q
   ·omega
   ·rw [show hD β hb full 0 = hb from rfl, B.none' t q] at h; cases h
 | i + 1, hi, t, c, h => by
   simp only [hD, full, if_true] at h
   by_cases hn : ∀ c, β i ≠ some (t, c)
   ·rw [setE_ne _ hn] at h
    have := full_lt i (by omega) t c h; omega
   ·obtain ⟨c1, h1⟩ := Classical.not_forall.1 hn
    obtain ⟨ao, _, h2⟩ := B.nb i (by omega) t c1 (Classical.not_not.1 h1)
    rcases h2 with ⟨h2, _⟩ | ⟨_, ⟨c0, h2⟩, _⟩
    ·omega
    ·have := full_lt i (by omega) t c0 h2; omega
omit B in
theorem hD_none {D : Nat → Bool} {t : Nat} : ∀ (k : Nat), (∀ j c, j < k → D j = true → β j ≠ some (t, c)) → (hD β hb D k).m t = hb.m t
 | 0, _ => rfl
 | k + 1, h => by
   simp only [hD]
   split
   ·rename_i hd
    rw [setE_ne _ fun c => h k c (by omega) hd]
    exact hD_none k fun j c hj => h j c (by omega)
   ·exact hD_none k fun j c hj => h j c (by omega)
theorem hD_le (hnl : ∀ j ao, j < m → aops[j]? = some ao → D j = true → ao.op.late = false) : hb.le (hD β hb D m) :=
 by
 refine ⟨fun t c ht => ?_, by rw [hD_nx]; exact Nat.le_refl _⟩
 rw [hD_none m fun j c hj hd hb' => ?_]
 ·exact ht
 ·obtain ⟨ao, hao, h2⟩ := B.nb j hj t c hb'
  rcases h2 with ⟨h2, _⟩ | ⟨h2, _⟩
  ·rw [B.none' t (by omega)] at ht; cases ht
  ·rw [hnl j ao hj hao hd] at h2; cases h2
theorem late_good (hgood : ∀ j ao, j < m → aops[j]? = some ao → ao.op.late = true → ao.op.lateOk = true) {j : Nat} {ao : AOper} {t : Nat} {c : Blk} (hj : j < m) (hao : aops[j]? = some ao) (hl : ao.op.late = true) (hbj : β j = some (t, c)) (hd : D j = true) :
 ∀ k, j < k → k ≤ m → ∃ c', (hD β hb D k).m t = some c' ∧ goodB c'
 | 0, h, _ => by omega
 | k + 1, hk, hm => by
   simp only [hD]
   have hjt : t < base + j := by
    obtain ⟨ao', hao', h2⟩ := B.nb j hj t c hbj
    rw [hao] at hao'; cases hao'
    rcases h2 with ⟨_, h2⟩ | ⟨_, ⟨c0, h2⟩, _⟩
    ·rw [hl] at h2; cases h2
    ·exact full_lt B j (by omega) t c0 h2
   have own : ∀ c1, β k = some (t, c1) → goodB c1 := by
    intro c1 h1
    obtain ⟨ao', hao', h2⟩ := B.nb k (by omega) t c1 h1
    rcases h2 with ⟨h2, _⟩ | ⟨h2, _, h3, _⟩
    ·omega
    ·exact h3 (hgood k ao' (by omega) hao' h2)
   by_cases hdk : D k = true
   ·rw [if_pos hdk]
    by_cases hn : ∀ c, β k ≠ some (t, c)
    ·rw [setE_ne _ hn]
     have : j ≠ k := fun e => by subst e; exact hn c hbj
     exact late_good hgood hj hao hl hbj hd k (by omega) (by omega)
    ·obtain ⟨c1, h1⟩ := Classical.not_forall.1 hn
     have h1 := Classical.not_not.1 h1
     rw [h1, setE_same]
     exact ⟨c1, rfl, own c1 h1⟩
   ·rw [if_neg hdk]
    have : j ≠ k := fun e => by subst e; exact hdk hd
    exact late_good hgood hj hao hl hbj hd k (by omega) (by omega)
theorem read_same (H : HeadOK ops aops dep m) (hc : Closed ops D) (hin : ∀ j, D j = true → j < ops.size) {i : Nat} {ai : AOper} (hai : aops[i]? = some ai) (him : i < m) (hni : D i = false) (hfree : ai.op.free = false)
 (hdeps : ∀ k, dep k i → D k = true) {t : Nat} {x : AX} (hx : x ∈ ai.op.xs) (hxt : (x.val (stS true (stD aops ρ st0 full i))).tok = some t) (hnew : ∀ j, j < m → D j = false → t ≠ base + j) {c : Blk} (hr : (hD β hb full i).m t = some c) : (hD β hb D m).m t = some c := by
 have hti := full_lt B i (by omega) t c hr
 have late2 : ∀ k ao, k < m → k ≠ i → aops[k]? = some ao → ao.op.late = true → ∀ y, ao.op.xs.head? = some y → (y.val (stS true (stD aops ρ st0 full k))).tok = some t → False := by
  intro k ao hk hne hao hl y hy1 hy2
  have hnl : ai.op.late = false := by
   cases h : ai.op.late with
   | false => rfl
   | true => exact absurd (H.c6 i k ai ao him hk hai hao h hl).symm hne
  exact B.sep i k ai ao him hk hai hao hfree hnl hl y hy1 x hx t hy2 hxt
 have low : ∀ k, k ≤ i → (hD β hb D k).m t = (hD β hb full k).m t := by
  intro k
  induction k with
  | zero => intro _; rfl
  | succ k ih =>
    intro hk
    simp only [hD, full, if_true]
    by_cases hd : D k = true
    ·rw [if_pos hd, setE_m, setE_m, ih (by omega)]
    ·rw [if_neg hd, ih (by omega), setE_ne]
     intro c' hb'
     obtain ⟨ao, hao, h2⟩ := B.nb k (by omega) t c' hb'
     rcases h2 with ⟨h2, _⟩ | ⟨h2, _, _, y, hy1, hy2⟩
     ·exact hnew k (by omega) (by simpa using hd) h2
     ·exact late2 k ao (by omega) (by omega) hao h2 y hy1 hy2
 have high : ∀ k, i ≤ k → k ≤ m → (hD β hb D k).m t = (hD β hb D i).m t := by
  intro k hk
  induction k with
  | zero => intro _; have : i = 0 := by omega
            subst this; rfl
  | succ k ih =>
    intro hkm
    by_cases hik : i = k + 1
    ·subst hik; rfl
    ·simp only [hD]
     by_cases hd : D k = true
     ·rw [if_pos hd, setE_ne, ih (by omega) (by omega)]
      intro c' hb'
      have hne : k ≠ i := fun e => by subst e; rw [hni] at hd; cases hd
      obtain ⟨ao, hao, h2⟩ := B.nb k (by omega) t c' hb'
      rcases h2 with ⟨h2, _⟩ | ⟨h2, _, _, y, hy1, hy2⟩
      ·omega
      ·exact late2 k ao (by omega) hne hao h2 y hy1 hy2
     ·rw [if_neg hd]; exact ih (by omega) (by omega)
 rw [high m (by omega) (Nat.le_refl _), low i (Nat.le_refl _)]; exact hr
theorem hD_insert (H : HeadOK ops aops dep m) (hc : Closed ops D) (hin : ∀ j, D j = true → j < ops.size) {i : Nat} {ai : AOper} (hai : aops[i]? = some ai) (him : i < m) (hni : D i = false)
 (hreal : ∀ j ao t c, j < m → D j = true → aops[j]? = some ao → ao.op.late = true → β j = some (t, c) → t ≠ base + i) : hD β hb (fun j => D j || j == i) m = setE (hD β hb D m) (β i) := by
 have hx : ∀ (a b : AH), (∀ t, a.m t = b.m t) → a.nx = b.nx → a = b := by
  intro a b h1 h2
  cases a; cases b
  simp only [AH.mk.injEq]
  exact ⟨funext h1, h2⟩
 refine hx _ _ (fun t => ?_) (by rw [hD_nx, setE_nx, hD_nx])
 have hlow : hD β hb (fun j => D j || j == i) i = hD β hb D i := hD_congr fun j hj => by
  have : (j == i) = false := by simp; omega
  exact ⟨rfl, by simp [this]⟩
 have key : ∀ k, i < k → k ≤ m → (hD β hb (fun j => D j || j == i) k).m t = (setE (hD β hb D k) (β i)).m t := by
  intro k hk
  induction k with
  | zero => omega
  | succ k ih =>
    intro hkm
    by_cases hik : k = i
    ·subst hik
     simp only [hD, hni, Bool.false_or, beq_self_eq_true, if_true, Bool.false_eq_true, if_false]
     rw [hlow]
    ·have hb' : (k == i) = false := by simpa using hik
     simp only [hD, hb', Bool.or_false]
     by_cases hd : D k = true
     ·rw [if_pos hd, if_pos hd]
      have ih := ih (by omega) (by omega)
      cases hbi : β i with
      | none => rw [hbi] at ih; rw [setE_m, ih]; simp only [setE]; rw [← setE_m]; rfl
      | some p =>
        obtain ⟨t', c'⟩ := p
        rw [hbi] at ih
        by_cases ht : t = t'
        ·subst ht
         rw [setE_same] at ih ⊢
         rw [setE_ne, ih]
         intro c2 h2
         obtain ⟨ao, hao, q⟩ := B.nb k (by omega) t c2 h2
         obtain ⟨ai', hai', q'⟩ := B.nb i him t c' hbi
         rw [hai] at hai'; cases hai'
         rcases q' with ⟨q', hl'⟩ | ⟨q', ⟨c0, q2⟩, _⟩
         ·rcases q with ⟨q, _⟩ | ⟨q, _⟩
          ·omega
          ·exact hreal k ao t c2 (by omega) hd hao q h2 q'
         ·have := full_lt B i (by omega) t c0 q2
          rcases q with ⟨q, _⟩ | ⟨q, _⟩
          ·omega
          ·exact hik (H.c6 k i ao ai (by omega) him hao hai q q')
        ·have e1 : ∀ h : AH, (setE h (some (t', c'))).m t = h.m t := fun h => setE_ne _ fun c e => by cases e; exact ht rfl
         rw [e1] at ih ⊢
         rw [setE_m, setE_m, ih]
     ·rw [if_neg hd, if_neg hd]; exact ih (by omega) (by omega)
 exact key m him (Nat.le_refl _)
end
end Go.Am
set_option linter.unusedVariables false
set_option linter.unusedSimpArgs false
namespace Go.Am
variable {dfs : List Deferred}
def cnt (D : Nat → Bool) : Nat → Nat
 | 0 => 0
 | k + 1 => cnt D k + (if D k then 1 else 0)
theorem cnt_le (D : Nat → Bool) : ∀ k, cnt D k ≤ k
 | 0 => Nat.le_refl _
 | k + 1 => by have := cnt_le D k; simp only [cnt]; split <;> omega
theorem cnt_all {D : Nat → Bool} : ∀ {k : Nat}, cnt D k = k → ∀ j, j < k → D j = true
 | 0, _, j, hj => by omega
 | k + 1, h, j, hj => by
   have := cnt_le D k
   simp only [cnt] at h
   by_cases hd : D k = true
   ·rw [if_pos hd] at h
    by_cases hjk : j = k
    ·subst hjk; exact hd
    ·exact cnt_all (k := k) (by omega) j (by omega)
   ·rw [if_neg hd] at h; omega
theorem cnt_congr {D D' : Nat → Bool} : ∀ {k : Nat}, (∀ j, j < k → D j = D' j) → cnt D k = cnt D' k
 | 0, _ => rfl
 | k + 1, h => by simp only [cnt, cnt_congr (k := k) fun j hj => h j (by omega), h k (Nat.lt_succ_self _)]
theorem cnt_insert {D : Nat → Bool} {i : Nat} (hi : D i = false) : ∀ {k : Nat}, i < k → cnt (fun j => D j || j == i) k = cnt D k + 1
 | 0, h => by omega
 | k + 1, h => by
   simp only [cnt]
   by_cases hik : i = k
   ·subst hik
    have : cnt (fun j => D j || j == i) i = cnt D i := cnt_congr fun j hj => by
     have : (j == i) = false := by simp; omega
     simp [this]
    rw [this]
    simp [hi]
   ·have hb : (k == i) = false := by simp; omega
    rw [cnt_insert hi (by omega)]
    simp only [hb, Bool.or_false]
    omega
section
variable {P : Program} {N : Nat} {Q : Exit → St → AH → Prop} {st0 : St} {h0 hb : AH} {w0 : World} {ι0 : Inj} {base : Nat} {ops : Array Oper} {aops : List AOper} {dep : Nat → Nat → Prop} {m : Nat}
theorem opersOf_spec (hof : opersOf P N ops = some aops) : aops.length = ops.size ∧ ∀ (i : Nat) (o : Oper), ops[i]? = some o → ∃ ao, aops[i]? = some ao ∧ AOper.of P ops o = some ao ∧ ao.d = o.dst ∧ (∀ x, o.dst = some x → x < N) ∧ ∀ s b, ao.g = some (s, b) → s < N := by
 unfold opersOf at hof
 simp only [Option.bind_eq_bind, Option.bind_eq_some_iff] at hof
 obtain ⟨l, hl, hof⟩ := hof
 split at hof
 ·rename_i hall
  simp only [Option.some.injEq] at hof
  subst hof
  refine ⟨by simpa using mapM_length hl, fun i o ho => ?_⟩
  have gen : ∀ (xs : List Oper) (ys : List AOper), xs.mapM (AOper.of P ops) = some ys → ∀ (i : Nat) (o : Oper), xs[i]? = some o → ∃ ao, ys[i]? = some ao ∧ AOper.of P ops o = some ao := by
   intro xs
   induction xs with
   | nil => intro ys h i o ho; simp at ho
   | cons x xs ih =>
     intro ys h i o ho
     simp only [List.mapM_cons, Option.pure_def, Option.bind_eq_bind, Option.bind_eq_some_iff, Option.some.injEq] at h
     obtain ⟨y, hy, zs, hzs, rfl⟩ := h
     cases i with
     | zero => simp at ho; subst ho; exact ⟨y, rfl, hy⟩
     | succ i => simpa using ih zs hzs i o (by simpa using ho)
  obtain ⟨ao, hao, hof⟩ := gen _ _ hl i o (by simpa using ho)
  have hfit := List.all_eq_true.1 hall ao (List.mem_of_getElem? hao)
  unfold AOper.fits at hfit
  have hd : ao.d = o.dst := by
   unfold AOper.of at hof
   simp only [Option.bind_eq_bind, Option.bind_eq_some_iff] at hof
   obtain ⟨op, _, hof⟩ := hof
   split at hof
   ·cases hof; rfl
   ·split at hof
    ·cases hof; rfl
    ·cases hof
  refine ⟨ao, hao, hof, hd, fun x hx => ?_, fun s b hs => ?_⟩
  ·rw [← hd] at hx; rw [hx] at hfit; simp at hfit; exact hfit.1
  ·rw [hs] at hfit; simp at hfit; exact hfit.2
 ·cases hof
def lst (listed : Array Bool) : Nat → Bool := fun j => listed.getD j false
theorem lst_set {listed : Array Bool} {i : Nat} (hi : i < listed.size) : lst (listed.setIfInBounds i true) = fun j => lst listed j || j == i := by
 funext j
 unfold lst
 simp only [Array.getD_eq_getD_getElem?]
 by_cases h : j = i
 ·subst h; simp [Array.getElem?_setIfInBounds_self_of_lt hi]
 ·rw [Array.getElem?_setIfInBounds_ne (by omega)]
  have : (j == i) = false := by simpa using h
  simp [this]
theorem ready_spec {listed : Array Bool} (hs : listed.size = ops.size) {i : Nat} (hi : i ∈ Region.ready .any ops listed) : i < ops.size ∧ lst listed i = false ∧ ∀ o e, ops[i]? = some o → e ∈ o.after → Region.binds .any e = true → lst listed e.on = true := by
 obtain ⟨h1, o, ho, h2⟩ := mem_ready.1 hi
 have hlt : i < ops.size := (Array.getElem?_eq_some_iff.1 ho).1
 refine ⟨hlt, ?_, fun o' e ho' he hb => ?_⟩
 ·unfold lst
  have hlt' : i < listed.size := by omega
  rw [Array.getD_eq_getD_getElem?, Array.getElem?_eq_getElem hlt'] at h1 ⊢
  simpa using h1
 ·rw [ho] at ho'; cases ho'; exact h2 e he hb
theorem ready_of {listed : Array Bool} (hs : listed.size = ops.size) {i : Nat} (hi : i < ops.size) (hn : lst listed i = false) (hd : ∀ o e, ops[i]? = some o → e ∈ o.after → Region.binds .any e = true → lst listed e.on = true) : i ∈ Region.ready .any ops listed := by
 refine mem_ready.2 ⟨?_, ops[i], by simp [hi], fun e he hb => hd _ e (by simp [hi]) he hb⟩
 unfold lst at hn
 have hlt' : i < listed.size := by omega
 rw [Array.getD_eq_getD_getElem?, Array.getElem?_eq_getElem hlt'] at hn ⊢
 simpa using hn
theorem ready_nil (H : HeadOK ops aops dep m) {listed : Array Bool} (hs : listed.size = ops.size) (hr : Region.ready .any ops listed = []) : ∀ j, j < ops.size → lst listed j = true := by
 intro j
 induction j using Nat.strongRecOn with
 | _ j ih =>
   intro hj
   cases hq : lst listed j with
   | true => rfl
   | false =>
     have : j ∈ Region.ready .any ops listed := ready_of hs hj hq fun o e ho he hb => ih e.on (H.c1 j o e ho he hb) (by have := H.c1 j o e ho he hb; omega)
     rw [hr] at this; cases this
theorem lst_lt {listed : Array Bool} (hs : listed.size = ops.size) {j : Nat} (h : lst listed j = true) : j < ops.size := by
 unfold lst at h
 rw [Array.getD_eq_getD_getElem?] at h
 by_cases hj : j < listed.size
 ·omega
 ·rw [Array.getElem?_eq_none (by omega)] at h; simp at h
variable {QQ : Exit → Act → World → Prop} {K : St → AH → Prop}
theorem tail_wpAny (H : HeadOK ops aops dep m) (hof : opersOf P N ops = some aops)
 (hK : ∀ st h ι a w, K st h → ARel N dfs ι st a → WRel ι h w → Ext ι0 h0 w0 ι h w → QQ .normal a w) :
 ∀ (fuel : Nat) (listed : Array Bool) (a : Act) (w : World) (i : Nat) (st : St) (h : AH) (ι : Inj), i + fuel = ops.size → m ≤ i → listed.size = ops.size → (∀ j, lst listed j = true ↔ j < i) →
   Inv N dfs ι0 h0 w0 base ops.size (fun j => i ≤ j) st h a w ι → evOps P base (aops.drop i) i st h K → wpAny P .any ops QQ fuel listed a w := by
 obtain ⟨hlen, hget⟩ := opersOf_spec hof
 intro fuel
 induction fuel with
 | zero =>
   intro listed a w i st h ι hi hm hs hl I e
   have hnil : Region.ready .any ops listed = [] := by
    cases hr : Region.ready .any ops listed with
    | nil => rfl
    | cons x xs =>
      obtain ⟨h1, h2, _⟩ := ready_spec hs (i := x) (by rw [hr]; simp)
      have := (hl x).2 (by omega)
      rw [h2] at this; cases this
   rw [List.drop_eq_nil_of_le (by omega)] at e
   exact ⟨hnil, hK st h ι a w e I.ar I.wr I.ex⟩
 | succ fuel ih =>
   intro listed a w i st h ι hi hm hs hl I e
   refine ⟨fun hr => ?_, fun j hj => ?_⟩
   ·have := (hl i).1 (ready_nil H hs hr i (by omega)); omega
   ·obtain ⟨h1, h2, h3⟩ := ready_spec hs hj
    have hij : i ≤ j := by
     rcases Nat.lt_or_ge j i with hq | hq
     ·rw [(hl j).2 hq] at h2; cases h2
     ·exact hq
    have hji : j = i := by
     rcases Nat.eq_or_lt_of_le hij with hq | hq
     ·exact hq.symm
     ·exfalso
      have hdep := (H.c4 i j (by omega) h1 hq).resolve_right fun q => by omega
      obtain ⟨e', he', hb', hor⟩ := H.c2 j ops[j] i (by simp [h1]) hdep
      have hle := h3 _ e' (by simp [h1]) he' hb'
      have hc : Closed ops (lst listed) := fun a b c hd hb hc he => (hl _).2 (by
       have q1 := (hl a).1 hd
       have q2 := H.c1 a b c hb hc he
       omega)
      rcases hor with hor | hor
      ·rw [hor] at hle; have := (hl i).1 hle; omega
      ·have := closed_dep H hc (fun j hj => lst_lt hs hj) _ _ hle hor
       have := (hl i).1 this; omega
    subst hji
    obtain ⟨ao, hao, hofo, hd, hdN, hgN⟩ := hget j ops[j] (by simp [h1])
    have hil : j < aops.length := by omega
    rw [List.drop_eq_getElem_cons hil] at e
    have : aops[j] = ao := by rw [List.getElem?_eq_getElem hil] at hao; simpa using hao
    rw [this] at e
    simp only [evOps] at e
    refine wpOp_mono ?_ (evG_wpOp (o := ops[j]) (by simp [h1]) hofo hdN hgN h1 (Nat.le_refl j) I e)
    rintro a' w' ⟨st', h', ι', k, I'⟩
    refine ih _ a' w' (j + 1) st' h' ι' (by omega) (by omega) (by simpa using hs) (fun l => ?_) ⟨I'.ar, I'.wr, I'.ex, fun l hl' hf => I'.fr l hl' ⟨by omega, by omega⟩, I'.nx, I'.b0, I'.b1⟩ k
    rw [lst_set (by omega)]
    simp only [Bool.or_eq_true, beq_iff_eq, hl l]
    omega
theorem lazy_wpAny (H : HeadOK ops aops dep m) (hof : opersOf P N ops = some aops) (hms : m < ops.size)
 (hK : ∀ st h ι a w, K st h → ARel N dfs ι st a → WRel ι h w → Ext ι0 h0 w0 ι h w → QQ .normal a w) {ρ : Nat → AV} {β : Nat → NB}
 (hok : ∀ j ao, j < m → aops[j]? = some ao → okG P (base + j) hb ao (stD aops ρ st0 full j) (hD β hb full j) (ρ j) (β j)) {bm : AOper} (hbm : aops[m]? = some bm) {r : AV} {h : AH}
 (htail : evOps P base (aops.drop (m + 1)) (m + 1) (put bm.d r (stD aops ρ st0 full m)) h K) :
 ∀ (fuel : Nat) (listed : Array Bool) (a : Act) (w : World) (ι : Inj), cnt (lst listed) ops.size + fuel = ops.size → listed.size = ops.size → Closed ops (lst listed) → lst listed m = true → (∀ j, lst listed j = true → j ≤ m) →
   Inv N dfs ι0 h0 w0 base ops.size (fun j => lst listed j = false) (put bm.d r (stD aops ρ st0 (lst listed) m)) h a w ι → wpAny P .any ops QQ fuel listed a w := by
 obtain ⟨hlen, hget⟩ := opersOf_spec hof
 intro fuel
 -- all of them are done
 have whole : ∀ (fuel : Nat) (listed : Array Bool) (a : Act) (w : World) (ι : Inj), cnt (lst listed) ops.size + fuel = ops.size → listed.size = ops.size → lst listed m = true → (∀ j, lst listed j = true → j ≤ m) →
  Inv N dfs ι0 h0 w0 base ops.size (fun j => lst listed j = false) (put bm.d r (stD aops ρ st0 (lst listed) m)) h a w ι → (∀ k, k < m → lst listed k = true) → wpAny P .any ops QQ fuel listed a w := by
  intro fuel listed a w ι hc hs hm hlm I hall
  have hiff : ∀ j, lst listed j = true ↔ j < m + 1 := fun j => ⟨fun q => by have := hlm j q; omega, fun q => by
   by_cases e : j = m
   ·subst e; exact hm
   ·exact hall j (by omega)⟩
  have hcnt : cnt (lst listed) ops.size = m + 1 := by
   have : ∀ k, k ≤ ops.size → cnt (lst listed) k = min k (m + 1) := by
    intro k
    induction k with
    | zero => intro _; simp [cnt]
    | succ k ihk =>
      intro hk
      simp only [cnt, ihk (by omega)]
      by_cases hki : k < m + 1
      ·rw [if_pos ((hiff k).2 hki)]; omega
      ·rw [if_neg (fun hq => hki ((hiff k).1 hq))]; omega
   have := this ops.size (Nat.le_refl _)
   omega
  have e1 : stD aops ρ st0 (lst listed) m = stD aops ρ st0 full m := stD_congr fun j hj => ⟨rfl, hall j hj⟩
  rw [e1] at I
  exact tail_wpAny H hof hK fuel listed a w (m + 1) _ _ ι (by omega) (by omega) hs hiff ⟨I.ar, I.wr, I.ex, fun j hj hf => I.fr j hj (by
   cases hq : lst listed j with
   | false => rfl
   | true => have := (hiff j).1 hq; omega), I.nx, I.b0, I.b1⟩ htail
 induction fuel with
 | zero =>
   intro listed a w ι hc hs hcl hm hlm I
   have hall := cnt_all (D := lst listed) (k := ops.size) (by omega)
   exact whole 0 listed a w ι hc hs hm hlm I fun k hk => hall k (by omega)
 | succ fuel ih =>
   intro listed a w ι hc hs hcl hm hlm I
   by_cases hall : ∀ k, k < m → lst listed k = true
   ·exact whole (fuel + 1) listed a w ι hc hs hm hlm I hall
   have hin : ∀ j, lst listed j = true → j < ops.size := fun j hj => lst_lt hs hj
   refine ⟨fun hr => ?_, fun i hi => ?_⟩
   ·exact absurd (fun k hk => ready_nil H hs hr k (by omega)) hall
   ·obtain ⟨h1, h2, h3⟩ := ready_spec hs hi
    have hdeps : ∀ k, dep k i → lst listed k = true := by
     intro k hk
     obtain ⟨e', he', hb', hor⟩ := H.c2 i ops[i] k (by simp [h1]) hk
     have hle := h3 _ e' (by simp [h1]) he' hb'
     rcases hor with hor | hor
     ·rw [← hor]; exact hle
     ·exact closed_dep H hcl hin _ _ hle hor
    have him : i < m := by
     refine Classical.byContradiction fun him => hall fun k hk => ?_
     have hne : i ≠ m := fun e => by subst e; rw [hm] at h2; cases h2
     exact hdeps k ((H.c4 k i (by omega) h1 (by omega)).resolve_right fun q => hne q.1)
    have ndep : ¬ dep i m := fun q => by
     have := closed_dep H hcl hin m i hm q
     rw [h2] at this; cases this
    obtain ⟨ao, hao, hofo, hd, hdN, hgN⟩ := hget i ops[i] (by simp [h1])
    obtain ⟨-, ⟨ao', hao', hlz⟩, -⟩ := (H.c4 i m (Nat.le_refl _) hms him).resolve_left ndep
    rw [hao] at hao'
    cases hao'
    obtain ⟨dd, x, hmv⟩ := AOper.lazy_is hlz
    have ncl : ∀ d, ¬ ((ao.d = some d ∧ (d ∈ bm.reads ∨ bm.d = some d)) ∨ (bm.d = some d ∧ d ∈ ao.reads)) := fun d q => ndep (H.c3 i m ao bm him hao hbm (clash_iff q))
    have hv : ρ i = x.val (stD aops ρ st0 full i) := by
     have := hok i ao him hao
     rw [hmv] at this
     simp only [okG, okA, AOp.isAl, Bool.false_eq_true, if_false] at this
     have := this.2
     simpa [AOp.ev] using this.symm
    have hx : x.val (put bm.d r (stD aops ρ st0 (lst listed) m)) = ρ i := by
     rw [hv]
     cases x with
     | c v => rfl
     | t n =>
       have hn : n ∈ ao.reads := by rw [hmv]; simp [AOper.reads, AOp.xs, AX.slot]
       simp only [AX.val]
       rw [put_get, if_neg fun q => ncl n (.inr ⟨q, hn⟩)]
       exact slots_same H hlen hcl hin hao him h2 hdeps hn
    have hev : evG P (base + i) ao (put bm.d r (stD aops ρ st0 (lst listed) m)) h fun st' h' => st' = put ao.d (ρ i) (put bm.d r (stD aops ρ st0 (lst listed) m)) ∧ h' = h := by
     rw [hmv]
     simp only [evG, evA, AOp.isAl, Bool.false_eq_true, if_false, AOp.ev]
     simp only [hx, and_self]
    refine wpOp_mono ?_ (evG_wpOp (o := ops[i]) (by simp [h1]) hofo hdN hgN h1 h2 I hev)
    rintro a' w' ⟨st', h', ι', ⟨rfl, rfl⟩, I'⟩
    have hset := lst_set (listed := listed) (i := i) (by omega)
    refine ih (listed.setIfInBounds i true) a' w' ι' ?_ (by simpa using hs) ?_ ?_ ?_ ?_
    ·rw [hset, cnt_insert h2 h1]; omega
    ·rw [hset]
     intro j o e hj ho he hb'
     simp only [Bool.or_eq_true, beq_iff_eq] at hj ⊢
     rcases hj with hj | rfl
     ·exact .inl (hcl j o e hj ho he hb')
     ·exact .inl (h3 o e ho he hb')
    ·rw [hset]; simp [hm]
    ·rw [hset]
     intro j hj
     simp only [Bool.or_eq_true, beq_iff_eq] at hj
     rcases hj with hj | rfl
     ·exact hlm j hj
     ·omega
    ·rw [hset]
     refine ⟨⟨I'.ar.size, I'.ar.defs, I'.ar.tab, fun y => ?_⟩, I'.wr, I'.ex, fun j hj hf => ?_, I'.nx, I'.b0, I'.b1⟩
     ·have := I'.ar.slot y
      rw [put_get, put_get] at this
      rw [put_get, stD_insert H hcl hin hao him h2, put_get]
      by_cases q1 : bm.d = some y
      ·rw [if_pos q1] at this ⊢
       rw [if_neg fun q => ncl y (.inl ⟨q, .inr q1⟩)] at this
       exact this
      ·rw [if_neg q1] at this ⊢
       exact this
     ·simp only [Bool.or_eq_false_iff, beq_eq_false_iff_ne] at hf
      exact I'.fr j hj ⟨hf.1, hf.2⟩
theorem head_wpAny (H : HeadOK ops aops dep m) (hof : opersOf P N ops = some aops) (hmn : m ≤ ops.size)
 (hK : ∀ st h ι a w, K st h → ARel N dfs ι st a → WRel ι h w → Ext ι0 h0 w0 ι h w → QQ .normal a w) {ρ : Nat → AV} {β : Nat → NB} (hnone : ∀ t, base ≤ t → hb.m t = none)
 (hok : ∀ j ao, j < m → aops[j]? = some ao → okG P (base + j) hb ao (stD aops ρ st0 full j) (hD β hb full j) (ρ j) (β j))
 (hsep : ∀ (i k : Nat) (ai ak : AOper), i < m → k < m → aops[i]? = some ai → aops[k]? = some ak → ai.op.free = false → ai.op.late = false → ak.op.late = true → ∀ y, ak.op.xs.head? = some y → ∀ x ∈ ai.op.xs, ∀ t, (y.val (stS true (stD aops ρ st0 full k))).tok = some t → (x.val (stS true (stD aops ρ st0 full i))).tok = some t → False)
 (htail : evOps P base (aops.drop m) m (stD aops ρ st0 full m) (hD β hb full m) K) :
 ∀ (fuel : Nat) (listed : Array Bool) (a : Act) (w : World) (ι : Inj), cnt (lst listed) ops.size + fuel = ops.size → listed.size = ops.size → Closed ops (lst listed) → (∀ j, lst listed j = true → j < m) →
   Inv N dfs ι0 h0 w0 base ops.size (fun j => lst listed j = false) (stD aops ρ st0 (lst listed) m) (hD β hb (lst listed) m) a w ι → wpAny P .any ops QQ fuel listed a w := by
 obtain ⟨hlen, hget⟩ := opersOf_spec hof
 have B : NbOK aops hb base m ρ st0 β := ⟨fun j hj t c hbj => by
  have hja : aops[j]? = some aops[j] := List.getElem?_eq_getElem (by omega)
  have := hok j _ hj hja
  rw [hbj] at this
  rcases okG_nb this with q | ⟨q1, q2, q3, q4⟩
  ·exact ⟨_, hja, .inl q⟩
  ·exact ⟨_, hja, .inr ⟨q1, q2, q3, q4⟩⟩, hsep, hnone⟩
 intro fuel
 induction fuel with
 | zero =>
   intro listed a w ι hc hs hcl hlm I
   have hall := cnt_all (D := lst listed) (k := ops.size) (by omega)
   have hms : m = ops.size := by
    rcases Nat.eq_or_lt_of_le hmn with hq | hq
    ·exact hq
    ·have := hlm m (hall m hq); omega
   refine tail_wpAny H hof hK 0 listed a w m (stD aops ρ st0 full m) (hD β hb full m) ι (by omega) (Nat.le_refl _) hs (fun j => ⟨hlm j, fun hj => hall j (by omega)⟩) ?_ htail
   have e1 : stD aops ρ st0 (lst listed) m = stD aops ρ st0 full m := stD_congr fun j hj => ⟨rfl, hall j (by omega)⟩
   have e2 : hD β hb (lst listed) m = hD β hb full m := hD_congr fun j hj => ⟨rfl, hall j (by omega)⟩
   rw [← e1, ← e2]
   exact ⟨I.ar, I.wr, I.ex, fun j hj hf => by omega, I.nx, I.b0, I.b1⟩
 | succ fuel ih =>
   intro listed a w ι hc hs hcl hlm I
   refine ⟨fun hr => ?_, fun i hi => ?_⟩
   ·exfalso
    have hall := ready_nil H hs hr
    have : ∀ k, k ≤ ops.size → cnt (lst listed) k = k := by
     intro k
     induction k with
     | zero => intro _; rfl
     | succ k ihk => intro hk; simp only [cnt, ihk (by omega), hall k (by omega), if_true]
    have := this ops.size (Nat.le_refl _)
    omega
   ·obtain ⟨h1, h2, h3⟩ := ready_spec hs hi
    have hin : ∀ j, lst listed j = true → j < ops.size := fun j hj => lst_lt hs hj
    have hdeps : ∀ k, dep k i → lst listed k = true := by
     intro k hk
     obtain ⟨e', he', hb', hor⟩ := H.c2 i ops[i] k (by simp [h1]) hk
     have hle := h3 _ e' (by simp [h1]) he' hb'
     rcases hor with hor | hor
     ·rw [← hor]; exact hle
     ·exact closed_dep H hcl hin _ _ hle hor
    obtain ⟨ao, hao, hofo, hd, hdN, hgN⟩ := hget i ops[i] (by simp [h1])
    by_cases him : i < m
    ·-- A QUIET OPERATION
     have hle : ao.op.cal = true → hb.le (hD β hb (lst listed) m) := fun hcal => hD_le B fun j aj hj haj hlj => by
      cases hq : aj.op.late with
      | false => rfl
      | true =>
        rcases (H.c7 j i aj ao hj him haj hao hq).2 with this | this
        ·rw [hcal] at this; cases this
        ·have := closed_dep H hcl hin _ _ hlj this
         rw [h2] at this; cases this
     have hmove : okG P (base + i) hb ao (stD aops ρ st0 (lst listed) m) (hD β hb (lst listed) m) (ρ i) (β i) := by
      refine okG_move (fun x hx => (slots_same H hlen hcl hin hao him h2 hdeps hx).symm) (fun hfree x t hx hp c hr => ?_) (hok i ao him hao)
      -- the token that is read lies in the world already
      have hreal : ∃ l, ι t = some l := by
       have tokrel : ∀ {v : AV} {u : Value}, v.tok = some t → VRel ι v u → ∃ l, ι t = some l := by
        intro v u hv r
        cases v <;> simp only [AV.tok, reduceCtorEq, Option.some.injEq] at hv
        case p => subst hv; simp only [VRel] at r; obtain ⟨l, hl, _⟩ := r; exact ⟨l, hl⟩
        case mp => subst hv; simp only [VRel] at r; obtain ⟨l, hl, _⟩ := r; exact ⟨l, hl⟩
        case sl t' o' n' a' =>
         split at hv
         ·cases hv
         ·rename_i h0
          cases hv
          simp only [VRel] at r
          rcases r with ⟨h1, _⟩ | ⟨l, cap, hl, _⟩
          ·exact absurd h1 h0
          ·exact ⟨l, hl⟩
       cases x with
       | c v =>
         have := H.c5 i ao hao _ hx
         simp only [AX.val] at hp
         cases v <;> simp only [AV.tok, reduceCtorEq, Option.some.injEq] at hp <;> simp only [AX.noPtr, Bool.false_eq_true] at this
         simp only [beq_iff_eq] at this
         rw [if_pos this] at hp
         cases hp
       | t n =>
         have hsame := slots_same (ρ := ρ) (st0 := st0) H hlen hcl hin hao him h2 hdeps (x := n) (by unfold AOper.reads; exact List.mem_append_left _ (List.mem_filterMap.2 ⟨.t n, hx, rfl⟩))
         have r := strip_sound (g := true) rfl (I.ar.slot n)
         simp only [AX.val, stS_get] at hp
         rw [hsame] at r
         exact tokrel hp r
      obtain ⟨l, hl⟩ := hreal
      exact read_same B H hcl hin hao him h2 hfree hdeps hx hp (fun j hj hdj ht => by
       have := I.fr j (by omega) hdj
       rw [← ht, hl] at this; cases this) hr
     have hev := okG_ev hle (hD_nx m) hmove
     refine wpOp_mono ?_ (evG_wpOp (o := ops[i]) (by simp [h1]) hofo hdN hgN h1 h2 I hev)
     rintro a' w' ⟨st', h', ι', ⟨rfl, rfl⟩, I'⟩
     have hset := lst_set (listed := listed) (i := i) (by omega)
     refine ih (listed.setIfInBounds i true) a' w' ι' ?_ (by simpa using hs) ?_ ?_ ?_
     ·rw [hset, cnt_insert h2 h1]; omega
     ·rw [hset]
      intro j o e hj ho he hb'
      simp only [Bool.or_eq_true, beq_iff_eq] at hj ⊢
      rcases hj with hj | rfl
      ·exact .inl (hcl j o e hj ho he hb')
      ·exact .inl (h3 o e ho he hb')
     ·rw [hset]
      intro j hj
      simp only [Bool.or_eq_true, beq_iff_eq] at hj
      rcases hj with hj | rfl
      ·exact hlm j hj
      ·exact him
     ·rw [hset, hD_insert B H hcl hin hao him h2 fun j aj t c hj hdj haj hlt hbj ht => by
       obtain ⟨c', hc', hg⟩ := late_good B (fun j aj hj haj hl => (H.c7 j j aj aj hj hj haj haj hl).1) hj haj hlt hbj hdj m hj (Nat.le_refl _)
       have hfr := I.fr i (by omega) h2
       have hb := (I.wr.blk t c' hc').2
       rw [← ht] at hfr
       cases c' with
       | cells wr cs =>
         rcases hb with ⟨hb, _⟩ | ⟨l, _, _, _, hb, _⟩
         ·exact hg hb
         ·rw [hfr] at hb; cases hb
       | frz cs => obtain ⟨l, _, _, hb, _⟩ := hb; rw [hfr] at hb; cases hb
       | map es => obtain ⟨l, _, _, hb, _⟩ := hb; rw [hfr] at hb; cases hb
       | raw R => obtain ⟨l, _, hb, _⟩ := hb; rw [hfr] at hb; cases hb]
      refine ⟨⟨I'.ar.size, I'.ar.defs, I'.ar.tab, fun x => ?_⟩, I'.wr, I'.ex, fun j hj hf => ?_, I'.nx, I'.b0, I'.b1⟩
      ·rw [stD_insert H hcl hin hao him h2]
       exact I'.ar.slot x
      ·simp only [Bool.or_eq_false_iff, beq_eq_false_iff_ne] at hf
       exact I'.fr j hj ⟨hf.1, hf.2⟩
    ·-- THE TAIL BEGINS
     have hmi : i = m := by
      rcases Nat.eq_or_lt_of_le (Nat.not_lt.1 him) with hq | hq
      ·exact hq.symm
      ·have := hlm m (hdeps m ((H.c4 m i (by omega) h1 hq).resolve_right fun q => by omega)); omega
     subst hmi
     by_cases hbelow : ∀ k, k < i → lst listed k = true
     rotate_left
     ·-- an append, with moves that are left
      obtain ⟨k0, hk0⟩ := Classical.not_forall.1 hbelow
      have hk0i : k0 < i := Classical.byContradiction fun q => hk0 fun q2 => absurd q2 q
      have hk0l : lst listed k0 = false := by
       cases q : lst listed k0 with
       | false => rfl
       | true => exact absurd (fun _ => q) hk0
      have lz : ∀ k, k < i → lst listed k = false → (∃ a, aops[k]? = some a ∧ a.lazy = true) ∧ ∃ b, aops[i]? = some b ∧ b.app1 = true := fun k hk hl => by
       rcases H.c4 k i (Nat.le_refl _) h1 hk with q | q
       ·rw [hdeps k q] at hl; cases hl
       ·exact q.2
      obtain ⟨-, bm, hbm, happ⟩ := lz k0 hk0i hk0l
      rw [hao] at hbm
      cases hbm
      obtain ⟨kk, bb, x, y, hop⟩ := AOper.app1_is happ
      have hil : i < aops.length := by omega
      rw [List.drop_eq_getElem_cons hil] at htail
      have hge : aops[i] = ao := by rw [List.getElem?_eq_getElem hil] at hao; simpa using hao
      rw [hge] at htail
      simp only [evOps] at htail
      -- the slots and the heap are az if all were done
      have e1 : ∀ n ∈ ao.reads, (stD aops ρ st0 (lst listed) i).get n = (stD aops ρ st0 full i).get n := fun n hn => by
       have : ∀ k, k ≤ i → (stD aops ρ st0 (lst listed) k).get n = (stD aops ρ st0 full k).get n := by
        intro k
        induction k with
        | zero => intro _; rfl
        | succ k ihk =>
          intro hk
          simp only [stD, full, if_true]
          by_cases hd' : lst listed k = true
          ·rw [if_pos hd', put_get, put_get, ihk (by omega)]
          ·rw [if_neg hd', put_get, if_neg ?_]
           ·exact ihk (by omega)
           ·intro q
            cases hak : aops[k]? with
            | none => rw [hak] at q; cases q
            | some ak =>
              rw [hak] at q
              exact hd' (hdeps k (H.c3 k i ak ao (by omega) hak hao (clash_iff (.inl ⟨q, .inl hn⟩))))
       exact this i (Nat.le_refl _)
      have e2 : hD β hb (lst listed) i = hD β hb full i := by
       have : ∀ k, k ≤ i → hD β hb (lst listed) k = hD β hb full k := by
        intro k
        induction k with
        | zero => intro _; rfl
        | succ k ihk =>
          intro hk
          simp only [hD, full, if_true]
          by_cases hd' : lst listed k = true
          ·rw [if_pos hd', ihk (by omega)]; try rfl
          ·rw [if_neg hd', ihk (by omega)]
           obtain ⟨⟨al, hal, hlz⟩, -⟩ := lz k (by omega) (by simpa using hd')
           obtain ⟨dd, x', hmv⟩ := AOper.lazy_is hlz
           have := hok k al (by omega) hal
           rw [hmv] at this
           simp only [okG, okA, AOp.isAl, Bool.false_eq_true, if_false] at this
           rw [this.1]; try rfl
       exact this i (Nat.le_refl _)
      have hxs : ∀ z, z = x ∨ z = y → z.val (stD aops ρ st0 (lst listed) i) = z.val (stD aops ρ st0 full i) := fun z hz => by
       cases z with
       | c v => rfl
       | t n =>
         simp only [AX.val]
         refine e1 n ?_
         rw [hop]
         rcases hz with hz | hz <;> subst hz <;> simp [AOper.reads, AOp.xs, AX.slot]
      have hev : evG P (base + i) ao (stD aops ρ st0 (lst listed) i) (hD β hb (lst listed) i) fun st' h' => ∃ r, st' = put ao.d r (stD aops ρ st0 (lst listed) i) ∧ evOps P base (aops.drop (i + 1)) (i + 1) (put ao.d r (stD aops ρ st0 full i)) h' K := by
       rw [hop] at htail ⊢
       simp only [evG, evA] at htail ⊢
       rw [e2, hxs x (.inl rfl), hxs y (.inr rfl)]
       split at htail
       ·exact ⟨_, rfl, htail⟩
       ·exact htail.elim
      refine wpOp_mono ?_ (evG_wpOp (o := ops[i]) (by simp [h1]) hofo hdN hgN h1 h2 I hev)
      rintro a' w' ⟨st', h', ι', ⟨r, rfl, htl⟩, I'⟩
      have hset := lst_set (listed := listed) (i := i) (by omega)
      refine lazy_wpAny H hof h1 hK hok hao htl fuel (listed.setIfInBounds i true) a' w' ι' ?_ (by simpa using hs) ?_ ?_ ?_ ?_
      ·rw [hset, cnt_insert h2 h1]; omega
      ·rw [hset]
       intro j o e hj ho he hb'
       simp only [Bool.or_eq_true, beq_iff_eq] at hj ⊢
       rcases hj with hj | rfl
       ·exact .inl (hcl j o e hj ho he hb')
       ·exact .inl (h3 o e ho he hb')
      ·rw [hset]; simp
      ·rw [hset]
       intro j hj
       simp only [Bool.or_eq_true, beq_iff_eq] at hj
       rcases hj with hj | rfl
       ·have := hlm j hj; omega
       ·omega
      ·rw [hset]
       have e3 : stD aops ρ st0 (fun j => lst listed j || j == i) i = stD aops ρ st0 (lst listed) i := stD_congr fun j hj => by
        have : (j == i) = false := by simp; omega
        exact ⟨rfl, by simp [this]⟩
       rw [e3]
       refine ⟨I'.ar, I'.wr, I'.ex, fun j hj hf => ?_, I'.nx, I'.b0, I'.b1⟩
       simp only [Bool.or_eq_false_iff, beq_eq_false_iff_ne] at hf
       exact I'.fr j hj ⟨hf.1, hf.2⟩
     have e1 : stD aops ρ st0 (lst listed) i = stD aops ρ st0 full i := stD_congr fun j hj => ⟨rfl, hbelow j hj⟩
     have e2 : hD β hb (lst listed) i = hD β hb full i := hD_congr fun j hj => ⟨rfl, hbelow j hj⟩
     rw [e1, e2] at I
     have hcnt : cnt (lst listed) ops.size = i := by
      have : ∀ k, k ≤ ops.size → cnt (lst listed) k = min k i := by
       intro k
       induction k with
       | zero => intro _; simp [cnt]
       | succ k ihk =>
         intro hk
         simp only [cnt, ihk (by omega)]
         by_cases hki : k < i
         ·rw [if_pos (hbelow k hki)]; omega
         ·rw [if_neg (fun hq => hki (hlm k hq))]; omega
      have := this ops.size (Nat.le_refl _)
      omega
     have := tail_wpAny H hof hK (fuel + 1) listed a w i _ _ ι (by omega) (Nat.le_refl _) hs (fun j => ⟨hlm j, hbelow j⟩)
      ⟨I.ar, I.wr, I.ex, fun j hj hf => I.fr j hj (by cases hq : lst listed j with | false => rfl | true => have := hlm j hq; omega), I.nx, I.b0, I.b1⟩ htail
     exact this.2 i hi
theorem awp_head {id : Nat} {st : St} {h : AH} (hmix : P.follows .mixedOrders = true) (hof : opersOf P N ops = some aops) (H : HeadOK ops aops dep m) (hmn : m ≤ ops.size)
 (e : evHead P h.nx { h with nx := h.nx + aops.length } (aops.take m) 0 st { h with nx := h.nx + aops.length } fun st' h' => sepP (aops.take m) st' ∧ evOps P h.nx (aops.drop m) m st' h' fun st h => Q .normal st h) :
 Awp P N (.region id ops true) Q st h := fun dfs ι a w ar wr => by
 obtain ⟨hlen, _⟩ := opersOf_spec hof
 refine wp_mono (wp_region_any (opersOf_nd hof) (nrm_lets (Q := Q)) hmix ?_) nrm_lift
 obtain ⟨ρ, β, _, hok, hsp, htail⟩ := head_ok (P := P) (aops := aops) (st0 := st) (hb := { h with nx := h.nx + aops.length }) (base := h.nx) (m := m) (by omega) m 0 (by omega) (fun _ => .un) (fun _ => none) (by simpa [stD, hD] using e)
 have hfalse : lst (Array.replicate ops.size false) = fun _ => false := by
  funext j
  unfold lst
  rw [Array.getD_eq_getD_getElem?]
  by_cases hj : j < ops.size
  ·simp [hj]
  ·rw [Array.getElem?_eq_none (by simp; omega)]; rfl
 have hst : stD aops ρ st (fun _ => false) m = st := by
  have : ∀ k, stD aops ρ st (fun _ => false) k = st := by
   intro k; induction k with
   | zero => rfl
   | succ k ih => simp [stD, ih]
  exact this m
 have hhd : hD β { h with nx := h.nx + aops.length } (fun _ => false) m = { h with nx := h.nx + aops.length } := by
  have : ∀ k, hD β { h with nx := h.nx + aops.length } (fun _ => false) k = { h with nx := h.nx + aops.length } := by
   intro k; induction k with
   | zero => rfl
   | succ k ih => simp [hD, ih]
  exact this m
 refine head_wpAny (ι0 := ι) (h0 := h) (w0 := w) (base := h.nx) (st0 := st) (hb := { h with nx := h.nx + aops.length }) (K := fun st h => Q .normal st h) H hof hmn (fun st' h' ι' a' w' k ar' wr' x => ⟨st', h', ι', ⟨rfl, k⟩, ar', wr', x⟩) (fun t ht => ?_)
  (fun j ao hj hao => hok j ao (Nat.zero_le _) hj hao) (fun i k ai ak hi hk hai hak hf hnl hl y hy x hx t h1 h2 => ?_) htail ops.size _ a _ ι ?_ (by simp) ?_ ?_ ?_
 ·cases hq : h.m t with
  | none => rfl
  | some c => have := (wr.blk t c hq).1; omega
 ·-- what is read is not what is stored
  have tk : ∀ (i : Nat) (ai : AOper), i < m → aops[i]? = some ai → ai ∈ aops.take m := fun i ai hi ha => by
   refine List.mem_of_getElem? (i := i) ?_
   rw [List.getElem?_take, if_pos hi]; exact ha
  have hs := sepG_at (hsp ak (tk k ak hk hak) hl y hy) (tk i ai hi hai) hf hnl x hx
  have stay : ∀ (i : Nat) (ai : AOper), i < m → aops[i]? = some ai → ai.op.free = false → ∀ x ∈ ai.op.xs, x.val (stS true (stD aops ρ st full m)) = x.val (stS true (stD aops ρ st full i)) := by
   intro i ai hi hai hf x hx
   cases x with
   | c v => rfl
   | t n =>
     simp only [AX.val, stS_get]
     have : ∀ k, i ≤ k → k ≤ m → (stD aops ρ st full k).get n = (stD aops ρ st full i).get n := by
      intro j hij
      induction j with
      | zero => intro _; have : i = 0 := by omega
                subst this; rfl
      | succ j ih =>
        intro hjm
        by_cases e : i = j + 1
        ·subst e; rfl
        ·simp only [stD, full, if_true]
         rw [put_get, if_neg, ih (by omega) (by omega)]
         have hja : aops[j]? = some aops[j] := List.getElem?_eq_getElem (by omega)
         rw [hja]
         exact H.c8 k i j ak ai _ hk (by omega) (by omega) hak hl hai hja hf n (by unfold AOper.reads; exact List.mem_append_left _ (List.mem_filterMap.2 ⟨.t n, hx, rfl⟩))
     rw [this m (by omega) (Nat.le_refl _)]
  have hlf : ak.op.free = false := by cases h : ak.op <;> simp [h, AOp.late, AOp.free] at hl ⊢
  rw [stay k ak hk hak hlf y (List.mem_of_mem_head? hy), stay i ai hi hai hf x hx] at hs
  rcases hs with hs | hs | hs
  ·rw [hs] at h1; cases h1
  ·rw [hs] at h2; cases h2
  ·exact hs (h1.trans h2.symm)
 ·rw [hfalse]
  have : ∀ k, cnt (fun _ => false) k = 0 := by
   intro k; induction k with
   | zero => rfl
   | succ k ih => simp [cnt, ih]
  rw [this]; omega
 ·rw [hfalse]; intro j o e' hj; cases hj
 ·rw [hfalse]; intro j hj; cases hj
 ·rw [hfalse, hst, hhd]
  refine ⟨ar, (wr.bump _).drew, ((Ext.refl ι h w).bump _).drew, fun j hj hf => ?_, by simp [hlen], Nat.le_refl _, wr.pos⟩
  cases hq : ι (h.nx + j) with
  | none => rfl
  | some l => have := (wr.lt _ l hq).1; omega
end
end Go.Am
set_option linter.unusedVariables false
set_option linter.unusedSimpArgs false
namespace Go.Am
def masks (ops : List Oper) : List Nat :=
 ops.foldl (fun ms o => ms ++ [o.after.foldl (fun s e => if Region.binds .any e then s ||| 2 ^ e.on ||| ms.getD e.on 0 else s) 0]) []
def allBefore (ms : List Nat) (j : Nat) : Bool := (List.range j).all fun i => (ms.getD j 0).testBit i
def tailAt (ms : List Nat) : Nat → Nat
 | 0 => 0
 | m + 1 => if allBefore ms m then tailAt ms m else m + 1
def appAt (aops : List AOper) (ms : List Nat) (m : Nat) : Bool :=
 (match aops[m]? with | some a => a.app1 | none => false) && (List.range m).all fun i => (ms.getD m 0).testBit i || (match aops[i]? with | some a => a.lazy | none => false)
def headAt (aops : List AOper) (ms : List Nat) (m : Nat) : Nat :=
 match m with
 | 0 => 0
 | k + 1 => if appAt aops ms k then k else k + 1
def lateB (l : List AOper) : Bool :=
 (l.zipIdx.all fun (aj, j) => l.zipIdx.all fun (ai, i) => decide (i = j) || !ai.op.late || !aj.op.late) &&
 (l.all fun a => !a.op.late || a.op.lateOk) &&
 (l.zipIdx.all fun (aj, j) => l.zipIdx.all fun (ai, i) => !decide (i ≤ j) || ai.op.free || ai.reads.all fun x => aj.d != some x)
def headB (ops : Array Oper) (aops : List AOper) (ms : List Nat) (m : Nat) : Bool :=
 (ops.toList.zipIdx.all fun (o, j) => o.after.all fun e => !Region.binds .any e || e.on < j) &&
 (ops.toList.zipIdx.all fun (o, j) => decide (ms.getD j 0 < 2 ^ ops.size) && (List.range ops.size).all fun i => !(ms.getD j 0).testBit i ||
  o.after.toList.any fun e => Region.binds .any e && (e.on == i || (ms.getD e.on 0).testBit i)) &&
 (aops.zipIdx.all fun (aj, j) => aops.zipIdx.all fun (ai, i) => !decide (i < j) || !ai.clash aj || (ms.getD j 0).testBit i) &&
 ((List.range ops.size).all fun j => !decide (m ≤ j) || allBefore ms j || (decide (j = m) && appAt aops ms m)) &&
 (aops.all fun a => a.op.xs.all AX.noPtr) && decide (m ≤ ops.size) &&
 (!(aops.take m).any (fun a => a.op.late) || lateB (aops.take m)) &&
 (aops.zipIdx.all fun (aj, j) => aops.zipIdx.all fun (ai, i) => !decide (i < j) || !decide (j < m) || !ai.op.cal || !aj.op.cal || (ms.getD j 0).testBit i) &&
 (aops.zipIdx.all fun (ai, i) => aops.zipIdx.all fun (aj, j) => !decide (i < m) || !decide (j < m) || !ai.op.late || !aj.op.cal || (ms.getD i 0).testBit j)
theorem zipIdx_all {α : Type} {l : List α} {p : α × Nat → Bool} (h : l.zipIdx.all p = true) {i : Nat} {x : α} (hx : l[i]? = some x) : p (x, i) = true := by
 refine List.all_eq_true.1 h (x, i) ?_
 rw [List.mem_zipIdx_iff_getElem?]
 exact hx
theorem headB_spec {ops : Array Oper} {aops : List AOper} {ms : List Nat} {m : Nat} (h : headB ops aops ms m = true) : HeadOK ops aops (fun i j => (ms.getD j 0).testBit i = true) m ∧ m ≤ ops.size := by
 unfold headB at h
 simp only [Bool.and_eq_true, decide_eq_true_eq] at h
 obtain ⟨⟨⟨⟨⟨⟨⟨⟨h1, h2⟩, h3⟩, h4⟩, h5⟩, h6⟩, h7⟩, h9⟩, h10⟩ := h
 have tk : ∀ {i : Nat} {ai : AOper}, i < m → aops[i]? = some ai → (aops.take m)[i]? = some ai := fun hi ha => by rw [List.getElem?_take]; simp [hi, ha]
 have h7 : ∀ {i : Nat} {ai : AOper}, i < m → aops[i]? = some ai → ai.op.late = true →
  lateB (aops.take m) = true := fun {i ai} hi ha hl => by
  simp only [Bool.or_eq_true, Bool.not_eq_true'] at h7
  rcases h7 with h7 | h7
  ·have := List.any_eq_false.1 h7 ai (List.mem_of_getElem? (tk hi ha))
   exact absurd hl this
  ·exact h7
 refine ⟨⟨fun j o e ho he hb => ?_, fun j o i ho hd => ?_, fun i j ai aj hij hai haj hc => ?_, fun i j hm hj hij => ?_, fun i ai hai x hx => ?_, fun i k ai ak him hkm hai hak hl1 hl2 => ?_, fun i j ai aj him hjm hai haj hl => ?_, fun k i j ak ai aj hk hij hjm hak hl hai haj hf x hx => ?_, fun i j ai aj hij hjm hai haj hl1 hl2 => ?_⟩, h6⟩
 ·have := zipIdx_all h1 (i := j) (x := o) (by simpa using ho)
  simp only [Array.all_eq_true_iff_forall_mem] at this
  have := this e he
  simpa [hb] using this
 ·have := zipIdx_all h2 (i := j) (x := o) (by simpa using ho)
  simp only [Bool.and_eq_true, decide_eq_true_eq] at this
  obtain ⟨q1, q2⟩ := this
  have hi : i < ops.size := by
   rcases Nat.lt_or_ge i ops.size with hq | hq
   ·exact hq
   ·have := Nat.testBit_lt_two_pow (Nat.lt_of_lt_of_le q1 (Nat.pow_le_pow_right (by omega) hq))
    rw [hd] at this; cases this
  have := List.all_eq_true.1 q2 i (List.mem_range.2 hi)
  rw [hd] at this
  simp only [Bool.not_true, Bool.false_or, List.any_eq_true] at this
  obtain ⟨e, he, hb⟩ := this
  simp only [Bool.and_eq_true, Bool.or_eq_true, beq_iff_eq] at hb
  exact ⟨e, by simpa using he, hb.1, hb.2⟩
 ·have := zipIdx_all (zipIdx_all h3 (i := j) (x := aj) haj) (i := i) (x := ai) hai
  simpa [hij, hc] using this
 ·have := List.all_eq_true.1 h4 j (List.mem_range.2 hj)
  simp only [hm, decide_true, Bool.not_true, Bool.false_or, Bool.or_eq_true, Bool.and_eq_true, decide_eq_true_eq] at this
  rcases this with this | ⟨rfl, this⟩
  ·exact .inl (List.all_eq_true.1 this i (List.mem_range.2 hij))
  ·unfold appAt at this
   simp only [Bool.and_eq_true] at this
   have q := List.all_eq_true.1 this.2 i (List.mem_range.2 hij)
   simp only [Bool.or_eq_true] at q
   rcases q with q | q
   ·exact .inl q
   ·refine .inr ⟨rfl, ?_, ?_⟩
    ·split at q
     ·rename_i a ha; exact ⟨a, ha, q⟩
     ·cases q
    ·have q2 := this.1
     split at q2
     ·rename_i a ha; exact ⟨a, ha, q2⟩
     ·cases q2
 ·have := List.all_eq_true.1 h5 ai (List.mem_of_getElem? hai)
  exact List.all_eq_true.1 this x hx
 ·have h8 := h7 him hai hl1
  unfold lateB at h8
  simp only [Bool.and_eq_true] at h8
  have := zipIdx_all (zipIdx_all h8.1.1 (i := k) (x := ak) (tk hkm hak)) (i := i) (x := ai) (tk him hai)
  simpa [hl1, hl2] using this
 ·have h8 := h7 him hai hl
  unfold lateB at h8
  simp only [Bool.and_eq_true] at h8
  have e1 := List.all_eq_true.1 h8.1.2 ai (List.mem_of_getElem? (tk him hai))
  have e2 := zipIdx_all (zipIdx_all h10 (i := i) (x := ai) hai) (i := j) (x := aj) haj
  simp only [hl, Bool.not_true, Bool.false_or, him, hjm, decide_true, Bool.or_eq_true, Bool.not_eq_true'] at e1 e2
  exact ⟨e1, e2⟩
 ·have h8 := h7 hk hak hl
  unfold lateB at h8
  simp only [Bool.and_eq_true] at h8
  have := zipIdx_all (zipIdx_all h8.2 (i := j) (x := aj) (tk hjm haj)) (i := i) (x := ai) (tk (by omega) hai)
  simp only [hij, decide_true, Bool.not_true, Bool.false_or, hf, List.all_eq_true, bne_iff_ne] at this
  exact this x hx
 ·have := zipIdx_all (zipIdx_all h9 (i := j) (x := aj) haj) (i := i) (x := ai) hai
  simpa [hij, hjm, hl1, hl2] using this
def AC.of (P : Program) (N : Nat) : Code → Option AC
 | .skip => some .skip
 | .region _ ops false => some (match opersOf P N ops with | some l => .reg l | none => .bad)
 | .region _ ops true => some (match opersOf P N ops with
   | some l =>
     let ms := masks ops.toList
     let m := headAt l ms (tailAt ms ops.size)
     if P.follows .mixedOrders && headB ops l ms m then .head m l else .bad
   | none => .bad)
 | .seq a b => do some (.seq (← AC.of P N a) (← AC.of P N b))
 | .cond c a b => do some (.cond (← toX c) (← AC.of P N a) (← AC.of P N b))
 | .block id b => do some (.blk id (← AC.of P N b))
 | .loop b => do some (.loop (← AC.of P N b))
 | .exit id => some (.exit id)
 | .ret => some .ret
 | .rangeFunc g ps a b => do if ps.toList.all (· < N) then some (.rf (← toX g) ps.toList (← AC.of P N a) (← AC.of P N b)) else none
 | _ => none
inductive CodeR (P : Program) (N : Nat) : Code → AC → Prop
 | skip : CodeR P N .skip .skip
 | reg {id ops l} (h : opersOf P N ops = some l) : CodeR P N (.region id ops false) (.reg l)
 | head {id ops l m ms} (h : opersOf P N ops = some l) (hm : P.follows .mixedOrders = true) (hh : headB ops l ms m = true) : CodeR P N (.region id ops true) (.head m l)
 | seq {a b x y} (ha : CodeR P N a x) (hb : CodeR P N b y) : CodeR P N (.seq a b) (.seq x y)
 | cond {c a b z x y} (hc : toX c = some z) (ha : CodeR P N a x) (hb : CodeR P N b y) : CodeR P N (.cond c a b) (.cond z x y)
 | blk {id b y} (hb : CodeR P N b y) : CodeR P N (.block id b) (.blk id y)
 | loop {b y} (hb : CodeR P N b y) : CodeR P N (.loop b) (.loop y)
 | exit {id} : CodeR P N (.exit id) (.exit id)
 | ret : CodeR P N .ret .ret
 | bad {c} : CodeR P N c .bad
 | rf {g ps a b z x y} (hg : toX g = some z) (hp : ∀ p ∈ ps.toList, p < N) (ha : CodeR P N a x) (hb : CodeR P N b y) : CodeR P N (.rangeFunc g ps a b) (.rf z ps.toList x y)
theorem code_R {P : Program} {N : Nat} : ∀ {c : Code} {ac : AC}, AC.of P N c = some ac → CodeR P N c ac
 | .skip, ac, h => by simp [AC.of] at h; subst h; exact .skip
 | .region id ops false, ac, h => by
   simp only [AC.of, Option.some.injEq] at h
   subst h
   split
   ·rename_i l hl; exact .reg hl
   ·exact .bad
 | .region id ops true, ac, h => by
   simp only [AC.of, Option.some.injEq] at h
   subst h
   split
   ·rename_i l hl
    split
    ·rename_i hc
     simp only [Bool.and_eq_true] at hc
     exact .head hl hc.1 hc.2
    ·exact .bad
   ·exact .bad
 | .seq a b, ac, h => by
   simp only [AC.of, Option.bind_eq_bind, Option.bind_eq_some_iff, Option.some.injEq] at h
   obtain ⟨x, hx, y, hy, rfl⟩ := h
   exact .seq (code_R hx) (code_R hy)
 | .cond c a b, ac, h => by
   simp only [AC.of, Option.bind_eq_bind, Option.bind_eq_some_iff, Option.some.injEq] at h
   obtain ⟨z, hz, x, hx, y, hy, rfl⟩ := h
   exact .cond hz (code_R hx) (code_R hy)
 | .block id b, ac, h => by
   simp only [AC.of, Option.bind_eq_bind, Option.bind_eq_some_iff, Option.some.injEq] at h
   obtain ⟨y, hy, rfl⟩ := h
   exact .blk (code_R hy)
 | .loop b, ac, h => by
   simp only [AC.of, Option.bind_eq_bind, Option.bind_eq_some_iff, Option.some.injEq] at h
   obtain ⟨y, hy, rfl⟩ := h
   exact .loop (code_R hy)
 | .exit id, ac, h => by simp [AC.of] at h; subst h; exact .exit
 | .ret, ac, h => by simp [AC.of] at h; subst h; exact .ret
 | .rangeFunc g ps a b, ac, h => by
   simp only [AC.of] at h
   split at h
   ·rename_i hp
    simp only [Option.bind_eq_bind, Option.bind_eq_some_iff, Option.some.injEq] at h
    obtain ⟨z, hz, x, hx, y, hy, rfl⟩ := h
    exact .rf hz (fun p q => by simpa using List.all_eq_true.1 hp p q) (code_R hx) (code_R hy)
   ·cases h
 | .scope _, ac, h => by simp [AC.of] at h
 | .label _, ac, h => by simp [AC.of] at h
 | .goto _, ac, h => by simp [AC.of] at h
 | .refuse _, ac, h => by simp [AC.of] at h
def W (P : Program) (N : Nat) (c : AC) (Q : Exit → St → AH → Prop) (st : St) (h : AH) : Prop := ∀ c', CodeR P N c' c → Awp P N c' Q st h
section
variable {P : Program} {N : Nat} {Q Q' : Exit → St → AH → Prop} {st : St} {h : AH}
theorem w_skip (q : Q .normal st h) : W P N .skip Q st h := fun c hc => by cases hc; exact awp_skip q
theorem w_exit {id : Nat} (q : Q (.exit id) st h) : W P N (.exit id) Q st h := fun c hc => by cases hc; exact awp_exit q
theorem w_ret (q : Q .ret st h) : W P N .ret Q st h := fun c hc => by cases hc; exact awp_ret q
theorem w_seq {a b : AC} (q : W P N a (athen (fun st h => W P N b Q st h) Q) st h) : W P N (.seq a b) Q st h := fun c hc => by
 cases hc with
 | seq ha hb =>
   refine awp_seq ((q _ ha).mono fun e st h hq => ?_)
   cases e with
   | normal => exact hq _ hb
   | _ => exact hq
theorem w_cond {c : AX} {a b : AC} {t : Bool} (ht : c.val st = .b t) (h1 : t = true → W P N a Q st h) (h2 : t = false → W P N b Q st h) : W P N (.cond c a b) Q st h := fun c hc => by
 cases hc with
 | cond hz ha hb => exact awp_cond hz ht (fun e => h1 e _ ha) (fun e => h2 e _ hb)
theorem w_blk {id : Nat} {b : AC} (q : W P N b (ablk id Q) st h) : W P N (.blk id b) Q st h := fun c hc => by
 cases hc with
 | blk hb => exact awp_block (q _ hb)
theorem w_loop {b : AC} (I : Nat → St → AH → Prop) (n : Nat) (h0 : I n st h) (round : ∀ n st h, I n st h → W P N b (athen (fun st' h' => ∃ m h'', m < n ∧ h''.le h' ∧ I m st' h'') Q) st h) : W P N (.loop b) Q st h := fun c hc => by
 cases hc with
 | loop hb => exact awp_loop I h0 fun n st h hI => round n st h hI _ hb
theorem w_reg {ops : List AOper} (e : evOps P h.nx ops 0 st { h with nx := h.nx + ops.length } fun st h => Q .normal st h) : W P N (.reg ops) Q st h := fun c hc => by
 cases hc with
 | reg hl => exact awp_region hl e
theorem sepP_none {ops : List AOper} {st : St} (h : ops.any (fun o => o.op.late) = false) : sepP ops st := fun ak hk hl => absurd hl (List.any_eq_false.1 h ak hk)
theorem w_head {m : Nat} {ops : List AOper} (e : evHead P h.nx { h with nx := h.nx + ops.length } (ops.take m) 0 st { h with nx := h.nx + ops.length } fun st' h' => sepP (ops.take m) st' ∧ evOps P h.nx (ops.drop m) m st' h' fun st h => Q .normal st h) :
 W P N (.head m ops) Q st h := fun c hc => by
 cases hc with
 | head hl hm hh =>
   obtain ⟨H, hmn⟩ := headB_spec hh
   exact awp_head hm hl H hmn e
theorem W.mono {c : AC} (w : W P N c Q st h) (hq : ∀ e st h, Q e st h → Q' e st h) : W P N c Q' st h := fun c' hc => (w c' hc).mono hq
theorem W.weaken {c : AC} {st' : St} {h' : AH} (hst : ∀ d, st'.get d = .un ∨ st'.get d = st.get d) (hh : h'.le h) (hnx : h'.nx = h.nx) (w : W P N c Q st' h') : W P N c Q st h := fun c' hc => (w c' hc).weaken hst hh hnx
end
def fnOf (P : Program) (f : Nat) : Option (AC × List ARes × Nat) := do
 let fn ← P.funcs[f]?
 let c ← fn.body
 let ac ← AC.of P fn.ntmps c
 let rs ← resOf P fn.results.toList
 if fn.name == "runtime.NumGoroutine" then none else some (ac, rs, fn.ntmps)
theorem acalls_fn {P : Program} {f : Nat} {ac : AC} {ars : List ARes} {N : Nat} (hf : fnOf P f = some (ac, ars, N)) {args : List AV} {h : AH} {R : AV → AH → Prop} (hN : args.length ≤ N)
 (hw : W P N ac (fun e st h' => (e = .normal ∨ e = .ret) ∧ ∃ vs, ars.mapM (ARes.val st h') = some vs ∧ ∃ h'', h''.le h' ∧ R (aone vs) h'') (initSt args) h) : ACalls P f args h R := by
 unfold fnOf at hf
 simp only [Option.bind_eq_bind, Option.bind_eq_some_iff] at hf
 obtain ⟨fn, hfn, c, hc, ac', hac, rs, hrs, hf⟩ := hf
 split at hf
 ·cases hf
 ·rename_i hn
  simp only [Option.some.injEq, Prod.mk.injEq] at hf
  obtain ⟨rfl, rfl, rfl⟩ := hf
  exact acalls_of hfn (by simpa using hn) hc hrs hN (hw c (code_R hac))
end Go.Am
set_option linter.unusedVariables false
set_option linter.unusedSimpArgs false
namespace Go.Am
def stepA (tok : Nat) (d : Option Nat) (o : AOp) (st : St) (h : AH) : Option (St × AH) :=
 match o with
 | .sto n x v => (h.sto n (x.val st) (v.val st)).map fun h' => (put d .un st, h')
 | .app k b x y => (h.app k b tok (x.val st) (y.val st)).map fun p => (put d p.1 st, p.2)
 | .byt x => match x.val st with
   | .s b => some (put d (.sl tok 0 b.size 0) st, h.set tok (.frz (bcells b)))
   | _ => none
 | .cvt x => (h.cvt (x.val st)).map fun h' => (put d (x.val st) st, h')
 | .eqz .. => none
 | .mkm => some (put d (.mp tok) st, h.set tok (.map []))
 | .mup kk x k v => (h.mup kk (x.val st) (k.val st) (v.val st)).map fun h' => (put d .un st, h')
 | .call _ _ => none
 | o => if o.isAl then (o.al (AX.val st) tok).map fun p => (put d p.1 st, h.set tok (.cells true p.2))
   else (o.ev (AX.val st) h).map fun v => (put d v st, h)
def stepC (g : Bool) (d : Option Nat) (o : AOp) (st : St) (h : AH) : Option (St × AH) :=
 if o.isVal then (o.ev (AX.val (stS g st)) h).map fun v => (put d (.gd g v) st, h) else none
def stepO (tok : Nat) (o : AOper) (st : St) (h : AH) : Option (St × AH) :=
 match o.g with
 | none => stepA tok o.d o.op st h
 | some (s, want) => match guardOf (st.get s) want with
   | some g => stepC g o.d o.op st h
   | none => none
def run (base : Nat) : List AOper → Nat → Option (St × AH) → Option (St × AH)
 | [], _, s => s
 | _ :: _, _, none => none
 | o :: os, i, some (st, h) => run base os (i + 1) (stepO (base + i) o st h)
theorem evA_step {P : Program} {tok : Nat} {d : Option Nat} {o : AOp} {st st' : St} {h h' : AH} (e : stepA tok d o st h = some (st', h')) {K : St → AH → Prop} (k : K st' h') : evA P tok d o st h K := by
 cases o <;> simp only [stepA, evA, AOp.isAl, if_true, if_false, Bool.false_eq_true, Option.map_eq_some_iff, Prod.mk.injEq, reduceCtorEq] at e ⊢
 case sto => obtain ⟨a, ha, rfl, rfl⟩ := e; rw [ha]; exact k
 case app => obtain ⟨a, ha, rfl, rfl⟩ := e; rw [ha]; exact k
 case cvt x => obtain ⟨a, ha, rfl, rfl⟩ := e; rw [ha]; exact k
 case mup => obtain ⟨a, ha, rfl, rfl⟩ := e; rw [ha]; exact k
 case mkm => simp only [Option.some.injEq, Prod.mk.injEq] at e; obtain ⟨rfl, rfl⟩ := e; exact k
 case byt x => split at e <;> first | (cases e; done) | (rename_i hb; cases e; rw [hb]; exact k)
 case box => obtain ⟨a, ha, rfl, rfl⟩ := e; rw [ha]; exact k
 case alloc => obtain ⟨a, ha, rfl, rfl⟩ := e; rw [ha]; exact k
 case bsl => obtain ⟨a, ha, rfl, rfl⟩ := e; rw [ha]; exact k
 case mks => obtain ⟨a, ha, rfl, rfl⟩ := e; rw [ha]; exact k
 all_goals (obtain ⟨a, ha, rfl, rfl⟩ := e; rw [ha]; exact k)
def AOp.quiet : AOp → Bool
 | .app .. | .byt _ | .cvt _ | .eqz .. | .mkm => false
 | _ => true
theorem evHA_step {P : Program} {tok : Nat} {hb : AH} {d : Option Nat} {o : AOp} {st st' : St} {h h' : AH} (hq : o.quiet = true) (e : stepA tok d o st h = some (st', h')) {K : St → AH → Prop} (k : K st' h') : evHA P tok hb d o st h K := by
 cases o <;> simp only [AOp.quiet, Bool.false_eq_true] at hq <;> simp only [stepA, evHA, AOp.isAl, if_true, if_false, Bool.false_eq_true, Option.map_eq_some_iff, Prod.mk.injEq, reduceCtorEq] at e ⊢
 all_goals (obtain ⟨a, ha, rfl, rfl⟩ := e; rw [ha]; exact k)
section
variable {P : Program} {N : Nat} {Q : Exit → St → AH → Prop} {st st' : St} {h h' : AH}
def keep (ks : List Nat) (st : St) : St := ks.map fun k => (k, st.get k)
theorem keep_get (st : St) : ∀ (ks : List Nat) (d : Nat), (keep ks st).get d = if d ∈ ks then st.get d else .un
 | [], d => by simp [keep, St.get]
 | k :: ks, d => by
   have ih := keep_get st ks d
   simp only [keep] at ih
   simp only [keep, List.map_cons, St.get, ih, List.mem_cons]
   by_cases h : d = k
   ·subst h; simp
   ·simp [h]
theorem W.keep {c : AC} (ks : List Nat) (w : W P N c Q (keep ks st) h) : W P N c Q st h :=
 w.weaken (fun d => by rw [keep_get]; split <;> simp) (AH.le_refl h) rfl
end
end Go.Am
set_option linter.unusedVariables false
set_option linter.unusedSimpArgs false
namespace Go.Am
def AH.bump (h : AH) (n : Nat) : AH := { h with nx := h.nx + n }
def AH.ok (h : AH) : Prop := ∀ t c, h.m t = some c → t < h.nx
theorem AH.bump_nx (h : AH) (n : Nat) : (h.bump n).nx = h.nx + n := rfl
theorem AH.set_nx (h : AH) (t : Nat) (b : Blk) : (h.set t b).nx = h.nx := rfl
theorem AH.kill_nx (h : AH) (t : Nat) : (h.kill t).nx = h.nx := rfl
theorem AH.bump_m (h : AH) (n : Nat) (t : Nat) : (h.bump n).m t = h.m t := rfl
theorem AH.set_m_same (h : AH) (t : Nat) (b : Blk) : (h.set t b).m t = some b := by simp [AH.set]
theorem AH.set_m_ne {h : AH} {t s : Nat} (e : s ≠ t) (b : Blk) : (h.set t b).m s = h.m s := by simp [AH.set, e]
theorem AH.kill_m_ne {h : AH} {t s : Nat} (e : s ≠ t) : (h.kill t).m s = h.m s := by simp [AH.kill, e]
theorem AH.bump_row (h : AH) (n : Nat) (t : Nat) : (h.bump n).row t = h.row t := rfl
theorem AH.set_row_same (h : AH) (t : Nat) (w : Bool) (cs : List AV) : (h.set t (.cells w cs)).row t = some cs := by simp [AH.row, AH.set_m_same]
theorem AH.set_row_ne {h : AH} {t s : Nat} (e : s ≠ t) (b : Blk) : (h.set t b).row s = h.row s := by simp [AH.row, AH.set_m_ne e]
theorem AH.kill_row_ne {h : AH} {t s : Nat} (e : s ≠ t) : (h.kill t).row s = h.row s := by simp [AH.row, AH.kill_m_ne e]
theorem AH.ok.row {h : AH} (ok : h.ok) {t : Nat} {cs : List AV} (r : h.row t = some cs) : t < h.nx := by
 unfold AH.row at r
 split at r
 ·rename_i w cs' hm; exact ok _ _ hm
 ·rename_i cs' hm; exact ok _ _ hm
 ·cases r
theorem AH.ok.bump {h : AH} (ok : h.ok) (n : Nat) : (h.bump n).ok := fun t c hc => by have := ok t c hc; simp [AH.bump]; omega
theorem AH.ok.set {h : AH} (ok : h.ok) {t : Nat} (ht : t < h.nx) (b : Blk) : (h.set t b).ok := fun s c hc => by
 unfold AH.set at hc
 by_cases e : s = t
 ·subst e; exact ht
 ·simp only [if_neg e] at hc; exact ok s c hc
section
variable {P : Program} {N : Nat} {Q : Exit → St → AH → Prop} {K : St → AH → Prop} {st st' : St} {h h' : AH}
theorem w_ok {c : AC} (w : h.ok → 0 < h.nx → W P N c Q st h) : W P N c Q st h := fun c' hc dfs ι a wd ar wr => w (fun t b hb => (wr.blk t b hb).1) wr.pos c' hc dfs ι a wd ar wr
theorem kzs (q : K st h) : W P N .skip (athen K Q) st h := w_skip q
theorem kzq {a b : AC} (q : W P N a (athen (fun st h => W P N b (athen K Q) st h) (athen K Q)) st h) : W P N (.seq a b) (athen K Q) st h := w_seq q
theorem kzg {ops : List AOper} (e : evOps P h.nx ops 0 st (h.bump ops.length) K) : W P N (.reg ops) (athen K Q) st h := w_reg e
theorem evHA_mono {tok : Nat} {hb : AH} {d : Option Nat} {o : AOp} {st : St} {h : AH} {A B : St → AH → Prop} (hk : ∀ st h, A st h → B st h) (e : evHA P tok hb d o st h A) : evHA P tok hb d o st h B := by
 cases o <;> simp only [evHA, AOp.isAl, if_true, if_false, Bool.false_eq_true] at e ⊢
 case call f args =>
  revert e; split
  ·rintro ⟨ts, r, nb, h0, h1, h2⟩; exact ⟨ts, r, nb, h0, h1, hk _ _ h2⟩
  ·exact id
 all_goals (revert e; split <;> first | exact fun e => hk _ _ e | exact fun e => e.elim)
theorem evHC_mono {tok : Nat} {hb : AH} {g : Bool} {d : Option Nat} {o : AOp} {st : St} {h : AH} {A B : St → AH → Prop} (hk : ∀ st h, A st h → B st h) (e : evHC P tok hb g d o st h A) : evHC P tok hb g d o st h B := by
 cases o <;> simp only [evHC, AOp.isVal, if_true, if_false, Bool.false_eq_true] at e ⊢
 case call f args =>
  revert e; split
  ·rintro ⟨v, h0, h1⟩; exact ⟨v, h0, hk _ _ h1⟩
  ·exact id
 all_goals first
  | (obtain ⟨v, h1, h2⟩ := e; exact ⟨v, h1, hk _ _ h2⟩)
  | (refine ⟨fun hg => ?_, fun hg => hk _ _ (e.2 hg)⟩
     have e := e.1 hg
     revert e; split <;> first | exact fun e => hk _ _ e | exact fun e => e.elim)
theorem evHG_mono {tok : Nat} {hb : AH} {o : AOper} {st : St} {h : AH} {A B : St → AH → Prop} (hk : ∀ st h, A st h → B st h) (e : evHG P tok hb o st h A) : evHG P tok hb o st h B := by
 unfold evHG at *
 revert e; split
 ·exact evHA_mono hk
 ·split
  ·exact evHC_mono hk
  ·exact id
theorem evHead_mono {base : Nat} {hb : AH} : ∀ {ops : List AOper} {i : Nat} {st : St} {h : AH} {K K' : St → AH → Prop} (hk : ∀ st h, K st h → K' st h), evHead P base hb ops i st h K → evHead P base hb ops i st h K'
 | [], _, _, _, _, _, hk, e => hk _ _ e
 | o :: os, i, st, h, K, K', hk, e => by
   exact evHG_mono (fun _ _ => evHead_mono hk) e
theorem k_head {m : Nat} {ops : List AOper} (hn : (ops.take m).any (fun o => o.op.late) = false) (e : evHead P h.nx (h.bump ops.length) (ops.take m) 0 st (h.bump ops.length) fun st' h' => evOps P h.nx (ops.drop m) m st' h' K) : W P N (.head m ops) (athen K Q) st h :=
 w_head (evHead_mono (fun _ _ q => ⟨sepP_none hn, q⟩) e)
structure SepK (ops : List AOper) (st : St) (K : Prop) : Prop where
 sep : sepP ops st
 go : K
def sepQ (st : St) (l : List AOper) : List AOper → Prop
 | [] => True
 | a :: r => (match a.op with
   | .sto _ y _ => sepG st y l
   | .mup _ y _ _ => sepG st y l
   | _ => True) ∧ sepQ st l r
theorem sepQ_mem {st : St} {l : List AOper} {a : AOper} : ∀ {r : List AOper}, sepQ st l r → a ∈ r → a.op.late = true → ∀ y, a.op.xs.head? = some y → sepG st y l
 | [], _, h, _, _, _ => by cases h
 | b :: r, hs, h, hl, y, hy => by
   rcases List.mem_cons.1 h with rfl | h
   ·have := hs.1
    cases ho : a.op <;> simp only [ho, AOp.late, Bool.false_eq_true] at hl <;> simp only [ho, AOp.xs, List.head?_cons, Option.some.injEq] at hy this <;> (subst hy; exact this)
   ·exact sepQ_mem hs.2 h hl y hy
theorem sepQ_P {st : St} {l : List AOper} (h : sepQ st l l) : sepP l st := fun ak hk hl y hy => sepQ_mem h hk hl y hy
theorem k_headS {m : Nat} {ops : List AOper} (e : evHead P h.nx (h.bump ops.length) (ops.take m) 0 st (h.bump ops.length) fun st' h' => SepK (ops.take m) st' (evOps P h.nx (ops.drop m) m st' h' K)) : W P N (.head m ops) (athen K Q) st h :=
 w_head (evHead_mono (fun _ _ q => ⟨q.sep, q.go⟩) e)
theorem k_cond {c : AX} {a b : AC} {t : Bool} (ht : c.val st = .b t) (h1 : t = true → W P N a (athen K Q) st h) (h2 : t = false → W P N b (athen K Q) st h) : W P N (.cond c a b) (athen K Q) st h := w_cond ht h1 h2
theorem w_keep {c : AC} (ks : List Nat) (w : W P N c Q (keep ks st) h) : W P N c Q st h := W.keep ks w
def Blk.ro : Blk → Blk
 | .cells _ cs => .cells false cs
 | .frz cs => .frz cs
 | .map es => .map es
 | .raw R => .raw R
def AH.ro (h : AH) : AH := { h with m := fun t => match h.m t with
 | some (.cells _ cs) => some (.cells false cs)
 | some (.frz cs) => some (.frz cs)
 | _ => none }
theorem AH.ro_row (h : AH) (t : Nat) : h.ro.row t = h.row t := by
 have q : h.ro.m t = match h.m t with
  | some (.cells _ cs) => some (.cells false cs)
  | some (.frz cs) => some (.frz cs)
  | _ => none := rfl
 unfold AH.row
 rw [q]
 rcases h.m t with _ | ⟨w, cs⟩ | cs | es | R <;> rfl
theorem AH.ro_m {h : AH} {t : Nat} {c : Blk} (e : h.ro.m t = some c) : c.wr = false ∧ ((∃ w cs, h.m t = some (.cells w cs) ∧ c = .cells false cs) ∨ ∃ cs, h.m t = some (.frz cs) ∧ c = .frz cs) := by
 unfold AH.ro at e
 simp only at e
 split at e
 ·rename_i w cs hm; cases e; exact ⟨rfl, .inl ⟨w, cs, hm, rfl⟩⟩
 ·rename_i cs hm; cases e; exact ⟨rfl, .inr ⟨cs, hm, rfl⟩⟩
 ·cases e
theorem WRel.ro {ι : Inj} {w : World} (r : WRel ι h w) : WRel ι h.ro w where
 lt := r.lt
 blk t c hc := by
  obtain ⟨_, ⟨wr, cs, hm, rfl⟩ | ⟨cs, hm, rfl⟩⟩ := AH.ro_m hc
  case inr => exact ⟨(r.blk t _ hm).1, (r.blk t _ hm).2⟩
  refine ⟨(r.blk t _ hm).1, ?_⟩
  have hb := (r.blk t _ hm).2
  simp only [BRel] at hb ⊢
  rcases hb with hb | ⟨l, vs, e, fz, h1, h2, h3, h4, h5, h6⟩
  ·exact .inl hb
  ·exact .inr ⟨l, vs, e, fz, h1, h2, h3, h4, (fun q => nomatch q), h6⟩
 inj t t' l l' c c' h1 h2 h3 h4 h5 h6 := by
  obtain ⟨q1, _⟩ := AH.ro_m h1
  obtain ⟨q2, _⟩ := AH.ro_m h2
  rw [q1, q2] at h6
  simp at h6
 pos := r.pos
 nil0 := r.nil0
 phi b xs hb := ⟨(r.phi b xs hb).1, fun t c l hc hw => by rw [(AH.ro_m hc).1] at hw; cases hw⟩
theorem ro_back {ι ι' : Inj} {h0 h' : AH} {w w' : World} (h0w : ∀ t c, h0.m t = some c → c.wr = false) (wr : WRel ι h w) {ι0 : Inj} (h2 : WRel ι' h' w') (h3 : Ext ι0 h0 w ι' h' w') (hp : ι0.φ = ι.φ) :
 (∀ b, b < w.heap.size → w'.heap[b]? = w.heap[b]?) ∧ PhiOk ι.φ ι'.φ w w' none ∧ WRel (ι.ph ι'.φ) h w' ∧ Ext ι h w (ι.ph ι'.φ) h w' := by
 have hkeep : ∀ b, b < w.heap.size → w'.heap[b]? = w.heap[b]? := fun b hb => h3.keep b hb fun t c l hm hc => by
  rw [h0w t c hm] at hc; cases hc
 have hφ : PhiOk ι.φ ι'.φ w w' none := ⟨by rw [← hp]; exact h3.phi, fun b xs hb => by
  rcases h3.new b xs hb with q | q | ⟨t0, c0, l0, q1, q2, _⟩
  ·rw [hp] at q; exact .inl q
  ·exact .inr ⟨q, (h2.phi b xs hb).1, fun l hl => nomatch hl⟩
  ·rw [h0w t0 c0 q1] at q2; cases q2⟩
 refine ⟨hkeep, hφ, ⟨fun t l hl => ⟨(wr.lt t l hl).1, Nat.lt_of_lt_of_le (wr.lt t l hl).2 h3.size⟩, fun t c hc => ⟨(wr.blk t c hc).1, (wr.blk t c hc).2.mono ⟨fun _ _ x => x, hφ.le⟩ rfl fun l hl => hkeep l.b (wr.lt t l hl).2⟩, wr.inj, wr.pos, ⟨wr.nil, h2.nil0.2⟩, fun b xs hb => ⟨(h2.phi b xs hb).1, fun t c l hc hw hl => ?_⟩⟩,
  ⟨Nat.le_refl _, fun _ _ => rfl, h3.os, h3.tape, h3.output, h3.size, fun b hb _ => hkeep b hb, fun t c l hm hc hl => .inr ⟨t, c, l, hm, hc, hl, rfl⟩, hφ.le, fun b xs hb => ?_, h3.drawn⟩⟩
 ·rcases hφ.new b xs hb with q | ⟨q, _⟩
  ·exact (wr.phi b xs q).2 t c l hc hw hl
  ·have := (wr.lt t l hl).2; omega
 ·rcases hφ.new b xs hb with q | ⟨q, _⟩
  ·exact .inl q
  ·exact .inr (.inl q)
theorem AH.ro_wr (h : AH) : ∀ t c, h.ro.m t = some c → c.wr = false := fun _ _ hm => (AH.ro_m hm).1
theorem pure_call {f : Nat} {args : List AV} {R : AV → Prop} (c : ∀ h' : AH, (∀ t, h'.row t = h.row t) → h'.nx = h.nx → ACalls P f args h' fun r _ => R r) (hp : ∀ r, R r → r.plain = true) : ACalls P f args h fun r h' => R r ∧ h' = h := by
 have c := c h.ro h.ro_row rfl
 refine ⟨c.1, fun ι w vs wr hv => Calls.mono (c.2 ι w vs wr.ro hv) fun e w' he => ?_⟩
 revert he; rintro ⟨v, r, h', ι', rfl, hR, h1, h2, h3⟩
 obtain ⟨_, hφ, k1, k2⟩ := ro_back h.ro_wr wr h2 h3 rfl
 exact ⟨v, r, h, ι.ph ι'.φ, rfl, ⟨hR, rfl⟩, plain_rel (ι := ι') (ι' := ι.ph ι'.φ) (fun _ _ x => x) (hp r hR) h1, k1, k2⟩
theorem WRel.empty {ι : Inj} {w : World} (wr : WRel ι h w) : WRel ⟨fun _ => none, ι.φ⟩ ⟨fun _ => none, 1⟩ w where
 lt t l h := by cases h
 blk t c h := by cases h
 inj t t' l l' c c' h := by cases h
 pos := Nat.zero_lt_one
 nil0 := ⟨rfl, wr.nil0.2⟩
 phi b xs hb := ⟨(wr.phi b xs hb).1, fun t c l hc => by cases hc⟩
theorem empty_call {f : Nat} {args : List AV} {R : AV → Prop} (ha : AV.plains args = true) (c : ACalls P f args ⟨fun _ => none, 1⟩ fun r _ => R r) (hp : ∀ r, R r → r.plain = true) (h : AH) : ACalls P f args h fun r h' => R r ∧ h' = h := by
 refine ⟨c.1, fun ι w vs wr hv => ?_⟩
 refine Calls.mono (c.2 ⟨fun _ => none, ι.φ⟩ w vs (WRel.empty wr) (plains_rel (ι := ι) (ι' := ⟨fun _ => none, ι.φ⟩) (fun _ _ x => x) ha hv)) fun e w' he => ?_
 revert he; rintro ⟨v, r, h', ι', rfl, hR, h1, h2, h3⟩
 obtain ⟨_, hφ, k1, k2⟩ := ro_back (ι0 := ⟨fun _ => none, ι.φ⟩) (fun t c h => by cases h) wr h2 h3 rfl
 exact ⟨v, r, h, ι.ph ι'.φ, rfl, ⟨hR, rfl⟩, plain_rel (ι := ι') (ι' := ι.ph ι'.φ) (fun _ _ x => x) (hp r hR) h1, k1, k2⟩
end
end Go.Am
set_option linter.unusedVariables false
set_option linter.unusedSimpArgs false
namespace Go.Am
def IsNew (k : Nat) (n : Nat) (cs : List AV) (s : AV) (h : AH) : Prop := ∃ t o a, s = .sl t o n a ∧ ((t = 0 ∧ n = 0 ∧ cs = []) ∨ ∃ cs0, k = a ∧ h.m t = some (.cells true cs0) ∧ o + n * k ≤ cs0.length ∧ (cs0.drop o).take (n * k) = cs)
theorem isNew_loc {ι' : Inj} {h'' : AH} {w w' : World} {t o a n k : Nat} {cs : List AV} {h0 : AH} {ι0 : Inj} (h0w : ∀ t c, h0.m t = some c → c.wr = false) (hcs : AV.plains cs = true)
 (hs : (t = 0 ∧ n = 0 ∧ cs = []) ∨ ∃ cs0, k = a ∧ h''.m t = some (.cells true cs0) ∧ o + n * k ≤ cs0.length ∧ (cs0.drop o).take (n * k) = cs) (h2 : WRel ι' h'' w') (h3 : Ext ι0 h0 w ι' h'' w') :
 ∃ loc : Option Loc, (∀ l, loc = some l → w.heap.size ≤ l.b ∧ l.b < w'.heap.size ∧ ι'.φ l.b = none) ∧
   (∀ (ι'' : Inj) (tok : Nat), ι'' tok = loc → ∀ u, VRel ι' (.sl t o n a) u → VRel ι'' (.sl tok 0 n k) u) ∧
   (∀ (ι'' : Inj) (tok : Nat), ι'' tok = loc → (∀ b xs, ι'.φ b = some xs → ι''.φ b = some xs) → BRel ι'' w' tok (.cells true cs)) := by
 rcases hs with ⟨rfl, rfl, rfl⟩ | ⟨cs0, rfl, hm, hle, rfl⟩
 ·refine ⟨none, (fun l hl => nomatch hl), fun ι'' tok hi u hu => ?_, fun ι'' tok hi _ => ?_⟩
  ·simp only [VRel] at hu ⊢
   rcases hu with ⟨_, x, rfl⟩ | ⟨l, cap, hl, _⟩
   ·exact .inl ⟨by trivial, x, rfl⟩
   ·rw [h2.nil] at hl; cases hl
  ·exact .inl ⟨rfl, hi⟩
 ·have hb := (h2.blk t _ hm).2
  simp only [BRel] at hb
  rcases hb with ⟨rfl, hn⟩ | ⟨l, vs', e', fz, q1, q2, q3, q4, q5, q6⟩
  ·refine ⟨none, (fun l hl => nomatch hl), fun ι'' tok hi u hu => ?_, fun ι'' tok hi _ => ?_⟩
   ·simp only [VRel] at hu ⊢
    rcases hu with ⟨hn0, x, rfl⟩ | ⟨l, cap, hl, _⟩
    ·exact .inl ⟨hn0, x, rfl⟩
    ·rw [hn] at hl; cases hl
   ·exact .inl ⟨by simp, hi⟩
  ·refine ⟨some ⟨l.b, l.sh + o, l.sz⟩, fun l' hl' => ?_, fun ι'' tok hi u hu => ?_, fun ι'' tok hi hφ => ?_⟩
   ·cases hl'
    refine ⟨?_, (h2.lt t l q1).2, ?_⟩
    ·rcases h3.img t _ l hm rfl q1 with hq | ⟨t0, c0, l0, hm0, hc0, _⟩
     ·exact hq
     ·rw [h0w t0 c0 hm0] at hc0; cases hc0
    ·cases hq : ι'.φ l.b with
     | none => rfl
     | some ys => exact absurd rfl ((h2.phi l.b ys hq).2 t _ l hm rfl q1)
   ·simp only [VRel] at hu ⊢
    rcases hu with hu | ⟨l', cap, hl', rfl, hc, hr⟩
    ·exact .inl hu
    ·rw [q1] at hl'; cases hl'
     exact .inr ⟨_, cap, hi, by simp, hc, by simpa [Nat.add_assoc] using hr⟩
   ·simp only [BRel]
    refine .inr ⟨_, vs', e', fz, hi, q2, q3, ?_, q5, fun i x hx => ?_⟩
    ·simp only [List.length_take, List.length_drop]; omega
    ·have hmem : x ∈ (cs0.drop o).take (n * k) := List.mem_of_getElem? hx
     rw [List.getElem?_take] at hx
     split at hx
     ·rw [List.getElem?_drop] at hx
      obtain ⟨u, hu1, hu2⟩ := q6 _ _ hx
      exact ⟨u, by simpa [Nat.add_assoc] using hu1, plain_rel hφ (plains_mem hcs hmem) hu2⟩
     ·cases hx
theorem fresh_call {P : Program} {f : Nat} {args : List AV} {h : AH} {p : Option (List AV × List AV)} {n k : Nat} {cs : List AV} (hpl : plugOk p = true) (hcs : AV.plains cs = true)
 (c : ∀ h' : AH, (∀ t, h'.row t = h.row t) → h'.nx = h.nx → ACalls P f args h' fun r h'' => ∃ s, r = plug p s ∧ IsNew k n cs s h'') : FCalls P f args h p n k cs := by
 have c := c h.ro h.ro_row rfl
 refine ⟨c.1, fun ι w vs wr hv => Calls.mono (c.2 ι w vs wr.ro hv) fun e w' he => ?_⟩
 revert he; rintro ⟨v, r, h'', ι', rfl, ⟨s, rfl, t, o, a, rfl, hs⟩, h1, h2, h3⟩
 obtain ⟨hkeep, hφ, _, _⟩ := ro_back h.ro_wr wr h2 h3 rfl
 obtain ⟨loc, hl1, hl2, hl3⟩ := isNew_loc h.ro_wr hcs hs h2 h3
 exact ⟨v, loc, ι'.φ, rfl, fun l hl => ⟨(hl1 l hl).1, (hl1 l hl).2.1⟩, ⟨hφ.le, fun b xs hb => (hφ.new b xs hb).imp id fun ⟨q1, q2, _⟩ => ⟨q1, q2, fun l hl hbb => by rw [← hbb, (hl1 l hl).2.2] at hb; cases hb⟩⟩,
  fun ι'' tok hi hq => ⟨plug_rel hq hpl h1 (hl2 ι'' tok hi), hl3 ι'' tok hi hq⟩, h3.os, h3.tape, h3.output, h3.size, hkeep, h3.drawn⟩
end Go.Am
set_option linter.unusedVariables false
set_option linter.unusedSimpArgs false
namespace Go.Am
abbrev Orc := List (Nat × AV × Option (List AV))
section
variable {P : Program} {orc : Orc} {base : Nat}
variable {N : Nat} {Q : Exit → St → AH → Prop} {K : St → AH → Prop} {st st' st1 : St} {h h' h1 : AH}
end
def AH.read (h : AH) (t o : Nat) (n : Option Nat) : Option AV := match h.row t with
 | some cs => rd cs o n
 | none => none
theorem ev_ld {ρ : AX → AV} {h : AH} {n : Option Nat} {x : AX} : AOp.ev ρ h (.ld n x) = match ρ x with
 | .p t o => h.read t o n
 | .pv cs o => rd cs o n
 | _ => none := by
 simp only [AOp.ev, AH.read]
 cases ρ x <;> rfl
theorem ev_pick (ρ : AX → AV) (H : AH) (c a b : AX) : AOp.ev ρ H (.pick c a b) = match ρ c with
 | .b t => apick t (strip t (ρ a)) (strip (!t) (ρ b))
 | _ => none := rfl
theorem ev_neg (ρ : AX → AV) (H : AH) (x : AX) : AOp.ev ρ H (.neg x) = match ρ x with
 | .i k n => some (.i k (k.wrap (0 - n)))
 | _ => none := rfl
theorem ev_not (ρ : AX → AV) (H : AH) (x : AX) : AOp.ev ρ H (.not x) = match ρ x with
 | .b t => some (.b !t)
 | _ => none := rfl
theorem ev_conv (ρ : AX → AV) (H : AH) (k : IntKind) (x : AX) : AOp.ev ρ H (.conv k x) = match ρ x with
 | .i _ n => some (.i k (k.wrap n))
 | _ => none := rfl
theorem ev_ext (ρ : AX → AV) (H : AH) (x : AX) (i : Nat) : AOp.ev ρ H (.ext x i) = match ρ x with
 | .tu vs => vs[i]?
 | _ => none := rfl
theorem ev_fa (ρ : AX → AV) (H : AH) (x : AX) (off : Nat) : AOp.ev ρ H (.fa x off) = match ρ x with
 | .p t o => some (.p t (o + off))
 | .pv cs o => some (.pv cs (o + off))
 | _ => none := rfl
theorem ev_fld (ρ : AX → AV) (H : AH) (x : AX) (off : Nat) (n : Option Nat) : AOp.ev ρ H (.fld x off n) = match ρ x with
 | .ag cs => rd cs off n
 | _ => none := rfl
theorem ev_ia (ρ : AX → AV) (H : AH) (k : Nat) (x i : AX) : AOp.ev ρ H (.ia k x i) = match ρ x, ρ i with
 | .sl t o n _, .i _ j => if 0 ≤ j ∧ j < n then some (.p t (o + j.toNat * k)) else none
 | .vs n cs, .i _ j => if 0 ≤ j ∧ j < n then some (.pv cs (j.toNat * k)) else none
 | _, _ => none := rfl
theorem ev_iap (ρ : AX → AV) (H : AH) (n k : Nat) (x i : AX) : AOp.ev ρ H (.iap n k x i) = match ρ x, ρ i with
 | .p t o, .i _ j => if 0 ≤ j ∧ j < n then some (.p t (o + j.toNat * k)) else none
 | .pv cs o, .i _ j => if 0 ≤ j ∧ j < n then some (.pv cs (o + j.toNat * k)) else none
 | _, _ => none := rfl
theorem ev_iv (ρ : AX → AV) (H : AH) (n k : Nat) (g : Bool) (x i : AX) : AOp.ev ρ H (.iv n k g x i) = match ρ x, ρ i with
 | .ag cs, .i _ j => if 0 ≤ j ∧ j < n ∧ n * k ≤ cs.length then (if g then some (.ag ((cs.drop (j.toNat * k)).take k)) else cs[j.toNat * k]?) else none
 | _, _ => none := rfl
theorem ev_sli (ρ : AX → AV) (H : AH) (k : Nat) (x : AX) (lo hi : Option AX) : AOp.ev ρ H (.sli k x lo hi) = match ρ x with
 | .sl t o n a => match bound ρ 0 lo, bound ρ n hi with
   | some l, some h => if l ≤ h ∧ h ≤ n then some (.sl t (o + l * k) (h - l) (if a = k then k else 0)) else none
   | _, _ => none
 | .vs n cs => match bound ρ 0 lo, bound ρ n hi with
   | some l, some h => if l ≤ h ∧ h ≤ n then some (.vs (h - l) (vsub k lo hi l h cs)) else none
   | _, _ => none
 | _ => none := rfl
theorem ev_slp (ρ : AX → AV) (H : AH) (n k : Nat) (x : AX) (lo hi : Option AX) : AOp.ev ρ H (.slp n k x lo hi) = match ρ x with
 | .p t o => match bound ρ 0 lo, bound ρ n hi with
   | some l, some h => if l ≤ h ∧ h ≤ n then some (.sl t (o + l * k) (h - l) 0) else none
   | _, _ => none
 | .pv cs o => match bound ρ 0 lo, bound ρ n hi with
   | some l, some h => if l ≤ h ∧ h ≤ n then some (.vs (h - l) ((cs.drop (o + l * k)).take ((h - l) * k))) else none
   | _, _ => none
 | _ => none := rfl
theorem ev_nck (ρ : AX → AV) (H : AH) (x : AX) : AOp.ev ρ H (.nck x) = match ρ x with
 | .p t o => some (.p t o)
 | .pv cs o => some (.pv cs o)
 | .fn f a b => some (.fn f a b)
 | _ => none := rfl
theorem ev_bld (ρ : AX → AV) (H : AH) (zero : List AV) (parts : List (Nat × Nat × AX)) : AOp.ev ρ H (.bld zero parts) = (afill ρ zero parts).map .ag := rfl
theorem ev_len (ρ : AX → AV) (H : AH) (x : AX) : AOp.ev ρ H (.len x) = match ρ x with
 | .sl _ _ n _ => some (.i .i64 n)
 | .vs n _ => some (.i .i64 n)
 | _ => none := rfl
theorem ev_eqn (ρ : AX → AV) (H : AH) (ng : Bool) (x y : AX) : AOp.ev ρ H (.eqn ng x y) = match isNil (ρ x), isNil (ρ y) with
 | some true, some t => some (.b (t != ng))
 | some false, some true => some (.b ng)
 | _, _ => none := rfl
theorem read_bump (h : AH) (k t o : Nat) (n : Option Nat) : (h.bump k).read t o n = h.read t o n := rfl
theorem read_set_same (h : AH) (t : Nat) (w : Bool) (cs : List AV) (o : Nat) (n : Option Nat) : (h.set t (.cells w cs)).read t o n = rd cs o n := by simp [AH.read, AH.set_row_same]
theorem read_set_ne {h : AH} {t s : Nat} (e : s ≠ t) (b : Blk) (o : Nat) (n : Option Nat) : (h.set t b).read s o n = h.read s o n := by simp [AH.read, AH.set_row_ne e]
theorem read_kill_ne {h : AH} {t s : Nat} (e : s ≠ t) (o : Nat) (n : Option Nat) : (h.kill t).read s o n = h.read s o n := by simp [AH.read, AH.kill_row_ne e]
theorem vsub_nn (k l h : Nat) (cs : List AV) : vsub k none none l h cs = cs := rfl
theorem vsub_sn (k l h : Nat) (x : AX) (cs : List AV) : vsub k (some x) none l h cs = cs.drop (l * k) := rfl
theorem vsub_ns (k l h : Nat) (x : AX) (cs : List AV) : vsub k none (some x) l h cs = cs.take (h * k) := rfl
theorem vsub_ss (k l h : Nat) (x y : AX) (cs : List AV) : vsub k (some x) (some y) l h cs = (cs.drop (l * k)).take ((h - l) * k) := rfl
theorem read_row {h : AH} {t : Nat} {cs : List AV} (e : h.row t = some cs) (o : Nat) (n : Option Nat) : h.read t o n = rd cs o n := by simp [AH.read, e]
theorem wrap64 {n : Int} (h1 : -9223372036854775808 ≤ n) (h2 : n ≤ 9223372036854775807) : IntKind.i64.wrap n = n := IntWalk.i64_in n ⟨h1, h2⟩
theorem initSt0 : initSt [] = [] := rfl
theorem initSt1 (a : AV) : initSt [a] = [(0, a)] := rfl
theorem initSt2 (a b : AV) : initSt [a, b] = [(0, a), (1, b)] := rfl
theorem initSt3 (a b c : AV) : initSt [a, b, c] = [(0, a), (1, b), (2, c)] := rfl
theorem initSt5 (a b c d e : AV) : initSt [a, b, c, d, e] = [(0, a), (1, b), (2, c), (3, d), (4, e)] := rfl
theorem pick_and (t p : Bool) : apick t (.b p) (.b false) = some (.b (t && p)) := by cases t <;> rfl
theorem pick_or (t q : Bool) : apick t (.b true) (.b q) = some (.b (t || q)) := by cases t <;> rfl
theorem strip_self (g : Bool) (v : AV) : strip g (.gd g v) = v := by cases g <;> rfl
theorem strip_b (g b : Bool) : strip g (.b b) = .b b := rfl
theorem strip_i (g : Bool) (k : IntKind) (n : Int) : strip g (.i k n) = .i k n := rfl
theorem strip_p (g : Bool) (t o : Nat) : strip g (.p t o) = .p t o := rfl
theorem strip_sl (g : Bool) (t o n a : Nat) : strip g (.sl t o n a) = .sl t o n a := rfl
theorem strip_vs (g : Bool) (n : Nat) (cs : List AV) : strip g (.vs n cs) = .vs n cs := rfl
theorem strip_pv (g : Bool) (cs : List AV) (o : Nat) : strip g (.pv cs o) = .pv cs o := rfl
theorem strip_ag (g : Bool) (cs : List AV) : strip g (.ag cs) = .ag cs := rfl
theorem strip_tu (g : Bool) (cs : List AV) : strip g (.tu cs) = .tu cs := rfl
theorem guard_t (b : Bool) : guardOf (.b b) true = some b := by cases b <;> rfl
theorem guard_f (b : Bool) : guardOf (.b b) false = some (!b) := by cases b <;> rfl
def Post (ars : List ARes) (R : AV → AH → Prop) (st : St) (h : AH) : Prop := ∃ vs, ars.mapM (ARes.val st h) = some vs ∧ R (aone vs) h
def Fin (K : St → AH → Prop) (e : Exit) (st : St) (h : AH) : Prop := e = .ret ∧ K st h
theorem a_fn {P : Program} {f : Nat} {ac : AC} {ars : List ARes} {N : Nat} (hf : fnOf P f = some (ac, ars, N)) {args : List AV} {h : AH} {R : AV → AH → Prop} (hN : args.length ≤ N)
 (hw : h.ok → 0 < h.nx → W P N ac (athen (Post ars R) (Fin (Post ars R))) (initSt args) h) : ACalls P f args h R := by
 refine acalls_fn hf hN (w_ok fun ok pos => (hw ok pos).mono fun e st h' q => ?_)
 cases e <;> simp only [athen, Fin, Post, reduceCtorEq, false_and, true_and] at q
 ·exact ⟨.inl rfl, q.imp fun vs hv => ⟨hv.1, h', AH.le_refl _, hv.2⟩⟩
 ·exact ⟨.inr rfl, q.imp fun vs hv => ⟨hv.1, h', AH.le_refl _, hv.2⟩⟩
theorem k_ret {P : Program} {N : Nat} {Q : Exit → St → AH → Prop} {K : St → AH → Prop} {st : St} {h : AH} (q : Q .ret st h) : W P N .ret (athen K Q) st h := w_ret q
theorem kzx {P : Program} {N : Nat} {Q : Exit → St → AH → Prop} {K : St → AH → Prop} {st : St} {h : AH} {id : Nat} (q : Q (.exit id) st h) : W P N (.exit id) (athen K Q) st h := w_exit q
theorem fin {K : St → AH → Prop} {st : St} {h : AH} (q : K st h) : Fin K .ret st h := ⟨rfl, q⟩
theorem post1 {R : AV → AH → Prop} {st : St} {h : AH} {a : Nat} (q : R (st.get a) h) : Post [.t a] R st h := ⟨[st.get a], rfl, q⟩
theorem post2 {R : AV → AH → Prop} {st : St} {h : AH} {a b : Nat} (q : R (.tu [st.get a, st.get b]) h) : Post [.t a, .t b] R st h := ⟨[st.get a, st.get b], rfl, q⟩
theorem post3 {R : AV → AH → Prop} {st : St} {h : AH} {a b c : Nat} (q : R (.tu [st.get a, st.get b, st.get c]) h) : Post [.t a, .t b, .t c] R st h := ⟨[st.get a, st.get b, st.get c], rfl, q⟩
theorem postc {R : AV → AH → Prop} {st : St} {h : AH} {a : Nat} {k : Option Nat} {t o : Nat} {v : AV} (e : st.get a = .p t o) (e2 : h.read t o k = some v) (q : R v h) : Post [.c a k] R st h := by
 have e3 : ARes.val st h (.c a k) = some v := by
  unfold ARes.val
  simp only [e]
  exact e2
 exact ⟨[v], by simp [e3], q⟩
theorem k_blk {P : Program} {N : Nat} {Q : Exit → St → AH → Prop} {K : St → AH → Prop} {st : St} {h : AH} {id : Nat} {b : AC} (q : W P N b (athen K (ablk id (athen K Q))) st h) : W P N (.blk id b) (athen K Q) st h :=
 w_blk (q.mono fun e st h he => by cases e <;> exact he)
theorem kzo {Q : Exit → St → AH → Prop} {K : St → AH → Prop} {st : St} {h : AH} {id : Nat} (q : K st h) : ablk id (athen K Q) (.exit id) st h := by simpa [ablk, athen] using q
theorem thru {K : St → AH → Prop} {Q : Exit → St → AH → Prop} {st : St} {h : AH} {id : Nat} (q : Q (.exit id) st h) : athen K Q (.exit id) st h := q
theorem pass {Q : Exit → St → AH → Prop} {st : St} {h : AH} {id id' : Nat} (hne : id' ≠ id) (q : Q (.exit id') st h) : ablk id Q (.exit id') st h := by simpa [ablk, hne] using q
theorem kzb {Q : Exit → St → AH → Prop} {K : St → AH → Prop} {st : St} {h : AH} {id : Nat} (q : Q .ret st h) : ablk id (athen K Q) .ret st h := q
theorem k_loop {P : Program} {N : Nat} {Q : Exit → St → AH → Prop} {K : St → AH → Prop} {st : St} {h : AH} {b : AC} (I : Nat → St → AH → Prop) (n : Nat) (h0 : I n st h)
 (round : ∀ n st h, I n st h → W P N b (athen (fun st' h' => ∃ m, m < n ∧ I m st' h') Q) st h) : W P N (.loop b) (athen K Q) st h :=
 w_loop I n h0 fun n st h hI => (round n st h hI).mono fun e st' h' q => by
  cases e
  case normal => obtain ⟨m, hm, q⟩ := q; exact ⟨m, h', hm, AH.le_refl _, q⟩
  all_goals exact q
end Go.Am
set_option linter.unusedVariables false
set_option linter.unusedSimpArgs false
namespace Go.Am
def cl (n : Nat) (f : Nat → AV) : List AV := (List.range n).map f
theorem cl_len (n : Nat) (f : Nat → AV) : (cl n f).length = n := by simp [cl]
theorem cl_get {n x : Nat} (f : Nat → AV) (h : x < n) : (cl n f)[x]? = some (f x) := by simp [cl, h]
theorem cl_ext {n : Nat} {f g : Nat → AV} (h : ∀ x, x < n → f x = g x) : cl n f = cl n g := by
 unfold cl
 exact List.map_congr_left fun x hx => h x (List.mem_range.1 hx)
theorem list_cl {l : List AV} {n : Nat} {f : Nat → AV} (hl : l.length = n) (h : ∀ x, x < n → l[x]? = some (f x)) : l = cl n f := by
 refine List.ext_getElem? fun i => ?_
 by_cases hi : i < n
 ·rw [h i hi, cl_get f hi]
 ·rw [List.getElem?_eq_none (by omega), List.getElem?_eq_none (by rw [cl_len]; omega)]
theorem cl_set (n x : Nat) (f : Nat → AV) (v : AV) : (cl n f).set x v = cl n fun y => if y = x then v else f y := by
 refine list_cl (by simp [cl_len]) fun y hy => ?_
 rw [List.getElem?_set]
 by_cases e : x = y
 ·subst e; simp [cl_len, hy]
 ·rw [if_neg e, if_neg (fun h => e h.symm), cl_get f hy]
theorem cl_app (n m : Nat) (f g : Nat → AV) : cl n f ++ cl m g = cl (n + m) fun x => if x < n then f x else g (x - n) := by
 refine list_cl (by simp [cl_len]) fun x hx => ?_
 by_cases h : x < n
 ·rw [List.getElem?_append_left (by rw [cl_len]; exact h), cl_get f h, if_pos h]
 ·rw [List.getElem?_append_right (by rw [cl_len]; omega), cl_len, cl_get g (by omega), if_neg h]
theorem cl_drop (n a : Nat) (f : Nat → AV) : (cl n f).drop a = cl (n - a) fun x => f (a + x) := by
 refine list_cl (by simp [cl_len]) fun x hx => ?_
 rw [List.getElem?_drop, cl_get f (by omega)]
theorem cl_take {n a : Nat} (f : Nat → AV) (h : a ≤ n) : (cl n f).take a = cl a f := by
 refine list_cl (by simp [cl_len]; omega) fun x hx => ?_
 rw [List.getElem?_take_of_lt hx, cl_get f (by omega)]
theorem cl_all (n : Nat) (f : Nat → AV) (p : AV → Bool) (h : ∀ x, x < n → p (f x) = true) : (cl n f).all p = true := by
 simp only [cl, List.all_map, List.all_eq_true, List.mem_range]
 exact h
theorem cl_one_i (n : Nat) (k : IntKind) (f : Nat → Int) : (cl n fun x => .i k (f x)).all AV.one = true := cl_all _ _ _ fun _ _ => rfl
theorem cl_one_b (n : Nat) (f : Nat → Bool) : (cl n fun x => .b (f x)).all AV.one = true := cl_all _ _ _ fun _ _ => rfl
theorem cons_cl (v : AV) (n : Nat) (f : Nat → AV) : v :: cl n f = cl (n + 1) fun x => if x = 0 then v else f (x - 1) := by
 refine list_cl (by simp [cl_len]) fun x hx => ?_
 cases x with
 | zero => simp
 | succ x => simp only [List.getElem?_cons_succ]; rw [cl_get f (by omega), if_neg (by omega)]; simp
theorem row_m {h : AH} {t : Nat} {w : Bool} {cs : List AV} (e : h.m t = some (.cells w cs)) : h.row t = some cs := by simp [AH.row, e]
theorem AH.ok.m {h : AH} (ok : h.ok) {t : Nat} {b : Blk} (r : h.m t = some b) : t < h.nx := ok _ _ r
theorem cl_snoc (n : Nat) (f : Nat → AV) (v : AV) : cl n f ++ [v] = cl (n + 1) fun x => if x < n then f x else v := cl_app n 1 f fun _ => v
theorem cl_set_i (k : IntKind) (n x : Nat) (f : Nat → Int) (v : Int) : (cl n fun x => .i k (f x)).set x (.i k v) = cl n fun y => .i k (if y = x then v else f y) := by
 rw [cl_set]; refine cl_ext fun y hy => ?_; split <;> rfl
theorem cl_app_i (k : IntKind) (n m : Nat) (f g : Nat → Int) : (cl n fun x => .i k (f x)) ++ (cl m fun x => .i k (g x)) = cl (n + m) fun x => .i k (if x < n then f x else g (x - n)) := by
 rw [cl_app]; refine cl_ext fun y hy => ?_; split <;> rfl
theorem cl_snoc_i (k : IntKind) (n : Nat) (f : Nat → Int) (v : Int) : (cl n fun x => .i k (f x)) ++ [.i k v] = cl (n + 1) fun x => .i k (if x < n then f x else v) := by
 rw [cl_snoc]; refine cl_ext fun y hy => ?_; split <;> rfl
theorem cons_cl_i (k : IntKind) (n : Nat) (f : Nat → Int) (v : Int) : .i k v :: (cl n fun x => .i k (f x)) = cl (n + 1) fun x => .i k (if x = 0 then v else f (x - 1)) := by
 rw [cons_cl]; refine cl_ext fun y hy => ?_; split <;> rfl
theorem cl_set_b (n x : Nat) (f : Nat → Bool) (v : Bool) : (cl n fun x => .b (f x)).set x (.b v) = cl n fun y => .b (if y = x then v else f y) := by
 rw [cl_set]; refine cl_ext fun y hy => ?_; split <;> rfl
theorem cl_app_b (n m : Nat) (f g : Nat → Bool) : (cl n fun x => .b (f x)) ++ (cl m fun x => .b (g x)) = cl (n + m) fun x => .b (if x < n then f x else g (x - n)) := by
 rw [cl_app]; refine cl_ext fun y hy => ?_; split <;> rfl
theorem cl_snoc_b (n : Nat) (f : Nat → Bool) (v : Bool) : (cl n fun x => .b (f x)) ++ [.b v] = cl (n + 1) fun x => .b (if x < n then f x else v) := by
 rw [cl_snoc]; refine cl_ext fun y hy => ?_; split <;> rfl
theorem cons_cl_b (n : Nat) (f : Nat → Bool) (v : Bool) : .b v :: (cl n fun x => .b (f x)) = cl (n + 1) fun x => .b (if x = 0 then v else f (x - 1)) := by
 rw [cons_cl]; refine cl_ext fun y hy => ?_; split <;> rfl
theorem toNat_succ (n : Nat) : ((n : Int) + 1).toNat = n + 1 := rfl
theorem k_inv {P : Program} {N : Nat} {c : AC} {Q : Exit → St → AH → Prop} {st s' : St} {h : AH} {ks : List Nat} (e : Am.keep ks st = s') (w : W P N c Q s' h) : W P N c Q st h := w_keep ks (by rw [e]; exact w)
theorem toNat_cast (n : Nat) : (n : Int).toNat = n := rfl
end Go.Am
set_option linter.unusedVariables false
set_option linter.unusedSimpArgs false
namespace Go.Am
def AH.nil : AH := ⟨fun _ => none, 1⟩
end Go.Am
set_option linter.unusedVariables false
set_option linter.unusedSimpArgs false
namespace Go.Am
open Go.ChangeShapes Go.WideShapes
inductive Kd where
 | i (k : IntKind)
 | b
 | s
def Kd.ok : Kd → Value → Prop
 | .i k, v => ∃ n, v = .int k n ∧ (Lit.int k n).wf = true
 | .b, v => ∃ x, v = .bool x
 | .s, v => ∃ x, v = .string x
section
variable {H : Type} {enc : TypeId × Value → H} {P : Program} {w : World} {base : Nat} {spare : Nat → Bool} {held : Bool}
end
end Go.Am
set_option linter.unusedVariables false
set_option linter.unusedSimpArgs false
namespace Go.Am
def AOp.isCall : AOp → Bool
 | .call .. | .eqz .. => true
 | _ => false
def AOp.isApp : AOp → Bool
 | .app .. => true
 | _ => false
def stepU (tok : Nat) (o : AOper) (st : St) (h : AH) : Option (St × AH) :=
 match o.g with
 | none => stepA tok o.d o.op st h
 | some (s, want) => match guardOf (st.get s) want with
   | none => none
   | some g =>
     if o.op.isVal = true then
      (if g = true then (o.op.ev (AX.val (stS g st)) h).map fun v => (put o.d (.gd g v) st, h)
       else some (put o.d (.gd g ((o.op.ev (AX.val (stS g st)) h).getD .un)) st, h))
     else if o.op.isAl = true then
      (if g = true then (o.op.al (AX.val (stS g st)) tok).map fun p => (put o.d (.gd g p.1) st, h.set tok (.cells true p.2))
       else some (put o.d (.gd g .un) st, h))
     else if o.op.isCall = true then none
     else if g = true then stepA tok o.d o.op (stS true st) h else some (put o.d (.gd g .un) st, h)
inductive Res where
 | done (st : St) (h : AH)
 | call (o : AOper) (os : List AOper) (i : Nat) (st : St) (h : AH)
 | bad
def runS (hd : Bool) (base : Nat) : List AOper → Nat → Option (St × AH) → Res
 | _, _, none => .bad
 | [], _, some (st, h) => .done st h
 | o :: os, i, some (st, h) => if (o.op.isCall || (o.op.isApp && hd)) = true then .call o os i st h else runS hd base os (i + 1) (stepU (base + i) o st h)
def evR (P : Program) (base : Nat) : Res → (St → AH → Prop) → Prop
 | .done st h, K => K st h
 | .call o os i st h, K => evG P (base + i) o st h fun st h => evOps P base os (i + 1) st h K
 | .bad, _ => False
def evHR (P : Program) (base : Nat) (hb : AH) : Res → (St → AH → Prop) → Prop
 | .done st h, K => K st h
 | .call o os i st h, K => evHG P (base + i) hb o st h fun st h => evHead P base hb os (i + 1) st h K
 | .bad, _ => False
theorem evG_stepU {P : Program} {tok : Nat} {o : AOper} {st st' : St} {h h' : AH} (e : stepU tok o st h = some (st', h')) {K : St → AH → Prop} (k : K st' h') : evG P tok o st h K := by
 obtain ⟨d, og, op⟩ := o
 cases og with
 | none => exact evA_step (by simpa only [stepU] using e) k
 | some sw =>
   obtain ⟨s, want⟩ := sw
   simp only [stepU] at e
   simp only [evG]
   cases hq : guardOf (st.get s) want with
   | none => simp only [hq, reduceCtorEq] at e
   | some g =>
     simp only [hq] at e ⊢
     by_cases h3 : g = true ∧ op.isVal = false ∧ op.isAl = false ∧ op.isCall = false
     ·obtain ⟨rfl, h4, h5, h6⟩ := h3
      simp only [h4, h5, h6, Bool.false_eq_true, if_false, if_true] at e
      exact .inr ⟨rfl, evA_step e k⟩
     refine .inl ?_
     cases op <;> simp only [AOp.isVal, AOp.isAl, AOp.isCall, if_true, if_false, Bool.false_eq_true, reduceCtorEq, and_self, and_true, not_true_eq_false, Bool.not_eq_true] at e h3 <;> simp only [evC, AOp.isVal, AOp.isAl, if_true, if_false, Bool.false_eq_true] <;> first | (subst h3; simp only [if_false, Bool.false_eq_true, Option.some.injEq, Prod.mk.injEq] at e; obtain ⟨e1, e2⟩ := e; subst e1; subst e2; exact ⟨fun hg => absurd hg Bool.false_ne_true, fun _ => k⟩) | skip <;> cases g <;>
      simp only [if_true, if_false, Bool.false_eq_true, Option.map_eq_some_iff, Option.some.injEq, Prod.mk.injEq, reduceCtorEq] at e <;>
      first
       | (obtain ⟨e1, e2⟩ := e; subst e1; subst e2; exact ⟨_, fun hg => absurd hg Bool.false_ne_true, k⟩)
       | (obtain ⟨a, ha, e1, e2⟩ := e; subst e1; subst e2; exact ⟨a, fun _ => ha, k⟩)
       | (obtain ⟨e1, e2⟩ := e; subst e1; subst e2; exact ⟨fun hg => absurd hg Bool.false_ne_true, fun _ => k⟩)
       | (obtain ⟨a, ha, e1, e2⟩ := e; subst e1; subst e2; exact ⟨fun _ => by rw [ha]; exact k, fun hg => absurd hg (by simp)⟩)
theorem evHG_stepU {P : Program} {tok : Nat} {hb : AH} {o : AOper} (hq' : o.op.quiet = true) (hl : (!o.op.late || o.g.isNone) = true) {st st' : St} {h h' : AH} (e : stepU tok o st h = some (st', h')) {K : St → AH → Prop} (k : K st' h') : evHG P tok hb o st h K := by
 obtain ⟨d, og, op⟩ := o
 cases og with
 | none => exact evHA_step hq' (by simpa only [stepU] using e) k
 | some sw =>
   obtain ⟨s, want⟩ := sw
   simp only [stepU] at e
   simp only [evHG]
   cases hq : guardOf (st.get s) want with
   | none => simp only [hq, reduceCtorEq] at e
   | some g =>
     simp only [hq] at e ⊢
     cases op <;> simp only [AOp.quiet, AOp.late, Bool.not_true, Bool.not_false, Bool.false_or, Option.isNone, Bool.false_eq_true] at hq' hl <;> simp only [AOp.isVal, AOp.isAl, AOp.isCall, if_true, if_false, Bool.false_eq_true, reduceCtorEq] at e <;> simp only [evHC, AOp.isVal, AOp.isAl, if_true, if_false, Bool.false_eq_true] <;> cases g <;>
      simp only [if_true, if_false, Bool.false_eq_true, Option.map_eq_some_iff, Option.some.injEq, Prod.mk.injEq, reduceCtorEq] at e <;>
      first
       | (obtain ⟨e1, e2⟩ := e; subst e1; subst e2; exact ⟨_, fun hg => absurd hg Bool.false_ne_true, k⟩)
       | (obtain ⟨a, ha, e1, e2⟩ := e; subst e1; subst e2; exact ⟨a, fun _ => ha, k⟩)
       | (obtain ⟨e1, e2⟩ := e; subst e1; subst e2; exact ⟨fun hg => absurd hg Bool.false_ne_true, fun _ => k⟩)
       | (obtain ⟨a, ha, e1, e2⟩ := e; subst e1; subst e2; exact ⟨fun _ => by rw [ha]; exact k, fun hg => absurd hg (by simp)⟩)
theorem runS_none (hd : Bool) (base : Nat) : ∀ (os : List AOper) (i : Nat), runS hd base os i none = .bad
 | [], _ => rfl
 | _ :: _, _ => rfl
section
variable {P : Program} {base i : Nat} {hb : AH} {K : St → AH → Prop} {st st' : St} {h h' : AH} {R : Res}
theorem s_go : ∀ {ops : List AOper} {i : Nat} {st : St} {h : AH} (e : runS false base ops i (some (st, h)) = R) (k : evR P base R K), evOps P base ops i st h K
 | [], i, st, h, e, k => by simp only [runS] at e; subst e; exact k
 | o :: os, i, st, h, e, k => by
   simp only [runS] at e
   split at e
   ·subst e; exact k
   ·simp only [evOps]
    cases hs : stepU (base + i) o st h with
    | none => rw [hs, runS_none] at e; subst e; exact k.elim
    | some p =>
      obtain ⟨st1, h1⟩ := p
      rw [hs] at e
      exact evG_stepU hs (s_go e k)
theorem h_go : ∀ {ops : List AOper} (hq : ops.all (fun o => (o.op.quiet && (!o.op.late || o.g.isNone)) || o.op.isApp) = true) {i : Nat} {st : St} {h : AH} (e : runS true base ops i (some (st, h)) = R) (k : evHR P base hb R K), evHead P base hb ops i st h K
 | [], _, i, st, h, e, k => by simp only [runS] at e; subst e; exact k
 | o :: os, hq, i, st, h, e, k => by
   simp only [runS] at e
   simp only [List.all_cons, Bool.and_eq_true] at hq
   split at e
   ·subst e; exact k
   ·simp only [evHead]
    cases hs : stepU (base + i) o st h with
    | none => rw [hs, runS_none] at e; subst e; exact k.elim
    | some p =>
      obtain ⟨st1, h1⟩ := p
      rw [hs] at e
      rename_i hst
      have hq1 : o.op.quiet = true ∧ (!o.op.late || o.g.isNone) = true := by
       have := hq.1
       cases ho : o.op <;> simp_all [AOp.quiet, AOp.isApp, AOp.isCall, AOp.late]
      exact evHG_stepU hq1.1 hq1.2 hs (h_go hq.2 e k)
theorem r_done (k : K st h) : evR P base (.done st h) K := k
theorem hr_done (k : K st h) : evHR P base hb (.done st h) K := k
variable {d : Option Nat} {f : AX} {args : List AX} {os : List AOper} {fid j : Nat} {fst caps az : List AV} {v : AV} {s : Nat} {want g : Bool}
theorem kzr {o : AOper} (e : evR P base (.call o os i st h) K) : evR P base (.call o os i st h) K := e
theorem kzh {o : AOper} (e : evHR P base hb (.call o os i st h) K) : evHR P base hb (.call o os i st h) K := e
theorem r_callP (hf : f.val st = .fn fid fst caps) (ha : fst ++ args.map (AX.val st) ++ caps = az) (c : ACalls P fid az h fun r h' => r = v ∧ h' = h) (hj : i + 1 = j) (k : evOps P base os j (put d v st) h K) :
 evR P base (.call ⟨d, none, .call f args⟩ os i st h) K := by
 subst ha; subst hj
 simp only [evR, evG, evA, hf]
 exact .inl (c.mono fun r h' ⟨hr, hh⟩ => by subst hr; subst hh; exact k)
theorem r_callN {p : Option (List AV × List AV)} {n k' : Nat} {cs : List AV} (hf : f.val st = .fn fid fst caps) (ha : fst ++ args.map (AX.val st) ++ caps = az) (c : FCalls P fid az h p n k' cs) (hj : i + 1 = j)
 (k : evOps P base os j (put d (plug p (.sl (base + i) 0 n k')) st) (h.set (base + i) (.cells true cs)) K) :
 evR P base (.call ⟨d, none, .call f args⟩ os i st h) K := by
 subst ha; subst hj
 simp only [evR, evG, evA, hf]
 exact .inr ⟨p, n, k', cs, c, k⟩
theorem r_callX {R : AV → AH → Prop} (hf : f.val st = .fn fid fst caps) (ha : fst ++ args.map (AX.val st) ++ caps = az) (c : ACalls P fid az h R) (hj : i + 1 = j) (k : ∀ r h', R r h' → evOps P base os j (put d r st) h' K) :
 evR P base (.call ⟨d, none, .call f args⟩ os i st h) K := by
 subst ha; subst hj
 simp only [evR, evG, evA, hf]
 exact .inl (c.mono k)
theorem r_callG (hg : guardOf (st.get s) want = some g) (hf : f.val (stS g st) = .fn fid fst caps) (ha : fst ++ args.map (AX.val (stS g st)) ++ caps = az) (c : g = true → ACalls P fid az h fun r h' => r = v ∧ h' = h) (hj : i + 1 = j)
 (k : evOps P base os j (put d (.gd g v) st) h K) : evR P base (.call ⟨d, some (s, want), .call f args⟩ os i st h) K := by
 subst ha; subst hj
 simp only [evR, evG, hg, evC, hf]
 exact .inl ⟨v, c, k⟩
theorem r_callF (hg : guardOf (st.get s) want = some g) (hg2 : g = false) (hf : f.val (stS false st) = .fn fid fst caps) (hj : i + 1 = j)
 (k : evOps P base os j (put d (.gd false .un) st) h K) : evR P base (.call ⟨d, some (s, want), .call f args⟩ os i st h) K := by
 subst hj; subst hg2
 simp only [evR, evG, hg, evC, hf]
 exact .inl ⟨.un, fun q => (nomatch q), k⟩
theorem r_callTX {R : AV → AH → Prop} (hg : guardOf (st.get s) want = some true) (hf : f.val (stS true st) = .fn fid fst caps) (ha : fst ++ args.map (AX.val (stS true st)) ++ caps = az) (c : ACalls P fid az h R) (hj : i + 1 = j) (k : ∀ r h', R r h' → evOps P base os j (put d r (stS true st)) h' K) :
 evR P base (.call ⟨d, some (s, want), .call f args⟩ os i st h) K := by
 subst ha; subst hj
 simp only [evR, evG, hg, evA, hf]
 exact .inr ⟨trivial, .inl (c.mono k)⟩
theorem hr_app {kk b : Nat} {x y : AX} {cs : List AV} (e : h.qpp kk b (base + i) (x.val st) (y.val st) = some (v, cs)) (hj : i + 1 = j) (k : evHead P base hb os j (put d v st) (h.set (base + i) (.cells true cs)) K) :
 evHR P base hb (.call ⟨d, none, .app kk b x y⟩ os i st h) K := by
 subst hj
 simp only [evHR, evHG, evHA, e]
 exact k
theorem hr_callP (hf : f.val st = .fn fid fst caps) (ha : fst ++ args.map (AX.val st) ++ caps = az) (c : ACalls P fid az hb fun r h' => r = v ∧ h' = hb) (hj : i + 1 = j) (k : evHead P base hb os j (put d v st) h K) :
 evHR P base hb (.call ⟨d, none, .call f args⟩ os i st h) K := by
 subst ha; subst hj
 simp only [evHR, evHG, evHA, hf]
 exact ⟨[], v, none, (fun _ h => nomatch h), .inl ⟨rfl, c⟩, k⟩
def firstTok : List AV → Option Nat
 | [] => none
 | .sl t _ n _ :: r => if n = 0 then firstTok r else some t
 | _ :: r => firstTok r
theorem firstTok_mem : ∀ {l : List AV} {t : Nat}, firstTok l = some t → ∃ v ∈ l, v.tok = some t
 | v :: r, t, e => by
   have up : firstTok r = some t → ∃ v' ∈ v :: r, v'.tok = some t := fun h => by
    obtain ⟨x, h1, h2⟩ := firstTok_mem h
    exact ⟨x, List.mem_cons_of_mem _ h1, h2⟩
   cases v
   case sl t' o n a =>
    simp only [firstTok] at e
    split at e
    ·exact up e
    ·rename_i h0
     cases e
     exact ⟨_, List.mem_cons_self, by simp only [AV.tok, if_neg h0]⟩
   all_goals exact up e
theorem hr_callP1 {t : Nat} (hf : f.val st = .fn fid fst caps) (ha : fst ++ args.map (AX.val st) ++ caps = az) (ht : firstTok (args.map (AX.val st)) = some t) (c : ACalls P fid az (hb.plus h [t]) fun r h' => r = v ∧ h' = hb.plus h [t]) (hj : i + 1 = j) (k : evHead P base hb os j (put d v st) h K) :
 evHR P base hb (.call ⟨d, none, .call f args⟩ os i st h) K := by
 subst ha; subst hj
 simp only [evHR, evHG, evHA, hf]
 refine ⟨[t], v, none, fun s hs => ?_, .inl ⟨rfl, c⟩, k⟩
 obtain ⟨x, h1, h2⟩ := firstTok_mem ht
 obtain ⟨y, h3, rfl⟩ := List.mem_map.1 h1
 rw [List.mem_singleton] at hs
 subst hs
 exact ⟨y, h3, h2⟩
theorem hr_callG (hg : guardOf (st.get s) want = some g) (hf : f.val (stS g st) = .fn fid fst caps) (ha : fst ++ args.map (AX.val (stS g st)) ++ caps = az) (c : g = true → ACalls P fid az hb fun r h' => r = v ∧ h' = hb) (hj : i + 1 = j)
 (k : evHead P base hb os j (put d (.gd g v) st) h K) : evHR P base hb (.call ⟨d, some (s, want), .call f args⟩ os i st h) K := by
 subst ha; subst hj
 simp only [evHR, evHG, hg, evHC, hf]
 exact ⟨v, c, k⟩
theorem hr_callF (hg : guardOf (st.get s) want = some g) (hg2 : g = false) (hf : f.val (stS false st) = .fn fid fst caps) (hj : i + 1 = j)
 (k : evHead P base hb os j (put d (.gd false .un) st) h K) : evHR P base hb (.call ⟨d, some (s, want), .call f args⟩ os i st h) K := by
 subst hj; subst hg2
 simp only [evHR, evHG, hg, evHC, hf]
 exact ⟨.un, fun q => (nomatch q), k⟩
end
section
variable {P : Program} {N : Nat} {Q : Exit → St → AH → Prop} {K : St → AH → Prop} {st : St} {h : AH}
theorem kzt (q : Q .ret st h) : athen K Q .ret st h := q
theorem kzS {id : Nat} {a b : AC} (q : W P N (.seq a b) (athen K (ablk id (athen K Q))) st h) : W P N (.blk id (.seq a b)) (athen K Q) st h := k_blk q
theorem k_condP {c : AX} {a b : AC} {t : Bool} {p : Prop} (ht : c.val st = .b t) (hp : (t = true) = p) (h1 : p → W P N a (athen K Q) st h) (h2 : ¬ p → W P N b (athen K Q) st h) : W P N (.cond c a b) (athen K Q) st h :=
 k_cond ht (fun q => h1 (hp ▸ q)) (fun q => h2 (hp ▸ by simp [q]))
end
theorem post0 {R : AV → AH → Prop} {st : St} {h : AH} (q : R (.tu []) h) : Post [] R st h := ⟨[], rfl, q⟩
theorem apick_t (x y : AV) : apick true x y = some x := by cases x <;> cases y <;> rfl
theorem apick_f (x y : AV) : apick false x y = some y := by cases x <;> cases y <;> rfl
theorem strip_n (g : Bool) : strip g .nilp = .nilp := rfl
theorem strip_s (g : Bool) (x : ByteArray) : strip g (.s x) = .s x := rfl
theorem strip_fn (g : Bool) (f : Nat) (a b : List AV) : strip g (.fn f a b) = .fn f a b := rfl
theorem strip_mp (g : Bool) (t : Nat) : strip g (.mp t) = .mp t := rfl
theorem strip_nm (g : Bool) : strip g .nilm = .nilm := rfl
theorem strip_nf (g : Bool) : strip g .nilf = .nilf := rfl
end Go.Am
set_option linter.unusedVariables false
set_option linter.unusedSimpArgs false
namespace Go.Am
theorem rs_mv {hd : Bool} {base i : Nat} {os : List AOper} {st : St} {h : AH} {d : Option Nat} (x : AX) : runS hd base (⟨d, none, .mv x⟩ :: os) i (some (st, h)) = runS hd base os (i + 1) ((some (x.val st)).map fun v => (put d v st, h)) := rfl
theorem rg_mv {hd : Bool} {base i : Nat} {os : List AOper} {st : St} {h : AH} {d : Option Nat} {s : Nat} {w : Bool} (x : AX) : runS hd base (⟨d, some (s, w), .mv x⟩ :: os) i (some (st, h)) = match guardOf (st.get s) w with
 | none => .bad
 | some g => runS hd base os (i + 1) (if g = true then (some (x.val (stS g st))).map fun v => (put d (.gd g v) st, h) else some (put d (.gd g ((some (x.val (stS g st))).getD .un)) st, h)) := by
 cases hq : guardOf (st.get s) w <;> simp only [runS, stepU, hq, runS_none, AOp.isCall, AOp.isApp, AOp.isVal, Bool.false_eq_true, Bool.false_and, Bool.or_self, if_false, if_true] <;> rfl
theorem rs_pick {hd : Bool} {base i : Nat} {os : List AOper} {st : St} {h : AH} {d : Option Nat} (c a b : AX) : runS hd base (⟨d, none, .pick c a b⟩ :: os) i (some (st, h)) = runS hd base os (i + 1) ((AOp.ev (AX.val st) h (.pick c a b)).map fun v => (put d v st, h)) := rfl
theorem rg_pick {hd : Bool} {base i : Nat} {os : List AOper} {st : St} {h : AH} {d : Option Nat} {s : Nat} {w : Bool} (c a b : AX) : runS hd base (⟨d, some (s, w), .pick c a b⟩ :: os) i (some (st, h)) = match guardOf (st.get s) w with
 | none => .bad
 | some g => runS hd base os (i + 1) (if g = true then (AOp.ev (AX.val (stS g st)) h (.pick c a b)).map fun v => (put d (.gd g v) st, h) else some (put d (.gd g ((AOp.ev (AX.val (stS g st)) h (.pick c a b)).getD .un)) st, h)) := by
 cases hq : guardOf (st.get s) w <;> simp only [runS, stepU, hq, runS_none, AOp.isCall, AOp.isApp, AOp.isVal, Bool.false_eq_true, Bool.false_and, Bool.or_self, if_false, if_true] <;> rfl
theorem rs_bin {hd : Bool} {base i : Nat} {os : List AOper} {st : St} {h : AH} {d : Option Nat} (bt : Bool) (op : BinOp) (x y : AX) : runS hd base (⟨d, none, .bin bt op x y⟩ :: os) i (some (st, h)) = runS hd base os (i + 1) ((abin bt op (x.val st) (y.val st)).map fun v => (put d v st, h)) := rfl
theorem rg_bin {hd : Bool} {base i : Nat} {os : List AOper} {st : St} {h : AH} {d : Option Nat} {s : Nat} {w : Bool} (bt : Bool) (op : BinOp) (x y : AX) : runS hd base (⟨d, some (s, w), .bin bt op x y⟩ :: os) i (some (st, h)) = match guardOf (st.get s) w with
 | none => .bad
 | some g => runS hd base os (i + 1) (if g = true then (abin bt op (x.val (stS g st)) (y.val (stS g st))).map fun v => (put d (.gd g v) st, h) else some (put d (.gd g ((abin bt op (x.val (stS g st)) (y.val (stS g st))).getD .un)) st, h)) := by
 cases hq : guardOf (st.get s) w <;> simp only [runS, stepU, hq, runS_none, AOp.isCall, AOp.isApp, AOp.isVal, Bool.false_eq_true, Bool.false_and, Bool.or_self, if_false, if_true] <;> rfl
theorem rs_neg {hd : Bool} {base i : Nat} {os : List AOper} {st : St} {h : AH} {d : Option Nat} (x : AX) : runS hd base (⟨d, none, .neg x⟩ :: os) i (some (st, h)) = runS hd base os (i + 1) ((AOp.ev (AX.val st) h (.neg x)).map fun v => (put d v st, h)) := rfl
theorem rg_neg {hd : Bool} {base i : Nat} {os : List AOper} {st : St} {h : AH} {d : Option Nat} {s : Nat} {w : Bool} (x : AX) : runS hd base (⟨d, some (s, w), .neg x⟩ :: os) i (some (st, h)) = match guardOf (st.get s) w with
 | none => .bad
 | some g => runS hd base os (i + 1) (if g = true then (AOp.ev (AX.val (stS g st)) h (.neg x)).map fun v => (put d (.gd g v) st, h) else some (put d (.gd g ((AOp.ev (AX.val (stS g st)) h (.neg x)).getD .un)) st, h)) := by
 cases hq : guardOf (st.get s) w <;> simp only [runS, stepU, hq, runS_none, AOp.isCall, AOp.isApp, AOp.isVal, Bool.false_eq_true, Bool.false_and, Bool.or_self, if_false, if_true] <;> rfl
theorem rs_not {hd : Bool} {base i : Nat} {os : List AOper} {st : St} {h : AH} {d : Option Nat} (x : AX) : runS hd base (⟨d, none, .not x⟩ :: os) i (some (st, h)) = runS hd base os (i + 1) ((AOp.ev (AX.val st) h (.not x)).map fun v => (put d v st, h)) := rfl
theorem rg_not {hd : Bool} {base i : Nat} {os : List AOper} {st : St} {h : AH} {d : Option Nat} {s : Nat} {w : Bool} (x : AX) : runS hd base (⟨d, some (s, w), .not x⟩ :: os) i (some (st, h)) = match guardOf (st.get s) w with
 | none => .bad
 | some g => runS hd base os (i + 1) (if g = true then (AOp.ev (AX.val (stS g st)) h (.not x)).map fun v => (put d (.gd g v) st, h) else some (put d (.gd g ((AOp.ev (AX.val (stS g st)) h (.not x)).getD .un)) st, h)) := by
 cases hq : guardOf (st.get s) w <;> simp only [runS, stepU, hq, runS_none, AOp.isCall, AOp.isApp, AOp.isVal, Bool.false_eq_true, Bool.false_and, Bool.or_self, if_false, if_true] <;> rfl
theorem rs_conv {hd : Bool} {base i : Nat} {os : List AOper} {st : St} {h : AH} {d : Option Nat} (k : IntKind) (x : AX) : runS hd base (⟨d, none, .conv k x⟩ :: os) i (some (st, h)) = runS hd base os (i + 1) ((AOp.ev (AX.val st) h (.conv k x)).map fun v => (put d v st, h)) := rfl
theorem rg_conv {hd : Bool} {base i : Nat} {os : List AOper} {st : St} {h : AH} {d : Option Nat} {s : Nat} {w : Bool} (k : IntKind) (x : AX) : runS hd base (⟨d, some (s, w), .conv k x⟩ :: os) i (some (st, h)) = match guardOf (st.get s) w with
 | none => .bad
 | some g => runS hd base os (i + 1) (if g = true then (AOp.ev (AX.val (stS g st)) h (.conv k x)).map fun v => (put d (.gd g v) st, h) else some (put d (.gd g ((AOp.ev (AX.val (stS g st)) h (.conv k x)).getD .un)) st, h)) := by
 cases hq : guardOf (st.get s) w <;> simp only [runS, stepU, hq, runS_none, AOp.isCall, AOp.isApp, AOp.isVal, Bool.false_eq_true, Bool.false_and, Bool.or_self, if_false, if_true] <;> rfl
theorem rs_ext {hd : Bool} {base i : Nat} {os : List AOper} {st : St} {h : AH} {d : Option Nat} (x : AX) (j : Nat) : runS hd base (⟨d, none, .ext x j⟩ :: os) i (some (st, h)) = runS hd base os (i + 1) ((AOp.ev (AX.val st) h (.ext x j)).map fun v => (put d v st, h)) := rfl
theorem rg_ext {hd : Bool} {base i : Nat} {os : List AOper} {st : St} {h : AH} {d : Option Nat} {s : Nat} {w : Bool} (x : AX) (j : Nat) : runS hd base (⟨d, some (s, w), .ext x j⟩ :: os) i (some (st, h)) = match guardOf (st.get s) w with
 | none => .bad
 | some g => runS hd base os (i + 1) (if g = true then (AOp.ev (AX.val (stS g st)) h (.ext x j)).map fun v => (put d (.gd g v) st, h) else some (put d (.gd g ((AOp.ev (AX.val (stS g st)) h (.ext x j)).getD .un)) st, h)) := by
 cases hq : guardOf (st.get s) w <;> simp only [runS, stepU, hq, runS_none, AOp.isCall, AOp.isApp, AOp.isVal, Bool.false_eq_true, Bool.false_and, Bool.or_self, if_false, if_true] <;> rfl
theorem rs_fa {hd : Bool} {base i : Nat} {os : List AOper} {st : St} {h : AH} {d : Option Nat} (x : AX) (o : Nat) : runS hd base (⟨d, none, .fa x o⟩ :: os) i (some (st, h)) = runS hd base os (i + 1) ((AOp.ev (AX.val st) h (.fa x o)).map fun v => (put d v st, h)) := rfl
theorem rg_fa {hd : Bool} {base i : Nat} {os : List AOper} {st : St} {h : AH} {d : Option Nat} {s : Nat} {w : Bool} (x : AX) (o : Nat) : runS hd base (⟨d, some (s, w), .fa x o⟩ :: os) i (some (st, h)) = match guardOf (st.get s) w with
 | none => .bad
 | some g => runS hd base os (i + 1) (if g = true then (AOp.ev (AX.val (stS g st)) h (.fa x o)).map fun v => (put d (.gd g v) st, h) else some (put d (.gd g ((AOp.ev (AX.val (stS g st)) h (.fa x o)).getD .un)) st, h)) := by
 cases hq : guardOf (st.get s) w <;> simp only [runS, stepU, hq, runS_none, AOp.isCall, AOp.isApp, AOp.isVal, Bool.false_eq_true, Bool.false_and, Bool.or_self, if_false, if_true] <;> rfl
theorem rs_fld {hd : Bool} {base i : Nat} {os : List AOper} {st : St} {h : AH} {d : Option Nat} (x : AX) (o : Nat) (n : Option Nat) : runS hd base (⟨d, none, .fld x o n⟩ :: os) i (some (st, h)) = runS hd base os (i + 1) ((AOp.ev (AX.val st) h (.fld x o n)).map fun v => (put d v st, h)) := rfl
theorem rg_fld {hd : Bool} {base i : Nat} {os : List AOper} {st : St} {h : AH} {d : Option Nat} {s : Nat} {w : Bool} (x : AX) (o : Nat) (n : Option Nat) : runS hd base (⟨d, some (s, w), .fld x o n⟩ :: os) i (some (st, h)) = match guardOf (st.get s) w with
 | none => .bad
 | some g => runS hd base os (i + 1) (if g = true then (AOp.ev (AX.val (stS g st)) h (.fld x o n)).map fun v => (put d (.gd g v) st, h) else some (put d (.gd g ((AOp.ev (AX.val (stS g st)) h (.fld x o n)).getD .un)) st, h)) := by
 cases hq : guardOf (st.get s) w <;> simp only [runS, stepU, hq, runS_none, AOp.isCall, AOp.isApp, AOp.isVal, Bool.false_eq_true, Bool.false_and, Bool.or_self, if_false, if_true] <;> rfl
theorem rs_ia {hd : Bool} {base i : Nat} {os : List AOper} {st : St} {h : AH} {d : Option Nat} (k : Nat) (x y : AX) : runS hd base (⟨d, none, .ia k x y⟩ :: os) i (some (st, h)) = runS hd base os (i + 1) ((AOp.ev (AX.val st) h (.ia k x y)).map fun v => (put d v st, h)) := rfl
theorem rg_ia {hd : Bool} {base i : Nat} {os : List AOper} {st : St} {h : AH} {d : Option Nat} {s : Nat} {w : Bool} (k : Nat) (x y : AX) : runS hd base (⟨d, some (s, w), .ia k x y⟩ :: os) i (some (st, h)) = match guardOf (st.get s) w with
 | none => .bad
 | some g => runS hd base os (i + 1) (if g = true then (AOp.ev (AX.val (stS g st)) h (.ia k x y)).map fun v => (put d (.gd g v) st, h) else some (put d (.gd g ((AOp.ev (AX.val (stS g st)) h (.ia k x y)).getD .un)) st, h)) := by
 cases hq : guardOf (st.get s) w <;> simp only [runS, stepU, hq, runS_none, AOp.isCall, AOp.isApp, AOp.isVal, Bool.false_eq_true, Bool.false_and, Bool.or_self, if_false, if_true] <;> rfl
theorem rs_iap {hd : Bool} {base i : Nat} {os : List AOper} {st : St} {h : AH} {d : Option Nat} (n k : Nat) (x y : AX) : runS hd base (⟨d, none, .iap n k x y⟩ :: os) i (some (st, h)) = runS hd base os (i + 1) ((AOp.ev (AX.val st) h (.iap n k x y)).map fun v => (put d v st, h)) := rfl
theorem rg_iap {hd : Bool} {base i : Nat} {os : List AOper} {st : St} {h : AH} {d : Option Nat} {s : Nat} {w : Bool} (n k : Nat) (x y : AX) : runS hd base (⟨d, some (s, w), .iap n k x y⟩ :: os) i (some (st, h)) = match guardOf (st.get s) w with
 | none => .bad
 | some g => runS hd base os (i + 1) (if g = true then (AOp.ev (AX.val (stS g st)) h (.iap n k x y)).map fun v => (put d (.gd g v) st, h) else some (put d (.gd g ((AOp.ev (AX.val (stS g st)) h (.iap n k x y)).getD .un)) st, h)) := by
 cases hq : guardOf (st.get s) w <;> simp only [runS, stepU, hq, runS_none, AOp.isCall, AOp.isApp, AOp.isVal, Bool.false_eq_true, Bool.false_and, Bool.or_self, if_false, if_true] <;> rfl
theorem rs_iv {hd : Bool} {base i : Nat} {os : List AOper} {st : St} {h : AH} {d : Option Nat} (n k : Nat) (b : Bool) (x y : AX) : runS hd base (⟨d, none, .iv n k b x y⟩ :: os) i (some (st, h)) = runS hd base os (i + 1) ((AOp.ev (AX.val st) h (.iv n k b x y)).map fun v => (put d v st, h)) := rfl
theorem rg_iv {hd : Bool} {base i : Nat} {os : List AOper} {st : St} {h : AH} {d : Option Nat} {s : Nat} {w : Bool} (n k : Nat) (b : Bool) (x y : AX) : runS hd base (⟨d, some (s, w), .iv n k b x y⟩ :: os) i (some (st, h)) = match guardOf (st.get s) w with
 | none => .bad
 | some g => runS hd base os (i + 1) (if g = true then (AOp.ev (AX.val (stS g st)) h (.iv n k b x y)).map fun v => (put d (.gd g v) st, h) else some (put d (.gd g ((AOp.ev (AX.val (stS g st)) h (.iv n k b x y)).getD .un)) st, h)) := by
 cases hq : guardOf (st.get s) w <;> simp only [runS, stepU, hq, runS_none, AOp.isCall, AOp.isApp, AOp.isVal, Bool.false_eq_true, Bool.false_and, Bool.or_self, if_false, if_true] <;> rfl
theorem rs_sli {hd : Bool} {base i : Nat} {os : List AOper} {st : St} {h : AH} {d : Option Nat} (k : Nat) (x : AX) (lo hi : Option AX) : runS hd base (⟨d, none, .sli k x lo hi⟩ :: os) i (some (st, h)) = runS hd base os (i + 1) ((AOp.ev (AX.val st) h (.sli k x lo hi)).map fun v => (put d v st, h)) := rfl
theorem rg_sli {hd : Bool} {base i : Nat} {os : List AOper} {st : St} {h : AH} {d : Option Nat} {s : Nat} {w : Bool} (k : Nat) (x : AX) (lo hi : Option AX) : runS hd base (⟨d, some (s, w), .sli k x lo hi⟩ :: os) i (some (st, h)) = match guardOf (st.get s) w with
 | none => .bad
 | some g => runS hd base os (i + 1) (if g = true then (AOp.ev (AX.val (stS g st)) h (.sli k x lo hi)).map fun v => (put d (.gd g v) st, h) else some (put d (.gd g ((AOp.ev (AX.val (stS g st)) h (.sli k x lo hi)).getD .un)) st, h)) := by
 cases hq : guardOf (st.get s) w <;> simp only [runS, stepU, hq, runS_none, AOp.isCall, AOp.isApp, AOp.isVal, Bool.false_eq_true, Bool.false_and, Bool.or_self, if_false, if_true] <;> rfl
theorem rs_slp {hd : Bool} {base i : Nat} {os : List AOper} {st : St} {h : AH} {d : Option Nat} (n k : Nat) (x : AX) (lo hi : Option AX) : runS hd base (⟨d, none, .slp n k x lo hi⟩ :: os) i (some (st, h)) = runS hd base os (i + 1) ((AOp.ev (AX.val st) h (.slp n k x lo hi)).map fun v => (put d v st, h)) := rfl
theorem rg_slp {hd : Bool} {base i : Nat} {os : List AOper} {st : St} {h : AH} {d : Option Nat} {s : Nat} {w : Bool} (n k : Nat) (x : AX) (lo hi : Option AX) : runS hd base (⟨d, some (s, w), .slp n k x lo hi⟩ :: os) i (some (st, h)) = match guardOf (st.get s) w with
 | none => .bad
 | some g => runS hd base os (i + 1) (if g = true then (AOp.ev (AX.val (stS g st)) h (.slp n k x lo hi)).map fun v => (put d (.gd g v) st, h) else some (put d (.gd g ((AOp.ev (AX.val (stS g st)) h (.slp n k x lo hi)).getD .un)) st, h)) := by
 cases hq : guardOf (st.get s) w <;> simp only [runS, stepU, hq, runS_none, AOp.isCall, AOp.isApp, AOp.isVal, Bool.false_eq_true, Bool.false_and, Bool.or_self, if_false, if_true] <;> rfl
theorem rs_nck {hd : Bool} {base i : Nat} {os : List AOper} {st : St} {h : AH} {d : Option Nat} (x : AX) : runS hd base (⟨d, none, .nck x⟩ :: os) i (some (st, h)) = runS hd base os (i + 1) ((AOp.ev (AX.val st) h (.nck x)).map fun v => (put d v st, h)) := rfl
theorem rg_nck {hd : Bool} {base i : Nat} {os : List AOper} {st : St} {h : AH} {d : Option Nat} {s : Nat} {w : Bool} (x : AX) : runS hd base (⟨d, some (s, w), .nck x⟩ :: os) i (some (st, h)) = match guardOf (st.get s) w with
 | none => .bad
 | some g => runS hd base os (i + 1) (if g = true then (AOp.ev (AX.val (stS g st)) h (.nck x)).map fun v => (put d (.gd g v) st, h) else some (put d (.gd g ((AOp.ev (AX.val (stS g st)) h (.nck x)).getD .un)) st, h)) := by
 cases hq : guardOf (st.get s) w <;> simp only [runS, stepU, hq, runS_none, AOp.isCall, AOp.isApp, AOp.isVal, Bool.false_eq_true, Bool.false_and, Bool.or_self, if_false, if_true] <;> rfl
theorem rs_bld {hd : Bool} {base i : Nat} {os : List AOper} {st : St} {h : AH} {d : Option Nat} (z : List AV) (ps : List (Nat × Nat × AX)) : runS hd base (⟨d, none, .bld z ps⟩ :: os) i (some (st, h)) = runS hd base os (i + 1) ((AOp.ev (AX.val st) h (.bld z ps)).map fun v => (put d v st, h)) := rfl
theorem rg_bld {hd : Bool} {base i : Nat} {os : List AOper} {st : St} {h : AH} {d : Option Nat} {s : Nat} {w : Bool} (z : List AV) (ps : List (Nat × Nat × AX)) : runS hd base (⟨d, some (s, w), .bld z ps⟩ :: os) i (some (st, h)) = match guardOf (st.get s) w with
 | none => .bad
 | some g => runS hd base os (i + 1) (if g = true then (AOp.ev (AX.val (stS g st)) h (.bld z ps)).map fun v => (put d (.gd g v) st, h) else some (put d (.gd g ((AOp.ev (AX.val (stS g st)) h (.bld z ps)).getD .un)) st, h)) := by
 cases hq : guardOf (st.get s) w <;> simp only [runS, stepU, hq, runS_none, AOp.isCall, AOp.isApp, AOp.isVal, Bool.false_eq_true, Bool.false_and, Bool.or_self, if_false, if_true] <;> rfl
theorem rs_len {hd : Bool} {base i : Nat} {os : List AOper} {st : St} {h : AH} {d : Option Nat} (x : AX) : runS hd base (⟨d, none, .len x⟩ :: os) i (some (st, h)) = runS hd base os (i + 1) ((AOp.ev (AX.val st) h (.len x)).map fun v => (put d v st, h)) := rfl
theorem rg_len {hd : Bool} {base i : Nat} {os : List AOper} {st : St} {h : AH} {d : Option Nat} {s : Nat} {w : Bool} (x : AX) : runS hd base (⟨d, some (s, w), .len x⟩ :: os) i (some (st, h)) = match guardOf (st.get s) w with
 | none => .bad
 | some g => runS hd base os (i + 1) (if g = true then (AOp.ev (AX.val (stS g st)) h (.len x)).map fun v => (put d (.gd g v) st, h) else some (put d (.gd g ((AOp.ev (AX.val (stS g st)) h (.len x)).getD .un)) st, h)) := by
 cases hq : guardOf (st.get s) w <;> simp only [runS, stepU, hq, runS_none, AOp.isCall, AOp.isApp, AOp.isVal, Bool.false_eq_true, Bool.false_and, Bool.or_self, if_false, if_true] <;> rfl
theorem rs_mm {hd : Bool} {base i : Nat} {os : List AOper} {st : St} {h : AH} {d : Option Nat} (mx : Bool) (x : AX) (xs : List AX) : runS hd base (⟨d, none, .mm mx x xs⟩ :: os) i (some (st, h)) = runS hd base os (i + 1) ((amm mx (x.val st) (xs.map (AX.val st))).map fun v => (put d v st, h)) := rfl
theorem rg_mm {hd : Bool} {base i : Nat} {os : List AOper} {st : St} {h : AH} {d : Option Nat} {s : Nat} {w : Bool} (mx : Bool) (x : AX) (xs : List AX) : runS hd base (⟨d, some (s, w), .mm mx x xs⟩ :: os) i (some (st, h)) = match guardOf (st.get s) w with
 | none => .bad
 | some g => runS hd base os (i + 1) (if g = true then (amm mx (x.val (stS g st)) (xs.map (AX.val (stS g st)))).map fun v => (put d (.gd g v) st, h) else some (put d (.gd g ((amm mx (x.val (stS g st)) (xs.map (AX.val (stS g st)))).getD .un)) st, h)) := by
 cases hq : guardOf (st.get s) w <;> simp only [runS, stepU, hq, runS_none, AOp.isCall, AOp.isApp, AOp.isVal, Bool.false_eq_true, Bool.false_and, Bool.or_self, if_false, if_true] <;> rfl
theorem rs_mkf {hd : Bool} {base i : Nat} {os : List AOper} {st : St} {h : AH} {d : Option Nat} (f : Nat) (a b : List AX) : runS hd base (⟨d, none, .mkf f a b⟩ :: os) i (some (st, h)) = runS hd base os (i + 1) ((some (.fn f (a.map (AX.val st)) (b.map (AX.val st)))).map fun v => (put d v st, h)) := rfl
theorem rg_mkf {hd : Bool} {base i : Nat} {os : List AOper} {st : St} {h : AH} {d : Option Nat} {s : Nat} {w : Bool} (f : Nat) (a b : List AX) : runS hd base (⟨d, some (s, w), .mkf f a b⟩ :: os) i (some (st, h)) = match guardOf (st.get s) w with
 | none => .bad
 | some g => runS hd base os (i + 1) (if g = true then (some (.fn f (a.map (AX.val (stS g st))) (b.map (AX.val (stS g st))))).map fun v => (put d (.gd g v) st, h) else some (put d (.gd g ((some (.fn f (a.map (AX.val (stS g st))) (b.map (AX.val (stS g st))))).getD .un)) st, h)) := by
 cases hq : guardOf (st.get s) w <;> simp only [runS, stepU, hq, runS_none, AOp.isCall, AOp.isApp, AOp.isVal, Bool.false_eq_true, Bool.false_and, Bool.or_self, if_false, if_true] <;> rfl
theorem rs_eqn {hd : Bool} {base i : Nat} {os : List AOper} {st : St} {h : AH} {d : Option Nat} (ng : Bool) (x y : AX) : runS hd base (⟨d, none, .eqn ng x y⟩ :: os) i (some (st, h)) = runS hd base os (i + 1) ((AOp.ev (AX.val st) h (.eqn ng x y)).map fun v => (put d v st, h)) := rfl
theorem rg_eqn {hd : Bool} {base i : Nat} {os : List AOper} {st : St} {h : AH} {d : Option Nat} {s : Nat} {w : Bool} (ng : Bool) (x y : AX) : runS hd base (⟨d, some (s, w), .eqn ng x y⟩ :: os) i (some (st, h)) = match guardOf (st.get s) w with
 | none => .bad
 | some g => runS hd base os (i + 1) (if g = true then (AOp.ev (AX.val (stS g st)) h (.eqn ng x y)).map fun v => (put d (.gd g v) st, h) else some (put d (.gd g ((AOp.ev (AX.val (stS g st)) h (.eqn ng x y)).getD .un)) st, h)) := by
 cases hq : guardOf (st.get s) w <;> simp only [runS, stepU, hq, runS_none, AOp.isCall, AOp.isApp, AOp.isVal, Bool.false_eq_true, Bool.false_and, Bool.or_self, if_false, if_true] <;> rfl
theorem rs_eqa {hd : Bool} {base i : Nat} {os : List AOper} {st : St} {h : AH} {d : Option Nat} (ng : Bool) (ks : List Nat) (x y : AX) : runS hd base (⟨d, none, .eqa ng ks x y⟩ :: os) i (some (st, h)) = runS hd base os (i + 1) ((AOp.ev (AX.val st) h (.eqa ng ks x y)).map fun v => (put d v st, h)) := rfl
theorem rg_eqa {hd : Bool} {base i : Nat} {os : List AOper} {st : St} {h : AH} {d : Option Nat} {s : Nat} {w : Bool} (ng : Bool) (ks : List Nat) (x y : AX) : runS hd base (⟨d, some (s, w), .eqa ng ks x y⟩ :: os) i (some (st, h)) = match guardOf (st.get s) w with
 | none => .bad
 | some g => runS hd base os (i + 1) (if g = true then (AOp.ev (AX.val (stS g st)) h (.eqa ng ks x y)).map fun v => (put d (.gd g v) st, h) else some (put d (.gd g ((AOp.ev (AX.val (stS g st)) h (.eqa ng ks x y)).getD .un)) st, h)) := by
 cases hq : guardOf (st.get s) w <;> simp only [runS, stepU, hq, runS_none, AOp.isCall, AOp.isApp, AOp.isVal, Bool.false_eq_true, Bool.false_and, Bool.or_self, if_false, if_true] <;> rfl
theorem rs_eqs {hd : Bool} {base i : Nat} {os : List AOper} {st : St} {h : AH} {d : Option Nat} (ng : Bool) (x y : AX) : runS hd base (⟨d, none, .eqs ng x y⟩ :: os) i (some (st, h)) = runS hd base os (i + 1) ((AOp.ev (AX.val st) h (.eqs ng x y)).map fun v => (put d v st, h)) := rfl
theorem rg_eqs {hd : Bool} {base i : Nat} {os : List AOper} {st : St} {h : AH} {d : Option Nat} {s : Nat} {w : Bool} (ng : Bool) (x y : AX) : runS hd base (⟨d, some (s, w), .eqs ng x y⟩ :: os) i (some (st, h)) = match guardOf (st.get s) w with
 | none => .bad
 | some g => runS hd base os (i + 1) (if g = true then (AOp.ev (AX.val (stS g st)) h (.eqs ng x y)).map fun v => (put d (.gd g v) st, h) else some (put d (.gd g ((AOp.ev (AX.val (stS g st)) h (.eqs ng x y)).getD .un)) st, h)) := by
 cases hq : guardOf (st.get s) w <;> simp only [runS, stepU, hq, runS_none, AOp.isCall, AOp.isApp, AOp.isVal, Bool.false_eq_true, Bool.false_and, Bool.or_self, if_false, if_true] <;> rfl
theorem rs_str {hd : Bool} {base i : Nat} {os : List AOper} {st : St} {h : AH} {d : Option Nat} (x : AX) : runS hd base (⟨d, none, .str x⟩ :: os) i (some (st, h)) = runS hd base os (i + 1) ((AOp.ev (AX.val st) h (.str x)).map fun v => (put d v st, h)) := rfl
theorem rg_str {hd : Bool} {base i : Nat} {os : List AOper} {st : St} {h : AH} {d : Option Nat} {s : Nat} {w : Bool} (x : AX) : runS hd base (⟨d, some (s, w), .str x⟩ :: os) i (some (st, h)) = match guardOf (st.get s) w with
 | none => .bad
 | some g => runS hd base os (i + 1) (if g = true then (AOp.ev (AX.val (stS g st)) h (.str x)).map fun v => (put d (.gd g v) st, h) else some (put d (.gd g ((AOp.ev (AX.val (stS g st)) h (.str x)).getD .un)) st, h)) := by
 cases hq : guardOf (st.get s) w <;> simp only [runS, stepU, hq, runS_none, AOp.isCall, AOp.isApp, AOp.isVal, Bool.false_eq_true, Bool.false_and, Bool.or_self, if_false, if_true] <;> rfl
theorem rs_sl3 {hd : Bool} {base i : Nat} {os : List AOper} {st : St} {h : AH} {d : Option Nat} (k : Nat) (x : AX) (lo : Option AX) (hi m : AX) : runS hd base (⟨d, none, .sl3 k x lo hi m⟩ :: os) i (some (st, h)) = runS hd base os (i + 1) ((AOp.ev (AX.val st) h (.sl3 k x lo hi m)).map fun v => (put d v st, h)) := rfl
theorem rg_sl3 {hd : Bool} {base i : Nat} {os : List AOper} {st : St} {h : AH} {d : Option Nat} {s : Nat} {w : Bool} (k : Nat) (x : AX) (lo : Option AX) (hi m : AX) : runS hd base (⟨d, some (s, w), .sl3 k x lo hi m⟩ :: os) i (some (st, h)) = match guardOf (st.get s) w with
 | none => .bad
 | some g => runS hd base os (i + 1) (if g = true then (AOp.ev (AX.val (stS g st)) h (.sl3 k x lo hi m)).map fun v => (put d (.gd g v) st, h) else some (put d (.gd g ((AOp.ev (AX.val (stS g st)) h (.sl3 k x lo hi m)).getD .un)) st, h)) := by
 cases hq : guardOf (st.get s) w <;> simp only [runS, stepU, hq, runS_none, AOp.isCall, AOp.isApp, AOp.isVal, Bool.false_eq_true, Bool.false_and, Bool.or_self, if_false, if_true] <;> rfl
theorem rs_ld {hd : Bool} {base i : Nat} {os : List AOper} {st : St} {h : AH} {d : Option Nat} (n : Option Nat) (x : AX) : runS hd base (⟨d, none, .ld n x⟩ :: os) i (some (st, h)) = runS hd base os (i + 1) ((AOp.ev (AX.val st) h (.ld n x)).map fun v => (put d v st, h)) := rfl
theorem rg_ld {hd : Bool} {base i : Nat} {os : List AOper} {st : St} {h : AH} {d : Option Nat} {s : Nat} {w : Bool} (n : Option Nat) (x : AX) : runS hd base (⟨d, some (s, w), .ld n x⟩ :: os) i (some (st, h)) = match guardOf (st.get s) w with
 | none => .bad
 | some g => runS hd base os (i + 1) (if g = true then (AOp.ev (AX.val (stS g st)) h (.ld n x)).map fun v => (put d (.gd g v) st, h) else some (put d (.gd g ((AOp.ev (AX.val (stS g st)) h (.ld n x)).getD .un)) st, h)) := by
 cases hq : guardOf (st.get s) w <;> simp only [runS, stepU, hq, runS_none, AOp.isCall, AOp.isApp, AOp.isVal, Bool.false_eq_true, Bool.false_and, Bool.or_self, if_false, if_true] <;> rfl
theorem rs_mlk {hd : Bool} {base i : Nat} {os : List AOper} {st : St} {h : AH} {d : Option Nat} (kk : Option (List Nat)) (z : AV) (ok : Bool) (x k : AX) : runS hd base (⟨d, none, .mlk kk z ok x k⟩ :: os) i (some (st, h)) = runS hd base os (i + 1) ((AOp.ev (AX.val st) h (.mlk kk z ok x k)).map fun v => (put d v st, h)) := rfl
theorem rg_mlk {hd : Bool} {base i : Nat} {os : List AOper} {st : St} {h : AH} {d : Option Nat} {s : Nat} {w : Bool} (kk : Option (List Nat)) (z : AV) (ok : Bool) (x k : AX) : runS hd base (⟨d, some (s, w), .mlk kk z ok x k⟩ :: os) i (some (st, h)) = match guardOf (st.get s) w with
 | none => .bad
 | some g => runS hd base os (i + 1) (if g = true then (AOp.ev (AX.val (stS g st)) h (.mlk kk z ok x k)).map fun v => (put d (.gd g v) st, h) else some (put d (.gd g ((AOp.ev (AX.val (stS g st)) h (.mlk kk z ok x k)).getD .un)) st, h)) := by
 cases hq : guardOf (st.get s) w <;> simp only [runS, stepU, hq, runS_none, AOp.isCall, AOp.isApp, AOp.isVal, Bool.false_eq_true, Bool.false_and, Bool.or_self, if_false, if_true] <;> rfl
theorem rs_mln {hd : Bool} {base i : Nat} {os : List AOper} {st : St} {h : AH} {d : Option Nat} (x : AX) : runS hd base (⟨d, none, .mln x⟩ :: os) i (some (st, h)) = runS hd base os (i + 1) ((AOp.ev (AX.val st) h (.mln x)).map fun v => (put d v st, h)) := rfl
theorem rg_mln {hd : Bool} {base i : Nat} {os : List AOper} {st : St} {h : AH} {d : Option Nat} {s : Nat} {w : Bool} (x : AX) : runS hd base (⟨d, some (s, w), .mln x⟩ :: os) i (some (st, h)) = match guardOf (st.get s) w with
 | none => .bad
 | some g => runS hd base os (i + 1) (if g = true then (AOp.ev (AX.val (stS g st)) h (.mln x)).map fun v => (put d (.gd g v) st, h) else some (put d (.gd g ((AOp.ev (AX.val (stS g st)) h (.mln x)).getD .un)) st, h)) := by
 cases hq : guardOf (st.get s) w <;> simp only [runS, stepU, hq, runS_none, AOp.isCall, AOp.isApp, AOp.isVal, Bool.false_eq_true, Bool.false_and, Bool.or_self, if_false, if_true] <;> rfl
theorem rs_box {hd : Bool} {base i : Nat} {os : List AOper} {st : St} {h : AH} {d : Option Nat} (x : AX) : runS hd base (⟨d, none, .box x⟩ :: os) i (some (st, h)) = runS hd base os (i + 1) ((AOp.al (AX.val st) (base + i) (.box x)).map fun p => (put d p.1 st, h.set (base + i) (.cells true p.2))) := rfl
theorem rg_box {hd : Bool} {base i : Nat} {os : List AOper} {st : St} {h : AH} {d : Option Nat} {s : Nat} {w : Bool} (x : AX) : runS hd base (⟨d, some (s, w), .box x⟩ :: os) i (some (st, h)) = match guardOf (st.get s) w with
 | none => .bad
 | some g => runS hd base os (i + 1) (if g = true then (AOp.al (AX.val (stS g st)) (base + i) (.box x)).map fun p => (put d (.gd g p.1) st, h.set (base + i) (.cells true p.2)) else some (put d (.gd g .un) st, h)) := by
 cases hq : guardOf (st.get s) w <;> simp only [runS, stepU, hq, runS_none, AOp.isCall, AOp.isApp, AOp.isVal, AOp.isAl, Bool.false_eq_true, Bool.false_and, Bool.or_self, if_false, if_true] <;> rfl
theorem rs_alloc {hd : Bool} {base i : Nat} {os : List AOper} {st : St} {h : AH} {d : Option Nat} (z : List AV) : runS hd base (⟨d, none, .alloc z⟩ :: os) i (some (st, h)) = runS hd base os (i + 1) ((AOp.al (AX.val st) (base + i) (.alloc z)).map fun p => (put d p.1 st, h.set (base + i) (.cells true p.2))) := rfl
theorem rg_alloc {hd : Bool} {base i : Nat} {os : List AOper} {st : St} {h : AH} {d : Option Nat} {s : Nat} {w : Bool} (z : List AV) : runS hd base (⟨d, some (s, w), .alloc z⟩ :: os) i (some (st, h)) = match guardOf (st.get s) w with
 | none => .bad
 | some g => runS hd base os (i + 1) (if g = true then (AOp.al (AX.val (stS g st)) (base + i) (.alloc z)).map fun p => (put d (.gd g p.1) st, h.set (base + i) (.cells true p.2)) else some (put d (.gd g .un) st, h)) := by
 cases hq : guardOf (st.get s) w <;> simp only [runS, stepU, hq, runS_none, AOp.isCall, AOp.isApp, AOp.isVal, AOp.isAl, Bool.false_eq_true, Bool.false_and, Bool.or_self, if_false, if_true] <;> rfl
theorem rs_bsl {hd : Bool} {base i : Nat} {os : List AOper} {st : St} {h : AH} {d : Option Nat} (k : Nat) (z : List AV) (ps : List (Nat × Nat × AX)) : runS hd base (⟨d, none, .bsl k z ps⟩ :: os) i (some (st, h)) = runS hd base os (i + 1) ((AOp.al (AX.val st) (base + i) (.bsl k z ps)).map fun p => (put d p.1 st, h.set (base + i) (.cells true p.2))) := rfl
theorem rg_bsl {hd : Bool} {base i : Nat} {os : List AOper} {st : St} {h : AH} {d : Option Nat} {s : Nat} {w : Bool} (k : Nat) (z : List AV) (ps : List (Nat × Nat × AX)) : runS hd base (⟨d, some (s, w), .bsl k z ps⟩ :: os) i (some (st, h)) = match guardOf (st.get s) w with
 | none => .bad
 | some g => runS hd base os (i + 1) (if g = true then (AOp.al (AX.val (stS g st)) (base + i) (.bsl k z ps)).map fun p => (put d (.gd g p.1) st, h.set (base + i) (.cells true p.2)) else some (put d (.gd g .un) st, h)) := by
 cases hq : guardOf (st.get s) w <;> simp only [runS, stepU, hq, runS_none, AOp.isCall, AOp.isApp, AOp.isVal, AOp.isAl, Bool.false_eq_true, Bool.false_and, Bool.or_self, if_false, if_true] <;> rfl
theorem rs_mks {hd : Bool} {base i : Nat} {os : List AOper} {st : St} {h : AH} {d : Option Nat} (k b : Nat) (z : List AV) (x y : AX) : runS hd base (⟨d, none, .mks k b z x y⟩ :: os) i (some (st, h)) = runS hd base os (i + 1) ((AOp.al (AX.val st) (base + i) (.mks k b z x y)).map fun p => (put d p.1 st, h.set (base + i) (.cells true p.2))) := rfl
theorem rg_mks {hd : Bool} {base i : Nat} {os : List AOper} {st : St} {h : AH} {d : Option Nat} {s : Nat} {w : Bool} (k b : Nat) (z : List AV) (x y : AX) : runS hd base (⟨d, some (s, w), .mks k b z x y⟩ :: os) i (some (st, h)) = match guardOf (st.get s) w with
 | none => .bad
 | some g => runS hd base os (i + 1) (if g = true then (AOp.al (AX.val (stS g st)) (base + i) (.mks k b z x y)).map fun p => (put d (.gd g p.1) st, h.set (base + i) (.cells true p.2)) else some (put d (.gd g .un) st, h)) := by
 cases hq : guardOf (st.get s) w <;> simp only [runS, stepU, hq, runS_none, AOp.isCall, AOp.isApp, AOp.isVal, AOp.isAl, Bool.false_eq_true, Bool.false_and, Bool.or_self, if_false, if_true] <;> rfl
theorem rs_sto {hd : Bool} {base i : Nat} {os : List AOper} {st : St} {h : AH} {d : Option Nat} (n : Option Nat) (x v : AX) : runS hd base (⟨d, none, .sto n x v⟩ :: os) i (some (st, h)) = runS hd base os (i + 1) ((h.sto n (x.val st) (v.val st)).map fun h' => (put d .un st, h')) := rfl
theorem rs_app {base i : Nat} {os : List AOper} {st : St} {h : AH} {d : Option Nat} (k b : Nat) (x y : AX) : runS false base (⟨d, none, .app k b x y⟩ :: os) i (some (st, h)) = runS false base os (i + 1) ((h.app k b (base + i) (x.val st) (y.val st)).map fun p => (put d p.1 st, p.2)) := rfl
theorem rs_call {hd : Bool} {base i : Nat} {os : List AOper} {st : St} {h : AH} {d : Option Nat} {g : Option (Nat × Bool)} (f : AX) (xs : List AX) : runS hd base (⟨d, g, .call f xs⟩ :: os) i (some (st, h)) = .call ⟨d, g, .call f xs⟩ os i st h := rfl
theorem rs_nil {hd : Bool} {base i : Nat} {st : St} {h : AH} : runS hd base [] i (some (st, h)) = .done st h := rfl
theorem rs_apph {base i : Nat} {os : List AOper} {st : St} {h : AH} {d : Option Nat} {g : Option (Nat × Bool)} (k b : Nat) (x y : AX) : runS true base (⟨d, g, .app k b x y⟩ :: os) i (some (st, h)) = .call ⟨d, g, .app k b x y⟩ os i st h := rfl
theorem rs_byt {hd : Bool} {base i : Nat} {os : List AOper} {st : St} {h : AH} {d : Option Nat} (x : AX) : runS hd base (⟨d, none, .byt x⟩ :: os) i (some (st, h)) = runS hd base os (i + 1) (stepA (base + i) d (.byt x) st h) := rfl
theorem rs_cvt {hd : Bool} {base i : Nat} {os : List AOper} {st : St} {h : AH} {d : Option Nat} (x : AX) : runS hd base (⟨d, none, .cvt x⟩ :: os) i (some (st, h)) = runS hd base os (i + 1) (stepA (base + i) d (.cvt x) st h) := rfl
theorem rs_mkm {hd : Bool} {base i : Nat} {os : List AOper} {st : St} {h : AH} {d : Option Nat} : runS hd base (⟨d, none, .mkm⟩ :: os) i (some (st, h)) = runS hd base os (i + 1) (stepA (base + i) d .mkm st h) := rfl
theorem rs_mup {hd : Bool} {base i : Nat} {os : List AOper} {st : St} {h : AH} {d : Option Nat} (kk : Option (List Nat)) (x k v : AX) : runS hd base (⟨d, none, .mup kk x k v⟩ :: os) i (some (st, h)) = runS hd base os (i + 1) (stepA (base + i) d (.mup kk x k v) st h) := rfl
theorem rg_cvt {hd : Bool} {base i : Nat} {os : List AOper} {st : St} {h : AH} {d : Option Nat} {s : Nat} {w : Bool} (x : AX) : runS hd base (⟨d, some (s, w), .cvt x⟩ :: os) i (some (st, h)) = match guardOf (st.get s) w with
 | none => .bad
 | some g => runS hd base os (i + 1) (if g = true then stepA (base + i) d (.cvt x) (stS true st) h else some (put d (.gd g .un) st, h)) := by
 cases hq : guardOf (st.get s) w <;> simp only [runS, stepU, hq, runS_none, AOp.isCall, AOp.isApp, AOp.isVal, AOp.isAl, Bool.false_eq_true, Bool.false_and, Bool.or_self, if_false, if_true] <;> rfl
theorem rg_sto {hd : Bool} {base i : Nat} {os : List AOper} {st : St} {h : AH} {d : Option Nat} {s : Nat} {w : Bool} (n : Option Nat) (x v : AX) : runS hd base (⟨d, some (s, w), .sto n x v⟩ :: os) i (some (st, h)) = match guardOf (st.get s) w with
 | none => .bad
 | some g => runS hd base os (i + 1) (if g = true then stepA (base + i) d (.sto n x v) (stS true st) h else some (put d (.gd g .un) st, h)) := by
 cases hq : guardOf (st.get s) w <;> simp only [runS, stepU, hq, runS_none, AOp.isCall, AOp.isApp, AOp.isVal, AOp.isAl, Bool.false_eq_true, Bool.false_and, Bool.or_self, if_false, if_true] <;> rfl
theorem rg_byt {hd : Bool} {base i : Nat} {os : List AOper} {st : St} {h : AH} {d : Option Nat} {s : Nat} {w : Bool} (x : AX) : runS hd base (⟨d, some (s, w), .byt x⟩ :: os) i (some (st, h)) = match guardOf (st.get s) w with
 | none => .bad
 | some g => runS hd base os (i + 1) (if g = true then stepA (base + i) d (.byt x) (stS true st) h else some (put d (.gd g .un) st, h)) := by
 cases hq : guardOf (st.get s) w <;> simp only [runS, stepU, hq, runS_none, AOp.isCall, AOp.isApp, AOp.isVal, AOp.isAl, Bool.false_eq_true, Bool.false_and, Bool.or_self, if_false, if_true] <;> rfl
theorem rg_mkm {hd : Bool} {base i : Nat} {os : List AOper} {st : St} {h : AH} {d : Option Nat} {s : Nat} {w : Bool}  : runS hd base (⟨d, some (s, w), .mkm ⟩ :: os) i (some (st, h)) = match guardOf (st.get s) w with
 | none => .bad
 | some g => runS hd base os (i + 1) (if g = true then stepA (base + i) d (.mkm ) (stS true st) h else some (put d (.gd g .un) st, h)) := by
 cases hq : guardOf (st.get s) w <;> simp only [runS, stepU, hq, runS_none, AOp.isCall, AOp.isApp, AOp.isVal, AOp.isAl, Bool.false_eq_true, Bool.false_and, Bool.or_self, if_false, if_true] <;> rfl
theorem rg_mup {hd : Bool} {base i : Nat} {os : List AOper} {st : St} {h : AH} {d : Option Nat} {s : Nat} {w : Bool} (kk : Option (List Nat)) (x k v : AX) : runS hd base (⟨d, some (s, w), .mup kk x k v⟩ :: os) i (some (st, h)) = match guardOf (st.get s) w with
 | none => .bad
 | some g => runS hd base os (i + 1) (if g = true then stepA (base + i) d (.mup kk x k v) (stS true st) h else some (put d (.gd g .un) st, h)) := by
 cases hq : guardOf (st.get s) w <;> simp only [runS, stepU, hq, runS_none, AOp.isCall, AOp.isApp, AOp.isVal, AOp.isAl, Bool.false_eq_true, Bool.false_and, Bool.or_self, if_false, if_true] <;> rfl
theorem rg_app {base i : Nat} {os : List AOper} {st : St} {h : AH} {d : Option Nat} {s : Nat} {w : Bool} (k b : Nat) (x y : AX) : runS false base (⟨d, some (s, w), .app k b x y⟩ :: os) i (some (st, h)) = match guardOf (st.get s) w with
 | none => .bad
 | some g => runS false base os (i + 1) (if g = true then stepA (base + i) d (.app k b x y) (stS true st) h else some (put d (.gd g .un) st, h)) := by
 cases hq : guardOf (st.get s) w <;> simp only [runS, stepU, hq, runS_none, AOp.isCall, AOp.isApp, AOp.isVal, AOp.isAl, Bool.false_eq_true, Bool.and_false, Bool.or_self, if_false, if_true] <;> rfl
theorem rs_eqz {hd : Bool} {base i : Nat} {os : List AOper} {st : St} {h : AH} {d : Option Nat} {g : Option (Nat × Bool)} (ng : Bool) (x : AX) : runS hd base (⟨d, g, .eqz ng x⟩ :: os) i (some (st, h)) = .call ⟨d, g, .eqz ng x⟩ os i st h := rfl
theorem al_box (ρ : AX → AV) (tok : Nat) (x : AX) : AOp.al ρ tok (.box x) = if (ρ x).known then some (.p tok 0, (ρ x).cells) else none := rfl
theorem al_alloc (ρ : AX → AV) (tok : Nat) (z : List AV) : AOp.al ρ tok (.alloc z) = some (.p tok 0, z) := rfl
theorem al_bsl (ρ : AX → AV) (tok k : Nat) (z : List AV) (ps : List (Nat × Nat × AX)) : AOp.al ρ tok (.bsl k z ps) = (afill ρ z ps).map fun cs => (if z.length = 0 then .sl 0 0 0 k else .sl tok 0 (if k = 0 then 0 else z.length / k) k, cs) := rfl
theorem al_mks (ρ : AX → AV) (tok k b : Nat) (z : List AV) (x y : AX) : AOp.al ρ tok (.mks k b z x y) = match ρ x, ρ y with
 | .i .i64 n, .i .i64 c => if 0 ≤ n ∧ n ≤ c ∧ c ≤ 281474976710656 ∧ b * c ≤ 281474976710656 then some (.sl tok 0 n.toNat k, (List.replicate n.toNat z).flatten) else none
 | _, _ => none := rfl
theorem sa_byt (tok : Nat) (d : Option Nat) (x : AX) (st : St) (h : AH) : stepA tok d (.byt x) st h = match x.val st with
 | .s b => some (put d (.sl tok 0 b.size 0) st, h.set tok (.frz (bcells b)))
 | _ => none := rfl
theorem set_row_frz (h : AH) (t : Nat) (cs : List AV) : (h.set t (.frz cs)).row t = some cs := by simp [AH.row, AH.set]
theorem read_set_frz (h : AH) (t : Nat) (cs : List AV) (o : Nat) (n : Option Nat) : (h.set t (.frz cs)).read t o n = rd cs o n := by simp [AH.read, AH.row, AH.set]
theorem sa_sto (tok : Nat) (d : Option Nat) (n : Option Nat) (x v : AX) (st : St) (h : AH) : stepA tok d (.sto n x v) st h = (h.sto n (x.val st) (v.val st)).map fun h' => (put d .un st, h') := rfl
theorem sa_app (tok : Nat) (d : Option Nat) (k b : Nat) (x y : AX) (st : St) (h : AH) : stepA tok d (.app k b x y) st h = (h.app k b tok (x.val st) (y.val st)).map fun p => (put d p.1 st, p.2) := rfl
theorem qpp_vs (h : AH) (k bytes tok t o n a m : Nat) (c2 : List AV) : h.qpp k bytes tok (.sl t o n a) (.vs m c2) = match h.elems k (.vs m c2) with
 | some ys => if t = 0 ∧ n = 0 ∧ ys.all AV.one ∧ k ≠ 0 ∧ n + m ≤ 140737488355328 ∧ (n + m) * bytes ≤ 140737488355328 then some (.sl tok 0 m k, ys) else none
 | none => none := by unfold AH.qpp; simp only [AV.sln]; cases h.elems k (.vs m c2) <;> rfl
theorem app_vs (h : AH) (k bytes tok t o n a m : Nat) (c2 : List AV) : h.app k bytes tok (.sl t o n a) (.vs m c2) = match h.elems k (.vs m c2) with
 | some ys =>
   if ys.all AV.one ∧ k ≠ 0 ∧ n + m ≤ 140737488355328 ∧ (n + m) * bytes ≤ 140737488355328 then
    if t = 0 then (if n = 0 then some (.sl tok 0 m k, h.set tok (.cells true ys)) else none)
    else match h.m t with
     | some (.cells true cs) => if a = k ∧ o + n * k = cs.length then some (.sl tok 0 (n + m) k, (h.kill t).set tok (.cells true (cs.drop o ++ ys))) else none
     | _ => none
   else none
 | none => none := by unfold AH.app; simp only [AV.sln]; cases h.elems k (.vs m c2) <;> rfl
theorem qpp_sl (h : AH) (k bytes tok t o n a t2 o2 m a2 : Nat) : h.qpp k bytes tok (.sl t o n a) (.sl t2 o2 m a2) = match h.elems k (.sl t2 o2 m a2) with
 | some ys => if t = 0 ∧ n = 0 ∧ ys.all AV.one ∧ k ≠ 0 ∧ n + m ≤ 140737488355328 ∧ (n + m) * bytes ≤ 140737488355328 then some (.sl tok 0 m k, ys) else none
 | none => none := by unfold AH.qpp; simp only [AV.sln]; cases h.elems k (.sl t2 o2 m a2) <;> rfl
theorem sa_mkm (tok : Nat) (d : Option Nat) (st : St) (h : AH) : stepA tok d .mkm st h = some (put d (.mp tok) st, h.set tok (.map [])) := rfl
theorem sa_mup (tok : Nat) (d : Option Nat) (kk : Option (List Nat)) (x k v : AX) (st : St) (h : AH) : stepA tok d (.mup kk x k v) st h = (h.mup kk (x.val st) (k.val st) (v.val st)).map fun h' => (put d .un st, h') := rfl
def mlkB (kk : Option (List Nat)) (z : AV) (ok : Bool) (k : AV) : Blk → Option AV
 | .map es => if kq kk k k = some true then (match mfind kk k es 0 with
  | some (some (_, v)) => some (if ok then .tu [v, .b true] else v)
  | some none => some (if ok then .tu [z, .b false] else z)
  | none => none) else none
 | _ => none
def mupB (kk : Option (List Nat)) (k v : AV) : Blk → Option Blk
 | .map es => if kq kk k k = some true then (mput kk k v es).map .map else none
 | _ => none
def mlnB : Blk → Option AV
 | .map es => some (.i .i64 es.length)
 | _ => none
theorem ev_mlk (ρ : AX → AV) (H : AH) (kk : Option (List Nat)) (z : AV) (ok : Bool) (x k : AX) : AOp.ev ρ H (.mlk kk z ok x k) = match ρ x with
 | .nilm => if kq kk (ρ k) (ρ k) = some true then some (if ok then .tu [z, .b false] else z) else none
 | .mp t => (H.m t).bind (mlkB kk z ok (ρ k))
 | _ => none := by
 simp only [AOp.ev]
 cases ρ x <;> simp only
 rename_i t
 rcases H.m t with _ | ⟨w, cs⟩ | cs | es <;> rfl
theorem ev_mln (ρ : AX → AV) (H : AH) (x : AX) : AOp.ev ρ H (.mln x) = match ρ x with
 | .nilm => some (.i .i64 0)
 | .mp t => (H.m t).bind mlnB
 | _ => none := by
 simp only [AOp.ev]
 cases ρ x <;> simp only
 rename_i t
 rcases H.m t with _ | ⟨w, cs⟩ | cs | es <;> rfl
theorem mup_mp (H : AH) (kk : Option (List Nat)) (t : Nat) (k v : AV) : H.mup kk (.mp t) k v = (H.m t).bind fun b => (mupB kk k v b).map (H.set t) := by
 simp only [AH.mup]
 rcases H.m t with _ | ⟨w, cs⟩ | cs | es <;> try rfl
 simp only [Option.bind_some, mupB]
 split
 ·cases mput kk k v es <;> rfl
 ·rfl
theorem bind_some {α β : Type} (f : α → Option β) (x : α) : (some x).bind f = f x := rfl
theorem sa_cvt (tok : Nat) (d : Option Nat) (x : AX) (st : St) (h : AH) : stepA tok d (.cvt x) st h = (h.cvt (x.val st)).map fun h' => (put d (x.val st) st, h') := rfl
theorem cvt_sl (h : AH) (t o n a : Nat) : h.cvt (.sl t o n a) = if n = 0 then none else match h.m t with
 | some (.cells true cs) => some (h.set t (.frz cs))
 | _ => none := rfl
theorem read_plus_same (hb h : AH) (t : Nat) (ts : List Nat) (o : Nat) (n : Option Nat) : (hb.plus h (t :: ts)).read t o n = h.read t o n := by simp [AH.read, AH.row, AH.plus]
theorem read_plus_ne {hb h : AH} {t s : Nat} (e : s ≠ t) (ts : List Nat) (o : Nat) (n : Option Nat) : (hb.plus h (t :: ts)).read s o n = (hb.plus h ts).read s o n := by simp [AH.read, AH.row, AH.plus, e]
theorem plus_nil (hb h : AH) : hb.plus h [] = hb := rfl
theorem firstTok_nil : firstTok [] = none := rfl
theorem firstTok_sl {t o n a : Nat} (h : n ≠ 0) (r : List AV) : firstTok (.sl t o n a :: r) = some t := by simp only [firstTok, if_neg h]
theorem firstTok_sl0 {t o a : Nat} (r : List AV) : firstTok (.sl t o 0 a :: r) = firstTok r := rfl
theorem firstTok_i (k : IntKind) (x : Int) (r : List AV) : firstTok (.i k x :: r) = firstTok r := rfl
theorem firstTok_b (x : Bool) (r : List AV) : firstTok (.b x :: r) = firstTok r := rfl
theorem firstTok_ag (x : List AV) (r : List AV) : firstTok (.ag x :: r) = firstTok r := rfl
theorem firstTok_vs (n : Nat) (cs : List AV) (r : List AV) : firstTok (.vs n cs :: r) = firstTok r := rfl
theorem firstTok_pv (cs : List AV) (o : Nat) (r : List AV) : firstTok (.pv cs o :: r) = firstTok r := rfl
theorem firstTok_p (t o : Nat) (r : List AV) : firstTok (.p t o :: r) = firstTok r := rfl
theorem firstTok_s (x : ByteArray) (r : List AV) : firstTok (.s x :: r) = firstTok r := rfl
theorem ev_eqa (ρ : AX → AV) (H : AH) (ng : Bool) (ks : List Nat) (x y : AX) : AOp.ev ρ H (.eqa ng ks x y) = match ρ x, ρ y with
 | .ag cs, .ag ds => (aeq ks cs ds).map fun b => .b (b != ng)
 | _, _ => none := rfl
theorem ev_eqs (ρ : AX → AV) (H : AH) (ng : Bool) (x y : AX) : AOp.ev ρ H (.eqs ng x y) = match ρ x, ρ y with
 | .s a, .s b => some (.b ((a.toList == b.toList) != ng))
 | _, _ => none := rfl
theorem ev_str (ρ : AX → AV) (H : AH) (x : AX) : AOp.ev ρ H (.str x) = match ρ x with
 | .sl t o n _ => if n = 0 then some (.s ByteArray.empty) else match H.row t with
   | some cs => if o + n ≤ cs.length then (abytes ((cs.drop o).take n)).map fun l => .s ⟨l.toArray⟩ else none
   | none => none
 | .vs n cs => if n = cs.length then (abytes cs).map fun l => .s ⟨l.toArray⟩ else none
 | _ => none := rfl
theorem ev_sl3 (ρ : AX → AV) (H : AH) (k : Nat) (x : AX) (lo : Option AX) (hi mx : AX) : AOp.ev ρ H (.sl3 k x lo hi mx) = match ρ x with
 | .sl t o n a => match bound ρ 0 lo, bound ρ n (some hi), bound ρ n (some mx) with
   | some l, some h, some m => if l ≤ h ∧ h ≤ m ∧ m ≤ n then (if m = l then some (.sl 0 0 0 0) else some (.sl t (o + l * k) (h - l) (if a = k then k else 0))) else none
   | _, _, _ => none
 | .vs n cs => match bound ρ 0 lo, bound ρ n (some hi), bound ρ n (some mx) with
   | some l, some h, some m => if l ≤ h ∧ h ≤ m ∧ m ≤ n ∧ m = l then some (.sl 0 0 0 0) else none
   | _, _, _ => none
 | _ => none := rfl
theorem aeq_n : aeq [] [] [] = some true := rfl
theorem aeq_ci (ks : List Nat) (k : IntKind) (a b : Int) (r s : List AV) : aeq (0 :: ks) (.i k a :: r) (.i k b :: s) = (aeq ks r s).map (decide (a = b) && ·) := by simp [aeq]
theorem aeq_cb (ks : List Nat) (a b : Bool) (r s : List AV) : aeq (1 :: ks) (.b a :: r) (.b b :: s) = (aeq ks r s).map ((a == b) && ·) := rfl
theorem aeq_cs (ks : List Nat) (a b : ByteArray) (r s : List AV) : aeq (2 :: ks) (.s a :: r) (.s b :: s) = (aeq ks r s).map ((a.toList == b.toList) && ·) := rfl
theorem val_t (st : St) (n : Nat) : AX.val st (.t n) = st.get n := rfl
theorem val_c (st : St) (v : AV) : AX.val st (.c v) = v := rfl
theorem get_cons (d : Nat) (v : AV) (r : St) (t : Nat) : St.get ((d, v) :: r) t = if t = d then v else St.get r t := rfl
theorem get_nil (t : Nat) : St.get [] t = .un := rfl
theorem put_some (d : Nat) (v : AV) (st : St) : put (some d) v st = (d, v) :: st := rfl
theorem put_none (v : AV) (st : St) : put none v st = st := rfl
theorem known_b (x : Bool) : AV.known (.b x) = true := rfl
theorem known_i (k : IntKind) (x : Int) : AV.known (.i k x) = true := rfl
theorem known_s (x : ByteArray) : AV.known (.s x) = true := rfl
theorem known_p (t o : Nat) : AV.known (.p t o) = true := rfl
theorem known_n : AV.known .nilp = true := rfl
theorem known_sl (t o n a : Nat) : AV.known (.sl t o n a) = true := rfl
theorem known_fn (f : Nat) (a b : List AV) : AV.known (.fn f a b) = true := rfl
theorem known_nf : AV.known .nilf = true := rfl
theorem known_mp (t : Nat) : AV.known (.mp t) = true := rfl
theorem known_nm : AV.known .nilm = true := rfl
theorem known_vs (n : Nat) (cs : List AV) : AV.known (.vs n cs) = true := rfl
theorem known_pv (cs : List AV) (o : Nat) : AV.known (.pv cs o) = true := rfl
theorem cells_vs (n : Nat) (cs : List AV) : AV.cells (.vs n cs) = [.vs n cs] := rfl
theorem cells_pv (cs : List AV) (o : Nat) : AV.cells (.pv cs o) = [.pv cs o] := rfl
theorem one_vs (n : Nat) (cs : List AV) : AV.one (.vs n cs) = true := rfl
theorem one_pv (cs : List AV) (o : Nat) : AV.one (.pv cs o) = true := rfl
theorem isNil_pv (cs : List AV) (o : Nat) : isNil (.pv cs o) = some false := rfl
theorem elems_vs (h : AH) (k m : Nat) (cs : List AV) : h.elems k (.vs m cs) = if m * k = cs.length then some cs else none := rfl
theorem known_ag (cs : List AV) : AV.known (.ag cs) = true := rfl
theorem known_tu (cs : List AV) : AV.known (.tu cs) = true := rfl
theorem cells_b (x : Bool) : AV.cells (.b x) = [.b x] := rfl
theorem cells_i (k : IntKind) (x : Int) : AV.cells (.i k x) = [.i k x] := rfl
theorem cells_s (x : ByteArray) : AV.cells (.s x) = [.s x] := rfl
theorem cells_p (t o : Nat) : AV.cells (.p t o) = [.p t o] := rfl
theorem cells_n : AV.cells .nilp = [.nilp] := rfl
theorem cells_sl (t o n a : Nat) : AV.cells (.sl t o n a) = [.sl t o n a] := rfl
theorem cells_fn (f : Nat) (a b : List AV) : AV.cells (.fn f a b) = [.fn f a b] := rfl
theorem cells_nf : AV.cells .nilf = [.nilf] := rfl
theorem cells_mp (t : Nat) : AV.cells (.mp t) = [.mp t] := rfl
theorem cells_nm : AV.cells .nilm = [.nilm] := rfl
theorem cells_ag (cs : List AV) : AV.cells (.ag cs) = cs := rfl
theorem one_b (x : Bool) : AV.one (.b x) = true := rfl
theorem one_i (k : IntKind) (x : Int) : AV.one (.i k x) = true := rfl
theorem one_s (x : ByteArray) : AV.one (.s x) = true := rfl
theorem one_p (t o : Nat) : AV.one (.p t o) = true := rfl
theorem one_n : AV.one .nilp = true := rfl
theorem one_sl (t o n a : Nat) : AV.one (.sl t o n a) = true := rfl
theorem one_fn (f : Nat) (a b : List AV) : AV.one (.fn f a b) = true := rfl
theorem one_nf : AV.one .nilf = true := rfl
theorem one_mp (t : Nat) : AV.one (.mp t) = true := rfl
theorem one_nm : AV.one .nilm = true := rfl
theorem rd_none (cs : List AV) (o : Nat) : rd cs o none = cs[o]? := rfl
theorem rd_some (x : AV) (cs : List AV) (o n : Nat) : rd (x :: cs) o (some n) = if o + n ≤ (x :: cs).length then some (.ag (((x :: cs).drop o).take n)) else none := rfl
theorem wrt_none (cs : List AV) (o : Nat) (x : AV) : wrt cs o x none = if x.one ∧ o < cs.length then some (cs.set o x) else none := rfl
theorem wrt_some (cs : List AV) (o n : Nat) (x : AV) : wrt cs o x (some n) = if x.known ∧ x.cells.all AV.one ∧ x.cells.length = n ∧ o + n ≤ cs.length then some (cs.take o ++ (x.cells ++ cs.drop (o + n))) else none := rfl
theorem abin_i (bt : Bool) (op : BinOp) (k : IntKind) (a b : Int) : abin bt op (.i k a) (.i k b) = aint op k a b := by simp [abin]
theorem abin_shl (bt : Bool) (k k' : IntKind) (a b : Int) : abin bt .shl (.i k a) (.i k' b) = aint .shl k a b := by simp [abin]
theorem abin_shr (bt : Bool) (k k' : IntKind) (a b : Int) : abin bt .shr (.i k a) (.i k' b) = aint .shr k a b := by simp [abin]
theorem abin_beq (a b : Bool) : abin true .eql (.b a) (.b b) = some (.b (a == b)) := rfl
theorem abin_bne (a b : Bool) : abin true .neq (.b a) (.b b) = some (.b (a != b)) := rfl
theorem aint_add (k : IntKind) (x y : Int) : aint .add k x y = some (.i k (k.wrap (x + y))) := rfl
theorem aint_sub (k : IntKind) (x y : Int) : aint .sub k x y = some (.i k (k.wrap (x - y))) := rfl
theorem aint_mul (k : IntKind) (x y : Int) : aint .mul k x y = some (.i k (k.wrap (x * y))) := rfl
theorem aint_quo (k : IntKind) (x y : Int) : aint .quo k x y = if y = 0 then none else some (.i k (k.wrap (x.tdiv y))) := rfl
theorem aint_rem (k : IntKind) (x y : Int) : aint .rem k x y = if y = 0 then none else some (.i k (x.tmod y)) := rfl
theorem aint_and (k : IntKind) (x y : Int) : aint .and k x y = some (.i k (abits .and k x y)) := rfl
theorem aint_or (k : IntKind) (x y : Int) : aint .or k x y = some (.i k (abits .or k x y)) := rfl
theorem aint_xor (k : IntKind) (x y : Int) : aint .xor k x y = some (.i k (abits .xor k x y)) := rfl
theorem aint_andNot (k : IntKind) (x y : Int) : aint .andNot k x y = some (.i k (abits .andNot k x y)) := rfl
theorem aint_shl (k : IntKind) (x y : Int) : aint .shl k x y = if 0 ≤ y then some (.i k (k.wrap (x * 2 ^ (min y.toNat k.bits)))) else none := rfl
theorem aint_shr (k : IntKind) (x y : Int) : aint .shr k x y = if 0 ≤ y then some (.i k (x.fdiv (2 ^ (min y.toNat k.bits)))) else none := rfl
theorem aint_eql (k : IntKind) (x y : Int) : aint .eql k x y = some (.b (decide (x = y))) := rfl
theorem aint_neq (k : IntKind) (x y : Int) : aint .neq k x y = some (.b (!decide (x = y))) := rfl
theorem aint_lss (k : IntKind) (x y : Int) : aint .lss k x y = some (.b (decide (x < y))) := rfl
theorem aint_leq (k : IntKind) (x y : Int) : aint .leq k x y = some (.b (decide (x ≤ y))) := rfl
theorem aint_gtr (k : IntKind) (x y : Int) : aint .gtr k x y = some (.b (decide (y < x))) := rfl
theorem aint_geq (k : IntKind) (x y : Int) : aint .geq k x y = some (.b (decide (y ≤ x))) := rfl
theorem isNil_n : isNil .nilp = some true := rfl
theorem isNil_p (t o : Nat) : isNil (.p t o) = some false := rfl
theorem bound_none (ρ : AX → AV) (d : Nat) : bound ρ d none = some d := rfl
theorem bound_some (ρ : AX → AV) (d : Nat) (x : AX) : bound ρ d (some x) = match ρ x with
 | .i _ n => if 0 ≤ n then some n.toNat else none
 | _ => none := rfl
theorem afill_nil (ρ : AX → AV) (cs : List AV) : afill ρ cs [] = some cs := rfl
theorem afill_cons (ρ : AX → AV) (cs : List AV) (off n : Nat) (x : AX) (r : List (Nat × Nat × AX)) : afill ρ cs ((off, n, x) :: r) = if (ρ x).known ∧ (ρ x).cells.length = n ∧ off + n ≤ cs.length then afill ρ (cs.take off ++ ((ρ x).cells ++ cs.drop (off + n))) r else none := rfl
theorem sto_p (h : AH) (n : Option Nat) (t o : Nat) (v : AV) : h.sto n (.p t o) v = match h.m t with
 | some (.cells true cs) => (wrt cs o v n).map fun cs' => h.set t (.cells true cs')
 | _ => none := rfl
theorem elems_sl (h : AH) (k t o m a : Nat) : h.elems k (.sl t o m a) = if m = 0 then some [] else match h.row t with
 | some cs => if o + m * k ≤ cs.length then some ((cs.drop o).take (m * k)) else none
 | none => none := rfl
theorem app_sl (h : AH) (k bytes tok t o n a t2 o2 m a2 : Nat) : h.app k bytes tok (.sl t o n a) (.sl t2 o2 m a2) = match h.elems k (.sl t2 o2 m a2) with
 | some ys =>
   if ys.all AV.one ∧ k ≠ 0 ∧ n + m ≤ 140737488355328 ∧ (n + m) * bytes ≤ 140737488355328 then
    if t = 0 then (if n = 0 then some (.sl tok 0 m k, h.set tok (.cells true ys)) else none)
    else match h.m t with
     | some (.cells true cs) => if a = k ∧ o + n * k = cs.length then some (.sl tok 0 (n + m) k, (h.kill t).set tok (.cells true (cs.drop o ++ ys))) else none
     | _ => none
   else none
 | none => none := by unfold AH.app; simp only [AV.sln]; cases h.elems k (.sl t2 o2 m a2) <;> rfl
theorem amm_nil (mx : Bool) (v : AV) : amm mx v [] = some v := by unfold amm; rfl
theorem amm_max (k : IntKind) (x y : Int) (r : List AV) : amm true (.i k x) (.i k y :: r) = amm true (.i k (max x y)) r := by
 simp only [amm, if_true]; congr 1; congr 1; simp only [Int.max_def]; split <;> split <;> omega
theorem amm_min (k : IntKind) (x y : Int) (r : List AV) : amm false (.i k x) (.i k y :: r) = amm false (.i k (min x y)) r := by
 simp only [amm, if_true, Bool.false_eq_true, if_false]; congr 1; congr 1; simp only [Int.min_def]; split <;> split <;> omega
theorem guard_gt (g b : Bool) : guardOf (.gd g (.b b)) true = some (g && b) := by cases g <;> cases b <;> rfl
theorem guard_gf (g b : Bool) : guardOf (.gd g (.b b)) false = some (g && !b) := by cases g <;> cases b <;> rfl
theorem guard_gff (v : AV) (want : Bool) : guardOf (.gd false v) want = some false := by cases v <;> rfl
theorem strip_and (g b : Bool) (v : AV) : strip (g && b) (.gd g v) = v := by cases g <;> cases b <;> rfl
theorem strip_nest (g x y : Bool) : strip x (strip g (.gd (g && x) (.b y))) = .b y := by cases g <;> cases x <;> rfl
theorem strip_nest2 (g x y : Bool) : strip (!x) (strip g (.gd (g && !x) (.b y))) = .b y := by cases g <;> cases x <;> rfl
theorem strip_nest3 (g x : Bool) (k : IntKind) (y : Int) : strip x (strip g (.gd (g && x) (.i k y))) = .i k y := by cases g <;> cases x <;> rfl
theorem strip_nest4 (g x : Bool) (k : IntKind) (y : Int) : strip (!x) (strip g (.gd (g && !x) (.i k y))) = .i k y := by cases g <;> cases x <;> rfl
theorem strip_two_b (g x : Bool) (y : Bool) : strip x (strip g (.gd x (.b y))) = .b y := by cases g <;> cases x <;> rfl
theorem strip_two_i (g x : Bool) (k : IntKind) (y : Int) : strip x (strip g (.gd x (.i k y))) = .i k y := by cases g <;> cases x <;> rfl
theorem strip_two_p (g x : Bool) (t o : Nat) : strip x (strip g (.gd x (.p t o))) = .p t o := by cases g <;> cases x <;> rfl
theorem strip_two_pv (g x : Bool) (cs : List AV) (o : Nat) : strip x (strip g (.gd x (.pv cs o))) = .pv cs o := by cases g <;> cases x <;> rfl
theorem strip_two_sl (g x : Bool) (t o n a : Nat) : strip x (strip g (.gd x (.sl t o n a))) = .sl t o n a := by cases g <;> cases x <;> rfl
theorem strip_two_vs (g x : Bool) (n : Nat) (cs : List AV) : strip x (strip g (.gd x (.vs n cs))) = .vs n cs := by cases g <;> cases x <;> rfl
theorem strip_two_ag (g x : Bool) (cs : List AV) : strip x (strip g (.gd x (.ag cs))) = .ag cs := by cases g <;> cases x <;> rfl
theorem strip_tt (v : AV) : strip true (.gd true v) = v := rfl
theorem wrapu8 {n : Int} (h1 : 0 ≤ n) (h2 : n ≤ 255) : IntKind.u8.wrap n = n := IntWalk.u8_in n ⟨h1, h2⟩
theorem wrapu64 {n : Int} (h1 : 0 ≤ n) (h2 : n ≤ 18446744073709551615) : IntKind.u64.wrap n = n := IntWalk.u64_in n ⟨h1, h2⟩
theorem getD_some (v w : AV) : (some v).getD w = v := rfl
theorem ite_same {α : Type} (p : Prop) [Decidable p] (x : α) : (if p then x else x) = x := by split <;> rfl
theorem map_some {α β : Type} (f : α → β) (x : α) : (some x).map f = some (f x) := rfl
theorem map_none {α β : Type} (f : α → β) : (none : Option α).map f = none := rfl
theorem lm_nil {α β : Type} (f : α → β) : [].map f = [] := rfl
theorem lm_cons {α β : Type} (f : α → β) (x : α) (xs : List α) : (x :: xs).map f = f x :: xs.map f := rfl
theorem EV0 : (type_of% @rs_mv) ∧ (type_of% @rg_mv) ∧ (type_of% @rs_pick) ∧ (type_of% @rg_pick) ∧ (type_of% @rs_bin) ∧ (type_of% @rg_bin) ∧ (type_of% @rs_neg) ∧ (type_of% @rg_neg) ∧ (type_of% @rs_not) ∧ (type_of% @rg_not) ∧ (type_of% @rs_conv) ∧ (type_of% @rg_conv) ∧ (type_of% @rs_ext) ∧ (type_of% @rg_ext) ∧ (type_of% @rs_fa) ∧ (type_of% @rg_fa) ∧ (type_of% @rs_fld) ∧ (type_of% @rg_fld) ∧ (type_of% @rs_ia) ∧ (type_of% @rg_ia) ∧ (type_of% @rs_iap) ∧ (type_of% @rg_iap) ∧ (type_of% @rs_iv) ∧ (type_of% @rg_iv) ∧ (type_of% @rs_sli) ∧ (type_of% @rg_sli) ∧ (type_of% @rs_slp) ∧ (type_of% @rg_slp) ∧ (type_of% @rs_nck) ∧ (type_of% @rg_nck) ∧ (type_of% @rs_bld) ∧ (type_of% @rg_bld) ∧ (type_of% @rs_len) ∧ (type_of% @rg_len) ∧ (type_of% @rs_mm) ∧ (type_of% @rg_mm) ∧ (type_of% @rs_mkf) ∧ (type_of% @rg_mkf) ∧ (type_of% @rs_eqn) ∧ (type_of% @rg_eqn) := ⟨@rs_mv, @rg_mv, @rs_pick, @rg_pick, @rs_bin, @rg_bin, @rs_neg, @rg_neg, @rs_not, @rg_not, @rs_conv, @rg_conv, @rs_ext, @rg_ext, @rs_fa, @rg_fa, @rs_fld, @rg_fld, @rs_ia, @rg_ia, @rs_iap, @rg_iap, @rs_iv, @rg_iv, @rs_sli, @rg_sli, @rs_slp, @rg_slp, @rs_nck, @rg_nck, @rs_bld, @rg_bld, @rs_len, @rg_len, @rs_mm, @rg_mm, @rs_mkf, @rg_mkf, @rs_eqn, @rg_eqn⟩
theorem EV1 : (type_of% @rs_eqa) ∧ (type_of% @rg_eqa) ∧ (type_of% @rs_eqs) ∧ (type_of% @rg_eqs) ∧ (type_of% @rs_str) ∧ (type_of% @rg_str) ∧ (type_of% @rs_sl3) ∧ (type_of% @rg_sl3) ∧ (type_of% @rs_ld) ∧ (type_of% @rg_ld) ∧ (type_of% @rs_mlk) ∧ (type_of% @rg_mlk) ∧ (type_of% @rs_mln) ∧ (type_of% @rg_mln) ∧ (type_of% @rs_box) ∧ (type_of% @rg_box) ∧ (type_of% @rs_alloc) ∧ (type_of% @rg_alloc) ∧ (type_of% @rs_bsl) ∧ (type_of% @rg_bsl) ∧ (type_of% @rs_mks) ∧ (type_of% @rg_mks) ∧ (type_of% @rs_cvt) ∧ (type_of% @rs_mkm) ∧ (type_of% @rs_mup) ∧ (type_of% @rg_cvt) ∧ (type_of% @rg_sto) ∧ (type_of% @rg_byt) ∧ (type_of% @rg_mkm) ∧ (type_of% @rg_mup) ∧ (type_of% @rs_eqz) ∧ (type_of% @rs_sto) ∧ (type_of% @rs_app) ∧ (type_of% @rs_call) ∧ (type_of% @rs_nil) ∧ (type_of% @rs_apph) ∧ (type_of% @rs_byt) ∧ (type_of% @rg_app) ∧ (type_of% @al_box) ∧ (type_of% @al_alloc) := ⟨@rs_eqa, @rg_eqa, @rs_eqs, @rg_eqs, @rs_str, @rg_str, @rs_sl3, @rg_sl3, @rs_ld, @rg_ld, @rs_mlk, @rg_mlk, @rs_mln, @rg_mln, @rs_box, @rg_box, @rs_alloc, @rg_alloc, @rs_bsl, @rg_bsl, @rs_mks, @rg_mks, @rs_cvt, @rs_mkm, @rs_mup, @rg_cvt, @rg_sto, @rg_byt, @rg_mkm, @rg_mup, @rs_eqz, @rs_sto, @rs_app, @rs_call, @rs_nil, @rs_apph, @rs_byt, @rg_app, @al_box, @al_alloc⟩
theorem EV2 : (type_of% @al_bsl) ∧ (type_of% @al_mks) ∧ (type_of% @sa_byt) ∧ (type_of% @set_row_frz) ∧ (type_of% @read_set_frz) ∧ (type_of% @sa_sto) ∧ (type_of% @sa_app) ∧ (type_of% @qpp_vs) ∧ (type_of% @app_vs) ∧ (type_of% @qpp_sl) ∧ (type_of% @sa_mkm) ∧ (type_of% @sa_mup) ∧ (type_of% @ev_mlk) ∧ (type_of% @ev_mln) ∧ (type_of% @mup_mp) ∧ (type_of% @sa_cvt) ∧ (type_of% @cvt_sl) ∧ (type_of% @read_plus_same) ∧ (type_of% @read_plus_ne) ∧ (type_of% @plus_nil) ∧ (type_of% @firstTok_nil) ∧ (type_of% @firstTok_sl) ∧ (type_of% @firstTok_sl0) ∧ (type_of% @firstTok_i) ∧ (type_of% @firstTok_b) ∧ (type_of% @firstTok_ag) ∧ (type_of% @firstTok_vs) ∧ (type_of% @firstTok_pv) ∧ (type_of% @firstTok_p) ∧ (type_of% @firstTok_s) ∧ (type_of% @ev_eqa) ∧ (type_of% @ev_eqs) ∧ (type_of% @ev_str) ∧ (type_of% @ev_sl3) ∧ (type_of% @aeq_n) ∧ (type_of% @aeq_ci) ∧ (type_of% @aeq_cb) ∧ (type_of% @aeq_cs) ∧ (type_of% @val_t) ∧ (type_of% @val_c) := ⟨@al_bsl, @al_mks, @sa_byt, @set_row_frz, @read_set_frz, @sa_sto, @sa_app, @qpp_vs, @app_vs, @qpp_sl, @sa_mkm, @sa_mup, @ev_mlk, @ev_mln, @mup_mp, @sa_cvt, @cvt_sl, @read_plus_same, @read_plus_ne, @plus_nil, @firstTok_nil, @firstTok_sl, @firstTok_sl0, @firstTok_i, @firstTok_b, @firstTok_ag, @firstTok_vs, @firstTok_pv, @firstTok_p, @firstTok_s, @ev_eqa, @ev_eqs, @ev_str, @ev_sl3, @aeq_n, @aeq_ci, @aeq_cb, @aeq_cs, @val_t, @val_c⟩
theorem EV3 : (type_of% @get_cons) ∧ (type_of% @get_nil) ∧ (type_of% @put_some) ∧ (type_of% @put_none) ∧ (type_of% @known_b) ∧ (type_of% @known_i) ∧ (type_of% @known_s) ∧ (type_of% @known_p) ∧ (type_of% @known_n) ∧ (type_of% @known_sl) ∧ (type_of% @known_fn) ∧ (type_of% @known_nf) ∧ (type_of% @known_mp) ∧ (type_of% @known_nm) ∧ (type_of% @known_vs) ∧ (type_of% @known_pv) ∧ (type_of% @cells_vs) ∧ (type_of% @cells_pv) ∧ (type_of% @one_vs) ∧ (type_of% @one_pv) ∧ (type_of% @isNil_pv) ∧ (type_of% @elems_vs) ∧ (type_of% @known_ag) ∧ (type_of% @known_tu) ∧ (type_of% @cells_b) ∧ (type_of% @cells_i) ∧ (type_of% @cells_s) ∧ (type_of% @cells_p) ∧ (type_of% @cells_n) ∧ (type_of% @cells_sl) ∧ (type_of% @cells_fn) ∧ (type_of% @cells_nf) ∧ (type_of% @cells_mp) ∧ (type_of% @cells_nm) ∧ (type_of% @cells_ag) ∧ (type_of% @one_b) ∧ (type_of% @one_i) ∧ (type_of% @one_s) ∧ (type_of% @one_p) ∧ (type_of% @one_n) := ⟨@get_cons, @get_nil, @put_some, @put_none, @known_b, @known_i, @known_s, @known_p, @known_n, @known_sl, @known_fn, @known_nf, @known_mp, @known_nm, @known_vs, @known_pv, @cells_vs, @cells_pv, @one_vs, @one_pv, @isNil_pv, @elems_vs, @known_ag, @known_tu, @cells_b, @cells_i, @cells_s, @cells_p, @cells_n, @cells_sl, @cells_fn, @cells_nf, @cells_mp, @cells_nm, @cells_ag, @one_b, @one_i, @one_s, @one_p, @one_n⟩
theorem EV4 : (type_of% @one_sl) ∧ (type_of% @one_fn) ∧ (type_of% @one_nf) ∧ (type_of% @one_mp) ∧ (type_of% @one_nm) ∧ (type_of% @rd_none) ∧ (type_of% @rd_some) ∧ (type_of% @wrt_none) ∧ (type_of% @wrt_some) ∧ (type_of% @abin_i) ∧ (type_of% @abin_shl) ∧ (type_of% @abin_shr) ∧ (type_of% @abin_beq) ∧ (type_of% @abin_bne) ∧ (type_of% @aint_add) ∧ (type_of% @aint_sub) ∧ (type_of% @aint_mul) ∧ (type_of% @aint_quo) ∧ (type_of% @aint_rem) ∧ (type_of% @aint_and) ∧ (type_of% @aint_or) ∧ (type_of% @aint_xor) ∧ (type_of% @aint_andNot) ∧ (type_of% @aint_shl) ∧ (type_of% @aint_shr) ∧ (type_of% @aint_eql) ∧ (type_of% @aint_neq) ∧ (type_of% @aint_lss) ∧ (type_of% @aint_leq) ∧ (type_of% @aint_gtr) ∧ (type_of% @aint_geq) ∧ (type_of% @isNil_n) ∧ (type_of% @isNil_p) ∧ (type_of% @bound_none) ∧ (type_of% @bound_some) ∧ (type_of% @afill_nil) ∧ (type_of% @afill_cons) ∧ (type_of% @sto_p) ∧ (type_of% @elems_sl) ∧ (type_of% @app_sl) := ⟨@one_sl, @one_fn, @one_nf, @one_mp, @one_nm, @rd_none, @rd_some, @wrt_none, @wrt_some, @abin_i, @abin_shl, @abin_shr, @abin_beq, @abin_bne, @aint_add, @aint_sub, @aint_mul, @aint_quo, @aint_rem, @aint_and, @aint_or, @aint_xor, @aint_andNot, @aint_shl, @aint_shr, @aint_eql, @aint_neq, @aint_lss, @aint_leq, @aint_gtr, @aint_geq, @isNil_n, @isNil_p, @bound_none, @bound_some, @afill_nil, @afill_cons, @sto_p, @elems_sl, @app_sl⟩
theorem EV5 : (type_of% @amm_nil) ∧ (type_of% @amm_max) ∧ (type_of% @amm_min) ∧ (type_of% @guard_gt) ∧ (type_of% @guard_gf) ∧ (type_of% @guard_gff) ∧ (type_of% @strip_and) ∧ (type_of% @strip_nest) ∧ (type_of% @strip_nest2) ∧ (type_of% @strip_nest3) ∧ (type_of% @strip_nest4) ∧ (type_of% @strip_two_b) ∧ (type_of% @strip_two_i) ∧ (type_of% @strip_two_p) ∧ (type_of% @strip_two_pv) ∧ (type_of% @strip_two_sl) ∧ (type_of% @strip_two_vs) ∧ (type_of% @strip_two_ag) ∧ (type_of% @strip_tt) ∧ (type_of% @bind_some) ∧ (type_of% @wrapu8) ∧ (type_of% @wrapu64) ∧ (type_of% @getD_some) ∧ (type_of% @ite_same) ∧ (type_of% @map_some) ∧ (type_of% @map_none) ∧ (type_of% @lm_nil) ∧ (type_of% @lm_cons) ∧ (type_of% @ev_ld) ∧ (type_of% @ev_pick) ∧ (type_of% @ev_neg) ∧ (type_of% @ev_not) ∧ (type_of% @ev_conv) ∧ (type_of% @ev_ext) ∧ (type_of% @ev_fa) ∧ (type_of% @ev_fld) ∧ (type_of% @ev_ia) ∧ (type_of% @ev_iap) ∧ (type_of% @ev_iv) ∧ (type_of% @ev_sli) := ⟨@amm_nil, @amm_max, @amm_min, @guard_gt, @guard_gf, @guard_gff, @strip_and, @strip_nest, @strip_nest2, @strip_nest3, @strip_nest4, @strip_two_b, @strip_two_i, @strip_two_p, @strip_two_pv, @strip_two_sl, @strip_two_vs, @strip_two_ag, @strip_tt, @bind_some, @wrapu8, @wrapu64, @getD_some, @ite_same, @map_some, @map_none, @lm_nil, @lm_cons, @ev_ld, @ev_pick, @ev_neg, @ev_not, @ev_conv, @ev_ext, @ev_fa, @ev_fld, @ev_ia, @ev_iap, @ev_iv, @ev_sli⟩
theorem EV6 : (type_of% @ev_slp) ∧ (type_of% @ev_nck) ∧ (type_of% @ev_bld) ∧ (type_of% @ev_len) ∧ (type_of% @ev_eqn) ∧ (type_of% @AH.bump_nx) ∧ (type_of% @AH.set_nx) ∧ (type_of% @read_bump) ∧ (type_of% @read_set_same) ∧ (type_of% @read_set_ne) ∧ (type_of% @guard_t) ∧ (type_of% @guard_f) ∧ (type_of% @stS_get) ∧ (type_of% @strip_self) ∧ (type_of% @strip_b) ∧ (type_of% @strip_i) ∧ (type_of% @strip_p) ∧ (type_of% @strip_sl) ∧ (type_of% @strip_ag) ∧ (type_of% @strip_tu) ∧ (type_of% @strip_vs) ∧ (type_of% @strip_pv) ∧ (type_of% @vsub_nn) ∧ (type_of% @vsub_sn) ∧ (type_of% @vsub_ns) ∧ (type_of% @vsub_ss) ∧ (type_of% @strip_n) ∧ (type_of% @strip_s) ∧ (type_of% @strip_fn) ∧ (type_of% @strip_mp) ∧ (type_of% @strip_nm) ∧ (type_of% @strip_nf) ∧ (type_of% @pick_and) ∧ (type_of% @pick_or) ∧ (type_of% @apick_t) ∧ (type_of% @apick_f) ∧ (type_of% @AH.set_m_same) ∧ (type_of% @AH.set_m_ne) ∧ (type_of% @AH.bump_m) ∧ (type_of% @AH.kill_m_ne) := ⟨@ev_slp, @ev_nck, @ev_bld, @ev_len, @ev_eqn, @AH.bump_nx, @AH.set_nx, @read_bump, @read_set_same, @read_set_ne, @guard_t, @guard_f, @stS_get, @strip_self, @strip_b, @strip_i, @strip_p, @strip_sl, @strip_ag, @strip_tu, @strip_vs, @strip_pv, @vsub_nn, @vsub_sn, @vsub_ns, @vsub_ss, @strip_n, @strip_s, @strip_fn, @strip_mp, @strip_nm, @strip_nf, @pick_and, @pick_or, @apick_t, @apick_f, @AH.set_m_same, @AH.set_m_ne, @AH.bump_m, @AH.kill_m_ne⟩
theorem EV7 : (type_of% @AH.set_row_same) ∧ (type_of% @AH.set_row_ne) ∧ (type_of% @AH.bump_row) ∧ (type_of% @AH.kill_row_ne) ∧ (type_of% @AH.kill_nx) ∧ (type_of% @read_kill_ne) ∧ (type_of% @cl_len) ∧ (type_of% @cl_get) ∧ (type_of% @cl_take) ∧ (type_of% @cl_drop) ∧ (type_of% @cl_set_i) ∧ (type_of% @cl_app_i) ∧ (type_of% @cl_snoc_i) ∧ (type_of% @cons_cl_i) ∧ (type_of% @cl_set_b) ∧ (type_of% @cl_app_b) ∧ (type_of% @cl_snoc_b) ∧ (type_of% @cons_cl_b) ∧ (type_of% @cl_one_i) ∧ (type_of% @cl_one_b) ∧ (type_of% @toNat_cast) ∧ (type_of% @toNat_succ) ∧ (type_of% @wrap64) ∧ (type_of% @Bool.false_eq_true) ∧ (type_of% @Nat.add_zero) ∧ (type_of% @Nat.zero_add) ∧ (type_of% @List.length_cons.{0}) ∧ (type_of% @List.length_nil.{0}) ∧ (type_of% @List.getElem?_cons_zero.{0}) ∧ (type_of% @List.getElem?_cons_succ.{0}) ∧ (type_of% @or_false) ∧ (type_of% @or_true) ∧ (type_of% @and_true) ∧ (type_of% @true_and) ∧ (type_of% @and_self) ∧ (type_of% @not_true_eq_false) ∧ (type_of% @not_false_eq_true) ∧ (type_of% @Bool.not_true) ∧ (type_of% @Bool.not_false) ∧ (type_of% @Bool.or_true) := ⟨@AH.set_row_same, @AH.set_row_ne, @AH.bump_row, @AH.kill_row_ne, @AH.kill_nx, @read_kill_ne, @cl_len, @cl_get, @cl_take, @cl_drop, @cl_set_i, @cl_app_i, @cl_snoc_i, @cons_cl_i, @cl_set_b, @cl_app_b, @cl_snoc_b, @cons_cl_b, @cl_one_i, @cl_one_b, @toNat_cast, @toNat_succ, @wrap64, @Bool.false_eq_true, @Nat.add_zero, @Nat.zero_add, @List.length_cons.{0}, @List.length_nil.{0}, @List.getElem?_cons_zero.{0}, @List.getElem?_cons_succ.{0}, @or_false, @or_true, @and_true, @true_and, @and_self, @not_true_eq_false, @not_false_eq_true, @Bool.not_true, @Bool.not_false, @Bool.or_true⟩
theorem EV8 : (type_of% @Bool.true_or) ∧ (type_of% @Bool.or_false) ∧ (type_of% @Bool.false_or) ∧ (type_of% @Bool.or_self) ∧ (type_of% @Bool.not_or_self) ∧ (type_of% @Bool.or_not_self) ∧ (type_of% @beq_self_eq_true.{0}) ∧ (type_of% @beq_true) ∧ (type_of% @beq_false) ∧ (type_of% @List.drop_succ_cons.{0}) ∧ (type_of% @List.drop_zero.{0}) ∧ (type_of% @List.take_succ_cons.{0}) ∧ (type_of% @List.take_zero.{0}) ∧ (type_of% @List.drop_nil.{0}) ∧ (type_of% @List.take_nil.{0}) ∧ (type_of% @List.cons_append.{0}) ∧ (type_of% @List.nil_append.{0}) ∧ (type_of% @List.append_nil.{0}) ∧ (type_of% @List.all_cons.{0}) ∧ (type_of% @List.all_nil.{0}) ∧ (type_of% @Bool.and_true) ∧ (type_of% @Bool.true_and) ∧ (type_of% @Bool.and_self) ∧ (type_of% @Bool.and_false) ∧ (type_of% @Bool.false_and) ∧ (type_of% @Nat.mul_one) ∧ (type_of% @Nat.sub_zero) ∧ (type_of% @Nat.sub_self) ∧ (type_of% @Int.toNat_natCast) ∧ (type_of% @ne_eq.{1}) ∧ (type_of% @if_pos.{1}) ∧ (type_of% @if_neg.{1}) ∧ (type_of% @Bool.not_not) ∧ (type_of% @Bool.bne_true) ∧ (type_of% @Bool.bne_false) ∧ (type_of% @List.set_cons_zero.{0}) ∧ (type_of% @List.set_cons_succ.{0}) := ⟨@Bool.true_or, @Bool.or_false, @Bool.false_or, @Bool.or_self, @Bool.not_or_self, @Bool.or_not_self, @beq_self_eq_true.{0}, @beq_true, @beq_false, @List.drop_succ_cons.{0}, @List.drop_zero.{0}, @List.take_succ_cons.{0}, @List.take_zero.{0}, @List.drop_nil.{0}, @List.take_nil.{0}, @List.cons_append.{0}, @List.nil_append.{0}, @List.append_nil.{0}, @List.all_cons.{0}, @List.all_nil.{0}, @Bool.and_true, @Bool.true_and, @Bool.and_self, @Bool.and_false, @Bool.false_and, @Nat.mul_one, @Nat.sub_zero, @Nat.sub_self, @Int.toNat_natCast, @ne_eq.{1}, @if_pos.{1}, @if_neg.{1}, @Bool.not_not, @Bool.bne_true, @Bool.bne_false, @List.set_cons_zero.{0}, @List.set_cons_succ.{0}⟩
theorem GA : (type_of% @val_t) ∧ (type_of% @val_c) ∧ (type_of% @get_cons) ∧ (type_of% @get_nil) := ⟨@val_t, @val_c, @get_cons, @get_nil⟩
theorem CA : (type_of% @val_t) ∧ (type_of% @val_c) ∧ (type_of% @get_cons) ∧ (type_of% @get_nil) ∧ (type_of% @lm_cons) ∧ (type_of% @lm_nil) ∧ (type_of% @List.nil_append.{0}) ∧ (type_of% @List.cons_append.{0}) ∧ (type_of% @List.append_nil.{0}) ∧ (type_of% @stS_get) ∧ (type_of% @strip_self) ∧ (type_of% @strip_b) ∧ (type_of% @strip_i) ∧ (type_of% @strip_p) ∧ (type_of% @strip_sl) ∧ (type_of% @strip_ag) ∧ (type_of% @strip_tu) ∧ (type_of% @strip_vs) ∧ (type_of% @strip_pv) ∧ (type_of% @strip_n) ∧ (type_of% @strip_s) ∧ (type_of% @strip_fn) ∧ (type_of% @strip_mp) ∧ (type_of% @guard_t) ∧ (type_of% @guard_f) ∧ (type_of% @guard_gt) ∧ (type_of% @guard_gf) ∧ (type_of% @guard_gff) ∧ (type_of% @Bool.true_and) ∧ (type_of% @Bool.not_true) ∧ (type_of% @Bool.not_false) ∧ (type_of% @Bool.not_not) ∧ (type_of% @strip_and) ∧ (type_of% @strip_tt) ∧ (type_of% @strip_nest) ∧ (type_of% @strip_nest2) ∧ (type_of% @strip_nest3) ∧ (type_of% @strip_nest4) ∧ (type_of% @strip_two_b) ∧ (type_of% @strip_two_i) ∧ (type_of% @strip_two_p) ∧ (type_of% @strip_two_pv) ∧ (type_of% @strip_two_sl) ∧ (type_of% @strip_two_vs) ∧ (type_of% @strip_two_ag) := ⟨@val_t, @val_c, @get_cons, @get_nil, @lm_cons, @lm_nil, @List.nil_append.{0}, @List.cons_append.{0}, @List.append_nil.{0}, @stS_get, @strip_self, @strip_b, @strip_i, @strip_p, @strip_sl, @strip_ag, @strip_tu, @strip_vs, @strip_pv, @strip_n, @strip_s, @strip_fn, @strip_mp, @guard_t, @guard_f, @guard_gt, @guard_gf, @guard_gff, @Bool.true_and, @Bool.not_true, @Bool.not_false, @Bool.not_not, @strip_and, @strip_tt, @strip_nest, @strip_nest2, @strip_nest3, @strip_nest4, @strip_two_b, @strip_two_i, @strip_two_p, @strip_two_pv, @strip_two_sl, @strip_two_vs, @strip_two_ag⟩
theorem BO : (type_of% @decide_eq_true_eq) ∧ (type_of% @Bool.or_eq_true) ∧ (type_of% @Bool.and_eq_true) ∧ (type_of% @Bool.not_eq_true') ∧ (type_of% @decide_eq_false_iff_not) ∧ (type_of% @Bool.not_not) ∧ (type_of% @Bool.not_or) ∧ (type_of% @Bool.not_and) ∧ (type_of% @not_or) ∧ (type_of% @not_and) ∧ (type_of% @Int.not_lt) ∧ (type_of% @Int.not_le) ∧ (type_of% @Bool.not_eq_eq_eq_not) ∧ (type_of% @Bool.not_true) ∧ (type_of% @Bool.not_false) ∧ (type_of% @bne_iff_ne.{0}) ∧ (type_of% @beq_iff_eq.{0}) ∧ (type_of% @ne_eq.{1}) := ⟨@decide_eq_true_eq, @Bool.or_eq_true, @Bool.and_eq_true, @Bool.not_eq_true', @decide_eq_false_iff_not, @Bool.not_not, @Bool.not_or, @Bool.not_and, @not_or, @not_and, @Int.not_lt, @Int.not_le, @Bool.not_eq_eq_eq_not, @Bool.not_true, @Bool.not_false, @bne_iff_ne.{0}, @beq_iff_eq.{0}, @ne_eq.{1}⟩
end Go.Am
set_option linter.unusedVariables false
set_option linter.unusedSimpArgs false
namespace Go.Am
variable {dfs : List Deferred}
mutual
inductive FrzV (t : Nat) (cs : List AV) : AV → AV → Prop
 | same {v : AV} : FrzV t cs v v
 | un {v : AV} : FrzV t cs v .un
 | sl {o n k a : Nat} (h : o + n * k ≤ cs.length) : FrzV t cs (.sl t o n a) (.vs n ((cs.drop o).take (n * k)))
 | nil {o a : Nat} : FrzV t cs (.sl 0 o 0 a) (.vs 0 [])
 | p {o : Nat} : FrzV t cs (.p t o) (.pv cs o)
 | tu {vs ws : List AV} (h : FrzVs t cs vs ws) : FrzV t cs (.tu vs) (.tu ws)
 | ag {vs ws : List AV} (h : FrzVs t cs vs ws) : FrzV t cs (.ag vs) (.ag ws)
 | fn {f : Nat} {az bs as' bs' : List AV} (h : FrzVs t cs az as') (h' : FrzVs t cs bs bs') : FrzV t cs (.fn f az bs) (.fn f as' bs')
inductive FrzVs (t : Nat) (cs : List AV) : List AV → List AV → Prop
 | nil : FrzVs t cs [] []
 | cons {v w : AV} {vs ws : List AV} (h : FrzV t cs v w) (hs : FrzVs t cs vs ws) : FrzVs t cs (v :: vs) (w :: ws)
end
def FrzAt (ι ι' : Inj) (t : Nat) (cs : List AV) : Prop :=
 ι 0 = none ∧ ((ι t = none ∧ cs = []) ∨ ∃ l xs, ι t = some l ∧ ι'.φ l.b = some xs ∧ Lies ι cs xs l.sh)
mutual
theorem FrzV.rel {ι ι' : Inj} (le : ι.le ι') {t : Nat} {cs : List AV} (F : FrzAt ι ι' t cs) : ∀ {v w : AV} {u : Value}, FrzV t cs v w → VRel ι v u → VRel ι' w u
 | _, _, _, .same, r => r.mono le
 | _, _, _, .un, r => by simp [VRel]
 | _, _, _, @FrzV.sl _ _ o n k a h, r => by
   simp only [VRel] at r ⊢
   rcases r with ⟨h0, x, rfl⟩ | ⟨l, cap, hl, rfl, hc, _⟩
   ·exact .inl ⟨h0, x, rfl⟩
   ·rcases F.2 with ⟨hn, _⟩ | ⟨l', xs, hl', hp, hr⟩
    ·rw [hl] at hn; cases hn
    ·rw [hl] at hl'; cases hl'
     exact .inr ⟨l.b, l.sh + o, cap, xs, rfl, hc, hp, VRels.mono le (Lies.take (Lies.drop hr o) _)⟩
 | _, _, _, .nil, r => by
   simp only [VRel] at r ⊢
   rcases r with ⟨h0, x, rfl⟩ | ⟨l, cap, hl, _⟩
   ·exact .inl ⟨by trivial, x, rfl⟩
   ·rw [F.1] at hl; cases hl
 | _, _, _, @FrzV.p _ _ o, r => by
   simp only [VRel] at r ⊢
   obtain ⟨l, hl, rfl⟩ := r
   rcases F.2 with ⟨hn, _⟩ | ⟨l', xs, hl', hp, hr⟩
   ·rw [hl] at hn; cases hn
   ·rw [hl] at hl'; cases hl'
    exact ⟨l.b, l.sh, xs, rfl, hp, VRels.mono le hr⟩
 | _, _, _, .tu h, r => by simp only [VRel] at r ⊢; obtain ⟨x, hx, r⟩ := r; exact ⟨x, hx, FrzVs.rel le F h r⟩
 | _, _, _, .ag h, r => by simp only [VRel] at r ⊢; obtain ⟨x, hx, r⟩ := r; exact ⟨x, hx, FrzVs.rel le F h r⟩
 | _, _, _, .fn h h', r => by simp only [VRel] at r ⊢; obtain ⟨x, y, hx, r1, r2⟩ := r; exact ⟨x, y, hx, FrzVs.rel le F h r1, FrzVs.rel le F h' r2⟩
theorem FrzVs.rel {ι ι' : Inj} (le : ι.le ι') {t : Nat} {cs : List AV} (F : FrzAt ι ι' t cs) : ∀ {vs ws : List AV} {us : List Value}, FrzVs t cs vs ws → VRels ι vs us → VRels ι' ws us
 | _, _, _, .nil, r => by simpa only [VRels] using r
 | _, _, _, .cons h hs, r => by
   simp only [VRels] at r ⊢
   obtain ⟨u, us, rfl, r1, r2⟩ := r
   exact ⟨u, us, rfl, FrzV.rel le F h r1, FrzVs.rel le F hs r2⟩
end
theorem FrzVs.length {t : Nat} {cs : List AV} : ∀ {vs ws : List AV}, FrzVs t cs vs ws → vs.length = ws.length
 | _, _, .nil => rfl
 | _, _, .cons _ hs => by simp [FrzVs.length hs]
theorem FrzVs.get {t : Nat} {cs : List AV} : ∀ {vs ws : List AV}, FrzVs t cs vs ws → ∀ {i : Nat} {w : AV}, ws[i]? = some w → ∃ v, vs[i]? = some v ∧ FrzV t cs v w
 | _, _, .nil, i, w, h => by simp at h
 | _, _, .cons h hs, 0, w, e => by simp at e; subst e; exact ⟨_, rfl, h⟩
 | _, _, .cons h hs, i + 1, w, e => by simp at e; simpa using FrzVs.get hs e
structure FrzH (t : Nat) (cs : List AV) (h h1 : AH) : Prop where
 nx : h1.nx = h.nx
 m : ∀ s c, h1.m s = some c → s ≠ t ∧ (h.m s = some c ∨ ∃ w ds ds', h.m s = some (.cells w ds) ∧ c = .cells w ds' ∧ FrzVs t cs ds ds')
theorem FrzH.kill (t : Nat) (cs : List AV) (h : AH) : FrzH t cs h (h.kill t) := ⟨rfl, fun s c hs => by
 unfold AH.kill at hs
 by_cases e : s = t
 ·simp [e] at hs
 ·simp only [if_neg e] at hs; exact ⟨e, .inl hs⟩⟩
theorem FrzH.set {t s : Nat} {cs : List AV} {h h1 : AH} (F : FrzH t cs h h1) (hne : s ≠ t) {w : Bool} {ds ds' : List AV} (hs : h.m s = some (.cells w ds)) (hd : FrzVs t cs ds ds') : FrzH t cs h (h1.set s (.cells w ds')) := ⟨F.nx, fun s' c hs' => by
 unfold AH.set at hs'
 by_cases e : s' = s
 ·subst e
  simp only [if_true, Option.some.injEq] at hs'
  exact ⟨hne, .inr ⟨w, ds, ds', hs, hs'.symm, hd⟩⟩
 ·simp only [if_neg e] at hs'; exact F.m s' c hs'⟩
theorem frz_world {ι : Inj} {h h1 : AH} {w : World} {t : Nat} {cs : List AV} (r : WRel ι h w) (hm : h.m t = some (.cells true cs)) (F : FrzH t cs h h1) :
 ∃ ι', ι.le ι' ∧ FrzAt ι ι' t cs ∧ WRel ι' h1 w ∧ Ext ι h w ι' h1 w := by
 have old : ∀ s c, h1.m s = some c → ∃ c0, h.m s = some c0 ∧ c0.wr = c.wr ∧ s ≠ t := fun s c hs => by
  obtain ⟨hne, q | ⟨w, ds, ds', q1, q2, _⟩⟩ := F.m s c hs
  ·exact ⟨c, q, rfl, hne⟩
  ·exact ⟨_, q1, by rw [q2]; rfl, hne⟩
 have key : ∃ ι' : Inj, ι.le ι' ∧ ι'.f = ι.f ∧ FrzAt ι ι' t cs ∧ WRel ι' (h.kill t) w ∧ Ext ι h w ι' (h.kill t) w := by
  cases hl : ι t with
  | none =>
    have hb := (r.blk t _ hm).2
    simp only [BRel] at hb
    rcases hb with ⟨rfl, _⟩ | ⟨l, _, _, _, h1, _⟩
    ·exact ⟨ι, Inj.le_refl _, rfl, ⟨r.nil, .inl ⟨hl, rfl⟩⟩, r.drop (h.kill_le t), (Ext.refl ι h w).drop (h.kill_le t)⟩
    ·rw [hl] at h1; cases h1
  | some l =>
    obtain ⟨xs, hp, _, hr, _, h2, h3⟩ := r.freeze hm hl
    exact ⟨ι.fr l.b xs, Inj.le_fr hp, rfl, ⟨r.nil, .inr ⟨l, xs, hl, by simp [Inj.fr], hr⟩⟩, h2, h3 (Ext.refl ι h w)⟩
 obtain ⟨ι', le, hf, FA, wr, ex⟩ := key
 have hkm : ∀ s c, h.m s = some c → s ≠ t → (h.kill t).m s = some c := fun s c hs hne => by simp [AH.kill, hne, hs]
 refine ⟨ι', le, FA, ⟨fun s l hs => by rw [F.nx]; exact wr.lt s l hs, fun s c hs => ?_, fun s s' l l' c c' h1 h2 h3 h4 h5 h6 => ?_, by rw [F.nx]; exact wr.pos, wr.nil0, fun b xs hb => ⟨(wr.phi b xs hb).1, fun s c l hs hc hl => ?_⟩⟩,
  ⟨by rw [F.nx]; exact ex.nx, ex.old, ex.os, ex.tape, ex.output, ex.size, ex.keep, fun s c l hs hc hl => ?_, ex.phi, ex.new, ex.drawn⟩⟩
 ·obtain ⟨hne, q | ⟨wb, ds, ds', q1, q2, q3⟩⟩ := F.m s c hs
  ·rw [F.nx]; exact wr.blk s c (hkm s c q hne)
  ·rw [F.nx]
   refine ⟨(wr.blk s _ (hkm s _ q1 hne)).1, ?_⟩
   have hb := (r.blk s _ q1).2
   subst q2
   simp only [BRel] at hb ⊢
   have hfs : ι' s = ι s := by rw [hf]
   rcases hb with ⟨rfl, hn⟩ | ⟨l, vs, e, fz, h1, h2, h3, h4, h5, h6⟩
   ·have : ds' = [] := List.length_eq_zero_iff.1 q3.length.symm
    exact .inl ⟨this, by rw [hfs]; exact hn⟩
   ·refine .inr ⟨l, vs, e, fz, by rw [hfs]; exact h1, h2, h3, by rw [← q3.length]; exact h4, h5, fun i a ha => ?_⟩
    obtain ⟨v, hv, hvv⟩ := q3.get ha
    obtain ⟨u, hu, hr⟩ := h6 i v hv
    exact ⟨u, hu, FrzV.rel le FA hvv hr⟩
 ·obtain ⟨c0, q1, q2, q3⟩ := old s c h1
  obtain ⟨c0', q4, q5, q6⟩ := old s' c' h2
  exact wr.inj s s' l l' c0 c0' (hkm _ _ q1 q3) (hkm _ _ q4 q6) h3 h4 h5 (by rw [q2, q5]; exact h6)
 ·obtain ⟨c0, q1, q2, q3⟩ := old s c hs
  exact (wr.phi b xs hb).2 s c0 l (hkm _ _ q1 q3) (q2.trans hc) hl
 ·obtain ⟨c0, q1, q2, q3⟩ := old s c hs
  exact ex.img s c0 l (hkm _ _ q1 q3) (q2.trans hc) hl
theorem zero_world {ι : Inj} {h : AH} {w : World} {s : Nat} {wr : Bool} {ds ds' : List AV} (r : WRel ι h w) (hm : h.m s = some (.cells wr ds)) (hd : FrzVs 0 [] ds ds') :
 WRel ι (h.set s (.cells wr ds')) w ∧ Ext ι h w ι (h.set s (.cells wr ds')) w := by
 have old : ∀ t c, (h.set s (.cells wr ds')).m t = some c → ∃ c0, h.m t = some c0 ∧ c0.wr = c.wr := fun t c hc => by
  unfold AH.set at hc
  by_cases e : t = s
  ·subst e; simp only [if_true, Option.some.injEq] at hc; exact ⟨_, hm, by rw [← hc]; rfl⟩
  ·simp only [if_neg e] at hc; exact ⟨c, hc, rfl⟩
 have FA : FrzAt ι ι 0 [] := ⟨r.nil, .inl ⟨r.nil, rfl⟩⟩
 refine ⟨⟨r.lt, fun t c hc => ?_, fun t t' l l' c c' h1 h2 h3 h4 h5 h6 => ?_, r.pos, r.nil0, fun b xs hb => ⟨(r.phi b xs hb).1, fun t c l hc hw hl => ?_⟩⟩, ⟨Nat.le_refl _, fun _ _ => rfl, rfl, rfl, rfl, Nat.le_refl _, fun _ _ _ => rfl, fun t c l hc hw hl => ?_, fun _ _ x => x, fun _ _ x => .inl x, Nat.le_refl _⟩⟩
 ·unfold AH.set at hc
  by_cases e : t = s
  ·subst e
   simp only [if_true, Option.some.injEq] at hc
   subst hc
   refine ⟨(r.blk t _ hm).1, ?_⟩
   have hb := (r.blk t _ hm).2
   simp only [BRel] at hb ⊢
   rcases hb with ⟨rfl, hn⟩ | ⟨l, vs, e, fz, h1, h2, h3, h4, h5, h6⟩
   ·exact .inl ⟨List.length_eq_zero_iff.1 hd.length.symm, hn⟩
   ·refine .inr ⟨l, vs, e, fz, h1, h2, h3, by rw [← hd.length]; exact h4, h5, fun i a ha => ?_⟩
    obtain ⟨v, hv, hvv⟩ := hd.get ha
    obtain ⟨u, hu, hr⟩ := h6 i v hv
    exact ⟨u, hu, FrzV.rel (Inj.le_refl ι) FA hvv hr⟩
  ·simp only [if_neg e] at hc
   exact r.blk t c hc
 ·obtain ⟨c0, q1, q2⟩ := old t c h1
  obtain ⟨c0', q3, q4⟩ := old t' c' h2
  exact r.inj t t' l l' c0 c0' q1 q3 h3 h4 h5 (by rw [q2, q4]; exact h6)
 ·obtain ⟨c0, q1, q2⟩ := old t c hc
  exact (r.phi b xs hb).2 t c0 l q1 (q2.trans hw) hl
 ·obtain ⟨c0, q1, q2⟩ := old t c hc
  exact .inr ⟨t, c0, l, q1, q2.trans hw, hl, rfl⟩
inductive FrzR : AH → AV → AH → AV → Prop
 | done {h : AH} {r : AV} : FrzR h r h r
 | step {h h1 h2 : AH} {t : Nat} {cs : List AV} {r r1 r2 : AV} (hm : h.m t = some (.cells true cs)) (F : FrzH t cs h h1) (hv : FrzV t cs r r1) (rest : FrzR h1 r1 h2 r2) : FrzR h r h2 r2
 | zero {h h2 : AH} {r r1 r2 : AV} (hv : FrzV 0 [] r r1) (rest : FrzR h r1 h2 r2) : FrzR h r h2 r2
 | zeroH {h h2 : AH} {s : Nat} {wr : Bool} {ds ds' : List AV} {r r2 : AV} (hm : h.m s = some (.cells wr ds)) (hd : FrzVs 0 [] ds ds') (rest : FrzR (h.set s (.cells wr ds')) r h2 r2) : FrzR h r h2 r2
theorem FrzR.world {h h2 : AH} {r r2 : AV} (F : FrzR h r h2 r2) : ∀ {ι : Inj} {w : World} {u : Value}, WRel ι h w → VRel ι r u → ∃ ι', VRel ι' r2 u ∧ WRel ι' h2 w ∧ Ext ι h w ι' h2 w := by
 induction F with
 | done => intro ι w u wr hr; exact ⟨ι, hr, wr, .refl _ _ _⟩
 | step hm F hv rest ih =>
   intro ι w u wr hr
   obtain ⟨ι1, le, FA, wr1, ex1⟩ := frz_world wr hm F
   obtain ⟨ι2, h1, h2, h3⟩ := ih wr1 (FrzV.rel le FA hv hr)
   exact ⟨ι2, h1, h2, ex1.trans h3⟩
 | zero hv rest ih =>
   intro ι w u wr hr
   exact ih wr (FrzV.rel (Inj.le_refl ι) ⟨wr.nil, .inl ⟨wr.nil, rfl⟩⟩ hv hr)
 | zeroH hm hd rest ih =>
   intro ι w u wr hr
   obtain ⟨q1, q2⟩ := zero_world wr hm hd
   obtain ⟨ι2, h1, h2, h3⟩ := ih q1 hr
   exact ⟨ι2, h1, h2, q2.trans h3⟩
theorem acalls_frz {P : Program} {f : Nat} {args : List AV} {h : AH} {R : AV → AH → Prop} (c : ACalls P f args h fun r h' => ∃ r' h'', FrzR h' r h'' r' ∧ R r' h'') : ACalls P f args h R :=
 ⟨c.1, fun ι w vs wr hv => Calls.mono (c.2 ι w vs wr hv) fun e w' he => by
  obtain ⟨v, r, h', ι', rfl, ⟨r', h'', F, hR⟩, h1, h2, h3⟩ := he
  obtain ⟨ι2, q1, q2, q3⟩ := F.world h2 h1
  exact ⟨v, r', h'', ι2, rfl, hR, q1, q2, h3.trans q3⟩⟩
section
variable {P : Program} {N : Nat} {Q : Exit → St → AH → Prop} {st st' : St} {h h' : AH}
theorem w_frzH {c : AC} {t : Nat} {cs : List AV} (hm : h.m t = some (.cells true cs)) (F : FrzH t cs h h') (hst : ∀ d, FrzV t cs (st.get d) (st'.get d)) (w : W P N c Q st' h') : W P N c Q st h := fun c' hc dfs ι a wd ar wr => by
 obtain ⟨ι', le, FA, wr', ex⟩ := frz_world wr hm F
 refine wp_mono (w c' hc dfs ι' a wd ⟨ar.size, ar.defs, ar.tab.mono le, fun d => FrzV.rel le FA (hst d) (ar.slot d)⟩ wr') fun e a' w' l => ?_
 obtain ⟨st'', h'', ι'', q, ar', wr'', x⟩ := l
 exact ⟨st'', h'', ι'', q, ar', wr'', ex.trans x⟩
theorem w_frz {c : AC} {t : Nat} {cs : List AV} (hm : h.m t = some (.cells true cs)) (hst : ∀ d, FrzV t cs (st.get d) (st'.get d)) (w : W P N c Q st' (h.kill t)) : W P N c Q st h := w_frzH hm (FrzH.kill t cs h) hst w
theorem w_frz0 {c : AC} (hst : ∀ d, FrzV 0 [] (st.get d) (st'.get d)) (w : W P N c Q st' h) : W P N c Q st h := fun c' hc dfs ι a wd ar wr =>
 w c' hc dfs ι a wd ⟨ar.size, ar.defs, ar.tab, fun d => FrzV.rel (Inj.le_refl ι) ⟨wr.nil, .inl ⟨wr.nil, rfl⟩⟩ (hst d) (ar.slot d)⟩ wr
theorem w_virt {c : AC} (k d : Nat) (hd : st.get d = .sl 0 0 0 0) (w : W P N c Q ((d, .sl h.nx 0 0 k) :: st) ((h.bump 1).set h.nx (.cells true []))) : W P N c Q st h := fun c' hc dfs ι a wd ar wr => by
 have hn : ι h.nx = none := by
  cases hq : ι h.nx with
  | none => rfl
  | some l => have := (wr.lt _ l hq).1; omega
 have hm1 : ∀ s c, ((h.bump 1).set h.nx (.cells true [])).m s = some c → (s = h.nx ∧ c = .cells true []) ∨ h.m s = some c := fun s c hs => by
  unfold AH.set at hs
  by_cases e : s = h.nx
  ·subst e; simp only [if_true, Option.some.injEq] at hs; exact .inl ⟨rfl, hs.symm⟩
  ·simp only [if_neg e] at hs; exact .inr hs
 have wr' : WRel ι ((h.bump 1).set h.nx (.cells true [])) wd := by
  refine ⟨fun t l hl => ⟨by have := (wr.lt t l hl).1; show t < h.nx + 1; omega, (wr.lt t l hl).2⟩, fun t c hc => ?_, fun t t' l l' c c' h1 h2 h3 h4 h5 h6 => ?_, Nat.succ_pos _, wr.nil0, fun b xs hb => ⟨(wr.phi b xs hb).1, fun t c l hc hw hl => ?_⟩⟩
  ·rcases hm1 t c hc with ⟨rfl, rfl⟩ | hc
   ·exact ⟨by show h.nx < h.nx + 1; omega, .inl ⟨rfl, hn⟩⟩
   ·exact ⟨by have := (wr.blk t c hc).1; show t < h.nx + 1; omega, (wr.blk t c hc).2⟩
  ·rcases hm1 t c h1 with ⟨rfl, rfl⟩ | h1
   ·rw [hn] at h3; cases h3
   rcases hm1 t' c' h2 with ⟨rfl, rfl⟩ | h2
   ·rw [hn] at h4; cases h4
   exact wr.inj t t' l l' c c' h1 h2 h3 h4 h5 h6
  ·rcases hm1 t c hc with ⟨rfl, rfl⟩ | hc
   ·rw [hn] at hl; cases hl
   ·exact (wr.phi b xs hb).2 t c l hc hw hl
 have ex : Ext ι h wd ι ((h.bump 1).set h.nx (.cells true [])) wd := by
  refine ⟨Nat.le_succ _, fun _ _ => rfl, rfl, rfl, rfl, Nat.le_refl _, fun _ _ _ => rfl, fun t c l hc hw hl => ?_, fun _ _ x => x, fun _ _ x => .inl x, Nat.le_refl _⟩
  rcases hm1 t c hc with ⟨rfl, rfl⟩ | hc
  ·rw [hn] at hl; cases hl
  ·exact .inr ⟨t, c, l, hc, hw, hl, rfl⟩
 have ar' : ARel N dfs ι ((d, .sl h.nx 0 0 k) :: st) a := ⟨ar.size, ar.defs, ar.tab, fun s => by
  simp only [St.get]
  by_cases e : s = d
  ·subst e
   rw [if_pos rfl]
   have := ar.slot s
   rw [hd] at this
   simp only [VRel] at this ⊢
   rcases this with ⟨_, x, hx⟩ | ⟨l, cap, hl, _⟩
   ·exact .inl ⟨by trivial, x, hx⟩
   ·rw [wr.nil] at hl; cases hl
  ·rw [if_neg e]; exact ar.slot s⟩
 refine wp_mono (w c' hc dfs ι a wd ar' wr') fun e a' w' l => ?_
 obtain ⟨st'', h'', ι'', q, ar'', wr'', x⟩ := l
 exact ⟨st'', h'', ι'', q, ar'', wr'', ex.trans x⟩
end
abbrev PC (P : Program) (f : Nat) (args : List AV) (v : AV) : Prop := ∀ h, ACalls P f args h fun r h' => r = v ∧ h' = h
def H1 : AH := ⟨fun _ => none, 1⟩
theorem H1_nx : H1.nx = 1 := rfl
theorem H1_m (t : Nat) : H1.m t = none := rfl
def Ends (v : AV) (r : AV) (h : AH) : Prop := ∃ h', FrzR h r h' v
theorem pc_fn {P : Program} {f : Nat} {ac : AC} {ars : List ARes} {N : Nat} (hf : fnOf P f = some (ac, ars, N)) {args : List AV} {v : AV} (ha : AV.plains args = true) (hv : v.plain = true) (hN : args.length ≤ N)
 (hw : W P N ac (athen (Post ars (Ends v)) (Fin (Post ars (Ends v)))) (initSt args) H1) : PC P f args v := fun h =>
 empty_call (R := fun r => r = v) ha (acalls_frz ((a_fn hf hN fun _ _ => hw).mono fun r h' ⟨h'', F⟩ => ⟨v, h'', F, rfl⟩)) (fun r e => by rw [e]; exact hv) h
theorem ends_of {v : AV} {h : AH} : Ends v v h := ⟨h, .done⟩
theorem ends_sl {t n k : Nat} {cs : List AV} {h : AH} {a : Nat} (hm : h.m t = some (.cells true cs)) (hl : n * k = cs.length) : Ends (.vs n cs) (.sl t 0 n a) h :=
 ⟨_, .step hm (FrzH.kill _ _ _) (by
  have := @FrzV.sl t cs 0 n k a (by omega)
  rwa [List.drop_zero, hl, List.take_length] at this) .done⟩
theorem ends_sl2 {t n k : Nat} {cs : List AV} {h : AH} {a : Nat} {x : AV} (hm : h.m t = some (.cells true cs)) (hl : n * k = cs.length) : Ends (.tu [.vs n cs, x]) (.tu [.sl t 0 n a, x]) h :=
 ⟨_, .step hm (FrzH.kill _ _ _) (.tu (.cons (by
  have := @FrzV.sl t cs 0 n k a (by omega)
  rwa [List.drop_zero, hl, List.take_length] at this) (.cons .same .nil))) .done⟩
theorem ends_nil2 {a : Nat} {h : AH} {x : AV} : Ends (.tu [.vs 0 [], x]) (.tu [.sl 0 0 0 a, x]) h := ⟨h, .zero (.tu (.cons .nil (.cons .same .nil))) .done⟩
theorem WRel.h1 {w : World} {φ : Nat → Option (Array Value)} (hφ : ∀ b xs, φ b = some xs → ∃ e fz, w.heap[b]? = some (.cells xs e fz)) (hT : TabOK φ) : WRel ⟨fun _ => none, φ⟩ H1 w where
 lt t l h := by cases h
 blk t c h := by cases h
 inj t t' l l' c c' h := by cases h
 pos := Nat.zero_lt_one
 nil0 := ⟨rfl, hT⟩
 phi b xs hb := ⟨hφ b xs hb, fun t c l hc => by cases hc⟩
theorem law_pc {P : Program} {f : Nat} {az : List AV} {vs : Array Value} {w : World} {φ : Nat → Option (Array Value)} (hφ : ∀ b xs, φ b = some xs → ∃ e fz, w.heap[b]? = some (.cells xs e fz)) (hT : TabOK φ) (hv : VRels ⟨fun _ => none, φ⟩ az vs.toList) (c : PC P f az (.b true)) :
 Calls P f vs w fun e w' => e = .returned (.bool true) ∧ RowKit.Below w.heap.size w w' := by
 refine Calls.mono ((c H1).2 ⟨fun _ => none, φ⟩ w vs (WRel.h1 hφ hT) hv) fun e w' he => ?_
 obtain ⟨v, r, h', ι', rfl, ⟨rfl, rfl⟩, h1, h2, h3⟩ := he
 simp only [VRel] at h1
 subst h1
 exact ⟨rfl, ⟨h3.os, h3.tape, h3.output, h3.size, fun b hb => h3.keep b hb fun t c l hm => by cases hm⟩⟩
end Go.Am
