/- The abstract machine: code as it is read, function by function; the rules of its weakest precondition. -/
import Derived.Test.YtbhkbaapfioijaaAmM
set_option linter.unusedVariables false
set_option linter.unusedSimpArgs false
namespace Go.Am

/-- for each operation of a region: which others come before it, as bits -/
def masks (ops : List Oper) : List Nat :=
  ops.foldl (fun ms o => ms ++ [o.after.foldl (fun s e => if Region.binds .any e then s ||| 2 ^ e.on ||| ms.getD e.on 0 else s) 0]) []

def allBefore (ms : List Nat) (j : Nat) : Bool := (List.range j).all fun i => (ms.getD j 0).testBit i
/-- where the tail begins whose operations come in the text's order -/
def tailAt (ms : List Nat) : Nat → Nat
  | 0 => 0
  | m + 1 => if allBefore ms m then tailAt ms m else m + 1

/-- one store only, no call, and what is read is not set behind it -/
def lateB (l : List AOper) : Bool :=
  (l.zipIdx.all fun (aj, j) => l.zipIdx.all fun (ai, i) => decide (i = j) || !ai.op.late || !aj.op.late) &&
  (l.all fun a => (!a.op.late || a.op.lateOk) && !a.op.cal) &&
  (l.zipIdx.all fun (aj, j) => l.zipIdx.all fun (ai, i) => !decide (i ≤ j) || ai.op.free || ai.reads.all fun x => aj.d != some x)
def headB (ops : Array Oper) (aops : List AOper) (ms : List Nat) (m : Nat) : Bool :=
  (ops.toList.zipIdx.all fun (o, j) => o.after.all fun e => !Region.binds .any e || e.on < j) &&
  (ops.toList.zipIdx.all fun (o, j) => decide (ms.getD j 0 < 2 ^ ops.size) && (List.range ops.size).all fun i => !(ms.getD j 0).testBit i ||
    o.after.toList.any fun e => Region.binds .any e && (e.on == i || (ms.getD e.on 0).testBit i)) &&
  (aops.zipIdx.all fun (aj, j) => aops.zipIdx.all fun (ai, i) => !decide (i < j) || !ai.clash aj || (ms.getD j 0).testBit i) &&
  ((List.range ops.size).all fun j => !decide (m ≤ j) || allBefore ms j) &&
  (aops.all fun a => a.op.xs.all AX.noPtr) && decide (m ≤ ops.size) &&
  (!(aops.take m).any (fun a => a.op.late) || lateB (aops.take m))

theorem zipIdx_all {α : Type} {l : List α} {p : α × Nat → Bool} (h : l.zipIdx.all p = true) {i : Nat} {x : α} (hx : l[i]? = some x) : p (x, i) = true := by
  refine List.all_eq_true.1 h (x, i) ?_
  rw [List.mem_zipIdx_iff_getElem?]
  exact hx

theorem headB_spec {ops : Array Oper} {aops : List AOper} {ms : List Nat} {m : Nat} (h : headB ops aops ms m = true) : HeadOK ops aops (fun i j => (ms.getD j 0).testBit i = true) m ∧ m ≤ ops.size := by
  unfold headB at h
  simp only [Bool.and_eq_true, decide_eq_true_eq] at h
  obtain ⟨⟨⟨⟨⟨⟨h1, h2⟩, h3⟩, h4⟩, h5⟩, h6⟩, h7⟩ := h
  have tk : ∀ {i : Nat} {ai : AOper}, i < m → aops[i]? = some ai → (aops.take m)[i]? = some ai := fun hi ha => by rw [List.getElem?_take]; simp [hi, ha]
  have h7 : ∀ {i : Nat} {ai : AOper}, i < m → aops[i]? = some ai → ai.op.late = true →
      lateB (aops.take m) = true := fun {i ai} hi ha hl => by
    simp only [Bool.or_eq_true, Bool.not_eq_true'] at h7
    rcases h7 with h7 | h7
    · have := List.any_eq_false.1 h7 ai (List.mem_of_getElem? (tk hi ha))
      exact absurd hl this
    · exact h7
  refine ⟨⟨fun j o e ho he hb => ?_, fun j o i ho hd => ?_, fun i j ai aj hij hai haj hc => ?_, fun i j hm hj hij => ?_, fun i ai hai x hx => ?_, fun i k ai ak him hkm hai hak hl1 hl2 => ?_, fun i j ai aj him hjm hai haj hl => ?_, fun k i j ak ai aj hk hij hjm hak hl hai haj hf x hx => ?_⟩, h6⟩
  · have := zipIdx_all h1 (i := j) (x := o) (by simpa using ho)
    simp only [Array.all_eq_true_iff_forall_mem] at this
    have := this e he
    simpa [hb] using this
  · have := zipIdx_all h2 (i := j) (x := o) (by simpa using ho)
    simp only [Bool.and_eq_true, decide_eq_true_eq] at this
    obtain ⟨q1, q2⟩ := this
    have hi : i < ops.size := by
      rcases Nat.lt_or_ge i ops.size with hq | hq
      · exact hq
      · have := Nat.testBit_lt_two_pow (Nat.lt_of_lt_of_le q1 (Nat.pow_le_pow_right (by omega) hq))
        rw [hd] at this; cases this
    have := List.all_eq_true.1 q2 i (List.mem_range.2 hi)
    rw [hd] at this
    simp only [Bool.not_true, Bool.false_or, List.any_eq_true] at this
    obtain ⟨e, he, hb⟩ := this
    simp only [Bool.and_eq_true, Bool.or_eq_true, beq_iff_eq] at hb
    exact ⟨e, by simpa using he, hb.1, hb.2⟩
  · have := zipIdx_all (zipIdx_all h3 (i := j) (x := aj) haj) (i := i) (x := ai) hai
    simpa [hij, hc] using this
  · have := List.all_eq_true.1 h4 j (List.mem_range.2 hj)
    simp only [hm, decide_true, Bool.not_true, Bool.false_or] at this
    exact List.all_eq_true.1 this i (List.mem_range.2 hij)
  · have := List.all_eq_true.1 h5 ai (List.mem_of_getElem? hai)
    exact List.all_eq_true.1 this x hx
  · have h8 := h7 him hai hl1
    unfold lateB at h8
    simp only [Bool.and_eq_true] at h8
    have := zipIdx_all (zipIdx_all h8.1.1 (i := k) (x := ak) (tk hkm hak)) (i := i) (x := ai) (tk him hai)
    simpa [hl1, hl2] using this
  · have h8 := h7 him hai hl
    unfold lateB at h8
    simp only [Bool.and_eq_true] at h8
    have e1 := List.all_eq_true.1 h8.1.2 ai (List.mem_of_getElem? (tk him hai))
    have e2 := List.all_eq_true.1 h8.1.2 aj (List.mem_of_getElem? (tk hjm haj))
    simp only [hl, Bool.not_true, Bool.false_or, Bool.and_eq_true, Bool.not_eq_true'] at e1 e2
    exact ⟨e1.1, e2.2⟩
  · have h8 := h7 hk hak hl
    unfold lateB at h8
    simp only [Bool.and_eq_true] at h8
    have := zipIdx_all (zipIdx_all h8.2 (i := j) (x := aj) (tk hjm haj)) (i := i) (x := ai) (tk (by omega) hai)
    simp only [hij, decide_true, Bool.not_true, Bool.false_or, hf, List.all_eq_true, bne_iff_ne] at this
    exact this x hx

def AC.of (P : Program) (N : Nat) : Code → Option AC
  | .skip => some .skip
  | .region _ ops false => (opersOf P N ops).map .reg
  | .region _ ops true => do
    let l ← opersOf P N ops
    let ms := masks ops.toList
    let m := tailAt ms ops.size
    if P.follows .mixedOrders && headB ops l ms m then some (.head m l) else none
  | .seq a b => do some (.seq (← AC.of P N a) (← AC.of P N b))
  | .cond c a b => do some (.cond (← toX c) (← AC.of P N a) (← AC.of P N b))
  | .block id b => do some (.blk id (← AC.of P N b))
  | .loop b => do some (.loop (← AC.of P N b))
  | .exit id => some (.exit id)
  | .ret => some .ret
  | _ => none

inductive CodeR (P : Program) (N : Nat) : Code → AC → Prop
  | skip : CodeR P N .skip .skip
  | reg {id ops l} (h : opersOf P N ops = some l) : CodeR P N (.region id ops false) (.reg l)
  | head {id ops l m ms} (h : opersOf P N ops = some l) (hm : P.follows .mixedOrders = true) (hh : headB ops l ms m = true) : CodeR P N (.region id ops true) (.head m l)
  | seq {a b x y} (ha : CodeR P N a x) (hb : CodeR P N b y) : CodeR P N (.seq a b) (.seq x y)
  | cond {c a b z x y} (hc : toX c = some z) (ha : CodeR P N a x) (hb : CodeR P N b y) : CodeR P N (.cond c a b) (.cond z x y)
  | blk {id b y} (hb : CodeR P N b y) : CodeR P N (.block id b) (.blk id y)
  | loop {b y} (hb : CodeR P N b y) : CodeR P N (.loop b) (.loop y)
  | exit {id} : CodeR P N (.exit id) (.exit id)
  | ret : CodeR P N .ret .ret

theorem code_R {P : Program} {N : Nat} : ∀ {c : Code} {ac : AC}, AC.of P N c = some ac → CodeR P N c ac
  | .skip, ac, h => by simp [AC.of] at h; subst h; exact .skip
  | .region id ops false, ac, h => by
    simp only [AC.of, Option.map_eq_some_iff] at h
    obtain ⟨l, hl, rfl⟩ := h
    exact .reg hl
  | .region id ops true, ac, h => by
    simp only [AC.of, Option.bind_eq_bind, Option.bind_eq_some_iff] at h
    obtain ⟨l, hl, h⟩ := h
    split at h
    · rename_i hc
      simp only [Bool.and_eq_true] at hc
      cases h
      exact .head hl hc.1 hc.2
    · cases h
  | .seq a b, ac, h => by
    simp only [AC.of, Option.bind_eq_bind, Option.bind_eq_some_iff, Option.some.injEq] at h
    obtain ⟨x, hx, y, hy, rfl⟩ := h
    exact .seq (code_R hx) (code_R hy)
  | .cond c a b, ac, h => by
    simp only [AC.of, Option.bind_eq_bind, Option.bind_eq_some_iff, Option.some.injEq] at h
    obtain ⟨z, hz, x, hx, y, hy, rfl⟩ := h
    exact .cond hz (code_R hx) (code_R hy)
  | .block id b, ac, h => by
    simp only [AC.of, Option.bind_eq_bind, Option.bind_eq_some_iff, Option.some.injEq] at h
    obtain ⟨y, hy, rfl⟩ := h
    exact .blk (code_R hy)
  | .loop b, ac, h => by
    simp only [AC.of, Option.bind_eq_bind, Option.bind_eq_some_iff, Option.some.injEq] at h
    obtain ⟨y, hy, rfl⟩ := h
    exact .loop (code_R hy)
  | .exit id, ac, h => by simp [AC.of] at h; subst h; exact .exit
  | .ret, ac, h => by simp [AC.of] at h; subst h; exact .ret
  | .rangeFunc .., ac, h => by simp [AC.of] at h
  | .scope _, ac, h => by simp [AC.of] at h
  | .label _, ac, h => by simp [AC.of] at h
  | .goto _, ac, h => by simp [AC.of] at h
  | .refuse _, ac, h => by simp [AC.of] at h

/-- The weakest precondition of code as it is read. -/
def W (P : Program) (N : Nat) (c : AC) (Q : Exit → St → AH → Prop) (st : St) (h : AH) : Prop := ∀ c', CodeR P N c' c → Awp P N c' Q st h

section
variable {P : Program} {N : Nat} {Q Q' : Exit → St → AH → Prop} {st : St} {h : AH}

theorem w_skip (q : Q .normal st h) : W P N .skip Q st h := fun c hc => by cases hc; exact awp_skip q
theorem w_exit {id : Nat} (q : Q (.exit id) st h) : W P N (.exit id) Q st h := fun c hc => by cases hc; exact awp_exit q
theorem w_ret (q : Q .ret st h) : W P N .ret Q st h := fun c hc => by cases hc; exact awp_ret q
theorem w_seq {a b : AC} (q : W P N a (athen (fun st h => W P N b Q st h) Q) st h) : W P N (.seq a b) Q st h := fun c hc => by
  cases hc with
  | seq ha hb =>
    refine awp_seq ((q _ ha).mono fun e st h hq => ?_)
    cases e with
    | normal => exact hq _ hb
    | _ => exact hq
theorem w_cond {c : AX} {a b : AC} {t : Bool} (ht : c.val st = .b t) (h1 : t = true → W P N a Q st h) (h2 : t = false → W P N b Q st h) : W P N (.cond c a b) Q st h := fun c hc => by
  cases hc with
  | cond hz ha hb => exact awp_cond hz ht (fun e => h1 e _ ha) (fun e => h2 e _ hb)
theorem w_blk {id : Nat} {b : AC} (q : W P N b (ablk id Q) st h) : W P N (.blk id b) Q st h := fun c hc => by
  cases hc with
  | blk hb => exact awp_block (q _ hb)
theorem w_loop {b : AC} (I : Nat → St → AH → Prop) (n : Nat) (h0 : I n st h) (round : ∀ n st h, I n st h → W P N b (athen (fun st' h' => ∃ m h'', m < n ∧ h''.le h' ∧ I m st' h'') Q) st h) : W P N (.loop b) Q st h := fun c hc => by
  cases hc with
  | loop hb => exact awp_loop I h0 fun n st h hI => round n st h hI _ hb
theorem w_reg {ops : List AOper} (e : evOps P h.nx ops 0 st { h with nx := h.nx + ops.length } fun st h => Q .normal st h) : W P N (.reg ops) Q st h := fun c hc => by
  cases hc with
  | reg hl => exact awp_region hl e
theorem sepP_none {ops : List AOper} {st : St} (h : ops.any (fun o => o.op.late) = false) : sepP ops st := fun ak hk hl => absurd hl (List.any_eq_false.1 h ak hk)
theorem w_head {m : Nat} {ops : List AOper} (e : evHead P h.nx { h with nx := h.nx + ops.length } (ops.take m) 0 st { h with nx := h.nx + ops.length } fun st' h' => sepP (ops.take m) st' ∧ evOps P h.nx (ops.drop m) m st' h' fun st h => Q .normal st h) :
    W P N (.head m ops) Q st h := fun c hc => by
  cases hc with
  | head hl hm hh =>
    obtain ⟨H, hmn⟩ := headB_spec hh
    exact awp_head hm hl H hmn e
theorem W.mono {c : AC} (w : W P N c Q st h) (hq : ∀ e st h, Q e st h → Q' e st h) : W P N c Q' st h := fun c' hc => (w c' hc).mono hq
theorem W.weaken {c : AC} {st' : St} {h' : AH} (hst : ∀ d, st'.get d = .un ∨ st'.get d = st.get d) (hh : h'.le h) (hnx : h'.nx = h.nx) (w : W P N c Q st' h') : W P N c Q st h := fun c' hc => (w c' hc).weaken hst hh hnx
end

/-- A function as it is read: its code, its results, the number of its slots. -/
def fnOf (P : Program) (f : Nat) : Option (AC × List ARes × Nat) := do
  let fn ← P.funcs[f]?
  let c ← fn.body
  let ac ← AC.of P fn.ntmps c
  let rs ← resOf P fn.results.toList
  if fn.name == "runtime.NumGoroutine" then none else some (ac, rs, fn.ntmps)

theorem acalls_fn {P : Program} {f : Nat} {ac : AC} {ars : List ARes} {N : Nat} (hf : fnOf P f = some (ac, ars, N)) {args : List AV} {h : AH} {R : AV → AH → Prop} (hN : args.length ≤ N)
    (hw : W P N ac (fun e st h' => (e = .normal ∨ e = .ret) ∧ ∃ vs, ars.mapM (ARes.val st h') = some vs ∧ ∃ h'', h''.le h' ∧ R (aone vs) h'') (initSt args) h) : ACalls P f args h R := by
  unfold fnOf at hf
  simp only [Option.bind_eq_bind, Option.bind_eq_some_iff] at hf
  obtain ⟨fn, hfn, c, hc, ac', hac, rs, hrs, hf⟩ := hf
  split at hf
  · cases hf
  · rename_i hn
    simp only [Option.some.injEq, Prod.mk.injEq] at hf
    obtain ⟨rfl, rfl, rfl⟩ := hf
    exact acalls_of hfn (by simpa using hn) hc hrs hN (hw c (code_R hac))

end Go.Am
