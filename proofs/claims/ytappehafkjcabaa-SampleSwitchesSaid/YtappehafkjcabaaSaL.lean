import Derived.Test.YtappehafkjcabaaSaH
import Derived.Test.YtappehafkjcabaaAmX
set_option linter.unusedVariables false
set_option linter.unusedSimpArgs false
namespace Go.Proofs.Ytappehafkjcabaa
open Go Go.Am Go.Proofs

theorem _root_.Go.Am.AH.ok.read {h : AH} (ok : h.ok) {t o : Nat} {n : Option Nat} {v : AV} (r : h.read t o n = some v) : t < h.nx := by
  unfold AH.read at r
  split at r
  · rename_i cs hr; exact ok.row hr
  · cases r

/-- how many of the first k drawn pieces are bad; none: a number is wrong -/
def bd (p : Nat → Bool) (n1 : Nat) (d : Nat → Int) : Nat → Option Nat
  | 0 => some 0
  | k + 1 => match bd p n1 d k with
    | none => none
    | some c => if d k < 0 ∨ (n1 : Int) ≤ d k ∨ (List.range k).any (fun i => decide (d i = d k)) = true then none else some (c + if p (d k).toNat then 1 else 0)
theorem bd_none {p : Nat → Bool} {n1 : Nat} {d : Nat → Int} {k : Nat} (h : bd p n1 d k = none) : ∀ j, bd p n1 d (k + j) = none
  | 0 => h
  | j + 1 => by rw [← Nat.add_assoc]; simp only [bd, bd_none h j]
theorem bd_le {p : Nat → Bool} {n1 : Nat} {d : Nat → Int} : ∀ {k c : Nat}, bd p n1 d k = some c → c ≤ k
  | 0, c, h => by simp [bd] at h; omega
  | k + 1, c, h => by
    simp only [bd] at h
    split at h
    · cases h
    · rename_i c' hc
      have := bd_le hc
      split at h
      · cases h
      · simp only [Option.some.injEq] at h; split at h <;> omega
def bv (p : Nat → Bool) (n1 : Nat) (d : Nat → Int) (n2 : Nat) : Int × Int := if 60 < n1 then (0, 2) else match bd p n1 d n2 with
  | none => (0, 2)
  | some c => (((c : Nat) : Int), 0)

theorem bv_none {p : Nat → Bool} {n1 n2 i : Nat} {d : Nat → Int} (h : bd p n1 d (i + 1) = none) (hi : i < n2) : bv p n1 d n2 = (0, 2) := by
  have := bd_none h (n2 - (i + 1))
  rw [show i + 1 + (n2 - (i + 1)) = n2 by omega] at this
  unfold bv
  split
  · rfl
  · rw [this]
theorem bv_some {p : Nat → Bool} {n1 n2 c : Nat} {d : Nat → Int} (hn : ¬ 60 < n1) (h : bd p n1 d n2 = some c) : bv p n1 d n2 = (((c : Nat) : Int), 0) := by
  unfold bv
  rw [if_neg hn, h]
theorem bd_step {p : Nat → Bool} {n1 i c X : Nat} {d : Nat → Int} (hb : bd p n1 d i = some c) (hX : d i = X) (vX : X < n1) (ha : ¬ (List.range i).any (fun k => decide (d k = d i)) = true) : bd p n1 d (i + 1) = some (c + if p X then 1 else 0) := by
  simp only [bd, hb]
  rw [if_neg (by rintro (h | h | h); omega; omega; exact ha h), hX]; rfl
theorem bd_bad {p : Nat → Bool} {n1 n2 i c : Nat} {d : Nat → Int} (hb : bd p n1 d i = some c) (h : d i < 0 ∨ (n1 : Int) ≤ d i ∨ (List.range i).any (fun k => decide (d k = d i)) = true) (hi : i < n2) : bv p n1 d n2 = (0, 2) :=
  bv_none (by simp only [bd, hb]; rw [if_pos h]) hi
theorem any_succ (q : Nat → Bool) (k : Nat) : (List.range (k + 1)).any q = ((List.range k).any q || q k) := by
  rw [List.range_succ, List.any_append]; simp
theorem cl_rep (n : Nat) (v : AV) : (List.replicate n [v]).flatten = cl n fun _ => v := by
  refine list_cl (by simp) fun x hx => ?_
  induction n generalizing x with
  | zero => omega
  | succ n ih => cases x with
    | zero => rfl
    | succ x => rw [List.replicate_succ, List.flatten_cons]; exact ih x (by omega)

theorem f28 (t1 o1 n1 a1 t2 o2 n2 a2 : Nat) (p : Nat → Bool) (d : Nat → Int) (hn1 : n1 ≤ 9223372036854775807) (hn2 : n2 ≤ 9223372036854775807) (h : AH) (h1 : ∀ j, j < n1 → h.read t1 (o1 + j) none = some (.b (p j))) (h2 : ∀ j, j < n2 → h.read t2 (o2 + j) none = some (.i .i64 (d j))) :
    ACalls Try.prog 28 [.sl t1 o1 n1 a1, .sl t2 o2 n2 a2] h fun r h' => r = .tu [.i .i64 (bv p n1 d n2).1, .i .i64 (bv p n1 d n2).2] ∧ h' = h := by
  refine pure_call (R := fun r => r = .tu [.i .i64 (bv p n1 d n2).1, .i .i64 (bv p n1 d n2).2]) (fun h0 hr _ => ?_) (fun r e => by rw [e]; rfl)
  have h1' : ∀ j, j < n1 → h0.read t1 (o1 + j) none = some (.b (p j)) := fun j hj => by unfold AH.read; rw [hr]; exact h1 j hj
  have h2' : ∀ j, j < n2 → h0.read t2 (o2 + j) none = some (.i .i64 (d j)) := fun j hj => by unfold AH.read; rw [hr]; exact h2 j hj
  clear h1 h2 hr
  refine a_fn fn28 (by simp) fun ok pos => ?_
  have q1 : ∀ j, j < n1 → t1 < h0.nx := fun j hj => ok.read (h1' j hj)
  have q2 : ∀ j, j < n2 → t2 < h0.nx := fun j hj => ok.read (h2' j hj)
  rw [initSt2]
  repeat' first
    | with_reducible refine k_seq ?_
    | with_reducible refine k_skip ?_
    | with_reducible refine k_blkS ?_
    | with_reducible refine k_reg ?_
    | with_reducible refine r_done ?_
    | with_reducible refine s_go (by simp (disch := omega) only [c28r0, c28r1, c28r2, c28r3, c28r4, c28r5, c28r6, c28r7, c28r8, c28r9, c28r10, c28r11, c28r12, c28r13, c28r15, EV0, EV1, EV2, EV3, EV4, EV5, EV6, EV7, plug, ite_same, decide_true, decide_false, eq_self, ↓reduceIte, reduceCtorEq, Nat.reduceAdd, Nat.reduceEqDiff, Nat.reduceLT, Nat.reduceLeDiff, Nat.reduceMul, Nat.reduceSub, Nat.reduceDiv, Int.reduceToNat, Int.reduceAdd, Int.reduceSub, Int.reduceMul, Int.reduceNeg, Int.reduceEq, Int.reduceLT, Int.reduceLE]; with_reducible rfl) ?_
    | ((with_reducible refine chk_r ?_); refine r_callF (by simp only [CA, Nat.reduceEqDiff, ↓reduceIte]; rfl) (by exact rfl) (by simp only [CA, Nat.reduceEqDiff, ↓reduceIte]; rfl) rfl ?_)
    | (with_reducible refine k_condP (by simp only [GA, Nat.reduceEqDiff, ↓reduceIte]; rfl) (by first | (simp only [BO]; rfl) | rfl) (fun ht => ?_) (fun ht => ?_) <;> try (first | exact False.elim ht | exact absurd rfl ht | exact absurd trivial ht | exact Bool.noConfusion ht))
    | (with_reducible refine k_ret ?_; repeat with_reducible (first | refine ret_thru ?_ | refine ret_blk ?_ | refine fin ?_))
    | (with_reducible refine k_exit ?_; repeat with_reducible (first | refine thru ?_ | refine out_blk ?_ | refine pass (by decide) ?_))
    | (refine post1 ?_; simp only [GA, Nat.reduceEqDiff, ↓reduceIte])
    | (refine post2 ?_; simp only [GA, Nat.reduceEqDiff, ↓reduceIte])
    | (refine post3 ?_; simp only [GA, Nat.reduceEqDiff, ↓reduceIte])
    | (refine postc (by simp only [GA, Nat.reduceEqDiff, ↓reduceIte]; rfl) (by simp (disch := omega) only [c28r0, c28r1, c28r2, c28r3, c28r4, c28r5, c28r6, c28r7, c28r8, c28r9, c28r10, c28r11, c28r12, c28r13, c28r15, EV0, EV1, EV2, EV3, EV4, EV5, EV6, EV7, plug, ite_same, decide_true, decide_false, eq_self, ↓reduceIte, reduceCtorEq, Nat.reduceAdd, Nat.reduceEqDiff, Nat.reduceLT, Nat.reduceLeDiff, Nat.reduceMul, Nat.reduceSub, Nat.reduceDiv, Int.reduceToNat, Int.reduceAdd, Int.reduceSub, Int.reduceMul, Int.reduceNeg, Int.reduceEq, Int.reduceLT, Int.reduceLE]; rfl) ?_)
    | refine post0 ?_
  · simp [bv, show 60 < n1 by omega]
  refine k_blk (k_loop (fun m st h => ∃ i c tS : Nat, Am.keep [18, 17, 16, 7, 6, 0] st = [(18, .i .i64 i), (17, .i .i64 n2), (16, .sl t2 o2 n2 a2), (7, .i .i64 c), (6, .sl tS 0 n1 1), (0, .sl t1 o1 n1 a1)] ∧ m = n2 - i ∧ i ≤ n2 ∧ bd p n1 d i = some c ∧
      h.m tS = some (.cells true (cl n1 fun x => .b ((List.range i).any fun k => decide (d k = x)))) ∧ h0.nx ≤ tS ∧ (∀ j, j < n1 → h.read t1 (o1 + j) none = some (.b (p j))) ∧ (∀ j, j < n2 → h.read t2 (o2 + j) none = some (.i .i64 (d j)))) n2 ?_ ?_)
  · refine ⟨0, 0, _, rfl, by omega, by omega, rfl, ?_, by omega, fun j hj => ?_, fun j hj => ?_⟩
    · simp (disch := omega) only [c28r0, c28r1, c28r2, c28r3, c28r4, c28r5, c28r6, c28r7, c28r8, c28r9, c28r10, c28r11, c28r12, c28r13, c28r15, EV0, EV1, EV2, EV3, EV4, EV5, EV6, EV7, plug, ite_same, decide_true, decide_false, eq_self, ↓reduceIte, reduceCtorEq, Nat.reduceAdd, Nat.reduceEqDiff, Nat.reduceLT, Nat.reduceLeDiff, Nat.reduceMul, Nat.reduceSub, Nat.reduceDiv, Int.reduceToNat, Int.reduceAdd, Int.reduceSub, Int.reduceMul, Int.reduceNeg, Int.reduceEq, Int.reduceLT, Int.reduceLE]
      rw [cl_rep]; rfl
    · have := q1 j hj; simp (disch := omega) only [h1', c28r0, c28r1, c28r2, c28r3, c28r4, c28r5, c28r6, c28r7, c28r8, c28r9, c28r10, c28r11, c28r12, c28r13, c28r15, EV0, EV1, EV2, EV3, EV4, EV5, EV6, EV7, plug, ite_same, decide_true, decide_false, eq_self, ↓reduceIte, reduceCtorEq, Nat.reduceAdd, Nat.reduceEqDiff, Nat.reduceLT, Nat.reduceLeDiff, Nat.reduceMul, Nat.reduceSub, Nat.reduceDiv, Int.reduceToNat, Int.reduceAdd, Int.reduceSub, Int.reduceMul, Int.reduceNeg, Int.reduceEq, Int.reduceLT, Int.reduceLE]
    · have := q2 j hj; simp (disch := omega) only [h2', c28r0, c28r1, c28r2, c28r3, c28r4, c28r5, c28r6, c28r7, c28r8, c28r9, c28r10, c28r11, c28r12, c28r13, c28r15, EV0, EV1, EV2, EV3, EV4, EV5, EV6, EV7, plug, ite_same, decide_true, decide_false, eq_self, ↓reduceIte, reduceCtorEq, Nat.reduceAdd, Nat.reduceEqDiff, Nat.reduceLT, Nat.reduceLeDiff, Nat.reduceMul, Nat.reduceSub, Nat.reduceDiv, Int.reduceToNat, Int.reduceAdd, Int.reduceSub, Int.reduceMul, Int.reduceNeg, Int.reduceEq, Int.reduceLT, Int.reduceLE]
  · rintro m st h ⟨i, c, tS, hk, rfl, hi, hb, hm, htS, e1, e2⟩
    refine k_inv hk (w_ok fun ok pos => ?_)
    have := ok.m hm
    by_cases hc : (i : Int) < n2
    · have hcl := bd_le hb
      by_cases v1 : d i < 0
      · repeat' first
          | with_reducible refine k_seq ?_
          | with_reducible refine k_skip ?_
          | with_reducible refine k_blkS ?_
          | with_reducible refine k_reg ?_
          | with_reducible refine r_done ?_
          | with_reducible refine s_go (by simp (disch := omega) only [hc, v1, e1, e2, c28r0, c28r1, c28r2, c28r3, c28r4, c28r5, c28r6, c28r7, c28r8, c28r9, c28r10, c28r11, c28r12, c28r13, c28r15, EV0, EV1, EV2, EV3, EV4, EV5, EV6, EV7, plug, ite_same, decide_true, decide_false, eq_self, ↓reduceIte, reduceCtorEq, Nat.reduceAdd, Nat.reduceEqDiff, Nat.reduceLT, Nat.reduceLeDiff, Nat.reduceMul, Nat.reduceSub, Nat.reduceDiv, Int.reduceToNat, Int.reduceAdd, Int.reduceSub, Int.reduceMul, Int.reduceNeg, Int.reduceEq, Int.reduceLT, Int.reduceLE]; with_reducible rfl) ?_
          | ((with_reducible refine chk_r ?_); refine r_callF (by simp only [CA, Nat.reduceEqDiff, ↓reduceIte]; rfl) (by exact rfl) (by simp only [CA, Nat.reduceEqDiff, ↓reduceIte]; rfl) rfl ?_)
          | (with_reducible refine k_condP (by simp only [GA, Nat.reduceEqDiff, ↓reduceIte]; rfl) (by first | (simp only [BO]; rfl) | rfl) (fun ht => ?_) (fun ht => ?_) <;> try (first | exact False.elim ht | exact absurd rfl ht | exact absurd trivial ht | exact Bool.noConfusion ht))
          | (with_reducible refine k_ret ?_; repeat with_reducible (first | refine ret_thru ?_ | refine ret_blk ?_ | refine fin ?_))
          | (with_reducible refine k_exit ?_; repeat with_reducible (first | refine thru ?_ | refine out_blk ?_ | refine pass (by decide) ?_))
          | (refine post1 ?_; simp only [GA, Nat.reduceEqDiff, ↓reduceIte])
          | (refine post2 ?_; simp only [GA, Nat.reduceEqDiff, ↓reduceIte])
          | (refine post3 ?_; simp only [GA, Nat.reduceEqDiff, ↓reduceIte])
          | (refine postc (by simp only [GA, Nat.reduceEqDiff, ↓reduceIte]; rfl) (by simp (disch := omega) only [hc, v1, e1, e2, c28r0, c28r1, c28r2, c28r3, c28r4, c28r5, c28r6, c28r7, c28r8, c28r9, c28r10, c28r11, c28r12, c28r13, c28r15, EV0, EV1, EV2, EV3, EV4, EV5, EV6, EV7, plug, ite_same, decide_true, decide_false, eq_self, ↓reduceIte, reduceCtorEq, Nat.reduceAdd, Nat.reduceEqDiff, Nat.reduceLT, Nat.reduceLeDiff, Nat.reduceMul, Nat.reduceSub, Nat.reduceDiv, Int.reduceToNat, Int.reduceAdd, Int.reduceSub, Int.reduceMul, Int.reduceNeg, Int.reduceEq, Int.reduceLT, Int.reduceLE]; rfl) ?_)
          | refine post0 ?_
        rw [bd_bad hb (.inl v1) (by omega)]
      · by_cases v2 : (n1 : Int) ≤ d i
        · repeat' first
            | with_reducible refine k_seq ?_
            | with_reducible refine k_skip ?_
            | with_reducible refine k_blkS ?_
            | with_reducible refine k_reg ?_
            | with_reducible refine r_done ?_
            | with_reducible refine s_go (by simp (disch := omega) only [hc, v1, v2, e1, e2, c28r0, c28r1, c28r2, c28r3, c28r4, c28r5, c28r6, c28r7, c28r8, c28r9, c28r10, c28r11, c28r12, c28r13, c28r15, EV0, EV1, EV2, EV3, EV4, EV5, EV6, EV7, plug, ite_same, decide_true, decide_false, eq_self, ↓reduceIte, reduceCtorEq, Nat.reduceAdd, Nat.reduceEqDiff, Nat.reduceLT, Nat.reduceLeDiff, Nat.reduceMul, Nat.reduceSub, Nat.reduceDiv, Int.reduceToNat, Int.reduceAdd, Int.reduceSub, Int.reduceMul, Int.reduceNeg, Int.reduceEq, Int.reduceLT, Int.reduceLE]; with_reducible rfl) ?_
            | ((with_reducible refine chk_r ?_); refine r_callF (by simp only [CA, Nat.reduceEqDiff, ↓reduceIte]; rfl) (by exact rfl) (by simp only [CA, Nat.reduceEqDiff, ↓reduceIte]; rfl) rfl ?_)
            | (with_reducible refine k_condP (by simp only [GA, Nat.reduceEqDiff, ↓reduceIte]; rfl) (by first | (simp only [BO]; rfl) | rfl) (fun ht => ?_) (fun ht => ?_) <;> try (first | exact False.elim ht | exact absurd rfl ht | exact absurd trivial ht | exact Bool.noConfusion ht))
            | (with_reducible refine k_ret ?_; repeat with_reducible (first | refine ret_thru ?_ | refine ret_blk ?_ | refine fin ?_))
            | (with_reducible refine k_exit ?_; repeat with_reducible (first | refine thru ?_ | refine out_blk ?_ | refine pass (by decide) ?_))
            | (refine post1 ?_; simp only [GA, Nat.reduceEqDiff, ↓reduceIte])
            | (refine post2 ?_; simp only [GA, Nat.reduceEqDiff, ↓reduceIte])
            | (refine post3 ?_; simp only [GA, Nat.reduceEqDiff, ↓reduceIte])
            | (refine postc (by simp only [GA, Nat.reduceEqDiff, ↓reduceIte]; rfl) (by simp (disch := omega) only [hc, v1, v2, e1, e2, c28r0, c28r1, c28r2, c28r3, c28r4, c28r5, c28r6, c28r7, c28r8, c28r9, c28r10, c28r11, c28r12, c28r13, c28r15, EV0, EV1, EV2, EV3, EV4, EV5, EV6, EV7, plug, ite_same, decide_true, decide_false, eq_self, ↓reduceIte, reduceCtorEq, Nat.reduceAdd, Nat.reduceEqDiff, Nat.reduceLT, Nat.reduceLeDiff, Nat.reduceMul, Nat.reduceSub, Nat.reduceDiv, Int.reduceToNat, Int.reduceAdd, Int.reduceSub, Int.reduceMul, Int.reduceNeg, Int.reduceEq, Int.reduceLT, Int.reduceLE]; rfl) ?_)
            | refine post0 ?_
          rw [bd_bad hb (.inr (.inl v2)) (by omega)]
        · obtain ⟨X, hX⟩ : ∃ X : Nat, d i = X := ⟨(d i).toNat, by omega⟩
          rw [hX] at v1 v2
          have vX : X < n1 := by omega
          have := q1 X vX
          have := q2 i (by omega)
          repeat' first
            | with_reducible refine k_seq ?_
            | with_reducible refine k_skip ?_
            | with_reducible refine k_blkS ?_
            | with_reducible refine k_reg ?_
            | with_reducible refine r_done ?_
            | with_reducible refine s_go (by simp (disch := omega) only [hc, hX, v1, v2, e1, e2, hm, row_m hm, read_row (row_m hm), c28r0, c28r1, c28r2, c28r3, c28r4, c28r5, c28r6, c28r7, c28r8, c28r9, c28r10, c28r11, c28r12, c28r13, c28r15, EV0, EV1, EV2, EV3, EV4, EV5, EV6, EV7, plug, ite_same, decide_true, decide_false, eq_self, ↓reduceIte, reduceCtorEq, Nat.reduceAdd, Nat.reduceEqDiff, Nat.reduceLT, Nat.reduceLeDiff, Nat.reduceMul, Nat.reduceSub, Nat.reduceDiv, Int.reduceToNat, Int.reduceAdd, Int.reduceSub, Int.reduceMul, Int.reduceNeg, Int.reduceEq, Int.reduceLT, Int.reduceLE]; with_reducible rfl) ?_
            | ((with_reducible refine chk_r ?_); refine r_callF (by simp only [CA, Nat.reduceEqDiff, ↓reduceIte]; rfl) (by exact rfl) (by simp only [CA, Nat.reduceEqDiff, ↓reduceIte]; rfl) rfl ?_)
            | (with_reducible refine k_condP (by simp only [GA, Nat.reduceEqDiff, ↓reduceIte]; rfl) (by first | (simp only [BO]; rfl) | rfl) (fun ht => ?_) (fun ht => ?_) <;> try (first | exact False.elim ht | exact absurd rfl ht | exact absurd trivial ht | exact Bool.noConfusion ht))
            | (with_reducible refine k_ret ?_; repeat with_reducible (first | refine ret_thru ?_ | refine ret_blk ?_ | refine fin ?_))
            | (with_reducible refine k_exit ?_; repeat with_reducible (first | refine thru ?_ | refine out_blk ?_ | refine pass (by decide) ?_))
            | (refine post1 ?_; simp only [GA, Nat.reduceEqDiff, ↓reduceIte])
            | (refine post2 ?_; simp only [GA, Nat.reduceEqDiff, ↓reduceIte])
            | (refine post3 ?_; simp only [GA, Nat.reduceEqDiff, ↓reduceIte])
            | (refine postc (by simp only [GA, Nat.reduceEqDiff, ↓reduceIte]; rfl) (by simp (disch := omega) only [hc, hX, v1, v2, e1, e2, hm, row_m hm, read_row (row_m hm), c28r0, c28r1, c28r2, c28r3, c28r4, c28r5, c28r6, c28r7, c28r8, c28r9, c28r10, c28r11, c28r12, c28r13, c28r15, EV0, EV1, EV2, EV3, EV4, EV5, EV6, EV7, plug, ite_same, decide_true, decide_false, eq_self, ↓reduceIte, reduceCtorEq, Nat.reduceAdd, Nat.reduceEqDiff, Nat.reduceLT, Nat.reduceLeDiff, Nat.reduceMul, Nat.reduceSub, Nat.reduceDiv, Int.reduceToNat, Int.reduceAdd, Int.reduceSub, Int.reduceMul, Int.reduceNeg, Int.reduceEq, Int.reduceLT, Int.reduceLE]; rfl) ?_)
            | refine post0 ?_
          · rw [bd_bad hb (.inr (.inr (by rw [hX]; exact ht))) (by omega)]
          · refine ⟨_, ?_, i + 1, c + 1, tS, rfl, rfl, by omega, by rw [bd_step hb hX vX (by rw [hX]; assumption), if_pos ht], ?_, htS, fun j hj => ?_, fun j hj => ?_⟩
            · omega
            · simp (disch := omega) only [c28r0, c28r1, c28r2, c28r3, c28r4, c28r5, c28r6, c28r7, c28r8, c28r9, c28r10, c28r11, c28r12, c28r13, c28r15, EV0, EV1, EV2, EV3, EV4, EV5, EV6, EV7, plug, ite_same, decide_true, decide_false, eq_self, ↓reduceIte, reduceCtorEq, Nat.reduceAdd, Nat.reduceEqDiff, Nat.reduceLT, Nat.reduceLeDiff, Nat.reduceMul, Nat.reduceSub, Nat.reduceDiv, Int.reduceToNat, Int.reduceAdd, Int.reduceSub, Int.reduceMul, Int.reduceNeg, Int.reduceEq, Int.reduceLT, Int.reduceLE]
              refine congrArg (fun c => some (Blk.cells true c)) (cl_ext fun x hx => ?_)
              rw [any_succ, hX]
              by_cases e : x = X
              · subst e; simp
              · rw [if_neg e]; simp; omega
            · simp (disch := omega) only [e1, c28r0, c28r1, c28r2, c28r3, c28r4, c28r5, c28r6, c28r7, c28r8, c28r9, c28r10, c28r11, c28r12, c28r13, c28r15, EV0, EV1, EV2, EV3, EV4, EV5, EV6, EV7, plug, ite_same, decide_true, decide_false, eq_self, ↓reduceIte, reduceCtorEq, Nat.reduceAdd, Nat.reduceEqDiff, Nat.reduceLT, Nat.reduceLeDiff, Nat.reduceMul, Nat.reduceSub, Nat.reduceDiv, Int.reduceToNat, Int.reduceAdd, Int.reduceSub, Int.reduceMul, Int.reduceNeg, Int.reduceEq, Int.reduceLT, Int.reduceLE]
            · simp (disch := omega) only [e2, c28r0, c28r1, c28r2, c28r3, c28r4, c28r5, c28r6, c28r7, c28r8, c28r9, c28r10, c28r11, c28r12, c28r13, c28r15, EV0, EV1, EV2, EV3, EV4, EV5, EV6, EV7, plug, ite_same, decide_true, decide_false, eq_self, ↓reduceIte, reduceCtorEq, Nat.reduceAdd, Nat.reduceEqDiff, Nat.reduceLT, Nat.reduceLeDiff, Nat.reduceMul, Nat.reduceSub, Nat.reduceDiv, Int.reduceToNat, Int.reduceAdd, Int.reduceSub, Int.reduceMul, Int.reduceNeg, Int.reduceEq, Int.reduceLT, Int.reduceLE]
          · refine ⟨_, ?_, i + 1, c, tS, rfl, rfl, by omega, by rw [bd_step hb hX vX (by rw [hX]; assumption), if_neg ht]; rfl, ?_, htS, fun j hj => ?_, fun j hj => ?_⟩
            · omega
            · simp (disch := omega) only [c28r0, c28r1, c28r2, c28r3, c28r4, c28r5, c28r6, c28r7, c28r8, c28r9, c28r10, c28r11, c28r12, c28r13, c28r15, EV0, EV1, EV2, EV3, EV4, EV5, EV6, EV7, plug, ite_same, decide_true, decide_false, eq_self, ↓reduceIte, reduceCtorEq, Nat.reduceAdd, Nat.reduceEqDiff, Nat.reduceLT, Nat.reduceLeDiff, Nat.reduceMul, Nat.reduceSub, Nat.reduceDiv, Int.reduceToNat, Int.reduceAdd, Int.reduceSub, Int.reduceMul, Int.reduceNeg, Int.reduceEq, Int.reduceLT, Int.reduceLE]
              refine congrArg (fun c => some (Blk.cells true c)) (cl_ext fun x hx => ?_)
              rw [any_succ, hX]
              by_cases e : x = X
              · subst e; simp
              · rw [if_neg e]; simp; omega
            · simp (disch := omega) only [e1, c28r0, c28r1, c28r2, c28r3, c28r4, c28r5, c28r6, c28r7, c28r8, c28r9, c28r10, c28r11, c28r12, c28r13, c28r15, EV0, EV1, EV2, EV3, EV4, EV5, EV6, EV7, plug, ite_same, decide_true, decide_false, eq_self, ↓reduceIte, reduceCtorEq, Nat.reduceAdd, Nat.reduceEqDiff, Nat.reduceLT, Nat.reduceLeDiff, Nat.reduceMul, Nat.reduceSub, Nat.reduceDiv, Int.reduceToNat, Int.reduceAdd, Int.reduceSub, Int.reduceMul, Int.reduceNeg, Int.reduceEq, Int.reduceLT, Int.reduceLE]
            · simp (disch := omega) only [e2, c28r0, c28r1, c28r2, c28r3, c28r4, c28r5, c28r6, c28r7, c28r8, c28r9, c28r10, c28r11, c28r12, c28r13, c28r15, EV0, EV1, EV2, EV3, EV4, EV5, EV6, EV7, plug, ite_same, decide_true, decide_false, eq_self, ↓reduceIte, reduceCtorEq, Nat.reduceAdd, Nat.reduceEqDiff, Nat.reduceLT, Nat.reduceLeDiff, Nat.reduceMul, Nat.reduceSub, Nat.reduceDiv, Int.reduceToNat, Int.reduceAdd, Int.reduceSub, Int.reduceMul, Int.reduceNeg, Int.reduceEq, Int.reduceLT, Int.reduceLE]
    · repeat' first
        | with_reducible refine k_seq ?_
        | with_reducible refine k_skip ?_
        | with_reducible refine k_blkS ?_
        | with_reducible refine k_reg ?_
        | with_reducible refine r_done ?_
        | with_reducible refine s_go (by simp (disch := omega) only [hc, c28r0, c28r1, c28r2, c28r3, c28r4, c28r5, c28r6, c28r7, c28r8, c28r9, c28r10, c28r11, c28r12, c28r13, c28r15, EV0, EV1, EV2, EV3, EV4, EV5, EV6, EV7, plug, ite_same, decide_true, decide_false, eq_self, ↓reduceIte, reduceCtorEq, Nat.reduceAdd, Nat.reduceEqDiff, Nat.reduceLT, Nat.reduceLeDiff, Nat.reduceMul, Nat.reduceSub, Nat.reduceDiv, Int.reduceToNat, Int.reduceAdd, Int.reduceSub, Int.reduceMul, Int.reduceNeg, Int.reduceEq, Int.reduceLT, Int.reduceLE]; with_reducible rfl) ?_
        | ((with_reducible refine chk_r ?_); refine r_callF (by simp only [CA, Nat.reduceEqDiff, ↓reduceIte]; rfl) (by exact rfl) (by simp only [CA, Nat.reduceEqDiff, ↓reduceIte]; rfl) rfl ?_)
        | (with_reducible refine k_condP (by simp only [GA, Nat.reduceEqDiff, ↓reduceIte]; rfl) (by first | (simp only [BO]; rfl) | rfl) (fun ht => ?_) (fun ht => ?_) <;> try (first | exact False.elim ht | exact absurd rfl ht | exact absurd trivial ht | exact Bool.noConfusion ht))
        | (with_reducible refine k_ret ?_; repeat with_reducible (first | refine ret_thru ?_ | refine ret_blk ?_ | refine fin ?_))
        | (with_reducible refine k_exit ?_; repeat with_reducible (first | refine thru ?_ | refine out_blk ?_ | refine pass (by decide) ?_))
        | (refine post1 ?_; simp only [GA, Nat.reduceEqDiff, ↓reduceIte])
        | (refine post2 ?_; simp only [GA, Nat.reduceEqDiff, ↓reduceIte])
        | (refine post3 ?_; simp only [GA, Nat.reduceEqDiff, ↓reduceIte])
        | (refine postc (by simp only [GA, Nat.reduceEqDiff, ↓reduceIte]; rfl) (by simp (disch := omega) only [hc, c28r0, c28r1, c28r2, c28r3, c28r4, c28r5, c28r6, c28r7, c28r8, c28r9, c28r10, c28r11, c28r12, c28r13, c28r15, EV0, EV1, EV2, EV3, EV4, EV5, EV6, EV7, plug, ite_same, decide_true, decide_false, eq_self, ↓reduceIte, reduceCtorEq, Nat.reduceAdd, Nat.reduceEqDiff, Nat.reduceLT, Nat.reduceLeDiff, Nat.reduceMul, Nat.reduceSub, Nat.reduceDiv, Int.reduceToNat, Int.reduceAdd, Int.reduceSub, Int.reduceMul, Int.reduceNeg, Int.reduceEq, Int.reduceLT, Int.reduceLE]; rfl) ?_)
        | refine post0 ?_
      obtain rfl : i = n2 := by omega
      rw [bv_some (by omega) hb]

theorem f29 (t1 o1 n1 a1 t2 o2 n2 a2 : Nat) (p : Nat → Bool) (d : Nat → Int) (hn1 : n1 ≤ 9223372036854775807) (hn2 : n2 ≤ 9223372036854775807) (h : AH) (h1 : ∀ j, j < n1 → h.read t1 (o1 + j) none = some (.b (p j))) (h2 : ∀ j, j < n2 → h.read t2 (o2 + j) none = some (.i .i64 (d j))) :
    ACalls Try.prog 29 [.sl t1 o1 n1 a1, .sl t2 o2 n2 a2] h fun r h' => r = .tu [.i .i64 (bv p n1 d n2).1, .i .i64 (bv p n1 d n2).2] ∧ h' = h := by
  refine pure_call (R := fun r => r = .tu [.i .i64 (bv p n1 d n2).1, .i .i64 (bv p n1 d n2).2]) (fun h0 hr _ => ?_) (fun r e => by rw [e]; rfl)
  have h1' : ∀ j, j < n1 → h0.read t1 (o1 + j) none = some (.b (p j)) := fun j hj => by unfold AH.read; rw [hr]; exact h1 j hj
  have h2' : ∀ j, j < n2 → h0.read t2 (o2 + j) none = some (.i .i64 (d j)) := fun j hj => by unfold AH.read; rw [hr]; exact h2 j hj
  clear h1 h2 hr
  refine a_fn fn29 (by simp) fun ok pos => ?_
  rw [initSt2]
  repeat' first
    | with_reducible refine k_seq ?_
    | with_reducible refine k_skip ?_
    | with_reducible refine k_blkS ?_
    | with_reducible refine k_reg ?_
    | with_reducible refine r_done ?_
    | with_reducible refine s_go (by simp (disch := omega) only [c29r0, c29r1, c29r2, c29r3, c29r4, c29r5, c29r6, c29r7, c29r8, c29r9, c29r10, c29r11, c29r12, c29r13, c29r14, c29r16, c29r17, c29r18, c29r20, EV0, EV1, EV2, EV3, EV4, EV5, EV6, EV7, plug, ite_same, decide_true, decide_false, eq_self, ↓reduceIte, reduceCtorEq, Nat.reduceAdd, Nat.reduceEqDiff, Nat.reduceLT, Nat.reduceLeDiff, Nat.reduceMul, Nat.reduceSub, Nat.reduceDiv, Int.reduceToNat, Int.reduceAdd, Int.reduceSub, Int.reduceMul, Int.reduceNeg, Int.reduceEq, Int.reduceLT, Int.reduceLE]; with_reducible rfl) ?_
    | ((with_reducible refine chk_r ?_); refine r_callF (by simp only [CA, Nat.reduceEqDiff, ↓reduceIte]; rfl) (by exact rfl) (by simp only [CA, Nat.reduceEqDiff, ↓reduceIte]; rfl) rfl ?_)
    | (with_reducible refine k_condP (by simp only [GA, Nat.reduceEqDiff, ↓reduceIte]; rfl) (by first | (simp only [BO]; rfl) | rfl) (fun ht => ?_) (fun ht => ?_) <;> try (first | exact False.elim ht | exact absurd rfl ht | exact absurd trivial ht | exact Bool.noConfusion ht))
    | (with_reducible refine k_ret ?_; repeat with_reducible (first | refine ret_thru ?_ | refine ret_blk ?_ | refine fin ?_))
    | (with_reducible refine k_exit ?_; repeat with_reducible (first | refine thru ?_ | refine out_blk ?_ | refine pass (by decide) ?_))
    | (refine post1 ?_; simp only [GA, Nat.reduceEqDiff, ↓reduceIte])
    | (refine post2 ?_; simp only [GA, Nat.reduceEqDiff, ↓reduceIte])
    | (refine post3 ?_; simp only [GA, Nat.reduceEqDiff, ↓reduceIte])
    | (refine postc (by simp only [GA, Nat.reduceEqDiff, ↓reduceIte]; rfl) (by simp (disch := omega) only [c29r0, c29r1, c29r2, c29r3, c29r4, c29r5, c29r6, c29r7, c29r8, c29r9, c29r10, c29r11, c29r12, c29r13, c29r14, c29r16, c29r17, c29r18, c29r20, EV0, EV1, EV2, EV3, EV4, EV5, EV6, EV7, plug, ite_same, decide_true, decide_false, eq_self, ↓reduceIte, reduceCtorEq, Nat.reduceAdd, Nat.reduceEqDiff, Nat.reduceLT, Nat.reduceLeDiff, Nat.reduceMul, Nat.reduceSub, Nat.reduceDiv, Int.reduceToNat, Int.reduceAdd, Int.reduceSub, Int.reduceMul, Int.reduceNeg, Int.reduceEq, Int.reduceLT, Int.reduceLE]; rfl) ?_)
    | refine post0 ?_
  · simp [bv, show 60 < n1 by omega]
  refine k_blk (k_loop (fun m st h => ∃ i c k : Nat, Am.keep [16, 15, 14, 6, 0, 1] st = [(16, .i .i64 i), (15, .i .i64 n2), (14, .sl t2 o2 n2 a2), (6, .i .i64 c), (0, .sl t1 o1 n1 a1), (1, .sl t2 o2 n2 a2)] ∧ m = n2 - i ∧ i ≤ n2 ∧ bd p n1 d i = some c ∧ h = h0.bump k) n2 ?_ ?_)
  · exact ⟨0, 0, _, rfl, by omega, by omega, rfl, by simp only [bump_bump]; rfl⟩
  · rintro m st h ⟨i, c, k, hk, rfl, hi, hb, rfl⟩
    refine k_inv hk ?_
    by_cases hc : (i : Int) < n2
    · have hcl := bd_le hb
      by_cases v1 : d i < 0
      · repeat' first
          | with_reducible refine k_seq ?_
          | with_reducible refine k_skip ?_
          | with_reducible refine k_blkS ?_
          | with_reducible refine k_reg ?_
          | with_reducible refine r_done ?_
          | with_reducible refine s_go (by simp (disch := omega) only [hc, v1, h2', c29r0, c29r1, c29r2, c29r3, c29r4, c29r5, c29r6, c29r7, c29r8, c29r9, c29r10, c29r11, c29r12, c29r13, c29r14, c29r16, c29r17, c29r18, c29r20, EV0, EV1, EV2, EV3, EV4, EV5, EV6, EV7, plug, ite_same, decide_true, decide_false, eq_self, ↓reduceIte, reduceCtorEq, Nat.reduceAdd, Nat.reduceEqDiff, Nat.reduceLT, Nat.reduceLeDiff, Nat.reduceMul, Nat.reduceSub, Nat.reduceDiv, Int.reduceToNat, Int.reduceAdd, Int.reduceSub, Int.reduceMul, Int.reduceNeg, Int.reduceEq, Int.reduceLT, Int.reduceLE]; with_reducible rfl) ?_
          | ((with_reducible refine chk_r ?_); refine r_callF (by simp only [CA, Nat.reduceEqDiff, ↓reduceIte]; rfl) (by exact rfl) (by simp only [CA, Nat.reduceEqDiff, ↓reduceIte]; rfl) rfl ?_)
          | (with_reducible refine k_condP (by simp only [GA, Nat.reduceEqDiff, ↓reduceIte]; rfl) (by first | (simp only [BO]; rfl) | rfl) (fun ht => ?_) (fun ht => ?_) <;> try (first | exact False.elim ht | exact absurd rfl ht | exact absurd trivial ht | exact Bool.noConfusion ht))
          | (with_reducible refine k_ret ?_; repeat with_reducible (first | refine ret_thru ?_ | refine ret_blk ?_ | refine fin ?_))
          | (with_reducible refine k_exit ?_; repeat with_reducible (first | refine thru ?_ | refine out_blk ?_ | refine pass (by decide) ?_))
          | (refine post1 ?_; simp only [GA, Nat.reduceEqDiff, ↓reduceIte])
          | (refine post2 ?_; simp only [GA, Nat.reduceEqDiff, ↓reduceIte])
          | (refine post3 ?_; simp only [GA, Nat.reduceEqDiff, ↓reduceIte])
          | (refine postc (by simp only [GA, Nat.reduceEqDiff, ↓reduceIte]; rfl) (by simp (disch := omega) only [hc, v1, h2', c29r0, c29r1, c29r2, c29r3, c29r4, c29r5, c29r6, c29r7, c29r8, c29r9, c29r10, c29r11, c29r12, c29r13, c29r14, c29r16, c29r17, c29r18, c29r20, EV0, EV1, EV2, EV3, EV4, EV5, EV6, EV7, plug, ite_same, decide_true, decide_false, eq_self, ↓reduceIte, reduceCtorEq, Nat.reduceAdd, Nat.reduceEqDiff, Nat.reduceLT, Nat.reduceLeDiff, Nat.reduceMul, Nat.reduceSub, Nat.reduceDiv, Int.reduceToNat, Int.reduceAdd, Int.reduceSub, Int.reduceMul, Int.reduceNeg, Int.reduceEq, Int.reduceLT, Int.reduceLE]; rfl) ?_)
          | refine post0 ?_
        rw [bd_bad hb (.inl v1) (by omega)]
      · by_cases v2 : (n1 : Int) ≤ d i
        · repeat' first
            | with_reducible refine k_seq ?_
            | with_reducible refine k_skip ?_
            | with_reducible refine k_blkS ?_
            | with_reducible refine k_reg ?_
            | with_reducible refine r_done ?_
            | with_reducible refine s_go (by simp (disch := omega) only [hc, v1, v2, h2', c29r0, c29r1, c29r2, c29r3, c29r4, c29r5, c29r6, c29r7, c29r8, c29r9, c29r10, c29r11, c29r12, c29r13, c29r14, c29r16, c29r17, c29r18, c29r20, EV0, EV1, EV2, EV3, EV4, EV5, EV6, EV7, plug, ite_same, decide_true, decide_false, eq_self, ↓reduceIte, reduceCtorEq, Nat.reduceAdd, Nat.reduceEqDiff, Nat.reduceLT, Nat.reduceLeDiff, Nat.reduceMul, Nat.reduceSub, Nat.reduceDiv, Int.reduceToNat, Int.reduceAdd, Int.reduceSub, Int.reduceMul, Int.reduceNeg, Int.reduceEq, Int.reduceLT, Int.reduceLE]; with_reducible rfl) ?_
            | ((with_reducible refine chk_r ?_); refine r_callF (by simp only [CA, Nat.reduceEqDiff, ↓reduceIte]; rfl) (by exact rfl) (by simp only [CA, Nat.reduceEqDiff, ↓reduceIte]; rfl) rfl ?_)
            | (with_reducible refine k_condP (by simp only [GA, Nat.reduceEqDiff, ↓reduceIte]; rfl) (by first | (simp only [BO]; rfl) | rfl) (fun ht => ?_) (fun ht => ?_) <;> try (first | exact False.elim ht | exact absurd rfl ht | exact absurd trivial ht | exact Bool.noConfusion ht))
            | (with_reducible refine k_ret ?_; repeat with_reducible (first | refine ret_thru ?_ | refine ret_blk ?_ | refine fin ?_))
            | (with_reducible refine k_exit ?_; repeat with_reducible (first | refine thru ?_ | refine out_blk ?_ | refine pass (by decide) ?_))
            | (refine post1 ?_; simp only [GA, Nat.reduceEqDiff, ↓reduceIte])
            | (refine post2 ?_; simp only [GA, Nat.reduceEqDiff, ↓reduceIte])
            | (refine post3 ?_; simp only [GA, Nat.reduceEqDiff, ↓reduceIte])
            | (refine postc (by simp only [GA, Nat.reduceEqDiff, ↓reduceIte]; rfl) (by simp (disch := omega) only [hc, v1, v2, h2', c29r0, c29r1, c29r2, c29r3, c29r4, c29r5, c29r6, c29r7, c29r8, c29r9, c29r10, c29r11, c29r12, c29r13, c29r14, c29r16, c29r17, c29r18, c29r20, EV0, EV1, EV2, EV3, EV4, EV5, EV6, EV7, plug, ite_same, decide_true, decide_false, eq_self, ↓reduceIte, reduceCtorEq, Nat.reduceAdd, Nat.reduceEqDiff, Nat.reduceLT, Nat.reduceLeDiff, Nat.reduceMul, Nat.reduceSub, Nat.reduceDiv, Int.reduceToNat, Int.reduceAdd, Int.reduceSub, Int.reduceMul, Int.reduceNeg, Int.reduceEq, Int.reduceLT, Int.reduceLE]; rfl) ?_)
            | refine post0 ?_
          rw [bd_bad hb (.inr (.inl v2)) (by omega)]
        · obtain ⟨X, hX⟩ : ∃ X : Nat, d i = X := ⟨(d i).toNat, by omega⟩
          rw [hX] at v1 v2
          have vX : X < n1 := by omega
          repeat' first
            | with_reducible refine k_seq ?_
            | with_reducible refine k_skip ?_
            | with_reducible refine k_blkS ?_
            | with_reducible refine k_reg ?_
            | with_reducible refine r_done ?_
            | with_reducible refine s_go (by simp (disch := omega) only [hc, hX, v1, v2, h2', c29r0, c29r1, c29r2, c29r3, c29r4, c29r5, c29r6, c29r7, c29r8, c29r9, c29r10, c29r11, c29r12, c29r13, c29r14, c29r16, c29r17, c29r18, c29r20, EV0, EV1, EV2, EV3, EV4, EV5, EV6, EV7, plug, ite_same, decide_true, decide_false, eq_self, ↓reduceIte, reduceCtorEq, Nat.reduceAdd, Nat.reduceEqDiff, Nat.reduceLT, Nat.reduceLeDiff, Nat.reduceMul, Nat.reduceSub, Nat.reduceDiv, Int.reduceToNat, Int.reduceAdd, Int.reduceSub, Int.reduceMul, Int.reduceNeg, Int.reduceEq, Int.reduceLT, Int.reduceLE]; with_reducible rfl) ?_
            | ((with_reducible refine chk_r ?_); refine r_callF (by simp only [CA, Nat.reduceEqDiff, ↓reduceIte]; rfl) (by exact rfl) (by simp only [CA, Nat.reduceEqDiff, ↓reduceIte]; rfl) rfl ?_)
            | (with_reducible refine k_condP (by simp only [GA, Nat.reduceEqDiff, ↓reduceIte]; rfl) (by first | (simp only [BO]; rfl) | rfl) (fun ht => ?_) (fun ht => ?_) <;> try (first | exact False.elim ht | exact absurd rfl ht | exact absurd trivial ht | exact Bool.noConfusion ht))
            | (with_reducible refine k_ret ?_; repeat with_reducible (first | refine ret_thru ?_ | refine ret_blk ?_ | refine fin ?_))
            | (with_reducible refine k_exit ?_; repeat with_reducible (first | refine thru ?_ | refine out_blk ?_ | refine pass (by decide) ?_))
            | (refine post1 ?_; simp only [GA, Nat.reduceEqDiff, ↓reduceIte])
            | (refine post2 ?_; simp only [GA, Nat.reduceEqDiff, ↓reduceIte])
            | (refine post3 ?_; simp only [GA, Nat.reduceEqDiff, ↓reduceIte])
            | (refine postc (by simp only [GA, Nat.reduceEqDiff, ↓reduceIte]; rfl) (by simp (disch := omega) only [hc, hX, v1, v2, h2', c29r0, c29r1, c29r2, c29r3, c29r4, c29r5, c29r6, c29r7, c29r8, c29r9, c29r10, c29r11, c29r12, c29r13, c29r14, c29r16, c29r17, c29r18, c29r20, EV0, EV1, EV2, EV3, EV4, EV5, EV6, EV7, plug, ite_same, decide_true, decide_false, eq_self, ↓reduceIte, reduceCtorEq, Nat.reduceAdd, Nat.reduceEqDiff, Nat.reduceLT, Nat.reduceLeDiff, Nat.reduceMul, Nat.reduceSub, Nat.reduceDiv, Int.reduceToNat, Int.reduceAdd, Int.reduceSub, Int.reduceMul, Int.reduceNeg, Int.reduceEq, Int.reduceLT, Int.reduceLE]; rfl) ?_)
            | refine post0 ?_
          refine k_blk (k_loop (fun m st h => ∃ j k a' : Nat, Am.keep [33, 32, 31, 8, 16, 15, 14, 6, 0, 1] st = [(33, .i .i64 j), (32, .i .i64 i), (31, .sl t2 o2 i a'), (8, .i .i64 X), (16, .i .i64 i), (15, .i .i64 n2), (14, .sl t2 o2 n2 a2), (6, .i .i64 c), (0, .sl t1 o1 n1 a1), (1, .sl t2 o2 n2 a2)] ∧ m = i - j ∧ j ≤ i ∧
            (List.range j).any (fun k => decide (d k = d i)) = false ∧ h = h0.bump k) i ?_ ?_)
          · exact ⟨0, _, _, rfl, by omega, by omega, rfl, by simp only [bump_bump]; rfl⟩
          · rintro m st h ⟨j, k, a', hk, rfl, hj, ha, rfl⟩
            refine k_inv hk ?_
            by_cases hd : (j : Int) < i
            · repeat' first
                | with_reducible refine k_seq ?_
                | with_reducible refine k_skip ?_
                | with_reducible refine k_blkS ?_
                | with_reducible refine k_reg ?_
                | with_reducible refine r_done ?_
                | with_reducible refine s_go (by simp (disch := omega) only [hd, h2', c29r0, c29r1, c29r2, c29r3, c29r4, c29r5, c29r6, c29r7, c29r8, c29r9, c29r10, c29r11, c29r12, c29r13, c29r14, c29r16, c29r17, c29r18, c29r20, EV0, EV1, EV2, EV3, EV4, EV5, EV6, EV7, plug, ite_same, decide_true, decide_false, eq_self, ↓reduceIte, reduceCtorEq, Nat.reduceAdd, Nat.reduceEqDiff, Nat.reduceLT, Nat.reduceLeDiff, Nat.reduceMul, Nat.reduceSub, Nat.reduceDiv, Int.reduceToNat, Int.reduceAdd, Int.reduceSub, Int.reduceMul, Int.reduceNeg, Int.reduceEq, Int.reduceLT, Int.reduceLE]; with_reducible rfl) ?_
                | ((with_reducible refine chk_r ?_); refine r_callF (by simp only [CA, Nat.reduceEqDiff, ↓reduceIte]; rfl) (by exact rfl) (by simp only [CA, Nat.reduceEqDiff, ↓reduceIte]; rfl) rfl ?_)
                | (with_reducible refine k_condP (by simp only [GA, Nat.reduceEqDiff, ↓reduceIte]; rfl) (by first | (simp only [BO]; rfl) | rfl) (fun ht => ?_) (fun ht => ?_) <;> try (first | exact False.elim ht | exact absurd rfl ht | exact absurd trivial ht | exact Bool.noConfusion ht))
                | (with_reducible refine k_ret ?_; repeat with_reducible (first | refine ret_thru ?_ | refine ret_blk ?_ | refine fin ?_))
                | (with_reducible refine k_exit ?_; repeat with_reducible (first | refine thru ?_ | refine out_blk ?_ | refine pass (by decide) ?_))
                | (refine post1 ?_; simp only [GA, Nat.reduceEqDiff, ↓reduceIte])
                | (refine post2 ?_; simp only [GA, Nat.reduceEqDiff, ↓reduceIte])
                | (refine post3 ?_; simp only [GA, Nat.reduceEqDiff, ↓reduceIte])
                | (refine postc (by simp only [GA, Nat.reduceEqDiff, ↓reduceIte]; rfl) (by simp (disch := omega) only [hd, h2', c29r0, c29r1, c29r2, c29r3, c29r4, c29r5, c29r6, c29r7, c29r8, c29r9, c29r10, c29r11, c29r12, c29r13, c29r14, c29r16, c29r17, c29r18, c29r20, EV0, EV1, EV2, EV3, EV4, EV5, EV6, EV7, plug, ite_same, decide_true, decide_false, eq_self, ↓reduceIte, reduceCtorEq, Nat.reduceAdd, Nat.reduceEqDiff, Nat.reduceLT, Nat.reduceLeDiff, Nat.reduceMul, Nat.reduceSub, Nat.reduceDiv, Int.reduceToNat, Int.reduceAdd, Int.reduceSub, Int.reduceMul, Int.reduceNeg, Int.reduceEq, Int.reduceLT, Int.reduceLE]; rfl) ?_)
                | refine post0 ?_
              · rw [bd_bad hb (.inr (.inr (List.any_eq_true.2 ⟨j, List.mem_range.2 (by omega), by simp [hX, ← ht]⟩))) (by omega)]
              · refine ⟨_, ?_, j + 1, _, a', rfl, rfl, by omega, ?_, by simp only [bump_bump]; rfl⟩
                · omega
                · rw [any_succ, ha, hX]; simpa using fun e => ht e.symm
            · obtain rfl : j = i := by omega
              repeat' first
                | with_reducible refine k_seq ?_
                | with_reducible refine k_skip ?_
                | with_reducible refine k_blkS ?_
                | with_reducible refine k_reg ?_
                | with_reducible refine r_done ?_
                | with_reducible refine s_go (by simp (disch := omega) only [hd, h1', c29r0, c29r1, c29r2, c29r3, c29r4, c29r5, c29r6, c29r7, c29r8, c29r9, c29r10, c29r11, c29r12, c29r13, c29r14, c29r16, c29r17, c29r18, c29r20, EV0, EV1, EV2, EV3, EV4, EV5, EV6, EV7, plug, ite_same, decide_true, decide_false, eq_self, ↓reduceIte, reduceCtorEq, Nat.reduceAdd, Nat.reduceEqDiff, Nat.reduceLT, Nat.reduceLeDiff, Nat.reduceMul, Nat.reduceSub, Nat.reduceDiv, Int.reduceToNat, Int.reduceAdd, Int.reduceSub, Int.reduceMul, Int.reduceNeg, Int.reduceEq, Int.reduceLT, Int.reduceLE]; with_reducible rfl) ?_
                | ((with_reducible refine chk_r ?_); refine r_callF (by simp only [CA, Nat.reduceEqDiff, ↓reduceIte]; rfl) (by exact rfl) (by simp only [CA, Nat.reduceEqDiff, ↓reduceIte]; rfl) rfl ?_)
                | (with_reducible refine k_condP (by simp only [GA, Nat.reduceEqDiff, ↓reduceIte]; rfl) (by first | (simp only [BO]; rfl) | rfl) (fun ht => ?_) (fun ht => ?_) <;> try (first | exact False.elim ht | exact absurd rfl ht | exact absurd trivial ht | exact Bool.noConfusion ht))
                | (with_reducible refine k_ret ?_; repeat with_reducible (first | refine ret_thru ?_ | refine ret_blk ?_ | refine fin ?_))
                | (with_reducible refine k_exit ?_; repeat with_reducible (first | refine thru ?_ | refine out_blk ?_ | refine pass (by decide) ?_))
                | (refine post1 ?_; simp only [GA, Nat.reduceEqDiff, ↓reduceIte])
                | (refine post2 ?_; simp only [GA, Nat.reduceEqDiff, ↓reduceIte])
                | (refine post3 ?_; simp only [GA, Nat.reduceEqDiff, ↓reduceIte])
                | (refine postc (by simp only [GA, Nat.reduceEqDiff, ↓reduceIte]; rfl) (by simp (disch := omega) only [hd, h1', c29r0, c29r1, c29r2, c29r3, c29r4, c29r5, c29r6, c29r7, c29r8, c29r9, c29r10, c29r11, c29r12, c29r13, c29r14, c29r16, c29r17, c29r18, c29r20, EV0, EV1, EV2, EV3, EV4, EV5, EV6, EV7, plug, ite_same, decide_true, decide_false, eq_self, ↓reduceIte, reduceCtorEq, Nat.reduceAdd, Nat.reduceEqDiff, Nat.reduceLT, Nat.reduceLeDiff, Nat.reduceMul, Nat.reduceSub, Nat.reduceDiv, Int.reduceToNat, Int.reduceAdd, Int.reduceSub, Int.reduceMul, Int.reduceNeg, Int.reduceEq, Int.reduceLT, Int.reduceLE]; rfl) ?_)
                | refine post0 ?_
              · refine ⟨_, ?_, j + 1, c + 1, _, rfl, rfl, by omega, by rw [bd_step hb hX vX (by simp [ha]), if_pos ht], by simp only [bump_bump]; rfl⟩
                omega
              · refine ⟨_, ?_, j + 1, c, _, rfl, rfl, by omega, by rw [bd_step hb hX vX (by simp [ha]), if_neg ht]; rfl, by simp only [bump_bump]; rfl⟩
                omega
    · repeat' first
        | with_reducible refine k_seq ?_
        | with_reducible refine k_skip ?_
        | with_reducible refine k_blkS ?_
        | with_reducible refine k_reg ?_
        | with_reducible refine r_done ?_
        | with_reducible refine s_go (by simp (disch := omega) only [hc, c29r0, c29r1, c29r2, c29r3, c29r4, c29r5, c29r6, c29r7, c29r8, c29r9, c29r10, c29r11, c29r12, c29r13, c29r14, c29r16, c29r17, c29r18, c29r20, EV0, EV1, EV2, EV3, EV4, EV5, EV6, EV7, plug, ite_same, decide_true, decide_false, eq_self, ↓reduceIte, reduceCtorEq, Nat.reduceAdd, Nat.reduceEqDiff, Nat.reduceLT, Nat.reduceLeDiff, Nat.reduceMul, Nat.reduceSub, Nat.reduceDiv, Int.reduceToNat, Int.reduceAdd, Int.reduceSub, Int.reduceMul, Int.reduceNeg, Int.reduceEq, Int.reduceLT, Int.reduceLE]; with_reducible rfl) ?_
        | ((with_reducible refine chk_r ?_); refine r_callF (by simp only [CA, Nat.reduceEqDiff, ↓reduceIte]; rfl) (by exact rfl) (by simp only [CA, Nat.reduceEqDiff, ↓reduceIte]; rfl) rfl ?_)
        | (with_reducible refine k_condP (by simp only [GA, Nat.reduceEqDiff, ↓reduceIte]; rfl) (by first | (simp only [BO]; rfl) | rfl) (fun ht => ?_) (fun ht => ?_) <;> try (first | exact False.elim ht | exact absurd rfl ht | exact absurd trivial ht | exact Bool.noConfusion ht))
        | (with_reducible refine k_ret ?_; repeat with_reducible (first | refine ret_thru ?_ | refine ret_blk ?_ | refine fin ?_))
        | (with_reducible refine k_exit ?_; repeat with_reducible (first | refine thru ?_ | refine out_blk ?_ | refine pass (by decide) ?_))
        | (refine post1 ?_; simp only [GA, Nat.reduceEqDiff, ↓reduceIte])
        | (refine post2 ?_; simp only [GA, Nat.reduceEqDiff, ↓reduceIte])
        | (refine post3 ?_; simp only [GA, Nat.reduceEqDiff, ↓reduceIte])
        | (refine postc (by simp only [GA, Nat.reduceEqDiff, ↓reduceIte]; rfl) (by simp (disch := omega) only [hc, c29r0, c29r1, c29r2, c29r3, c29r4, c29r5, c29r6, c29r7, c29r8, c29r9, c29r10, c29r11, c29r12, c29r13, c29r14, c29r16, c29r17, c29r18, c29r20, EV0, EV1, EV2, EV3, EV4, EV5, EV6, EV7, plug, ite_same, decide_true, decide_false, eq_self, ↓reduceIte, reduceCtorEq, Nat.reduceAdd, Nat.reduceEqDiff, Nat.reduceLT, Nat.reduceLeDiff, Nat.reduceMul, Nat.reduceSub, Nat.reduceDiv, Int.reduceToNat, Int.reduceAdd, Int.reduceSub, Int.reduceMul, Int.reduceNeg, Int.reduceEq, Int.reduceLT, Int.reduceLE]; rfl) ?_)
        | refine post0 ?_
      obtain rfl : i = n2 := by omega
      rw [bv_some (by omega) hb]

theorem f7 (h : AH) (t1 o1 n1 : Nat) (p : Nat → Bool) (hn1 : n1 ≤ 9223372036854775807) (h1 : ∀ j, j < n1 → h.read t1 (o1 + j) none = some (.b (p j)))
    (t2 o2 n2 : Nat) (d : Nat → Int) (hn2 : n2 ≤ 9223372036854775807) (h2 : ∀ j, j < n2 → h.read t2 (o2 + j) none = some (.i .i64 (d j))) (_ : ∀ j, j < n2 → -9223372036854775808 ≤ d j ∧ d j ≤ 9223372036854775807) :
    ACalls Try.prog 7 [.sl t1 o1 n1 0, .sl t2 o2 n2 0] h fun r h' => r = .b true ∧ h' = h := by
  have q1 := fun h h1 h2 => f28 t1 o1 n1 0 t2 o2 n2 0 p d hn1 hn2 h h1 h2
  have q2 := fun h h1 h2 => f29 t1 o1 n1 0 t2 o2 n2 0 p d hn1 hn2 h h1 h2
  refine pure_call (R := fun r => r = .b true) (fun h0 hr _ => ?_) (fun r e => by rw [e]; rfl)
  have h1' : ∀ j, j < n1 → h0.read t1 (o1 + j) none = some (.b (p j)) := fun j hj => by unfold AH.read; rw [hr]; exact h1 j hj
  have h2' : ∀ j, j < n2 → h0.read t2 (o2 + j) none = some (.i .i64 (d j)) := fun j hj => by unfold AH.read; rw [hr]; exact h2 j hj
  refine a_fn fn7 (by simp) fun ok pos => ?_
  rw [initSt2]
  repeat' first
    | with_reducible refine k_seq ?_
    | with_reducible refine k_skip ?_
    | with_reducible refine k_blkS ?_
    | with_reducible refine k_reg ?_
    | with_reducible refine r_done ?_
    | with_reducible refine s_go (by simp (disch := omega) only [c7r0, c7r1, c7r2, c7r3, EV0, EV1, EV2, EV3, EV4, EV5, EV6, EV7, plug, ite_same, decide_true, decide_false, eq_self, ↓reduceIte, reduceCtorEq, Nat.reduceAdd, Nat.reduceEqDiff, Nat.reduceLT, Nat.reduceLeDiff, Nat.reduceMul, Nat.reduceSub, Nat.reduceDiv, Int.reduceToNat, Int.reduceAdd, Int.reduceSub, Int.reduceMul, Int.reduceNeg, Int.reduceEq, Int.reduceLT, Int.reduceLE]; with_reducible rfl) ?_
    | ((with_reducible refine chk_r ?_); refine r_callF (by simp only [CA, Nat.reduceEqDiff, ↓reduceIte]; rfl) (by exact rfl) (by simp only [CA, Nat.reduceEqDiff, ↓reduceIte]; rfl) rfl ?_)
    | ((with_reducible refine chk_r ?_); refine r_callP (by simp only [CA, Nat.reduceEqDiff, ↓reduceIte]; rfl) (by simp only [CA, Nat.reduceEqDiff, ↓reduceIte]; rfl) (by first | (refine q1 _ ?_ ?_ <;> assumption) | (refine q2 _ ?_ ?_ <;> assumption) | exact f16 _) rfl ?_)
    | ((with_reducible refine chk_r ?_); refine r_callG (by simp only [CA, Nat.reduceEqDiff, ↓reduceIte]; rfl) (by simp only [CA, Nat.reduceEqDiff, ↓reduceIte]; rfl) (by simp only [CA, Nat.reduceEqDiff, ↓reduceIte]; rfl) (by intro hg; (try simp only [BO] at hg); first | (refine q1 _ ?_ ?_ <;> assumption) | (refine q2 _ ?_ ?_ <;> assumption) | exact f16 _) rfl ?_)
    | (with_reducible refine k_condP (by simp only [GA, Nat.reduceEqDiff, ↓reduceIte]; rfl) (by first | (simp only [BO]; rfl) | rfl) (fun ht => ?_) (fun ht => ?_) <;> try (first | exact False.elim ht | exact absurd rfl ht | exact absurd trivial ht | exact Bool.noConfusion ht))
    | (with_reducible refine k_ret ?_; repeat with_reducible (first | refine ret_thru ?_ | refine ret_blk ?_ | refine fin ?_))
    | (with_reducible refine k_exit ?_; repeat with_reducible (first | refine thru ?_ | refine out_blk ?_ | refine pass (by decide) ?_))
    | (refine post1 ?_; simp only [GA, Nat.reduceEqDiff, ↓reduceIte])
    | (refine post2 ?_; simp only [GA, Nat.reduceEqDiff, ↓reduceIte])
    | (refine post3 ?_; simp only [GA, Nat.reduceEqDiff, ↓reduceIte])
    | (refine postc (by simp only [GA, Nat.reduceEqDiff, ↓reduceIte]; rfl) (by simp (disch := omega) only [c7r0, c7r1, c7r2, c7r3, EV0, EV1, EV2, EV3, EV4, EV5, EV6, EV7, plug, ite_same, decide_true, decide_false, eq_self, ↓reduceIte, reduceCtorEq, Nat.reduceAdd, Nat.reduceEqDiff, Nat.reduceLT, Nat.reduceLeDiff, Nat.reduceMul, Nat.reduceSub, Nat.reduceDiv, Int.reduceToNat, Int.reduceAdd, Int.reduceSub, Int.reduceMul, Int.reduceNeg, Int.reduceEq, Int.reduceLT, Int.reduceLE]; rfl) ?_)
    | refine post0 ?_
end Go.Proofs.Ytappehafkjcabaa
