import Derived.Test.YtappehafkjcabaaSaP
set_option linter.unusedVariables false
set_option linter.unusedSimpArgs false
namespace Go.Proofs.Ytappehafkjcabaa
open Go Go.Am Go.Proofs

theorem chv_ok {L B S A : Nat} (h : pv S A = true) (hl : S ≤ L) (h6 : L ≤ 60) (hb : B ≤ L) : chv S A L B = (((cnum L B S A / cgcd L B S A : Nat) : Int), ((ch L S / cgcd L B S A : Nat) : Int), 0) := by
  unfold chv
  rw [if_pos h, if_neg (by omega)]; rfl
theorem chv_no {s a : Int} (lot bad : Int) (h : pv s a = false) : chv s a lot bad = (0, 0, 50) := by
  unfold chv
  rw [if_neg (by simp [h])]

theorem f9 (h : AH) (lot : Int) (w0 : -9223372036854775808 ≤ lot ∧ lot ≤ 9223372036854775807) (bad : Int) (w1 : -9223372036854775808 ≤ bad ∧ bad ≤ 9223372036854775807) (acc : Int) (w2 : -9223372036854775808 ≤ acc ∧ acc ≤ 9223372036854775807)
    (m0 m1 : Int) (w3 : -9223372036854775808 ≤ m0 ∧ m0 ≤ 9223372036854775807) (w4 : -9223372036854775808 ≤ m1 ∧ m1 ≤ 9223372036854775807) :
    ACalls Try.prog 9 [.i .i64 lot, .i .i64 bad, .i .i64 acc, .ag [.i .i64 m0, .i .i64 m1]] h fun r h' => r = .b true ∧ h' = h := by
  refine pure_call (R := fun r => r = .b true) (fun h0 _ _ => ?_) (fun r e => by rw [e]; rfl)
  refine a_fn fn9 (by simp) fun ok pos => ?_
  rw [initSt4]
  have q1 := f31 lot bad acc m0 m1 w3.2 w4.2
  have q2 := f32 lot bad acc m0 m1 w3.2 w4.2
  cases hbad : lbad lot bad acc m0 m1 with
  | true =>
    rw [lv_bad hbad] at q1 q2
    repeat' first
      | with_reducible refine k_seq ?_
      | with_reducible refine k_skip ?_
      | with_reducible refine k_blkS ?_
      | with_reducible refine k_reg ?_
      | with_reducible refine r_done ?_
      | with_reducible refine s_go (by simp (disch := omega) only [c9r0, c9r1, c9r2, c9r3, c9r4, c9r5, c9r6, c9r7, c9r8, c9r9, c9r10, c9r11, c9r12, c9r13, c9r14, c9r15, EV0, EV1, EV2, EV3, EV4, EV5, EV6, EV7, plug, ite_same, decide_true, decide_false, eq_self, ↓reduceIte, reduceCtorEq, Nat.reduceAdd, Nat.reduceEqDiff, Nat.reduceLT, Nat.reduceLeDiff, Nat.reduceMul, Nat.reduceSub, Nat.reduceDiv, Int.reduceToNat, Int.reduceAdd, Int.reduceSub, Int.reduceMul, Int.reduceNeg, Int.reduceEq, Int.reduceLT, Int.reduceLE]; with_reducible rfl) ?_
      | ((with_reducible refine chk_r ?_); refine r_callF (by simp only [CA, Nat.reduceEqDiff, ↓reduceIte]; rfl) (by exact rfl) (by simp only [CA, Nat.reduceEqDiff, ↓reduceIte]; rfl) rfl ?_)
      | ((with_reducible refine chk_r ?_); refine r_callP (by simp only [CA, Nat.reduceEqDiff, ↓reduceIte]; rfl) (by simp only [CA, Nat.reduceEqDiff, ↓reduceIte]; rfl) (by first | exact q1 _ | exact q2 _ | exact f16 _) rfl ?_)
      | ((with_reducible refine chk_r ?_); refine r_callG (by simp only [CA, Nat.reduceEqDiff, ↓reduceIte]; rfl) (by simp only [CA, Nat.reduceEqDiff, ↓reduceIte]; rfl) (by simp only [CA, Nat.reduceEqDiff, ↓reduceIte]; rfl) (by intro hg; (try simp only [BO] at hg); first | exact q1 _ | exact q2 _ | exact f16 _) rfl ?_)
      | (with_reducible refine k_condP (by simp only [GA, Nat.reduceEqDiff, ↓reduceIte]; rfl) (by first | (simp only [BO]; rfl) | rfl) (fun ht => ?_) (fun ht => ?_) <;> try (first | exact False.elim ht | exact absurd rfl ht | exact absurd trivial ht | exact Bool.noConfusion ht))
      | (with_reducible refine k_ret ?_; repeat with_reducible (first | refine ret_thru ?_ | refine ret_blk ?_ | refine fin ?_))
      | (with_reducible refine k_exit ?_; repeat with_reducible (first | refine thru ?_ | refine out_blk ?_ | refine pass (by decide) ?_))
      | (refine post1 ?_; simp only [GA, Nat.reduceEqDiff, ↓reduceIte])
      | (refine post2 ?_; simp only [GA, Nat.reduceEqDiff, ↓reduceIte])
      | (refine post3 ?_; simp only [GA, Nat.reduceEqDiff, ↓reduceIte])
      | (refine postc (by simp only [GA, Nat.reduceEqDiff, ↓reduceIte]; rfl) (by simp (disch := omega) only [c9r0, c9r1, c9r2, c9r3, c9r4, c9r5, c9r6, c9r7, c9r8, c9r9, c9r10, c9r11, c9r12, c9r13, c9r14, c9r15, EV0, EV1, EV2, EV3, EV4, EV5, EV6, EV7, plug, ite_same, decide_true, decide_false, eq_self, ↓reduceIte, reduceCtorEq, Nat.reduceAdd, Nat.reduceEqDiff, Nat.reduceLT, Nat.reduceLeDiff, Nat.reduceMul, Nat.reduceSub, Nat.reduceDiv, Int.reduceToNat, Int.reduceAdd, Int.reduceSub, Int.reduceMul, Int.reduceNeg, Int.reduceEq, Int.reduceLT, Int.reduceLE]; rfl) ?_)
      | refine post0 ?_
  | false =>
    have hq : ¬ (lot < 1 ∨ 60 < lot ∨ bad < 0 ∨ lot < bad ∨ acc < 0 ∨ lot ≤ acc ∨ m0 < 0 ∨ m1 < 1) := by rw [← lbad_iff, hbad]; simp
    obtain ⟨L, rfl⟩ : ∃ L : Nat, lot = L := ⟨lot.toNat, by omega⟩
    obtain ⟨B, rfl⟩ : ∃ L : Nat, bad = L := ⟨bad.toNat, by omega⟩
    obtain ⟨A, rfl⟩ : ∃ L : Nat, acc = L := ⟨acc.toNat, by omega⟩
    obtain ⟨m0, rfl⟩ : ∃ L : Nat, m0 = L := ⟨m0.toNat, by omega⟩
    obtain ⟨m1, rfl⟩ : ∃ L : Nat, m1 = L := ⟨m1.toNat, by omega⟩
    have gen : ∀ X Y : Nat, X ≤ Y ∧ Y ≤ 1152921504606846976 ∧ 0 < Y → ∀ h, ACalls Try.prog 33 [.ag [.i .i64 X, .i .i64 Y], .ag [.i .i64 m0, .i .i64 m1]] h fun r h' => r = .tu [.i .i64 (cmpv (X * m1) (m0 * Y)), .i .i64 0] ∧ h' = h := by
      intro X Y hxy
      have := f33 X Y m0 m1 (by omega) (by omega) (by omega) (by omega)
      rwa [show cv2 (X : Int) Y m0 m1 = (cmpv (X * m1) (m0 * Y), 0) by unfold cv2; rw [if_neg (by omega)]; rfl] at this
    cases hl : lf (lp L B A m0 m1) (L - A) (A + 1) with
    | none =>
      rw [lv_none hbad hl] at q1 q2
      repeat' first
        | with_reducible refine k_seq ?_
        | with_reducible refine k_skip ?_
        | with_reducible refine k_blkS ?_
        | with_reducible refine k_reg ?_
        | with_reducible refine r_done ?_
        | with_reducible refine s_go (by simp (disch := omega) only [c9r0, c9r1, c9r2, c9r3, c9r4, c9r5, c9r6, c9r7, c9r8, c9r9, c9r10, c9r11, c9r12, c9r13, c9r14, c9r15, EV0, EV1, EV2, EV3, EV4, EV5, EV6, EV7, plug, ite_same, decide_true, decide_false, eq_self, ↓reduceIte, reduceCtorEq, Nat.reduceAdd, Nat.reduceEqDiff, Nat.reduceLT, Nat.reduceLeDiff, Nat.reduceMul, Nat.reduceSub, Nat.reduceDiv, Int.reduceToNat, Int.reduceAdd, Int.reduceSub, Int.reduceMul, Int.reduceNeg, Int.reduceEq, Int.reduceLT, Int.reduceLE]; with_reducible rfl) ?_
        | ((with_reducible refine chk_r ?_); refine r_callF (by simp only [CA, Nat.reduceEqDiff, ↓reduceIte]; rfl) (by exact rfl) (by simp only [CA, Nat.reduceEqDiff, ↓reduceIte]; rfl) rfl ?_)
        | ((with_reducible refine chk_r ?_); refine r_callP (by simp only [CA, Nat.reduceEqDiff, ↓reduceIte]; rfl) (by simp only [CA, Nat.reduceEqDiff, ↓reduceIte]; rfl) (by first | exact q1 _ | exact q2 _ | exact f16 _) rfl ?_)
        | ((with_reducible refine chk_r ?_); refine r_callG (by simp only [CA, Nat.reduceEqDiff, ↓reduceIte]; rfl) (by simp only [CA, Nat.reduceEqDiff, ↓reduceIte]; rfl) (by simp only [CA, Nat.reduceEqDiff, ↓reduceIte]; rfl) (by intro hg; (try simp only [BO] at hg); first | exact q1 _ | exact q2 _ | exact f16 _) rfl ?_)
        | (with_reducible refine k_condP (by simp only [GA, Nat.reduceEqDiff, ↓reduceIte]; rfl) (by first | (simp only [BO]; rfl) | rfl) (fun ht => ?_) (fun ht => ?_) <;> try (first | exact False.elim ht | exact absurd rfl ht | exact absurd trivial ht | exact Bool.noConfusion ht))
        | (with_reducible refine k_ret ?_; repeat with_reducible (first | refine ret_thru ?_ | refine ret_blk ?_ | refine fin ?_))
        | (with_reducible refine k_exit ?_; repeat with_reducible (first | refine thru ?_ | refine out_blk ?_ | refine pass (by decide) ?_))
        | (refine post1 ?_; simp only [GA, Nat.reduceEqDiff, ↓reduceIte])
        | (refine post2 ?_; simp only [GA, Nat.reduceEqDiff, ↓reduceIte])
        | (refine post3 ?_; simp only [GA, Nat.reduceEqDiff, ↓reduceIte])
        | (refine postc (by simp only [GA, Nat.reduceEqDiff, ↓reduceIte]; rfl) (by simp (disch := omega) only [c9r0, c9r1, c9r2, c9r3, c9r4, c9r5, c9r6, c9r7, c9r8, c9r9, c9r10, c9r11, c9r12, c9r13, c9r14, c9r15, EV0, EV1, EV2, EV3, EV4, EV5, EV6, EV7, plug, ite_same, decide_true, decide_false, eq_self, ↓reduceIte, reduceCtorEq, Nat.reduceAdd, Nat.reduceEqDiff, Nat.reduceLT, Nat.reduceLeDiff, Nat.reduceMul, Nat.reduceSub, Nat.reduceDiv, Int.reduceToNat, Int.reduceAdd, Int.reduceSub, Int.reduceMul, Int.reduceNeg, Int.reduceEq, Int.reduceLT, Int.reduceLE]; rfl) ?_)
        | refine post0 ?_
    | some k =>
      rw [lv_some hbad hl] at q1 q2
      obtain ⟨k1, k2, k3, k4⟩ := lf_some hl
      have v1 : pv (k : Int) A = true := by simp only [pv, Bool.and_eq_true, decide_eq_true_eq]; omega
      have q3 := f14 k A L B
      simp only [cht] at q3
      rw [chv_ok v1 (by omega) (by omega) (by omega)] at q3
      have fb := frac_bound (L := L) (B := B) (S := k) (A := A) (by omega) (by omega) (by omega) (by omega)
      have q4 := gen _ _ fb
      have c2 : cmpv (cnum L B k A / cgcd L B k A * m1) (m0 * (ch L k / cgcd L B k A)) ≤ 0 := by simpa [lp] using k1
      generalize cmpv (cnum L B k A / cgcd L B k A * m1) (m0 * (ch L k / cgcd L B k A)) = V at q4 c2
      generalize cnum L B k A / cgcd L B k A = X at q3 q4 fb
      generalize ch L k / cgcd L B k A = Y at q3 q4 fb
      have e1 : (k : Int) - 1 = ((k - 1 : Nat) : Int) := by omega
      have c3 : ¬ 0 < V := by omega
      have r1 : (k : Int) - 1 = (k : Int) + -1 := rfl
      by_cases hk : k = A + 1
      · subst hk
        have q5 := f14 ((A + 1 - 1 : Nat) : Int) A L B
        simp only [cht] at q5
        rw [chv_no L B (by simp [pv])] at q5
        have c4 : ((A + 1 : Nat) : Int) = A + 1 := rfl
        repeat' first
          | with_reducible refine k_seq ?_
          | with_reducible refine k_skip ?_
          | with_reducible refine k_blkS ?_
          | with_reducible refine k_reg ?_
          | with_reducible refine r_done ?_
          | with_reducible refine s_go (by simp (disch := omega) only [e1, c3, c9r0, c9r1, c9r2, c9r3, c9r4, c9r5, c9r6, c9r7, c9r8, c9r9, c9r10, c9r11, c9r12, c9r13, c9r14, c9r15, EV0, EV1, EV2, EV3, EV4, EV5, EV6, EV7, plug, ite_same, decide_true, decide_false, eq_self, ↓reduceIte, reduceCtorEq, Nat.reduceAdd, Nat.reduceEqDiff, Nat.reduceLT, Nat.reduceLeDiff, Nat.reduceMul, Nat.reduceSub, Nat.reduceDiv, Int.reduceToNat, Int.reduceAdd, Int.reduceSub, Int.reduceMul, Int.reduceNeg, Int.reduceEq, Int.reduceLT, Int.reduceLE]; with_reducible rfl) ?_
          | ((with_reducible refine chk_r ?_); refine r_callF (by simp only [CA, Nat.reduceEqDiff, ↓reduceIte]; rfl) (by exact rfl) (by simp only [CA, Nat.reduceEqDiff, ↓reduceIte]; rfl) rfl ?_)
          | ((with_reducible refine chk_r ?_); refine r_callP (by simp only [CA, Nat.reduceEqDiff, ↓reduceIte]; rfl) (by simp only [CA, Nat.reduceEqDiff, ↓reduceIte]; rfl) (by first | exact q1 _ | exact q2 _ | exact q3 _ | exact q4 _ | exact q5 _ | exact f16 _) rfl ?_)
          | ((with_reducible refine chk_r ?_); refine r_callG (by simp only [CA, Nat.reduceEqDiff, ↓reduceIte]; rfl) (by simp only [CA, Nat.reduceEqDiff, ↓reduceIte]; rfl) (by simp only [CA, Nat.reduceEqDiff, ↓reduceIte]; rfl) (by intro hg; (try simp only [BO] at hg); first | exact q1 _ | exact q2 _ | exact q3 _ | exact q4 _ | exact q5 _ | exact f16 _) rfl ?_)
          | (with_reducible refine k_condP (by simp only [GA, Nat.reduceEqDiff, ↓reduceIte]; rfl) (by first | (simp only [BO]; rfl) | rfl) (fun ht => ?_) (fun ht => ?_) <;> try (first | exact False.elim ht | exact absurd rfl ht | exact absurd trivial ht | exact Bool.noConfusion ht))
          | (with_reducible refine k_ret ?_; repeat with_reducible (first | refine ret_thru ?_ | refine ret_blk ?_ | refine fin ?_))
          | (with_reducible refine k_exit ?_; repeat with_reducible (first | refine thru ?_ | refine out_blk ?_ | refine pass (by decide) ?_))
          | (refine post1 ?_; simp only [GA, Nat.reduceEqDiff, ↓reduceIte])
          | (refine post2 ?_; simp only [GA, Nat.reduceEqDiff, ↓reduceIte])
          | (refine post3 ?_; simp only [GA, Nat.reduceEqDiff, ↓reduceIte])
          | (refine postc (by simp only [GA, Nat.reduceEqDiff, ↓reduceIte]; rfl) (by simp (disch := omega) only [e1, c3, c9r0, c9r1, c9r2, c9r3, c9r4, c9r5, c9r6, c9r7, c9r8, c9r9, c9r10, c9r11, c9r12, c9r13, c9r14, c9r15, EV0, EV1, EV2, EV3, EV4, EV5, EV6, EV7, plug, ite_same, decide_true, decide_false, eq_self, ↓reduceIte, reduceCtorEq, Nat.reduceAdd, Nat.reduceEqDiff, Nat.reduceLT, Nat.reduceLeDiff, Nat.reduceMul, Nat.reduceSub, Nat.reduceDiv, Int.reduceToNat, Int.reduceAdd, Int.reduceSub, Int.reduceMul, Int.reduceNeg, Int.reduceEq, Int.reduceLT, Int.reduceLE]; rfl) ?_)
          | refine post0 ?_
        all_goals simp
      · have v2 : pv ((k - 1 : Nat) : Int) A = true := by simp only [pv, Bool.and_eq_true, decide_eq_true_eq]; omega
        have q5 := f14 ((k - 1 : Nat) : Int) A L B
        simp only [cht] at q5
        rw [chv_ok v2 (by omega) (by omega) (by omega)] at q5
        have fb2 := frac_bound (L := L) (B := B) (S := k - 1) (A := A) (by omega) (by omega) (by omega) (by omega)
        have q6 := gen _ _ fb2
        have d2 : ¬ cmpv (cnum L B (k - 1) A / cgcd L B (k - 1) A * m1) (m0 * (ch L (k - 1) / cgcd L B (k - 1) A)) ≤ 0 := by simpa [lp] using k4 (k - 1) (by omega) (by omega)
        generalize cmpv (cnum L B (k - 1) A / cgcd L B (k - 1) A * m1) (m0 * (ch L (k - 1) / cgcd L B (k - 1) A)) = V2 at q6 d2
        generalize cnum L B (k - 1) A / cgcd L B (k - 1) A = X2 at q5 q6 fb2
        generalize ch L (k - 1) / cgcd L B (k - 1) A = Y2 at q5 q6 fb2
        have d3 : 0 < V2 := by omega
        repeat' first
          | with_reducible refine k_seq ?_
          | with_reducible refine k_skip ?_
          | with_reducible refine k_blkS ?_
          | with_reducible refine k_reg ?_
          | with_reducible refine r_done ?_
          | with_reducible refine s_go (by simp (disch := omega) only [e1, c3, d3, c9r0, c9r1, c9r2, c9r3, c9r4, c9r5, c9r6, c9r7, c9r8, c9r9, c9r10, c9r11, c9r12, c9r13, c9r14, c9r15, EV0, EV1, EV2, EV3, EV4, EV5, EV6, EV7, plug, ite_same, decide_true, decide_false, eq_self, ↓reduceIte, reduceCtorEq, Nat.reduceAdd, Nat.reduceEqDiff, Nat.reduceLT, Nat.reduceLeDiff, Nat.reduceMul, Nat.reduceSub, Nat.reduceDiv, Int.reduceToNat, Int.reduceAdd, Int.reduceSub, Int.reduceMul, Int.reduceNeg, Int.reduceEq, Int.reduceLT, Int.reduceLE]; with_reducible rfl) ?_
          | ((with_reducible refine chk_r ?_); refine r_callF (by simp only [CA, Nat.reduceEqDiff, ↓reduceIte]; rfl) (by exact rfl) (by simp only [CA, Nat.reduceEqDiff, ↓reduceIte]; rfl) rfl ?_)
          | ((with_reducible refine chk_r ?_); refine r_callP (by simp only [CA, Nat.reduceEqDiff, ↓reduceIte]; rfl) (by simp only [CA, Nat.reduceEqDiff, ↓reduceIte]; rfl) (by first | exact q1 _ | exact q2 _ | exact q3 _ | exact q4 _ | exact q5 _ | exact q6 _ | exact f16 _) rfl ?_)
          | ((with_reducible refine chk_r ?_); refine r_callG (by simp only [CA, Nat.reduceEqDiff, ↓reduceIte]; rfl) (by simp only [CA, Nat.reduceEqDiff, ↓reduceIte]; rfl) (by simp only [CA, Nat.reduceEqDiff, ↓reduceIte]; rfl) (by intro hg; (try simp only [BO] at hg); first | exact q1 _ | exact q2 _ | exact q3 _ | exact q4 _ | exact q5 _ | exact q6 _ | exact f16 _) rfl ?_)
          | (with_reducible refine k_condP (by simp only [GA, Nat.reduceEqDiff, ↓reduceIte]; rfl) (by first | (simp only [BO]; rfl) | rfl) (fun ht => ?_) (fun ht => ?_) <;> try (first | exact False.elim ht | exact absurd rfl ht | exact absurd trivial ht | exact Bool.noConfusion ht))
          | (with_reducible refine k_ret ?_; repeat with_reducible (first | refine ret_thru ?_ | refine ret_blk ?_ | refine fin ?_))
          | (with_reducible refine k_exit ?_; repeat with_reducible (first | refine thru ?_ | refine out_blk ?_ | refine pass (by decide) ?_))
          | (refine post1 ?_; simp only [GA, Nat.reduceEqDiff, ↓reduceIte])
          | (refine post2 ?_; simp only [GA, Nat.reduceEqDiff, ↓reduceIte])
          | (refine post3 ?_; simp only [GA, Nat.reduceEqDiff, ↓reduceIte])
          | (refine postc (by simp only [GA, Nat.reduceEqDiff, ↓reduceIte]; rfl) (by simp (disch := omega) only [e1, c3, d3, c9r0, c9r1, c9r2, c9r3, c9r4, c9r5, c9r6, c9r7, c9r8, c9r9, c9r10, c9r11, c9r12, c9r13, c9r14, c9r15, EV0, EV1, EV2, EV3, EV4, EV5, EV6, EV7, plug, ite_same, decide_true, decide_false, eq_self, ↓reduceIte, reduceCtorEq, Nat.reduceAdd, Nat.reduceEqDiff, Nat.reduceLT, Nat.reduceLeDiff, Nat.reduceMul, Nat.reduceSub, Nat.reduceDiv, Int.reduceToNat, Int.reduceAdd, Int.reduceSub, Int.reduceMul, Int.reduceNeg, Int.reduceEq, Int.reduceLT, Int.reduceLE]; rfl) ?_)
          | refine post0 ?_

/-! ### How chances change -/
theorem wy_shift {b m s : Nat} : ∀ {a : Nat}, a < s → sm (a + 1) (fun i => ch b i * ch (m + 1) (s - i)) = sm (a + 1) (fun i => ch (b + 1) i * ch m (s - i)) + ch b a * ch m (s - a - 1)
  | 0, h => by
    obtain ⟨t, rfl⟩ : ∃ t, s = t + 1 := ⟨s - 1, by omega⟩
    simp only [sm, ch_zero, Nat.sub_zero, Nat.add_sub_cancel, Nat.one_mul, ch]; omega
  | a + 1, h => by
    have ih := wy_shift (b := b) (m := m) (s := s) (a := a) (by omega)
    obtain ⟨t, ht⟩ : ∃ t, s - (a + 1) = t + 1 := ⟨s - (a + 1) - 1, by omega⟩
    have e0 : ∀ f, sm (a + 1 + 1) f = sm (a + 1) f + f (a + 1) := fun _ => rfl
    rw [e0, e0, ih]
    have e1 : s - a - 1 = t + 1 := by omega
    have e2 : s - (a + 1) - 1 = t := by omega
    simp only [e1, e2, ht, Nat.add_sub_cancel]
    simp only [ch, Nat.add_mul, Nat.mul_add]
    omega
theorem cnum_bad {L B S A : Nat} (hb : B + 1 ≤ L) (ha : A < S) : cnum L (B + 1) S A ≤ cnum L B S A := by
  have := wy_shift (b := B) (m := L - (B + 1)) (s := S) ha
  unfold cnum wy
  rw [show L - B = L - (B + 1) + 1 by omega, this]
  exact Nat.le_add_right _ _
theorem cnum_acc (L B S A : Nat) : cnum L B S A ≤ cnum L B S (A + 1) := by
  unfold cnum; exact sm_mono (by omega)
theorem sm_tail {f : Nat → Nat} {m : Nat} : ∀ {n : Nat}, m ≤ n → (∀ i, m ≤ i → f i = 0) → sm n f = sm m f
  | 0, h, _ => by have : m = 0 := by omega
                  subst this; rfl
  | n + 1, h, hz => by
    by_cases e : m = n + 1
    · subst e; rfl
    · simp only [sm]; rw [sm_tail (by omega) hz, hz n (by omega), Nat.add_zero]
theorem cnum_all {L B S A : Nat} (hb : B ≤ L) (ha : A < S) (h : B ≤ A) : cnum L B S A = ch L S := by
  rw [← wy_sum hb S]
  unfold cnum
  exact (sm_tail (by omega) fun i hi => by unfold wy; rw [ch_gt (by omega)]; simp).symm
theorem frac_le {n1 n2 d : Nat} (hd : 0 < d) (h : n1 ≤ n2) : cmpv (n1 / Nat.gcd n1 d * (d / Nat.gcd n2 d)) (n2 / Nat.gcd n2 d * (d / Nat.gcd n1 d)) ≤ 0 := by
  have g1 := Nat.gcd_pos_of_pos_right n1 hd
  have g2 := Nat.gcd_pos_of_pos_right n2 hd
  obtain ⟨a1, ha1⟩ := Nat.gcd_dvd_left n1 d
  obtain ⟨b1, hb1⟩ := Nat.gcd_dvd_right n1 d
  obtain ⟨a2, ha2⟩ := Nat.gcd_dvd_left n2 d
  obtain ⟨b2, hb2⟩ := Nat.gcd_dvd_right n2 d
  generalize Nat.gcd n1 d = g at *
  generalize Nat.gcd n2 d = k at *
  have e1 : n1 / g = a1 := by rw [ha1, Nat.mul_div_cancel_left _ g1]
  have e2 : d / g = b1 := by rw [hb1, Nat.mul_div_cancel_left _ g1]
  have e3 : n2 / k = a2 := by rw [ha2, Nat.mul_div_cancel_left _ g2]
  have e4 : d / k = b2 := by rw [hb2, Nat.mul_div_cancel_left _ g2]
  rw [e1, e2, e3, e4]
  have key : a1 * b2 ≤ a2 * b1 := by
    have h1 : (g * k) * (a1 * b2) ≤ (g * k) * (a2 * b1) := by
      have l : (g * k) * (a1 * b2) = n1 * d := by rw [ha1, hb2]; rw [Nat.mul_mul_mul_comm]
      have r : (g * k) * (a2 * b1) = n2 * d := by rw [ha2, hb1, Nat.mul_comm g k, Nat.mul_mul_mul_comm]
      rw [l, r]
      exact Nat.mul_le_mul_right d h
    exact Nat.le_of_mul_le_mul_left h1 (Nat.mul_pos g1 g2)
  unfold cmpv
  split
  · omega
  · split <;> omega

/-- a chance, as a fraction in lowest terms -/
theorem f30 {S A S2 A2 L B O : Nat} (v1 : pv S A = true) (v2 : pv S2 A2 = true) (hl : S ≤ L) (hl2 : S2 ≤ L) (h6 : L ≤ 60) (hb : B ≤ L) (ho : O ≤ L) (h : AH) :
    ACalls Try.prog 30 [.ag [.i .i64 S, .i .i64 A], .ag [.i .i64 S2, .i .i64 A2], .i .i64 L, .i .i64 B, .i .i64 O] h fun r h' =>
      r = .b (decide (cmpv (cnum L B S A / cgcd L B S A * (ch L S2 / cgcd L O S2 A2)) (cnum L O S2 A2 / cgcd L O S2 A2 * (ch L S / cgcd L B S A)) ≤ 0)) ∧ h' = h := by
  have p1 := v1
  have p2 := v2
  simp only [pv, Bool.and_eq_true, decide_eq_true_eq] at p1 p2
  have q3 := f14 S A L B
  simp only [cht] at q3
  rw [chv_ok v1 hl h6 hb] at q3
  have q4 := f14 S2 A2 L O
  simp only [cht] at q4
  rw [chv_ok v2 hl2 h6 ho] at q4
  have fb := frac_bound (L := L) (B := B) (S := S) (A := A) h6 hb hl (by omega)
  have fb2 := frac_bound (L := L) (B := O) (S := S2) (A := A2) h6 ho hl2 (by omega)
  generalize cnum L B S A / cgcd L B S A = X at *
  generalize ch L S / cgcd L B S A = Y at *
  generalize cnum L O S2 A2 / cgcd L O S2 A2 = X2 at *
  generalize ch L S2 / cgcd L O S2 A2 = Y2 at *
  have q5 := f33 X Y X2 Y2 (by omega) (by omega) (by omega) (by omega)
  rw [show cv2 (X : Int) Y X2 Y2 = (cmpv (X * Y2) (X2 * Y), 0) by unfold cv2; rw [if_neg (by omega)]; rfl] at q5
  refine pure_call (R := fun r => r = .b (decide (cmpv (X * Y2) (X2 * Y) ≤ 0))) (fun h0 _ _ => ?_) (fun r e => by rw [e]; rfl)
  refine a_fn fn30 (by simp) fun ok pos => ?_
  rw [initSt5]
  repeat' first
    | with_reducible refine k_seq ?_
    | with_reducible refine k_skip ?_
    | with_reducible refine k_blkS ?_
    | with_reducible refine k_reg ?_
    | with_reducible refine r_done ?_
    | with_reducible refine s_go (by simp (disch := omega) only [c30r0, c30r1, c30r2, c30r3, c30r4, EV0, EV1, EV2, EV3, EV4, EV5, EV6, EV7, plug, ite_same, decide_true, decide_false, eq_self, ↓reduceIte, reduceCtorEq, Nat.reduceAdd, Nat.reduceEqDiff, Nat.reduceLT, Nat.reduceLeDiff, Nat.reduceMul, Nat.reduceSub, Nat.reduceDiv, Int.reduceToNat, Int.reduceAdd, Int.reduceSub, Int.reduceMul, Int.reduceNeg, Int.reduceEq, Int.reduceLT, Int.reduceLE]; with_reducible rfl) ?_
    | ((with_reducible refine chk_r ?_); refine r_callF (by simp only [CA, Nat.reduceEqDiff, ↓reduceIte]; rfl) (by exact rfl) (by simp only [CA, Nat.reduceEqDiff, ↓reduceIte]; rfl) rfl ?_)
    | ((with_reducible refine chk_r ?_); refine r_callP (by simp only [CA, Nat.reduceEqDiff, ↓reduceIte]; rfl) (by simp only [CA, Nat.reduceEqDiff, ↓reduceIte]; rfl) (by first | exact q3 _ | exact q4 _ | exact q5 _) rfl ?_)
    | (with_reducible refine k_condP (by simp only [GA, Nat.reduceEqDiff, ↓reduceIte]; rfl) (by first | (simp only [BO]; rfl) | rfl) (fun ht => ?_) (fun ht => ?_) <;> try (first | exact False.elim ht | exact absurd rfl ht | exact absurd trivial ht | exact Bool.noConfusion ht))
    | (with_reducible refine k_ret ?_; repeat with_reducible (first | refine ret_thru ?_ | refine ret_blk ?_ | refine fin ?_))
    | (with_reducible refine k_exit ?_; repeat with_reducible (first | refine thru ?_ | refine out_blk ?_ | refine pass (by decide) ?_))
    | (refine post1 ?_; simp only [GA, Nat.reduceEqDiff, ↓reduceIte])
    | (refine post2 ?_; simp only [GA, Nat.reduceEqDiff, ↓reduceIte])
    | (refine post3 ?_; simp only [GA, Nat.reduceEqDiff, ↓reduceIte])
    | (refine postc (by simp only [GA, Nat.reduceEqDiff, ↓reduceIte]; rfl) (by simp (disch := omega) only [c30r0, c30r1, c30r2, c30r3, c30r4, EV0, EV1, EV2, EV3, EV4, EV5, EV6, EV7, plug, ite_same, decide_true, decide_false, eq_self, ↓reduceIte, reduceCtorEq, Nat.reduceAdd, Nat.reduceEqDiff, Nat.reduceLT, Nat.reduceLeDiff, Nat.reduceMul, Nat.reduceSub, Nat.reduceDiv, Int.reduceToNat, Int.reduceAdd, Int.reduceSub, Int.reduceMul, Int.reduceNeg, Int.reduceEq, Int.reduceLT, Int.reduceLE]; rfl) ?_)
    | refine post0 ?_

theorem f8 (h : AH) (s a : Int) (w0 : -9223372036854775808 ≤ s ∧ s ≤ 9223372036854775807) (w1 : -9223372036854775808 ≤ a ∧ a ≤ 9223372036854775807) (lot : Int) (w2 : -9223372036854775808 ≤ lot ∧ lot ≤ 9223372036854775807)
    (bad : Int) (w3 : -9223372036854775808 ≤ bad ∧ bad ≤ 9223372036854775807) : ACalls Try.prog 8 [.ag [.i .i64 s, .i .i64 a], .i .i64 lot, .i .i64 bad] h fun r h' => r = .b true ∧ h' = h := by
  refine pure_call (R := fun r => r = .b true) (fun h0 _ _ => ?_) (fun r e => by rw [e]; rfl)
  refine a_fn fn8 (by simp) fun ok pos => ?_
  rw [initSt3]
  have q1 := f14 s a lot bad
  simp only [cht] at q1
  cases hv : pv s a with
  | false =>
    rw [chv_no lot bad hv] at q1
    repeat' first
      | with_reducible refine k_seq ?_
      | with_reducible refine k_skip ?_
      | with_reducible refine k_blkS ?_
      | with_reducible refine k_reg ?_
      | with_reducible refine r_done ?_
      | with_reducible refine s_go (by simp (disch := omega) only [c8r0, c8r1, c8r2, c8r3, c8r4, c8r5, c8r6, c8r7, c8r8, c8r9, c8r10, EV0, EV1, EV2, EV3, EV4, EV5, EV6, EV7, plug, ite_same, decide_true, decide_false, eq_self, ↓reduceIte, reduceCtorEq, Nat.reduceAdd, Nat.reduceEqDiff, Nat.reduceLT, Nat.reduceLeDiff, Nat.reduceMul, Nat.reduceSub, Nat.reduceDiv, Int.reduceToNat, Int.reduceAdd, Int.reduceSub, Int.reduceMul, Int.reduceNeg, Int.reduceEq, Int.reduceLT, Int.reduceLE]; with_reducible rfl) ?_
      | ((with_reducible refine chk_r ?_); refine r_callF (by simp only [CA, Nat.reduceEqDiff, ↓reduceIte]; rfl) (by exact rfl) (by simp only [CA, Nat.reduceEqDiff, ↓reduceIte]; rfl) rfl ?_)
      | ((with_reducible refine chk_r ?_); refine r_callP (by simp only [CA, Nat.reduceEqDiff, ↓reduceIte]; rfl) (by simp only [CA, Nat.reduceEqDiff, ↓reduceIte]; rfl) (by first | exact q1 _ | exact f16 _) rfl ?_)
      | ((with_reducible refine chk_r ?_); refine r_callG (by simp only [CA, Nat.reduceEqDiff, ↓reduceIte]; rfl) (by simp only [CA, Nat.reduceEqDiff, ↓reduceIte]; rfl) (by simp only [CA, Nat.reduceEqDiff, ↓reduceIte]; rfl) (by intro hg; (try simp only [BO] at hg); first | exact q1 _ | exact f16 _) rfl ?_)
      | (with_reducible refine k_condP (by simp only [GA, Nat.reduceEqDiff, ↓reduceIte]; rfl) (by first | (simp only [BO]; rfl) | rfl) (fun ht => ?_) (fun ht => ?_) <;> try (first | exact False.elim ht | exact absurd rfl ht | exact absurd trivial ht | exact Bool.noConfusion ht))
      | (with_reducible refine k_ret ?_; repeat with_reducible (first | refine ret_thru ?_ | refine ret_blk ?_ | refine fin ?_))
      | (with_reducible refine k_exit ?_; repeat with_reducible (first | refine thru ?_ | refine out_blk ?_ | refine pass (by decide) ?_))
      | (refine post1 ?_; simp only [GA, Nat.reduceEqDiff, ↓reduceIte])
      | (refine post2 ?_; simp only [GA, Nat.reduceEqDiff, ↓reduceIte])
      | (refine post3 ?_; simp only [GA, Nat.reduceEqDiff, ↓reduceIte])
      | (refine postc (by simp only [GA, Nat.reduceEqDiff, ↓reduceIte]; rfl) (by simp (disch := omega) only [c8r0, c8r1, c8r2, c8r3, c8r4, c8r5, c8r6, c8r7, c8r8, c8r9, c8r10, EV0, EV1, EV2, EV3, EV4, EV5, EV6, EV7, plug, ite_same, decide_true, decide_false, eq_self, ↓reduceIte, reduceCtorEq, Nat.reduceAdd, Nat.reduceEqDiff, Nat.reduceLT, Nat.reduceLeDiff, Nat.reduceMul, Nat.reduceSub, Nat.reduceDiv, Int.reduceToNat, Int.reduceAdd, Int.reduceSub, Int.reduceMul, Int.reduceNeg, Int.reduceEq, Int.reduceLT, Int.reduceLE]; rfl) ?_)
      | refine post0 ?_
  | true =>
    by_cases hr : lot < s ∨ 60 < lot ∨ bad < 0 ∨ lot < bad
    · rw [show chv s a lot bad = (0, 0, 2) by unfold chv; rw [if_pos hv, if_pos hr]] at q1
      repeat' first
        | with_reducible refine k_seq ?_
        | with_reducible refine k_skip ?_
        | with_reducible refine k_blkS ?_
        | with_reducible refine k_reg ?_
        | with_reducible refine r_done ?_
        | with_reducible refine s_go (by simp (disch := omega) only [c8r0, c8r1, c8r2, c8r3, c8r4, c8r5, c8r6, c8r7, c8r8, c8r9, c8r10, EV0, EV1, EV2, EV3, EV4, EV5, EV6, EV7, plug, ite_same, decide_true, decide_false, eq_self, ↓reduceIte, reduceCtorEq, Nat.reduceAdd, Nat.reduceEqDiff, Nat.reduceLT, Nat.reduceLeDiff, Nat.reduceMul, Nat.reduceSub, Nat.reduceDiv, Int.reduceToNat, Int.reduceAdd, Int.reduceSub, Int.reduceMul, Int.reduceNeg, Int.reduceEq, Int.reduceLT, Int.reduceLE]; with_reducible rfl) ?_
        | ((with_reducible refine chk_r ?_); refine r_callF (by simp only [CA, Nat.reduceEqDiff, ↓reduceIte]; rfl) (by exact rfl) (by simp only [CA, Nat.reduceEqDiff, ↓reduceIte]; rfl) rfl ?_)
        | ((with_reducible refine chk_r ?_); refine r_callP (by simp only [CA, Nat.reduceEqDiff, ↓reduceIte]; rfl) (by simp only [CA, Nat.reduceEqDiff, ↓reduceIte]; rfl) (by first | exact q1 _ | exact f16 _) rfl ?_)
        | ((with_reducible refine chk_r ?_); refine r_callG (by simp only [CA, Nat.reduceEqDiff, ↓reduceIte]; rfl) (by simp only [CA, Nat.reduceEqDiff, ↓reduceIte]; rfl) (by simp only [CA, Nat.reduceEqDiff, ↓reduceIte]; rfl) (by intro hg; (try simp only [BO] at hg); first | exact q1 _ | exact f16 _) rfl ?_)
        | (with_reducible refine k_condP (by simp only [GA, Nat.reduceEqDiff, ↓reduceIte]; rfl) (by first | (simp only [BO]; rfl) | rfl) (fun ht => ?_) (fun ht => ?_) <;> try (first | exact False.elim ht | exact absurd rfl ht | exact absurd trivial ht | exact Bool.noConfusion ht))
        | (with_reducible refine k_ret ?_; repeat with_reducible (first | refine ret_thru ?_ | refine ret_blk ?_ | refine fin ?_))
        | (with_reducible refine k_exit ?_; repeat with_reducible (first | refine thru ?_ | refine out_blk ?_ | refine pass (by decide) ?_))
        | (refine post1 ?_; simp only [GA, Nat.reduceEqDiff, ↓reduceIte])
        | (refine post2 ?_; simp only [GA, Nat.reduceEqDiff, ↓reduceIte])
        | (refine post3 ?_; simp only [GA, Nat.reduceEqDiff, ↓reduceIte])
        | (refine postc (by simp only [GA, Nat.reduceEqDiff, ↓reduceIte]; rfl) (by simp (disch := omega) only [c8r0, c8r1, c8r2, c8r3, c8r4, c8r5, c8r6, c8r7, c8r8, c8r9, c8r10, EV0, EV1, EV2, EV3, EV4, EV5, EV6, EV7, plug, ite_same, decide_true, decide_false, eq_self, ↓reduceIte, reduceCtorEq, Nat.reduceAdd, Nat.reduceEqDiff, Nat.reduceLT, Nat.reduceLeDiff, Nat.reduceMul, Nat.reduceSub, Nat.reduceDiv, Int.reduceToNat, Int.reduceAdd, Int.reduceSub, Int.reduceMul, Int.reduceNeg, Int.reduceEq, Int.reduceLT, Int.reduceLE]; rfl) ?_)
        | refine post0 ?_
    · have p1 := hv
      simp only [pv, Bool.and_eq_true, decide_eq_true_eq] at p1
      obtain ⟨S, rfl⟩ : ∃ L : Nat, s = L := ⟨s.toNat, by omega⟩
      obtain ⟨A, rfl⟩ : ∃ L : Nat, a = L := ⟨a.toNat, by omega⟩
      obtain ⟨L, rfl⟩ : ∃ L : Nat, lot = L := ⟨lot.toNat, by omega⟩
      obtain ⟨B, rfl⟩ : ∃ L : Nat, bad = L := ⟨bad.toNat, by omega⟩
      rw [chv_ok hv (by omega) (by omega) (by omega)] at q1
      have fb := frac_bound (L := L) (B := B) (S := S) (A := A) (by omega) (by omega) (by omega) (by omega)
      have dp : 0 < ch L S := ch_pos (by omega)
      -- one more bad piece
      have q2 : B < L → ∀ h, ACalls Try.prog 30 [.ag [.i .i64 S, .i .i64 A], .ag [.i .i64 S, .i .i64 A], .i .i64 L, .i .i64 (B + 1 : Nat), .i .i64 B] h fun r h' => r = .b true ∧ h' = h := fun hb => by
        have fl : cmpv (cnum L (B + 1) S A / cgcd L (B + 1) S A * (ch L S / cgcd L B S A)) (cnum L B S A / cgcd L B S A * (ch L S / cgcd L (B + 1) S A)) ≤ 0 := frac_le dp (cnum_bad (by omega) (by omega))
        have := f30 (S := S) (A := A) (S2 := S) (A2 := A) (L := L) (B := B + 1) (O := B) hv hv (by omega) (by omega) (by omega) (show B + 1 ≤ L by omega) (by omega)
        rwa [decide_eq_true fl] at this
      -- a greater Accept
      have q3 : pv S (A + 1 : Nat) = true → ∀ h, ACalls Try.prog 30 [.ag [.i .i64 S, .i .i64 A], .ag [.i .i64 S, .i .i64 (A + 1 : Nat)], .i .i64 L, .i .i64 B, .i .i64 B] h fun r h' => r = .b true ∧ h' = h := fun hv2 => by
        have fl : cmpv (cnum L B S A / cgcd L B S A * (ch L S / cgcd L B S (A + 1))) (cnum L B S (A + 1) / cgcd L B S (A + 1) * (ch L S / cgcd L B S A)) ≤ 0 := frac_le dp (cnum_acc L B S A)
        have := f30 (S := S) (A := A) (S2 := S) (A2 := A + 1) (L := L) (B := B) (O := B) hv hv2 (by omega) (by omega) (by omega) (by omega) (by omega)
        rwa [decide_eq_true fl] at this
      have q4 := f19 S (A + 1 : Nat)
      have c0 : ¬ ((cnum L B S A / cgcd L B S A : Nat) : Int) < 0 := Int.not_lt.2 (Int.natCast_nonneg _)
      have c1 : B ≤ A → cnum L B S A / cgcd L B S A = ch L S / cgcd L B S A := fun hb => by rw [cnum_all (by omega) (by omega) hb]
      generalize cnum L B S A / cgcd L B S A = X at *
      generalize ch L S / cgcd L B S A = Y at *
      have c2 : ¬ (Y : Int) < X := by omega
      have c3 : ¬ (Y : Int) < 1 := by omega
      have e1 : (A : Int) + 1 = ((A + 1 : Nat) : Int) := rfl
      have e2 : (B : Int) + 1 = ((B + 1 : Nat) : Int) := rfl
      have c4 : (B : Int) ≤ A → (X : Int) = Y := fun hb => by rw [c1 (by omega)]
      by_cases b2 : (B : Int) < L
      · cases b3 : pv S (A + 1 : Nat) with
        | true =>
          repeat' first
            | with_reducible refine k_seq ?_
            | with_reducible refine k_skip ?_
            | with_reducible refine k_blkS ?_
            | with_reducible refine k_reg ?_
            | with_reducible refine r_done ?_
            | with_reducible refine s_go (by simp (disch := omega) only [b2, b3, e1, e2, c8r0, c8r1, c8r2, c8r3, c8r4, c8r5, c8r6, c8r7, c8r8, c8r9, c8r10, EV0, EV1, EV2, EV3, EV4, EV5, EV6, EV7, plug, ite_same, decide_true, decide_false, eq_self, ↓reduceIte, reduceCtorEq, Nat.reduceAdd, Nat.reduceEqDiff, Nat.reduceLT, Nat.reduceLeDiff, Nat.reduceMul, Nat.reduceSub, Nat.reduceDiv, Int.reduceToNat, Int.reduceAdd, Int.reduceSub, Int.reduceMul, Int.reduceNeg, Int.reduceEq, Int.reduceLT, Int.reduceLE]; with_reducible rfl) ?_
            | ((with_reducible refine chk_r ?_); refine r_callF (by simp only [CA, Nat.reduceEqDiff, ↓reduceIte]; rfl) (by exact rfl) (by simp only [CA, Nat.reduceEqDiff, ↓reduceIte]; rfl) rfl ?_)
            | ((with_reducible refine chk_r ?_); refine r_callP (by simp only [CA, Nat.reduceEqDiff, ↓reduceIte]; rfl) (by simp only [CA, Nat.reduceEqDiff, ↓reduceIte]; rfl) (by first | exact q1 _ | exact q2 (by omega) _ | exact q3 b3 _ | exact q4 _ | exact f16 _) rfl ?_)
            | ((with_reducible refine chk_r ?_); refine r_callG (by simp only [CA, Nat.reduceEqDiff, ↓reduceIte]; rfl) (by simp only [CA, Nat.reduceEqDiff, ↓reduceIte]; rfl) (by simp only [CA, Nat.reduceEqDiff, ↓reduceIte]; rfl) (by intro hg; (try simp only [BO] at hg); first | exact q1 _ | exact q2 (by omega) _ | exact q3 b3 _ | exact q4 _ | exact f16 _) rfl ?_)
            | (with_reducible refine k_condP (by simp only [GA, Nat.reduceEqDiff, ↓reduceIte]; rfl) (by first | (simp only [BO]; rfl) | rfl) (fun ht => ?_) (fun ht => ?_) <;> try (first | exact False.elim ht | exact absurd rfl ht | exact absurd trivial ht | exact Bool.noConfusion ht))
            | (with_reducible refine k_ret ?_; repeat with_reducible (first | refine ret_thru ?_ | refine ret_blk ?_ | refine fin ?_))
            | (with_reducible refine k_exit ?_; repeat with_reducible (first | refine thru ?_ | refine out_blk ?_ | refine pass (by decide) ?_))
            | (refine post1 ?_; simp only [GA, Nat.reduceEqDiff, ↓reduceIte])
            | (refine post2 ?_; simp only [GA, Nat.reduceEqDiff, ↓reduceIte])
            | (refine post3 ?_; simp only [GA, Nat.reduceEqDiff, ↓reduceIte])
            | (refine postc (by simp only [GA, Nat.reduceEqDiff, ↓reduceIte]; rfl) (by simp (disch := omega) only [b2, b3, e1, e2, c8r0, c8r1, c8r2, c8r3, c8r4, c8r5, c8r6, c8r7, c8r8, c8r9, c8r10, EV0, EV1, EV2, EV3, EV4, EV5, EV6, EV7, plug, ite_same, decide_true, decide_false, eq_self, ↓reduceIte, reduceCtorEq, Nat.reduceAdd, Nat.reduceEqDiff, Nat.reduceLT, Nat.reduceLeDiff, Nat.reduceMul, Nat.reduceSub, Nat.reduceDiv, Int.reduceToNat, Int.reduceAdd, Int.reduceSub, Int.reduceMul, Int.reduceNeg, Int.reduceEq, Int.reduceLT, Int.reduceLE]; rfl) ?_)
            | refine post0 ?_

          all_goals (exfalso; omega)
        | false =>
          repeat' first
            | with_reducible refine k_seq ?_
            | with_reducible refine k_skip ?_
            | with_reducible refine k_blkS ?_
            | with_reducible refine k_reg ?_
            | with_reducible refine r_done ?_
            | with_reducible refine s_go (by simp (disch := omega) only [b2, b3, e1, e2, c8r0, c8r1, c8r2, c8r3, c8r4, c8r5, c8r6, c8r7, c8r8, c8r9, c8r10, EV0, EV1, EV2, EV3, EV4, EV5, EV6, EV7, plug, ite_same, decide_true, decide_false, eq_self, ↓reduceIte, reduceCtorEq, Nat.reduceAdd, Nat.reduceEqDiff, Nat.reduceLT, Nat.reduceLeDiff, Nat.reduceMul, Nat.reduceSub, Nat.reduceDiv, Int.reduceToNat, Int.reduceAdd, Int.reduceSub, Int.reduceMul, Int.reduceNeg, Int.reduceEq, Int.reduceLT, Int.reduceLE]; with_reducible rfl) ?_
            | ((with_reducible refine chk_r ?_); refine r_callF (by simp only [CA, Nat.reduceEqDiff, ↓reduceIte]; rfl) (by exact rfl) (by simp only [CA, Nat.reduceEqDiff, ↓reduceIte]; rfl) rfl ?_)
            | ((with_reducible refine chk_r ?_); refine r_callP (by simp only [CA, Nat.reduceEqDiff, ↓reduceIte]; rfl) (by simp only [CA, Nat.reduceEqDiff, ↓reduceIte]; rfl) (by first | exact q1 _ | exact q2 (by omega) _ | exact q4 _ | exact f16 _) rfl ?_)
            | ((with_reducible refine chk_r ?_); refine r_callG (by simp only [CA, Nat.reduceEqDiff, ↓reduceIte]; rfl) (by simp only [CA, Nat.reduceEqDiff, ↓reduceIte]; rfl) (by simp only [CA, Nat.reduceEqDiff, ↓reduceIte]; rfl) (by intro hg; (try simp only [BO] at hg); first | exact q1 _ | exact q2 (by omega) _ | exact q4 _ | exact f16 _) rfl ?_)
            | (with_reducible refine k_condP (by simp only [GA, Nat.reduceEqDiff, ↓reduceIte]; rfl) (by first | (simp only [BO]; rfl) | rfl) (fun ht => ?_) (fun ht => ?_) <;> try (first | exact False.elim ht | exact absurd rfl ht | exact absurd trivial ht | exact Bool.noConfusion ht))
            | (with_reducible refine k_ret ?_; repeat with_reducible (first | refine ret_thru ?_ | refine ret_blk ?_ | refine fin ?_))
            | (with_reducible refine k_exit ?_; repeat with_reducible (first | refine thru ?_ | refine out_blk ?_ | refine pass (by decide) ?_))
            | (refine post1 ?_; simp only [GA, Nat.reduceEqDiff, ↓reduceIte])
            | (refine post2 ?_; simp only [GA, Nat.reduceEqDiff, ↓reduceIte])
            | (refine post3 ?_; simp only [GA, Nat.reduceEqDiff, ↓reduceIte])
            | (refine postc (by simp only [GA, Nat.reduceEqDiff, ↓reduceIte]; rfl) (by simp (disch := omega) only [b2, b3, e1, e2, c8r0, c8r1, c8r2, c8r3, c8r4, c8r5, c8r6, c8r7, c8r8, c8r9, c8r10, EV0, EV1, EV2, EV3, EV4, EV5, EV6, EV7, plug, ite_same, decide_true, decide_false, eq_self, ↓reduceIte, reduceCtorEq, Nat.reduceAdd, Nat.reduceEqDiff, Nat.reduceLT, Nat.reduceLeDiff, Nat.reduceMul, Nat.reduceSub, Nat.reduceDiv, Int.reduceToNat, Int.reduceAdd, Int.reduceSub, Int.reduceMul, Int.reduceNeg, Int.reduceEq, Int.reduceLT, Int.reduceLE]; rfl) ?_)
            | refine post0 ?_
          all_goals (exfalso; omega)
      · cases b3 : pv S (A + 1 : Nat) with
        | true =>
          repeat' first
            | with_reducible refine k_seq ?_
            | with_reducible refine k_skip ?_
            | with_reducible refine k_blkS ?_
            | with_reducible refine k_reg ?_
            | with_reducible refine r_done ?_
            | with_reducible refine s_go (by simp (disch := omega) only [b2, b3, e1, e2, c8r0, c8r1, c8r2, c8r3, c8r4, c8r5, c8r6, c8r7, c8r8, c8r9, c8r10, EV0, EV1, EV2, EV3, EV4, EV5, EV6, EV7, plug, ite_same, decide_true, decide_false, eq_self, ↓reduceIte, reduceCtorEq, Nat.reduceAdd, Nat.reduceEqDiff, Nat.reduceLT, Nat.reduceLeDiff, Nat.reduceMul, Nat.reduceSub, Nat.reduceDiv, Int.reduceToNat, Int.reduceAdd, Int.reduceSub, Int.reduceMul, Int.reduceNeg, Int.reduceEq, Int.reduceLT, Int.reduceLE]; with_reducible rfl) ?_
            | ((with_reducible refine chk_r ?_); refine r_callF (by simp only [CA, Nat.reduceEqDiff, ↓reduceIte]; rfl) (by exact rfl) (by simp only [CA, Nat.reduceEqDiff, ↓reduceIte]; rfl) rfl ?_)
            | ((with_reducible refine chk_r ?_); refine r_callP (by simp only [CA, Nat.reduceEqDiff, ↓reduceIte]; rfl) (by simp only [CA, Nat.reduceEqDiff, ↓reduceIte]; rfl) (by first | exact q1 _ | exact q3 b3 _ | exact q4 _ | exact f16 _) rfl ?_)
            | ((with_reducible refine chk_r ?_); refine r_callG (by simp only [CA, Nat.reduceEqDiff, ↓reduceIte]; rfl) (by simp only [CA, Nat.reduceEqDiff, ↓reduceIte]; rfl) (by simp only [CA, Nat.reduceEqDiff, ↓reduceIte]; rfl) (by intro hg; (try simp only [BO] at hg); first | exact q1 _ | exact q3 b3 _ | exact q4 _ | exact f16 _) rfl ?_)
            | (with_reducible refine k_condP (by simp only [GA, Nat.reduceEqDiff, ↓reduceIte]; rfl) (by first | (simp only [BO]; rfl) | rfl) (fun ht => ?_) (fun ht => ?_) <;> try (first | exact False.elim ht | exact absurd rfl ht | exact absurd trivial ht | exact Bool.noConfusion ht))
            | (with_reducible refine k_ret ?_; repeat with_reducible (first | refine ret_thru ?_ | refine ret_blk ?_ | refine fin ?_))
            | (with_reducible refine k_exit ?_; repeat with_reducible (first | refine thru ?_ | refine out_blk ?_ | refine pass (by decide) ?_))
            | (refine post1 ?_; simp only [GA, Nat.reduceEqDiff, ↓reduceIte])
            | (refine post2 ?_; simp only [GA, Nat.reduceEqDiff, ↓reduceIte])
            | (refine post3 ?_; simp only [GA, Nat.reduceEqDiff, ↓reduceIte])
            | (refine postc (by simp only [GA, Nat.reduceEqDiff, ↓reduceIte]; rfl) (by simp (disch := omega) only [b2, b3, e1, e2, c8r0, c8r1, c8r2, c8r3, c8r4, c8r5, c8r6, c8r7, c8r8, c8r9, c8r10, EV0, EV1, EV2, EV3, EV4, EV5, EV6, EV7, plug, ite_same, decide_true, decide_false, eq_self, ↓reduceIte, reduceCtorEq, Nat.reduceAdd, Nat.reduceEqDiff, Nat.reduceLT, Nat.reduceLeDiff, Nat.reduceMul, Nat.reduceSub, Nat.reduceDiv, Int.reduceToNat, Int.reduceAdd, Int.reduceSub, Int.reduceMul, Int.reduceNeg, Int.reduceEq, Int.reduceLT, Int.reduceLE]; rfl) ?_)
            | refine post0 ?_
          all_goals (exfalso; omega)
        | false =>
          repeat' first
            | with_reducible refine k_seq ?_
            | with_reducible refine k_skip ?_
            | with_reducible refine k_blkS ?_
            | with_reducible refine k_reg ?_
            | with_reducible refine r_done ?_
            | with_reducible refine s_go (by simp (disch := omega) only [b2, b3, e1, e2, c8r0, c8r1, c8r2, c8r3, c8r4, c8r5, c8r6, c8r7, c8r8, c8r9, c8r10, EV0, EV1, EV2, EV3, EV4, EV5, EV6, EV7, plug, ite_same, decide_true, decide_false, eq_self, ↓reduceIte, reduceCtorEq, Nat.reduceAdd, Nat.reduceEqDiff, Nat.reduceLT, Nat.reduceLeDiff, Nat.reduceMul, Nat.reduceSub, Nat.reduceDiv, Int.reduceToNat, Int.reduceAdd, Int.reduceSub, Int.reduceMul, Int.reduceNeg, Int.reduceEq, Int.reduceLT, Int.reduceLE]; with_reducible rfl) ?_
            | ((with_reducible refine chk_r ?_); refine r_callF (by simp only [CA, Nat.reduceEqDiff, ↓reduceIte]; rfl) (by exact rfl) (by simp only [CA, Nat.reduceEqDiff, ↓reduceIte]; rfl) rfl ?_)
            | ((with_reducible refine chk_r ?_); refine r_callP (by simp only [CA, Nat.reduceEqDiff, ↓reduceIte]; rfl) (by simp only [CA, Nat.reduceEqDiff, ↓reduceIte]; rfl) (by first | exact q1 _ | exact q4 _ | exact f16 _) rfl ?_)
            | ((with_reducible refine chk_r ?_); refine r_callG (by simp only [CA, Nat.reduceEqDiff, ↓reduceIte]; rfl) (by simp only [CA, Nat.reduceEqDiff, ↓reduceIte]; rfl) (by simp only [CA, Nat.reduceEqDiff, ↓reduceIte]; rfl) (by intro hg; (try simp only [BO] at hg); first | exact q1 _ | exact q4 _ | exact f16 _) rfl ?_)
            | (with_reducible refine k_condP (by simp only [GA, Nat.reduceEqDiff, ↓reduceIte]; rfl) (by first | (simp only [BO]; rfl) | rfl) (fun ht => ?_) (fun ht => ?_) <;> try (first | exact False.elim ht | exact absurd rfl ht | exact absurd trivial ht | exact Bool.noConfusion ht))
            | (with_reducible refine k_ret ?_; repeat with_reducible (first | refine ret_thru ?_ | refine ret_blk ?_ | refine fin ?_))
            | (with_reducible refine k_exit ?_; repeat with_reducible (first | refine thru ?_ | refine out_blk ?_ | refine pass (by decide) ?_))
            | (refine post1 ?_; simp only [GA, Nat.reduceEqDiff, ↓reduceIte])
            | (refine post2 ?_; simp only [GA, Nat.reduceEqDiff, ↓reduceIte])
            | (refine post3 ?_; simp only [GA, Nat.reduceEqDiff, ↓reduceIte])
            | (refine postc (by simp only [GA, Nat.reduceEqDiff, ↓reduceIte]; rfl) (by simp (disch := omega) only [b2, b3, e1, e2, c8r0, c8r1, c8r2, c8r3, c8r4, c8r5, c8r6, c8r7, c8r8, c8r9, c8r10, EV0, EV1, EV2, EV3, EV4, EV5, EV6, EV7, plug, ite_same, decide_true, decide_false, eq_self, ↓reduceIte, reduceCtorEq, Nat.reduceAdd, Nat.reduceEqDiff, Nat.reduceLT, Nat.reduceLeDiff, Nat.reduceMul, Nat.reduceSub, Nat.reduceDiv, Int.reduceToNat, Int.reduceAdd, Int.reduceSub, Int.reduceMul, Int.reduceNeg, Int.reduceEq, Int.reduceLT, Int.reduceLE]; rfl) ?_)
            | refine post0 ?_
          all_goals (exfalso; omega)
end Go.Proofs.Ytappehafkjcabaa
