import Derived.Test.YtappehafkjcabaaSaU
set_option linter.unusedVariables false
set_option linter.unusedSimpArgs false
namespace Go.Proofs.Ytappehafkjcabaa
open Go Go.Am Go.Proofs

def Ress (h : AH) (t a : Nat) (l : List Bool) : Prop := (l = [] ∧ t = 0) ∨ (a = 1 ∧ 0 < t ∧ h.m t = some (.cells true (bl l)))

set_option maxHeartbeats 4000000 in
theorem f50 (a b c d e f st0 : Int) (tf of_ n : Nat) (af : Nat) (bad : Nat → Int) (hn : n ≤ 9223372036854775807) (h : AH) (hb : ∀ j, j < n → h.read tf (of_ + j) none = some (.i .i64 (bad j))) :
    FCalls Try.prog 50 [.ag [.i .i64 a, .i .i64 b, .i .i64 c, .i .i64 d, .i .i64 e, .i .i64 f], .i .i64 st0, .sl tf of_ n af] h (some ([], [.i .i64 (hres a b c d e f st0 bad n).2.1, .i .i64 (hres a b c d e f st0 bad n).1])) (hres a b c d e f st0 bad n).2.2.length 2 (ol (hres a b c d e f st0 bad n).2.2) := by
  refine fresh_call rfl (ol_plain _) fun h0 hr _ => ?_
  have hb' : ∀ j, j < n → h0.read tf (of_ + j) none = some (.i .i64 (bad j)) := fun j hj => by unfold AH.read; rw [hr]; exact hb j hj
  clear hb hr
  refine a_fn fn50 (by simp) fun ok pos => ?_
  rw [initSt3]
  have q1 : ∀ j, j < n → tf < h0.nx := fun j hj => ok.read (hb' j hj)
  have q21 := f22 a b c d e f
  cases hv : sv a b c d e f with
  | false =>
    have er : hres a b c d e f st0 bad n = (50, 0, []) := by unfold hres; rw [if_neg (by simp [hv])]
    rw [er]
    rw [hv] at q21
    repeat' first
      | with_reducible refine k_seq ?_
      | with_reducible refine k_skip ?_
      | with_reducible refine k_blkS ?_
      | with_reducible refine k_reg ?_
      | with_reducible refine r_done ?_
      | with_reducible refine s_go (by simp (disch := omega) only [c50r0, c50r1, c50r2, c50r3, c50r4, c50r5, c50r6, c50r7, c50r8, c50r9, c50r10, c50r11, c50r12, c50r13, c50r14, c50r15, c50r16, c50r17, c50r18, c50r19, c50r20, c50r21, c50r23, EV0, EV1, EV2, EV3, EV4, EV5, EV6, EV7, plug, ite_same, decide_true, decide_false, eq_self, ↓reduceIte, reduceCtorEq, Nat.reduceAdd, Nat.reduceEqDiff, Nat.reduceLT, Nat.reduceLeDiff, Nat.reduceMul, Nat.reduceSub, Nat.reduceDiv, Int.reduceToNat, Int.reduceAdd, Int.reduceSub, Int.reduceMul, Int.reduceNeg, Int.reduceEq, Int.reduceLT, Int.reduceLE]; with_reducible rfl) ?_
      | ((with_reducible refine chk_r ?_); refine r_callF (by simp only [CA, Nat.reduceEqDiff, ↓reduceIte]; rfl) (by exact rfl) (by simp only [CA, Nat.reduceEqDiff, ↓reduceIte]; rfl) rfl ?_)
      | ((with_reducible refine chk_r ?_); refine r_callP (by simp only [CA, Nat.reduceEqDiff, ↓reduceIte]; rfl) (by simp only [CA, Nat.reduceEqDiff, ↓reduceIte]; rfl) (by first | exact q21 _) rfl ?_)
      | (with_reducible refine k_condP (by simp only [GA, Nat.reduceEqDiff, ↓reduceIte]; rfl) (by first | (simp only [BO]; rfl) | rfl) (fun ht => ?_) (fun ht => ?_) <;> try (first | exact False.elim ht | exact absurd rfl ht | exact absurd trivial ht | exact Bool.noConfusion ht))
      | (with_reducible refine k_ret ?_; repeat with_reducible (first | refine ret_thru ?_ | refine ret_blk ?_ | refine fin ?_))
      | (with_reducible refine k_exit ?_; repeat with_reducible (first | refine thru ?_ | refine out_blk ?_ | refine pass (by decide) ?_))
      | (refine post1 ?_; simp only [GA, Nat.reduceEqDiff, ↓reduceIte])
      | (refine post2 ?_; simp only [GA, Nat.reduceEqDiff, ↓reduceIte])
      | (refine post3 ?_; simp only [GA, Nat.reduceEqDiff, ↓reduceIte])
      | (refine postc (by simp only [GA, Nat.reduceEqDiff, ↓reduceIte]; rfl) (by simp (disch := omega) only [c50r0, c50r1, c50r2, c50r3, c50r4, c50r5, c50r6, c50r7, c50r8, c50r9, c50r10, c50r11, c50r12, c50r13, c50r14, c50r15, c50r16, c50r17, c50r18, c50r19, c50r20, c50r21, c50r23, EV0, EV1, EV2, EV3, EV4, EV5, EV6, EV7, plug, ite_same, decide_true, decide_false, eq_self, ↓reduceIte, reduceCtorEq, Nat.reduceAdd, Nat.reduceEqDiff, Nat.reduceLT, Nat.reduceLeDiff, Nat.reduceMul, Nat.reduceSub, Nat.reduceDiv, Int.reduceToNat, Int.reduceAdd, Int.reduceSub, Int.reduceMul, Int.reduceNeg, Int.reduceEq, Int.reduceLT, Int.reduceLE]; rfl) ?_)
      | refine post0 ?_
    exact ⟨.sl 0 0 0 0, rfl, 0, 0, 0, rfl, .inl ⟨rfl, rfl, rfl⟩⟩
  | true =>
    rw [hv] at q21
    by_cases hn2 : (200 : Int) < n
    · have er : hres a b c d e f st0 bad n = (4, 0, []) := by unfold hres; rw [if_pos hv, if_pos (by omega)]
      rw [er]
      repeat' first
        | with_reducible refine k_seq ?_
        | with_reducible refine k_skip ?_
        | with_reducible refine k_blkS ?_
        | with_reducible refine k_reg ?_
        | with_reducible refine r_done ?_
        | with_reducible refine s_go (by simp (disch := omega) only [hn2, c50r0, c50r1, c50r2, c50r3, c50r4, c50r5, c50r6, c50r7, c50r8, c50r9, c50r10, c50r11, c50r12, c50r13, c50r14, c50r15, c50r16, c50r17, c50r18, c50r19, c50r20, c50r21, c50r23, EV0, EV1, EV2, EV3, EV4, EV5, EV6, EV7, plug, ite_same, decide_true, decide_false, eq_self, ↓reduceIte, reduceCtorEq, Nat.reduceAdd, Nat.reduceEqDiff, Nat.reduceLT, Nat.reduceLeDiff, Nat.reduceMul, Nat.reduceSub, Nat.reduceDiv, Int.reduceToNat, Int.reduceAdd, Int.reduceSub, Int.reduceMul, Int.reduceNeg, Int.reduceEq, Int.reduceLT, Int.reduceLE]; with_reducible rfl) ?_
        | ((with_reducible refine chk_r ?_); refine r_callF (by simp only [CA, Nat.reduceEqDiff, ↓reduceIte]; rfl) (by exact rfl) (by simp only [CA, Nat.reduceEqDiff, ↓reduceIte]; rfl) rfl ?_)
        | ((with_reducible refine chk_r ?_); refine r_callP (by simp only [CA, Nat.reduceEqDiff, ↓reduceIte]; rfl) (by simp only [CA, Nat.reduceEqDiff, ↓reduceIte]; rfl) (by first | exact q21 _) rfl ?_)
        | (with_reducible refine k_condP (by simp only [GA, Nat.reduceEqDiff, ↓reduceIte]; rfl) (by first | (simp only [BO]; rfl) | rfl) (fun ht => ?_) (fun ht => ?_) <;> try (first | exact False.elim ht | exact absurd rfl ht | exact absurd trivial ht | exact Bool.noConfusion ht))
        | (with_reducible refine k_ret ?_; repeat with_reducible (first | refine ret_thru ?_ | refine ret_blk ?_ | refine fin ?_))
        | (with_reducible refine k_exit ?_; repeat with_reducible (first | refine thru ?_ | refine out_blk ?_ | refine pass (by decide) ?_))
        | (refine post1 ?_; simp only [GA, Nat.reduceEqDiff, ↓reduceIte])
        | (refine post2 ?_; simp only [GA, Nat.reduceEqDiff, ↓reduceIte])
        | (refine post3 ?_; simp only [GA, Nat.reduceEqDiff, ↓reduceIte])
        | (refine postc (by simp only [GA, Nat.reduceEqDiff, ↓reduceIte]; rfl) (by simp (disch := omega) only [hn2, c50r0, c50r1, c50r2, c50r3, c50r4, c50r5, c50r6, c50r7, c50r8, c50r9, c50r10, c50r11, c50r12, c50r13, c50r14, c50r15, c50r16, c50r17, c50r18, c50r19, c50r20, c50r21, c50r23, EV0, EV1, EV2, EV3, EV4, EV5, EV6, EV7, plug, ite_same, decide_true, decide_false, eq_self, ↓reduceIte, reduceCtorEq, Nat.reduceAdd, Nat.reduceEqDiff, Nat.reduceLT, Nat.reduceLeDiff, Nat.reduceMul, Nat.reduceSub, Nat.reduceDiv, Int.reduceToNat, Int.reduceAdd, Int.reduceSub, Int.reduceMul, Int.reduceNeg, Int.reduceEq, Int.reduceLT, Int.reduceLE]; rfl) ?_)
        | refine post0 ?_
      exact ⟨.sl 0 0 0 0, rfl, 0, 0, 0, rfl, .inl ⟨rfl, rfl, rfl⟩⟩
    have eb : ∀ i : Nat, i < n → ∀ e1 : Int, (hk a b c d e f st0 bad (i + 1)).err = e1 → e1 ≠ 0 → hres a b c d e f st0 bad n = (e1, 0, []) := by
      intro i hi e1 h1 h2
      have h3 := hk_err (a := a) (b := b) (c := c) (d := d) (e := e) (f := f) (st0 := st0) (bad := bad) (k := i + 1) (by rw [h1]; exact h2) (n - (i + 1))
      rw [show i + 1 + (n - (i + 1)) = n by omega] at h3
      unfold hres
      rw [if_pos hv, if_neg (by omega), h3, if_pos (by rw [h1]; exact h2), h1]
    have badEnd : ∀ (H : AH) (e1 : Int), hres a b c d e f st0 bad n = (e1, 0, []) → ∃ s, AV.tu [.sl 0 0 0 0, .i .i64 0, .i .i64 e1] = plug (some ([], [.i .i64 (hres a b c d e f st0 bad n).2.1, .i .i64 (hres a b c d e f st0 bad n).1])) s ∧ IsNew 2 (hres a b c d e f st0 bad n).2.2.length (ol (hres a b c d e f st0 bad n).2.2) s H := by
      intro H e1 he
      rw [he]
      exact ⟨.sl 0 0 0 0, rfl, 0, 0, 0, rfl, .inl ⟨rfl, rfl, rfl⟩⟩
    repeat' first
      | with_reducible refine k_seq ?_
      | with_reducible refine k_skip ?_
      | with_reducible refine k_blkS ?_
      | with_reducible refine k_reg ?_
      | with_reducible refine r_done ?_
      | with_reducible refine s_go (by simp (disch := omega) only [hn2, c50r0, c50r1, c50r2, c50r3, c50r4, c50r5, c50r6, c50r7, c50r8, c50r9, c50r10, c50r11, c50r12, c50r13, c50r14, c50r15, c50r16, c50r17, c50r18, c50r19, c50r20, c50r21, c50r23, EV0, EV1, EV2, EV3, EV4, EV5, EV6, EV7, plug, ite_same, decide_true, decide_false, eq_self, ↓reduceIte, reduceCtorEq, Nat.reduceAdd, Nat.reduceEqDiff, Nat.reduceLT, Nat.reduceLeDiff, Nat.reduceMul, Nat.reduceSub, Nat.reduceDiv, Int.reduceToNat, Int.reduceAdd, Int.reduceSub, Int.reduceMul, Int.reduceNeg, Int.reduceEq, Int.reduceLT, Int.reduceLE]; with_reducible rfl) ?_
      | ((with_reducible refine chk_r ?_); refine r_callF (by simp only [CA, Nat.reduceEqDiff, ↓reduceIte]; rfl) (by exact rfl) (by simp only [CA, Nat.reduceEqDiff, ↓reduceIte]; rfl) rfl ?_)
      | ((with_reducible refine chk_r ?_); refine r_callP (by simp only [CA, Nat.reduceEqDiff, ↓reduceIte]; rfl) (by simp only [CA, Nat.reduceEqDiff, ↓reduceIte]; rfl) (by first | exact q21 _) rfl ?_)
      | (with_reducible refine k_condP (by simp only [GA, Nat.reduceEqDiff, ↓reduceIte]; rfl) (by first | (simp only [BO]; rfl) | rfl) (fun ht => ?_) (fun ht => ?_) <;> try (first | exact False.elim ht | exact absurd rfl ht | exact absurd trivial ht | exact Bool.noConfusion ht))
      | (with_reducible refine k_ret ?_; repeat with_reducible (first | refine ret_thru ?_ | refine ret_blk ?_ | refine fin ?_))
      | (with_reducible refine k_exit ?_; repeat with_reducible (first | refine thru ?_ | refine out_blk ?_ | refine pass (by decide) ?_))
      | (refine post1 ?_; simp only [GA, Nat.reduceEqDiff, ↓reduceIte])
      | (refine post2 ?_; simp only [GA, Nat.reduceEqDiff, ↓reduceIte])
      | (refine post3 ?_; simp only [GA, Nat.reduceEqDiff, ↓reduceIte])
      | (refine postc (by simp only [GA, Nat.reduceEqDiff, ↓reduceIte]; rfl) (by simp (disch := omega) only [hn2, c50r0, c50r1, c50r2, c50r3, c50r4, c50r5, c50r6, c50r7, c50r8, c50r9, c50r10, c50r11, c50r12, c50r13, c50r14, c50r15, c50r16, c50r17, c50r18, c50r19, c50r20, c50r21, c50r23, EV0, EV1, EV2, EV3, EV4, EV5, EV6, EV7, plug, ite_same, decide_true, decide_false, eq_self, ↓reduceIte, reduceCtorEq, Nat.reduceAdd, Nat.reduceEqDiff, Nat.reduceLT, Nat.reduceLeDiff, Nat.reduceMul, Nat.reduceSub, Nat.reduceDiv, Int.reduceToNat, Int.reduceAdd, Int.reduceSub, Int.reduceMul, Int.reduceNeg, Int.reduceEq, Int.reduceLT, Int.reduceLE]; rfl) ?_)
      | refine post0 ?_
    refine k_blk (k_loop (fun m st h => ∃ i to ao tr ar : Nat, ∃ X : Hs, Am.keep [24, 23, 22, 9, 10, 1, 3] st = [(24, .i .i64 i), (23, .i .i64 n), (22, .sl tf of_ n af), (9, .sl to 0 X.o.length ao), (10, .sl tr 0 X.l.length ar), (1, .i .i64 X.st), (3, .p h0.nx 0)] ∧ m = n - i ∧ i ≤ n ∧ hk a b c d e f st0 bad i = X ∧ X.err = 0 ∧
      h.m h0.nx = some (.cells true [.i .i64 a, .i .i64 b, .i .i64 c, .i .i64 d, .i .i64 e, .i .i64 f]) ∧ Outs h to ao X.o ∧ Ress h tr ar X.l ∧ (to = 0 ∨ to ≠ tr) ∧ (tr = 0 ∨ h0.nx < tr) ∧ (to = 0 ∨ h0.nx < to) ∧ (∀ j, j < n → h.read tf (of_ + j) none = some (.i .i64 (bad j)))) n ?_ ?_)
    · refine ⟨0, 0, 0, 0, 0, ⟨0, st0, [], []⟩, rfl, by omega, by omega, rfl, rfl, ?_, .inl ⟨rfl, rfl⟩, .inl ⟨rfl, rfl⟩, .inl rfl, .inl rfl, .inl rfl, fun j hj => ?_⟩
      · simp (disch := omega) only [c50r0, c50r1, c50r2, c50r3, c50r4, c50r5, c50r6, c50r7, c50r8, c50r9, c50r10, c50r11, c50r12, c50r13, c50r14, c50r15, c50r16, c50r17, c50r18, c50r19, c50r20, c50r21, c50r23, EV0, EV1, EV2, EV3, EV4, EV5, EV6, EV7, plug, ite_same, decide_true, decide_false, eq_self, ↓reduceIte, reduceCtorEq, Nat.reduceAdd, Nat.reduceEqDiff, Nat.reduceLT, Nat.reduceLeDiff, Nat.reduceMul, Nat.reduceSub, Nat.reduceDiv, Int.reduceToNat, Int.reduceAdd, Int.reduceSub, Int.reduceMul, Int.reduceNeg, Int.reduceEq, Int.reduceLT, Int.reduceLE]
      · have := q1 j hj
        simp (disch := omega) only [hb', c50r0, c50r1, c50r2, c50r3, c50r4, c50r5, c50r6, c50r7, c50r8, c50r9, c50r10, c50r11, c50r12, c50r13, c50r14, c50r15, c50r16, c50r17, c50r18, c50r19, c50r20, c50r21, c50r23, EV0, EV1, EV2, EV3, EV4, EV5, EV6, EV7, plug, ite_same, decide_true, decide_false, eq_self, ↓reduceIte, reduceCtorEq, Nat.reduceAdd, Nat.reduceEqDiff, Nat.reduceLT, Nat.reduceLeDiff, Nat.reduceMul, Nat.reduceSub, Nat.reduceDiv, Int.reduceToNat, Int.reduceAdd, Int.reduceSub, Int.reduceMul, Int.reduceNeg, Int.reduceEq, Int.reduceLT, Int.reduceLE]
    · rintro m st h ⟨i, to, ao, tr, ar, X, hk', rfl, hi, hX, he, hm, hO, hL, d2, d4, d5, hrd⟩
      refine k_inv hk' (w_ok fun ok pos => ?_)
      have hT := ok.m hm
      have lens := hk_len a b c d e f st0 bad i
      rw [hX] at lens
      by_cases hc : (i : Int) < n
      · have hs : hk a b c d e f st0 bad (i + 1) = hstep a b c d e f X (bad i) := by rw [← hX]; rfl
        by_cases s4 : X.st = 4
        · have he2 : (hk a b c d e f st0 bad (i + 1)).err = 51 := by rw [hs]; simp [hstep, he, s4]
          repeat' first
            | with_reducible refine k_seq ?_
            | with_reducible refine k_skip ?_
            | with_reducible refine k_blkS ?_
            | with_reducible refine k_reg ?_
            | with_reducible refine r_done ?_
            | with_reducible refine s_go (by simp (disch := omega) only [hc, s4, hrd, c50r0, c50r1, c50r2, c50r3, c50r4, c50r5, c50r6, c50r7, c50r8, c50r9, c50r10, c50r11, c50r12, c50r13, c50r14, c50r15, c50r16, c50r17, c50r18, c50r19, c50r20, c50r21, c50r23, EV0, EV1, EV2, EV3, EV4, EV5, EV6, EV7, plug, ite_same, decide_true, decide_false, eq_self, ↓reduceIte, reduceCtorEq, Nat.reduceAdd, Nat.reduceEqDiff, Nat.reduceLT, Nat.reduceLeDiff, Nat.reduceMul, Nat.reduceSub, Nat.reduceDiv, Int.reduceToNat, Int.reduceAdd, Int.reduceSub, Int.reduceMul, Int.reduceNeg, Int.reduceEq, Int.reduceLT, Int.reduceLE]; with_reducible rfl) ?_
            | ((with_reducible refine chk_r ?_); refine r_callF (by simp only [CA, Nat.reduceEqDiff, ↓reduceIte]; rfl) (by exact rfl) (by simp only [CA, Nat.reduceEqDiff, ↓reduceIte]; rfl) rfl ?_)
            | (with_reducible refine k_condP (by simp only [GA, Nat.reduceEqDiff, ↓reduceIte]; rfl) (by first | (simp only [BO]; rfl) | rfl) (fun ht => ?_) (fun ht => ?_) <;> try (first | exact False.elim ht | exact absurd rfl ht | exact absurd trivial ht | exact Bool.noConfusion ht))
            | (with_reducible refine k_ret ?_; repeat with_reducible (first | refine ret_thru ?_ | refine ret_blk ?_ | refine fin ?_))
            | (with_reducible refine k_exit ?_; repeat with_reducible (first | refine thru ?_ | refine out_blk ?_ | refine pass (by decide) ?_))
            | (refine post1 ?_; simp only [GA, Nat.reduceEqDiff, ↓reduceIte])
            | (refine post2 ?_; simp only [GA, Nat.reduceEqDiff, ↓reduceIte])
            | (refine post3 ?_; simp only [GA, Nat.reduceEqDiff, ↓reduceIte])
            | (refine postc (by simp only [GA, Nat.reduceEqDiff, ↓reduceIte]; rfl) (by simp (disch := omega) only [hc, s4, hrd, c50r0, c50r1, c50r2, c50r3, c50r4, c50r5, c50r6, c50r7, c50r8, c50r9, c50r10, c50r11, c50r12, c50r13, c50r14, c50r15, c50r16, c50r17, c50r18, c50r19, c50r20, c50r21, c50r23, EV0, EV1, EV2, EV3, EV4, EV5, EV6, EV7, plug, ite_same, decide_true, decide_false, eq_self, ↓reduceIte, reduceCtorEq, Nat.reduceAdd, Nat.reduceEqDiff, Nat.reduceLT, Nat.reduceLeDiff, Nat.reduceMul, Nat.reduceSub, Nat.reduceDiv, Int.reduceToNat, Int.reduceAdd, Int.reduceSub, Int.reduceMul, Int.reduceNeg, Int.reduceEq, Int.reduceLT, Int.reduceLE]; rfl) ?_)
            | refine post0 ?_
          exact badEnd _ 51 (eb i (by omega) 51 he2 (by omega))
        · obtain ⟨p1, hp1⟩ : ∃ p, (pl6 a b c d e f X.st).1 = p := ⟨_, rfl⟩
          obtain ⟨p2, hp2⟩ : ∃ p, (pl6 a b c d e f X.st).2 = p := ⟨_, rfl⟩
          have q54 := f56 a b c d e f X.st
          rw [hp1, hp2] at q54
          have q17 := f18 p1 p2 (bad i)
          have hs2 : hstep a b c d e f X (bad i) = if (av p1 p2 (bad i)).2 ≠ 0 then { X with err := (av p1 p2 (bad i)).2 } else ⟨0, bh X.st (X.l ++ [(av p1 p2 (bad i)).1]), nl X.st X.l (av p1 p2 (bad i)).1, X.o ++ [(X.st, (av p1 p2 (bad i)).1)]⟩ := by
            unfold hstep
            rw [if_neg (by simp [he]), if_neg s4]
            simp only [hp1, hp2]
          generalize (av p1 p2 (bad i)).1 = okv at q17 hs2
          generalize (av p1 p2 (bad i)).2 = ev at q17 hs2
          have hl1 : (X.o ++ [(X.st, okv)]).length = X.o.length + 1 := by simp
          have hl2 : (X.l ++ [okv]).length = X.l.length + 1 := by simp
          have hso := ol_snoc X.o X.st okv
          have hsl := bl_snoc X.l okv
          have hol := ol_len X.o
          have hbl := bl_len X.l
          have q57 := fun tr a h h2 => f57 X.st tr a (X.l ++ [okv]) (by omega) h h2
          rw [hl2] at q57
          by_cases e0 : ev = 0
          · subst e0
            have hsn : hk a b c d e f st0 bad (i + 1) = ⟨0, bh X.st (X.l ++ [okv]), nl X.st X.l okv, X.o ++ [(X.st, okv)]⟩ := by rw [hs, hs2, if_neg (by simp)]
            generalize hB : bh X.st (X.l ++ [okv]) = B at q57 hsn
            have htf : tf < h0.nx := q1 i (by omega)
            rcases hO with ⟨hOx, rfl⟩ | ⟨rfl, hto, hOx⟩
            · have ho0 : X.o.length = 0 := by rw [hOx]; rfl
              rcases hL with ⟨hLx, rfl⟩ | ⟨rfl, htr, hLx⟩
              · have hx0 : X.l.length = 0 := by rw [hLx]; rfl
                rw [hx0] at q57
                by_cases hbs : B = X.st
                · subst hbs
                  repeat' first
                    | with_reducible refine k_seq ?_
                    | with_reducible refine k_skip ?_
                    | with_reducible refine k_blkS ?_
                    | with_reducible refine k_reg ?_
                    | with_reducible refine r_done ?_
                    | with_reducible refine s_go (by simp (disch := omega) only [hc, s4, hrd, hm, row_m hm, read_row (row_m hm), hol, hbl, ho0, hx0, c50r0, c50r1, c50r2, c50r3, c50r4, c50r5, c50r6, c50r7, c50r8, c50r9, c50r10, c50r11, c50r12, c50r13, c50r14, c50r15, c50r16, c50r17, c50r18, c50r19, c50r20, c50r21, c50r23, EV0, EV1, EV2, EV3, EV4, EV5, EV6, EV7, plug, ite_same, decide_true, decide_false, eq_self, ↓reduceIte, reduceCtorEq, Nat.reduceAdd, Nat.reduceEqDiff, Nat.reduceLT, Nat.reduceLeDiff, Nat.reduceMul, Nat.reduceSub, Nat.reduceDiv, Int.reduceToNat, Int.reduceAdd, Int.reduceSub, Int.reduceMul, Int.reduceNeg, Int.reduceEq, Int.reduceLT, Int.reduceLE]; with_reducible rfl) ?_
                    | ((with_reducible refine chk_r ?_); refine r_callF (by simp only [CA, Nat.reduceEqDiff, ↓reduceIte]; rfl) (by exact rfl) (by simp only [CA, Nat.reduceEqDiff, ↓reduceIte]; rfl) rfl ?_)
                    | ((with_reducible refine chk_r ?_); refine r_callP (by simp only [CA, Nat.reduceEqDiff, ↓reduceIte]; rfl) (by simp only [CA, Nat.reduceEqDiff, ↓reduceIte]; rfl) (by first | exact q54 _ | exact q17 _ | (refine q57 _ _ _ ?_; intro j hj; simp (disch := omega) only [c50r0, c50r1, c50r2, c50r3, c50r4, c50r5, c50r6, c50r7, c50r8, c50r9, c50r10, c50r11, c50r12, c50r13, c50r14, c50r15, c50r16, c50r17, c50r18, c50r19, c50r20, c50r21, c50r23, EV0, EV1, EV2, EV3, EV4, EV5, EV6, EV7, plug, ite_same, decide_true, decide_false, eq_self, ↓reduceIte, reduceCtorEq, Nat.reduceAdd, Nat.reduceEqDiff, Nat.reduceLT, Nat.reduceLeDiff, Nat.reduceMul, Nat.reduceSub, Nat.reduceDiv, Int.reduceToNat, Int.reduceAdd, Int.reduceSub, Int.reduceMul, Int.reduceNeg, Int.reduceEq, Int.reduceLT, Int.reduceLE]; (rw [hLx]; obtain rfl : j = 0 := (by omega); rfl))) rfl ?_)
                    | (with_reducible refine k_condP (by simp only [GA, Nat.reduceEqDiff, ↓reduceIte]; rfl) (by first | (simp only [BO]; rfl) | rfl) (fun ht => ?_) (fun ht => ?_) <;> try (first | exact False.elim ht | exact absurd rfl ht | exact absurd trivial ht | exact Bool.noConfusion ht))
                    | (with_reducible refine k_ret ?_; repeat with_reducible (first | refine ret_thru ?_ | refine ret_blk ?_ | refine fin ?_))
                    | (with_reducible refine k_exit ?_; repeat with_reducible (first | refine thru ?_ | refine out_blk ?_ | refine pass (by decide) ?_))
                    | (refine post1 ?_; simp only [GA, Nat.reduceEqDiff, ↓reduceIte])
                    | (refine post2 ?_; simp only [GA, Nat.reduceEqDiff, ↓reduceIte])
                    | (refine post3 ?_; simp only [GA, Nat.reduceEqDiff, ↓reduceIte])
                    | (refine postc (by simp only [GA, Nat.reduceEqDiff, ↓reduceIte]; rfl) (by simp (disch := omega) only [hc, s4, hrd, hm, row_m hm, read_row (row_m hm), hol, hbl, ho0, hx0, c50r0, c50r1, c50r2, c50r3, c50r4, c50r5, c50r6, c50r7, c50r8, c50r9, c50r10, c50r11, c50r12, c50r13, c50r14, c50r15, c50r16, c50r17, c50r18, c50r19, c50r20, c50r21, c50r23, EV0, EV1, EV2, EV3, EV4, EV5, EV6, EV7, plug, ite_same, decide_true, decide_false, eq_self, ↓reduceIte, reduceCtorEq, Nat.reduceAdd, Nat.reduceEqDiff, Nat.reduceLT, Nat.reduceLeDiff, Nat.reduceMul, Nat.reduceSub, Nat.reduceDiv, Int.reduceToNat, Int.reduceAdd, Int.reduceSub, Int.reduceMul, Int.reduceNeg, Int.reduceEq, Int.reduceLT, Int.reduceLE]; rfl) ?_)
                    | refine post0 ?_
                  have hnl : nl X.st X.l okv = X.l ++ [okv] := by unfold nl; rw [hB]; rw [if_pos rfl]
                  rw [hnl] at hsn
                  refine ⟨_, ?_, i + 1, _, 2, _, 1, ⟨0, X.st, X.l ++ [okv], X.o ++ [(X.st, okv)]⟩, by simp only [hl1, hl2, ho0, hx0]; rfl, rfl, by omega, hsn, rfl, ?_, .inr ⟨rfl, ?_, ?_⟩, .inr ⟨rfl, ?_, ?_⟩, ?_, ?_, ?_, ?_⟩
                  · omega
                  · simp (disch := omega) only [hm, c50r0, c50r1, c50r2, c50r3, c50r4, c50r5, c50r6, c50r7, c50r8, c50r9, c50r10, c50r11, c50r12, c50r13, c50r14, c50r15, c50r16, c50r17, c50r18, c50r19, c50r20, c50r21, c50r23, EV0, EV1, EV2, EV3, EV4, EV5, EV6, EV7, plug, ite_same, decide_true, decide_false, eq_self, ↓reduceIte, reduceCtorEq, Nat.reduceAdd, Nat.reduceEqDiff, Nat.reduceLT, Nat.reduceLeDiff, Nat.reduceMul, Nat.reduceSub, Nat.reduceDiv, Int.reduceToNat, Int.reduceAdd, Int.reduceSub, Int.reduceMul, Int.reduceNeg, Int.reduceEq, Int.reduceLT, Int.reduceLE]
                  · omega
                  · simp (disch := omega) only [c50r0, c50r1, c50r2, c50r3, c50r4, c50r5, c50r6, c50r7, c50r8, c50r9, c50r10, c50r11, c50r12, c50r13, c50r14, c50r15, c50r16, c50r17, c50r18, c50r19, c50r20, c50r21, c50r23, EV0, EV1, EV2, EV3, EV4, EV5, EV6, EV7, plug, ite_same, decide_true, decide_false, eq_self, ↓reduceIte, reduceCtorEq, Nat.reduceAdd, Nat.reduceEqDiff, Nat.reduceLT, Nat.reduceLeDiff, Nat.reduceMul, Nat.reduceSub, Nat.reduceDiv, Int.reduceToNat, Int.reduceAdd, Int.reduceSub, Int.reduceMul, Int.reduceNeg, Int.reduceEq, Int.reduceLT, Int.reduceLE]
                    rw [← hso]
                    rw [hOx]; rfl
                  · omega
                  · simp (disch := omega) only [c50r0, c50r1, c50r2, c50r3, c50r4, c50r5, c50r6, c50r7, c50r8, c50r9, c50r10, c50r11, c50r12, c50r13, c50r14, c50r15, c50r16, c50r17, c50r18, c50r19, c50r20, c50r21, c50r23, EV0, EV1, EV2, EV3, EV4, EV5, EV6, EV7, plug, ite_same, decide_true, decide_false, eq_self, ↓reduceIte, reduceCtorEq, Nat.reduceAdd, Nat.reduceEqDiff, Nat.reduceLT, Nat.reduceLeDiff, Nat.reduceMul, Nat.reduceSub, Nat.reduceDiv, Int.reduceToNat, Int.reduceAdd, Int.reduceSub, Int.reduceMul, Int.reduceNeg, Int.reduceEq, Int.reduceLT, Int.reduceLE]
                    rw [← hsl]
                    rw [hLx]; rfl
                  · omega
                  · omega
                  · omega
                  · intro j hj
                    simp (disch := omega) only [hrd, c50r0, c50r1, c50r2, c50r3, c50r4, c50r5, c50r6, c50r7, c50r8, c50r9, c50r10, c50r11, c50r12, c50r13, c50r14, c50r15, c50r16, c50r17, c50r18, c50r19, c50r20, c50r21, c50r23, EV0, EV1, EV2, EV3, EV4, EV5, EV6, EV7, plug, ite_same, decide_true, decide_false, eq_self, ↓reduceIte, reduceCtorEq, Nat.reduceAdd, Nat.reduceEqDiff, Nat.reduceLT, Nat.reduceLeDiff, Nat.reduceMul, Nat.reduceSub, Nat.reduceDiv, Int.reduceToNat, Int.reduceAdd, Int.reduceSub, Int.reduceMul, Int.reduceNeg, Int.reduceEq, Int.reduceLT, Int.reduceLE]
                · have hbs' := hbs
                  repeat' first
                    | with_reducible refine k_seq ?_
                    | with_reducible refine k_skip ?_
                    | with_reducible refine k_blkS ?_
                    | with_reducible refine k_reg ?_
                    | with_reducible refine r_done ?_
                    | with_reducible refine s_go (by simp (disch := omega) only [hc, s4, hrd, hm, row_m hm, read_row (row_m hm), hol, hbl, ho0, hx0, hbs, c50r0, c50r1, c50r2, c50r3, c50r4, c50r5, c50r6, c50r7, c50r8, c50r9, c50r10, c50r11, c50r12, c50r13, c50r14, c50r15, c50r16, c50r17, c50r18, c50r19, c50r20, c50r21, c50r23, EV0, EV1, EV2, EV3, EV4, EV5, EV6, EV7, plug, ite_same, decide_true, decide_false, eq_self, ↓reduceIte, reduceCtorEq, Nat.reduceAdd, Nat.reduceEqDiff, Nat.reduceLT, Nat.reduceLeDiff, Nat.reduceMul, Nat.reduceSub, Nat.reduceDiv, Int.reduceToNat, Int.reduceAdd, Int.reduceSub, Int.reduceMul, Int.reduceNeg, Int.reduceEq, Int.reduceLT, Int.reduceLE]; with_reducible rfl) ?_
                    | ((with_reducible refine chk_r ?_); refine r_callF (by simp only [CA, Nat.reduceEqDiff, ↓reduceIte]; rfl) (by exact rfl) (by simp only [CA, Nat.reduceEqDiff, ↓reduceIte]; rfl) rfl ?_)
                    | ((with_reducible refine chk_r ?_); refine r_callP (by simp only [CA, Nat.reduceEqDiff, ↓reduceIte]; rfl) (by simp only [CA, Nat.reduceEqDiff, ↓reduceIte]; rfl) (by first | exact q54 _ | exact q17 _ | (refine q57 _ _ _ ?_; intro j hj; simp (disch := omega) only [c50r0, c50r1, c50r2, c50r3, c50r4, c50r5, c50r6, c50r7, c50r8, c50r9, c50r10, c50r11, c50r12, c50r13, c50r14, c50r15, c50r16, c50r17, c50r18, c50r19, c50r20, c50r21, c50r23, EV0, EV1, EV2, EV3, EV4, EV5, EV6, EV7, plug, ite_same, decide_true, decide_false, eq_self, ↓reduceIte, reduceCtorEq, Nat.reduceAdd, Nat.reduceEqDiff, Nat.reduceLT, Nat.reduceLeDiff, Nat.reduceMul, Nat.reduceSub, Nat.reduceDiv, Int.reduceToNat, Int.reduceAdd, Int.reduceSub, Int.reduceMul, Int.reduceNeg, Int.reduceEq, Int.reduceLT, Int.reduceLE]; (rw [hLx]; obtain rfl : j = 0 := (by omega); rfl))) rfl ?_)
                    | (with_reducible refine k_condP (by simp only [GA, Nat.reduceEqDiff, ↓reduceIte]; rfl) (by first | (simp only [BO]; rfl) | rfl) (fun ht => ?_) (fun ht => ?_) <;> try (first | exact False.elim ht | exact absurd rfl ht | exact absurd trivial ht | exact Bool.noConfusion ht))
                    | (with_reducible refine k_ret ?_; repeat with_reducible (first | refine ret_thru ?_ | refine ret_blk ?_ | refine fin ?_))
                    | (with_reducible refine k_exit ?_; repeat with_reducible (first | refine thru ?_ | refine out_blk ?_ | refine pass (by decide) ?_))
                    | (refine post1 ?_; simp only [GA, Nat.reduceEqDiff, ↓reduceIte])
                    | (refine post2 ?_; simp only [GA, Nat.reduceEqDiff, ↓reduceIte])
                    | (refine post3 ?_; simp only [GA, Nat.reduceEqDiff, ↓reduceIte])
                    | (refine postc (by simp only [GA, Nat.reduceEqDiff, ↓reduceIte]; rfl) (by simp (disch := omega) only [hc, s4, hrd, hm, row_m hm, read_row (row_m hm), hol, hbl, ho0, hx0, hbs, c50r0, c50r1, c50r2, c50r3, c50r4, c50r5, c50r6, c50r7, c50r8, c50r9, c50r10, c50r11, c50r12, c50r13, c50r14, c50r15, c50r16, c50r17, c50r18, c50r19, c50r20, c50r21, c50r23, EV0, EV1, EV2, EV3, EV4, EV5, EV6, EV7, plug, ite_same, decide_true, decide_false, eq_self, ↓reduceIte, reduceCtorEq, Nat.reduceAdd, Nat.reduceEqDiff, Nat.reduceLT, Nat.reduceLeDiff, Nat.reduceMul, Nat.reduceSub, Nat.reduceDiv, Int.reduceToNat, Int.reduceAdd, Int.reduceSub, Int.reduceMul, Int.reduceNeg, Int.reduceEq, Int.reduceLT, Int.reduceLE]; rfl) ?_)
                    | refine post0 ?_
                  have hnl : nl X.st X.l okv = [] := by unfold nl; rw [hB]; rw [if_neg hbs]
                  rw [hnl] at hsn
                  refine ⟨_, ?_, i + 1, _, 2, _, 0, ⟨0, B, [], X.o ++ [(X.st, okv)]⟩, by simp only [hl1, hl2, ho0, hx0]; rfl, rfl, by omega, hsn, rfl, ?_, .inr ⟨rfl, ?_, ?_⟩, .inl ⟨rfl, rfl⟩, ?_, ?_, ?_, ?_⟩
                  · omega
                  · simp (disch := omega) only [hm, c50r0, c50r1, c50r2, c50r3, c50r4, c50r5, c50r6, c50r7, c50r8, c50r9, c50r10, c50r11, c50r12, c50r13, c50r14, c50r15, c50r16, c50r17, c50r18, c50r19, c50r20, c50r21, c50r23, EV0, EV1, EV2, EV3, EV4, EV5, EV6, EV7, plug, ite_same, decide_true, decide_false, eq_self, ↓reduceIte, reduceCtorEq, Nat.reduceAdd, Nat.reduceEqDiff, Nat.reduceLT, Nat.reduceLeDiff, Nat.reduceMul, Nat.reduceSub, Nat.reduceDiv, Int.reduceToNat, Int.reduceAdd, Int.reduceSub, Int.reduceMul, Int.reduceNeg, Int.reduceEq, Int.reduceLT, Int.reduceLE]
                  · omega
                  · simp (disch := omega) only [c50r0, c50r1, c50r2, c50r3, c50r4, c50r5, c50r6, c50r7, c50r8, c50r9, c50r10, c50r11, c50r12, c50r13, c50r14, c50r15, c50r16, c50r17, c50r18, c50r19, c50r20, c50r21, c50r23, EV0, EV1, EV2, EV3, EV4, EV5, EV6, EV7, plug, ite_same, decide_true, decide_false, eq_self, ↓reduceIte, reduceCtorEq, Nat.reduceAdd, Nat.reduceEqDiff, Nat.reduceLT, Nat.reduceLeDiff, Nat.reduceMul, Nat.reduceSub, Nat.reduceDiv, Int.reduceToNat, Int.reduceAdd, Int.reduceSub, Int.reduceMul, Int.reduceNeg, Int.reduceEq, Int.reduceLT, Int.reduceLE]
                    rw [← hso]
                    rw [hOx]; rfl
                  · omega
                  · omega
                  · omega
                  · intro j hj
                    simp (disch := omega) only [hrd, c50r0, c50r1, c50r2, c50r3, c50r4, c50r5, c50r6, c50r7, c50r8, c50r9, c50r10, c50r11, c50r12, c50r13, c50r14, c50r15, c50r16, c50r17, c50r18, c50r19, c50r20, c50r21, c50r23, EV0, EV1, EV2, EV3, EV4, EV5, EV6, EV7, plug, ite_same, decide_true, decide_false, eq_self, ↓reduceIte, reduceCtorEq, Nat.reduceAdd, Nat.reduceEqDiff, Nat.reduceLT, Nat.reduceLeDiff, Nat.reduceMul, Nat.reduceSub, Nat.reduceDiv, Int.reduceToNat, Int.reduceAdd, Int.reduceSub, Int.reduceMul, Int.reduceNeg, Int.reduceEq, Int.reduceLT, Int.reduceLE]
              · have htr2 := ok.m hLx
                by_cases hbs : B = X.st
                · subst hbs
                  repeat' first
                    | with_reducible refine k_seq ?_
                    | with_reducible refine k_skip ?_
                    | with_reducible refine k_blkS ?_
                    | with_reducible refine k_reg ?_
                    | with_reducible refine r_done ?_
                    | with_reducible refine s_go (by simp (disch := omega) only [hc, s4, hrd, hm, row_m hm, read_row (row_m hm), hol, hbl, ho0, hLx, c50r0, c50r1, c50r2, c50r3, c50r4, c50r5, c50r6, c50r7, c50r8, c50r9, c50r10, c50r11, c50r12, c50r13, c50r14, c50r15, c50r16, c50r17, c50r18, c50r19, c50r20, c50r21, c50r23, EV0, EV1, EV2, EV3, EV4, EV5, EV6, EV7, plug, ite_same, decide_true, decide_false, eq_self, ↓reduceIte, reduceCtorEq, Nat.reduceAdd, Nat.reduceEqDiff, Nat.reduceLT, Nat.reduceLeDiff, Nat.reduceMul, Nat.reduceSub, Nat.reduceDiv, Int.reduceToNat, Int.reduceAdd, Int.reduceSub, Int.reduceMul, Int.reduceNeg, Int.reduceEq, Int.reduceLT, Int.reduceLE]; with_reducible rfl) ?_
                    | ((with_reducible refine chk_r ?_); refine r_callF (by simp only [CA, Nat.reduceEqDiff, ↓reduceIte]; rfl) (by exact rfl) (by simp only [CA, Nat.reduceEqDiff, ↓reduceIte]; rfl) rfl ?_)
                    | ((with_reducible refine chk_r ?_); refine r_callP (by simp only [CA, Nat.reduceEqDiff, ↓reduceIte]; rfl) (by simp only [CA, Nat.reduceEqDiff, ↓reduceIte]; rfl) (by first | exact q54 _ | exact q17 _ | (refine q57 _ _ _ ?_; intro j hj; simp (disch := omega) only [c50r0, c50r1, c50r2, c50r3, c50r4, c50r5, c50r6, c50r7, c50r8, c50r9, c50r10, c50r11, c50r12, c50r13, c50r14, c50r15, c50r16, c50r17, c50r18, c50r19, c50r20, c50r21, c50r23, EV0, EV1, EV2, EV3, EV4, EV5, EV6, EV7, plug, ite_same, decide_true, decide_false, eq_self, ↓reduceIte, reduceCtorEq, Nat.reduceAdd, Nat.reduceEqDiff, Nat.reduceLT, Nat.reduceLeDiff, Nat.reduceMul, Nat.reduceSub, Nat.reduceDiv, Int.reduceToNat, Int.reduceAdd, Int.reduceSub, Int.reduceMul, Int.reduceNeg, Int.reduceEq, Int.reduceLT, Int.reduceLE]; (rw [hsl]; exact bl_get _ (by omega)))) rfl ?_)
                    | (with_reducible refine k_condP (by simp only [GA, Nat.reduceEqDiff, ↓reduceIte]; rfl) (by first | (simp only [BO]; rfl) | rfl) (fun ht => ?_) (fun ht => ?_) <;> try (first | exact False.elim ht | exact absurd rfl ht | exact absurd trivial ht | exact Bool.noConfusion ht))
                    | (with_reducible refine k_ret ?_; repeat with_reducible (first | refine ret_thru ?_ | refine ret_blk ?_ | refine fin ?_))
                    | (with_reducible refine k_exit ?_; repeat with_reducible (first | refine thru ?_ | refine out_blk ?_ | refine pass (by decide) ?_))
                    | (refine post1 ?_; simp only [GA, Nat.reduceEqDiff, ↓reduceIte])
                    | (refine post2 ?_; simp only [GA, Nat.reduceEqDiff, ↓reduceIte])
                    | (refine post3 ?_; simp only [GA, Nat.reduceEqDiff, ↓reduceIte])
                    | (refine postc (by simp only [GA, Nat.reduceEqDiff, ↓reduceIte]; rfl) (by simp (disch := omega) only [hc, s4, hrd, hm, row_m hm, read_row (row_m hm), hol, hbl, ho0, hLx, c50r0, c50r1, c50r2, c50r3, c50r4, c50r5, c50r6, c50r7, c50r8, c50r9, c50r10, c50r11, c50r12, c50r13, c50r14, c50r15, c50r16, c50r17, c50r18, c50r19, c50r20, c50r21, c50r23, EV0, EV1, EV2, EV3, EV4, EV5, EV6, EV7, plug, ite_same, decide_true, decide_false, eq_self, ↓reduceIte, reduceCtorEq, Nat.reduceAdd, Nat.reduceEqDiff, Nat.reduceLT, Nat.reduceLeDiff, Nat.reduceMul, Nat.reduceSub, Nat.reduceDiv, Int.reduceToNat, Int.reduceAdd, Int.reduceSub, Int.reduceMul, Int.reduceNeg, Int.reduceEq, Int.reduceLT, Int.reduceLE]; rfl) ?_)
                    | refine post0 ?_
                  have hnl : nl X.st X.l okv = X.l ++ [okv] := by unfold nl; rw [hB]; rw [if_pos rfl]
                  rw [hnl] at hsn
                  refine ⟨_, ?_, i + 1, _, 2, _, 1, ⟨0, X.st, X.l ++ [okv], X.o ++ [(X.st, okv)]⟩, by simp only [hl1, hl2, ho0]; rfl, rfl, by omega, hsn, rfl, ?_, .inr ⟨rfl, ?_, ?_⟩, .inr ⟨rfl, ?_, ?_⟩, ?_, ?_, ?_, ?_⟩
                  · omega
                  · simp (disch := omega) only [hm, c50r0, c50r1, c50r2, c50r3, c50r4, c50r5, c50r6, c50r7, c50r8, c50r9, c50r10, c50r11, c50r12, c50r13, c50r14, c50r15, c50r16, c50r17, c50r18, c50r19, c50r20, c50r21, c50r23, EV0, EV1, EV2, EV3, EV4, EV5, EV6, EV7, plug, ite_same, decide_true, decide_false, eq_self, ↓reduceIte, reduceCtorEq, Nat.reduceAdd, Nat.reduceEqDiff, Nat.reduceLT, Nat.reduceLeDiff, Nat.reduceMul, Nat.reduceSub, Nat.reduceDiv, Int.reduceToNat, Int.reduceAdd, Int.reduceSub, Int.reduceMul, Int.reduceNeg, Int.reduceEq, Int.reduceLT, Int.reduceLE]
                  · omega
                  · simp (disch := omega) only [c50r0, c50r1, c50r2, c50r3, c50r4, c50r5, c50r6, c50r7, c50r8, c50r9, c50r10, c50r11, c50r12, c50r13, c50r14, c50r15, c50r16, c50r17, c50r18, c50r19, c50r20, c50r21, c50r23, EV0, EV1, EV2, EV3, EV4, EV5, EV6, EV7, plug, ite_same, decide_true, decide_false, eq_self, ↓reduceIte, reduceCtorEq, Nat.reduceAdd, Nat.reduceEqDiff, Nat.reduceLT, Nat.reduceLeDiff, Nat.reduceMul, Nat.reduceSub, Nat.reduceDiv, Int.reduceToNat, Int.reduceAdd, Int.reduceSub, Int.reduceMul, Int.reduceNeg, Int.reduceEq, Int.reduceLT, Int.reduceLE]
                    rw [← hso]
                    rw [hOx]; rfl
                  · omega
                  · simp (disch := omega) only [c50r0, c50r1, c50r2, c50r3, c50r4, c50r5, c50r6, c50r7, c50r8, c50r9, c50r10, c50r11, c50r12, c50r13, c50r14, c50r15, c50r16, c50r17, c50r18, c50r19, c50r20, c50r21, c50r23, EV0, EV1, EV2, EV3, EV4, EV5, EV6, EV7, plug, ite_same, decide_true, decide_false, eq_self, ↓reduceIte, reduceCtorEq, Nat.reduceAdd, Nat.reduceEqDiff, Nat.reduceLT, Nat.reduceLeDiff, Nat.reduceMul, Nat.reduceSub, Nat.reduceDiv, Int.reduceToNat, Int.reduceAdd, Int.reduceSub, Int.reduceMul, Int.reduceNeg, Int.reduceEq, Int.reduceLT, Int.reduceLE]
                    rw [← hsl]
                  · omega
                  · omega
                  · omega
                  · intro j hj
                    simp (disch := omega) only [hrd, c50r0, c50r1, c50r2, c50r3, c50r4, c50r5, c50r6, c50r7, c50r8, c50r9, c50r10, c50r11, c50r12, c50r13, c50r14, c50r15, c50r16, c50r17, c50r18, c50r19, c50r20, c50r21, c50r23, EV0, EV1, EV2, EV3, EV4, EV5, EV6, EV7, plug, ite_same, decide_true, decide_false, eq_self, ↓reduceIte, reduceCtorEq, Nat.reduceAdd, Nat.reduceEqDiff, Nat.reduceLT, Nat.reduceLeDiff, Nat.reduceMul, Nat.reduceSub, Nat.reduceDiv, Int.reduceToNat, Int.reduceAdd, Int.reduceSub, Int.reduceMul, Int.reduceNeg, Int.reduceEq, Int.reduceLT, Int.reduceLE]
                · have hbs' := hbs
                  repeat' first
                    | with_reducible refine k_seq ?_
                    | with_reducible refine k_skip ?_
                    | with_reducible refine k_blkS ?_
                    | with_reducible refine k_reg ?_
                    | with_reducible refine r_done ?_
                    | with_reducible refine s_go (by simp (disch := omega) only [hc, s4, hrd, hm, row_m hm, read_row (row_m hm), hol, hbl, ho0, hLx, hbs, c50r0, c50r1, c50r2, c50r3, c50r4, c50r5, c50r6, c50r7, c50r8, c50r9, c50r10, c50r11, c50r12, c50r13, c50r14, c50r15, c50r16, c50r17, c50r18, c50r19, c50r20, c50r21, c50r23, EV0, EV1, EV2, EV3, EV4, EV5, EV6, EV7, plug, ite_same, decide_true, decide_false, eq_self, ↓reduceIte, reduceCtorEq, Nat.reduceAdd, Nat.reduceEqDiff, Nat.reduceLT, Nat.reduceLeDiff, Nat.reduceMul, Nat.reduceSub, Nat.reduceDiv, Int.reduceToNat, Int.reduceAdd, Int.reduceSub, Int.reduceMul, Int.reduceNeg, Int.reduceEq, Int.reduceLT, Int.reduceLE]; with_reducible rfl) ?_
                    | ((with_reducible refine chk_r ?_); refine r_callF (by simp only [CA, Nat.reduceEqDiff, ↓reduceIte]; rfl) (by exact rfl) (by simp only [CA, Nat.reduceEqDiff, ↓reduceIte]; rfl) rfl ?_)
                    | ((with_reducible refine chk_r ?_); refine r_callP (by simp only [CA, Nat.reduceEqDiff, ↓reduceIte]; rfl) (by simp only [CA, Nat.reduceEqDiff, ↓reduceIte]; rfl) (by first | exact q54 _ | exact q17 _ | (refine q57 _ _ _ ?_; intro j hj; simp (disch := omega) only [c50r0, c50r1, c50r2, c50r3, c50r4, c50r5, c50r6, c50r7, c50r8, c50r9, c50r10, c50r11, c50r12, c50r13, c50r14, c50r15, c50r16, c50r17, c50r18, c50r19, c50r20, c50r21, c50r23, EV0, EV1, EV2, EV3, EV4, EV5, EV6, EV7, plug, ite_same, decide_true, decide_false, eq_self, ↓reduceIte, reduceCtorEq, Nat.reduceAdd, Nat.reduceEqDiff, Nat.reduceLT, Nat.reduceLeDiff, Nat.reduceMul, Nat.reduceSub, Nat.reduceDiv, Int.reduceToNat, Int.reduceAdd, Int.reduceSub, Int.reduceMul, Int.reduceNeg, Int.reduceEq, Int.reduceLT, Int.reduceLE]; (rw [hsl]; exact bl_get _ (by omega)))) rfl ?_)
                    | (with_reducible refine k_condP (by simp only [GA, Nat.reduceEqDiff, ↓reduceIte]; rfl) (by first | (simp only [BO]; rfl) | rfl) (fun ht => ?_) (fun ht => ?_) <;> try (first | exact False.elim ht | exact absurd rfl ht | exact absurd trivial ht | exact Bool.noConfusion ht))
                    | (with_reducible refine k_ret ?_; repeat with_reducible (first | refine ret_thru ?_ | refine ret_blk ?_ | refine fin ?_))
                    | (with_reducible refine k_exit ?_; repeat with_reducible (first | refine thru ?_ | refine out_blk ?_ | refine pass (by decide) ?_))
                    | (refine post1 ?_; simp only [GA, Nat.reduceEqDiff, ↓reduceIte])
                    | (refine post2 ?_; simp only [GA, Nat.reduceEqDiff, ↓reduceIte])
                    | (refine post3 ?_; simp only [GA, Nat.reduceEqDiff, ↓reduceIte])
                    | (refine postc (by simp only [GA, Nat.reduceEqDiff, ↓reduceIte]; rfl) (by simp (disch := omega) only [hc, s4, hrd, hm, row_m hm, read_row (row_m hm), hol, hbl, ho0, hLx, hbs, c50r0, c50r1, c50r2, c50r3, c50r4, c50r5, c50r6, c50r7, c50r8, c50r9, c50r10, c50r11, c50r12, c50r13, c50r14, c50r15, c50r16, c50r17, c50r18, c50r19, c50r20, c50r21, c50r23, EV0, EV1, EV2, EV3, EV4, EV5, EV6, EV7, plug, ite_same, decide_true, decide_false, eq_self, ↓reduceIte, reduceCtorEq, Nat.reduceAdd, Nat.reduceEqDiff, Nat.reduceLT, Nat.reduceLeDiff, Nat.reduceMul, Nat.reduceSub, Nat.reduceDiv, Int.reduceToNat, Int.reduceAdd, Int.reduceSub, Int.reduceMul, Int.reduceNeg, Int.reduceEq, Int.reduceLT, Int.reduceLE]; rfl) ?_)
                    | refine post0 ?_
                  have hnl : nl X.st X.l okv = [] := by unfold nl; rw [hB]; rw [if_neg hbs]
                  rw [hnl] at hsn
                  refine ⟨_, ?_, i + 1, _, 2, _, 0, ⟨0, B, [], X.o ++ [(X.st, okv)]⟩, by simp only [hl1, hl2, ho0]; rfl, rfl, by omega, hsn, rfl, ?_, .inr ⟨rfl, ?_, ?_⟩, .inl ⟨rfl, rfl⟩, ?_, ?_, ?_, ?_⟩
                  · omega
                  · simp (disch := omega) only [hm, c50r0, c50r1, c50r2, c50r3, c50r4, c50r5, c50r6, c50r7, c50r8, c50r9, c50r10, c50r11, c50r12, c50r13, c50r14, c50r15, c50r16, c50r17, c50r18, c50r19, c50r20, c50r21, c50r23, EV0, EV1, EV2, EV3, EV4, EV5, EV6, EV7, plug, ite_same, decide_true, decide_false, eq_self, ↓reduceIte, reduceCtorEq, Nat.reduceAdd, Nat.reduceEqDiff, Nat.reduceLT, Nat.reduceLeDiff, Nat.reduceMul, Nat.reduceSub, Nat.reduceDiv, Int.reduceToNat, Int.reduceAdd, Int.reduceSub, Int.reduceMul, Int.reduceNeg, Int.reduceEq, Int.reduceLT, Int.reduceLE]
                  · omega
                  · simp (disch := omega) only [c50r0, c50r1, c50r2, c50r3, c50r4, c50r5, c50r6, c50r7, c50r8, c50r9, c50r10, c50r11, c50r12, c50r13, c50r14, c50r15, c50r16, c50r17, c50r18, c50r19, c50r20, c50r21, c50r23, EV0, EV1, EV2, EV3, EV4, EV5, EV6, EV7, plug, ite_same, decide_true, decide_false, eq_self, ↓reduceIte, reduceCtorEq, Nat.reduceAdd, Nat.reduceEqDiff, Nat.reduceLT, Nat.reduceLeDiff, Nat.reduceMul, Nat.reduceSub, Nat.reduceDiv, Int.reduceToNat, Int.reduceAdd, Int.reduceSub, Int.reduceMul, Int.reduceNeg, Int.reduceEq, Int.reduceLT, Int.reduceLE]
                    rw [← hso]
                    rw [hOx]; rfl
                  · omega
                  · omega
                  · omega
                  · intro j hj
                    simp (disch := omega) only [hrd, c50r0, c50r1, c50r2, c50r3, c50r4, c50r5, c50r6, c50r7, c50r8, c50r9, c50r10, c50r11, c50r12, c50r13, c50r14, c50r15, c50r16, c50r17, c50r18, c50r19, c50r20, c50r21, c50r23, EV0, EV1, EV2, EV3, EV4, EV5, EV6, EV7, plug, ite_same, decide_true, decide_false, eq_self, ↓reduceIte, reduceCtorEq, Nat.reduceAdd, Nat.reduceEqDiff, Nat.reduceLT, Nat.reduceLeDiff, Nat.reduceMul, Nat.reduceSub, Nat.reduceDiv, Int.reduceToNat, Int.reduceAdd, Int.reduceSub, Int.reduceMul, Int.reduceNeg, Int.reduceEq, Int.reduceLT, Int.reduceLE]
            · have hto2 := ok.m hOx
              rcases hL with ⟨hLx, rfl⟩ | ⟨rfl, htr, hLx⟩
              · have hx0 : X.l.length = 0 := by rw [hLx]; rfl
                rw [hx0] at q57
                by_cases hbs : B = X.st
                · subst hbs
                  repeat' first
                    | with_reducible refine k_seq ?_
                    | with_reducible refine k_skip ?_
                    | with_reducible refine k_blkS ?_
                    | with_reducible refine k_reg ?_
                    | with_reducible refine r_done ?_
                    | with_reducible refine s_go (by simp (disch := omega) only [hc, s4, hrd, hm, row_m hm, read_row (row_m hm), hol, hbl, hOx, hx0, c50r0, c50r1, c50r2, c50r3, c50r4, c50r5, c50r6, c50r7, c50r8, c50r9, c50r10, c50r11, c50r12, c50r13, c50r14, c50r15, c50r16, c50r17, c50r18, c50r19, c50r20, c50r21, c50r23, EV0, EV1, EV2, EV3, EV4, EV5, EV6, EV7, plug, ite_same, decide_true, decide_false, eq_self, ↓reduceIte, reduceCtorEq, Nat.reduceAdd, Nat.reduceEqDiff, Nat.reduceLT, Nat.reduceLeDiff, Nat.reduceMul, Nat.reduceSub, Nat.reduceDiv, Int.reduceToNat, Int.reduceAdd, Int.reduceSub, Int.reduceMul, Int.reduceNeg, Int.reduceEq, Int.reduceLT, Int.reduceLE]; with_reducible rfl) ?_
                    | ((with_reducible refine chk_r ?_); refine r_callF (by simp only [CA, Nat.reduceEqDiff, ↓reduceIte]; rfl) (by exact rfl) (by simp only [CA, Nat.reduceEqDiff, ↓reduceIte]; rfl) rfl ?_)
                    | ((with_reducible refine chk_r ?_); refine r_callP (by simp only [CA, Nat.reduceEqDiff, ↓reduceIte]; rfl) (by simp only [CA, Nat.reduceEqDiff, ↓reduceIte]; rfl) (by first | exact q54 _ | exact q17 _ | (refine q57 _ _ _ ?_; intro j hj; simp (disch := omega) only [c50r0, c50r1, c50r2, c50r3, c50r4, c50r5, c50r6, c50r7, c50r8, c50r9, c50r10, c50r11, c50r12, c50r13, c50r14, c50r15, c50r16, c50r17, c50r18, c50r19, c50r20, c50r21, c50r23, EV0, EV1, EV2, EV3, EV4, EV5, EV6, EV7, plug, ite_same, decide_true, decide_false, eq_self, ↓reduceIte, reduceCtorEq, Nat.reduceAdd, Nat.reduceEqDiff, Nat.reduceLT, Nat.reduceLeDiff, Nat.reduceMul, Nat.reduceSub, Nat.reduceDiv, Int.reduceToNat, Int.reduceAdd, Int.reduceSub, Int.reduceMul, Int.reduceNeg, Int.reduceEq, Int.reduceLT, Int.reduceLE]; (rw [hLx]; obtain rfl : j = 0 := (by omega); rfl))) rfl ?_)
                    | (with_reducible refine k_condP (by simp only [GA, Nat.reduceEqDiff, ↓reduceIte]; rfl) (by first | (simp only [BO]; rfl) | rfl) (fun ht => ?_) (fun ht => ?_) <;> try (first | exact False.elim ht | exact absurd rfl ht | exact absurd trivial ht | exact Bool.noConfusion ht))
                    | (with_reducible refine k_ret ?_; repeat with_reducible (first | refine ret_thru ?_ | refine ret_blk ?_ | refine fin ?_))
                    | (with_reducible refine k_exit ?_; repeat with_reducible (first | refine thru ?_ | refine out_blk ?_ | refine pass (by decide) ?_))
                    | (refine post1 ?_; simp only [GA, Nat.reduceEqDiff, ↓reduceIte])
                    | (refine post2 ?_; simp only [GA, Nat.reduceEqDiff, ↓reduceIte])
                    | (refine post3 ?_; simp only [GA, Nat.reduceEqDiff, ↓reduceIte])
                    | (refine postc (by simp only [GA, Nat.reduceEqDiff, ↓reduceIte]; rfl) (by simp (disch := omega) only [hc, s4, hrd, hm, row_m hm, read_row (row_m hm), hol, hbl, hOx, hx0, c50r0, c50r1, c50r2, c50r3, c50r4, c50r5, c50r6, c50r7, c50r8, c50r9, c50r10, c50r11, c50r12, c50r13, c50r14, c50r15, c50r16, c50r17, c50r18, c50r19, c50r20, c50r21, c50r23, EV0, EV1, EV2, EV3, EV4, EV5, EV6, EV7, plug, ite_same, decide_true, decide_false, eq_self, ↓reduceIte, reduceCtorEq, Nat.reduceAdd, Nat.reduceEqDiff, Nat.reduceLT, Nat.reduceLeDiff, Nat.reduceMul, Nat.reduceSub, Nat.reduceDiv, Int.reduceToNat, Int.reduceAdd, Int.reduceSub, Int.reduceMul, Int.reduceNeg, Int.reduceEq, Int.reduceLT, Int.reduceLE]; rfl) ?_)
                    | refine post0 ?_
                  have hnl : nl X.st X.l okv = X.l ++ [okv] := by unfold nl; rw [hB]; rw [if_pos rfl]
                  rw [hnl] at hsn
                  refine ⟨_, ?_, i + 1, _, 2, _, 1, ⟨0, X.st, X.l ++ [okv], X.o ++ [(X.st, okv)]⟩, by simp only [hl1, hl2, hx0]; rfl, rfl, by omega, hsn, rfl, ?_, .inr ⟨rfl, ?_, ?_⟩, .inr ⟨rfl, ?_, ?_⟩, ?_, ?_, ?_, ?_⟩
                  · omega
                  · simp (disch := omega) only [hm, c50r0, c50r1, c50r2, c50r3, c50r4, c50r5, c50r6, c50r7, c50r8, c50r9, c50r10, c50r11, c50r12, c50r13, c50r14, c50r15, c50r16, c50r17, c50r18, c50r19, c50r20, c50r21, c50r23, EV0, EV1, EV2, EV3, EV4, EV5, EV6, EV7, plug, ite_same, decide_true, decide_false, eq_self, ↓reduceIte, reduceCtorEq, Nat.reduceAdd, Nat.reduceEqDiff, Nat.reduceLT, Nat.reduceLeDiff, Nat.reduceMul, Nat.reduceSub, Nat.reduceDiv, Int.reduceToNat, Int.reduceAdd, Int.reduceSub, Int.reduceMul, Int.reduceNeg, Int.reduceEq, Int.reduceLT, Int.reduceLE]
                  · omega
                  · simp (disch := omega) only [c50r0, c50r1, c50r2, c50r3, c50r4, c50r5, c50r6, c50r7, c50r8, c50r9, c50r10, c50r11, c50r12, c50r13, c50r14, c50r15, c50r16, c50r17, c50r18, c50r19, c50r20, c50r21, c50r23, EV0, EV1, EV2, EV3, EV4, EV5, EV6, EV7, plug, ite_same, decide_true, decide_false, eq_self, ↓reduceIte, reduceCtorEq, Nat.reduceAdd, Nat.reduceEqDiff, Nat.reduceLT, Nat.reduceLeDiff, Nat.reduceMul, Nat.reduceSub, Nat.reduceDiv, Int.reduceToNat, Int.reduceAdd, Int.reduceSub, Int.reduceMul, Int.reduceNeg, Int.reduceEq, Int.reduceLT, Int.reduceLE]
                    rw [← hso]
                  · omega
                  · simp (disch := omega) only [c50r0, c50r1, c50r2, c50r3, c50r4, c50r5, c50r6, c50r7, c50r8, c50r9, c50r10, c50r11, c50r12, c50r13, c50r14, c50r15, c50r16, c50r17, c50r18, c50r19, c50r20, c50r21, c50r23, EV0, EV1, EV2, EV3, EV4, EV5, EV6, EV7, plug, ite_same, decide_true, decide_false, eq_self, ↓reduceIte, reduceCtorEq, Nat.reduceAdd, Nat.reduceEqDiff, Nat.reduceLT, Nat.reduceLeDiff, Nat.reduceMul, Nat.reduceSub, Nat.reduceDiv, Int.reduceToNat, Int.reduceAdd, Int.reduceSub, Int.reduceMul, Int.reduceNeg, Int.reduceEq, Int.reduceLT, Int.reduceLE]
                    rw [← hsl]
                    rw [hLx]; rfl
                  · omega
                  · omega
                  · omega
                  · intro j hj
                    simp (disch := omega) only [hrd, c50r0, c50r1, c50r2, c50r3, c50r4, c50r5, c50r6, c50r7, c50r8, c50r9, c50r10, c50r11, c50r12, c50r13, c50r14, c50r15, c50r16, c50r17, c50r18, c50r19, c50r20, c50r21, c50r23, EV0, EV1, EV2, EV3, EV4, EV5, EV6, EV7, plug, ite_same, decide_true, decide_false, eq_self, ↓reduceIte, reduceCtorEq, Nat.reduceAdd, Nat.reduceEqDiff, Nat.reduceLT, Nat.reduceLeDiff, Nat.reduceMul, Nat.reduceSub, Nat.reduceDiv, Int.reduceToNat, Int.reduceAdd, Int.reduceSub, Int.reduceMul, Int.reduceNeg, Int.reduceEq, Int.reduceLT, Int.reduceLE]
                · have hbs' := hbs
                  repeat' first
                    | with_reducible refine k_seq ?_
                    | with_reducible refine k_skip ?_
                    | with_reducible refine k_blkS ?_
                    | with_reducible refine k_reg ?_
                    | with_reducible refine r_done ?_
                    | with_reducible refine s_go (by simp (disch := omega) only [hc, s4, hrd, hm, row_m hm, read_row (row_m hm), hol, hbl, hOx, hx0, hbs, c50r0, c50r1, c50r2, c50r3, c50r4, c50r5, c50r6, c50r7, c50r8, c50r9, c50r10, c50r11, c50r12, c50r13, c50r14, c50r15, c50r16, c50r17, c50r18, c50r19, c50r20, c50r21, c50r23, EV0, EV1, EV2, EV3, EV4, EV5, EV6, EV7, plug, ite_same, decide_true, decide_false, eq_self, ↓reduceIte, reduceCtorEq, Nat.reduceAdd, Nat.reduceEqDiff, Nat.reduceLT, Nat.reduceLeDiff, Nat.reduceMul, Nat.reduceSub, Nat.reduceDiv, Int.reduceToNat, Int.reduceAdd, Int.reduceSub, Int.reduceMul, Int.reduceNeg, Int.reduceEq, Int.reduceLT, Int.reduceLE]; with_reducible rfl) ?_
                    | ((with_reducible refine chk_r ?_); refine r_callF (by simp only [CA, Nat.reduceEqDiff, ↓reduceIte]; rfl) (by exact rfl) (by simp only [CA, Nat.reduceEqDiff, ↓reduceIte]; rfl) rfl ?_)
                    | ((with_reducible refine chk_r ?_); refine r_callP (by simp only [CA, Nat.reduceEqDiff, ↓reduceIte]; rfl) (by simp only [CA, Nat.reduceEqDiff, ↓reduceIte]; rfl) (by first | exact q54 _ | exact q17 _ | (refine q57 _ _ _ ?_; intro j hj; simp (disch := omega) only [c50r0, c50r1, c50r2, c50r3, c50r4, c50r5, c50r6, c50r7, c50r8, c50r9, c50r10, c50r11, c50r12, c50r13, c50r14, c50r15, c50r16, c50r17, c50r18, c50r19, c50r20, c50r21, c50r23, EV0, EV1, EV2, EV3, EV4, EV5, EV6, EV7, plug, ite_same, decide_true, decide_false, eq_self, ↓reduceIte, reduceCtorEq, Nat.reduceAdd, Nat.reduceEqDiff, Nat.reduceLT, Nat.reduceLeDiff, Nat.reduceMul, Nat.reduceSub, Nat.reduceDiv, Int.reduceToNat, Int.reduceAdd, Int.reduceSub, Int.reduceMul, Int.reduceNeg, Int.reduceEq, Int.reduceLT, Int.reduceLE]; (rw [hLx]; obtain rfl : j = 0 := (by omega); rfl))) rfl ?_)
                    | (with_reducible refine k_condP (by simp only [GA, Nat.reduceEqDiff, ↓reduceIte]; rfl) (by first | (simp only [BO]; rfl) | rfl) (fun ht => ?_) (fun ht => ?_) <;> try (first | exact False.elim ht | exact absurd rfl ht | exact absurd trivial ht | exact Bool.noConfusion ht))
                    | (with_reducible refine k_ret ?_; repeat with_reducible (first | refine ret_thru ?_ | refine ret_blk ?_ | refine fin ?_))
                    | (with_reducible refine k_exit ?_; repeat with_reducible (first | refine thru ?_ | refine out_blk ?_ | refine pass (by decide) ?_))
                    | (refine post1 ?_; simp only [GA, Nat.reduceEqDiff, ↓reduceIte])
                    | (refine post2 ?_; simp only [GA, Nat.reduceEqDiff, ↓reduceIte])
                    | (refine post3 ?_; simp only [GA, Nat.reduceEqDiff, ↓reduceIte])
                    | (refine postc (by simp only [GA, Nat.reduceEqDiff, ↓reduceIte]; rfl) (by simp (disch := omega) only [hc, s4, hrd, hm, row_m hm, read_row (row_m hm), hol, hbl, hOx, hx0, hbs, c50r0, c50r1, c50r2, c50r3, c50r4, c50r5, c50r6, c50r7, c50r8, c50r9, c50r10, c50r11, c50r12, c50r13, c50r14, c50r15, c50r16, c50r17, c50r18, c50r19, c50r20, c50r21, c50r23, EV0, EV1, EV2, EV3, EV4, EV5, EV6, EV7, plug, ite_same, decide_true, decide_false, eq_self, ↓reduceIte, reduceCtorEq, Nat.reduceAdd, Nat.reduceEqDiff, Nat.reduceLT, Nat.reduceLeDiff, Nat.reduceMul, Nat.reduceSub, Nat.reduceDiv, Int.reduceToNat, Int.reduceAdd, Int.reduceSub, Int.reduceMul, Int.reduceNeg, Int.reduceEq, Int.reduceLT, Int.reduceLE]; rfl) ?_)
                    | refine post0 ?_
                  have hnl : nl X.st X.l okv = [] := by unfold nl; rw [hB]; rw [if_neg hbs]
                  rw [hnl] at hsn
                  refine ⟨_, ?_, i + 1, _, 2, _, 0, ⟨0, B, [], X.o ++ [(X.st, okv)]⟩, by simp only [hl1, hl2, hx0]; rfl, rfl, by omega, hsn, rfl, ?_, .inr ⟨rfl, ?_, ?_⟩, .inl ⟨rfl, rfl⟩, ?_, ?_, ?_, ?_⟩
                  · omega
                  · simp (disch := omega) only [hm, c50r0, c50r1, c50r2, c50r3, c50r4, c50r5, c50r6, c50r7, c50r8, c50r9, c50r10, c50r11, c50r12, c50r13, c50r14, c50r15, c50r16, c50r17, c50r18, c50r19, c50r20, c50r21, c50r23, EV0, EV1, EV2, EV3, EV4, EV5, EV6, EV7, plug, ite_same, decide_true, decide_false, eq_self, ↓reduceIte, reduceCtorEq, Nat.reduceAdd, Nat.reduceEqDiff, Nat.reduceLT, Nat.reduceLeDiff, Nat.reduceMul, Nat.reduceSub, Nat.reduceDiv, Int.reduceToNat, Int.reduceAdd, Int.reduceSub, Int.reduceMul, Int.reduceNeg, Int.reduceEq, Int.reduceLT, Int.reduceLE]
                  · omega
                  · simp (disch := omega) only [c50r0, c50r1, c50r2, c50r3, c50r4, c50r5, c50r6, c50r7, c50r8, c50r9, c50r10, c50r11, c50r12, c50r13, c50r14, c50r15, c50r16, c50r17, c50r18, c50r19, c50r20, c50r21, c50r23, EV0, EV1, EV2, EV3, EV4, EV5, EV6, EV7, plug, ite_same, decide_true, decide_false, eq_self, ↓reduceIte, reduceCtorEq, Nat.reduceAdd, Nat.reduceEqDiff, Nat.reduceLT, Nat.reduceLeDiff, Nat.reduceMul, Nat.reduceSub, Nat.reduceDiv, Int.reduceToNat, Int.reduceAdd, Int.reduceSub, Int.reduceMul, Int.reduceNeg, Int.reduceEq, Int.reduceLT, Int.reduceLE]
                    rw [← hso]
                  · omega
                  · omega
                  · omega
                  · intro j hj
                    simp (disch := omega) only [hrd, c50r0, c50r1, c50r2, c50r3, c50r4, c50r5, c50r6, c50r7, c50r8, c50r9, c50r10, c50r11, c50r12, c50r13, c50r14, c50r15, c50r16, c50r17, c50r18, c50r19, c50r20, c50r21, c50r23, EV0, EV1, EV2, EV3, EV4, EV5, EV6, EV7, plug, ite_same, decide_true, decide_false, eq_self, ↓reduceIte, reduceCtorEq, Nat.reduceAdd, Nat.reduceEqDiff, Nat.reduceLT, Nat.reduceLeDiff, Nat.reduceMul, Nat.reduceSub, Nat.reduceDiv, Int.reduceToNat, Int.reduceAdd, Int.reduceSub, Int.reduceMul, Int.reduceNeg, Int.reduceEq, Int.reduceLT, Int.reduceLE]
              · have htr2 := ok.m hLx
                by_cases hbs : B = X.st
                · subst hbs
                  repeat' first
                    | with_reducible refine k_seq ?_
                    | with_reducible refine k_skip ?_
                    | with_reducible refine k_blkS ?_
                    | with_reducible refine k_reg ?_
                    | with_reducible refine r_done ?_
                    | with_reducible refine s_go (by simp (disch := omega) only [hc, s4, hrd, hm, row_m hm, read_row (row_m hm), hol, hbl, hOx, hLx, c50r0, c50r1, c50r2, c50r3, c50r4, c50r5, c50r6, c50r7, c50r8, c50r9, c50r10, c50r11, c50r12, c50r13, c50r14, c50r15, c50r16, c50r17, c50r18, c50r19, c50r20, c50r21, c50r23, EV0, EV1, EV2, EV3, EV4, EV5, EV6, EV7, plug, ite_same, decide_true, decide_false, eq_self, ↓reduceIte, reduceCtorEq, Nat.reduceAdd, Nat.reduceEqDiff, Nat.reduceLT, Nat.reduceLeDiff, Nat.reduceMul, Nat.reduceSub, Nat.reduceDiv, Int.reduceToNat, Int.reduceAdd, Int.reduceSub, Int.reduceMul, Int.reduceNeg, Int.reduceEq, Int.reduceLT, Int.reduceLE]; with_reducible rfl) ?_
                    | ((with_reducible refine chk_r ?_); refine r_callF (by simp only [CA, Nat.reduceEqDiff, ↓reduceIte]; rfl) (by exact rfl) (by simp only [CA, Nat.reduceEqDiff, ↓reduceIte]; rfl) rfl ?_)
                    | ((with_reducible refine chk_r ?_); refine r_callP (by simp only [CA, Nat.reduceEqDiff, ↓reduceIte]; rfl) (by simp only [CA, Nat.reduceEqDiff, ↓reduceIte]; rfl) (by first | exact q54 _ | exact q17 _ | (refine q57 _ _ _ ?_; intro j hj; simp (disch := omega) only [c50r0, c50r1, c50r2, c50r3, c50r4, c50r5, c50r6, c50r7, c50r8, c50r9, c50r10, c50r11, c50r12, c50r13, c50r14, c50r15, c50r16, c50r17, c50r18, c50r19, c50r20, c50r21, c50r23, EV0, EV1, EV2, EV3, EV4, EV5, EV6, EV7, plug, ite_same, decide_true, decide_false, eq_self, ↓reduceIte, reduceCtorEq, Nat.reduceAdd, Nat.reduceEqDiff, Nat.reduceLT, Nat.reduceLeDiff, Nat.reduceMul, Nat.reduceSub, Nat.reduceDiv, Int.reduceToNat, Int.reduceAdd, Int.reduceSub, Int.reduceMul, Int.reduceNeg, Int.reduceEq, Int.reduceLT, Int.reduceLE]; (rw [hsl]; exact bl_get _ (by omega)))) rfl ?_)
                    | (with_reducible refine k_condP (by simp only [GA, Nat.reduceEqDiff, ↓reduceIte]; rfl) (by first | (simp only [BO]; rfl) | rfl) (fun ht => ?_) (fun ht => ?_) <;> try (first | exact False.elim ht | exact absurd rfl ht | exact absurd trivial ht | exact Bool.noConfusion ht))
                    | (with_reducible refine k_ret ?_; repeat with_reducible (first | refine ret_thru ?_ | refine ret_blk ?_ | refine fin ?_))
                    | (with_reducible refine k_exit ?_; repeat with_reducible (first | refine thru ?_ | refine out_blk ?_ | refine pass (by decide) ?_))
                    | (refine post1 ?_; simp only [GA, Nat.reduceEqDiff, ↓reduceIte])
                    | (refine post2 ?_; simp only [GA, Nat.reduceEqDiff, ↓reduceIte])
                    | (refine post3 ?_; simp only [GA, Nat.reduceEqDiff, ↓reduceIte])
                    | (refine postc (by simp only [GA, Nat.reduceEqDiff, ↓reduceIte]; rfl) (by simp (disch := omega) only [hc, s4, hrd, hm, row_m hm, read_row (row_m hm), hol, hbl, hOx, hLx, c50r0, c50r1, c50r2, c50r3, c50r4, c50r5, c50r6, c50r7, c50r8, c50r9, c50r10, c50r11, c50r12, c50r13, c50r14, c50r15, c50r16, c50r17, c50r18, c50r19, c50r20, c50r21, c50r23, EV0, EV1, EV2, EV3, EV4, EV5, EV6, EV7, plug, ite_same, decide_true, decide_false, eq_self, ↓reduceIte, reduceCtorEq, Nat.reduceAdd, Nat.reduceEqDiff, Nat.reduceLT, Nat.reduceLeDiff, Nat.reduceMul, Nat.reduceSub, Nat.reduceDiv, Int.reduceToNat, Int.reduceAdd, Int.reduceSub, Int.reduceMul, Int.reduceNeg, Int.reduceEq, Int.reduceLT, Int.reduceLE]; rfl) ?_)
                    | refine post0 ?_
                  have hnl : nl X.st X.l okv = X.l ++ [okv] := by unfold nl; rw [hB]; rw [if_pos rfl]
                  rw [hnl] at hsn
                  refine ⟨_, ?_, i + 1, _, 2, _, 1, ⟨0, X.st, X.l ++ [okv], X.o ++ [(X.st, okv)]⟩, by simp only [hl1, hl2]; rfl, rfl, by omega, hsn, rfl, ?_, .inr ⟨rfl, ?_, ?_⟩, .inr ⟨rfl, ?_, ?_⟩, ?_, ?_, ?_, ?_⟩
                  · omega
                  · simp (disch := omega) only [hm, c50r0, c50r1, c50r2, c50r3, c50r4, c50r5, c50r6, c50r7, c50r8, c50r9, c50r10, c50r11, c50r12, c50r13, c50r14, c50r15, c50r16, c50r17, c50r18, c50r19, c50r20, c50r21, c50r23, EV0, EV1, EV2, EV3, EV4, EV5, EV6, EV7, plug, ite_same, decide_true, decide_false, eq_self, ↓reduceIte, reduceCtorEq, Nat.reduceAdd, Nat.reduceEqDiff, Nat.reduceLT, Nat.reduceLeDiff, Nat.reduceMul, Nat.reduceSub, Nat.reduceDiv, Int.reduceToNat, Int.reduceAdd, Int.reduceSub, Int.reduceMul, Int.reduceNeg, Int.reduceEq, Int.reduceLT, Int.reduceLE]
                  · omega
                  · simp (disch := omega) only [c50r0, c50r1, c50r2, c50r3, c50r4, c50r5, c50r6, c50r7, c50r8, c50r9, c50r10, c50r11, c50r12, c50r13, c50r14, c50r15, c50r16, c50r17, c50r18, c50r19, c50r20, c50r21, c50r23, EV0, EV1, EV2, EV3, EV4, EV5, EV6, EV7, plug, ite_same, decide_true, decide_false, eq_self, ↓reduceIte, reduceCtorEq, Nat.reduceAdd, Nat.reduceEqDiff, Nat.reduceLT, Nat.reduceLeDiff, Nat.reduceMul, Nat.reduceSub, Nat.reduceDiv, Int.reduceToNat, Int.reduceAdd, Int.reduceSub, Int.reduceMul, Int.reduceNeg, Int.reduceEq, Int.reduceLT, Int.reduceLE]
                    rw [← hso]
                  · omega
                  · simp (disch := omega) only [c50r0, c50r1, c50r2, c50r3, c50r4, c50r5, c50r6, c50r7, c50r8, c50r9, c50r10, c50r11, c50r12, c50r13, c50r14, c50r15, c50r16, c50r17, c50r18, c50r19, c50r20, c50r21, c50r23, EV0, EV1, EV2, EV3, EV4, EV5, EV6, EV7, plug, ite_same, decide_true, decide_false, eq_self, ↓reduceIte, reduceCtorEq, Nat.reduceAdd, Nat.reduceEqDiff, Nat.reduceLT, Nat.reduceLeDiff, Nat.reduceMul, Nat.reduceSub, Nat.reduceDiv, Int.reduceToNat, Int.reduceAdd, Int.reduceSub, Int.reduceMul, Int.reduceNeg, Int.reduceEq, Int.reduceLT, Int.reduceLE]
                    rw [← hsl]
                  · omega
                  · omega
                  · omega
                  · intro j hj
                    simp (disch := omega) only [hrd, c50r0, c50r1, c50r2, c50r3, c50r4, c50r5, c50r6, c50r7, c50r8, c50r9, c50r10, c50r11, c50r12, c50r13, c50r14, c50r15, c50r16, c50r17, c50r18, c50r19, c50r20, c50r21, c50r23, EV0, EV1, EV2, EV3, EV4, EV5, EV6, EV7, plug, ite_same, decide_true, decide_false, eq_self, ↓reduceIte, reduceCtorEq, Nat.reduceAdd, Nat.reduceEqDiff, Nat.reduceLT, Nat.reduceLeDiff, Nat.reduceMul, Nat.reduceSub, Nat.reduceDiv, Int.reduceToNat, Int.reduceAdd, Int.reduceSub, Int.reduceMul, Int.reduceNeg, Int.reduceEq, Int.reduceLT, Int.reduceLE]
                · have hbs' := hbs
                  repeat' first
                    | with_reducible refine k_seq ?_
                    | with_reducible refine k_skip ?_
                    | with_reducible refine k_blkS ?_
                    | with_reducible refine k_reg ?_
                    | with_reducible refine r_done ?_
                    | with_reducible refine s_go (by simp (disch := omega) only [hc, s4, hrd, hm, row_m hm, read_row (row_m hm), hol, hbl, hOx, hLx, hbs, c50r0, c50r1, c50r2, c50r3, c50r4, c50r5, c50r6, c50r7, c50r8, c50r9, c50r10, c50r11, c50r12, c50r13, c50r14, c50r15, c50r16, c50r17, c50r18, c50r19, c50r20, c50r21, c50r23, EV0, EV1, EV2, EV3, EV4, EV5, EV6, EV7, plug, ite_same, decide_true, decide_false, eq_self, ↓reduceIte, reduceCtorEq, Nat.reduceAdd, Nat.reduceEqDiff, Nat.reduceLT, Nat.reduceLeDiff, Nat.reduceMul, Nat.reduceSub, Nat.reduceDiv, Int.reduceToNat, Int.reduceAdd, Int.reduceSub, Int.reduceMul, Int.reduceNeg, Int.reduceEq, Int.reduceLT, Int.reduceLE]; with_reducible rfl) ?_
                    | ((with_reducible refine chk_r ?_); refine r_callF (by simp only [CA, Nat.reduceEqDiff, ↓reduceIte]; rfl) (by exact rfl) (by simp only [CA, Nat.reduceEqDiff, ↓reduceIte]; rfl) rfl ?_)
                    | ((with_reducible refine chk_r ?_); refine r_callP (by simp only [CA, Nat.reduceEqDiff, ↓reduceIte]; rfl) (by simp only [CA, Nat.reduceEqDiff, ↓reduceIte]; rfl) (by first | exact q54 _ | exact q17 _ | (refine q57 _ _ _ ?_; intro j hj; simp (disch := omega) only [c50r0, c50r1, c50r2, c50r3, c50r4, c50r5, c50r6, c50r7, c50r8, c50r9, c50r10, c50r11, c50r12, c50r13, c50r14, c50r15, c50r16, c50r17, c50r18, c50r19, c50r20, c50r21, c50r23, EV0, EV1, EV2, EV3, EV4, EV5, EV6, EV7, plug, ite_same, decide_true, decide_false, eq_self, ↓reduceIte, reduceCtorEq, Nat.reduceAdd, Nat.reduceEqDiff, Nat.reduceLT, Nat.reduceLeDiff, Nat.reduceMul, Nat.reduceSub, Nat.reduceDiv, Int.reduceToNat, Int.reduceAdd, Int.reduceSub, Int.reduceMul, Int.reduceNeg, Int.reduceEq, Int.reduceLT, Int.reduceLE]; (rw [hsl]; exact bl_get _ (by omega)))) rfl ?_)
                    | (with_reducible refine k_condP (by simp only [GA, Nat.reduceEqDiff, ↓reduceIte]; rfl) (by first | (simp only [BO]; rfl) | rfl) (fun ht => ?_) (fun ht => ?_) <;> try (first | exact False.elim ht | exact absurd rfl ht | exact absurd trivial ht | exact Bool.noConfusion ht))
                    | (with_reducible refine k_ret ?_; repeat with_reducible (first | refine ret_thru ?_ | refine ret_blk ?_ | refine fin ?_))
                    | (with_reducible refine k_exit ?_; repeat with_reducible (first | refine thru ?_ | refine out_blk ?_ | refine pass (by decide) ?_))
                    | (refine post1 ?_; simp only [GA, Nat.reduceEqDiff, ↓reduceIte])
                    | (refine post2 ?_; simp only [GA, Nat.reduceEqDiff, ↓reduceIte])
                    | (refine post3 ?_; simp only [GA, Nat.reduceEqDiff, ↓reduceIte])
                    | (refine postc (by simp only [GA, Nat.reduceEqDiff, ↓reduceIte]; rfl) (by simp (disch := omega) only [hc, s4, hrd, hm, row_m hm, read_row (row_m hm), hol, hbl, hOx, hLx, hbs, c50r0, c50r1, c50r2, c50r3, c50r4, c50r5, c50r6, c50r7, c50r8, c50r9, c50r10, c50r11, c50r12, c50r13, c50r14, c50r15, c50r16, c50r17, c50r18, c50r19, c50r20, c50r21, c50r23, EV0, EV1, EV2, EV3, EV4, EV5, EV6, EV7, plug, ite_same, decide_true, decide_false, eq_self, ↓reduceIte, reduceCtorEq, Nat.reduceAdd, Nat.reduceEqDiff, Nat.reduceLT, Nat.reduceLeDiff, Nat.reduceMul, Nat.reduceSub, Nat.reduceDiv, Int.reduceToNat, Int.reduceAdd, Int.reduceSub, Int.reduceMul, Int.reduceNeg, Int.reduceEq, Int.reduceLT, Int.reduceLE]; rfl) ?_)
                    | refine post0 ?_
                  have hnl : nl X.st X.l okv = [] := by unfold nl; rw [hB]; rw [if_neg hbs]
                  rw [hnl] at hsn
                  refine ⟨_, ?_, i + 1, _, 2, _, 0, ⟨0, B, [], X.o ++ [(X.st, okv)]⟩, by simp only [hl1, hl2]; rfl, rfl, by omega, hsn, rfl, ?_, .inr ⟨rfl, ?_, ?_⟩, .inl ⟨rfl, rfl⟩, ?_, ?_, ?_, ?_⟩
                  · omega
                  · simp (disch := omega) only [hm, c50r0, c50r1, c50r2, c50r3, c50r4, c50r5, c50r6, c50r7, c50r8, c50r9, c50r10, c50r11, c50r12, c50r13, c50r14, c50r15, c50r16, c50r17, c50r18, c50r19, c50r20, c50r21, c50r23, EV0, EV1, EV2, EV3, EV4, EV5, EV6, EV7, plug, ite_same, decide_true, decide_false, eq_self, ↓reduceIte, reduceCtorEq, Nat.reduceAdd, Nat.reduceEqDiff, Nat.reduceLT, Nat.reduceLeDiff, Nat.reduceMul, Nat.reduceSub, Nat.reduceDiv, Int.reduceToNat, Int.reduceAdd, Int.reduceSub, Int.reduceMul, Int.reduceNeg, Int.reduceEq, Int.reduceLT, Int.reduceLE]
                  · omega
                  · simp (disch := omega) only [c50r0, c50r1, c50r2, c50r3, c50r4, c50r5, c50r6, c50r7, c50r8, c50r9, c50r10, c50r11, c50r12, c50r13, c50r14, c50r15, c50r16, c50r17, c50r18, c50r19, c50r20, c50r21, c50r23, EV0, EV1, EV2, EV3, EV4, EV5, EV6, EV7, plug, ite_same, decide_true, decide_false, eq_self, ↓reduceIte, reduceCtorEq, Nat.reduceAdd, Nat.reduceEqDiff, Nat.reduceLT, Nat.reduceLeDiff, Nat.reduceMul, Nat.reduceSub, Nat.reduceDiv, Int.reduceToNat, Int.reduceAdd, Int.reduceSub, Int.reduceMul, Int.reduceNeg, Int.reduceEq, Int.reduceLT, Int.reduceLE]
                    rw [← hso]
                  · omega
                  · omega
                  · omega
                  · intro j hj
                    simp (disch := omega) only [hrd, c50r0, c50r1, c50r2, c50r3, c50r4, c50r5, c50r6, c50r7, c50r8, c50r9, c50r10, c50r11, c50r12, c50r13, c50r14, c50r15, c50r16, c50r17, c50r18, c50r19, c50r20, c50r21, c50r23, EV0, EV1, EV2, EV3, EV4, EV5, EV6, EV7, plug, ite_same, decide_true, decide_false, eq_self, ↓reduceIte, reduceCtorEq, Nat.reduceAdd, Nat.reduceEqDiff, Nat.reduceLT, Nat.reduceLeDiff, Nat.reduceMul, Nat.reduceSub, Nat.reduceDiv, Int.reduceToNat, Int.reduceAdd, Int.reduceSub, Int.reduceMul, Int.reduceNeg, Int.reduceEq, Int.reduceLT, Int.reduceLE]
          · have he2 : (hk a b c d e f st0 bad (i + 1)).err = ev := by rw [hs, hs2, if_pos e0]
            repeat' first
              | with_reducible refine k_seq ?_
              | with_reducible refine k_skip ?_
              | with_reducible refine k_blkS ?_
              | with_reducible refine k_reg ?_
              | with_reducible refine r_done ?_
              | with_reducible refine s_go (by simp (disch := omega) only [hc, s4, e0, hrd, read_row (row_m hm), c50r0, c50r1, c50r2, c50r3, c50r4, c50r5, c50r6, c50r7, c50r8, c50r9, c50r10, c50r11, c50r12, c50r13, c50r14, c50r15, c50r16, c50r17, c50r18, c50r19, c50r20, c50r21, c50r23, EV0, EV1, EV2, EV3, EV4, EV5, EV6, EV7, plug, ite_same, decide_true, decide_false, eq_self, ↓reduceIte, reduceCtorEq, Nat.reduceAdd, Nat.reduceEqDiff, Nat.reduceLT, Nat.reduceLeDiff, Nat.reduceMul, Nat.reduceSub, Nat.reduceDiv, Int.reduceToNat, Int.reduceAdd, Int.reduceSub, Int.reduceMul, Int.reduceNeg, Int.reduceEq, Int.reduceLT, Int.reduceLE]; with_reducible rfl) ?_
              | ((with_reducible refine chk_r ?_); refine r_callF (by simp only [CA, Nat.reduceEqDiff, ↓reduceIte]; rfl) (by exact rfl) (by simp only [CA, Nat.reduceEqDiff, ↓reduceIte]; rfl) rfl ?_)
              | ((with_reducible refine chk_r ?_); refine r_callP (by simp only [CA, Nat.reduceEqDiff, ↓reduceIte]; rfl) (by simp only [CA, Nat.reduceEqDiff, ↓reduceIte]; rfl) (by first | exact q54 _ | exact q17 _) rfl ?_)
              | (with_reducible refine k_condP (by simp only [GA, Nat.reduceEqDiff, ↓reduceIte]; rfl) (by first | (simp only [BO]; rfl) | rfl) (fun ht => ?_) (fun ht => ?_) <;> try (first | exact False.elim ht | exact absurd rfl ht | exact absurd trivial ht | exact Bool.noConfusion ht))
              | (with_reducible refine k_ret ?_; repeat with_reducible (first | refine ret_thru ?_ | refine ret_blk ?_ | refine fin ?_))
              | (with_reducible refine k_exit ?_; repeat with_reducible (first | refine thru ?_ | refine out_blk ?_ | refine pass (by decide) ?_))
              | (refine post1 ?_; simp only [GA, Nat.reduceEqDiff, ↓reduceIte])
              | (refine post2 ?_; simp only [GA, Nat.reduceEqDiff, ↓reduceIte])
              | (refine post3 ?_; simp only [GA, Nat.reduceEqDiff, ↓reduceIte])
              | (refine postc (by simp only [GA, Nat.reduceEqDiff, ↓reduceIte]; rfl) (by simp (disch := omega) only [hc, s4, e0, hrd, read_row (row_m hm), c50r0, c50r1, c50r2, c50r3, c50r4, c50r5, c50r6, c50r7, c50r8, c50r9, c50r10, c50r11, c50r12, c50r13, c50r14, c50r15, c50r16, c50r17, c50r18, c50r19, c50r20, c50r21, c50r23, EV0, EV1, EV2, EV3, EV4, EV5, EV6, EV7, plug, ite_same, decide_true, decide_false, eq_self, ↓reduceIte, reduceCtorEq, Nat.reduceAdd, Nat.reduceEqDiff, Nat.reduceLT, Nat.reduceLeDiff, Nat.reduceMul, Nat.reduceSub, Nat.reduceDiv, Int.reduceToNat, Int.reduceAdd, Int.reduceSub, Int.reduceMul, Int.reduceNeg, Int.reduceEq, Int.reduceLT, Int.reduceLE]; rfl) ?_)
              | refine post0 ?_
            exact badEnd _ ev (eb i (by omega) ev he2 e0)
      · repeat' first
          | with_reducible refine k_seq ?_
          | with_reducible refine k_skip ?_
          | with_reducible refine k_blkS ?_
          | with_reducible refine k_reg ?_
          | with_reducible refine r_done ?_
          | with_reducible refine s_go (by simp (disch := omega) only [hc, c50r0, c50r1, c50r2, c50r3, c50r4, c50r5, c50r6, c50r7, c50r8, c50r9, c50r10, c50r11, c50r12, c50r13, c50r14, c50r15, c50r16, c50r17, c50r18, c50r19, c50r20, c50r21, c50r23, EV0, EV1, EV2, EV3, EV4, EV5, EV6, EV7, plug, ite_same, decide_true, decide_false, eq_self, ↓reduceIte, reduceCtorEq, Nat.reduceAdd, Nat.reduceEqDiff, Nat.reduceLT, Nat.reduceLeDiff, Nat.reduceMul, Nat.reduceSub, Nat.reduceDiv, Int.reduceToNat, Int.reduceAdd, Int.reduceSub, Int.reduceMul, Int.reduceNeg, Int.reduceEq, Int.reduceLT, Int.reduceLE]; with_reducible rfl) ?_
          | ((with_reducible refine chk_r ?_); refine r_callF (by simp only [CA, Nat.reduceEqDiff, ↓reduceIte]; rfl) (by exact rfl) (by simp only [CA, Nat.reduceEqDiff, ↓reduceIte]; rfl) rfl ?_)
          | (with_reducible refine k_condP (by simp only [GA, Nat.reduceEqDiff, ↓reduceIte]; rfl) (by first | (simp only [BO]; rfl) | rfl) (fun ht => ?_) (fun ht => ?_) <;> try (first | exact False.elim ht | exact absurd rfl ht | exact absurd trivial ht | exact Bool.noConfusion ht))
          | (with_reducible refine k_ret ?_; repeat with_reducible (first | refine ret_thru ?_ | refine ret_blk ?_ | refine fin ?_))
          | (with_reducible refine k_exit ?_; repeat with_reducible (first | refine thru ?_ | refine out_blk ?_ | refine pass (by decide) ?_))
          | (refine post1 ?_; simp only [GA, Nat.reduceEqDiff, ↓reduceIte])
          | (refine post2 ?_; simp only [GA, Nat.reduceEqDiff, ↓reduceIte])
          | (refine post3 ?_; simp only [GA, Nat.reduceEqDiff, ↓reduceIte])
          | (refine postc (by simp only [GA, Nat.reduceEqDiff, ↓reduceIte]; rfl) (by simp (disch := omega) only [hc, c50r0, c50r1, c50r2, c50r3, c50r4, c50r5, c50r6, c50r7, c50r8, c50r9, c50r10, c50r11, c50r12, c50r13, c50r14, c50r15, c50r16, c50r17, c50r18, c50r19, c50r20, c50r21, c50r23, EV0, EV1, EV2, EV3, EV4, EV5, EV6, EV7, plug, ite_same, decide_true, decide_false, eq_self, ↓reduceIte, reduceCtorEq, Nat.reduceAdd, Nat.reduceEqDiff, Nat.reduceLT, Nat.reduceLeDiff, Nat.reduceMul, Nat.reduceSub, Nat.reduceDiv, Int.reduceToNat, Int.reduceAdd, Int.reduceSub, Int.reduceMul, Int.reduceNeg, Int.reduceEq, Int.reduceLT, Int.reduceLE]; rfl) ?_)
          | refine post0 ?_
        obtain rfl : i = n := by omega
        have er : hres a b c d e f st0 bad i = (0, X.st, X.o) := by unfold hres; rw [if_pos hv, if_neg (by omega), hX, if_neg (by simp [he])]
        rw [er]
        refine ⟨.sl to 0 X.o.length ao, rfl, to, 0, ao, rfl, ?_⟩
        rcases hO with ⟨hO, rfl⟩ | ⟨rfl, hto, hOm⟩
        · exact .inl ⟨rfl, by rw [hO]; rfl, by rw [hO]; rfl⟩
        · refine .inr ⟨ol X.o, rfl, hOm, by rw [ol_len]; exact Nat.le_of_eq (Nat.zero_add _), ?_⟩
          rw [List.drop_zero, List.take_of_length_le (Nat.le_of_eq (ol_len _))]
end Go.Proofs.Ytappehafkjcabaa
