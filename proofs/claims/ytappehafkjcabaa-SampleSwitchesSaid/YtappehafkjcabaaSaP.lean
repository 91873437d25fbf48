import Derived.Test.YtappehafkjcabaaSaO
set_option linter.unusedVariables false
set_option linter.unusedSimpArgs false
namespace Go.Proofs.Ytappehafkjcabaa
open Go Go.Am Go.Proofs

/-! ### The least sample -/
def lf (p : Nat → Bool) : Nat → Nat → Option Nat
  | 0, _ => none
  | f + 1, n => if p n = true then some n else lf p f (n + 1)
theorem lf_some {p : Nat → Bool} : ∀ {f n k : Nat}, lf p f n = some k → p k = true ∧ n ≤ k ∧ k < n + f ∧ ∀ j, n ≤ j → j < k → p j = false
  | 0, n, k, h => by simp [lf] at h
  | f + 1, n, k, h => by
    simp only [lf] at h
    split at h
    · rename_i hp
      simp only [Option.some.injEq] at h
      subst h
      exact ⟨hp, Nat.le_refl _, by omega, fun j h1 h2 => by omega⟩
    · rename_i hp
      obtain ⟨h1, h2, h3, h4⟩ := lf_some h
      refine ⟨h1, by omega, by omega, fun j hj hk => ?_⟩
      by_cases e : j = n
      · subst e; simpa using hp
      · exact h4 j (by omega) hk
def lp (L B A m0 m1 n : Nat) : Bool := decide (cmpv (cnum L B n A / cgcd L B n A * m1) (m0 * (ch L n / cgcd L B n A)) ≤ 0)
def lbad (lot bad acc m0 m1 : Int) : Bool := decide (lot < 1) || decide (60 < lot) || decide (bad < 0) || decide (lot < bad) || decide (acc < 0) || decide (lot ≤ acc) || decide (m0 < 0) || decide (m1 < 1)
def lv (lot bad acc m0 m1 : Int) : Int × Int := if lbad lot bad acc m0 m1 = true then (0, 2) else match lf (lp lot.toNat bad.toNat acc.toNat m0.toNat m1.toNat) (lot.toNat - acc.toNat) (acc.toNat + 1) with
  | some n => (((n : Nat) : Int), 0)
  | none => (0, 4)
theorem lv_bad {lot bad acc m0 m1 : Int} (h : lbad lot bad acc m0 m1 = true) : lv lot bad acc m0 m1 = (0, 2) := by unfold lv; rw [if_pos h]
theorem lv_some {L B A m0 m1 n : Nat} (h : lbad L B A m0 m1 = false) (e : lf (lp L B A m0 m1) (L - A) (A + 1) = some n) : lv L B A m0 m1 = (((n : Nat) : Int), 0) := by
  unfold lv; rw [if_neg (by simp [h])]; simp only [Int.toNat_natCast, e]
theorem lv_none {L B A m0 m1 : Nat} (h : lbad L B A m0 m1 = false) (e : lf (lp L B A m0 m1) (L - A) (A + 1) = none) : lv L B A m0 m1 = (0, 4) := by
  unfold lv; rw [if_neg (by simp [h])]; simp only [Int.toNat_natCast, e]
theorem lbad_iff {lot bad acc m0 m1 : Int} : lbad lot bad acc m0 m1 = true ↔ (lot < 1 ∨ 60 < lot ∨ bad < 0 ∨ lot < bad ∨ acc < 0 ∨ lot ≤ acc ∨ m0 < 0 ∨ m1 < 1) := by
  simp only [lbad, Bool.or_eq_true, decide_eq_true_eq, or_assoc]

theorem frac_bound {L B S A : Nat} (hl : L ≤ 60) (hb : B ≤ L) (hs : S ≤ L) (ha : A < S) : cnum L B S A / cgcd L B S A ≤ ch L S / cgcd L B S A ∧ ch L S / cgcd L B S A ≤ 1152921504606846976 ∧ 0 < ch L S / cgcd L B S A := by
  have b1 := wy_part hb (m := A + 1) (s := S) (by omega)
  have b2 := ch_60 hl S
  have b3 := ch_pos hs
  have gp : 0 < cgcd L B S A := Nat.gcd_pos_of_pos_right _ b3
  refine ⟨Nat.div_le_div_right b1, Nat.le_trans (Nat.div_le_self _ _) b2, Nat.div_pos (Nat.le_of_dvd b3 (Nat.gcd_dvd_right _ _)) gp⟩

theorem f31 (lot bad acc m0 m1 : Int) (hm0 : m0 ≤ 9223372036854775807) (hm1 : m1 ≤ 9223372036854775807) (h : AH) : ACalls Try.prog 31 [.i .i64 lot, .i .i64 bad, .i .i64 acc, .ag [.i .i64 m0, .i .i64 m1]] h fun r h' => r = .tu [.i .i64 (lv lot bad acc m0 m1).1, .i .i64 (lv lot bad acc m0 m1).2] ∧ h' = h := by
  refine pure_call (R := fun r => r = .tu [.i .i64 (lv lot bad acc m0 m1).1, .i .i64 (lv lot bad acc m0 m1).2]) (fun h0 _ _ => ?_) (fun r e => by rw [e]; rfl)
  refine a_fn fn31 (by simp) fun ok pos => ?_
  rw [initSt4]
  cases hbad : lbad lot bad acc m0 m1 with
  | true =>
    have hb' := hbad
    simp only [lbad] at hb'
    repeat' first
      | with_reducible refine k_seq ?_
      | with_reducible refine k_skip ?_
      | with_reducible refine k_blkS ?_
      | with_reducible refine k_reg ?_
      | with_reducible refine k_head ?_
      | with_reducible refine r_done ?_
      | with_reducible refine hr_done ?_
      | with_reducible refine s_go (by simp (disch := omega) only [hb', c31r0, c31r1, c31r2, c31r3, c31r4, c31r5, c31r6, c31r7, c31r9, EV0, EV1, EV2, EV3, EV4, EV5, EV6, EV7, plug, ite_same, decide_true, decide_false, eq_self, ↓reduceIte, reduceCtorEq, Nat.reduceAdd, Nat.reduceEqDiff, Nat.reduceLT, Nat.reduceLeDiff, Nat.reduceMul, Nat.reduceSub, Nat.reduceDiv, Int.reduceToNat, Int.reduceAdd, Int.reduceSub, Int.reduceMul, Int.reduceNeg, Int.reduceEq, Int.reduceLT, Int.reduceLE]; with_reducible rfl) ?_
      | with_reducible refine h_go (by with_unfolding_all rfl) (by simp (disch := omega) only [hb', c31r0, c31r1, c31r2, c31r3, c31r4, c31r5, c31r6, c31r7, c31r9, EV0, EV1, EV2, EV3, EV4, EV5, EV6, EV7, plug, ite_same, decide_true, decide_false, eq_self, ↓reduceIte, reduceCtorEq, Nat.reduceAdd, Nat.reduceEqDiff, Nat.reduceLT, Nat.reduceLeDiff, Nat.reduceMul, Nat.reduceSub, Nat.reduceDiv, Int.reduceToNat, Int.reduceAdd, Int.reduceSub, Int.reduceMul, Int.reduceNeg, Int.reduceEq, Int.reduceLT, Int.reduceLE]; with_reducible rfl) ?_
      | ((with_reducible refine chk_r ?_); refine r_callF (by simp only [CA, Nat.reduceEqDiff, ↓reduceIte]; rfl) (by exact rfl) (by simp only [CA, Nat.reduceEqDiff, ↓reduceIte]; rfl) rfl ?_)
      | ((with_reducible refine chk_h ?_); refine hr_callF (by simp only [CA, Nat.reduceEqDiff, ↓reduceIte]; rfl) (by exact rfl) (by simp only [CA, Nat.reduceEqDiff, ↓reduceIte]; rfl) rfl ?_)
      | (with_reducible refine k_condP (by simp only [GA, Nat.reduceEqDiff, ↓reduceIte]; rfl) (by first | (simp only [BO]; rfl) | rfl) (fun ht => ?_) (fun ht => ?_) <;> try (first | exact False.elim ht | exact absurd rfl ht | exact absurd trivial ht | exact Bool.noConfusion ht))
      | (with_reducible refine k_ret ?_; repeat with_reducible (first | refine ret_thru ?_ | refine ret_blk ?_ | refine fin ?_))
      | (with_reducible refine k_exit ?_; repeat with_reducible (first | refine thru ?_ | refine out_blk ?_ | refine pass (by decide) ?_))
      | (refine post1 ?_; simp only [GA, Nat.reduceEqDiff, ↓reduceIte])
      | (refine post2 ?_; simp only [GA, Nat.reduceEqDiff, ↓reduceIte])
      | (refine post3 ?_; simp only [GA, Nat.reduceEqDiff, ↓reduceIte])
      | (refine postc (by simp only [GA, Nat.reduceEqDiff, ↓reduceIte]; rfl) (by simp (disch := omega) only [hb', c31r0, c31r1, c31r2, c31r3, c31r4, c31r5, c31r6, c31r7, c31r9, EV0, EV1, EV2, EV3, EV4, EV5, EV6, EV7, plug, ite_same, decide_true, decide_false, eq_self, ↓reduceIte, reduceCtorEq, Nat.reduceAdd, Nat.reduceEqDiff, Nat.reduceLT, Nat.reduceLeDiff, Nat.reduceMul, Nat.reduceSub, Nat.reduceDiv, Int.reduceToNat, Int.reduceAdd, Int.reduceSub, Int.reduceMul, Int.reduceNeg, Int.reduceEq, Int.reduceLT, Int.reduceLE]; rfl) ?_)
      | refine post0 ?_
    rw [lv_bad hbad]
  | false =>
    have hb' := hbad
    simp only [lbad] at hb'
    have hq : ¬ (lot < 1 ∨ 60 < lot ∨ bad < 0 ∨ lot < bad ∨ acc < 0 ∨ lot ≤ acc ∨ m0 < 0 ∨ m1 < 1) := by rw [← lbad_iff, hbad]; simp
    obtain ⟨L, rfl⟩ : ∃ L : Nat, lot = L := ⟨lot.toNat, by omega⟩
    obtain ⟨B, rfl⟩ : ∃ L : Nat, bad = L := ⟨bad.toNat, by omega⟩
    obtain ⟨A, rfl⟩ : ∃ L : Nat, acc = L := ⟨acc.toNat, by omega⟩
    obtain ⟨m0, rfl⟩ : ∃ L : Nat, m0 = L := ⟨m0.toNat, by omega⟩
    obtain ⟨m1, rfl⟩ : ∃ L : Nat, m1 = L := ⟨m1.toNat, by omega⟩
    repeat' first
      | with_reducible refine k_seq ?_
      | with_reducible refine k_skip ?_
      | with_reducible refine k_blkS ?_
      | with_reducible refine k_reg ?_
      | with_reducible refine k_head ?_
      | with_reducible refine r_done ?_
      | with_reducible refine hr_done ?_
      | with_reducible refine s_go (by simp (disch := omega) only [hb', c31r0, c31r1, c31r2, c31r3, c31r4, c31r5, c31r6, c31r7, c31r9, EV0, EV1, EV2, EV3, EV4, EV5, EV6, EV7, plug, ite_same, decide_true, decide_false, eq_self, ↓reduceIte, reduceCtorEq, Nat.reduceAdd, Nat.reduceEqDiff, Nat.reduceLT, Nat.reduceLeDiff, Nat.reduceMul, Nat.reduceSub, Nat.reduceDiv, Int.reduceToNat, Int.reduceAdd, Int.reduceSub, Int.reduceMul, Int.reduceNeg, Int.reduceEq, Int.reduceLT, Int.reduceLE]; with_reducible rfl) ?_
      | with_reducible refine h_go (by with_unfolding_all rfl) (by simp (disch := omega) only [hb', c31r0, c31r1, c31r2, c31r3, c31r4, c31r5, c31r6, c31r7, c31r9, EV0, EV1, EV2, EV3, EV4, EV5, EV6, EV7, plug, ite_same, decide_true, decide_false, eq_self, ↓reduceIte, reduceCtorEq, Nat.reduceAdd, Nat.reduceEqDiff, Nat.reduceLT, Nat.reduceLeDiff, Nat.reduceMul, Nat.reduceSub, Nat.reduceDiv, Int.reduceToNat, Int.reduceAdd, Int.reduceSub, Int.reduceMul, Int.reduceNeg, Int.reduceEq, Int.reduceLT, Int.reduceLE]; with_reducible rfl) ?_
      | ((with_reducible refine chk_r ?_); refine r_callF (by simp only [CA, Nat.reduceEqDiff, ↓reduceIte]; rfl) (by exact rfl) (by simp only [CA, Nat.reduceEqDiff, ↓reduceIte]; rfl) rfl ?_)
      | ((with_reducible refine chk_h ?_); refine hr_callF (by simp only [CA, Nat.reduceEqDiff, ↓reduceIte]; rfl) (by exact rfl) (by simp only [CA, Nat.reduceEqDiff, ↓reduceIte]; rfl) rfl ?_)
      | (with_reducible refine k_condP (by simp only [GA, Nat.reduceEqDiff, ↓reduceIte]; rfl) (by first | (simp only [BO]; rfl) | rfl) (fun ht => ?_) (fun ht => ?_) <;> try (first | exact False.elim ht | exact absurd rfl ht | exact absurd trivial ht | exact Bool.noConfusion ht))
      | (with_reducible refine k_ret ?_; repeat with_reducible (first | refine ret_thru ?_ | refine ret_blk ?_ | refine fin ?_))
      | (with_reducible refine k_exit ?_; repeat with_reducible (first | refine thru ?_ | refine out_blk ?_ | refine pass (by decide) ?_))
      | (refine post1 ?_; simp only [GA, Nat.reduceEqDiff, ↓reduceIte])
      | (refine post2 ?_; simp only [GA, Nat.reduceEqDiff, ↓reduceIte])
      | (refine post3 ?_; simp only [GA, Nat.reduceEqDiff, ↓reduceIte])
      | (refine postc (by simp only [GA, Nat.reduceEqDiff, ↓reduceIte]; rfl) (by simp (disch := omega) only [hb', c31r0, c31r1, c31r2, c31r3, c31r4, c31r5, c31r6, c31r7, c31r9, EV0, EV1, EV2, EV3, EV4, EV5, EV6, EV7, plug, ite_same, decide_true, decide_false, eq_self, ↓reduceIte, reduceCtorEq, Nat.reduceAdd, Nat.reduceEqDiff, Nat.reduceLT, Nat.reduceLeDiff, Nat.reduceMul, Nat.reduceSub, Nat.reduceDiv, Int.reduceToNat, Int.reduceAdd, Int.reduceSub, Int.reduceMul, Int.reduceNeg, Int.reduceEq, Int.reduceLT, Int.reduceLE]; rfl) ?_)
      | refine post0 ?_
    refine k_blk (k_loop (fun m st h => ∃ n : Nat, Am.keep [10, 0, 1, 2, 7] st = [(10, .i .i64 n), (0, .i .i64 L), (1, .i .i64 B), (2, .i .i64 A), (7, .p h0.nx 0)] ∧ m = L + 1 - n ∧ A + 1 ≤ n ∧ n ≤ L + 1 ∧ lf (lp L B A m0 m1) (L - A) (A + 1) = lf (lp L B A m0 m1) (L + 1 - n) n ∧
      h.m h0.nx = some (.cells true [.i .i64 m0, .i .i64 m1])) (L - A) ?_ ?_)
    · refine ⟨A + 1, rfl, by omega, by omega, by omega, by rw [show L + 1 - (A + 1) = L - A by omega], ?_⟩
      simp (disch := omega) only [c31r0, c31r1, c31r2, c31r3, c31r4, c31r5, c31r6, c31r7, c31r9, EV0, EV1, EV2, EV3, EV4, EV5, EV6, EV7, plug, ite_same, decide_true, decide_false, eq_self, ↓reduceIte, reduceCtorEq, Nat.reduceAdd, Nat.reduceEqDiff, Nat.reduceLT, Nat.reduceLeDiff, Nat.reduceMul, Nat.reduceSub, Nat.reduceDiv, Int.reduceToNat, Int.reduceAdd, Int.reduceSub, Int.reduceMul, Int.reduceNeg, Int.reduceEq, Int.reduceLT, Int.reduceLE]
    · rintro m st h ⟨n, hk, rfl, hn1, hn2, hlf, hm⟩
      refine k_inv hk (w_ok fun ok pos => ?_)
      have := ok.m hm
      by_cases hc : (n : Int) ≤ L
      · have q1 := f41 L B n A (by omega) (by omega) (by omega) (by omega)
        have q3 := frac_bound (L := L) (B := B) (S := n) (A := A) (by omega) (by omega) (by omega) (by omega)
        have q2 := f47 (cnum L B n A / cgcd L B n A) (ch L n / cgcd L B n A) m0 m1 (by omega) (by omega) (by omega) (by omega)
        have e : lf (lp L B A m0 m1) (L - A) (A + 1) = if lp L B A m0 m1 n = true then some n else lf (lp L B A m0 m1) (L + 1 - (n + 1)) (n + 1) := by
          rw [hlf, show L + 1 - n = (L + 1 - (n + 1)) + 1 by omega]; rfl
        have e2 : lp L B A m0 m1 n = decide (cmpv (cnum L B n A / cgcd L B n A * m1) (m0 * (ch L n / cgcd L B n A)) ≤ 0) := rfl
        generalize cmpv (cnum L B n A / cgcd L B n A * m1) (m0 * (ch L n / cgcd L B n A)) = V at q2 e2
        generalize cnum L B n A / cgcd L B n A = X at q1 q2 q3
        generalize ch L n / cgcd L B n A = Y at q1 q2 q3
        repeat' first
          | with_reducible refine k_seq ?_
          | with_reducible refine k_skip ?_
          | with_reducible refine k_blkS ?_
          | with_reducible refine k_reg ?_
          | with_reducible refine k_head ?_
          | with_reducible refine r_done ?_
          | with_reducible refine hr_done ?_
          | with_reducible refine s_go (by simp (disch := omega) only [hc, hm, row_m hm, read_row (row_m hm), c31r0, c31r1, c31r2, c31r3, c31r4, c31r5, c31r6, c31r7, c31r9, EV0, EV1, EV2, EV3, EV4, EV5, EV6, EV7, plug, ite_same, decide_true, decide_false, eq_self, ↓reduceIte, reduceCtorEq, Nat.reduceAdd, Nat.reduceEqDiff, Nat.reduceLT, Nat.reduceLeDiff, Nat.reduceMul, Nat.reduceSub, Nat.reduceDiv, Int.reduceToNat, Int.reduceAdd, Int.reduceSub, Int.reduceMul, Int.reduceNeg, Int.reduceEq, Int.reduceLT, Int.reduceLE]; with_reducible rfl) ?_
          | with_reducible refine h_go (by with_unfolding_all rfl) (by simp (disch := omega) only [hc, hm, row_m hm, read_row (row_m hm), c31r0, c31r1, c31r2, c31r3, c31r4, c31r5, c31r6, c31r7, c31r9, EV0, EV1, EV2, EV3, EV4, EV5, EV6, EV7, plug, ite_same, decide_true, decide_false, eq_self, ↓reduceIte, reduceCtorEq, Nat.reduceAdd, Nat.reduceEqDiff, Nat.reduceLT, Nat.reduceLeDiff, Nat.reduceMul, Nat.reduceSub, Nat.reduceDiv, Int.reduceToNat, Int.reduceAdd, Int.reduceSub, Int.reduceMul, Int.reduceNeg, Int.reduceEq, Int.reduceLT, Int.reduceLE]; with_reducible rfl) ?_
          | ((with_reducible refine chk_r ?_); refine r_callF (by simp only [CA, Nat.reduceEqDiff, ↓reduceIte]; rfl) (by exact rfl) (by simp only [CA, Nat.reduceEqDiff, ↓reduceIte]; rfl) rfl ?_)
          | ((with_reducible refine chk_h ?_); refine hr_callF (by simp only [CA, Nat.reduceEqDiff, ↓reduceIte]; rfl) (by exact rfl) (by simp only [CA, Nat.reduceEqDiff, ↓reduceIte]; rfl) rfl ?_)
          | ((with_reducible refine chk_r ?_); refine r_callP (by simp only [CA, Nat.reduceEqDiff, ↓reduceIte]; rfl) (by simp only [CA, Nat.reduceEqDiff, ↓reduceIte]; rfl) (by first | exact q1 _ | exact q2 _) rfl ?_)
          | ((with_reducible refine chk_h ?_); refine hr_callP (by simp only [CA, Nat.reduceEqDiff, ↓reduceIte]; rfl) (by simp only [CA, Nat.reduceEqDiff, ↓reduceIte]; rfl) (by first | exact q1 _ | exact q2 _) rfl ?_)
          | (with_reducible refine k_condP (by simp only [GA, Nat.reduceEqDiff, ↓reduceIte]; rfl) (by first | (simp only [BO]; rfl) | rfl) (fun ht => ?_) (fun ht => ?_) <;> try (first | exact False.elim ht | exact absurd rfl ht | exact absurd trivial ht | exact Bool.noConfusion ht))
          | (with_reducible refine k_ret ?_; repeat with_reducible (first | refine ret_thru ?_ | refine ret_blk ?_ | refine fin ?_))
          | (with_reducible refine k_exit ?_; repeat with_reducible (first | refine thru ?_ | refine out_blk ?_ | refine pass (by decide) ?_))
          | (refine post1 ?_; simp only [GA, Nat.reduceEqDiff, ↓reduceIte])
          | (refine post2 ?_; simp only [GA, Nat.reduceEqDiff, ↓reduceIte])
          | (refine post3 ?_; simp only [GA, Nat.reduceEqDiff, ↓reduceIte])
          | (refine postc (by simp only [GA, Nat.reduceEqDiff, ↓reduceIte]; rfl) (by simp (disch := omega) only [hc, hm, row_m hm, read_row (row_m hm), c31r0, c31r1, c31r2, c31r3, c31r4, c31r5, c31r6, c31r7, c31r9, EV0, EV1, EV2, EV3, EV4, EV5, EV6, EV7, plug, ite_same, decide_true, decide_false, eq_self, ↓reduceIte, reduceCtorEq, Nat.reduceAdd, Nat.reduceEqDiff, Nat.reduceLT, Nat.reduceLeDiff, Nat.reduceMul, Nat.reduceSub, Nat.reduceDiv, Int.reduceToNat, Int.reduceAdd, Int.reduceSub, Int.reduceMul, Int.reduceNeg, Int.reduceEq, Int.reduceLT, Int.reduceLE]; rfl) ?_)
          | refine post0 ?_
        · rw [e2, if_pos (by simpa using ht)] at e
          rw [lv_some hbad e]
        · rw [e2, if_neg (by simpa using ht)] at e
          refine ⟨_, ?_, n + 1, rfl, rfl, by omega, by omega, e, ?_⟩
          · omega
          · simp (disch := omega) only [hm, c31r0, c31r1, c31r2, c31r3, c31r4, c31r5, c31r6, c31r7, c31r9, EV0, EV1, EV2, EV3, EV4, EV5, EV6, EV7, plug, ite_same, decide_true, decide_false, eq_self, ↓reduceIte, reduceCtorEq, Nat.reduceAdd, Nat.reduceEqDiff, Nat.reduceLT, Nat.reduceLeDiff, Nat.reduceMul, Nat.reduceSub, Nat.reduceDiv, Int.reduceToNat, Int.reduceAdd, Int.reduceSub, Int.reduceMul, Int.reduceNeg, Int.reduceEq, Int.reduceLT, Int.reduceLE]
      · repeat' first
          | with_reducible refine k_seq ?_
          | with_reducible refine k_skip ?_
          | with_reducible refine k_blkS ?_
          | with_reducible refine k_reg ?_
          | with_reducible refine k_head ?_
          | with_reducible refine r_done ?_
          | with_reducible refine hr_done ?_
          | with_reducible refine s_go (by simp (disch := omega) only [hc, c31r0, c31r1, c31r2, c31r3, c31r4, c31r5, c31r6, c31r7, c31r9, EV0, EV1, EV2, EV3, EV4, EV5, EV6, EV7, plug, ite_same, decide_true, decide_false, eq_self, ↓reduceIte, reduceCtorEq, Nat.reduceAdd, Nat.reduceEqDiff, Nat.reduceLT, Nat.reduceLeDiff, Nat.reduceMul, Nat.reduceSub, Nat.reduceDiv, Int.reduceToNat, Int.reduceAdd, Int.reduceSub, Int.reduceMul, Int.reduceNeg, Int.reduceEq, Int.reduceLT, Int.reduceLE]; with_reducible rfl) ?_
          | with_reducible refine h_go (by with_unfolding_all rfl) (by simp (disch := omega) only [hc, c31r0, c31r1, c31r2, c31r3, c31r4, c31r5, c31r6, c31r7, c31r9, EV0, EV1, EV2, EV3, EV4, EV5, EV6, EV7, plug, ite_same, decide_true, decide_false, eq_self, ↓reduceIte, reduceCtorEq, Nat.reduceAdd, Nat.reduceEqDiff, Nat.reduceLT, Nat.reduceLeDiff, Nat.reduceMul, Nat.reduceSub, Nat.reduceDiv, Int.reduceToNat, Int.reduceAdd, Int.reduceSub, Int.reduceMul, Int.reduceNeg, Int.reduceEq, Int.reduceLT, Int.reduceLE]; with_reducible rfl) ?_
          | ((with_reducible refine chk_r ?_); refine r_callF (by simp only [CA, Nat.reduceEqDiff, ↓reduceIte]; rfl) (by exact rfl) (by simp only [CA, Nat.reduceEqDiff, ↓reduceIte]; rfl) rfl ?_)
          | ((with_reducible refine chk_h ?_); refine hr_callF (by simp only [CA, Nat.reduceEqDiff, ↓reduceIte]; rfl) (by exact rfl) (by simp only [CA, Nat.reduceEqDiff, ↓reduceIte]; rfl) rfl ?_)
          | (with_reducible refine k_condP (by simp only [GA, Nat.reduceEqDiff, ↓reduceIte]; rfl) (by first | (simp only [BO]; rfl) | rfl) (fun ht => ?_) (fun ht => ?_) <;> try (first | exact False.elim ht | exact absurd rfl ht | exact absurd trivial ht | exact Bool.noConfusion ht))
          | (with_reducible refine k_ret ?_; repeat with_reducible (first | refine ret_thru ?_ | refine ret_blk ?_ | refine fin ?_))
          | (with_reducible refine k_exit ?_; repeat with_reducible (first | refine thru ?_ | refine out_blk ?_ | refine pass (by decide) ?_))
          | (refine post1 ?_; simp only [GA, Nat.reduceEqDiff, ↓reduceIte])
          | (refine post2 ?_; simp only [GA, Nat.reduceEqDiff, ↓reduceIte])
          | (refine post3 ?_; simp only [GA, Nat.reduceEqDiff, ↓reduceIte])
          | (refine postc (by simp only [GA, Nat.reduceEqDiff, ↓reduceIte]; rfl) (by simp (disch := omega) only [hc, c31r0, c31r1, c31r2, c31r3, c31r4, c31r5, c31r6, c31r7, c31r9, EV0, EV1, EV2, EV3, EV4, EV5, EV6, EV7, plug, ite_same, decide_true, decide_false, eq_self, ↓reduceIte, reduceCtorEq, Nat.reduceAdd, Nat.reduceEqDiff, Nat.reduceLT, Nat.reduceLeDiff, Nat.reduceMul, Nat.reduceSub, Nat.reduceDiv, Int.reduceToNat, Int.reduceAdd, Int.reduceSub, Int.reduceMul, Int.reduceNeg, Int.reduceEq, Int.reduceLT, Int.reduceLE]; rfl) ?_)
          | refine post0 ?_
        obtain rfl : n = L + 1 := by omega
        rw [Nat.sub_self] at hlf
        rw [lv_none hbad (by rw [hlf]; rfl)]

theorem f32 (lot bad acc m0 m1 : Int) (hm0 : m0 ≤ 9223372036854775807) (hm1 : m1 ≤ 9223372036854775807) (h : AH) : ACalls Try.prog 32 [.i .i64 lot, .i .i64 bad, .i .i64 acc, .ag [.i .i64 m0, .i .i64 m1]] h fun r h' => r = .tu [.i .i64 (lv lot bad acc m0 m1).1, .i .i64 (lv lot bad acc m0 m1).2] ∧ h' = h := by
  refine pure_call (R := fun r => r = .tu [.i .i64 (lv lot bad acc m0 m1).1, .i .i64 (lv lot bad acc m0 m1).2]) (fun h0 _ _ => ?_) (fun r e => by rw [e]; rfl)
  refine a_fn fn32 (by simp) fun ok pos => ?_
  rw [initSt4]
  cases hbad : lbad lot bad acc m0 m1 with
  | true =>
    have hb' := hbad
    simp only [lbad] at hb'
    repeat' first
      | with_reducible refine k_seq ?_
      | with_reducible refine k_skip ?_
      | with_reducible refine k_blkS ?_
      | with_reducible refine k_reg ?_
      | with_reducible refine r_done ?_
      | with_reducible refine s_go (by simp (disch := omega) only [hb', c32r0, c32r1, c32r2, c32r3, c32r4, c32r5, c32r6, c32r7, c32r8, c32r10, EV0, EV1, EV2, EV3, EV4, EV5, EV6, EV7, plug, ite_same, decide_true, decide_false, eq_self, ↓reduceIte, reduceCtorEq, Nat.reduceAdd, Nat.reduceEqDiff, Nat.reduceLT, Nat.reduceLeDiff, Nat.reduceMul, Nat.reduceSub, Nat.reduceDiv, Int.reduceToNat, Int.reduceAdd, Int.reduceSub, Int.reduceMul, Int.reduceNeg, Int.reduceEq, Int.reduceLT, Int.reduceLE]; with_reducible rfl) ?_
      | ((with_reducible refine chk_r ?_); refine r_callF (by simp only [CA, Nat.reduceEqDiff, ↓reduceIte]; rfl) (by exact rfl) (by simp only [CA, Nat.reduceEqDiff, ↓reduceIte]; rfl) rfl ?_)
      | (with_reducible refine k_condP (by simp only [GA, Nat.reduceEqDiff, ↓reduceIte]; rfl) (by first | (simp only [BO]; rfl) | rfl) (fun ht => ?_) (fun ht => ?_) <;> try (first | exact False.elim ht | exact absurd rfl ht | exact absurd trivial ht | exact Bool.noConfusion ht))
      | (with_reducible refine k_ret ?_; repeat with_reducible (first | refine ret_thru ?_ | refine ret_blk ?_ | refine fin ?_))
      | (with_reducible refine k_exit ?_; repeat with_reducible (first | refine thru ?_ | refine out_blk ?_ | refine pass (by decide) ?_))
      | (refine post1 ?_; simp only [GA, Nat.reduceEqDiff, ↓reduceIte])
      | (refine post2 ?_; simp only [GA, Nat.reduceEqDiff, ↓reduceIte])
      | (refine post3 ?_; simp only [GA, Nat.reduceEqDiff, ↓reduceIte])
      | (refine postc (by simp only [GA, Nat.reduceEqDiff, ↓reduceIte]; rfl) (by simp (disch := omega) only [hb', c32r0, c32r1, c32r2, c32r3, c32r4, c32r5, c32r6, c32r7, c32r8, c32r10, EV0, EV1, EV2, EV3, EV4, EV5, EV6, EV7, plug, ite_same, decide_true, decide_false, eq_self, ↓reduceIte, reduceCtorEq, Nat.reduceAdd, Nat.reduceEqDiff, Nat.reduceLT, Nat.reduceLeDiff, Nat.reduceMul, Nat.reduceSub, Nat.reduceDiv, Int.reduceToNat, Int.reduceAdd, Int.reduceSub, Int.reduceMul, Int.reduceNeg, Int.reduceEq, Int.reduceLT, Int.reduceLE]; rfl) ?_)
      | refine post0 ?_
    rw [lv_bad hbad]
  | false =>
    have hb' := hbad
    simp only [lbad] at hb'
    have hq : ¬ (lot < 1 ∨ 60 < lot ∨ bad < 0 ∨ lot < bad ∨ acc < 0 ∨ lot ≤ acc ∨ m0 < 0 ∨ m1 < 1) := by rw [← lbad_iff, hbad]; simp
    obtain ⟨L, rfl⟩ : ∃ L : Nat, lot = L := ⟨lot.toNat, by omega⟩
    obtain ⟨B, rfl⟩ : ∃ L : Nat, bad = L := ⟨bad.toNat, by omega⟩
    obtain ⟨A, rfl⟩ : ∃ L : Nat, acc = L := ⟨acc.toNat, by omega⟩
    obtain ⟨m0, rfl⟩ : ∃ L : Nat, m0 = L := ⟨m0.toNat, by omega⟩
    obtain ⟨m1, rfl⟩ : ∃ L : Nat, m1 = L := ⟨m1.toNat, by omega⟩
    repeat' first
      | with_reducible refine k_seq ?_
      | with_reducible refine k_skip ?_
      | with_reducible refine k_blkS ?_
      | with_reducible refine k_reg ?_
      | with_reducible refine r_done ?_
      | with_reducible refine s_go (by simp (disch := omega) only [hb', c32r0, c32r1, c32r2, c32r3, c32r4, c32r5, c32r6, c32r7, c32r8, c32r10, EV0, EV1, EV2, EV3, EV4, EV5, EV6, EV7, plug, ite_same, decide_true, decide_false, eq_self, ↓reduceIte, reduceCtorEq, Nat.reduceAdd, Nat.reduceEqDiff, Nat.reduceLT, Nat.reduceLeDiff, Nat.reduceMul, Nat.reduceSub, Nat.reduceDiv, Int.reduceToNat, Int.reduceAdd, Int.reduceSub, Int.reduceMul, Int.reduceNeg, Int.reduceEq, Int.reduceLT, Int.reduceLE]; with_reducible rfl) ?_
      | ((with_reducible refine chk_r ?_); refine r_callF (by simp only [CA, Nat.reduceEqDiff, ↓reduceIte]; rfl) (by exact rfl) (by simp only [CA, Nat.reduceEqDiff, ↓reduceIte]; rfl) rfl ?_)
      | (with_reducible refine k_condP (by simp only [GA, Nat.reduceEqDiff, ↓reduceIte]; rfl) (by first | (simp only [BO]; rfl) | rfl) (fun ht => ?_) (fun ht => ?_) <;> try (first | exact False.elim ht | exact absurd rfl ht | exact absurd trivial ht | exact Bool.noConfusion ht))
      | (with_reducible refine k_ret ?_; repeat with_reducible (first | refine ret_thru ?_ | refine ret_blk ?_ | refine fin ?_))
      | (with_reducible refine k_exit ?_; repeat with_reducible (first | refine thru ?_ | refine out_blk ?_ | refine pass (by decide) ?_))
      | (refine post1 ?_; simp only [GA, Nat.reduceEqDiff, ↓reduceIte])
      | (refine post2 ?_; simp only [GA, Nat.reduceEqDiff, ↓reduceIte])
      | (refine post3 ?_; simp only [GA, Nat.reduceEqDiff, ↓reduceIte])
      | (refine postc (by simp only [GA, Nat.reduceEqDiff, ↓reduceIte]; rfl) (by simp (disch := omega) only [hb', c32r0, c32r1, c32r2, c32r3, c32r4, c32r5, c32r6, c32r7, c32r8, c32r10, EV0, EV1, EV2, EV3, EV4, EV5, EV6, EV7, plug, ite_same, decide_true, decide_false, eq_self, ↓reduceIte, reduceCtorEq, Nat.reduceAdd, Nat.reduceEqDiff, Nat.reduceLT, Nat.reduceLeDiff, Nat.reduceMul, Nat.reduceSub, Nat.reduceDiv, Int.reduceToNat, Int.reduceAdd, Int.reduceSub, Int.reduceMul, Int.reduceNeg, Int.reduceEq, Int.reduceLT, Int.reduceLE]; rfl) ?_)
      | refine post0 ?_
    refine k_blk (k_loop (fun m st h => ∃ n : Nat, Am.keep [10, 0, 1, 2, 7] st = [(10, .i .i64 n), (0, .i .i64 L), (1, .i .i64 B), (2, .i .i64 A), (7, .p h0.nx 0)] ∧ m = L + 1 - n ∧ A + 1 ≤ n ∧ n ≤ L + 1 ∧ lf (lp L B A m0 m1) (L - A) (A + 1) = lf (lp L B A m0 m1) (L + 1 - n) n ∧
      h.m h0.nx = some (.cells true [.i .i64 m0, .i .i64 m1])) (L - A) ?_ ?_)
    · refine ⟨A + 1, rfl, by omega, by omega, by omega, by rw [show L + 1 - (A + 1) = L - A by omega], ?_⟩
      simp (disch := omega) only [c32r0, c32r1, c32r2, c32r3, c32r4, c32r5, c32r6, c32r7, c32r8, c32r10, EV0, EV1, EV2, EV3, EV4, EV5, EV6, EV7, plug, ite_same, decide_true, decide_false, eq_self, ↓reduceIte, reduceCtorEq, Nat.reduceAdd, Nat.reduceEqDiff, Nat.reduceLT, Nat.reduceLeDiff, Nat.reduceMul, Nat.reduceSub, Nat.reduceDiv, Int.reduceToNat, Int.reduceAdd, Int.reduceSub, Int.reduceMul, Int.reduceNeg, Int.reduceEq, Int.reduceLT, Int.reduceLE]
    · rintro m st h ⟨n, hk, rfl, hn1, hn2, hlf, hm⟩
      refine k_inv hk (w_ok fun ok pos => ?_)
      have := ok.m hm
      by_cases hc : (n : Int) ≤ L
      · have q1 := f42 L B n A (by omega) (by omega) (by omega) (by omega)
        have q3 := frac_bound (L := L) (B := B) (S := n) (A := A) (by omega) (by omega) (by omega) (by omega)
        have q2 := f48 _ (cnum L B n A / cgcd L B n A) (ch L n / cgcd L B n A) m0 m1 (Nat.le_refl _) (by omega) (by omega) (by omega) (by omega) (by omega) (by omega)
        have e : lf (lp L B A m0 m1) (L - A) (A + 1) = if lp L B A m0 m1 n = true then some n else lf (lp L B A m0 m1) (L + 1 - (n + 1)) (n + 1) := by
          rw [hlf, show L + 1 - n = (L + 1 - (n + 1)) + 1 by omega]; rfl
        have e2 : lp L B A m0 m1 n = decide (cmpv (cnum L B n A / cgcd L B n A * m1) (m0 * (ch L n / cgcd L B n A)) ≤ 0) := rfl
        generalize cmpv (cnum L B n A / cgcd L B n A * m1) (m0 * (ch L n / cgcd L B n A)) = V at q2 e2
        generalize cnum L B n A / cgcd L B n A = X at q1 q2 q3
        generalize ch L n / cgcd L B n A = Y at q1 q2 q3
        repeat' first
          | with_reducible refine k_seq ?_
          | with_reducible refine k_skip ?_
          | with_reducible refine k_blkS ?_
          | with_reducible refine k_reg ?_
          | with_reducible refine r_done ?_
          | with_reducible refine s_go (by simp (disch := omega) only [hc, hm, row_m hm, read_row (row_m hm), c32r0, c32r1, c32r2, c32r3, c32r4, c32r5, c32r6, c32r7, c32r8, c32r10, EV0, EV1, EV2, EV3, EV4, EV5, EV6, EV7, plug, ite_same, decide_true, decide_false, eq_self, ↓reduceIte, reduceCtorEq, Nat.reduceAdd, Nat.reduceEqDiff, Nat.reduceLT, Nat.reduceLeDiff, Nat.reduceMul, Nat.reduceSub, Nat.reduceDiv, Int.reduceToNat, Int.reduceAdd, Int.reduceSub, Int.reduceMul, Int.reduceNeg, Int.reduceEq, Int.reduceLT, Int.reduceLE]; with_reducible rfl) ?_
          | ((with_reducible refine chk_r ?_); refine r_callF (by simp only [CA, Nat.reduceEqDiff, ↓reduceIte]; rfl) (by exact rfl) (by simp only [CA, Nat.reduceEqDiff, ↓reduceIte]; rfl) rfl ?_)
          | ((with_reducible refine chk_r ?_); refine r_callP (by simp only [CA, Nat.reduceEqDiff, ↓reduceIte]; rfl) (by simp only [CA, Nat.reduceEqDiff, ↓reduceIte]; rfl) (by first | exact q1 _ | exact q2 _) rfl ?_)
          | (with_reducible refine k_condP (by simp only [GA, Nat.reduceEqDiff, ↓reduceIte]; rfl) (by first | (simp only [BO]; rfl) | rfl) (fun ht => ?_) (fun ht => ?_) <;> try (first | exact False.elim ht | exact absurd rfl ht | exact absurd trivial ht | exact Bool.noConfusion ht))
          | (with_reducible refine k_ret ?_; repeat with_reducible (first | refine ret_thru ?_ | refine ret_blk ?_ | refine fin ?_))
          | (with_reducible refine k_exit ?_; repeat with_reducible (first | refine thru ?_ | refine out_blk ?_ | refine pass (by decide) ?_))
          | (refine post1 ?_; simp only [GA, Nat.reduceEqDiff, ↓reduceIte])
          | (refine post2 ?_; simp only [GA, Nat.reduceEqDiff, ↓reduceIte])
          | (refine post3 ?_; simp only [GA, Nat.reduceEqDiff, ↓reduceIte])
          | (refine postc (by simp only [GA, Nat.reduceEqDiff, ↓reduceIte]; rfl) (by simp (disch := omega) only [hc, hm, row_m hm, read_row (row_m hm), c32r0, c32r1, c32r2, c32r3, c32r4, c32r5, c32r6, c32r7, c32r8, c32r10, EV0, EV1, EV2, EV3, EV4, EV5, EV6, EV7, plug, ite_same, decide_true, decide_false, eq_self, ↓reduceIte, reduceCtorEq, Nat.reduceAdd, Nat.reduceEqDiff, Nat.reduceLT, Nat.reduceLeDiff, Nat.reduceMul, Nat.reduceSub, Nat.reduceDiv, Int.reduceToNat, Int.reduceAdd, Int.reduceSub, Int.reduceMul, Int.reduceNeg, Int.reduceEq, Int.reduceLT, Int.reduceLE]; rfl) ?_)
          | refine post0 ?_
        · rw [e2, if_pos (by simpa using ht)] at e
          rw [lv_some hbad e]
        · rw [e2, if_neg (by simpa using ht)] at e
          refine ⟨_, ?_, n + 1, rfl, rfl, by omega, by omega, e, ?_⟩
          · omega
          · simp (disch := omega) only [hm, c32r0, c32r1, c32r2, c32r3, c32r4, c32r5, c32r6, c32r7, c32r8, c32r10, EV0, EV1, EV2, EV3, EV4, EV5, EV6, EV7, plug, ite_same, decide_true, decide_false, eq_self, ↓reduceIte, reduceCtorEq, Nat.reduceAdd, Nat.reduceEqDiff, Nat.reduceLT, Nat.reduceLeDiff, Nat.reduceMul, Nat.reduceSub, Nat.reduceDiv, Int.reduceToNat, Int.reduceAdd, Int.reduceSub, Int.reduceMul, Int.reduceNeg, Int.reduceEq, Int.reduceLT, Int.reduceLE]
      · repeat' first
          | with_reducible refine k_seq ?_
          | with_reducible refine k_skip ?_
          | with_reducible refine k_blkS ?_
          | with_reducible refine k_reg ?_
          | with_reducible refine r_done ?_
          | with_reducible refine s_go (by simp (disch := omega) only [hc, c32r0, c32r1, c32r2, c32r3, c32r4, c32r5, c32r6, c32r7, c32r8, c32r10, EV0, EV1, EV2, EV3, EV4, EV5, EV6, EV7, plug, ite_same, decide_true, decide_false, eq_self, ↓reduceIte, reduceCtorEq, Nat.reduceAdd, Nat.reduceEqDiff, Nat.reduceLT, Nat.reduceLeDiff, Nat.reduceMul, Nat.reduceSub, Nat.reduceDiv, Int.reduceToNat, Int.reduceAdd, Int.reduceSub, Int.reduceMul, Int.reduceNeg, Int.reduceEq, Int.reduceLT, Int.reduceLE]; with_reducible rfl) ?_
          | ((with_reducible refine chk_r ?_); refine r_callF (by simp only [CA, Nat.reduceEqDiff, ↓reduceIte]; rfl) (by exact rfl) (by simp only [CA, Nat.reduceEqDiff, ↓reduceIte]; rfl) rfl ?_)
          | (with_reducible refine k_condP (by simp only [GA, Nat.reduceEqDiff, ↓reduceIte]; rfl) (by first | (simp only [BO]; rfl) | rfl) (fun ht => ?_) (fun ht => ?_) <;> try (first | exact False.elim ht | exact absurd rfl ht | exact absurd trivial ht | exact Bool.noConfusion ht))
          | (with_reducible refine k_ret ?_; repeat with_reducible (first | refine ret_thru ?_ | refine ret_blk ?_ | refine fin ?_))
          | (with_reducible refine k_exit ?_; repeat with_reducible (first | refine thru ?_ | refine out_blk ?_ | refine pass (by decide) ?_))
          | (refine post1 ?_; simp only [GA, Nat.reduceEqDiff, ↓reduceIte])
          | (refine post2 ?_; simp only [GA, Nat.reduceEqDiff, ↓reduceIte])
          | (refine post3 ?_; simp only [GA, Nat.reduceEqDiff, ↓reduceIte])
          | (refine postc (by simp only [GA, Nat.reduceEqDiff, ↓reduceIte]; rfl) (by simp (disch := omega) only [hc, c32r0, c32r1, c32r2, c32r3, c32r4, c32r5, c32r6, c32r7, c32r8, c32r10, EV0, EV1, EV2, EV3, EV4, EV5, EV6, EV7, plug, ite_same, decide_true, decide_false, eq_self, ↓reduceIte, reduceCtorEq, Nat.reduceAdd, Nat.reduceEqDiff, Nat.reduceLT, Nat.reduceLeDiff, Nat.reduceMul, Nat.reduceSub, Nat.reduceDiv, Int.reduceToNat, Int.reduceAdd, Int.reduceSub, Int.reduceMul, Int.reduceNeg, Int.reduceEq, Int.reduceLT, Int.reduceLE]; rfl) ?_)
          | refine post0 ?_
        obtain rfl : n = L + 1 := by omega
        rw [Nat.sub_self] at hlf
        rw [lv_none hbad (by rw [hlf]; rfl)]
end Go.Proofs.Ytappehafkjcabaa
