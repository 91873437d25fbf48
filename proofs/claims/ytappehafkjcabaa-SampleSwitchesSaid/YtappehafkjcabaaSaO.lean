import Derived.Test.YtappehafkjcabaaSaL
set_option linter.unusedVariables false
set_option linter.unusedSimpArgs false
namespace Go.Proofs.Ytappehafkjcabaa
open Go Go.Am Go.Proofs

/-! ### Products of 128 bits -/
theorem and32 (x : Nat) (hx : x < 18446744073709551616) : abits .and .u64 (x : Int) 4294967295 = ((x % 4294967296 : Nat) : Int) := by
  have e : BitVec.ofInt 64 (x : Int) = BitVec.ofNat 64 x := by simp
  have e2 : BitVec.ofInt 64 (4294967295 : Int) = BitVec.ofNat 64 4294967295 := by decide
  have key : (BitVec.ofInt 64 (x : Int) &&& BitVec.ofInt 64 (4294967295 : Int)).toNat = x % 4294967296 := by
    rw [e, e2, BitVec.toNat_and, BitVec.toNat_ofNat, BitVec.toNat_ofNat, Nat.mod_eq_of_lt (show x < 2 ^ 64 by omega), Nat.mod_eq_of_lt (show 4294967295 < 2 ^ 64 by omega)]
    have := Nat.and_two_pow_sub_one_eq_mod x 32
    rwa [show (2 : Nat) ^ 32 - 1 = 4294967295 by decide, show (2 : Nat) ^ 32 = 4294967296 by decide] at this
  show IntKind.u64.wrap (((BitVec.ofInt 64 (x : Int) &&& BitVec.ofInt 64 (4294967295 : Int)).toNat : Nat) : Int) = _
  rw [key]
  exact IntWalk.u64_in _ (by omega)
theorem sh32 (x : Nat) : (x : Int).fdiv (2 ^ (min 32 IntKind.u64.bits)) = ((x / 4294967296 : Nat) : Int) := by
  rw [show ((2 : Int) ^ (min 32 IntKind.u64.bits)) = ((4294967296 : Nat) : Int) by decide, Int.fdiv_eq_ediv_of_nonneg _ (by omega)]; rfl

theorem mul_hi {A B C D : Nat} : A + (B + D / 4294967296) / 4294967296 + ((B + D / 4294967296) % 4294967296 + C) / 4294967296 = (A * 18446744073709551616 + (B + C) * 4294967296 + D) / 18446744073709551616 := by omega
theorem f53 (x y : Nat) (hx : x < 18446744073709551616) (hy : y < 18446744073709551616) (h : AH) : ACalls Try.prog 53 [.i .u64 x, .i .u64 y] h fun r h' => r = .tu [.i .u64 (x * y / 18446744073709551616 : Nat), .i .u64 (x * y % 18446744073709551616 : Nat)] ∧ h' = h := by
  refine pure_call (R := fun r => r = .tu [.i .u64 (x * y / 18446744073709551616 : Nat), .i .u64 (x * y % 18446744073709551616 : Nat)]) (fun h0 _ _ => ?_) (fun r e => by rw [e]; rfl)
  refine a_fn fn53 (by simp) fun ok pos => ?_
  rw [initSt2]
  obtain ⟨X0, hX0⟩ : ∃ X0, x % 4294967296 = X0 := ⟨_, rfl⟩
  obtain ⟨X1, hX1⟩ : ∃ X1, x / 4294967296 = X1 := ⟨_, rfl⟩
  obtain ⟨Y0, hY0⟩ : ∃ Y0, y % 4294967296 = Y0 := ⟨_, rfl⟩
  obtain ⟨Y1, hY1⟩ : ∃ Y1, y / 4294967296 = Y1 := ⟨_, rfl⟩
  have hxy : x * y = X1 * Y1 * 18446744073709551616 + (X1 * Y0 + X0 * Y1) * 4294967296 + X0 * Y0 := by
    have e1 : x = X1 * 4294967296 + X0 := by omega
    have e2 : y = Y1 * 4294967296 + Y0 := by omega
    rw [e1, e2]
    simp only [Nat.add_mul, Nat.mul_add]
    rw [show X1 * 4294967296 * (Y1 * 4294967296) = X1 * Y1 * 18446744073709551616 by rw [Nat.mul_mul_mul_comm], show X1 * 4294967296 * Y0 = X1 * Y0 * 4294967296 by rw [Nat.mul_right_comm], show X0 * (Y1 * 4294967296) = X0 * Y1 * 4294967296 by rw [Nat.mul_assoc]]
    omega
  have bA : X1 * Y1 ≤ 4294967295 * 4294967295 := Nat.mul_le_mul (by omega) (by omega)
  have bB : X1 * Y0 ≤ 4294967295 * 4294967295 := Nat.mul_le_mul (by omega) (by omega)
  have bC : X0 * Y1 ≤ 4294967295 * 4294967295 := Nat.mul_le_mul (by omega) (by omega)
  have bD : X0 * Y0 ≤ 4294967295 * 4294967295 := Nat.mul_le_mul (by omega) (by omega)
  obtain ⟨A, hA⟩ : ∃ A, X1 * Y1 = A := ⟨_, rfl⟩
  obtain ⟨B, hB⟩ : ∃ A, X1 * Y0 = A := ⟨_, rfl⟩
  obtain ⟨C, hC⟩ : ∃ A, X0 * Y1 = A := ⟨_, rfl⟩
  obtain ⟨D, hD⟩ : ∃ A, X0 * Y0 = A := ⟨_, rfl⟩
  rw [hA] at bA; rw [hB] at bB; rw [hC] at bC; rw [hD] at bD
  rw [hA, hB, hC, hD] at hxy
  have eA : (X1 : Int) * Y1 = A := by rw [← hA]; simp
  have eB : (X1 : Int) * Y0 = B := by rw [← hB]; simp
  have eC : (X0 : Int) * Y1 = C := by rw [← hC]; simp
  have eD : (X0 : Int) * Y0 = D := by rw [← hD]; simp
  have e1 := and32 x hx
  have e2 := and32 y hy
  rw [hX0] at e1
  rw [hY0] at e2
  have s1 := sh32 x
  have s2 := sh32 y
  have s3 := sh32 D
  rw [hX1] at s1
  rw [hY1] at s2
  obtain ⟨T, hT⟩ : ∃ T, B + D / 4294967296 = T := ⟨_, rfl⟩
  have eT : (B : Int) + ((D / 4294967296 : Nat) : Int) = T := by rw [← hT]; simp
  have s4 := sh32 T
  have e3 := and32 T (by omega)
  obtain ⟨V, hV⟩ : ∃ V, T % 4294967296 + C = V := ⟨_, rfl⟩
  have eV : ((T % 4294967296 : Nat) : Int) + C = V := by rw [← hV]; simp
  have s5 := sh32 V
  have elo : IntKind.u64.wrap ((x : Int) * y) = ((x * y % 18446744073709551616 : Nat) : Int) := by
    rw [show (x : Int) * y = ((x * y : Nat) : Int) by simp]
    simp [IntKind.wrap, IntKind.bits, IntKind.signed]
  have ehi : (A : Int) + ((T / 4294967296 : Nat) : Int) + ((V / 4294967296 : Nat) : Int) = ((x * y / 18446744073709551616 : Nat) : Int) := by
    have := @mul_hi A B C D
    rw [hT, hV, ← hxy] at this
    omega
  repeat' first
    | with_reducible refine k_seq ?_
    | with_reducible refine k_skip ?_
    | with_reducible refine k_blkS ?_
    | with_reducible refine k_reg ?_
    | with_reducible refine r_done ?_
    | with_reducible refine s_go (by simp (disch := omega) only [e1, e2, e3, s1, s2, s3, s4, s5, eA, eB, eC, eD, eT, eV, elo, ehi, c53r0, c53r1, c53r2, c53r3, c53r4, c53r5, c53r6, c53r7, c53r8, c53r9, c53r10, c53r11, EV0, EV1, EV2, EV3, EV4, EV5, EV6, EV7, plug, ite_same, decide_true, decide_false, eq_self, ↓reduceIte, reduceCtorEq, Nat.reduceAdd, Nat.reduceEqDiff, Nat.reduceLT, Nat.reduceLeDiff, Nat.reduceMul, Nat.reduceSub, Nat.reduceDiv, Int.reduceToNat, Int.reduceAdd, Int.reduceSub, Int.reduceMul, Int.reduceNeg, Int.reduceEq, Int.reduceLT, Int.reduceLE]; with_reducible rfl) ?_
    | ((with_reducible refine chk_r ?_); refine r_callF (by simp only [CA, Nat.reduceEqDiff, ↓reduceIte]; rfl) (by exact rfl) (by simp only [CA, Nat.reduceEqDiff, ↓reduceIte]; rfl) rfl ?_)
    | (with_reducible refine k_condP (by simp only [GA, Nat.reduceEqDiff, ↓reduceIte]; rfl) (by first | (simp only [BO]; rfl) | rfl) (fun ht => ?_) (fun ht => ?_) <;> try (first | exact False.elim ht | exact absurd rfl ht | exact absurd trivial ht | exact Bool.noConfusion ht))
    | (with_reducible refine k_ret ?_; repeat with_reducible (first | refine ret_thru ?_ | refine ret_blk ?_ | refine fin ?_))
    | (with_reducible refine k_exit ?_; repeat with_reducible (first | refine thru ?_ | refine out_blk ?_ | refine pass (by decide) ?_))
    | (refine post1 ?_; simp only [GA, Nat.reduceEqDiff, ↓reduceIte])
    | (refine post2 ?_; simp only [GA, Nat.reduceEqDiff, ↓reduceIte])
    | (refine post3 ?_; simp only [GA, Nat.reduceEqDiff, ↓reduceIte])
    | (refine postc (by simp only [GA, Nat.reduceEqDiff, ↓reduceIte]; rfl) (by simp (disch := omega) only [e1, e2, e3, s1, s2, s3, s4, s5, eA, eB, eC, eD, eT, eV, elo, ehi, c53r0, c53r1, c53r2, c53r3, c53r4, c53r5, c53r6, c53r7, c53r8, c53r9, c53r10, c53r11, EV0, EV1, EV2, EV3, EV4, EV5, EV6, EV7, plug, ite_same, decide_true, decide_false, eq_self, ↓reduceIte, reduceCtorEq, Nat.reduceAdd, Nat.reduceEqDiff, Nat.reduceLT, Nat.reduceLeDiff, Nat.reduceMul, Nat.reduceSub, Nat.reduceDiv, Int.reduceToNat, Int.reduceAdd, Int.reduceSub, Int.reduceMul, Int.reduceNeg, Int.reduceEq, Int.reduceLT, Int.reduceLE]; rfl) ?_)
    | refine post0 ?_

/-- how two numbers compare -/
def cmpv (x y : Nat) : Int := if x < y then -1 else if x = y then 0 else 1

theorem f47 (a b c d : Nat) (ha : a < 9223372036854775808) (hb : b < 9223372036854775808) (hc : c < 9223372036854775808) (hd : d < 9223372036854775808) (h : AH) :
    ACalls Try.prog 47 [.ag [.i .i64 a, .i .i64 b], .ag [.i .i64 c, .i .i64 d]] h fun r h' => r = .i .i64 (cmpv (a * d) (c * b)) ∧ h' = h := by
  refine pure_call (R := fun r => r = .i .i64 (cmpv (a * d) (c * b))) (fun h0 _ _ => ?_) (fun r e => by rw [e]; rfl)
  refine a_fn fn47 (by simp) fun ok pos => ?_
  rw [initSt2]
  have q1 := f53 a d (by omega) (by omega)
  have q2 := f53 c b (by omega) (by omega)
  generalize a * d = X at q1 ⊢
  generalize c * b = Y at q2 ⊢
  repeat' first
    | with_reducible refine k_seq ?_
    | with_reducible refine k_skip ?_
    | with_reducible refine k_blkS ?_
    | with_reducible refine k_reg ?_
    | with_reducible refine r_done ?_
    | with_reducible refine s_go (by simp (disch := omega) only [c47r0, c47r1, c47r2, c47r3, c47r4, c47r5, c47r6, c47r7, EV0, EV1, EV2, EV3, EV4, EV5, EV6, EV7, plug, ite_same, decide_true, decide_false, eq_self, ↓reduceIte, reduceCtorEq, Nat.reduceAdd, Nat.reduceEqDiff, Nat.reduceLT, Nat.reduceLeDiff, Nat.reduceMul, Nat.reduceSub, Nat.reduceDiv, Int.reduceToNat, Int.reduceAdd, Int.reduceSub, Int.reduceMul, Int.reduceNeg, Int.reduceEq, Int.reduceLT, Int.reduceLE]; with_reducible rfl) ?_
    | ((with_reducible refine chk_r ?_); refine r_callF (by simp only [CA, Nat.reduceEqDiff, ↓reduceIte]; rfl) (by exact rfl) (by simp only [CA, Nat.reduceEqDiff, ↓reduceIte]; rfl) rfl ?_)
    | ((with_reducible refine chk_r ?_); refine r_callP (by simp only [CA, Nat.reduceEqDiff, ↓reduceIte]; rfl) (by simp only [CA, Nat.reduceEqDiff, ↓reduceIte]; rfl) (by first | exact q1 _ | exact q2 _) rfl ?_)
    | (with_reducible refine k_condP (by simp only [GA, Nat.reduceEqDiff, ↓reduceIte]; rfl) (by first | (simp only [BO]; rfl) | rfl) (fun ht => ?_) (fun ht => ?_) <;> try (first | exact False.elim ht | exact absurd rfl ht | exact absurd trivial ht | exact Bool.noConfusion ht))
    | (with_reducible refine k_ret ?_; repeat with_reducible (first | refine ret_thru ?_ | refine ret_blk ?_ | refine fin ?_))
    | (with_reducible refine k_exit ?_; repeat with_reducible (first | refine thru ?_ | refine out_blk ?_ | refine pass (by decide) ?_))
    | (refine post1 ?_; simp only [GA, Nat.reduceEqDiff, ↓reduceIte])
    | (refine post2 ?_; simp only [GA, Nat.reduceEqDiff, ↓reduceIte])
    | (refine post3 ?_; simp only [GA, Nat.reduceEqDiff, ↓reduceIte])
    | (refine postc (by simp only [GA, Nat.reduceEqDiff, ↓reduceIte]; rfl) (by simp (disch := omega) only [c47r0, c47r1, c47r2, c47r3, c47r4, c47r5, c47r6, c47r7, EV0, EV1, EV2, EV3, EV4, EV5, EV6, EV7, plug, ite_same, decide_true, decide_false, eq_self, ↓reduceIte, reduceCtorEq, Nat.reduceAdd, Nat.reduceEqDiff, Nat.reduceLT, Nat.reduceLeDiff, Nat.reduceMul, Nat.reduceSub, Nat.reduceDiv, Int.reduceToNat, Int.reduceAdd, Int.reduceSub, Int.reduceMul, Int.reduceNeg, Int.reduceEq, Int.reduceLT, Int.reduceLE]; rfl) ?_)
    | refine post0 ?_
  all_goals (unfold cmpv; first | (rw [if_pos (by omega)]) | (rw [if_neg (by omega), if_pos (by omega)]) | (rw [if_neg (by omega), if_neg (by omega)]))

/-- what Compare answers -/
def cv2 (a b c d : Int) : Int × Int := if a < 0 ∨ c < 0 ∨ b < 1 ∨ d < 1 then (0, 2) else (cmpv (a.toNat * d.toNat) (c.toNat * b.toNat), 0)
theorem f33 (a b c d : Int) (ha : a ≤ 9223372036854775807) (hb : b ≤ 9223372036854775807) (hc : c ≤ 9223372036854775807) (hd : d ≤ 9223372036854775807) (h : AH) :
    ACalls Try.prog 33 [.ag [.i .i64 a, .i .i64 b], .ag [.i .i64 c, .i .i64 d]] h fun r h' => r = .tu [.i .i64 (cv2 a b c d).1, .i .i64 (cv2 a b c d).2] ∧ h' = h := by
  refine pure_call (R := fun r => r = .tu [.i .i64 (cv2 a b c d).1, .i .i64 (cv2 a b c d).2]) (fun h0 _ _ => ?_) (fun r e => by rw [e]; rfl)
  refine a_fn fn33 (by simp) fun ok pos => ?_
  rw [initSt2]
  by_cases hbad : a < 0 ∨ c < 0 ∨ b < 1 ∨ d < 1
  · repeat' first
      | with_reducible refine k_seq ?_
      | with_reducible refine k_skip ?_
      | with_reducible refine k_blkS ?_
      | with_reducible refine k_reg ?_
      | with_reducible refine r_done ?_
      | with_reducible refine s_go (by simp (disch := omega) only [c33r0, c33r1, c33r2, c33r3, EV0, EV1, EV2, EV3, EV4, EV5, EV6, EV7, plug, ite_same, decide_true, decide_false, eq_self, ↓reduceIte, reduceCtorEq, Nat.reduceAdd, Nat.reduceEqDiff, Nat.reduceLT, Nat.reduceLeDiff, Nat.reduceMul, Nat.reduceSub, Nat.reduceDiv, Int.reduceToNat, Int.reduceAdd, Int.reduceSub, Int.reduceMul, Int.reduceNeg, Int.reduceEq, Int.reduceLT, Int.reduceLE]; with_reducible rfl) ?_
      | ((with_reducible refine chk_r ?_); refine r_callF (by simp only [CA, Nat.reduceEqDiff, ↓reduceIte]; rfl) (by exact rfl) (by simp only [CA, Nat.reduceEqDiff, ↓reduceIte]; rfl) rfl ?_)
      | (with_reducible refine k_condP (by simp only [GA, Nat.reduceEqDiff, ↓reduceIte]; rfl) (by first | (simp only [BO]; rfl) | rfl) (fun ht => ?_) (fun ht => ?_) <;> try (first | exact False.elim ht | exact absurd rfl ht | exact absurd trivial ht | exact Bool.noConfusion ht))
      | (with_reducible refine k_ret ?_; repeat with_reducible (first | refine ret_thru ?_ | refine ret_blk ?_ | refine fin ?_))
      | (with_reducible refine k_exit ?_; repeat with_reducible (first | refine thru ?_ | refine out_blk ?_ | refine pass (by decide) ?_))
      | (refine post1 ?_; simp only [GA, Nat.reduceEqDiff, ↓reduceIte])
      | (refine post2 ?_; simp only [GA, Nat.reduceEqDiff, ↓reduceIte])
      | (refine post3 ?_; simp only [GA, Nat.reduceEqDiff, ↓reduceIte])
      | (refine postc (by simp only [GA, Nat.reduceEqDiff, ↓reduceIte]; rfl) (by simp (disch := omega) only [c33r0, c33r1, c33r2, c33r3, EV0, EV1, EV2, EV3, EV4, EV5, EV6, EV7, plug, ite_same, decide_true, decide_false, eq_self, ↓reduceIte, reduceCtorEq, Nat.reduceAdd, Nat.reduceEqDiff, Nat.reduceLT, Nat.reduceLeDiff, Nat.reduceMul, Nat.reduceSub, Nat.reduceDiv, Int.reduceToNat, Int.reduceAdd, Int.reduceSub, Int.reduceMul, Int.reduceNeg, Int.reduceEq, Int.reduceLT, Int.reduceLE]; rfl) ?_)
      | refine post0 ?_
    · simp [cv2, hbad]
    · exfalso; omega
  · obtain ⟨A, rfl⟩ : ∃ A : Nat, a = A := ⟨a.toNat, by omega⟩
    obtain ⟨B, rfl⟩ : ∃ A : Nat, b = A := ⟨b.toNat, by omega⟩
    obtain ⟨C, rfl⟩ : ∃ A : Nat, c = A := ⟨c.toNat, by omega⟩
    obtain ⟨D, rfl⟩ : ∃ A : Nat, d = A := ⟨d.toNat, by omega⟩
    have e : cv2 (A : Int) B C D = (cmpv (A * D) (C * B), 0) := by unfold cv2; rw [if_neg hbad]; rfl
    rw [e]
    have q := f47 A B C D (by omega) (by omega) (by omega) (by omega)
    repeat' first
      | with_reducible refine k_seq ?_
      | with_reducible refine k_skip ?_
      | with_reducible refine k_blkS ?_
      | with_reducible refine k_reg ?_
      | with_reducible refine r_done ?_
      | with_reducible refine s_go (by simp (disch := omega) only [c33r0, c33r1, c33r2, c33r3, EV0, EV1, EV2, EV3, EV4, EV5, EV6, EV7, plug, ite_same, decide_true, decide_false, eq_self, ↓reduceIte, reduceCtorEq, Nat.reduceAdd, Nat.reduceEqDiff, Nat.reduceLT, Nat.reduceLeDiff, Nat.reduceMul, Nat.reduceSub, Nat.reduceDiv, Int.reduceToNat, Int.reduceAdd, Int.reduceSub, Int.reduceMul, Int.reduceNeg, Int.reduceEq, Int.reduceLT, Int.reduceLE]; with_reducible rfl) ?_
      | ((with_reducible refine chk_r ?_); refine r_callF (by simp only [CA, Nat.reduceEqDiff, ↓reduceIte]; rfl) (by exact rfl) (by simp only [CA, Nat.reduceEqDiff, ↓reduceIte]; rfl) rfl ?_)
      | ((with_reducible refine chk_r ?_); refine r_callP (by simp only [CA, Nat.reduceEqDiff, ↓reduceIte]; rfl) (by simp only [CA, Nat.reduceEqDiff, ↓reduceIte]; rfl) (by first | exact q _) rfl ?_)
      | (with_reducible refine k_condP (by simp only [GA, Nat.reduceEqDiff, ↓reduceIte]; rfl) (by first | (simp only [BO]; rfl) | rfl) (fun ht => ?_) (fun ht => ?_) <;> try (first | exact False.elim ht | exact absurd rfl ht | exact absurd trivial ht | exact Bool.noConfusion ht))
      | (with_reducible refine k_ret ?_; repeat with_reducible (first | refine ret_thru ?_ | refine ret_blk ?_ | refine fin ?_))
      | (with_reducible refine k_exit ?_; repeat with_reducible (first | refine thru ?_ | refine out_blk ?_ | refine pass (by decide) ?_))
      | (refine post1 ?_; simp only [GA, Nat.reduceEqDiff, ↓reduceIte])
      | (refine post2 ?_; simp only [GA, Nat.reduceEqDiff, ↓reduceIte])
      | (refine post3 ?_; simp only [GA, Nat.reduceEqDiff, ↓reduceIte])
      | (refine postc (by simp only [GA, Nat.reduceEqDiff, ↓reduceIte]; rfl) (by simp (disch := omega) only [c33r0, c33r1, c33r2, c33r3, EV0, EV1, EV2, EV3, EV4, EV5, EV6, EV7, plug, ite_same, decide_true, decide_false, eq_self, ↓reduceIte, reduceCtorEq, Nat.reduceAdd, Nat.reduceEqDiff, Nat.reduceLT, Nat.reduceLeDiff, Nat.reduceMul, Nat.reduceSub, Nat.reduceDiv, Int.reduceToNat, Int.reduceAdd, Int.reduceSub, Int.reduceMul, Int.reduceNeg, Int.reduceEq, Int.reduceLT, Int.reduceLE]; rfl) ?_)
      | refine post0 ?_
    exfalso; omega

/-! ### Order: by whole parts and what is left -/
theorem cmp_lt {a b c d : Nat} (hb : 0 < b) (hd : 0 < d) (h : a / b < c / d) : a * d < c * b := by
  have h1 : a < (a / b + 1) * b := by have := Nat.div_add_mod a b; have := Nat.mod_lt a hb; rw [Nat.add_mul, Nat.one_mul, Nat.mul_comm (a / b) b]; omega
  have h2 : c / d * d ≤ c := Nat.div_mul_le_self c d
  have h3 : (a / b + 1) * b * d ≤ c / d * d * b := by
    rw [Nat.mul_right_comm (c / d) d b]
    exact Nat.mul_le_mul_right d (Nat.mul_le_mul_right b h)
  have h4 : a * d < (a / b + 1) * b * d := Nat.mul_lt_mul_of_pos_right h1 hd
  have h5 : c / d * d * b ≤ c * b := Nat.mul_le_mul_right b h2
  omega
theorem cmp_eq {a b c d : Nat} (h : a / b = c / d) : cmpv (a * d) (c * b) = cmpv (a % b * d) (c % d * b) := by
  have h1 : a * d = b * (a / b) * d + a % b * d := by rw [← Nat.add_mul, Nat.div_add_mod]
  have h2 : c * b = d * (c / d) * b + c % d * b := by rw [← Nat.add_mul, Nat.div_add_mod]
  have h3 : b * (a / b) * d = d * (c / d) * b := by rw [h, Nat.mul_right_comm, Nat.mul_right_comm d, Nat.mul_comm b d]
  rw [h1, h2, h3]
  unfold cmpv
  split <;> split <;> (try split) <;> (try split) <;> omega
theorem tdiv_nat (a b : Nat) : ((a : Int).tdiv b) = ((a / b : Nat) : Int) := by rw [Int.tdiv_eq_ediv_of_nonneg (by omega)]; rfl
theorem tmod_nat (a b : Nat) : ((a : Int).tmod b) = ((a % b : Nat) : Int) := by rw [Int.tmod_eq_emod_of_nonneg (by omega)]; rfl

theorem f48 : ∀ (n a b c d : Nat), b + d ≤ n → 0 < b → 0 < d → a < 9223372036854775808 → b < 9223372036854775808 → c < 9223372036854775808 → d < 9223372036854775808 → ∀ h : AH,
    ACalls Try.prog 48 [.i .i64 a, .i .i64 b, .i .i64 c, .i .i64 d] h fun r h' => r = .i .i64 (cmpv (a * d) (c * b)) ∧ h' = h
  | 0, a, b, c, d, hn, hb, hd, _, _, _, _, h => by omega
  | n + 1, a, b, c, d, hn, hb, hd, ha', hb', hc', hd', h => by
    refine pure_call (R := fun r => r = .i .i64 (cmpv (a * d) (c * b))) (fun h0 _ _ => ?_) (fun r e => by rw [e]; rfl)
    refine a_fn fn48 (by simp) fun ok pos => ?_
    rw [initSt4]
    have l1 := Nat.mod_lt a hb
    have l2 := Nat.mod_lt c hd
    have l3 : a / b ≤ a := Nat.div_le_self a b
    have l4 : c / d ≤ c := Nat.div_le_self c d
    have n1 : (b : Int) ≠ 0 := by omega
    have n2 : (d : Int) ≠ 0 := by omega
    have q := fun h1 h2 => f48 n d (c % d) b (a % b) (by omega) h1 h2 hd' (by omega) hb' (by omega)
    have k1 := @cmp_lt a b c d hb hd
    have k2 := @cmp_lt c d a b hd hb
    have k3 := @cmp_eq a b c d
    have k4 : cmpv (d * (a % b)) (b * (c % d)) = cmpv (a % b * d) (c % d * b) := by rw [Nat.mul_comm d, Nat.mul_comm b]
    rw [k4] at q
    generalize hr : a % b = r at *
    generalize hs : c % d = s at *
    generalize hp : a / b = p at *
    generalize hq : c / d = t at *
    have e1 := tdiv_nat a b
    have e2 := tdiv_nat c d
    have e3 := tmod_nat a b
    have e4 := tmod_nat c d
    rw [hp] at e1
    rw [hq] at e2
    rw [hr] at e3
    rw [hs] at e4
    repeat' first
      | with_reducible refine k_seq ?_
      | with_reducible refine k_skip ?_
      | with_reducible refine k_blkS ?_
      | with_reducible refine k_reg ?_
      | with_reducible refine k_head ?_
      | with_reducible refine r_done ?_
      | with_reducible refine hr_done ?_
      | with_reducible refine s_go (by simp (disch := omega) only [e1, e2, e3, e4, n1, n2, c48r0, c48r1, c48r2, c48r3, c48r4, c48r5, c48r6, c48r7, c48r8, c48r9, EV0, EV1, EV2, EV3, EV4, EV5, EV6, EV7, plug, ite_same, decide_true, decide_false, eq_self, ↓reduceIte, reduceCtorEq, Nat.reduceAdd, Nat.reduceEqDiff, Nat.reduceLT, Nat.reduceLeDiff, Nat.reduceMul, Nat.reduceSub, Nat.reduceDiv, Int.reduceToNat, Int.reduceAdd, Int.reduceSub, Int.reduceMul, Int.reduceNeg, Int.reduceEq, Int.reduceLT, Int.reduceLE]; with_reducible rfl) ?_
      | with_reducible refine h_go (by with_unfolding_all rfl) (by simp (disch := omega) only [e1, e2, e3, e4, n1, n2, c48r0, c48r1, c48r2, c48r3, c48r4, c48r5, c48r6, c48r7, c48r8, c48r9, EV0, EV1, EV2, EV3, EV4, EV5, EV6, EV7, plug, ite_same, decide_true, decide_false, eq_self, ↓reduceIte, reduceCtorEq, Nat.reduceAdd, Nat.reduceEqDiff, Nat.reduceLT, Nat.reduceLeDiff, Nat.reduceMul, Nat.reduceSub, Nat.reduceDiv, Int.reduceToNat, Int.reduceAdd, Int.reduceSub, Int.reduceMul, Int.reduceNeg, Int.reduceEq, Int.reduceLT, Int.reduceLE]; with_reducible rfl) ?_
      | ((with_reducible refine chk_r ?_); refine r_callF (by simp only [CA, Nat.reduceEqDiff, ↓reduceIte]; rfl) (by exact rfl) (by simp only [CA, Nat.reduceEqDiff, ↓reduceIte]; rfl) rfl ?_)
      | ((with_reducible refine chk_h ?_); refine hr_callF (by simp only [CA, Nat.reduceEqDiff, ↓reduceIte]; rfl) (by exact rfl) (by simp only [CA, Nat.reduceEqDiff, ↓reduceIte]; rfl) rfl ?_)
      | ((with_reducible refine chk_r ?_); refine r_callP (by simp only [CA, Nat.reduceEqDiff, ↓reduceIte]; rfl) (by simp only [CA, Nat.reduceEqDiff, ↓reduceIte]; rfl) (by first | (refine q ?_ ?_ _ <;> omega)) rfl ?_)
      | ((with_reducible refine chk_h ?_); refine hr_callP (by simp only [CA, Nat.reduceEqDiff, ↓reduceIte]; rfl) (by simp only [CA, Nat.reduceEqDiff, ↓reduceIte]; rfl) (by first | (refine q ?_ ?_ _ <;> omega)) rfl ?_)
      | (with_reducible refine k_condP (by simp only [GA, Nat.reduceEqDiff, ↓reduceIte]; rfl) (by first | (simp only [BO]; rfl) | rfl) (fun ht => ?_) (fun ht => ?_) <;> try (first | exact False.elim ht | exact absurd rfl ht | exact absurd trivial ht | exact Bool.noConfusion ht))
      | (with_reducible refine k_ret ?_; repeat with_reducible (first | refine ret_thru ?_ | refine ret_blk ?_ | refine fin ?_))
      | (with_reducible refine k_exit ?_; repeat with_reducible (first | refine thru ?_ | refine out_blk ?_ | refine pass (by decide) ?_))
      | (refine post1 ?_; simp only [GA, Nat.reduceEqDiff, ↓reduceIte])
      | (refine post2 ?_; simp only [GA, Nat.reduceEqDiff, ↓reduceIte])
      | (refine post3 ?_; simp only [GA, Nat.reduceEqDiff, ↓reduceIte])
      | (refine postc (by simp only [GA, Nat.reduceEqDiff, ↓reduceIte]; rfl) (by simp (disch := omega) only [e1, e2, e3, e4, n1, n2, c48r0, c48r1, c48r2, c48r3, c48r4, c48r5, c48r6, c48r7, c48r8, c48r9, EV0, EV1, EV2, EV3, EV4, EV5, EV6, EV7, plug, ite_same, decide_true, decide_false, eq_self, ↓reduceIte, reduceCtorEq, Nat.reduceAdd, Nat.reduceEqDiff, Nat.reduceLT, Nat.reduceLeDiff, Nat.reduceMul, Nat.reduceSub, Nat.reduceDiv, Int.reduceToNat, Int.reduceAdd, Int.reduceSub, Int.reduceMul, Int.reduceNeg, Int.reduceEq, Int.reduceLT, Int.reduceLE]; rfl) ?_)
      | refine post0 ?_
    · have := k1 (by omega)
      unfold cmpv; rw [if_pos this]
    · have := k2 (by omega)
      unfold cmpv; rw [if_neg (by omega), if_neg (by omega)]
    · rw [k3 (by omega)]
      by_cases r0 : r = 0
      · subst r0
        by_cases s0 : s = 0
        · subst s0; simp [cmpv]
        · have := Nat.mul_pos (show 0 < s by omega) hb
          unfold cmpv; rw [if_pos (by omega), show min ((0 : Nat) : Int) 1 = 0 by omega, show min (s : Int) 1 = 1 by omega]; rfl
      · have s0 : s = 0 := by omega
        subst s0
        have := Nat.mul_pos (show 0 < r by omega) hd
        unfold cmpv; rw [if_neg (by omega), if_neg (by omega), show min ((0 : Nat) : Int) 1 = 0 by omega, show min (r : Int) 1 = 1 by omega]; rfl
    · rw [k3 (by omega)]
end Go.Proofs.Ytappehafkjcabaa
