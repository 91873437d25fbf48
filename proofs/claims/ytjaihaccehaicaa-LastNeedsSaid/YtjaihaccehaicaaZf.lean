/- What the proof of the law needs: the abstract machine, the functions as it reads them, their contracts, part 6. -/
import Derived.Test.YtjaihaccehaicaaZe
set_option linter.unusedVariables false
set_option linter.unusedSimpArgs false
namespace Go.Proofs.Ytjaihaccehaicaa
open Go Go.Am Go.Proofs
/-! ### check f41, single f43 -/
def chk (l : List Sz) (m : List Hd) : Int := if szsOk l = false then 31 else if hdsOk m = false then 30 else 0
theorem pc41 (l : List Sz) (m : List Hd) (hl : l.length ≤ 9223372036854775807) (hm : m.length ≤ 9223372036854775807) : PC Try.prog 41 [vZ l, vH m] (.i .i64 (chk l m)) := by
  have q1 := pc59 l hl
  have q2 := pc60 m hm
  unfold chk
  refine pc_fn fn41 (by simp only [AV.plains, AV.plain, il_plain, bl_plain, Bool.and_true, Bool.true_and, Bool.and_self, fleZ_plain, fleH_plain]) (by simp only [AV.plains, AV.plain, il_plain, bl_plain, Bool.and_true, Bool.true_and, Bool.and_self, fleZ_plain, fleH_plain]) (Nat.le_of_ble_eq_true rfl) ?_
  rw [initSt2]
  cases c1 : szsOk l with
  | false =>
    rw [c1] at q1
    rw [if_pos rfl]
    repeat' first
      | with_reducible refine k_seq ?_
      | with_reducible refine k_skip ?_
      | with_reducible refine k_blkS ?_
      | with_reducible refine k_blkR ?_
      | with_reducible refine k_blkC ?_
      | with_reducible refine k_blkH ?_
      | with_reducible refine k_blkB ?_
      | with_reducible refine k_blkK ?_
      | with_reducible refine k_blkE ?_
      | with_reducible refine k_reg ?_
      | with_reducible refine r_done ?_
      | with_reducible refine s_go (by simp (disch := omega) only [c41r0, c41r1, c41r2, c41r3, c41r4, c41r5, EV0, EV1, EV2, EV3, EV4, EV5, EV6, EV7, EV8, VALS, plug, ite_same, decide_true, decide_false, eq_self, ↓reduceIte, reduceCtorEq, Nat.reduceAdd, Nat.reduceEqDiff, Nat.reduceLT, Nat.reduceLeDiff, Nat.reduceMul, Nat.reduceSub, Nat.reduceDiv, Int.reduceToNat, Int.reduceAdd, Int.reduceSub, Int.reduceMul, Int.reduceNeg, Int.reduceEq, Int.reduceLT, Int.reduceLE]; with_reducible rfl) ?_
      | ((with_reducible refine chk_r ?_); refine r_callF (by simp only [CA, Nat.reduceEqDiff, ↓reduceIte]; rfl) (by exact rfl) (by simp only [CA, Nat.reduceEqDiff, ↓reduceIte]; rfl) rfl ?_)
      | ((with_reducible refine chk_r ?_); refine r_callP (by simp only [CA, Nat.reduceEqDiff, ↓reduceIte]; rfl) (by simp only [CA, Nat.reduceEqDiff, ↓reduceIte]; rfl) (by first | exact q1 _) rfl ?_)
      | (with_reducible refine k_condP (by simp only [GA, Nat.reduceEqDiff, ↓reduceIte]; rfl) (by first | (simp only [BO]; rfl) | rfl) (fun ht => ?_) (fun ht => ?_) <;> try (first | exact False.elim ht | exact absurd rfl ht | exact absurd trivial ht | exact Bool.noConfusion ht))
      | (with_reducible refine k_ret ?_; repeat with_reducible (first | refine ret_thru ?_ | refine ret_blk ?_ | refine fin ?_))
      | (with_reducible refine k_exit ?_; repeat with_reducible (first | refine thru ?_ | refine out_blk ?_ | refine pass (by decide) ?_))
      | (refine post1 ?_; simp only [GA, Nat.reduceEqDiff, ↓reduceIte])
      | (refine post2 ?_; simp only [GA, Nat.reduceEqDiff, ↓reduceIte])
      | (refine post3 ?_; simp only [GA, Nat.reduceEqDiff, ↓reduceIte])
      | (refine postc (by simp only [GA, Nat.reduceEqDiff, ↓reduceIte]; rfl) (by simp (disch := omega) only [c41r0, c41r1, c41r2, c41r3, c41r4, c41r5, EV0, EV1, EV2, EV3, EV4, EV5, EV6, EV7, EV8, VALS, plug, ite_same, decide_true, decide_false, eq_self, ↓reduceIte, reduceCtorEq, Nat.reduceAdd, Nat.reduceEqDiff, Nat.reduceLT, Nat.reduceLeDiff, Nat.reduceMul, Nat.reduceSub, Nat.reduceDiv, Int.reduceToNat, Int.reduceAdd, Int.reduceSub, Int.reduceMul, Int.reduceNeg, Int.reduceEq, Int.reduceLT, Int.reduceLE]; rfl) ?_)
      | refine post0 ?_
    all_goals first | exact ends_of | exact ends_eq rfl
  | true =>
    rw [c1] at q1
    rw [if_neg (by simp)]
    cases c2 : hdsOk m with
    | false =>
      rw [c2] at q2
      rw [if_pos rfl]
      repeat' first
        | with_reducible refine k_seq ?_
        | with_reducible refine k_skip ?_
        | with_reducible refine k_blkS ?_
        | with_reducible refine k_blkR ?_
        | with_reducible refine k_blkC ?_
        | with_reducible refine k_blkH ?_
        | with_reducible refine k_blkB ?_
        | with_reducible refine k_blkK ?_
        | with_reducible refine k_blkE ?_
        | with_reducible refine k_reg ?_
        | with_reducible refine r_done ?_
        | with_reducible refine s_go (by simp (disch := omega) only [c41r0, c41r1, c41r2, c41r3, c41r4, c41r5, EV0, EV1, EV2, EV3, EV4, EV5, EV6, EV7, EV8, VALS, plug, ite_same, decide_true, decide_false, eq_self, ↓reduceIte, reduceCtorEq, Nat.reduceAdd, Nat.reduceEqDiff, Nat.reduceLT, Nat.reduceLeDiff, Nat.reduceMul, Nat.reduceSub, Nat.reduceDiv, Int.reduceToNat, Int.reduceAdd, Int.reduceSub, Int.reduceMul, Int.reduceNeg, Int.reduceEq, Int.reduceLT, Int.reduceLE]; with_reducible rfl) ?_
        | ((with_reducible refine chk_r ?_); refine r_callF (by simp only [CA, Nat.reduceEqDiff, ↓reduceIte]; rfl) (by exact rfl) (by simp only [CA, Nat.reduceEqDiff, ↓reduceIte]; rfl) rfl ?_)
        | ((with_reducible refine chk_r ?_); refine r_callP (by simp only [CA, Nat.reduceEqDiff, ↓reduceIte]; rfl) (by simp only [CA, Nat.reduceEqDiff, ↓reduceIte]; rfl) (by first | exact q1 _ | exact q2 _) rfl ?_)
        | (with_reducible refine k_condP (by simp only [GA, Nat.reduceEqDiff, ↓reduceIte]; rfl) (by first | (simp only [BO]; rfl) | rfl) (fun ht => ?_) (fun ht => ?_) <;> try (first | exact False.elim ht | exact absurd rfl ht | exact absurd trivial ht | exact Bool.noConfusion ht))
        | (with_reducible refine k_ret ?_; repeat with_reducible (first | refine ret_thru ?_ | refine ret_blk ?_ | refine fin ?_))
        | (with_reducible refine k_exit ?_; repeat with_reducible (first | refine thru ?_ | refine out_blk ?_ | refine pass (by decide) ?_))
        | (refine post1 ?_; simp only [GA, Nat.reduceEqDiff, ↓reduceIte])
        | (refine post2 ?_; simp only [GA, Nat.reduceEqDiff, ↓reduceIte])
        | (refine post3 ?_; simp only [GA, Nat.reduceEqDiff, ↓reduceIte])
        | (refine postc (by simp only [GA, Nat.reduceEqDiff, ↓reduceIte]; rfl) (by simp (disch := omega) only [c41r0, c41r1, c41r2, c41r3, c41r4, c41r5, EV0, EV1, EV2, EV3, EV4, EV5, EV6, EV7, EV8, VALS, plug, ite_same, decide_true, decide_false, eq_self, ↓reduceIte, reduceCtorEq, Nat.reduceAdd, Nat.reduceEqDiff, Nat.reduceLT, Nat.reduceLeDiff, Nat.reduceMul, Nat.reduceSub, Nat.reduceDiv, Int.reduceToNat, Int.reduceAdd, Int.reduceSub, Int.reduceMul, Int.reduceNeg, Int.reduceEq, Int.reduceLT, Int.reduceLE]; rfl) ?_)
        | refine post0 ?_
      all_goals first | exact ends_of | exact ends_eq rfl
    | true =>
      rw [c2] at q2
      rw [if_neg (by simp)]
      repeat' first
        | with_reducible refine k_seq ?_
        | with_reducible refine k_skip ?_
        | with_reducible refine k_blkS ?_
        | with_reducible refine k_blkR ?_
        | with_reducible refine k_blkC ?_
        | with_reducible refine k_blkH ?_
        | with_reducible refine k_blkB ?_
        | with_reducible refine k_blkK ?_
        | with_reducible refine k_blkE ?_
        | with_reducible refine k_reg ?_
        | with_reducible refine r_done ?_
        | with_reducible refine s_go (by simp (disch := omega) only [c41r0, c41r1, c41r2, c41r3, c41r4, c41r5, EV0, EV1, EV2, EV3, EV4, EV5, EV6, EV7, EV8, VALS, plug, ite_same, decide_true, decide_false, eq_self, ↓reduceIte, reduceCtorEq, Nat.reduceAdd, Nat.reduceEqDiff, Nat.reduceLT, Nat.reduceLeDiff, Nat.reduceMul, Nat.reduceSub, Nat.reduceDiv, Int.reduceToNat, Int.reduceAdd, Int.reduceSub, Int.reduceMul, Int.reduceNeg, Int.reduceEq, Int.reduceLT, Int.reduceLE]; with_reducible rfl) ?_
        | ((with_reducible refine chk_r ?_); refine r_callF (by simp only [CA, Nat.reduceEqDiff, ↓reduceIte]; rfl) (by exact rfl) (by simp only [CA, Nat.reduceEqDiff, ↓reduceIte]; rfl) rfl ?_)
        | ((with_reducible refine chk_r ?_); refine r_callP (by simp only [CA, Nat.reduceEqDiff, ↓reduceIte]; rfl) (by simp only [CA, Nat.reduceEqDiff, ↓reduceIte]; rfl) (by first | exact q1 _ | exact q2 _) rfl ?_)
        | (with_reducible refine k_condP (by simp only [GA, Nat.reduceEqDiff, ↓reduceIte]; rfl) (by first | (simp only [BO]; rfl) | rfl) (fun ht => ?_) (fun ht => ?_) <;> try (first | exact False.elim ht | exact absurd rfl ht | exact absurd trivial ht | exact Bool.noConfusion ht))
        | (with_reducible refine k_ret ?_; repeat with_reducible (first | refine ret_thru ?_ | refine ret_blk ?_ | refine fin ?_))
        | (with_reducible refine k_exit ?_; repeat with_reducible (first | refine thru ?_ | refine out_blk ?_ | refine pass (by decide) ?_))
        | (refine post1 ?_; simp only [GA, Nat.reduceEqDiff, ↓reduceIte])
        | (refine post2 ?_; simp only [GA, Nat.reduceEqDiff, ↓reduceIte])
        | (refine post3 ?_; simp only [GA, Nat.reduceEqDiff, ↓reduceIte])
        | (refine postc (by simp only [GA, Nat.reduceEqDiff, ↓reduceIte]; rfl) (by simp (disch := omega) only [c41r0, c41r1, c41r2, c41r3, c41r4, c41r5, EV0, EV1, EV2, EV3, EV4, EV5, EV6, EV7, EV8, VALS, plug, ite_same, decide_true, decide_false, eq_self, ↓reduceIte, reduceCtorEq, Nat.reduceAdd, Nat.reduceEqDiff, Nat.reduceLT, Nat.reduceLeDiff, Nat.reduceMul, Nat.reduceSub, Nat.reduceDiv, Int.reduceToNat, Int.reduceAdd, Int.reduceSub, Int.reduceMul, Int.reduceNeg, Int.reduceEq, Int.reduceLT, Int.reduceLE]; rfl) ?_)
        | refine post0 ?_
      all_goals first | exact ends_of | exact ends_eq rfl
def sgl (s : Sz) (x : Hd) : Int := if szOk s = false then 31 else if hdOk x = false then 30 else 0
theorem pc43 (s : Sz) (x : Hd) : PC Try.prog 43 [.ag (eZ s), .ag (eH x)] (.i .i64 (sgl s x)) := by
  have q1 := pc40 s
  have q2 := pc61 x
  unfold sgl
  refine pc_fn fn43 (by simp only [AV.plains, AV.plain, il_plain, bl_plain, Bool.and_true, Bool.true_and, Bool.and_self]) (by simp only [AV.plains, AV.plain, il_plain, bl_plain, Bool.and_true, Bool.true_and, Bool.and_self]) (Nat.le_of_ble_eq_true rfl) ?_
  rw [initSt2]
  cases c1 : szOk s with
  | false =>
    rw [c1] at q1
    rw [if_pos rfl]
    repeat' first
      | with_reducible refine k_seq ?_
      | with_reducible refine k_skip ?_
      | with_reducible refine k_blkS ?_
      | with_reducible refine k_blkR ?_
      | with_reducible refine k_blkC ?_
      | with_reducible refine k_blkH ?_
      | with_reducible refine k_blkB ?_
      | with_reducible refine k_blkK ?_
      | with_reducible refine k_blkE ?_
      | with_reducible refine k_reg ?_
      | with_reducible refine r_done ?_
      | with_reducible refine s_go (by simp (disch := omega) only [eZ_rd, eH_rd, c43r0, c43r1, c43r2, c43r3, c43r4, c43r5, EV0, EV1, EV2, EV3, EV4, EV5, EV6, EV7, EV8, VALS, plug, ite_same, decide_true, decide_false, eq_self, ↓reduceIte, reduceCtorEq, Nat.reduceAdd, Nat.reduceEqDiff, Nat.reduceLT, Nat.reduceLeDiff, Nat.reduceMul, Nat.reduceSub, Nat.reduceDiv, Int.reduceToNat, Int.reduceAdd, Int.reduceSub, Int.reduceMul, Int.reduceNeg, Int.reduceEq, Int.reduceLT, Int.reduceLE]; with_reducible rfl) ?_
      | ((with_reducible refine chk_r ?_); refine r_callF (by simp only [CA, Nat.reduceEqDiff, ↓reduceIte]; rfl) (by exact rfl) (by simp only [CA, Nat.reduceEqDiff, ↓reduceIte]; rfl) rfl ?_)
      | ((with_reducible refine chk_r ?_); refine r_callP (by simp only [CA, Nat.reduceEqDiff, ↓reduceIte]; rfl) (by simp only [CA, Nat.reduceEqDiff, ↓reduceIte]; rfl) (by first | exact q1 _) rfl ?_)
      | (with_reducible refine k_condP (by simp only [GA, Nat.reduceEqDiff, ↓reduceIte]; rfl) (by first | (simp only [BO]; rfl) | rfl) (fun ht => ?_) (fun ht => ?_) <;> try (first | exact False.elim ht | exact absurd rfl ht | exact absurd trivial ht | exact Bool.noConfusion ht))
      | (with_reducible refine k_ret ?_; repeat with_reducible (first | refine ret_thru ?_ | refine ret_blk ?_ | refine fin ?_))
      | (with_reducible refine k_exit ?_; repeat with_reducible (first | refine thru ?_ | refine out_blk ?_ | refine pass (by decide) ?_))
      | (refine post1 ?_; simp only [GA, Nat.reduceEqDiff, ↓reduceIte])
      | (refine post2 ?_; simp only [GA, Nat.reduceEqDiff, ↓reduceIte])
      | (refine post3 ?_; simp only [GA, Nat.reduceEqDiff, ↓reduceIte])
      | (refine postc (by simp only [GA, Nat.reduceEqDiff, ↓reduceIte]; rfl) (by simp (disch := omega) only [eZ_rd, eH_rd, c43r0, c43r1, c43r2, c43r3, c43r4, c43r5, EV0, EV1, EV2, EV3, EV4, EV5, EV6, EV7, EV8, VALS, plug, ite_same, decide_true, decide_false, eq_self, ↓reduceIte, reduceCtorEq, Nat.reduceAdd, Nat.reduceEqDiff, Nat.reduceLT, Nat.reduceLeDiff, Nat.reduceMul, Nat.reduceSub, Nat.reduceDiv, Int.reduceToNat, Int.reduceAdd, Int.reduceSub, Int.reduceMul, Int.reduceNeg, Int.reduceEq, Int.reduceLT, Int.reduceLE]; rfl) ?_)
      | refine post0 ?_
    all_goals first | exact ends_of | exact ends_eq rfl
  | true =>
    rw [c1] at q1
    rw [if_neg (by simp)]
    cases c2 : hdOk x with
    | false =>
      rw [c2] at q2
      rw [if_pos rfl]
      repeat' first
        | with_reducible refine k_seq ?_
        | with_reducible refine k_skip ?_
        | with_reducible refine k_blkS ?_
        | with_reducible refine k_blkR ?_
        | with_reducible refine k_blkC ?_
        | with_reducible refine k_blkH ?_
        | with_reducible refine k_blkB ?_
        | with_reducible refine k_blkK ?_
        | with_reducible refine k_blkE ?_
        | with_reducible refine k_reg ?_
        | with_reducible refine r_done ?_
        | with_reducible refine s_go (by simp (disch := omega) only [eZ_rd, eH_rd, c43r0, c43r1, c43r2, c43r3, c43r4, c43r5, EV0, EV1, EV2, EV3, EV4, EV5, EV6, EV7, EV8, VALS, plug, ite_same, decide_true, decide_false, eq_self, ↓reduceIte, reduceCtorEq, Nat.reduceAdd, Nat.reduceEqDiff, Nat.reduceLT, Nat.reduceLeDiff, Nat.reduceMul, Nat.reduceSub, Nat.reduceDiv, Int.reduceToNat, Int.reduceAdd, Int.reduceSub, Int.reduceMul, Int.reduceNeg, Int.reduceEq, Int.reduceLT, Int.reduceLE]; with_reducible rfl) ?_
        | ((with_reducible refine chk_r ?_); refine r_callF (by simp only [CA, Nat.reduceEqDiff, ↓reduceIte]; rfl) (by exact rfl) (by simp only [CA, Nat.reduceEqDiff, ↓reduceIte]; rfl) rfl ?_)
        | ((with_reducible refine chk_r ?_); refine r_callP (by simp only [CA, Nat.reduceEqDiff, ↓reduceIte]; rfl) (by simp only [CA, Nat.reduceEqDiff, ↓reduceIte]; rfl) (by first | exact q1 _ | exact q2 _) rfl ?_)
        | (with_reducible refine k_condP (by simp only [GA, Nat.reduceEqDiff, ↓reduceIte]; rfl) (by first | (simp only [BO]; rfl) | rfl) (fun ht => ?_) (fun ht => ?_) <;> try (first | exact False.elim ht | exact absurd rfl ht | exact absurd trivial ht | exact Bool.noConfusion ht))
        | (with_reducible refine k_ret ?_; repeat with_reducible (first | refine ret_thru ?_ | refine ret_blk ?_ | refine fin ?_))
        | (with_reducible refine k_exit ?_; repeat with_reducible (first | refine thru ?_ | refine out_blk ?_ | refine pass (by decide) ?_))
        | (refine post1 ?_; simp only [GA, Nat.reduceEqDiff, ↓reduceIte])
        | (refine post2 ?_; simp only [GA, Nat.reduceEqDiff, ↓reduceIte])
        | (refine post3 ?_; simp only [GA, Nat.reduceEqDiff, ↓reduceIte])
        | (refine postc (by simp only [GA, Nat.reduceEqDiff, ↓reduceIte]; rfl) (by simp (disch := omega) only [eZ_rd, eH_rd, c43r0, c43r1, c43r2, c43r3, c43r4, c43r5, EV0, EV1, EV2, EV3, EV4, EV5, EV6, EV7, EV8, VALS, plug, ite_same, decide_true, decide_false, eq_self, ↓reduceIte, reduceCtorEq, Nat.reduceAdd, Nat.reduceEqDiff, Nat.reduceLT, Nat.reduceLeDiff, Nat.reduceMul, Nat.reduceSub, Nat.reduceDiv, Int.reduceToNat, Int.reduceAdd, Int.reduceSub, Int.reduceMul, Int.reduceNeg, Int.reduceEq, Int.reduceLT, Int.reduceLE]; rfl) ?_)
        | refine post0 ?_
      all_goals first | exact ends_of | exact ends_eq rfl
    | true =>
      rw [c2] at q2
      rw [if_neg (by simp)]
      repeat' first
        | with_reducible refine k_seq ?_
        | with_reducible refine k_skip ?_
        | with_reducible refine k_blkS ?_
        | with_reducible refine k_blkR ?_
        | with_reducible refine k_blkC ?_
        | with_reducible refine k_blkH ?_
        | with_reducible refine k_blkB ?_
        | with_reducible refine k_blkK ?_
        | with_reducible refine k_blkE ?_
        | with_reducible refine k_reg ?_
        | with_reducible refine r_done ?_
        | with_reducible refine s_go (by simp (disch := omega) only [eZ_rd, eH_rd, c43r0, c43r1, c43r2, c43r3, c43r4, c43r5, EV0, EV1, EV2, EV3, EV4, EV5, EV6, EV7, EV8, VALS, plug, ite_same, decide_true, decide_false, eq_self, ↓reduceIte, reduceCtorEq, Nat.reduceAdd, Nat.reduceEqDiff, Nat.reduceLT, Nat.reduceLeDiff, Nat.reduceMul, Nat.reduceSub, Nat.reduceDiv, Int.reduceToNat, Int.reduceAdd, Int.reduceSub, Int.reduceMul, Int.reduceNeg, Int.reduceEq, Int.reduceLT, Int.reduceLE]; with_reducible rfl) ?_
        | ((with_reducible refine chk_r ?_); refine r_callF (by simp only [CA, Nat.reduceEqDiff, ↓reduceIte]; rfl) (by exact rfl) (by simp only [CA, Nat.reduceEqDiff, ↓reduceIte]; rfl) rfl ?_)
        | ((with_reducible refine chk_r ?_); refine r_callP (by simp only [CA, Nat.reduceEqDiff, ↓reduceIte]; rfl) (by simp only [CA, Nat.reduceEqDiff, ↓reduceIte]; rfl) (by first | exact q1 _ | exact q2 _) rfl ?_)
        | (with_reducible refine k_condP (by simp only [GA, Nat.reduceEqDiff, ↓reduceIte]; rfl) (by first | (simp only [BO]; rfl) | rfl) (fun ht => ?_) (fun ht => ?_) <;> try (first | exact False.elim ht | exact absurd rfl ht | exact absurd trivial ht | exact Bool.noConfusion ht))
        | (with_reducible refine k_ret ?_; repeat with_reducible (first | refine ret_thru ?_ | refine ret_blk ?_ | refine fin ?_))
        | (with_reducible refine k_exit ?_; repeat with_reducible (first | refine thru ?_ | refine out_blk ?_ | refine pass (by decide) ?_))
        | (refine post1 ?_; simp only [GA, Nat.reduceEqDiff, ↓reduceIte])
        | (refine post2 ?_; simp only [GA, Nat.reduceEqDiff, ↓reduceIte])
        | (refine post3 ?_; simp only [GA, Nat.reduceEqDiff, ↓reduceIte])
        | (refine postc (by simp only [GA, Nat.reduceEqDiff, ↓reduceIte]; rfl) (by simp (disch := omega) only [eZ_rd, eH_rd, c43r0, c43r1, c43r2, c43r3, c43r4, c43r5, EV0, EV1, EV2, EV3, EV4, EV5, EV6, EV7, EV8, VALS, plug, ite_same, decide_true, decide_false, eq_self, ↓reduceIte, reduceCtorEq, Nat.reduceAdd, Nat.reduceEqDiff, Nat.reduceLT, Nat.reduceLeDiff, Nat.reduceMul, Nat.reduceSub, Nat.reduceDiv, Int.reduceToNat, Int.reduceAdd, Int.reduceSub, Int.reduceMul, Int.reduceNeg, Int.reduceEq, Int.reduceLT, Int.reduceLE]; rfl) ?_)
        | refine post0 ?_
      all_goals first | exact ends_of | exact ends_eq rfl
theorem chk_one (s : Sz) (x : Hd) : chk [s] [x] = sgl s x := by
  have e1 : szsOk [s] = szOk s := by
    rw [Bool.eq_iff_iff, szsOk_iff]
    simp [zD]
  have e2 : hdsOk [x] = hdOk x := by
    rw [Bool.eq_iff_iff, hdsOk_iff]
    simp [hD]
  unfold chk sgl
  rw [e1, e2]
theorem sgl_ok {s : Sz} {x : Hd} (h : sgl s x = 0) : szOk s = true ∧ hdOk x = true := by
  unfold sgl at h
  cases c1 : szOk s <;> cases c2 : hdOk x <;> simp [c1, c2] at h ⊢
/-! ### need f42 f44 -/
def nd (s : Sz) (x : Hd) (j : Nat) : Int := max (max (s.F j - x.M j) (x.M j - s.T j)) 0
def nG (s : Sz) (x : Hd) (k : Nat) (j : Nat) : Int := if j < k then nd s x j else 0
def nS (s : Sz) (x : Hd) : Nat → Int
  | 0 => 0
  | k + 1 => nS s x k + nd s x k
theorem eZ_rt (s : Sz) : rd (eZ s) 16 none = some (.i .i64 s.t) := rfl
theorem e5_len (F : Nat → Int) : (e5 F).length = 5 := rfl
theorem e5_set {s : Sz} {x : Hd} {k : Nat} (h : k < 5) : (e5 (nG s x k)).set k (.i .i64 (nd s x k)) = e5 (nG s x (k + 1)) := by
  rcases k with _ | _ | _ | _ | _ | k <;> first | rfl | omega
theorem ndB {s : Sz} {x : Hd} (hs : szOk s = true) (hx : hdOk x = true) {j : Nat} (hj : j < 5) : 0 ≤ nd s x j ∧ nd s x j ≤ 3000 := by
  have h1 := (szOk_iff.1 hs).2 j hj
  have h2 := (hdOk_iff.1 hx).2 j hj
  unfold nd
  omega
theorem nSB {s : Sz} {x : Hd} (hs : szOk s = true) (hx : hdOk x = true) : ∀ {k : Nat}, k ≤ 5 → 0 ≤ nS s x k ∧ nS s x k ≤ 3000 * k
  | 0, _ => by simp [nS]
  | k + 1, h => by
    have h1 := nSB hs hx (k := k) (by omega)
    have h2 := ndB hs hx (j := k) (by omega)
    unfold nS
    omega
theorem pc42 (s : Sz) (x : Hd) (hs : szOk s = true) (hx : hdOk x = true) : PC Try.prog 42 [.ag (eZ s), .ag (eH x)] (.tu [.ag (e5 (nd s x)), .i .i64 (nS s x 5)]) := by
  have hs1 := (szOk_iff.1 hs).2
  have hx1 := (hdOk_iff.1 hx).2
  refine pc_fn fn42 (by simp only [AV.plains, AV.plain, il_plain, bl_plain, Bool.and_true, Bool.true_and, Bool.and_self]) (by simp only [AV.plains, AV.plain, il_plain, bl_plain, Bool.and_true, Bool.true_and, Bool.and_self]) (Nat.le_of_ble_eq_true rfl) ?_
  rw [initSt2]
  repeat' first
    | with_reducible refine k_seq ?_
    | with_reducible refine k_skip ?_
    | with_reducible refine k_blkS ?_
    | with_reducible refine k_blkR ?_
    | with_reducible refine k_blkC ?_
    | with_reducible refine k_blkH ?_
    | with_reducible refine k_blkB ?_
    | with_reducible refine k_blkK ?_
    | with_reducible refine k_blkE ?_
    | with_reducible refine k_reg ?_
    | with_reducible refine k_head (by with_unfolding_all rfl) ?_
    | with_reducible refine k_headS ?_
    | (with_reducible refine SepK.mk ?_ ?_; (refine sepQ_P ?_; simp [sepQ, sepG, AOp.late, AOp.free, AOp.xs, AOp.isAl, tokNe, AV.tok, stS_get, strip, AX.val, c42r0, c42r1, c42r2, c42r3, c42r4, c42r5, c42r6, c42r7, c42r8, c42r10, GA]; try omega))
    | with_reducible refine r_done ?_
    | with_reducible refine hr_done ?_
    | with_reducible refine s_go (by simp (disch := omega) only [eH_rM, c42r0, c42r1, c42r2, c42r3, c42r4, c42r5, c42r6, c42r7, c42r8, c42r10, EV0, EV1, EV2, EV3, EV4, EV5, EV6, EV7, EV8, VALS, plug, ite_same, decide_true, decide_false, eq_self, ↓reduceIte, reduceCtorEq, Nat.reduceAdd, Nat.reduceEqDiff, Nat.reduceLT, Nat.reduceLeDiff, Nat.reduceMul, Nat.reduceSub, Nat.reduceDiv, Int.reduceToNat, Int.reduceAdd, Int.reduceSub, Int.reduceMul, Int.reduceNeg, Int.reduceEq, Int.reduceLT, Int.reduceLE]; with_reducible rfl) ?_
    | with_reducible refine h_go (by with_unfolding_all rfl) (by simp (disch := omega) only [eH_rM, c42r0, c42r1, c42r2, c42r3, c42r4, c42r5, c42r6, c42r7, c42r8, c42r10, EV0, EV1, EV2, EV3, EV4, EV5, EV6, EV7, EV8, VALS, plug, ite_same, decide_true, decide_false, eq_self, ↓reduceIte, reduceCtorEq, Nat.reduceAdd, Nat.reduceEqDiff, Nat.reduceLT, Nat.reduceLeDiff, Nat.reduceMul, Nat.reduceSub, Nat.reduceDiv, Int.reduceToNat, Int.reduceAdd, Int.reduceSub, Int.reduceMul, Int.reduceNeg, Int.reduceEq, Int.reduceLT, Int.reduceLE]; with_reducible rfl) ?_
    | ((with_reducible refine chk_r ?_); refine r_callF (by simp only [CA, Nat.reduceEqDiff, ↓reduceIte]; rfl) (by exact rfl) (by simp only [CA, Nat.reduceEqDiff, ↓reduceIte]; rfl) rfl ?_)
    | ((with_reducible refine chk_h ?_); refine hr_callF (by simp only [CA, Nat.reduceEqDiff, ↓reduceIte]; rfl) (by exact rfl) (by simp only [CA, Nat.reduceEqDiff, ↓reduceIte]; rfl) rfl ?_)
    | ((with_reducible refine chk_h ?_); refine hr_app (by simp (disch := omega) only [eH_rM, c42r0, c42r1, c42r2, c42r3, c42r4, c42r5, c42r6, c42r7, c42r8, c42r10, EV0, EV1, EV2, EV3, EV4, EV5, EV6, EV7, EV8, VALS, plug, ite_same, decide_true, decide_false, eq_self, ↓reduceIte, reduceCtorEq, Nat.reduceAdd, Nat.reduceEqDiff, Nat.reduceLT, Nat.reduceLeDiff, Nat.reduceMul, Nat.reduceSub, Nat.reduceDiv, Int.reduceToNat, Int.reduceAdd, Int.reduceSub, Int.reduceMul, Int.reduceNeg, Int.reduceEq, Int.reduceLT, Int.reduceLE]; with_reducible rfl) rfl ?_)
    | (with_reducible refine k_condP (by simp only [GA, Nat.reduceEqDiff, ↓reduceIte]; rfl) (by first | (simp only [BO]; rfl) | rfl) (fun ht => ?_) (fun ht => ?_) <;> try (first | exact False.elim ht | exact absurd rfl ht | exact absurd trivial ht | exact Bool.noConfusion ht))
    | (with_reducible refine k_ret ?_; repeat with_reducible (first | refine ret_thru ?_ | refine ret_blk ?_ | refine fin ?_))
    | (with_reducible refine k_exit ?_; repeat with_reducible (first | refine thru ?_ | refine out_blk ?_ | refine pass (by decide) ?_))
    | (refine post1 ?_; simp only [GA, Nat.reduceEqDiff, ↓reduceIte])
    | (refine post2 ?_; simp only [GA, Nat.reduceEqDiff, ↓reduceIte])
    | (refine post3 ?_; simp only [GA, Nat.reduceEqDiff, ↓reduceIte])
    | (refine postc (by simp only [GA, Nat.reduceEqDiff, ↓reduceIte]; rfl) (by simp (disch := omega) only [eH_rM, c42r0, c42r1, c42r2, c42r3, c42r4, c42r5, c42r6, c42r7, c42r8, c42r10, EV0, EV1, EV2, EV3, EV4, EV5, EV6, EV7, EV8, VALS, plug, ite_same, decide_true, decide_false, eq_self, ↓reduceIte, reduceCtorEq, Nat.reduceAdd, Nat.reduceEqDiff, Nat.reduceLT, Nat.reduceLeDiff, Nat.reduceMul, Nat.reduceSub, Nat.reduceDiv, Int.reduceToNat, Int.reduceAdd, Int.reduceSub, Int.reduceMul, Int.reduceNeg, Int.reduceEq, Int.reduceLT, Int.reduceLE]; rfl) ?_)
    | (refine postct (by simp only [GA, Nat.reduceEqDiff, ↓reduceIte]; rfl) (by simp (disch := omega) only [eH_rM, c42r0, c42r1, c42r2, c42r3, c42r4, c42r5, c42r6, c42r7, c42r8, c42r10, EV0, EV1, EV2, EV3, EV4, EV5, EV6, EV7, EV8, VALS, plug, ite_same, decide_true, decide_false, eq_self, ↓reduceIte, reduceCtorEq, Nat.reduceAdd, Nat.reduceEqDiff, Nat.reduceLT, Nat.reduceLeDiff, Nat.reduceMul, Nat.reduceSub, Nat.reduceDiv, Int.reduceToNat, Int.reduceAdd, Int.reduceSub, Int.reduceMul, Int.reduceNeg, Int.reduceEq, Int.reduceLT, Int.reduceLE]; rfl) ?_; simp only [GA, Nat.reduceEqDiff, ↓reduceIte])
    | refine post0 ?_
  refine k_blk (k_loopS (X := Unit) [2, 4, 6, 7, 11, 12] 5 (fun k _ => [(2, .p 1 0), (4, .p 3 0), (6, .p 5 0), (7, .i .i64 (nS s x k)), (11, .ag (e5 x.M)), (12, .i .i64 (k : Int))]) (fun k _ h => h.m 1 = some (.cells true (eZ s)) ∧ h.m 3 = some (.cells true (e5 fun _ => 0)) ∧ h.m 5 = some (.cells true (e5 (nG s x k)))) () (by simp only [Am.keep, List.map_cons, List.map_nil, GA, Nat.reduceEqDiff, ↓reduceIte]; try rfl) ⟨by simp (disch := omega) only [c42r0, c42r1, c42r2, c42r3, c42r4, c42r5, c42r6, c42r7, c42r8, c42r10, EV0, EV1, EV2, EV3, EV4, EV5, EV6, EV7, EV8, VALS, plug, ite_same, decide_true, decide_false, eq_self, ↓reduceIte, reduceCtorEq, Nat.reduceAdd, Nat.reduceEqDiff, Nat.reduceLT, Nat.reduceLeDiff, Nat.reduceMul, Nat.reduceSub, Nat.reduceDiv, Int.reduceToNat, Int.reduceAdd, Int.reduceSub, Int.reduceMul, Int.reduceNeg, Int.reduceEq, Int.reduceLT, Int.reduceLE] <;> rfl, by simp (disch := omega) only [c42r0, c42r1, c42r2, c42r3, c42r4, c42r5, c42r6, c42r7, c42r8, c42r10, EV0, EV1, EV2, EV3, EV4, EV5, EV6, EV7, EV8, VALS, plug, ite_same, decide_true, decide_false, eq_self, ↓reduceIte, reduceCtorEq, Nat.reduceAdd, Nat.reduceEqDiff, Nat.reduceLT, Nat.reduceLeDiff, Nat.reduceMul, Nat.reduceSub, Nat.reduceDiv, Int.reduceToNat, Int.reduceAdd, Int.reduceSub, Int.reduceMul, Int.reduceNeg, Int.reduceEq, Int.reduceLT, Int.reduceLE] <;> rfl, by simp (disch := omega) only [c42r0, c42r1, c42r2, c42r3, c42r4, c42r5, c42r6, c42r7, c42r8, c42r10, EV0, EV1, EV2, EV3, EV4, EV5, EV6, EV7, EV8, VALS, plug, ite_same, decide_true, decide_false, eq_self, ↓reduceIte, reduceCtorEq, Nat.reduceAdd, Nat.reduceEqDiff, Nat.reduceLT, Nat.reduceLeDiff, Nat.reduceMul, Nat.reduceSub, Nat.reduceDiv, Int.reduceToNat, Int.reduceAdd, Int.reduceSub, Int.reduceMul, Int.reduceNeg, Int.reduceEq, Int.reduceLT, Int.reduceLE] <;> rfl⟩ ?_)
  rintro k _ h hk ⟨hm, hm3, hm5⟩ ok pos
  by_cases klt : k < 5
  · have klt' : (k : Int) < 5 := by omega
    have g0 := e5_get (F := x.M) klt
    have g1 := eZ_F s klt
    have g2 := eZ_T s klt
    have g5 : (e5 (nG s x (k + 1)))[k]? = some (.i .i64 (nG s x (k + 1) k)) := e5_get klt
    rw [show nG s x (k + 1) k = nd s x k from if_pos (by omega)] at g5
    have st := e5_set (s := s) (x := x) klt
    have b1 := hs1 k klt
    have b2 := hx1 k klt
    have b3 := ndB hs hx klt
    have b4 := nSB hs hx (k := k) hk
    have w1 : IntKind.i64.wrap (s.F k - x.M k) = s.F k - x.M k := wrap64 (by omega) (by omega)
    have w2 : IntKind.i64.wrap (x.M k - s.T k) = x.M k - s.T k := wrap64 (by omega) (by omega)
    have w3 : IntKind.i64.wrap (nS s x k + nd s x k) = nS s x k + nd s x k := wrap64 (by omega) (by omega)
    have dn : max (max (s.F k - x.M k) (x.M k - s.T k)) 0 = nd s x k := rfl
    repeat' first
      | with_reducible refine k_seq ?_
      | with_reducible refine k_skip ?_
      | with_reducible refine k_blkS ?_
      | with_reducible refine k_blkR ?_
      | with_reducible refine k_blkC ?_
      | with_reducible refine k_blkH ?_
      | with_reducible refine k_blkB ?_
      | with_reducible refine k_blkK ?_
      | with_reducible refine k_blkE ?_
      | with_reducible refine k_reg ?_
      | with_reducible refine k_head (by with_unfolding_all rfl) ?_
      | with_reducible refine k_headS ?_
      | (with_reducible refine SepK.mk ?_ ?_; (refine sepQ_P ?_; simp [sepQ, sepG, AOp.late, AOp.free, AOp.xs, AOp.isAl, tokNe, AV.tok, stS_get, strip, AX.val, c42r0, c42r1, c42r2, c42r3, c42r4, c42r5, c42r6, c42r7, c42r8, c42r10, GA]; try omega))
      | with_reducible refine r_done ?_
      | with_reducible refine hr_done ?_
      | with_reducible refine s_go (by simp (disch := omega) only [klt', g0, g1, g2, g5, st, w1, w2, w3, dn, e5_len, hm, row_m hm, read_row (row_m hm), hm5, row_m hm5, read_row (row_m hm5), c42r0, c42r1, c42r2, c42r3, c42r4, c42r5, c42r6, c42r7, c42r8, c42r10, EV0, EV1, EV2, EV3, EV4, EV5, EV6, EV7, EV8, VALS, plug, ite_same, decide_true, decide_false, eq_self, ↓reduceIte, reduceCtorEq, Nat.reduceAdd, Nat.reduceEqDiff, Nat.reduceLT, Nat.reduceLeDiff, Nat.reduceMul, Nat.reduceSub, Nat.reduceDiv, Int.reduceToNat, Int.reduceAdd, Int.reduceSub, Int.reduceMul, Int.reduceNeg, Int.reduceEq, Int.reduceLT, Int.reduceLE]; with_reducible rfl) ?_
      | with_reducible refine h_go (by with_unfolding_all rfl) (by simp (disch := omega) only [klt', g0, g1, g2, g5, st, w1, w2, w3, dn, e5_len, hm, row_m hm, read_row (row_m hm), hm5, row_m hm5, read_row (row_m hm5), c42r0, c42r1, c42r2, c42r3, c42r4, c42r5, c42r6, c42r7, c42r8, c42r10, EV0, EV1, EV2, EV3, EV4, EV5, EV6, EV7, EV8, VALS, plug, ite_same, decide_true, decide_false, eq_self, ↓reduceIte, reduceCtorEq, Nat.reduceAdd, Nat.reduceEqDiff, Nat.reduceLT, Nat.reduceLeDiff, Nat.reduceMul, Nat.reduceSub, Nat.reduceDiv, Int.reduceToNat, Int.reduceAdd, Int.reduceSub, Int.reduceMul, Int.reduceNeg, Int.reduceEq, Int.reduceLT, Int.reduceLE]; with_reducible rfl) ?_
      | ((with_reducible refine chk_r ?_); refine r_callF (by simp only [CA, Nat.reduceEqDiff, ↓reduceIte]; rfl) (by exact rfl) (by simp only [CA, Nat.reduceEqDiff, ↓reduceIte]; rfl) rfl ?_)
      | ((with_reducible refine chk_h ?_); refine hr_callF (by simp only [CA, Nat.reduceEqDiff, ↓reduceIte]; rfl) (by exact rfl) (by simp only [CA, Nat.reduceEqDiff, ↓reduceIte]; rfl) rfl ?_)
      | ((with_reducible refine chk_h ?_); refine hr_app (by simp (disch := omega) only [klt', g0, g1, g2, g5, st, w1, w2, w3, dn, e5_len, hm, row_m hm, read_row (row_m hm), hm5, row_m hm5, read_row (row_m hm5), c42r0, c42r1, c42r2, c42r3, c42r4, c42r5, c42r6, c42r7, c42r8, c42r10, EV0, EV1, EV2, EV3, EV4, EV5, EV6, EV7, EV8, VALS, plug, ite_same, decide_true, decide_false, eq_self, ↓reduceIte, reduceCtorEq, Nat.reduceAdd, Nat.reduceEqDiff, Nat.reduceLT, Nat.reduceLeDiff, Nat.reduceMul, Nat.reduceSub, Nat.reduceDiv, Int.reduceToNat, Int.reduceAdd, Int.reduceSub, Int.reduceMul, Int.reduceNeg, Int.reduceEq, Int.reduceLT, Int.reduceLE]; with_reducible rfl) rfl ?_)
      | (with_reducible refine k_condP (by simp only [GA, Nat.reduceEqDiff, ↓reduceIte]; rfl) (by first | (simp only [BO]; rfl) | rfl) (fun ht => ?_) (fun ht => ?_) <;> try (first | exact False.elim ht | exact absurd rfl ht | exact absurd trivial ht | exact Bool.noConfusion ht))
      | (with_reducible refine k_ret ?_; repeat with_reducible (first | refine ret_thru ?_ | refine ret_blk ?_ | refine fin ?_))
      | (with_reducible refine k_exit ?_; repeat with_reducible (first | refine thru ?_ | refine out_blk ?_ | refine pass (by decide) ?_))
      | (refine post1 ?_; simp only [GA, Nat.reduceEqDiff, ↓reduceIte])
      | (refine post2 ?_; simp only [GA, Nat.reduceEqDiff, ↓reduceIte])
      | (refine post3 ?_; simp only [GA, Nat.reduceEqDiff, ↓reduceIte])
      | (refine postc (by simp only [GA, Nat.reduceEqDiff, ↓reduceIte]; rfl) (by simp (disch := omega) only [klt', g0, g1, g2, g5, st, w1, w2, w3, dn, e5_len, hm, row_m hm, read_row (row_m hm), hm5, row_m hm5, read_row (row_m hm5), c42r0, c42r1, c42r2, c42r3, c42r4, c42r5, c42r6, c42r7, c42r8, c42r10, EV0, EV1, EV2, EV3, EV4, EV5, EV6, EV7, EV8, VALS, plug, ite_same, decide_true, decide_false, eq_self, ↓reduceIte, reduceCtorEq, Nat.reduceAdd, Nat.reduceEqDiff, Nat.reduceLT, Nat.reduceLeDiff, Nat.reduceMul, Nat.reduceSub, Nat.reduceDiv, Int.reduceToNat, Int.reduceAdd, Int.reduceSub, Int.reduceMul, Int.reduceNeg, Int.reduceEq, Int.reduceLT, Int.reduceLE]; rfl) ?_)
      | (refine postct (by simp only [GA, Nat.reduceEqDiff, ↓reduceIte]; rfl) (by simp (disch := omega) only [klt', g0, g1, g2, g5, st, w1, w2, w3, dn, e5_len, hm, row_m hm, read_row (row_m hm), hm5, row_m hm5, read_row (row_m hm5), c42r0, c42r1, c42r2, c42r3, c42r4, c42r5, c42r6, c42r7, c42r8, c42r10, EV0, EV1, EV2, EV3, EV4, EV5, EV6, EV7, EV8, VALS, plug, ite_same, decide_true, decide_false, eq_self, ↓reduceIte, reduceCtorEq, Nat.reduceAdd, Nat.reduceEqDiff, Nat.reduceLT, Nat.reduceLeDiff, Nat.reduceMul, Nat.reduceSub, Nat.reduceDiv, Int.reduceToNat, Int.reduceAdd, Int.reduceSub, Int.reduceMul, Int.reduceNeg, Int.reduceEq, Int.reduceLT, Int.reduceLE]; rfl) ?_; simp only [GA, Nat.reduceEqDiff, ↓reduceIte])
      | refine post0 ?_
    exact ⟨klt, (), (by simp only [Am.keep, List.map_cons, List.map_nil, GA, Nat.reduceEqDiff, ↓reduceIte]; try rfl), by simp (disch := omega) only [hm, c42r0, c42r1, c42r2, c42r3, c42r4, c42r5, c42r6, c42r7, c42r8, c42r10, EV0, EV1, EV2, EV3, EV4, EV5, EV6, EV7, EV8, VALS, plug, ite_same, decide_true, decide_false, eq_self, ↓reduceIte, reduceCtorEq, Nat.reduceAdd, Nat.reduceEqDiff, Nat.reduceLT, Nat.reduceLeDiff, Nat.reduceMul, Nat.reduceSub, Nat.reduceDiv, Int.reduceToNat, Int.reduceAdd, Int.reduceSub, Int.reduceMul, Int.reduceNeg, Int.reduceEq, Int.reduceLT, Int.reduceLE], by simp (disch := omega) only [hm3, c42r0, c42r1, c42r2, c42r3, c42r4, c42r5, c42r6, c42r7, c42r8, c42r10, EV0, EV1, EV2, EV3, EV4, EV5, EV6, EV7, EV8, VALS, plug, ite_same, decide_true, decide_false, eq_self, ↓reduceIte, reduceCtorEq, Nat.reduceAdd, Nat.reduceEqDiff, Nat.reduceLT, Nat.reduceLeDiff, Nat.reduceMul, Nat.reduceSub, Nat.reduceDiv, Int.reduceToNat, Int.reduceAdd, Int.reduceSub, Int.reduceMul, Int.reduceNeg, Int.reduceEq, Int.reduceLT, Int.reduceLE], by simp (disch := omega) only [st, c42r0, c42r1, c42r2, c42r3, c42r4, c42r5, c42r6, c42r7, c42r8, c42r10, EV0, EV1, EV2, EV3, EV4, EV5, EV6, EV7, EV8, VALS, plug, ite_same, decide_true, decide_false, eq_self, ↓reduceIte, reduceCtorEq, Nat.reduceAdd, Nat.reduceEqDiff, Nat.reduceLT, Nat.reduceLeDiff, Nat.reduceMul, Nat.reduceSub, Nat.reduceDiv, Int.reduceToNat, Int.reduceAdd, Int.reduceSub, Int.reduceMul, Int.reduceNeg, Int.reduceEq, Int.reduceLT, Int.reduceLE]⟩
  · obtain rfl : k = 5 := by omega
    have klt' : ¬ ((5 : Nat) : Int) < 5 := by omega
    repeat' first
      | with_reducible refine k_seq ?_
      | with_reducible refine k_skip ?_
      | with_reducible refine k_blkS ?_
      | with_reducible refine k_blkR ?_
      | with_reducible refine k_blkC ?_
      | with_reducible refine k_blkH ?_
      | with_reducible refine k_blkB ?_
      | with_reducible refine k_blkK ?_
      | with_reducible refine k_blkE ?_
      | with_reducible refine k_reg ?_
      | with_reducible refine k_head (by with_unfolding_all rfl) ?_
      | with_reducible refine k_headS ?_
      | (with_reducible refine SepK.mk ?_ ?_; (refine sepQ_P ?_; simp [sepQ, sepG, AOp.late, AOp.free, AOp.xs, AOp.isAl, tokNe, AV.tok, stS_get, strip, AX.val, c42r0, c42r1, c42r2, c42r3, c42r4, c42r5, c42r6, c42r7, c42r8, c42r10, GA]; try omega))
      | with_reducible refine r_done ?_
      | with_reducible refine hr_done ?_
      | with_reducible refine s_go (by simp (disch := omega) only [klt', e5_rd, hm3, row_m hm3, read_row (row_m hm3), hm5, row_m hm5, read_row (row_m hm5), c42r0, c42r1, c42r2, c42r3, c42r4, c42r5, c42r6, c42r7, c42r8, c42r10, EV0, EV1, EV2, EV3, EV4, EV5, EV6, EV7, EV8, VALS, plug, ite_same, decide_true, decide_false, eq_self, ↓reduceIte, reduceCtorEq, Nat.reduceAdd, Nat.reduceEqDiff, Nat.reduceLT, Nat.reduceLeDiff, Nat.reduceMul, Nat.reduceSub, Nat.reduceDiv, Int.reduceToNat, Int.reduceAdd, Int.reduceSub, Int.reduceMul, Int.reduceNeg, Int.reduceEq, Int.reduceLT, Int.reduceLE]; with_reducible rfl) ?_
      | with_reducible refine h_go (by with_unfolding_all rfl) (by simp (disch := omega) only [klt', e5_rd, hm3, row_m hm3, read_row (row_m hm3), hm5, row_m hm5, read_row (row_m hm5), c42r0, c42r1, c42r2, c42r3, c42r4, c42r5, c42r6, c42r7, c42r8, c42r10, EV0, EV1, EV2, EV3, EV4, EV5, EV6, EV7, EV8, VALS, plug, ite_same, decide_true, decide_false, eq_self, ↓reduceIte, reduceCtorEq, Nat.reduceAdd, Nat.reduceEqDiff, Nat.reduceLT, Nat.reduceLeDiff, Nat.reduceMul, Nat.reduceSub, Nat.reduceDiv, Int.reduceToNat, Int.reduceAdd, Int.reduceSub, Int.reduceMul, Int.reduceNeg, Int.reduceEq, Int.reduceLT, Int.reduceLE]; with_reducible rfl) ?_
      | ((with_reducible refine chk_r ?_); refine r_callF (by simp only [CA, Nat.reduceEqDiff, ↓reduceIte]; rfl) (by exact rfl) (by simp only [CA, Nat.reduceEqDiff, ↓reduceIte]; rfl) rfl ?_)
      | ((with_reducible refine chk_h ?_); refine hr_callF (by simp only [CA, Nat.reduceEqDiff, ↓reduceIte]; rfl) (by exact rfl) (by simp only [CA, Nat.reduceEqDiff, ↓reduceIte]; rfl) rfl ?_)
      | ((with_reducible refine chk_h ?_); refine hr_app (by simp (disch := omega) only [klt', e5_rd, hm3, row_m hm3, read_row (row_m hm3), hm5, row_m hm5, read_row (row_m hm5), c42r0, c42r1, c42r2, c42r3, c42r4, c42r5, c42r6, c42r7, c42r8, c42r10, EV0, EV1, EV2, EV3, EV4, EV5, EV6, EV7, EV8, VALS, plug, ite_same, decide_true, decide_false, eq_self, ↓reduceIte, reduceCtorEq, Nat.reduceAdd, Nat.reduceEqDiff, Nat.reduceLT, Nat.reduceLeDiff, Nat.reduceMul, Nat.reduceSub, Nat.reduceDiv, Int.reduceToNat, Int.reduceAdd, Int.reduceSub, Int.reduceMul, Int.reduceNeg, Int.reduceEq, Int.reduceLT, Int.reduceLE]; with_reducible rfl) rfl ?_)
      | (with_reducible refine k_condP (by simp only [GA, Nat.reduceEqDiff, ↓reduceIte]; rfl) (by first | (simp only [BO]; rfl) | rfl) (fun ht => ?_) (fun ht => ?_) <;> try (first | exact False.elim ht | exact absurd rfl ht | exact absurd trivial ht | exact Bool.noConfusion ht))
      | (with_reducible refine k_ret ?_; repeat with_reducible (first | refine ret_thru ?_ | refine ret_blk ?_ | refine fin ?_))
      | (with_reducible refine k_exit ?_; repeat with_reducible (first | refine thru ?_ | refine out_blk ?_ | refine pass (by decide) ?_))
      | (refine post1 ?_; simp only [GA, Nat.reduceEqDiff, ↓reduceIte])
      | (refine post2 ?_; simp only [GA, Nat.reduceEqDiff, ↓reduceIte])
      | (refine post3 ?_; simp only [GA, Nat.reduceEqDiff, ↓reduceIte])
      | (refine postc (by simp only [GA, Nat.reduceEqDiff, ↓reduceIte]; rfl) (by simp (disch := omega) only [klt', e5_rd, hm3, row_m hm3, read_row (row_m hm3), hm5, row_m hm5, read_row (row_m hm5), c42r0, c42r1, c42r2, c42r3, c42r4, c42r5, c42r6, c42r7, c42r8, c42r10, EV0, EV1, EV2, EV3, EV4, EV5, EV6, EV7, EV8, VALS, plug, ite_same, decide_true, decide_false, eq_self, ↓reduceIte, reduceCtorEq, Nat.reduceAdd, Nat.reduceEqDiff, Nat.reduceLT, Nat.reduceLeDiff, Nat.reduceMul, Nat.reduceSub, Nat.reduceDiv, Int.reduceToNat, Int.reduceAdd, Int.reduceSub, Int.reduceMul, Int.reduceNeg, Int.reduceEq, Int.reduceLT, Int.reduceLE]; rfl) ?_)
      | (refine postct (by simp only [GA, Nat.reduceEqDiff, ↓reduceIte]; rfl) (by simp (disch := omega) only [klt', e5_rd, hm3, row_m hm3, read_row (row_m hm3), hm5, row_m hm5, read_row (row_m hm5), c42r0, c42r1, c42r2, c42r3, c42r4, c42r5, c42r6, c42r7, c42r8, c42r10, EV0, EV1, EV2, EV3, EV4, EV5, EV6, EV7, EV8, VALS, plug, ite_same, decide_true, decide_false, eq_self, ↓reduceIte, reduceCtorEq, Nat.reduceAdd, Nat.reduceEqDiff, Nat.reduceLT, Nat.reduceLeDiff, Nat.reduceMul, Nat.reduceSub, Nat.reduceDiv, Int.reduceToNat, Int.reduceAdd, Int.reduceSub, Int.reduceMul, Int.reduceNeg, Int.reduceEq, Int.reduceLT, Int.reduceLE]; rfl) ?_; simp only [GA, Nat.reduceEqDiff, ↓reduceIte])
      | refine post0 ?_
    all_goals first | exact ends_of | exact ends_eq rfl
theorem pc44 (s : Sz) (x : Hd) (hs : szOk s = true) (hx : hdOk x = true) : PC Try.prog 44 [.ag (eZ s), .ag (eH x)] (.tu [.ag (e5 (nd s x)), .i .i64 (nS s x 5)]) := by
  have hs1 := (szOk_iff.1 hs).2
  have hx1 := (hdOk_iff.1 hx).2
  refine pc_fn fn44 (by simp only [AV.plains, AV.plain, il_plain, bl_plain, Bool.and_true, Bool.true_and, Bool.and_self]) (by simp only [AV.plains, AV.plain, il_plain, bl_plain, Bool.and_true, Bool.true_and, Bool.and_self]) (Nat.le_of_ble_eq_true rfl) ?_
  rw [initSt2]
  repeat' first
    | with_reducible refine k_seq ?_
    | with_reducible refine k_skip ?_
    | with_reducible refine k_blkS ?_
    | with_reducible refine k_blkR ?_
    | with_reducible refine k_blkC ?_
    | with_reducible refine k_blkH ?_
    | with_reducible refine k_blkB ?_
    | with_reducible refine k_blkK ?_
    | with_reducible refine k_blkE ?_
    | with_reducible refine k_reg ?_
    | with_reducible refine k_head (by with_unfolding_all rfl) ?_
    | with_reducible refine k_headS ?_
    | (with_reducible refine SepK.mk ?_ ?_; (refine sepQ_P ?_; simp [sepQ, sepG, AOp.late, AOp.free, AOp.xs, AOp.isAl, tokNe, AV.tok, stS_get, strip, AX.val, c44r0, c44r1, c44r2, c44r3, c44r4, c44r5, c44r6, c44r7, c44r8, c44r10, GA]; try omega))
    | with_reducible refine r_done ?_
    | with_reducible refine hr_done ?_
    | with_reducible refine s_go (by simp (disch := omega) only [eH_rM, c44r0, c44r1, c44r2, c44r3, c44r4, c44r5, c44r6, c44r7, c44r8, c44r10, EV0, EV1, EV2, EV3, EV4, EV5, EV6, EV7, EV8, VALS, plug, ite_same, decide_true, decide_false, eq_self, ↓reduceIte, reduceCtorEq, Nat.reduceAdd, Nat.reduceEqDiff, Nat.reduceLT, Nat.reduceLeDiff, Nat.reduceMul, Nat.reduceSub, Nat.reduceDiv, Int.reduceToNat, Int.reduceAdd, Int.reduceSub, Int.reduceMul, Int.reduceNeg, Int.reduceEq, Int.reduceLT, Int.reduceLE]; with_reducible rfl) ?_
    | with_reducible refine h_go (by with_unfolding_all rfl) (by simp (disch := omega) only [eH_rM, c44r0, c44r1, c44r2, c44r3, c44r4, c44r5, c44r6, c44r7, c44r8, c44r10, EV0, EV1, EV2, EV3, EV4, EV5, EV6, EV7, EV8, VALS, plug, ite_same, decide_true, decide_false, eq_self, ↓reduceIte, reduceCtorEq, Nat.reduceAdd, Nat.reduceEqDiff, Nat.reduceLT, Nat.reduceLeDiff, Nat.reduceMul, Nat.reduceSub, Nat.reduceDiv, Int.reduceToNat, Int.reduceAdd, Int.reduceSub, Int.reduceMul, Int.reduceNeg, Int.reduceEq, Int.reduceLT, Int.reduceLE]; with_reducible rfl) ?_
    | ((with_reducible refine chk_r ?_); refine r_callF (by simp only [CA, Nat.reduceEqDiff, ↓reduceIte]; rfl) (by exact rfl) (by simp only [CA, Nat.reduceEqDiff, ↓reduceIte]; rfl) rfl ?_)
    | ((with_reducible refine chk_h ?_); refine hr_callF (by simp only [CA, Nat.reduceEqDiff, ↓reduceIte]; rfl) (by exact rfl) (by simp only [CA, Nat.reduceEqDiff, ↓reduceIte]; rfl) rfl ?_)
    | ((with_reducible refine chk_h ?_); refine hr_app (by simp (disch := omega) only [eH_rM, c44r0, c44r1, c44r2, c44r3, c44r4, c44r5, c44r6, c44r7, c44r8, c44r10, EV0, EV1, EV2, EV3, EV4, EV5, EV6, EV7, EV8, VALS, plug, ite_same, decide_true, decide_false, eq_self, ↓reduceIte, reduceCtorEq, Nat.reduceAdd, Nat.reduceEqDiff, Nat.reduceLT, Nat.reduceLeDiff, Nat.reduceMul, Nat.reduceSub, Nat.reduceDiv, Int.reduceToNat, Int.reduceAdd, Int.reduceSub, Int.reduceMul, Int.reduceNeg, Int.reduceEq, Int.reduceLT, Int.reduceLE]; with_reducible rfl) rfl ?_)
    | (with_reducible refine k_condP (by simp only [GA, Nat.reduceEqDiff, ↓reduceIte]; rfl) (by first | (simp only [BO]; rfl) | rfl) (fun ht => ?_) (fun ht => ?_) <;> try (first | exact False.elim ht | exact absurd rfl ht | exact absurd trivial ht | exact Bool.noConfusion ht))
    | (with_reducible refine k_ret ?_; repeat with_reducible (first | refine ret_thru ?_ | refine ret_blk ?_ | refine fin ?_))
    | (with_reducible refine k_exit ?_; repeat with_reducible (first | refine thru ?_ | refine out_blk ?_ | refine pass (by decide) ?_))
    | (refine post1 ?_; simp only [GA, Nat.reduceEqDiff, ↓reduceIte])
    | (refine post2 ?_; simp only [GA, Nat.reduceEqDiff, ↓reduceIte])
    | (refine post3 ?_; simp only [GA, Nat.reduceEqDiff, ↓reduceIte])
    | (refine postc (by simp only [GA, Nat.reduceEqDiff, ↓reduceIte]; rfl) (by simp (disch := omega) only [eH_rM, c44r0, c44r1, c44r2, c44r3, c44r4, c44r5, c44r6, c44r7, c44r8, c44r10, EV0, EV1, EV2, EV3, EV4, EV5, EV6, EV7, EV8, VALS, plug, ite_same, decide_true, decide_false, eq_self, ↓reduceIte, reduceCtorEq, Nat.reduceAdd, Nat.reduceEqDiff, Nat.reduceLT, Nat.reduceLeDiff, Nat.reduceMul, Nat.reduceSub, Nat.reduceDiv, Int.reduceToNat, Int.reduceAdd, Int.reduceSub, Int.reduceMul, Int.reduceNeg, Int.reduceEq, Int.reduceLT, Int.reduceLE]; rfl) ?_)
    | (refine postct (by simp only [GA, Nat.reduceEqDiff, ↓reduceIte]; rfl) (by simp (disch := omega) only [eH_rM, c44r0, c44r1, c44r2, c44r3, c44r4, c44r5, c44r6, c44r7, c44r8, c44r10, EV0, EV1, EV2, EV3, EV4, EV5, EV6, EV7, EV8, VALS, plug, ite_same, decide_true, decide_false, eq_self, ↓reduceIte, reduceCtorEq, Nat.reduceAdd, Nat.reduceEqDiff, Nat.reduceLT, Nat.reduceLeDiff, Nat.reduceMul, Nat.reduceSub, Nat.reduceDiv, Int.reduceToNat, Int.reduceAdd, Int.reduceSub, Int.reduceMul, Int.reduceNeg, Int.reduceEq, Int.reduceLT, Int.reduceLE]; rfl) ?_; simp only [GA, Nat.reduceEqDiff, ↓reduceIte])
    | refine post0 ?_
  refine k_blk (k_loopS (X := Unit) [2, 4, 6, 7, 11, 12] 5 (fun k _ => [(2, .p 1 0), (4, .p 3 0), (6, .p 5 0), (7, .i .i64 (nS s x k)), (11, .ag (e5 x.M)), (12, .i .i64 (k : Int))]) (fun k _ h => h.m 1 = some (.cells true (eZ s)) ∧ h.m 3 = some (.cells true (e5 fun _ => 0)) ∧ h.m 5 = some (.cells true (e5 (nG s x k)))) () (by simp only [Am.keep, List.map_cons, List.map_nil, GA, Nat.reduceEqDiff, ↓reduceIte]; try rfl) ⟨by simp (disch := omega) only [c44r0, c44r1, c44r2, c44r3, c44r4, c44r5, c44r6, c44r7, c44r8, c44r10, EV0, EV1, EV2, EV3, EV4, EV5, EV6, EV7, EV8, VALS, plug, ite_same, decide_true, decide_false, eq_self, ↓reduceIte, reduceCtorEq, Nat.reduceAdd, Nat.reduceEqDiff, Nat.reduceLT, Nat.reduceLeDiff, Nat.reduceMul, Nat.reduceSub, Nat.reduceDiv, Int.reduceToNat, Int.reduceAdd, Int.reduceSub, Int.reduceMul, Int.reduceNeg, Int.reduceEq, Int.reduceLT, Int.reduceLE] <;> rfl, by simp (disch := omega) only [c44r0, c44r1, c44r2, c44r3, c44r4, c44r5, c44r6, c44r7, c44r8, c44r10, EV0, EV1, EV2, EV3, EV4, EV5, EV6, EV7, EV8, VALS, plug, ite_same, decide_true, decide_false, eq_self, ↓reduceIte, reduceCtorEq, Nat.reduceAdd, Nat.reduceEqDiff, Nat.reduceLT, Nat.reduceLeDiff, Nat.reduceMul, Nat.reduceSub, Nat.reduceDiv, Int.reduceToNat, Int.reduceAdd, Int.reduceSub, Int.reduceMul, Int.reduceNeg, Int.reduceEq, Int.reduceLT, Int.reduceLE] <;> rfl, by simp (disch := omega) only [c44r0, c44r1, c44r2, c44r3, c44r4, c44r5, c44r6, c44r7, c44r8, c44r10, EV0, EV1, EV2, EV3, EV4, EV5, EV6, EV7, EV8, VALS, plug, ite_same, decide_true, decide_false, eq_self, ↓reduceIte, reduceCtorEq, Nat.reduceAdd, Nat.reduceEqDiff, Nat.reduceLT, Nat.reduceLeDiff, Nat.reduceMul, Nat.reduceSub, Nat.reduceDiv, Int.reduceToNat, Int.reduceAdd, Int.reduceSub, Int.reduceMul, Int.reduceNeg, Int.reduceEq, Int.reduceLT, Int.reduceLE] <;> rfl⟩ ?_)
  rintro k _ h hk ⟨hm, hm3, hm5⟩ ok pos
  by_cases klt : k < 5
  · have klt' : (k : Int) < 5 := by omega
    have g0 := e5_get (F := x.M) klt
    have g1 := eZ_F s klt
    have g2 := eZ_T s klt
    have g5 : (e5 (nG s x (k + 1)))[k]? = some (.i .i64 (nG s x (k + 1) k)) := e5_get klt
    rw [show nG s x (k + 1) k = nd s x k from if_pos (by omega)] at g5
    have st := e5_set (s := s) (x := x) klt
    have b1 := hs1 k klt
    have b2 := hx1 k klt
    have b3 := ndB hs hx klt
    have b4 := nSB hs hx (k := k) hk
    have w1 : IntKind.i64.wrap (s.F k - x.M k) = s.F k - x.M k := wrap64 (by omega) (by omega)
    have w2 : IntKind.i64.wrap (x.M k - s.T k) = x.M k - s.T k := wrap64 (by omega) (by omega)
    have w3 : IntKind.i64.wrap (nS s x k + nd s x k) = nS s x k + nd s x k := wrap64 (by omega) (by omega)
    have dn : max (max (s.F k - x.M k) (x.M k - s.T k)) 0 = nd s x k := rfl
    repeat' first
      | with_reducible refine k_seq ?_
      | with_reducible refine k_skip ?_
      | with_reducible refine k_blkS ?_
      | with_reducible refine k_blkR ?_
      | with_reducible refine k_blkC ?_
      | with_reducible refine k_blkH ?_
      | with_reducible refine k_blkB ?_
      | with_reducible refine k_blkK ?_
      | with_reducible refine k_blkE ?_
      | with_reducible refine k_reg ?_
      | with_reducible refine k_head (by with_unfolding_all rfl) ?_
      | with_reducible refine k_headS ?_
      | (with_reducible refine SepK.mk ?_ ?_; (refine sepQ_P ?_; simp [sepQ, sepG, AOp.late, AOp.free, AOp.xs, AOp.isAl, tokNe, AV.tok, stS_get, strip, AX.val, c44r0, c44r1, c44r2, c44r3, c44r4, c44r5, c44r6, c44r7, c44r8, c44r10, GA]; try omega))
      | with_reducible refine r_done ?_
      | with_reducible refine hr_done ?_
      | with_reducible refine s_go (by simp (disch := omega) only [klt', g0, g1, g2, g5, st, w1, w2, w3, dn, e5_len, hm, row_m hm, read_row (row_m hm), hm5, row_m hm5, read_row (row_m hm5), c44r0, c44r1, c44r2, c44r3, c44r4, c44r5, c44r6, c44r7, c44r8, c44r10, EV0, EV1, EV2, EV3, EV4, EV5, EV6, EV7, EV8, VALS, plug, ite_same, decide_true, decide_false, eq_self, ↓reduceIte, reduceCtorEq, Nat.reduceAdd, Nat.reduceEqDiff, Nat.reduceLT, Nat.reduceLeDiff, Nat.reduceMul, Nat.reduceSub, Nat.reduceDiv, Int.reduceToNat, Int.reduceAdd, Int.reduceSub, Int.reduceMul, Int.reduceNeg, Int.reduceEq, Int.reduceLT, Int.reduceLE]; with_reducible rfl) ?_
      | with_reducible refine h_go (by with_unfolding_all rfl) (by simp (disch := omega) only [klt', g0, g1, g2, g5, st, w1, w2, w3, dn, e5_len, hm, row_m hm, read_row (row_m hm), hm5, row_m hm5, read_row (row_m hm5), c44r0, c44r1, c44r2, c44r3, c44r4, c44r5, c44r6, c44r7, c44r8, c44r10, EV0, EV1, EV2, EV3, EV4, EV5, EV6, EV7, EV8, VALS, plug, ite_same, decide_true, decide_false, eq_self, ↓reduceIte, reduceCtorEq, Nat.reduceAdd, Nat.reduceEqDiff, Nat.reduceLT, Nat.reduceLeDiff, Nat.reduceMul, Nat.reduceSub, Nat.reduceDiv, Int.reduceToNat, Int.reduceAdd, Int.reduceSub, Int.reduceMul, Int.reduceNeg, Int.reduceEq, Int.reduceLT, Int.reduceLE]; with_reducible rfl) ?_
      | ((with_reducible refine chk_r ?_); refine r_callF (by simp only [CA, Nat.reduceEqDiff, ↓reduceIte]; rfl) (by exact rfl) (by simp only [CA, Nat.reduceEqDiff, ↓reduceIte]; rfl) rfl ?_)
      | ((with_reducible refine chk_h ?_); refine hr_callF (by simp only [CA, Nat.reduceEqDiff, ↓reduceIte]; rfl) (by exact rfl) (by simp only [CA, Nat.reduceEqDiff, ↓reduceIte]; rfl) rfl ?_)
      | ((with_reducible refine chk_h ?_); refine hr_app (by simp (disch := omega) only [klt', g0, g1, g2, g5, st, w1, w2, w3, dn, e5_len, hm, row_m hm, read_row (row_m hm), hm5, row_m hm5, read_row (row_m hm5), c44r0, c44r1, c44r2, c44r3, c44r4, c44r5, c44r6, c44r7, c44r8, c44r10, EV0, EV1, EV2, EV3, EV4, EV5, EV6, EV7, EV8, VALS, plug, ite_same, decide_true, decide_false, eq_self, ↓reduceIte, reduceCtorEq, Nat.reduceAdd, Nat.reduceEqDiff, Nat.reduceLT, Nat.reduceLeDiff, Nat.reduceMul, Nat.reduceSub, Nat.reduceDiv, Int.reduceToNat, Int.reduceAdd, Int.reduceSub, Int.reduceMul, Int.reduceNeg, Int.reduceEq, Int.reduceLT, Int.reduceLE]; with_reducible rfl) rfl ?_)
      | (with_reducible refine k_condP (by simp only [GA, Nat.reduceEqDiff, ↓reduceIte]; rfl) (by first | (simp only [BO]; rfl) | rfl) (fun ht => ?_) (fun ht => ?_) <;> try (first | exact False.elim ht | exact absurd rfl ht | exact absurd trivial ht | exact Bool.noConfusion ht))
      | (with_reducible refine k_ret ?_; repeat with_reducible (first | refine ret_thru ?_ | refine ret_blk ?_ | refine fin ?_))
      | (with_reducible refine k_exit ?_; repeat with_reducible (first | refine thru ?_ | refine out_blk ?_ | refine pass (by decide) ?_))
      | (refine post1 ?_; simp only [GA, Nat.reduceEqDiff, ↓reduceIte])
      | (refine post2 ?_; simp only [GA, Nat.reduceEqDiff, ↓reduceIte])
      | (refine post3 ?_; simp only [GA, Nat.reduceEqDiff, ↓reduceIte])
      | (refine postc (by simp only [GA, Nat.reduceEqDiff, ↓reduceIte]; rfl) (by simp (disch := omega) only [klt', g0, g1, g2, g5, st, w1, w2, w3, dn, e5_len, hm, row_m hm, read_row (row_m hm), hm5, row_m hm5, read_row (row_m hm5), c44r0, c44r1, c44r2, c44r3, c44r4, c44r5, c44r6, c44r7, c44r8, c44r10, EV0, EV1, EV2, EV3, EV4, EV5, EV6, EV7, EV8, VALS, plug, ite_same, decide_true, decide_false, eq_self, ↓reduceIte, reduceCtorEq, Nat.reduceAdd, Nat.reduceEqDiff, Nat.reduceLT, Nat.reduceLeDiff, Nat.reduceMul, Nat.reduceSub, Nat.reduceDiv, Int.reduceToNat, Int.reduceAdd, Int.reduceSub, Int.reduceMul, Int.reduceNeg, Int.reduceEq, Int.reduceLT, Int.reduceLE]; rfl) ?_)
      | (refine postct (by simp only [GA, Nat.reduceEqDiff, ↓reduceIte]; rfl) (by simp (disch := omega) only [klt', g0, g1, g2, g5, st, w1, w2, w3, dn, e5_len, hm, row_m hm, read_row (row_m hm), hm5, row_m hm5, read_row (row_m hm5), c44r0, c44r1, c44r2, c44r3, c44r4, c44r5, c44r6, c44r7, c44r8, c44r10, EV0, EV1, EV2, EV3, EV4, EV5, EV6, EV7, EV8, VALS, plug, ite_same, decide_true, decide_false, eq_self, ↓reduceIte, reduceCtorEq, Nat.reduceAdd, Nat.reduceEqDiff, Nat.reduceLT, Nat.reduceLeDiff, Nat.reduceMul, Nat.reduceSub, Nat.reduceDiv, Int.reduceToNat, Int.reduceAdd, Int.reduceSub, Int.reduceMul, Int.reduceNeg, Int.reduceEq, Int.reduceLT, Int.reduceLE]; rfl) ?_; simp only [GA, Nat.reduceEqDiff, ↓reduceIte])
      | refine post0 ?_
    exact ⟨klt, (), (by simp only [Am.keep, List.map_cons, List.map_nil, GA, Nat.reduceEqDiff, ↓reduceIte]; try rfl), by simp (disch := omega) only [hm, c44r0, c44r1, c44r2, c44r3, c44r4, c44r5, c44r6, c44r7, c44r8, c44r10, EV0, EV1, EV2, EV3, EV4, EV5, EV6, EV7, EV8, VALS, plug, ite_same, decide_true, decide_false, eq_self, ↓reduceIte, reduceCtorEq, Nat.reduceAdd, Nat.reduceEqDiff, Nat.reduceLT, Nat.reduceLeDiff, Nat.reduceMul, Nat.reduceSub, Nat.reduceDiv, Int.reduceToNat, Int.reduceAdd, Int.reduceSub, Int.reduceMul, Int.reduceNeg, Int.reduceEq, Int.reduceLT, Int.reduceLE], by simp (disch := omega) only [hm3, c44r0, c44r1, c44r2, c44r3, c44r4, c44r5, c44r6, c44r7, c44r8, c44r10, EV0, EV1, EV2, EV3, EV4, EV5, EV6, EV7, EV8, VALS, plug, ite_same, decide_true, decide_false, eq_self, ↓reduceIte, reduceCtorEq, Nat.reduceAdd, Nat.reduceEqDiff, Nat.reduceLT, Nat.reduceLeDiff, Nat.reduceMul, Nat.reduceSub, Nat.reduceDiv, Int.reduceToNat, Int.reduceAdd, Int.reduceSub, Int.reduceMul, Int.reduceNeg, Int.reduceEq, Int.reduceLT, Int.reduceLE], by simp (disch := omega) only [st, c44r0, c44r1, c44r2, c44r3, c44r4, c44r5, c44r6, c44r7, c44r8, c44r10, EV0, EV1, EV2, EV3, EV4, EV5, EV6, EV7, EV8, VALS, plug, ite_same, decide_true, decide_false, eq_self, ↓reduceIte, reduceCtorEq, Nat.reduceAdd, Nat.reduceEqDiff, Nat.reduceLT, Nat.reduceLeDiff, Nat.reduceMul, Nat.reduceSub, Nat.reduceDiv, Int.reduceToNat, Int.reduceAdd, Int.reduceSub, Int.reduceMul, Int.reduceNeg, Int.reduceEq, Int.reduceLT, Int.reduceLE]⟩
  · obtain rfl : k = 5 := by omega
    have klt' : ¬ ((5 : Nat) : Int) < 5 := by omega
    repeat' first
      | with_reducible refine k_seq ?_
      | with_reducible refine k_skip ?_
      | with_reducible refine k_blkS ?_
      | with_reducible refine k_blkR ?_
      | with_reducible refine k_blkC ?_
      | with_reducible refine k_blkH ?_
      | with_reducible refine k_blkB ?_
      | with_reducible refine k_blkK ?_
      | with_reducible refine k_blkE ?_
      | with_reducible refine k_reg ?_
      | with_reducible refine k_head (by with_unfolding_all rfl) ?_
      | with_reducible refine k_headS ?_
      | (with_reducible refine SepK.mk ?_ ?_; (refine sepQ_P ?_; simp [sepQ, sepG, AOp.late, AOp.free, AOp.xs, AOp.isAl, tokNe, AV.tok, stS_get, strip, AX.val, c44r0, c44r1, c44r2, c44r3, c44r4, c44r5, c44r6, c44r7, c44r8, c44r10, GA]; try omega))
      | with_reducible refine r_done ?_
      | with_reducible refine hr_done ?_
      | with_reducible refine s_go (by simp (disch := omega) only [klt', e5_rd, hm3, row_m hm3, read_row (row_m hm3), hm5, row_m hm5, read_row (row_m hm5), c44r0, c44r1, c44r2, c44r3, c44r4, c44r5, c44r6, c44r7, c44r8, c44r10, EV0, EV1, EV2, EV3, EV4, EV5, EV6, EV7, EV8, VALS, plug, ite_same, decide_true, decide_false, eq_self, ↓reduceIte, reduceCtorEq, Nat.reduceAdd, Nat.reduceEqDiff, Nat.reduceLT, Nat.reduceLeDiff, Nat.reduceMul, Nat.reduceSub, Nat.reduceDiv, Int.reduceToNat, Int.reduceAdd, Int.reduceSub, Int.reduceMul, Int.reduceNeg, Int.reduceEq, Int.reduceLT, Int.reduceLE]; with_reducible rfl) ?_
      | with_reducible refine h_go (by with_unfolding_all rfl) (by simp (disch := omega) only [klt', e5_rd, hm3, row_m hm3, read_row (row_m hm3), hm5, row_m hm5, read_row (row_m hm5), c44r0, c44r1, c44r2, c44r3, c44r4, c44r5, c44r6, c44r7, c44r8, c44r10, EV0, EV1, EV2, EV3, EV4, EV5, EV6, EV7, EV8, VALS, plug, ite_same, decide_true, decide_false, eq_self, ↓reduceIte, reduceCtorEq, Nat.reduceAdd, Nat.reduceEqDiff, Nat.reduceLT, Nat.reduceLeDiff, Nat.reduceMul, Nat.reduceSub, Nat.reduceDiv, Int.reduceToNat, Int.reduceAdd, Int.reduceSub, Int.reduceMul, Int.reduceNeg, Int.reduceEq, Int.reduceLT, Int.reduceLE]; with_reducible rfl) ?_
      | ((with_reducible refine chk_r ?_); refine r_callF (by simp only [CA, Nat.reduceEqDiff, ↓reduceIte]; rfl) (by exact rfl) (by simp only [CA, Nat.reduceEqDiff, ↓reduceIte]; rfl) rfl ?_)
      | ((with_reducible refine chk_h ?_); refine hr_callF (by simp only [CA, Nat.reduceEqDiff, ↓reduceIte]; rfl) (by exact rfl) (by simp only [CA, Nat.reduceEqDiff, ↓reduceIte]; rfl) rfl ?_)
      | ((with_reducible refine chk_h ?_); refine hr_app (by simp (disch := omega) only [klt', e5_rd, hm3, row_m hm3, read_row (row_m hm3), hm5, row_m hm5, read_row (row_m hm5), c44r0, c44r1, c44r2, c44r3, c44r4, c44r5, c44r6, c44r7, c44r8, c44r10, EV0, EV1, EV2, EV3, EV4, EV5, EV6, EV7, EV8, VALS, plug, ite_same, decide_true, decide_false, eq_self, ↓reduceIte, reduceCtorEq, Nat.reduceAdd, Nat.reduceEqDiff, Nat.reduceLT, Nat.reduceLeDiff, Nat.reduceMul, Nat.reduceSub, Nat.reduceDiv, Int.reduceToNat, Int.reduceAdd, Int.reduceSub, Int.reduceMul, Int.reduceNeg, Int.reduceEq, Int.reduceLT, Int.reduceLE]; with_reducible rfl) rfl ?_)
      | (with_reducible refine k_condP (by simp only [GA, Nat.reduceEqDiff, ↓reduceIte]; rfl) (by first | (simp only [BO]; rfl) | rfl) (fun ht => ?_) (fun ht => ?_) <;> try (first | exact False.elim ht | exact absurd rfl ht | exact absurd trivial ht | exact Bool.noConfusion ht))
      | (with_reducible refine k_ret ?_; repeat with_reducible (first | refine ret_thru ?_ | refine ret_blk ?_ | refine fin ?_))
      | (with_reducible refine k_exit ?_; repeat with_reducible (first | refine thru ?_ | refine out_blk ?_ | refine pass (by decide) ?_))
      | (refine post1 ?_; simp only [GA, Nat.reduceEqDiff, ↓reduceIte])
      | (refine post2 ?_; simp only [GA, Nat.reduceEqDiff, ↓reduceIte])
      | (refine post3 ?_; simp only [GA, Nat.reduceEqDiff, ↓reduceIte])
      | (refine postc (by simp only [GA, Nat.reduceEqDiff, ↓reduceIte]; rfl) (by simp (disch := omega) only [klt', e5_rd, hm3, row_m hm3, read_row (row_m hm3), hm5, row_m hm5, read_row (row_m hm5), c44r0, c44r1, c44r2, c44r3, c44r4, c44r5, c44r6, c44r7, c44r8, c44r10, EV0, EV1, EV2, EV3, EV4, EV5, EV6, EV7, EV8, VALS, plug, ite_same, decide_true, decide_false, eq_self, ↓reduceIte, reduceCtorEq, Nat.reduceAdd, Nat.reduceEqDiff, Nat.reduceLT, Nat.reduceLeDiff, Nat.reduceMul, Nat.reduceSub, Nat.reduceDiv, Int.reduceToNat, Int.reduceAdd, Int.reduceSub, Int.reduceMul, Int.reduceNeg, Int.reduceEq, Int.reduceLT, Int.reduceLE]; rfl) ?_)
      | (refine postct (by simp only [GA, Nat.reduceEqDiff, ↓reduceIte]; rfl) (by simp (disch := omega) only [klt', e5_rd, hm3, row_m hm3, read_row (row_m hm3), hm5, row_m hm5, read_row (row_m hm5), c44r0, c44r1, c44r2, c44r3, c44r4, c44r5, c44r6, c44r7, c44r8, c44r10, EV0, EV1, EV2, EV3, EV4, EV5, EV6, EV7, EV8, VALS, plug, ite_same, decide_true, decide_false, eq_self, ↓reduceIte, reduceCtorEq, Nat.reduceAdd, Nat.reduceEqDiff, Nat.reduceLT, Nat.reduceLeDiff, Nat.reduceMul, Nat.reduceSub, Nat.reduceDiv, Int.reduceToNat, Int.reduceAdd, Int.reduceSub, Int.reduceMul, Int.reduceNeg, Int.reduceEq, Int.reduceLT, Int.reduceLE]; rfl) ?_; simp only [GA, Nat.reduceEqDiff, ↓reduceIte])
      | refine post0 ?_
    all_goals first | exact ends_of | exact ends_eq rfl
/-! ### faults f45 f46 -/
/-- the measures that are too much, of the first k -/
def flt (s : Sz) (x : Hd) : Nat → List Int
  | 0 => []
  | k + 1 => if s.B k < nd s x k then flt s x k ++ [(k : Int)] else flt s x k
def fau (s : Sz) (x : Hd) : List Int := if s.t < nS s x 5 then flt s x 5 ++ [5] else flt s x 5
theorem flt_len (s : Sz) (x : Hd) : ∀ k, (flt s x k).length ≤ k
  | 0 => by simp [flt]
  | k + 1 => by
    have := flt_len s x k
    unfold flt
    split
    · rw [List.length_append, List.length_singleton]; omega
    · omega
theorem pc45 (s : Sz) (x : Hd) (hs : szOk s = true) (hx : hdOk x = true) : PC Try.prog 45 [.ag (eZ s), .ag (eH x)] (vi (fau s x)) := by
  have q42 := pc42 s x hs hx
  refine pc_fn fn45 (by simp only [AV.plains, AV.plain, il_plain, bl_plain, Bool.and_true, Bool.true_and, Bool.and_self]) (by simp only [AV.plains, AV.plain, il_plain, bl_plain, Bool.and_true, Bool.true_and, Bool.and_self]) (Nat.le_of_ble_eq_true rfl) ?_
  rw [initSt2]
  repeat' first
    | with_reducible refine k_seq ?_
    | with_reducible refine k_skip ?_
    | with_reducible refine k_blkS ?_
    | with_reducible refine k_blkR ?_
    | with_reducible refine k_blkC ?_
    | with_reducible refine k_blkH ?_
    | with_reducible refine k_blkB ?_
    | with_reducible refine k_blkK ?_
    | with_reducible refine k_blkE ?_
    | with_reducible refine k_reg ?_
    | with_reducible refine r_done ?_
    | with_reducible refine s_go (by simp (disch := omega) only [eZ_rd, eH_rd, e5_rd, c45r0, c45r1, c45r2, c45r3, c45r4, c45r5, c45r6, c45r7, c45r8, c45r10, c45r11, c45r12, EV0, EV1, EV2, EV3, EV4, EV5, EV6, EV7, EV8, VALS, plug, ite_same, decide_true, decide_false, eq_self, ↓reduceIte, reduceCtorEq, Nat.reduceAdd, Nat.reduceEqDiff, Nat.reduceLT, Nat.reduceLeDiff, Nat.reduceMul, Nat.reduceSub, Nat.reduceDiv, Int.reduceToNat, Int.reduceAdd, Int.reduceSub, Int.reduceMul, Int.reduceNeg, Int.reduceEq, Int.reduceLT, Int.reduceLE]; with_reducible rfl) ?_
    | ((with_reducible refine chk_r ?_); refine r_callF (by simp only [CA, Nat.reduceEqDiff, ↓reduceIte]; rfl) (by exact rfl) (by simp only [CA, Nat.reduceEqDiff, ↓reduceIte]; rfl) rfl ?_)
    | ((with_reducible refine chk_r ?_); refine r_callP (by simp only [CA, Nat.reduceEqDiff, ↓reduceIte]; rfl) (by simp only [CA, Nat.reduceEqDiff, ↓reduceIte]; rfl) (by first | exact q42 _) rfl ?_)
    | (with_reducible refine k_condP (by simp only [GA, Nat.reduceEqDiff, ↓reduceIte]; rfl) (by first | (simp only [BO]; rfl) | rfl) (fun ht => ?_) (fun ht => ?_) <;> try (first | exact False.elim ht | exact absurd rfl ht | exact absurd trivial ht | exact Bool.noConfusion ht))
    | (with_reducible refine k_ret ?_; repeat with_reducible (first | refine ret_thru ?_ | refine ret_blk ?_ | refine fin ?_))
    | (with_reducible refine k_exit ?_; repeat with_reducible (first | refine thru ?_ | refine out_blk ?_ | refine pass (by decide) ?_))
    | (refine post1 ?_; simp only [GA, Nat.reduceEqDiff, ↓reduceIte])
    | (refine post2 ?_; simp only [GA, Nat.reduceEqDiff, ↓reduceIte])
    | (refine post3 ?_; simp only [GA, Nat.reduceEqDiff, ↓reduceIte])
    | (refine postc (by simp only [GA, Nat.reduceEqDiff, ↓reduceIte]; rfl) (by simp (disch := omega) only [eZ_rd, eH_rd, e5_rd, c45r0, c45r1, c45r2, c45r3, c45r4, c45r5, c45r6, c45r7, c45r8, c45r10, c45r11, c45r12, EV0, EV1, EV2, EV3, EV4, EV5, EV6, EV7, EV8, VALS, plug, ite_same, decide_true, decide_false, eq_self, ↓reduceIte, reduceCtorEq, Nat.reduceAdd, Nat.reduceEqDiff, Nat.reduceLT, Nat.reduceLeDiff, Nat.reduceMul, Nat.reduceSub, Nat.reduceDiv, Int.reduceToNat, Int.reduceAdd, Int.reduceSub, Int.reduceMul, Int.reduceNeg, Int.reduceEq, Int.reduceLT, Int.reduceLE]; rfl) ?_)
    | refine post0 ?_
  refine w_virt 1 5 rfl ?_
  refine k_blk (k_loopS (X := Nat) [2, 5, 7, 16, 17] 5 (fun k y => [(2, .p 1 0), (5, .sl y 0 (flt s x k).length 1), (7, .i .i64 (nS s x 5)), (16, .ag (e5 (nd s x))), (17, .i .i64 (k : Int))]) (fun k y h => h.m 1 = some (.cells true (eZ s)) ∧ y ≠ 0 ∧ y ≠ 1 ∧ h.m y = some (.cells true (il (flt s x k)))) _ (by simp only [Am.keep, List.map_cons, List.map_nil, GA, Nat.reduceEqDiff, ↓reduceIte]; try rfl) ⟨by simp (disch := omega) only [c45r0, c45r1, c45r2, c45r3, c45r4, c45r5, c45r6, c45r7, c45r8, c45r10, c45r11, c45r12, EV0, EV1, EV2, EV3, EV4, EV5, EV6, EV7, EV8, VALS, plug, ite_same, decide_true, decide_false, eq_self, ↓reduceIte, reduceCtorEq, Nat.reduceAdd, Nat.reduceEqDiff, Nat.reduceLT, Nat.reduceLeDiff, Nat.reduceMul, Nat.reduceSub, Nat.reduceDiv, Int.reduceToNat, Int.reduceAdd, Int.reduceSub, Int.reduceMul, Int.reduceNeg, Int.reduceEq, Int.reduceLT, Int.reduceLE] <;> rfl, ?_, ?_, by simp (disch := omega) only [c45r0, c45r1, c45r2, c45r3, c45r4, c45r5, c45r6, c45r7, c45r8, c45r10, c45r11, c45r12, EV0, EV1, EV2, EV3, EV4, EV5, EV6, EV7, EV8, VALS, plug, ite_same, decide_true, decide_false, eq_self, ↓reduceIte, reduceCtorEq, Nat.reduceAdd, Nat.reduceEqDiff, Nat.reduceLT, Nat.reduceLeDiff, Nat.reduceMul, Nat.reduceSub, Nat.reduceDiv, Int.reduceToNat, Int.reduceAdd, Int.reduceSub, Int.reduceMul, Int.reduceNeg, Int.reduceEq, Int.reduceLT, Int.reduceLE] <;> rfl⟩ ?_)
  all_goals try (simp only [AH.bump_nx]; omega)
  rintro k y h hk ⟨hm, hy, hy1, hmy⟩ ok pos
  have ly := ok.m hmy
  have l1 := ok.m hm
  have len := flt_len s x k
  by_cases klt : k < 5
  · have klt' : (k : Int) < 5 := by omega
    have g0 := e5_get (F := nd s x) klt
    have g1 := eZ_B s klt
    by_cases c : s.B k < nd s x k
    · have c' := eq_true c
      have e : flt s x (k + 1) = flt s x k ++ [(k : Int)] := if_pos c
      repeat' first
        | with_reducible refine k_seq ?_
        | with_reducible refine k_skip ?_
        | with_reducible refine k_blkS ?_
        | with_reducible refine k_blkR ?_
        | with_reducible refine k_blkC ?_
        | with_reducible refine k_blkH ?_
        | with_reducible refine k_blkB ?_
        | with_reducible refine k_blkK ?_
        | with_reducible refine k_blkE ?_
        | with_reducible refine k_reg ?_
        | with_reducible refine r_done ?_
        | with_reducible refine s_go (by simp (disch := omega) only [klt', g0, g1, c', hm, row_m hm, read_row (row_m hm), hmy, il_len, hy, c45r0, c45r1, c45r2, c45r3, c45r4, c45r5, c45r6, c45r7, c45r8, c45r10, c45r11, c45r12, EV0, EV1, EV2, EV3, EV4, EV5, EV6, EV7, EV8, VALS, plug, ite_same, decide_true, decide_false, eq_self, ↓reduceIte, reduceCtorEq, Nat.reduceAdd, Nat.reduceEqDiff, Nat.reduceLT, Nat.reduceLeDiff, Nat.reduceMul, Nat.reduceSub, Nat.reduceDiv, Int.reduceToNat, Int.reduceAdd, Int.reduceSub, Int.reduceMul, Int.reduceNeg, Int.reduceEq, Int.reduceLT, Int.reduceLE]; with_reducible rfl) ?_
        | ((with_reducible refine chk_r ?_); refine r_callF (by simp only [CA, Nat.reduceEqDiff, ↓reduceIte]; rfl) (by exact rfl) (by simp only [CA, Nat.reduceEqDiff, ↓reduceIte]; rfl) rfl ?_)
        | (with_reducible refine k_condP (by simp only [GA, Nat.reduceEqDiff, ↓reduceIte]; rfl) (by first | (simp only [BO]; rfl) | rfl) (fun ht => ?_) (fun ht => ?_) <;> try (first | exact False.elim ht | exact absurd rfl ht | exact absurd trivial ht | exact Bool.noConfusion ht))
        | (with_reducible refine k_ret ?_; repeat with_reducible (first | refine ret_thru ?_ | refine ret_blk ?_ | refine fin ?_))
        | (with_reducible refine k_exit ?_; repeat with_reducible (first | refine thru ?_ | refine out_blk ?_ | refine pass (by decide) ?_))
        | (refine post1 ?_; simp only [GA, Nat.reduceEqDiff, ↓reduceIte])
        | (refine post2 ?_; simp only [GA, Nat.reduceEqDiff, ↓reduceIte])
        | (refine post3 ?_; simp only [GA, Nat.reduceEqDiff, ↓reduceIte])
        | (refine postc (by simp only [GA, Nat.reduceEqDiff, ↓reduceIte]; rfl) (by simp (disch := omega) only [klt', g0, g1, c', hm, row_m hm, read_row (row_m hm), hmy, il_len, hy, c45r0, c45r1, c45r2, c45r3, c45r4, c45r5, c45r6, c45r7, c45r8, c45r10, c45r11, c45r12, EV0, EV1, EV2, EV3, EV4, EV5, EV6, EV7, EV8, VALS, plug, ite_same, decide_true, decide_false, eq_self, ↓reduceIte, reduceCtorEq, Nat.reduceAdd, Nat.reduceEqDiff, Nat.reduceLT, Nat.reduceLeDiff, Nat.reduceMul, Nat.reduceSub, Nat.reduceDiv, Int.reduceToNat, Int.reduceAdd, Int.reduceSub, Int.reduceMul, Int.reduceNeg, Int.reduceEq, Int.reduceLT, Int.reduceLE]; rfl) ?_)
        | refine post0 ?_
      rw [e]
      refine ⟨klt, ?tk, ?g1, ?g2, ?g3, ?g4, ?g5⟩
      case g1 =>
        simp only [Am.keep, List.map_cons, List.map_nil, GA, Nat.reduceEqDiff, ↓reduceIte, List.length_append, List.length_cons, List.length_nil, Nat.zero_add]
        rfl
      case g2 => simp (disch := omega) only [hm, c45r0, c45r1, c45r2, c45r3, c45r4, c45r5, c45r6, c45r7, c45r8, c45r10, c45r11, c45r12, EV0, EV1, EV2, EV3, EV4, EV5, EV6, EV7, EV8, VALS, plug, ite_same, decide_true, decide_false, eq_self, ↓reduceIte, reduceCtorEq, Nat.reduceAdd, Nat.reduceEqDiff, Nat.reduceLT, Nat.reduceLeDiff, Nat.reduceMul, Nat.reduceSub, Nat.reduceDiv, Int.reduceToNat, Int.reduceAdd, Int.reduceSub, Int.reduceMul, Int.reduceNeg, Int.reduceEq, Int.reduceLT, Int.reduceLE]
      case g3 => omega
      case g4 => omega
      case g5 => simp (disch := omega) only [c45r0, c45r1, c45r2, c45r3, c45r4, c45r5, c45r6, c45r7, c45r8, c45r10, c45r11, c45r12, EV0, EV1, EV2, EV3, EV4, EV5, EV6, EV7, EV8, VALS, plug, ite_same, decide_true, decide_false, eq_self, ↓reduceIte, reduceCtorEq, Nat.reduceAdd, Nat.reduceEqDiff, Nat.reduceLT, Nat.reduceLeDiff, Nat.reduceMul, Nat.reduceSub, Nat.reduceDiv, Int.reduceToNat, Int.reduceAdd, Int.reduceSub, Int.reduceMul, Int.reduceNeg, Int.reduceEq, Int.reduceLT, Int.reduceLE] <;> rfl
    · have c' := eq_false c
      have e : flt s x (k + 1) = flt s x k := if_neg c
      repeat' first
        | with_reducible refine k_seq ?_
        | with_reducible refine k_skip ?_
        | with_reducible refine k_blkS ?_
        | with_reducible refine k_blkR ?_
        | with_reducible refine k_blkC ?_
        | with_reducible refine k_blkH ?_
        | with_reducible refine k_blkB ?_
        | with_reducible refine k_blkK ?_
        | with_reducible refine k_blkE ?_
        | with_reducible refine k_reg ?_
        | with_reducible refine r_done ?_
        | with_reducible refine s_go (by simp (disch := omega) only [klt', g0, g1, c', hm, row_m hm, read_row (row_m hm), c45r0, c45r1, c45r2, c45r3, c45r4, c45r5, c45r6, c45r7, c45r8, c45r10, c45r11, c45r12, EV0, EV1, EV2, EV3, EV4, EV5, EV6, EV7, EV8, VALS, plug, ite_same, decide_true, decide_false, eq_self, ↓reduceIte, reduceCtorEq, Nat.reduceAdd, Nat.reduceEqDiff, Nat.reduceLT, Nat.reduceLeDiff, Nat.reduceMul, Nat.reduceSub, Nat.reduceDiv, Int.reduceToNat, Int.reduceAdd, Int.reduceSub, Int.reduceMul, Int.reduceNeg, Int.reduceEq, Int.reduceLT, Int.reduceLE]; with_reducible rfl) ?_
        | ((with_reducible refine chk_r ?_); refine r_callF (by simp only [CA, Nat.reduceEqDiff, ↓reduceIte]; rfl) (by exact rfl) (by simp only [CA, Nat.reduceEqDiff, ↓reduceIte]; rfl) rfl ?_)
        | (with_reducible refine k_condP (by simp only [GA, Nat.reduceEqDiff, ↓reduceIte]; rfl) (by first | (simp only [BO]; rfl) | rfl) (fun ht => ?_) (fun ht => ?_) <;> try (first | exact False.elim ht | exact absurd rfl ht | exact absurd trivial ht | exact Bool.noConfusion ht))
        | (with_reducible refine k_ret ?_; repeat with_reducible (first | refine ret_thru ?_ | refine ret_blk ?_ | refine fin ?_))
        | (with_reducible refine k_exit ?_; repeat with_reducible (first | refine thru ?_ | refine out_blk ?_ | refine pass (by decide) ?_))
        | (refine post1 ?_; simp only [GA, Nat.reduceEqDiff, ↓reduceIte])
        | (refine post2 ?_; simp only [GA, Nat.reduceEqDiff, ↓reduceIte])
        | (refine post3 ?_; simp only [GA, Nat.reduceEqDiff, ↓reduceIte])
        | (refine postc (by simp only [GA, Nat.reduceEqDiff, ↓reduceIte]; rfl) (by simp (disch := omega) only [klt', g0, g1, c', hm, row_m hm, read_row (row_m hm), c45r0, c45r1, c45r2, c45r3, c45r4, c45r5, c45r6, c45r7, c45r8, c45r10, c45r11, c45r12, EV0, EV1, EV2, EV3, EV4, EV5, EV6, EV7, EV8, VALS, plug, ite_same, decide_true, decide_false, eq_self, ↓reduceIte, reduceCtorEq, Nat.reduceAdd, Nat.reduceEqDiff, Nat.reduceLT, Nat.reduceLeDiff, Nat.reduceMul, Nat.reduceSub, Nat.reduceDiv, Int.reduceToNat, Int.reduceAdd, Int.reduceSub, Int.reduceMul, Int.reduceNeg, Int.reduceEq, Int.reduceLT, Int.reduceLE]; rfl) ?_)
        | refine post0 ?_
      rw [e]
      exact ⟨klt, y, (by simp only [Am.keep, List.map_cons, List.map_nil, GA, Nat.reduceEqDiff, ↓reduceIte]; try rfl), by simp (disch := omega) only [hm, c45r0, c45r1, c45r2, c45r3, c45r4, c45r5, c45r6, c45r7, c45r8, c45r10, c45r11, c45r12, EV0, EV1, EV2, EV3, EV4, EV5, EV6, EV7, EV8, VALS, plug, ite_same, decide_true, decide_false, eq_self, ↓reduceIte, reduceCtorEq, Nat.reduceAdd, Nat.reduceEqDiff, Nat.reduceLT, Nat.reduceLeDiff, Nat.reduceMul, Nat.reduceSub, Nat.reduceDiv, Int.reduceToNat, Int.reduceAdd, Int.reduceSub, Int.reduceMul, Int.reduceNeg, Int.reduceEq, Int.reduceLT, Int.reduceLE], hy, hy1, by simp (disch := omega) only [hmy, c45r0, c45r1, c45r2, c45r3, c45r4, c45r5, c45r6, c45r7, c45r8, c45r10, c45r11, c45r12, EV0, EV1, EV2, EV3, EV4, EV5, EV6, EV7, EV8, VALS, plug, ite_same, decide_true, decide_false, eq_self, ↓reduceIte, reduceCtorEq, Nat.reduceAdd, Nat.reduceEqDiff, Nat.reduceLT, Nat.reduceLeDiff, Nat.reduceMul, Nat.reduceSub, Nat.reduceDiv, Int.reduceToNat, Int.reduceAdd, Int.reduceSub, Int.reduceMul, Int.reduceNeg, Int.reduceEq, Int.reduceLT, Int.reduceLE]⟩
  · obtain rfl : k = 5 := by omega
    have klt' : ¬ ((5 : Nat) : Int) < 5 := by omega
    unfold fau
    by_cases c : s.t < nS s x 5
    · have c' := eq_true c
      rw [if_pos c]
      repeat' first
        | with_reducible refine k_seq ?_
        | with_reducible refine k_skip ?_
        | with_reducible refine k_blkS ?_
        | with_reducible refine k_blkR ?_
        | with_reducible refine k_blkC ?_
        | with_reducible refine k_blkH ?_
        | with_reducible refine k_blkB ?_
        | with_reducible refine k_blkK ?_
        | with_reducible refine k_blkE ?_
        | with_reducible refine k_reg ?_
        | with_reducible refine r_done ?_
        | with_reducible refine s_go (by simp (disch := omega) only [klt', c', eZ_rt, hm, row_m hm, read_row (row_m hm), hmy, il_len, hy, c45r0, c45r1, c45r2, c45r3, c45r4, c45r5, c45r6, c45r7, c45r8, c45r10, c45r11, c45r12, EV0, EV1, EV2, EV3, EV4, EV5, EV6, EV7, EV8, VALS, plug, ite_same, decide_true, decide_false, eq_self, ↓reduceIte, reduceCtorEq, Nat.reduceAdd, Nat.reduceEqDiff, Nat.reduceLT, Nat.reduceLeDiff, Nat.reduceMul, Nat.reduceSub, Nat.reduceDiv, Int.reduceToNat, Int.reduceAdd, Int.reduceSub, Int.reduceMul, Int.reduceNeg, Int.reduceEq, Int.reduceLT, Int.reduceLE]; with_reducible rfl) ?_
        | ((with_reducible refine chk_r ?_); refine r_callF (by simp only [CA, Nat.reduceEqDiff, ↓reduceIte]; rfl) (by exact rfl) (by simp only [CA, Nat.reduceEqDiff, ↓reduceIte]; rfl) rfl ?_)
        | (with_reducible refine k_condP (by simp only [GA, Nat.reduceEqDiff, ↓reduceIte]; rfl) (by first | (simp only [BO]; rfl) | rfl) (fun ht => ?_) (fun ht => ?_) <;> try (first | exact False.elim ht | exact absurd rfl ht | exact absurd trivial ht | exact Bool.noConfusion ht))
        | (with_reducible refine k_ret ?_; repeat with_reducible (first | refine ret_thru ?_ | refine ret_blk ?_ | refine fin ?_))
        | (with_reducible refine k_exit ?_; repeat with_reducible (first | refine thru ?_ | refine out_blk ?_ | refine pass (by decide) ?_))
        | (refine post1 ?_; simp only [GA, Nat.reduceEqDiff, ↓reduceIte])
        | (refine post2 ?_; simp only [GA, Nat.reduceEqDiff, ↓reduceIte])
        | (refine post3 ?_; simp only [GA, Nat.reduceEqDiff, ↓reduceIte])
        | (refine postc (by simp only [GA, Nat.reduceEqDiff, ↓reduceIte]; rfl) (by simp (disch := omega) only [klt', c', eZ_rt, hm, row_m hm, read_row (row_m hm), hmy, il_len, hy, c45r0, c45r1, c45r2, c45r3, c45r4, c45r5, c45r6, c45r7, c45r8, c45r10, c45r11, c45r12, EV0, EV1, EV2, EV3, EV4, EV5, EV6, EV7, EV8, VALS, plug, ite_same, decide_true, decide_false, eq_self, ↓reduceIte, reduceCtorEq, Nat.reduceAdd, Nat.reduceEqDiff, Nat.reduceLT, Nat.reduceLeDiff, Nat.reduceMul, Nat.reduceSub, Nat.reduceDiv, Int.reduceToNat, Int.reduceAdd, Int.reduceSub, Int.reduceMul, Int.reduceNeg, Int.reduceEq, Int.reduceLT, Int.reduceLE]; rfl) ?_)
        | refine post0 ?_
      rw [show (flt s x 5).length + 1 = (flt s x 5 ++ [(5 : Int)]).length by simp]
      exact ends_sl (k := 1) (cs := il (flt s x 5 ++ [5])) (by simp (disch := omega) only [c45r0, c45r1, c45r2, c45r3, c45r4, c45r5, c45r6, c45r7, c45r8, c45r10, c45r11, c45r12, EV0, EV1, EV2, EV3, EV4, EV5, EV6, EV7, EV8, VALS, plug, ite_same, decide_true, decide_false, eq_self, ↓reduceIte, reduceCtorEq, Nat.reduceAdd, Nat.reduceEqDiff, Nat.reduceLT, Nat.reduceLeDiff, Nat.reduceMul, Nat.reduceSub, Nat.reduceDiv, Int.reduceToNat, Int.reduceAdd, Int.reduceSub, Int.reduceMul, Int.reduceNeg, Int.reduceEq, Int.reduceLT, Int.reduceLE] <;> rfl) (by rw [il_len, Nat.mul_one, List.length_append, List.length_singleton])
    · have c' := eq_false c
      rw [if_neg c]
      repeat' first
        | with_reducible refine k_seq ?_
        | with_reducible refine k_skip ?_
        | with_reducible refine k_blkS ?_
        | with_reducible refine k_blkR ?_
        | with_reducible refine k_blkC ?_
        | with_reducible refine k_blkH ?_
        | with_reducible refine k_blkB ?_
        | with_reducible refine k_blkK ?_
        | with_reducible refine k_blkE ?_
        | with_reducible refine k_reg ?_
        | with_reducible refine r_done ?_
        | with_reducible refine s_go (by simp (disch := omega) only [klt', c', eZ_rt, hm, row_m hm, read_row (row_m hm), hmy, il_len, c45r0, c45r1, c45r2, c45r3, c45r4, c45r5, c45r6, c45r7, c45r8, c45r10, c45r11, c45r12, EV0, EV1, EV2, EV3, EV4, EV5, EV6, EV7, EV8, VALS, plug, ite_same, decide_true, decide_false, eq_self, ↓reduceIte, reduceCtorEq, Nat.reduceAdd, Nat.reduceEqDiff, Nat.reduceLT, Nat.reduceLeDiff, Nat.reduceMul, Nat.reduceSub, Nat.reduceDiv, Int.reduceToNat, Int.reduceAdd, Int.reduceSub, Int.reduceMul, Int.reduceNeg, Int.reduceEq, Int.reduceLT, Int.reduceLE]; with_reducible rfl) ?_
        | ((with_reducible refine chk_r ?_); refine r_callF (by simp only [CA, Nat.reduceEqDiff, ↓reduceIte]; rfl) (by exact rfl) (by simp only [CA, Nat.reduceEqDiff, ↓reduceIte]; rfl) rfl ?_)
        | (with_reducible refine k_condP (by simp only [GA, Nat.reduceEqDiff, ↓reduceIte]; rfl) (by first | (simp only [BO]; rfl) | rfl) (fun ht => ?_) (fun ht => ?_) <;> try (first | exact False.elim ht | exact absurd rfl ht | exact absurd trivial ht | exact Bool.noConfusion ht))
        | (with_reducible refine k_ret ?_; repeat with_reducible (first | refine ret_thru ?_ | refine ret_blk ?_ | refine fin ?_))
        | (with_reducible refine k_exit ?_; repeat with_reducible (first | refine thru ?_ | refine out_blk ?_ | refine pass (by decide) ?_))
        | (refine post1 ?_; simp only [GA, Nat.reduceEqDiff, ↓reduceIte])
        | (refine post2 ?_; simp only [GA, Nat.reduceEqDiff, ↓reduceIte])
        | (refine post3 ?_; simp only [GA, Nat.reduceEqDiff, ↓reduceIte])
        | (refine postc (by simp only [GA, Nat.reduceEqDiff, ↓reduceIte]; rfl) (by simp (disch := omega) only [klt', c', eZ_rt, hm, row_m hm, read_row (row_m hm), hmy, il_len, c45r0, c45r1, c45r2, c45r3, c45r4, c45r5, c45r6, c45r7, c45r8, c45r10, c45r11, c45r12, EV0, EV1, EV2, EV3, EV4, EV5, EV6, EV7, EV8, VALS, plug, ite_same, decide_true, decide_false, eq_self, ↓reduceIte, reduceCtorEq, Nat.reduceAdd, Nat.reduceEqDiff, Nat.reduceLT, Nat.reduceLeDiff, Nat.reduceMul, Nat.reduceSub, Nat.reduceDiv, Int.reduceToNat, Int.reduceAdd, Int.reduceSub, Int.reduceMul, Int.reduceNeg, Int.reduceEq, Int.reduceLT, Int.reduceLE]; rfl) ?_)
        | refine post0 ?_
      exact ends_sl (k := 1) (cs := il (flt s x 5)) (by simp (disch := omega) only [hmy, c45r0, c45r1, c45r2, c45r3, c45r4, c45r5, c45r6, c45r7, c45r8, c45r10, c45r11, c45r12, EV0, EV1, EV2, EV3, EV4, EV5, EV6, EV7, EV8, VALS, plug, ite_same, decide_true, decide_false, eq_self, ↓reduceIte, reduceCtorEq, Nat.reduceAdd, Nat.reduceEqDiff, Nat.reduceLT, Nat.reduceLeDiff, Nat.reduceMul, Nat.reduceSub, Nat.reduceDiv, Int.reduceToNat, Int.reduceAdd, Int.reduceSub, Int.reduceMul, Int.reduceNeg, Int.reduceEq, Int.reduceLT, Int.reduceLE]) (by rw [il_len, Nat.mul_one])
theorem pc46 (s : Sz) (x : Hd) (hs : szOk s = true) (hx : hdOk x = true) : PC Try.prog 46 [.ag (eZ s), .ag (eH x)] (vi (fau s x)) := by
  have q44 := pc44 s x hs hx
  refine pc_fn fn46 (by simp only [AV.plains, AV.plain, il_plain, bl_plain, Bool.and_true, Bool.true_and, Bool.and_self]) (by simp only [AV.plains, AV.plain, il_plain, bl_plain, Bool.and_true, Bool.true_and, Bool.and_self]) (Nat.le_of_ble_eq_true rfl) ?_
  rw [initSt2]
  repeat' first
    | with_reducible refine k_seq ?_
    | with_reducible refine k_skip ?_
    | with_reducible refine k_blkS ?_
    | with_reducible refine k_blkR ?_
    | with_reducible refine k_blkC ?_
    | with_reducible refine k_blkH ?_
    | with_reducible refine k_blkB ?_
    | with_reducible refine k_blkK ?_
    | with_reducible refine k_blkE ?_
    | with_reducible refine k_reg ?_
    | with_reducible refine k_head (by with_unfolding_all rfl) ?_
    | with_reducible refine k_headS ?_
    | (with_reducible refine SepK.mk ?_ ?_; (refine sepQ_P ?_; simp [sepQ, sepG, AOp.late, AOp.free, AOp.xs, AOp.isAl, tokNe, AV.tok, stS_get, strip, AX.val, c46r0, c46r1, c46r2, c46r3, c46r4, c46r5, c46r6, c46r7, c46r8, c46r10, c46r11, c46r12, GA]; try omega))
    | with_reducible refine r_done ?_
    | with_reducible refine hr_done ?_
    | with_reducible refine s_go (by simp (disch := omega) only [eZ_rd, eH_rd, e5_rd, c46r0, c46r1, c46r2, c46r3, c46r4, c46r5, c46r6, c46r7, c46r8, c46r10, c46r11, c46r12, EV0, EV1, EV2, EV3, EV4, EV5, EV6, EV7, EV8, VALS, plug, ite_same, decide_true, decide_false, eq_self, ↓reduceIte, reduceCtorEq, Nat.reduceAdd, Nat.reduceEqDiff, Nat.reduceLT, Nat.reduceLeDiff, Nat.reduceMul, Nat.reduceSub, Nat.reduceDiv, Int.reduceToNat, Int.reduceAdd, Int.reduceSub, Int.reduceMul, Int.reduceNeg, Int.reduceEq, Int.reduceLT, Int.reduceLE]; with_reducible rfl) ?_
    | with_reducible refine h_go (by with_unfolding_all rfl) (by simp (disch := omega) only [eZ_rd, eH_rd, e5_rd, c46r0, c46r1, c46r2, c46r3, c46r4, c46r5, c46r6, c46r7, c46r8, c46r10, c46r11, c46r12, EV0, EV1, EV2, EV3, EV4, EV5, EV6, EV7, EV8, VALS, plug, ite_same, decide_true, decide_false, eq_self, ↓reduceIte, reduceCtorEq, Nat.reduceAdd, Nat.reduceEqDiff, Nat.reduceLT, Nat.reduceLeDiff, Nat.reduceMul, Nat.reduceSub, Nat.reduceDiv, Int.reduceToNat, Int.reduceAdd, Int.reduceSub, Int.reduceMul, Int.reduceNeg, Int.reduceEq, Int.reduceLT, Int.reduceLE]; with_reducible rfl) ?_
    | ((with_reducible refine chk_r ?_); refine r_callF (by simp only [CA, Nat.reduceEqDiff, ↓reduceIte]; rfl) (by exact rfl) (by simp only [CA, Nat.reduceEqDiff, ↓reduceIte]; rfl) rfl ?_)
    | ((with_reducible refine chk_h ?_); refine hr_callF (by simp only [CA, Nat.reduceEqDiff, ↓reduceIte]; rfl) (by exact rfl) (by simp only [CA, Nat.reduceEqDiff, ↓reduceIte]; rfl) rfl ?_)
    | ((with_reducible refine chk_r ?_); refine r_callP (by simp only [CA, Nat.reduceEqDiff, ↓reduceIte]; rfl) (by simp only [CA, Nat.reduceEqDiff, ↓reduceIte]; rfl) (by first | exact q44 _) rfl ?_)
    | ((with_reducible refine chk_h ?_); refine hr_callP (by simp only [CA, Nat.reduceEqDiff, ↓reduceIte]; rfl) (by simp only [CA, Nat.reduceEqDiff, ↓reduceIte]; rfl) (by first | exact q44 _) rfl ?_)
    | ((with_reducible refine chk_h ?_); refine hr_callP1 (by simp only [CA, Nat.reduceEqDiff, ↓reduceIte]; rfl) (by simp only [CA, Nat.reduceEqDiff, ↓reduceIte]; rfl) (by simp (disch := omega) only [CA, Nat.reduceEqDiff, ↓reduceIte, firstTok_nil, firstTok_sl, firstTok_sl0, firstTok_i, firstTok_b, firstTok_ag, firstTok_p, firstTok_s]; rfl) (by first | exact q44 _) rfl ?_)
    | ((with_reducible refine chk_h ?_); refine hr_app (by simp (disch := omega) only [eZ_rd, eH_rd, e5_rd, c46r0, c46r1, c46r2, c46r3, c46r4, c46r5, c46r6, c46r7, c46r8, c46r10, c46r11, c46r12, EV0, EV1, EV2, EV3, EV4, EV5, EV6, EV7, EV8, VALS, plug, ite_same, decide_true, decide_false, eq_self, ↓reduceIte, reduceCtorEq, Nat.reduceAdd, Nat.reduceEqDiff, Nat.reduceLT, Nat.reduceLeDiff, Nat.reduceMul, Nat.reduceSub, Nat.reduceDiv, Int.reduceToNat, Int.reduceAdd, Int.reduceSub, Int.reduceMul, Int.reduceNeg, Int.reduceEq, Int.reduceLT, Int.reduceLE]; with_reducible rfl) rfl ?_)
    | (with_reducible refine k_condP (by simp only [GA, Nat.reduceEqDiff, ↓reduceIte]; rfl) (by first | (simp only [BO]; rfl) | rfl) (fun ht => ?_) (fun ht => ?_) <;> try (first | exact False.elim ht | exact absurd rfl ht | exact absurd trivial ht | exact Bool.noConfusion ht))
    | (with_reducible refine k_ret ?_; repeat with_reducible (first | refine ret_thru ?_ | refine ret_blk ?_ | refine fin ?_))
    | (with_reducible refine k_exit ?_; repeat with_reducible (first | refine thru ?_ | refine out_blk ?_ | refine pass (by decide) ?_))
    | (refine post1 ?_; simp only [GA, Nat.reduceEqDiff, ↓reduceIte])
    | (refine post2 ?_; simp only [GA, Nat.reduceEqDiff, ↓reduceIte])
    | (refine post3 ?_; simp only [GA, Nat.reduceEqDiff, ↓reduceIte])
    | (refine postc (by simp only [GA, Nat.reduceEqDiff, ↓reduceIte]; rfl) (by simp (disch := omega) only [eZ_rd, eH_rd, e5_rd, c46r0, c46r1, c46r2, c46r3, c46r4, c46r5, c46r6, c46r7, c46r8, c46r10, c46r11, c46r12, EV0, EV1, EV2, EV3, EV4, EV5, EV6, EV7, EV8, VALS, plug, ite_same, decide_true, decide_false, eq_self, ↓reduceIte, reduceCtorEq, Nat.reduceAdd, Nat.reduceEqDiff, Nat.reduceLT, Nat.reduceLeDiff, Nat.reduceMul, Nat.reduceSub, Nat.reduceDiv, Int.reduceToNat, Int.reduceAdd, Int.reduceSub, Int.reduceMul, Int.reduceNeg, Int.reduceEq, Int.reduceLT, Int.reduceLE]; rfl) ?_)
    | refine post0 ?_
  refine w_virt 1 5 rfl ?_
  refine k_blk (k_loopS (X := Nat) [2, 5, 6, 7, 15] 5 (fun k y => [(2, .p 1 0), (5, .sl y 0 (flt s x k).length 1), (6, .p 11 0), (7, .i .i64 (nS s x 5)), (15, .i .i64 (k : Int))]) (fun k y h => h.m 1 = some (.cells true (eZ s)) ∧ h.m 11 = some (.cells true (e5 (nd s x))) ∧ y ≠ 11 ∧ y ≠ 0 ∧ y ≠ 1 ∧ h.m y = some (.cells true (il (flt s x k)))) _ (by simp only [Am.keep, List.map_cons, List.map_nil, GA, Nat.reduceEqDiff, ↓reduceIte]; try rfl) ⟨by simp (disch := omega) only [c46r0, c46r1, c46r2, c46r3, c46r4, c46r5, c46r6, c46r7, c46r8, c46r10, c46r11, c46r12, EV0, EV1, EV2, EV3, EV4, EV5, EV6, EV7, EV8, VALS, plug, ite_same, decide_true, decide_false, eq_self, ↓reduceIte, reduceCtorEq, Nat.reduceAdd, Nat.reduceEqDiff, Nat.reduceLT, Nat.reduceLeDiff, Nat.reduceMul, Nat.reduceSub, Nat.reduceDiv, Int.reduceToNat, Int.reduceAdd, Int.reduceSub, Int.reduceMul, Int.reduceNeg, Int.reduceEq, Int.reduceLT, Int.reduceLE] <;> rfl, by simp (disch := omega) only [c46r0, c46r1, c46r2, c46r3, c46r4, c46r5, c46r6, c46r7, c46r8, c46r10, c46r11, c46r12, EV0, EV1, EV2, EV3, EV4, EV5, EV6, EV7, EV8, VALS, plug, ite_same, decide_true, decide_false, eq_self, ↓reduceIte, reduceCtorEq, Nat.reduceAdd, Nat.reduceEqDiff, Nat.reduceLT, Nat.reduceLeDiff, Nat.reduceMul, Nat.reduceSub, Nat.reduceDiv, Int.reduceToNat, Int.reduceAdd, Int.reduceSub, Int.reduceMul, Int.reduceNeg, Int.reduceEq, Int.reduceLT, Int.reduceLE] <;> rfl, ?_, ?_, ?_, by simp (disch := omega) only [c46r0, c46r1, c46r2, c46r3, c46r4, c46r5, c46r6, c46r7, c46r8, c46r10, c46r11, c46r12, EV0, EV1, EV2, EV3, EV4, EV5, EV6, EV7, EV8, VALS, plug, ite_same, decide_true, decide_false, eq_self, ↓reduceIte, reduceCtorEq, Nat.reduceAdd, Nat.reduceEqDiff, Nat.reduceLT, Nat.reduceLeDiff, Nat.reduceMul, Nat.reduceSub, Nat.reduceDiv, Int.reduceToNat, Int.reduceAdd, Int.reduceSub, Int.reduceMul, Int.reduceNeg, Int.reduceEq, Int.reduceLT, Int.reduceLE] <;> rfl⟩ ?_)
  all_goals try (simp only [AH.bump_nx]; omega)
  all_goals try first | exact fun k => absurd (show (15 : Nat) = 11 from k) (by decide) | exact fun k => absurd (show (15 : Nat) = 1 from k) (by decide)
  rintro k y h hk ⟨hm, hmT, hyT, hy, hy1, hmy⟩ ok pos
  have ly := ok.m hmy
  have l1 := ok.m hm
  have lT := ok.m hmT
  have len := flt_len s x k
  by_cases klt : k < 5
  · have klt' : (k : Int) < 5 := by omega
    have g0 : (e5 (nd s x))[k]? = some (.i .i64 (nd s x k)) := e5_get klt
    have g1 := eZ_B s klt
    by_cases c : s.B k < nd s x k
    · have c' := eq_true c
      have e : flt s x (k + 1) = flt s x k ++ [(k : Int)] := if_pos c
      repeat' first
        | with_reducible refine k_seq ?_
        | with_reducible refine k_skip ?_
        | with_reducible refine k_blkS ?_
        | with_reducible refine k_blkR ?_
        | with_reducible refine k_blkC ?_
        | with_reducible refine k_blkH ?_
        | with_reducible refine k_blkB ?_
        | with_reducible refine k_blkK ?_
        | with_reducible refine k_blkE ?_
        | with_reducible refine k_reg ?_
        | with_reducible refine k_head (by with_unfolding_all rfl) ?_
        | with_reducible refine k_headS ?_
        | (with_reducible refine SepK.mk ?_ ?_; (refine sepQ_P ?_; simp [sepQ, sepG, AOp.late, AOp.free, AOp.xs, AOp.isAl, tokNe, AV.tok, stS_get, strip, AX.val, c46r0, c46r1, c46r2, c46r3, c46r4, c46r5, c46r6, c46r7, c46r8, c46r10, c46r11, c46r12, GA]; try omega))
        | with_reducible refine r_done ?_
        | with_reducible refine hr_done ?_
        | with_reducible refine s_go (by simp (disch := omega) only [klt', g0, g1, c', hm, row_m hm, read_row (row_m hm), hmT, row_m hmT, read_row (row_m hmT), hmy, il_len, hy, c46r0, c46r1, c46r2, c46r3, c46r4, c46r5, c46r6, c46r7, c46r8, c46r10, c46r11, c46r12, EV0, EV1, EV2, EV3, EV4, EV5, EV6, EV7, EV8, VALS, plug, ite_same, decide_true, decide_false, eq_self, ↓reduceIte, reduceCtorEq, Nat.reduceAdd, Nat.reduceEqDiff, Nat.reduceLT, Nat.reduceLeDiff, Nat.reduceMul, Nat.reduceSub, Nat.reduceDiv, Int.reduceToNat, Int.reduceAdd, Int.reduceSub, Int.reduceMul, Int.reduceNeg, Int.reduceEq, Int.reduceLT, Int.reduceLE]; with_reducible rfl) ?_
        | with_reducible refine h_go (by with_unfolding_all rfl) (by simp (disch := omega) only [klt', g0, g1, c', hm, row_m hm, read_row (row_m hm), hmT, row_m hmT, read_row (row_m hmT), hmy, il_len, hy, c46r0, c46r1, c46r2, c46r3, c46r4, c46r5, c46r6, c46r7, c46r8, c46r10, c46r11, c46r12, EV0, EV1, EV2, EV3, EV4, EV5, EV6, EV7, EV8, VALS, plug, ite_same, decide_true, decide_false, eq_self, ↓reduceIte, reduceCtorEq, Nat.reduceAdd, Nat.reduceEqDiff, Nat.reduceLT, Nat.reduceLeDiff, Nat.reduceMul, Nat.reduceSub, Nat.reduceDiv, Int.reduceToNat, Int.reduceAdd, Int.reduceSub, Int.reduceMul, Int.reduceNeg, Int.reduceEq, Int.reduceLT, Int.reduceLE]; with_reducible rfl) ?_
        | ((with_reducible refine chk_r ?_); refine r_callF (by simp only [CA, Nat.reduceEqDiff, ↓reduceIte]; rfl) (by exact rfl) (by simp only [CA, Nat.reduceEqDiff, ↓reduceIte]; rfl) rfl ?_)
        | ((with_reducible refine chk_h ?_); refine hr_callF (by simp only [CA, Nat.reduceEqDiff, ↓reduceIte]; rfl) (by exact rfl) (by simp only [CA, Nat.reduceEqDiff, ↓reduceIte]; rfl) rfl ?_)
        | ((with_reducible refine chk_h ?_); refine hr_app (by simp (disch := omega) only [klt', g0, g1, c', hm, row_m hm, read_row (row_m hm), hmT, row_m hmT, read_row (row_m hmT), hmy, il_len, hy, c46r0, c46r1, c46r2, c46r3, c46r4, c46r5, c46r6, c46r7, c46r8, c46r10, c46r11, c46r12, EV0, EV1, EV2, EV3, EV4, EV5, EV6, EV7, EV8, VALS, plug, ite_same, decide_true, decide_false, eq_self, ↓reduceIte, reduceCtorEq, Nat.reduceAdd, Nat.reduceEqDiff, Nat.reduceLT, Nat.reduceLeDiff, Nat.reduceMul, Nat.reduceSub, Nat.reduceDiv, Int.reduceToNat, Int.reduceAdd, Int.reduceSub, Int.reduceMul, Int.reduceNeg, Int.reduceEq, Int.reduceLT, Int.reduceLE]; with_reducible rfl) rfl ?_)
        | (with_reducible refine k_condP (by simp only [GA, Nat.reduceEqDiff, ↓reduceIte]; rfl) (by first | (simp only [BO]; rfl) | rfl) (fun ht => ?_) (fun ht => ?_) <;> try (first | exact False.elim ht | exact absurd rfl ht | exact absurd trivial ht | exact Bool.noConfusion ht))
        | (with_reducible refine k_ret ?_; repeat with_reducible (first | refine ret_thru ?_ | refine ret_blk ?_ | refine fin ?_))
        | (with_reducible refine k_exit ?_; repeat with_reducible (first | refine thru ?_ | refine out_blk ?_ | refine pass (by decide) ?_))
        | (refine post1 ?_; simp only [GA, Nat.reduceEqDiff, ↓reduceIte])
        | (refine post2 ?_; simp only [GA, Nat.reduceEqDiff, ↓reduceIte])
        | (refine post3 ?_; simp only [GA, Nat.reduceEqDiff, ↓reduceIte])
        | (refine postc (by simp only [GA, Nat.reduceEqDiff, ↓reduceIte]; rfl) (by simp (disch := omega) only [klt', g0, g1, c', hm, row_m hm, read_row (row_m hm), hmT, row_m hmT, read_row (row_m hmT), hmy, il_len, hy, c46r0, c46r1, c46r2, c46r3, c46r4, c46r5, c46r6, c46r7, c46r8, c46r10, c46r11, c46r12, EV0, EV1, EV2, EV3, EV4, EV5, EV6, EV7, EV8, VALS, plug, ite_same, decide_true, decide_false, eq_self, ↓reduceIte, reduceCtorEq, Nat.reduceAdd, Nat.reduceEqDiff, Nat.reduceLT, Nat.reduceLeDiff, Nat.reduceMul, Nat.reduceSub, Nat.reduceDiv, Int.reduceToNat, Int.reduceAdd, Int.reduceSub, Int.reduceMul, Int.reduceNeg, Int.reduceEq, Int.reduceLT, Int.reduceLE]; rfl) ?_)
        | refine post0 ?_
      rw [e]
      refine ⟨klt, ?tk, ?g1, ?g2, ?g2b, ?g2c, ?g3, ?g4, ?g5⟩
      case g1 =>
        simp only [Am.keep, List.map_cons, List.map_nil, GA, Nat.reduceEqDiff, ↓reduceIte, List.length_append, List.length_cons, List.length_nil, Nat.zero_add]
        rfl
      case g2 => simp (disch := omega) only [hm, c46r0, c46r1, c46r2, c46r3, c46r4, c46r5, c46r6, c46r7, c46r8, c46r10, c46r11, c46r12, EV0, EV1, EV2, EV3, EV4, EV5, EV6, EV7, EV8, VALS, plug, ite_same, decide_true, decide_false, eq_self, ↓reduceIte, reduceCtorEq, Nat.reduceAdd, Nat.reduceEqDiff, Nat.reduceLT, Nat.reduceLeDiff, Nat.reduceMul, Nat.reduceSub, Nat.reduceDiv, Int.reduceToNat, Int.reduceAdd, Int.reduceSub, Int.reduceMul, Int.reduceNeg, Int.reduceEq, Int.reduceLT, Int.reduceLE]
      case g2b => simp (disch := omega) only [hmT, c46r0, c46r1, c46r2, c46r3, c46r4, c46r5, c46r6, c46r7, c46r8, c46r10, c46r11, c46r12, EV0, EV1, EV2, EV3, EV4, EV5, EV6, EV7, EV8, VALS, plug, ite_same, decide_true, decide_false, eq_self, ↓reduceIte, reduceCtorEq, Nat.reduceAdd, Nat.reduceEqDiff, Nat.reduceLT, Nat.reduceLeDiff, Nat.reduceMul, Nat.reduceSub, Nat.reduceDiv, Int.reduceToNat, Int.reduceAdd, Int.reduceSub, Int.reduceMul, Int.reduceNeg, Int.reduceEq, Int.reduceLT, Int.reduceLE]
      case g2c => omega
      case g3 => omega
      case g4 => omega
      case g5 => simp (disch := omega) only [c46r0, c46r1, c46r2, c46r3, c46r4, c46r5, c46r6, c46r7, c46r8, c46r10, c46r11, c46r12, EV0, EV1, EV2, EV3, EV4, EV5, EV6, EV7, EV8, VALS, plug, ite_same, decide_true, decide_false, eq_self, ↓reduceIte, reduceCtorEq, Nat.reduceAdd, Nat.reduceEqDiff, Nat.reduceLT, Nat.reduceLeDiff, Nat.reduceMul, Nat.reduceSub, Nat.reduceDiv, Int.reduceToNat, Int.reduceAdd, Int.reduceSub, Int.reduceMul, Int.reduceNeg, Int.reduceEq, Int.reduceLT, Int.reduceLE] <;> rfl
    · have c' := eq_false c
      have e : flt s x (k + 1) = flt s x k := if_neg c
      repeat' first
        | with_reducible refine k_seq ?_
        | with_reducible refine k_skip ?_
        | with_reducible refine k_blkS ?_
        | with_reducible refine k_blkR ?_
        | with_reducible refine k_blkC ?_
        | with_reducible refine k_blkH ?_
        | with_reducible refine k_blkB ?_
        | with_reducible refine k_blkK ?_
        | with_reducible refine k_blkE ?_
        | with_reducible refine k_reg ?_
        | with_reducible refine k_head (by with_unfolding_all rfl) ?_
        | with_reducible refine k_headS ?_
        | (with_reducible refine SepK.mk ?_ ?_; (refine sepQ_P ?_; simp [sepQ, sepG, AOp.late, AOp.free, AOp.xs, AOp.isAl, tokNe, AV.tok, stS_get, strip, AX.val, c46r0, c46r1, c46r2, c46r3, c46r4, c46r5, c46r6, c46r7, c46r8, c46r10, c46r11, c46r12, GA]; try omega))
        | with_reducible refine r_done ?_
        | with_reducible refine hr_done ?_
        | with_reducible refine s_go (by simp (disch := omega) only [klt', g0, g1, c', hm, row_m hm, read_row (row_m hm), hmT, row_m hmT, read_row (row_m hmT), c46r0, c46r1, c46r2, c46r3, c46r4, c46r5, c46r6, c46r7, c46r8, c46r10, c46r11, c46r12, EV0, EV1, EV2, EV3, EV4, EV5, EV6, EV7, EV8, VALS, plug, ite_same, decide_true, decide_false, eq_self, ↓reduceIte, reduceCtorEq, Nat.reduceAdd, Nat.reduceEqDiff, Nat.reduceLT, Nat.reduceLeDiff, Nat.reduceMul, Nat.reduceSub, Nat.reduceDiv, Int.reduceToNat, Int.reduceAdd, Int.reduceSub, Int.reduceMul, Int.reduceNeg, Int.reduceEq, Int.reduceLT, Int.reduceLE]; with_reducible rfl) ?_
        | with_reducible refine h_go (by with_unfolding_all rfl) (by simp (disch := omega) only [klt', g0, g1, c', hm, row_m hm, read_row (row_m hm), hmT, row_m hmT, read_row (row_m hmT), c46r0, c46r1, c46r2, c46r3, c46r4, c46r5, c46r6, c46r7, c46r8, c46r10, c46r11, c46r12, EV0, EV1, EV2, EV3, EV4, EV5, EV6, EV7, EV8, VALS, plug, ite_same, decide_true, decide_false, eq_self, ↓reduceIte, reduceCtorEq, Nat.reduceAdd, Nat.reduceEqDiff, Nat.reduceLT, Nat.reduceLeDiff, Nat.reduceMul, Nat.reduceSub, Nat.reduceDiv, Int.reduceToNat, Int.reduceAdd, Int.reduceSub, Int.reduceMul, Int.reduceNeg, Int.reduceEq, Int.reduceLT, Int.reduceLE]; with_reducible rfl) ?_
        | ((with_reducible refine chk_r ?_); refine r_callF (by simp only [CA, Nat.reduceEqDiff, ↓reduceIte]; rfl) (by exact rfl) (by simp only [CA, Nat.reduceEqDiff, ↓reduceIte]; rfl) rfl ?_)
        | ((with_reducible refine chk_h ?_); refine hr_callF (by simp only [CA, Nat.reduceEqDiff, ↓reduceIte]; rfl) (by exact rfl) (by simp only [CA, Nat.reduceEqDiff, ↓reduceIte]; rfl) rfl ?_)
        | ((with_reducible refine chk_h ?_); refine hr_app (by simp (disch := omega) only [klt', g0, g1, c', hm, row_m hm, read_row (row_m hm), hmT, row_m hmT, read_row (row_m hmT), c46r0, c46r1, c46r2, c46r3, c46r4, c46r5, c46r6, c46r7, c46r8, c46r10, c46r11, c46r12, EV0, EV1, EV2, EV3, EV4, EV5, EV6, EV7, EV8, VALS, plug, ite_same, decide_true, decide_false, eq_self, ↓reduceIte, reduceCtorEq, Nat.reduceAdd, Nat.reduceEqDiff, Nat.reduceLT, Nat.reduceLeDiff, Nat.reduceMul, Nat.reduceSub, Nat.reduceDiv, Int.reduceToNat, Int.reduceAdd, Int.reduceSub, Int.reduceMul, Int.reduceNeg, Int.reduceEq, Int.reduceLT, Int.reduceLE]; with_reducible rfl) rfl ?_)
        | (with_reducible refine k_condP (by simp only [GA, Nat.reduceEqDiff, ↓reduceIte]; rfl) (by first | (simp only [BO]; rfl) | rfl) (fun ht => ?_) (fun ht => ?_) <;> try (first | exact False.elim ht | exact absurd rfl ht | exact absurd trivial ht | exact Bool.noConfusion ht))
        | (with_reducible refine k_ret ?_; repeat with_reducible (first | refine ret_thru ?_ | refine ret_blk ?_ | refine fin ?_))
        | (with_reducible refine k_exit ?_; repeat with_reducible (first | refine thru ?_ | refine out_blk ?_ | refine pass (by decide) ?_))
        | (refine post1 ?_; simp only [GA, Nat.reduceEqDiff, ↓reduceIte])
        | (refine post2 ?_; simp only [GA, Nat.reduceEqDiff, ↓reduceIte])
        | (refine post3 ?_; simp only [GA, Nat.reduceEqDiff, ↓reduceIte])
        | (refine postc (by simp only [GA, Nat.reduceEqDiff, ↓reduceIte]; rfl) (by simp (disch := omega) only [klt', g0, g1, c', hm, row_m hm, read_row (row_m hm), hmT, row_m hmT, read_row (row_m hmT), c46r0, c46r1, c46r2, c46r3, c46r4, c46r5, c46r6, c46r7, c46r8, c46r10, c46r11, c46r12, EV0, EV1, EV2, EV3, EV4, EV5, EV6, EV7, EV8, VALS, plug, ite_same, decide_true, decide_false, eq_self, ↓reduceIte, reduceCtorEq, Nat.reduceAdd, Nat.reduceEqDiff, Nat.reduceLT, Nat.reduceLeDiff, Nat.reduceMul, Nat.reduceSub, Nat.reduceDiv, Int.reduceToNat, Int.reduceAdd, Int.reduceSub, Int.reduceMul, Int.reduceNeg, Int.reduceEq, Int.reduceLT, Int.reduceLE]; rfl) ?_)
        | refine post0 ?_
      rw [e]
      exact ⟨klt, y, (by simp only [Am.keep, List.map_cons, List.map_nil, GA, Nat.reduceEqDiff, ↓reduceIte]; try rfl), by simp (disch := omega) only [hm, c46r0, c46r1, c46r2, c46r3, c46r4, c46r5, c46r6, c46r7, c46r8, c46r10, c46r11, c46r12, EV0, EV1, EV2, EV3, EV4, EV5, EV6, EV7, EV8, VALS, plug, ite_same, decide_true, decide_false, eq_self, ↓reduceIte, reduceCtorEq, Nat.reduceAdd, Nat.reduceEqDiff, Nat.reduceLT, Nat.reduceLeDiff, Nat.reduceMul, Nat.reduceSub, Nat.reduceDiv, Int.reduceToNat, Int.reduceAdd, Int.reduceSub, Int.reduceMul, Int.reduceNeg, Int.reduceEq, Int.reduceLT, Int.reduceLE], by simp (disch := omega) only [hmT, c46r0, c46r1, c46r2, c46r3, c46r4, c46r5, c46r6, c46r7, c46r8, c46r10, c46r11, c46r12, EV0, EV1, EV2, EV3, EV4, EV5, EV6, EV7, EV8, VALS, plug, ite_same, decide_true, decide_false, eq_self, ↓reduceIte, reduceCtorEq, Nat.reduceAdd, Nat.reduceEqDiff, Nat.reduceLT, Nat.reduceLeDiff, Nat.reduceMul, Nat.reduceSub, Nat.reduceDiv, Int.reduceToNat, Int.reduceAdd, Int.reduceSub, Int.reduceMul, Int.reduceNeg, Int.reduceEq, Int.reduceLT, Int.reduceLE], hyT, hy, hy1, by simp (disch := omega) only [hmy, c46r0, c46r1, c46r2, c46r3, c46r4, c46r5, c46r6, c46r7, c46r8, c46r10, c46r11, c46r12, EV0, EV1, EV2, EV3, EV4, EV5, EV6, EV7, EV8, VALS, plug, ite_same, decide_true, decide_false, eq_self, ↓reduceIte, reduceCtorEq, Nat.reduceAdd, Nat.reduceEqDiff, Nat.reduceLT, Nat.reduceLeDiff, Nat.reduceMul, Nat.reduceSub, Nat.reduceDiv, Int.reduceToNat, Int.reduceAdd, Int.reduceSub, Int.reduceMul, Int.reduceNeg, Int.reduceEq, Int.reduceLT, Int.reduceLE]⟩
  · obtain rfl : k = 5 := by omega
    have klt' : ¬ ((5 : Nat) : Int) < 5 := by omega
    unfold fau
    by_cases c : s.t < nS s x 5
    · have c' := eq_true c
      rw [if_pos c]
      repeat' first
        | with_reducible refine k_seq ?_
        | with_reducible refine k_skip ?_
        | with_reducible refine k_blkS ?_
        | with_reducible refine k_blkR ?_
        | with_reducible refine k_blkC ?_
        | with_reducible refine k_blkH ?_
        | with_reducible refine k_blkB ?_
        | with_reducible refine k_blkK ?_
        | with_reducible refine k_blkE ?_
        | with_reducible refine k_reg ?_
        | with_reducible refine k_head (by with_unfolding_all rfl) ?_
        | with_reducible refine k_headS ?_
        | (with_reducible refine SepK.mk ?_ ?_; (refine sepQ_P ?_; simp [sepQ, sepG, AOp.late, AOp.free, AOp.xs, AOp.isAl, tokNe, AV.tok, stS_get, strip, AX.val, c46r0, c46r1, c46r2, c46r3, c46r4, c46r5, c46r6, c46r7, c46r8, c46r10, c46r11, c46r12, GA]; try omega))
        | with_reducible refine r_done ?_
        | with_reducible refine hr_done ?_
        | with_reducible refine s_go (by simp (disch := omega) only [klt', c', eZ_rt, hm, row_m hm, read_row (row_m hm), hmT, row_m hmT, read_row (row_m hmT), hmy, il_len, hy, c46r0, c46r1, c46r2, c46r3, c46r4, c46r5, c46r6, c46r7, c46r8, c46r10, c46r11, c46r12, EV0, EV1, EV2, EV3, EV4, EV5, EV6, EV7, EV8, VALS, plug, ite_same, decide_true, decide_false, eq_self, ↓reduceIte, reduceCtorEq, Nat.reduceAdd, Nat.reduceEqDiff, Nat.reduceLT, Nat.reduceLeDiff, Nat.reduceMul, Nat.reduceSub, Nat.reduceDiv, Int.reduceToNat, Int.reduceAdd, Int.reduceSub, Int.reduceMul, Int.reduceNeg, Int.reduceEq, Int.reduceLT, Int.reduceLE]; with_reducible rfl) ?_
        | with_reducible refine h_go (by with_unfolding_all rfl) (by simp (disch := omega) only [klt', c', eZ_rt, hm, row_m hm, read_row (row_m hm), hmT, row_m hmT, read_row (row_m hmT), hmy, il_len, hy, c46r0, c46r1, c46r2, c46r3, c46r4, c46r5, c46r6, c46r7, c46r8, c46r10, c46r11, c46r12, EV0, EV1, EV2, EV3, EV4, EV5, EV6, EV7, EV8, VALS, plug, ite_same, decide_true, decide_false, eq_self, ↓reduceIte, reduceCtorEq, Nat.reduceAdd, Nat.reduceEqDiff, Nat.reduceLT, Nat.reduceLeDiff, Nat.reduceMul, Nat.reduceSub, Nat.reduceDiv, Int.reduceToNat, Int.reduceAdd, Int.reduceSub, Int.reduceMul, Int.reduceNeg, Int.reduceEq, Int.reduceLT, Int.reduceLE]; with_reducible rfl) ?_
        | ((with_reducible refine chk_r ?_); refine r_callF (by simp only [CA, Nat.reduceEqDiff, ↓reduceIte]; rfl) (by exact rfl) (by simp only [CA, Nat.reduceEqDiff, ↓reduceIte]; rfl) rfl ?_)
        | ((with_reducible refine chk_h ?_); refine hr_callF (by simp only [CA, Nat.reduceEqDiff, ↓reduceIte]; rfl) (by exact rfl) (by simp only [CA, Nat.reduceEqDiff, ↓reduceIte]; rfl) rfl ?_)
        | ((with_reducible refine chk_h ?_); refine hr_app (by simp (disch := omega) only [klt', c', eZ_rt, hm, row_m hm, read_row (row_m hm), hmT, row_m hmT, read_row (row_m hmT), hmy, il_len, hy, c46r0, c46r1, c46r2, c46r3, c46r4, c46r5, c46r6, c46r7, c46r8, c46r10, c46r11, c46r12, EV0, EV1, EV2, EV3, EV4, EV5, EV6, EV7, EV8, VALS, plug, ite_same, decide_true, decide_false, eq_self, ↓reduceIte, reduceCtorEq, Nat.reduceAdd, Nat.reduceEqDiff, Nat.reduceLT, Nat.reduceLeDiff, Nat.reduceMul, Nat.reduceSub, Nat.reduceDiv, Int.reduceToNat, Int.reduceAdd, Int.reduceSub, Int.reduceMul, Int.reduceNeg, Int.reduceEq, Int.reduceLT, Int.reduceLE]; with_reducible rfl) rfl ?_)
        | (with_reducible refine k_condP (by simp only [GA, Nat.reduceEqDiff, ↓reduceIte]; rfl) (by first | (simp only [BO]; rfl) | rfl) (fun ht => ?_) (fun ht => ?_) <;> try (first | exact False.elim ht | exact absurd rfl ht | exact absurd trivial ht | exact Bool.noConfusion ht))
        | (with_reducible refine k_ret ?_; repeat with_reducible (first | refine ret_thru ?_ | refine ret_blk ?_ | refine fin ?_))
        | (with_reducible refine k_exit ?_; repeat with_reducible (first | refine thru ?_ | refine out_blk ?_ | refine pass (by decide) ?_))
        | (refine post1 ?_; simp only [GA, Nat.reduceEqDiff, ↓reduceIte])
        | (refine post2 ?_; simp only [GA, Nat.reduceEqDiff, ↓reduceIte])
        | (refine post3 ?_; simp only [GA, Nat.reduceEqDiff, ↓reduceIte])
        | (refine postc (by simp only [GA, Nat.reduceEqDiff, ↓reduceIte]; rfl) (by simp (disch := omega) only [klt', c', eZ_rt, hm, row_m hm, read_row (row_m hm), hmT, row_m hmT, read_row (row_m hmT), hmy, il_len, hy, c46r0, c46r1, c46r2, c46r3, c46r4, c46r5, c46r6, c46r7, c46r8, c46r10, c46r11, c46r12, EV0, EV1, EV2, EV3, EV4, EV5, EV6, EV7, EV8, VALS, plug, ite_same, decide_true, decide_false, eq_self, ↓reduceIte, reduceCtorEq, Nat.reduceAdd, Nat.reduceEqDiff, Nat.reduceLT, Nat.reduceLeDiff, Nat.reduceMul, Nat.reduceSub, Nat.reduceDiv, Int.reduceToNat, Int.reduceAdd, Int.reduceSub, Int.reduceMul, Int.reduceNeg, Int.reduceEq, Int.reduceLT, Int.reduceLE]; rfl) ?_)
        | refine post0 ?_
      rw [show (flt s x 5).length + 1 = (flt s x 5 ++ [(5 : Int)]).length by simp]
      exact ends_sl (k := 1) (cs := il (flt s x 5 ++ [5])) (by simp (disch := omega) only [c46r0, c46r1, c46r2, c46r3, c46r4, c46r5, c46r6, c46r7, c46r8, c46r10, c46r11, c46r12, EV0, EV1, EV2, EV3, EV4, EV5, EV6, EV7, EV8, VALS, plug, ite_same, decide_true, decide_false, eq_self, ↓reduceIte, reduceCtorEq, Nat.reduceAdd, Nat.reduceEqDiff, Nat.reduceLT, Nat.reduceLeDiff, Nat.reduceMul, Nat.reduceSub, Nat.reduceDiv, Int.reduceToNat, Int.reduceAdd, Int.reduceSub, Int.reduceMul, Int.reduceNeg, Int.reduceEq, Int.reduceLT, Int.reduceLE] <;> rfl) (by rw [il_len, Nat.mul_one, List.length_append, List.length_singleton])
    · have c' := eq_false c
      rw [if_neg c]
      repeat' first
        | with_reducible refine k_seq ?_
        | with_reducible refine k_skip ?_
        | with_reducible refine k_blkS ?_
        | with_reducible refine k_blkR ?_
        | with_reducible refine k_blkC ?_
        | with_reducible refine k_blkH ?_
        | with_reducible refine k_blkB ?_
        | with_reducible refine k_blkK ?_
        | with_reducible refine k_blkE ?_
        | with_reducible refine k_reg ?_
        | with_reducible refine k_head (by with_unfolding_all rfl) ?_
        | with_reducible refine k_headS ?_
        | (with_reducible refine SepK.mk ?_ ?_; (refine sepQ_P ?_; simp [sepQ, sepG, AOp.late, AOp.free, AOp.xs, AOp.isAl, tokNe, AV.tok, stS_get, strip, AX.val, c46r0, c46r1, c46r2, c46r3, c46r4, c46r5, c46r6, c46r7, c46r8, c46r10, c46r11, c46r12, GA]; try omega))
        | with_reducible refine r_done ?_
        | with_reducible refine hr_done ?_
        | with_reducible refine s_go (by simp (disch := omega) only [klt', c', eZ_rt, hm, row_m hm, read_row (row_m hm), hmT, row_m hmT, read_row (row_m hmT), hmy, il_len, c46r0, c46r1, c46r2, c46r3, c46r4, c46r5, c46r6, c46r7, c46r8, c46r10, c46r11, c46r12, EV0, EV1, EV2, EV3, EV4, EV5, EV6, EV7, EV8, VALS, plug, ite_same, decide_true, decide_false, eq_self, ↓reduceIte, reduceCtorEq, Nat.reduceAdd, Nat.reduceEqDiff, Nat.reduceLT, Nat.reduceLeDiff, Nat.reduceMul, Nat.reduceSub, Nat.reduceDiv, Int.reduceToNat, Int.reduceAdd, Int.reduceSub, Int.reduceMul, Int.reduceNeg, Int.reduceEq, Int.reduceLT, Int.reduceLE]; with_reducible rfl) ?_
        | with_reducible refine h_go (by with_unfolding_all rfl) (by simp (disch := omega) only [klt', c', eZ_rt, hm, row_m hm, read_row (row_m hm), hmT, row_m hmT, read_row (row_m hmT), hmy, il_len, c46r0, c46r1, c46r2, c46r3, c46r4, c46r5, c46r6, c46r7, c46r8, c46r10, c46r11, c46r12, EV0, EV1, EV2, EV3, EV4, EV5, EV6, EV7, EV8, VALS, plug, ite_same, decide_true, decide_false, eq_self, ↓reduceIte, reduceCtorEq, Nat.reduceAdd, Nat.reduceEqDiff, Nat.reduceLT, Nat.reduceLeDiff, Nat.reduceMul, Nat.reduceSub, Nat.reduceDiv, Int.reduceToNat, Int.reduceAdd, Int.reduceSub, Int.reduceMul, Int.reduceNeg, Int.reduceEq, Int.reduceLT, Int.reduceLE]; with_reducible rfl) ?_
        | ((with_reducible refine chk_r ?_); refine r_callF (by simp only [CA, Nat.reduceEqDiff, ↓reduceIte]; rfl) (by exact rfl) (by simp only [CA, Nat.reduceEqDiff, ↓reduceIte]; rfl) rfl ?_)
        | ((with_reducible refine chk_h ?_); refine hr_callF (by simp only [CA, Nat.reduceEqDiff, ↓reduceIte]; rfl) (by exact rfl) (by simp only [CA, Nat.reduceEqDiff, ↓reduceIte]; rfl) rfl ?_)
        | ((with_reducible refine chk_h ?_); refine hr_app (by simp (disch := omega) only [klt', c', eZ_rt, hm, row_m hm, read_row (row_m hm), hmT, row_m hmT, read_row (row_m hmT), hmy, il_len, c46r0, c46r1, c46r2, c46r3, c46r4, c46r5, c46r6, c46r7, c46r8, c46r10, c46r11, c46r12, EV0, EV1, EV2, EV3, EV4, EV5, EV6, EV7, EV8, VALS, plug, ite_same, decide_true, decide_false, eq_self, ↓reduceIte, reduceCtorEq, Nat.reduceAdd, Nat.reduceEqDiff, Nat.reduceLT, Nat.reduceLeDiff, Nat.reduceMul, Nat.reduceSub, Nat.reduceDiv, Int.reduceToNat, Int.reduceAdd, Int.reduceSub, Int.reduceMul, Int.reduceNeg, Int.reduceEq, Int.reduceLT, Int.reduceLE]; with_reducible rfl) rfl ?_)
        | (with_reducible refine k_condP (by simp only [GA, Nat.reduceEqDiff, ↓reduceIte]; rfl) (by first | (simp only [BO]; rfl) | rfl) (fun ht => ?_) (fun ht => ?_) <;> try (first | exact False.elim ht | exact absurd rfl ht | exact absurd trivial ht | exact Bool.noConfusion ht))
        | (with_reducible refine k_ret ?_; repeat with_reducible (first | refine ret_thru ?_ | refine ret_blk ?_ | refine fin ?_))
        | (with_reducible refine k_exit ?_; repeat with_reducible (first | refine thru ?_ | refine out_blk ?_ | refine pass (by decide) ?_))
        | (refine post1 ?_; simp only [GA, Nat.reduceEqDiff, ↓reduceIte])
        | (refine post2 ?_; simp only [GA, Nat.reduceEqDiff, ↓reduceIte])
        | (refine post3 ?_; simp only [GA, Nat.reduceEqDiff, ↓reduceIte])
        | (refine postc (by simp only [GA, Nat.reduceEqDiff, ↓reduceIte]; rfl) (by simp (disch := omega) only [klt', c', eZ_rt, hm, row_m hm, read_row (row_m hm), hmT, row_m hmT, read_row (row_m hmT), hmy, il_len, c46r0, c46r1, c46r2, c46r3, c46r4, c46r5, c46r6, c46r7, c46r8, c46r10, c46r11, c46r12, EV0, EV1, EV2, EV3, EV4, EV5, EV6, EV7, EV8, VALS, plug, ite_same, decide_true, decide_false, eq_self, ↓reduceIte, reduceCtorEq, Nat.reduceAdd, Nat.reduceEqDiff, Nat.reduceLT, Nat.reduceLeDiff, Nat.reduceMul, Nat.reduceSub, Nat.reduceDiv, Int.reduceToNat, Int.reduceAdd, Int.reduceSub, Int.reduceMul, Int.reduceNeg, Int.reduceEq, Int.reduceLT, Int.reduceLE]; rfl) ?_)
        | refine post0 ?_
      exact ends_sl (k := 1) (cs := il (flt s x 5)) (by simp (disch := omega) only [hmy, c46r0, c46r1, c46r2, c46r3, c46r4, c46r5, c46r6, c46r7, c46r8, c46r10, c46r11, c46r12, EV0, EV1, EV2, EV3, EV4, EV5, EV6, EV7, EV8, VALS, plug, ite_same, decide_true, decide_false, eq_self, ↓reduceIte, reduceCtorEq, Nat.reduceAdd, Nat.reduceEqDiff, Nat.reduceLT, Nat.reduceLeDiff, Nat.reduceMul, Nat.reduceSub, Nat.reduceDiv, Int.reduceToNat, Int.reduceAdd, Int.reduceSub, Int.reduceMul, Int.reduceNeg, Int.reduceEq, Int.reduceLT, Int.reduceLE]) (by rw [il_len, Nat.mul_one])
/-! ### Need f22 f23, Faults f25 f26, Fits f21 f24 -/
def neeR (s : Sz) (x : Hd) : (Nat → Int) × Int := if sgl s x = 0 then (nd s x, 0) else ((fun _ => 0), sgl s x)
def fauR (s : Sz) (x : Hd) : List Int × Int := if sgl s x = 0 then (fau s x, 0) else ([], sgl s x)
def fitR (s : Sz) (x : Hd) : Bool × Int := (decide (sgl s x = 0) && decide (((fau s x).length : Int) = 0), sgl s x)
theorem vZ_one (s : Sz) : vZ [s] = .vs 1 (eZ s) := rfl
theorem vH_one (x : Hd) : vH [x] = .vs 1 (eH x) := rfl
theorem pc22 (s : Sz) (x : Hd) : PC Try.prog 22 [.ag (eZ s), .ag (eH x)] (.tu [.ag (e5 (neeR s x).1), .i .i64 (neeR s x).2]) := by
  have q41 := pc41 [s] [x] (by simp) (by simp)
  rw [chk_one, vZ_one, vH_one] at q41
  unfold neeR
  refine pc_fn fn22 (by simp only [AV.plains, AV.plain, il_plain, bl_plain, Bool.and_true, Bool.true_and, Bool.and_self]) (by simp only [AV.plains, AV.plain, il_plain, bl_plain, Bool.and_true, Bool.true_and, Bool.and_self]) (Nat.le_of_ble_eq_true rfl) ?_
  rw [initSt2]
  by_cases c : sgl s x = 0
  · have c' := eq_true c
    rw [if_pos c]
    have q42 := pc42 s x (sgl_ok c).1 (sgl_ok c).2
    repeat' first
      | with_reducible refine k_seq ?_
      | with_reducible refine k_skip ?_
      | with_reducible refine k_blkS ?_
      | with_reducible refine k_blkR ?_
      | with_reducible refine k_blkC ?_
      | with_reducible refine k_blkH ?_
      | with_reducible refine k_blkB ?_
      | with_reducible refine k_blkK ?_
      | with_reducible refine k_blkE ?_
      | with_reducible refine k_reg ?_
      | with_reducible refine r_done ?_
      | with_reducible refine s_go (by simp (disch := omega) only [eZ_rd, eH_rd, e5_rd, c', c22r0, c22r1, c22r2, c22r3, c22r4, c22r5, EV0, EV1, EV2, EV3, EV4, EV5, EV6, EV7, EV8, VALS, plug, ite_same, decide_true, decide_false, eq_self, ↓reduceIte, reduceCtorEq, Nat.reduceAdd, Nat.reduceEqDiff, Nat.reduceLT, Nat.reduceLeDiff, Nat.reduceMul, Nat.reduceSub, Nat.reduceDiv, Int.reduceToNat, Int.reduceAdd, Int.reduceSub, Int.reduceMul, Int.reduceNeg, Int.reduceEq, Int.reduceLT, Int.reduceLE]; with_reducible rfl) ?_
      | ((with_reducible refine chk_r ?_); refine r_callF (by simp only [CA, Nat.reduceEqDiff, ↓reduceIte]; rfl) (by exact rfl) (by simp only [CA, Nat.reduceEqDiff, ↓reduceIte]; rfl) rfl ?_)
      | ((with_reducible refine chk_r ?_); refine r_callP (by simp only [CA, Nat.reduceEqDiff, ↓reduceIte]; rfl) (by simp only [CA, Nat.reduceEqDiff, ↓reduceIte]; rfl) (by first | ((refine PC.at q41 rfl ?F; case F => (refine .cons (.row (by simp (disch := omega) only [c22r0, c22r1, c22r2, c22r3, c22r4, c22r5, EV0, EV1, EV2, EV3, EV4, EV5, EV6, EV7, EV8, VALS, plug, ite_same, decide_true, decide_false, eq_self, ↓reduceIte, reduceCtorEq, Nat.reduceAdd, Nat.reduceEqDiff, Nat.reduceLT, Nat.reduceLeDiff, Nat.reduceMul, Nat.reduceSub, Nat.reduceDiv, Int.reduceToNat, Int.reduceAdd, Int.reduceSub, Int.reduceMul, Int.reduceNeg, Int.reduceEq, Int.reduceLT, Int.reduceLE] <;> rfl) rfl) (.cons (.row (by simp (disch := omega) only [c22r0, c22r1, c22r2, c22r3, c22r4, c22r5, EV0, EV1, EV2, EV3, EV4, EV5, EV6, EV7, EV8, VALS, plug, ite_same, decide_true, decide_false, eq_self, ↓reduceIte, reduceCtorEq, Nat.reduceAdd, Nat.reduceEqDiff, Nat.reduceLT, Nat.reduceLeDiff, Nat.reduceMul, Nat.reduceSub, Nat.reduceDiv, Int.reduceToNat, Int.reduceAdd, Int.reduceSub, Int.reduceMul, Int.reduceNeg, Int.reduceEq, Int.reduceLT, Int.reduceLE] <;> rfl) rfl) .nil))); all_goals fail) | exact q42 _) rfl ?_)
      | (with_reducible refine k_condP (by simp only [GA, Nat.reduceEqDiff, ↓reduceIte]; rfl) (by first | (simp only [BO]; rfl) | rfl) (fun ht => ?_) (fun ht => ?_) <;> try (first | exact False.elim ht | exact absurd rfl ht | exact absurd trivial ht | exact Bool.noConfusion ht))
      | (with_reducible refine k_ret ?_; repeat with_reducible (first | refine ret_thru ?_ | refine ret_blk ?_ | refine fin ?_))
      | (with_reducible refine k_exit ?_; repeat with_reducible (first | refine thru ?_ | refine out_blk ?_ | refine pass (by decide) ?_))
      | (refine post1 ?_; simp only [GA, Nat.reduceEqDiff, ↓reduceIte])
      | (refine post2 ?_; simp only [GA, Nat.reduceEqDiff, ↓reduceIte])
      | (refine post3 ?_; simp only [GA, Nat.reduceEqDiff, ↓reduceIte])
      | (refine postc (by simp only [GA, Nat.reduceEqDiff, ↓reduceIte]; rfl) (by simp (disch := omega) only [eZ_rd, eH_rd, e5_rd, c', c22r0, c22r1, c22r2, c22r3, c22r4, c22r5, EV0, EV1, EV2, EV3, EV4, EV5, EV6, EV7, EV8, VALS, plug, ite_same, decide_true, decide_false, eq_self, ↓reduceIte, reduceCtorEq, Nat.reduceAdd, Nat.reduceEqDiff, Nat.reduceLT, Nat.reduceLeDiff, Nat.reduceMul, Nat.reduceSub, Nat.reduceDiv, Int.reduceToNat, Int.reduceAdd, Int.reduceSub, Int.reduceMul, Int.reduceNeg, Int.reduceEq, Int.reduceLT, Int.reduceLE]; rfl) ?_)
      | (refine postct (by simp only [GA, Nat.reduceEqDiff, ↓reduceIte]; rfl) (by simp (disch := omega) only [eZ_rd, eH_rd, e5_rd, c', c22r0, c22r1, c22r2, c22r3, c22r4, c22r5, EV0, EV1, EV2, EV3, EV4, EV5, EV6, EV7, EV8, VALS, plug, ite_same, decide_true, decide_false, eq_self, ↓reduceIte, reduceCtorEq, Nat.reduceAdd, Nat.reduceEqDiff, Nat.reduceLT, Nat.reduceLeDiff, Nat.reduceMul, Nat.reduceSub, Nat.reduceDiv, Int.reduceToNat, Int.reduceAdd, Int.reduceSub, Int.reduceMul, Int.reduceNeg, Int.reduceEq, Int.reduceLT, Int.reduceLE]; rfl) ?_; simp only [GA, Nat.reduceEqDiff, ↓reduceIte])
      | refine post0 ?_
    all_goals first | exact ends_of | exact ends_eq rfl
  · have c' := eq_false c
    rw [if_neg c]
    repeat' first
      | with_reducible refine k_seq ?_
      | with_reducible refine k_skip ?_
      | with_reducible refine k_blkS ?_
      | with_reducible refine k_blkR ?_
      | with_reducible refine k_blkC ?_
      | with_reducible refine k_blkH ?_
      | with_reducible refine k_blkB ?_
      | with_reducible refine k_blkK ?_
      | with_reducible refine k_blkE ?_
      | with_reducible refine k_reg ?_
      | with_reducible refine r_done ?_
      | with_reducible refine s_go (by simp (disch := omega) only [eZ_rd, eH_rd, e5_rd, c', c22r0, c22r1, c22r2, c22r3, c22r4, c22r5, EV0, EV1, EV2, EV3, EV4, EV5, EV6, EV7, EV8, VALS, plug, ite_same, decide_true, decide_false, eq_self, ↓reduceIte, reduceCtorEq, Nat.reduceAdd, Nat.reduceEqDiff, Nat.reduceLT, Nat.reduceLeDiff, Nat.reduceMul, Nat.reduceSub, Nat.reduceDiv, Int.reduceToNat, Int.reduceAdd, Int.reduceSub, Int.reduceMul, Int.reduceNeg, Int.reduceEq, Int.reduceLT, Int.reduceLE]; with_reducible rfl) ?_
      | ((with_reducible refine chk_r ?_); refine r_callF (by simp only [CA, Nat.reduceEqDiff, ↓reduceIte]; rfl) (by exact rfl) (by simp only [CA, Nat.reduceEqDiff, ↓reduceIte]; rfl) rfl ?_)
      | ((with_reducible refine chk_r ?_); refine r_callP (by simp only [CA, Nat.reduceEqDiff, ↓reduceIte]; rfl) (by simp only [CA, Nat.reduceEqDiff, ↓reduceIte]; rfl) (by first | ((refine PC.at q41 rfl ?F; case F => (refine .cons (.row (by simp (disch := omega) only [c22r0, c22r1, c22r2, c22r3, c22r4, c22r5, EV0, EV1, EV2, EV3, EV4, EV5, EV6, EV7, EV8, VALS, plug, ite_same, decide_true, decide_false, eq_self, ↓reduceIte, reduceCtorEq, Nat.reduceAdd, Nat.reduceEqDiff, Nat.reduceLT, Nat.reduceLeDiff, Nat.reduceMul, Nat.reduceSub, Nat.reduceDiv, Int.reduceToNat, Int.reduceAdd, Int.reduceSub, Int.reduceMul, Int.reduceNeg, Int.reduceEq, Int.reduceLT, Int.reduceLE] <;> rfl) rfl) (.cons (.row (by simp (disch := omega) only [c22r0, c22r1, c22r2, c22r3, c22r4, c22r5, EV0, EV1, EV2, EV3, EV4, EV5, EV6, EV7, EV8, VALS, plug, ite_same, decide_true, decide_false, eq_self, ↓reduceIte, reduceCtorEq, Nat.reduceAdd, Nat.reduceEqDiff, Nat.reduceLT, Nat.reduceLeDiff, Nat.reduceMul, Nat.reduceSub, Nat.reduceDiv, Int.reduceToNat, Int.reduceAdd, Int.reduceSub, Int.reduceMul, Int.reduceNeg, Int.reduceEq, Int.reduceLT, Int.reduceLE] <;> rfl) rfl) .nil))); all_goals fail)) rfl ?_)
      | (with_reducible refine k_condP (by simp only [GA, Nat.reduceEqDiff, ↓reduceIte]; rfl) (by first | (simp only [BO]; rfl) | rfl) (fun ht => ?_) (fun ht => ?_) <;> try (first | exact False.elim ht | exact absurd rfl ht | exact absurd trivial ht | exact Bool.noConfusion ht))
      | (with_reducible refine k_ret ?_; repeat with_reducible (first | refine ret_thru ?_ | refine ret_blk ?_ | refine fin ?_))
      | (with_reducible refine k_exit ?_; repeat with_reducible (first | refine thru ?_ | refine out_blk ?_ | refine pass (by decide) ?_))
      | (refine post1 ?_; simp only [GA, Nat.reduceEqDiff, ↓reduceIte])
      | (refine post2 ?_; simp only [GA, Nat.reduceEqDiff, ↓reduceIte])
      | (refine post3 ?_; simp only [GA, Nat.reduceEqDiff, ↓reduceIte])
      | (refine postc (by simp only [GA, Nat.reduceEqDiff, ↓reduceIte]; rfl) (by simp (disch := omega) only [eZ_rd, eH_rd, e5_rd, c', c22r0, c22r1, c22r2, c22r3, c22r4, c22r5, EV0, EV1, EV2, EV3, EV4, EV5, EV6, EV7, EV8, VALS, plug, ite_same, decide_true, decide_false, eq_self, ↓reduceIte, reduceCtorEq, Nat.reduceAdd, Nat.reduceEqDiff, Nat.reduceLT, Nat.reduceLeDiff, Nat.reduceMul, Nat.reduceSub, Nat.reduceDiv, Int.reduceToNat, Int.reduceAdd, Int.reduceSub, Int.reduceMul, Int.reduceNeg, Int.reduceEq, Int.reduceLT, Int.reduceLE]; rfl) ?_)
      | (refine postct (by simp only [GA, Nat.reduceEqDiff, ↓reduceIte]; rfl) (by simp (disch := omega) only [eZ_rd, eH_rd, e5_rd, c', c22r0, c22r1, c22r2, c22r3, c22r4, c22r5, EV0, EV1, EV2, EV3, EV4, EV5, EV6, EV7, EV8, VALS, plug, ite_same, decide_true, decide_false, eq_self, ↓reduceIte, reduceCtorEq, Nat.reduceAdd, Nat.reduceEqDiff, Nat.reduceLT, Nat.reduceLeDiff, Nat.reduceMul, Nat.reduceSub, Nat.reduceDiv, Int.reduceToNat, Int.reduceAdd, Int.reduceSub, Int.reduceMul, Int.reduceNeg, Int.reduceEq, Int.reduceLT, Int.reduceLE]; rfl) ?_; simp only [GA, Nat.reduceEqDiff, ↓reduceIte])
      | refine post0 ?_
    all_goals first | exact ends_of | exact ends_eq rfl
theorem pc23 (s : Sz) (x : Hd) : PC Try.prog 23 [.ag (eZ s), .ag (eH x)] (.tu [.ag (e5 (neeR s x).1), .i .i64 (neeR s x).2]) := by
  have q43 := pc43 s x
  unfold neeR
  refine pc_fn fn23 (by simp only [AV.plains, AV.plain, il_plain, bl_plain, Bool.and_true, Bool.true_and, Bool.and_self]) (by simp only [AV.plains, AV.plain, il_plain, bl_plain, Bool.and_true, Bool.true_and, Bool.and_self]) (Nat.le_of_ble_eq_true rfl) ?_
  rw [initSt2]
  by_cases c : sgl s x = 0
  · have c' := eq_true c
    rw [if_pos c]
    have q44 := pc44 s x (sgl_ok c).1 (sgl_ok c).2
    repeat' first
      | with_reducible refine k_seq ?_
      | with_reducible refine k_skip ?_
      | with_reducible refine k_blkS ?_
      | with_reducible refine k_blkR ?_
      | with_reducible refine k_blkC ?_
      | with_reducible refine k_blkH ?_
      | with_reducible refine k_blkB ?_
      | with_reducible refine k_blkK ?_
      | with_reducible refine k_blkE ?_
      | with_reducible refine k_reg ?_
      | with_reducible refine r_done ?_
      | with_reducible refine s_go (by simp (disch := omega) only [eZ_rd, eH_rd, e5_rd, c', c23r0, c23r1, c23r2, c23r3, c23r4, c23r5, EV0, EV1, EV2, EV3, EV4, EV5, EV6, EV7, EV8, VALS, plug, ite_same, decide_true, decide_false, eq_self, ↓reduceIte, reduceCtorEq, Nat.reduceAdd, Nat.reduceEqDiff, Nat.reduceLT, Nat.reduceLeDiff, Nat.reduceMul, Nat.reduceSub, Nat.reduceDiv, Int.reduceToNat, Int.reduceAdd, Int.reduceSub, Int.reduceMul, Int.reduceNeg, Int.reduceEq, Int.reduceLT, Int.reduceLE]; with_reducible rfl) ?_
      | ((with_reducible refine chk_r ?_); refine r_callF (by simp only [CA, Nat.reduceEqDiff, ↓reduceIte]; rfl) (by exact rfl) (by simp only [CA, Nat.reduceEqDiff, ↓reduceIte]; rfl) rfl ?_)
      | ((with_reducible refine chk_r ?_); refine r_callP (by simp only [CA, Nat.reduceEqDiff, ↓reduceIte]; rfl) (by simp only [CA, Nat.reduceEqDiff, ↓reduceIte]; rfl) (by first | exact q43 _ | exact q44 _) rfl ?_)
      | (with_reducible refine k_condP (by simp only [GA, Nat.reduceEqDiff, ↓reduceIte]; rfl) (by first | (simp only [BO]; rfl) | rfl) (fun ht => ?_) (fun ht => ?_) <;> try (first | exact False.elim ht | exact absurd rfl ht | exact absurd trivial ht | exact Bool.noConfusion ht))
      | (with_reducible refine k_ret ?_; repeat with_reducible (first | refine ret_thru ?_ | refine ret_blk ?_ | refine fin ?_))
      | (with_reducible refine k_exit ?_; repeat with_reducible (first | refine thru ?_ | refine out_blk ?_ | refine pass (by decide) ?_))
      | (refine post1 ?_; simp only [GA, Nat.reduceEqDiff, ↓reduceIte])
      | (refine post2 ?_; simp only [GA, Nat.reduceEqDiff, ↓reduceIte])
      | (refine post3 ?_; simp only [GA, Nat.reduceEqDiff, ↓reduceIte])
      | (refine postc (by simp only [GA, Nat.reduceEqDiff, ↓reduceIte]; rfl) (by simp (disch := omega) only [eZ_rd, eH_rd, e5_rd, c', c23r0, c23r1, c23r2, c23r3, c23r4, c23r5, EV0, EV1, EV2, EV3, EV4, EV5, EV6, EV7, EV8, VALS, plug, ite_same, decide_true, decide_false, eq_self, ↓reduceIte, reduceCtorEq, Nat.reduceAdd, Nat.reduceEqDiff, Nat.reduceLT, Nat.reduceLeDiff, Nat.reduceMul, Nat.reduceSub, Nat.reduceDiv, Int.reduceToNat, Int.reduceAdd, Int.reduceSub, Int.reduceMul, Int.reduceNeg, Int.reduceEq, Int.reduceLT, Int.reduceLE]; rfl) ?_)
      | (refine postct (by simp only [GA, Nat.reduceEqDiff, ↓reduceIte]; rfl) (by simp (disch := omega) only [eZ_rd, eH_rd, e5_rd, c', c23r0, c23r1, c23r2, c23r3, c23r4, c23r5, EV0, EV1, EV2, EV3, EV4, EV5, EV6, EV7, EV8, VALS, plug, ite_same, decide_true, decide_false, eq_self, ↓reduceIte, reduceCtorEq, Nat.reduceAdd, Nat.reduceEqDiff, Nat.reduceLT, Nat.reduceLeDiff, Nat.reduceMul, Nat.reduceSub, Nat.reduceDiv, Int.reduceToNat, Int.reduceAdd, Int.reduceSub, Int.reduceMul, Int.reduceNeg, Int.reduceEq, Int.reduceLT, Int.reduceLE]; rfl) ?_; simp only [GA, Nat.reduceEqDiff, ↓reduceIte])
      | refine post0 ?_
    all_goals first | exact ends_of | exact ends_eq rfl
  · have c' := eq_false c
    rw [if_neg c]
    repeat' first
      | with_reducible refine k_seq ?_
      | with_reducible refine k_skip ?_
      | with_reducible refine k_blkS ?_
      | with_reducible refine k_blkR ?_
      | with_reducible refine k_blkC ?_
      | with_reducible refine k_blkH ?_
      | with_reducible refine k_blkB ?_
      | with_reducible refine k_blkK ?_
      | with_reducible refine k_blkE ?_
      | with_reducible refine k_reg ?_
      | with_reducible refine r_done ?_
      | with_reducible refine s_go (by simp (disch := omega) only [eZ_rd, eH_rd, e5_rd, c', c23r0, c23r1, c23r2, c23r3, c23r4, c23r5, EV0, EV1, EV2, EV3, EV4, EV5, EV6, EV7, EV8, VALS, plug, ite_same, decide_true, decide_false, eq_self, ↓reduceIte, reduceCtorEq, Nat.reduceAdd, Nat.reduceEqDiff, Nat.reduceLT, Nat.reduceLeDiff, Nat.reduceMul, Nat.reduceSub, Nat.reduceDiv, Int.reduceToNat, Int.reduceAdd, Int.reduceSub, Int.reduceMul, Int.reduceNeg, Int.reduceEq, Int.reduceLT, Int.reduceLE]; with_reducible rfl) ?_
      | ((with_reducible refine chk_r ?_); refine r_callF (by simp only [CA, Nat.reduceEqDiff, ↓reduceIte]; rfl) (by exact rfl) (by simp only [CA, Nat.reduceEqDiff, ↓reduceIte]; rfl) rfl ?_)
      | ((with_reducible refine chk_r ?_); refine r_callP (by simp only [CA, Nat.reduceEqDiff, ↓reduceIte]; rfl) (by simp only [CA, Nat.reduceEqDiff, ↓reduceIte]; rfl) (by first | exact q43 _) rfl ?_)
      | (with_reducible refine k_condP (by simp only [GA, Nat.reduceEqDiff, ↓reduceIte]; rfl) (by first | (simp only [BO]; rfl) | rfl) (fun ht => ?_) (fun ht => ?_) <;> try (first | exact False.elim ht | exact absurd rfl ht | exact absurd trivial ht | exact Bool.noConfusion ht))
      | (with_reducible refine k_ret ?_; repeat with_reducible (first | refine ret_thru ?_ | refine ret_blk ?_ | refine fin ?_))
      | (with_reducible refine k_exit ?_; repeat with_reducible (first | refine thru ?_ | refine out_blk ?_ | refine pass (by decide) ?_))
      | (refine post1 ?_; simp only [GA, Nat.reduceEqDiff, ↓reduceIte])
      | (refine post2 ?_; simp only [GA, Nat.reduceEqDiff, ↓reduceIte])
      | (refine post3 ?_; simp only [GA, Nat.reduceEqDiff, ↓reduceIte])
      | (refine postc (by simp only [GA, Nat.reduceEqDiff, ↓reduceIte]; rfl) (by simp (disch := omega) only [eZ_rd, eH_rd, e5_rd, c', c23r0, c23r1, c23r2, c23r3, c23r4, c23r5, EV0, EV1, EV2, EV3, EV4, EV5, EV6, EV7, EV8, VALS, plug, ite_same, decide_true, decide_false, eq_self, ↓reduceIte, reduceCtorEq, Nat.reduceAdd, Nat.reduceEqDiff, Nat.reduceLT, Nat.reduceLeDiff, Nat.reduceMul, Nat.reduceSub, Nat.reduceDiv, Int.reduceToNat, Int.reduceAdd, Int.reduceSub, Int.reduceMul, Int.reduceNeg, Int.reduceEq, Int.reduceLT, Int.reduceLE]; rfl) ?_)
      | (refine postct (by simp only [GA, Nat.reduceEqDiff, ↓reduceIte]; rfl) (by simp (disch := omega) only [eZ_rd, eH_rd, e5_rd, c', c23r0, c23r1, c23r2, c23r3, c23r4, c23r5, EV0, EV1, EV2, EV3, EV4, EV5, EV6, EV7, EV8, VALS, plug, ite_same, decide_true, decide_false, eq_self, ↓reduceIte, reduceCtorEq, Nat.reduceAdd, Nat.reduceEqDiff, Nat.reduceLT, Nat.reduceLeDiff, Nat.reduceMul, Nat.reduceSub, Nat.reduceDiv, Int.reduceToNat, Int.reduceAdd, Int.reduceSub, Int.reduceMul, Int.reduceNeg, Int.reduceEq, Int.reduceLT, Int.reduceLE]; rfl) ?_; simp only [GA, Nat.reduceEqDiff, ↓reduceIte])
      | refine post0 ?_
    all_goals first | exact ends_of | exact ends_eq rfl
theorem pc25 (s : Sz) (x : Hd) : PC Try.prog 25 [.ag (eZ s), .ag (eH x)] (.tu [vi (fauR s x).1, .i .i64 (fauR s x).2]) := by
  have q41 := pc41 [s] [x] (by simp) (by simp)
  rw [chk_one, vZ_one, vH_one] at q41
  unfold fauR
  refine pc_fn fn25 (by simp only [AV.plains, AV.plain, il_plain, bl_plain, Bool.and_true, Bool.true_and, Bool.and_self]) (by simp only [AV.plains, AV.plain, il_plain, bl_plain, Bool.and_true, Bool.true_and, Bool.and_self]) (Nat.le_of_ble_eq_true rfl) ?_
  rw [initSt2]
  by_cases c : sgl s x = 0
  · have c' := eq_true c
    rw [if_pos c]
    have q45 := pc45 s x (sgl_ok c).1 (sgl_ok c).2
    repeat' first
      | with_reducible refine k_seq ?_
      | with_reducible refine k_skip ?_
      | with_reducible refine k_blkS ?_
      | with_reducible refine k_blkR ?_
      | with_reducible refine k_blkC ?_
      | with_reducible refine k_blkH ?_
      | with_reducible refine k_blkB ?_
      | with_reducible refine k_blkK ?_
      | with_reducible refine k_blkE ?_
      | with_reducible refine k_reg ?_
      | with_reducible refine r_done ?_
      | with_reducible refine s_go (by simp (disch := omega) only [eZ_rd, eH_rd, e5_rd, c', c25r0, c25r1, c25r2, c25r3, c25r4, EV0, EV1, EV2, EV3, EV4, EV5, EV6, EV7, EV8, VALS, plug, ite_same, decide_true, decide_false, eq_self, ↓reduceIte, reduceCtorEq, Nat.reduceAdd, Nat.reduceEqDiff, Nat.reduceLT, Nat.reduceLeDiff, Nat.reduceMul, Nat.reduceSub, Nat.reduceDiv, Int.reduceToNat, Int.reduceAdd, Int.reduceSub, Int.reduceMul, Int.reduceNeg, Int.reduceEq, Int.reduceLT, Int.reduceLE]; with_reducible rfl) ?_
      | ((with_reducible refine chk_r ?_); refine r_callF (by simp only [CA, Nat.reduceEqDiff, ↓reduceIte]; rfl) (by exact rfl) (by simp only [CA, Nat.reduceEqDiff, ↓reduceIte]; rfl) rfl ?_)
      | ((with_reducible refine chk_r ?_); refine r_callP (by simp only [CA, Nat.reduceEqDiff, ↓reduceIte]; rfl) (by simp only [CA, Nat.reduceEqDiff, ↓reduceIte]; rfl) (by first | ((refine PC.at q41 rfl ?F; case F => (refine .cons (.row (by simp (disch := omega) only [c25r0, c25r1, c25r2, c25r3, c25r4, EV0, EV1, EV2, EV3, EV4, EV5, EV6, EV7, EV8, VALS, plug, ite_same, decide_true, decide_false, eq_self, ↓reduceIte, reduceCtorEq, Nat.reduceAdd, Nat.reduceEqDiff, Nat.reduceLT, Nat.reduceLeDiff, Nat.reduceMul, Nat.reduceSub, Nat.reduceDiv, Int.reduceToNat, Int.reduceAdd, Int.reduceSub, Int.reduceMul, Int.reduceNeg, Int.reduceEq, Int.reduceLT, Int.reduceLE] <;> rfl) rfl) (.cons (.row (by simp (disch := omega) only [c25r0, c25r1, c25r2, c25r3, c25r4, EV0, EV1, EV2, EV3, EV4, EV5, EV6, EV7, EV8, VALS, plug, ite_same, decide_true, decide_false, eq_self, ↓reduceIte, reduceCtorEq, Nat.reduceAdd, Nat.reduceEqDiff, Nat.reduceLT, Nat.reduceLeDiff, Nat.reduceMul, Nat.reduceSub, Nat.reduceDiv, Int.reduceToNat, Int.reduceAdd, Int.reduceSub, Int.reduceMul, Int.reduceNeg, Int.reduceEq, Int.reduceLT, Int.reduceLE] <;> rfl) rfl) .nil))); all_goals fail) | exact q45 _) rfl ?_)
      | (with_reducible refine k_condP (by simp only [GA, Nat.reduceEqDiff, ↓reduceIte]; rfl) (by first | (simp only [BO]; rfl) | rfl) (fun ht => ?_) (fun ht => ?_) <;> try (first | exact False.elim ht | exact absurd rfl ht | exact absurd trivial ht | exact Bool.noConfusion ht))
      | (with_reducible refine k_ret ?_; repeat with_reducible (first | refine ret_thru ?_ | refine ret_blk ?_ | refine fin ?_))
      | (with_reducible refine k_exit ?_; repeat with_reducible (first | refine thru ?_ | refine out_blk ?_ | refine pass (by decide) ?_))
      | (refine post1 ?_; simp only [GA, Nat.reduceEqDiff, ↓reduceIte])
      | (refine post2 ?_; simp only [GA, Nat.reduceEqDiff, ↓reduceIte])
      | (refine post3 ?_; simp only [GA, Nat.reduceEqDiff, ↓reduceIte])
      | (refine postc (by simp only [GA, Nat.reduceEqDiff, ↓reduceIte]; rfl) (by simp (disch := omega) only [eZ_rd, eH_rd, e5_rd, c', c25r0, c25r1, c25r2, c25r3, c25r4, EV0, EV1, EV2, EV3, EV4, EV5, EV6, EV7, EV8, VALS, plug, ite_same, decide_true, decide_false, eq_self, ↓reduceIte, reduceCtorEq, Nat.reduceAdd, Nat.reduceEqDiff, Nat.reduceLT, Nat.reduceLeDiff, Nat.reduceMul, Nat.reduceSub, Nat.reduceDiv, Int.reduceToNat, Int.reduceAdd, Int.reduceSub, Int.reduceMul, Int.reduceNeg, Int.reduceEq, Int.reduceLT, Int.reduceLE]; rfl) ?_)
      | refine post0 ?_
    all_goals first | exact ends_of | exact ends_eq rfl
  · have c' := eq_false c
    rw [if_neg c]
    repeat' first
      | with_reducible refine k_seq ?_
      | with_reducible refine k_skip ?_
      | with_reducible refine k_blkS ?_
      | with_reducible refine k_blkR ?_
      | with_reducible refine k_blkC ?_
      | with_reducible refine k_blkH ?_
      | with_reducible refine k_blkB ?_
      | with_reducible refine k_blkK ?_
      | with_reducible refine k_blkE ?_
      | with_reducible refine k_reg ?_
      | with_reducible refine r_done ?_
      | with_reducible refine s_go (by simp (disch := omega) only [eZ_rd, eH_rd, e5_rd, c', c25r0, c25r1, c25r2, c25r3, c25r4, EV0, EV1, EV2, EV3, EV4, EV5, EV6, EV7, EV8, VALS, plug, ite_same, decide_true, decide_false, eq_self, ↓reduceIte, reduceCtorEq, Nat.reduceAdd, Nat.reduceEqDiff, Nat.reduceLT, Nat.reduceLeDiff, Nat.reduceMul, Nat.reduceSub, Nat.reduceDiv, Int.reduceToNat, Int.reduceAdd, Int.reduceSub, Int.reduceMul, Int.reduceNeg, Int.reduceEq, Int.reduceLT, Int.reduceLE]; with_reducible rfl) ?_
      | ((with_reducible refine chk_r ?_); refine r_callF (by simp only [CA, Nat.reduceEqDiff, ↓reduceIte]; rfl) (by exact rfl) (by simp only [CA, Nat.reduceEqDiff, ↓reduceIte]; rfl) rfl ?_)
      | ((with_reducible refine chk_r ?_); refine r_callP (by simp only [CA, Nat.reduceEqDiff, ↓reduceIte]; rfl) (by simp only [CA, Nat.reduceEqDiff, ↓reduceIte]; rfl) (by first | ((refine PC.at q41 rfl ?F; case F => (refine .cons (.row (by simp (disch := omega) only [c25r0, c25r1, c25r2, c25r3, c25r4, EV0, EV1, EV2, EV3, EV4, EV5, EV6, EV7, EV8, VALS, plug, ite_same, decide_true, decide_false, eq_self, ↓reduceIte, reduceCtorEq, Nat.reduceAdd, Nat.reduceEqDiff, Nat.reduceLT, Nat.reduceLeDiff, Nat.reduceMul, Nat.reduceSub, Nat.reduceDiv, Int.reduceToNat, Int.reduceAdd, Int.reduceSub, Int.reduceMul, Int.reduceNeg, Int.reduceEq, Int.reduceLT, Int.reduceLE] <;> rfl) rfl) (.cons (.row (by simp (disch := omega) only [c25r0, c25r1, c25r2, c25r3, c25r4, EV0, EV1, EV2, EV3, EV4, EV5, EV6, EV7, EV8, VALS, plug, ite_same, decide_true, decide_false, eq_self, ↓reduceIte, reduceCtorEq, Nat.reduceAdd, Nat.reduceEqDiff, Nat.reduceLT, Nat.reduceLeDiff, Nat.reduceMul, Nat.reduceSub, Nat.reduceDiv, Int.reduceToNat, Int.reduceAdd, Int.reduceSub, Int.reduceMul, Int.reduceNeg, Int.reduceEq, Int.reduceLT, Int.reduceLE] <;> rfl) rfl) .nil))); all_goals fail)) rfl ?_)
      | (with_reducible refine k_condP (by simp only [GA, Nat.reduceEqDiff, ↓reduceIte]; rfl) (by first | (simp only [BO]; rfl) | rfl) (fun ht => ?_) (fun ht => ?_) <;> try (first | exact False.elim ht | exact absurd rfl ht | exact absurd trivial ht | exact Bool.noConfusion ht))
      | (with_reducible refine k_ret ?_; repeat with_reducible (first | refine ret_thru ?_ | refine ret_blk ?_ | refine fin ?_))
      | (with_reducible refine k_exit ?_; repeat with_reducible (first | refine thru ?_ | refine out_blk ?_ | refine pass (by decide) ?_))
      | (refine post1 ?_; simp only [GA, Nat.reduceEqDiff, ↓reduceIte])
      | (refine post2 ?_; simp only [GA, Nat.reduceEqDiff, ↓reduceIte])
      | (refine post3 ?_; simp only [GA, Nat.reduceEqDiff, ↓reduceIte])
      | (refine postc (by simp only [GA, Nat.reduceEqDiff, ↓reduceIte]; rfl) (by simp (disch := omega) only [eZ_rd, eH_rd, e5_rd, c', c25r0, c25r1, c25r2, c25r3, c25r4, EV0, EV1, EV2, EV3, EV4, EV5, EV6, EV7, EV8, VALS, plug, ite_same, decide_true, decide_false, eq_self, ↓reduceIte, reduceCtorEq, Nat.reduceAdd, Nat.reduceEqDiff, Nat.reduceLT, Nat.reduceLeDiff, Nat.reduceMul, Nat.reduceSub, Nat.reduceDiv, Int.reduceToNat, Int.reduceAdd, Int.reduceSub, Int.reduceMul, Int.reduceNeg, Int.reduceEq, Int.reduceLT, Int.reduceLE]; rfl) ?_)
      | refine post0 ?_
    exact ends_nil2
theorem pc26 (s : Sz) (x : Hd) : PC Try.prog 26 [.ag (eZ s), .ag (eH x)] (.tu [vi (fauR s x).1, .i .i64 (fauR s x).2]) := by
  have q43 := pc43 s x
  unfold fauR
  refine pc_fn fn26 (by simp only [AV.plains, AV.plain, il_plain, bl_plain, Bool.and_true, Bool.true_and, Bool.and_self]) (by simp only [AV.plains, AV.plain, il_plain, bl_plain, Bool.and_true, Bool.true_and, Bool.and_self]) (Nat.le_of_ble_eq_true rfl) ?_
  rw [initSt2]
  by_cases c : sgl s x = 0
  · have c' := eq_true c
    rw [if_pos c]
    have q46 := pc46 s x (sgl_ok c).1 (sgl_ok c).2
    repeat' first
      | with_reducible refine k_seq ?_
      | with_reducible refine k_skip ?_
      | with_reducible refine k_blkS ?_
      | with_reducible refine k_blkR ?_
      | with_reducible refine k_blkC ?_
      | with_reducible refine k_blkH ?_
      | with_reducible refine k_blkB ?_
      | with_reducible refine k_blkK ?_
      | with_reducible refine k_blkE ?_
      | with_reducible refine k_reg ?_
      | with_reducible refine r_done ?_
      | with_reducible refine s_go (by simp (disch := omega) only [eZ_rd, eH_rd, e5_rd, c', c26r0, c26r1, c26r2, c26r3, c26r4, EV0, EV1, EV2, EV3, EV4, EV5, EV6, EV7, EV8, VALS, plug, ite_same, decide_true, decide_false, eq_self, ↓reduceIte, reduceCtorEq, Nat.reduceAdd, Nat.reduceEqDiff, Nat.reduceLT, Nat.reduceLeDiff, Nat.reduceMul, Nat.reduceSub, Nat.reduceDiv, Int.reduceToNat, Int.reduceAdd, Int.reduceSub, Int.reduceMul, Int.reduceNeg, Int.reduceEq, Int.reduceLT, Int.reduceLE]; with_reducible rfl) ?_
      | ((with_reducible refine chk_r ?_); refine r_callF (by simp only [CA, Nat.reduceEqDiff, ↓reduceIte]; rfl) (by exact rfl) (by simp only [CA, Nat.reduceEqDiff, ↓reduceIte]; rfl) rfl ?_)
      | ((with_reducible refine chk_r ?_); refine r_callP (by simp only [CA, Nat.reduceEqDiff, ↓reduceIte]; rfl) (by simp only [CA, Nat.reduceEqDiff, ↓reduceIte]; rfl) (by first | exact q43 _ | exact q46 _) rfl ?_)
      | (with_reducible refine k_condP (by simp only [GA, Nat.reduceEqDiff, ↓reduceIte]; rfl) (by first | (simp only [BO]; rfl) | rfl) (fun ht => ?_) (fun ht => ?_) <;> try (first | exact False.elim ht | exact absurd rfl ht | exact absurd trivial ht | exact Bool.noConfusion ht))
      | (with_reducible refine k_ret ?_; repeat with_reducible (first | refine ret_thru ?_ | refine ret_blk ?_ | refine fin ?_))
      | (with_reducible refine k_exit ?_; repeat with_reducible (first | refine thru ?_ | refine out_blk ?_ | refine pass (by decide) ?_))
      | (refine post1 ?_; simp only [GA, Nat.reduceEqDiff, ↓reduceIte])
      | (refine post2 ?_; simp only [GA, Nat.reduceEqDiff, ↓reduceIte])
      | (refine post3 ?_; simp only [GA, Nat.reduceEqDiff, ↓reduceIte])
      | (refine postc (by simp only [GA, Nat.reduceEqDiff, ↓reduceIte]; rfl) (by simp (disch := omega) only [eZ_rd, eH_rd, e5_rd, c', c26r0, c26r1, c26r2, c26r3, c26r4, EV0, EV1, EV2, EV3, EV4, EV5, EV6, EV7, EV8, VALS, plug, ite_same, decide_true, decide_false, eq_self, ↓reduceIte, reduceCtorEq, Nat.reduceAdd, Nat.reduceEqDiff, Nat.reduceLT, Nat.reduceLeDiff, Nat.reduceMul, Nat.reduceSub, Nat.reduceDiv, Int.reduceToNat, Int.reduceAdd, Int.reduceSub, Int.reduceMul, Int.reduceNeg, Int.reduceEq, Int.reduceLT, Int.reduceLE]; rfl) ?_)
      | refine post0 ?_
    all_goals first | exact ends_of | exact ends_eq rfl
  · have c' := eq_false c
    rw [if_neg c]
    repeat' first
      | with_reducible refine k_seq ?_
      | with_reducible refine k_skip ?_
      | with_reducible refine k_blkS ?_
      | with_reducible refine k_blkR ?_
      | with_reducible refine k_blkC ?_
      | with_reducible refine k_blkH ?_
      | with_reducible refine k_blkB ?_
      | with_reducible refine k_blkK ?_
      | with_reducible refine k_blkE ?_
      | with_reducible refine k_reg ?_
      | with_reducible refine r_done ?_
      | with_reducible refine s_go (by simp (disch := omega) only [eZ_rd, eH_rd, e5_rd, c', c26r0, c26r1, c26r2, c26r3, c26r4, EV0, EV1, EV2, EV3, EV4, EV5, EV6, EV7, EV8, VALS, plug, ite_same, decide_true, decide_false, eq_self, ↓reduceIte, reduceCtorEq, Nat.reduceAdd, Nat.reduceEqDiff, Nat.reduceLT, Nat.reduceLeDiff, Nat.reduceMul, Nat.reduceSub, Nat.reduceDiv, Int.reduceToNat, Int.reduceAdd, Int.reduceSub, Int.reduceMul, Int.reduceNeg, Int.reduceEq, Int.reduceLT, Int.reduceLE]; with_reducible rfl) ?_
      | ((with_reducible refine chk_r ?_); refine r_callF (by simp only [CA, Nat.reduceEqDiff, ↓reduceIte]; rfl) (by exact rfl) (by simp only [CA, Nat.reduceEqDiff, ↓reduceIte]; rfl) rfl ?_)
      | ((with_reducible refine chk_r ?_); refine r_callP (by simp only [CA, Nat.reduceEqDiff, ↓reduceIte]; rfl) (by simp only [CA, Nat.reduceEqDiff, ↓reduceIte]; rfl) (by first | exact q43 _) rfl ?_)
      | (with_reducible refine k_condP (by simp only [GA, Nat.reduceEqDiff, ↓reduceIte]; rfl) (by first | (simp only [BO]; rfl) | rfl) (fun ht => ?_) (fun ht => ?_) <;> try (first | exact False.elim ht | exact absurd rfl ht | exact absurd trivial ht | exact Bool.noConfusion ht))
      | (with_reducible refine k_ret ?_; repeat with_reducible (first | refine ret_thru ?_ | refine ret_blk ?_ | refine fin ?_))
      | (with_reducible refine k_exit ?_; repeat with_reducible (first | refine thru ?_ | refine out_blk ?_ | refine pass (by decide) ?_))
      | (refine post1 ?_; simp only [GA, Nat.reduceEqDiff, ↓reduceIte])
      | (refine post2 ?_; simp only [GA, Nat.reduceEqDiff, ↓reduceIte])
      | (refine post3 ?_; simp only [GA, Nat.reduceEqDiff, ↓reduceIte])
      | (refine postc (by simp only [GA, Nat.reduceEqDiff, ↓reduceIte]; rfl) (by simp (disch := omega) only [eZ_rd, eH_rd, e5_rd, c', c26r0, c26r1, c26r2, c26r3, c26r4, EV0, EV1, EV2, EV3, EV4, EV5, EV6, EV7, EV8, VALS, plug, ite_same, decide_true, decide_false, eq_self, ↓reduceIte, reduceCtorEq, Nat.reduceAdd, Nat.reduceEqDiff, Nat.reduceLT, Nat.reduceLeDiff, Nat.reduceMul, Nat.reduceSub, Nat.reduceDiv, Int.reduceToNat, Int.reduceAdd, Int.reduceSub, Int.reduceMul, Int.reduceNeg, Int.reduceEq, Int.reduceLT, Int.reduceLE]; rfl) ?_)
      | refine post0 ?_
    exact ends_nil2
theorem pc21 (s : Sz) (x : Hd) : PC Try.prog 21 [.ag (eZ s), .ag (eH x)] (.tu [.b (fitR s x).1, .i .i64 (fitR s x).2]) := by
  have q := pc25 s x
  unfold fauR at q
  unfold fitR
  refine pc_fn fn21 (by simp only [AV.plains, AV.plain, il_plain, bl_plain, Bool.and_true, Bool.true_and, Bool.and_self]) (by simp only [AV.plains, AV.plain, il_plain, bl_plain, Bool.and_true, Bool.true_and, Bool.and_self]) (Nat.le_of_ble_eq_true rfl) ?_
  rw [initSt2]
  by_cases c : sgl s x = 0
  · have c' := eq_true c
    rw [if_pos c] at q
    rw [decide_eq_true c, Bool.true_and]
    repeat' first
      | with_reducible refine k_seq ?_
      | with_reducible refine k_skip ?_
      | with_reducible refine k_blkS ?_
      | with_reducible refine k_blkR ?_
      | with_reducible refine k_blkC ?_
      | with_reducible refine k_blkH ?_
      | with_reducible refine k_blkB ?_
      | with_reducible refine k_blkK ?_
      | with_reducible refine k_blkE ?_
      | with_reducible refine k_reg ?_
      | with_reducible refine r_done ?_
      | with_reducible refine s_go (by simp (disch := omega) only [eZ_rd, eH_rd, c', c21r0, c21r1, c21r2, EV0, EV1, EV2, EV3, EV4, EV5, EV6, EV7, EV8, VALS, plug, ite_same, decide_true, decide_false, eq_self, ↓reduceIte, reduceCtorEq, Nat.reduceAdd, Nat.reduceEqDiff, Nat.reduceLT, Nat.reduceLeDiff, Nat.reduceMul, Nat.reduceSub, Nat.reduceDiv, Int.reduceToNat, Int.reduceAdd, Int.reduceSub, Int.reduceMul, Int.reduceNeg, Int.reduceEq, Int.reduceLT, Int.reduceLE]; with_reducible rfl) ?_
      | ((with_reducible refine chk_r ?_); refine r_callF (by simp only [CA, Nat.reduceEqDiff, ↓reduceIte]; rfl) (by exact rfl) (by simp only [CA, Nat.reduceEqDiff, ↓reduceIte]; rfl) rfl ?_)
      | ((with_reducible refine chk_r ?_); refine r_callP (by simp only [CA, Nat.reduceEqDiff, ↓reduceIte]; rfl) (by simp only [CA, Nat.reduceEqDiff, ↓reduceIte]; rfl) (by first | exact q _) rfl ?_)
      | (with_reducible refine k_condP (by simp only [GA, Nat.reduceEqDiff, ↓reduceIte]; rfl) (by first | (simp only [BO]; rfl) | rfl) (fun ht => ?_) (fun ht => ?_) <;> try (first | exact False.elim ht | exact absurd rfl ht | exact absurd trivial ht | exact Bool.noConfusion ht))
      | (with_reducible refine k_ret ?_; repeat with_reducible (first | refine ret_thru ?_ | refine ret_blk ?_ | refine fin ?_))
      | (with_reducible refine k_exit ?_; repeat with_reducible (first | refine thru ?_ | refine out_blk ?_ | refine pass (by decide) ?_))
      | (refine post1 ?_; simp only [GA, Nat.reduceEqDiff, ↓reduceIte])
      | (refine post2 ?_; simp only [GA, Nat.reduceEqDiff, ↓reduceIte])
      | (refine post3 ?_; simp only [GA, Nat.reduceEqDiff, ↓reduceIte])
      | (refine postc (by simp only [GA, Nat.reduceEqDiff, ↓reduceIte]; rfl) (by simp (disch := omega) only [eZ_rd, eH_rd, c', c21r0, c21r1, c21r2, EV0, EV1, EV2, EV3, EV4, EV5, EV6, EV7, EV8, VALS, plug, ite_same, decide_true, decide_false, eq_self, ↓reduceIte, reduceCtorEq, Nat.reduceAdd, Nat.reduceEqDiff, Nat.reduceLT, Nat.reduceLeDiff, Nat.reduceMul, Nat.reduceSub, Nat.reduceDiv, Int.reduceToNat, Int.reduceAdd, Int.reduceSub, Int.reduceMul, Int.reduceNeg, Int.reduceEq, Int.reduceLT, Int.reduceLE]; rfl) ?_)
      | refine post0 ?_
    exact ends_eq (by rw [c])
  · have c' := eq_false c
    rw [if_neg c] at q
    rw [decide_eq_false c, Bool.false_and]
    repeat' first
      | with_reducible refine k_seq ?_
      | with_reducible refine k_skip ?_
      | with_reducible refine k_blkS ?_
      | with_reducible refine k_blkR ?_
      | with_reducible refine k_blkC ?_
      | with_reducible refine k_blkH ?_
      | with_reducible refine k_blkB ?_
      | with_reducible refine k_blkK ?_
      | with_reducible refine k_blkE ?_
      | with_reducible refine k_reg ?_
      | with_reducible refine r_done ?_
      | with_reducible refine s_go (by simp (disch := omega) only [eZ_rd, eH_rd, c', c21r0, c21r1, c21r2, EV0, EV1, EV2, EV3, EV4, EV5, EV6, EV7, EV8, VALS, plug, ite_same, decide_true, decide_false, eq_self, ↓reduceIte, reduceCtorEq, Nat.reduceAdd, Nat.reduceEqDiff, Nat.reduceLT, Nat.reduceLeDiff, Nat.reduceMul, Nat.reduceSub, Nat.reduceDiv, Int.reduceToNat, Int.reduceAdd, Int.reduceSub, Int.reduceMul, Int.reduceNeg, Int.reduceEq, Int.reduceLT, Int.reduceLE]; with_reducible rfl) ?_
      | ((with_reducible refine chk_r ?_); refine r_callF (by simp only [CA, Nat.reduceEqDiff, ↓reduceIte]; rfl) (by exact rfl) (by simp only [CA, Nat.reduceEqDiff, ↓reduceIte]; rfl) rfl ?_)
      | ((with_reducible refine chk_r ?_); refine r_callP (by simp only [CA, Nat.reduceEqDiff, ↓reduceIte]; rfl) (by simp only [CA, Nat.reduceEqDiff, ↓reduceIte]; rfl) (by first | exact q _) rfl ?_)
      | (with_reducible refine k_condP (by simp only [GA, Nat.reduceEqDiff, ↓reduceIte]; rfl) (by first | (simp only [BO]; rfl) | rfl) (fun ht => ?_) (fun ht => ?_) <;> try (first | exact False.elim ht | exact absurd rfl ht | exact absurd trivial ht | exact Bool.noConfusion ht))
      | (with_reducible refine k_ret ?_; repeat with_reducible (first | refine ret_thru ?_ | refine ret_blk ?_ | refine fin ?_))
      | (with_reducible refine k_exit ?_; repeat with_reducible (first | refine thru ?_ | refine out_blk ?_ | refine pass (by decide) ?_))
      | (refine post1 ?_; simp only [GA, Nat.reduceEqDiff, ↓reduceIte])
      | (refine post2 ?_; simp only [GA, Nat.reduceEqDiff, ↓reduceIte])
      | (refine post3 ?_; simp only [GA, Nat.reduceEqDiff, ↓reduceIte])
      | (refine postc (by simp only [GA, Nat.reduceEqDiff, ↓reduceIte]; rfl) (by simp (disch := omega) only [eZ_rd, eH_rd, c', c21r0, c21r1, c21r2, EV0, EV1, EV2, EV3, EV4, EV5, EV6, EV7, EV8, VALS, plug, ite_same, decide_true, decide_false, eq_self, ↓reduceIte, reduceCtorEq, Nat.reduceAdd, Nat.reduceEqDiff, Nat.reduceLT, Nat.reduceLeDiff, Nat.reduceMul, Nat.reduceSub, Nat.reduceDiv, Int.reduceToNat, Int.reduceAdd, Int.reduceSub, Int.reduceMul, Int.reduceNeg, Int.reduceEq, Int.reduceLT, Int.reduceLE]; rfl) ?_)
      | refine post0 ?_
    all_goals first | exact ends_of | exact ends_eq rfl
theorem pc24 (s : Sz) (x : Hd) : PC Try.prog 24 [.ag (eZ s), .ag (eH x)] (.tu [.b (fitR s x).1, .i .i64 (fitR s x).2]) := by
  have q := pc26 s x
  unfold fauR at q
  unfold fitR
  refine pc_fn fn24 (by simp only [AV.plains, AV.plain, il_plain, bl_plain, Bool.and_true, Bool.true_and, Bool.and_self]) (by simp only [AV.plains, AV.plain, il_plain, bl_plain, Bool.and_true, Bool.true_and, Bool.and_self]) (Nat.le_of_ble_eq_true rfl) ?_
  rw [initSt2]
  by_cases c : sgl s x = 0
  · have c' := eq_true c
    rw [if_pos c] at q
    rw [decide_eq_true c, Bool.true_and]
    repeat' first
      | with_reducible refine k_seq ?_
      | with_reducible refine k_skip ?_
      | with_reducible refine k_blkS ?_
      | with_reducible refine k_blkR ?_
      | with_reducible refine k_blkC ?_
      | with_reducible refine k_blkH ?_
      | with_reducible refine k_blkB ?_
      | with_reducible refine k_blkK ?_
      | with_reducible refine k_blkE ?_
      | with_reducible refine k_reg ?_
      | with_reducible refine r_done ?_
      | with_reducible refine s_go (by simp (disch := omega) only [eZ_rd, eH_rd, c', c24r0, c24r1, c24r2, EV0, EV1, EV2, EV3, EV4, EV5, EV6, EV7, EV8, VALS, plug, ite_same, decide_true, decide_false, eq_self, ↓reduceIte, reduceCtorEq, Nat.reduceAdd, Nat.reduceEqDiff, Nat.reduceLT, Nat.reduceLeDiff, Nat.reduceMul, Nat.reduceSub, Nat.reduceDiv, Int.reduceToNat, Int.reduceAdd, Int.reduceSub, Int.reduceMul, Int.reduceNeg, Int.reduceEq, Int.reduceLT, Int.reduceLE]; with_reducible rfl) ?_
      | ((with_reducible refine chk_r ?_); refine r_callF (by simp only [CA, Nat.reduceEqDiff, ↓reduceIte]; rfl) (by exact rfl) (by simp only [CA, Nat.reduceEqDiff, ↓reduceIte]; rfl) rfl ?_)
      | ((with_reducible refine chk_r ?_); refine r_callP (by simp only [CA, Nat.reduceEqDiff, ↓reduceIte]; rfl) (by simp only [CA, Nat.reduceEqDiff, ↓reduceIte]; rfl) (by first | exact q _) rfl ?_)
      | (with_reducible refine k_condP (by simp only [GA, Nat.reduceEqDiff, ↓reduceIte]; rfl) (by first | (simp only [BO]; rfl) | rfl) (fun ht => ?_) (fun ht => ?_) <;> try (first | exact False.elim ht | exact absurd rfl ht | exact absurd trivial ht | exact Bool.noConfusion ht))
      | (with_reducible refine k_ret ?_; repeat with_reducible (first | refine ret_thru ?_ | refine ret_blk ?_ | refine fin ?_))
      | (with_reducible refine k_exit ?_; repeat with_reducible (first | refine thru ?_ | refine out_blk ?_ | refine pass (by decide) ?_))
      | (refine post1 ?_; simp only [GA, Nat.reduceEqDiff, ↓reduceIte])
      | (refine post2 ?_; simp only [GA, Nat.reduceEqDiff, ↓reduceIte])
      | (refine post3 ?_; simp only [GA, Nat.reduceEqDiff, ↓reduceIte])
      | (refine postc (by simp only [GA, Nat.reduceEqDiff, ↓reduceIte]; rfl) (by simp (disch := omega) only [eZ_rd, eH_rd, c', c24r0, c24r1, c24r2, EV0, EV1, EV2, EV3, EV4, EV5, EV6, EV7, EV8, VALS, plug, ite_same, decide_true, decide_false, eq_self, ↓reduceIte, reduceCtorEq, Nat.reduceAdd, Nat.reduceEqDiff, Nat.reduceLT, Nat.reduceLeDiff, Nat.reduceMul, Nat.reduceSub, Nat.reduceDiv, Int.reduceToNat, Int.reduceAdd, Int.reduceSub, Int.reduceMul, Int.reduceNeg, Int.reduceEq, Int.reduceLT, Int.reduceLE]; rfl) ?_)
      | refine post0 ?_
    exact ends_eq (by rw [c])
  · have c' := eq_false c
    rw [if_neg c] at q
    rw [decide_eq_false c, Bool.false_and]
    repeat' first
      | with_reducible refine k_seq ?_
      | with_reducible refine k_skip ?_
      | with_reducible refine k_blkS ?_
      | with_reducible refine k_blkR ?_
      | with_reducible refine k_blkC ?_
      | with_reducible refine k_blkH ?_
      | with_reducible refine k_blkB ?_
      | with_reducible refine k_blkK ?_
      | with_reducible refine k_blkE ?_
      | with_reducible refine k_reg ?_
      | with_reducible refine r_done ?_
      | with_reducible refine s_go (by simp (disch := omega) only [eZ_rd, eH_rd, c', c24r0, c24r1, c24r2, EV0, EV1, EV2, EV3, EV4, EV5, EV6, EV7, EV8, VALS, plug, ite_same, decide_true, decide_false, eq_self, ↓reduceIte, reduceCtorEq, Nat.reduceAdd, Nat.reduceEqDiff, Nat.reduceLT, Nat.reduceLeDiff, Nat.reduceMul, Nat.reduceSub, Nat.reduceDiv, Int.reduceToNat, Int.reduceAdd, Int.reduceSub, Int.reduceMul, Int.reduceNeg, Int.reduceEq, Int.reduceLT, Int.reduceLE]; with_reducible rfl) ?_
      | ((with_reducible refine chk_r ?_); refine r_callF (by simp only [CA, Nat.reduceEqDiff, ↓reduceIte]; rfl) (by exact rfl) (by simp only [CA, Nat.reduceEqDiff, ↓reduceIte]; rfl) rfl ?_)
      | ((with_reducible refine chk_r ?_); refine r_callP (by simp only [CA, Nat.reduceEqDiff, ↓reduceIte]; rfl) (by simp only [CA, Nat.reduceEqDiff, ↓reduceIte]; rfl) (by first | exact q _) rfl ?_)
      | (with_reducible refine k_condP (by simp only [GA, Nat.reduceEqDiff, ↓reduceIte]; rfl) (by first | (simp only [BO]; rfl) | rfl) (fun ht => ?_) (fun ht => ?_) <;> try (first | exact False.elim ht | exact absurd rfl ht | exact absurd trivial ht | exact Bool.noConfusion ht))
      | (with_reducible refine k_ret ?_; repeat with_reducible (first | refine ret_thru ?_ | refine ret_blk ?_ | refine fin ?_))
      | (with_reducible refine k_exit ?_; repeat with_reducible (first | refine thru ?_ | refine out_blk ?_ | refine pass (by decide) ?_))
      | (refine post1 ?_; simp only [GA, Nat.reduceEqDiff, ↓reduceIte])
      | (refine post2 ?_; simp only [GA, Nat.reduceEqDiff, ↓reduceIte])
      | (refine post3 ?_; simp only [GA, Nat.reduceEqDiff, ↓reduceIte])
      | (refine postc (by simp only [GA, Nat.reduceEqDiff, ↓reduceIte]; rfl) (by simp (disch := omega) only [eZ_rd, eH_rd, c', c24r0, c24r1, c24r2, EV0, EV1, EV2, EV3, EV4, EV5, EV6, EV7, EV8, VALS, plug, ite_same, decide_true, decide_false, eq_self, ↓reduceIte, reduceCtorEq, Nat.reduceAdd, Nat.reduceEqDiff, Nat.reduceLT, Nat.reduceLeDiff, Nat.reduceMul, Nat.reduceSub, Nat.reduceDiv, Int.reduceToNat, Int.reduceAdd, Int.reduceSub, Int.reduceMul, Int.reduceNeg, Int.reduceEq, Int.reduceLT, Int.reduceLE]; rfl) ?_)
      | refine post0 ?_
    all_goals first | exact ends_of | exact ends_eq rfl
theorem fau_len (s : Sz) (x : Hd) : (fau s x).length ≤ 6 := by
  have := flt_len s x 5
  unfold fau
  split
  · rw [List.length_append, List.length_singleton]; omega
  · omega
theorem fauR_len (s : Sz) (x : Hd) : (fauR s x).1.length ≤ 9223372036854775807 := by
  have := fau_len s x
  unfold fauR
  split
  · show (fau s x).length ≤ _; omega
  · simp
/-! ### LastNeeds f7 -/
theorem pc7 (s : Sz) (x : Hd) : PC Try.prog 7 [.ag (eZ s), .ag (eH x)] (.b true) := by
  have q1 := pc22 s x
  have q2 := pc23 s x
  have q3 := pc21 s x
  have q4 := pc24 s x
  have q5 := pc25 s x
  have q6 := pc26 s x
  have q12 := pc12 (fauR s x).1 (fauR_len s x)
  have e : fitR s x = (decide ((fauR s x).2 = 0) && decide (((fauR s x).1.length : Int) = 0), (fauR s x).2) := by
    unfold fitR fauR
    by_cases c : sgl s x = 0
    · rw [if_pos c, c]
    · rw [if_neg c, decide_eq_false c, Bool.false_and, Bool.false_and]
  rw [e] at q3 q4
  generalize (neeR s x).1 = r at *
  generalize (neeR s x).2 = n at *
  generalize (fauR s x).1 = l at *
  generalize (fauR s x).2 = m at *
  refine pc_fn fn7 (by simp only [AV.plains, AV.plain, il_plain, bl_plain, Bool.and_true, Bool.true_and, Bool.and_self]) (by simp only [AV.plains, AV.plain, il_plain, bl_plain, Bool.and_true, Bool.true_and, Bool.and_self]) (Nat.le_of_ble_eq_true rfl) ?_
  rw [initSt2]
  repeat' first
    | with_reducible refine k_seq ?_
    | with_reducible refine k_skip ?_
    | with_reducible refine k_blkS ?_
    | with_reducible refine k_blkR ?_
    | with_reducible refine k_blkC ?_
    | with_reducible refine k_blkH ?_
    | with_reducible refine k_blkB ?_
    | with_reducible refine k_blkK ?_
    | with_reducible refine k_blkE ?_
    | with_reducible refine k_reg ?_
    | with_reducible refine r_done ?_
    | with_reducible refine s_go (by simp (disch := omega) only [eZ_rd, eH_rd, e5_rd, c7r0, c7r1, c7r2, c7r3, c7r4, c7r5, c7r6, c7r7, c7r8, c7r9, EV0, EV1, EV2, EV3, EV4, EV5, EV6, EV7, EV8, VALS, plug, ite_same, decide_true, decide_false, eq_self, ↓reduceIte, reduceCtorEq, Nat.reduceAdd, Nat.reduceEqDiff, Nat.reduceLT, Nat.reduceLeDiff, Nat.reduceMul, Nat.reduceSub, Nat.reduceDiv, Int.reduceToNat, Int.reduceAdd, Int.reduceSub, Int.reduceMul, Int.reduceNeg, Int.reduceEq, Int.reduceLT, Int.reduceLE]; with_reducible rfl) ?_
    | ((with_reducible refine chk_r ?_); refine r_callF (by simp only [CA, Nat.reduceEqDiff, ↓reduceIte]; rfl) (by exact rfl) (by simp only [CA, Nat.reduceEqDiff, ↓reduceIte]; rfl) rfl ?_)
    | ((with_reducible refine chk_r ?_); refine r_callP (by simp only [CA, Nat.reduceEqDiff, ↓reduceIte]; rfl) (by simp only [CA, Nat.reduceEqDiff, ↓reduceIte]; rfl) (by first | exact q1 _ | exact q2 _ | exact q3 _ | exact q4 _ | exact q5 _ | exact q6 _ | exact q12 _ | exact pc17 _) rfl ?_)
    | ((with_reducible refine chk_r ?_); refine r_callG (by simp only [CA, Nat.reduceEqDiff, ↓reduceIte]; rfl) (by simp only [CA, Nat.reduceEqDiff, ↓reduceIte]; rfl) (by simp only [CA, Nat.reduceEqDiff, ↓reduceIte]; rfl) (by intro hg; (try simp only [BO] at hg); first | exact q1 _ | exact q2 _ | exact q3 _ | exact q4 _ | exact q5 _ | exact q6 _ | exact q12 _ | exact pc17 _) rfl ?_)
    | (with_reducible refine k_condP (by simp only [GA, Nat.reduceEqDiff, ↓reduceIte]; rfl) (by first | (simp only [BO]; rfl) | rfl) (fun ht => ?_) (fun ht => ?_) <;> try (first | exact False.elim ht | exact absurd rfl ht | exact absurd trivial ht | exact Bool.noConfusion ht))
    | (with_reducible refine k_ret ?_; repeat with_reducible (first | refine ret_thru ?_ | refine ret_blk ?_ | refine fin ?_))
    | (with_reducible refine k_exit ?_; repeat with_reducible (first | refine thru ?_ | refine out_blk ?_ | refine pass (by decide) ?_))
    | (refine post1 ?_; simp only [GA, Nat.reduceEqDiff, ↓reduceIte])
    | (refine post2 ?_; simp only [GA, Nat.reduceEqDiff, ↓reduceIte])
    | (refine post3 ?_; simp only [GA, Nat.reduceEqDiff, ↓reduceIte])
    | (refine postc (by simp only [GA, Nat.reduceEqDiff, ↓reduceIte]; rfl) (by simp (disch := omega) only [eZ_rd, eH_rd, e5_rd, c7r0, c7r1, c7r2, c7r3, c7r4, c7r5, c7r6, c7r7, c7r8, c7r9, EV0, EV1, EV2, EV3, EV4, EV5, EV6, EV7, EV8, VALS, plug, ite_same, decide_true, decide_false, eq_self, ↓reduceIte, reduceCtorEq, Nat.reduceAdd, Nat.reduceEqDiff, Nat.reduceLT, Nat.reduceLeDiff, Nat.reduceMul, Nat.reduceSub, Nat.reduceDiv, Int.reduceToNat, Int.reduceAdd, Int.reduceSub, Int.reduceMul, Int.reduceNeg, Int.reduceEq, Int.reduceLT, Int.reduceLE]; rfl) ?_)
    | refine post0 ?_
  all_goals first | exact ends_of | exact ends_eq rfl
end Go.Proofs.Ytjaihaccehaicaa
