import Derived.Test.YtappehafkjcabaaSaV
set_option linter.unusedVariables false
set_option linter.unusedSimpArgs false
namespace Go.Proofs.Ytappehafkjcabaa
open Go Go.Am Go.Proofs

/-- a call that yields a new slice, handed on -/
theorem new_ok {T : Nat} {H : AH} {n k : Nat} {cs : List AV} (hm : H.m T = some (.cells true cs)) (hl : cs.length = n * k) : IsNew k n cs (.sl T 0 n k) H :=
  ⟨T, 0, k, rfl, .inr ⟨cs, rfl, hm, by rw [hl, Nat.zero_add]; exact Nat.le_refl _, by rw [List.drop_zero, List.take_of_length_le (Nat.le_of_eq hl)]⟩⟩

section
variable (a b c d e f : Int) (tf of_ n af : Nat) (bad : Nat → Int) (hn : n ≤ 9223372036854775807) (h : AH) (hb : ∀ j, j < n → h.read tf (of_ + j) none = some (.i .i64 (bad j)))
include hn hb
theorem f34 : FCalls Try.prog 34 [.ag [.i .i64 a, .i .i64 b, .i .i64 c, .i .i64 d, .i .i64 e, .i .i64 f], .sl tf of_ n af] h (some ([], [.i .i64 (hres a b c d e f 1 bad n).2.1, .i .i64 (hres a b c d e f 1 bad n).1])) (hres a b c d e f 1 bad n).2.2.length 2 (ol (hres a b c d e f 1 bad n).2.2) := by
  have q := fun h hb => f49 a b c d e f 1 tf of_ n af bad hn h hb
  refine fresh_call rfl (ol_plain _) fun h0 hr _ => ?_
  have hb' : ∀ j, j < n → h0.read tf (of_ + j) none = some (.i .i64 (bad j)) := fun j hj => by unfold AH.read; rw [hr]; exact hb j hj
  clear hb hr
  refine a_fn fn34 (by simp) fun ok pos => ?_
  rw [initSt2]
  have q1 : ∀ j, j < n → tf < h0.nx := fun j hj => ok.read (hb' j hj)
  generalize hres a b c d e f 1 bad n = R at q ⊢
  repeat' first
    | with_reducible refine k_seq ?_
    | with_reducible refine k_skip ?_
    | with_reducible refine k_blkS ?_
    | with_reducible refine k_reg ?_
    | with_reducible refine r_done ?_
    | with_reducible refine s_go (by simp (disch := omega) only [c34r0, c34r1, EV0, EV1, EV2, EV3, EV4, EV5, EV6, EV7, plug, ite_same, decide_true, decide_false, eq_self, ↓reduceIte, reduceCtorEq, Nat.reduceAdd, Nat.reduceEqDiff, Nat.reduceLT, Nat.reduceLeDiff, Nat.reduceMul, Nat.reduceSub, Nat.reduceDiv, Int.reduceToNat, Int.reduceAdd, Int.reduceSub, Int.reduceMul, Int.reduceNeg, Int.reduceEq, Int.reduceLT, Int.reduceLE]; with_reducible rfl) ?_
    | ((with_reducible refine chk_r ?_); refine r_callF (by simp only [CA, Nat.reduceEqDiff, ↓reduceIte]; rfl) (by exact rfl) (by simp only [CA, Nat.reduceEqDiff, ↓reduceIte]; rfl) rfl ?_)
    | ((with_reducible refine chk_r ?_); refine r_callN (by simp only [CA, Nat.reduceEqDiff, ↓reduceIte]; rfl) (by simp only [CA, Nat.reduceEqDiff, ↓reduceIte]; rfl) (by first | (refine q _ ?_; intro j hj; have := q1 j hj; simp (disch := omega) only [hb', c34r0, c34r1, EV0, EV1, EV2, EV3, EV4, EV5, EV6, EV7, plug, ite_same, decide_true, decide_false, eq_self, ↓reduceIte, reduceCtorEq, Nat.reduceAdd, Nat.reduceEqDiff, Nat.reduceLT, Nat.reduceLeDiff, Nat.reduceMul, Nat.reduceSub, Nat.reduceDiv, Int.reduceToNat, Int.reduceAdd, Int.reduceSub, Int.reduceMul, Int.reduceNeg, Int.reduceEq, Int.reduceLT, Int.reduceLE])) rfl ?_)
    | (with_reducible refine k_condP (by simp only [GA, Nat.reduceEqDiff, ↓reduceIte]; rfl) (by first | (simp only [BO]; rfl) | rfl) (fun ht => ?_) (fun ht => ?_) <;> try (first | exact False.elim ht | exact absurd rfl ht | exact absurd trivial ht | exact Bool.noConfusion ht))
    | (with_reducible refine k_ret ?_; repeat with_reducible (first | refine ret_thru ?_ | refine ret_blk ?_ | refine fin ?_))
    | (with_reducible refine k_exit ?_; repeat with_reducible (first | refine thru ?_ | refine out_blk ?_ | refine pass (by decide) ?_))
    | (refine post1 ?_; simp only [GA, Nat.reduceEqDiff, ↓reduceIte])
    | (refine post2 ?_; simp only [GA, Nat.reduceEqDiff, ↓reduceIte])
    | (refine post3 ?_; simp only [GA, Nat.reduceEqDiff, ↓reduceIte])
    | (refine postc (by simp only [GA, Nat.reduceEqDiff, ↓reduceIte]; rfl) (by simp (disch := omega) only [c34r0, c34r1, EV0, EV1, EV2, EV3, EV4, EV5, EV6, EV7, plug, ite_same, decide_true, decide_false, eq_self, ↓reduceIte, reduceCtorEq, Nat.reduceAdd, Nat.reduceEqDiff, Nat.reduceLT, Nat.reduceLeDiff, Nat.reduceMul, Nat.reduceSub, Nat.reduceDiv, Int.reduceToNat, Int.reduceAdd, Int.reduceSub, Int.reduceMul, Int.reduceNeg, Int.reduceEq, Int.reduceLT, Int.reduceLE]; rfl) ?_)
    | refine post0 ?_
  refine ⟨_, rfl, new_ok ?_ (ol_len _)⟩
  simp (disch := omega) only [c34r0, c34r1, EV0, EV1, EV2, EV3, EV4, EV5, EV6, EV7, plug, ite_same, decide_true, decide_false, eq_self, ↓reduceIte, reduceCtorEq, Nat.reduceAdd, Nat.reduceEqDiff, Nat.reduceLT, Nat.reduceLeDiff, Nat.reduceMul, Nat.reduceSub, Nat.reduceDiv, Int.reduceToNat, Int.reduceAdd, Int.reduceSub, Int.reduceMul, Int.reduceNeg, Int.reduceEq, Int.reduceLT, Int.reduceLE]
theorem f35 : FCalls Try.prog 35 [.ag [.i .i64 a, .i .i64 b, .i .i64 c, .i .i64 d, .i .i64 e, .i .i64 f], .sl tf of_ n af] h (some ([], [.i .i64 (hres a b c d e f 1 bad n).2.1, .i .i64 (hres a b c d e f 1 bad n).1])) (hres a b c d e f 1 bad n).2.2.length 2 (ol (hres a b c d e f 1 bad n).2.2) := by
  have q := fun h hb => f50 a b c d e f 1 tf of_ n af bad hn h hb
  refine fresh_call rfl (ol_plain _) fun h0 hr _ => ?_
  have hb' : ∀ j, j < n → h0.read tf (of_ + j) none = some (.i .i64 (bad j)) := fun j hj => by unfold AH.read; rw [hr]; exact hb j hj
  clear hb hr
  refine a_fn fn35 (by simp) fun ok pos => ?_
  rw [initSt2]
  have q1 : ∀ j, j < n → tf < h0.nx := fun j hj => ok.read (hb' j hj)
  generalize hres a b c d e f 1 bad n = R at q ⊢
  repeat' first
    | with_reducible refine k_seq ?_
    | with_reducible refine k_skip ?_
    | with_reducible refine k_blkS ?_
    | with_reducible refine k_reg ?_
    | with_reducible refine r_done ?_
    | with_reducible refine s_go (by simp (disch := omega) only [c35r0, c35r1, EV0, EV1, EV2, EV3, EV4, EV5, EV6, EV7, plug, ite_same, decide_true, decide_false, eq_self, ↓reduceIte, reduceCtorEq, Nat.reduceAdd, Nat.reduceEqDiff, Nat.reduceLT, Nat.reduceLeDiff, Nat.reduceMul, Nat.reduceSub, Nat.reduceDiv, Int.reduceToNat, Int.reduceAdd, Int.reduceSub, Int.reduceMul, Int.reduceNeg, Int.reduceEq, Int.reduceLT, Int.reduceLE]; with_reducible rfl) ?_
    | ((with_reducible refine chk_r ?_); refine r_callF (by simp only [CA, Nat.reduceEqDiff, ↓reduceIte]; rfl) (by exact rfl) (by simp only [CA, Nat.reduceEqDiff, ↓reduceIte]; rfl) rfl ?_)
    | ((with_reducible refine chk_r ?_); refine r_callN (by simp only [CA, Nat.reduceEqDiff, ↓reduceIte]; rfl) (by simp only [CA, Nat.reduceEqDiff, ↓reduceIte]; rfl) (by first | (refine q _ ?_; intro j hj; have := q1 j hj; simp (disch := omega) only [hb', c35r0, c35r1, EV0, EV1, EV2, EV3, EV4, EV5, EV6, EV7, plug, ite_same, decide_true, decide_false, eq_self, ↓reduceIte, reduceCtorEq, Nat.reduceAdd, Nat.reduceEqDiff, Nat.reduceLT, Nat.reduceLeDiff, Nat.reduceMul, Nat.reduceSub, Nat.reduceDiv, Int.reduceToNat, Int.reduceAdd, Int.reduceSub, Int.reduceMul, Int.reduceNeg, Int.reduceEq, Int.reduceLT, Int.reduceLE])) rfl ?_)
    | (with_reducible refine k_condP (by simp only [GA, Nat.reduceEqDiff, ↓reduceIte]; rfl) (by first | (simp only [BO]; rfl) | rfl) (fun ht => ?_) (fun ht => ?_) <;> try (first | exact False.elim ht | exact absurd rfl ht | exact absurd trivial ht | exact Bool.noConfusion ht))
    | (with_reducible refine k_ret ?_; repeat with_reducible (first | refine ret_thru ?_ | refine ret_blk ?_ | refine fin ?_))
    | (with_reducible refine k_exit ?_; repeat with_reducible (first | refine thru ?_ | refine out_blk ?_ | refine pass (by decide) ?_))
    | (refine post1 ?_; simp only [GA, Nat.reduceEqDiff, ↓reduceIte])
    | (refine post2 ?_; simp only [GA, Nat.reduceEqDiff, ↓reduceIte])
    | (refine post3 ?_; simp only [GA, Nat.reduceEqDiff, ↓reduceIte])
    | (refine postc (by simp only [GA, Nat.reduceEqDiff, ↓reduceIte]; rfl) (by simp (disch := omega) only [c35r0, c35r1, EV0, EV1, EV2, EV3, EV4, EV5, EV6, EV7, plug, ite_same, decide_true, decide_false, eq_self, ↓reduceIte, reduceCtorEq, Nat.reduceAdd, Nat.reduceEqDiff, Nat.reduceLT, Nat.reduceLeDiff, Nat.reduceMul, Nat.reduceSub, Nat.reduceDiv, Int.reduceToNat, Int.reduceAdd, Int.reduceSub, Int.reduceMul, Int.reduceNeg, Int.reduceEq, Int.reduceLT, Int.reduceLE]; rfl) ?_)
    | refine post0 ?_
  refine ⟨_, rfl, new_ok ?_ (ol_len _)⟩
  simp (disch := omega) only [c35r0, c35r1, EV0, EV1, EV2, EV3, EV4, EV5, EV6, EV7, plug, ite_same, decide_true, decide_false, eq_self, ↓reduceIte, reduceCtorEq, Nat.reduceAdd, Nat.reduceEqDiff, Nat.reduceLT, Nat.reduceLeDiff, Nat.reduceMul, Nat.reduceSub, Nat.reduceDiv, Int.reduceToNat, Int.reduceAdd, Int.reduceSub, Int.reduceMul, Int.reduceNeg, Int.reduceEq, Int.reduceLT, Int.reduceLE]
theorem f36 : ACalls Try.prog 36 [.ag [.i .i64 a, .i .i64 b, .i .i64 c, .i .i64 d, .i .i64 e, .i .i64 f], .sl tf of_ n af] h fun r h' => r = .tu [.i .i64 (hres a b c d e f 1 bad n).2.1, .i .i64 (hres a b c d e f 1 bad n).1] ∧ h' = h := by
  have q := fun h hb => f34 a b c d e f tf of_ n af bad hn h hb
  refine pure_call (R := fun r => r = .tu [.i .i64 (hres a b c d e f 1 bad n).2.1, .i .i64 (hres a b c d e f 1 bad n).1]) (fun h0 hr _ => ?_) (fun r e => by rw [e]; rfl)
  have hb' : ∀ j, j < n → h0.read tf (of_ + j) none = some (.i .i64 (bad j)) := fun j hj => by unfold AH.read; rw [hr]; exact hb j hj
  clear hb hr
  refine a_fn fn36 (by simp) fun ok pos => ?_
  rw [initSt2]
  have q1 : ∀ j, j < n → tf < h0.nx := fun j hj => ok.read (hb' j hj)
  generalize hres a b c d e f 1 bad n = R at q ⊢
  repeat' first
    | with_reducible refine k_seq ?_
    | with_reducible refine k_skip ?_
    | with_reducible refine k_blkS ?_
    | with_reducible refine k_reg ?_
    | with_reducible refine r_done ?_
    | with_reducible refine s_go (by simp (disch := omega) only [c36r0, c36r1, c36r2, EV0, EV1, EV2, EV3, EV4, EV5, EV6, EV7, plug, ite_same, decide_true, decide_false, eq_self, ↓reduceIte, reduceCtorEq, Nat.reduceAdd, Nat.reduceEqDiff, Nat.reduceLT, Nat.reduceLeDiff, Nat.reduceMul, Nat.reduceSub, Nat.reduceDiv, Int.reduceToNat, Int.reduceAdd, Int.reduceSub, Int.reduceMul, Int.reduceNeg, Int.reduceEq, Int.reduceLT, Int.reduceLE]; with_reducible rfl) ?_
    | ((with_reducible refine chk_r ?_); refine r_callF (by simp only [CA, Nat.reduceEqDiff, ↓reduceIte]; rfl) (by exact rfl) (by simp only [CA, Nat.reduceEqDiff, ↓reduceIte]; rfl) rfl ?_)
    | ((with_reducible refine chk_r ?_); refine r_callN (by simp only [CA, Nat.reduceEqDiff, ↓reduceIte]; rfl) (by simp only [CA, Nat.reduceEqDiff, ↓reduceIte]; rfl) (by first | (refine q _ ?_; intro j hj; have := q1 j hj; simp (disch := omega) only [hb', c36r0, c36r1, c36r2, EV0, EV1, EV2, EV3, EV4, EV5, EV6, EV7, plug, ite_same, decide_true, decide_false, eq_self, ↓reduceIte, reduceCtorEq, Nat.reduceAdd, Nat.reduceEqDiff, Nat.reduceLT, Nat.reduceLeDiff, Nat.reduceMul, Nat.reduceSub, Nat.reduceDiv, Int.reduceToNat, Int.reduceAdd, Int.reduceSub, Int.reduceMul, Int.reduceNeg, Int.reduceEq, Int.reduceLT, Int.reduceLE])) rfl ?_)
    | (with_reducible refine k_condP (by simp only [GA, Nat.reduceEqDiff, ↓reduceIte]; rfl) (by first | (simp only [BO]; rfl) | rfl) (fun ht => ?_) (fun ht => ?_) <;> try (first | exact False.elim ht | exact absurd rfl ht | exact absurd trivial ht | exact Bool.noConfusion ht))
    | (with_reducible refine k_ret ?_; repeat with_reducible (first | refine ret_thru ?_ | refine ret_blk ?_ | refine fin ?_))
    | (with_reducible refine k_exit ?_; repeat with_reducible (first | refine thru ?_ | refine out_blk ?_ | refine pass (by decide) ?_))
    | (refine post1 ?_; simp only [GA, Nat.reduceEqDiff, ↓reduceIte])
    | (refine post2 ?_; simp only [GA, Nat.reduceEqDiff, ↓reduceIte])
    | (refine post3 ?_; simp only [GA, Nat.reduceEqDiff, ↓reduceIte])
    | (refine postc (by simp only [GA, Nat.reduceEqDiff, ↓reduceIte]; rfl) (by simp (disch := omega) only [c36r0, c36r1, c36r2, EV0, EV1, EV2, EV3, EV4, EV5, EV6, EV7, plug, ite_same, decide_true, decide_false, eq_self, ↓reduceIte, reduceCtorEq, Nat.reduceAdd, Nat.reduceEqDiff, Nat.reduceLT, Nat.reduceLeDiff, Nat.reduceMul, Nat.reduceSub, Nat.reduceDiv, Int.reduceToNat, Int.reduceAdd, Int.reduceSub, Int.reduceMul, Int.reduceNeg, Int.reduceEq, Int.reduceLT, Int.reduceLE]; rfl) ?_)
    | refine post0 ?_
theorem f51 : ACalls Try.prog 51 [.ag [.i .i64 a, .i .i64 b, .i .i64 c, .i .i64 d, .i .i64 e, .i .i64 f], .sl tf of_ n af] h fun r h' => r = .tu [.i .i64 (hres a b c d e f 1 bad n).2.1, .i .i64 (hres a b c d e f 1 bad n).1] ∧ h' = h := by
  have q := fun h hb => f35 a b c d e f tf of_ n af bad hn h hb
  refine pure_call (R := fun r => r = .tu [.i .i64 (hres a b c d e f 1 bad n).2.1, .i .i64 (hres a b c d e f 1 bad n).1]) (fun h0 hr _ => ?_) (fun r e => by rw [e]; rfl)
  have hb' : ∀ j, j < n → h0.read tf (of_ + j) none = some (.i .i64 (bad j)) := fun j hj => by unfold AH.read; rw [hr]; exact hb j hj
  clear hb hr
  refine a_fn fn51 (by simp) fun ok pos => ?_
  rw [initSt2]
  have q1 : ∀ j, j < n → tf < h0.nx := fun j hj => ok.read (hb' j hj)
  generalize hres a b c d e f 1 bad n = R at q ⊢
  repeat' first
    | with_reducible refine k_seq ?_
    | with_reducible refine k_skip ?_
    | with_reducible refine k_blkS ?_
    | with_reducible refine k_reg ?_
    | with_reducible refine r_done ?_
    | with_reducible refine s_go (by simp (disch := omega) only [c51r0, c51r1, c51r2, EV0, EV1, EV2, EV3, EV4, EV5, EV6, EV7, plug, ite_same, decide_true, decide_false, eq_self, ↓reduceIte, reduceCtorEq, Nat.reduceAdd, Nat.reduceEqDiff, Nat.reduceLT, Nat.reduceLeDiff, Nat.reduceMul, Nat.reduceSub, Nat.reduceDiv, Int.reduceToNat, Int.reduceAdd, Int.reduceSub, Int.reduceMul, Int.reduceNeg, Int.reduceEq, Int.reduceLT, Int.reduceLE]; with_reducible rfl) ?_
    | ((with_reducible refine chk_r ?_); refine r_callF (by simp only [CA, Nat.reduceEqDiff, ↓reduceIte]; rfl) (by exact rfl) (by simp only [CA, Nat.reduceEqDiff, ↓reduceIte]; rfl) rfl ?_)
    | ((with_reducible refine chk_r ?_); refine r_callN (by simp only [CA, Nat.reduceEqDiff, ↓reduceIte]; rfl) (by simp only [CA, Nat.reduceEqDiff, ↓reduceIte]; rfl) (by first | (refine q _ ?_; intro j hj; have := q1 j hj; simp (disch := omega) only [hb', c51r0, c51r1, c51r2, EV0, EV1, EV2, EV3, EV4, EV5, EV6, EV7, plug, ite_same, decide_true, decide_false, eq_self, ↓reduceIte, reduceCtorEq, Nat.reduceAdd, Nat.reduceEqDiff, Nat.reduceLT, Nat.reduceLeDiff, Nat.reduceMul, Nat.reduceSub, Nat.reduceDiv, Int.reduceToNat, Int.reduceAdd, Int.reduceSub, Int.reduceMul, Int.reduceNeg, Int.reduceEq, Int.reduceLT, Int.reduceLE])) rfl ?_)
    | (with_reducible refine k_condP (by simp only [GA, Nat.reduceEqDiff, ↓reduceIte]; rfl) (by first | (simp only [BO]; rfl) | rfl) (fun ht => ?_) (fun ht => ?_) <;> try (first | exact False.elim ht | exact absurd rfl ht | exact absurd trivial ht | exact Bool.noConfusion ht))
    | (with_reducible refine k_ret ?_; repeat with_reducible (first | refine ret_thru ?_ | refine ret_blk ?_ | refine fin ?_))
    | (with_reducible refine k_exit ?_; repeat with_reducible (first | refine thru ?_ | refine out_blk ?_ | refine pass (by decide) ?_))
    | (refine post1 ?_; simp only [GA, Nat.reduceEqDiff, ↓reduceIte])
    | (refine post2 ?_; simp only [GA, Nat.reduceEqDiff, ↓reduceIte])
    | (refine post3 ?_; simp only [GA, Nat.reduceEqDiff, ↓reduceIte])
    | (refine postc (by simp only [GA, Nat.reduceEqDiff, ↓reduceIte]; rfl) (by simp (disch := omega) only [c51r0, c51r1, c51r2, EV0, EV1, EV2, EV3, EV4, EV5, EV6, EV7, plug, ite_same, decide_true, decide_false, eq_self, ↓reduceIte, reduceCtorEq, Nat.reduceAdd, Nat.reduceEqDiff, Nat.reduceLT, Nat.reduceLeDiff, Nat.reduceMul, Nat.reduceSub, Nat.reduceDiv, Int.reduceToNat, Int.reduceAdd, Int.reduceSub, Int.reduceMul, Int.reduceNeg, Int.reduceEq, Int.reduceLT, Int.reduceLE]; rfl) ?_)
    | refine post0 ?_
end

/-- equal rows of lots -/
theorem f37 (t1 o1 a1 t2 o2 a2 : Nat) (o p : List (Int × Bool)) (ho : o.length ≤ 300) (hp : p.length ≤ 300) (h : AH) (h1 : ∀ j, j < o.length → h.read t1 (o1 + j * 2) (some 2) = some (.ag [.i .i64 (o.getD j (0, false)).1, .b (o.getD j (0, false)).2])) (h2 : ∀ j, j < p.length → h.read t2 (o2 + j * 2) (some 2) = some (.ag [.i .i64 (p.getD j (0, false)).1, .b (p.getD j (0, false)).2])) :
    ACalls Try.prog 37 [.sl t1 o1 o.length a1, .sl t2 o2 p.length a2] h fun r h' => r = .b (decide (o = p)) ∧ h' = h := by
  refine pure_call (R := fun r => r = .b (decide (o = p))) (fun h0 hr _ => ?_) (fun r e => by rw [e]; rfl)
  have h1' : ∀ j, j < o.length → h0.read t1 (o1 + j * 2) (some 2) = some (.ag [.i .i64 (o.getD j (0, false)).1, .b (o.getD j (0, false)).2]) := fun j hj => by unfold AH.read; rw [hr]; exact h1 j hj
  have h2' : ∀ j, j < p.length → h0.read t2 (o2 + j * 2) (some 2) = some (.ag [.i .i64 (p.getD j (0, false)).1, .b (p.getD j (0, false)).2]) := fun j hj => by unfold AH.read; rw [hr]; exact h2 j hj
  clear h1 h2 hr
  refine a_fn fn37 (by simp) fun ok pos => ?_
  rw [initSt2]
  by_cases hlen : (o.length : Int) = p.length
  · have hl : o.length = p.length := by omega
    repeat' first
      | with_reducible refine k_seq ?_
      | with_reducible refine k_skip ?_
      | with_reducible refine k_blkS ?_
      | with_reducible refine k_reg ?_
      | with_reducible refine k_head ?_
      | with_reducible refine r_done ?_
      | with_reducible refine hr_done ?_
      | with_reducible refine s_go (by simp (disch := omega) only [hlen, c37r0, c37r1, c37r2, c37r3, c37r4, c37r5, c37r6, c37r7, c37r8, c37r10, EV0, EV1, EV2, EV3, EV4, EV5, EV6, EV7, plug, ite_same, decide_true, decide_false, eq_self, ↓reduceIte, reduceCtorEq, Nat.reduceAdd, Nat.reduceEqDiff, Nat.reduceLT, Nat.reduceLeDiff, Nat.reduceMul, Nat.reduceSub, Nat.reduceDiv, Int.reduceToNat, Int.reduceAdd, Int.reduceSub, Int.reduceMul, Int.reduceNeg, Int.reduceEq, Int.reduceLT, Int.reduceLE]; with_reducible rfl) ?_
      | with_reducible refine h_go (by with_unfolding_all rfl) (by simp (disch := omega) only [hlen, c37r0, c37r1, c37r2, c37r3, c37r4, c37r5, c37r6, c37r7, c37r8, c37r10, EV0, EV1, EV2, EV3, EV4, EV5, EV6, EV7, plug, ite_same, decide_true, decide_false, eq_self, ↓reduceIte, reduceCtorEq, Nat.reduceAdd, Nat.reduceEqDiff, Nat.reduceLT, Nat.reduceLeDiff, Nat.reduceMul, Nat.reduceSub, Nat.reduceDiv, Int.reduceToNat, Int.reduceAdd, Int.reduceSub, Int.reduceMul, Int.reduceNeg, Int.reduceEq, Int.reduceLT, Int.reduceLE]; with_reducible rfl) ?_
      | ((with_reducible refine chk_r ?_); refine r_callF (by simp only [CA, Nat.reduceEqDiff, ↓reduceIte]; rfl) (by exact rfl) (by simp only [CA, Nat.reduceEqDiff, ↓reduceIte]; rfl) rfl ?_)
      | ((with_reducible refine chk_h ?_); refine hr_callF (by simp only [CA, Nat.reduceEqDiff, ↓reduceIte]; rfl) (by exact rfl) (by simp only [CA, Nat.reduceEqDiff, ↓reduceIte]; rfl) rfl ?_)
      | (with_reducible refine k_condP (by simp only [GA, Nat.reduceEqDiff, ↓reduceIte]; rfl) (by first | (simp only [BO]; rfl) | rfl) (fun ht => ?_) (fun ht => ?_) <;> try (first | exact False.elim ht | exact absurd rfl ht | exact absurd trivial ht | exact Bool.noConfusion ht))
      | (with_reducible refine k_ret ?_; repeat with_reducible (first | refine ret_thru ?_ | refine ret_blk ?_ | refine fin ?_))
      | (with_reducible refine k_exit ?_; repeat with_reducible (first | refine thru ?_ | refine out_blk ?_ | refine pass (by decide) ?_))
      | (refine post1 ?_; simp only [GA, Nat.reduceEqDiff, ↓reduceIte])
      | (refine post2 ?_; simp only [GA, Nat.reduceEqDiff, ↓reduceIte])
      | (refine post3 ?_; simp only [GA, Nat.reduceEqDiff, ↓reduceIte])
      | (refine postc (by simp only [GA, Nat.reduceEqDiff, ↓reduceIte]; rfl) (by simp (disch := omega) only [hlen, c37r0, c37r1, c37r2, c37r3, c37r4, c37r5, c37r6, c37r7, c37r8, c37r10, EV0, EV1, EV2, EV3, EV4, EV5, EV6, EV7, plug, ite_same, decide_true, decide_false, eq_self, ↓reduceIte, reduceCtorEq, Nat.reduceAdd, Nat.reduceEqDiff, Nat.reduceLT, Nat.reduceLeDiff, Nat.reduceMul, Nat.reduceSub, Nat.reduceDiv, Int.reduceToNat, Int.reduceAdd, Int.reduceSub, Int.reduceMul, Int.reduceNeg, Int.reduceEq, Int.reduceLT, Int.reduceLE]; rfl) ?_)
      | refine post0 ?_
    refine k_blk (k_loop (fun m st h => ∃ i k : Nat, Am.keep [13, 12, 0, 1] st = [(13, .i .i64 i), (12, .i .i64 o.length), (0, .sl t1 o1 o.length a1), (1, .sl t2 o2 p.length a2)] ∧ m = o.length - i ∧ i ≤ o.length ∧ o.take i = p.take i ∧ h = h0.bump k) o.length ?_ ?_)
    · exact ⟨0, _, by simp only [Am.keep, List.map_cons, List.map_nil, AX.val, St.get, Nat.reduceEqDiff, ↓reduceIte, hlen]; rfl, by omega, by omega, rfl, by simp only [bump_bump]; rfl⟩
    · rintro m st h ⟨i, k, hk', rfl, hi, hte, rfl⟩
      refine k_inv hk' (w_ok fun ok pos => ?_)
      by_cases hc : (i : Int) < o.length
      · have e1 := h1' i (by omega)
        have e2 := h2' i (by omega)
        have to : o.take (i + 1) = o.take i ++ [o.getD i (0, false)] := by
          rw [List.take_add_one, List.getD_eq_getElem?_getD, List.getElem?_eq_getElem (show i < o.length by omega)]; rfl
        have tp : p.take (i + 1) = p.take i ++ [p.getD i (0, false)] := by
          rw [List.take_add_one, List.getD_eq_getElem?_getD, List.getElem?_eq_getElem (show i < p.length by omega)]; rfl
        generalize hx : o.getD i (0, false) = x at e1 to
        generalize hy : p.getD i (0, false) = y at e2 tp
        repeat' first
          | with_reducible refine k_seq ?_
          | with_reducible refine k_skip ?_
          | with_reducible refine k_blkS ?_
          | with_reducible refine k_reg ?_
          | with_reducible refine k_head ?_
          | with_reducible refine r_done ?_
          | with_reducible refine hr_done ?_
          | with_reducible refine s_go (by simp (disch := omega) only [hc, e1, e2, c37r0, c37r1, c37r2, c37r3, c37r4, c37r5, c37r6, c37r7, c37r8, c37r10, EV0, EV1, EV2, EV3, EV4, EV5, EV6, EV7, plug, ite_same, decide_true, decide_false, eq_self, ↓reduceIte, reduceCtorEq, Nat.reduceAdd, Nat.reduceEqDiff, Nat.reduceLT, Nat.reduceLeDiff, Nat.reduceMul, Nat.reduceSub, Nat.reduceDiv, Int.reduceToNat, Int.reduceAdd, Int.reduceSub, Int.reduceMul, Int.reduceNeg, Int.reduceEq, Int.reduceLT, Int.reduceLE]; with_reducible rfl) ?_
          | with_reducible refine h_go (by with_unfolding_all rfl) (by simp (disch := omega) only [hc, e1, e2, c37r0, c37r1, c37r2, c37r3, c37r4, c37r5, c37r6, c37r7, c37r8, c37r10, EV0, EV1, EV2, EV3, EV4, EV5, EV6, EV7, plug, ite_same, decide_true, decide_false, eq_self, ↓reduceIte, reduceCtorEq, Nat.reduceAdd, Nat.reduceEqDiff, Nat.reduceLT, Nat.reduceLeDiff, Nat.reduceMul, Nat.reduceSub, Nat.reduceDiv, Int.reduceToNat, Int.reduceAdd, Int.reduceSub, Int.reduceMul, Int.reduceNeg, Int.reduceEq, Int.reduceLT, Int.reduceLE]; with_reducible rfl) ?_
          | ((with_reducible refine chk_r ?_); refine r_callF (by simp only [CA, Nat.reduceEqDiff, ↓reduceIte]; rfl) (by exact rfl) (by simp only [CA, Nat.reduceEqDiff, ↓reduceIte]; rfl) rfl ?_)
          | ((with_reducible refine chk_h ?_); refine hr_callF (by simp only [CA, Nat.reduceEqDiff, ↓reduceIte]; rfl) (by exact rfl) (by simp only [CA, Nat.reduceEqDiff, ↓reduceIte]; rfl) rfl ?_)
          | (with_reducible refine k_condP (by simp only [GA, Nat.reduceEqDiff, ↓reduceIte]; rfl) (by first | (simp only [BO]; rfl) | rfl) (fun ht => ?_) (fun ht => ?_) <;> try (first | exact False.elim ht | exact absurd rfl ht | exact absurd trivial ht | exact Bool.noConfusion ht))
          | (with_reducible refine k_ret ?_; repeat with_reducible (first | refine ret_thru ?_ | refine ret_blk ?_ | refine fin ?_))
          | (with_reducible refine k_exit ?_; repeat with_reducible (first | refine thru ?_ | refine out_blk ?_ | refine pass (by decide) ?_))
          | (refine post1 ?_; simp only [GA, Nat.reduceEqDiff, ↓reduceIte])
          | (refine post2 ?_; simp only [GA, Nat.reduceEqDiff, ↓reduceIte])
          | (refine post3 ?_; simp only [GA, Nat.reduceEqDiff, ↓reduceIte])
          | (refine postc (by simp only [GA, Nat.reduceEqDiff, ↓reduceIte]; rfl) (by simp (disch := omega) only [hc, e1, e2, c37r0, c37r1, c37r2, c37r3, c37r4, c37r5, c37r6, c37r7, c37r8, c37r10, EV0, EV1, EV2, EV3, EV4, EV5, EV6, EV7, plug, ite_same, decide_true, decide_false, eq_self, ↓reduceIte, reduceCtorEq, Nat.reduceAdd, Nat.reduceEqDiff, Nat.reduceLT, Nat.reduceLeDiff, Nat.reduceMul, Nat.reduceSub, Nat.reduceDiv, Int.reduceToNat, Int.reduceAdd, Int.reduceSub, Int.reduceMul, Int.reduceNeg, Int.reduceEq, Int.reduceLT, Int.reduceLE]; rfl) ?_)
          | refine post0 ?_
        · rw [decide_eq_false]
          rintro rfl
          rw [hx] at hy
          subst hy
          simp at ht
        · refine ⟨_, ?_, i + 1, _, rfl, rfl, by omega, ?_, by simp only [bump_bump]; rfl⟩
          · omega
          · have : x = y := by
              obtain ⟨x1, x2⟩ := x
              obtain ⟨y1, y2⟩ := y
              simpa using ht
            rw [to, tp, hte, this]
      · repeat' first
          | with_reducible refine k_seq ?_
          | with_reducible refine k_skip ?_
          | with_reducible refine k_blkS ?_
          | with_reducible refine k_reg ?_
          | with_reducible refine k_head ?_
          | with_reducible refine r_done ?_
          | with_reducible refine hr_done ?_
          | with_reducible refine s_go (by simp (disch := omega) only [hc, c37r0, c37r1, c37r2, c37r3, c37r4, c37r5, c37r6, c37r7, c37r8, c37r10, EV0, EV1, EV2, EV3, EV4, EV5, EV6, EV7, plug, ite_same, decide_true, decide_false, eq_self, ↓reduceIte, reduceCtorEq, Nat.reduceAdd, Nat.reduceEqDiff, Nat.reduceLT, Nat.reduceLeDiff, Nat.reduceMul, Nat.reduceSub, Nat.reduceDiv, Int.reduceToNat, Int.reduceAdd, Int.reduceSub, Int.reduceMul, Int.reduceNeg, Int.reduceEq, Int.reduceLT, Int.reduceLE]; with_reducible rfl) ?_
          | with_reducible refine h_go (by with_unfolding_all rfl) (by simp (disch := omega) only [hc, c37r0, c37r1, c37r2, c37r3, c37r4, c37r5, c37r6, c37r7, c37r8, c37r10, EV0, EV1, EV2, EV3, EV4, EV5, EV6, EV7, plug, ite_same, decide_true, decide_false, eq_self, ↓reduceIte, reduceCtorEq, Nat.reduceAdd, Nat.reduceEqDiff, Nat.reduceLT, Nat.reduceLeDiff, Nat.reduceMul, Nat.reduceSub, Nat.reduceDiv, Int.reduceToNat, Int.reduceAdd, Int.reduceSub, Int.reduceMul, Int.reduceNeg, Int.reduceEq, Int.reduceLT, Int.reduceLE]; with_reducible rfl) ?_
          | ((with_reducible refine chk_r ?_); refine r_callF (by simp only [CA, Nat.reduceEqDiff, ↓reduceIte]; rfl) (by exact rfl) (by simp only [CA, Nat.reduceEqDiff, ↓reduceIte]; rfl) rfl ?_)
          | ((with_reducible refine chk_h ?_); refine hr_callF (by simp only [CA, Nat.reduceEqDiff, ↓reduceIte]; rfl) (by exact rfl) (by simp only [CA, Nat.reduceEqDiff, ↓reduceIte]; rfl) rfl ?_)
          | (with_reducible refine k_condP (by simp only [GA, Nat.reduceEqDiff, ↓reduceIte]; rfl) (by first | (simp only [BO]; rfl) | rfl) (fun ht => ?_) (fun ht => ?_) <;> try (first | exact False.elim ht | exact absurd rfl ht | exact absurd trivial ht | exact Bool.noConfusion ht))
          | (with_reducible refine k_ret ?_; repeat with_reducible (first | refine ret_thru ?_ | refine ret_blk ?_ | refine fin ?_))
          | (with_reducible refine k_exit ?_; repeat with_reducible (first | refine thru ?_ | refine out_blk ?_ | refine pass (by decide) ?_))
          | (refine post1 ?_; simp only [GA, Nat.reduceEqDiff, ↓reduceIte])
          | (refine post2 ?_; simp only [GA, Nat.reduceEqDiff, ↓reduceIte])
          | (refine post3 ?_; simp only [GA, Nat.reduceEqDiff, ↓reduceIte])
          | (refine postc (by simp only [GA, Nat.reduceEqDiff, ↓reduceIte]; rfl) (by simp (disch := omega) only [hc, c37r0, c37r1, c37r2, c37r3, c37r4, c37r5, c37r6, c37r7, c37r8, c37r10, EV0, EV1, EV2, EV3, EV4, EV5, EV6, EV7, plug, ite_same, decide_true, decide_false, eq_self, ↓reduceIte, reduceCtorEq, Nat.reduceAdd, Nat.reduceEqDiff, Nat.reduceLT, Nat.reduceLeDiff, Nat.reduceMul, Nat.reduceSub, Nat.reduceDiv, Int.reduceToNat, Int.reduceAdd, Int.reduceSub, Int.reduceMul, Int.reduceNeg, Int.reduceEq, Int.reduceLT, Int.reduceLE]; rfl) ?_)
          | refine post0 ?_
        have e1 : o.take i = o := List.take_of_length_le (by omega)
        have e2 : p.take i = p := List.take_of_length_le (by omega)
        rw [e1, e2] at hte
        rw [decide_eq_true hte]
  · repeat' first
      | with_reducible refine k_seq ?_
      | with_reducible refine k_skip ?_
      | with_reducible refine k_blkS ?_
      | with_reducible refine k_reg ?_
      | with_reducible refine k_head ?_
      | with_reducible refine r_done ?_
      | with_reducible refine hr_done ?_
      | with_reducible refine s_go (by simp (disch := omega) only [hlen, c37r0, c37r1, c37r2, c37r3, c37r4, c37r5, c37r6, c37r7, c37r8, c37r10, EV0, EV1, EV2, EV3, EV4, EV5, EV6, EV7, plug, ite_same, decide_true, decide_false, eq_self, ↓reduceIte, reduceCtorEq, Nat.reduceAdd, Nat.reduceEqDiff, Nat.reduceLT, Nat.reduceLeDiff, Nat.reduceMul, Nat.reduceSub, Nat.reduceDiv, Int.reduceToNat, Int.reduceAdd, Int.reduceSub, Int.reduceMul, Int.reduceNeg, Int.reduceEq, Int.reduceLT, Int.reduceLE]; with_reducible rfl) ?_
      | with_reducible refine h_go (by with_unfolding_all rfl) (by simp (disch := omega) only [hlen, c37r0, c37r1, c37r2, c37r3, c37r4, c37r5, c37r6, c37r7, c37r8, c37r10, EV0, EV1, EV2, EV3, EV4, EV5, EV6, EV7, plug, ite_same, decide_true, decide_false, eq_self, ↓reduceIte, reduceCtorEq, Nat.reduceAdd, Nat.reduceEqDiff, Nat.reduceLT, Nat.reduceLeDiff, Nat.reduceMul, Nat.reduceSub, Nat.reduceDiv, Int.reduceToNat, Int.reduceAdd, Int.reduceSub, Int.reduceMul, Int.reduceNeg, Int.reduceEq, Int.reduceLT, Int.reduceLE]; with_reducible rfl) ?_
      | ((with_reducible refine chk_r ?_); refine r_callF (by simp only [CA, Nat.reduceEqDiff, ↓reduceIte]; rfl) (by exact rfl) (by simp only [CA, Nat.reduceEqDiff, ↓reduceIte]; rfl) rfl ?_)
      | ((with_reducible refine chk_h ?_); refine hr_callF (by simp only [CA, Nat.reduceEqDiff, ↓reduceIte]; rfl) (by exact rfl) (by simp only [CA, Nat.reduceEqDiff, ↓reduceIte]; rfl) rfl ?_)
      | (with_reducible refine k_condP (by simp only [GA, Nat.reduceEqDiff, ↓reduceIte]; rfl) (by first | (simp only [BO]; rfl) | rfl) (fun ht => ?_) (fun ht => ?_) <;> try (first | exact False.elim ht | exact absurd rfl ht | exact absurd trivial ht | exact Bool.noConfusion ht))
      | (with_reducible refine k_ret ?_; repeat with_reducible (first | refine ret_thru ?_ | refine ret_blk ?_ | refine fin ?_))
      | (with_reducible refine k_exit ?_; repeat with_reducible (first | refine thru ?_ | refine out_blk ?_ | refine pass (by decide) ?_))
      | (refine post1 ?_; simp only [GA, Nat.reduceEqDiff, ↓reduceIte])
      | (refine post2 ?_; simp only [GA, Nat.reduceEqDiff, ↓reduceIte])
      | (refine post3 ?_; simp only [GA, Nat.reduceEqDiff, ↓reduceIte])
      | (refine postc (by simp only [GA, Nat.reduceEqDiff, ↓reduceIte]; rfl) (by simp (disch := omega) only [hlen, c37r0, c37r1, c37r2, c37r3, c37r4, c37r5, c37r6, c37r7, c37r8, c37r10, EV0, EV1, EV2, EV3, EV4, EV5, EV6, EV7, plug, ite_same, decide_true, decide_false, eq_self, ↓reduceIte, reduceCtorEq, Nat.reduceAdd, Nat.reduceEqDiff, Nat.reduceLT, Nat.reduceLeDiff, Nat.reduceMul, Nat.reduceSub, Nat.reduceDiv, Int.reduceToNat, Int.reduceAdd, Int.reduceSub, Int.reduceMul, Int.reduceNeg, Int.reduceEq, Int.reduceLT, Int.reduceLE]; rfl) ?_)
      | refine post0 ?_
    rw [decide_eq_false (fun q => hlen (by rw [q]))]

def rres (a b c d e f : Int) (bad : Nat → Int) (n : Nat) (bad2 : Nat → Int) (n2 : Nat) : Int × Int × List (Int × Bool) :=
  if (hres a b c d e f 1 bad n).1 ≠ 0 then ((hres a b c d e f 1 bad n).1, 0, []) else if (hres a b c d e f 1 bad n).2.1 ≠ 4 then (2, 0, []) else hres a b c d e f 2 bad2 n2

section
variable (a b c d e f : Int) (tf of_ n af : Nat) (bad : Nat → Int) (hn : n ≤ 9223372036854775807) (h : AH) (hb : ∀ j, j < n → h.read tf (of_ + j) none = some (.i .i64 (bad j)))
  (tg og n2 ag : Nat) (bad2 : Nat → Int) (hn2 : n2 ≤ 9223372036854775807) (hb2 : ∀ j, j < n2 → h.read tg (og + j) none = some (.i .i64 (bad2 j)))
include hn hb hn2 hb2
theorem f39 : FCalls Try.prog 39 [.ag [.i .i64 a, .i .i64 b, .i .i64 c, .i .i64 d, .i .i64 e, .i .i64 f], .sl tf of_ n af, .sl tg og n2 ag] h (some ([], [.i .i64 (rres a b c d e f bad n bad2 n2).2.1, .i .i64 (rres a b c d e f bad n bad2 n2).1])) (rres a b c d e f bad n bad2 n2).2.2.length 2 (ol (rres a b c d e f bad n bad2 n2).2.2) := by
  have q := fun h hb => f36 a b c d e f tf of_ n af bad hn h hb
  have q2 := fun h hb => f49 a b c d e f 2 tg og n2 ag bad2 hn2 h hb
  refine fresh_call rfl (ol_plain _) fun h0 hr _ => ?_
  have hb' : ∀ j, j < n → h0.read tf (of_ + j) none = some (.i .i64 (bad j)) := fun j hj => by unfold AH.read; rw [hr]; exact hb j hj
  have hb2' : ∀ j, j < n2 → h0.read tg (og + j) none = some (.i .i64 (bad2 j)) := fun j hj => by unfold AH.read; rw [hr]; exact hb2 j hj
  clear hb hr hb2
  refine a_fn fn39 (by simp) fun ok pos => ?_
  rw [initSt3]
  have q1 : ∀ j, j < n → tf < h0.nx := fun j hj => ok.read (hb' j hj)
  have q12 : ∀ j, j < n2 → tg < h0.nx := fun j hj => ok.read (hb2' j hj)
  by_cases c1 : (hres a b c d e f 1 bad n).1 = 0
  · by_cases c2 : (hres a b c d e f 1 bad n).2.1 = 4
    · have er : rres a b c d e f bad n bad2 n2 = hres a b c d e f 2 bad2 n2 := by unfold rres; rw [if_neg (by simp [c1]), if_neg (by simp [c2])]
      rw [er]
      rw [c1, c2] at q
      generalize hres a b c d e f 2 bad2 n2 = R at q2 ⊢
      repeat' first
        | with_reducible refine k_seq ?_
        | with_reducible refine k_skip ?_
        | with_reducible refine k_blkS ?_
        | with_reducible refine k_reg ?_
        | with_reducible refine r_done ?_
        | with_reducible refine s_go (by simp (disch := omega) only [c39r0, c39r1, c39r2, c39r3, c39r4, c39r5, c39r6, EV0, EV1, EV2, EV3, EV4, EV5, EV6, EV7, plug, ite_same, decide_true, decide_false, eq_self, ↓reduceIte, reduceCtorEq, Nat.reduceAdd, Nat.reduceEqDiff, Nat.reduceLT, Nat.reduceLeDiff, Nat.reduceMul, Nat.reduceSub, Nat.reduceDiv, Int.reduceToNat, Int.reduceAdd, Int.reduceSub, Int.reduceMul, Int.reduceNeg, Int.reduceEq, Int.reduceLT, Int.reduceLE]; with_reducible rfl) ?_
        | ((with_reducible refine chk_r ?_); refine r_callF (by simp only [CA, Nat.reduceEqDiff, ↓reduceIte]; rfl) (by exact rfl) (by simp only [CA, Nat.reduceEqDiff, ↓reduceIte]; rfl) rfl ?_)
        | ((with_reducible refine chk_r ?_); refine r_callP (by simp only [CA, Nat.reduceEqDiff, ↓reduceIte]; rfl) (by simp only [CA, Nat.reduceEqDiff, ↓reduceIte]; rfl) (by first | (refine q _ ?_; intro j hj; have := q1 j hj; simp (disch := omega) only [hb', c39r0, c39r1, c39r2, c39r3, c39r4, c39r5, c39r6, EV0, EV1, EV2, EV3, EV4, EV5, EV6, EV7, plug, ite_same, decide_true, decide_false, eq_self, ↓reduceIte, reduceCtorEq, Nat.reduceAdd, Nat.reduceEqDiff, Nat.reduceLT, Nat.reduceLeDiff, Nat.reduceMul, Nat.reduceSub, Nat.reduceDiv, Int.reduceToNat, Int.reduceAdd, Int.reduceSub, Int.reduceMul, Int.reduceNeg, Int.reduceEq, Int.reduceLT, Int.reduceLE])) rfl ?_)
        | ((with_reducible refine chk_r ?_); refine r_callN (by simp only [CA, Nat.reduceEqDiff, ↓reduceIte]; rfl) (by simp only [CA, Nat.reduceEqDiff, ↓reduceIte]; rfl) (by first | (refine q2 _ ?_; intro j hj; have := q12 j hj; simp (disch := omega) only [hb2', c39r0, c39r1, c39r2, c39r3, c39r4, c39r5, c39r6, EV0, EV1, EV2, EV3, EV4, EV5, EV6, EV7, plug, ite_same, decide_true, decide_false, eq_self, ↓reduceIte, reduceCtorEq, Nat.reduceAdd, Nat.reduceEqDiff, Nat.reduceLT, Nat.reduceLeDiff, Nat.reduceMul, Nat.reduceSub, Nat.reduceDiv, Int.reduceToNat, Int.reduceAdd, Int.reduceSub, Int.reduceMul, Int.reduceNeg, Int.reduceEq, Int.reduceLT, Int.reduceLE])) rfl ?_)
        | (with_reducible refine k_condP (by simp only [GA, Nat.reduceEqDiff, ↓reduceIte]; rfl) (by first | (simp only [BO]; rfl) | rfl) (fun ht => ?_) (fun ht => ?_) <;> try (first | exact False.elim ht | exact absurd rfl ht | exact absurd trivial ht | exact Bool.noConfusion ht))
        | (with_reducible refine k_ret ?_; repeat with_reducible (first | refine ret_thru ?_ | refine ret_blk ?_ | refine fin ?_))
        | (with_reducible refine k_exit ?_; repeat with_reducible (first | refine thru ?_ | refine out_blk ?_ | refine pass (by decide) ?_))
        | (refine post1 ?_; simp only [GA, Nat.reduceEqDiff, ↓reduceIte])
        | (refine post2 ?_; simp only [GA, Nat.reduceEqDiff, ↓reduceIte])
        | (refine post3 ?_; simp only [GA, Nat.reduceEqDiff, ↓reduceIte])
        | (refine postc (by simp only [GA, Nat.reduceEqDiff, ↓reduceIte]; rfl) (by simp (disch := omega) only [c39r0, c39r1, c39r2, c39r3, c39r4, c39r5, c39r6, EV0, EV1, EV2, EV3, EV4, EV5, EV6, EV7, plug, ite_same, decide_true, decide_false, eq_self, ↓reduceIte, reduceCtorEq, Nat.reduceAdd, Nat.reduceEqDiff, Nat.reduceLT, Nat.reduceLeDiff, Nat.reduceMul, Nat.reduceSub, Nat.reduceDiv, Int.reduceToNat, Int.reduceAdd, Int.reduceSub, Int.reduceMul, Int.reduceNeg, Int.reduceEq, Int.reduceLT, Int.reduceLE]; rfl) ?_)
        | refine post0 ?_
      refine ⟨_, rfl, new_ok ?_ (ol_len _)⟩
      simp (disch := omega) only [c39r0, c39r1, c39r2, c39r3, c39r4, c39r5, c39r6, EV0, EV1, EV2, EV3, EV4, EV5, EV6, EV7, plug, ite_same, decide_true, decide_false, eq_self, ↓reduceIte, reduceCtorEq, Nat.reduceAdd, Nat.reduceEqDiff, Nat.reduceLT, Nat.reduceLeDiff, Nat.reduceMul, Nat.reduceSub, Nat.reduceDiv, Int.reduceToNat, Int.reduceAdd, Int.reduceSub, Int.reduceMul, Int.reduceNeg, Int.reduceEq, Int.reduceLT, Int.reduceLE]
    · have er : rres a b c d e f bad n bad2 n2 = (2, 0, []) := by unfold rres; rw [if_neg (by simp [c1]), if_pos c2]
      rw [er]
      rw [c1] at q
      repeat' first
        | with_reducible refine k_seq ?_
        | with_reducible refine k_skip ?_
        | with_reducible refine k_blkS ?_
        | with_reducible refine k_reg ?_
        | with_reducible refine r_done ?_
        | with_reducible refine s_go (by simp (disch := omega) only [c2, c39r0, c39r1, c39r2, c39r3, c39r4, c39r5, c39r6, EV0, EV1, EV2, EV3, EV4, EV5, EV6, EV7, plug, ite_same, decide_true, decide_false, eq_self, ↓reduceIte, reduceCtorEq, Nat.reduceAdd, Nat.reduceEqDiff, Nat.reduceLT, Nat.reduceLeDiff, Nat.reduceMul, Nat.reduceSub, Nat.reduceDiv, Int.reduceToNat, Int.reduceAdd, Int.reduceSub, Int.reduceMul, Int.reduceNeg, Int.reduceEq, Int.reduceLT, Int.reduceLE]; with_reducible rfl) ?_
        | ((with_reducible refine chk_r ?_); refine r_callF (by simp only [CA, Nat.reduceEqDiff, ↓reduceIte]; rfl) (by exact rfl) (by simp only [CA, Nat.reduceEqDiff, ↓reduceIte]; rfl) rfl ?_)
        | ((with_reducible refine chk_r ?_); refine r_callP (by simp only [CA, Nat.reduceEqDiff, ↓reduceIte]; rfl) (by simp only [CA, Nat.reduceEqDiff, ↓reduceIte]; rfl) (by first | (refine q _ ?_; intro j hj; have := q1 j hj; simp (disch := omega) only [hb', c39r0, c39r1, c39r2, c39r3, c39r4, c39r5, c39r6, EV0, EV1, EV2, EV3, EV4, EV5, EV6, EV7, plug, ite_same, decide_true, decide_false, eq_self, ↓reduceIte, reduceCtorEq, Nat.reduceAdd, Nat.reduceEqDiff, Nat.reduceLT, Nat.reduceLeDiff, Nat.reduceMul, Nat.reduceSub, Nat.reduceDiv, Int.reduceToNat, Int.reduceAdd, Int.reduceSub, Int.reduceMul, Int.reduceNeg, Int.reduceEq, Int.reduceLT, Int.reduceLE])) rfl ?_)
        | (with_reducible refine k_condP (by simp only [GA, Nat.reduceEqDiff, ↓reduceIte]; rfl) (by first | (simp only [BO]; rfl) | rfl) (fun ht => ?_) (fun ht => ?_) <;> try (first | exact False.elim ht | exact absurd rfl ht | exact absurd trivial ht | exact Bool.noConfusion ht))
        | (with_reducible refine k_ret ?_; repeat with_reducible (first | refine ret_thru ?_ | refine ret_blk ?_ | refine fin ?_))
        | (with_reducible refine k_exit ?_; repeat with_reducible (first | refine thru ?_ | refine out_blk ?_ | refine pass (by decide) ?_))
        | (refine post1 ?_; simp only [GA, Nat.reduceEqDiff, ↓reduceIte])
        | (refine post2 ?_; simp only [GA, Nat.reduceEqDiff, ↓reduceIte])
        | (refine post3 ?_; simp only [GA, Nat.reduceEqDiff, ↓reduceIte])
        | (refine postc (by simp only [GA, Nat.reduceEqDiff, ↓reduceIte]; rfl) (by simp (disch := omega) only [c2, c39r0, c39r1, c39r2, c39r3, c39r4, c39r5, c39r6, EV0, EV1, EV2, EV3, EV4, EV5, EV6, EV7, plug, ite_same, decide_true, decide_false, eq_self, ↓reduceIte, reduceCtorEq, Nat.reduceAdd, Nat.reduceEqDiff, Nat.reduceLT, Nat.reduceLeDiff, Nat.reduceMul, Nat.reduceSub, Nat.reduceDiv, Int.reduceToNat, Int.reduceAdd, Int.reduceSub, Int.reduceMul, Int.reduceNeg, Int.reduceEq, Int.reduceLT, Int.reduceLE]; rfl) ?_)
        | refine post0 ?_
      exact ⟨.sl 0 0 0 0, rfl, 0, 0, 0, rfl, .inl ⟨rfl, rfl, rfl⟩⟩
  · have er : rres a b c d e f bad n bad2 n2 = ((hres a b c d e f 1 bad n).1, 0, []) := by unfold rres; rw [if_pos c1]
    rw [er]
    repeat' first
      | with_reducible refine k_seq ?_
      | with_reducible refine k_skip ?_
      | with_reducible refine k_blkS ?_
      | with_reducible refine k_reg ?_
      | with_reducible refine r_done ?_
      | with_reducible refine s_go (by simp (disch := omega) only [c1, c39r0, c39r1, c39r2, c39r3, c39r4, c39r5, c39r6, EV0, EV1, EV2, EV3, EV4, EV5, EV6, EV7, plug, ite_same, decide_true, decide_false, eq_self, ↓reduceIte, reduceCtorEq, Nat.reduceAdd, Nat.reduceEqDiff, Nat.reduceLT, Nat.reduceLeDiff, Nat.reduceMul, Nat.reduceSub, Nat.reduceDiv, Int.reduceToNat, Int.reduceAdd, Int.reduceSub, Int.reduceMul, Int.reduceNeg, Int.reduceEq, Int.reduceLT, Int.reduceLE]; with_reducible rfl) ?_
      | ((with_reducible refine chk_r ?_); refine r_callF (by simp only [CA, Nat.reduceEqDiff, ↓reduceIte]; rfl) (by exact rfl) (by simp only [CA, Nat.reduceEqDiff, ↓reduceIte]; rfl) rfl ?_)
      | ((with_reducible refine chk_r ?_); refine r_callP (by simp only [CA, Nat.reduceEqDiff, ↓reduceIte]; rfl) (by simp only [CA, Nat.reduceEqDiff, ↓reduceIte]; rfl) (by first | (refine q _ ?_; intro j hj; have := q1 j hj; simp (disch := omega) only [hb', c39r0, c39r1, c39r2, c39r3, c39r4, c39r5, c39r6, EV0, EV1, EV2, EV3, EV4, EV5, EV6, EV7, plug, ite_same, decide_true, decide_false, eq_self, ↓reduceIte, reduceCtorEq, Nat.reduceAdd, Nat.reduceEqDiff, Nat.reduceLT, Nat.reduceLeDiff, Nat.reduceMul, Nat.reduceSub, Nat.reduceDiv, Int.reduceToNat, Int.reduceAdd, Int.reduceSub, Int.reduceMul, Int.reduceNeg, Int.reduceEq, Int.reduceLT, Int.reduceLE])) rfl ?_)
      | (with_reducible refine k_condP (by simp only [GA, Nat.reduceEqDiff, ↓reduceIte]; rfl) (by first | (simp only [BO]; rfl) | rfl) (fun ht => ?_) (fun ht => ?_) <;> try (first | exact False.elim ht | exact absurd rfl ht | exact absurd trivial ht | exact Bool.noConfusion ht))
      | (with_reducible refine k_ret ?_; repeat with_reducible (first | refine ret_thru ?_ | refine ret_blk ?_ | refine fin ?_))
      | (with_reducible refine k_exit ?_; repeat with_reducible (first | refine thru ?_ | refine out_blk ?_ | refine pass (by decide) ?_))
      | (refine post1 ?_; simp only [GA, Nat.reduceEqDiff, ↓reduceIte])
      | (refine post2 ?_; simp only [GA, Nat.reduceEqDiff, ↓reduceIte])
      | (refine post3 ?_; simp only [GA, Nat.reduceEqDiff, ↓reduceIte])
      | (refine postc (by simp only [GA, Nat.reduceEqDiff, ↓reduceIte]; rfl) (by simp (disch := omega) only [c1, c39r0, c39r1, c39r2, c39r3, c39r4, c39r5, c39r6, EV0, EV1, EV2, EV3, EV4, EV5, EV6, EV7, plug, ite_same, decide_true, decide_false, eq_self, ↓reduceIte, reduceCtorEq, Nat.reduceAdd, Nat.reduceEqDiff, Nat.reduceLT, Nat.reduceLeDiff, Nat.reduceMul, Nat.reduceSub, Nat.reduceDiv, Int.reduceToNat, Int.reduceAdd, Int.reduceSub, Int.reduceMul, Int.reduceNeg, Int.reduceEq, Int.reduceLT, Int.reduceLE]; rfl) ?_)
      | refine post0 ?_
    exact ⟨.sl 0 0 0 0, rfl, 0, 0, 0, rfl, .inl ⟨rfl, rfl, rfl⟩⟩
theorem f40 : FCalls Try.prog 40 [.ag [.i .i64 a, .i .i64 b, .i .i64 c, .i .i64 d, .i .i64 e, .i .i64 f], .sl tf of_ n af, .sl tg og n2 ag] h (some ([], [.i .i64 (rres a b c d e f bad n bad2 n2).2.1, .i .i64 (rres a b c d e f bad n bad2 n2).1])) (rres a b c d e f bad n bad2 n2).2.2.length 2 (ol (rres a b c d e f bad n bad2 n2).2.2) := by
  have q := fun h hb => f51 a b c d e f tf of_ n af bad hn h hb
  have q2 := fun h hb => f50 a b c d e f 2 tg og n2 ag bad2 hn2 h hb
  refine fresh_call rfl (ol_plain _) fun h0 hr _ => ?_
  have hb' : ∀ j, j < n → h0.read tf (of_ + j) none = some (.i .i64 (bad j)) := fun j hj => by unfold AH.read; rw [hr]; exact hb j hj
  have hb2' : ∀ j, j < n2 → h0.read tg (og + j) none = some (.i .i64 (bad2 j)) := fun j hj => by unfold AH.read; rw [hr]; exact hb2 j hj
  clear hb hr hb2
  refine a_fn fn40 (by simp) fun ok pos => ?_
  rw [initSt3]
  have q1 : ∀ j, j < n → tf < h0.nx := fun j hj => ok.read (hb' j hj)
  have q12 : ∀ j, j < n2 → tg < h0.nx := fun j hj => ok.read (hb2' j hj)
  by_cases c1 : (hres a b c d e f 1 bad n).1 = 0
  · by_cases c2 : (hres a b c d e f 1 bad n).2.1 = 4
    · have er : rres a b c d e f bad n bad2 n2 = hres a b c d e f 2 bad2 n2 := by unfold rres; rw [if_neg (by simp [c1]), if_neg (by simp [c2])]
      rw [er]
      rw [c1, c2] at q
      generalize hres a b c d e f 2 bad2 n2 = R at q2 ⊢
      repeat' first
        | with_reducible refine k_seq ?_
        | with_reducible refine k_skip ?_
        | with_reducible refine k_blkS ?_
        | with_reducible refine k_reg ?_
        | with_reducible refine r_done ?_
        | with_reducible refine s_go (by simp (disch := omega) only [c40r0, c40r1, c40r2, c40r3, c40r4, c40r5, c40r6, EV0, EV1, EV2, EV3, EV4, EV5, EV6, EV7, plug, ite_same, decide_true, decide_false, eq_self, ↓reduceIte, reduceCtorEq, Nat.reduceAdd, Nat.reduceEqDiff, Nat.reduceLT, Nat.reduceLeDiff, Nat.reduceMul, Nat.reduceSub, Nat.reduceDiv, Int.reduceToNat, Int.reduceAdd, Int.reduceSub, Int.reduceMul, Int.reduceNeg, Int.reduceEq, Int.reduceLT, Int.reduceLE]; with_reducible rfl) ?_
        | ((with_reducible refine chk_r ?_); refine r_callF (by simp only [CA, Nat.reduceEqDiff, ↓reduceIte]; rfl) (by exact rfl) (by simp only [CA, Nat.reduceEqDiff, ↓reduceIte]; rfl) rfl ?_)
        | ((with_reducible refine chk_r ?_); refine r_callP (by simp only [CA, Nat.reduceEqDiff, ↓reduceIte]; rfl) (by simp only [CA, Nat.reduceEqDiff, ↓reduceIte]; rfl) (by first | (refine q _ ?_; intro j hj; have := q1 j hj; simp (disch := omega) only [hb', c40r0, c40r1, c40r2, c40r3, c40r4, c40r5, c40r6, EV0, EV1, EV2, EV3, EV4, EV5, EV6, EV7, plug, ite_same, decide_true, decide_false, eq_self, ↓reduceIte, reduceCtorEq, Nat.reduceAdd, Nat.reduceEqDiff, Nat.reduceLT, Nat.reduceLeDiff, Nat.reduceMul, Nat.reduceSub, Nat.reduceDiv, Int.reduceToNat, Int.reduceAdd, Int.reduceSub, Int.reduceMul, Int.reduceNeg, Int.reduceEq, Int.reduceLT, Int.reduceLE])) rfl ?_)
        | ((with_reducible refine chk_r ?_); refine r_callN (by simp only [CA, Nat.reduceEqDiff, ↓reduceIte]; rfl) (by simp only [CA, Nat.reduceEqDiff, ↓reduceIte]; rfl) (by first | (refine q2 _ ?_; intro j hj; have := q12 j hj; simp (disch := omega) only [hb2', c40r0, c40r1, c40r2, c40r3, c40r4, c40r5, c40r6, EV0, EV1, EV2, EV3, EV4, EV5, EV6, EV7, plug, ite_same, decide_true, decide_false, eq_self, ↓reduceIte, reduceCtorEq, Nat.reduceAdd, Nat.reduceEqDiff, Nat.reduceLT, Nat.reduceLeDiff, Nat.reduceMul, Nat.reduceSub, Nat.reduceDiv, Int.reduceToNat, Int.reduceAdd, Int.reduceSub, Int.reduceMul, Int.reduceNeg, Int.reduceEq, Int.reduceLT, Int.reduceLE])) rfl ?_)
        | (with_reducible refine k_condP (by simp only [GA, Nat.reduceEqDiff, ↓reduceIte]; rfl) (by first | (simp only [BO]; rfl) | rfl) (fun ht => ?_) (fun ht => ?_) <;> try (first | exact False.elim ht | exact absurd rfl ht | exact absurd trivial ht | exact Bool.noConfusion ht))
        | (with_reducible refine k_ret ?_; repeat with_reducible (first | refine ret_thru ?_ | refine ret_blk ?_ | refine fin ?_))
        | (with_reducible refine k_exit ?_; repeat with_reducible (first | refine thru ?_ | refine out_blk ?_ | refine pass (by decide) ?_))
        | (refine post1 ?_; simp only [GA, Nat.reduceEqDiff, ↓reduceIte])
        | (refine post2 ?_; simp only [GA, Nat.reduceEqDiff, ↓reduceIte])
        | (refine post3 ?_; simp only [GA, Nat.reduceEqDiff, ↓reduceIte])
        | (refine postc (by simp only [GA, Nat.reduceEqDiff, ↓reduceIte]; rfl) (by simp (disch := omega) only [c40r0, c40r1, c40r2, c40r3, c40r4, c40r5, c40r6, EV0, EV1, EV2, EV3, EV4, EV5, EV6, EV7, plug, ite_same, decide_true, decide_false, eq_self, ↓reduceIte, reduceCtorEq, Nat.reduceAdd, Nat.reduceEqDiff, Nat.reduceLT, Nat.reduceLeDiff, Nat.reduceMul, Nat.reduceSub, Nat.reduceDiv, Int.reduceToNat, Int.reduceAdd, Int.reduceSub, Int.reduceMul, Int.reduceNeg, Int.reduceEq, Int.reduceLT, Int.reduceLE]; rfl) ?_)
        | refine post0 ?_
      refine ⟨_, rfl, new_ok ?_ (ol_len _)⟩
      simp (disch := omega) only [c40r0, c40r1, c40r2, c40r3, c40r4, c40r5, c40r6, EV0, EV1, EV2, EV3, EV4, EV5, EV6, EV7, plug, ite_same, decide_true, decide_false, eq_self, ↓reduceIte, reduceCtorEq, Nat.reduceAdd, Nat.reduceEqDiff, Nat.reduceLT, Nat.reduceLeDiff, Nat.reduceMul, Nat.reduceSub, Nat.reduceDiv, Int.reduceToNat, Int.reduceAdd, Int.reduceSub, Int.reduceMul, Int.reduceNeg, Int.reduceEq, Int.reduceLT, Int.reduceLE]
    · have er : rres a b c d e f bad n bad2 n2 = (2, 0, []) := by unfold rres; rw [if_neg (by simp [c1]), if_pos c2]
      rw [er]
      rw [c1] at q
      repeat' first
        | with_reducible refine k_seq ?_
        | with_reducible refine k_skip ?_
        | with_reducible refine k_blkS ?_
        | with_reducible refine k_reg ?_
        | with_reducible refine r_done ?_
        | with_reducible refine s_go (by simp (disch := omega) only [c2, c40r0, c40r1, c40r2, c40r3, c40r4, c40r5, c40r6, EV0, EV1, EV2, EV3, EV4, EV5, EV6, EV7, plug, ite_same, decide_true, decide_false, eq_self, ↓reduceIte, reduceCtorEq, Nat.reduceAdd, Nat.reduceEqDiff, Nat.reduceLT, Nat.reduceLeDiff, Nat.reduceMul, Nat.reduceSub, Nat.reduceDiv, Int.reduceToNat, Int.reduceAdd, Int.reduceSub, Int.reduceMul, Int.reduceNeg, Int.reduceEq, Int.reduceLT, Int.reduceLE]; with_reducible rfl) ?_
        | ((with_reducible refine chk_r ?_); refine r_callF (by simp only [CA, Nat.reduceEqDiff, ↓reduceIte]; rfl) (by exact rfl) (by simp only [CA, Nat.reduceEqDiff, ↓reduceIte]; rfl) rfl ?_)
        | ((with_reducible refine chk_r ?_); refine r_callP (by simp only [CA, Nat.reduceEqDiff, ↓reduceIte]; rfl) (by simp only [CA, Nat.reduceEqDiff, ↓reduceIte]; rfl) (by first | (refine q _ ?_; intro j hj; have := q1 j hj; simp (disch := omega) only [hb', c40r0, c40r1, c40r2, c40r3, c40r4, c40r5, c40r6, EV0, EV1, EV2, EV3, EV4, EV5, EV6, EV7, plug, ite_same, decide_true, decide_false, eq_self, ↓reduceIte, reduceCtorEq, Nat.reduceAdd, Nat.reduceEqDiff, Nat.reduceLT, Nat.reduceLeDiff, Nat.reduceMul, Nat.reduceSub, Nat.reduceDiv, Int.reduceToNat, Int.reduceAdd, Int.reduceSub, Int.reduceMul, Int.reduceNeg, Int.reduceEq, Int.reduceLT, Int.reduceLE])) rfl ?_)
        | (with_reducible refine k_condP (by simp only [GA, Nat.reduceEqDiff, ↓reduceIte]; rfl) (by first | (simp only [BO]; rfl) | rfl) (fun ht => ?_) (fun ht => ?_) <;> try (first | exact False.elim ht | exact absurd rfl ht | exact absurd trivial ht | exact Bool.noConfusion ht))
        | (with_reducible refine k_ret ?_; repeat with_reducible (first | refine ret_thru ?_ | refine ret_blk ?_ | refine fin ?_))
        | (with_reducible refine k_exit ?_; repeat with_reducible (first | refine thru ?_ | refine out_blk ?_ | refine pass (by decide) ?_))
        | (refine post1 ?_; simp only [GA, Nat.reduceEqDiff, ↓reduceIte])
        | (refine post2 ?_; simp only [GA, Nat.reduceEqDiff, ↓reduceIte])
        | (refine post3 ?_; simp only [GA, Nat.reduceEqDiff, ↓reduceIte])
        | (refine postc (by simp only [GA, Nat.reduceEqDiff, ↓reduceIte]; rfl) (by simp (disch := omega) only [c2, c40r0, c40r1, c40r2, c40r3, c40r4, c40r5, c40r6, EV0, EV1, EV2, EV3, EV4, EV5, EV6, EV7, plug, ite_same, decide_true, decide_false, eq_self, ↓reduceIte, reduceCtorEq, Nat.reduceAdd, Nat.reduceEqDiff, Nat.reduceLT, Nat.reduceLeDiff, Nat.reduceMul, Nat.reduceSub, Nat.reduceDiv, Int.reduceToNat, Int.reduceAdd, Int.reduceSub, Int.reduceMul, Int.reduceNeg, Int.reduceEq, Int.reduceLT, Int.reduceLE]; rfl) ?_)
        | refine post0 ?_
      exact ⟨.sl 0 0 0 0, rfl, 0, 0, 0, rfl, .inl ⟨rfl, rfl, rfl⟩⟩
  · have er : rres a b c d e f bad n bad2 n2 = ((hres a b c d e f 1 bad n).1, 0, []) := by unfold rres; rw [if_pos c1]
    rw [er]
    repeat' first
      | with_reducible refine k_seq ?_
      | with_reducible refine k_skip ?_
      | with_reducible refine k_blkS ?_
      | with_reducible refine k_reg ?_
      | with_reducible refine r_done ?_
      | with_reducible refine s_go (by simp (disch := omega) only [c1, c40r0, c40r1, c40r2, c40r3, c40r4, c40r5, c40r6, EV0, EV1, EV2, EV3, EV4, EV5, EV6, EV7, plug, ite_same, decide_true, decide_false, eq_self, ↓reduceIte, reduceCtorEq, Nat.reduceAdd, Nat.reduceEqDiff, Nat.reduceLT, Nat.reduceLeDiff, Nat.reduceMul, Nat.reduceSub, Nat.reduceDiv, Int.reduceToNat, Int.reduceAdd, Int.reduceSub, Int.reduceMul, Int.reduceNeg, Int.reduceEq, Int.reduceLT, Int.reduceLE]; with_reducible rfl) ?_
      | ((with_reducible refine chk_r ?_); refine r_callF (by simp only [CA, Nat.reduceEqDiff, ↓reduceIte]; rfl) (by exact rfl) (by simp only [CA, Nat.reduceEqDiff, ↓reduceIte]; rfl) rfl ?_)
      | ((with_reducible refine chk_r ?_); refine r_callP (by simp only [CA, Nat.reduceEqDiff, ↓reduceIte]; rfl) (by simp only [CA, Nat.reduceEqDiff, ↓reduceIte]; rfl) (by first | (refine q _ ?_; intro j hj; have := q1 j hj; simp (disch := omega) only [hb', c40r0, c40r1, c40r2, c40r3, c40r4, c40r5, c40r6, EV0, EV1, EV2, EV3, EV4, EV5, EV6, EV7, plug, ite_same, decide_true, decide_false, eq_self, ↓reduceIte, reduceCtorEq, Nat.reduceAdd, Nat.reduceEqDiff, Nat.reduceLT, Nat.reduceLeDiff, Nat.reduceMul, Nat.reduceSub, Nat.reduceDiv, Int.reduceToNat, Int.reduceAdd, Int.reduceSub, Int.reduceMul, Int.reduceNeg, Int.reduceEq, Int.reduceLT, Int.reduceLE])) rfl ?_)
      | (with_reducible refine k_condP (by simp only [GA, Nat.reduceEqDiff, ↓reduceIte]; rfl) (by first | (simp only [BO]; rfl) | rfl) (fun ht => ?_) (fun ht => ?_) <;> try (first | exact False.elim ht | exact absurd rfl ht | exact absurd trivial ht | exact Bool.noConfusion ht))
      | (with_reducible refine k_ret ?_; repeat with_reducible (first | refine ret_thru ?_ | refine ret_blk ?_ | refine fin ?_))
      | (with_reducible refine k_exit ?_; repeat with_reducible (first | refine thru ?_ | refine out_blk ?_ | refine pass (by decide) ?_))
      | (refine post1 ?_; simp only [GA, Nat.reduceEqDiff, ↓reduceIte])
      | (refine post2 ?_; simp only [GA, Nat.reduceEqDiff, ↓reduceIte])
      | (refine post3 ?_; simp only [GA, Nat.reduceEqDiff, ↓reduceIte])
      | (refine postc (by simp only [GA, Nat.reduceEqDiff, ↓reduceIte]; rfl) (by simp (disch := omega) only [c1, c40r0, c40r1, c40r2, c40r3, c40r4, c40r5, c40r6, EV0, EV1, EV2, EV3, EV4, EV5, EV6, EV7, plug, ite_same, decide_true, decide_false, eq_self, ↓reduceIte, reduceCtorEq, Nat.reduceAdd, Nat.reduceEqDiff, Nat.reduceLT, Nat.reduceLeDiff, Nat.reduceMul, Nat.reduceSub, Nat.reduceDiv, Int.reduceToNat, Int.reduceAdd, Int.reduceSub, Int.reduceMul, Int.reduceNeg, Int.reduceEq, Int.reduceLT, Int.reduceLE]; rfl) ?_)
      | refine post0 ?_
    exact ⟨.sl 0 0 0 0, rfl, 0, 0, 0, rfl, .inl ⟨rfl, rfl, rfl⟩⟩
end

theorem hres_len (a b c d e f st0 : Int) (bad : Nat → Int) (n : Nat) : (hres a b c d e f st0 bad n).2.2.length ≤ 200 := by
  unfold hres
  split
  · split
    · simp
    · split
      · simp
      · have := (hk_len a b c d e f st0 bad n).2.1
        show (hk a b c d e f st0 bad n).o.length ≤ 200
        omega
  · simp
theorem rres_len (a b c d e f : Int) (bad : Nat → Int) (n : Nat) (bad2 : Nat → Int) (n2 : Nat) : (rres a b c d e f bad n bad2 n2).2.2.length ≤ 200 := by
  unfold rres
  split
  · simp
  · split
    · simp
    · exact hres_len _ _ _ _ _ _ _ _ _
theorem ol_take2 : ∀ (o : List (Int × Bool)) (j : Nat), j < o.length → ((ol o).drop (j * 2)).take 2 = [.i .i64 (o.getD j (0, false)).1, .b (o.getD j (0, false)).2] := by
  intro o
  induction o with
  | nil => intro j h; simp at h
  | cons x o ih =>
    intro j h
    cases j with
    | zero => simp [ol]
    | succ j =>
      have := ih j (by simpa using h)
      rw [show (j + 1) * 2 = j * 2 + 2 by omega]
      simpa [ol] using this

theorem f11 (h : AH) (a b c d e f : Int) (_ : -9223372036854775808 ≤ a ∧ a ≤ 9223372036854775807) (_ : -9223372036854775808 ≤ b ∧ b ≤ 9223372036854775807) (_ : -9223372036854775808 ≤ c ∧ c ≤ 9223372036854775807) (_ : -9223372036854775808 ≤ d ∧ d ≤ 9223372036854775807) (_ : -9223372036854775808 ≤ e ∧ e ≤ 9223372036854775807) (_ : -9223372036854775808 ≤ f ∧ f ≤ 9223372036854775807)
    (tf of_ n : Nat) (bad : Nat → Int) (hn : n ≤ 9223372036854775807) (hb : ∀ j, j < n → h.read tf (of_ + j) none = some (.i .i64 (bad j))) (_ : ∀ j, j < n → -9223372036854775808 ≤ bad j ∧ bad j ≤ 9223372036854775807) :
    ACalls Try.prog 11 [.ag [.i .i64 a, .i .i64 b, .i .i64 c, .i .i64 d, .i .i64 e, .i .i64 f], .sl tf of_ n 0] h fun r h' => r = .b true ∧ h' = h := by
  have q34 := fun h hb => f34 a b c d e f tf of_ n 0 bad hn h hb
  have q35 := fun h hb => f35 a b c d e f tf of_ n 0 bad hn h hb
  have q36 := fun h hb => f36 a b c d e f tf of_ n 0 bad hn h hb
  refine pure_call (R := fun r => r = .b true) (fun h0 hr _ => ?_) (fun r e => by rw [e]; rfl)
  have hb' : ∀ j, j < n → h0.read tf (of_ + j) none = some (.i .i64 (bad j)) := fun j hj => by unfold AH.read; rw [hr]; exact hb j hj
  clear hb hr
  refine a_fn fn11 (by simp) fun ok pos => ?_
  rw [initSt2]
  have q1 : ∀ j, j < n → tf < h0.nx := fun j hj => ok.read (hb' j hj)
  have hl := hres_len a b c d e f 1 bad n
  have hol := ol_len (hres a b c d e f 1 bad n).2.2
  generalize hres a b c d e f 1 bad n = R at *
  have q37 := fun t1 o1 a1 t2 o2 a2 h h1 h2 => f37 t1 o1 a1 t2 o2 a2 R.2.2 R.2.2 (by omega) (by omega) h h1 h2
  simp only [decide_true] at q37
  repeat' first
    | with_reducible refine k_seq ?_
    | with_reducible refine k_skip ?_
    | with_reducible refine k_blkS ?_
    | with_reducible refine k_reg ?_
    | with_reducible refine r_done ?_
    | with_reducible refine s_go (by simp (disch := omega) only [c11r0, c11r1, c11r2, c11r3, c11r4, EV0, EV1, EV2, EV3, EV4, EV5, EV6, EV7, plug, ite_same, decide_true, decide_false, eq_self, ↓reduceIte, reduceCtorEq, Nat.reduceAdd, Nat.reduceEqDiff, Nat.reduceLT, Nat.reduceLeDiff, Nat.reduceMul, Nat.reduceSub, Nat.reduceDiv, Int.reduceToNat, Int.reduceAdd, Int.reduceSub, Int.reduceMul, Int.reduceNeg, Int.reduceEq, Int.reduceLT, Int.reduceLE]; with_reducible rfl) ?_
    | ((with_reducible refine chk_r ?_); refine r_callF (by simp only [CA, Nat.reduceEqDiff, ↓reduceIte]; rfl) (by exact rfl) (by simp only [CA, Nat.reduceEqDiff, ↓reduceIte]; rfl) rfl ?_)
    | ((with_reducible refine chk_r ?_); refine r_callP (by simp only [CA, Nat.reduceEqDiff, ↓reduceIte]; rfl) (by simp only [CA, Nat.reduceEqDiff, ↓reduceIte]; rfl) (by first | (refine q36 _ ?_; intro j hj; have := q1 j hj; simp (disch := omega) only [hb', c11r0, c11r1, c11r2, c11r3, c11r4, EV0, EV1, EV2, EV3, EV4, EV5, EV6, EV7, plug, ite_same, decide_true, decide_false, eq_self, ↓reduceIte, reduceCtorEq, Nat.reduceAdd, Nat.reduceEqDiff, Nat.reduceLT, Nat.reduceLeDiff, Nat.reduceMul, Nat.reduceSub, Nat.reduceDiv, Int.reduceToNat, Int.reduceAdd, Int.reduceSub, Int.reduceMul, Int.reduceNeg, Int.reduceEq, Int.reduceLT, Int.reduceLE]) | (refine q37 _ _ _ _ _ _ _ ?_ ?_ <;> (intro j hj; have hrd := ol_take2 _ j hj; simp (disch := omega) only [hrd, c11r0, c11r1, c11r2, c11r3, c11r4, EV0, EV1, EV2, EV3, EV4, EV5, EV6, EV7, plug, ite_same, decide_true, decide_false, eq_self, ↓reduceIte, reduceCtorEq, Nat.reduceAdd, Nat.reduceEqDiff, Nat.reduceLT, Nat.reduceLeDiff, Nat.reduceMul, Nat.reduceSub, Nat.reduceDiv, Int.reduceToNat, Int.reduceAdd, Int.reduceSub, Int.reduceMul, Int.reduceNeg, Int.reduceEq, Int.reduceLT, Int.reduceLE])) | exact f16 _) rfl ?_)
    | ((with_reducible refine chk_r ?_); refine r_callG (by simp only [CA, Nat.reduceEqDiff, ↓reduceIte]; rfl) (by simp only [CA, Nat.reduceEqDiff, ↓reduceIte]; rfl) (by simp only [CA, Nat.reduceEqDiff, ↓reduceIte]; rfl) (by intro hg; (try simp only [BO] at hg); first | (refine q36 _ ?_; intro j hj; have := q1 j hj; simp (disch := omega) only [hb', c11r0, c11r1, c11r2, c11r3, c11r4, EV0, EV1, EV2, EV3, EV4, EV5, EV6, EV7, plug, ite_same, decide_true, decide_false, eq_self, ↓reduceIte, reduceCtorEq, Nat.reduceAdd, Nat.reduceEqDiff, Nat.reduceLT, Nat.reduceLeDiff, Nat.reduceMul, Nat.reduceSub, Nat.reduceDiv, Int.reduceToNat, Int.reduceAdd, Int.reduceSub, Int.reduceMul, Int.reduceNeg, Int.reduceEq, Int.reduceLT, Int.reduceLE]) | (refine q37 _ _ _ _ _ _ _ ?_ ?_ <;> (intro j hj; have hrd := ol_take2 _ j hj; simp (disch := omega) only [hrd, c11r0, c11r1, c11r2, c11r3, c11r4, EV0, EV1, EV2, EV3, EV4, EV5, EV6, EV7, plug, ite_same, decide_true, decide_false, eq_self, ↓reduceIte, reduceCtorEq, Nat.reduceAdd, Nat.reduceEqDiff, Nat.reduceLT, Nat.reduceLeDiff, Nat.reduceMul, Nat.reduceSub, Nat.reduceDiv, Int.reduceToNat, Int.reduceAdd, Int.reduceSub, Int.reduceMul, Int.reduceNeg, Int.reduceEq, Int.reduceLT, Int.reduceLE])) | exact f16 _) rfl ?_)
    | ((with_reducible refine chk_r ?_); refine r_callN (by simp only [CA, Nat.reduceEqDiff, ↓reduceIte]; rfl) (by simp only [CA, Nat.reduceEqDiff, ↓reduceIte]; rfl) (by first | (first | refine q34 _ ?_ | refine q35 _ ?_); intro j hj; have := q1 j hj; simp (disch := omega) only [hb', c11r0, c11r1, c11r2, c11r3, c11r4, EV0, EV1, EV2, EV3, EV4, EV5, EV6, EV7, plug, ite_same, decide_true, decide_false, eq_self, ↓reduceIte, reduceCtorEq, Nat.reduceAdd, Nat.reduceEqDiff, Nat.reduceLT, Nat.reduceLeDiff, Nat.reduceMul, Nat.reduceSub, Nat.reduceDiv, Int.reduceToNat, Int.reduceAdd, Int.reduceSub, Int.reduceMul, Int.reduceNeg, Int.reduceEq, Int.reduceLT, Int.reduceLE]) rfl ?_)
    | (with_reducible refine k_condP (by simp only [GA, Nat.reduceEqDiff, ↓reduceIte]; rfl) (by first | (simp only [BO]; rfl) | rfl) (fun ht => ?_) (fun ht => ?_) <;> try (first | exact False.elim ht | exact absurd rfl ht | exact absurd trivial ht | exact Bool.noConfusion ht))
    | (with_reducible refine k_ret ?_; repeat with_reducible (first | refine ret_thru ?_ | refine ret_blk ?_ | refine fin ?_))
    | (with_reducible refine k_exit ?_; repeat with_reducible (first | refine thru ?_ | refine out_blk ?_ | refine pass (by decide) ?_))
    | (refine post1 ?_; simp only [GA, Nat.reduceEqDiff, ↓reduceIte])
    | (refine post2 ?_; simp only [GA, Nat.reduceEqDiff, ↓reduceIte])
    | (refine post3 ?_; simp only [GA, Nat.reduceEqDiff, ↓reduceIte])
    | (refine postc (by simp only [GA, Nat.reduceEqDiff, ↓reduceIte]; rfl) (by simp (disch := omega) only [c11r0, c11r1, c11r2, c11r3, c11r4, EV0, EV1, EV2, EV3, EV4, EV5, EV6, EV7, plug, ite_same, decide_true, decide_false, eq_self, ↓reduceIte, reduceCtorEq, Nat.reduceAdd, Nat.reduceEqDiff, Nat.reduceLT, Nat.reduceLeDiff, Nat.reduceMul, Nat.reduceSub, Nat.reduceDiv, Int.reduceToNat, Int.reduceAdd, Int.reduceSub, Int.reduceMul, Int.reduceNeg, Int.reduceEq, Int.reduceLT, Int.reduceLE]; rfl) ?_)
    | refine post0 ?_
theorem f13 (h : AH) (a b c d e f : Int) (_ : -9223372036854775808 ≤ a ∧ a ≤ 9223372036854775807) (_ : -9223372036854775808 ≤ b ∧ b ≤ 9223372036854775807) (_ : -9223372036854775808 ≤ c ∧ c ≤ 9223372036854775807) (_ : -9223372036854775808 ≤ d ∧ d ≤ 9223372036854775807) (_ : -9223372036854775808 ≤ e ∧ e ≤ 9223372036854775807) (_ : -9223372036854775808 ≤ f ∧ f ≤ 9223372036854775807)
    (tf of_ n : Nat) (bad : Nat → Int) (hn : n ≤ 9223372036854775807) (hb : ∀ j, j < n → h.read tf (of_ + j) none = some (.i .i64 (bad j))) (_ : ∀ j, j < n → -9223372036854775808 ≤ bad j ∧ bad j ≤ 9223372036854775807)
    (tg og n2 : Nat) (bad2 : Nat → Int) (hn2 : n2 ≤ 9223372036854775807) (hb2 : ∀ j, j < n2 → h.read tg (og + j) none = some (.i .i64 (bad2 j))) (_ : ∀ j, j < n2 → -9223372036854775808 ≤ bad2 j ∧ bad2 j ≤ 9223372036854775807) :
    ACalls Try.prog 13 [.ag [.i .i64 a, .i .i64 b, .i .i64 c, .i .i64 d, .i .i64 e, .i .i64 f], .sl tf of_ n 0, .sl tg og n2 0] h fun r h' => r = .b true ∧ h' = h := by
  have q39 := fun h hb hb2 => f39 a b c d e f tf of_ n 0 bad hn h hb tg og n2 0 bad2 hn2 hb2
  have q40 := fun h hb hb2 => f40 a b c d e f tf of_ n 0 bad hn h hb tg og n2 0 bad2 hn2 hb2
  refine pure_call (R := fun r => r = .b true) (fun h0 hr _ => ?_) (fun r e => by rw [e]; rfl)
  have hb' : ∀ j, j < n → h0.read tf (of_ + j) none = some (.i .i64 (bad j)) := fun j hj => by unfold AH.read; rw [hr]; exact hb j hj
  have hb2' : ∀ j, j < n2 → h0.read tg (og + j) none = some (.i .i64 (bad2 j)) := fun j hj => by unfold AH.read; rw [hr]; exact hb2 j hj
  clear hb hr hb2
  refine a_fn fn13 (by simp) fun ok pos => ?_
  rw [initSt3]
  have q1 : ∀ j, j < n → tf < h0.nx := fun j hj => ok.read (hb' j hj)
  have q12 : ∀ j, j < n2 → tg < h0.nx := fun j hj => ok.read (hb2' j hj)
  have hl := rres_len a b c d e f bad n bad2 n2
  have hol := ol_len (rres a b c d e f bad n bad2 n2).2.2
  generalize rres a b c d e f bad n bad2 n2 = R at *
  have q37 := fun t1 o1 a1 t2 o2 a2 h h1 h2 => f37 t1 o1 a1 t2 o2 a2 R.2.2 R.2.2 (by omega) (by omega) h h1 h2
  simp only [decide_true] at q37
  repeat' first
    | with_reducible refine k_seq ?_
    | with_reducible refine k_skip ?_
    | with_reducible refine k_blkS ?_
    | with_reducible refine k_reg ?_
    | with_reducible refine r_done ?_
    | with_reducible refine s_go (by simp (disch := omega) only [c13r0, c13r1, c13r2, c13r3, EV0, EV1, EV2, EV3, EV4, EV5, EV6, EV7, plug, ite_same, decide_true, decide_false, eq_self, ↓reduceIte, reduceCtorEq, Nat.reduceAdd, Nat.reduceEqDiff, Nat.reduceLT, Nat.reduceLeDiff, Nat.reduceMul, Nat.reduceSub, Nat.reduceDiv, Int.reduceToNat, Int.reduceAdd, Int.reduceSub, Int.reduceMul, Int.reduceNeg, Int.reduceEq, Int.reduceLT, Int.reduceLE]; with_reducible rfl) ?_
    | ((with_reducible refine chk_r ?_); refine r_callF (by simp only [CA, Nat.reduceEqDiff, ↓reduceIte]; rfl) (by exact rfl) (by simp only [CA, Nat.reduceEqDiff, ↓reduceIte]; rfl) rfl ?_)
    | ((with_reducible refine chk_r ?_); refine r_callP (by simp only [CA, Nat.reduceEqDiff, ↓reduceIte]; rfl) (by simp only [CA, Nat.reduceEqDiff, ↓reduceIte]; rfl) (by first | (refine q37 _ _ _ _ _ _ _ ?_ ?_ <;> (intro j hj; have hrd := ol_take2 _ j hj; simp (disch := omega) only [hrd, c13r0, c13r1, c13r2, c13r3, EV0, EV1, EV2, EV3, EV4, EV5, EV6, EV7, plug, ite_same, decide_true, decide_false, eq_self, ↓reduceIte, reduceCtorEq, Nat.reduceAdd, Nat.reduceEqDiff, Nat.reduceLT, Nat.reduceLeDiff, Nat.reduceMul, Nat.reduceSub, Nat.reduceDiv, Int.reduceToNat, Int.reduceAdd, Int.reduceSub, Int.reduceMul, Int.reduceNeg, Int.reduceEq, Int.reduceLT, Int.reduceLE])) | exact f16 _) rfl ?_)
    | ((with_reducible refine chk_r ?_); refine r_callG (by simp only [CA, Nat.reduceEqDiff, ↓reduceIte]; rfl) (by simp only [CA, Nat.reduceEqDiff, ↓reduceIte]; rfl) (by simp only [CA, Nat.reduceEqDiff, ↓reduceIte]; rfl) (by intro hg; (try simp only [BO] at hg); first | (refine q37 _ _ _ _ _ _ _ ?_ ?_ <;> (intro j hj; have hrd := ol_take2 _ j hj; simp (disch := omega) only [hrd, c13r0, c13r1, c13r2, c13r3, EV0, EV1, EV2, EV3, EV4, EV5, EV6, EV7, plug, ite_same, decide_true, decide_false, eq_self, ↓reduceIte, reduceCtorEq, Nat.reduceAdd, Nat.reduceEqDiff, Nat.reduceLT, Nat.reduceLeDiff, Nat.reduceMul, Nat.reduceSub, Nat.reduceDiv, Int.reduceToNat, Int.reduceAdd, Int.reduceSub, Int.reduceMul, Int.reduceNeg, Int.reduceEq, Int.reduceLT, Int.reduceLE])) | exact f16 _) rfl ?_)
    | ((with_reducible refine chk_r ?_); refine r_callN (by simp only [CA, Nat.reduceEqDiff, ↓reduceIte]; rfl) (by simp only [CA, Nat.reduceEqDiff, ↓reduceIte]; rfl) (by first | (first | refine q39 _ ?_ ?_ | refine q40 _ ?_ ?_) <;> (intro j hj; first | (have := q1 j hj; simp (disch := omega) only [hb', c13r0, c13r1, c13r2, c13r3, EV0, EV1, EV2, EV3, EV4, EV5, EV6, EV7, plug, ite_same, decide_true, decide_false, eq_self, ↓reduceIte, reduceCtorEq, Nat.reduceAdd, Nat.reduceEqDiff, Nat.reduceLT, Nat.reduceLeDiff, Nat.reduceMul, Nat.reduceSub, Nat.reduceDiv, Int.reduceToNat, Int.reduceAdd, Int.reduceSub, Int.reduceMul, Int.reduceNeg, Int.reduceEq, Int.reduceLT, Int.reduceLE]) | (have := q12 j hj; simp (disch := omega) only [hb2', c13r0, c13r1, c13r2, c13r3, EV0, EV1, EV2, EV3, EV4, EV5, EV6, EV7, plug, ite_same, decide_true, decide_false, eq_self, ↓reduceIte, reduceCtorEq, Nat.reduceAdd, Nat.reduceEqDiff, Nat.reduceLT, Nat.reduceLeDiff, Nat.reduceMul, Nat.reduceSub, Nat.reduceDiv, Int.reduceToNat, Int.reduceAdd, Int.reduceSub, Int.reduceMul, Int.reduceNeg, Int.reduceEq, Int.reduceLT, Int.reduceLE]))) rfl ?_)
    | (with_reducible refine k_condP (by simp only [GA, Nat.reduceEqDiff, ↓reduceIte]; rfl) (by first | (simp only [BO]; rfl) | rfl) (fun ht => ?_) (fun ht => ?_) <;> try (first | exact False.elim ht | exact absurd rfl ht | exact absurd trivial ht | exact Bool.noConfusion ht))
    | (with_reducible refine k_ret ?_; repeat with_reducible (first | refine ret_thru ?_ | refine ret_blk ?_ | refine fin ?_))
    | (with_reducible refine k_exit ?_; repeat with_reducible (first | refine thru ?_ | refine out_blk ?_ | refine pass (by decide) ?_))
    | (refine post1 ?_; simp only [GA, Nat.reduceEqDiff, ↓reduceIte])
    | (refine post2 ?_; simp only [GA, Nat.reduceEqDiff, ↓reduceIte])
    | (refine post3 ?_; simp only [GA, Nat.reduceEqDiff, ↓reduceIte])
    | (refine postc (by simp only [GA, Nat.reduceEqDiff, ↓reduceIte]; rfl) (by simp (disch := omega) only [c13r0, c13r1, c13r2, c13r3, EV0, EV1, EV2, EV3, EV4, EV5, EV6, EV7, plug, ite_same, decide_true, decide_false, eq_self, ↓reduceIte, reduceCtorEq, Nat.reduceAdd, Nat.reduceEqDiff, Nat.reduceLT, Nat.reduceLeDiff, Nat.reduceMul, Nat.reduceSub, Nat.reduceDiv, Int.reduceToNat, Int.reduceAdd, Int.reduceSub, Int.reduceMul, Int.reduceNeg, Int.reduceEq, Int.reduceLT, Int.reduceLE]; rfl) ?_)
    | refine post0 ?_
end Go.Proofs.Ytappehafkjcabaa
