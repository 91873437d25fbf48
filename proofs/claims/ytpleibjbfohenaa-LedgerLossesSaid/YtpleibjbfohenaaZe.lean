/- What the proof of the law needs: the abstract machine, the functions as it reads them, their contracts, part 5. -/
import Derived.Test.YtpleibjbfohenaaZd
set_option linter.unusedVariables false
set_option linter.unusedSimpArgs false
namespace Go.Proofs.Ytpleibjbfohenaa
open Go Go.Am Go.Proofs
/-! ### Journals -/
structure J where
  turn : Int
  life : Int
  dead : Bool
  im : List Int
def eJ (td : Nat) (j : J) : List AV := [.p td 0, .i .i64 j.life, .b j.dead, .i .i64 j.turn, vu j.im]
def eK (tr : Nat) (j : J) : List AV := [.p tr 0, .i .i64 j.turn, vu j.im, .i .i64 j.life, .b j.dead]
def dd (j : J) (d : D) : Bool := j.dead || !decide (j.life = d.life)
theorem f33 (t td : Nat) (j : J) (h : AH) (hm : h.row t = some (eJ td j)) : ACalls Try.prog 33 [.p t 0] h fun r h' => r = .b false ∧ h' = h := by
  refine pure_callV rfl fun h0 hr _ => ?_
  rw [← hr] at hm
  unfold eJ at hm
  refine a_fn fn33 (by simp) fun ok pos => ?_
  have := ok.row hm
  rw [initSt1]
  repeat' first
    | with_reducible refine k_seq ?_
    | with_reducible refine k_skip ?_
    | with_reducible refine k_blkS ?_
    | with_reducible refine k_blkR ?_
    | with_reducible refine k_blkC ?_
    | with_reducible refine k_blkH ?_
    | with_reducible refine k_blkB ?_
    | with_reducible refine k_blkK ?_
    | with_reducible refine k_blkE ?_
    | with_reducible refine k_reg ?_
    | with_reducible refine r_done ?_
    | with_reducible refine s_go (by simp (disch := omega) only [read_row hm, c33r0, c33r1, EV0, EV1, EV2, EV3, EV4, EV5, EV6, EV7, EV8, VALS, plug, ite_same, decide_true, decide_false, eq_self, ↓reduceIte, reduceCtorEq, Nat.reduceAdd, Nat.reduceEqDiff, Nat.reduceLT, Nat.reduceLeDiff, Nat.reduceMul, Nat.reduceSub, Nat.reduceDiv, Int.reduceToNat, Int.reduceAdd, Int.reduceSub, Int.reduceMul, Int.reduceNeg, Int.reduceEq, Int.reduceLT, Int.reduceLE]; with_reducible rfl) ?_
    | ((with_reducible refine chk_r ?_); refine r_callF (by simp only [CA, Nat.reduceEqDiff, ↓reduceIte]; rfl) (by exact rfl) (by simp only [CA, Nat.reduceEqDiff, ↓reduceIte]; rfl) rfl ?_)
    | (with_reducible refine k_condP (by simp only [GA, Nat.reduceEqDiff, ↓reduceIte]; rfl) (by first | (simp only [BO]; rfl) | rfl) (fun ht => ?_) (fun ht => ?_) <;> try (first | exact False.elim ht | exact absurd rfl ht | exact absurd trivial ht | exact Bool.noConfusion ht))
    | (with_reducible refine k_ret ?_; repeat with_reducible (first | refine ret_thru ?_ | refine ret_blk ?_ | refine fin ?_))
    | (with_reducible refine k_exit ?_; repeat with_reducible (first | refine thru ?_ | refine out_blk ?_ | refine pass (by decide) ?_))
    | (refine post1 ?_; simp only [GA, Nat.reduceEqDiff, ↓reduceIte])
    | (refine post2 ?_; simp only [GA, Nat.reduceEqDiff, ↓reduceIte])
    | (refine post3 ?_; simp only [GA, Nat.reduceEqDiff, ↓reduceIte])
    | (refine postc (by simp only [GA, Nat.reduceEqDiff, ↓reduceIte]; rfl) (by simp (disch := omega) only [read_row hm, c33r0, c33r1, EV0, EV1, EV2, EV3, EV4, EV5, EV6, EV7, EV8, VALS, plug, ite_same, decide_true, decide_false, eq_self, ↓reduceIte, reduceCtorEq, Nat.reduceAdd, Nat.reduceEqDiff, Nat.reduceLT, Nat.reduceLeDiff, Nat.reduceMul, Nat.reduceSub, Nat.reduceDiv, Int.reduceToNat, Int.reduceAdd, Int.reduceSub, Int.reduceMul, Int.reduceNeg, Int.reduceEq, Int.reduceLT, Int.reduceLE]; rfl) ?_)
    | refine post0 ?_
  all_goals first | exact ends_of | exact ends_eq rfl
theorem f23 (t td : Nat) (j : J) (h : AH) (hm : h.row t = some (eJ td j)) : ACalls Try.prog 23 [.p t 0] h fun r h' => r = .i .i64 j.turn ∧ h' = h := by
  have q := fun h hm => f33 t td j h hm
  refine pure_callV rfl fun h0 hr _ => ?_
  rw [← hr] at hm
  have hm0 := hm
  unfold eJ at hm
  refine a_fn fn23 (by simp) fun ok pos => ?_
  have := ok.row hm
  rw [initSt1]
  repeat' first
    | with_reducible refine k_seq ?_
    | with_reducible refine k_skip ?_
    | with_reducible refine k_blkS ?_
    | with_reducible refine k_blkR ?_
    | with_reducible refine k_blkC ?_
    | with_reducible refine k_blkH ?_
    | with_reducible refine k_blkB ?_
    | with_reducible refine k_blkK ?_
    | with_reducible refine k_blkE ?_
    | with_reducible refine k_reg ?_
    | with_reducible refine r_done ?_
    | with_reducible refine s_go (by simp (disch := omega) only [read_row hm, c23r0, c23r1, c23r2, c23r3, EV0, EV1, EV2, EV3, EV4, EV5, EV6, EV7, EV8, VALS, plug, ite_same, decide_true, decide_false, eq_self, ↓reduceIte, reduceCtorEq, Nat.reduceAdd, Nat.reduceEqDiff, Nat.reduceLT, Nat.reduceLeDiff, Nat.reduceMul, Nat.reduceSub, Nat.reduceDiv, Int.reduceToNat, Int.reduceAdd, Int.reduceSub, Int.reduceMul, Int.reduceNeg, Int.reduceEq, Int.reduceLT, Int.reduceLE]; with_reducible rfl) ?_
    | ((with_reducible refine chk_r ?_); refine r_callF (by simp only [CA, Nat.reduceEqDiff, ↓reduceIte]; rfl) (by exact rfl) (by simp only [CA, Nat.reduceEqDiff, ↓reduceIte]; rfl) rfl ?_)
    | ((with_reducible refine chk_r ?_); refine r_callP (by simp only [CA, Nat.reduceEqDiff, ↓reduceIte]; rfl) (by simp only [CA, Nat.reduceEqDiff, ↓reduceIte]; rfl) (by first | ((refine q _ ?_; simp (disch := omega) only [hm0, c23r0, c23r1, c23r2, c23r3, EV0, EV1, EV2, EV3, EV4, EV5, EV6, EV7, EV8, VALS, plug, ite_same, decide_true, decide_false, eq_self, ↓reduceIte, reduceCtorEq, Nat.reduceAdd, Nat.reduceEqDiff, Nat.reduceLT, Nat.reduceLeDiff, Nat.reduceMul, Nat.reduceSub, Nat.reduceDiv, Int.reduceToNat, Int.reduceAdd, Int.reduceSub, Int.reduceMul, Int.reduceNeg, Int.reduceEq, Int.reduceLT, Int.reduceLE]); all_goals fail)) rfl ?_)
    | (with_reducible refine k_condP (by simp only [GA, Nat.reduceEqDiff, ↓reduceIte]; rfl) (by first | (simp only [BO]; rfl) | rfl) (fun ht => ?_) (fun ht => ?_) <;> try (first | exact False.elim ht | exact absurd rfl ht | exact absurd trivial ht | exact Bool.noConfusion ht))
    | (with_reducible refine k_ret ?_; repeat with_reducible (first | refine ret_thru ?_ | refine ret_blk ?_ | refine fin ?_))
    | (with_reducible refine k_exit ?_; repeat with_reducible (first | refine thru ?_ | refine out_blk ?_ | refine pass (by decide) ?_))
    | (refine post1 ?_; simp only [GA, Nat.reduceEqDiff, ↓reduceIte])
    | (refine post2 ?_; simp only [GA, Nat.reduceEqDiff, ↓reduceIte])
    | (refine post3 ?_; simp only [GA, Nat.reduceEqDiff, ↓reduceIte])
    | (refine postc (by simp only [GA, Nat.reduceEqDiff, ↓reduceIte]; rfl) (by simp (disch := omega) only [read_row hm, c23r0, c23r1, c23r2, c23r3, EV0, EV1, EV2, EV3, EV4, EV5, EV6, EV7, EV8, VALS, plug, ite_same, decide_true, decide_false, eq_self, ↓reduceIte, reduceCtorEq, Nat.reduceAdd, Nat.reduceEqDiff, Nat.reduceLT, Nat.reduceLeDiff, Nat.reduceMul, Nat.reduceSub, Nat.reduceDiv, Int.reduceToNat, Int.reduceAdd, Int.reduceSub, Int.reduceMul, Int.reduceNeg, Int.reduceEq, Int.reduceLT, Int.reduceLE]; rfl) ?_)
    | refine post0 ?_
  all_goals first | exact ends_of | exact ends_eq rfl
theorem f13 (t td : Nat) (j : J) (hj : j.im.length ≤ 100000000) (h : AH) (hm : h.row t = some (eJ td j)) : ACalls Try.prog 13 [.p t 0] h fun r h' => r = vu j.im ∧ h' = h := by
  have q := fun h hm => f33 t td j h hm
  have q35 := pc35 j.im hj
  refine pure_callV (ul_plain _) fun h0 hr _ => ?_
  rw [← hr] at hm
  have hm0 := hm
  unfold eJ at hm
  refine a_fn fn13 (by simp) fun ok pos => ?_
  have := ok.row hm
  rw [initSt1]
  repeat' first
    | with_reducible refine k_seq ?_
    | with_reducible refine k_skip ?_
    | with_reducible refine k_blkS ?_
    | with_reducible refine k_blkR ?_
    | with_reducible refine k_blkC ?_
    | with_reducible refine k_blkH ?_
    | with_reducible refine k_blkB ?_
    | with_reducible refine k_blkK ?_
    | with_reducible refine k_blkE ?_
    | with_reducible refine k_reg ?_
    | with_reducible refine r_done ?_
    | with_reducible refine s_go (by simp (disch := omega) only [read_row hm, c13r0, c13r1, c13r2, c13r3, EV0, EV1, EV2, EV3, EV4, EV5, EV6, EV7, EV8, VALS, plug, ite_same, decide_true, decide_false, eq_self, ↓reduceIte, reduceCtorEq, Nat.reduceAdd, Nat.reduceEqDiff, Nat.reduceLT, Nat.reduceLeDiff, Nat.reduceMul, Nat.reduceSub, Nat.reduceDiv, Int.reduceToNat, Int.reduceAdd, Int.reduceSub, Int.reduceMul, Int.reduceNeg, Int.reduceEq, Int.reduceLT, Int.reduceLE]; with_reducible rfl) ?_
    | ((with_reducible refine chk_r ?_); refine r_callF (by simp only [CA, Nat.reduceEqDiff, ↓reduceIte]; rfl) (by exact rfl) (by simp only [CA, Nat.reduceEqDiff, ↓reduceIte]; rfl) rfl ?_)
    | ((with_reducible refine chk_r ?_); refine r_callP (by simp only [CA, Nat.reduceEqDiff, ↓reduceIte]; rfl) (by simp only [CA, Nat.reduceEqDiff, ↓reduceIte]; rfl) (by first | ((refine q _ ?_; simp (disch := omega) only [hm0, c13r0, c13r1, c13r2, c13r3, EV0, EV1, EV2, EV3, EV4, EV5, EV6, EV7, EV8, VALS, plug, ite_same, decide_true, decide_false, eq_self, ↓reduceIte, reduceCtorEq, Nat.reduceAdd, Nat.reduceEqDiff, Nat.reduceLT, Nat.reduceLeDiff, Nat.reduceMul, Nat.reduceSub, Nat.reduceDiv, Int.reduceToNat, Int.reduceAdd, Int.reduceSub, Int.reduceMul, Int.reduceNeg, Int.reduceEq, Int.reduceLT, Int.reduceLE]); all_goals fail) | exact q35 _) rfl ?_)
    | (with_reducible refine k_condP (by simp only [GA, Nat.reduceEqDiff, ↓reduceIte]; rfl) (by first | (simp only [BO]; rfl) | rfl) (fun ht => ?_) (fun ht => ?_) <;> try (first | exact False.elim ht | exact absurd rfl ht | exact absurd trivial ht | exact Bool.noConfusion ht))
    | (with_reducible refine k_ret ?_; repeat with_reducible (first | refine ret_thru ?_ | refine ret_blk ?_ | refine fin ?_))
    | (with_reducible refine k_exit ?_; repeat with_reducible (first | refine thru ?_ | refine out_blk ?_ | refine pass (by decide) ?_))
    | (refine post1 ?_; simp only [GA, Nat.reduceEqDiff, ↓reduceIte])
    | (refine post2 ?_; simp only [GA, Nat.reduceEqDiff, ↓reduceIte])
    | (refine post3 ?_; simp only [GA, Nat.reduceEqDiff, ↓reduceIte])
    | (refine postc (by simp only [GA, Nat.reduceEqDiff, ↓reduceIte]; rfl) (by simp (disch := omega) only [read_row hm, c13r0, c13r1, c13r2, c13r3, EV0, EV1, EV2, EV3, EV4, EV5, EV6, EV7, EV8, VALS, plug, ite_same, decide_true, decide_false, eq_self, ↓reduceIte, reduceCtorEq, Nat.reduceAdd, Nat.reduceEqDiff, Nat.reduceLT, Nat.reduceLeDiff, Nat.reduceMul, Nat.reduceSub, Nat.reduceDiv, Int.reduceToNat, Int.reduceAdd, Int.reduceSub, Int.reduceMul, Int.reduceNeg, Int.reduceEq, Int.reduceLT, Int.reduceLE]; rfl) ?_)
    | refine post0 ?_
  all_goals first | exact ends_of | exact ends_eq rfl
theorem f22 (t td : Nat) (j : J) (d : D) (h : AH) (hm : h.row t = some (eJ td j)) (hd : h.row td = some (eI d)) : ACalls Try.prog 22 [.p t 0] h fun r h' => r = .b (dd j d) ∧ h' = h := by
  have q := fun h hm => f33 t td j h hm
  refine pure_callV rfl fun h0 hr _ => ?_
  rw [← hr] at hm hd
  have hm0 := hm
  unfold eJ at hm
  unfold eI at hd
  refine a_fn fn22 (by simp) fun ok pos => ?_
  have := ok.row hm
  have := ok.row hd
  rw [initSt1]
  unfold dd
  cases hj : j.dead <;> rw [hj] at hm
  · repeat' first
      | with_reducible refine k_seq ?_
      | with_reducible refine k_skip ?_
      | with_reducible refine k_blkS ?_
      | with_reducible refine k_blkR ?_
      | with_reducible refine k_blkC ?_
      | with_reducible refine k_blkH ?_
      | with_reducible refine k_blkB ?_
      | with_reducible refine k_blkK ?_
      | with_reducible refine k_blkE ?_
      | with_reducible refine k_reg ?_
      | with_reducible refine k_head (by with_unfolding_all rfl) ?_
      | with_reducible refine k_headS ?_
      | (with_reducible refine SepK.mk ?_ ?_; (refine sepQ_P ?_; simp [sepQ, sepG, AOp.late, AOp.free, AOp.xs, AOp.isAl, tokNe, AV.tok, stS_get, strip, AX.val, c22r0, c22r1, GA]; try omega))
      | with_reducible refine r_done ?_
      | with_reducible refine hr_done ?_
      | with_reducible refine s_go (by simp (disch := omega) only [read_row hm, read_row hd, c22r0, c22r1, EV0, EV1, EV2, EV3, EV4, EV5, EV6, EV7, EV8, VALS, plug, ite_same, decide_true, decide_false, eq_self, ↓reduceIte, reduceCtorEq, Nat.reduceAdd, Nat.reduceEqDiff, Nat.reduceLT, Nat.reduceLeDiff, Nat.reduceMul, Nat.reduceSub, Nat.reduceDiv, Int.reduceToNat, Int.reduceAdd, Int.reduceSub, Int.reduceMul, Int.reduceNeg, Int.reduceEq, Int.reduceLT, Int.reduceLE]; with_reducible rfl) ?_
      | with_reducible refine h_go (by with_unfolding_all rfl) (by simp (disch := omega) only [read_row hm, read_row hd, c22r0, c22r1, EV0, EV1, EV2, EV3, EV4, EV5, EV6, EV7, EV8, VALS, plug, ite_same, decide_true, decide_false, eq_self, ↓reduceIte, reduceCtorEq, Nat.reduceAdd, Nat.reduceEqDiff, Nat.reduceLT, Nat.reduceLeDiff, Nat.reduceMul, Nat.reduceSub, Nat.reduceDiv, Int.reduceToNat, Int.reduceAdd, Int.reduceSub, Int.reduceMul, Int.reduceNeg, Int.reduceEq, Int.reduceLT, Int.reduceLE]; with_reducible rfl) ?_
      | ((with_reducible refine chk_r ?_); refine r_callF (by simp only [CA, Nat.reduceEqDiff, ↓reduceIte]; rfl) (by exact rfl) (by simp only [CA, Nat.reduceEqDiff, ↓reduceIte]; rfl) rfl ?_)
      | ((with_reducible refine chk_h ?_); refine hr_callF (by simp only [CA, Nat.reduceEqDiff, ↓reduceIte]; rfl) (by exact rfl) (by simp only [CA, Nat.reduceEqDiff, ↓reduceIte]; rfl) rfl ?_)
      | ((with_reducible refine chk_r ?_); refine r_callP (by simp only [CA, Nat.reduceEqDiff, ↓reduceIte]; rfl) (by simp only [CA, Nat.reduceEqDiff, ↓reduceIte]; rfl) (by first | ((refine q _ ?_; simp (disch := omega) only [hm0, c22r0, c22r1, EV0, EV1, EV2, EV3, EV4, EV5, EV6, EV7, EV8, VALS, plug, ite_same, decide_true, decide_false, eq_self, ↓reduceIte, reduceCtorEq, Nat.reduceAdd, Nat.reduceEqDiff, Nat.reduceLT, Nat.reduceLeDiff, Nat.reduceMul, Nat.reduceSub, Nat.reduceDiv, Int.reduceToNat, Int.reduceAdd, Int.reduceSub, Int.reduceMul, Int.reduceNeg, Int.reduceEq, Int.reduceLT, Int.reduceLE]); all_goals fail)) rfl ?_)
      | ((with_reducible refine chk_h ?_); refine hr_callP (by simp only [CA, Nat.reduceEqDiff, ↓reduceIte]; rfl) (by simp only [CA, Nat.reduceEqDiff, ↓reduceIte]; rfl) (by first | ((refine q _ ?_; simp (disch := omega) only [hm0, c22r0, c22r1, EV0, EV1, EV2, EV3, EV4, EV5, EV6, EV7, EV8, VALS, plug, ite_same, decide_true, decide_false, eq_self, ↓reduceIte, reduceCtorEq, Nat.reduceAdd, Nat.reduceEqDiff, Nat.reduceLT, Nat.reduceLeDiff, Nat.reduceMul, Nat.reduceSub, Nat.reduceDiv, Int.reduceToNat, Int.reduceAdd, Int.reduceSub, Int.reduceMul, Int.reduceNeg, Int.reduceEq, Int.reduceLT, Int.reduceLE]); all_goals fail)) rfl ?_)
      | ((with_reducible refine chk_h ?_); refine hr_callP1 (by simp only [CA, Nat.reduceEqDiff, ↓reduceIte]; rfl) (by simp only [CA, Nat.reduceEqDiff, ↓reduceIte]; rfl) (by simp (disch := omega) only [CA, Nat.reduceEqDiff, ↓reduceIte, firstTok_nil, firstTok_sl, firstTok_sl0, firstTok_i, firstTok_b, firstTok_ag, firstTok_p, firstTok_s]; rfl) (by first | ((refine q _ ?_; simp (disch := omega) only [hm0, c22r0, c22r1, EV0, EV1, EV2, EV3, EV4, EV5, EV6, EV7, EV8, VALS, plug, ite_same, decide_true, decide_false, eq_self, ↓reduceIte, reduceCtorEq, Nat.reduceAdd, Nat.reduceEqDiff, Nat.reduceLT, Nat.reduceLeDiff, Nat.reduceMul, Nat.reduceSub, Nat.reduceDiv, Int.reduceToNat, Int.reduceAdd, Int.reduceSub, Int.reduceMul, Int.reduceNeg, Int.reduceEq, Int.reduceLT, Int.reduceLE]); all_goals fail)) rfl ?_)
      | ((with_reducible refine chk_h ?_); refine hr_app (by simp (disch := omega) only [read_row hm, read_row hd, c22r0, c22r1, EV0, EV1, EV2, EV3, EV4, EV5, EV6, EV7, EV8, VALS, plug, ite_same, decide_true, decide_false, eq_self, ↓reduceIte, reduceCtorEq, Nat.reduceAdd, Nat.reduceEqDiff, Nat.reduceLT, Nat.reduceLeDiff, Nat.reduceMul, Nat.reduceSub, Nat.reduceDiv, Int.reduceToNat, Int.reduceAdd, Int.reduceSub, Int.reduceMul, Int.reduceNeg, Int.reduceEq, Int.reduceLT, Int.reduceLE]; with_reducible rfl) rfl ?_)
      | (with_reducible refine k_condP (by simp only [GA, Nat.reduceEqDiff, ↓reduceIte]; rfl) (by first | (simp only [BO]; rfl) | rfl) (fun ht => ?_) (fun ht => ?_) <;> try (first | exact False.elim ht | exact absurd rfl ht | exact absurd trivial ht | exact Bool.noConfusion ht))
      | (with_reducible refine k_ret ?_; repeat with_reducible (first | refine ret_thru ?_ | refine ret_blk ?_ | refine fin ?_))
      | (with_reducible refine k_exit ?_; repeat with_reducible (first | refine thru ?_ | refine out_blk ?_ | refine pass (by decide) ?_))
      | (refine post1 ?_; simp only [GA, Nat.reduceEqDiff, ↓reduceIte])
      | (refine post2 ?_; simp only [GA, Nat.reduceEqDiff, ↓reduceIte])
      | (refine post3 ?_; simp only [GA, Nat.reduceEqDiff, ↓reduceIte])
      | (refine postc (by simp only [GA, Nat.reduceEqDiff, ↓reduceIte]; rfl) (by simp (disch := omega) only [read_row hm, read_row hd, c22r0, c22r1, EV0, EV1, EV2, EV3, EV4, EV5, EV6, EV7, EV8, VALS, plug, ite_same, decide_true, decide_false, eq_self, ↓reduceIte, reduceCtorEq, Nat.reduceAdd, Nat.reduceEqDiff, Nat.reduceLT, Nat.reduceLeDiff, Nat.reduceMul, Nat.reduceSub, Nat.reduceDiv, Int.reduceToNat, Int.reduceAdd, Int.reduceSub, Int.reduceMul, Int.reduceNeg, Int.reduceEq, Int.reduceLT, Int.reduceLE]; rfl) ?_)
      | refine post0 ?_
    all_goals first | exact ends_of | exact ends_eq rfl
  · repeat' first
      | with_reducible refine k_seq ?_
      | with_reducible refine k_skip ?_
      | with_reducible refine k_blkS ?_
      | with_reducible refine k_blkR ?_
      | with_reducible refine k_blkC ?_
      | with_reducible refine k_blkH ?_
      | with_reducible refine k_blkB ?_
      | with_reducible refine k_blkK ?_
      | with_reducible refine k_blkE ?_
      | with_reducible refine k_reg ?_
      | with_reducible refine k_head (by with_unfolding_all rfl) ?_
      | with_reducible refine k_headS ?_
      | (with_reducible refine SepK.mk ?_ ?_; (refine sepQ_P ?_; simp [sepQ, sepG, AOp.late, AOp.free, AOp.xs, AOp.isAl, tokNe, AV.tok, stS_get, strip, AX.val, c22r0, c22r1, GA]; try omega))
      | with_reducible refine r_done ?_
      | with_reducible refine hr_done ?_
      | with_reducible refine s_go (by simp (disch := omega) only [read_row hm, read_row hd, c22r0, c22r1, EV0, EV1, EV2, EV3, EV4, EV5, EV6, EV7, EV8, VALS, plug, ite_same, decide_true, decide_false, eq_self, ↓reduceIte, reduceCtorEq, Nat.reduceAdd, Nat.reduceEqDiff, Nat.reduceLT, Nat.reduceLeDiff, Nat.reduceMul, Nat.reduceSub, Nat.reduceDiv, Int.reduceToNat, Int.reduceAdd, Int.reduceSub, Int.reduceMul, Int.reduceNeg, Int.reduceEq, Int.reduceLT, Int.reduceLE]; with_reducible rfl) ?_
      | with_reducible refine h_go (by with_unfolding_all rfl) (by simp (disch := omega) only [read_row hm, read_row hd, c22r0, c22r1, EV0, EV1, EV2, EV3, EV4, EV5, EV6, EV7, EV8, VALS, plug, ite_same, decide_true, decide_false, eq_self, ↓reduceIte, reduceCtorEq, Nat.reduceAdd, Nat.reduceEqDiff, Nat.reduceLT, Nat.reduceLeDiff, Nat.reduceMul, Nat.reduceSub, Nat.reduceDiv, Int.reduceToNat, Int.reduceAdd, Int.reduceSub, Int.reduceMul, Int.reduceNeg, Int.reduceEq, Int.reduceLT, Int.reduceLE]; with_reducible rfl) ?_
      | ((with_reducible refine chk_r ?_); refine r_callF (by simp only [CA, Nat.reduceEqDiff, ↓reduceIte]; rfl) (by exact rfl) (by simp only [CA, Nat.reduceEqDiff, ↓reduceIte]; rfl) rfl ?_)
      | ((with_reducible refine chk_h ?_); refine hr_callF (by simp only [CA, Nat.reduceEqDiff, ↓reduceIte]; rfl) (by exact rfl) (by simp only [CA, Nat.reduceEqDiff, ↓reduceIte]; rfl) rfl ?_)
      | ((with_reducible refine chk_r ?_); refine r_callP (by simp only [CA, Nat.reduceEqDiff, ↓reduceIte]; rfl) (by simp only [CA, Nat.reduceEqDiff, ↓reduceIte]; rfl) (by first | ((refine q _ ?_; simp (disch := omega) only [hm0, c22r0, c22r1, EV0, EV1, EV2, EV3, EV4, EV5, EV6, EV7, EV8, VALS, plug, ite_same, decide_true, decide_false, eq_self, ↓reduceIte, reduceCtorEq, Nat.reduceAdd, Nat.reduceEqDiff, Nat.reduceLT, Nat.reduceLeDiff, Nat.reduceMul, Nat.reduceSub, Nat.reduceDiv, Int.reduceToNat, Int.reduceAdd, Int.reduceSub, Int.reduceMul, Int.reduceNeg, Int.reduceEq, Int.reduceLT, Int.reduceLE]); all_goals fail)) rfl ?_)
      | ((with_reducible refine chk_h ?_); refine hr_callP (by simp only [CA, Nat.reduceEqDiff, ↓reduceIte]; rfl) (by simp only [CA, Nat.reduceEqDiff, ↓reduceIte]; rfl) (by first | ((refine q _ ?_; simp (disch := omega) only [hm0, c22r0, c22r1, EV0, EV1, EV2, EV3, EV4, EV5, EV6, EV7, EV8, VALS, plug, ite_same, decide_true, decide_false, eq_self, ↓reduceIte, reduceCtorEq, Nat.reduceAdd, Nat.reduceEqDiff, Nat.reduceLT, Nat.reduceLeDiff, Nat.reduceMul, Nat.reduceSub, Nat.reduceDiv, Int.reduceToNat, Int.reduceAdd, Int.reduceSub, Int.reduceMul, Int.reduceNeg, Int.reduceEq, Int.reduceLT, Int.reduceLE]); all_goals fail)) rfl ?_)
      | ((with_reducible refine chk_h ?_); refine hr_callP1 (by simp only [CA, Nat.reduceEqDiff, ↓reduceIte]; rfl) (by simp only [CA, Nat.reduceEqDiff, ↓reduceIte]; rfl) (by simp (disch := omega) only [CA, Nat.reduceEqDiff, ↓reduceIte, firstTok_nil, firstTok_sl, firstTok_sl0, firstTok_i, firstTok_b, firstTok_ag, firstTok_p, firstTok_s]; rfl) (by first | ((refine q _ ?_; simp (disch := omega) only [hm0, c22r0, c22r1, EV0, EV1, EV2, EV3, EV4, EV5, EV6, EV7, EV8, VALS, plug, ite_same, decide_true, decide_false, eq_self, ↓reduceIte, reduceCtorEq, Nat.reduceAdd, Nat.reduceEqDiff, Nat.reduceLT, Nat.reduceLeDiff, Nat.reduceMul, Nat.reduceSub, Nat.reduceDiv, Int.reduceToNat, Int.reduceAdd, Int.reduceSub, Int.reduceMul, Int.reduceNeg, Int.reduceEq, Int.reduceLT, Int.reduceLE]); all_goals fail)) rfl ?_)
      | ((with_reducible refine chk_h ?_); refine hr_app (by simp (disch := omega) only [read_row hm, read_row hd, c22r0, c22r1, EV0, EV1, EV2, EV3, EV4, EV5, EV6, EV7, EV8, VALS, plug, ite_same, decide_true, decide_false, eq_self, ↓reduceIte, reduceCtorEq, Nat.reduceAdd, Nat.reduceEqDiff, Nat.reduceLT, Nat.reduceLeDiff, Nat.reduceMul, Nat.reduceSub, Nat.reduceDiv, Int.reduceToNat, Int.reduceAdd, Int.reduceSub, Int.reduceMul, Int.reduceNeg, Int.reduceEq, Int.reduceLT, Int.reduceLE]; with_reducible rfl) rfl ?_)
      | (with_reducible refine k_condP (by simp only [GA, Nat.reduceEqDiff, ↓reduceIte]; rfl) (by first | (simp only [BO]; rfl) | rfl) (fun ht => ?_) (fun ht => ?_) <;> try (first | exact False.elim ht | exact absurd rfl ht | exact absurd trivial ht | exact Bool.noConfusion ht))
      | (with_reducible refine k_ret ?_; repeat with_reducible (first | refine ret_thru ?_ | refine ret_blk ?_ | refine fin ?_))
      | (with_reducible refine k_exit ?_; repeat with_reducible (first | refine thru ?_ | refine out_blk ?_ | refine pass (by decide) ?_))
      | (refine post1 ?_; simp only [GA, Nat.reduceEqDiff, ↓reduceIte])
      | (refine post2 ?_; simp only [GA, Nat.reduceEqDiff, ↓reduceIte])
      | (refine post3 ?_; simp only [GA, Nat.reduceEqDiff, ↓reduceIte])
      | (refine postc (by simp only [GA, Nat.reduceEqDiff, ↓reduceIte]; rfl) (by simp (disch := omega) only [read_row hm, read_row hd, c22r0, c22r1, EV0, EV1, EV2, EV3, EV4, EV5, EV6, EV7, EV8, VALS, plug, ite_same, decide_true, decide_false, eq_self, ↓reduceIte, reduceCtorEq, Nat.reduceAdd, Nat.reduceEqDiff, Nat.reduceLT, Nat.reduceLeDiff, Nat.reduceMul, Nat.reduceSub, Nat.reduceDiv, Int.reduceToNat, Int.reduceAdd, Int.reduceSub, Int.reduceMul, Int.reduceNeg, Int.reduceEq, Int.reduceLT, Int.reduceLE]; rfl) ?_)
      | refine post0 ?_
    all_goals first | exact ends_of | exact ends_eq rfl
/-! ### Open -/
def oS (slot : Int) (b : List Int) (p : Int × List Int) : Int × List Int := if hOk slot b = true ∧ p.1 < hT slot b then (hT slot b, hIm slot b) else p
def oP (d : D) : Nat → Int × List Int
  | 0 => (0, [])
  | k + 1 => oS k (slotOf d k) (oP d k)
def opn (d : D) : J := ⟨(oP d 2).1, d.life, false, (oP d 2).2⟩
theorem D.ok.at {d : D} (ok : d.ok) (k : Int) : (slotOf d k).length ≤ 100000000 ∧ BY (slotOf d k) := by
  unfold slotOf
  split
  · exact ⟨ok.n0, ok.b0⟩
  · exact ⟨ok.n1, ok.b1⟩
theorem row_eq {h h' : AH} {t : Nat} (e : h'.m t = h.m t) : h'.row t = h.row t := by unfold AH.row; rw [e]
theorem New.row {t : Nat} {cs : List AV} {h h' : AH} (N : New t cs h h') (ok : h.ok) {s : Nat} {ds : List AV} (hs : h.row s = some ds) : h'.row s = some ds := by rw [row_eq (N.keep s (ok.row hs))]; exact hs
theorem rd_at {d : D} (hd : d.off = false) {k : Nat} (hk : k < 2) : rdD d k = (slotOf d k, 0) := by
  unfold rdD
  rw [if_neg (by rw [hd]; exact Bool.false_ne_true), if_neg]
  omega
theorem oS_yes {slot : Int} {b : List Int} {p : Int × List Int} (h : hOk slot b = true) (h2 : p.1 < hT slot b) : oS slot b p = (hT slot b, hIm slot b) := by unfold oS; rw [if_pos ⟨h, h2⟩]
theorem oS_no {slot : Int} {b : List Int} {p : Int × List Int} (h : ¬ (hOk slot b = true ∧ p.1 < hT slot b)) : oS slot b p = p := by unfold oS; rw [if_neg h]
set_option maxHeartbeats 1000000 in
theorem f10 (td : Nat) (d : D) (dok : d.ok) (hd : d.off = false) (h : AH) (hm : h.row td = some (eI d)) : ACalls Try.prog 10 [.p td 0] h fun r h' => ∃ t, r = .tu [.p t 0, .i .i64 0] ∧ New t (eJ td (opn d)) h h' := by
  have q31 := fun h hm => f31 td d h hm
  rw [hd] at q31
  have q15 := fun k h hm => f15 td d dok k h hm
  have hm0 := hm
  unfold eI at hm
  refine a_fn fn10 (by simp) fun ok pos => ?_
  have lt := ok.row hm
  rw [initSt1]
  repeat' first
    | with_reducible refine k_seq ?_
    | with_reducible refine k_skip ?_
    | with_reducible refine k_blkS ?_
    | with_reducible refine k_blkR ?_
    | with_reducible refine k_blkC ?_
    | with_reducible refine k_blkH ?_
    | with_reducible refine k_blkB ?_
    | with_reducible refine k_blkK ?_
    | with_reducible refine k_blkE ?_
    | with_reducible refine k_reg ?_
    | with_reducible refine r_done ?_
    | with_reducible refine s_go (by simp (disch := omega) only [read_row hm, c10r0, c10r1, c10r2, c10r3, c10r4, c10r5, c10r6, c10r7, c10r8, c10r9, c10r10, c10r11, c10r13, EV0, EV1, EV2, EV3, EV4, EV5, EV6, EV7, EV8, VALS, plug, ite_same, decide_true, decide_false, eq_self, ↓reduceIte, reduceCtorEq, Nat.reduceAdd, Nat.reduceEqDiff, Nat.reduceLT, Nat.reduceLeDiff, Nat.reduceMul, Nat.reduceSub, Nat.reduceDiv, Int.reduceToNat, Int.reduceAdd, Int.reduceSub, Int.reduceMul, Int.reduceNeg, Int.reduceEq, Int.reduceLT, Int.reduceLE]; with_reducible rfl) ?_
    | ((with_reducible refine chk_r ?_); refine r_callF (by simp only [CA, Nat.reduceEqDiff, ↓reduceIte]; rfl) (by exact rfl) (by simp only [CA, Nat.reduceEqDiff, ↓reduceIte]; rfl) rfl ?_)
    | ((with_reducible refine chk_r ?_); refine r_callP (by simp only [CA, Nat.reduceEqDiff, ↓reduceIte]; rfl) (by simp only [CA, Nat.reduceEqDiff, ↓reduceIte]; rfl) (by first | ((refine q31 _ ?_; simp (disch := omega) only [hm0, c10r0, c10r1, c10r2, c10r3, c10r4, c10r5, c10r6, c10r7, c10r8, c10r9, c10r10, c10r11, c10r13, EV0, EV1, EV2, EV3, EV4, EV5, EV6, EV7, EV8, VALS, plug, ite_same, decide_true, decide_false, eq_self, ↓reduceIte, reduceCtorEq, Nat.reduceAdd, Nat.reduceEqDiff, Nat.reduceLT, Nat.reduceLeDiff, Nat.reduceMul, Nat.reduceSub, Nat.reduceDiv, Int.reduceToNat, Int.reduceAdd, Int.reduceSub, Int.reduceMul, Int.reduceNeg, Int.reduceEq, Int.reduceLT, Int.reduceLE]); all_goals fail)) rfl ?_)
    | (with_reducible refine k_condP (by simp only [GA, Nat.reduceEqDiff, ↓reduceIte]; rfl) (by first | (simp only [BO]; rfl) | rfl) (fun ht => ?_) (fun ht => ?_) <;> try (first | exact False.elim ht | exact absurd rfl ht | exact absurd trivial ht | exact Bool.noConfusion ht))
    | (with_reducible refine k_ret ?_; repeat with_reducible (first | refine ret_thru ?_ | refine ret_blk ?_ | refine fin ?_))
    | (with_reducible refine k_exit ?_; repeat with_reducible (first | refine thru ?_ | refine out_blk ?_ | refine pass (by decide) ?_))
    | (refine post1 ?_; simp only [GA, Nat.reduceEqDiff, ↓reduceIte])
    | (refine post2 ?_; simp only [GA, Nat.reduceEqDiff, ↓reduceIte])
    | (refine post3 ?_; simp only [GA, Nat.reduceEqDiff, ↓reduceIte])
    | (refine postc (by simp only [GA, Nat.reduceEqDiff, ↓reduceIte]; rfl) (by simp (disch := omega) only [read_row hm, c10r0, c10r1, c10r2, c10r3, c10r4, c10r5, c10r6, c10r7, c10r8, c10r9, c10r10, c10r11, c10r13, EV0, EV1, EV2, EV3, EV4, EV5, EV6, EV7, EV8, VALS, plug, ite_same, decide_true, decide_false, eq_self, ↓reduceIte, reduceCtorEq, Nat.reduceAdd, Nat.reduceEqDiff, Nat.reduceLT, Nat.reduceLeDiff, Nat.reduceMul, Nat.reduceSub, Nat.reduceDiv, Int.reduceToNat, Int.reduceAdd, Int.reduceSub, Int.reduceMul, Int.reduceNeg, Int.reduceEq, Int.reduceLT, Int.reduceLE]; rfl) ?_)
    | refine post0 ?_
  refine w_zero (s := h.nx + 2 + 2 + 6) (ds' := eJ td ⟨0, d.life, false, []⟩) (by simp (disch := omega) only [c10r0, c10r1, c10r2, c10r3, c10r4, c10r5, c10r6, c10r7, c10r8, c10r9, c10r10, c10r11, c10r13, EV0, EV1, EV2, EV3, EV4, EV5, EV6, EV7, EV8, VALS, plug, ite_same, decide_true, decide_false, eq_self, ↓reduceIte, reduceCtorEq, Nat.reduceAdd, Nat.reduceEqDiff, Nat.reduceLT, Nat.reduceLeDiff, Nat.reduceMul, Nat.reduceSub, Nat.reduceDiv, Int.reduceToNat, Int.reduceAdd, Int.reduceSub, Int.reduceMul, Int.reduceNeg, Int.reduceEq, Int.reduceLT, Int.reduceLE] <;> rfl) (.cons .same (.cons .same (.cons .same (.cons .same (.cons .nil .nil))))) ?_
  refine k_blk (k_loopS (X := Nat) [0, 4, 20] 2 (fun k t => [(0, .p td 0), (4, .p t 0), (20, .i .i64 (k : Int))]) (fun k t h' => New t (eJ td ⟨(oP d k).1, d.life, false, (oP d k).2⟩) h h') _ (by simp only [Am.keep, List.map_cons, List.map_nil, GA, Nat.reduceEqDiff, ↓reduceIte]; try rfl) ⟨by omega, by simp (disch := omega) only [c10r0, c10r1, c10r2, c10r3, c10r4, c10r5, c10r6, c10r7, c10r8, c10r9, c10r10, c10r11, c10r13, EV0, EV1, EV2, EV3, EV4, EV5, EV6, EV7, EV8, VALS, plug, ite_same, decide_true, decide_false, eq_self, ↓reduceIte, reduceCtorEq, Nat.reduceAdd, Nat.reduceEqDiff, Nat.reduceLT, Nat.reduceLeDiff, Nat.reduceMul, Nat.reduceSub, Nat.reduceDiv, Int.reduceToNat, Int.reduceAdd, Int.reduceSub, Int.reduceMul, Int.reduceNeg, Int.reduceEq, Int.reduceLT, Int.reduceLE] <;> rfl, fun s hs => (by simp (disch := omega) only [c10r0, c10r1, c10r2, c10r3, c10r4, c10r5, c10r6, c10r7, c10r8, c10r9, c10r10, c10r11, c10r13, EV0, EV1, EV2, EV3, EV4, EV5, EV6, EV7, EV8, VALS, plug, ite_same, decide_true, decide_false, eq_self, ↓reduceIte, reduceCtorEq, Nat.reduceAdd, Nat.reduceEqDiff, Nat.reduceLT, Nat.reduceLeDiff, Nat.reduceMul, Nat.reduceSub, Nat.reduceDiv, Int.reduceToNat, Int.reduceAdd, Int.reduceSub, Int.reduceMul, Int.reduceNeg, Int.reduceEq, Int.reduceLT, Int.reduceLE]), by simp (disch := omega) only [c10r0, c10r1, c10r2, c10r3, c10r4, c10r5, c10r6, c10r7, c10r8, c10r9, c10r10, c10r11, c10r13, EV0, EV1, EV2, EV3, EV4, EV5, EV6, EV7, EV8, VALS, plug, ite_same, decide_true, decide_false, eq_self, ↓reduceIte, reduceCtorEq, Nat.reduceAdd, Nat.reduceEqDiff, Nat.reduceLT, Nat.reduceLeDiff, Nat.reduceMul, Nat.reduceSub, Nat.reduceDiv, Int.reduceToNat, Int.reduceAdd, Int.reduceSub, Int.reduceMul, Int.reduceNeg, Int.reduceEq, Int.reduceLT, Int.reduceLE] <;> omega, by simp (disch := omega) only [c10r0, c10r1, c10r2, c10r3, c10r4, c10r5, c10r6, c10r7, c10r8, c10r9, c10r10, c10r11, c10r13, EV0, EV1, EV2, EV3, EV4, EV5, EV6, EV7, EV8, VALS, plug, ite_same, decide_true, decide_false, eq_self, ↓reduceIte, reduceCtorEq, Nat.reduceAdd, Nat.reduceEqDiff, Nat.reduceLT, Nat.reduceLeDiff, Nat.reduceMul, Nat.reduceSub, Nat.reduceDiv, Int.reduceToNat, Int.reduceAdd, Int.reduceSub, Int.reduceMul, Int.reduceNeg, Int.reduceEq, Int.reduceLT, Int.reduceLE] <;> omega⟩ ?_)
  rintro k t h1 hk N ok1 pos1
  have hr := N.row ok hm0
  have hm1 := N.m
  have lt1 := ok1.m hm1
  have t0 := N.t0
  have nx := N.nx
  by_cases hlt : k < 2
  · have hlt' : (k : Int) < 2 := by omega
    have q15 := fun h hm => q15 k h hm
    rw [rd_at hd hlt] at q15
    obtain ⟨bl, bb⟩ := dok.at k
    have q32 := pc32 k (slotOf d k) bb bl
    have es : oP d (k + 1) = oS k (slotOf d k) (oP d k) := rfl
    by_cases c : hOk k (slotOf d k) = true ∧ (oP d k).1 < hT k (slotOf d k)
    · rw [oS_yes c.1 c.2] at es
      rw [c.1] at q32
      have c2 := c.2
      rw [es]
      generalize hT k (slotOf d k) = T at *
      generalize hIm k (slotOf d k) = I at *
      generalize (oP d k).1 = T0 at *
      generalize (oP d k).2 = I0 at *
      unfold eJ at hm1
      repeat' first
        | with_reducible refine k_seq ?_
        | with_reducible refine k_skip ?_
        | with_reducible refine k_blkS ?_
        | with_reducible refine k_blkR ?_
        | with_reducible refine k_blkC ?_
        | with_reducible refine k_blkH ?_
        | with_reducible refine k_blkB ?_
        | with_reducible refine k_blkK ?_
        | with_reducible refine k_blkE ?_
        | with_reducible refine k_reg ?_
        | with_reducible refine r_done ?_
        | with_reducible refine s_go (by simp (disch := omega) only [hlt', hm1, row_m hm1, read_row (row_m hm1), c2, c10r0, c10r1, c10r2, c10r3, c10r4, c10r5, c10r6, c10r7, c10r8, c10r9, c10r10, c10r11, c10r13, EV0, EV1, EV2, EV3, EV4, EV5, EV6, EV7, EV8, VALS, plug, ite_same, decide_true, decide_false, eq_self, ↓reduceIte, reduceCtorEq, Nat.reduceAdd, Nat.reduceEqDiff, Nat.reduceLT, Nat.reduceLeDiff, Nat.reduceMul, Nat.reduceSub, Nat.reduceDiv, Int.reduceToNat, Int.reduceAdd, Int.reduceSub, Int.reduceMul, Int.reduceNeg, Int.reduceEq, Int.reduceLT, Int.reduceLE]; with_reducible rfl) ?_
        | ((with_reducible refine chk_r ?_); refine r_callF (by simp only [CA, Nat.reduceEqDiff, ↓reduceIte]; rfl) (by exact rfl) (by simp only [CA, Nat.reduceEqDiff, ↓reduceIte]; rfl) rfl ?_)
        | ((with_reducible refine chk_r ?_); refine r_callP (by simp only [CA, Nat.reduceEqDiff, ↓reduceIte]; rfl) (by simp only [CA, Nat.reduceEqDiff, ↓reduceIte]; rfl) (by first | ((refine q15 _ ?_; simp (disch := omega) only [hr, c10r0, c10r1, c10r2, c10r3, c10r4, c10r5, c10r6, c10r7, c10r8, c10r9, c10r10, c10r11, c10r13, EV0, EV1, EV2, EV3, EV4, EV5, EV6, EV7, EV8, VALS, plug, ite_same, decide_true, decide_false, eq_self, ↓reduceIte, reduceCtorEq, Nat.reduceAdd, Nat.reduceEqDiff, Nat.reduceLT, Nat.reduceLeDiff, Nat.reduceMul, Nat.reduceSub, Nat.reduceDiv, Int.reduceToNat, Int.reduceAdd, Int.reduceSub, Int.reduceMul, Int.reduceNeg, Int.reduceEq, Int.reduceLT, Int.reduceLE]); all_goals fail) | exact q32 _) rfl ?_)
        | (with_reducible refine k_condP (by simp only [GA, Nat.reduceEqDiff, ↓reduceIte]; rfl) (by first | (simp only [BO]; rfl) | rfl) (fun ht => ?_) (fun ht => ?_) <;> try (first | exact False.elim ht | exact absurd rfl ht | exact absurd trivial ht | exact Bool.noConfusion ht))
        | (with_reducible refine k_ret ?_; repeat with_reducible (first | refine ret_thru ?_ | refine ret_blk ?_ | refine fin ?_))
        | (with_reducible refine k_exit ?_; repeat with_reducible (first | refine thru ?_ | refine out_blk ?_ | refine pass (by decide) ?_))
        | (refine post1 ?_; simp only [GA, Nat.reduceEqDiff, ↓reduceIte])
        | (refine post2 ?_; simp only [GA, Nat.reduceEqDiff, ↓reduceIte])
        | (refine post3 ?_; simp only [GA, Nat.reduceEqDiff, ↓reduceIte])
        | (refine postc (by simp only [GA, Nat.reduceEqDiff, ↓reduceIte]; rfl) (by simp (disch := omega) only [hlt', hm1, row_m hm1, read_row (row_m hm1), c2, c10r0, c10r1, c10r2, c10r3, c10r4, c10r5, c10r6, c10r7, c10r8, c10r9, c10r10, c10r11, c10r13, EV0, EV1, EV2, EV3, EV4, EV5, EV6, EV7, EV8, VALS, plug, ite_same, decide_true, decide_false, eq_self, ↓reduceIte, reduceCtorEq, Nat.reduceAdd, Nat.reduceEqDiff, Nat.reduceLT, Nat.reduceLeDiff, Nat.reduceMul, Nat.reduceSub, Nat.reduceDiv, Int.reduceToNat, Int.reduceAdd, Int.reduceSub, Int.reduceMul, Int.reduceNeg, Int.reduceEq, Int.reduceLT, Int.reduceLE]; rfl) ?_)
        | refine post0 ?_
      exact ⟨hlt, t, (by simp only [Am.keep, List.map_cons, List.map_nil, GA, Nat.reduceEqDiff, ↓reduceIte]; try rfl), t0, by simp (disch := omega) only [c10r0, c10r1, c10r2, c10r3, c10r4, c10r5, c10r6, c10r7, c10r8, c10r9, c10r10, c10r11, c10r13, EV0, EV1, EV2, EV3, EV4, EV5, EV6, EV7, EV8, VALS, plug, ite_same, decide_true, decide_false, eq_self, ↓reduceIte, reduceCtorEq, Nat.reduceAdd, Nat.reduceEqDiff, Nat.reduceLT, Nat.reduceLeDiff, Nat.reduceMul, Nat.reduceSub, Nat.reduceDiv, Int.reduceToNat, Int.reduceAdd, Int.reduceSub, Int.reduceMul, Int.reduceNeg, Int.reduceEq, Int.reduceLT, Int.reduceLE] <;> rfl, fun s hs => by have e1 := N.keep s hs; have e2 : s ≠ t := (by omega); (simp (disch := omega) only [e1, e2, c10r0, c10r1, c10r2, c10r3, c10r4, c10r5, c10r6, c10r7, c10r8, c10r9, c10r10, c10r11, c10r13, EV0, EV1, EV2, EV3, EV4, EV5, EV6, EV7, EV8, VALS, plug, ite_same, decide_true, decide_false, eq_self, ↓reduceIte, reduceCtorEq, Nat.reduceAdd, Nat.reduceEqDiff, Nat.reduceLT, Nat.reduceLeDiff, Nat.reduceMul, Nat.reduceSub, Nat.reduceDiv, Int.reduceToNat, Int.reduceAdd, Int.reduceSub, Int.reduceMul, Int.reduceNeg, Int.reduceEq, Int.reduceLT, Int.reduceLE]), by simp (disch := omega) only [c10r0, c10r1, c10r2, c10r3, c10r4, c10r5, c10r6, c10r7, c10r8, c10r9, c10r10, c10r11, c10r13, EV0, EV1, EV2, EV3, EV4, EV5, EV6, EV7, EV8, VALS, plug, ite_same, decide_true, decide_false, eq_self, ↓reduceIte, reduceCtorEq, Nat.reduceAdd, Nat.reduceEqDiff, Nat.reduceLT, Nat.reduceLeDiff, Nat.reduceMul, Nat.reduceSub, Nat.reduceDiv, Int.reduceToNat, Int.reduceAdd, Int.reduceSub, Int.reduceMul, Int.reduceNeg, Int.reduceEq, Int.reduceLT, Int.reduceLE] <;> omega, by simp (disch := omega) only [c10r0, c10r1, c10r2, c10r3, c10r4, c10r5, c10r6, c10r7, c10r8, c10r9, c10r10, c10r11, c10r13, EV0, EV1, EV2, EV3, EV4, EV5, EV6, EV7, EV8, VALS, plug, ite_same, decide_true, decide_false, eq_self, ↓reduceIte, reduceCtorEq, Nat.reduceAdd, Nat.reduceEqDiff, Nat.reduceLT, Nat.reduceLeDiff, Nat.reduceMul, Nat.reduceSub, Nat.reduceDiv, Int.reduceToNat, Int.reduceAdd, Int.reduceSub, Int.reduceMul, Int.reduceNeg, Int.reduceEq, Int.reduceLT, Int.reduceLE] <;> omega⟩
    · rw [oS_no c] at es
      rw [es]
      generalize hT k (slotOf d k) = T at *
      generalize hIm k (slotOf d k) = I at *
      generalize (oP d k).1 = T0 at *
      generalize (oP d k).2 = I0 at *
      generalize hOk k (slotOf d k) = O at *
      have hm2 := hm1
      unfold eJ at hm1
      cases O with
      | true =>
        have c2 : ¬ T0 < T := fun q => c ⟨rfl, q⟩
        repeat' first
          | with_reducible refine k_seq ?_
          | with_reducible refine k_skip ?_
          | with_reducible refine k_blkS ?_
          | with_reducible refine k_blkR ?_
          | with_reducible refine k_blkC ?_
          | with_reducible refine k_blkH ?_
          | with_reducible refine k_blkB ?_
          | with_reducible refine k_blkK ?_
          | with_reducible refine k_blkE ?_
          | with_reducible refine k_reg ?_
          | with_reducible refine r_done ?_
          | with_reducible refine s_go (by simp (disch := omega) only [hlt', hm1, row_m hm1, read_row (row_m hm1), c2, c10r0, c10r1, c10r2, c10r3, c10r4, c10r5, c10r6, c10r7, c10r8, c10r9, c10r10, c10r11, c10r13, EV0, EV1, EV2, EV3, EV4, EV5, EV6, EV7, EV8, VALS, plug, ite_same, decide_true, decide_false, eq_self, ↓reduceIte, reduceCtorEq, Nat.reduceAdd, Nat.reduceEqDiff, Nat.reduceLT, Nat.reduceLeDiff, Nat.reduceMul, Nat.reduceSub, Nat.reduceDiv, Int.reduceToNat, Int.reduceAdd, Int.reduceSub, Int.reduceMul, Int.reduceNeg, Int.reduceEq, Int.reduceLT, Int.reduceLE]; with_reducible rfl) ?_
          | ((with_reducible refine chk_r ?_); refine r_callF (by simp only [CA, Nat.reduceEqDiff, ↓reduceIte]; rfl) (by exact rfl) (by simp only [CA, Nat.reduceEqDiff, ↓reduceIte]; rfl) rfl ?_)
          | ((with_reducible refine chk_r ?_); refine r_callP (by simp only [CA, Nat.reduceEqDiff, ↓reduceIte]; rfl) (by simp only [CA, Nat.reduceEqDiff, ↓reduceIte]; rfl) (by first | ((refine q15 _ ?_; simp (disch := omega) only [hr, c10r0, c10r1, c10r2, c10r3, c10r4, c10r5, c10r6, c10r7, c10r8, c10r9, c10r10, c10r11, c10r13, EV0, EV1, EV2, EV3, EV4, EV5, EV6, EV7, EV8, VALS, plug, ite_same, decide_true, decide_false, eq_self, ↓reduceIte, reduceCtorEq, Nat.reduceAdd, Nat.reduceEqDiff, Nat.reduceLT, Nat.reduceLeDiff, Nat.reduceMul, Nat.reduceSub, Nat.reduceDiv, Int.reduceToNat, Int.reduceAdd, Int.reduceSub, Int.reduceMul, Int.reduceNeg, Int.reduceEq, Int.reduceLT, Int.reduceLE]); all_goals fail) | exact q32 _) rfl ?_)
          | (with_reducible refine k_condP (by simp only [GA, Nat.reduceEqDiff, ↓reduceIte]; rfl) (by first | (simp only [BO]; rfl) | rfl) (fun ht => ?_) (fun ht => ?_) <;> try (first | exact False.elim ht | exact absurd rfl ht | exact absurd trivial ht | exact Bool.noConfusion ht))
          | (with_reducible refine k_ret ?_; repeat with_reducible (first | refine ret_thru ?_ | refine ret_blk ?_ | refine fin ?_))
          | (with_reducible refine k_exit ?_; repeat with_reducible (first | refine thru ?_ | refine out_blk ?_ | refine pass (by decide) ?_))
          | (refine post1 ?_; simp only [GA, Nat.reduceEqDiff, ↓reduceIte])
          | (refine post2 ?_; simp only [GA, Nat.reduceEqDiff, ↓reduceIte])
          | (refine post3 ?_; simp only [GA, Nat.reduceEqDiff, ↓reduceIte])
          | (refine postc (by simp only [GA, Nat.reduceEqDiff, ↓reduceIte]; rfl) (by simp (disch := omega) only [hlt', hm1, row_m hm1, read_row (row_m hm1), c2, c10r0, c10r1, c10r2, c10r3, c10r4, c10r5, c10r6, c10r7, c10r8, c10r9, c10r10, c10r11, c10r13, EV0, EV1, EV2, EV3, EV4, EV5, EV6, EV7, EV8, VALS, plug, ite_same, decide_true, decide_false, eq_self, ↓reduceIte, reduceCtorEq, Nat.reduceAdd, Nat.reduceEqDiff, Nat.reduceLT, Nat.reduceLeDiff, Nat.reduceMul, Nat.reduceSub, Nat.reduceDiv, Int.reduceToNat, Int.reduceAdd, Int.reduceSub, Int.reduceMul, Int.reduceNeg, Int.reduceEq, Int.reduceLT, Int.reduceLE]; rfl) ?_)
          | refine post0 ?_
        exact ⟨hlt, t, (by simp only [Am.keep, List.map_cons, List.map_nil, GA, Nat.reduceEqDiff, ↓reduceIte]; try rfl), t0, by simp (disch := omega) only [hm2, c10r0, c10r1, c10r2, c10r3, c10r4, c10r5, c10r6, c10r7, c10r8, c10r9, c10r10, c10r11, c10r13, EV0, EV1, EV2, EV3, EV4, EV5, EV6, EV7, EV8, VALS, plug, ite_same, decide_true, decide_false, eq_self, ↓reduceIte, reduceCtorEq, Nat.reduceAdd, Nat.reduceEqDiff, Nat.reduceLT, Nat.reduceLeDiff, Nat.reduceMul, Nat.reduceSub, Nat.reduceDiv, Int.reduceToNat, Int.reduceAdd, Int.reduceSub, Int.reduceMul, Int.reduceNeg, Int.reduceEq, Int.reduceLT, Int.reduceLE], fun s hs => by have e1 := N.keep s hs; have e2 : s ≠ t := (by omega); (simp (disch := omega) only [e1, e2, c10r0, c10r1, c10r2, c10r3, c10r4, c10r5, c10r6, c10r7, c10r8, c10r9, c10r10, c10r11, c10r13, EV0, EV1, EV2, EV3, EV4, EV5, EV6, EV7, EV8, VALS, plug, ite_same, decide_true, decide_false, eq_self, ↓reduceIte, reduceCtorEq, Nat.reduceAdd, Nat.reduceEqDiff, Nat.reduceLT, Nat.reduceLeDiff, Nat.reduceMul, Nat.reduceSub, Nat.reduceDiv, Int.reduceToNat, Int.reduceAdd, Int.reduceSub, Int.reduceMul, Int.reduceNeg, Int.reduceEq, Int.reduceLT, Int.reduceLE]), by simp (disch := omega) only [c10r0, c10r1, c10r2, c10r3, c10r4, c10r5, c10r6, c10r7, c10r8, c10r9, c10r10, c10r11, c10r13, EV0, EV1, EV2, EV3, EV4, EV5, EV6, EV7, EV8, VALS, plug, ite_same, decide_true, decide_false, eq_self, ↓reduceIte, reduceCtorEq, Nat.reduceAdd, Nat.reduceEqDiff, Nat.reduceLT, Nat.reduceLeDiff, Nat.reduceMul, Nat.reduceSub, Nat.reduceDiv, Int.reduceToNat, Int.reduceAdd, Int.reduceSub, Int.reduceMul, Int.reduceNeg, Int.reduceEq, Int.reduceLT, Int.reduceLE] <;> omega, by simp (disch := omega) only [c10r0, c10r1, c10r2, c10r3, c10r4, c10r5, c10r6, c10r7, c10r8, c10r9, c10r10, c10r11, c10r13, EV0, EV1, EV2, EV3, EV4, EV5, EV6, EV7, EV8, VALS, plug, ite_same, decide_true, decide_false, eq_self, ↓reduceIte, reduceCtorEq, Nat.reduceAdd, Nat.reduceEqDiff, Nat.reduceLT, Nat.reduceLeDiff, Nat.reduceMul, Nat.reduceSub, Nat.reduceDiv, Int.reduceToNat, Int.reduceAdd, Int.reduceSub, Int.reduceMul, Int.reduceNeg, Int.reduceEq, Int.reduceLT, Int.reduceLE] <;> omega⟩
      | false =>
        repeat' first
          | with_reducible refine k_seq ?_
          | with_reducible refine k_skip ?_
          | with_reducible refine k_blkS ?_
          | with_reducible refine k_blkR ?_
          | with_reducible refine k_blkC ?_
          | with_reducible refine k_blkH ?_
          | with_reducible refine k_blkB ?_
          | with_reducible refine k_blkK ?_
          | with_reducible refine k_blkE ?_
          | with_reducible refine k_reg ?_
          | with_reducible refine r_done ?_
          | with_reducible refine s_go (by simp (disch := omega) only [hlt', hm1, row_m hm1, read_row (row_m hm1), c10r0, c10r1, c10r2, c10r3, c10r4, c10r5, c10r6, c10r7, c10r8, c10r9, c10r10, c10r11, c10r13, EV0, EV1, EV2, EV3, EV4, EV5, EV6, EV7, EV8, VALS, plug, ite_same, decide_true, decide_false, eq_self, ↓reduceIte, reduceCtorEq, Nat.reduceAdd, Nat.reduceEqDiff, Nat.reduceLT, Nat.reduceLeDiff, Nat.reduceMul, Nat.reduceSub, Nat.reduceDiv, Int.reduceToNat, Int.reduceAdd, Int.reduceSub, Int.reduceMul, Int.reduceNeg, Int.reduceEq, Int.reduceLT, Int.reduceLE]; with_reducible rfl) ?_
          | ((with_reducible refine chk_r ?_); refine r_callF (by simp only [CA, Nat.reduceEqDiff, ↓reduceIte]; rfl) (by exact rfl) (by simp only [CA, Nat.reduceEqDiff, ↓reduceIte]; rfl) rfl ?_)
          | ((with_reducible refine chk_r ?_); refine r_callP (by simp only [CA, Nat.reduceEqDiff, ↓reduceIte]; rfl) (by simp only [CA, Nat.reduceEqDiff, ↓reduceIte]; rfl) (by first | ((refine q15 _ ?_; simp (disch := omega) only [hr, c10r0, c10r1, c10r2, c10r3, c10r4, c10r5, c10r6, c10r7, c10r8, c10r9, c10r10, c10r11, c10r13, EV0, EV1, EV2, EV3, EV4, EV5, EV6, EV7, EV8, VALS, plug, ite_same, decide_true, decide_false, eq_self, ↓reduceIte, reduceCtorEq, Nat.reduceAdd, Nat.reduceEqDiff, Nat.reduceLT, Nat.reduceLeDiff, Nat.reduceMul, Nat.reduceSub, Nat.reduceDiv, Int.reduceToNat, Int.reduceAdd, Int.reduceSub, Int.reduceMul, Int.reduceNeg, Int.reduceEq, Int.reduceLT, Int.reduceLE]); all_goals fail) | exact q32 _) rfl ?_)
          | (with_reducible refine k_condP (by simp only [GA, Nat.reduceEqDiff, ↓reduceIte]; rfl) (by first | (simp only [BO]; rfl) | rfl) (fun ht => ?_) (fun ht => ?_) <;> try (first | exact False.elim ht | exact absurd rfl ht | exact absurd trivial ht | exact Bool.noConfusion ht))
          | (with_reducible refine k_ret ?_; repeat with_reducible (first | refine ret_thru ?_ | refine ret_blk ?_ | refine fin ?_))
          | (with_reducible refine k_exit ?_; repeat with_reducible (first | refine thru ?_ | refine out_blk ?_ | refine pass (by decide) ?_))
          | (refine post1 ?_; simp only [GA, Nat.reduceEqDiff, ↓reduceIte])
          | (refine post2 ?_; simp only [GA, Nat.reduceEqDiff, ↓reduceIte])
          | (refine post3 ?_; simp only [GA, Nat.reduceEqDiff, ↓reduceIte])
          | (refine postc (by simp only [GA, Nat.reduceEqDiff, ↓reduceIte]; rfl) (by simp (disch := omega) only [hlt', hm1, row_m hm1, read_row (row_m hm1), c10r0, c10r1, c10r2, c10r3, c10r4, c10r5, c10r6, c10r7, c10r8, c10r9, c10r10, c10r11, c10r13, EV0, EV1, EV2, EV3, EV4, EV5, EV6, EV7, EV8, VALS, plug, ite_same, decide_true, decide_false, eq_self, ↓reduceIte, reduceCtorEq, Nat.reduceAdd, Nat.reduceEqDiff, Nat.reduceLT, Nat.reduceLeDiff, Nat.reduceMul, Nat.reduceSub, Nat.reduceDiv, Int.reduceToNat, Int.reduceAdd, Int.reduceSub, Int.reduceMul, Int.reduceNeg, Int.reduceEq, Int.reduceLT, Int.reduceLE]; rfl) ?_)
          | refine post0 ?_
        exact ⟨hlt, t, (by simp only [Am.keep, List.map_cons, List.map_nil, GA, Nat.reduceEqDiff, ↓reduceIte]; try rfl), t0, by simp (disch := omega) only [hm2, c10r0, c10r1, c10r2, c10r3, c10r4, c10r5, c10r6, c10r7, c10r8, c10r9, c10r10, c10r11, c10r13, EV0, EV1, EV2, EV3, EV4, EV5, EV6, EV7, EV8, VALS, plug, ite_same, decide_true, decide_false, eq_self, ↓reduceIte, reduceCtorEq, Nat.reduceAdd, Nat.reduceEqDiff, Nat.reduceLT, Nat.reduceLeDiff, Nat.reduceMul, Nat.reduceSub, Nat.reduceDiv, Int.reduceToNat, Int.reduceAdd, Int.reduceSub, Int.reduceMul, Int.reduceNeg, Int.reduceEq, Int.reduceLT, Int.reduceLE], fun s hs => by have e1 := N.keep s hs; have e2 : s ≠ t := (by omega); (simp (disch := omega) only [e1, e2, c10r0, c10r1, c10r2, c10r3, c10r4, c10r5, c10r6, c10r7, c10r8, c10r9, c10r10, c10r11, c10r13, EV0, EV1, EV2, EV3, EV4, EV5, EV6, EV7, EV8, VALS, plug, ite_same, decide_true, decide_false, eq_self, ↓reduceIte, reduceCtorEq, Nat.reduceAdd, Nat.reduceEqDiff, Nat.reduceLT, Nat.reduceLeDiff, Nat.reduceMul, Nat.reduceSub, Nat.reduceDiv, Int.reduceToNat, Int.reduceAdd, Int.reduceSub, Int.reduceMul, Int.reduceNeg, Int.reduceEq, Int.reduceLT, Int.reduceLE]), by simp (disch := omega) only [c10r0, c10r1, c10r2, c10r3, c10r4, c10r5, c10r6, c10r7, c10r8, c10r9, c10r10, c10r11, c10r13, EV0, EV1, EV2, EV3, EV4, EV5, EV6, EV7, EV8, VALS, plug, ite_same, decide_true, decide_false, eq_self, ↓reduceIte, reduceCtorEq, Nat.reduceAdd, Nat.reduceEqDiff, Nat.reduceLT, Nat.reduceLeDiff, Nat.reduceMul, Nat.reduceSub, Nat.reduceDiv, Int.reduceToNat, Int.reduceAdd, Int.reduceSub, Int.reduceMul, Int.reduceNeg, Int.reduceEq, Int.reduceLT, Int.reduceLE] <;> omega, by simp (disch := omega) only [c10r0, c10r1, c10r2, c10r3, c10r4, c10r5, c10r6, c10r7, c10r8, c10r9, c10r10, c10r11, c10r13, EV0, EV1, EV2, EV3, EV4, EV5, EV6, EV7, EV8, VALS, plug, ite_same, decide_true, decide_false, eq_self, ↓reduceIte, reduceCtorEq, Nat.reduceAdd, Nat.reduceEqDiff, Nat.reduceLT, Nat.reduceLeDiff, Nat.reduceMul, Nat.reduceSub, Nat.reduceDiv, Int.reduceToNat, Int.reduceAdd, Int.reduceSub, Int.reduceMul, Int.reduceNeg, Int.reduceEq, Int.reduceLT, Int.reduceLE] <;> omega⟩
  · obtain rfl : k = 2 := by omega
    have hlt' : ¬ ((2 : Nat) : Int) < 2 := by omega
    repeat' first
      | with_reducible refine k_seq ?_
      | with_reducible refine k_skip ?_
      | with_reducible refine k_blkS ?_
      | with_reducible refine k_blkR ?_
      | with_reducible refine k_blkC ?_
      | with_reducible refine k_blkH ?_
      | with_reducible refine k_blkB ?_
      | with_reducible refine k_blkK ?_
      | with_reducible refine k_blkE ?_
      | with_reducible refine k_reg ?_
      | with_reducible refine r_done ?_
      | with_reducible refine s_go (by simp (disch := omega) only [hlt', c10r0, c10r1, c10r2, c10r3, c10r4, c10r5, c10r6, c10r7, c10r8, c10r9, c10r10, c10r11, c10r13, EV0, EV1, EV2, EV3, EV4, EV5, EV6, EV7, EV8, VALS, plug, ite_same, decide_true, decide_false, eq_self, ↓reduceIte, reduceCtorEq, Nat.reduceAdd, Nat.reduceEqDiff, Nat.reduceLT, Nat.reduceLeDiff, Nat.reduceMul, Nat.reduceSub, Nat.reduceDiv, Int.reduceToNat, Int.reduceAdd, Int.reduceSub, Int.reduceMul, Int.reduceNeg, Int.reduceEq, Int.reduceLT, Int.reduceLE]; with_reducible rfl) ?_
      | ((with_reducible refine chk_r ?_); refine r_callF (by simp only [CA, Nat.reduceEqDiff, ↓reduceIte]; rfl) (by exact rfl) (by simp only [CA, Nat.reduceEqDiff, ↓reduceIte]; rfl) rfl ?_)
      | (with_reducible refine k_condP (by simp only [GA, Nat.reduceEqDiff, ↓reduceIte]; rfl) (by first | (simp only [BO]; rfl) | rfl) (fun ht => ?_) (fun ht => ?_) <;> try (first | exact False.elim ht | exact absurd rfl ht | exact absurd trivial ht | exact Bool.noConfusion ht))
      | (with_reducible refine k_ret ?_; repeat with_reducible (first | refine ret_thru ?_ | refine ret_blk ?_ | refine fin ?_))
      | (with_reducible refine k_exit ?_; repeat with_reducible (first | refine thru ?_ | refine out_blk ?_ | refine pass (by decide) ?_))
      | (refine post1 ?_; simp only [GA, Nat.reduceEqDiff, ↓reduceIte])
      | (refine post2 ?_; simp only [GA, Nat.reduceEqDiff, ↓reduceIte])
      | (refine post3 ?_; simp only [GA, Nat.reduceEqDiff, ↓reduceIte])
      | (refine postc (by simp only [GA, Nat.reduceEqDiff, ↓reduceIte]; rfl) (by simp (disch := omega) only [hlt', c10r0, c10r1, c10r2, c10r3, c10r4, c10r5, c10r6, c10r7, c10r8, c10r9, c10r10, c10r11, c10r13, EV0, EV1, EV2, EV3, EV4, EV5, EV6, EV7, EV8, VALS, plug, ite_same, decide_true, decide_false, eq_self, ↓reduceIte, reduceCtorEq, Nat.reduceAdd, Nat.reduceEqDiff, Nat.reduceLT, Nat.reduceLeDiff, Nat.reduceMul, Nat.reduceSub, Nat.reduceDiv, Int.reduceToNat, Int.reduceAdd, Int.reduceSub, Int.reduceMul, Int.reduceNeg, Int.reduceEq, Int.reduceLT, Int.reduceLE]; rfl) ?_)
      | refine post0 ?_
    exact ⟨t, rfl, t0, by simp (disch := omega) only [hm1, c10r0, c10r1, c10r2, c10r3, c10r4, c10r5, c10r6, c10r7, c10r8, c10r9, c10r10, c10r11, c10r13, EV0, EV1, EV2, EV3, EV4, EV5, EV6, EV7, EV8, VALS, plug, ite_same, decide_true, decide_false, eq_self, ↓reduceIte, reduceCtorEq, Nat.reduceAdd, Nat.reduceEqDiff, Nat.reduceLT, Nat.reduceLeDiff, Nat.reduceMul, Nat.reduceSub, Nat.reduceDiv, Int.reduceToNat, Int.reduceAdd, Int.reduceSub, Int.reduceMul, Int.reduceNeg, Int.reduceEq, Int.reduceLT, Int.reduceLE] <;> rfl, fun s hs => by have := N.keep s hs; (simp (disch := omega) only [this, c10r0, c10r1, c10r2, c10r3, c10r4, c10r5, c10r6, c10r7, c10r8, c10r9, c10r10, c10r11, c10r13, EV0, EV1, EV2, EV3, EV4, EV5, EV6, EV7, EV8, VALS, plug, ite_same, decide_true, decide_false, eq_self, ↓reduceIte, reduceCtorEq, Nat.reduceAdd, Nat.reduceEqDiff, Nat.reduceLT, Nat.reduceLeDiff, Nat.reduceMul, Nat.reduceSub, Nat.reduceDiv, Int.reduceToNat, Int.reduceAdd, Int.reduceSub, Int.reduceMul, Int.reduceNeg, Int.reduceEq, Int.reduceLT, Int.reduceLE]), by simp (disch := omega) only [c10r0, c10r1, c10r2, c10r3, c10r4, c10r5, c10r6, c10r7, c10r8, c10r9, c10r10, c10r11, c10r13, EV0, EV1, EV2, EV3, EV4, EV5, EV6, EV7, EV8, VALS, plug, ite_same, decide_true, decide_false, eq_self, ↓reduceIte, reduceCtorEq, Nat.reduceAdd, Nat.reduceEqDiff, Nat.reduceLT, Nat.reduceLeDiff, Nat.reduceMul, Nat.reduceSub, Nat.reduceDiv, Int.reduceToNat, Int.reduceAdd, Int.reduceSub, Int.reduceMul, Int.reduceNeg, Int.reduceEq, Int.reduceLT, Int.reduceLE] <;> omega, by simp (disch := omega) only [c10r0, c10r1, c10r2, c10r3, c10r4, c10r5, c10r6, c10r7, c10r8, c10r9, c10r10, c10r11, c10r13, EV0, EV1, EV2, EV3, EV4, EV5, EV6, EV7, EV8, VALS, plug, ite_same, decide_true, decide_false, eq_self, ↓reduceIte, reduceCtorEq, Nat.reduceAdd, Nat.reduceEqDiff, Nat.reduceLT, Nat.reduceLeDiff, Nat.reduceMul, Nat.reduceSub, Nat.reduceDiv, Int.reduceToNat, Int.reduceAdd, Int.reduceSub, Int.reduceMul, Int.reduceNeg, Int.reduceEq, Int.reduceLT, Int.reduceLE] <;> omega⟩
end Go.Proofs.Ytpleibjbfohenaa
set_option linter.unusedVariables false
set_option linter.unusedSimpArgs false
namespace Go.Proofs.Ytpleibjbfohenaa
open Go Go.Am Go.Proofs
/-! ### Save -/
structure J.ok (j : J) : Prop where
  turn : 0 ≤ j.turn ∧ j.turn ≤ 2147483647
  im : j.im.length ≤ 100000000
def sv (j : J) (d : D) (im : List Int) : Int × J × D :=
  if dd j d = true then (92, j, d)
  else if 65536 < im.length ∨ j.turn = 2147483647 then (4, j, d)
  else if (wrD d ((j.turn + 1) % 2) (coded im (j.turn + 1))).1 = 0 then (0, { j with turn := j.turn + 1, im := im }, (wrD d ((j.turn + 1) % 2) (coded im (j.turn + 1))).2)
  else ((wrD d ((j.turn + 1) % 2) (coded im (j.turn + 1))).1, { j with dead := true }, (wrD d ((j.turn + 1) % 2) (coded im (j.turn + 1))).2)
theorem sv_dead {j : J} {d : D} {im : List Int} (h : dd j d = true) : sv j d im = (92, j, d) := by unfold sv; rw [if_pos h]
section
variable {j : J} {d : D} {im : List Int} (h : dd j d = false)
include h
theorem sv_lim (l : 65536 < im.length ∨ j.turn = 2147483647) : sv j d im = (4, j, d) := by unfold sv; rw [if_neg (by rw [h]; exact Bool.false_ne_true), if_pos l]
variable (l : ¬ (65536 < im.length ∨ j.turn = 2147483647)) {e : Int} {d' : D} (w : wrD d ((j.turn + 1) % 2) (coded im (j.turn + 1)) = (e, d'))
include l w
theorem sv_ok (he : e = 0) : sv j d im = (0, { j with turn := j.turn + 1, im := im }, d') := by unfold sv; rw [if_neg (by rw [h]; exact Bool.false_ne_true), if_neg l, w, if_pos he]
theorem sv_no (he : ¬ e = 0) : sv j d im = (e, { j with dead := true }, d') := by unfold sv; rw [if_neg (by rw [h]; exact Bool.false_ne_true), if_neg l, w, if_neg he]
end
theorem coded_len (im : List Int) (v : Int) : (coded im v).length = im.length + 8 := by unfold coded; simp only [List.length_append, nb_len]; omega
set_option maxHeartbeats 1000000 in
theorem f11 (t td : Nat) (j : J) (jok : j.ok) (d : D) (dok : d.ok) (im : List Int) (hi : im.length ≤ 90000000) (h : AH) (hne : t ≠ td) (hm : h.m t = some (.cells true (eJ td j))) (hd : h.m td = some (.cells true (eI d))) :
    ACalls Try.prog 11 [.p t 0, vu im] h fun r h' => r = .i .i64 (sv j d im).1 ∧ Upd2 t td (eJ td (sv j d im).2.1) (eI (sv j d im).2.2) h h' := by
  have q33 := fun h hm => f33 t td j h hm
  have q22 := fun h hm hd => f22 t td j d h hm hd
  have qw := fun h hm => f14 td d dok ((j.turn + 1) % 2) (coded im (j.turn + 1)) (by rw [coded_len]; omega) h hm
  have q35 := pc35 im (by omega)
  obtain ⟨ht1, ht2⟩ := jok.turn
  have hm0 := hm
  unfold eJ at hm
  refine w_fn fn11 (by simp) fun ok pos => ?_
  have lt := ok.m hm
  have ltd := ok.m hd
  rw [initSt2]
  cases hx : dd j d with
  | true =>
    rw [hx] at q22
    rw [sv_dead hx]
    repeat' first
      | with_reducible refine k_seq ?_
      | with_reducible refine k_skip ?_
      | with_reducible refine k_blkS ?_
      | with_reducible refine k_blkR ?_
      | with_reducible refine k_blkC ?_
      | with_reducible refine k_blkH ?_
      | with_reducible refine k_blkB ?_
      | with_reducible refine k_blkK ?_
      | with_reducible refine k_blkE ?_
      | with_reducible refine k_reg ?_
      | with_reducible refine r_done ?_
      | with_reducible refine s_go (by simp (disch := omega) only [row_m hm, read_row (row_m hm), c11r0, c11r1, c11r2, c11r3, c11r4, c11r5, c11r6, c11r7, c11r8, c11r9, c11r10, c11r11, c11r12, c11r13, c11r14, EV0, EV1, EV2, EV3, EV4, EV5, EV6, EV7, EV8, VALS, plug, ite_same, decide_true, decide_false, eq_self, ↓reduceIte, reduceCtorEq, Nat.reduceAdd, Nat.reduceEqDiff, Nat.reduceLT, Nat.reduceLeDiff, Nat.reduceMul, Nat.reduceSub, Nat.reduceDiv, Int.reduceToNat, Int.reduceAdd, Int.reduceSub, Int.reduceMul, Int.reduceNeg, Int.reduceEq, Int.reduceLT, Int.reduceLE]; with_reducible rfl) ?_
      | ((with_reducible refine chk_r ?_); refine r_callF (by simp only [CA, Nat.reduceEqDiff, ↓reduceIte]; rfl) (by exact rfl) (by simp only [CA, Nat.reduceEqDiff, ↓reduceIte]; rfl) rfl ?_)
      | ((with_reducible refine chk_r ?_); refine r_callP (by simp only [CA, Nat.reduceEqDiff, ↓reduceIte]; rfl) (by simp only [CA, Nat.reduceEqDiff, ↓reduceIte]; rfl) (by first | ((refine q33 _ ?_; simp (disch := omega) only [row_m hm0, c11r0, c11r1, c11r2, c11r3, c11r4, c11r5, c11r6, c11r7, c11r8, c11r9, c11r10, c11r11, c11r12, c11r13, c11r14, EV0, EV1, EV2, EV3, EV4, EV5, EV6, EV7, EV8, VALS, plug, ite_same, decide_true, decide_false, eq_self, ↓reduceIte, reduceCtorEq, Nat.reduceAdd, Nat.reduceEqDiff, Nat.reduceLT, Nat.reduceLeDiff, Nat.reduceMul, Nat.reduceSub, Nat.reduceDiv, Int.reduceToNat, Int.reduceAdd, Int.reduceSub, Int.reduceMul, Int.reduceNeg, Int.reduceEq, Int.reduceLT, Int.reduceLE]); all_goals fail) | ((refine q22 _ ?_ ?_ <;> simp (disch := omega) only [row_m hm0, row_m hd, c11r0, c11r1, c11r2, c11r3, c11r4, c11r5, c11r6, c11r7, c11r8, c11r9, c11r10, c11r11, c11r12, c11r13, c11r14, EV0, EV1, EV2, EV3, EV4, EV5, EV6, EV7, EV8, VALS, plug, ite_same, decide_true, decide_false, eq_self, ↓reduceIte, reduceCtorEq, Nat.reduceAdd, Nat.reduceEqDiff, Nat.reduceLT, Nat.reduceLeDiff, Nat.reduceMul, Nat.reduceSub, Nat.reduceDiv, Int.reduceToNat, Int.reduceAdd, Int.reduceSub, Int.reduceMul, Int.reduceNeg, Int.reduceEq, Int.reduceLT, Int.reduceLE]); all_goals fail)) rfl ?_)
      | (with_reducible refine k_condP (by simp only [GA, Nat.reduceEqDiff, ↓reduceIte]; rfl) (by first | (simp only [BO]; rfl) | rfl) (fun ht => ?_) (fun ht => ?_) <;> try (first | exact False.elim ht | exact absurd rfl ht | exact absurd trivial ht | exact Bool.noConfusion ht))
      | (with_reducible refine k_ret ?_; repeat with_reducible (first | refine ret_thru ?_ | refine ret_blk ?_ | refine fin ?_))
      | (with_reducible refine k_exit ?_; repeat with_reducible (first | refine thru ?_ | refine out_blk ?_ | refine pass (by decide) ?_))
      | (refine post1 ?_; simp only [GA, Nat.reduceEqDiff, ↓reduceIte])
      | (refine post2 ?_; simp only [GA, Nat.reduceEqDiff, ↓reduceIte])
      | (refine post3 ?_; simp only [GA, Nat.reduceEqDiff, ↓reduceIte])
      | (refine postc (by simp only [GA, Nat.reduceEqDiff, ↓reduceIte]; rfl) (by simp (disch := omega) only [row_m hm, read_row (row_m hm), c11r0, c11r1, c11r2, c11r3, c11r4, c11r5, c11r6, c11r7, c11r8, c11r9, c11r10, c11r11, c11r12, c11r13, c11r14, EV0, EV1, EV2, EV3, EV4, EV5, EV6, EV7, EV8, VALS, plug, ite_same, decide_true, decide_false, eq_self, ↓reduceIte, reduceCtorEq, Nat.reduceAdd, Nat.reduceEqDiff, Nat.reduceLT, Nat.reduceLeDiff, Nat.reduceMul, Nat.reduceSub, Nat.reduceDiv, Int.reduceToNat, Int.reduceAdd, Int.reduceSub, Int.reduceMul, Int.reduceNeg, Int.reduceEq, Int.reduceLT, Int.reduceLE]; rfl) ?_)
      | refine post0 ?_
    exact endsW ⟨by simp (disch := omega) only [hm0, c11r0, c11r1, c11r2, c11r3, c11r4, c11r5, c11r6, c11r7, c11r8, c11r9, c11r10, c11r11, c11r12, c11r13, c11r14, EV0, EV1, EV2, EV3, EV4, EV5, EV6, EV7, EV8, VALS, plug, ite_same, decide_true, decide_false, eq_self, ↓reduceIte, reduceCtorEq, Nat.reduceAdd, Nat.reduceEqDiff, Nat.reduceLT, Nat.reduceLeDiff, Nat.reduceMul, Nat.reduceSub, Nat.reduceDiv, Int.reduceToNat, Int.reduceAdd, Int.reduceSub, Int.reduceMul, Int.reduceNeg, Int.reduceEq, Int.reduceLT, Int.reduceLE], by simp (disch := omega) only [hd, c11r0, c11r1, c11r2, c11r3, c11r4, c11r5, c11r6, c11r7, c11r8, c11r9, c11r10, c11r11, c11r12, c11r13, c11r14, EV0, EV1, EV2, EV3, EV4, EV5, EV6, EV7, EV8, VALS, plug, ite_same, decide_true, decide_false, eq_self, ↓reduceIte, reduceCtorEq, Nat.reduceAdd, Nat.reduceEqDiff, Nat.reduceLT, Nat.reduceLeDiff, Nat.reduceMul, Nat.reduceSub, Nat.reduceDiv, Int.reduceToNat, Int.reduceAdd, Int.reduceSub, Int.reduceMul, Int.reduceNeg, Int.reduceEq, Int.reduceLT, Int.reduceLE], fun s h1 h2 h3 => (by simp (disch := omega) only [h2, c11r0, c11r1, c11r2, c11r3, c11r4, c11r5, c11r6, c11r7, c11r8, c11r9, c11r10, c11r11, c11r12, c11r13, c11r14, EV0, EV1, EV2, EV3, EV4, EV5, EV6, EV7, EV8, VALS, plug, ite_same, decide_true, decide_false, eq_self, ↓reduceIte, reduceCtorEq, Nat.reduceAdd, Nat.reduceEqDiff, Nat.reduceLT, Nat.reduceLeDiff, Nat.reduceMul, Nat.reduceSub, Nat.reduceDiv, Int.reduceToNat, Int.reduceAdd, Int.reduceSub, Int.reduceMul, Int.reduceNeg, Int.reduceEq, Int.reduceLT, Int.reduceLE]), by simp (disch := omega) only [c11r0, c11r1, c11r2, c11r3, c11r4, c11r5, c11r6, c11r7, c11r8, c11r9, c11r10, c11r11, c11r12, c11r13, c11r14, EV0, EV1, EV2, EV3, EV4, EV5, EV6, EV7, EV8, VALS, plug, ite_same, decide_true, decide_false, eq_self, ↓reduceIte, reduceCtorEq, Nat.reduceAdd, Nat.reduceEqDiff, Nat.reduceLT, Nat.reduceLeDiff, Nat.reduceMul, Nat.reduceSub, Nat.reduceDiv, Int.reduceToNat, Int.reduceAdd, Int.reduceSub, Int.reduceMul, Int.reduceNeg, Int.reduceEq, Int.reduceLT, Int.reduceLE] <;> omega⟩
  | false =>
    rw [hx] at q22
    by_cases l1 : 65536 < im.length
    · rw [sv_lim hx (.inl l1)]
      have l1' : (65536 : Int) < im.length := by omega
      repeat' first
        | with_reducible refine k_seq ?_
        | with_reducible refine k_skip ?_
        | with_reducible refine k_blkS ?_
        | with_reducible refine k_blkR ?_
        | with_reducible refine k_blkC ?_
        | with_reducible refine k_blkH ?_
        | with_reducible refine k_blkB ?_
        | with_reducible refine k_blkK ?_
        | with_reducible refine k_blkE ?_
        | with_reducible refine k_reg ?_
        | with_reducible refine r_done ?_
        | with_reducible refine s_go (by simp (disch := omega) only [row_m hm, read_row (row_m hm), l1', c11r0, c11r1, c11r2, c11r3, c11r4, c11r5, c11r6, c11r7, c11r8, c11r9, c11r10, c11r11, c11r12, c11r13, c11r14, EV0, EV1, EV2, EV3, EV4, EV5, EV6, EV7, EV8, VALS, plug, ite_same, decide_true, decide_false, eq_self, ↓reduceIte, reduceCtorEq, Nat.reduceAdd, Nat.reduceEqDiff, Nat.reduceLT, Nat.reduceLeDiff, Nat.reduceMul, Nat.reduceSub, Nat.reduceDiv, Int.reduceToNat, Int.reduceAdd, Int.reduceSub, Int.reduceMul, Int.reduceNeg, Int.reduceEq, Int.reduceLT, Int.reduceLE]; with_reducible rfl) ?_
        | ((with_reducible refine chk_r ?_); refine r_callF (by simp only [CA, Nat.reduceEqDiff, ↓reduceIte]; rfl) (by exact rfl) (by simp only [CA, Nat.reduceEqDiff, ↓reduceIte]; rfl) rfl ?_)
        | ((with_reducible refine chk_r ?_); refine r_callP (by simp only [CA, Nat.reduceEqDiff, ↓reduceIte]; rfl) (by simp only [CA, Nat.reduceEqDiff, ↓reduceIte]; rfl) (by first | ((refine q33 _ ?_; simp (disch := omega) only [row_m hm0, c11r0, c11r1, c11r2, c11r3, c11r4, c11r5, c11r6, c11r7, c11r8, c11r9, c11r10, c11r11, c11r12, c11r13, c11r14, EV0, EV1, EV2, EV3, EV4, EV5, EV6, EV7, EV8, VALS, plug, ite_same, decide_true, decide_false, eq_self, ↓reduceIte, reduceCtorEq, Nat.reduceAdd, Nat.reduceEqDiff, Nat.reduceLT, Nat.reduceLeDiff, Nat.reduceMul, Nat.reduceSub, Nat.reduceDiv, Int.reduceToNat, Int.reduceAdd, Int.reduceSub, Int.reduceMul, Int.reduceNeg, Int.reduceEq, Int.reduceLT, Int.reduceLE]); all_goals fail) | ((refine q22 _ ?_ ?_ <;> simp (disch := omega) only [row_m hm0, row_m hd, c11r0, c11r1, c11r2, c11r3, c11r4, c11r5, c11r6, c11r7, c11r8, c11r9, c11r10, c11r11, c11r12, c11r13, c11r14, EV0, EV1, EV2, EV3, EV4, EV5, EV6, EV7, EV8, VALS, plug, ite_same, decide_true, decide_false, eq_self, ↓reduceIte, reduceCtorEq, Nat.reduceAdd, Nat.reduceEqDiff, Nat.reduceLT, Nat.reduceLeDiff, Nat.reduceMul, Nat.reduceSub, Nat.reduceDiv, Int.reduceToNat, Int.reduceAdd, Int.reduceSub, Int.reduceMul, Int.reduceNeg, Int.reduceEq, Int.reduceLT, Int.reduceLE]); all_goals fail)) rfl ?_)
        | (with_reducible refine k_condP (by simp only [GA, Nat.reduceEqDiff, ↓reduceIte]; rfl) (by first | (simp only [BO]; rfl) | rfl) (fun ht => ?_) (fun ht => ?_) <;> try (first | exact False.elim ht | exact absurd rfl ht | exact absurd trivial ht | exact Bool.noConfusion ht))
        | (with_reducible refine k_ret ?_; repeat with_reducible (first | refine ret_thru ?_ | refine ret_blk ?_ | refine fin ?_))
        | (with_reducible refine k_exit ?_; repeat with_reducible (first | refine thru ?_ | refine out_blk ?_ | refine pass (by decide) ?_))
        | (refine post1 ?_; simp only [GA, Nat.reduceEqDiff, ↓reduceIte])
        | (refine post2 ?_; simp only [GA, Nat.reduceEqDiff, ↓reduceIte])
        | (refine post3 ?_; simp only [GA, Nat.reduceEqDiff, ↓reduceIte])
        | (refine postc (by simp only [GA, Nat.reduceEqDiff, ↓reduceIte]; rfl) (by simp (disch := omega) only [row_m hm, read_row (row_m hm), l1', c11r0, c11r1, c11r2, c11r3, c11r4, c11r5, c11r6, c11r7, c11r8, c11r9, c11r10, c11r11, c11r12, c11r13, c11r14, EV0, EV1, EV2, EV3, EV4, EV5, EV6, EV7, EV8, VALS, plug, ite_same, decide_true, decide_false, eq_self, ↓reduceIte, reduceCtorEq, Nat.reduceAdd, Nat.reduceEqDiff, Nat.reduceLT, Nat.reduceLeDiff, Nat.reduceMul, Nat.reduceSub, Nat.reduceDiv, Int.reduceToNat, Int.reduceAdd, Int.reduceSub, Int.reduceMul, Int.reduceNeg, Int.reduceEq, Int.reduceLT, Int.reduceLE]; rfl) ?_)
        | refine post0 ?_
      exact endsW ⟨by simp (disch := omega) only [hm0, c11r0, c11r1, c11r2, c11r3, c11r4, c11r5, c11r6, c11r7, c11r8, c11r9, c11r10, c11r11, c11r12, c11r13, c11r14, EV0, EV1, EV2, EV3, EV4, EV5, EV6, EV7, EV8, VALS, plug, ite_same, decide_true, decide_false, eq_self, ↓reduceIte, reduceCtorEq, Nat.reduceAdd, Nat.reduceEqDiff, Nat.reduceLT, Nat.reduceLeDiff, Nat.reduceMul, Nat.reduceSub, Nat.reduceDiv, Int.reduceToNat, Int.reduceAdd, Int.reduceSub, Int.reduceMul, Int.reduceNeg, Int.reduceEq, Int.reduceLT, Int.reduceLE], by simp (disch := omega) only [hd, c11r0, c11r1, c11r2, c11r3, c11r4, c11r5, c11r6, c11r7, c11r8, c11r9, c11r10, c11r11, c11r12, c11r13, c11r14, EV0, EV1, EV2, EV3, EV4, EV5, EV6, EV7, EV8, VALS, plug, ite_same, decide_true, decide_false, eq_self, ↓reduceIte, reduceCtorEq, Nat.reduceAdd, Nat.reduceEqDiff, Nat.reduceLT, Nat.reduceLeDiff, Nat.reduceMul, Nat.reduceSub, Nat.reduceDiv, Int.reduceToNat, Int.reduceAdd, Int.reduceSub, Int.reduceMul, Int.reduceNeg, Int.reduceEq, Int.reduceLT, Int.reduceLE], fun s h1 h2 h3 => (by simp (disch := omega) only [h2, c11r0, c11r1, c11r2, c11r3, c11r4, c11r5, c11r6, c11r7, c11r8, c11r9, c11r10, c11r11, c11r12, c11r13, c11r14, EV0, EV1, EV2, EV3, EV4, EV5, EV6, EV7, EV8, VALS, plug, ite_same, decide_true, decide_false, eq_self, ↓reduceIte, reduceCtorEq, Nat.reduceAdd, Nat.reduceEqDiff, Nat.reduceLT, Nat.reduceLeDiff, Nat.reduceMul, Nat.reduceSub, Nat.reduceDiv, Int.reduceToNat, Int.reduceAdd, Int.reduceSub, Int.reduceMul, Int.reduceNeg, Int.reduceEq, Int.reduceLT, Int.reduceLE]), by simp (disch := omega) only [c11r0, c11r1, c11r2, c11r3, c11r4, c11r5, c11r6, c11r7, c11r8, c11r9, c11r10, c11r11, c11r12, c11r13, c11r14, EV0, EV1, EV2, EV3, EV4, EV5, EV6, EV7, EV8, VALS, plug, ite_same, decide_true, decide_false, eq_self, ↓reduceIte, reduceCtorEq, Nat.reduceAdd, Nat.reduceEqDiff, Nat.reduceLT, Nat.reduceLeDiff, Nat.reduceMul, Nat.reduceSub, Nat.reduceDiv, Int.reduceToNat, Int.reduceAdd, Int.reduceSub, Int.reduceMul, Int.reduceNeg, Int.reduceEq, Int.reduceLT, Int.reduceLE] <;> omega⟩
    · have l1' : ¬ (65536 : Int) < im.length := by omega
      by_cases l2 : j.turn = 2147483647
      · rw [sv_lim hx (.inr l2)]
        repeat' first
          | with_reducible refine k_seq ?_
          | with_reducible refine k_skip ?_
          | with_reducible refine k_blkS ?_
          | with_reducible refine k_blkR ?_
          | with_reducible refine k_blkC ?_
          | with_reducible refine k_blkH ?_
          | with_reducible refine k_blkB ?_
          | with_reducible refine k_blkK ?_
          | with_reducible refine k_blkE ?_
          | with_reducible refine k_reg ?_
          | with_reducible refine r_done ?_
          | with_reducible refine s_go (by simp (disch := omega) only [row_m hm, read_row (row_m hm), l1', eq_true l2, c11r0, c11r1, c11r2, c11r3, c11r4, c11r5, c11r6, c11r7, c11r8, c11r9, c11r10, c11r11, c11r12, c11r13, c11r14, EV0, EV1, EV2, EV3, EV4, EV5, EV6, EV7, EV8, VALS, plug, ite_same, decide_true, decide_false, eq_self, ↓reduceIte, reduceCtorEq, Nat.reduceAdd, Nat.reduceEqDiff, Nat.reduceLT, Nat.reduceLeDiff, Nat.reduceMul, Nat.reduceSub, Nat.reduceDiv, Int.reduceToNat, Int.reduceAdd, Int.reduceSub, Int.reduceMul, Int.reduceNeg, Int.reduceEq, Int.reduceLT, Int.reduceLE]; with_reducible rfl) ?_
          | ((with_reducible refine chk_r ?_); refine r_callF (by simp only [CA, Nat.reduceEqDiff, ↓reduceIte]; rfl) (by exact rfl) (by simp only [CA, Nat.reduceEqDiff, ↓reduceIte]; rfl) rfl ?_)
          | ((with_reducible refine chk_r ?_); refine r_callP (by simp only [CA, Nat.reduceEqDiff, ↓reduceIte]; rfl) (by simp only [CA, Nat.reduceEqDiff, ↓reduceIte]; rfl) (by first | ((refine q33 _ ?_; simp (disch := omega) only [row_m hm0, c11r0, c11r1, c11r2, c11r3, c11r4, c11r5, c11r6, c11r7, c11r8, c11r9, c11r10, c11r11, c11r12, c11r13, c11r14, EV0, EV1, EV2, EV3, EV4, EV5, EV6, EV7, EV8, VALS, plug, ite_same, decide_true, decide_false, eq_self, ↓reduceIte, reduceCtorEq, Nat.reduceAdd, Nat.reduceEqDiff, Nat.reduceLT, Nat.reduceLeDiff, Nat.reduceMul, Nat.reduceSub, Nat.reduceDiv, Int.reduceToNat, Int.reduceAdd, Int.reduceSub, Int.reduceMul, Int.reduceNeg, Int.reduceEq, Int.reduceLT, Int.reduceLE]); all_goals fail) | ((refine q22 _ ?_ ?_ <;> simp (disch := omega) only [row_m hm0, row_m hd, c11r0, c11r1, c11r2, c11r3, c11r4, c11r5, c11r6, c11r7, c11r8, c11r9, c11r10, c11r11, c11r12, c11r13, c11r14, EV0, EV1, EV2, EV3, EV4, EV5, EV6, EV7, EV8, VALS, plug, ite_same, decide_true, decide_false, eq_self, ↓reduceIte, reduceCtorEq, Nat.reduceAdd, Nat.reduceEqDiff, Nat.reduceLT, Nat.reduceLeDiff, Nat.reduceMul, Nat.reduceSub, Nat.reduceDiv, Int.reduceToNat, Int.reduceAdd, Int.reduceSub, Int.reduceMul, Int.reduceNeg, Int.reduceEq, Int.reduceLT, Int.reduceLE]); all_goals fail)) rfl ?_)
          | (with_reducible refine k_condP (by simp only [GA, Nat.reduceEqDiff, ↓reduceIte]; rfl) (by first | (simp only [BO]; rfl) | rfl) (fun ht => ?_) (fun ht => ?_) <;> try (first | exact False.elim ht | exact absurd rfl ht | exact absurd trivial ht | exact Bool.noConfusion ht))
          | (with_reducible refine k_ret ?_; repeat with_reducible (first | refine ret_thru ?_ | refine ret_blk ?_ | refine fin ?_))
          | (with_reducible refine k_exit ?_; repeat with_reducible (first | refine thru ?_ | refine out_blk ?_ | refine pass (by decide) ?_))
          | (refine post1 ?_; simp only [GA, Nat.reduceEqDiff, ↓reduceIte])
          | (refine post2 ?_; simp only [GA, Nat.reduceEqDiff, ↓reduceIte])
          | (refine post3 ?_; simp only [GA, Nat.reduceEqDiff, ↓reduceIte])
          | (refine postc (by simp only [GA, Nat.reduceEqDiff, ↓reduceIte]; rfl) (by simp (disch := omega) only [row_m hm, read_row (row_m hm), l1', eq_true l2, c11r0, c11r1, c11r2, c11r3, c11r4, c11r5, c11r6, c11r7, c11r8, c11r9, c11r10, c11r11, c11r12, c11r13, c11r14, EV0, EV1, EV2, EV3, EV4, EV5, EV6, EV7, EV8, VALS, plug, ite_same, decide_true, decide_false, eq_self, ↓reduceIte, reduceCtorEq, Nat.reduceAdd, Nat.reduceEqDiff, Nat.reduceLT, Nat.reduceLeDiff, Nat.reduceMul, Nat.reduceSub, Nat.reduceDiv, Int.reduceToNat, Int.reduceAdd, Int.reduceSub, Int.reduceMul, Int.reduceNeg, Int.reduceEq, Int.reduceLT, Int.reduceLE]; rfl) ?_)
          | refine post0 ?_
        exact endsW ⟨by simp (disch := omega) only [hm0, c11r0, c11r1, c11r2, c11r3, c11r4, c11r5, c11r6, c11r7, c11r8, c11r9, c11r10, c11r11, c11r12, c11r13, c11r14, EV0, EV1, EV2, EV3, EV4, EV5, EV6, EV7, EV8, VALS, plug, ite_same, decide_true, decide_false, eq_self, ↓reduceIte, reduceCtorEq, Nat.reduceAdd, Nat.reduceEqDiff, Nat.reduceLT, Nat.reduceLeDiff, Nat.reduceMul, Nat.reduceSub, Nat.reduceDiv, Int.reduceToNat, Int.reduceAdd, Int.reduceSub, Int.reduceMul, Int.reduceNeg, Int.reduceEq, Int.reduceLT, Int.reduceLE], by simp (disch := omega) only [hd, c11r0, c11r1, c11r2, c11r3, c11r4, c11r5, c11r6, c11r7, c11r8, c11r9, c11r10, c11r11, c11r12, c11r13, c11r14, EV0, EV1, EV2, EV3, EV4, EV5, EV6, EV7, EV8, VALS, plug, ite_same, decide_true, decide_false, eq_self, ↓reduceIte, reduceCtorEq, Nat.reduceAdd, Nat.reduceEqDiff, Nat.reduceLT, Nat.reduceLeDiff, Nat.reduceMul, Nat.reduceSub, Nat.reduceDiv, Int.reduceToNat, Int.reduceAdd, Int.reduceSub, Int.reduceMul, Int.reduceNeg, Int.reduceEq, Int.reduceLT, Int.reduceLE], fun s h1 h2 h3 => (by simp (disch := omega) only [h2, c11r0, c11r1, c11r2, c11r3, c11r4, c11r5, c11r6, c11r7, c11r8, c11r9, c11r10, c11r11, c11r12, c11r13, c11r14, EV0, EV1, EV2, EV3, EV4, EV5, EV6, EV7, EV8, VALS, plug, ite_same, decide_true, decide_false, eq_self, ↓reduceIte, reduceCtorEq, Nat.reduceAdd, Nat.reduceEqDiff, Nat.reduceLT, Nat.reduceLeDiff, Nat.reduceMul, Nat.reduceSub, Nat.reduceDiv, Int.reduceToNat, Int.reduceAdd, Int.reduceSub, Int.reduceMul, Int.reduceNeg, Int.reduceEq, Int.reduceLT, Int.reduceLE]), by simp (disch := omega) only [c11r0, c11r1, c11r2, c11r3, c11r4, c11r5, c11r6, c11r7, c11r8, c11r9, c11r10, c11r11, c11r12, c11r13, c11r14, EV0, EV1, EV2, EV3, EV4, EV5, EV6, EV7, EV8, VALS, plug, ite_same, decide_true, decide_false, eq_self, ↓reduceIte, reduceCtorEq, Nat.reduceAdd, Nat.reduceEqDiff, Nat.reduceLT, Nat.reduceLeDiff, Nat.reduceMul, Nat.reduceSub, Nat.reduceDiv, Int.reduceToNat, Int.reduceAdd, Int.reduceSub, Int.reduceMul, Int.reduceNeg, Int.reduceEq, Int.reduceLT, Int.reduceLE] <;> omega⟩
      · repeat' first
          | with_reducible refine k_seq ?_
          | with_reducible refine k_skip ?_
          | with_reducible refine k_blkS ?_
          | with_reducible refine k_blkR ?_
          | with_reducible refine k_blkC ?_
          | with_reducible refine k_blkH ?_
          | with_reducible refine k_blkB ?_
          | with_reducible refine k_blkK ?_
          | with_reducible refine k_blkE ?_
          | with_reducible refine k_reg ?_
          | with_reducible refine r_done ?_
          | with_reducible refine s_go (by simp (disch := omega) only [row_m hm, read_row (row_m hm), l1', eq_false l2, ul_len, nb_len, c11r0, c11r1, c11r2, c11r3, c11r4, c11r5, c11r6, c11r7, c11r8, c11r9, c11r10, c11r11, c11r12, c11r13, c11r14, EV0, EV1, EV2, EV3, EV4, EV5, EV6, EV7, EV8, VALS, plug, ite_same, decide_true, decide_false, eq_self, ↓reduceIte, reduceCtorEq, Nat.reduceAdd, Nat.reduceEqDiff, Nat.reduceLT, Nat.reduceLeDiff, Nat.reduceMul, Nat.reduceSub, Nat.reduceDiv, Int.reduceToNat, Int.reduceAdd, Int.reduceSub, Int.reduceMul, Int.reduceNeg, Int.reduceEq, Int.reduceLT, Int.reduceLE]; with_reducible rfl) ?_
          | ((with_reducible refine chk_r ?_); refine r_callF (by simp only [CA, Nat.reduceEqDiff, ↓reduceIte]; rfl) (by exact rfl) (by simp only [CA, Nat.reduceEqDiff, ↓reduceIte]; rfl) rfl ?_)
          | ((with_reducible refine chk_r ?_); refine r_callP (by simp only [CA, Nat.reduceEqDiff, ↓reduceIte]; rfl) (by simp only [CA, Nat.reduceEqDiff, ↓reduceIte]; rfl) (by first | ((refine q33 _ ?_; simp (disch := omega) only [row_m hm0, c11r0, c11r1, c11r2, c11r3, c11r4, c11r5, c11r6, c11r7, c11r8, c11r9, c11r10, c11r11, c11r12, c11r13, c11r14, EV0, EV1, EV2, EV3, EV4, EV5, EV6, EV7, EV8, VALS, plug, ite_same, decide_true, decide_false, eq_self, ↓reduceIte, reduceCtorEq, Nat.reduceAdd, Nat.reduceEqDiff, Nat.reduceLT, Nat.reduceLeDiff, Nat.reduceMul, Nat.reduceSub, Nat.reduceDiv, Int.reduceToNat, Int.reduceAdd, Int.reduceSub, Int.reduceMul, Int.reduceNeg, Int.reduceEq, Int.reduceLT, Int.reduceLE]); all_goals fail) | ((refine q22 _ ?_ ?_ <;> simp (disch := omega) only [row_m hm0, row_m hd, c11r0, c11r1, c11r2, c11r3, c11r4, c11r5, c11r6, c11r7, c11r8, c11r9, c11r10, c11r11, c11r12, c11r13, c11r14, EV0, EV1, EV2, EV3, EV4, EV5, EV6, EV7, EV8, VALS, plug, ite_same, decide_true, decide_false, eq_self, ↓reduceIte, reduceCtorEq, Nat.reduceAdd, Nat.reduceEqDiff, Nat.reduceLT, Nat.reduceLeDiff, Nat.reduceMul, Nat.reduceSub, Nat.reduceDiv, Int.reduceToNat, Int.reduceAdd, Int.reduceSub, Int.reduceMul, Int.reduceNeg, Int.reduceEq, Int.reduceLT, Int.reduceLE]); all_goals fail)) rfl ?_)
          | ((with_reducible refine chk_r ?_); refine r_callN (by simp only [CA, Nat.reduceEqDiff, ↓reduceIte]; rfl) (by simp only [CA, Nat.reduceEqDiff, ↓reduceIte]; rfl) (by first | exact f34z _ _) rfl ?_)
          | (with_reducible refine k_condP (by simp only [GA, Nat.reduceEqDiff, ↓reduceIte]; rfl) (by first | (simp only [BO]; rfl) | rfl) (fun ht => ?_) (fun ht => ?_) <;> try (first | exact False.elim ht | exact absurd rfl ht | exact absurd trivial ht | exact Bool.noConfusion ht))
          | (with_reducible refine k_ret ?_; repeat with_reducible (first | refine ret_thru ?_ | refine ret_blk ?_ | refine fin ?_))
          | (with_reducible refine k_exit ?_; repeat with_reducible (first | refine thru ?_ | refine out_blk ?_ | refine pass (by decide) ?_))
          | (refine post1 ?_; simp only [GA, Nat.reduceEqDiff, ↓reduceIte])
          | (refine post2 ?_; simp only [GA, Nat.reduceEqDiff, ↓reduceIte])
          | (refine post3 ?_; simp only [GA, Nat.reduceEqDiff, ↓reduceIte])
          | (refine postc (by simp only [GA, Nat.reduceEqDiff, ↓reduceIte]; rfl) (by simp (disch := omega) only [row_m hm, read_row (row_m hm), l1', eq_false l2, ul_len, nb_len, c11r0, c11r1, c11r2, c11r3, c11r4, c11r5, c11r6, c11r7, c11r8, c11r9, c11r10, c11r11, c11r12, c11r13, c11r14, EV0, EV1, EV2, EV3, EV4, EV5, EV6, EV7, EV8, VALS, plug, ite_same, decide_true, decide_false, eq_self, ↓reduceIte, reduceCtorEq, Nat.reduceAdd, Nat.reduceEqDiff, Nat.reduceLT, Nat.reduceLeDiff, Nat.reduceMul, Nat.reduceSub, Nat.reduceDiv, Int.reduceToNat, Int.reduceAdd, Int.reduceSub, Int.reduceMul, Int.reduceNeg, Int.reduceEq, Int.reduceLT, Int.reduceLE]; rfl) ?_)
          | refine post0 ?_
        refine w_gen (fun H => H.m t = some (.cells true (eJ td j)) ∧ H.m td = some (.cells true (eI d)) ∧ H.m (h.nx + 1 + 3 + 3 + 11 + 6 + 4) = some (.cells true (ul (nb (im.length : Int) ++ im))) ∧ (∀ s, s < h.nx → H.m s = h.m s) ∧ h.nx + 1 + 3 + 3 + 11 + 6 + 4 < H.nx) ⟨by simp (disch := omega) only [hm0, c11r0, c11r1, c11r2, c11r3, c11r4, c11r5, c11r6, c11r7, c11r8, c11r9, c11r10, c11r11, c11r12, c11r13, c11r14, EV0, EV1, EV2, EV3, EV4, EV5, EV6, EV7, EV8, VALS, plug, ite_same, decide_true, decide_false, eq_self, ↓reduceIte, reduceCtorEq, Nat.reduceAdd, Nat.reduceEqDiff, Nat.reduceLT, Nat.reduceLeDiff, Nat.reduceMul, Nat.reduceSub, Nat.reduceDiv, Int.reduceToNat, Int.reduceAdd, Int.reduceSub, Int.reduceMul, Int.reduceNeg, Int.reduceEq, Int.reduceLT, Int.reduceLE], by simp (disch := omega) only [hd, c11r0, c11r1, c11r2, c11r3, c11r4, c11r5, c11r6, c11r7, c11r8, c11r9, c11r10, c11r11, c11r12, c11r13, c11r14, EV0, EV1, EV2, EV3, EV4, EV5, EV6, EV7, EV8, VALS, plug, ite_same, decide_true, decide_false, eq_self, ↓reduceIte, reduceCtorEq, Nat.reduceAdd, Nat.reduceEqDiff, Nat.reduceLT, Nat.reduceLeDiff, Nat.reduceMul, Nat.reduceSub, Nat.reduceDiv, Int.reduceToNat, Int.reduceAdd, Int.reduceSub, Int.reduceMul, Int.reduceNeg, Int.reduceEq, Int.reduceLT, Int.reduceLE], by simp (disch := omega) only [c11r0, c11r1, c11r2, c11r3, c11r4, c11r5, c11r6, c11r7, c11r8, c11r9, c11r10, c11r11, c11r12, c11r13, c11r14, EV0, EV1, EV2, EV3, EV4, EV5, EV6, EV7, EV8, VALS, plug, ite_same, decide_true, decide_false, eq_self, ↓reduceIte, reduceCtorEq, Nat.reduceAdd, Nat.reduceEqDiff, Nat.reduceLT, Nat.reduceLeDiff, Nat.reduceMul, Nat.reduceSub, Nat.reduceDiv, Int.reduceToNat, Int.reduceAdd, Int.reduceSub, Int.reduceMul, Int.reduceNeg, Int.reduceEq, Int.reduceLT, Int.reduceLE], fun s hs => (by simp (disch := omega) only [c11r0, c11r1, c11r2, c11r3, c11r4, c11r5, c11r6, c11r7, c11r8, c11r9, c11r10, c11r11, c11r12, c11r13, c11r14, EV0, EV1, EV2, EV3, EV4, EV5, EV6, EV7, EV8, VALS, plug, ite_same, decide_true, decide_false, eq_self, ↓reduceIte, reduceCtorEq, Nat.reduceAdd, Nat.reduceEqDiff, Nat.reduceLT, Nat.reduceLeDiff, Nat.reduceMul, Nat.reduceSub, Nat.reduceDiv, Int.reduceToNat, Int.reduceAdd, Int.reduceSub, Int.reduceMul, Int.reduceNeg, Int.reduceEq, Int.reduceLT, Int.reduceLE]), by simp (disch := omega) only [c11r0, c11r1, c11r2, c11r3, c11r4, c11r5, c11r6, c11r7, c11r8, c11r9, c11r10, c11r11, c11r12, c11r13, c11r14, EV0, EV1, EV2, EV3, EV4, EV5, EV6, EV7, EV8, VALS, plug, ite_same, decide_true, decide_false, eq_self, ↓reduceIte, reduceCtorEq, Nat.reduceAdd, Nat.reduceEqDiff, Nat.reduceLT, Nat.reduceLeDiff, Nat.reduceMul, Nat.reduceSub, Nat.reduceDiv, Int.reduceToNat, Int.reduceAdd, Int.reduceSub, Int.reduceMul, Int.reduceNeg, Int.reduceEq, Int.reduceLT, Int.reduceLE] <;> omega⟩ ?_
        rintro H ⟨hmT, hdT, hbT, keepT, nxT⟩
        generalize hTe : h.nx + 1 + 3 + 3 + 11 + 6 + 4 = T at *
        have hm1 := hmT
        unfold eJ at hmT
        have e1 : (nb (im.length : Int) ++ im).length = 4 + im.length := by rw [List.length_append]; rfl
        have q34 := fun h hm => f34 (j.turn + 1) T (nb (im.length : Int) ++ im) (by omega) (by omega) h hm
        rw [e1] at q34
        refine k_headL (H1.set t (.cells true [AV.p td 0, AV.i IntKind.i64 j.life, AV.b j.dead, AV.i IntKind.i64 j.turn, vu j.im])) rfl (set1_sub hmT) ?_
        refine lt_go (i := 0) (by rfl) (by simp (disch := omega) only [c11r0, c11r1, c11r2, c11r3, c11r4, c11r5, c11r6, c11r7, c11r8, c11r9, c11r10, c11r11, c11r12, c11r13, c11r14, EV0, EV1, EV2, EV3, EV4, EV5, EV6, EV7, EV8, VALS, plug, ite_same, decide_true, decide_false, eq_self, ↓reduceIte, reduceCtorEq, Nat.reduceAdd, Nat.reduceEqDiff, Nat.reduceLT, Nat.reduceLeDiff, Nat.reduceMul, Nat.reduceSub, Nat.reduceDiv, Int.reduceToNat, Int.reduceAdd, Int.reduceSub, Int.reduceMul, Int.reduceNeg, Int.reduceEq, Int.reduceLT, Int.reduceLE]; with_reducible rfl) ?_
        refine lt_call (vu (coded im (j.turn + 1))) (fun h' => H.nx + 11 ≤ h'.nx ∧ ∀ s, s < H.nx → s ≠ T → h'.m s = H.m s) (by simp only [CA, Nat.reduceEqDiff, ↓reduceIte]; rfl) (by simp only [CA, Nat.reduceEqDiff, ↓reduceIte]; rfl) ?_ ?_ ?_
        · rintro _ rfl
          exact (q34 _ (by simp (disch := omega) only [hbT, c11r0, c11r1, c11r2, c11r3, c11r4, c11r5, c11r6, c11r7, c11r8, c11r9, c11r10, c11r11, c11r12, c11r13, c11r14, EV0, EV1, EV2, EV3, EV4, EV5, EV6, EV7, EV8, VALS, plug, ite_same, decide_true, decide_false, eq_self, ↓reduceIte, reduceCtorEq, Nat.reduceAdd, Nat.reduceEqDiff, Nat.reduceLT, Nat.reduceLeDiff, Nat.reduceMul, Nat.reduceSub, Nat.reduceDiv, Int.reduceToNat, Int.reduceAdd, Int.reduceSub, Int.reduceMul, Int.reduceNeg, Int.reduceEq, Int.reduceLT, Int.reduceLE])).mono fun r h' ⟨a, b, c⟩ => ⟨a, b, fun s h1 h2 => c s (by simp only [AH.bump_nx]; omega) h2⟩
        · rintro h' ⟨n1, k1⟩
          exact set1_sub (by rw [k1 t (by omega) (by omega)]; exact hmT)
        · show ∀ h' : AH, _ → _
          rintro h' ⟨n1, k1⟩
          have hm2 : h'.m t = some (.cells true (eJ td j)) := by rw [k1 t (by omega) (by omega)]; exact hm1
          have hd2 : h'.m td = some (.cells true (eI d)) := by rw [k1 td (by omega) (by omega)]; exact hdT
          have em : (j.turn + 1).tmod 2 = (j.turn + 1) % 2 := Int.tmod_eq_emod_of_nonneg (by omega)
          generalize hw : wrD d ((j.turn + 1) % 2) (coded im (j.turn + 1)) = w at qw
          obtain ⟨e, d'⟩ := w
          repeat' first
            | with_reducible refine k_seq ?_
            | with_reducible refine k_skip ?_
            | with_reducible refine k_blkS ?_
            | with_reducible refine k_blkR ?_
            | with_reducible refine k_blkC ?_
            | with_reducible refine k_blkH ?_
            | with_reducible refine k_blkB ?_
            | with_reducible refine k_blkK ?_
            | with_reducible refine k_blkE ?_
            | with_reducible refine k_reg ?_
            | with_reducible refine r_done ?_
            | with_reducible refine s_go (by simp (disch := omega) only [em, c11r0, c11r1, c11r2, c11r3, c11r4, c11r5, c11r6, c11r7, c11r8, c11r9, c11r10, c11r11, c11r12, c11r13, c11r14, EV0, EV1, EV2, EV3, EV4, EV5, EV6, EV7, EV8, VALS, plug, ite_same, decide_true, decide_false, eq_self, ↓reduceIte, reduceCtorEq, Nat.reduceAdd, Nat.reduceEqDiff, Nat.reduceLT, Nat.reduceLeDiff, Nat.reduceMul, Nat.reduceSub, Nat.reduceDiv, Int.reduceToNat, Int.reduceAdd, Int.reduceSub, Int.reduceMul, Int.reduceNeg, Int.reduceEq, Int.reduceLT, Int.reduceLE]; with_reducible rfl) ?_
            | ((with_reducible refine chk_r ?_); refine r_callF (by simp only [CA, Nat.reduceEqDiff, ↓reduceIte]; rfl) (by exact rfl) (by simp only [CA, Nat.reduceEqDiff, ↓reduceIte]; rfl) rfl ?_)
            | ((with_reducible refine chk_r ?_); refine r_callX (by simp only [CA, Nat.reduceEqDiff, ↓reduceIte]; rfl) (by simp only [CA, Nat.reduceEqDiff, ↓reduceIte]; rfl) (by first | exact qw _ hd2) rfl ?_)
            | (with_reducible refine k_condP (by simp only [GA, Nat.reduceEqDiff, ↓reduceIte]; rfl) (by first | (simp only [BO]; rfl) | rfl) (fun ht => ?_) (fun ht => ?_) <;> try (first | exact False.elim ht | exact absurd rfl ht | exact absurd trivial ht | exact Bool.noConfusion ht))
            | (with_reducible refine k_ret ?_; repeat with_reducible (first | refine ret_thru ?_ | refine ret_blk ?_ | refine fin ?_))
            | (with_reducible refine k_exit ?_; repeat with_reducible (first | refine thru ?_ | refine out_blk ?_ | refine pass (by decide) ?_))
            | (refine post1 ?_; simp only [GA, Nat.reduceEqDiff, ↓reduceIte])
            | (refine post2 ?_; simp only [GA, Nat.reduceEqDiff, ↓reduceIte])
            | (refine post3 ?_; simp only [GA, Nat.reduceEqDiff, ↓reduceIte])
            | (refine postc (by simp only [GA, Nat.reduceEqDiff, ↓reduceIte]; rfl) (by simp (disch := omega) only [em, c11r0, c11r1, c11r2, c11r3, c11r4, c11r5, c11r6, c11r7, c11r8, c11r9, c11r10, c11r11, c11r12, c11r13, c11r14, EV0, EV1, EV2, EV3, EV4, EV5, EV6, EV7, EV8, VALS, plug, ite_same, decide_true, decide_false, eq_self, ↓reduceIte, reduceCtorEq, Nat.reduceAdd, Nat.reduceEqDiff, Nat.reduceLT, Nat.reduceLeDiff, Nat.reduceMul, Nat.reduceSub, Nat.reduceDiv, Int.reduceToNat, Int.reduceAdd, Int.reduceSub, Int.reduceMul, Int.reduceNeg, Int.reduceEq, Int.reduceLT, Int.reduceLE]; rfl) ?_)
            | refine post0 ?_
          rintro r h2 ⟨rfl, U⟩
          have mt : h2.m t = some (.cells true (eJ td j)) := by rw [U.keep t (by omega) hne]; exact hm2
          have md := U.m
          have kp2 : ∀ s, s < h.nx → s ≠ td → h2.m s = h.m s := fun s h1 h3 => by rw [U.keep s (by omega) h3, k1 s (by omega) (by omega), keepT s h1]
          have nx2 : h.nx ≤ h2.nx := by have := U.nx; omega
          have lt2 : t < h2.nx := by omega
          have ld2 : td < h2.nx := by omega
          have hne' : td ≠ t := fun q => hne q.symm
          clear k1 hm2 hd2 U keepT hbT hdT hmT hm1 q34 n1
          unfold eJ at mt
          simp only [] at md
          by_cases he : e = 0
          · rw [sv_ok hx (by omega) hw he]
            subst he
            repeat' first
              | with_reducible refine k_seq ?_
              | with_reducible refine k_skip ?_
              | with_reducible refine k_blkS ?_
              | with_reducible refine k_blkR ?_
              | with_reducible refine k_blkC ?_
              | with_reducible refine k_blkH ?_
              | with_reducible refine k_blkB ?_
              | with_reducible refine k_blkK ?_
              | with_reducible refine k_blkE ?_
              | with_reducible refine k_reg ?_
              | with_reducible refine r_done ?_
              | with_reducible refine s_go (by simp (disch := omega) only [mt, row_m mt, read_row (row_m mt), c11r0, c11r1, c11r2, c11r3, c11r4, c11r5, c11r6, c11r7, c11r8, c11r9, c11r10, c11r11, c11r12, c11r13, c11r14, EV0, EV1, EV2, EV3, EV4, EV5, EV6, EV7, EV8, VALS, plug, ite_same, decide_true, decide_false, eq_self, ↓reduceIte, reduceCtorEq, Nat.reduceAdd, Nat.reduceEqDiff, Nat.reduceLT, Nat.reduceLeDiff, Nat.reduceMul, Nat.reduceSub, Nat.reduceDiv, Int.reduceToNat, Int.reduceAdd, Int.reduceSub, Int.reduceMul, Int.reduceNeg, Int.reduceEq, Int.reduceLT, Int.reduceLE]; with_reducible rfl) ?_
              | ((with_reducible refine chk_r ?_); refine r_callF (by simp only [CA, Nat.reduceEqDiff, ↓reduceIte]; rfl) (by exact rfl) (by simp only [CA, Nat.reduceEqDiff, ↓reduceIte]; rfl) rfl ?_)
              | ((with_reducible refine chk_r ?_); refine r_callP (by simp only [CA, Nat.reduceEqDiff, ↓reduceIte]; rfl) (by simp only [CA, Nat.reduceEqDiff, ↓reduceIte]; rfl) (by first | exact q35 _) rfl ?_)
              | (with_reducible refine k_condP (by simp only [GA, Nat.reduceEqDiff, ↓reduceIte]; rfl) (by first | (simp only [BO]; rfl) | rfl) (fun ht => ?_) (fun ht => ?_) <;> try (first | exact False.elim ht | exact absurd rfl ht | exact absurd trivial ht | exact Bool.noConfusion ht))
              | (with_reducible refine k_ret ?_; repeat with_reducible (first | refine ret_thru ?_ | refine ret_blk ?_ | refine fin ?_))
              | (with_reducible refine k_exit ?_; repeat with_reducible (first | refine thru ?_ | refine out_blk ?_ | refine pass (by decide) ?_))
              | (refine post1 ?_; simp only [GA, Nat.reduceEqDiff, ↓reduceIte])
              | (refine post2 ?_; simp only [GA, Nat.reduceEqDiff, ↓reduceIte])
              | (refine post3 ?_; simp only [GA, Nat.reduceEqDiff, ↓reduceIte])
              | (refine postc (by simp only [GA, Nat.reduceEqDiff, ↓reduceIte]; rfl) (by simp (disch := omega) only [mt, row_m mt, read_row (row_m mt), c11r0, c11r1, c11r2, c11r3, c11r4, c11r5, c11r6, c11r7, c11r8, c11r9, c11r10, c11r11, c11r12, c11r13, c11r14, EV0, EV1, EV2, EV3, EV4, EV5, EV6, EV7, EV8, VALS, plug, ite_same, decide_true, decide_false, eq_self, ↓reduceIte, reduceCtorEq, Nat.reduceAdd, Nat.reduceEqDiff, Nat.reduceLT, Nat.reduceLeDiff, Nat.reduceMul, Nat.reduceSub, Nat.reduceDiv, Int.reduceToNat, Int.reduceAdd, Int.reduceSub, Int.reduceMul, Int.reduceNeg, Int.reduceEq, Int.reduceLT, Int.reduceLE]; rfl) ?_)
              | refine post0 ?_
            exact endsW ⟨by simp (disch := omega) only [c11r0, c11r1, c11r2, c11r3, c11r4, c11r5, c11r6, c11r7, c11r8, c11r9, c11r10, c11r11, c11r12, c11r13, c11r14, EV0, EV1, EV2, EV3, EV4, EV5, EV6, EV7, EV8, VALS, plug, ite_same, decide_true, decide_false, eq_self, ↓reduceIte, reduceCtorEq, Nat.reduceAdd, Nat.reduceEqDiff, Nat.reduceLT, Nat.reduceLeDiff, Nat.reduceMul, Nat.reduceSub, Nat.reduceDiv, Int.reduceToNat, Int.reduceAdd, Int.reduceSub, Int.reduceMul, Int.reduceNeg, Int.reduceEq, Int.reduceLT, Int.reduceLE] <;> rfl, by simp (disch := omega) only [md, c11r0, c11r1, c11r2, c11r3, c11r4, c11r5, c11r6, c11r7, c11r8, c11r9, c11r10, c11r11, c11r12, c11r13, c11r14, EV0, EV1, EV2, EV3, EV4, EV5, EV6, EV7, EV8, VALS, plug, ite_same, decide_true, decide_false, eq_self, ↓reduceIte, reduceCtorEq, Nat.reduceAdd, Nat.reduceEqDiff, Nat.reduceLT, Nat.reduceLeDiff, Nat.reduceMul, Nat.reduceSub, Nat.reduceDiv, Int.reduceToNat, Int.reduceAdd, Int.reduceSub, Int.reduceMul, Int.reduceNeg, Int.reduceEq, Int.reduceLT, Int.reduceLE], fun s h1 h2 h3 => (by simp (disch := omega) only [h2, kp2 s h1 h3, c11r0, c11r1, c11r2, c11r3, c11r4, c11r5, c11r6, c11r7, c11r8, c11r9, c11r10, c11r11, c11r12, c11r13, c11r14, EV0, EV1, EV2, EV3, EV4, EV5, EV6, EV7, EV8, VALS, plug, ite_same, decide_true, decide_false, eq_self, ↓reduceIte, reduceCtorEq, Nat.reduceAdd, Nat.reduceEqDiff, Nat.reduceLT, Nat.reduceLeDiff, Nat.reduceMul, Nat.reduceSub, Nat.reduceDiv, Int.reduceToNat, Int.reduceAdd, Int.reduceSub, Int.reduceMul, Int.reduceNeg, Int.reduceEq, Int.reduceLT, Int.reduceLE]), by simp (disch := omega) only [c11r0, c11r1, c11r2, c11r3, c11r4, c11r5, c11r6, c11r7, c11r8, c11r9, c11r10, c11r11, c11r12, c11r13, c11r14, EV0, EV1, EV2, EV3, EV4, EV5, EV6, EV7, EV8, VALS, plug, ite_same, decide_true, decide_false, eq_self, ↓reduceIte, reduceCtorEq, Nat.reduceAdd, Nat.reduceEqDiff, Nat.reduceLT, Nat.reduceLeDiff, Nat.reduceMul, Nat.reduceSub, Nat.reduceDiv, Int.reduceToNat, Int.reduceAdd, Int.reduceSub, Int.reduceMul, Int.reduceNeg, Int.reduceEq, Int.reduceLT, Int.reduceLE] <;> omega⟩
          · rw [sv_no hx (by omega) hw he]
            repeat' first
              | with_reducible refine k_seq ?_
              | with_reducible refine k_skip ?_
              | with_reducible refine k_blkS ?_
              | with_reducible refine k_blkR ?_
              | with_reducible refine k_blkC ?_
              | with_reducible refine k_blkH ?_
              | with_reducible refine k_blkB ?_
              | with_reducible refine k_blkK ?_
              | with_reducible refine k_blkE ?_
              | with_reducible refine k_reg ?_
              | with_reducible refine r_done ?_
              | with_reducible refine s_go (by simp (disch := omega) only [mt, row_m mt, read_row (row_m mt), eq_false he, c11r0, c11r1, c11r2, c11r3, c11r4, c11r5, c11r6, c11r7, c11r8, c11r9, c11r10, c11r11, c11r12, c11r13, c11r14, EV0, EV1, EV2, EV3, EV4, EV5, EV6, EV7, EV8, VALS, plug, ite_same, decide_true, decide_false, eq_self, ↓reduceIte, reduceCtorEq, Nat.reduceAdd, Nat.reduceEqDiff, Nat.reduceLT, Nat.reduceLeDiff, Nat.reduceMul, Nat.reduceSub, Nat.reduceDiv, Int.reduceToNat, Int.reduceAdd, Int.reduceSub, Int.reduceMul, Int.reduceNeg, Int.reduceEq, Int.reduceLT, Int.reduceLE]; with_reducible rfl) ?_
              | ((with_reducible refine chk_r ?_); refine r_callF (by simp only [CA, Nat.reduceEqDiff, ↓reduceIte]; rfl) (by exact rfl) (by simp only [CA, Nat.reduceEqDiff, ↓reduceIte]; rfl) rfl ?_)
              | (with_reducible refine k_condP (by simp only [GA, Nat.reduceEqDiff, ↓reduceIte]; rfl) (by first | (simp only [BO]; rfl) | rfl) (fun ht => ?_) (fun ht => ?_) <;> try (first | exact False.elim ht | exact absurd rfl ht | exact absurd trivial ht | exact Bool.noConfusion ht))
              | (with_reducible refine k_ret ?_; repeat with_reducible (first | refine ret_thru ?_ | refine ret_blk ?_ | refine fin ?_))
              | (with_reducible refine k_exit ?_; repeat with_reducible (first | refine thru ?_ | refine out_blk ?_ | refine pass (by decide) ?_))
              | (refine post1 ?_; simp only [GA, Nat.reduceEqDiff, ↓reduceIte])
              | (refine post2 ?_; simp only [GA, Nat.reduceEqDiff, ↓reduceIte])
              | (refine post3 ?_; simp only [GA, Nat.reduceEqDiff, ↓reduceIte])
              | (refine postc (by simp only [GA, Nat.reduceEqDiff, ↓reduceIte]; rfl) (by simp (disch := omega) only [mt, row_m mt, read_row (row_m mt), eq_false he, c11r0, c11r1, c11r2, c11r3, c11r4, c11r5, c11r6, c11r7, c11r8, c11r9, c11r10, c11r11, c11r12, c11r13, c11r14, EV0, EV1, EV2, EV3, EV4, EV5, EV6, EV7, EV8, VALS, plug, ite_same, decide_true, decide_false, eq_self, ↓reduceIte, reduceCtorEq, Nat.reduceAdd, Nat.reduceEqDiff, Nat.reduceLT, Nat.reduceLeDiff, Nat.reduceMul, Nat.reduceSub, Nat.reduceDiv, Int.reduceToNat, Int.reduceAdd, Int.reduceSub, Int.reduceMul, Int.reduceNeg, Int.reduceEq, Int.reduceLT, Int.reduceLE]; rfl) ?_)
              | refine post0 ?_
            exact endsW ⟨by simp (disch := omega) only [c11r0, c11r1, c11r2, c11r3, c11r4, c11r5, c11r6, c11r7, c11r8, c11r9, c11r10, c11r11, c11r12, c11r13, c11r14, EV0, EV1, EV2, EV3, EV4, EV5, EV6, EV7, EV8, VALS, plug, ite_same, decide_true, decide_false, eq_self, ↓reduceIte, reduceCtorEq, Nat.reduceAdd, Nat.reduceEqDiff, Nat.reduceLT, Nat.reduceLeDiff, Nat.reduceMul, Nat.reduceSub, Nat.reduceDiv, Int.reduceToNat, Int.reduceAdd, Int.reduceSub, Int.reduceMul, Int.reduceNeg, Int.reduceEq, Int.reduceLT, Int.reduceLE] <;> rfl, by simp (disch := omega) only [md, c11r0, c11r1, c11r2, c11r3, c11r4, c11r5, c11r6, c11r7, c11r8, c11r9, c11r10, c11r11, c11r12, c11r13, c11r14, EV0, EV1, EV2, EV3, EV4, EV5, EV6, EV7, EV8, VALS, plug, ite_same, decide_true, decide_false, eq_self, ↓reduceIte, reduceCtorEq, Nat.reduceAdd, Nat.reduceEqDiff, Nat.reduceLT, Nat.reduceLeDiff, Nat.reduceMul, Nat.reduceSub, Nat.reduceDiv, Int.reduceToNat, Int.reduceAdd, Int.reduceSub, Int.reduceMul, Int.reduceNeg, Int.reduceEq, Int.reduceLT, Int.reduceLE], fun s h1 h2 h3 => (by simp (disch := omega) only [h2, kp2 s h1 h3, c11r0, c11r1, c11r2, c11r3, c11r4, c11r5, c11r6, c11r7, c11r8, c11r9, c11r10, c11r11, c11r12, c11r13, c11r14, EV0, EV1, EV2, EV3, EV4, EV5, EV6, EV7, EV8, VALS, plug, ite_same, decide_true, decide_false, eq_self, ↓reduceIte, reduceCtorEq, Nat.reduceAdd, Nat.reduceEqDiff, Nat.reduceLT, Nat.reduceLeDiff, Nat.reduceMul, Nat.reduceSub, Nat.reduceDiv, Int.reduceToNat, Int.reduceAdd, Int.reduceSub, Int.reduceMul, Int.reduceNeg, Int.reduceEq, Int.reduceLT, Int.reduceLE]), by simp (disch := omega) only [c11r0, c11r1, c11r2, c11r3, c11r4, c11r5, c11r6, c11r7, c11r8, c11r9, c11r10, c11r11, c11r12, c11r13, c11r14, EV0, EV1, EV2, EV3, EV4, EV5, EV6, EV7, EV8, VALS, plug, ite_same, decide_true, decide_false, eq_self, ↓reduceIte, reduceCtorEq, Nat.reduceAdd, Nat.reduceEqDiff, Nat.reduceLT, Nat.reduceLeDiff, Nat.reduceMul, Nat.reduceSub, Nat.reduceDiv, Int.reduceToNat, Int.reduceAdd, Int.reduceSub, Int.reduceMul, Int.reduceNeg, Int.reduceEq, Int.reduceLT, Int.reduceLE] <;> omega⟩
/-- an image in a row of its own -/
structure RowB (x : AV) (bs : List Int) (h : AH) (ti oi ai : Nat) (ci : List AV) : Prop where
  x : x = .sl ti oi bs.length ai
  r : h.row ti = some ci
  c : (ci.drop oi).take bs.length = ul bs
  l : oi + bs.length ≤ ci.length
set_option maxHeartbeats 1000000 in
/-- the number is put behind the image, the slot is written -/
theorem head11 (t td : Nat) (j : J) (jok : j.ok) (d : D) (dok : d.ok) (im : List Int) (hi : im.length ≤ 90000000) (x : AV) (h H : AH) (hne : t ≠ td) (lt : t < h.nx) (ltd : td < h.nx) {T n : Nat} (hn : n = 4 + im.length) (hT : h.nx < T) (nxT : T < H.nx) (hm1 : H.m t = some (.cells true (eJ td j))) (hdT : H.m td = some (.cells true (eI d))) (hbT : H.m T = some (.cells true (ul (nb (im.length : Int) ++ im)))) (keepT : ∀ s, s < h.nx → H.m s = h.m s)
    {st : St} (g0 : st.get 0 = .p t 0) (g1 : st.get 1 = x) (g5 : st.get 5 = .i .i64 (j.turn + 1)) (g6 : st.get 6 = .sl T 0 n 1) {e : Int} {d' : D} (hw : wrD d ((j.turn + 1) % 2) (coded im (j.turn + 1)) = (e, d')) {K : St → AH → Prop} {Q : Exit → St → AH → Prop}
    (k : ∀ st' h2, Am.keep [0, 1, 5, 7] st' = [(0, .p t 0), (1, x), (5, .i .i64 (j.turn + 1)), (7, .i .i64 e)] → h2.m t = some (.cells true (eJ td j)) → h2.m td = some (.cells true (eI d')) → (∀ s, s < h.nx → s ≠ td → h2.m s = h.m s) → h.nx ≤ h2.nx → K st' h2) : W Try.prog 60 (.head 9 c11r9) (athen K Q) st H := by
  subst hn
  have qw := fun h hm => f14 td d dok ((j.turn + 1) % 2) (coded im (j.turn + 1)) (by rw [coded_len]; omega) h hm
  rw [hw] at qw
  obtain ⟨ht1, ht2⟩ := jok.turn
  refine W.keep [0, 1, 5, 6] ?_
  simp only [Am.keep, List.map_cons, List.map_nil, g0, g1, g5, g6]
  have hmT := hm1
  unfold eJ at hmT
  have e1 : (nb (im.length : Int) ++ im).length = 4 + im.length := by rw [List.length_append]; rfl
  have q34 := fun h hm => f34 (j.turn + 1) T (nb (im.length : Int) ++ im) (by omega) (by omega) h hm
  rw [e1] at q34
  refine k_headL (H1.set t (.cells true [AV.p td 0, AV.i IntKind.i64 j.life, AV.b j.dead, AV.i IntKind.i64 j.turn, vu j.im])) rfl (set1_sub hmT) ?_
  refine lt_go (i := 0) (by rfl) (by simp (disch := omega) only [c11r0, c11r1, c11r2, c11r3, c11r4, c11r5, c11r6, c11r7, c11r8, c11r9, c11r10, c11r11, c11r12, c11r13, c11r14, EV0, EV1, EV2, EV3, EV4, EV5, EV6, EV7, EV8, VALS, plug, ite_same, decide_true, decide_false, eq_self, ↓reduceIte, reduceCtorEq, Nat.reduceAdd, Nat.reduceEqDiff, Nat.reduceLT, Nat.reduceLeDiff, Nat.reduceMul, Nat.reduceSub, Nat.reduceDiv, Int.reduceToNat, Int.reduceAdd, Int.reduceSub, Int.reduceMul, Int.reduceNeg, Int.reduceEq, Int.reduceLT, Int.reduceLE]; with_reducible rfl) ?_
  refine lt_call (vu (coded im (j.turn + 1))) (fun h' => H.nx + 11 ≤ h'.nx ∧ ∀ s, s < H.nx → s ≠ T → h'.m s = H.m s) (by simp only [CA, Nat.reduceEqDiff, ↓reduceIte]; rfl) (by simp only [CA, Nat.reduceEqDiff, ↓reduceIte]; rfl) ?_ ?_ ?_
  · rintro _ rfl
    exact (q34 _ (by simp (disch := omega) only [hbT, c11r0, c11r1, c11r2, c11r3, c11r4, c11r5, c11r6, c11r7, c11r8, c11r9, c11r10, c11r11, c11r12, c11r13, c11r14, EV0, EV1, EV2, EV3, EV4, EV5, EV6, EV7, EV8, VALS, plug, ite_same, decide_true, decide_false, eq_self, ↓reduceIte, reduceCtorEq, Nat.reduceAdd, Nat.reduceEqDiff, Nat.reduceLT, Nat.reduceLeDiff, Nat.reduceMul, Nat.reduceSub, Nat.reduceDiv, Int.reduceToNat, Int.reduceAdd, Int.reduceSub, Int.reduceMul, Int.reduceNeg, Int.reduceEq, Int.reduceLT, Int.reduceLE])).mono fun r h' ⟨a, b, c⟩ => ⟨a, b, fun s h1 h2 => c s (by simp only [AH.bump_nx]; omega) h2⟩
  · rintro h' ⟨n1, k1⟩
    exact set1_sub (by rw [k1 t (by omega) (by omega)]; exact hmT)
  · show ∀ h' : AH, _ → _
    rintro h' ⟨n1, k1⟩
    have hm2 : h'.m t = some (.cells true (eJ td j)) := by rw [k1 t (by omega) (by omega)]; exact hm1
    have hd2 : h'.m td = some (.cells true (eI d)) := by rw [k1 td (by omega) (by omega)]; exact hdT
    have em : (j.turn + 1).tmod 2 = (j.turn + 1) % 2 := Int.tmod_eq_emod_of_nonneg (by omega)
    repeat' first
      | with_reducible refine k_seq ?_
      | with_reducible refine k_skip ?_
      | with_reducible refine k_blkS ?_
      | with_reducible refine k_blkR ?_
      | with_reducible refine k_blkC ?_
      | with_reducible refine k_blkH ?_
      | with_reducible refine k_blkB ?_
      | with_reducible refine k_blkK ?_
      | with_reducible refine k_blkE ?_
      | with_reducible refine k_reg ?_
      | with_reducible refine r_done ?_
      | with_reducible refine s_go (by simp (disch := omega) only [em, c11r0, c11r1, c11r2, c11r3, c11r4, c11r5, c11r6, c11r7, c11r8, c11r9, c11r10, c11r11, c11r12, c11r13, c11r14, EV0, EV1, EV2, EV3, EV4, EV5, EV6, EV7, EV8, VALS, plug, ite_same, decide_true, decide_false, eq_self, ↓reduceIte, reduceCtorEq, Nat.reduceAdd, Nat.reduceEqDiff, Nat.reduceLT, Nat.reduceLeDiff, Nat.reduceMul, Nat.reduceSub, Nat.reduceDiv, Int.reduceToNat, Int.reduceAdd, Int.reduceSub, Int.reduceMul, Int.reduceNeg, Int.reduceEq, Int.reduceLT, Int.reduceLE]; with_reducible rfl) ?_
      | ((with_reducible refine chk_r ?_); refine r_callF (by simp only [CA, Nat.reduceEqDiff, ↓reduceIte]; rfl) (by exact rfl) (by simp only [CA, Nat.reduceEqDiff, ↓reduceIte]; rfl) rfl ?_)
      | ((with_reducible refine chk_r ?_); refine r_callX (by simp only [CA, Nat.reduceEqDiff, ↓reduceIte]; rfl) (by simp only [CA, Nat.reduceEqDiff, ↓reduceIte]; rfl) (by first | exact qw _ hd2) rfl ?_)
      | (with_reducible refine k_condP (by simp only [GA, Nat.reduceEqDiff, ↓reduceIte]; rfl) (by first | (simp only [BO]; rfl) | rfl) (fun ht => ?_) (fun ht => ?_) <;> try (first | exact False.elim ht | exact absurd rfl ht | exact absurd trivial ht | exact Bool.noConfusion ht))
      | (with_reducible refine k_ret ?_; repeat with_reducible (first | refine ret_thru ?_ | refine ret_blk ?_ | refine fin ?_))
      | (with_reducible refine k_exit ?_; repeat with_reducible (first | refine thru ?_ | refine out_blk ?_ | refine pass (by decide) ?_))
      | (refine post1 ?_; simp only [GA, Nat.reduceEqDiff, ↓reduceIte])
      | (refine post2 ?_; simp only [GA, Nat.reduceEqDiff, ↓reduceIte])
      | (refine post3 ?_; simp only [GA, Nat.reduceEqDiff, ↓reduceIte])
      | (refine postc (by simp only [GA, Nat.reduceEqDiff, ↓reduceIte]; rfl) (by simp (disch := omega) only [em, c11r0, c11r1, c11r2, c11r3, c11r4, c11r5, c11r6, c11r7, c11r8, c11r9, c11r10, c11r11, c11r12, c11r13, c11r14, EV0, EV1, EV2, EV3, EV4, EV5, EV6, EV7, EV8, VALS, plug, ite_same, decide_true, decide_false, eq_self, ↓reduceIte, reduceCtorEq, Nat.reduceAdd, Nat.reduceEqDiff, Nat.reduceLT, Nat.reduceLeDiff, Nat.reduceMul, Nat.reduceSub, Nat.reduceDiv, Int.reduceToNat, Int.reduceAdd, Int.reduceSub, Int.reduceMul, Int.reduceNeg, Int.reduceEq, Int.reduceLT, Int.reduceLE]; rfl) ?_)
      | refine post0 ?_
    rintro r h2 ⟨rfl, U⟩
    have mt : h2.m t = some (.cells true (eJ td j)) := by rw [U.keep t (by omega) hne]; exact hm2
    have md := U.m
    have kp2 : ∀ s, s < h.nx → s ≠ td → h2.m s = h.m s := fun s h1 h3 => by rw [U.keep s (by omega) h3, k1 s (by omega) (by omega), keepT s h1]
    have nx2 : h.nx ≤ h2.nx := by have := U.nx; omega
    refine s_go (by simp (disch := omega) only [c11r0, c11r1, c11r2, c11r3, c11r4, c11r5, c11r6, c11r7, c11r8, c11r9, c11r10, c11r11, c11r12, c11r13, c11r14, EV0, EV1, EV2, EV3, EV4, EV5, EV6, EV7, EV8, VALS, plug, ite_same, decide_true, decide_false, eq_self, ↓reduceIte, reduceCtorEq, Nat.reduceAdd, Nat.reduceEqDiff, Nat.reduceLT, Nat.reduceLeDiff, Nat.reduceMul, Nat.reduceSub, Nat.reduceDiv, Int.reduceToNat, Int.reduceAdd, Int.reduceSub, Int.reduceMul, Int.reduceNeg, Int.reduceEq, Int.reduceLT, Int.reduceLE]; with_reducible rfl) ?_
    refine r_done ?_
    exact k _ _ (by simp only [Am.keep, List.map_cons, List.map_nil, GA, Nat.reduceEqDiff, ↓reduceIte]; try rfl) mt md kp2 nx2
section
variable (t td : Nat) (j : J) (jok : j.ok) (d : D) (dok : d.ok) (im : List Int) (h : AH) (hne : t ≠ td) (hm : h.m t = some (.cells true (eJ td j))) (hd : h.m td = some (.cells true (eI d)))
include jok dok hne hm hd
set_option maxHeartbeats 1000000 in
theorem row11 (hi : im.length ≤ 60000) {ti oi ai : Nat} {ci : List AV} {x : AV} (B : RowB x im h ti oi ai ci) (n1 : ti ≠ t) (n2 : ti ≠ td) (hx : dd j d = false) (l2 : ¬ j.turn = 2147483647) {d' : D} (hw : wrD d ((j.turn + 1) % 2) (coded im (j.turn + 1)) = (0, d')) :
    ACalls Try.prog 11 [.p t 0, x] h fun r h' => r = .i .i64 0 ∧ Upd2 t td (eJ td { j with turn := j.turn + 1, im := im }) (eI d') h h' := by
  obtain ⟨rfl, hri, hci, hli⟩ := B
  have q33 := fun h hm => f33 t td j h hm
  have q22 := fun h hm hd => f22 t td j d h hm hd
  obtain ⟨ht1, ht2⟩ := jok.turn
  have hm0 := hm
  unfold eJ at hm
  refine w_fn fn11 (by simp) fun ok pos => ?_
  have lt := ok.m hm
  have ltd := ok.m hd
  have lti := ok.row hri
  rw [initSt2]
  rw [hx] at q22
  have l1' : ¬ (65536 : Int) < im.length := by omega
  have e4 : (nb (im.length : Int) ++ im).length = 4 + im.length := by rw [List.length_append]; rfl
  have qc := fun h hm => row35 ti oi ai im ci (by omega) h hm hci hli
  by_cases h0 : im.length = 0
  · have h0' := eq_true h0
    have i0 : im = [] := List.length_eq_zero_iff.1 h0
    repeat' first
      | with_reducible refine k_seq ?_
      | with_reducible refine k_skip ?_
      | with_reducible refine k_blkS ?_
      | with_reducible refine k_blkR ?_
      | with_reducible refine k_blkC ?_
      | with_reducible refine k_blkH ?_
      | with_reducible refine k_blkB ?_
      | with_reducible refine k_blkK ?_
      | with_reducible refine k_blkE ?_
      | with_reducible refine k_reg ?_
      | with_reducible refine r_done ?_
      | with_reducible refine s_go (by simp (disch := omega) only [row_m hm, read_row (row_m hm), l1', eq_false l2, ul_len, nb_len, hri, hci, hli, h0', c11r0, c11r1, c11r2, c11r3, c11r4, c11r5, c11r6, c11r7, c11r8, c11r9, c11r10, c11r11, c11r12, c11r13, c11r14, EV0, EV1, EV2, EV3, EV4, EV5, EV6, EV7, EV8, VALS, plug, ite_same, decide_true, decide_false, eq_self, ↓reduceIte, reduceCtorEq, Nat.reduceAdd, Nat.reduceEqDiff, Nat.reduceLT, Nat.reduceLeDiff, Nat.reduceMul, Nat.reduceSub, Nat.reduceDiv, Int.reduceToNat, Int.reduceAdd, Int.reduceSub, Int.reduceMul, Int.reduceNeg, Int.reduceEq, Int.reduceLT, Int.reduceLE]; with_reducible rfl) ?_
      | ((with_reducible refine chk_r ?_); refine r_callF (by simp only [CA, Nat.reduceEqDiff, ↓reduceIte]; rfl) (by exact rfl) (by simp only [CA, Nat.reduceEqDiff, ↓reduceIte]; rfl) rfl ?_)
      | ((with_reducible refine chk_r ?_); refine r_callP (by simp only [CA, Nat.reduceEqDiff, ↓reduceIte]; rfl) (by simp only [CA, Nat.reduceEqDiff, ↓reduceIte]; rfl) (by first | ((refine q33 _ ?_; simp (disch := omega) only [row_m hm0, c11r0, c11r1, c11r2, c11r3, c11r4, c11r5, c11r6, c11r7, c11r8, c11r9, c11r10, c11r11, c11r12, c11r13, c11r14, EV0, EV1, EV2, EV3, EV4, EV5, EV6, EV7, EV8, VALS, plug, ite_same, decide_true, decide_false, eq_self, ↓reduceIte, reduceCtorEq, Nat.reduceAdd, Nat.reduceEqDiff, Nat.reduceLT, Nat.reduceLeDiff, Nat.reduceMul, Nat.reduceSub, Nat.reduceDiv, Int.reduceToNat, Int.reduceAdd, Int.reduceSub, Int.reduceMul, Int.reduceNeg, Int.reduceEq, Int.reduceLT, Int.reduceLE]); all_goals fail) | ((refine q22 _ ?_ ?_ <;> simp (disch := omega) only [row_m hm0, row_m hd, c11r0, c11r1, c11r2, c11r3, c11r4, c11r5, c11r6, c11r7, c11r8, c11r9, c11r10, c11r11, c11r12, c11r13, c11r14, EV0, EV1, EV2, EV3, EV4, EV5, EV6, EV7, EV8, VALS, plug, ite_same, decide_true, decide_false, eq_self, ↓reduceIte, reduceCtorEq, Nat.reduceAdd, Nat.reduceEqDiff, Nat.reduceLT, Nat.reduceLeDiff, Nat.reduceMul, Nat.reduceSub, Nat.reduceDiv, Int.reduceToNat, Int.reduceAdd, Int.reduceSub, Int.reduceMul, Int.reduceNeg, Int.reduceEq, Int.reduceLT, Int.reduceLE]); all_goals fail)) rfl ?_)
      | ((with_reducible refine chk_r ?_); refine r_callN (by simp only [CA, Nat.reduceEqDiff, ↓reduceIte]; rfl) (by simp only [CA, Nat.reduceEqDiff, ↓reduceIte]; rfl) (by first | exact f34z _ _) rfl ?_)
      | (with_reducible refine k_condP (by simp only [GA, Nat.reduceEqDiff, ↓reduceIte]; rfl) (by first | (simp only [BO]; rfl) | rfl) (fun ht => ?_) (fun ht => ?_) <;> try (first | exact False.elim ht | exact absurd rfl ht | exact absurd trivial ht | exact Bool.noConfusion ht))
      | (with_reducible refine k_ret ?_; repeat with_reducible (first | refine ret_thru ?_ | refine ret_blk ?_ | refine fin ?_))
      | (with_reducible refine k_exit ?_; repeat with_reducible (first | refine thru ?_ | refine out_blk ?_ | refine pass (by decide) ?_))
      | (refine post1 ?_; simp only [GA, Nat.reduceEqDiff, ↓reduceIte])
      | (refine post2 ?_; simp only [GA, Nat.reduceEqDiff, ↓reduceIte])
      | (refine post3 ?_; simp only [GA, Nat.reduceEqDiff, ↓reduceIte])
      | (refine postc (by simp only [GA, Nat.reduceEqDiff, ↓reduceIte]; rfl) (by simp (disch := omega) only [row_m hm, read_row (row_m hm), l1', eq_false l2, ul_len, nb_len, hri, hci, hli, h0', c11r0, c11r1, c11r2, c11r3, c11r4, c11r5, c11r6, c11r7, c11r8, c11r9, c11r10, c11r11, c11r12, c11r13, c11r14, EV0, EV1, EV2, EV3, EV4, EV5, EV6, EV7, EV8, VALS, plug, ite_same, decide_true, decide_false, eq_self, ↓reduceIte, reduceCtorEq, Nat.reduceAdd, Nat.reduceEqDiff, Nat.reduceLT, Nat.reduceLeDiff, Nat.reduceMul, Nat.reduceSub, Nat.reduceDiv, Int.reduceToNat, Int.reduceAdd, Int.reduceSub, Int.reduceMul, Int.reduceNeg, Int.reduceEq, Int.reduceLT, Int.reduceLE]; rfl) ?_)
      | refine post0 ?_
    refine head11 t td j jok d dok im (by omega) (.sl ti oi im.length ai) h _ hne lt ltd rfl (T := h.nx + 1 + 3 + 3 + 11 + 6 + 4) (by omega) (by simp (disch := omega) only [c11r0, c11r1, c11r2, c11r3, c11r4, c11r5, c11r6, c11r7, c11r8, c11r9, c11r10, c11r11, c11r12, c11r13, c11r14, EV0, EV1, EV2, EV3, EV4, EV5, EV6, EV7, EV8, VALS, plug, ite_same, decide_true, decide_false, eq_self, ↓reduceIte, reduceCtorEq, Nat.reduceAdd, Nat.reduceEqDiff, Nat.reduceLT, Nat.reduceLeDiff, Nat.reduceMul, Nat.reduceSub, Nat.reduceDiv, Int.reduceToNat, Int.reduceAdd, Int.reduceSub, Int.reduceMul, Int.reduceNeg, Int.reduceEq, Int.reduceLT, Int.reduceLE] <;> omega) (by simp (disch := omega) only [hm0, c11r0, c11r1, c11r2, c11r3, c11r4, c11r5, c11r6, c11r7, c11r8, c11r9, c11r10, c11r11, c11r12, c11r13, c11r14, EV0, EV1, EV2, EV3, EV4, EV5, EV6, EV7, EV8, VALS, plug, ite_same, decide_true, decide_false, eq_self, ↓reduceIte, reduceCtorEq, Nat.reduceAdd, Nat.reduceEqDiff, Nat.reduceLT, Nat.reduceLeDiff, Nat.reduceMul, Nat.reduceSub, Nat.reduceDiv, Int.reduceToNat, Int.reduceAdd, Int.reduceSub, Int.reduceMul, Int.reduceNeg, Int.reduceEq, Int.reduceLT, Int.reduceLE]) (by simp (disch := omega) only [hd, c11r0, c11r1, c11r2, c11r3, c11r4, c11r5, c11r6, c11r7, c11r8, c11r9, c11r10, c11r11, c11r12, c11r13, c11r14, EV0, EV1, EV2, EV3, EV4, EV5, EV6, EV7, EV8, VALS, plug, ite_same, decide_true, decide_false, eq_self, ↓reduceIte, reduceCtorEq, Nat.reduceAdd, Nat.reduceEqDiff, Nat.reduceLT, Nat.reduceLeDiff, Nat.reduceMul, Nat.reduceSub, Nat.reduceDiv, Int.reduceToNat, Int.reduceAdd, Int.reduceSub, Int.reduceMul, Int.reduceNeg, Int.reduceEq, Int.reduceLT, Int.reduceLE]) (by simp (disch := omega) only [i0, c11r0, c11r1, c11r2, c11r3, c11r4, c11r5, c11r6, c11r7, c11r8, c11r9, c11r10, c11r11, c11r12, c11r13, c11r14, EV0, EV1, EV2, EV3, EV4, EV5, EV6, EV7, EV8, VALS, plug, ite_same, decide_true, decide_false, eq_self, ↓reduceIte, reduceCtorEq, Nat.reduceAdd, Nat.reduceEqDiff, Nat.reduceLT, Nat.reduceLeDiff, Nat.reduceMul, Nat.reduceSub, Nat.reduceDiv, Int.reduceToNat, Int.reduceAdd, Int.reduceSub, Int.reduceMul, Int.reduceNeg, Int.reduceEq, Int.reduceLT, Int.reduceLE] <;> rfl) (fun s hs => (by simp (disch := omega) only [c11r0, c11r1, c11r2, c11r3, c11r4, c11r5, c11r6, c11r7, c11r8, c11r9, c11r10, c11r11, c11r12, c11r13, c11r14, EV0, EV1, EV2, EV3, EV4, EV5, EV6, EV7, EV8, VALS, plug, ite_same, decide_true, decide_false, eq_self, ↓reduceIte, reduceCtorEq, Nat.reduceAdd, Nat.reduceEqDiff, Nat.reduceLT, Nat.reduceLeDiff, Nat.reduceMul, Nat.reduceSub, Nat.reduceDiv, Int.reduceToNat, Int.reduceAdd, Int.reduceSub, Int.reduceMul, Int.reduceNeg, Int.reduceEq, Int.reduceLT, Int.reduceLE])) rfl rfl rfl rfl hw fun st h2 est mt md kp2 nx2 => ?_
    refine k_inv est ?_
    have lt2 : t < h2.nx := by omega
    have ld2 : td < h2.nx := by omega
    have hne' : td ≠ t := fun q => hne q.symm
    have ri2 : h2.row ti = some ci := by rw [row_eq (kp2 ti lti n2)]; exact hri
    have lti2 : ti < h2.nx := by omega
    clear hm hm0 hd q33 q22 hri
    unfold eJ at mt
    repeat' first
      | with_reducible refine k_seq ?_
      | with_reducible refine k_skip ?_
      | with_reducible refine k_blkS ?_
      | with_reducible refine k_blkR ?_
      | with_reducible refine k_blkC ?_
      | with_reducible refine k_blkH ?_
      | with_reducible refine k_blkB ?_
      | with_reducible refine k_blkK ?_
      | with_reducible refine k_blkE ?_
      | with_reducible refine k_reg ?_
      | with_reducible refine r_done ?_
      | with_reducible refine s_go (by simp (disch := omega) only [mt, row_m mt, read_row (row_m mt), c11r0, c11r1, c11r2, c11r3, c11r4, c11r5, c11r6, c11r7, c11r8, c11r9, c11r10, c11r11, c11r12, c11r13, c11r14, EV0, EV1, EV2, EV3, EV4, EV5, EV6, EV7, EV8, VALS, plug, ite_same, decide_true, decide_false, eq_self, ↓reduceIte, reduceCtorEq, Nat.reduceAdd, Nat.reduceEqDiff, Nat.reduceLT, Nat.reduceLeDiff, Nat.reduceMul, Nat.reduceSub, Nat.reduceDiv, Int.reduceToNat, Int.reduceAdd, Int.reduceSub, Int.reduceMul, Int.reduceNeg, Int.reduceEq, Int.reduceLT, Int.reduceLE]; with_reducible rfl) ?_
      | ((with_reducible refine chk_r ?_); refine r_callF (by simp only [CA, Nat.reduceEqDiff, ↓reduceIte]; rfl) (by exact rfl) (by simp only [CA, Nat.reduceEqDiff, ↓reduceIte]; rfl) rfl ?_)
      | ((with_reducible refine chk_r ?_); refine r_callP (by simp only [CA, Nat.reduceEqDiff, ↓reduceIte]; rfl) (by simp only [CA, Nat.reduceEqDiff, ↓reduceIte]; rfl) (by first | ((refine qc _ ?_; simp (disch := omega) only [ri2, c11r0, c11r1, c11r2, c11r3, c11r4, c11r5, c11r6, c11r7, c11r8, c11r9, c11r10, c11r11, c11r12, c11r13, c11r14, EV0, EV1, EV2, EV3, EV4, EV5, EV6, EV7, EV8, VALS, plug, ite_same, decide_true, decide_false, eq_self, ↓reduceIte, reduceCtorEq, Nat.reduceAdd, Nat.reduceEqDiff, Nat.reduceLT, Nat.reduceLeDiff, Nat.reduceMul, Nat.reduceSub, Nat.reduceDiv, Int.reduceToNat, Int.reduceAdd, Int.reduceSub, Int.reduceMul, Int.reduceNeg, Int.reduceEq, Int.reduceLT, Int.reduceLE]); all_goals fail)) rfl ?_)
      | (with_reducible refine k_condP (by simp only [GA, Nat.reduceEqDiff, ↓reduceIte]; rfl) (by first | (simp only [BO]; rfl) | rfl) (fun ht => ?_) (fun ht => ?_) <;> try (first | exact False.elim ht | exact absurd rfl ht | exact absurd trivial ht | exact Bool.noConfusion ht))
      | (with_reducible refine k_ret ?_; repeat with_reducible (first | refine ret_thru ?_ | refine ret_blk ?_ | refine fin ?_))
      | (with_reducible refine k_exit ?_; repeat with_reducible (first | refine thru ?_ | refine out_blk ?_ | refine pass (by decide) ?_))
      | (refine post1 ?_; simp only [GA, Nat.reduceEqDiff, ↓reduceIte])
      | (refine post2 ?_; simp only [GA, Nat.reduceEqDiff, ↓reduceIte])
      | (refine post3 ?_; simp only [GA, Nat.reduceEqDiff, ↓reduceIte])
      | (refine postc (by simp only [GA, Nat.reduceEqDiff, ↓reduceIte]; rfl) (by simp (disch := omega) only [mt, row_m mt, read_row (row_m mt), c11r0, c11r1, c11r2, c11r3, c11r4, c11r5, c11r6, c11r7, c11r8, c11r9, c11r10, c11r11, c11r12, c11r13, c11r14, EV0, EV1, EV2, EV3, EV4, EV5, EV6, EV7, EV8, VALS, plug, ite_same, decide_true, decide_false, eq_self, ↓reduceIte, reduceCtorEq, Nat.reduceAdd, Nat.reduceEqDiff, Nat.reduceLT, Nat.reduceLeDiff, Nat.reduceMul, Nat.reduceSub, Nat.reduceDiv, Int.reduceToNat, Int.reduceAdd, Int.reduceSub, Int.reduceMul, Int.reduceNeg, Int.reduceEq, Int.reduceLT, Int.reduceLE]; rfl) ?_)
      | refine post0 ?_
    exact endsW ⟨by simp (disch := omega) only [c11r0, c11r1, c11r2, c11r3, c11r4, c11r5, c11r6, c11r7, c11r8, c11r9, c11r10, c11r11, c11r12, c11r13, c11r14, EV0, EV1, EV2, EV3, EV4, EV5, EV6, EV7, EV8, VALS, plug, ite_same, decide_true, decide_false, eq_self, ↓reduceIte, reduceCtorEq, Nat.reduceAdd, Nat.reduceEqDiff, Nat.reduceLT, Nat.reduceLeDiff, Nat.reduceMul, Nat.reduceSub, Nat.reduceDiv, Int.reduceToNat, Int.reduceAdd, Int.reduceSub, Int.reduceMul, Int.reduceNeg, Int.reduceEq, Int.reduceLT, Int.reduceLE] <;> rfl, by simp (disch := omega) only [md, c11r0, c11r1, c11r2, c11r3, c11r4, c11r5, c11r6, c11r7, c11r8, c11r9, c11r10, c11r11, c11r12, c11r13, c11r14, EV0, EV1, EV2, EV3, EV4, EV5, EV6, EV7, EV8, VALS, plug, ite_same, decide_true, decide_false, eq_self, ↓reduceIte, reduceCtorEq, Nat.reduceAdd, Nat.reduceEqDiff, Nat.reduceLT, Nat.reduceLeDiff, Nat.reduceMul, Nat.reduceSub, Nat.reduceDiv, Int.reduceToNat, Int.reduceAdd, Int.reduceSub, Int.reduceMul, Int.reduceNeg, Int.reduceEq, Int.reduceLT, Int.reduceLE], fun s h1 h2 h3 => (by simp (disch := omega) only [h2, kp2 s h1 h3, c11r0, c11r1, c11r2, c11r3, c11r4, c11r5, c11r6, c11r7, c11r8, c11r9, c11r10, c11r11, c11r12, c11r13, c11r14, EV0, EV1, EV2, EV3, EV4, EV5, EV6, EV7, EV8, VALS, plug, ite_same, decide_true, decide_false, eq_self, ↓reduceIte, reduceCtorEq, Nat.reduceAdd, Nat.reduceEqDiff, Nat.reduceLT, Nat.reduceLeDiff, Nat.reduceMul, Nat.reduceSub, Nat.reduceDiv, Int.reduceToNat, Int.reduceAdd, Int.reduceSub, Int.reduceMul, Int.reduceNeg, Int.reduceEq, Int.reduceLT, Int.reduceLE]), by simp (disch := omega) only [c11r0, c11r1, c11r2, c11r3, c11r4, c11r5, c11r6, c11r7, c11r8, c11r9, c11r10, c11r11, c11r12, c11r13, c11r14, EV0, EV1, EV2, EV3, EV4, EV5, EV6, EV7, EV8, VALS, plug, ite_same, decide_true, decide_false, eq_self, ↓reduceIte, reduceCtorEq, Nat.reduceAdd, Nat.reduceEqDiff, Nat.reduceLT, Nat.reduceLeDiff, Nat.reduceMul, Nat.reduceSub, Nat.reduceDiv, Int.reduceToNat, Int.reduceAdd, Int.reduceSub, Int.reduceMul, Int.reduceNeg, Int.reduceEq, Int.reduceLT, Int.reduceLE] <;> omega⟩
  · repeat' first
      | with_reducible refine k_seq ?_
      | with_reducible refine k_skip ?_
      | with_reducible refine k_blkS ?_
      | with_reducible refine k_blkR ?_
      | with_reducible refine k_blkC ?_
      | with_reducible refine k_blkH ?_
      | with_reducible refine k_blkB ?_
      | with_reducible refine k_blkK ?_
      | with_reducible refine k_blkE ?_
      | with_reducible refine k_reg ?_
      | with_reducible refine r_done ?_
      | with_reducible refine s_go (by simp (disch := omega) only [row_m hm, read_row (row_m hm), l1', eq_false l2, ul_len, nb_len, hri, hci, hli, h0, c11r0, c11r1, c11r2, c11r3, c11r4, c11r5, c11r6, c11r7, c11r8, c11r9, c11r10, c11r11, c11r12, c11r13, c11r14, EV0, EV1, EV2, EV3, EV4, EV5, EV6, EV7, EV8, VALS, plug, ite_same, decide_true, decide_false, eq_self, ↓reduceIte, reduceCtorEq, Nat.reduceAdd, Nat.reduceEqDiff, Nat.reduceLT, Nat.reduceLeDiff, Nat.reduceMul, Nat.reduceSub, Nat.reduceDiv, Int.reduceToNat, Int.reduceAdd, Int.reduceSub, Int.reduceMul, Int.reduceNeg, Int.reduceEq, Int.reduceLT, Int.reduceLE]; with_reducible rfl) ?_
      | ((with_reducible refine chk_r ?_); refine r_callF (by simp only [CA, Nat.reduceEqDiff, ↓reduceIte]; rfl) (by exact rfl) (by simp only [CA, Nat.reduceEqDiff, ↓reduceIte]; rfl) rfl ?_)
      | ((with_reducible refine chk_r ?_); refine r_callP (by simp only [CA, Nat.reduceEqDiff, ↓reduceIte]; rfl) (by simp only [CA, Nat.reduceEqDiff, ↓reduceIte]; rfl) (by first | ((refine q33 _ ?_; simp (disch := omega) only [row_m hm0, c11r0, c11r1, c11r2, c11r3, c11r4, c11r5, c11r6, c11r7, c11r8, c11r9, c11r10, c11r11, c11r12, c11r13, c11r14, EV0, EV1, EV2, EV3, EV4, EV5, EV6, EV7, EV8, VALS, plug, ite_same, decide_true, decide_false, eq_self, ↓reduceIte, reduceCtorEq, Nat.reduceAdd, Nat.reduceEqDiff, Nat.reduceLT, Nat.reduceLeDiff, Nat.reduceMul, Nat.reduceSub, Nat.reduceDiv, Int.reduceToNat, Int.reduceAdd, Int.reduceSub, Int.reduceMul, Int.reduceNeg, Int.reduceEq, Int.reduceLT, Int.reduceLE]); all_goals fail) | ((refine q22 _ ?_ ?_ <;> simp (disch := omega) only [row_m hm0, row_m hd, c11r0, c11r1, c11r2, c11r3, c11r4, c11r5, c11r6, c11r7, c11r8, c11r9, c11r10, c11r11, c11r12, c11r13, c11r14, EV0, EV1, EV2, EV3, EV4, EV5, EV6, EV7, EV8, VALS, plug, ite_same, decide_true, decide_false, eq_self, ↓reduceIte, reduceCtorEq, Nat.reduceAdd, Nat.reduceEqDiff, Nat.reduceLT, Nat.reduceLeDiff, Nat.reduceMul, Nat.reduceSub, Nat.reduceDiv, Int.reduceToNat, Int.reduceAdd, Int.reduceSub, Int.reduceMul, Int.reduceNeg, Int.reduceEq, Int.reduceLT, Int.reduceLE]); all_goals fail)) rfl ?_)
      | ((with_reducible refine chk_r ?_); refine r_callN (by simp only [CA, Nat.reduceEqDiff, ↓reduceIte]; rfl) (by simp only [CA, Nat.reduceEqDiff, ↓reduceIte]; rfl) (by first | exact f34z _ _) rfl ?_)
      | (with_reducible refine k_condP (by simp only [GA, Nat.reduceEqDiff, ↓reduceIte]; rfl) (by first | (simp only [BO]; rfl) | rfl) (fun ht => ?_) (fun ht => ?_) <;> try (first | exact False.elim ht | exact absurd rfl ht | exact absurd trivial ht | exact Bool.noConfusion ht))
      | (with_reducible refine k_ret ?_; repeat with_reducible (first | refine ret_thru ?_ | refine ret_blk ?_ | refine fin ?_))
      | (with_reducible refine k_exit ?_; repeat with_reducible (first | refine thru ?_ | refine out_blk ?_ | refine pass (by decide) ?_))
      | (refine post1 ?_; simp only [GA, Nat.reduceEqDiff, ↓reduceIte])
      | (refine post2 ?_; simp only [GA, Nat.reduceEqDiff, ↓reduceIte])
      | (refine post3 ?_; simp only [GA, Nat.reduceEqDiff, ↓reduceIte])
      | (refine postc (by simp only [GA, Nat.reduceEqDiff, ↓reduceIte]; rfl) (by simp (disch := omega) only [row_m hm, read_row (row_m hm), l1', eq_false l2, ul_len, nb_len, hri, hci, hli, h0, c11r0, c11r1, c11r2, c11r3, c11r4, c11r5, c11r6, c11r7, c11r8, c11r9, c11r10, c11r11, c11r12, c11r13, c11r14, EV0, EV1, EV2, EV3, EV4, EV5, EV6, EV7, EV8, VALS, plug, ite_same, decide_true, decide_false, eq_self, ↓reduceIte, reduceCtorEq, Nat.reduceAdd, Nat.reduceEqDiff, Nat.reduceLT, Nat.reduceLeDiff, Nat.reduceMul, Nat.reduceSub, Nat.reduceDiv, Int.reduceToNat, Int.reduceAdd, Int.reduceSub, Int.reduceMul, Int.reduceNeg, Int.reduceEq, Int.reduceLT, Int.reduceLE]; rfl) ?_)
      | refine post0 ?_
    refine head11 t td j jok d dok im (by omega) (.sl ti oi im.length ai) h _ hne lt ltd rfl (T := h.nx + 1 + 3 + 3 + 11 + 6 + 4) (by omega) (by simp (disch := omega) only [c11r0, c11r1, c11r2, c11r3, c11r4, c11r5, c11r6, c11r7, c11r8, c11r9, c11r10, c11r11, c11r12, c11r13, c11r14, EV0, EV1, EV2, EV3, EV4, EV5, EV6, EV7, EV8, VALS, plug, ite_same, decide_true, decide_false, eq_self, ↓reduceIte, reduceCtorEq, Nat.reduceAdd, Nat.reduceEqDiff, Nat.reduceLT, Nat.reduceLeDiff, Nat.reduceMul, Nat.reduceSub, Nat.reduceDiv, Int.reduceToNat, Int.reduceAdd, Int.reduceSub, Int.reduceMul, Int.reduceNeg, Int.reduceEq, Int.reduceLT, Int.reduceLE] <;> omega) (by simp (disch := omega) only [hm0, c11r0, c11r1, c11r2, c11r3, c11r4, c11r5, c11r6, c11r7, c11r8, c11r9, c11r10, c11r11, c11r12, c11r13, c11r14, EV0, EV1, EV2, EV3, EV4, EV5, EV6, EV7, EV8, VALS, plug, ite_same, decide_true, decide_false, eq_self, ↓reduceIte, reduceCtorEq, Nat.reduceAdd, Nat.reduceEqDiff, Nat.reduceLT, Nat.reduceLeDiff, Nat.reduceMul, Nat.reduceSub, Nat.reduceDiv, Int.reduceToNat, Int.reduceAdd, Int.reduceSub, Int.reduceMul, Int.reduceNeg, Int.reduceEq, Int.reduceLT, Int.reduceLE]) (by simp (disch := omega) only [hd, c11r0, c11r1, c11r2, c11r3, c11r4, c11r5, c11r6, c11r7, c11r8, c11r9, c11r10, c11r11, c11r12, c11r13, c11r14, EV0, EV1, EV2, EV3, EV4, EV5, EV6, EV7, EV8, VALS, plug, ite_same, decide_true, decide_false, eq_self, ↓reduceIte, reduceCtorEq, Nat.reduceAdd, Nat.reduceEqDiff, Nat.reduceLT, Nat.reduceLeDiff, Nat.reduceMul, Nat.reduceSub, Nat.reduceDiv, Int.reduceToNat, Int.reduceAdd, Int.reduceSub, Int.reduceMul, Int.reduceNeg, Int.reduceEq, Int.reduceLT, Int.reduceLE]) (by simp (disch := omega) only [c11r0, c11r1, c11r2, c11r3, c11r4, c11r5, c11r6, c11r7, c11r8, c11r9, c11r10, c11r11, c11r12, c11r13, c11r14, EV0, EV1, EV2, EV3, EV4, EV5, EV6, EV7, EV8, VALS, plug, ite_same, decide_true, decide_false, eq_self, ↓reduceIte, reduceCtorEq, Nat.reduceAdd, Nat.reduceEqDiff, Nat.reduceLT, Nat.reduceLeDiff, Nat.reduceMul, Nat.reduceSub, Nat.reduceDiv, Int.reduceToNat, Int.reduceAdd, Int.reduceSub, Int.reduceMul, Int.reduceNeg, Int.reduceEq, Int.reduceLT, Int.reduceLE]) (fun s hs => (by simp (disch := omega) only [c11r0, c11r1, c11r2, c11r3, c11r4, c11r5, c11r6, c11r7, c11r8, c11r9, c11r10, c11r11, c11r12, c11r13, c11r14, EV0, EV1, EV2, EV3, EV4, EV5, EV6, EV7, EV8, VALS, plug, ite_same, decide_true, decide_false, eq_self, ↓reduceIte, reduceCtorEq, Nat.reduceAdd, Nat.reduceEqDiff, Nat.reduceLT, Nat.reduceLeDiff, Nat.reduceMul, Nat.reduceSub, Nat.reduceDiv, Int.reduceToNat, Int.reduceAdd, Int.reduceSub, Int.reduceMul, Int.reduceNeg, Int.reduceEq, Int.reduceLT, Int.reduceLE])) rfl rfl rfl rfl hw fun st h2 est mt md kp2 nx2 => ?_
    refine k_inv est ?_
    have lt2 : t < h2.nx := by omega
    have ld2 : td < h2.nx := by omega
    have hne' : td ≠ t := fun q => hne q.symm
    have ri2 : h2.row ti = some ci := by rw [row_eq (kp2 ti lti n2)]; exact hri
    have lti2 : ti < h2.nx := by omega
    clear hm hm0 hd q33 q22 hri
    unfold eJ at mt
    repeat' first
      | with_reducible refine k_seq ?_
      | with_reducible refine k_skip ?_
      | with_reducible refine k_blkS ?_
      | with_reducible refine k_blkR ?_
      | with_reducible refine k_blkC ?_
      | with_reducible refine k_blkH ?_
      | with_reducible refine k_blkB ?_
      | with_reducible refine k_blkK ?_
      | with_reducible refine k_blkE ?_
      | with_reducible refine k_reg ?_
      | with_reducible refine r_done ?_
      | with_reducible refine s_go (by simp (disch := omega) only [mt, row_m mt, read_row (row_m mt), c11r0, c11r1, c11r2, c11r3, c11r4, c11r5, c11r6, c11r7, c11r8, c11r9, c11r10, c11r11, c11r12, c11r13, c11r14, EV0, EV1, EV2, EV3, EV4, EV5, EV6, EV7, EV8, VALS, plug, ite_same, decide_true, decide_false, eq_self, ↓reduceIte, reduceCtorEq, Nat.reduceAdd, Nat.reduceEqDiff, Nat.reduceLT, Nat.reduceLeDiff, Nat.reduceMul, Nat.reduceSub, Nat.reduceDiv, Int.reduceToNat, Int.reduceAdd, Int.reduceSub, Int.reduceMul, Int.reduceNeg, Int.reduceEq, Int.reduceLT, Int.reduceLE]; with_reducible rfl) ?_
      | ((with_reducible refine chk_r ?_); refine r_callF (by simp only [CA, Nat.reduceEqDiff, ↓reduceIte]; rfl) (by exact rfl) (by simp only [CA, Nat.reduceEqDiff, ↓reduceIte]; rfl) rfl ?_)
      | ((with_reducible refine chk_r ?_); refine r_callP (by simp only [CA, Nat.reduceEqDiff, ↓reduceIte]; rfl) (by simp only [CA, Nat.reduceEqDiff, ↓reduceIte]; rfl) (by first | ((refine qc _ ?_; simp (disch := omega) only [ri2, c11r0, c11r1, c11r2, c11r3, c11r4, c11r5, c11r6, c11r7, c11r8, c11r9, c11r10, c11r11, c11r12, c11r13, c11r14, EV0, EV1, EV2, EV3, EV4, EV5, EV6, EV7, EV8, VALS, plug, ite_same, decide_true, decide_false, eq_self, ↓reduceIte, reduceCtorEq, Nat.reduceAdd, Nat.reduceEqDiff, Nat.reduceLT, Nat.reduceLeDiff, Nat.reduceMul, Nat.reduceSub, Nat.reduceDiv, Int.reduceToNat, Int.reduceAdd, Int.reduceSub, Int.reduceMul, Int.reduceNeg, Int.reduceEq, Int.reduceLT, Int.reduceLE]); all_goals fail)) rfl ?_)
      | (with_reducible refine k_condP (by simp only [GA, Nat.reduceEqDiff, ↓reduceIte]; rfl) (by first | (simp only [BO]; rfl) | rfl) (fun ht => ?_) (fun ht => ?_) <;> try (first | exact False.elim ht | exact absurd rfl ht | exact absurd trivial ht | exact Bool.noConfusion ht))
      | (with_reducible refine k_ret ?_; repeat with_reducible (first | refine ret_thru ?_ | refine ret_blk ?_ | refine fin ?_))
      | (with_reducible refine k_exit ?_; repeat with_reducible (first | refine thru ?_ | refine out_blk ?_ | refine pass (by decide) ?_))
      | (refine post1 ?_; simp only [GA, Nat.reduceEqDiff, ↓reduceIte])
      | (refine post2 ?_; simp only [GA, Nat.reduceEqDiff, ↓reduceIte])
      | (refine post3 ?_; simp only [GA, Nat.reduceEqDiff, ↓reduceIte])
      | (refine postc (by simp only [GA, Nat.reduceEqDiff, ↓reduceIte]; rfl) (by simp (disch := omega) only [mt, row_m mt, read_row (row_m mt), c11r0, c11r1, c11r2, c11r3, c11r4, c11r5, c11r6, c11r7, c11r8, c11r9, c11r10, c11r11, c11r12, c11r13, c11r14, EV0, EV1, EV2, EV3, EV4, EV5, EV6, EV7, EV8, VALS, plug, ite_same, decide_true, decide_false, eq_self, ↓reduceIte, reduceCtorEq, Nat.reduceAdd, Nat.reduceEqDiff, Nat.reduceLT, Nat.reduceLeDiff, Nat.reduceMul, Nat.reduceSub, Nat.reduceDiv, Int.reduceToNat, Int.reduceAdd, Int.reduceSub, Int.reduceMul, Int.reduceNeg, Int.reduceEq, Int.reduceLT, Int.reduceLE]; rfl) ?_)
      | refine post0 ?_
    exact endsW ⟨by simp (disch := omega) only [c11r0, c11r1, c11r2, c11r3, c11r4, c11r5, c11r6, c11r7, c11r8, c11r9, c11r10, c11r11, c11r12, c11r13, c11r14, EV0, EV1, EV2, EV3, EV4, EV5, EV6, EV7, EV8, VALS, plug, ite_same, decide_true, decide_false, eq_self, ↓reduceIte, reduceCtorEq, Nat.reduceAdd, Nat.reduceEqDiff, Nat.reduceLT, Nat.reduceLeDiff, Nat.reduceMul, Nat.reduceSub, Nat.reduceDiv, Int.reduceToNat, Int.reduceAdd, Int.reduceSub, Int.reduceMul, Int.reduceNeg, Int.reduceEq, Int.reduceLT, Int.reduceLE] <;> rfl, by simp (disch := omega) only [md, c11r0, c11r1, c11r2, c11r3, c11r4, c11r5, c11r6, c11r7, c11r8, c11r9, c11r10, c11r11, c11r12, c11r13, c11r14, EV0, EV1, EV2, EV3, EV4, EV5, EV6, EV7, EV8, VALS, plug, ite_same, decide_true, decide_false, eq_self, ↓reduceIte, reduceCtorEq, Nat.reduceAdd, Nat.reduceEqDiff, Nat.reduceLT, Nat.reduceLeDiff, Nat.reduceMul, Nat.reduceSub, Nat.reduceDiv, Int.reduceToNat, Int.reduceAdd, Int.reduceSub, Int.reduceMul, Int.reduceNeg, Int.reduceEq, Int.reduceLT, Int.reduceLE], fun s h1 h2 h3 => (by simp (disch := omega) only [h2, kp2 s h1 h3, c11r0, c11r1, c11r2, c11r3, c11r4, c11r5, c11r6, c11r7, c11r8, c11r9, c11r10, c11r11, c11r12, c11r13, c11r14, EV0, EV1, EV2, EV3, EV4, EV5, EV6, EV7, EV8, VALS, plug, ite_same, decide_true, decide_false, eq_self, ↓reduceIte, reduceCtorEq, Nat.reduceAdd, Nat.reduceEqDiff, Nat.reduceLT, Nat.reduceLeDiff, Nat.reduceMul, Nat.reduceSub, Nat.reduceDiv, Int.reduceToNat, Int.reduceAdd, Int.reduceSub, Int.reduceMul, Int.reduceNeg, Int.reduceEq, Int.reduceLT, Int.reduceLE]), by simp (disch := omega) only [c11r0, c11r1, c11r2, c11r3, c11r4, c11r5, c11r6, c11r7, c11r8, c11r9, c11r10, c11r11, c11r12, c11r13, c11r14, EV0, EV1, EV2, EV3, EV4, EV5, EV6, EV7, EV8, VALS, plug, ite_same, decide_true, decide_false, eq_self, ↓reduceIte, reduceCtorEq, Nat.reduceAdd, Nat.reduceEqDiff, Nat.reduceLT, Nat.reduceLeDiff, Nat.reduceMul, Nat.reduceSub, Nat.reduceDiv, Int.reduceToNat, Int.reduceAdd, Int.reduceSub, Int.reduceMul, Int.reduceNeg, Int.reduceEq, Int.reduceLT, Int.reduceLE] <;> omega⟩
end
end Go.Proofs.Ytpleibjbfohenaa
set_option linter.unusedVariables false
set_option linter.unusedSimpArgs false
namespace Go.Proofs.Ytpleibjbfohenaa
open Go Go.Am Go.Proofs
/-! ### Disks and journals that are right -/
theorem D0_ok : D0.ok := ⟨by decide, by decide, by decide, fun x h => (by cases h), fun x h => (by cases h)⟩
theorem putS_ok {d : D} (ok : d.ok) (slot : Int) {bs : List Int} (hb : bs.length ≤ 100000000) (by_ : BY bs) : (putS d slot bs).ok := by
  unfold putS
  split
  · exact ⟨hb, ok.n1, ok.left, by_, ok.b1⟩
  · exact ⟨ok.n0, hb, ok.left, ok.b0, by_⟩
theorem wrD_ok {d : D} (ok : d.ok) (slot : Int) {bs : List Int} (hb : bs.length ≤ 100000000) (by_ : BY bs) : (wrD d slot bs).2.ok := by
  obtain ⟨l0, l1⟩ := ok.left
  unfold wrD
  split
  · exact ok
  · split
    · exact ok
    · split
      · split
        · obtain ⟨a, b, c, e, f⟩ := putS_ok (d := { d with left := 0 }) ⟨ok.n0, ok.n1, by simp, ok.b0, ok.b1⟩ slot (bs := bs.take (kp d.keep bs.length).toNat) (by rw [List.length_take]; omega) (by_.take _)
          exact ⟨a, b, c, e, f⟩
        · exact putS_ok (d := { d with left := d.left - 1 }) ⟨ok.n0, ok.n1, by simp only []; omega, ok.b0, ok.b1⟩ slot hb by_
      · exact putS_ok ok slot hb by_
theorem armD_ok {d : D} (ok : d.ok) {n : Int} (hn : n ≤ 9223372036854775807) (keep : Int) : (armD d n keep).ok := ⟨ok.n0, ok.n1, by simp only [armD]; omega, ok.b0, ok.b1⟩
theorem rstD_ok {d : D} (ok : d.ok) : (rstD d).ok := ⟨ok.n0, ok.n1, by simp [rstD], ok.b0, ok.b1⟩
theorem coded_BY {im : List Int} (h : BY im) (v : Int) : BY (coded im v) := ((nb_BY _).app h).app (nb_BY _)
/-! ### awake -/
def dA : D := putS D0 1 (coded [97] 1)
theorem dA_ok : dA.ok := putS_ok D0_ok 1 (by decide) (coded_BY (fun x hx => by simp at hx; omega) 1)
theorem opn0 : opn D0 = ⟨0, 0, false, []⟩ := rfl
theorem opnA : opn dA = ⟨1, 0, false, [97]⟩ := rfl
theorem wrA : wrD D0 ((0 + 1) % 2) (coded [97] (0 + 1)) = (0, dA) := rfl
theorem strA : ((ByteArray.mk (([97] : List Int).map fun n => UInt8.ofNat n.toNat).toArray).toList == (ByteArray.mk #[97]).toList) = true := by
  have : ByteArray.mk (([97] : List Int).map fun n => UInt8.ofNat n.toNat).toArray = ByteArray.mk #[97] := rfl
  rw [this]; exact beq_self_eq_true _
set_option maxHeartbeats 1000000 in
theorem f8 (h : AH) : ACalls Try.prog 8 [] h fun r h' => r = .b true ∧ h' = h := by
  refine pure_callV rfl fun h0 hr _ => ?_
  refine a_fn fn8 (by simp) fun ok pos => ?_
  rw [initSt0]
  repeat' first
    | with_reducible refine k_seq ?_
    | with_reducible refine k_skip ?_
    | with_reducible refine k_blkS ?_
    | with_reducible refine k_blkR ?_
    | with_reducible refine k_blkC ?_
    | with_reducible refine k_blkH ?_
    | with_reducible refine k_blkB ?_
    | with_reducible refine k_blkK ?_
    | with_reducible refine k_blkE ?_
    | with_reducible refine k_reg ?_
    | with_reducible refine r_done ?_
    | with_reducible refine s_go (by simp (disch := omega) only [c8r0, c8r1, c8r2, c8r3, c8r4, c8r5, c8r6, EV0, EV1, EV2, EV3, EV4, EV5, EV6, EV7, EV8, VALS, plug, ite_same, decide_true, decide_false, eq_self, ↓reduceIte, reduceCtorEq, Nat.reduceAdd, Nat.reduceEqDiff, Nat.reduceLT, Nat.reduceLeDiff, Nat.reduceMul, Nat.reduceSub, Nat.reduceDiv, Int.reduceToNat, Int.reduceAdd, Int.reduceSub, Int.reduceMul, Int.reduceNeg, Int.reduceEq, Int.reduceLT, Int.reduceLE]; with_reducible rfl) ?_
    | ((with_reducible refine chk_r ?_); refine r_callF (by simp only [CA, Nat.reduceEqDiff, ↓reduceIte]; rfl) (by exact rfl) (by simp only [CA, Nat.reduceEqDiff, ↓reduceIte]; rfl) rfl ?_)
    | ((with_reducible refine chk_r ?_); refine r_callX (by simp only [CA, Nat.reduceEqDiff, ↓reduceIte]; rfl) (by simp only [CA, Nat.reduceEqDiff, ↓reduceIte]; rfl) (by first | exact f9 _) rfl ?_)
    | ((with_reducible refine chk_r ?_); refine r_callTX (by first | (simp only [CA, Nat.reduceEqDiff, ↓reduceIte]; rfl) | simp only [CA, Nat.reduceEqDiff, ↓reduceIte]) (by simp only [CA, Nat.reduceEqDiff, ↓reduceIte]; rfl) (by simp only [CA, Nat.reduceEqDiff, ↓reduceIte]; rfl) (by first | exact f9 _) rfl ?_)
    | (with_reducible refine k_condP (by simp only [GA, Nat.reduceEqDiff, ↓reduceIte]; rfl) (by first | (simp only [BO]; rfl) | rfl) (fun ht => ?_) (fun ht => ?_) <;> try (first | exact False.elim ht | exact absurd rfl ht | exact absurd trivial ht | exact Bool.noConfusion ht))
    | (with_reducible refine k_ret ?_; repeat with_reducible (first | refine ret_thru ?_ | refine ret_blk ?_ | refine fin ?_))
    | (with_reducible refine k_exit ?_; repeat with_reducible (first | refine thru ?_ | refine out_blk ?_ | refine pass (by decide) ?_))
    | (refine post1 ?_; simp only [GA, Nat.reduceEqDiff, ↓reduceIte])
    | (refine post2 ?_; simp only [GA, Nat.reduceEqDiff, ↓reduceIte])
    | (refine post3 ?_; simp only [GA, Nat.reduceEqDiff, ↓reduceIte])
    | (refine postc (by simp only [GA, Nat.reduceEqDiff, ↓reduceIte]; rfl) (by simp (disch := omega) only [c8r0, c8r1, c8r2, c8r3, c8r4, c8r5, c8r6, EV0, EV1, EV2, EV3, EV4, EV5, EV6, EV7, EV8, VALS, plug, ite_same, decide_true, decide_false, eq_self, ↓reduceIte, reduceCtorEq, Nat.reduceAdd, Nat.reduceEqDiff, Nat.reduceLT, Nat.reduceLeDiff, Nat.reduceMul, Nat.reduceSub, Nat.reduceDiv, Int.reduceToNat, Int.reduceAdd, Int.reduceSub, Int.reduceMul, Int.reduceNeg, Int.reduceEq, Int.reduceLT, Int.reduceLE]; rfl) ?_)
    | refine post0 ?_
  rintro r h1 ⟨td, rfl, N1⟩
  have md1 := N1.m
  have lt1 := N1.t0
  repeat' first
    | with_reducible refine k_seq ?_
    | with_reducible refine k_skip ?_
    | with_reducible refine k_blkS ?_
    | with_reducible refine k_blkR ?_
    | with_reducible refine k_blkC ?_
    | with_reducible refine k_blkH ?_
    | with_reducible refine k_blkB ?_
    | with_reducible refine k_blkK ?_
    | with_reducible refine k_blkE ?_
    | with_reducible refine k_reg ?_
    | with_reducible refine r_done ?_
    | with_reducible refine s_go (by simp (disch := omega) only [c8r0, c8r1, c8r2, c8r3, c8r4, c8r5, c8r6, EV0, EV1, EV2, EV3, EV4, EV5, EV6, EV7, EV8, VALS, plug, ite_same, decide_true, decide_false, eq_self, ↓reduceIte, reduceCtorEq, Nat.reduceAdd, Nat.reduceEqDiff, Nat.reduceLT, Nat.reduceLeDiff, Nat.reduceMul, Nat.reduceSub, Nat.reduceDiv, Int.reduceToNat, Int.reduceAdd, Int.reduceSub, Int.reduceMul, Int.reduceNeg, Int.reduceEq, Int.reduceLT, Int.reduceLE]; with_reducible rfl) ?_
    | ((with_reducible refine chk_r ?_); refine r_callF (by simp only [CA, Nat.reduceEqDiff, ↓reduceIte]; rfl) (by exact rfl) (by simp only [CA, Nat.reduceEqDiff, ↓reduceIte]; rfl) rfl ?_)
    | ((with_reducible refine chk_r ?_); refine r_callX (by simp only [CA, Nat.reduceEqDiff, ↓reduceIte]; rfl) (by simp only [CA, Nat.reduceEqDiff, ↓reduceIte]; rfl) (by first | exact f10 td D0 D0_ok rfl _ (by simp (disch := omega) only [row_m md1, c8r0, c8r1, c8r2, c8r3, c8r4, c8r5, c8r6, EV0, EV1, EV2, EV3, EV4, EV5, EV6, EV7, EV8, VALS, plug, ite_same, decide_true, decide_false, eq_self, ↓reduceIte, reduceCtorEq, Nat.reduceAdd, Nat.reduceEqDiff, Nat.reduceLT, Nat.reduceLeDiff, Nat.reduceMul, Nat.reduceSub, Nat.reduceDiv, Int.reduceToNat, Int.reduceAdd, Int.reduceSub, Int.reduceMul, Int.reduceNeg, Int.reduceEq, Int.reduceLT, Int.reduceLE])) rfl ?_)
    | ((with_reducible refine chk_r ?_); refine r_callTX (by first | (simp only [CA, Nat.reduceEqDiff, ↓reduceIte]; rfl) | simp only [CA, Nat.reduceEqDiff, ↓reduceIte]) (by simp only [CA, Nat.reduceEqDiff, ↓reduceIte]; rfl) (by simp only [CA, Nat.reduceEqDiff, ↓reduceIte]; rfl) (by first | exact f10 td D0 D0_ok rfl _ (by simp (disch := omega) only [row_m md1, c8r0, c8r1, c8r2, c8r3, c8r4, c8r5, c8r6, EV0, EV1, EV2, EV3, EV4, EV5, EV6, EV7, EV8, VALS, plug, ite_same, decide_true, decide_false, eq_self, ↓reduceIte, reduceCtorEq, Nat.reduceAdd, Nat.reduceEqDiff, Nat.reduceLT, Nat.reduceLeDiff, Nat.reduceMul, Nat.reduceSub, Nat.reduceDiv, Int.reduceToNat, Int.reduceAdd, Int.reduceSub, Int.reduceMul, Int.reduceNeg, Int.reduceEq, Int.reduceLT, Int.reduceLE])) rfl ?_)
    | (with_reducible refine k_condP (by simp only [GA, Nat.reduceEqDiff, ↓reduceIte]; rfl) (by first | (simp only [BO]; rfl) | rfl) (fun ht => ?_) (fun ht => ?_) <;> try (first | exact False.elim ht | exact absurd rfl ht | exact absurd trivial ht | exact Bool.noConfusion ht))
    | (with_reducible refine k_ret ?_; repeat with_reducible (first | refine ret_thru ?_ | refine ret_blk ?_ | refine fin ?_))
    | (with_reducible refine k_exit ?_; repeat with_reducible (first | refine thru ?_ | refine out_blk ?_ | refine pass (by decide) ?_))
    | (refine post1 ?_; simp only [GA, Nat.reduceEqDiff, ↓reduceIte])
    | (refine post2 ?_; simp only [GA, Nat.reduceEqDiff, ↓reduceIte])
    | (refine post3 ?_; simp only [GA, Nat.reduceEqDiff, ↓reduceIte])
    | (refine postc (by simp only [GA, Nat.reduceEqDiff, ↓reduceIte]; rfl) (by simp (disch := omega) only [c8r0, c8r1, c8r2, c8r3, c8r4, c8r5, c8r6, EV0, EV1, EV2, EV3, EV4, EV5, EV6, EV7, EV8, VALS, plug, ite_same, decide_true, decide_false, eq_self, ↓reduceIte, reduceCtorEq, Nat.reduceAdd, Nat.reduceEqDiff, Nat.reduceLT, Nat.reduceLeDiff, Nat.reduceMul, Nat.reduceSub, Nat.reduceDiv, Int.reduceToNat, Int.reduceAdd, Int.reduceSub, Int.reduceMul, Int.reduceNeg, Int.reduceEq, Int.reduceLT, Int.reduceLE]; rfl) ?_)
    | refine post0 ?_
  rintro r h2 ⟨tj, rfl, N2⟩
  have mj2 := N2.m
  have j0 := N2.t0
  have nx2 := N2.nx
  have kp2 := N2.keep
  simp only [AH.bump_nx, AH.bump_m] at j0 nx2 kp2
  rw [opn0] at mj2
  have td1 := N1.lt
  have tj2 := N2.lt
  have md2 : h2.m td = some (.cells true (eI D0)) := by rw [kp2 td (by omega)]; exact md1
  have nej : tj ≠ td := by omega
  have q11 := fun h hm hd x B n1 n2 => row11 tj td ⟨0, 0, false, []⟩ ⟨by decide, by decide⟩ D0 D0_ok [97] h nej hm hd (by decide) (ti := h2.nx + 4) (oi := 0) (ai := 1) (ci := [.i .u8 97]) (x := x) B n1 n2 rfl (by decide) wrA
  repeat' first
    | with_reducible refine k_seq ?_
    | with_reducible refine k_skip ?_
    | with_reducible refine k_blkS ?_
    | with_reducible refine k_blkR ?_
    | with_reducible refine k_blkC ?_
    | with_reducible refine k_blkH ?_
    | with_reducible refine k_blkB ?_
    | with_reducible refine k_blkK ?_
    | with_reducible refine k_blkE ?_
    | with_reducible refine k_reg ?_
    | with_reducible refine r_done ?_
    | with_reducible refine s_go (by simp (disch := omega) only [c8r0, c8r1, c8r2, c8r3, c8r4, c8r5, c8r6, EV0, EV1, EV2, EV3, EV4, EV5, EV6, EV7, EV8, VALS, plug, ite_same, decide_true, decide_false, eq_self, ↓reduceIte, reduceCtorEq, Nat.reduceAdd, Nat.reduceEqDiff, Nat.reduceLT, Nat.reduceLeDiff, Nat.reduceMul, Nat.reduceSub, Nat.reduceDiv, Int.reduceToNat, Int.reduceAdd, Int.reduceSub, Int.reduceMul, Int.reduceNeg, Int.reduceEq, Int.reduceLT, Int.reduceLE]; with_reducible rfl) ?_
    | ((with_reducible refine chk_r ?_); refine r_callF (by simp only [CA, Nat.reduceEqDiff, ↓reduceIte]; rfl) (by exact rfl) (by simp only [CA, Nat.reduceEqDiff, ↓reduceIte]; rfl) rfl ?_)
    | ((with_reducible refine chk_r ?_); refine r_callX (by simp only [CA, Nat.reduceEqDiff, ↓reduceIte]; rfl) (by simp only [CA, Nat.reduceEqDiff, ↓reduceIte]; rfl) (by first | ((refine q11 _ (by simp (disch := omega) only [mj2, c8r0, c8r1, c8r2, c8r3, c8r4, c8r5, c8r6, EV0, EV1, EV2, EV3, EV4, EV5, EV6, EV7, EV8, VALS, plug, ite_same, decide_true, decide_false, eq_self, ↓reduceIte, reduceCtorEq, Nat.reduceAdd, Nat.reduceEqDiff, Nat.reduceLT, Nat.reduceLeDiff, Nat.reduceMul, Nat.reduceSub, Nat.reduceDiv, Int.reduceToNat, Int.reduceAdd, Int.reduceSub, Int.reduceMul, Int.reduceNeg, Int.reduceEq, Int.reduceLT, Int.reduceLE]) (by simp (disch := omega) only [md2, c8r0, c8r1, c8r2, c8r3, c8r4, c8r5, c8r6, EV0, EV1, EV2, EV3, EV4, EV5, EV6, EV7, EV8, VALS, plug, ite_same, decide_true, decide_false, eq_self, ↓reduceIte, reduceCtorEq, Nat.reduceAdd, Nat.reduceEqDiff, Nat.reduceLT, Nat.reduceLeDiff, Nat.reduceMul, Nat.reduceSub, Nat.reduceDiv, Int.reduceToNat, Int.reduceAdd, Int.reduceSub, Int.reduceMul, Int.reduceNeg, Int.reduceEq, Int.reduceLT, Int.reduceLE]) _ ⟨rfl, by simp (disch := omega) only [c8r0, c8r1, c8r2, c8r3, c8r4, c8r5, c8r6, EV0, EV1, EV2, EV3, EV4, EV5, EV6, EV7, EV8, VALS, plug, ite_same, decide_true, decide_false, eq_self, ↓reduceIte, reduceCtorEq, Nat.reduceAdd, Nat.reduceEqDiff, Nat.reduceLT, Nat.reduceLeDiff, Nat.reduceMul, Nat.reduceSub, Nat.reduceDiv, Int.reduceToNat, Int.reduceAdd, Int.reduceSub, Int.reduceMul, Int.reduceNeg, Int.reduceEq, Int.reduceLT, Int.reduceLE], rfl, by decide⟩ (by omega) (by omega)); all_goals fail)) rfl ?_)
    | ((with_reducible refine chk_r ?_); refine r_callTX (by first | (simp only [CA, Nat.reduceEqDiff, ↓reduceIte]; rfl) | simp only [CA, Nat.reduceEqDiff, ↓reduceIte]) (by simp only [CA, Nat.reduceEqDiff, ↓reduceIte]; rfl) (by simp only [CA, Nat.reduceEqDiff, ↓reduceIte]; rfl) (by first | ((refine q11 _ (by simp (disch := omega) only [mj2, c8r0, c8r1, c8r2, c8r3, c8r4, c8r5, c8r6, EV0, EV1, EV2, EV3, EV4, EV5, EV6, EV7, EV8, VALS, plug, ite_same, decide_true, decide_false, eq_self, ↓reduceIte, reduceCtorEq, Nat.reduceAdd, Nat.reduceEqDiff, Nat.reduceLT, Nat.reduceLeDiff, Nat.reduceMul, Nat.reduceSub, Nat.reduceDiv, Int.reduceToNat, Int.reduceAdd, Int.reduceSub, Int.reduceMul, Int.reduceNeg, Int.reduceEq, Int.reduceLT, Int.reduceLE]) (by simp (disch := omega) only [md2, c8r0, c8r1, c8r2, c8r3, c8r4, c8r5, c8r6, EV0, EV1, EV2, EV3, EV4, EV5, EV6, EV7, EV8, VALS, plug, ite_same, decide_true, decide_false, eq_self, ↓reduceIte, reduceCtorEq, Nat.reduceAdd, Nat.reduceEqDiff, Nat.reduceLT, Nat.reduceLeDiff, Nat.reduceMul, Nat.reduceSub, Nat.reduceDiv, Int.reduceToNat, Int.reduceAdd, Int.reduceSub, Int.reduceMul, Int.reduceNeg, Int.reduceEq, Int.reduceLT, Int.reduceLE]) _ ⟨rfl, by simp (disch := omega) only [c8r0, c8r1, c8r2, c8r3, c8r4, c8r5, c8r6, EV0, EV1, EV2, EV3, EV4, EV5, EV6, EV7, EV8, VALS, plug, ite_same, decide_true, decide_false, eq_self, ↓reduceIte, reduceCtorEq, Nat.reduceAdd, Nat.reduceEqDiff, Nat.reduceLT, Nat.reduceLeDiff, Nat.reduceMul, Nat.reduceSub, Nat.reduceDiv, Int.reduceToNat, Int.reduceAdd, Int.reduceSub, Int.reduceMul, Int.reduceNeg, Int.reduceEq, Int.reduceLT, Int.reduceLE], rfl, by decide⟩ (by omega) (by omega)); all_goals fail)) rfl ?_)
    | (with_reducible refine k_condP (by simp only [GA, Nat.reduceEqDiff, ↓reduceIte]; rfl) (by first | (simp only [BO]; rfl) | rfl) (fun ht => ?_) (fun ht => ?_) <;> try (first | exact False.elim ht | exact absurd rfl ht | exact absurd trivial ht | exact Bool.noConfusion ht))
    | (with_reducible refine k_ret ?_; repeat with_reducible (first | refine ret_thru ?_ | refine ret_blk ?_ | refine fin ?_))
    | (with_reducible refine k_exit ?_; repeat with_reducible (first | refine thru ?_ | refine out_blk ?_ | refine pass (by decide) ?_))
    | (refine post1 ?_; simp only [GA, Nat.reduceEqDiff, ↓reduceIte])
    | (refine post2 ?_; simp only [GA, Nat.reduceEqDiff, ↓reduceIte])
    | (refine post3 ?_; simp only [GA, Nat.reduceEqDiff, ↓reduceIte])
    | (refine postc (by simp only [GA, Nat.reduceEqDiff, ↓reduceIte]; rfl) (by simp (disch := omega) only [c8r0, c8r1, c8r2, c8r3, c8r4, c8r5, c8r6, EV0, EV1, EV2, EV3, EV4, EV5, EV6, EV7, EV8, VALS, plug, ite_same, decide_true, decide_false, eq_self, ↓reduceIte, reduceCtorEq, Nat.reduceAdd, Nat.reduceEqDiff, Nat.reduceLT, Nat.reduceLeDiff, Nat.reduceMul, Nat.reduceSub, Nat.reduceDiv, Int.reduceToNat, Int.reduceAdd, Int.reduceSub, Int.reduceMul, Int.reduceNeg, Int.reduceEq, Int.reduceLT, Int.reduceLE]; rfl) ?_)
    | refine post0 ?_
  rintro r h3 ⟨rfl, U⟩
  have mj3 := U.m1
  have md3 := U.m2
  have nx3 := U.nx
  simp only [AH.bump_nx, AH.set_nx] at nx3
  have q10 := fun h hm => f10 td dA dA_ok rfl h hm
  repeat' first
    | with_reducible refine k_seq ?_
    | with_reducible refine k_skip ?_
    | with_reducible refine k_blkS ?_
    | with_reducible refine k_blkR ?_
    | with_reducible refine k_blkC ?_
    | with_reducible refine k_blkH ?_
    | with_reducible refine k_blkB ?_
    | with_reducible refine k_blkK ?_
    | with_reducible refine k_blkE ?_
    | with_reducible refine k_reg ?_
    | with_reducible refine r_done ?_
    | with_reducible refine s_go (by simp (disch := omega) only [c8r0, c8r1, c8r2, c8r3, c8r4, c8r5, c8r6, EV0, EV1, EV2, EV3, EV4, EV5, EV6, EV7, EV8, VALS, plug, ite_same, decide_true, decide_false, eq_self, ↓reduceIte, reduceCtorEq, Nat.reduceAdd, Nat.reduceEqDiff, Nat.reduceLT, Nat.reduceLeDiff, Nat.reduceMul, Nat.reduceSub, Nat.reduceDiv, Int.reduceToNat, Int.reduceAdd, Int.reduceSub, Int.reduceMul, Int.reduceNeg, Int.reduceEq, Int.reduceLT, Int.reduceLE]; with_reducible rfl) ?_
    | ((with_reducible refine chk_r ?_); refine r_callF (by simp only [CA, Nat.reduceEqDiff, ↓reduceIte]; rfl) (by exact rfl) (by simp only [CA, Nat.reduceEqDiff, ↓reduceIte]; rfl) rfl ?_)
    | ((with_reducible refine chk_r ?_); refine r_callX (by simp only [CA, Nat.reduceEqDiff, ↓reduceIte]; rfl) (by simp only [CA, Nat.reduceEqDiff, ↓reduceIte]; rfl) (by first | ((refine q10 _ ?_; simp (disch := omega) only [row_m md3, c8r0, c8r1, c8r2, c8r3, c8r4, c8r5, c8r6, EV0, EV1, EV2, EV3, EV4, EV5, EV6, EV7, EV8, VALS, plug, ite_same, decide_true, decide_false, eq_self, ↓reduceIte, reduceCtorEq, Nat.reduceAdd, Nat.reduceEqDiff, Nat.reduceLT, Nat.reduceLeDiff, Nat.reduceMul, Nat.reduceSub, Nat.reduceDiv, Int.reduceToNat, Int.reduceAdd, Int.reduceSub, Int.reduceMul, Int.reduceNeg, Int.reduceEq, Int.reduceLT, Int.reduceLE]); all_goals fail)) rfl ?_)
    | ((with_reducible refine chk_r ?_); refine r_callTX (by first | (simp only [CA, Nat.reduceEqDiff, ↓reduceIte]; rfl) | simp only [CA, Nat.reduceEqDiff, ↓reduceIte]) (by simp only [CA, Nat.reduceEqDiff, ↓reduceIte]; rfl) (by simp only [CA, Nat.reduceEqDiff, ↓reduceIte]; rfl) (by first | ((refine q10 _ ?_; simp (disch := omega) only [row_m md3, c8r0, c8r1, c8r2, c8r3, c8r4, c8r5, c8r6, EV0, EV1, EV2, EV3, EV4, EV5, EV6, EV7, EV8, VALS, plug, ite_same, decide_true, decide_false, eq_self, ↓reduceIte, reduceCtorEq, Nat.reduceAdd, Nat.reduceEqDiff, Nat.reduceLT, Nat.reduceLeDiff, Nat.reduceMul, Nat.reduceSub, Nat.reduceDiv, Int.reduceToNat, Int.reduceAdd, Int.reduceSub, Int.reduceMul, Int.reduceNeg, Int.reduceEq, Int.reduceLT, Int.reduceLE]); all_goals fail)) rfl ?_)
    | (with_reducible refine k_condP (by simp only [GA, Nat.reduceEqDiff, ↓reduceIte]; rfl) (by first | (simp only [BO]; rfl) | rfl) (fun ht => ?_) (fun ht => ?_) <;> try (first | exact False.elim ht | exact absurd rfl ht | exact absurd trivial ht | exact Bool.noConfusion ht))
    | (with_reducible refine k_ret ?_; repeat with_reducible (first | refine ret_thru ?_ | refine ret_blk ?_ | refine fin ?_))
    | (with_reducible refine k_exit ?_; repeat with_reducible (first | refine thru ?_ | refine out_blk ?_ | refine pass (by decide) ?_))
    | (refine post1 ?_; simp only [GA, Nat.reduceEqDiff, ↓reduceIte])
    | (refine post2 ?_; simp only [GA, Nat.reduceEqDiff, ↓reduceIte])
    | (refine post3 ?_; simp only [GA, Nat.reduceEqDiff, ↓reduceIte])
    | (refine postc (by simp only [GA, Nat.reduceEqDiff, ↓reduceIte]; rfl) (by simp (disch := omega) only [c8r0, c8r1, c8r2, c8r3, c8r4, c8r5, c8r6, EV0, EV1, EV2, EV3, EV4, EV5, EV6, EV7, EV8, VALS, plug, ite_same, decide_true, decide_false, eq_self, ↓reduceIte, reduceCtorEq, Nat.reduceAdd, Nat.reduceEqDiff, Nat.reduceLT, Nat.reduceLeDiff, Nat.reduceMul, Nat.reduceSub, Nat.reduceDiv, Int.reduceToNat, Int.reduceAdd, Int.reduceSub, Int.reduceMul, Int.reduceNeg, Int.reduceEq, Int.reduceLT, Int.reduceLE]; rfl) ?_)
    | refine post0 ?_
  rintro r h4 ⟨tk, rfl, N4⟩
  have mk := N4.m
  have tk4 := N4.lt
  rw [opnA] at mk
  have q23 := fun h hm => f23 tk td ⟨1, 0, false, [97]⟩ h hm
  have q13 := fun h hm => f13 tk td ⟨1, 0, false, [97]⟩ (by decide) h hm
  have l1 : ([97] : List Int).length = 1 := rfl
  repeat' first
    | with_reducible refine k_seq ?_
    | with_reducible refine k_skip ?_
    | with_reducible refine k_blkS ?_
    | with_reducible refine k_blkR ?_
    | with_reducible refine k_blkC ?_
    | with_reducible refine k_blkH ?_
    | with_reducible refine k_blkB ?_
    | with_reducible refine k_blkK ?_
    | with_reducible refine k_blkE ?_
    | with_reducible refine k_reg ?_
    | with_reducible refine r_done ?_
    | with_reducible refine s_go (by simp (disch := omega) only [c8r0, c8r1, c8r2, c8r3, c8r4, c8r5, c8r6, EV0, EV1, EV2, EV3, EV4, EV5, EV6, EV7, EV8, VALS, plug, ite_same, decide_true, decide_false, eq_self, ↓reduceIte, reduceCtorEq, Nat.reduceAdd, Nat.reduceEqDiff, Nat.reduceLT, Nat.reduceLeDiff, Nat.reduceMul, Nat.reduceSub, Nat.reduceDiv, Int.reduceToNat, Int.reduceAdd, Int.reduceSub, Int.reduceMul, Int.reduceNeg, Int.reduceEq, Int.reduceLT, Int.reduceLE]; with_reducible rfl) ?_
    | ((with_reducible refine chk_r ?_); refine r_callF (by simp only [CA, Nat.reduceEqDiff, ↓reduceIte]; rfl) (by exact rfl) (by simp only [CA, Nat.reduceEqDiff, ↓reduceIte]; rfl) rfl ?_)
    | ((with_reducible refine chk_r ?_); refine r_callP (by simp only [CA, Nat.reduceEqDiff, ↓reduceIte]; rfl) (by simp only [CA, Nat.reduceEqDiff, ↓reduceIte]; rfl) (by first | ((refine q23 _ ?_; simp (disch := omega) only [row_m mk, c8r0, c8r1, c8r2, c8r3, c8r4, c8r5, c8r6, EV0, EV1, EV2, EV3, EV4, EV5, EV6, EV7, EV8, VALS, plug, ite_same, decide_true, decide_false, eq_self, ↓reduceIte, reduceCtorEq, Nat.reduceAdd, Nat.reduceEqDiff, Nat.reduceLT, Nat.reduceLeDiff, Nat.reduceMul, Nat.reduceSub, Nat.reduceDiv, Int.reduceToNat, Int.reduceAdd, Int.reduceSub, Int.reduceMul, Int.reduceNeg, Int.reduceEq, Int.reduceLT, Int.reduceLE]); all_goals fail) | ((refine q13 _ ?_; simp (disch := omega) only [row_m mk, c8r0, c8r1, c8r2, c8r3, c8r4, c8r5, c8r6, EV0, EV1, EV2, EV3, EV4, EV5, EV6, EV7, EV8, VALS, plug, ite_same, decide_true, decide_false, eq_self, ↓reduceIte, reduceCtorEq, Nat.reduceAdd, Nat.reduceEqDiff, Nat.reduceLT, Nat.reduceLeDiff, Nat.reduceMul, Nat.reduceSub, Nat.reduceDiv, Int.reduceToNat, Int.reduceAdd, Int.reduceSub, Int.reduceMul, Int.reduceNeg, Int.reduceEq, Int.reduceLT, Int.reduceLE]); all_goals fail)) rfl ?_)
    | ((with_reducible refine chk_r ?_); refine r_callG (by simp only [CA, Nat.reduceEqDiff, ↓reduceIte]; rfl) (by simp only [CA, Nat.reduceEqDiff, ↓reduceIte]; rfl) (by simp only [CA, Nat.reduceEqDiff, ↓reduceIte]; rfl) (by intro hg; (try simp only [BO] at hg); first | ((refine q23 _ ?_; simp (disch := omega) only [row_m mk, c8r0, c8r1, c8r2, c8r3, c8r4, c8r5, c8r6, EV0, EV1, EV2, EV3, EV4, EV5, EV6, EV7, EV8, VALS, plug, ite_same, decide_true, decide_false, eq_self, ↓reduceIte, reduceCtorEq, Nat.reduceAdd, Nat.reduceEqDiff, Nat.reduceLT, Nat.reduceLeDiff, Nat.reduceMul, Nat.reduceSub, Nat.reduceDiv, Int.reduceToNat, Int.reduceAdd, Int.reduceSub, Int.reduceMul, Int.reduceNeg, Int.reduceEq, Int.reduceLT, Int.reduceLE]); all_goals fail) | ((refine q13 _ ?_; simp (disch := omega) only [row_m mk, c8r0, c8r1, c8r2, c8r3, c8r4, c8r5, c8r6, EV0, EV1, EV2, EV3, EV4, EV5, EV6, EV7, EV8, VALS, plug, ite_same, decide_true, decide_false, eq_self, ↓reduceIte, reduceCtorEq, Nat.reduceAdd, Nat.reduceEqDiff, Nat.reduceLT, Nat.reduceLeDiff, Nat.reduceMul, Nat.reduceSub, Nat.reduceDiv, Int.reduceToNat, Int.reduceAdd, Int.reduceSub, Int.reduceMul, Int.reduceNeg, Int.reduceEq, Int.reduceLT, Int.reduceLE]); all_goals fail)) rfl ?_)
    | (with_reducible refine k_condP (by simp only [GA, Nat.reduceEqDiff, ↓reduceIte]; rfl) (by first | (simp only [BO]; rfl) | rfl) (fun ht => ?_) (fun ht => ?_) <;> try (first | exact False.elim ht | exact absurd rfl ht | exact absurd trivial ht | exact Bool.noConfusion ht))
    | (with_reducible refine k_ret ?_; repeat with_reducible (first | refine ret_thru ?_ | refine ret_blk ?_ | refine fin ?_))
    | (with_reducible refine k_exit ?_; repeat with_reducible (first | refine thru ?_ | refine out_blk ?_ | refine pass (by decide) ?_))
    | (refine post1 ?_; simp only [GA, Nat.reduceEqDiff, ↓reduceIte])
    | (refine post2 ?_; simp only [GA, Nat.reduceEqDiff, ↓reduceIte])
    | (refine post3 ?_; simp only [GA, Nat.reduceEqDiff, ↓reduceIte])
    | (refine postc (by simp only [GA, Nat.reduceEqDiff, ↓reduceIte]; rfl) (by simp (disch := omega) only [c8r0, c8r1, c8r2, c8r3, c8r4, c8r5, c8r6, EV0, EV1, EV2, EV3, EV4, EV5, EV6, EV7, EV8, VALS, plug, ite_same, decide_true, decide_false, eq_self, ↓reduceIte, reduceCtorEq, Nat.reduceAdd, Nat.reduceEqDiff, Nat.reduceLT, Nat.reduceLeDiff, Nat.reduceMul, Nat.reduceSub, Nat.reduceDiv, Int.reduceToNat, Int.reduceAdd, Int.reduceSub, Int.reduceMul, Int.reduceNeg, Int.reduceEq, Int.reduceLT, Int.reduceLE]; rfl) ?_)
    | refine post0 ?_
  exact ends_eq (congrArg AV.b strA.symm)
/-! ### Long lists; calls on both disks -/
structure A where
  kind : Int
  slot : Int
  n : Int
  keep : Int
  b : List Int
structure A.ok (a : A) : Prop where
  kind : 0 ≤ a.kind ∧ a.kind ≤ 255
  n : i64 a.n
  b : BY a.b
end Go.Proofs.Ytpleibjbfohenaa
set_option linter.unusedVariables false
set_option linter.unusedSimpArgs false
namespace Go.Proofs.Ytpleibjbfohenaa
open Go Go.Am Go.Proofs
/-! ### act -/
theorem Upd2.of {t1 t2 : Nat} {c1 c2 : List AV} {h0 h1 h2 : AH} (hne : t1 ≠ t2) (l2 : t2 < h0.nx) (l1 : t1 < h0.nx) (u : Upd t1 c1 h0 h1) (v : Upd t2 c2 h1 h2) : Upd2 t1 t2 c1 c2 h0 h2 :=
  ⟨by rw [v.keep t1 (by have := u.nx; omega) hne]; exact u.m, v.m, fun s h1' h2' h3' => by rw [v.keep s (by have := u.nx; omega) h3', u.keep s h1' h2'], Nat.le_trans u.nx v.nx⟩
end Go.Proofs.Ytpleibjbfohenaa
set_option linter.unusedVariables false
set_option linter.unusedSimpArgs false
namespace Go.Proofs.Ytpleibjbfohenaa
open Go Go.Am Go.Proofs
/-! ### What is given -/
def eU (n : Int) : List AV := [.i .u8 n]
theorem flU (l : List Int) : fl eU l = ul l := by
  induction l with
  | nil => rfl
  | cons x l ih => rw [fl_cons, ih]; rfl
theorem decU (r : List AV) (h : Shps [.i .u8] r) : ∃ x : Int, r = eU x ∧ (0 ≤ x ∧ x ≤ 255) := by
  obtain ⟨a, r, rfl, h1, h⟩ := shps_cons h
  obtain rfl := shps_nil h
  obtain ⟨n, rfl, hn⟩ := shp_u8 h1
  exact ⟨n, rfl, hn⟩
theorem decB {a : AV} (h : Shp (.sl [.i .u8]) a) : ∃ b : List Int, a = vu b ∧ b.length ≤ 9223372036854775807 ∧ BY b := by
  obtain ⟨l, rfl, hl, hp⟩ := sl_dec eU (fun x => 0 ≤ x ∧ x ≤ 255) decU h
  refine ⟨l, ?_, hl, hp⟩
  show AV.vs l.length (fl eU l) = _
  rw [flU]
def A.ok1 (a : A) : Prop := a.ok ∧ a.b.length ≤ 9223372036854775807
end Go.Proofs.Ytpleibjbfohenaa
set_option linter.unusedVariables false
set_option linter.unusedSimpArgs false
namespace Go.Proofs.Ytpleibjbfohenaa
open Go Go.Am Go.Proofs
/-! ### A journal beside its specification -/
structure Pr (tp td tr tj tk : Nat) (d : D) (j : J) (h : AH) : Prop where
  hp : h.m tp = some (.cells true [.p td 0, .p tr 0, .p tj 0, .p tk 0])
  hd : h.m td = some (.cells true (eI d))
  hr : h.m tr = some (.cells true (eF d))
  hj : h.m tj = some (.cells true (eJ td j))
  hk : h.m tk = some (.cells true (eK tr j))
  n1 : tp ≠ td ∧ tp ≠ tr ∧ tp ≠ tj ∧ tp ≠ tk
  n2 : td ≠ tr ∧ td ≠ tj ∧ td ≠ tk
  n3 : tr ≠ tj ∧ tr ≠ tk ∧ tj ≠ tk
  dok : d.ok
  jok : j.ok
/-! steps -/
structure G where
  a : A
  im : List Int
structure G.ok (g : G) : Prop where
  a : g.a.ok
  im : BY g.im
theorem sv_oks {j : J} {d : D} (jok : j.ok) (dok : d.ok) {im : List Int} (hi : im.length ≤ 400) (bi : BY im) : (sv j d im).2.1.ok ∧ (sv j d im).2.2.ok := by
  have w := wrD_ok dok ((j.turn + 1) % 2) (bs := coded im (j.turn + 1)) (by rw [coded_len]; omega) (coded_BY bi _)
  obtain ⟨⟨t0, t1⟩, ji⟩ := jok
  unfold sv
  split
  · exact ⟨⟨⟨t0, t1⟩, ji⟩, dok⟩
  · split
    · exact ⟨⟨⟨t0, t1⟩, ji⟩, dok⟩
    · rename_i hl
      split
      · exact ⟨⟨by simp only []; omega, by simp only []; omega⟩, w⟩
      · exact ⟨⟨⟨t0, t1⟩, ji⟩, w⟩
end Go.Proofs.Ytpleibjbfohenaa
set_option linter.unusedVariables false
set_option linter.unusedSimpArgs false
namespace Go.Proofs.Ytpleibjbfohenaa
open Go Go.Am Go.Proofs
def G.ok1 (g : G) : Prop := g.ok ∧ g.a.b.length ≤ 9223372036854775807 ∧ g.im.length ≤ 9223372036854775807
theorem Pr.mono {tp td tr tj tk : Nat} {d : D} {j : J} {h h' : AH} (R : Pr tp td tr tj tk d j h) (F : ∀ t b, h.m t = some b → h'.m t = some b) : Pr tp td tr tj tk d j h' :=
  ⟨F _ _ R.hp, F _ _ R.hd, F _ _ R.hr, F _ _ R.hj, F _ _ R.hk, R.n1, R.n2, R.n3, R.dok, R.jok⟩
end Go.Proofs.Ytpleibjbfohenaa
set_option linter.unusedVariables false
set_option linter.unusedSimpArgs false
namespace Go.Proofs.Ytpleibjbfohenaa
open Go Go.Am Go.Proofs
/-! ### What a slot holds, once written -/
theorem coded_vb (im : List Int) (v : Int) (h : im.length ≤ 65536) : vb (coded im v) = im.length := by
  have : vb (coded im v) = vb (nb im.length) := rfl
  rw [this, vb_nb (by omega)]
theorem coded_has (im : List Int) (v : Int) (h : im.length ≤ 65536) : hasI (coded im v) := ⟨by rw [coded_len]; omega, by rw [coded_vb _ _ h]; omega, by rw [coded_vb _ _ h, coded_len]; omega⟩
theorem coded_turn (im : List Int) {v : Int} (h : 0 ≤ v ∧ v ≤ 4294967295) : turnOf (coded im v) = v := by
  unfold turnOf
  have e : (coded im v).drop ((coded im v).length - 4) = nb v := by
    rw [coded_len]
    unfold coded
    rw [List.drop_append_of_le_length (by simp [nb_len]; omega), List.drop_eq_nil_of_le (by simp [nb_len]; omega), List.nil_append]
  rw [e, vb_nb h]
theorem coded_im (im : List Int) (v : Int) : imOf (coded im v) = im := by
  unfold imOf
  rw [coded_len]
  unfold coded
  rw [List.append_assoc, List.drop_append_of_le_length (by simp [nb_len]), List.drop_eq_nil_of_le (by simp [nb_len]), List.nil_append, show im.length + 8 - 8 = im.length by omega, List.take_append_of_le_length (by omega), List.take_length]
theorem part_no {im : List Int} {v : Int} (h : im.length ≤ 65536) {n : Nat} (hn : n < im.length + 8) : ¬ hasI ((coded im v).take n) := by
  rintro ⟨h1, h2, h3⟩
  have hl : ((coded im v).take n).length = n := by rw [List.length_take, coded_len]; omega
  rw [hl] at h1 h3
  have e : vb ((coded im v).take n) = im.length := by
    obtain ⟨m, rfl⟩ : ∃ m, n = m + 4 := ⟨n - 4, by omega⟩
    have : vb ((coded im v).take (m + 4)) = vb (nb im.length) := rfl
    rw [this, vb_nb (by omega)]
  rw [e] at h3
  omega
theorem hOk_no {slot : Int} {b : List Int} (h : ¬ hasI b) : hOk slot b = false := by unfold hOk; rw [if_neg h]
/-- a slot holds a turn and its image -/
structure Hd (slot : Int) (b : List Int) (t : Int) (im : List Int) : Prop where
  ok : hOk slot b = true
  t : hT slot b = t
  im : hIm slot b = im
theorem coded_hd {im : List Int} {v slot : Int} (h : im.length ≤ 65536) (hv : 1 ≤ v ∧ v ≤ 2147483647) (hs : v % 2 = slot) : Hd slot (coded im v) v im := by
  have ht := coded_turn im (v := v) (by omega)
  have hi := coded_has im v h
  refine ⟨?_, by unfold hT; rw [if_pos hi, ht], by unfold hIm; rw [if_pos hi, coded_im]⟩
  unfold hOk okT
  rw [if_pos hi, ht, hs]
  simp only [hv.1, hv.2, decide_true, Bool.and_self]
def Lw (slot : Int) (b : List Int) (t : Int) : Prop := hOk slot b = true → hT slot b < t
/-- the last image -/
def Iv (d : D) (t : Int) (im : List Int) : Prop :=
  (t = 0 ∧ im = [] ∧ hOk 0 d.s0 = false ∧ hOk 1 d.s1 = false) ∨ (1 ≤ t ∧ ((t % 2 = 0 ∧ Hd 0 d.s0 t im ∧ Lw 1 d.s1 t) ∨ (t % 2 = 1 ∧ Hd 1 d.s1 t im ∧ Lw 0 d.s0 t)))
theorem hT_pos {slot : Int} {b : List Int} (h : hOk slot b = true) : 1 ≤ hT slot b := by
  unfold hOk at h
  unfold hT
  split at h
  · rename_i hi
    rw [if_pos hi]
    simp only [okT, Bool.and_eq_true, decide_eq_true_eq] at h
    omega
  · cases h
theorem oP2 (d : D) : oP d 2 = oS 1 d.s1 (oS 0 d.s0 (0, [])) := rfl
theorem Iv.opn {d : D} {t : Int} {im : List Int} (I : Iv d t im) : oP d 2 = (t, im) := by
  rw [oP2]
  rcases I with ⟨rfl, rfl, h0, h1⟩ | ⟨h1, ⟨_, ⟨a, b, c⟩, L⟩ | ⟨_, ⟨a, b, c⟩, L⟩⟩
  · rw [oS_no (slot := 0) (fun q => by rw [h0] at q; cases q.1), oS_no (fun q => by rw [h1] at q; cases q.1)]
  · rw [oS_yes (slot := 0) a (by simp only [b]; omega), oS_no (fun q => by have := L q.1; simp only [b] at q; omega), b, c]
  · have e : oS 1 d.s1 (oS 0 d.s0 (0, [])) = (hT 1 d.s1, hIm 1 d.s1) := by
      by_cases q : hOk 0 d.s0 = true
      · rw [oS_yes q (by have := hT_pos q; simp only []; omega), oS_yes a (by have := L q; simp only [b]; omega)]
      · rw [oS_no (slot := 0) (fun z => q z.1), oS_yes a (by simp only [b]; omega)]
    rw [e, b, c]
theorem Iv.lw {d : D} {t : Int} {im : List Int} (I : Iv d t im) : Lw 0 d.s0 (t + 1) ∧ Lw 1 d.s1 (t + 1) := by
  rcases I with ⟨rfl, rfl, h0, h1⟩ | ⟨h1, ⟨_, ⟨a, b, c⟩, L⟩ | ⟨_, ⟨a, b, c⟩, L⟩⟩
  · exact ⟨fun q => (by rw [h0] at q; cases q), fun q => (by rw [h1] at q; cases q)⟩
  · exact ⟨fun q => by omega, fun q => by have := L q; omega⟩
  · exact ⟨fun q => by have := L q; omega, fun q => by omega⟩
theorem Iv.full {d : D} {t : Int} {im : List Int} (I : Iv d t im) (ht : 0 ≤ t ∧ t ≤ 2147483646) {im' : List Int} (hi : im'.length ≤ 65536) {e : D} (he : e = putS d ((t + 1) % 2) (coded im' (t + 1))) : Iv e (t + 1) im' := by
  subst he
  obtain ⟨l0, l1⟩ := I.lw
  refine .inr ⟨by omega, ?_⟩
  have hh := coded_hd (im := im') (v := t + 1) hi (by omega) rfl
  unfold putS
  by_cases c : (t + 1) % 2 = 0
  · rw [if_pos c]
    rw [c] at hh
    exact .inl ⟨c, hh, l1⟩
  · rw [if_neg c]
    have c1 : (t + 1) % 2 = 1 := by omega
    rw [c1] at hh
    exact .inr ⟨c1, hh, l0⟩
theorem Iv.part {d : D} {t : Int} {im : List Int} (I : Iv d t im) (ht : 0 ≤ t ∧ t ≤ 2147483646) {im' : List Int} (hi : im'.length ≤ 65536) (n : Nat) : Iv (putS d ((t + 1) % 2) ((coded im' (t + 1)).take n)) t im ∨ Iv (putS d ((t + 1) % 2) ((coded im' (t + 1)).take n)) (t + 1) im' := by
  by_cases hn : im'.length + 8 ≤ n
  · refine .inr ?_
    rw [List.take_of_length_le (by rw [coded_len]; exact hn)]
    exact I.full ht hi rfl
  · refine .inl ?_
    have no := part_no (im := im') (v := t + 1) hi (n := n) (by omega)
    generalize (coded im' (t + 1)).take n = b at no
    unfold putS
    by_cases c : (t + 1) % 2 = 0
    · rw [if_pos c]
      rcases I with ⟨rfl, rfl, h0, h1⟩ | ⟨h1, ⟨c2, _, L⟩ | ⟨c2, h, L⟩⟩
      · omega
      · omega
      · exact .inr ⟨h1, .inr ⟨c2, h, fun q => by simp only [hOk_no no] at q; cases q⟩⟩
    · rw [if_neg c]
      rcases I with ⟨rfl, rfl, h0, h1⟩ | ⟨h1, ⟨c2, h, L⟩ | ⟨c2, h, L⟩⟩
      · exact .inl ⟨rfl, rfl, h0, hOk_no no⟩
      · exact .inr ⟨h1, .inl ⟨c2, h, fun q => by simp only [hOk_no no] at q; cases q⟩⟩
      · omega
theorem Iv.same {d e : D} {t : Int} {im : List Int} (I : Iv d t im) (h0 : e.s0 = d.s0) (h1 : e.s1 = d.s1) : Iv e t im := by unfold Iv at *; rw [h0, h1]; exact I
theorem sv_case {d : D} {t : Int} {im : List Int} (I : Iv d t im) (ho : d.off = false) (ht : 0 ≤ t ∧ t ≤ 1000) {im' : List Int} (hi : im'.length ≤ 400) {n : Int} (hn : 0 ≤ n ∧ n ≤ 2) (keep : Int) :
    (∃ d2, sv ⟨t, d.life, false, im⟩ (armD d n keep) im' = (0, ⟨t + 1, d.life, false, im'⟩, d2) ∧ Iv d2 (t + 1) im' ∧ d2.off = false ∧ d2.life = d.life) ∨
    ∃ d3, sv ⟨t, d.life, false, im⟩ (armD d n keep) im' = (91, ⟨t, d.life, true, im⟩, d3) ∧ d3.life = d.life ∧ (Iv d3 t im ∨ Iv d3 (t + 1) im') := by
  have hx : dd ⟨t, d.life, false, im⟩ (armD d n keep) = false := by simp [dd, armD]
  have l2 : ¬ (65536 < im'.length ∨ t = 2147483647) := by omega
  have ho1 : (armD d n keep).off = false := ho
  have hs : (t + 1) % 2 = 0 ∨ (t + 1) % 2 = 1 := by omega
  have I1 : Iv (armD d n keep) t im := I.same rfl rfl
  have hl1 : (armD d n keep).left = n := by simp only [armD]; omega
  have pl : ∀ (e : D) (b : List Int), (putS e ((t + 1) % 2) b).off = e.off ∧ (putS e ((t + 1) % 2) b).life = e.life := fun e b => by unfold putS; split <;> exact ⟨rfl, rfl⟩
  by_cases n1 : n = 1
  · refine .inr ?_
    have w := wr_last ho1 hs (bs := coded im' (t + 1)) (by rw [hl1]; exact n1)
    refine ⟨_, sv_no (j := ⟨t, d.life, false, im⟩) hx l2 w (by decide), ?_, ?_⟩
    · exact (pl _ _).2
    · have J : Iv { armD d n keep with left := 0 } t im := I1.same rfl rfl
      rcases J.part (by omega) (im' := im') (by omega) (kp (armD d n keep).keep (coded im' (t + 1)).length).toNat with q | q
      · exact .inl (q.same rfl rfl)
      · exact .inr (q.same rfl rfl)
  · refine .inl ?_
    by_cases n0 : n = 0
    · have w := wr_ok ho1 hs (bs := coded im' (t + 1)) (by rw [hl1]; omega)
      exact ⟨_, sv_ok (j := ⟨t, d.life, false, im⟩) hx l2 w rfl, I1.full (by omega) (by omega) rfl, (pl _ _).1.trans ho1, (pl _ _).2⟩
    · have w := wr_less ho1 hs (bs := coded im' (t + 1)) (by rw [hl1]; omega) (by rw [hl1]; omega)
      have J : Iv { armD d n keep with left := (armD d n keep).left - 1 } t im := I1.same rfl rfl
      exact ⟨_, sv_ok (j := ⟨t, d.life, false, im⟩) hx l2 w rfl, J.full (by omega) (by omega) rfl, (pl _ _).1.trans ho1, (pl _ _).2⟩
theorem opn_iv {d : D} {t : Int} {im : List Int} (I : Iv d t im) : opn d = ⟨t, d.life, false, im⟩ := by unfold opn; rw [I.opn]
theorem Iv0 : Iv D0 0 [] := .inl ⟨rfl, rfl, rfl, rfl⟩
end Go.Proofs.Ytpleibjbfohenaa
set_option linter.unusedVariables false
set_option linter.unusedSimpArgs false
namespace Go.Proofs.Ytpleibjbfohenaa
open Go Go.Am Go.Proofs
/-! ### LedgerLosses -/
structure C where
  im : List Int
  at_ : Int
  keep : Int
def eC (c : C) : List AV := [vu c.im, .i .u8 c.at_, .i .i64 c.keep]
def C0 : C := ⟨[], 0, 0⟩
structure C.ok (c : C) : Prop where
  im : BY c.im
  len : c.im.length ≤ 9223372036854775807
  at_ : 0 ≤ c.at_ ∧ c.at_ ≤ 255
theorem eC_len (c : C) : (eC c).length = 3 := rfl
theorem eC_plain (c : C) : AV.plains (eC c) = true := by simp only [eC, AV.plains, AV.plain, ul_plain, Bool.and_true]
abbrev vC (l : List C) : AV := .vs l.length (fl eC l)
theorem vC_plain (l : List C) : AV.plains (fl eC l) = true := fl_plain eC_plain l
theorem rdC {l : List C} {j : Nat} (h : j < l.length) : rd (fl eC l) (j * 3) (some 3) = some (.ag (eC (l.getD j C0))) := fl_rd eC_len C0 h
def sb (im : List Int) : AV := .s ⟨(im.map fun n => UInt8.ofNat n.toNat).toArray⟩
theorem f11dead (t td : Nat) (j : J) (d : D) (x : AV) (h : AH) (hm : h.row t = some (eJ td j)) (hd : h.row td = some (eI d)) (hx : dd j d = true) : ACalls Try.prog 11 [.p t 0, x] h fun r h' => r = .i .i64 92 ∧ h' = h := by
  have q33 := fun h hm => f33 t td j h hm
  have q22 := fun h hm hd => f22 t td j d h hm hd
  rw [hx] at q22
  refine pure_callV rfl fun h0 hr _ => ?_
  rw [← hr] at hm hd
  refine a_fn fn11 (by simp) fun ok pos => ?_
  have := ok.row hm
  have := ok.row hd
  rw [initSt2]
  repeat' first
    | with_reducible refine k_seq ?_
    | with_reducible refine k_skip ?_
    | with_reducible refine k_blkS ?_
    | with_reducible refine k_blkR ?_
    | with_reducible refine k_blkC ?_
    | with_reducible refine k_blkH ?_
    | with_reducible refine k_blkB ?_
    | with_reducible refine k_blkK ?_
    | with_reducible refine k_blkE ?_
    | with_reducible refine k_reg ?_
    | with_reducible refine r_done ?_
    | with_reducible refine s_go (by simp (disch := omega) only [c11r0, c11r1, c11r2, c11r3, c11r4, c11r5, c11r6, c11r7, c11r8, c11r9, c11r10, c11r11, c11r12, c11r13, c11r14, EV0, EV1, EV2, EV3, EV4, EV5, EV6, EV7, EV8, VALS, plug, ite_same, decide_true, decide_false, eq_self, ↓reduceIte, reduceCtorEq, Nat.reduceAdd, Nat.reduceEqDiff, Nat.reduceLT, Nat.reduceLeDiff, Nat.reduceMul, Nat.reduceSub, Nat.reduceDiv, Int.reduceToNat, Int.reduceAdd, Int.reduceSub, Int.reduceMul, Int.reduceNeg, Int.reduceEq, Int.reduceLT, Int.reduceLE]; with_reducible rfl) ?_
    | ((with_reducible refine chk_r ?_); refine r_callF (by simp only [CA, Nat.reduceEqDiff, ↓reduceIte]; rfl) (by exact rfl) (by simp only [CA, Nat.reduceEqDiff, ↓reduceIte]; rfl) rfl ?_)
    | ((with_reducible refine chk_r ?_); refine r_callP (by simp only [CA, Nat.reduceEqDiff, ↓reduceIte]; rfl) (by simp only [CA, Nat.reduceEqDiff, ↓reduceIte]; rfl) (by first | ((refine q33 _ ?_; simp (disch := omega) only [hm, c11r0, c11r1, c11r2, c11r3, c11r4, c11r5, c11r6, c11r7, c11r8, c11r9, c11r10, c11r11, c11r12, c11r13, c11r14, EV0, EV1, EV2, EV3, EV4, EV5, EV6, EV7, EV8, VALS, plug, ite_same, decide_true, decide_false, eq_self, ↓reduceIte, reduceCtorEq, Nat.reduceAdd, Nat.reduceEqDiff, Nat.reduceLT, Nat.reduceLeDiff, Nat.reduceMul, Nat.reduceSub, Nat.reduceDiv, Int.reduceToNat, Int.reduceAdd, Int.reduceSub, Int.reduceMul, Int.reduceNeg, Int.reduceEq, Int.reduceLT, Int.reduceLE]); all_goals fail) | ((refine q22 _ ?_ ?_ <;> simp (disch := omega) only [hm, hd, c11r0, c11r1, c11r2, c11r3, c11r4, c11r5, c11r6, c11r7, c11r8, c11r9, c11r10, c11r11, c11r12, c11r13, c11r14, EV0, EV1, EV2, EV3, EV4, EV5, EV6, EV7, EV8, VALS, plug, ite_same, decide_true, decide_false, eq_self, ↓reduceIte, reduceCtorEq, Nat.reduceAdd, Nat.reduceEqDiff, Nat.reduceLT, Nat.reduceLeDiff, Nat.reduceMul, Nat.reduceSub, Nat.reduceDiv, Int.reduceToNat, Int.reduceAdd, Int.reduceSub, Int.reduceMul, Int.reduceNeg, Int.reduceEq, Int.reduceLT, Int.reduceLE]); all_goals fail)) rfl ?_)
    | (with_reducible refine k_condP (by simp only [GA, Nat.reduceEqDiff, ↓reduceIte]; rfl) (by first | (simp only [BO]; rfl) | rfl) (fun ht => ?_) (fun ht => ?_) <;> try (first | exact False.elim ht | exact absurd rfl ht | exact absurd trivial ht | exact Bool.noConfusion ht))
    | (with_reducible refine k_ret ?_; repeat with_reducible (first | refine ret_thru ?_ | refine ret_blk ?_ | refine fin ?_))
    | (with_reducible refine k_exit ?_; repeat with_reducible (first | refine thru ?_ | refine out_blk ?_ | refine pass (by decide) ?_))
    | (refine post1 ?_; simp only [GA, Nat.reduceEqDiff, ↓reduceIte])
    | (refine post2 ?_; simp only [GA, Nat.reduceEqDiff, ↓reduceIte])
    | (refine post3 ?_; simp only [GA, Nat.reduceEqDiff, ↓reduceIte])
    | (refine postc (by simp only [GA, Nat.reduceEqDiff, ↓reduceIte]; rfl) (by simp (disch := omega) only [c11r0, c11r1, c11r2, c11r3, c11r4, c11r5, c11r6, c11r7, c11r8, c11r9, c11r10, c11r11, c11r12, c11r13, c11r14, EV0, EV1, EV2, EV3, EV4, EV5, EV6, EV7, EV8, VALS, plug, ite_same, decide_true, decide_false, eq_self, ↓reduceIte, reduceCtorEq, Nat.reduceAdd, Nat.reduceEqDiff, Nat.reduceLT, Nat.reduceLeDiff, Nat.reduceMul, Nat.reduceSub, Nat.reduceDiv, Int.reduceToNat, Int.reduceAdd, Int.reduceSub, Int.reduceMul, Int.reduceNeg, Int.reduceEq, Int.reduceLT, Int.reduceLE]; rfl) ?_)
    | refine post0 ?_
  all_goals first | exact ends_of | exact ends_eq rfl
/-- at the head of the loop -/
structure Lo (td tj : Nat) (d : D) (t : Int) (im : List Int) (k : Nat) (h : AH) : Prop where
  hd : h.m td = some (.cells true (eI d))
  hj : h.m tj = some (.cells true (eJ td ⟨t, d.life, false, im⟩))
  ne : td ≠ tj
  dok : d.ok
  off : d.off = false
  iv : Iv d t im
  rng : 0 ≤ t ∧ t ≤ k
  bim : BY im
  len : im.length ≤ 400
theorem Lo.mono {td tj : Nat} {d : D} {t : Int} {im : List Int} {k k' : Nat} {h h' : AH} (R : Lo td tj d t im k h) (hk : k ≤ k') (F : ∀ t b, h.m t = some b → h'.m t = some b) : Lo td tj d t im k' h' :=
  ⟨F _ _ R.hd, F _ _ R.hj, R.ne, R.dok, R.off, R.iv, ⟨R.rng.1, by have := R.rng.2; omega⟩, R.bim, R.len⟩
set_option maxHeartbeats 4000000 in
theorem pc5 (l : List C) (hl : l.length ≤ 9223372036854775807) (hc : ∀ c ∈ l, c.ok) : PC Try.prog 5 [vC l] (.b true) := by
  refine pc_fn fn5 (by simp only [AV.plains, AV.plain, il_plain, bl_plain, Bool.and_true, Bool.true_and, Bool.and_self, vC_plain]) (by simp only [AV.plains, AV.plain, il_plain, bl_plain, Bool.and_true, Bool.true_and, Bool.and_self, vC_plain]) (Nat.le_of_ble_eq_true rfl) ?_
  rw [initSt1]
  by_cases c1 : (30 : Int) < l.length
  · repeat' first
      | with_reducible refine k_seq ?_
      | with_reducible refine k_skip ?_
      | with_reducible refine k_blkS ?_
      | with_reducible refine k_blkR ?_
      | with_reducible refine k_blkC ?_
      | with_reducible refine k_blkH ?_
      | with_reducible refine k_blkB ?_
      | with_reducible refine k_blkK ?_
      | with_reducible refine k_blkE ?_
      | with_reducible refine k_reg ?_
      | with_reducible refine r_done ?_
      | with_reducible refine s_go (by simp (disch := omega) only [c1, c5r0, c5r1, c5r2, c5r3, c5r4, c5r5, c5r6, c5r7, c5r8, c5r9, c5r10, c5r11, c5r12, c5r13, c5r14, c5r15, c5r16, c5r17, c5r18, c5r19, c5r20, c5r21, c5r22, c5r23, c5r24, c5r26, EV0, EV1, EV2, EV3, EV4, EV5, EV6, EV7, EV8, VALS, plug, ite_same, decide_true, decide_false, eq_self, ↓reduceIte, reduceCtorEq, Nat.reduceAdd, Nat.reduceEqDiff, Nat.reduceLT, Nat.reduceLeDiff, Nat.reduceMul, Nat.reduceSub, Nat.reduceDiv, Int.reduceToNat, Int.reduceAdd, Int.reduceSub, Int.reduceMul, Int.reduceNeg, Int.reduceEq, Int.reduceLT, Int.reduceLE]; with_reducible rfl) ?_
      | ((with_reducible refine chk_r ?_); refine r_callF (by simp only [CA, Nat.reduceEqDiff, ↓reduceIte]; rfl) (by exact rfl) (by simp only [CA, Nat.reduceEqDiff, ↓reduceIte]; rfl) rfl ?_)
      | ((with_reducible refine chk_r ?_); refine r_callP (by simp only [CA, Nat.reduceEqDiff, ↓reduceIte]; rfl) (by simp only [CA, Nat.reduceEqDiff, ↓reduceIte]; rfl) (by first | exact f8 _) rfl ?_)
      | ((with_reducible refine chk_r ?_); refine r_callG (by simp only [CA, Nat.reduceEqDiff, ↓reduceIte]; rfl) (by simp only [CA, Nat.reduceEqDiff, ↓reduceIte]; rfl) (by simp only [CA, Nat.reduceEqDiff, ↓reduceIte]; rfl) (by intro hg; (try simp only [BO] at hg); first | exact f8 _) rfl ?_)
      | (with_reducible refine k_condP (by simp only [GA, Nat.reduceEqDiff, ↓reduceIte]; rfl) (by first | (simp only [BO]; rfl) | rfl) (fun ht => ?_) (fun ht => ?_) <;> try (first | exact False.elim ht | exact absurd rfl ht | exact absurd trivial ht | exact Bool.noConfusion ht))
      | (with_reducible refine k_ret ?_; repeat with_reducible (first | refine ret_thru ?_ | refine ret_blk ?_ | refine fin ?_))
      | (with_reducible refine k_exit ?_; repeat with_reducible (first | refine thru ?_ | refine out_blk ?_ | refine pass (by decide) ?_))
      | (refine post1 ?_; simp only [GA, Nat.reduceEqDiff, ↓reduceIte])
      | (refine post2 ?_; simp only [GA, Nat.reduceEqDiff, ↓reduceIte])
      | (refine post3 ?_; simp only [GA, Nat.reduceEqDiff, ↓reduceIte])
      | (refine postc (by simp only [GA, Nat.reduceEqDiff, ↓reduceIte]; rfl) (by simp (disch := omega) only [c1, c5r0, c5r1, c5r2, c5r3, c5r4, c5r5, c5r6, c5r7, c5r8, c5r9, c5r10, c5r11, c5r12, c5r13, c5r14, c5r15, c5r16, c5r17, c5r18, c5r19, c5r20, c5r21, c5r22, c5r23, c5r24, c5r26, EV0, EV1, EV2, EV3, EV4, EV5, EV6, EV7, EV8, VALS, plug, ite_same, decide_true, decide_false, eq_self, ↓reduceIte, reduceCtorEq, Nat.reduceAdd, Nat.reduceEqDiff, Nat.reduceLT, Nat.reduceLeDiff, Nat.reduceMul, Nat.reduceSub, Nat.reduceDiv, Int.reduceToNat, Int.reduceAdd, Int.reduceSub, Int.reduceMul, Int.reduceNeg, Int.reduceEq, Int.reduceLT, Int.reduceLE]; rfl) ?_)
      | refine post0 ?_
    all_goals first | exact ends_of | exact ends_eq rfl
  have l30 : l.length ≤ 30 := by omega
  repeat' first
    | with_reducible refine k_seq ?_
    | with_reducible refine k_skip ?_
    | with_reducible refine k_blkS ?_
    | with_reducible refine k_blkR ?_
    | with_reducible refine k_blkC ?_
    | with_reducible refine k_blkH ?_
    | with_reducible refine k_blkB ?_
    | with_reducible refine k_blkK ?_
    | with_reducible refine k_blkE ?_
    | with_reducible refine k_reg ?_
    | with_reducible refine r_done ?_
    | with_reducible refine s_go (by simp (disch := omega) only [c1, c5r0, c5r1, c5r2, c5r3, c5r4, c5r5, c5r6, c5r7, c5r8, c5r9, c5r10, c5r11, c5r12, c5r13, c5r14, c5r15, c5r16, c5r17, c5r18, c5r19, c5r20, c5r21, c5r22, c5r23, c5r24, c5r26, EV0, EV1, EV2, EV3, EV4, EV5, EV6, EV7, EV8, VALS, plug, ite_same, decide_true, decide_false, eq_self, ↓reduceIte, reduceCtorEq, Nat.reduceAdd, Nat.reduceEqDiff, Nat.reduceLT, Nat.reduceLeDiff, Nat.reduceMul, Nat.reduceSub, Nat.reduceDiv, Int.reduceToNat, Int.reduceAdd, Int.reduceSub, Int.reduceMul, Int.reduceNeg, Int.reduceEq, Int.reduceLT, Int.reduceLE]; with_reducible rfl) ?_
    | ((with_reducible refine chk_r ?_); refine r_callF (by simp only [CA, Nat.reduceEqDiff, ↓reduceIte]; rfl) (by exact rfl) (by simp only [CA, Nat.reduceEqDiff, ↓reduceIte]; rfl) rfl ?_)
    | ((with_reducible refine chk_r ?_); refine r_callX (by simp only [CA, Nat.reduceEqDiff, ↓reduceIte]; rfl) (by simp only [CA, Nat.reduceEqDiff, ↓reduceIte]; rfl) (by first | exact f9 _) rfl ?_)
    | ((with_reducible refine chk_r ?_); refine r_callTX (by first | (simp only [CA, Nat.reduceEqDiff, ↓reduceIte]; rfl) | simp only [CA, Nat.reduceEqDiff, ↓reduceIte]) (by simp only [CA, Nat.reduceEqDiff, ↓reduceIte]; rfl) (by simp only [CA, Nat.reduceEqDiff, ↓reduceIte]; rfl) (by first | exact f9 _) rfl ?_)
    | (with_reducible refine k_condP (by simp only [GA, Nat.reduceEqDiff, ↓reduceIte]; rfl) (by first | (simp only [BO]; rfl) | rfl) (fun ht => ?_) (fun ht => ?_) <;> try (first | exact False.elim ht | exact absurd rfl ht | exact absurd trivial ht | exact Bool.noConfusion ht))
    | (with_reducible refine k_ret ?_; repeat with_reducible (first | refine ret_thru ?_ | refine ret_blk ?_ | refine fin ?_))
    | (with_reducible refine k_exit ?_; repeat with_reducible (first | refine thru ?_ | refine out_blk ?_ | refine pass (by decide) ?_))
    | (refine post1 ?_; simp only [GA, Nat.reduceEqDiff, ↓reduceIte])
    | (refine post2 ?_; simp only [GA, Nat.reduceEqDiff, ↓reduceIte])
    | (refine post3 ?_; simp only [GA, Nat.reduceEqDiff, ↓reduceIte])
    | (refine postc (by simp only [GA, Nat.reduceEqDiff, ↓reduceIte]; rfl) (by simp (disch := omega) only [c1, c5r0, c5r1, c5r2, c5r3, c5r4, c5r5, c5r6, c5r7, c5r8, c5r9, c5r10, c5r11, c5r12, c5r13, c5r14, c5r15, c5r16, c5r17, c5r18, c5r19, c5r20, c5r21, c5r22, c5r23, c5r24, c5r26, EV0, EV1, EV2, EV3, EV4, EV5, EV6, EV7, EV8, VALS, plug, ite_same, decide_true, decide_false, eq_self, ↓reduceIte, reduceCtorEq, Nat.reduceAdd, Nat.reduceEqDiff, Nat.reduceLT, Nat.reduceLeDiff, Nat.reduceMul, Nat.reduceSub, Nat.reduceDiv, Int.reduceToNat, Int.reduceAdd, Int.reduceSub, Int.reduceMul, Int.reduceNeg, Int.reduceEq, Int.reduceLT, Int.reduceLE]; rfl) ?_)
    | refine post0 ?_
  rintro r h1 ⟨td, rfl, N1⟩
  have td1 := N1.lt
  have md1 := N1.m
  repeat' first
    | with_reducible refine k_seq ?_
    | with_reducible refine k_skip ?_
    | with_reducible refine k_blkS ?_
    | with_reducible refine k_blkR ?_
    | with_reducible refine k_blkC ?_
    | with_reducible refine k_blkH ?_
    | with_reducible refine k_blkB ?_
    | with_reducible refine k_blkK ?_
    | with_reducible refine k_blkE ?_
    | with_reducible refine k_reg ?_
    | with_reducible refine r_done ?_
    | with_reducible refine s_go (by simp (disch := omega) only [c5r0, c5r1, c5r2, c5r3, c5r4, c5r5, c5r6, c5r7, c5r8, c5r9, c5r10, c5r11, c5r12, c5r13, c5r14, c5r15, c5r16, c5r17, c5r18, c5r19, c5r20, c5r21, c5r22, c5r23, c5r24, c5r26, EV0, EV1, EV2, EV3, EV4, EV5, EV6, EV7, EV8, VALS, plug, ite_same, decide_true, decide_false, eq_self, ↓reduceIte, reduceCtorEq, Nat.reduceAdd, Nat.reduceEqDiff, Nat.reduceLT, Nat.reduceLeDiff, Nat.reduceMul, Nat.reduceSub, Nat.reduceDiv, Int.reduceToNat, Int.reduceAdd, Int.reduceSub, Int.reduceMul, Int.reduceNeg, Int.reduceEq, Int.reduceLT, Int.reduceLE]; with_reducible rfl) ?_
    | ((with_reducible refine chk_r ?_); refine r_callF (by simp only [CA, Nat.reduceEqDiff, ↓reduceIte]; rfl) (by exact rfl) (by simp only [CA, Nat.reduceEqDiff, ↓reduceIte]; rfl) rfl ?_)
    | ((with_reducible refine chk_r ?_); refine r_callX (by simp only [CA, Nat.reduceEqDiff, ↓reduceIte]; rfl) (by simp only [CA, Nat.reduceEqDiff, ↓reduceIte]; rfl) (by first | exact f10 td D0 D0_ok rfl _ (by simp (disch := omega) only [row_m md1, c5r0, c5r1, c5r2, c5r3, c5r4, c5r5, c5r6, c5r7, c5r8, c5r9, c5r10, c5r11, c5r12, c5r13, c5r14, c5r15, c5r16, c5r17, c5r18, c5r19, c5r20, c5r21, c5r22, c5r23, c5r24, c5r26, EV0, EV1, EV2, EV3, EV4, EV5, EV6, EV7, EV8, VALS, plug, ite_same, decide_true, decide_false, eq_self, ↓reduceIte, reduceCtorEq, Nat.reduceAdd, Nat.reduceEqDiff, Nat.reduceLT, Nat.reduceLeDiff, Nat.reduceMul, Nat.reduceSub, Nat.reduceDiv, Int.reduceToNat, Int.reduceAdd, Int.reduceSub, Int.reduceMul, Int.reduceNeg, Int.reduceEq, Int.reduceLT, Int.reduceLE])) rfl ?_)
    | ((with_reducible refine chk_r ?_); refine r_callTX (by first | (simp only [CA, Nat.reduceEqDiff, ↓reduceIte]; rfl) | simp only [CA, Nat.reduceEqDiff, ↓reduceIte]) (by simp only [CA, Nat.reduceEqDiff, ↓reduceIte]; rfl) (by simp only [CA, Nat.reduceEqDiff, ↓reduceIte]; rfl) (by first | exact f10 td D0 D0_ok rfl _ (by simp (disch := omega) only [row_m md1, c5r0, c5r1, c5r2, c5r3, c5r4, c5r5, c5r6, c5r7, c5r8, c5r9, c5r10, c5r11, c5r12, c5r13, c5r14, c5r15, c5r16, c5r17, c5r18, c5r19, c5r20, c5r21, c5r22, c5r23, c5r24, c5r26, EV0, EV1, EV2, EV3, EV4, EV5, EV6, EV7, EV8, VALS, plug, ite_same, decide_true, decide_false, eq_self, ↓reduceIte, reduceCtorEq, Nat.reduceAdd, Nat.reduceEqDiff, Nat.reduceLT, Nat.reduceLeDiff, Nat.reduceMul, Nat.reduceSub, Nat.reduceDiv, Int.reduceToNat, Int.reduceAdd, Int.reduceSub, Int.reduceMul, Int.reduceNeg, Int.reduceEq, Int.reduceLT, Int.reduceLE])) rfl ?_)
    | (with_reducible refine k_condP (by simp only [GA, Nat.reduceEqDiff, ↓reduceIte]; rfl) (by first | (simp only [BO]; rfl) | rfl) (fun ht => ?_) (fun ht => ?_) <;> try (first | exact False.elim ht | exact absurd rfl ht | exact absurd trivial ht | exact Bool.noConfusion ht))
    | (with_reducible refine k_ret ?_; repeat with_reducible (first | refine ret_thru ?_ | refine ret_blk ?_ | refine fin ?_))
    | (with_reducible refine k_exit ?_; repeat with_reducible (first | refine thru ?_ | refine out_blk ?_ | refine pass (by decide) ?_))
    | (refine post1 ?_; simp only [GA, Nat.reduceEqDiff, ↓reduceIte])
    | (refine post2 ?_; simp only [GA, Nat.reduceEqDiff, ↓reduceIte])
    | (refine post3 ?_; simp only [GA, Nat.reduceEqDiff, ↓reduceIte])
    | (refine postc (by simp only [GA, Nat.reduceEqDiff, ↓reduceIte]; rfl) (by simp (disch := omega) only [c5r0, c5r1, c5r2, c5r3, c5r4, c5r5, c5r6, c5r7, c5r8, c5r9, c5r10, c5r11, c5r12, c5r13, c5r14, c5r15, c5r16, c5r17, c5r18, c5r19, c5r20, c5r21, c5r22, c5r23, c5r24, c5r26, EV0, EV1, EV2, EV3, EV4, EV5, EV6, EV7, EV8, VALS, plug, ite_same, decide_true, decide_false, eq_self, ↓reduceIte, reduceCtorEq, Nat.reduceAdd, Nat.reduceEqDiff, Nat.reduceLT, Nat.reduceLeDiff, Nat.reduceMul, Nat.reduceSub, Nat.reduceDiv, Int.reduceToNat, Int.reduceAdd, Int.reduceSub, Int.reduceMul, Int.reduceNeg, Int.reduceEq, Int.reduceLT, Int.reduceLE]; rfl) ?_)
    | refine post0 ?_
  rintro r h2 ⟨tj, rfl, N2⟩
  have mj2 := N2.m
  have kp2 := N2.keep
  have nx2 := N2.nx
  have tj0 := N2.t0
  simp only [AH.bump_nx, AH.bump_m] at kp2 nx2 tj0
  have md2 : h2.m td = some (.cells true (eI D0)) := by rw [kp2 td (by omega)]; exact md1
  repeat' first
    | with_reducible refine k_seq ?_
    | with_reducible refine k_skip ?_
    | with_reducible refine k_blkS ?_
    | with_reducible refine k_blkR ?_
    | with_reducible refine k_blkC ?_
    | with_reducible refine k_blkH ?_
    | with_reducible refine k_blkB ?_
    | with_reducible refine k_blkK ?_
    | with_reducible refine k_blkE ?_
    | with_reducible refine k_reg ?_
    | with_reducible refine r_done ?_
    | with_reducible refine s_go (by simp (disch := omega) only [c5r0, c5r1, c5r2, c5r3, c5r4, c5r5, c5r6, c5r7, c5r8, c5r9, c5r10, c5r11, c5r12, c5r13, c5r14, c5r15, c5r16, c5r17, c5r18, c5r19, c5r20, c5r21, c5r22, c5r23, c5r24, c5r26, EV0, EV1, EV2, EV3, EV4, EV5, EV6, EV7, EV8, VALS, plug, ite_same, decide_true, decide_false, eq_self, ↓reduceIte, reduceCtorEq, Nat.reduceAdd, Nat.reduceEqDiff, Nat.reduceLT, Nat.reduceLeDiff, Nat.reduceMul, Nat.reduceSub, Nat.reduceDiv, Int.reduceToNat, Int.reduceAdd, Int.reduceSub, Int.reduceMul, Int.reduceNeg, Int.reduceEq, Int.reduceLT, Int.reduceLE]; with_reducible rfl) ?_
    | ((with_reducible refine chk_r ?_); refine r_callF (by simp only [CA, Nat.reduceEqDiff, ↓reduceIte]; rfl) (by exact rfl) (by simp only [CA, Nat.reduceEqDiff, ↓reduceIte]; rfl) rfl ?_)
    | (with_reducible refine k_condP (by simp only [GA, Nat.reduceEqDiff, ↓reduceIte]; rfl) (by first | (simp only [BO]; rfl) | rfl) (fun ht => ?_) (fun ht => ?_) <;> try (first | exact False.elim ht | exact absurd rfl ht | exact absurd trivial ht | exact Bool.noConfusion ht))
    | (with_reducible refine k_ret ?_; repeat with_reducible (first | refine ret_thru ?_ | refine ret_blk ?_ | refine fin ?_))
    | (with_reducible refine k_exit ?_; repeat with_reducible (first | refine thru ?_ | refine out_blk ?_ | refine pass (by decide) ?_))
    | (refine post1 ?_; simp only [GA, Nat.reduceEqDiff, ↓reduceIte])
    | (refine post2 ?_; simp only [GA, Nat.reduceEqDiff, ↓reduceIte])
    | (refine post3 ?_; simp only [GA, Nat.reduceEqDiff, ↓reduceIte])
    | (refine postc (by simp only [GA, Nat.reduceEqDiff, ↓reduceIte]; rfl) (by simp (disch := omega) only [c5r0, c5r1, c5r2, c5r3, c5r4, c5r5, c5r6, c5r7, c5r8, c5r9, c5r10, c5r11, c5r12, c5r13, c5r14, c5r15, c5r16, c5r17, c5r18, c5r19, c5r20, c5r21, c5r22, c5r23, c5r24, c5r26, EV0, EV1, EV2, EV3, EV4, EV5, EV6, EV7, EV8, VALS, plug, ite_same, decide_true, decide_false, eq_self, ↓reduceIte, reduceCtorEq, Nat.reduceAdd, Nat.reduceEqDiff, Nat.reduceLT, Nat.reduceLeDiff, Nat.reduceMul, Nat.reduceSub, Nat.reduceDiv, Int.reduceToNat, Int.reduceAdd, Int.reduceSub, Int.reduceMul, Int.reduceNeg, Int.reduceEq, Int.reduceLT, Int.reduceLE]; rfl) ?_)
    | refine post0 ?_
  refine k_blk (k_loopS (X := Nat × Nat × D × Int × List Int) [3, 4, 6, 7, 26, 27, 28] l.length (fun k x => [(3, .p x.1 0), (4, .p x.2.1 0), (6, sb x.2.2.2.2), (7, .i .i64 x.2.2.2.1), (26, vC l), (27, .i .i64 l.length), (28, .i .i64 (k : Int))]) (fun k x h => Lo x.1 x.2.1 x.2.2.1 x.2.2.2.1 x.2.2.2.2 k h) (td, tj, D0, 0, []) (by simp only [Am.keep, List.map_cons, List.map_nil, GA, Nat.reduceEqDiff, ↓reduceIte]; try rfl) ⟨by simp (disch := omega) only [md2, c5r0, c5r1, c5r2, c5r3, c5r4, c5r5, c5r6, c5r7, c5r8, c5r9, c5r10, c5r11, c5r12, c5r13, c5r14, c5r15, c5r16, c5r17, c5r18, c5r19, c5r20, c5r21, c5r22, c5r23, c5r24, c5r26, EV0, EV1, EV2, EV3, EV4, EV5, EV6, EV7, EV8, VALS, plug, ite_same, decide_true, decide_false, eq_self, ↓reduceIte, reduceCtorEq, Nat.reduceAdd, Nat.reduceEqDiff, Nat.reduceLT, Nat.reduceLeDiff, Nat.reduceMul, Nat.reduceSub, Nat.reduceDiv, Int.reduceToNat, Int.reduceAdd, Int.reduceSub, Int.reduceMul, Int.reduceNeg, Int.reduceEq, Int.reduceLT, Int.reduceLE], by rw [opn_iv Iv0] at mj2; simp (disch := omega) only [mj2, c5r0, c5r1, c5r2, c5r3, c5r4, c5r5, c5r6, c5r7, c5r8, c5r9, c5r10, c5r11, c5r12, c5r13, c5r14, c5r15, c5r16, c5r17, c5r18, c5r19, c5r20, c5r21, c5r22, c5r23, c5r24, c5r26, EV0, EV1, EV2, EV3, EV4, EV5, EV6, EV7, EV8, VALS, plug, ite_same, decide_true, decide_false, eq_self, ↓reduceIte, reduceCtorEq, Nat.reduceAdd, Nat.reduceEqDiff, Nat.reduceLT, Nat.reduceLeDiff, Nat.reduceMul, Nat.reduceSub, Nat.reduceDiv, Int.reduceToNat, Int.reduceAdd, Int.reduceSub, Int.reduceMul, Int.reduceNeg, Int.reduceEq, Int.reduceLT, Int.reduceLE], by simp only []; omega, D0_ok, rfl, Iv0, by simp, BY.nil, by simp⟩ ?_)
  rintro k ⟨td, tj, d, t, im⟩ h hk R ok pos
  simp only at R ⊢
  have ld := ok.m R.hd
  have lj := ok.m R.hj
  by_cases hlt : k < l.length
  · have hlt' : (k : Int) < l.length := by omega
    have g0 := rdC hlt
    have am : l.getD k C0 ∈ l := by rw [getD_lt hlt]; exact List.getElem_mem hlt
    have cok := hc _ am
    generalize l.getD k C0 = c at *
    simp only [eC] at g0
    by_cases c4 : (400 : Int) < c.im.length
    · repeat' first
        | with_reducible refine k_seq ?_
        | with_reducible refine k_skip ?_
        | with_reducible refine k_blkS ?_
        | with_reducible refine k_blkR ?_
        | with_reducible refine k_blkC ?_
        | with_reducible refine k_blkH ?_
        | with_reducible refine k_blkB ?_
        | with_reducible refine k_blkK ?_
        | with_reducible refine k_blkE ?_
        | with_reducible refine k_reg ?_
        | with_reducible refine r_done ?_
        | with_reducible refine s_go (by simp (disch := omega) only [hlt', g0, c4, c5r0, c5r1, c5r2, c5r3, c5r4, c5r5, c5r6, c5r7, c5r8, c5r9, c5r10, c5r11, c5r12, c5r13, c5r14, c5r15, c5r16, c5r17, c5r18, c5r19, c5r20, c5r21, c5r22, c5r23, c5r24, c5r26, EV0, EV1, EV2, EV3, EV4, EV5, EV6, EV7, EV8, VALS, plug, ite_same, decide_true, decide_false, eq_self, ↓reduceIte, reduceCtorEq, Nat.reduceAdd, Nat.reduceEqDiff, Nat.reduceLT, Nat.reduceLeDiff, Nat.reduceMul, Nat.reduceSub, Nat.reduceDiv, Int.reduceToNat, Int.reduceAdd, Int.reduceSub, Int.reduceMul, Int.reduceNeg, Int.reduceEq, Int.reduceLT, Int.reduceLE]; with_reducible rfl) ?_
        | ((with_reducible refine chk_r ?_); refine r_callF (by simp only [CA, Nat.reduceEqDiff, ↓reduceIte]; rfl) (by exact rfl) (by simp only [CA, Nat.reduceEqDiff, ↓reduceIte]; rfl) rfl ?_)
        | (with_reducible refine k_condP (by simp only [GA, Nat.reduceEqDiff, ↓reduceIte]; rfl) (by first | (simp only [BO]; rfl) | rfl) (fun ht => ?_) (fun ht => ?_) <;> try (first | exact False.elim ht | exact absurd rfl ht | exact absurd trivial ht | exact Bool.noConfusion ht))
        | (with_reducible refine k_ret ?_; repeat with_reducible (first | refine ret_thru ?_ | refine ret_blk ?_ | refine fin ?_))
        | (with_reducible refine k_exit ?_; repeat with_reducible (first | refine thru ?_ | refine out_blk ?_ | refine pass (by decide) ?_))
        | (refine post1 ?_; simp only [GA, Nat.reduceEqDiff, ↓reduceIte])
        | (refine post2 ?_; simp only [GA, Nat.reduceEqDiff, ↓reduceIte])
        | (refine post3 ?_; simp only [GA, Nat.reduceEqDiff, ↓reduceIte])
        | (refine postc (by simp only [GA, Nat.reduceEqDiff, ↓reduceIte]; rfl) (by simp (disch := omega) only [hlt', g0, c4, c5r0, c5r1, c5r2, c5r3, c5r4, c5r5, c5r6, c5r7, c5r8, c5r9, c5r10, c5r11, c5r12, c5r13, c5r14, c5r15, c5r16, c5r17, c5r18, c5r19, c5r20, c5r21, c5r22, c5r23, c5r24, c5r26, EV0, EV1, EV2, EV3, EV4, EV5, EV6, EV7, EV8, VALS, plug, ite_same, decide_true, decide_false, eq_self, ↓reduceIte, reduceCtorEq, Nat.reduceAdd, Nat.reduceEqDiff, Nat.reduceLT, Nat.reduceLeDiff, Nat.reduceMul, Nat.reduceSub, Nat.reduceDiv, Int.reduceToNat, Int.reduceAdd, Int.reduceSub, Int.reduceMul, Int.reduceNeg, Int.reduceEq, Int.reduceLT, Int.reduceLE]; rfl) ?_)
        | refine post0 ?_
      exact ⟨hlt, (td, tj, d, t, im), (by simp only [Am.keep, List.map_cons, List.map_nil, GA, Nat.reduceEqDiff, ↓reduceIte]; try rfl), R.mono (by omega) fun t b q => by have := ok.m q; (simp (disch := omega) only [q, c5r0, c5r1, c5r2, c5r3, c5r4, c5r5, c5r6, c5r7, c5r8, c5r9, c5r10, c5r11, c5r12, c5r13, c5r14, c5r15, c5r16, c5r17, c5r18, c5r19, c5r20, c5r21, c5r22, c5r23, c5r24, c5r26, EV0, EV1, EV2, EV3, EV4, EV5, EV6, EV7, EV8, VALS, plug, ite_same, decide_true, decide_false, eq_self, ↓reduceIte, reduceCtorEq, Nat.reduceAdd, Nat.reduceEqDiff, Nat.reduceLT, Nat.reduceLeDiff, Nat.reduceMul, Nat.reduceSub, Nat.reduceDiv, Int.reduceToNat, Int.reduceAdd, Int.reduceSub, Int.reduceMul, Int.reduceNeg, Int.reduceEq, Int.reduceLT, Int.reduceLE])⟩
    have en : c.at_.tmod 3 = c.at_ % 3 := Int.tmod_eq_emod_of_nonneg cok.at_.1
    have w64 : IntKind.i64.wrap (c.at_ % 3) = c.at_ % 3 := wrap64 (by omega) (by omega)
    have q20 := fun h hm => f20 td d (c.at_ % 3) c.keep h hm
    have dok1 := armD_ok R.dok (n := c.at_ % 3) (by omega) c.keep
    obtain ⟨t0, tk⟩ := R.rng
    have jok : J.ok ⟨t, d.life, false, im⟩ := ⟨by simp only []; omega, by have := R.len; simp only []; omega⟩
    have q11 := fun h hm hd => f11 tj td ⟨t, d.life, false, im⟩ jok (armD d (c.at_ % 3) c.keep) dok1 c.im (by omega) h (fun e => R.ne e.symm) hm hd
    have svo := sv_oks jok dok1 (im := c.im) (by omega) cok.im
    repeat' first
      | with_reducible refine k_seq ?_
      | with_reducible refine k_skip ?_
      | with_reducible refine k_blkS ?_
      | with_reducible refine k_blkR ?_
      | with_reducible refine k_blkC ?_
      | with_reducible refine k_blkH ?_
      | with_reducible refine k_blkB ?_
      | with_reducible refine k_blkK ?_
      | with_reducible refine k_blkE ?_
      | with_reducible refine k_reg ?_
      | with_reducible refine r_done ?_
      | with_reducible refine s_go (by simp (disch := omega) only [hlt', g0, c4, en, w64, c5r0, c5r1, c5r2, c5r3, c5r4, c5r5, c5r6, c5r7, c5r8, c5r9, c5r10, c5r11, c5r12, c5r13, c5r14, c5r15, c5r16, c5r17, c5r18, c5r19, c5r20, c5r21, c5r22, c5r23, c5r24, c5r26, EV0, EV1, EV2, EV3, EV4, EV5, EV6, EV7, EV8, VALS, plug, ite_same, decide_true, decide_false, eq_self, ↓reduceIte, reduceCtorEq, Nat.reduceAdd, Nat.reduceEqDiff, Nat.reduceLT, Nat.reduceLeDiff, Nat.reduceMul, Nat.reduceSub, Nat.reduceDiv, Int.reduceToNat, Int.reduceAdd, Int.reduceSub, Int.reduceMul, Int.reduceNeg, Int.reduceEq, Int.reduceLT, Int.reduceLE]; with_reducible rfl) ?_
      | ((with_reducible refine chk_r ?_); refine r_callF (by simp only [CA, Nat.reduceEqDiff, ↓reduceIte]; rfl) (by exact rfl) (by simp only [CA, Nat.reduceEqDiff, ↓reduceIte]; rfl) rfl ?_)
      | ((with_reducible refine chk_r ?_); refine r_callX (by simp only [CA, Nat.reduceEqDiff, ↓reduceIte]; rfl) (by simp only [CA, Nat.reduceEqDiff, ↓reduceIte]; rfl) (by first | ((refine q20 _ ?_; simp (disch := omega) only [R.hd, c5r0, c5r1, c5r2, c5r3, c5r4, c5r5, c5r6, c5r7, c5r8, c5r9, c5r10, c5r11, c5r12, c5r13, c5r14, c5r15, c5r16, c5r17, c5r18, c5r19, c5r20, c5r21, c5r22, c5r23, c5r24, c5r26, EV0, EV1, EV2, EV3, EV4, EV5, EV6, EV7, EV8, VALS, plug, ite_same, decide_true, decide_false, eq_self, ↓reduceIte, reduceCtorEq, Nat.reduceAdd, Nat.reduceEqDiff, Nat.reduceLT, Nat.reduceLeDiff, Nat.reduceMul, Nat.reduceSub, Nat.reduceDiv, Int.reduceToNat, Int.reduceAdd, Int.reduceSub, Int.reduceMul, Int.reduceNeg, Int.reduceEq, Int.reduceLT, Int.reduceLE]); all_goals fail)) rfl ?_)
      | ((with_reducible refine chk_r ?_); refine r_callTX (by first | (simp only [CA, Nat.reduceEqDiff, ↓reduceIte]; rfl) | simp only [CA, Nat.reduceEqDiff, ↓reduceIte]) (by simp only [CA, Nat.reduceEqDiff, ↓reduceIte]; rfl) (by simp only [CA, Nat.reduceEqDiff, ↓reduceIte]; rfl) (by first | ((refine q20 _ ?_; simp (disch := omega) only [R.hd, c5r0, c5r1, c5r2, c5r3, c5r4, c5r5, c5r6, c5r7, c5r8, c5r9, c5r10, c5r11, c5r12, c5r13, c5r14, c5r15, c5r16, c5r17, c5r18, c5r19, c5r20, c5r21, c5r22, c5r23, c5r24, c5r26, EV0, EV1, EV2, EV3, EV4, EV5, EV6, EV7, EV8, VALS, plug, ite_same, decide_true, decide_false, eq_self, ↓reduceIte, reduceCtorEq, Nat.reduceAdd, Nat.reduceEqDiff, Nat.reduceLT, Nat.reduceLeDiff, Nat.reduceMul, Nat.reduceSub, Nat.reduceDiv, Int.reduceToNat, Int.reduceAdd, Int.reduceSub, Int.reduceMul, Int.reduceNeg, Int.reduceEq, Int.reduceLT, Int.reduceLE]); all_goals fail)) rfl ?_)
      | (with_reducible refine k_condP (by simp only [GA, Nat.reduceEqDiff, ↓reduceIte]; rfl) (by first | (simp only [BO]; rfl) | rfl) (fun ht => ?_) (fun ht => ?_) <;> try (first | exact False.elim ht | exact absurd rfl ht | exact absurd trivial ht | exact Bool.noConfusion ht))
      | (with_reducible refine k_ret ?_; repeat with_reducible (first | refine ret_thru ?_ | refine ret_blk ?_ | refine fin ?_))
      | (with_reducible refine k_exit ?_; repeat with_reducible (first | refine thru ?_ | refine out_blk ?_ | refine pass (by decide) ?_))
      | (refine post1 ?_; simp only [GA, Nat.reduceEqDiff, ↓reduceIte])
      | (refine post2 ?_; simp only [GA, Nat.reduceEqDiff, ↓reduceIte])
      | (refine post3 ?_; simp only [GA, Nat.reduceEqDiff, ↓reduceIte])
      | (refine postc (by simp only [GA, Nat.reduceEqDiff, ↓reduceIte]; rfl) (by simp (disch := omega) only [hlt', g0, c4, en, w64, c5r0, c5r1, c5r2, c5r3, c5r4, c5r5, c5r6, c5r7, c5r8, c5r9, c5r10, c5r11, c5r12, c5r13, c5r14, c5r15, c5r16, c5r17, c5r18, c5r19, c5r20, c5r21, c5r22, c5r23, c5r24, c5r26, EV0, EV1, EV2, EV3, EV4, EV5, EV6, EV7, EV8, VALS, plug, ite_same, decide_true, decide_false, eq_self, ↓reduceIte, reduceCtorEq, Nat.reduceAdd, Nat.reduceEqDiff, Nat.reduceLT, Nat.reduceLeDiff, Nat.reduceMul, Nat.reduceSub, Nat.reduceDiv, Int.reduceToNat, Int.reduceAdd, Int.reduceSub, Int.reduceMul, Int.reduceNeg, Int.reduceEq, Int.reduceLT, Int.reduceLE]; rfl) ?_)
      | refine post0 ?_
    rintro r h3 ⟨rfl, U⟩
    have nx3 := U.nx
    have kp3 := U.keep
    have hd3 := U.m
    have hj3 : h3.m tj = some (.cells true (eJ td ⟨t, d.life, false, im⟩)) := by rw [kp3 tj (by simp (disch := omega) only [c5r0, c5r1, c5r2, c5r3, c5r4, c5r5, c5r6, c5r7, c5r8, c5r9, c5r10, c5r11, c5r12, c5r13, c5r14, c5r15, c5r16, c5r17, c5r18, c5r19, c5r20, c5r21, c5r22, c5r23, c5r24, c5r26, EV0, EV1, EV2, EV3, EV4, EV5, EV6, EV7, EV8, VALS, plug, ite_same, decide_true, decide_false, eq_self, ↓reduceIte, reduceCtorEq, Nat.reduceAdd, Nat.reduceEqDiff, Nat.reduceLT, Nat.reduceLeDiff, Nat.reduceMul, Nat.reduceSub, Nat.reduceDiv, Int.reduceToNat, Int.reduceAdd, Int.reduceSub, Int.reduceMul, Int.reduceNeg, Int.reduceEq, Int.reduceLT, Int.reduceLE]; omega) (fun e => R.ne e.symm)]; simp (disch := omega) only [R.hj, c5r0, c5r1, c5r2, c5r3, c5r4, c5r5, c5r6, c5r7, c5r8, c5r9, c5r10, c5r11, c5r12, c5r13, c5r14, c5r15, c5r16, c5r17, c5r18, c5r19, c5r20, c5r21, c5r22, c5r23, c5r24, c5r26, EV0, EV1, EV2, EV3, EV4, EV5, EV6, EV7, EV8, VALS, plug, ite_same, decide_true, decide_false, eq_self, ↓reduceIte, reduceCtorEq, Nat.reduceAdd, Nat.reduceEqDiff, Nat.reduceLT, Nat.reduceLeDiff, Nat.reduceMul, Nat.reduceSub, Nat.reduceDiv, Int.reduceToNat, Int.reduceAdd, Int.reduceSub, Int.reduceMul, Int.reduceNeg, Int.reduceEq, Int.reduceLT, Int.reduceLE]
    have hB3 : h3.m (h.nx + 1 + 2) = some (.cells true [vu c.im, .i .u8 c.at_, .i .i64 c.keep]) := by rw [kp3 (h.nx + 1 + 2) (by simp (disch := omega) only [c5r0, c5r1, c5r2, c5r3, c5r4, c5r5, c5r6, c5r7, c5r8, c5r9, c5r10, c5r11, c5r12, c5r13, c5r14, c5r15, c5r16, c5r17, c5r18, c5r19, c5r20, c5r21, c5r22, c5r23, c5r24, c5r26, EV0, EV1, EV2, EV3, EV4, EV5, EV6, EV7, EV8, VALS, plug, ite_same, decide_true, decide_false, eq_self, ↓reduceIte, reduceCtorEq, Nat.reduceAdd, Nat.reduceEqDiff, Nat.reduceLT, Nat.reduceLeDiff, Nat.reduceMul, Nat.reduceSub, Nat.reduceDiv, Int.reduceToNat, Int.reduceAdd, Int.reduceSub, Int.reduceMul, Int.reduceNeg, Int.reduceEq, Int.reduceLT, Int.reduceLE]; omega) (by omega)]; simp (disch := omega) only [c5r0, c5r1, c5r2, c5r3, c5r4, c5r5, c5r6, c5r7, c5r8, c5r9, c5r10, c5r11, c5r12, c5r13, c5r14, c5r15, c5r16, c5r17, c5r18, c5r19, c5r20, c5r21, c5r22, c5r23, c5r24, c5r26, EV0, EV1, EV2, EV3, EV4, EV5, EV6, EV7, EV8, VALS, plug, ite_same, decide_true, decide_false, eq_self, ↓reduceIte, reduceCtorEq, Nat.reduceAdd, Nat.reduceEqDiff, Nat.reduceLT, Nat.reduceLeDiff, Nat.reduceMul, Nat.reduceSub, Nat.reduceDiv, Int.reduceToNat, Int.reduceAdd, Int.reduceSub, Int.reduceMul, Int.reduceNeg, Int.reduceEq, Int.reduceLT, Int.reduceLE]
    simp only [AH.bump_nx, AH.set_nx] at nx3
    clear kp3 U
    generalize hB : h.nx + 1 + 2 = B at *
    have neB : tj ≠ B := by omega
    have ndB : td ≠ B := by omega
    have lB : B < h3.nx := by omega
    have lj3 : tj < h3.nx := by omega
    have ld3 : td < h3.nx := by omega
    have lc := R.len
    obtain ⟨svj, svd⟩ := svo
    rcases sv_case R.iv R.off (by omega) (im' := c.im) (by omega) (n := c.at_ % 3) (by omega) c.keep with ⟨d2, e, I2, o2, f2⟩ | ⟨d3, e, f3, I3⟩
    · rw [e] at q11 svd
      repeat' first
        | with_reducible refine k_seq ?_
        | with_reducible refine k_skip ?_
        | with_reducible refine k_blkS ?_
        | with_reducible refine k_blkR ?_
        | with_reducible refine k_blkC ?_
        | with_reducible refine k_blkH ?_
        | with_reducible refine k_blkB ?_
        | with_reducible refine k_blkK ?_
        | with_reducible refine k_blkE ?_
        | with_reducible refine k_reg ?_
        | with_reducible refine r_done ?_
        | with_reducible refine s_go (by simp (disch := omega) only [hB3, row_m hB3, read_row (row_m hB3), c5r0, c5r1, c5r2, c5r3, c5r4, c5r5, c5r6, c5r7, c5r8, c5r9, c5r10, c5r11, c5r12, c5r13, c5r14, c5r15, c5r16, c5r17, c5r18, c5r19, c5r20, c5r21, c5r22, c5r23, c5r24, c5r26, EV0, EV1, EV2, EV3, EV4, EV5, EV6, EV7, EV8, VALS, plug, ite_same, decide_true, decide_false, eq_self, ↓reduceIte, reduceCtorEq, Nat.reduceAdd, Nat.reduceEqDiff, Nat.reduceLT, Nat.reduceLeDiff, Nat.reduceMul, Nat.reduceSub, Nat.reduceDiv, Int.reduceToNat, Int.reduceAdd, Int.reduceSub, Int.reduceMul, Int.reduceNeg, Int.reduceEq, Int.reduceLT, Int.reduceLE]; with_reducible rfl) ?_
        | ((with_reducible refine chk_r ?_); refine r_callF (by simp only [CA, Nat.reduceEqDiff, ↓reduceIte]; rfl) (by exact rfl) (by simp only [CA, Nat.reduceEqDiff, ↓reduceIte]; rfl) rfl ?_)
        | ((with_reducible refine chk_r ?_); refine r_callX (by simp only [CA, Nat.reduceEqDiff, ↓reduceIte]; rfl) (by simp only [CA, Nat.reduceEqDiff, ↓reduceIte]; rfl) (by first | ((refine q11 _ ?_ ?_ <;> simp (disch := omega) only [hj3, hd3, c5r0, c5r1, c5r2, c5r3, c5r4, c5r5, c5r6, c5r7, c5r8, c5r9, c5r10, c5r11, c5r12, c5r13, c5r14, c5r15, c5r16, c5r17, c5r18, c5r19, c5r20, c5r21, c5r22, c5r23, c5r24, c5r26, EV0, EV1, EV2, EV3, EV4, EV5, EV6, EV7, EV8, VALS, plug, ite_same, decide_true, decide_false, eq_self, ↓reduceIte, reduceCtorEq, Nat.reduceAdd, Nat.reduceEqDiff, Nat.reduceLT, Nat.reduceLeDiff, Nat.reduceMul, Nat.reduceSub, Nat.reduceDiv, Int.reduceToNat, Int.reduceAdd, Int.reduceSub, Int.reduceMul, Int.reduceNeg, Int.reduceEq, Int.reduceLT, Int.reduceLE]); all_goals fail)) rfl ?_)
        | ((with_reducible refine chk_r ?_); refine r_callTX (by first | (simp only [CA, Nat.reduceEqDiff, ↓reduceIte]; rfl) | simp only [CA, Nat.reduceEqDiff, ↓reduceIte]) (by simp only [CA, Nat.reduceEqDiff, ↓reduceIte]; rfl) (by simp only [CA, Nat.reduceEqDiff, ↓reduceIte]; rfl) (by first | ((refine q11 _ ?_ ?_ <;> simp (disch := omega) only [hj3, hd3, c5r0, c5r1, c5r2, c5r3, c5r4, c5r5, c5r6, c5r7, c5r8, c5r9, c5r10, c5r11, c5r12, c5r13, c5r14, c5r15, c5r16, c5r17, c5r18, c5r19, c5r20, c5r21, c5r22, c5r23, c5r24, c5r26, EV0, EV1, EV2, EV3, EV4, EV5, EV6, EV7, EV8, VALS, plug, ite_same, decide_true, decide_false, eq_self, ↓reduceIte, reduceCtorEq, Nat.reduceAdd, Nat.reduceEqDiff, Nat.reduceLT, Nat.reduceLeDiff, Nat.reduceMul, Nat.reduceSub, Nat.reduceDiv, Int.reduceToNat, Int.reduceAdd, Int.reduceSub, Int.reduceMul, Int.reduceNeg, Int.reduceEq, Int.reduceLT, Int.reduceLE]); all_goals fail)) rfl ?_)
        | (with_reducible refine k_condP (by simp only [GA, Nat.reduceEqDiff, ↓reduceIte]; rfl) (by first | (simp only [BO]; rfl) | rfl) (fun ht => ?_) (fun ht => ?_) <;> try (first | exact False.elim ht | exact absurd rfl ht | exact absurd trivial ht | exact Bool.noConfusion ht))
        | (with_reducible refine k_ret ?_; repeat with_reducible (first | refine ret_thru ?_ | refine ret_blk ?_ | refine fin ?_))
        | (with_reducible refine k_exit ?_; repeat with_reducible (first | refine thru ?_ | refine out_blk ?_ | refine pass (by decide) ?_))
        | (refine post1 ?_; simp only [GA, Nat.reduceEqDiff, ↓reduceIte])
        | (refine post2 ?_; simp only [GA, Nat.reduceEqDiff, ↓reduceIte])
        | (refine post3 ?_; simp only [GA, Nat.reduceEqDiff, ↓reduceIte])
        | (refine postc (by simp only [GA, Nat.reduceEqDiff, ↓reduceIte]; rfl) (by simp (disch := omega) only [hB3, row_m hB3, read_row (row_m hB3), c5r0, c5r1, c5r2, c5r3, c5r4, c5r5, c5r6, c5r7, c5r8, c5r9, c5r10, c5r11, c5r12, c5r13, c5r14, c5r15, c5r16, c5r17, c5r18, c5r19, c5r20, c5r21, c5r22, c5r23, c5r24, c5r26, EV0, EV1, EV2, EV3, EV4, EV5, EV6, EV7, EV8, VALS, plug, ite_same, decide_true, decide_false, eq_self, ↓reduceIte, reduceCtorEq, Nat.reduceAdd, Nat.reduceEqDiff, Nat.reduceLT, Nat.reduceLeDiff, Nat.reduceMul, Nat.reduceSub, Nat.reduceDiv, Int.reduceToNat, Int.reduceAdd, Int.reduceSub, Int.reduceMul, Int.reduceNeg, Int.reduceEq, Int.reduceLT, Int.reduceLE]; rfl) ?_)
        | refine post0 ?_
      rintro r h4 ⟨rfl, m1, m2, kp4, nx4⟩
      simp only [AH.bump_nx, AH.bump_m] at kp4 nx4
      have hB4 : h4.m B = some (.cells true [vu c.im, .i .u8 c.at_, .i .i64 c.keep]) := by rw [kp4 B (by omega) neB.symm ndB.symm]; exact hB3
      repeat' first
        | with_reducible refine k_seq ?_
        | with_reducible refine k_skip ?_
        | with_reducible refine k_blkS ?_
        | with_reducible refine k_blkR ?_
        | with_reducible refine k_blkC ?_
        | with_reducible refine k_blkH ?_
        | with_reducible refine k_blkB ?_
        | with_reducible refine k_blkK ?_
        | with_reducible refine k_blkE ?_
        | with_reducible refine k_reg ?_
        | with_reducible refine r_done ?_
        | with_reducible refine s_go (by simp (disch := omega) only [hB4, row_m hB4, read_row (row_m hB4), c5r0, c5r1, c5r2, c5r3, c5r4, c5r5, c5r6, c5r7, c5r8, c5r9, c5r10, c5r11, c5r12, c5r13, c5r14, c5r15, c5r16, c5r17, c5r18, c5r19, c5r20, c5r21, c5r22, c5r23, c5r24, c5r26, EV0, EV1, EV2, EV3, EV4, EV5, EV6, EV7, EV8, VALS, plug, ite_same, decide_true, decide_false, eq_self, ↓reduceIte, reduceCtorEq, Nat.reduceAdd, Nat.reduceEqDiff, Nat.reduceLT, Nat.reduceLeDiff, Nat.reduceMul, Nat.reduceSub, Nat.reduceDiv, Int.reduceToNat, Int.reduceAdd, Int.reduceSub, Int.reduceMul, Int.reduceNeg, Int.reduceEq, Int.reduceLT, Int.reduceLE]; with_reducible rfl) ?_
        | ((with_reducible refine chk_r ?_); refine r_callF (by simp only [CA, Nat.reduceEqDiff, ↓reduceIte]; rfl) (by exact rfl) (by simp only [CA, Nat.reduceEqDiff, ↓reduceIte]; rfl) rfl ?_)
        | (with_reducible refine k_condP (by simp only [GA, Nat.reduceEqDiff, ↓reduceIte]; rfl) (by first | (simp only [BO]; rfl) | rfl) (fun ht => ?_) (fun ht => ?_) <;> try (first | exact False.elim ht | exact absurd rfl ht | exact absurd trivial ht | exact Bool.noConfusion ht))
        | (with_reducible refine k_ret ?_; repeat with_reducible (first | refine ret_thru ?_ | refine ret_blk ?_ | refine fin ?_))
        | (with_reducible refine k_exit ?_; repeat with_reducible (first | refine thru ?_ | refine out_blk ?_ | refine pass (by decide) ?_))
        | (refine post1 ?_; simp only [GA, Nat.reduceEqDiff, ↓reduceIte])
        | (refine post2 ?_; simp only [GA, Nat.reduceEqDiff, ↓reduceIte])
        | (refine post3 ?_; simp only [GA, Nat.reduceEqDiff, ↓reduceIte])
        | (refine postc (by simp only [GA, Nat.reduceEqDiff, ↓reduceIte]; rfl) (by simp (disch := omega) only [hB4, row_m hB4, read_row (row_m hB4), c5r0, c5r1, c5r2, c5r3, c5r4, c5r5, c5r6, c5r7, c5r8, c5r9, c5r10, c5r11, c5r12, c5r13, c5r14, c5r15, c5r16, c5r17, c5r18, c5r19, c5r20, c5r21, c5r22, c5r23, c5r24, c5r26, EV0, EV1, EV2, EV3, EV4, EV5, EV6, EV7, EV8, VALS, plug, ite_same, decide_true, decide_false, eq_self, ↓reduceIte, reduceCtorEq, Nat.reduceAdd, Nat.reduceEqDiff, Nat.reduceLT, Nat.reduceLeDiff, Nat.reduceMul, Nat.reduceSub, Nat.reduceDiv, Int.reduceToNat, Int.reduceAdd, Int.reduceSub, Int.reduceMul, Int.reduceNeg, Int.reduceEq, Int.reduceLT, Int.reduceLE]; rfl) ?_)
        | refine post0 ?_
      exact ⟨hlt, (td, tj, d2, t + 1, c.im), (by simp only [Am.keep, List.map_cons, List.map_nil, GA, Nat.reduceEqDiff, ↓reduceIte]; try rfl), by simp (disch := omega) only [m2, c5r0, c5r1, c5r2, c5r3, c5r4, c5r5, c5r6, c5r7, c5r8, c5r9, c5r10, c5r11, c5r12, c5r13, c5r14, c5r15, c5r16, c5r17, c5r18, c5r19, c5r20, c5r21, c5r22, c5r23, c5r24, c5r26, EV0, EV1, EV2, EV3, EV4, EV5, EV6, EV7, EV8, VALS, plug, ite_same, decide_true, decide_false, eq_self, ↓reduceIte, reduceCtorEq, Nat.reduceAdd, Nat.reduceEqDiff, Nat.reduceLT, Nat.reduceLeDiff, Nat.reduceMul, Nat.reduceSub, Nat.reduceDiv, Int.reduceToNat, Int.reduceAdd, Int.reduceSub, Int.reduceMul, Int.reduceNeg, Int.reduceEq, Int.reduceLT, Int.reduceLE], by rw [f2]; simp (disch := omega) only [m1, c5r0, c5r1, c5r2, c5r3, c5r4, c5r5, c5r6, c5r7, c5r8, c5r9, c5r10, c5r11, c5r12, c5r13, c5r14, c5r15, c5r16, c5r17, c5r18, c5r19, c5r20, c5r21, c5r22, c5r23, c5r24, c5r26, EV0, EV1, EV2, EV3, EV4, EV5, EV6, EV7, EV8, VALS, plug, ite_same, decide_true, decide_false, eq_self, ↓reduceIte, reduceCtorEq, Nat.reduceAdd, Nat.reduceEqDiff, Nat.reduceLT, Nat.reduceLeDiff, Nat.reduceMul, Nat.reduceSub, Nat.reduceDiv, Int.reduceToNat, Int.reduceAdd, Int.reduceSub, Int.reduceMul, Int.reduceNeg, Int.reduceEq, Int.reduceLT, Int.reduceLE], R.ne, svd, o2, I2, by simp only []; omega, cok.im, by simp only []; omega⟩
    · rw [e] at q11 svd
      repeat' first
        | with_reducible refine k_seq ?_
        | with_reducible refine k_skip ?_
        | with_reducible refine k_blkS ?_
        | with_reducible refine k_blkR ?_
        | with_reducible refine k_blkC ?_
        | with_reducible refine k_blkH ?_
        | with_reducible refine k_blkB ?_
        | with_reducible refine k_blkK ?_
        | with_reducible refine k_blkE ?_
        | with_reducible refine k_reg ?_
        | with_reducible refine r_done ?_
        | with_reducible refine s_go (by simp (disch := omega) only [hB3, row_m hB3, read_row (row_m hB3), c5r0, c5r1, c5r2, c5r3, c5r4, c5r5, c5r6, c5r7, c5r8, c5r9, c5r10, c5r11, c5r12, c5r13, c5r14, c5r15, c5r16, c5r17, c5r18, c5r19, c5r20, c5r21, c5r22, c5r23, c5r24, c5r26, EV0, EV1, EV2, EV3, EV4, EV5, EV6, EV7, EV8, VALS, plug, ite_same, decide_true, decide_false, eq_self, ↓reduceIte, reduceCtorEq, Nat.reduceAdd, Nat.reduceEqDiff, Nat.reduceLT, Nat.reduceLeDiff, Nat.reduceMul, Nat.reduceSub, Nat.reduceDiv, Int.reduceToNat, Int.reduceAdd, Int.reduceSub, Int.reduceMul, Int.reduceNeg, Int.reduceEq, Int.reduceLT, Int.reduceLE]; with_reducible rfl) ?_
        | ((with_reducible refine chk_r ?_); refine r_callF (by simp only [CA, Nat.reduceEqDiff, ↓reduceIte]; rfl) (by exact rfl) (by simp only [CA, Nat.reduceEqDiff, ↓reduceIte]; rfl) rfl ?_)
        | ((with_reducible refine chk_r ?_); refine r_callX (by simp only [CA, Nat.reduceEqDiff, ↓reduceIte]; rfl) (by simp only [CA, Nat.reduceEqDiff, ↓reduceIte]; rfl) (by first | ((refine q11 _ ?_ ?_ <;> simp (disch := omega) only [hj3, hd3, c5r0, c5r1, c5r2, c5r3, c5r4, c5r5, c5r6, c5r7, c5r8, c5r9, c5r10, c5r11, c5r12, c5r13, c5r14, c5r15, c5r16, c5r17, c5r18, c5r19, c5r20, c5r21, c5r22, c5r23, c5r24, c5r26, EV0, EV1, EV2, EV3, EV4, EV5, EV6, EV7, EV8, VALS, plug, ite_same, decide_true, decide_false, eq_self, ↓reduceIte, reduceCtorEq, Nat.reduceAdd, Nat.reduceEqDiff, Nat.reduceLT, Nat.reduceLeDiff, Nat.reduceMul, Nat.reduceSub, Nat.reduceDiv, Int.reduceToNat, Int.reduceAdd, Int.reduceSub, Int.reduceMul, Int.reduceNeg, Int.reduceEq, Int.reduceLT, Int.reduceLE]); all_goals fail)) rfl ?_)
        | ((with_reducible refine chk_r ?_); refine r_callTX (by first | (simp only [CA, Nat.reduceEqDiff, ↓reduceIte]; rfl) | simp only [CA, Nat.reduceEqDiff, ↓reduceIte]) (by simp only [CA, Nat.reduceEqDiff, ↓reduceIte]; rfl) (by simp only [CA, Nat.reduceEqDiff, ↓reduceIte]; rfl) (by first | ((refine q11 _ ?_ ?_ <;> simp (disch := omega) only [hj3, hd3, c5r0, c5r1, c5r2, c5r3, c5r4, c5r5, c5r6, c5r7, c5r8, c5r9, c5r10, c5r11, c5r12, c5r13, c5r14, c5r15, c5r16, c5r17, c5r18, c5r19, c5r20, c5r21, c5r22, c5r23, c5r24, c5r26, EV0, EV1, EV2, EV3, EV4, EV5, EV6, EV7, EV8, VALS, plug, ite_same, decide_true, decide_false, eq_self, ↓reduceIte, reduceCtorEq, Nat.reduceAdd, Nat.reduceEqDiff, Nat.reduceLT, Nat.reduceLeDiff, Nat.reduceMul, Nat.reduceSub, Nat.reduceDiv, Int.reduceToNat, Int.reduceAdd, Int.reduceSub, Int.reduceMul, Int.reduceNeg, Int.reduceEq, Int.reduceLT, Int.reduceLE]); all_goals fail)) rfl ?_)
        | (with_reducible refine k_condP (by simp only [GA, Nat.reduceEqDiff, ↓reduceIte]; rfl) (by first | (simp only [BO]; rfl) | rfl) (fun ht => ?_) (fun ht => ?_) <;> try (first | exact False.elim ht | exact absurd rfl ht | exact absurd trivial ht | exact Bool.noConfusion ht))
        | (with_reducible refine k_ret ?_; repeat with_reducible (first | refine ret_thru ?_ | refine ret_blk ?_ | refine fin ?_))
        | (with_reducible refine k_exit ?_; repeat with_reducible (first | refine thru ?_ | refine out_blk ?_ | refine pass (by decide) ?_))
        | (refine post1 ?_; simp only [GA, Nat.reduceEqDiff, ↓reduceIte])
        | (refine post2 ?_; simp only [GA, Nat.reduceEqDiff, ↓reduceIte])
        | (refine post3 ?_; simp only [GA, Nat.reduceEqDiff, ↓reduceIte])
        | (refine postc (by simp only [GA, Nat.reduceEqDiff, ↓reduceIte]; rfl) (by simp (disch := omega) only [hB3, row_m hB3, read_row (row_m hB3), c5r0, c5r1, c5r2, c5r3, c5r4, c5r5, c5r6, c5r7, c5r8, c5r9, c5r10, c5r11, c5r12, c5r13, c5r14, c5r15, c5r16, c5r17, c5r18, c5r19, c5r20, c5r21, c5r22, c5r23, c5r24, c5r26, EV0, EV1, EV2, EV3, EV4, EV5, EV6, EV7, EV8, VALS, plug, ite_same, decide_true, decide_false, eq_self, ↓reduceIte, reduceCtorEq, Nat.reduceAdd, Nat.reduceEqDiff, Nat.reduceLT, Nat.reduceLeDiff, Nat.reduceMul, Nat.reduceSub, Nat.reduceDiv, Int.reduceToNat, Int.reduceAdd, Int.reduceSub, Int.reduceMul, Int.reduceNeg, Int.reduceEq, Int.reduceLT, Int.reduceLE]; rfl) ?_)
        | refine post0 ?_
      rintro r h4 ⟨rfl, m1, m2, kp4, nx4⟩
      simp only [AH.bump_nx, AH.bump_m] at kp4 nx4
      have hB4 : h4.m B = some (.cells true [vu c.im, .i .u8 c.at_, .i .i64 c.keep]) := by rw [kp4 B (by omega) neB.symm ndB.symm]; exact hB3
      simp only at m1 m2 svd
      have q21 := fun h hm => f21 td d3 h hm
      repeat' first
        | with_reducible refine k_seq ?_
        | with_reducible refine k_skip ?_
        | with_reducible refine k_blkS ?_
        | with_reducible refine k_blkR ?_
        | with_reducible refine k_blkC ?_
        | with_reducible refine k_blkH ?_
        | with_reducible refine k_blkB ?_
        | with_reducible refine k_blkK ?_
        | with_reducible refine k_blkE ?_
        | with_reducible refine k_reg ?_
        | with_reducible refine r_done ?_
        | with_reducible refine s_go (by simp (disch := omega) only [c5r0, c5r1, c5r2, c5r3, c5r4, c5r5, c5r6, c5r7, c5r8, c5r9, c5r10, c5r11, c5r12, c5r13, c5r14, c5r15, c5r16, c5r17, c5r18, c5r19, c5r20, c5r21, c5r22, c5r23, c5r24, c5r26, EV0, EV1, EV2, EV3, EV4, EV5, EV6, EV7, EV8, VALS, plug, ite_same, decide_true, decide_false, eq_self, ↓reduceIte, reduceCtorEq, Nat.reduceAdd, Nat.reduceEqDiff, Nat.reduceLT, Nat.reduceLeDiff, Nat.reduceMul, Nat.reduceSub, Nat.reduceDiv, Int.reduceToNat, Int.reduceAdd, Int.reduceSub, Int.reduceMul, Int.reduceNeg, Int.reduceEq, Int.reduceLT, Int.reduceLE]; with_reducible rfl) ?_
        | ((with_reducible refine chk_r ?_); refine r_callF (by simp only [CA, Nat.reduceEqDiff, ↓reduceIte]; rfl) (by exact rfl) (by simp only [CA, Nat.reduceEqDiff, ↓reduceIte]; rfl) rfl ?_)
        | ((with_reducible refine chk_r ?_); refine r_callX (by simp only [CA, Nat.reduceEqDiff, ↓reduceIte]; rfl) (by simp only [CA, Nat.reduceEqDiff, ↓reduceIte]; rfl) (by first | ((refine q21 _ ?_; simp (disch := omega) only [m2, c5r0, c5r1, c5r2, c5r3, c5r4, c5r5, c5r6, c5r7, c5r8, c5r9, c5r10, c5r11, c5r12, c5r13, c5r14, c5r15, c5r16, c5r17, c5r18, c5r19, c5r20, c5r21, c5r22, c5r23, c5r24, c5r26, EV0, EV1, EV2, EV3, EV4, EV5, EV6, EV7, EV8, VALS, plug, ite_same, decide_true, decide_false, eq_self, ↓reduceIte, reduceCtorEq, Nat.reduceAdd, Nat.reduceEqDiff, Nat.reduceLT, Nat.reduceLeDiff, Nat.reduceMul, Nat.reduceSub, Nat.reduceDiv, Int.reduceToNat, Int.reduceAdd, Int.reduceSub, Int.reduceMul, Int.reduceNeg, Int.reduceEq, Int.reduceLT, Int.reduceLE]); all_goals fail)) rfl ?_)
        | ((with_reducible refine chk_r ?_); refine r_callTX (by first | (simp only [CA, Nat.reduceEqDiff, ↓reduceIte]; rfl) | simp only [CA, Nat.reduceEqDiff, ↓reduceIte]) (by simp only [CA, Nat.reduceEqDiff, ↓reduceIte]; rfl) (by simp only [CA, Nat.reduceEqDiff, ↓reduceIte]; rfl) (by first | ((refine q21 _ ?_; simp (disch := omega) only [m2, c5r0, c5r1, c5r2, c5r3, c5r4, c5r5, c5r6, c5r7, c5r8, c5r9, c5r10, c5r11, c5r12, c5r13, c5r14, c5r15, c5r16, c5r17, c5r18, c5r19, c5r20, c5r21, c5r22, c5r23, c5r24, c5r26, EV0, EV1, EV2, EV3, EV4, EV5, EV6, EV7, EV8, VALS, plug, ite_same, decide_true, decide_false, eq_self, ↓reduceIte, reduceCtorEq, Nat.reduceAdd, Nat.reduceEqDiff, Nat.reduceLT, Nat.reduceLeDiff, Nat.reduceMul, Nat.reduceSub, Nat.reduceDiv, Int.reduceToNat, Int.reduceAdd, Int.reduceSub, Int.reduceMul, Int.reduceNeg, Int.reduceEq, Int.reduceLT, Int.reduceLE]); all_goals fail)) rfl ?_)
        | (with_reducible refine k_condP (by simp only [GA, Nat.reduceEqDiff, ↓reduceIte]; rfl) (by first | (simp only [BO]; rfl) | rfl) (fun ht => ?_) (fun ht => ?_) <;> try (first | exact False.elim ht | exact absurd rfl ht | exact absurd trivial ht | exact Bool.noConfusion ht))
        | (with_reducible refine k_ret ?_; repeat with_reducible (first | refine ret_thru ?_ | refine ret_blk ?_ | refine fin ?_))
        | (with_reducible refine k_exit ?_; repeat with_reducible (first | refine thru ?_ | refine out_blk ?_ | refine pass (by decide) ?_))
        | (refine post1 ?_; simp only [GA, Nat.reduceEqDiff, ↓reduceIte])
        | (refine post2 ?_; simp only [GA, Nat.reduceEqDiff, ↓reduceIte])
        | (refine post3 ?_; simp only [GA, Nat.reduceEqDiff, ↓reduceIte])
        | (refine postc (by simp only [GA, Nat.reduceEqDiff, ↓reduceIte]; rfl) (by simp (disch := omega) only [c5r0, c5r1, c5r2, c5r3, c5r4, c5r5, c5r6, c5r7, c5r8, c5r9, c5r10, c5r11, c5r12, c5r13, c5r14, c5r15, c5r16, c5r17, c5r18, c5r19, c5r20, c5r21, c5r22, c5r23, c5r24, c5r26, EV0, EV1, EV2, EV3, EV4, EV5, EV6, EV7, EV8, VALS, plug, ite_same, decide_true, decide_false, eq_self, ↓reduceIte, reduceCtorEq, Nat.reduceAdd, Nat.reduceEqDiff, Nat.reduceLT, Nat.reduceLeDiff, Nat.reduceMul, Nat.reduceSub, Nat.reduceDiv, Int.reduceToNat, Int.reduceAdd, Int.reduceSub, Int.reduceMul, Int.reduceNeg, Int.reduceEq, Int.reduceLT, Int.reduceLE]; rfl) ?_)
        | refine post0 ?_
      rintro r h5 ⟨rfl, U5⟩
      have nx5 := U5.nx
      have kp5 := U5.keep
      have md5 := U5.m
      simp only [AH.bump_nx, AH.bump_m] at kp5 nx5
      have mj5 : h5.m tj = some (.cells true (eJ td ⟨t, d.life, true, im⟩)) := by rw [kp5 tj (by omega) (fun e => R.ne e.symm)]; exact m1
      have hB5 : h5.m B = some (.cells true [vu c.im, .i .u8 c.at_, .i .i64 c.keep]) := by rw [kp5 B (by omega) ndB.symm]; exact hB4
      have ok5 := rstD_ok svd
      have q10 := fun h hm => f10 td (rstD d3) ok5 rfl h hm
      have I5 : Iv (rstD d3) t im ∨ Iv (rstD d3) (t + 1) c.im := I3.imp (fun q => q.same rfl rfl) (fun q => q.same rfl rfl)
      repeat' first
        | with_reducible refine k_seq ?_
        | with_reducible refine k_skip ?_
        | with_reducible refine k_blkS ?_
        | with_reducible refine k_blkR ?_
        | with_reducible refine k_blkC ?_
        | with_reducible refine k_blkH ?_
        | with_reducible refine k_blkB ?_
        | with_reducible refine k_blkK ?_
        | with_reducible refine k_blkE ?_
        | with_reducible refine k_reg ?_
        | with_reducible refine r_done ?_
        | with_reducible refine s_go (by simp (disch := omega) only [c5r0, c5r1, c5r2, c5r3, c5r4, c5r5, c5r6, c5r7, c5r8, c5r9, c5r10, c5r11, c5r12, c5r13, c5r14, c5r15, c5r16, c5r17, c5r18, c5r19, c5r20, c5r21, c5r22, c5r23, c5r24, c5r26, EV0, EV1, EV2, EV3, EV4, EV5, EV6, EV7, EV8, VALS, plug, ite_same, decide_true, decide_false, eq_self, ↓reduceIte, reduceCtorEq, Nat.reduceAdd, Nat.reduceEqDiff, Nat.reduceLT, Nat.reduceLeDiff, Nat.reduceMul, Nat.reduceSub, Nat.reduceDiv, Int.reduceToNat, Int.reduceAdd, Int.reduceSub, Int.reduceMul, Int.reduceNeg, Int.reduceEq, Int.reduceLT, Int.reduceLE]; with_reducible rfl) ?_
        | ((with_reducible refine chk_r ?_); refine r_callF (by simp only [CA, Nat.reduceEqDiff, ↓reduceIte]; rfl) (by exact rfl) (by simp only [CA, Nat.reduceEqDiff, ↓reduceIte]; rfl) rfl ?_)
        | ((with_reducible refine chk_r ?_); refine r_callX (by simp only [CA, Nat.reduceEqDiff, ↓reduceIte]; rfl) (by simp only [CA, Nat.reduceEqDiff, ↓reduceIte]; rfl) (by first | ((refine q10 _ ?_; simp (disch := omega) only [row_m md5, c5r0, c5r1, c5r2, c5r3, c5r4, c5r5, c5r6, c5r7, c5r8, c5r9, c5r10, c5r11, c5r12, c5r13, c5r14, c5r15, c5r16, c5r17, c5r18, c5r19, c5r20, c5r21, c5r22, c5r23, c5r24, c5r26, EV0, EV1, EV2, EV3, EV4, EV5, EV6, EV7, EV8, VALS, plug, ite_same, decide_true, decide_false, eq_self, ↓reduceIte, reduceCtorEq, Nat.reduceAdd, Nat.reduceEqDiff, Nat.reduceLT, Nat.reduceLeDiff, Nat.reduceMul, Nat.reduceSub, Nat.reduceDiv, Int.reduceToNat, Int.reduceAdd, Int.reduceSub, Int.reduceMul, Int.reduceNeg, Int.reduceEq, Int.reduceLT, Int.reduceLE]); all_goals fail)) rfl ?_)
        | ((with_reducible refine chk_r ?_); refine r_callTX (by first | (simp only [CA, Nat.reduceEqDiff, ↓reduceIte]; rfl) | simp only [CA, Nat.reduceEqDiff, ↓reduceIte]) (by simp only [CA, Nat.reduceEqDiff, ↓reduceIte]; rfl) (by simp only [CA, Nat.reduceEqDiff, ↓reduceIte]; rfl) (by first | ((refine q10 _ ?_; simp (disch := omega) only [row_m md5, c5r0, c5r1, c5r2, c5r3, c5r4, c5r5, c5r6, c5r7, c5r8, c5r9, c5r10, c5r11, c5r12, c5r13, c5r14, c5r15, c5r16, c5r17, c5r18, c5r19, c5r20, c5r21, c5r22, c5r23, c5r24, c5r26, EV0, EV1, EV2, EV3, EV4, EV5, EV6, EV7, EV8, VALS, plug, ite_same, decide_true, decide_false, eq_self, ↓reduceIte, reduceCtorEq, Nat.reduceAdd, Nat.reduceEqDiff, Nat.reduceLT, Nat.reduceLeDiff, Nat.reduceMul, Nat.reduceSub, Nat.reduceDiv, Int.reduceToNat, Int.reduceAdd, Int.reduceSub, Int.reduceMul, Int.reduceNeg, Int.reduceEq, Int.reduceLT, Int.reduceLE]); all_goals fail)) rfl ?_)
        | (with_reducible refine k_condP (by simp only [GA, Nat.reduceEqDiff, ↓reduceIte]; rfl) (by first | (simp only [BO]; rfl) | rfl) (fun ht => ?_) (fun ht => ?_) <;> try (first | exact False.elim ht | exact absurd rfl ht | exact absurd trivial ht | exact Bool.noConfusion ht))
        | (with_reducible refine k_ret ?_; repeat with_reducible (first | refine ret_thru ?_ | refine ret_blk ?_ | refine fin ?_))
        | (with_reducible refine k_exit ?_; repeat with_reducible (first | refine thru ?_ | refine out_blk ?_ | refine pass (by decide) ?_))
        | (refine post1 ?_; simp only [GA, Nat.reduceEqDiff, ↓reduceIte])
        | (refine post2 ?_; simp only [GA, Nat.reduceEqDiff, ↓reduceIte])
        | (refine post3 ?_; simp only [GA, Nat.reduceEqDiff, ↓reduceIte])
        | (refine postc (by simp only [GA, Nat.reduceEqDiff, ↓reduceIte]; rfl) (by simp (disch := omega) only [c5r0, c5r1, c5r2, c5r3, c5r4, c5r5, c5r6, c5r7, c5r8, c5r9, c5r10, c5r11, c5r12, c5r13, c5r14, c5r15, c5r16, c5r17, c5r18, c5r19, c5r20, c5r21, c5r22, c5r23, c5r24, c5r26, EV0, EV1, EV2, EV3, EV4, EV5, EV6, EV7, EV8, VALS, plug, ite_same, decide_true, decide_false, eq_self, ↓reduceIte, reduceCtorEq, Nat.reduceAdd, Nat.reduceEqDiff, Nat.reduceLT, Nat.reduceLeDiff, Nat.reduceMul, Nat.reduceSub, Nat.reduceDiv, Int.reduceToNat, Int.reduceAdd, Int.reduceSub, Int.reduceMul, Int.reduceNeg, Int.reduceEq, Int.reduceLT, Int.reduceLE]; rfl) ?_)
        | refine post0 ?_
      rintro r h6 ⟨tk, rfl, N6⟩
      have nx6 := N6.nx
      have kp6 := N6.keep
      have tk6 := N6.lt
      have tk0 := N6.t0
      have mk6 := N6.m
      simp only [AH.bump_nx, AH.bump_m] at kp6 nx6 tk0
      have md6 : h6.m td = some (.cells true (eI (rstD d3))) := by rw [kp6 td (by omega)]; exact md5
      have mj6 : h6.m tj = some (.cells true (eJ td ⟨t, d.life, true, im⟩)) := by rw [kp6 tj (by omega)]; exact mj5
      have hB6 : h6.m B = some (.cells true [vu c.im, .i .u8 c.at_, .i .i64 c.keep]) := by rw [kp6 B (by omega)]; exact hB5
      clear hB5 mj5 md5 hB4 m1 m2 hB3 hd3 hj3 kp6 kp5 kp4
      have q22 := fun h hm hd => f22 tj td ⟨t, d.life, true, im⟩ (rstD d3) h hm hd
      have qd := fun x h hm hd => f11dead tj td ⟨t, d.life, true, im⟩ (rstD d3) x h hm hd rfl
      have q13 := fun h hm => f13 tj td ⟨t, d.life, true, im⟩ (by simp only []; omega) h hm
      have dx : dd ⟨t, d.life, true, im⟩ (rstD d3) = true := rfl
      rw [dx] at q22
      simp only at q13
      rcases I5 with I5 | I5
      · rw [opn_iv I5] at mk6
        have k23 := fun h hm => f23 tk td ⟨t, (rstD d3).life, false, im⟩ h hm
        have k13 := fun h hm => f13 tk td ⟨t, (rstD d3).life, false, im⟩ (by simp only []; omega) h hm
        simp only at k23 k13
        unfold sb
        repeat' first
          | with_reducible refine k_seq ?_
          | with_reducible refine k_skip ?_
          | with_reducible refine k_blkS ?_
          | with_reducible refine k_blkR ?_
          | with_reducible refine k_blkC ?_
          | with_reducible refine k_blkH ?_
          | with_reducible refine k_blkB ?_
          | with_reducible refine k_blkK ?_
          | with_reducible refine k_blkE ?_
          | with_reducible refine k_reg ?_
          | with_reducible refine r_done ?_
          | with_reducible refine s_go (by simp (disch := omega) only [hB6, row_m hB6, read_row (row_m hB6), c5r0, c5r1, c5r2, c5r3, c5r4, c5r5, c5r6, c5r7, c5r8, c5r9, c5r10, c5r11, c5r12, c5r13, c5r14, c5r15, c5r16, c5r17, c5r18, c5r19, c5r20, c5r21, c5r22, c5r23, c5r24, c5r26, EV0, EV1, EV2, EV3, EV4, EV5, EV6, EV7, EV8, VALS, plug, ite_same, decide_true, decide_false, eq_self, ↓reduceIte, reduceCtorEq, Nat.reduceAdd, Nat.reduceEqDiff, Nat.reduceLT, Nat.reduceLeDiff, Nat.reduceMul, Nat.reduceSub, Nat.reduceDiv, Int.reduceToNat, Int.reduceAdd, Int.reduceSub, Int.reduceMul, Int.reduceNeg, Int.reduceEq, Int.reduceLT, Int.reduceLE]; with_reducible rfl) ?_
          | ((with_reducible refine chk_r ?_); refine r_callF (by simp only [CA, Nat.reduceEqDiff, ↓reduceIte]; rfl) (by exact rfl) (by simp only [CA, Nat.reduceEqDiff, ↓reduceIte]; rfl) rfl ?_)
          | ((with_reducible refine chk_r ?_); refine r_callP (by simp only [CA, Nat.reduceEqDiff, ↓reduceIte]; rfl) (by simp only [CA, Nat.reduceEqDiff, ↓reduceIte]; rfl) (by first | ((refine q22 _ ?_ ?_ <;> simp (disch := omega) only [row_m mj6, row_m md6, c5r0, c5r1, c5r2, c5r3, c5r4, c5r5, c5r6, c5r7, c5r8, c5r9, c5r10, c5r11, c5r12, c5r13, c5r14, c5r15, c5r16, c5r17, c5r18, c5r19, c5r20, c5r21, c5r22, c5r23, c5r24, c5r26, EV0, EV1, EV2, EV3, EV4, EV5, EV6, EV7, EV8, VALS, plug, ite_same, decide_true, decide_false, eq_self, ↓reduceIte, reduceCtorEq, Nat.reduceAdd, Nat.reduceEqDiff, Nat.reduceLT, Nat.reduceLeDiff, Nat.reduceMul, Nat.reduceSub, Nat.reduceDiv, Int.reduceToNat, Int.reduceAdd, Int.reduceSub, Int.reduceMul, Int.reduceNeg, Int.reduceEq, Int.reduceLT, Int.reduceLE]); all_goals fail) | ((refine qd _ _ ?_ ?_ <;> simp (disch := omega) only [row_m mj6, row_m md6, c5r0, c5r1, c5r2, c5r3, c5r4, c5r5, c5r6, c5r7, c5r8, c5r9, c5r10, c5r11, c5r12, c5r13, c5r14, c5r15, c5r16, c5r17, c5r18, c5r19, c5r20, c5r21, c5r22, c5r23, c5r24, c5r26, EV0, EV1, EV2, EV3, EV4, EV5, EV6, EV7, EV8, VALS, plug, ite_same, decide_true, decide_false, eq_self, ↓reduceIte, reduceCtorEq, Nat.reduceAdd, Nat.reduceEqDiff, Nat.reduceLT, Nat.reduceLeDiff, Nat.reduceMul, Nat.reduceSub, Nat.reduceDiv, Int.reduceToNat, Int.reduceAdd, Int.reduceSub, Int.reduceMul, Int.reduceNeg, Int.reduceEq, Int.reduceLT, Int.reduceLE]); all_goals fail) | ((refine q13 _ ?_; simp (disch := omega) only [row_m mj6, c5r0, c5r1, c5r2, c5r3, c5r4, c5r5, c5r6, c5r7, c5r8, c5r9, c5r10, c5r11, c5r12, c5r13, c5r14, c5r15, c5r16, c5r17, c5r18, c5r19, c5r20, c5r21, c5r22, c5r23, c5r24, c5r26, EV0, EV1, EV2, EV3, EV4, EV5, EV6, EV7, EV8, VALS, plug, ite_same, decide_true, decide_false, eq_self, ↓reduceIte, reduceCtorEq, Nat.reduceAdd, Nat.reduceEqDiff, Nat.reduceLT, Nat.reduceLeDiff, Nat.reduceMul, Nat.reduceSub, Nat.reduceDiv, Int.reduceToNat, Int.reduceAdd, Int.reduceSub, Int.reduceMul, Int.reduceNeg, Int.reduceEq, Int.reduceLT, Int.reduceLE]); all_goals fail) | ((refine k23 _ ?_; simp (disch := omega) only [row_m mk6, c5r0, c5r1, c5r2, c5r3, c5r4, c5r5, c5r6, c5r7, c5r8, c5r9, c5r10, c5r11, c5r12, c5r13, c5r14, c5r15, c5r16, c5r17, c5r18, c5r19, c5r20, c5r21, c5r22, c5r23, c5r24, c5r26, EV0, EV1, EV2, EV3, EV4, EV5, EV6, EV7, EV8, VALS, plug, ite_same, decide_true, decide_false, eq_self, ↓reduceIte, reduceCtorEq, Nat.reduceAdd, Nat.reduceEqDiff, Nat.reduceLT, Nat.reduceLeDiff, Nat.reduceMul, Nat.reduceSub, Nat.reduceDiv, Int.reduceToNat, Int.reduceAdd, Int.reduceSub, Int.reduceMul, Int.reduceNeg, Int.reduceEq, Int.reduceLT, Int.reduceLE]); all_goals fail) | ((refine k13 _ ?_; simp (disch := omega) only [row_m mk6, c5r0, c5r1, c5r2, c5r3, c5r4, c5r5, c5r6, c5r7, c5r8, c5r9, c5r10, c5r11, c5r12, c5r13, c5r14, c5r15, c5r16, c5r17, c5r18, c5r19, c5r20, c5r21, c5r22, c5r23, c5r24, c5r26, EV0, EV1, EV2, EV3, EV4, EV5, EV6, EV7, EV8, VALS, plug, ite_same, decide_true, decide_false, eq_self, ↓reduceIte, reduceCtorEq, Nat.reduceAdd, Nat.reduceEqDiff, Nat.reduceLT, Nat.reduceLeDiff, Nat.reduceMul, Nat.reduceSub, Nat.reduceDiv, Int.reduceToNat, Int.reduceAdd, Int.reduceSub, Int.reduceMul, Int.reduceNeg, Int.reduceEq, Int.reduceLT, Int.reduceLE]); all_goals fail)) rfl ?_)
          | ((with_reducible refine chk_r ?_); refine r_callG (by simp only [CA, Nat.reduceEqDiff, ↓reduceIte]; rfl) (by simp only [CA, Nat.reduceEqDiff, ↓reduceIte]; rfl) (by simp only [CA, Nat.reduceEqDiff, ↓reduceIte]; rfl) (by intro hg; (try simp only [BO] at hg); first | ((refine q22 _ ?_ ?_ <;> simp (disch := omega) only [row_m mj6, row_m md6, c5r0, c5r1, c5r2, c5r3, c5r4, c5r5, c5r6, c5r7, c5r8, c5r9, c5r10, c5r11, c5r12, c5r13, c5r14, c5r15, c5r16, c5r17, c5r18, c5r19, c5r20, c5r21, c5r22, c5r23, c5r24, c5r26, EV0, EV1, EV2, EV3, EV4, EV5, EV6, EV7, EV8, VALS, plug, ite_same, decide_true, decide_false, eq_self, ↓reduceIte, reduceCtorEq, Nat.reduceAdd, Nat.reduceEqDiff, Nat.reduceLT, Nat.reduceLeDiff, Nat.reduceMul, Nat.reduceSub, Nat.reduceDiv, Int.reduceToNat, Int.reduceAdd, Int.reduceSub, Int.reduceMul, Int.reduceNeg, Int.reduceEq, Int.reduceLT, Int.reduceLE]); all_goals fail) | ((refine qd _ _ ?_ ?_ <;> simp (disch := omega) only [row_m mj6, row_m md6, c5r0, c5r1, c5r2, c5r3, c5r4, c5r5, c5r6, c5r7, c5r8, c5r9, c5r10, c5r11, c5r12, c5r13, c5r14, c5r15, c5r16, c5r17, c5r18, c5r19, c5r20, c5r21, c5r22, c5r23, c5r24, c5r26, EV0, EV1, EV2, EV3, EV4, EV5, EV6, EV7, EV8, VALS, plug, ite_same, decide_true, decide_false, eq_self, ↓reduceIte, reduceCtorEq, Nat.reduceAdd, Nat.reduceEqDiff, Nat.reduceLT, Nat.reduceLeDiff, Nat.reduceMul, Nat.reduceSub, Nat.reduceDiv, Int.reduceToNat, Int.reduceAdd, Int.reduceSub, Int.reduceMul, Int.reduceNeg, Int.reduceEq, Int.reduceLT, Int.reduceLE]); all_goals fail) | ((refine q13 _ ?_; simp (disch := omega) only [row_m mj6, c5r0, c5r1, c5r2, c5r3, c5r4, c5r5, c5r6, c5r7, c5r8, c5r9, c5r10, c5r11, c5r12, c5r13, c5r14, c5r15, c5r16, c5r17, c5r18, c5r19, c5r20, c5r21, c5r22, c5r23, c5r24, c5r26, EV0, EV1, EV2, EV3, EV4, EV5, EV6, EV7, EV8, VALS, plug, ite_same, decide_true, decide_false, eq_self, ↓reduceIte, reduceCtorEq, Nat.reduceAdd, Nat.reduceEqDiff, Nat.reduceLT, Nat.reduceLeDiff, Nat.reduceMul, Nat.reduceSub, Nat.reduceDiv, Int.reduceToNat, Int.reduceAdd, Int.reduceSub, Int.reduceMul, Int.reduceNeg, Int.reduceEq, Int.reduceLT, Int.reduceLE]); all_goals fail) | ((refine k23 _ ?_; simp (disch := omega) only [row_m mk6, c5r0, c5r1, c5r2, c5r3, c5r4, c5r5, c5r6, c5r7, c5r8, c5r9, c5r10, c5r11, c5r12, c5r13, c5r14, c5r15, c5r16, c5r17, c5r18, c5r19, c5r20, c5r21, c5r22, c5r23, c5r24, c5r26, EV0, EV1, EV2, EV3, EV4, EV5, EV6, EV7, EV8, VALS, plug, ite_same, decide_true, decide_false, eq_self, ↓reduceIte, reduceCtorEq, Nat.reduceAdd, Nat.reduceEqDiff, Nat.reduceLT, Nat.reduceLeDiff, Nat.reduceMul, Nat.reduceSub, Nat.reduceDiv, Int.reduceToNat, Int.reduceAdd, Int.reduceSub, Int.reduceMul, Int.reduceNeg, Int.reduceEq, Int.reduceLT, Int.reduceLE]); all_goals fail) | ((refine k13 _ ?_; simp (disch := omega) only [row_m mk6, c5r0, c5r1, c5r2, c5r3, c5r4, c5r5, c5r6, c5r7, c5r8, c5r9, c5r10, c5r11, c5r12, c5r13, c5r14, c5r15, c5r16, c5r17, c5r18, c5r19, c5r20, c5r21, c5r22, c5r23, c5r24, c5r26, EV0, EV1, EV2, EV3, EV4, EV5, EV6, EV7, EV8, VALS, plug, ite_same, decide_true, decide_false, eq_self, ↓reduceIte, reduceCtorEq, Nat.reduceAdd, Nat.reduceEqDiff, Nat.reduceLT, Nat.reduceLeDiff, Nat.reduceMul, Nat.reduceSub, Nat.reduceDiv, Int.reduceToNat, Int.reduceAdd, Int.reduceSub, Int.reduceMul, Int.reduceNeg, Int.reduceEq, Int.reduceLT, Int.reduceLE]); all_goals fail)) rfl ?_)
          | (with_reducible refine k_condP (by simp only [GA, Nat.reduceEqDiff, ↓reduceIte]; rfl) (by first | (simp only [BO]; rfl) | rfl) (fun ht => ?_) (fun ht => ?_) <;> try (first | exact False.elim ht | exact absurd rfl ht | exact absurd trivial ht | exact Bool.noConfusion ht))
          | (with_reducible refine k_ret ?_; repeat with_reducible (first | refine ret_thru ?_ | refine ret_blk ?_ | refine fin ?_))
          | (with_reducible refine k_exit ?_; repeat with_reducible (first | refine thru ?_ | refine out_blk ?_ | refine pass (by decide) ?_))
          | (refine post1 ?_; simp only [GA, Nat.reduceEqDiff, ↓reduceIte])
          | (refine post2 ?_; simp only [GA, Nat.reduceEqDiff, ↓reduceIte])
          | (refine post3 ?_; simp only [GA, Nat.reduceEqDiff, ↓reduceIte])
          | (refine postc (by simp only [GA, Nat.reduceEqDiff, ↓reduceIte]; rfl) (by simp (disch := omega) only [hB6, row_m hB6, read_row (row_m hB6), c5r0, c5r1, c5r2, c5r3, c5r4, c5r5, c5r6, c5r7, c5r8, c5r9, c5r10, c5r11, c5r12, c5r13, c5r14, c5r15, c5r16, c5r17, c5r18, c5r19, c5r20, c5r21, c5r22, c5r23, c5r24, c5r26, EV0, EV1, EV2, EV3, EV4, EV5, EV6, EV7, EV8, VALS, plug, ite_same, decide_true, decide_false, eq_self, ↓reduceIte, reduceCtorEq, Nat.reduceAdd, Nat.reduceEqDiff, Nat.reduceLT, Nat.reduceLeDiff, Nat.reduceMul, Nat.reduceSub, Nat.reduceDiv, Int.reduceToNat, Int.reduceAdd, Int.reduceSub, Int.reduceMul, Int.reduceNeg, Int.reduceEq, Int.reduceLT, Int.reduceLE]; rfl) ?_)
          | refine post0 ?_
        exact ⟨hlt, (td, tk, rstD d3, t, im), (by simp only [Am.keep, List.map_cons, List.map_nil, GA, Nat.reduceEqDiff, ↓reduceIte]; try rfl), by simp (disch := omega) only [md6, c5r0, c5r1, c5r2, c5r3, c5r4, c5r5, c5r6, c5r7, c5r8, c5r9, c5r10, c5r11, c5r12, c5r13, c5r14, c5r15, c5r16, c5r17, c5r18, c5r19, c5r20, c5r21, c5r22, c5r23, c5r24, c5r26, EV0, EV1, EV2, EV3, EV4, EV5, EV6, EV7, EV8, VALS, plug, ite_same, decide_true, decide_false, eq_self, ↓reduceIte, reduceCtorEq, Nat.reduceAdd, Nat.reduceEqDiff, Nat.reduceLT, Nat.reduceLeDiff, Nat.reduceMul, Nat.reduceSub, Nat.reduceDiv, Int.reduceToNat, Int.reduceAdd, Int.reduceSub, Int.reduceMul, Int.reduceNeg, Int.reduceEq, Int.reduceLT, Int.reduceLE], by simp (disch := omega) only [mk6, c5r0, c5r1, c5r2, c5r3, c5r4, c5r5, c5r6, c5r7, c5r8, c5r9, c5r10, c5r11, c5r12, c5r13, c5r14, c5r15, c5r16, c5r17, c5r18, c5r19, c5r20, c5r21, c5r22, c5r23, c5r24, c5r26, EV0, EV1, EV2, EV3, EV4, EV5, EV6, EV7, EV8, VALS, plug, ite_same, decide_true, decide_false, eq_self, ↓reduceIte, reduceCtorEq, Nat.reduceAdd, Nat.reduceEqDiff, Nat.reduceLT, Nat.reduceLeDiff, Nat.reduceMul, Nat.reduceSub, Nat.reduceDiv, Int.reduceToNat, Int.reduceAdd, Int.reduceSub, Int.reduceMul, Int.reduceNeg, Int.reduceEq, Int.reduceLT, Int.reduceLE], by simp only []; omega, ok5, rfl, I5, ⟨t0, by simp only []; omega⟩, R.bim, lc⟩
      · rw [opn_iv I5] at mk6
        have k23 := fun h hm => f23 tk td ⟨t + 1, (rstD d3).life, false, c.im⟩ h hm
        have k13 := fun h hm => f13 tk td ⟨t + 1, (rstD d3).life, false, c.im⟩ (by simp only []; omega) h hm
        simp only at k23 k13
        unfold sb
        have ne1 := eq_false (show ¬ t + 1 = t by omega)
        repeat' first
          | with_reducible refine k_seq ?_
          | with_reducible refine k_skip ?_
          | with_reducible refine k_blkS ?_
          | with_reducible refine k_blkR ?_
          | with_reducible refine k_blkC ?_
          | with_reducible refine k_blkH ?_
          | with_reducible refine k_blkB ?_
          | with_reducible refine k_blkK ?_
          | with_reducible refine k_blkE ?_
          | with_reducible refine k_reg ?_
          | with_reducible refine r_done ?_
          | with_reducible refine s_go (by simp (disch := omega) only [ne1, hB6, row_m hB6, read_row (row_m hB6), c5r0, c5r1, c5r2, c5r3, c5r4, c5r5, c5r6, c5r7, c5r8, c5r9, c5r10, c5r11, c5r12, c5r13, c5r14, c5r15, c5r16, c5r17, c5r18, c5r19, c5r20, c5r21, c5r22, c5r23, c5r24, c5r26, EV0, EV1, EV2, EV3, EV4, EV5, EV6, EV7, EV8, VALS, plug, ite_same, decide_true, decide_false, eq_self, ↓reduceIte, reduceCtorEq, Nat.reduceAdd, Nat.reduceEqDiff, Nat.reduceLT, Nat.reduceLeDiff, Nat.reduceMul, Nat.reduceSub, Nat.reduceDiv, Int.reduceToNat, Int.reduceAdd, Int.reduceSub, Int.reduceMul, Int.reduceNeg, Int.reduceEq, Int.reduceLT, Int.reduceLE]; with_reducible rfl) ?_
          | ((with_reducible refine chk_r ?_); refine r_callF (by simp only [CA, Nat.reduceEqDiff, ↓reduceIte]; rfl) (by exact rfl) (by simp only [CA, Nat.reduceEqDiff, ↓reduceIte]; rfl) rfl ?_)
          | ((with_reducible refine chk_r ?_); refine r_callP (by simp only [CA, Nat.reduceEqDiff, ↓reduceIte]; rfl) (by simp only [CA, Nat.reduceEqDiff, ↓reduceIte]; rfl) (by first | ((refine q22 _ ?_ ?_ <;> simp (disch := omega) only [row_m mj6, row_m md6, c5r0, c5r1, c5r2, c5r3, c5r4, c5r5, c5r6, c5r7, c5r8, c5r9, c5r10, c5r11, c5r12, c5r13, c5r14, c5r15, c5r16, c5r17, c5r18, c5r19, c5r20, c5r21, c5r22, c5r23, c5r24, c5r26, EV0, EV1, EV2, EV3, EV4, EV5, EV6, EV7, EV8, VALS, plug, ite_same, decide_true, decide_false, eq_self, ↓reduceIte, reduceCtorEq, Nat.reduceAdd, Nat.reduceEqDiff, Nat.reduceLT, Nat.reduceLeDiff, Nat.reduceMul, Nat.reduceSub, Nat.reduceDiv, Int.reduceToNat, Int.reduceAdd, Int.reduceSub, Int.reduceMul, Int.reduceNeg, Int.reduceEq, Int.reduceLT, Int.reduceLE]); all_goals fail) | ((refine qd _ _ ?_ ?_ <;> simp (disch := omega) only [row_m mj6, row_m md6, c5r0, c5r1, c5r2, c5r3, c5r4, c5r5, c5r6, c5r7, c5r8, c5r9, c5r10, c5r11, c5r12, c5r13, c5r14, c5r15, c5r16, c5r17, c5r18, c5r19, c5r20, c5r21, c5r22, c5r23, c5r24, c5r26, EV0, EV1, EV2, EV3, EV4, EV5, EV6, EV7, EV8, VALS, plug, ite_same, decide_true, decide_false, eq_self, ↓reduceIte, reduceCtorEq, Nat.reduceAdd, Nat.reduceEqDiff, Nat.reduceLT, Nat.reduceLeDiff, Nat.reduceMul, Nat.reduceSub, Nat.reduceDiv, Int.reduceToNat, Int.reduceAdd, Int.reduceSub, Int.reduceMul, Int.reduceNeg, Int.reduceEq, Int.reduceLT, Int.reduceLE]); all_goals fail) | ((refine q13 _ ?_; simp (disch := omega) only [row_m mj6, c5r0, c5r1, c5r2, c5r3, c5r4, c5r5, c5r6, c5r7, c5r8, c5r9, c5r10, c5r11, c5r12, c5r13, c5r14, c5r15, c5r16, c5r17, c5r18, c5r19, c5r20, c5r21, c5r22, c5r23, c5r24, c5r26, EV0, EV1, EV2, EV3, EV4, EV5, EV6, EV7, EV8, VALS, plug, ite_same, decide_true, decide_false, eq_self, ↓reduceIte, reduceCtorEq, Nat.reduceAdd, Nat.reduceEqDiff, Nat.reduceLT, Nat.reduceLeDiff, Nat.reduceMul, Nat.reduceSub, Nat.reduceDiv, Int.reduceToNat, Int.reduceAdd, Int.reduceSub, Int.reduceMul, Int.reduceNeg, Int.reduceEq, Int.reduceLT, Int.reduceLE]); all_goals fail) | ((refine k23 _ ?_; simp (disch := omega) only [row_m mk6, c5r0, c5r1, c5r2, c5r3, c5r4, c5r5, c5r6, c5r7, c5r8, c5r9, c5r10, c5r11, c5r12, c5r13, c5r14, c5r15, c5r16, c5r17, c5r18, c5r19, c5r20, c5r21, c5r22, c5r23, c5r24, c5r26, EV0, EV1, EV2, EV3, EV4, EV5, EV6, EV7, EV8, VALS, plug, ite_same, decide_true, decide_false, eq_self, ↓reduceIte, reduceCtorEq, Nat.reduceAdd, Nat.reduceEqDiff, Nat.reduceLT, Nat.reduceLeDiff, Nat.reduceMul, Nat.reduceSub, Nat.reduceDiv, Int.reduceToNat, Int.reduceAdd, Int.reduceSub, Int.reduceMul, Int.reduceNeg, Int.reduceEq, Int.reduceLT, Int.reduceLE]); all_goals fail) | ((refine k13 _ ?_; simp (disch := omega) only [row_m mk6, c5r0, c5r1, c5r2, c5r3, c5r4, c5r5, c5r6, c5r7, c5r8, c5r9, c5r10, c5r11, c5r12, c5r13, c5r14, c5r15, c5r16, c5r17, c5r18, c5r19, c5r20, c5r21, c5r22, c5r23, c5r24, c5r26, EV0, EV1, EV2, EV3, EV4, EV5, EV6, EV7, EV8, VALS, plug, ite_same, decide_true, decide_false, eq_self, ↓reduceIte, reduceCtorEq, Nat.reduceAdd, Nat.reduceEqDiff, Nat.reduceLT, Nat.reduceLeDiff, Nat.reduceMul, Nat.reduceSub, Nat.reduceDiv, Int.reduceToNat, Int.reduceAdd, Int.reduceSub, Int.reduceMul, Int.reduceNeg, Int.reduceEq, Int.reduceLT, Int.reduceLE]); all_goals fail)) rfl ?_)
          | ((with_reducible refine chk_r ?_); refine r_callG (by simp only [CA, Nat.reduceEqDiff, ↓reduceIte]; rfl) (by simp only [CA, Nat.reduceEqDiff, ↓reduceIte]; rfl) (by simp only [CA, Nat.reduceEqDiff, ↓reduceIte]; rfl) (by intro hg; (try simp only [BO] at hg); first | ((refine q22 _ ?_ ?_ <;> simp (disch := omega) only [row_m mj6, row_m md6, c5r0, c5r1, c5r2, c5r3, c5r4, c5r5, c5r6, c5r7, c5r8, c5r9, c5r10, c5r11, c5r12, c5r13, c5r14, c5r15, c5r16, c5r17, c5r18, c5r19, c5r20, c5r21, c5r22, c5r23, c5r24, c5r26, EV0, EV1, EV2, EV3, EV4, EV5, EV6, EV7, EV8, VALS, plug, ite_same, decide_true, decide_false, eq_self, ↓reduceIte, reduceCtorEq, Nat.reduceAdd, Nat.reduceEqDiff, Nat.reduceLT, Nat.reduceLeDiff, Nat.reduceMul, Nat.reduceSub, Nat.reduceDiv, Int.reduceToNat, Int.reduceAdd, Int.reduceSub, Int.reduceMul, Int.reduceNeg, Int.reduceEq, Int.reduceLT, Int.reduceLE]); all_goals fail) | ((refine qd _ _ ?_ ?_ <;> simp (disch := omega) only [row_m mj6, row_m md6, c5r0, c5r1, c5r2, c5r3, c5r4, c5r5, c5r6, c5r7, c5r8, c5r9, c5r10, c5r11, c5r12, c5r13, c5r14, c5r15, c5r16, c5r17, c5r18, c5r19, c5r20, c5r21, c5r22, c5r23, c5r24, c5r26, EV0, EV1, EV2, EV3, EV4, EV5, EV6, EV7, EV8, VALS, plug, ite_same, decide_true, decide_false, eq_self, ↓reduceIte, reduceCtorEq, Nat.reduceAdd, Nat.reduceEqDiff, Nat.reduceLT, Nat.reduceLeDiff, Nat.reduceMul, Nat.reduceSub, Nat.reduceDiv, Int.reduceToNat, Int.reduceAdd, Int.reduceSub, Int.reduceMul, Int.reduceNeg, Int.reduceEq, Int.reduceLT, Int.reduceLE]); all_goals fail) | ((refine q13 _ ?_; simp (disch := omega) only [row_m mj6, c5r0, c5r1, c5r2, c5r3, c5r4, c5r5, c5r6, c5r7, c5r8, c5r9, c5r10, c5r11, c5r12, c5r13, c5r14, c5r15, c5r16, c5r17, c5r18, c5r19, c5r20, c5r21, c5r22, c5r23, c5r24, c5r26, EV0, EV1, EV2, EV3, EV4, EV5, EV6, EV7, EV8, VALS, plug, ite_same, decide_true, decide_false, eq_self, ↓reduceIte, reduceCtorEq, Nat.reduceAdd, Nat.reduceEqDiff, Nat.reduceLT, Nat.reduceLeDiff, Nat.reduceMul, Nat.reduceSub, Nat.reduceDiv, Int.reduceToNat, Int.reduceAdd, Int.reduceSub, Int.reduceMul, Int.reduceNeg, Int.reduceEq, Int.reduceLT, Int.reduceLE]); all_goals fail) | ((refine k23 _ ?_; simp (disch := omega) only [row_m mk6, c5r0, c5r1, c5r2, c5r3, c5r4, c5r5, c5r6, c5r7, c5r8, c5r9, c5r10, c5r11, c5r12, c5r13, c5r14, c5r15, c5r16, c5r17, c5r18, c5r19, c5r20, c5r21, c5r22, c5r23, c5r24, c5r26, EV0, EV1, EV2, EV3, EV4, EV5, EV6, EV7, EV8, VALS, plug, ite_same, decide_true, decide_false, eq_self, ↓reduceIte, reduceCtorEq, Nat.reduceAdd, Nat.reduceEqDiff, Nat.reduceLT, Nat.reduceLeDiff, Nat.reduceMul, Nat.reduceSub, Nat.reduceDiv, Int.reduceToNat, Int.reduceAdd, Int.reduceSub, Int.reduceMul, Int.reduceNeg, Int.reduceEq, Int.reduceLT, Int.reduceLE]); all_goals fail) | ((refine k13 _ ?_; simp (disch := omega) only [row_m mk6, c5r0, c5r1, c5r2, c5r3, c5r4, c5r5, c5r6, c5r7, c5r8, c5r9, c5r10, c5r11, c5r12, c5r13, c5r14, c5r15, c5r16, c5r17, c5r18, c5r19, c5r20, c5r21, c5r22, c5r23, c5r24, c5r26, EV0, EV1, EV2, EV3, EV4, EV5, EV6, EV7, EV8, VALS, plug, ite_same, decide_true, decide_false, eq_self, ↓reduceIte, reduceCtorEq, Nat.reduceAdd, Nat.reduceEqDiff, Nat.reduceLT, Nat.reduceLeDiff, Nat.reduceMul, Nat.reduceSub, Nat.reduceDiv, Int.reduceToNat, Int.reduceAdd, Int.reduceSub, Int.reduceMul, Int.reduceNeg, Int.reduceEq, Int.reduceLT, Int.reduceLE]); all_goals fail)) rfl ?_)
          | (with_reducible refine k_condP (by simp only [GA, Nat.reduceEqDiff, ↓reduceIte]; rfl) (by first | (simp only [BO]; rfl) | rfl) (fun ht => ?_) (fun ht => ?_) <;> try (first | exact False.elim ht | exact absurd rfl ht | exact absurd trivial ht | exact Bool.noConfusion ht))
          | (with_reducible refine k_ret ?_; repeat with_reducible (first | refine ret_thru ?_ | refine ret_blk ?_ | refine fin ?_))
          | (with_reducible refine k_exit ?_; repeat with_reducible (first | refine thru ?_ | refine out_blk ?_ | refine pass (by decide) ?_))
          | (refine post1 ?_; simp only [GA, Nat.reduceEqDiff, ↓reduceIte])
          | (refine post2 ?_; simp only [GA, Nat.reduceEqDiff, ↓reduceIte])
          | (refine post3 ?_; simp only [GA, Nat.reduceEqDiff, ↓reduceIte])
          | (refine postc (by simp only [GA, Nat.reduceEqDiff, ↓reduceIte]; rfl) (by simp (disch := omega) only [ne1, hB6, row_m hB6, read_row (row_m hB6), c5r0, c5r1, c5r2, c5r3, c5r4, c5r5, c5r6, c5r7, c5r8, c5r9, c5r10, c5r11, c5r12, c5r13, c5r14, c5r15, c5r16, c5r17, c5r18, c5r19, c5r20, c5r21, c5r22, c5r23, c5r24, c5r26, EV0, EV1, EV2, EV3, EV4, EV5, EV6, EV7, EV8, VALS, plug, ite_same, decide_true, decide_false, eq_self, ↓reduceIte, reduceCtorEq, Nat.reduceAdd, Nat.reduceEqDiff, Nat.reduceLT, Nat.reduceLeDiff, Nat.reduceMul, Nat.reduceSub, Nat.reduceDiv, Int.reduceToNat, Int.reduceAdd, Int.reduceSub, Int.reduceMul, Int.reduceNeg, Int.reduceEq, Int.reduceLT, Int.reduceLE]; rfl) ?_)
          | refine post0 ?_
        exact ⟨hlt, (td, tk, rstD d3, t + 1, c.im), (by simp only [Am.keep, List.map_cons, List.map_nil, GA, Nat.reduceEqDiff, ↓reduceIte]; try rfl), by simp (disch := omega) only [md6, c5r0, c5r1, c5r2, c5r3, c5r4, c5r5, c5r6, c5r7, c5r8, c5r9, c5r10, c5r11, c5r12, c5r13, c5r14, c5r15, c5r16, c5r17, c5r18, c5r19, c5r20, c5r21, c5r22, c5r23, c5r24, c5r26, EV0, EV1, EV2, EV3, EV4, EV5, EV6, EV7, EV8, VALS, plug, ite_same, decide_true, decide_false, eq_self, ↓reduceIte, reduceCtorEq, Nat.reduceAdd, Nat.reduceEqDiff, Nat.reduceLT, Nat.reduceLeDiff, Nat.reduceMul, Nat.reduceSub, Nat.reduceDiv, Int.reduceToNat, Int.reduceAdd, Int.reduceSub, Int.reduceMul, Int.reduceNeg, Int.reduceEq, Int.reduceLT, Int.reduceLE], by simp (disch := omega) only [mk6, c5r0, c5r1, c5r2, c5r3, c5r4, c5r5, c5r6, c5r7, c5r8, c5r9, c5r10, c5r11, c5r12, c5r13, c5r14, c5r15, c5r16, c5r17, c5r18, c5r19, c5r20, c5r21, c5r22, c5r23, c5r24, c5r26, EV0, EV1, EV2, EV3, EV4, EV5, EV6, EV7, EV8, VALS, plug, ite_same, decide_true, decide_false, eq_self, ↓reduceIte, reduceCtorEq, Nat.reduceAdd, Nat.reduceEqDiff, Nat.reduceLT, Nat.reduceLeDiff, Nat.reduceMul, Nat.reduceSub, Nat.reduceDiv, Int.reduceToNat, Int.reduceAdd, Int.reduceSub, Int.reduceMul, Int.reduceNeg, Int.reduceEq, Int.reduceLT, Int.reduceLE], by simp only []; omega, ok5, rfl, I5, ⟨by simp only []; omega, by simp only []; omega⟩, cok.im, by simp only []; omega⟩
  · obtain rfl : k = l.length := by omega
    have hlt' : ¬ (l.length : Int) < l.length := by omega
    repeat' first
      | with_reducible refine k_seq ?_
      | with_reducible refine k_skip ?_
      | with_reducible refine k_blkS ?_
      | with_reducible refine k_blkR ?_
      | with_reducible refine k_blkC ?_
      | with_reducible refine k_blkH ?_
      | with_reducible refine k_blkB ?_
      | with_reducible refine k_blkK ?_
      | with_reducible refine k_blkE ?_
      | with_reducible refine k_reg ?_
      | with_reducible refine r_done ?_
      | with_reducible refine s_go (by simp (disch := omega) only [hlt', c5r0, c5r1, c5r2, c5r3, c5r4, c5r5, c5r6, c5r7, c5r8, c5r9, c5r10, c5r11, c5r12, c5r13, c5r14, c5r15, c5r16, c5r17, c5r18, c5r19, c5r20, c5r21, c5r22, c5r23, c5r24, c5r26, EV0, EV1, EV2, EV3, EV4, EV5, EV6, EV7, EV8, VALS, plug, ite_same, decide_true, decide_false, eq_self, ↓reduceIte, reduceCtorEq, Nat.reduceAdd, Nat.reduceEqDiff, Nat.reduceLT, Nat.reduceLeDiff, Nat.reduceMul, Nat.reduceSub, Nat.reduceDiv, Int.reduceToNat, Int.reduceAdd, Int.reduceSub, Int.reduceMul, Int.reduceNeg, Int.reduceEq, Int.reduceLT, Int.reduceLE]; with_reducible rfl) ?_
      | ((with_reducible refine chk_r ?_); refine r_callF (by simp only [CA, Nat.reduceEqDiff, ↓reduceIte]; rfl) (by exact rfl) (by simp only [CA, Nat.reduceEqDiff, ↓reduceIte]; rfl) rfl ?_)
      | ((with_reducible refine chk_r ?_); refine r_callP (by simp only [CA, Nat.reduceEqDiff, ↓reduceIte]; rfl) (by simp only [CA, Nat.reduceEqDiff, ↓reduceIte]; rfl) (by first | exact f8 _) rfl ?_)
      | ((with_reducible refine chk_r ?_); refine r_callG (by simp only [CA, Nat.reduceEqDiff, ↓reduceIte]; rfl) (by simp only [CA, Nat.reduceEqDiff, ↓reduceIte]; rfl) (by simp only [CA, Nat.reduceEqDiff, ↓reduceIte]; rfl) (by intro hg; (try simp only [BO] at hg); first | exact f8 _) rfl ?_)
      | (with_reducible refine k_condP (by simp only [GA, Nat.reduceEqDiff, ↓reduceIte]; rfl) (by first | (simp only [BO]; rfl) | rfl) (fun ht => ?_) (fun ht => ?_) <;> try (first | exact False.elim ht | exact absurd rfl ht | exact absurd trivial ht | exact Bool.noConfusion ht))
      | (with_reducible refine k_ret ?_; repeat with_reducible (first | refine ret_thru ?_ | refine ret_blk ?_ | refine fin ?_))
      | (with_reducible refine k_exit ?_; repeat with_reducible (first | refine thru ?_ | refine out_blk ?_ | refine pass (by decide) ?_))
      | (refine post1 ?_; simp only [GA, Nat.reduceEqDiff, ↓reduceIte])
      | (refine post2 ?_; simp only [GA, Nat.reduceEqDiff, ↓reduceIte])
      | (refine post3 ?_; simp only [GA, Nat.reduceEqDiff, ↓reduceIte])
      | (refine postc (by simp only [GA, Nat.reduceEqDiff, ↓reduceIte]; rfl) (by simp (disch := omega) only [hlt', c5r0, c5r1, c5r2, c5r3, c5r4, c5r5, c5r6, c5r7, c5r8, c5r9, c5r10, c5r11, c5r12, c5r13, c5r14, c5r15, c5r16, c5r17, c5r18, c5r19, c5r20, c5r21, c5r22, c5r23, c5r24, c5r26, EV0, EV1, EV2, EV3, EV4, EV5, EV6, EV7, EV8, VALS, plug, ite_same, decide_true, decide_false, eq_self, ↓reduceIte, reduceCtorEq, Nat.reduceAdd, Nat.reduceEqDiff, Nat.reduceLT, Nat.reduceLeDiff, Nat.reduceMul, Nat.reduceSub, Nat.reduceDiv, Int.reduceToNat, Int.reduceAdd, Int.reduceSub, Int.reduceMul, Int.reduceNeg, Int.reduceEq, Int.reduceLT, Int.reduceLE]; rfl) ?_)
      | refine post0 ?_
    all_goals first | exact ends_of | exact ends_eq rfl
theorem decC (r : List AV) (h : Shps [.sl [.i .u8], .i .u8, .i .i64] r) : ∃ x : C, r = eC x ∧ C.ok x := by
  obtain ⟨a1, r1, rfl, t1, s1⟩ := shps_cons h
  obtain ⟨a2, r2, rfl, t2, s2⟩ := shps_cons s1
  obtain ⟨a3, r3, rfl, t3, s3⟩ := shps_cons s2
  obtain rfl := shps_nil s3
  obtain ⟨b, rfl, hb, by_⟩ := decB t1
  obtain ⟨k, rfl, hk⟩ := shp_u8 t2
  obtain ⟨n, rfl, hn⟩ := shp_i64 t3
  exact ⟨⟨b, k, n⟩, rfl, by_, hb, hk⟩
end Go.Proofs.Ytpleibjbfohenaa
