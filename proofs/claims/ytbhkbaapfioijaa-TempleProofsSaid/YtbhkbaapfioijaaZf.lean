/- What the proof of the law needs: the abstract machine, the functions as it reads them, their contracts, part 6. -/
import Derived.Test.YtbhkbaapfioijaaZe
set_option linter.unusedVariables false
set_option linter.unusedSimpArgs false
namespace Go.Proofs.Ytbhkbaapfioijaa
open Go Go.Am Go.Proofs Go.Sort
/-! ### The document's IsGuard -/
set_option maxHeartbeats 1000000 in
theorem pc20 (l : List T) (hl : l.length ≤ 9223372036854775807) (tol : Int) (ns : List Int) (hn : ns.length ≤ 9223372036854775807) : PC Try.prog 20 [vT l, .i .i64 tol, vi ns] (.tu [.b (isG l tol ns).1, .i .i64 (isG l tol ns).2]) := by
  refine pc_fn fn20 (by simp only [AV.plains, AV.plain, il_plain, bl_plain, Bool.and_true, Bool.true_and, Bool.and_self, flT_plain, il_plain]) (by simp only [AV.plains, AV.plain, il_plain, bl_plain, Bool.and_true, Bool.true_and, Bool.and_self, flT_plain, il_plain]) (Nat.le_of_ble_eq_true rfl) ?_
  rw [initSt3]
  have q := pc55 l hl tol
  by_cases h0 : asked l tol = 0
  · have hv := (asked_ok h0).1
    have hl6 := hv.len
    have stop : ∀ {b : Bool} {e : Int}, isG l tol ns = (b, e) → ∀ h, Am.Ends (AV.tu [.b (isG l tol ns).1, .i .i64 (isG l tol ns).2]) (AV.tu [.b b, .i .i64 e]) h := fun e h => by rw [e]; exact ends_of
    rw [h0] at q
    repeat' first
      | with_reducible refine k_seq ?_
      | with_reducible refine k_skip ?_
      | with_reducible refine k_blkS ?_
      | with_reducible refine k_blkR ?_
      | with_reducible refine k_blkC ?_
      | with_reducible refine k_blkH ?_
      | with_reducible refine k_blkB ?_
      | with_reducible refine k_blkK ?_
      | with_reducible refine k_blkE ?_
      | with_reducible refine k_reg ?_
      | with_reducible refine k_head (by with_unfolding_all rfl) ?_
      | with_reducible refine k_headS ?_
      | (with_reducible refine SepK.mk ?_ ?_; (refine sepQ_P ?_; simp [sepQ, sepG, AOp.late, AOp.free, AOp.xs, AOp.isAl, tokNe, AV.tok, stS_get, strip, AX.val, c20r0, c20r1, c20r2, c20r3, c20r4, c20r5, c20r6, c20r7, c20r8, c20r9, c20r10, c20r12, c20r13, c20r14, c20r15, c20r16, c20r17, c20r18, c20r20, c20r22, GA]; try omega))
      | with_reducible refine r_done ?_
      | with_reducible refine hr_done ?_
      | with_reducible refine s_go (by simp (disch := omega) only [c20r0, c20r1, c20r2, c20r3, c20r4, c20r5, c20r6, c20r7, c20r8, c20r9, c20r10, c20r12, c20r13, c20r14, c20r15, c20r16, c20r17, c20r18, c20r20, c20r22, EV0, EV1, EV2, EV3, EV4, EV5, EV6, EV7, EV8, VALS, plug, ite_same, decide_true, decide_false, eq_self, ↓reduceIte, reduceCtorEq, Nat.reduceAdd, Nat.reduceEqDiff, Nat.reduceLT, Nat.reduceLeDiff, Nat.reduceMul, Nat.reduceSub, Nat.reduceDiv, Int.reduceToNat, Int.reduceAdd, Int.reduceSub, Int.reduceMul, Int.reduceNeg, Int.reduceEq, Int.reduceLT, Int.reduceLE]; with_reducible rfl) ?_
      | with_reducible refine h_go (by with_unfolding_all rfl) (by simp (disch := omega) only [c20r0, c20r1, c20r2, c20r3, c20r4, c20r5, c20r6, c20r7, c20r8, c20r9, c20r10, c20r12, c20r13, c20r14, c20r15, c20r16, c20r17, c20r18, c20r20, c20r22, EV0, EV1, EV2, EV3, EV4, EV5, EV6, EV7, EV8, VALS, plug, ite_same, decide_true, decide_false, eq_self, ↓reduceIte, reduceCtorEq, Nat.reduceAdd, Nat.reduceEqDiff, Nat.reduceLT, Nat.reduceLeDiff, Nat.reduceMul, Nat.reduceSub, Nat.reduceDiv, Int.reduceToNat, Int.reduceAdd, Int.reduceSub, Int.reduceMul, Int.reduceNeg, Int.reduceEq, Int.reduceLT, Int.reduceLE]; with_reducible rfl) ?_
      | ((with_reducible refine chk_r ?_); refine r_callF (by simp only [CA, Nat.reduceEqDiff, ↓reduceIte]; rfl) (by exact rfl) (by simp only [CA, Nat.reduceEqDiff, ↓reduceIte]; rfl) rfl ?_)
      | ((with_reducible refine chk_h ?_); refine hr_callF (by simp only [CA, Nat.reduceEqDiff, ↓reduceIte]; rfl) (by exact rfl) (by simp only [CA, Nat.reduceEqDiff, ↓reduceIte]; rfl) rfl ?_)
      | ((with_reducible refine chk_r ?_); refine r_callP (by simp only [CA, Nat.reduceEqDiff, ↓reduceIte]; rfl) (by simp only [CA, Nat.reduceEqDiff, ↓reduceIte]; rfl) (by first | exact q _) rfl ?_)
      | ((with_reducible refine chk_h ?_); refine hr_callP (by simp only [CA, Nat.reduceEqDiff, ↓reduceIte]; rfl) (by simp only [CA, Nat.reduceEqDiff, ↓reduceIte]; rfl) (by first | exact q _) rfl ?_)
      | ((with_reducible refine chk_h ?_); refine hr_callP1 (by simp only [CA, Nat.reduceEqDiff, ↓reduceIte]; rfl) (by simp only [CA, Nat.reduceEqDiff, ↓reduceIte]; rfl) (by simp (disch := omega) only [CA, Nat.reduceEqDiff, ↓reduceIte, firstTok_nil, firstTok_sl, firstTok_sl0, firstTok_i, firstTok_b, firstTok_ag, firstTok_p, firstTok_s]; rfl) (by first | exact q _) rfl ?_)
      | ((with_reducible refine chk_h ?_); refine hr_app (by simp (disch := omega) only [c20r0, c20r1, c20r2, c20r3, c20r4, c20r5, c20r6, c20r7, c20r8, c20r9, c20r10, c20r12, c20r13, c20r14, c20r15, c20r16, c20r17, c20r18, c20r20, c20r22, EV0, EV1, EV2, EV3, EV4, EV5, EV6, EV7, EV8, VALS, plug, ite_same, decide_true, decide_false, eq_self, ↓reduceIte, reduceCtorEq, Nat.reduceAdd, Nat.reduceEqDiff, Nat.reduceLT, Nat.reduceLeDiff, Nat.reduceMul, Nat.reduceSub, Nat.reduceDiv, Int.reduceToNat, Int.reduceAdd, Int.reduceSub, Int.reduceMul, Int.reduceNeg, Int.reduceEq, Int.reduceLT, Int.reduceLE]; with_reducible rfl) rfl ?_)
      | (with_reducible refine k_condP (by simp only [GA, Nat.reduceEqDiff, ↓reduceIte]; rfl) (by first | (simp only [BO]; rfl) | rfl) (fun ht => ?_) (fun ht => ?_) <;> try (first | exact False.elim ht | exact absurd rfl ht | exact absurd trivial ht | exact Bool.noConfusion ht))
      | (with_reducible refine k_ret ?_; repeat with_reducible (first | refine ret_thru ?_ | refine ret_blk ?_ | refine fin ?_))
      | (with_reducible refine k_exit ?_; repeat with_reducible (first | refine thru ?_ | refine out_blk ?_ | refine pass (by decide) ?_))
      | (refine post1 ?_; simp only [GA, Nat.reduceEqDiff, ↓reduceIte])
      | (refine post2 ?_; simp only [GA, Nat.reduceEqDiff, ↓reduceIte])
      | (refine post3 ?_; simp only [GA, Nat.reduceEqDiff, ↓reduceIte])
      | (refine postc (by simp only [GA, Nat.reduceEqDiff, ↓reduceIte]; rfl) (by simp (disch := omega) only [c20r0, c20r1, c20r2, c20r3, c20r4, c20r5, c20r6, c20r7, c20r8, c20r9, c20r10, c20r12, c20r13, c20r14, c20r15, c20r16, c20r17, c20r18, c20r20, c20r22, EV0, EV1, EV2, EV3, EV4, EV5, EV6, EV7, EV8, VALS, plug, ite_same, decide_true, decide_false, eq_self, ↓reduceIte, reduceCtorEq, Nat.reduceAdd, Nat.reduceEqDiff, Nat.reduceLT, Nat.reduceLeDiff, Nat.reduceMul, Nat.reduceSub, Nat.reduceDiv, Int.reduceToNat, Int.reduceAdd, Int.reduceSub, Int.reduceMul, Int.reduceNeg, Int.reduceEq, Int.reduceLT, Int.reduceLE]; rfl) ?_)
      | refine post0 ?_
    refine k_blk (k_loopS (X := Nat × List Bool) [0, 1, 2, 9, 10] ns.length (fun k x => [(0, vT l), (1, .i .i64 tol), (2, vi ns), (9, .sl x.1 0 l.length 1), (10, .i .i64 (k : Int))])
      (fun k x h => x.1 ≠ 0 ∧ h.m x.1 = some (.cells true (bl x.2)) ∧ x.2.length = l.length ∧ (∀ i, i < l.length → x.2.getD i false = decide (hasI ns k i)) ∧ GK l ns k) (_, List.replicate l.length false) (by simp only [Am.keep, List.map_cons, List.map_nil, GA, Nat.reduceEqDiff, ↓reduceIte]; try rfl) ⟨?_, by simp (disch := omega) only [bl_rep, c20r0, c20r1, c20r2, c20r3, c20r4, c20r5, c20r6, c20r7, c20r8, c20r9, c20r10, c20r12, c20r13, c20r14, c20r15, c20r16, c20r17, c20r18, c20r20, c20r22, EV0, EV1, EV2, EV3, EV4, EV5, EV6, EV7, EV8, VALS, plug, ite_same, decide_true, decide_false, eq_self, ↓reduceIte, reduceCtorEq, Nat.reduceAdd, Nat.reduceEqDiff, Nat.reduceLT, Nat.reduceLeDiff, Nat.reduceMul, Nat.reduceSub, Nat.reduceDiv, Int.reduceToNat, Int.reduceAdd, Int.reduceSub, Int.reduceMul, Int.reduceNeg, Int.reduceEq, Int.reduceLT, Int.reduceLE] <;> rfl, by simp, fun i hi => by simp [hi], fun i hi => by omega⟩ ?_)
    · simp only [AH.bump_nx]; omega
    rintro k ⟨x, us⟩ h hk ⟨hx, hm, hu, hf, hg⟩ ok pos
    simp only at hx hm hu hf hg ⊢
    have hx' := ok.m hm
    by_cases hlt : k < ns.length
    · have hlt' : (k : Int) < ns.length := by omega
      have g := il_get hlt
      have q56 := pc56 l hl (ni ns k)
      by_cases hr : 0 ≤ ni ns k ∧ ni ns k < l.length
      · rw [decide_eq_true hr] at q56
        obtain ⟨a, ha⟩ : ∃ a : Nat, ni ns k = a := ⟨(ni ns k).toNat, by omega⟩
        have g' : (il ns)[k]? = some (.i .i64 (a : Int)) := by rw [g, ← ha]
        have hfa := hf a (by omega)
        have ba := bl_get (l := us) (j := a) (by omega)
        rw [hfa] at ba
        rw [ha] at q56 hr
        by_cases hh : hasI ns k a
        · rw [decide_eq_true hh] at ba
          repeat' first
            | with_reducible refine k_seq ?_
            | with_reducible refine k_skip ?_
            | with_reducible refine k_blkS ?_
            | with_reducible refine k_blkR ?_
            | with_reducible refine k_blkC ?_
            | with_reducible refine k_blkH ?_
            | with_reducible refine k_blkB ?_
            | with_reducible refine k_blkK ?_
            | with_reducible refine k_blkE ?_
            | with_reducible refine k_reg ?_
            | with_reducible refine k_head (by with_unfolding_all rfl) ?_
            | with_reducible refine k_headS ?_
            | (with_reducible refine SepK.mk ?_ ?_; (refine sepQ_P ?_; simp [sepQ, sepG, AOp.late, AOp.free, AOp.xs, AOp.isAl, tokNe, AV.tok, stS_get, strip, AX.val, c20r0, c20r1, c20r2, c20r3, c20r4, c20r5, c20r6, c20r7, c20r8, c20r9, c20r10, c20r12, c20r13, c20r14, c20r15, c20r16, c20r17, c20r18, c20r20, c20r22, GA]; try omega))
            | with_reducible refine r_done ?_
            | with_reducible refine hr_done ?_
            | with_reducible refine s_go (by simp (disch := omega) only [hlt', g', hm, row_m hm, read_row (row_m hm), ba, hu, hr, c20r0, c20r1, c20r2, c20r3, c20r4, c20r5, c20r6, c20r7, c20r8, c20r9, c20r10, c20r12, c20r13, c20r14, c20r15, c20r16, c20r17, c20r18, c20r20, c20r22, EV0, EV1, EV2, EV3, EV4, EV5, EV6, EV7, EV8, VALS, plug, ite_same, decide_true, decide_false, eq_self, ↓reduceIte, reduceCtorEq, Nat.reduceAdd, Nat.reduceEqDiff, Nat.reduceLT, Nat.reduceLeDiff, Nat.reduceMul, Nat.reduceSub, Nat.reduceDiv, Int.reduceToNat, Int.reduceAdd, Int.reduceSub, Int.reduceMul, Int.reduceNeg, Int.reduceEq, Int.reduceLT, Int.reduceLE]; with_reducible rfl) ?_
            | with_reducible refine h_go (by with_unfolding_all rfl) (by simp (disch := omega) only [hlt', g', hm, row_m hm, read_row (row_m hm), ba, hu, hr, c20r0, c20r1, c20r2, c20r3, c20r4, c20r5, c20r6, c20r7, c20r8, c20r9, c20r10, c20r12, c20r13, c20r14, c20r15, c20r16, c20r17, c20r18, c20r20, c20r22, EV0, EV1, EV2, EV3, EV4, EV5, EV6, EV7, EV8, VALS, plug, ite_same, decide_true, decide_false, eq_self, ↓reduceIte, reduceCtorEq, Nat.reduceAdd, Nat.reduceEqDiff, Nat.reduceLT, Nat.reduceLeDiff, Nat.reduceMul, Nat.reduceSub, Nat.reduceDiv, Int.reduceToNat, Int.reduceAdd, Int.reduceSub, Int.reduceMul, Int.reduceNeg, Int.reduceEq, Int.reduceLT, Int.reduceLE]; with_reducible rfl) ?_
            | ((with_reducible refine chk_r ?_); refine r_callF (by simp only [CA, Nat.reduceEqDiff, ↓reduceIte]; rfl) (by exact rfl) (by simp only [CA, Nat.reduceEqDiff, ↓reduceIte]; rfl) rfl ?_)
            | ((with_reducible refine chk_h ?_); refine hr_callF (by simp only [CA, Nat.reduceEqDiff, ↓reduceIte]; rfl) (by exact rfl) (by simp only [CA, Nat.reduceEqDiff, ↓reduceIte]; rfl) rfl ?_)
            | ((with_reducible refine chk_r ?_); refine r_callP (by simp only [CA, Nat.reduceEqDiff, ↓reduceIte]; rfl) (by simp only [CA, Nat.reduceEqDiff, ↓reduceIte]; rfl) (by first | exact q56 _) rfl ?_)
            | ((with_reducible refine chk_h ?_); refine hr_callP (by simp only [CA, Nat.reduceEqDiff, ↓reduceIte]; rfl) (by simp only [CA, Nat.reduceEqDiff, ↓reduceIte]; rfl) (by first | exact q56 _) rfl ?_)
            | ((with_reducible refine chk_h ?_); refine hr_callP1 (by simp only [CA, Nat.reduceEqDiff, ↓reduceIte]; rfl) (by simp only [CA, Nat.reduceEqDiff, ↓reduceIte]; rfl) (by simp (disch := omega) only [CA, Nat.reduceEqDiff, ↓reduceIte, firstTok_nil, firstTok_sl, firstTok_sl0, firstTok_i, firstTok_b, firstTok_ag, firstTok_p, firstTok_s]; rfl) (by first | exact q56 _) rfl ?_)
            | ((with_reducible refine chk_h ?_); refine hr_app (by simp (disch := omega) only [hlt', g', hm, row_m hm, read_row (row_m hm), ba, hu, hr, c20r0, c20r1, c20r2, c20r3, c20r4, c20r5, c20r6, c20r7, c20r8, c20r9, c20r10, c20r12, c20r13, c20r14, c20r15, c20r16, c20r17, c20r18, c20r20, c20r22, EV0, EV1, EV2, EV3, EV4, EV5, EV6, EV7, EV8, VALS, plug, ite_same, decide_true, decide_false, eq_self, ↓reduceIte, reduceCtorEq, Nat.reduceAdd, Nat.reduceEqDiff, Nat.reduceLT, Nat.reduceLeDiff, Nat.reduceMul, Nat.reduceSub, Nat.reduceDiv, Int.reduceToNat, Int.reduceAdd, Int.reduceSub, Int.reduceMul, Int.reduceNeg, Int.reduceEq, Int.reduceLT, Int.reduceLE]; with_reducible rfl) rfl ?_)
            | (with_reducible refine k_condP (by simp only [GA, Nat.reduceEqDiff, ↓reduceIte]; rfl) (by first | (simp only [BO]; rfl) | rfl) (fun ht => ?_) (fun ht => ?_) <;> try (first | exact False.elim ht | exact absurd rfl ht | exact absurd trivial ht | exact Bool.noConfusion ht))
            | (with_reducible refine k_ret ?_; repeat with_reducible (first | refine ret_thru ?_ | refine ret_blk ?_ | refine fin ?_))
            | (with_reducible refine k_exit ?_; repeat with_reducible (first | refine thru ?_ | refine out_blk ?_ | refine pass (by decide) ?_))
            | (refine post1 ?_; simp only [GA, Nat.reduceEqDiff, ↓reduceIte])
            | (refine post2 ?_; simp only [GA, Nat.reduceEqDiff, ↓reduceIte])
            | (refine post3 ?_; simp only [GA, Nat.reduceEqDiff, ↓reduceIte])
            | (refine postc (by simp only [GA, Nat.reduceEqDiff, ↓reduceIte]; rfl) (by simp (disch := omega) only [hlt', g', hm, row_m hm, read_row (row_m hm), ba, hu, hr, c20r0, c20r1, c20r2, c20r3, c20r4, c20r5, c20r6, c20r7, c20r8, c20r9, c20r10, c20r12, c20r13, c20r14, c20r15, c20r16, c20r17, c20r18, c20r20, c20r22, EV0, EV1, EV2, EV3, EV4, EV5, EV6, EV7, EV8, VALS, plug, ite_same, decide_true, decide_false, eq_self, ↓reduceIte, reduceCtorEq, Nat.reduceAdd, Nat.reduceEqDiff, Nat.reduceLT, Nat.reduceLeDiff, Nat.reduceMul, Nat.reduceSub, Nat.reduceDiv, Int.reduceToNat, Int.reduceAdd, Int.reduceSub, Int.reduceMul, Int.reduceNeg, Int.reduceEq, Int.reduceLT, Int.reduceLE]; rfl) ?_)
            | refine post0 ?_
          exact stop (isG_arg h0 hlt (.inr (by rw [ha]; exact hh))) _
        · rw [decide_eq_false hh] at ba
          repeat' first
            | with_reducible refine k_seq ?_
            | with_reducible refine k_skip ?_
            | with_reducible refine k_blkS ?_
            | with_reducible refine k_blkR ?_
            | with_reducible refine k_blkC ?_
            | with_reducible refine k_blkH ?_
            | with_reducible refine k_blkB ?_
            | with_reducible refine k_blkK ?_
            | with_reducible refine k_blkE ?_
            | with_reducible refine k_reg ?_
            | with_reducible refine k_head (by with_unfolding_all rfl) ?_
            | with_reducible refine k_headS ?_
            | (with_reducible refine SepK.mk ?_ ?_; (refine sepQ_P ?_; simp [sepQ, sepG, AOp.late, AOp.free, AOp.xs, AOp.isAl, tokNe, AV.tok, stS_get, strip, AX.val, c20r0, c20r1, c20r2, c20r3, c20r4, c20r5, c20r6, c20r7, c20r8, c20r9, c20r10, c20r12, c20r13, c20r14, c20r15, c20r16, c20r17, c20r18, c20r20, c20r22, GA]; try omega))
            | with_reducible refine r_done ?_
            | with_reducible refine hr_done ?_
            | with_reducible refine s_go (by simp (disch := omega) only [hlt', g', hm, row_m hm, read_row (row_m hm), ba, hu, hr, c20r0, c20r1, c20r2, c20r3, c20r4, c20r5, c20r6, c20r7, c20r8, c20r9, c20r10, c20r12, c20r13, c20r14, c20r15, c20r16, c20r17, c20r18, c20r20, c20r22, EV0, EV1, EV2, EV3, EV4, EV5, EV6, EV7, EV8, VALS, plug, ite_same, decide_true, decide_false, eq_self, ↓reduceIte, reduceCtorEq, Nat.reduceAdd, Nat.reduceEqDiff, Nat.reduceLT, Nat.reduceLeDiff, Nat.reduceMul, Nat.reduceSub, Nat.reduceDiv, Int.reduceToNat, Int.reduceAdd, Int.reduceSub, Int.reduceMul, Int.reduceNeg, Int.reduceEq, Int.reduceLT, Int.reduceLE]; with_reducible rfl) ?_
            | with_reducible refine h_go (by with_unfolding_all rfl) (by simp (disch := omega) only [hlt', g', hm, row_m hm, read_row (row_m hm), ba, hu, hr, c20r0, c20r1, c20r2, c20r3, c20r4, c20r5, c20r6, c20r7, c20r8, c20r9, c20r10, c20r12, c20r13, c20r14, c20r15, c20r16, c20r17, c20r18, c20r20, c20r22, EV0, EV1, EV2, EV3, EV4, EV5, EV6, EV7, EV8, VALS, plug, ite_same, decide_true, decide_false, eq_self, ↓reduceIte, reduceCtorEq, Nat.reduceAdd, Nat.reduceEqDiff, Nat.reduceLT, Nat.reduceLeDiff, Nat.reduceMul, Nat.reduceSub, Nat.reduceDiv, Int.reduceToNat, Int.reduceAdd, Int.reduceSub, Int.reduceMul, Int.reduceNeg, Int.reduceEq, Int.reduceLT, Int.reduceLE]; with_reducible rfl) ?_
            | ((with_reducible refine chk_r ?_); refine r_callF (by simp only [CA, Nat.reduceEqDiff, ↓reduceIte]; rfl) (by exact rfl) (by simp only [CA, Nat.reduceEqDiff, ↓reduceIte]; rfl) rfl ?_)
            | ((with_reducible refine chk_h ?_); refine hr_callF (by simp only [CA, Nat.reduceEqDiff, ↓reduceIte]; rfl) (by exact rfl) (by simp only [CA, Nat.reduceEqDiff, ↓reduceIte]; rfl) rfl ?_)
            | ((with_reducible refine chk_r ?_); refine r_callP (by simp only [CA, Nat.reduceEqDiff, ↓reduceIte]; rfl) (by simp only [CA, Nat.reduceEqDiff, ↓reduceIte]; rfl) (by first | exact q56 _) rfl ?_)
            | ((with_reducible refine chk_h ?_); refine hr_callP (by simp only [CA, Nat.reduceEqDiff, ↓reduceIte]; rfl) (by simp only [CA, Nat.reduceEqDiff, ↓reduceIte]; rfl) (by first | exact q56 _) rfl ?_)
            | ((with_reducible refine chk_h ?_); refine hr_callP1 (by simp only [CA, Nat.reduceEqDiff, ↓reduceIte]; rfl) (by simp only [CA, Nat.reduceEqDiff, ↓reduceIte]; rfl) (by simp (disch := omega) only [CA, Nat.reduceEqDiff, ↓reduceIte, firstTok_nil, firstTok_sl, firstTok_sl0, firstTok_i, firstTok_b, firstTok_ag, firstTok_p, firstTok_s]; rfl) (by first | exact q56 _) rfl ?_)
            | ((with_reducible refine chk_h ?_); refine hr_app (by simp (disch := omega) only [hlt', g', hm, row_m hm, read_row (row_m hm), ba, hu, hr, c20r0, c20r1, c20r2, c20r3, c20r4, c20r5, c20r6, c20r7, c20r8, c20r9, c20r10, c20r12, c20r13, c20r14, c20r15, c20r16, c20r17, c20r18, c20r20, c20r22, EV0, EV1, EV2, EV3, EV4, EV5, EV6, EV7, EV8, VALS, plug, ite_same, decide_true, decide_false, eq_self, ↓reduceIte, reduceCtorEq, Nat.reduceAdd, Nat.reduceEqDiff, Nat.reduceLT, Nat.reduceLeDiff, Nat.reduceMul, Nat.reduceSub, Nat.reduceDiv, Int.reduceToNat, Int.reduceAdd, Int.reduceSub, Int.reduceMul, Int.reduceNeg, Int.reduceEq, Int.reduceLT, Int.reduceLE]; with_reducible rfl) rfl ?_)
            | (with_reducible refine k_condP (by simp only [GA, Nat.reduceEqDiff, ↓reduceIte]; rfl) (by first | (simp only [BO]; rfl) | rfl) (fun ht => ?_) (fun ht => ?_) <;> try (first | exact False.elim ht | exact absurd rfl ht | exact absurd trivial ht | exact Bool.noConfusion ht))
            | (with_reducible refine k_ret ?_; repeat with_reducible (first | refine ret_thru ?_ | refine ret_blk ?_ | refine fin ?_))
            | (with_reducible refine k_exit ?_; repeat with_reducible (first | refine thru ?_ | refine out_blk ?_ | refine pass (by decide) ?_))
            | (refine post1 ?_; simp only [GA, Nat.reduceEqDiff, ↓reduceIte])
            | (refine post2 ?_; simp only [GA, Nat.reduceEqDiff, ↓reduceIte])
            | (refine post3 ?_; simp only [GA, Nat.reduceEqDiff, ↓reduceIte])
            | (refine postc (by simp only [GA, Nat.reduceEqDiff, ↓reduceIte]; rfl) (by simp (disch := omega) only [hlt', g', hm, row_m hm, read_row (row_m hm), ba, hu, hr, c20r0, c20r1, c20r2, c20r3, c20r4, c20r5, c20r6, c20r7, c20r8, c20r9, c20r10, c20r12, c20r13, c20r14, c20r15, c20r16, c20r17, c20r18, c20r20, c20r22, EV0, EV1, EV2, EV3, EV4, EV5, EV6, EV7, EV8, VALS, plug, ite_same, decide_true, decide_false, eq_self, ↓reduceIte, reduceCtorEq, Nat.reduceAdd, Nat.reduceEqDiff, Nat.reduceLT, Nat.reduceLeDiff, Nat.reduceMul, Nat.reduceSub, Nat.reduceDiv, Int.reduceToNat, Int.reduceAdd, Int.reduceSub, Int.reduceMul, Int.reduceNeg, Int.reduceEq, Int.reduceLT, Int.reduceLE]; rfl) ?_)
            | refine post0 ?_
          refine ⟨hlt, ⟨x, us.set a true⟩, (by simp only [Am.keep, List.map_cons, List.map_nil, GA, Nat.reduceEqDiff, ↓reduceIte]; try rfl), hx, by simp (disch := omega) only [hm, c20r0, c20r1, c20r2, c20r3, c20r4, c20r5, c20r6, c20r7, c20r8, c20r9, c20r10, c20r12, c20r13, c20r14, c20r15, c20r16, c20r17, c20r18, c20r20, c20r22, EV0, EV1, EV2, EV3, EV4, EV5, EV6, EV7, EV8, VALS, plug, ite_same, decide_true, decide_false, eq_self, ↓reduceIte, reduceCtorEq, Nat.reduceAdd, Nat.reduceEqDiff, Nat.reduceLT, Nat.reduceLeDiff, Nat.reduceMul, Nat.reduceSub, Nat.reduceDiv, Int.reduceToNat, Int.reduceAdd, Int.reduceSub, Int.reduceMul, Int.reduceNeg, Int.reduceEq, Int.reduceLT, Int.reduceLE] <;> rfl, by rw [List.length_set]; exact hu, fun i hi => ?_, hg.succ (by rw [ha]; exact hr) (by rw [ha]; exact hh)⟩
          simp only []
          rw [getD_set _ _ _ (by omega), hf i hi, Bool.eq_iff_iff]
          simp only [Bool.or_eq_true, decide_eq_true_eq]
          rw [hasI_succ, ha]
          constructor
          · rintro (e | e)
            · exact .inl (by omega)
            · exact .inr e
          · rintro (e | e)
            · exact .inl (by omega)
            · exact .inr e
      · rw [decide_eq_false hr] at q56
        repeat' first
          | with_reducible refine k_seq ?_
          | with_reducible refine k_skip ?_
          | with_reducible refine k_blkS ?_
          | with_reducible refine k_blkR ?_
          | with_reducible refine k_blkC ?_
          | with_reducible refine k_blkH ?_
          | with_reducible refine k_blkB ?_
          | with_reducible refine k_blkK ?_
          | with_reducible refine k_blkE ?_
          | with_reducible refine k_reg ?_
          | with_reducible refine k_head (by with_unfolding_all rfl) ?_
          | with_reducible refine k_headS ?_
          | (with_reducible refine SepK.mk ?_ ?_; (refine sepQ_P ?_; simp [sepQ, sepG, AOp.late, AOp.free, AOp.xs, AOp.isAl, tokNe, AV.tok, stS_get, strip, AX.val, c20r0, c20r1, c20r2, c20r3, c20r4, c20r5, c20r6, c20r7, c20r8, c20r9, c20r10, c20r12, c20r13, c20r14, c20r15, c20r16, c20r17, c20r18, c20r20, c20r22, GA]; try omega))
          | with_reducible refine r_done ?_
          | with_reducible refine hr_done ?_
          | with_reducible refine s_go (by simp (disch := omega) only [hlt', g, c20r0, c20r1, c20r2, c20r3, c20r4, c20r5, c20r6, c20r7, c20r8, c20r9, c20r10, c20r12, c20r13, c20r14, c20r15, c20r16, c20r17, c20r18, c20r20, c20r22, EV0, EV1, EV2, EV3, EV4, EV5, EV6, EV7, EV8, VALS, plug, ite_same, decide_true, decide_false, eq_self, ↓reduceIte, reduceCtorEq, Nat.reduceAdd, Nat.reduceEqDiff, Nat.reduceLT, Nat.reduceLeDiff, Nat.reduceMul, Nat.reduceSub, Nat.reduceDiv, Int.reduceToNat, Int.reduceAdd, Int.reduceSub, Int.reduceMul, Int.reduceNeg, Int.reduceEq, Int.reduceLT, Int.reduceLE]; with_reducible rfl) ?_
          | with_reducible refine h_go (by with_unfolding_all rfl) (by simp (disch := omega) only [hlt', g, c20r0, c20r1, c20r2, c20r3, c20r4, c20r5, c20r6, c20r7, c20r8, c20r9, c20r10, c20r12, c20r13, c20r14, c20r15, c20r16, c20r17, c20r18, c20r20, c20r22, EV0, EV1, EV2, EV3, EV4, EV5, EV6, EV7, EV8, VALS, plug, ite_same, decide_true, decide_false, eq_self, ↓reduceIte, reduceCtorEq, Nat.reduceAdd, Nat.reduceEqDiff, Nat.reduceLT, Nat.reduceLeDiff, Nat.reduceMul, Nat.reduceSub, Nat.reduceDiv, Int.reduceToNat, Int.reduceAdd, Int.reduceSub, Int.reduceMul, Int.reduceNeg, Int.reduceEq, Int.reduceLT, Int.reduceLE]; with_reducible rfl) ?_
          | ((with_reducible refine chk_r ?_); refine r_callF (by simp only [CA, Nat.reduceEqDiff, ↓reduceIte]; rfl) (by exact rfl) (by simp only [CA, Nat.reduceEqDiff, ↓reduceIte]; rfl) rfl ?_)
          | ((with_reducible refine chk_h ?_); refine hr_callF (by simp only [CA, Nat.reduceEqDiff, ↓reduceIte]; rfl) (by exact rfl) (by simp only [CA, Nat.reduceEqDiff, ↓reduceIte]; rfl) rfl ?_)
          | ((with_reducible refine chk_r ?_); refine r_callP (by simp only [CA, Nat.reduceEqDiff, ↓reduceIte]; rfl) (by simp only [CA, Nat.reduceEqDiff, ↓reduceIte]; rfl) (by first | exact q56 _) rfl ?_)
          | ((with_reducible refine chk_h ?_); refine hr_callP (by simp only [CA, Nat.reduceEqDiff, ↓reduceIte]; rfl) (by simp only [CA, Nat.reduceEqDiff, ↓reduceIte]; rfl) (by first | exact q56 _) rfl ?_)
          | ((with_reducible refine chk_h ?_); refine hr_callP1 (by simp only [CA, Nat.reduceEqDiff, ↓reduceIte]; rfl) (by simp only [CA, Nat.reduceEqDiff, ↓reduceIte]; rfl) (by simp (disch := omega) only [CA, Nat.reduceEqDiff, ↓reduceIte, firstTok_nil, firstTok_sl, firstTok_sl0, firstTok_i, firstTok_b, firstTok_ag, firstTok_p, firstTok_s]; rfl) (by first | exact q56 _) rfl ?_)
          | ((with_reducible refine chk_h ?_); refine hr_app (by simp (disch := omega) only [hlt', g, c20r0, c20r1, c20r2, c20r3, c20r4, c20r5, c20r6, c20r7, c20r8, c20r9, c20r10, c20r12, c20r13, c20r14, c20r15, c20r16, c20r17, c20r18, c20r20, c20r22, EV0, EV1, EV2, EV3, EV4, EV5, EV6, EV7, EV8, VALS, plug, ite_same, decide_true, decide_false, eq_self, ↓reduceIte, reduceCtorEq, Nat.reduceAdd, Nat.reduceEqDiff, Nat.reduceLT, Nat.reduceLeDiff, Nat.reduceMul, Nat.reduceSub, Nat.reduceDiv, Int.reduceToNat, Int.reduceAdd, Int.reduceSub, Int.reduceMul, Int.reduceNeg, Int.reduceEq, Int.reduceLT, Int.reduceLE]; with_reducible rfl) rfl ?_)
          | (with_reducible refine k_condP (by simp only [GA, Nat.reduceEqDiff, ↓reduceIte]; rfl) (by first | (simp only [BO]; rfl) | rfl) (fun ht => ?_) (fun ht => ?_) <;> try (first | exact False.elim ht | exact absurd rfl ht | exact absurd trivial ht | exact Bool.noConfusion ht))
          | (with_reducible refine k_ret ?_; repeat with_reducible (first | refine ret_thru ?_ | refine ret_blk ?_ | refine fin ?_))
          | (with_reducible refine k_exit ?_; repeat with_reducible (first | refine thru ?_ | refine out_blk ?_ | refine pass (by decide) ?_))
          | (refine post1 ?_; simp only [GA, Nat.reduceEqDiff, ↓reduceIte])
          | (refine post2 ?_; simp only [GA, Nat.reduceEqDiff, ↓reduceIte])
          | (refine post3 ?_; simp only [GA, Nat.reduceEqDiff, ↓reduceIte])
          | (refine postc (by simp only [GA, Nat.reduceEqDiff, ↓reduceIte]; rfl) (by simp (disch := omega) only [hlt', g, c20r0, c20r1, c20r2, c20r3, c20r4, c20r5, c20r6, c20r7, c20r8, c20r9, c20r10, c20r12, c20r13, c20r14, c20r15, c20r16, c20r17, c20r18, c20r20, c20r22, EV0, EV1, EV2, EV3, EV4, EV5, EV6, EV7, EV8, VALS, plug, ite_same, decide_true, decide_false, eq_self, ↓reduceIte, reduceCtorEq, Nat.reduceAdd, Nat.reduceEqDiff, Nat.reduceLT, Nat.reduceLeDiff, Nat.reduceMul, Nat.reduceSub, Nat.reduceDiv, Int.reduceToNat, Int.reduceAdd, Int.reduceSub, Int.reduceMul, Int.reduceNeg, Int.reduceEq, Int.reduceLT, Int.reduceLE]; rfl) ?_)
          | refine post0 ?_
        exact stop (isG_arg h0 hlt (.inl hr)) _
    · obtain rfl : k = ns.length := by omega
      have hlt' : ¬ (ns.length : Int) < ns.length := by omega
      repeat' first
        | with_reducible refine k_seq ?_
        | with_reducible refine k_skip ?_
        | with_reducible refine k_blkS ?_
        | with_reducible refine k_blkR ?_
        | with_reducible refine k_blkC ?_
        | with_reducible refine k_blkH ?_
        | with_reducible refine k_blkB ?_
        | with_reducible refine k_blkK ?_
        | with_reducible refine k_blkE ?_
        | with_reducible refine k_reg ?_
        | with_reducible refine k_head (by with_unfolding_all rfl) ?_
        | with_reducible refine k_headS ?_
        | (with_reducible refine SepK.mk ?_ ?_; (refine sepQ_P ?_; simp [sepQ, sepG, AOp.late, AOp.free, AOp.xs, AOp.isAl, tokNe, AV.tok, stS_get, strip, AX.val, c20r0, c20r1, c20r2, c20r3, c20r4, c20r5, c20r6, c20r7, c20r8, c20r9, c20r10, c20r12, c20r13, c20r14, c20r15, c20r16, c20r17, c20r18, c20r20, c20r22, GA]; try omega))
        | with_reducible refine r_done ?_
        | with_reducible refine hr_done ?_
        | with_reducible refine s_go (by simp (disch := omega) only [hlt', c20r0, c20r1, c20r2, c20r3, c20r4, c20r5, c20r6, c20r7, c20r8, c20r9, c20r10, c20r12, c20r13, c20r14, c20r15, c20r16, c20r17, c20r18, c20r20, c20r22, EV0, EV1, EV2, EV3, EV4, EV5, EV6, EV7, EV8, VALS, plug, ite_same, decide_true, decide_false, eq_self, ↓reduceIte, reduceCtorEq, Nat.reduceAdd, Nat.reduceEqDiff, Nat.reduceLT, Nat.reduceLeDiff, Nat.reduceMul, Nat.reduceSub, Nat.reduceDiv, Int.reduceToNat, Int.reduceAdd, Int.reduceSub, Int.reduceMul, Int.reduceNeg, Int.reduceEq, Int.reduceLT, Int.reduceLE]; with_reducible rfl) ?_
        | with_reducible refine h_go (by with_unfolding_all rfl) (by simp (disch := omega) only [hlt', c20r0, c20r1, c20r2, c20r3, c20r4, c20r5, c20r6, c20r7, c20r8, c20r9, c20r10, c20r12, c20r13, c20r14, c20r15, c20r16, c20r17, c20r18, c20r20, c20r22, EV0, EV1, EV2, EV3, EV4, EV5, EV6, EV7, EV8, VALS, plug, ite_same, decide_true, decide_false, eq_self, ↓reduceIte, reduceCtorEq, Nat.reduceAdd, Nat.reduceEqDiff, Nat.reduceLT, Nat.reduceLeDiff, Nat.reduceMul, Nat.reduceSub, Nat.reduceDiv, Int.reduceToNat, Int.reduceAdd, Int.reduceSub, Int.reduceMul, Int.reduceNeg, Int.reduceEq, Int.reduceLT, Int.reduceLE]; with_reducible rfl) ?_
        | ((with_reducible refine chk_r ?_); refine r_callF (by simp only [CA, Nat.reduceEqDiff, ↓reduceIte]; rfl) (by exact rfl) (by simp only [CA, Nat.reduceEqDiff, ↓reduceIte]; rfl) rfl ?_)
        | ((with_reducible refine chk_h ?_); refine hr_callF (by simp only [CA, Nat.reduceEqDiff, ↓reduceIte]; rfl) (by exact rfl) (by simp only [CA, Nat.reduceEqDiff, ↓reduceIte]; rfl) rfl ?_)
        | ((with_reducible refine chk_h ?_); refine hr_app (by simp (disch := omega) only [hlt', c20r0, c20r1, c20r2, c20r3, c20r4, c20r5, c20r6, c20r7, c20r8, c20r9, c20r10, c20r12, c20r13, c20r14, c20r15, c20r16, c20r17, c20r18, c20r20, c20r22, EV0, EV1, EV2, EV3, EV4, EV5, EV6, EV7, EV8, VALS, plug, ite_same, decide_true, decide_false, eq_self, ↓reduceIte, reduceCtorEq, Nat.reduceAdd, Nat.reduceEqDiff, Nat.reduceLT, Nat.reduceLeDiff, Nat.reduceMul, Nat.reduceSub, Nat.reduceDiv, Int.reduceToNat, Int.reduceAdd, Int.reduceSub, Int.reduceMul, Int.reduceNeg, Int.reduceEq, Int.reduceLT, Int.reduceLE]; with_reducible rfl) rfl ?_)
        | (with_reducible refine k_condP (by simp only [GA, Nat.reduceEqDiff, ↓reduceIte]; rfl) (by first | (simp only [BO]; rfl) | rfl) (fun ht => ?_) (fun ht => ?_) <;> try (first | exact False.elim ht | exact absurd rfl ht | exact absurd trivial ht | exact Bool.noConfusion ht))
        | (with_reducible refine k_ret ?_; repeat with_reducible (first | refine ret_thru ?_ | refine ret_blk ?_ | refine fin ?_))
        | (with_reducible refine k_exit ?_; repeat with_reducible (first | refine thru ?_ | refine out_blk ?_ | refine pass (by decide) ?_))
        | (refine post1 ?_; simp only [GA, Nat.reduceEqDiff, ↓reduceIte])
        | (refine post2 ?_; simp only [GA, Nat.reduceEqDiff, ↓reduceIte])
        | (refine post3 ?_; simp only [GA, Nat.reduceEqDiff, ↓reduceIte])
        | (refine postc (by simp only [GA, Nat.reduceEqDiff, ↓reduceIte]; rfl) (by simp (disch := omega) only [hlt', c20r0, c20r1, c20r2, c20r3, c20r4, c20r5, c20r6, c20r7, c20r8, c20r9, c20r10, c20r12, c20r13, c20r14, c20r15, c20r16, c20r17, c20r18, c20r20, c20r22, EV0, EV1, EV2, EV3, EV4, EV5, EV6, EV7, EV8, VALS, plug, ite_same, decide_true, decide_false, eq_self, ↓reduceIte, reduceCtorEq, Nat.reduceAdd, Nat.reduceEqDiff, Nat.reduceLT, Nat.reduceLeDiff, Nat.reduceMul, Nat.reduceSub, Nat.reduceDiv, Int.reduceToNat, Int.reduceAdd, Int.reduceSub, Int.reduceMul, Int.reduceNeg, Int.reduceEq, Int.reduceLT, Int.reduceLE]; rfl) ?_)
        | refine post0 ?_
      refine k_blk (k_loopS (X := Unit) [0, 1, 9, 11] l.length (fun i _ => [(0, vT l), (1, .i .i64 tol), (9, .sl x 0 l.length 1), (11, .i .i64 (i : Int))])
        (fun i _ h => h.m x = some (.cells true (bl us)) ∧ CV l tol (hasI ns ns.length) i) () (by simp only [Am.keep, List.map_cons, List.map_nil, GA, Nat.reduceEqDiff, ↓reduceIte]; try rfl) ⟨by simp (disch := omega) only [hm, c20r0, c20r1, c20r2, c20r3, c20r4, c20r5, c20r6, c20r7, c20r8, c20r9, c20r10, c20r12, c20r13, c20r14, c20r15, c20r16, c20r17, c20r18, c20r20, c20r22, EV0, EV1, EV2, EV3, EV4, EV5, EV6, EV7, EV8, VALS, plug, ite_same, decide_true, decide_false, eq_self, ↓reduceIte, reduceCtorEq, Nat.reduceAdd, Nat.reduceEqDiff, Nat.reduceLT, Nat.reduceLeDiff, Nat.reduceMul, Nat.reduceSub, Nat.reduceDiv, Int.reduceToNat, Int.reduceAdd, Int.reduceSub, Int.reduceMul, Int.reduceNeg, Int.reduceEq, Int.reduceLT, Int.reduceLE], fun i hi => by omega⟩ ?_)
      rintro i _ h hi ⟨hm, hc⟩ ok pos
      have hx' := ok.m hm
      by_cases ilt : i < l.length
      · have ilt' : (i : Int) < l.length := by omega
        have rA := rdT ilt
        have bi := bl_get (l := us) (j := i) (by omega)
        rw [hf i ilt] at bi
        simp only [eT] at rA
        repeat' first
          | with_reducible refine k_seq ?_
          | with_reducible refine k_skip ?_
          | with_reducible refine k_blkS ?_
          | with_reducible refine k_blkR ?_
          | with_reducible refine k_blkC ?_
          | with_reducible refine k_blkH ?_
          | with_reducible refine k_blkB ?_
          | with_reducible refine k_blkK ?_
          | with_reducible refine k_blkE ?_
          | with_reducible refine k_reg ?_
          | with_reducible refine k_head (by with_unfolding_all rfl) ?_
          | with_reducible refine k_headS ?_
          | (with_reducible refine SepK.mk ?_ ?_; (refine sepQ_P ?_; simp [sepQ, sepG, AOp.late, AOp.free, AOp.xs, AOp.isAl, tokNe, AV.tok, stS_get, strip, AX.val, c20r0, c20r1, c20r2, c20r3, c20r4, c20r5, c20r6, c20r7, c20r8, c20r9, c20r10, c20r12, c20r13, c20r14, c20r15, c20r16, c20r17, c20r18, c20r20, c20r22, GA]; try omega))
          | with_reducible refine r_done ?_
          | with_reducible refine hr_done ?_
          | with_reducible refine s_go (by simp (disch := omega) only [ilt', rA, c20r0, c20r1, c20r2, c20r3, c20r4, c20r5, c20r6, c20r7, c20r8, c20r9, c20r10, c20r12, c20r13, c20r14, c20r15, c20r16, c20r17, c20r18, c20r20, c20r22, EV0, EV1, EV2, EV3, EV4, EV5, EV6, EV7, EV8, VALS, plug, ite_same, decide_true, decide_false, eq_self, ↓reduceIte, reduceCtorEq, Nat.reduceAdd, Nat.reduceEqDiff, Nat.reduceLT, Nat.reduceLeDiff, Nat.reduceMul, Nat.reduceSub, Nat.reduceDiv, Int.reduceToNat, Int.reduceAdd, Int.reduceSub, Int.reduceMul, Int.reduceNeg, Int.reduceEq, Int.reduceLT, Int.reduceLE]; with_reducible rfl) ?_
          | with_reducible refine h_go (by with_unfolding_all rfl) (by simp (disch := omega) only [ilt', rA, c20r0, c20r1, c20r2, c20r3, c20r4, c20r5, c20r6, c20r7, c20r8, c20r9, c20r10, c20r12, c20r13, c20r14, c20r15, c20r16, c20r17, c20r18, c20r20, c20r22, EV0, EV1, EV2, EV3, EV4, EV5, EV6, EV7, EV8, VALS, plug, ite_same, decide_true, decide_false, eq_self, ↓reduceIte, reduceCtorEq, Nat.reduceAdd, Nat.reduceEqDiff, Nat.reduceLT, Nat.reduceLeDiff, Nat.reduceMul, Nat.reduceSub, Nat.reduceDiv, Int.reduceToNat, Int.reduceAdd, Int.reduceSub, Int.reduceMul, Int.reduceNeg, Int.reduceEq, Int.reduceLT, Int.reduceLE]; with_reducible rfl) ?_
          | ((with_reducible refine chk_r ?_); refine r_callF (by simp only [CA, Nat.reduceEqDiff, ↓reduceIte]; rfl) (by exact rfl) (by simp only [CA, Nat.reduceEqDiff, ↓reduceIte]; rfl) rfl ?_)
          | ((with_reducible refine chk_h ?_); refine hr_callF (by simp only [CA, Nat.reduceEqDiff, ↓reduceIte]; rfl) (by exact rfl) (by simp only [CA, Nat.reduceEqDiff, ↓reduceIte]; rfl) rfl ?_)
          | ((with_reducible refine chk_h ?_); refine hr_app (by simp (disch := omega) only [ilt', rA, c20r0, c20r1, c20r2, c20r3, c20r4, c20r5, c20r6, c20r7, c20r8, c20r9, c20r10, c20r12, c20r13, c20r14, c20r15, c20r16, c20r17, c20r18, c20r20, c20r22, EV0, EV1, EV2, EV3, EV4, EV5, EV6, EV7, EV8, VALS, plug, ite_same, decide_true, decide_false, eq_self, ↓reduceIte, reduceCtorEq, Nat.reduceAdd, Nat.reduceEqDiff, Nat.reduceLT, Nat.reduceLeDiff, Nat.reduceMul, Nat.reduceSub, Nat.reduceDiv, Int.reduceToNat, Int.reduceAdd, Int.reduceSub, Int.reduceMul, Int.reduceNeg, Int.reduceEq, Int.reduceLT, Int.reduceLE]; with_reducible rfl) rfl ?_)
          | (with_reducible refine k_condP (by simp only [GA, Nat.reduceEqDiff, ↓reduceIte]; rfl) (by first | (simp only [BO]; rfl) | rfl) (fun ht => ?_) (fun ht => ?_) <;> try (first | exact False.elim ht | exact absurd rfl ht | exact absurd trivial ht | exact Bool.noConfusion ht))
          | (with_reducible refine k_ret ?_; repeat with_reducible (first | refine ret_thru ?_ | refine ret_blk ?_ | refine fin ?_))
          | (with_reducible refine k_exit ?_; repeat with_reducible (first | refine thru ?_ | refine out_blk ?_ | refine pass (by decide) ?_))
          | (refine post1 ?_; simp only [GA, Nat.reduceEqDiff, ↓reduceIte])
          | (refine post2 ?_; simp only [GA, Nat.reduceEqDiff, ↓reduceIte])
          | (refine post3 ?_; simp only [GA, Nat.reduceEqDiff, ↓reduceIte])
          | (refine postc (by simp only [GA, Nat.reduceEqDiff, ↓reduceIte]; rfl) (by simp (disch := omega) only [ilt', rA, c20r0, c20r1, c20r2, c20r3, c20r4, c20r5, c20r6, c20r7, c20r8, c20r9, c20r10, c20r12, c20r13, c20r14, c20r15, c20r16, c20r17, c20r18, c20r20, c20r22, EV0, EV1, EV2, EV3, EV4, EV5, EV6, EV7, EV8, VALS, plug, ite_same, decide_true, decide_false, eq_self, ↓reduceIte, reduceCtorEq, Nat.reduceAdd, Nat.reduceEqDiff, Nat.reduceLT, Nat.reduceLeDiff, Nat.reduceMul, Nat.reduceSub, Nat.reduceDiv, Int.reduceToNat, Int.reduceAdd, Int.reduceSub, Int.reduceMul, Int.reduceNeg, Int.reduceEq, Int.reduceLT, Int.reduceLE]; rfl) ?_)
          | refine post0 ?_
        refine k_blk (k_loopS (X := Unit) [0, 1, 9, 11, 12] i (fun j _ => [(0, vT l), (1, .i .i64 tol), (9, .sl x 0 l.length 1), (11, .i .i64 (i : Int)), (12, .i .i64 (j : Int))])
          (fun j _ h => h.m x = some (.cells true (bl us)) ∧ ∀ k, k < j → ed l tol i k = true → hasI ns ns.length i ∨ hasI ns ns.length k) () (by simp only [Am.keep, List.map_cons, List.map_nil, GA, Nat.reduceEqDiff, ↓reduceIte]; try rfl) ⟨by simp (disch := omega) only [hm, c20r0, c20r1, c20r2, c20r3, c20r4, c20r5, c20r6, c20r7, c20r8, c20r9, c20r10, c20r12, c20r13, c20r14, c20r15, c20r16, c20r17, c20r18, c20r20, c20r22, EV0, EV1, EV2, EV3, EV4, EV5, EV6, EV7, EV8, VALS, plug, ite_same, decide_true, decide_false, eq_self, ↓reduceIte, reduceCtorEq, Nat.reduceAdd, Nat.reduceEqDiff, Nat.reduceLT, Nat.reduceLeDiff, Nat.reduceMul, Nat.reduceSub, Nat.reduceDiv, Int.reduceToNat, Int.reduceAdd, Int.reduceSub, Int.reduceMul, Int.reduceNeg, Int.reduceEq, Int.reduceLT, Int.reduceLE], fun k hk => by omega⟩ ?_)
        rintro j _ h hj ⟨hm, hc2⟩ ok pos
        have hx' := ok.m hm
        by_cases jlt : j < i
        · have jlt' : (j : Int) < i := by omega
          have rB := rdT (show j < l.length by omega)
          have bj := bl_get (l := us) (j := j) (by omega)
          rw [hf j (by omega)] at bj
          have q57 := pc57 (l.getD i T0) (l.getD j T0) (hv.2.1 i ilt) (hv.2.1 j (by omega)) tol
          have ee : ed l tol i j = can (l.getD i T0) (l.getD j T0) tol := rfl
          rw [← ee] at q57
          simp only [eT] at rB q57
          cases he : ed l tol i j with
          | false =>
            rw [he] at q57
            repeat' first
              | with_reducible refine k_seq ?_
              | with_reducible refine k_skip ?_
              | with_reducible refine k_blkS ?_
              | with_reducible refine k_blkR ?_
              | with_reducible refine k_blkC ?_
              | with_reducible refine k_blkH ?_
              | with_reducible refine k_blkB ?_
              | with_reducible refine k_blkK ?_
              | with_reducible refine k_blkE ?_
              | with_reducible refine k_reg ?_
              | with_reducible refine k_head (by with_unfolding_all rfl) ?_
              | with_reducible refine k_headS ?_
              | (with_reducible refine SepK.mk ?_ ?_; (refine sepQ_P ?_; simp [sepQ, sepG, AOp.late, AOp.free, AOp.xs, AOp.isAl, tokNe, AV.tok, stS_get, strip, AX.val, c20r0, c20r1, c20r2, c20r3, c20r4, c20r5, c20r6, c20r7, c20r8, c20r9, c20r10, c20r12, c20r13, c20r14, c20r15, c20r16, c20r17, c20r18, c20r20, c20r22, GA]; try omega))
              | with_reducible refine r_done ?_
              | with_reducible refine hr_done ?_
              | with_reducible refine s_go (by simp (disch := omega) only [jlt', rA, rB, hm, row_m hm, read_row (row_m hm), bi, bj, hu, c20r0, c20r1, c20r2, c20r3, c20r4, c20r5, c20r6, c20r7, c20r8, c20r9, c20r10, c20r12, c20r13, c20r14, c20r15, c20r16, c20r17, c20r18, c20r20, c20r22, EV0, EV1, EV2, EV3, EV4, EV5, EV6, EV7, EV8, VALS, plug, ite_same, decide_true, decide_false, eq_self, ↓reduceIte, reduceCtorEq, Nat.reduceAdd, Nat.reduceEqDiff, Nat.reduceLT, Nat.reduceLeDiff, Nat.reduceMul, Nat.reduceSub, Nat.reduceDiv, Int.reduceToNat, Int.reduceAdd, Int.reduceSub, Int.reduceMul, Int.reduceNeg, Int.reduceEq, Int.reduceLT, Int.reduceLE]; with_reducible rfl) ?_
              | with_reducible refine h_go (by with_unfolding_all rfl) (by simp (disch := omega) only [jlt', rA, rB, hm, row_m hm, read_row (row_m hm), bi, bj, hu, c20r0, c20r1, c20r2, c20r3, c20r4, c20r5, c20r6, c20r7, c20r8, c20r9, c20r10, c20r12, c20r13, c20r14, c20r15, c20r16, c20r17, c20r18, c20r20, c20r22, EV0, EV1, EV2, EV3, EV4, EV5, EV6, EV7, EV8, VALS, plug, ite_same, decide_true, decide_false, eq_self, ↓reduceIte, reduceCtorEq, Nat.reduceAdd, Nat.reduceEqDiff, Nat.reduceLT, Nat.reduceLeDiff, Nat.reduceMul, Nat.reduceSub, Nat.reduceDiv, Int.reduceToNat, Int.reduceAdd, Int.reduceSub, Int.reduceMul, Int.reduceNeg, Int.reduceEq, Int.reduceLT, Int.reduceLE]; with_reducible rfl) ?_
              | ((with_reducible refine chk_r ?_); refine r_callF (by simp only [CA, Nat.reduceEqDiff, ↓reduceIte]; rfl) (by exact rfl) (by simp only [CA, Nat.reduceEqDiff, ↓reduceIte]; rfl) rfl ?_)
              | ((with_reducible refine chk_h ?_); refine hr_callF (by simp only [CA, Nat.reduceEqDiff, ↓reduceIte]; rfl) (by exact rfl) (by simp only [CA, Nat.reduceEqDiff, ↓reduceIte]; rfl) rfl ?_)
              | ((with_reducible refine chk_r ?_); refine r_callP (by simp only [CA, Nat.reduceEqDiff, ↓reduceIte]; rfl) (by simp only [CA, Nat.reduceEqDiff, ↓reduceIte]; rfl) (by first | exact q57 _) rfl ?_)
              | ((with_reducible refine chk_h ?_); refine hr_callP (by simp only [CA, Nat.reduceEqDiff, ↓reduceIte]; rfl) (by simp only [CA, Nat.reduceEqDiff, ↓reduceIte]; rfl) (by first | exact q57 _) rfl ?_)
              | ((with_reducible refine chk_h ?_); refine hr_callP1 (by simp only [CA, Nat.reduceEqDiff, ↓reduceIte]; rfl) (by simp only [CA, Nat.reduceEqDiff, ↓reduceIte]; rfl) (by simp (disch := omega) only [CA, Nat.reduceEqDiff, ↓reduceIte, firstTok_nil, firstTok_sl, firstTok_sl0, firstTok_i, firstTok_b, firstTok_ag, firstTok_p, firstTok_s]; rfl) (by first | exact q57 _) rfl ?_)
              | ((with_reducible refine chk_h ?_); refine hr_app (by simp (disch := omega) only [jlt', rA, rB, hm, row_m hm, read_row (row_m hm), bi, bj, hu, c20r0, c20r1, c20r2, c20r3, c20r4, c20r5, c20r6, c20r7, c20r8, c20r9, c20r10, c20r12, c20r13, c20r14, c20r15, c20r16, c20r17, c20r18, c20r20, c20r22, EV0, EV1, EV2, EV3, EV4, EV5, EV6, EV7, EV8, VALS, plug, ite_same, decide_true, decide_false, eq_self, ↓reduceIte, reduceCtorEq, Nat.reduceAdd, Nat.reduceEqDiff, Nat.reduceLT, Nat.reduceLeDiff, Nat.reduceMul, Nat.reduceSub, Nat.reduceDiv, Int.reduceToNat, Int.reduceAdd, Int.reduceSub, Int.reduceMul, Int.reduceNeg, Int.reduceEq, Int.reduceLT, Int.reduceLE]; with_reducible rfl) rfl ?_)
              | (with_reducible refine k_condP (by simp only [GA, Nat.reduceEqDiff, ↓reduceIte]; rfl) (by first | (simp only [BO]; rfl) | rfl) (fun ht => ?_) (fun ht => ?_) <;> try (first | exact False.elim ht | exact absurd rfl ht | exact absurd trivial ht | exact Bool.noConfusion ht))
              | (with_reducible refine k_ret ?_; repeat with_reducible (first | refine ret_thru ?_ | refine ret_blk ?_ | refine fin ?_))
              | (with_reducible refine k_exit ?_; repeat with_reducible (first | refine thru ?_ | refine out_blk ?_ | refine pass (by decide) ?_))
              | (refine post1 ?_; simp only [GA, Nat.reduceEqDiff, ↓reduceIte])
              | (refine post2 ?_; simp only [GA, Nat.reduceEqDiff, ↓reduceIte])
              | (refine post3 ?_; simp only [GA, Nat.reduceEqDiff, ↓reduceIte])
              | (refine postc (by simp only [GA, Nat.reduceEqDiff, ↓reduceIte]; rfl) (by simp (disch := omega) only [jlt', rA, rB, hm, row_m hm, read_row (row_m hm), bi, bj, hu, c20r0, c20r1, c20r2, c20r3, c20r4, c20r5, c20r6, c20r7, c20r8, c20r9, c20r10, c20r12, c20r13, c20r14, c20r15, c20r16, c20r17, c20r18, c20r20, c20r22, EV0, EV1, EV2, EV3, EV4, EV5, EV6, EV7, EV8, VALS, plug, ite_same, decide_true, decide_false, eq_self, ↓reduceIte, reduceCtorEq, Nat.reduceAdd, Nat.reduceEqDiff, Nat.reduceLT, Nat.reduceLeDiff, Nat.reduceMul, Nat.reduceSub, Nat.reduceDiv, Int.reduceToNat, Int.reduceAdd, Int.reduceSub, Int.reduceMul, Int.reduceNeg, Int.reduceEq, Int.reduceLT, Int.reduceLE]; rfl) ?_)
              | refine post0 ?_
            exact ⟨jlt, (), (by simp only [Am.keep, List.map_cons, List.map_nil, GA, Nat.reduceEqDiff, ↓reduceIte]; try rfl), by simp (disch := omega) only [hm, c20r0, c20r1, c20r2, c20r3, c20r4, c20r5, c20r6, c20r7, c20r8, c20r9, c20r10, c20r12, c20r13, c20r14, c20r15, c20r16, c20r17, c20r18, c20r20, c20r22, EV0, EV1, EV2, EV3, EV4, EV5, EV6, EV7, EV8, VALS, plug, ite_same, decide_true, decide_false, eq_self, ↓reduceIte, reduceCtorEq, Nat.reduceAdd, Nat.reduceEqDiff, Nat.reduceLT, Nat.reduceLeDiff, Nat.reduceMul, Nat.reduceSub, Nat.reduceDiv, Int.reduceToNat, Int.reduceAdd, Int.reduceSub, Int.reduceMul, Int.reduceNeg, Int.reduceEq, Int.reduceLT, Int.reduceLE], fun k hk e => by
              by_cases q : k = j
              · subst q; rw [he] at e; cases e
              · exact hc2 k (by omega) e⟩
          | true =>
            rw [he] at q57
            by_cases n1 : hasI ns ns.length i
            · rw [decide_eq_true n1] at bi
              repeat' first
                | with_reducible refine k_seq ?_
                | with_reducible refine k_skip ?_
                | with_reducible refine k_blkS ?_
                | with_reducible refine k_blkR ?_
                | with_reducible refine k_blkC ?_
                | with_reducible refine k_blkH ?_
                | with_reducible refine k_blkB ?_
                | with_reducible refine k_blkK ?_
                | with_reducible refine k_blkE ?_
                | with_reducible refine k_reg ?_
                | with_reducible refine k_head (by with_unfolding_all rfl) ?_
                | with_reducible refine k_headS ?_
                | (with_reducible refine SepK.mk ?_ ?_; (refine sepQ_P ?_; simp [sepQ, sepG, AOp.late, AOp.free, AOp.xs, AOp.isAl, tokNe, AV.tok, stS_get, strip, AX.val, c20r0, c20r1, c20r2, c20r3, c20r4, c20r5, c20r6, c20r7, c20r8, c20r9, c20r10, c20r12, c20r13, c20r14, c20r15, c20r16, c20r17, c20r18, c20r20, c20r22, GA]; try omega))
                | with_reducible refine r_done ?_
                | with_reducible refine hr_done ?_
                | with_reducible refine s_go (by simp (disch := omega) only [jlt', rA, rB, hm, row_m hm, read_row (row_m hm), bi, bj, hu, c20r0, c20r1, c20r2, c20r3, c20r4, c20r5, c20r6, c20r7, c20r8, c20r9, c20r10, c20r12, c20r13, c20r14, c20r15, c20r16, c20r17, c20r18, c20r20, c20r22, EV0, EV1, EV2, EV3, EV4, EV5, EV6, EV7, EV8, VALS, plug, ite_same, decide_true, decide_false, eq_self, ↓reduceIte, reduceCtorEq, Nat.reduceAdd, Nat.reduceEqDiff, Nat.reduceLT, Nat.reduceLeDiff, Nat.reduceMul, Nat.reduceSub, Nat.reduceDiv, Int.reduceToNat, Int.reduceAdd, Int.reduceSub, Int.reduceMul, Int.reduceNeg, Int.reduceEq, Int.reduceLT, Int.reduceLE]; with_reducible rfl) ?_
                | with_reducible refine h_go (by with_unfolding_all rfl) (by simp (disch := omega) only [jlt', rA, rB, hm, row_m hm, read_row (row_m hm), bi, bj, hu, c20r0, c20r1, c20r2, c20r3, c20r4, c20r5, c20r6, c20r7, c20r8, c20r9, c20r10, c20r12, c20r13, c20r14, c20r15, c20r16, c20r17, c20r18, c20r20, c20r22, EV0, EV1, EV2, EV3, EV4, EV5, EV6, EV7, EV8, VALS, plug, ite_same, decide_true, decide_false, eq_self, ↓reduceIte, reduceCtorEq, Nat.reduceAdd, Nat.reduceEqDiff, Nat.reduceLT, Nat.reduceLeDiff, Nat.reduceMul, Nat.reduceSub, Nat.reduceDiv, Int.reduceToNat, Int.reduceAdd, Int.reduceSub, Int.reduceMul, Int.reduceNeg, Int.reduceEq, Int.reduceLT, Int.reduceLE]; with_reducible rfl) ?_
                | ((with_reducible refine chk_r ?_); refine r_callF (by simp only [CA, Nat.reduceEqDiff, ↓reduceIte]; rfl) (by exact rfl) (by simp only [CA, Nat.reduceEqDiff, ↓reduceIte]; rfl) rfl ?_)
                | ((with_reducible refine chk_h ?_); refine hr_callF (by simp only [CA, Nat.reduceEqDiff, ↓reduceIte]; rfl) (by exact rfl) (by simp only [CA, Nat.reduceEqDiff, ↓reduceIte]; rfl) rfl ?_)
                | ((with_reducible refine chk_r ?_); refine r_callP (by simp only [CA, Nat.reduceEqDiff, ↓reduceIte]; rfl) (by simp only [CA, Nat.reduceEqDiff, ↓reduceIte]; rfl) (by first | exact q57 _) rfl ?_)
                | ((with_reducible refine chk_h ?_); refine hr_callP (by simp only [CA, Nat.reduceEqDiff, ↓reduceIte]; rfl) (by simp only [CA, Nat.reduceEqDiff, ↓reduceIte]; rfl) (by first | exact q57 _) rfl ?_)
                | ((with_reducible refine chk_h ?_); refine hr_callP1 (by simp only [CA, Nat.reduceEqDiff, ↓reduceIte]; rfl) (by simp only [CA, Nat.reduceEqDiff, ↓reduceIte]; rfl) (by simp (disch := omega) only [CA, Nat.reduceEqDiff, ↓reduceIte, firstTok_nil, firstTok_sl, firstTok_sl0, firstTok_i, firstTok_b, firstTok_ag, firstTok_p, firstTok_s]; rfl) (by first | exact q57 _) rfl ?_)
                | ((with_reducible refine chk_h ?_); refine hr_app (by simp (disch := omega) only [jlt', rA, rB, hm, row_m hm, read_row (row_m hm), bi, bj, hu, c20r0, c20r1, c20r2, c20r3, c20r4, c20r5, c20r6, c20r7, c20r8, c20r9, c20r10, c20r12, c20r13, c20r14, c20r15, c20r16, c20r17, c20r18, c20r20, c20r22, EV0, EV1, EV2, EV3, EV4, EV5, EV6, EV7, EV8, VALS, plug, ite_same, decide_true, decide_false, eq_self, ↓reduceIte, reduceCtorEq, Nat.reduceAdd, Nat.reduceEqDiff, Nat.reduceLT, Nat.reduceLeDiff, Nat.reduceMul, Nat.reduceSub, Nat.reduceDiv, Int.reduceToNat, Int.reduceAdd, Int.reduceSub, Int.reduceMul, Int.reduceNeg, Int.reduceEq, Int.reduceLT, Int.reduceLE]; with_reducible rfl) rfl ?_)
                | (with_reducible refine k_condP (by simp only [GA, Nat.reduceEqDiff, ↓reduceIte]; rfl) (by first | (simp only [BO]; rfl) | rfl) (fun ht => ?_) (fun ht => ?_) <;> try (first | exact False.elim ht | exact absurd rfl ht | exact absurd trivial ht | exact Bool.noConfusion ht))
                | (with_reducible refine k_ret ?_; repeat with_reducible (first | refine ret_thru ?_ | refine ret_blk ?_ | refine fin ?_))
                | (with_reducible refine k_exit ?_; repeat with_reducible (first | refine thru ?_ | refine out_blk ?_ | refine pass (by decide) ?_))
                | (refine post1 ?_; simp only [GA, Nat.reduceEqDiff, ↓reduceIte])
                | (refine post2 ?_; simp only [GA, Nat.reduceEqDiff, ↓reduceIte])
                | (refine post3 ?_; simp only [GA, Nat.reduceEqDiff, ↓reduceIte])
                | (refine postc (by simp only [GA, Nat.reduceEqDiff, ↓reduceIte]; rfl) (by simp (disch := omega) only [jlt', rA, rB, hm, row_m hm, read_row (row_m hm), bi, bj, hu, c20r0, c20r1, c20r2, c20r3, c20r4, c20r5, c20r6, c20r7, c20r8, c20r9, c20r10, c20r12, c20r13, c20r14, c20r15, c20r16, c20r17, c20r18, c20r20, c20r22, EV0, EV1, EV2, EV3, EV4, EV5, EV6, EV7, EV8, VALS, plug, ite_same, decide_true, decide_false, eq_self, ↓reduceIte, reduceCtorEq, Nat.reduceAdd, Nat.reduceEqDiff, Nat.reduceLT, Nat.reduceLeDiff, Nat.reduceMul, Nat.reduceSub, Nat.reduceDiv, Int.reduceToNat, Int.reduceAdd, Int.reduceSub, Int.reduceMul, Int.reduceNeg, Int.reduceEq, Int.reduceLT, Int.reduceLE]; rfl) ?_)
                | refine post0 ?_
              exact ⟨jlt, (), (by simp only [Am.keep, List.map_cons, List.map_nil, GA, Nat.reduceEqDiff, ↓reduceIte]; try rfl), by simp (disch := omega) only [hm, c20r0, c20r1, c20r2, c20r3, c20r4, c20r5, c20r6, c20r7, c20r8, c20r9, c20r10, c20r12, c20r13, c20r14, c20r15, c20r16, c20r17, c20r18, c20r20, c20r22, EV0, EV1, EV2, EV3, EV4, EV5, EV6, EV7, EV8, VALS, plug, ite_same, decide_true, decide_false, eq_self, ↓reduceIte, reduceCtorEq, Nat.reduceAdd, Nat.reduceEqDiff, Nat.reduceLT, Nat.reduceLeDiff, Nat.reduceMul, Nat.reduceSub, Nat.reduceDiv, Int.reduceToNat, Int.reduceAdd, Int.reduceSub, Int.reduceMul, Int.reduceNeg, Int.reduceEq, Int.reduceLT, Int.reduceLE], fun k hk e => .inl n1⟩
            · rw [decide_eq_false n1] at bi
              by_cases n2 : hasI ns ns.length j
              · rw [decide_eq_true n2] at bj
                repeat' first
                  | with_reducible refine k_seq ?_
                  | with_reducible refine k_skip ?_
                  | with_reducible refine k_blkS ?_
                  | with_reducible refine k_blkR ?_
                  | with_reducible refine k_blkC ?_
                  | with_reducible refine k_blkH ?_
                  | with_reducible refine k_blkB ?_
                  | with_reducible refine k_blkK ?_
                  | with_reducible refine k_blkE ?_
                  | with_reducible refine k_reg ?_
                  | with_reducible refine k_head (by with_unfolding_all rfl) ?_
                  | with_reducible refine k_headS ?_
                  | (with_reducible refine SepK.mk ?_ ?_; (refine sepQ_P ?_; simp [sepQ, sepG, AOp.late, AOp.free, AOp.xs, AOp.isAl, tokNe, AV.tok, stS_get, strip, AX.val, c20r0, c20r1, c20r2, c20r3, c20r4, c20r5, c20r6, c20r7, c20r8, c20r9, c20r10, c20r12, c20r13, c20r14, c20r15, c20r16, c20r17, c20r18, c20r20, c20r22, GA]; try omega))
                  | with_reducible refine r_done ?_
                  | with_reducible refine hr_done ?_
                  | with_reducible refine s_go (by simp (disch := omega) only [jlt', rA, rB, hm, row_m hm, read_row (row_m hm), bi, bj, hu, c20r0, c20r1, c20r2, c20r3, c20r4, c20r5, c20r6, c20r7, c20r8, c20r9, c20r10, c20r12, c20r13, c20r14, c20r15, c20r16, c20r17, c20r18, c20r20, c20r22, EV0, EV1, EV2, EV3, EV4, EV5, EV6, EV7, EV8, VALS, plug, ite_same, decide_true, decide_false, eq_self, ↓reduceIte, reduceCtorEq, Nat.reduceAdd, Nat.reduceEqDiff, Nat.reduceLT, Nat.reduceLeDiff, Nat.reduceMul, Nat.reduceSub, Nat.reduceDiv, Int.reduceToNat, Int.reduceAdd, Int.reduceSub, Int.reduceMul, Int.reduceNeg, Int.reduceEq, Int.reduceLT, Int.reduceLE]; with_reducible rfl) ?_
                  | with_reducible refine h_go (by with_unfolding_all rfl) (by simp (disch := omega) only [jlt', rA, rB, hm, row_m hm, read_row (row_m hm), bi, bj, hu, c20r0, c20r1, c20r2, c20r3, c20r4, c20r5, c20r6, c20r7, c20r8, c20r9, c20r10, c20r12, c20r13, c20r14, c20r15, c20r16, c20r17, c20r18, c20r20, c20r22, EV0, EV1, EV2, EV3, EV4, EV5, EV6, EV7, EV8, VALS, plug, ite_same, decide_true, decide_false, eq_self, ↓reduceIte, reduceCtorEq, Nat.reduceAdd, Nat.reduceEqDiff, Nat.reduceLT, Nat.reduceLeDiff, Nat.reduceMul, Nat.reduceSub, Nat.reduceDiv, Int.reduceToNat, Int.reduceAdd, Int.reduceSub, Int.reduceMul, Int.reduceNeg, Int.reduceEq, Int.reduceLT, Int.reduceLE]; with_reducible rfl) ?_
                  | ((with_reducible refine chk_r ?_); refine r_callF (by simp only [CA, Nat.reduceEqDiff, ↓reduceIte]; rfl) (by exact rfl) (by simp only [CA, Nat.reduceEqDiff, ↓reduceIte]; rfl) rfl ?_)
                  | ((with_reducible refine chk_h ?_); refine hr_callF (by simp only [CA, Nat.reduceEqDiff, ↓reduceIte]; rfl) (by exact rfl) (by simp only [CA, Nat.reduceEqDiff, ↓reduceIte]; rfl) rfl ?_)
                  | ((with_reducible refine chk_r ?_); refine r_callP (by simp only [CA, Nat.reduceEqDiff, ↓reduceIte]; rfl) (by simp only [CA, Nat.reduceEqDiff, ↓reduceIte]; rfl) (by first | exact q57 _) rfl ?_)
                  | ((with_reducible refine chk_h ?_); refine hr_callP (by simp only [CA, Nat.reduceEqDiff, ↓reduceIte]; rfl) (by simp only [CA, Nat.reduceEqDiff, ↓reduceIte]; rfl) (by first | exact q57 _) rfl ?_)
                  | ((with_reducible refine chk_h ?_); refine hr_callP1 (by simp only [CA, Nat.reduceEqDiff, ↓reduceIte]; rfl) (by simp only [CA, Nat.reduceEqDiff, ↓reduceIte]; rfl) (by simp (disch := omega) only [CA, Nat.reduceEqDiff, ↓reduceIte, firstTok_nil, firstTok_sl, firstTok_sl0, firstTok_i, firstTok_b, firstTok_ag, firstTok_p, firstTok_s]; rfl) (by first | exact q57 _) rfl ?_)
                  | ((with_reducible refine chk_h ?_); refine hr_app (by simp (disch := omega) only [jlt', rA, rB, hm, row_m hm, read_row (row_m hm), bi, bj, hu, c20r0, c20r1, c20r2, c20r3, c20r4, c20r5, c20r6, c20r7, c20r8, c20r9, c20r10, c20r12, c20r13, c20r14, c20r15, c20r16, c20r17, c20r18, c20r20, c20r22, EV0, EV1, EV2, EV3, EV4, EV5, EV6, EV7, EV8, VALS, plug, ite_same, decide_true, decide_false, eq_self, ↓reduceIte, reduceCtorEq, Nat.reduceAdd, Nat.reduceEqDiff, Nat.reduceLT, Nat.reduceLeDiff, Nat.reduceMul, Nat.reduceSub, Nat.reduceDiv, Int.reduceToNat, Int.reduceAdd, Int.reduceSub, Int.reduceMul, Int.reduceNeg, Int.reduceEq, Int.reduceLT, Int.reduceLE]; with_reducible rfl) rfl ?_)
                  | (with_reducible refine k_condP (by simp only [GA, Nat.reduceEqDiff, ↓reduceIte]; rfl) (by first | (simp only [BO]; rfl) | rfl) (fun ht => ?_) (fun ht => ?_) <;> try (first | exact False.elim ht | exact absurd rfl ht | exact absurd trivial ht | exact Bool.noConfusion ht))
                  | (with_reducible refine k_ret ?_; repeat with_reducible (first | refine ret_thru ?_ | refine ret_blk ?_ | refine fin ?_))
                  | (with_reducible refine k_exit ?_; repeat with_reducible (first | refine thru ?_ | refine out_blk ?_ | refine pass (by decide) ?_))
                  | (refine post1 ?_; simp only [GA, Nat.reduceEqDiff, ↓reduceIte])
                  | (refine post2 ?_; simp only [GA, Nat.reduceEqDiff, ↓reduceIte])
                  | (refine post3 ?_; simp only [GA, Nat.reduceEqDiff, ↓reduceIte])
                  | (refine postc (by simp only [GA, Nat.reduceEqDiff, ↓reduceIte]; rfl) (by simp (disch := omega) only [jlt', rA, rB, hm, row_m hm, read_row (row_m hm), bi, bj, hu, c20r0, c20r1, c20r2, c20r3, c20r4, c20r5, c20r6, c20r7, c20r8, c20r9, c20r10, c20r12, c20r13, c20r14, c20r15, c20r16, c20r17, c20r18, c20r20, c20r22, EV0, EV1, EV2, EV3, EV4, EV5, EV6, EV7, EV8, VALS, plug, ite_same, decide_true, decide_false, eq_self, ↓reduceIte, reduceCtorEq, Nat.reduceAdd, Nat.reduceEqDiff, Nat.reduceLT, Nat.reduceLeDiff, Nat.reduceMul, Nat.reduceSub, Nat.reduceDiv, Int.reduceToNat, Int.reduceAdd, Int.reduceSub, Int.reduceMul, Int.reduceNeg, Int.reduceEq, Int.reduceLT, Int.reduceLE]; rfl) ?_)
                  | refine post0 ?_
                exact ⟨jlt, (), (by simp only [Am.keep, List.map_cons, List.map_nil, GA, Nat.reduceEqDiff, ↓reduceIte]; try rfl), by simp (disch := omega) only [hm, c20r0, c20r1, c20r2, c20r3, c20r4, c20r5, c20r6, c20r7, c20r8, c20r9, c20r10, c20r12, c20r13, c20r14, c20r15, c20r16, c20r17, c20r18, c20r20, c20r22, EV0, EV1, EV2, EV3, EV4, EV5, EV6, EV7, EV8, VALS, plug, ite_same, decide_true, decide_false, eq_self, ↓reduceIte, reduceCtorEq, Nat.reduceAdd, Nat.reduceEqDiff, Nat.reduceLT, Nat.reduceLeDiff, Nat.reduceMul, Nat.reduceSub, Nat.reduceDiv, Int.reduceToNat, Int.reduceAdd, Int.reduceSub, Int.reduceMul, Int.reduceNeg, Int.reduceEq, Int.reduceLT, Int.reduceLE], fun k hk e => by
                  by_cases q : k = j
                  · subst q; exact .inr n2
                  · exact hc2 k (by omega) e⟩
              · rw [decide_eq_false n2] at bj
                repeat' first
                  | with_reducible refine k_seq ?_
                  | with_reducible refine k_skip ?_
                  | with_reducible refine k_blkS ?_
                  | with_reducible refine k_blkR ?_
                  | with_reducible refine k_blkC ?_
                  | with_reducible refine k_blkH ?_
                  | with_reducible refine k_blkB ?_
                  | with_reducible refine k_blkK ?_
                  | with_reducible refine k_blkE ?_
                  | with_reducible refine k_reg ?_
                  | with_reducible refine k_head (by with_unfolding_all rfl) ?_
                  | with_reducible refine k_headS ?_
                  | (with_reducible refine SepK.mk ?_ ?_; (refine sepQ_P ?_; simp [sepQ, sepG, AOp.late, AOp.free, AOp.xs, AOp.isAl, tokNe, AV.tok, stS_get, strip, AX.val, c20r0, c20r1, c20r2, c20r3, c20r4, c20r5, c20r6, c20r7, c20r8, c20r9, c20r10, c20r12, c20r13, c20r14, c20r15, c20r16, c20r17, c20r18, c20r20, c20r22, GA]; try omega))
                  | with_reducible refine r_done ?_
                  | with_reducible refine hr_done ?_
                  | with_reducible refine s_go (by simp (disch := omega) only [jlt', rA, rB, hm, row_m hm, read_row (row_m hm), bi, bj, hu, c20r0, c20r1, c20r2, c20r3, c20r4, c20r5, c20r6, c20r7, c20r8, c20r9, c20r10, c20r12, c20r13, c20r14, c20r15, c20r16, c20r17, c20r18, c20r20, c20r22, EV0, EV1, EV2, EV3, EV4, EV5, EV6, EV7, EV8, VALS, plug, ite_same, decide_true, decide_false, eq_self, ↓reduceIte, reduceCtorEq, Nat.reduceAdd, Nat.reduceEqDiff, Nat.reduceLT, Nat.reduceLeDiff, Nat.reduceMul, Nat.reduceSub, Nat.reduceDiv, Int.reduceToNat, Int.reduceAdd, Int.reduceSub, Int.reduceMul, Int.reduceNeg, Int.reduceEq, Int.reduceLT, Int.reduceLE]; with_reducible rfl) ?_
                  | with_reducible refine h_go (by with_unfolding_all rfl) (by simp (disch := omega) only [jlt', rA, rB, hm, row_m hm, read_row (row_m hm), bi, bj, hu, c20r0, c20r1, c20r2, c20r3, c20r4, c20r5, c20r6, c20r7, c20r8, c20r9, c20r10, c20r12, c20r13, c20r14, c20r15, c20r16, c20r17, c20r18, c20r20, c20r22, EV0, EV1, EV2, EV3, EV4, EV5, EV6, EV7, EV8, VALS, plug, ite_same, decide_true, decide_false, eq_self, ↓reduceIte, reduceCtorEq, Nat.reduceAdd, Nat.reduceEqDiff, Nat.reduceLT, Nat.reduceLeDiff, Nat.reduceMul, Nat.reduceSub, Nat.reduceDiv, Int.reduceToNat, Int.reduceAdd, Int.reduceSub, Int.reduceMul, Int.reduceNeg, Int.reduceEq, Int.reduceLT, Int.reduceLE]; with_reducible rfl) ?_
                  | ((with_reducible refine chk_r ?_); refine r_callF (by simp only [CA, Nat.reduceEqDiff, ↓reduceIte]; rfl) (by exact rfl) (by simp only [CA, Nat.reduceEqDiff, ↓reduceIte]; rfl) rfl ?_)
                  | ((with_reducible refine chk_h ?_); refine hr_callF (by simp only [CA, Nat.reduceEqDiff, ↓reduceIte]; rfl) (by exact rfl) (by simp only [CA, Nat.reduceEqDiff, ↓reduceIte]; rfl) rfl ?_)
                  | ((with_reducible refine chk_r ?_); refine r_callP (by simp only [CA, Nat.reduceEqDiff, ↓reduceIte]; rfl) (by simp only [CA, Nat.reduceEqDiff, ↓reduceIte]; rfl) (by first | exact q57 _) rfl ?_)
                  | ((with_reducible refine chk_h ?_); refine hr_callP (by simp only [CA, Nat.reduceEqDiff, ↓reduceIte]; rfl) (by simp only [CA, Nat.reduceEqDiff, ↓reduceIte]; rfl) (by first | exact q57 _) rfl ?_)
                  | ((with_reducible refine chk_h ?_); refine hr_callP1 (by simp only [CA, Nat.reduceEqDiff, ↓reduceIte]; rfl) (by simp only [CA, Nat.reduceEqDiff, ↓reduceIte]; rfl) (by simp (disch := omega) only [CA, Nat.reduceEqDiff, ↓reduceIte, firstTok_nil, firstTok_sl, firstTok_sl0, firstTok_i, firstTok_b, firstTok_ag, firstTok_p, firstTok_s]; rfl) (by first | exact q57 _) rfl ?_)
                  | ((with_reducible refine chk_h ?_); refine hr_app (by simp (disch := omega) only [jlt', rA, rB, hm, row_m hm, read_row (row_m hm), bi, bj, hu, c20r0, c20r1, c20r2, c20r3, c20r4, c20r5, c20r6, c20r7, c20r8, c20r9, c20r10, c20r12, c20r13, c20r14, c20r15, c20r16, c20r17, c20r18, c20r20, c20r22, EV0, EV1, EV2, EV3, EV4, EV5, EV6, EV7, EV8, VALS, plug, ite_same, decide_true, decide_false, eq_self, ↓reduceIte, reduceCtorEq, Nat.reduceAdd, Nat.reduceEqDiff, Nat.reduceLT, Nat.reduceLeDiff, Nat.reduceMul, Nat.reduceSub, Nat.reduceDiv, Int.reduceToNat, Int.reduceAdd, Int.reduceSub, Int.reduceMul, Int.reduceNeg, Int.reduceEq, Int.reduceLT, Int.reduceLE]; with_reducible rfl) rfl ?_)
                  | (with_reducible refine k_condP (by simp only [GA, Nat.reduceEqDiff, ↓reduceIte]; rfl) (by first | (simp only [BO]; rfl) | rfl) (fun ht => ?_) (fun ht => ?_) <;> try (first | exact False.elim ht | exact absurd rfl ht | exact absurd trivial ht | exact Bool.noConfusion ht))
                  | (with_reducible refine k_ret ?_; repeat with_reducible (first | refine ret_thru ?_ | refine ret_blk ?_ | refine fin ?_))
                  | (with_reducible refine k_exit ?_; repeat with_reducible (first | refine thru ?_ | refine out_blk ?_ | refine pass (by decide) ?_))
                  | (refine post1 ?_; simp only [GA, Nat.reduceEqDiff, ↓reduceIte])
                  | (refine post2 ?_; simp only [GA, Nat.reduceEqDiff, ↓reduceIte])
                  | (refine post3 ?_; simp only [GA, Nat.reduceEqDiff, ↓reduceIte])
                  | (refine postc (by simp only [GA, Nat.reduceEqDiff, ↓reduceIte]; rfl) (by simp (disch := omega) only [jlt', rA, rB, hm, row_m hm, read_row (row_m hm), bi, bj, hu, c20r0, c20r1, c20r2, c20r3, c20r4, c20r5, c20r6, c20r7, c20r8, c20r9, c20r10, c20r12, c20r13, c20r14, c20r15, c20r16, c20r17, c20r18, c20r20, c20r22, EV0, EV1, EV2, EV3, EV4, EV5, EV6, EV7, EV8, VALS, plug, ite_same, decide_true, decide_false, eq_self, ↓reduceIte, reduceCtorEq, Nat.reduceAdd, Nat.reduceEqDiff, Nat.reduceLT, Nat.reduceLeDiff, Nat.reduceMul, Nat.reduceSub, Nat.reduceDiv, Int.reduceToNat, Int.reduceAdd, Int.reduceSub, Int.reduceMul, Int.reduceNeg, Int.reduceEq, Int.reduceLT, Int.reduceLE]; rfl) ?_)
                  | refine post0 ?_
                exact stop (isG_no h0 hg ilt jlt he n1 n2) _
        · obtain rfl : j = i := by omega
          have jlt' : ¬ (j : Int) < j := by omega
          repeat' first
            | with_reducible refine k_seq ?_
            | with_reducible refine k_skip ?_
            | with_reducible refine k_blkS ?_
            | with_reducible refine k_blkR ?_
            | with_reducible refine k_blkC ?_
            | with_reducible refine k_blkH ?_
            | with_reducible refine k_blkB ?_
            | with_reducible refine k_blkK ?_
            | with_reducible refine k_blkE ?_
            | with_reducible refine k_reg ?_
            | with_reducible refine k_head (by with_unfolding_all rfl) ?_
            | with_reducible refine k_headS ?_
            | (with_reducible refine SepK.mk ?_ ?_; (refine sepQ_P ?_; simp [sepQ, sepG, AOp.late, AOp.free, AOp.xs, AOp.isAl, tokNe, AV.tok, stS_get, strip, AX.val, c20r0, c20r1, c20r2, c20r3, c20r4, c20r5, c20r6, c20r7, c20r8, c20r9, c20r10, c20r12, c20r13, c20r14, c20r15, c20r16, c20r17, c20r18, c20r20, c20r22, GA]; try omega))
            | with_reducible refine r_done ?_
            | with_reducible refine hr_done ?_
            | with_reducible refine s_go (by simp (disch := omega) only [jlt', c20r0, c20r1, c20r2, c20r3, c20r4, c20r5, c20r6, c20r7, c20r8, c20r9, c20r10, c20r12, c20r13, c20r14, c20r15, c20r16, c20r17, c20r18, c20r20, c20r22, EV0, EV1, EV2, EV3, EV4, EV5, EV6, EV7, EV8, VALS, plug, ite_same, decide_true, decide_false, eq_self, ↓reduceIte, reduceCtorEq, Nat.reduceAdd, Nat.reduceEqDiff, Nat.reduceLT, Nat.reduceLeDiff, Nat.reduceMul, Nat.reduceSub, Nat.reduceDiv, Int.reduceToNat, Int.reduceAdd, Int.reduceSub, Int.reduceMul, Int.reduceNeg, Int.reduceEq, Int.reduceLT, Int.reduceLE]; with_reducible rfl) ?_
            | with_reducible refine h_go (by with_unfolding_all rfl) (by simp (disch := omega) only [jlt', c20r0, c20r1, c20r2, c20r3, c20r4, c20r5, c20r6, c20r7, c20r8, c20r9, c20r10, c20r12, c20r13, c20r14, c20r15, c20r16, c20r17, c20r18, c20r20, c20r22, EV0, EV1, EV2, EV3, EV4, EV5, EV6, EV7, EV8, VALS, plug, ite_same, decide_true, decide_false, eq_self, ↓reduceIte, reduceCtorEq, Nat.reduceAdd, Nat.reduceEqDiff, Nat.reduceLT, Nat.reduceLeDiff, Nat.reduceMul, Nat.reduceSub, Nat.reduceDiv, Int.reduceToNat, Int.reduceAdd, Int.reduceSub, Int.reduceMul, Int.reduceNeg, Int.reduceEq, Int.reduceLT, Int.reduceLE]; with_reducible rfl) ?_
            | ((with_reducible refine chk_r ?_); refine r_callF (by simp only [CA, Nat.reduceEqDiff, ↓reduceIte]; rfl) (by exact rfl) (by simp only [CA, Nat.reduceEqDiff, ↓reduceIte]; rfl) rfl ?_)
            | ((with_reducible refine chk_h ?_); refine hr_callF (by simp only [CA, Nat.reduceEqDiff, ↓reduceIte]; rfl) (by exact rfl) (by simp only [CA, Nat.reduceEqDiff, ↓reduceIte]; rfl) rfl ?_)
            | ((with_reducible refine chk_h ?_); refine hr_app (by simp (disch := omega) only [jlt', c20r0, c20r1, c20r2, c20r3, c20r4, c20r5, c20r6, c20r7, c20r8, c20r9, c20r10, c20r12, c20r13, c20r14, c20r15, c20r16, c20r17, c20r18, c20r20, c20r22, EV0, EV1, EV2, EV3, EV4, EV5, EV6, EV7, EV8, VALS, plug, ite_same, decide_true, decide_false, eq_self, ↓reduceIte, reduceCtorEq, Nat.reduceAdd, Nat.reduceEqDiff, Nat.reduceLT, Nat.reduceLeDiff, Nat.reduceMul, Nat.reduceSub, Nat.reduceDiv, Int.reduceToNat, Int.reduceAdd, Int.reduceSub, Int.reduceMul, Int.reduceNeg, Int.reduceEq, Int.reduceLT, Int.reduceLE]; with_reducible rfl) rfl ?_)
            | (with_reducible refine k_condP (by simp only [GA, Nat.reduceEqDiff, ↓reduceIte]; rfl) (by first | (simp only [BO]; rfl) | rfl) (fun ht => ?_) (fun ht => ?_) <;> try (first | exact False.elim ht | exact absurd rfl ht | exact absurd trivial ht | exact Bool.noConfusion ht))
            | (with_reducible refine k_ret ?_; repeat with_reducible (first | refine ret_thru ?_ | refine ret_blk ?_ | refine fin ?_))
            | (with_reducible refine k_exit ?_; repeat with_reducible (first | refine thru ?_ | refine out_blk ?_ | refine pass (by decide) ?_))
            | (refine post1 ?_; simp only [GA, Nat.reduceEqDiff, ↓reduceIte])
            | (refine post2 ?_; simp only [GA, Nat.reduceEqDiff, ↓reduceIte])
            | (refine post3 ?_; simp only [GA, Nat.reduceEqDiff, ↓reduceIte])
            | (refine postc (by simp only [GA, Nat.reduceEqDiff, ↓reduceIte]; rfl) (by simp (disch := omega) only [jlt', c20r0, c20r1, c20r2, c20r3, c20r4, c20r5, c20r6, c20r7, c20r8, c20r9, c20r10, c20r12, c20r13, c20r14, c20r15, c20r16, c20r17, c20r18, c20r20, c20r22, EV0, EV1, EV2, EV3, EV4, EV5, EV6, EV7, EV8, VALS, plug, ite_same, decide_true, decide_false, eq_self, ↓reduceIte, reduceCtorEq, Nat.reduceAdd, Nat.reduceEqDiff, Nat.reduceLT, Nat.reduceLeDiff, Nat.reduceMul, Nat.reduceSub, Nat.reduceDiv, Int.reduceToNat, Int.reduceAdd, Int.reduceSub, Int.reduceMul, Int.reduceNeg, Int.reduceEq, Int.reduceLT, Int.reduceLE]; rfl) ?_)
            | refine post0 ?_
          exact ⟨ilt, (), (by simp only [Am.keep, List.map_cons, List.map_nil, GA, Nat.reduceEqDiff, ↓reduceIte]; try rfl), by simp (disch := omega) only [hm, c20r0, c20r1, c20r2, c20r3, c20r4, c20r5, c20r6, c20r7, c20r8, c20r9, c20r10, c20r12, c20r13, c20r14, c20r15, c20r16, c20r17, c20r18, c20r20, c20r22, EV0, EV1, EV2, EV3, EV4, EV5, EV6, EV7, EV8, VALS, plug, ite_same, decide_true, decide_false, eq_self, ↓reduceIte, reduceCtorEq, Nat.reduceAdd, Nat.reduceEqDiff, Nat.reduceLT, Nat.reduceLeDiff, Nat.reduceMul, Nat.reduceSub, Nat.reduceDiv, Int.reduceToNat, Int.reduceAdd, Int.reduceSub, Int.reduceMul, Int.reduceNeg, Int.reduceEq, Int.reduceLT, Int.reduceLE], fun i' hi' k hk e => by
            by_cases q : i' = j
            · subst q; exact hc2 k hk e
            · exact hc i' (by omega) k hk e⟩
      · obtain rfl : i = l.length := by omega
        have ilt' : ¬ (l.length : Int) < l.length := by omega
        repeat' first
          | with_reducible refine k_seq ?_
          | with_reducible refine k_skip ?_
          | with_reducible refine k_blkS ?_
          | with_reducible refine k_blkR ?_
          | with_reducible refine k_blkC ?_
          | with_reducible refine k_blkH ?_
          | with_reducible refine k_blkB ?_
          | with_reducible refine k_blkK ?_
          | with_reducible refine k_blkE ?_
          | with_reducible refine k_reg ?_
          | with_reducible refine k_head (by with_unfolding_all rfl) ?_
          | with_reducible refine k_headS ?_
          | (with_reducible refine SepK.mk ?_ ?_; (refine sepQ_P ?_; simp [sepQ, sepG, AOp.late, AOp.free, AOp.xs, AOp.isAl, tokNe, AV.tok, stS_get, strip, AX.val, c20r0, c20r1, c20r2, c20r3, c20r4, c20r5, c20r6, c20r7, c20r8, c20r9, c20r10, c20r12, c20r13, c20r14, c20r15, c20r16, c20r17, c20r18, c20r20, c20r22, GA]; try omega))
          | with_reducible refine r_done ?_
          | with_reducible refine hr_done ?_
          | with_reducible refine s_go (by simp (disch := omega) only [ilt', c20r0, c20r1, c20r2, c20r3, c20r4, c20r5, c20r6, c20r7, c20r8, c20r9, c20r10, c20r12, c20r13, c20r14, c20r15, c20r16, c20r17, c20r18, c20r20, c20r22, EV0, EV1, EV2, EV3, EV4, EV5, EV6, EV7, EV8, VALS, plug, ite_same, decide_true, decide_false, eq_self, ↓reduceIte, reduceCtorEq, Nat.reduceAdd, Nat.reduceEqDiff, Nat.reduceLT, Nat.reduceLeDiff, Nat.reduceMul, Nat.reduceSub, Nat.reduceDiv, Int.reduceToNat, Int.reduceAdd, Int.reduceSub, Int.reduceMul, Int.reduceNeg, Int.reduceEq, Int.reduceLT, Int.reduceLE]; with_reducible rfl) ?_
          | with_reducible refine h_go (by with_unfolding_all rfl) (by simp (disch := omega) only [ilt', c20r0, c20r1, c20r2, c20r3, c20r4, c20r5, c20r6, c20r7, c20r8, c20r9, c20r10, c20r12, c20r13, c20r14, c20r15, c20r16, c20r17, c20r18, c20r20, c20r22, EV0, EV1, EV2, EV3, EV4, EV5, EV6, EV7, EV8, VALS, plug, ite_same, decide_true, decide_false, eq_self, ↓reduceIte, reduceCtorEq, Nat.reduceAdd, Nat.reduceEqDiff, Nat.reduceLT, Nat.reduceLeDiff, Nat.reduceMul, Nat.reduceSub, Nat.reduceDiv, Int.reduceToNat, Int.reduceAdd, Int.reduceSub, Int.reduceMul, Int.reduceNeg, Int.reduceEq, Int.reduceLT, Int.reduceLE]; with_reducible rfl) ?_
          | ((with_reducible refine chk_r ?_); refine r_callF (by simp only [CA, Nat.reduceEqDiff, ↓reduceIte]; rfl) (by exact rfl) (by simp only [CA, Nat.reduceEqDiff, ↓reduceIte]; rfl) rfl ?_)
          | ((with_reducible refine chk_h ?_); refine hr_callF (by simp only [CA, Nat.reduceEqDiff, ↓reduceIte]; rfl) (by exact rfl) (by simp only [CA, Nat.reduceEqDiff, ↓reduceIte]; rfl) rfl ?_)
          | ((with_reducible refine chk_h ?_); refine hr_app (by simp (disch := omega) only [ilt', c20r0, c20r1, c20r2, c20r3, c20r4, c20r5, c20r6, c20r7, c20r8, c20r9, c20r10, c20r12, c20r13, c20r14, c20r15, c20r16, c20r17, c20r18, c20r20, c20r22, EV0, EV1, EV2, EV3, EV4, EV5, EV6, EV7, EV8, VALS, plug, ite_same, decide_true, decide_false, eq_self, ↓reduceIte, reduceCtorEq, Nat.reduceAdd, Nat.reduceEqDiff, Nat.reduceLT, Nat.reduceLeDiff, Nat.reduceMul, Nat.reduceSub, Nat.reduceDiv, Int.reduceToNat, Int.reduceAdd, Int.reduceSub, Int.reduceMul, Int.reduceNeg, Int.reduceEq, Int.reduceLT, Int.reduceLE]; with_reducible rfl) rfl ?_)
          | (with_reducible refine k_condP (by simp only [GA, Nat.reduceEqDiff, ↓reduceIte]; rfl) (by first | (simp only [BO]; rfl) | rfl) (fun ht => ?_) (fun ht => ?_) <;> try (first | exact False.elim ht | exact absurd rfl ht | exact absurd trivial ht | exact Bool.noConfusion ht))
          | (with_reducible refine k_ret ?_; repeat with_reducible (first | refine ret_thru ?_ | refine ret_blk ?_ | refine fin ?_))
          | (with_reducible refine k_exit ?_; repeat with_reducible (first | refine thru ?_ | refine out_blk ?_ | refine pass (by decide) ?_))
          | (refine post1 ?_; simp only [GA, Nat.reduceEqDiff, ↓reduceIte])
          | (refine post2 ?_; simp only [GA, Nat.reduceEqDiff, ↓reduceIte])
          | (refine post3 ?_; simp only [GA, Nat.reduceEqDiff, ↓reduceIte])
          | (refine postc (by simp only [GA, Nat.reduceEqDiff, ↓reduceIte]; rfl) (by simp (disch := omega) only [ilt', c20r0, c20r1, c20r2, c20r3, c20r4, c20r5, c20r6, c20r7, c20r8, c20r9, c20r10, c20r12, c20r13, c20r14, c20r15, c20r16, c20r17, c20r18, c20r20, c20r22, EV0, EV1, EV2, EV3, EV4, EV5, EV6, EV7, EV8, VALS, plug, ite_same, decide_true, decide_false, eq_self, ↓reduceIte, reduceCtorEq, Nat.reduceAdd, Nat.reduceEqDiff, Nat.reduceLT, Nat.reduceLeDiff, Nat.reduceMul, Nat.reduceSub, Nat.reduceDiv, Int.reduceToNat, Int.reduceAdd, Int.reduceSub, Int.reduceMul, Int.reduceNeg, Int.reduceEq, Int.reduceLT, Int.reduceLE]; rfl) ?_)
          | refine post0 ?_
        exact stop (isG_yes h0 hg hc) _
  · rw [isG_err h0]
    generalize asked l tol = A at q h0 ⊢
    repeat' first
      | with_reducible refine k_seq ?_
      | with_reducible refine k_skip ?_
      | with_reducible refine k_blkS ?_
      | with_reducible refine k_blkR ?_
      | with_reducible refine k_blkC ?_
      | with_reducible refine k_blkH ?_
      | with_reducible refine k_blkB ?_
      | with_reducible refine k_blkK ?_
      | with_reducible refine k_blkE ?_
      | with_reducible refine k_reg ?_
      | with_reducible refine k_head (by with_unfolding_all rfl) ?_
      | with_reducible refine k_headS ?_
      | (with_reducible refine SepK.mk ?_ ?_; (refine sepQ_P ?_; simp [sepQ, sepG, AOp.late, AOp.free, AOp.xs, AOp.isAl, tokNe, AV.tok, stS_get, strip, AX.val, c20r0, c20r1, c20r2, c20r3, c20r4, c20r5, c20r6, c20r7, c20r8, c20r9, c20r10, c20r12, c20r13, c20r14, c20r15, c20r16, c20r17, c20r18, c20r20, c20r22, GA]; try omega))
      | with_reducible refine r_done ?_
      | with_reducible refine hr_done ?_
      | with_reducible refine s_go (by simp (disch := omega) only [h0, c20r0, c20r1, c20r2, c20r3, c20r4, c20r5, c20r6, c20r7, c20r8, c20r9, c20r10, c20r12, c20r13, c20r14, c20r15, c20r16, c20r17, c20r18, c20r20, c20r22, EV0, EV1, EV2, EV3, EV4, EV5, EV6, EV7, EV8, VALS, plug, ite_same, decide_true, decide_false, eq_self, ↓reduceIte, reduceCtorEq, Nat.reduceAdd, Nat.reduceEqDiff, Nat.reduceLT, Nat.reduceLeDiff, Nat.reduceMul, Nat.reduceSub, Nat.reduceDiv, Int.reduceToNat, Int.reduceAdd, Int.reduceSub, Int.reduceMul, Int.reduceNeg, Int.reduceEq, Int.reduceLT, Int.reduceLE]; with_reducible rfl) ?_
      | with_reducible refine h_go (by with_unfolding_all rfl) (by simp (disch := omega) only [h0, c20r0, c20r1, c20r2, c20r3, c20r4, c20r5, c20r6, c20r7, c20r8, c20r9, c20r10, c20r12, c20r13, c20r14, c20r15, c20r16, c20r17, c20r18, c20r20, c20r22, EV0, EV1, EV2, EV3, EV4, EV5, EV6, EV7, EV8, VALS, plug, ite_same, decide_true, decide_false, eq_self, ↓reduceIte, reduceCtorEq, Nat.reduceAdd, Nat.reduceEqDiff, Nat.reduceLT, Nat.reduceLeDiff, Nat.reduceMul, Nat.reduceSub, Nat.reduceDiv, Int.reduceToNat, Int.reduceAdd, Int.reduceSub, Int.reduceMul, Int.reduceNeg, Int.reduceEq, Int.reduceLT, Int.reduceLE]; with_reducible rfl) ?_
      | ((with_reducible refine chk_r ?_); refine r_callF (by simp only [CA, Nat.reduceEqDiff, ↓reduceIte]; rfl) (by exact rfl) (by simp only [CA, Nat.reduceEqDiff, ↓reduceIte]; rfl) rfl ?_)
      | ((with_reducible refine chk_h ?_); refine hr_callF (by simp only [CA, Nat.reduceEqDiff, ↓reduceIte]; rfl) (by exact rfl) (by simp only [CA, Nat.reduceEqDiff, ↓reduceIte]; rfl) rfl ?_)
      | ((with_reducible refine chk_r ?_); refine r_callP (by simp only [CA, Nat.reduceEqDiff, ↓reduceIte]; rfl) (by simp only [CA, Nat.reduceEqDiff, ↓reduceIte]; rfl) (by first | exact q _) rfl ?_)
      | ((with_reducible refine chk_h ?_); refine hr_callP (by simp only [CA, Nat.reduceEqDiff, ↓reduceIte]; rfl) (by simp only [CA, Nat.reduceEqDiff, ↓reduceIte]; rfl) (by first | exact q _) rfl ?_)
      | ((with_reducible refine chk_h ?_); refine hr_callP1 (by simp only [CA, Nat.reduceEqDiff, ↓reduceIte]; rfl) (by simp only [CA, Nat.reduceEqDiff, ↓reduceIte]; rfl) (by simp (disch := omega) only [CA, Nat.reduceEqDiff, ↓reduceIte, firstTok_nil, firstTok_sl, firstTok_sl0, firstTok_i, firstTok_b, firstTok_ag, firstTok_p, firstTok_s]; rfl) (by first | exact q _) rfl ?_)
      | ((with_reducible refine chk_h ?_); refine hr_app (by simp (disch := omega) only [h0, c20r0, c20r1, c20r2, c20r3, c20r4, c20r5, c20r6, c20r7, c20r8, c20r9, c20r10, c20r12, c20r13, c20r14, c20r15, c20r16, c20r17, c20r18, c20r20, c20r22, EV0, EV1, EV2, EV3, EV4, EV5, EV6, EV7, EV8, VALS, plug, ite_same, decide_true, decide_false, eq_self, ↓reduceIte, reduceCtorEq, Nat.reduceAdd, Nat.reduceEqDiff, Nat.reduceLT, Nat.reduceLeDiff, Nat.reduceMul, Nat.reduceSub, Nat.reduceDiv, Int.reduceToNat, Int.reduceAdd, Int.reduceSub, Int.reduceMul, Int.reduceNeg, Int.reduceEq, Int.reduceLT, Int.reduceLE]; with_reducible rfl) rfl ?_)
      | (with_reducible refine k_condP (by simp only [GA, Nat.reduceEqDiff, ↓reduceIte]; rfl) (by first | (simp only [BO]; rfl) | rfl) (fun ht => ?_) (fun ht => ?_) <;> try (first | exact False.elim ht | exact absurd rfl ht | exact absurd trivial ht | exact Bool.noConfusion ht))
      | (with_reducible refine k_ret ?_; repeat with_reducible (first | refine ret_thru ?_ | refine ret_blk ?_ | refine fin ?_))
      | (with_reducible refine k_exit ?_; repeat with_reducible (first | refine thru ?_ | refine out_blk ?_ | refine pass (by decide) ?_))
      | (refine post1 ?_; simp only [GA, Nat.reduceEqDiff, ↓reduceIte])
      | (refine post2 ?_; simp only [GA, Nat.reduceEqDiff, ↓reduceIte])
      | (refine post3 ?_; simp only [GA, Nat.reduceEqDiff, ↓reduceIte])
      | (refine postc (by simp only [GA, Nat.reduceEqDiff, ↓reduceIte]; rfl) (by simp (disch := omega) only [h0, c20r0, c20r1, c20r2, c20r3, c20r4, c20r5, c20r6, c20r7, c20r8, c20r9, c20r10, c20r12, c20r13, c20r14, c20r15, c20r16, c20r17, c20r18, c20r20, c20r22, EV0, EV1, EV2, EV3, EV4, EV5, EV6, EV7, EV8, VALS, plug, ite_same, decide_true, decide_false, eq_self, ↓reduceIte, reduceCtorEq, Nat.reduceAdd, Nat.reduceEqDiff, Nat.reduceLT, Nat.reduceLeDiff, Nat.reduceMul, Nat.reduceSub, Nat.reduceDiv, Int.reduceToNat, Int.reduceAdd, Int.reduceSub, Int.reduceMul, Int.reduceNeg, Int.reduceEq, Int.reduceLT, Int.reduceLE]; rfl) ?_)
      | refine post0 ?_
    all_goals first | exact ends_of | exact ends_eq rfl
end Go.Proofs.Ytbhkbaapfioijaa
set_option linter.unusedVariables false
set_option linter.unusedSimpArgs false
namespace Go.Proofs.Ytbhkbaapfioijaa
open Go Go.Am Go.Proofs Go.Sort
/-! ### Guard: plain -/
/-- the partner of x among the first k pairs -/
def prt (M : List (Nat × Nat)) : Nat → Int → Option Nat
  | 0, _ => none
  | k + 1, x => if x = (M.getD k (0, 0)).2 then some (M.getD k (0, 0)).1 else prt M k x
theorem prt_some {M : List (Nat × Nat)} {x w : Nat} : ∀ {k : Nat}, k ≤ M.length → prt M k x = some w → (w, x) ∈ M
  | 0, _, h => by cases h
  | k + 1, hk, h => by
    simp only [prt] at h
    have hin : M.getD k (0, 0) ∈ M := by simp [List.getD_eq_getElem?_getD, show k < M.length by omega]
    split at h
    · rename_i e
      cases h
      have : x = (M.getD k (0, 0)).2 := by omega
      rw [this]; exact hin
    · exact prt_some (by omega) h
theorem prt_none {M : List (Nat × Nat)} {x : Nat} : ∀ {k : Nat}, prt M k x = none → ∀ i, i < k → (M.getD i (0, 0)).2 ≠ x
  | 0, _, i, hi => by omega
  | k + 1, h, i, hi => by
    simp only [prt] at h
    split at h
    · cases h
    · rename_i e
      by_cases q : i = k
      · subst q; omega
      · exact prt_none h i (by omega)
theorem mem_getD {M : List (Nat × Nat)} {p : Nat × Nat} (h : p ∈ M) : ∃ i, i < M.length ∧ M.getD i (0, 0) = p := by
  obtain ⟨i, hi, e⟩ := List.getElem_of_mem h
  exact ⟨i, hi, by simp [List.getD_eq_getElem?_getD, hi, e]⟩
theorem prt_no {M : List (Nat × Nat)} {x : Nat} (h : prt M M.length x = none) : ∀ p ∈ M, p.2 ≠ x := fun p hp => by
  obtain ⟨i, hi, e⟩ := mem_getD hp
  rw [← e]; exact prt_none h i hi
/-- a matching in which u is free, and az many pairs az there can be; it is M at what is not reached -/
structure Free (l : List T) (tol : Int) (M : List (Nat × Nat)) (rs : List Bool) (u : Nat) : Prop where
  rl : rs.length = l.length
  ul : u < l.length
  us : (l.getD u T0).side = 1
  un : sf rs u = false
  ex : ∃ N, PairsOK l tol N ∧ N.length = M.length ∧ (∀ p ∈ N, p.1 ≠ u) ∧ ∀ w x, x < l.length → sf rs x = false → ((w, x) ∈ N ↔ (w, x) ∈ M)
/-- what a visit reaches -/
structure Vis (l : List T) (tol : Int) (M : List (Nat × Nat)) (rs : List Bool) (u : Nat) (rs' : List Bool) : Prop where
  rl : rs'.length = l.length
  le : ∀ x, sf rs x = true → sf rs' x = true
  me : sf rs' u = true
  c1 : ∀ x, x < l.length → sf rs' x = true → sf rs x = false → (l.getD x T0).side = 1 → (∀ k, k < l.length → ed l tol x k = true → sf rs' k = true) ∧ (x = u ∨ ∃ v, (x, v) ∈ M ∧ sf rs' v = true)
  c2 : ∀ x, x < l.length → sf rs' x = true → sf rs x = false → (l.getD x T0).side = 2 → ∃ w, (w, x) ∈ M ∧ sf rs' w = true
/-- .. so far -/
structure Vit (l : List T) (tol : Int) (M : List (Nat × Nat)) (rs : List Bool) (u k : Nat) (rs' : List Bool) : Prop where
  rl : rs'.length = l.length
  le : ∀ x, sf rs x = true → sf rs' x = true
  me : sf rs' u = true
  nb : ∀ x, x < k → ed l tol u x = true → sf rs' x = true
  c1 : ∀ x, x < l.length → sf rs' x = true → sf rs x = false → x ≠ u → (l.getD x T0).side = 1 → (∀ k, k < l.length → ed l tol x k = true → sf rs' k = true) ∧ ∃ v, (x, v) ∈ M ∧ sf rs' v = true
  c2 : ∀ x, x < l.length → sf rs' x = true → sf rs x = false → (l.getD x T0).side = 2 → ∃ w, (w, x) ∈ M ∧ sf rs' w = true
section
variable {l : List T} {tol : Int} {M : List (Nat × Nat)} {rs r1 r2 : List Bool} {u k w : Nat}
theorem Vit.init (f : Free l tol M rs u) : Vit l tol M rs u 0 (rs.set u true) := by
  have ss : ∀ m, sf (rs.set u true) m = (decide (m = u) || sf rs m) := fun m => sf_set (by rw [f.rl]; exact f.ul)
  refine ⟨by rw [List.length_set]; exact f.rl, fun x h => by rw [ss, h]; simp, by rw [ss]; simp, fun x hx => by omega, fun x hx h1 h2 h3 => ?_, fun x hx h1 h2 h3 => ?_⟩
  · rw [ss, h2] at h1; simp at h1; exact absurd h1 h3
  · rw [ss, h2] at h1; simp at h1; subst h1; have := f.us; omega
theorem Vit.skip (g : Vit l tol M rs u k r1) (h : sf r1 k = true ∨ ed l tol u k = false) : Vit l tol M rs u (k + 1) r1 :=
  ⟨g.rl, g.le, g.me, fun x hx e => by
    by_cases q : x = k
    · subst q; rcases h with h | h; exact h; rw [h] at e; cases e
    · exact g.nb x (by omega) e, g.c1, g.c2⟩
theorem Vit.low (g : Vit l tol M rs u k r1) (h : sf r1 k = false) : sf rs k = false := by
  cases q : sf rs k with
  | false => rfl
  | true => rw [g.le k q] at h; cases h
/-- there is a partner: else there would be more pairs -/
theorem Vit.has (hv : VL l) (hM : M = matchL l tol) (f : Free l tol M rs u) (g : Vit l tol M rs u k r1) (hk : k < l.length) (h : sf r1 k = false) (he : ed l tol u k = true) : prt M M.length k ≠ none := fun e => by
  obtain ⟨N, ⟨n1, n2, n3⟩, n4, n5, n6⟩ := f.ex
  have no := prt_no e
  have ee := ed_iff.1 he
  have noN : ∀ p ∈ N, p.2 ≠ k := fun p hp q => no p ((n6 p.1 p.2 (by omega) (by rw [q]; exact g.low h)).1 hp) q
  have := match_max hv (tol := tol) (M := (u, k) :: N) ⟨?_, ?_, ?_⟩
  · rw [List.length_cons, ← hM] at this; omega
  · simp only [List.map_cons, List.nodup_cons, List.mem_map, not_exists, not_and]
    exact ⟨fun q hq => n5 q hq, n1⟩
  · simp only [List.map_cons, List.nodup_cons, List.mem_map, not_exists, not_and]
    exact ⟨fun q hq => noN q hq, n2⟩
  · intro p hp
    rcases List.mem_cons.1 hp with rfl | hp
    · exact ⟨f.ul, hk, f.us, side2 hv hk f.us ee.1, ee.2.1, ee.2.2⟩
    · exact n3 p hp
theorem Vit.pair (hM : M = matchL l tol) (hw : (w, k) ∈ M) : w < l.length ∧ k < l.length ∧ (l.getD w T0).side = 1 ∧ (l.getD k T0).side = 2 := by
  subst hM
  have := (match_ok l tol).2.2 _ hw
  exact ⟨this.1, this.2.1, this.2.2.1, this.2.2.2.1⟩
/-- the partner is visited -/
theorem Vit.next (hv : VL l) (hM : M = matchL l tol) (f : Free l tol M rs u) (g : Vit l tol M rs u k r1) (hk : k < l.length) (h : sf r1 k = false) (he : ed l tol u k = true) (hw : (w, k) ∈ M) (hn : sf (r1.set k true) w = false) : Free l tol M (r1.set k true) w := by
  obtain ⟨p1, p2, p3, p4⟩ := Vit.pair hM hw
  have ss : ∀ m, sf (r1.set k true) m = (decide (m = k) || sf r1 m) := fun m => sf_set (by rw [g.rl]; exact hk)
  obtain ⟨N, ⟨n1, n2, n3⟩, n4, n5, n6⟩ := f.ex
  have ee := ed_iff.1 he
  have wk : (w, k) ∈ N := (n6 w k hk (g.low h)).2 hw
  have nd := nodup_fst n1
  have sub : (N.erase (w, k)).Sublist N := List.erase_sublist
  have er : ∀ q ∈ N.erase (w, k), q ∈ N ∧ q.1 ≠ w ∧ q.2 ≠ k := fun q hq => by
    have hne : q ≠ (w, k) := fun e => by subst e; exact nd.not_mem_erase hq
    exact ⟨sub.subset hq, fun e => hne (inj_fst n1 (sub.subset hq) wk e), fun e => hne (inj_snd n2 (sub.subset hq) wk e)⟩
  refine ⟨by rw [List.length_set]; exact g.rl, p1, p3, hn, (u, k) :: N.erase (w, k), ⟨?_, ?_, ?_⟩, ?_, ?_, ?_⟩
  · simp only [List.map_cons, List.nodup_cons, List.mem_map, not_exists, not_and]
    exact ⟨fun q hq => n5 q (er q hq).1, n1.sublist (sub.map _)⟩
  · simp only [List.map_cons, List.nodup_cons, List.mem_map, not_exists, not_and]
    exact ⟨fun q hq => (er q hq).2.2, n2.sublist (sub.map _)⟩
  · intro p hp
    rcases List.mem_cons.1 hp with rfl | hp
    · exact ⟨f.ul, hk, f.us, p4, ee.2.1, ee.2.2⟩
    · exact n3 p (er p hp).1
  · rw [List.length_cons, List.length_erase_of_mem wk]
    have := List.length_pos_of_mem wk
    omega
  · intro p hp
    rcases List.mem_cons.1 hp with rfl | hp
    · exact fun e => n5 _ wk e.symm
    · exact (er p hp).2.1
  · intro w' x hx hs
    rw [ss] at hs
    simp only [Bool.or_eq_false_iff, decide_eq_false_iff_not] at hs
    have lo : sf rs x = false := by
      cases q : sf rs x with
      | false => rfl
      | true => rw [g.le x q] at hs; cases hs.2
    rw [← n6 w' x hx lo]
    constructor
    · intro hp
      rcases List.mem_cons.1 hp with e | hp
      · cases e; exact absurd rfl hs.1
      · exact (er _ hp).1
    · intro hp
      refine List.mem_cons_of_mem _ ((List.mem_erase_of_ne fun e => ?_).2 hp)
      cases e; exact hs.1 rfl
/-- the partner was reached already -/
theorem Vit.old (hM : M = matchL l tol) (f : Free l tol M rs u) (g : Vit l tol M rs u k r1) (hk : k < l.length) (hw : (w, k) ∈ M) (hn : sf (r1.set k true) w = true) : Vit l tol M rs u (k + 1) (r1.set k true) := by
  obtain ⟨p1, p2, p3, p4⟩ := Vit.pair hM hw
  have ss : ∀ m, sf (r1.set k true) m = (decide (m = k) || sf r1 m) := fun m => sf_set (by rw [g.rl]; exact hk)
  have up : ∀ m, sf r1 m = true → sf (r1.set k true) m = true := fun m h => by rw [ss, h]; simp
  refine ⟨by rw [List.length_set]; exact g.rl, fun x h => up x (g.le x h), up u g.me, fun x hx e => ?_, fun x hx h1 h2 h3 h4 => ?_, fun x hx h1 h2 h4 => ?_⟩
  · by_cases q : x = k
    · subst q; rw [ss]; simp
    · exact up x (g.nb x (by omega) e)
  · by_cases q : x = k
    · subst q; omega
    · have := g.c1 x hx (by rw [ss] at h1; simpa [q] using h1) h2 h3 h4
      exact ⟨fun k hk e => up k (this.1 k hk e), this.2.elim fun v hv => ⟨v, hv.1, up v hv.2⟩⟩
  · by_cases q : x = k
    · subst q; exact ⟨w, hw, hn⟩
    · have := g.c2 x hx (by rw [ss] at h1; simpa [q] using h1) h2 h4
      exact this.elim fun v hv => ⟨v, hv.1, up v hv.2⟩
theorem Vit.new (hM : M = matchL l tol) (f : Free l tol M rs u) (g : Vit l tol M rs u k r1) (hk : k < l.length) (hw : (w, k) ∈ M) (v : Vis l tol M (r1.set k true) w r2) : Vit l tol M rs u (k + 1) r2 := by
  obtain ⟨p1, p2, p3, p4⟩ := Vit.pair hM hw
  have ss : ∀ m, sf (r1.set k true) m = (decide (m = k) || sf r1 m) := fun m => sf_set (by rw [g.rl]; exact hk)
  have up1 : ∀ m, sf r1 m = true → sf (r1.set k true) m = true := fun m h => by rw [ss, h]; simp
  have up : ∀ m, sf r1 m = true → sf r2 m = true := fun m h => v.le m (up1 m h)
  have kk : sf r2 k = true := v.le k (by rw [ss]; simp)
  refine ⟨v.rl, fun x h => up x (g.le x h), up u g.me, fun x hx e => ?_, fun x hx h1 h2 h3 h4 => ?_, fun x hx h1 h2 h4 => ?_⟩
  · by_cases q : x = k
    · subst q; exact kk
    · exact up x (g.nb x (by omega) e)
  · by_cases q : x = k
    · subst q; omega
    · cases a : sf r1 x with
      | true =>
        have := g.c1 x hx a h2 h3 h4
        exact ⟨fun k hk e => up k (this.1 k hk e), this.2.elim fun v hv => ⟨v, hv.1, up v hv.2⟩⟩
      | false =>
        obtain ⟨q1, q2⟩ := v.c1 x hx h1 (by rw [ss, a]; simp [q]) h4
        refine ⟨q1, ?_⟩
        rcases q2 with rfl | q2
        · exact ⟨k, hw, kk⟩
        · exact q2
  · by_cases q : x = k
    · subst q; exact ⟨w, hw, v.me⟩
    · cases a : sf r1 x with
      | true => exact (g.c2 x hx a h2 h4).elim fun v hv => ⟨v, hv.1, up v hv.2⟩
      | false => exact v.c2 x hx h1 (by rw [ss, a]; simp [q]) h4
theorem Vit.fin (g : Vit l tol M rs u l.length r1) : Vis l tol M rs u r1 := ⟨g.rl, g.le, g.me, fun x hx h1 h2 h4 => by
  by_cases q : x = u
  · subst q; exact ⟨g.nb, .inl rfl⟩
  · exact ⟨(g.c1 x hx h1 h2 q h4).1, .inr (g.c1 x hx h1 h2 q h4).2⟩, g.c2⟩
end
/-- all that was reached -/
structure Rch (l : List T) (tol : Int) (M : List (Nat × Nat)) (rs : List Bool) (k : Nat) : Prop where
  rl : rs.length = l.length
  al : ∀ x, x < k → (l.getD x T0).side = 1 → (∀ p ∈ M, p.1 ≠ x) → sf rs x = true
  c1 : ∀ x, x < l.length → sf rs x = true → (l.getD x T0).side = 1 → (∀ k, k < l.length → ed l tol x k = true → sf rs k = true) ∧ ((∀ p ∈ M, p.1 ≠ x) ∨ ∃ v, (x, v) ∈ M ∧ sf rs v = true)
  c2 : ∀ x, x < l.length → sf rs x = true → (l.getD x T0).side = 2 → ∃ w, (w, x) ∈ M ∧ sf rs w = true
section
variable {l : List T} {tol : Int} {M : List (Nat × Nat)} {rs r1 : List Bool} {k : Nat}
theorem Rch.init : Rch l tol M (List.replicate l.length false) 0 := ⟨by simp, fun x h => by omega, fun x _ h => by (rw [sf_rep] at h; cases h), fun x _ h => by (rw [sf_rep] at h; cases h)⟩
theorem Rch.skip (g : Rch l tol M rs k) (h : (l.getD k T0).side ≠ 1 ∨ (∃ p ∈ M, p.1 = k) ∨ sf rs k = true) : Rch l tol M rs (k + 1) := ⟨g.rl, fun x hx h1 h2 => by
  by_cases q : x = k
  · subst q
    rcases h with h | ⟨p, hp, e⟩ | h
    · exact absurd h1 h
    · exact absurd e (h2 p hp)
    · exact h
  · exact g.al x (by omega) h1 h2, g.c1, g.c2⟩
theorem Rch.free (hM : M = matchL l tol) (g : Rch l tol M rs k) (hk : k < l.length) (h1 : (l.getD k T0).side = 1) (h2 : ∀ p ∈ M, p.1 ≠ k) (h3 : sf rs k = false) : Free l tol M rs k :=
  ⟨g.rl, hk, h1, h3, M, hM ▸ match_ok l tol, rfl, h2, fun _ _ _ _ => Iff.rfl⟩
theorem Rch.go (g : Rch l tol M rs k) (h2 : ∀ p ∈ M, p.1 ≠ k) (v : Vis l tol M rs k r1) : Rch l tol M r1 (k + 1) := ⟨v.rl, fun x hx a b => by
  by_cases q : x = k
  · subst q; exact v.me
  · exact v.le x (g.al x (by omega) a b), fun x hx a b => by
    cases q : sf rs x with
    | true =>
      obtain ⟨c, d⟩ := g.c1 x hx q b
      exact ⟨fun k hk e => v.le k (c k hk e), d.imp_right fun ⟨w, e, f⟩ => ⟨w, e, v.le w f⟩⟩
    | false =>
      obtain ⟨c, d⟩ := v.c1 x hx a q b
      refine ⟨c, ?_⟩
      rcases d with rfl | d
      · exact .inl h2
      · exact .inr d, fun x hx a b => by
    cases q : sf rs x with
    | true => exact (g.c2 x hx q b).imp fun w ⟨e, f⟩ => ⟨e, v.le w f⟩
    | false => exact v.c2 x hx a q b⟩
/-- the guard -/
def grd (l : List T) (rs : List Bool) (k : Nat) : List Nat := (List.range k).filter fun i => decide ((l.getD i T0).side = 2) == sf rs i
theorem grd_succ (l : List T) (rs : List Bool) (k : Nat) : grd l rs (k + 1) = if (decide ((l.getD k T0).side = 2) == sf rs k) = true then grd l rs k ++ [k] else grd l rs k := by
  unfold grd
  rw [List.range_succ, List.filter_append]
  cases h : (decide ((l.getD k T0).side = 2) == sf rs k) <;> simp only [List.filter_cons, List.filter_nil, h, if_true, if_false, Bool.false_eq_true, List.append_nil]
theorem grd_len (l : List T) (rs : List Bool) (k : Nat) : (grd l rs k).length ≤ k := Nat.le_trans (List.length_filter_le _ _) (by simp)
theorem grd_mem {i : Nat} : i ∈ grd l rs k ↔ i < k ∧ (decide ((l.getD i T0).side = 2) = sf rs i) := by simp [grd, List.mem_filter]
theorem grd_nodup : (grd l rs k).Nodup := List.nodup_range.filter _
theorem grd_inc : (grd l rs k).Pairwise (· < ·) := List.pairwise_lt_range.filter _
theorem Rch.cover (hv : VL l) (g : Rch l tol M rs l.length) : ∀ i k, i < l.length → k < l.length → ed l tol i k = true → i ∈ grd l rs l.length ∨ k ∈ grd l rs l.length := by
  have key : ∀ i k, i < l.length → k < l.length → ed l tol i k = true → (l.getD i T0).side = 1 → i ∈ grd l rs l.length ∨ k ∈ grd l rs l.length := fun i k hi hk e s1 => by
    have s2 := side2 hv hk s1 (ed_iff.1 e).1
    rw [grd_mem, grd_mem, s1, s2]
    cases a : sf rs i with
    | false => exact .inl ⟨hi, by decide⟩
    | true => exact .inr ⟨hk, by rw [(g.c1 i hi a s1).1 k hk e]; decide⟩
  intro i k hi hk e
  by_cases s1 : (l.getD i T0).side = 1
  · exact key i k hi hk e s1
  · have ee := ed_iff.1 e
    have v1 := vt_len (hv.t hi)
    have v2 := vt_len (hv.t hk)
    refine (key k i hk hi (ed_iff.2 ⟨fun q => ee.1 q.symm, ee.2.1.symm, ?_⟩) (by omega)).symm
    have := ee.2.2
    unfold apart at this ⊢
    omega
theorem Rch.size (hv : VL l) (hM : M = matchL l tol) (g : Rch l tol M rs l.length) : (grd l rs l.length).length = M.length := by
  have ok := match_ok l tol
  rw [← hM] at ok
  obtain ⟨n1, n2, n3⟩ := ok
  let f : Nat × Nat → Nat := fun p => if sf rs p.2 = true then p.2 else p.1
  have inj : ∀ p ∈ M, ∀ q ∈ M, f p = f q → p = q := fun p hp q hq e => by
    have a := n3 p hp
    have b := n3 q hq
    simp only [f] at e
    split at e <;> split at e
    · exact inj_snd n2 hp hq e
    · exfalso; rw [e] at a; omega
    · exfalso; rw [e] at a; omega
    · exact inj_fst n1 hp hq e
  have nd : (M.map f).Nodup := by
    have : ∀ L : List (Nat × Nat), L.Nodup → (∀ p ∈ L, p ∈ M) → (L.map f).Nodup := by
      intro L
      induction L with
      | nil => intro _ _; simp
      | cons p L ih =>
        intro h s
        have h' := List.nodup_cons.1 h
        simp only [List.map_cons, List.nodup_cons, List.mem_map, not_exists, not_and]
        exact ⟨fun q hq e => h'.1 (inj q (s q (by simp [hq])) p (s p (by simp)) e ▸ hq), ih h'.2 fun q hq => s q (by simp [hq])⟩
    exact this M (nodup_fst n1) fun p hp => hp
  refine Nat.le_antisymm ?_ ?_
  · have := nodup_len (B := M.map f) (grd_nodup (l := l) (rs := rs) (k := l.length)) fun x hx => ?_
    · simpa using this
    · obtain ⟨h1, h2⟩ := grd_mem.1 hx
      have vx := vt_len (hv.t h1)
      cases a : sf rs x with
      | true =>
        rw [a] at h2
        obtain ⟨w, hw, _⟩ := g.c2 x h1 a (by simpa using h2)
        exact List.mem_map.2 ⟨(w, x), hw, by simp [f, a]⟩
      | false =>
        rw [a] at h2
        have s1 : (l.getD x T0).side = 1 := by
          have : ¬ (l.getD x T0).side = 2 := by simpa using h2
          omega
        obtain ⟨p, hp, e⟩ : ∃ p ∈ M, p.1 = x := Classical.byContradiction fun q => by
          have := g.al x h1 s1 fun p hp e => q ⟨p, hp, e⟩
          rw [a] at this; cases this
        refine List.mem_map.2 ⟨p, hp, ?_⟩
        simp only [f]
        rw [if_neg]
        · exact e
        · intro r
          obtain ⟨w, hw, hr⟩ := g.c2 p.2 (n3 p hp).2.1 r (n3 p hp).2.2.2.1
          have : (w, p.2) = p := inj_snd n2 hw hp rfl
          have : w = x := by rw [← e, ← this]
          rw [this, a] at hr; cases hr
  · have := nodup_len (B := grd l rs l.length) nd fun x hx => ?_
    · simpa using this
    · obtain ⟨p, hp, rfl⟩ := List.mem_map.1 hx
      have a := n3 p hp
      rw [grd_mem]
      simp only [f]
      split
      · rename_i r
        exact ⟨a.2.1, by rw [r, a.2.2.2.1]; decide⟩
      · rename_i r
        refine ⟨a.1, ?_⟩
        rw [a.2.2.1]
        cases b : sf rs p.1 with
        | false => decide
        | true =>
          rcases (g.c1 p.1 a.1 b a.2.2.1).2 with q | ⟨v, hv1, hv2⟩
          · exact absurd rfl (q p hp)
          · have : (p.1, v) = p := inj_fst n1 hv1 hp rfl
            have : v = p.2 := by rw [← this]
            rw [this] at hv2
            exact absurd hv2 r
end
end Go.Proofs.Ytbhkbaapfioijaa
set_option linter.unusedVariables false
set_option linter.unusedSimpArgs false
namespace Go.Proofs.Ytbhkbaapfioijaa
open Go Go.Am Go.Proofs Go.Sort
section
variable {P : Program} {N : Nat} {Q : Exit → St → AH → Prop} {st : St} {h : AH}
/-- a block behind a pointer in one slot, az a value from here on -/
theorem w_frzP {c : AC} (d : Nat) {t : Nat} {cs : List AV} (hm : h.m t = some (.cells true cs)) (hd : st.get d = .p t 0) (w : W P N c Q ((d, .pv cs 0) :: st) (h.kill t)) : W P N c Q st h :=
  w_frz hm (fun x => by
    simp only [St.get]
    by_cases e : x = d
    · subst e; rw [if_pos rfl, hd]; exact .p
    · rw [if_neg e]; exact .same) w
end
/-! ### Check -/
theorem pc69 (a b : T) (ha : vt a = true) (hb : vt b = true) (tol : Int) : PC Try.prog 69 [.ag (eT a), .ag (eT b), .pv [.i .i64 tol] 0] (.b (can a b tol)) := by
  refine pc_fn fn69 (by simp only [AV.plains, AV.plain, il_plain, bl_plain, Bool.and_true, Bool.true_and, Bool.and_self, eT_plain]) (by simp only [AV.plains, AV.plain, il_plain, bl_plain, Bool.and_true, Bool.true_and, Bool.and_self, eT_plain]) (Nat.le_of_ble_eq_true rfl) ?_
  rw [initSt3]
  have q := pc52 a b ha hb tol
  simp only [eT] at q ⊢
  repeat' first
    | with_reducible refine k_seq ?_
    | with_reducible refine k_skip ?_
    | with_reducible refine k_blkS ?_
    | with_reducible refine k_blkR ?_
    | with_reducible refine k_blkC ?_
    | with_reducible refine k_blkH ?_
    | with_reducible refine k_blkB ?_
    | with_reducible refine k_blkK ?_
    | with_reducible refine k_blkE ?_
    | with_reducible refine k_reg ?_
    | with_reducible refine r_done ?_
    | with_reducible refine s_go (by simp (disch := omega) only [c69r0, c69r1, EV0, EV1, EV2, EV3, EV4, EV5, EV6, EV7, EV8, VALS, plug, ite_same, decide_true, decide_false, eq_self, ↓reduceIte, reduceCtorEq, Nat.reduceAdd, Nat.reduceEqDiff, Nat.reduceLT, Nat.reduceLeDiff, Nat.reduceMul, Nat.reduceSub, Nat.reduceDiv, Int.reduceToNat, Int.reduceAdd, Int.reduceSub, Int.reduceMul, Int.reduceNeg, Int.reduceEq, Int.reduceLT, Int.reduceLE]; with_reducible rfl) ?_
    | ((with_reducible refine chk_r ?_); refine r_callF (by simp only [CA, Nat.reduceEqDiff, ↓reduceIte]; rfl) (by exact rfl) (by simp only [CA, Nat.reduceEqDiff, ↓reduceIte]; rfl) rfl ?_)
    | ((with_reducible refine chk_r ?_); refine r_callP (by simp only [CA, Nat.reduceEqDiff, ↓reduceIte]; rfl) (by simp only [CA, Nat.reduceEqDiff, ↓reduceIte]; rfl) (by first | exact q _) rfl ?_)
    | (with_reducible refine k_condP (by simp only [GA, Nat.reduceEqDiff, ↓reduceIte]; rfl) (by first | (simp only [BO]; rfl) | rfl) (fun ht => ?_) (fun ht => ?_) <;> try (first | exact False.elim ht | exact absurd rfl ht | exact absurd trivial ht | exact Bool.noConfusion ht))
    | (with_reducible refine k_ret ?_; repeat with_reducible (first | refine ret_thru ?_ | refine ret_blk ?_ | refine fin ?_))
    | (with_reducible refine k_exit ?_; repeat with_reducible (first | refine thru ?_ | refine out_blk ?_ | refine pass (by decide) ?_))
    | (refine post1 ?_; simp only [GA, Nat.reduceEqDiff, ↓reduceIte])
    | (refine post2 ?_; simp only [GA, Nat.reduceEqDiff, ↓reduceIte])
    | (refine post3 ?_; simp only [GA, Nat.reduceEqDiff, ↓reduceIte])
    | (refine postc (by simp only [GA, Nat.reduceEqDiff, ↓reduceIte]; rfl) (by simp (disch := omega) only [c69r0, c69r1, EV0, EV1, EV2, EV3, EV4, EV5, EV6, EV7, EV8, VALS, plug, ite_same, decide_true, decide_false, eq_self, ↓reduceIte, reduceCtorEq, Nat.reduceAdd, Nat.reduceEqDiff, Nat.reduceLT, Nat.reduceLeDiff, Nat.reduceMul, Nat.reduceSub, Nat.reduceDiv, Int.reduceToNat, Int.reduceAdd, Int.reduceSub, Int.reduceMul, Int.reduceNeg, Int.reduceEq, Int.reduceLT, Int.reduceLE]; rfl) ?_)
    | refine post0 ?_
  all_goals first | exact ends_of | exact ends_eq rfl
noncomputable def chk (l : List T) (tol : Int) (ps : List (Int × Int)) : Int := if asked l tol = 0 then jd l (fun a b => can a b tol) ps else asked l tol
theorem pc38 (l : List T) (hl : l.length ≤ 9223372036854775807) (tol : Int) (ps : List (Int × Int)) (hp : ps.length ≤ 9223372036854775807) : PC Try.prog 38 [vT l, .i .i64 tol, vQ ps] (.i .i64 (chk l tol ps)) := by
  refine pc_fn fn38 (by simp only [AV.plains, AV.plain, il_plain, bl_plain, Bool.and_true, Bool.true_and, Bool.and_self, flT_plain, flQ_plain]) (by simp only [AV.plains, AV.plain, il_plain, bl_plain, Bool.and_true, Bool.true_and, Bool.and_self, flT_plain, flQ_plain]) (Nat.le_of_ble_eq_true rfl) ?_
  rw [initSt3]
  have q := pc49 l hl tol
  unfold chk
  refine k_seq (k_reg ?_)
  refine s_go (by simp (disch := omega) only [c38r0, c38r1, c38r2, c38r3, c38r4, EV0, EV1, EV2, EV3, EV4, EV5, EV6, EV7, EV8, VALS, plug, ite_same, decide_true, decide_false, eq_self, ↓reduceIte, reduceCtorEq, Nat.reduceAdd, Nat.reduceEqDiff, Nat.reduceLT, Nat.reduceLeDiff, Nat.reduceMul, Nat.reduceSub, Nat.reduceDiv, Int.reduceToNat, Int.reduceAdd, Int.reduceSub, Int.reduceMul, Int.reduceNeg, Int.reduceEq, Int.reduceLT, Int.reduceLE]; with_reducible rfl) ?_
  refine r_done ?_
  refine w_frzP (t := 1) (cs := [.i .i64 tol]) 4 (by simp (disch := omega) only [c38r0, c38r1, c38r2, c38r3, c38r4, EV0, EV1, EV2, EV3, EV4, EV5, EV6, EV7, EV8, VALS, plug, ite_same, decide_true, decide_false, eq_self, ↓reduceIte, reduceCtorEq, Nat.reduceAdd, Nat.reduceEqDiff, Nat.reduceLT, Nat.reduceLeDiff, Nat.reduceMul, Nat.reduceSub, Nat.reduceDiv, Int.reduceToNat, Int.reduceAdd, Int.reduceSub, Int.reduceMul, Int.reduceNeg, Int.reduceEq, Int.reduceLT, Int.reduceLE] <;> rfl) rfl ?_
  by_cases hk : asked l tol = 0
  · rw [if_pos hk]
    have hv := (asked_ok hk).1
    have q2 := pc58 l hv ps hp 69 [.pv [.i .i64 tol] 0] rfl (fun a b => can a b tol) fun a b ha hb => pc69 a b ha hb tol
    rw [hk] at q
    repeat' first
      | with_reducible refine k_seq ?_
      | with_reducible refine k_skip ?_
      | with_reducible refine k_blkS ?_
      | with_reducible refine k_blkR ?_
      | with_reducible refine k_blkC ?_
      | with_reducible refine k_blkH ?_
      | with_reducible refine k_blkB ?_
      | with_reducible refine k_blkK ?_
      | with_reducible refine k_blkE ?_
      | with_reducible refine k_reg ?_
      | with_reducible refine r_done ?_
      | with_reducible refine s_go (by simp (disch := omega) only [c38r0, c38r1, c38r2, c38r3, c38r4, EV0, EV1, EV2, EV3, EV4, EV5, EV6, EV7, EV8, VALS, plug, ite_same, decide_true, decide_false, eq_self, ↓reduceIte, reduceCtorEq, Nat.reduceAdd, Nat.reduceEqDiff, Nat.reduceLT, Nat.reduceLeDiff, Nat.reduceMul, Nat.reduceSub, Nat.reduceDiv, Int.reduceToNat, Int.reduceAdd, Int.reduceSub, Int.reduceMul, Int.reduceNeg, Int.reduceEq, Int.reduceLT, Int.reduceLE]; with_reducible rfl) ?_
      | ((with_reducible refine chk_r ?_); refine r_callF (by simp only [CA, Nat.reduceEqDiff, ↓reduceIte]; rfl) (by exact rfl) (by simp only [CA, Nat.reduceEqDiff, ↓reduceIte]; rfl) rfl ?_)
      | ((with_reducible refine chk_r ?_); refine r_callP (by simp only [CA, Nat.reduceEqDiff, ↓reduceIte]; rfl) (by simp only [CA, Nat.reduceEqDiff, ↓reduceIte]; rfl) (by first | exact q _ | exact q2 _) rfl ?_)
      | (with_reducible refine k_condP (by simp only [GA, Nat.reduceEqDiff, ↓reduceIte]; rfl) (by first | (simp only [BO]; rfl) | rfl) (fun ht => ?_) (fun ht => ?_) <;> try (first | exact False.elim ht | exact absurd rfl ht | exact absurd trivial ht | exact Bool.noConfusion ht))
      | (with_reducible refine k_ret ?_; repeat with_reducible (first | refine ret_thru ?_ | refine ret_blk ?_ | refine fin ?_))
      | (with_reducible refine k_exit ?_; repeat with_reducible (first | refine thru ?_ | refine out_blk ?_ | refine pass (by decide) ?_))
      | (refine post1 ?_; simp only [GA, Nat.reduceEqDiff, ↓reduceIte])
      | (refine post2 ?_; simp only [GA, Nat.reduceEqDiff, ↓reduceIte])
      | (refine post3 ?_; simp only [GA, Nat.reduceEqDiff, ↓reduceIte])
      | (refine postc (by simp only [GA, Nat.reduceEqDiff, ↓reduceIte]; rfl) (by simp (disch := omega) only [c38r0, c38r1, c38r2, c38r3, c38r4, EV0, EV1, EV2, EV3, EV4, EV5, EV6, EV7, EV8, VALS, plug, ite_same, decide_true, decide_false, eq_self, ↓reduceIte, reduceCtorEq, Nat.reduceAdd, Nat.reduceEqDiff, Nat.reduceLT, Nat.reduceLeDiff, Nat.reduceMul, Nat.reduceSub, Nat.reduceDiv, Int.reduceToNat, Int.reduceAdd, Int.reduceSub, Int.reduceMul, Int.reduceNeg, Int.reduceEq, Int.reduceLT, Int.reduceLE]; rfl) ?_)
      | refine post0 ?_
    all_goals first | exact ends_of | exact ends_eq rfl
  · rw [if_neg hk]
    generalize asked l tol = A at q hk ⊢
    repeat' first
      | with_reducible refine k_seq ?_
      | with_reducible refine k_skip ?_
      | with_reducible refine k_blkS ?_
      | with_reducible refine k_blkR ?_
      | with_reducible refine k_blkC ?_
      | with_reducible refine k_blkH ?_
      | with_reducible refine k_blkB ?_
      | with_reducible refine k_blkK ?_
      | with_reducible refine k_blkE ?_
      | with_reducible refine k_reg ?_
      | with_reducible refine r_done ?_
      | with_reducible refine s_go (by simp (disch := omega) only [hk, c38r0, c38r1, c38r2, c38r3, c38r4, EV0, EV1, EV2, EV3, EV4, EV5, EV6, EV7, EV8, VALS, plug, ite_same, decide_true, decide_false, eq_self, ↓reduceIte, reduceCtorEq, Nat.reduceAdd, Nat.reduceEqDiff, Nat.reduceLT, Nat.reduceLeDiff, Nat.reduceMul, Nat.reduceSub, Nat.reduceDiv, Int.reduceToNat, Int.reduceAdd, Int.reduceSub, Int.reduceMul, Int.reduceNeg, Int.reduceEq, Int.reduceLT, Int.reduceLE]; with_reducible rfl) ?_
      | ((with_reducible refine chk_r ?_); refine r_callF (by simp only [CA, Nat.reduceEqDiff, ↓reduceIte]; rfl) (by exact rfl) (by simp only [CA, Nat.reduceEqDiff, ↓reduceIte]; rfl) rfl ?_)
      | ((with_reducible refine chk_r ?_); refine r_callP (by simp only [CA, Nat.reduceEqDiff, ↓reduceIte]; rfl) (by simp only [CA, Nat.reduceEqDiff, ↓reduceIte]; rfl) (by first | exact q _) rfl ?_)
      | (with_reducible refine k_condP (by simp only [GA, Nat.reduceEqDiff, ↓reduceIte]; rfl) (by first | (simp only [BO]; rfl) | rfl) (fun ht => ?_) (fun ht => ?_) <;> try (first | exact False.elim ht | exact absurd rfl ht | exact absurd trivial ht | exact Bool.noConfusion ht))
      | (with_reducible refine k_ret ?_; repeat with_reducible (first | refine ret_thru ?_ | refine ret_blk ?_ | refine fin ?_))
      | (with_reducible refine k_exit ?_; repeat with_reducible (first | refine thru ?_ | refine out_blk ?_ | refine pass (by decide) ?_))
      | (refine post1 ?_; simp only [GA, Nat.reduceEqDiff, ↓reduceIte])
      | (refine post2 ?_; simp only [GA, Nat.reduceEqDiff, ↓reduceIte])
      | (refine post3 ?_; simp only [GA, Nat.reduceEqDiff, ↓reduceIte])
      | (refine postc (by simp only [GA, Nat.reduceEqDiff, ↓reduceIte]; rfl) (by simp (disch := omega) only [hk, c38r0, c38r1, c38r2, c38r3, c38r4, EV0, EV1, EV2, EV3, EV4, EV5, EV6, EV7, EV8, VALS, plug, ite_same, decide_true, decide_false, eq_self, ↓reduceIte, reduceCtorEq, Nat.reduceAdd, Nat.reduceEqDiff, Nat.reduceLT, Nat.reduceLeDiff, Nat.reduceMul, Nat.reduceSub, Nat.reduceDiv, Int.reduceToNat, Int.reduceAdd, Int.reduceSub, Int.reduceMul, Int.reduceNeg, Int.reduceEq, Int.reduceLT, Int.reduceLE]; rfl) ?_)
      | refine post0 ?_
    all_goals first | exact ends_of | exact absurd trivial (by assumption)
theorem pc19 (l : List T) (hl : l.length ≤ 9223372036854775807) (tol : Int) (ps : List (Int × Int)) (hp : ps.length ≤ 9223372036854775807) : PC Try.prog 19 [vT l, .i .i64 tol, vQ ps] (.i .i64 (chk l tol ps)) := by
  refine pc_fn fn19 (by simp only [AV.plains, AV.plain, il_plain, bl_plain, Bool.and_true, Bool.true_and, Bool.and_self, flT_plain, flQ_plain]) (by simp only [AV.plains, AV.plain, il_plain, bl_plain, Bool.and_true, Bool.true_and, Bool.and_self, flT_plain, flQ_plain]) (Nat.le_of_ble_eq_true rfl) ?_
  rw [initSt3]
  have q := pc14 l hl
  have q3 := pc53 tol
  unfold chk
  by_cases hv : VL l
  · have q2 := pc54 l hv ps hp tol
    rw [vl_t hv] at q
    by_cases ht : 0 ≤ tol ∧ tol ≤ 1000
    · rw [asked_yes hv ht, if_pos rfl]
      repeat' first
        | with_reducible refine k_seq ?_
        | with_reducible refine k_skip ?_
        | with_reducible refine k_blkS ?_
        | with_reducible refine k_blkR ?_
        | with_reducible refine k_blkC ?_
        | with_reducible refine k_blkH ?_
        | with_reducible refine k_blkB ?_
        | with_reducible refine k_blkK ?_
        | with_reducible refine k_blkE ?_
        | with_reducible refine k_reg ?_
        | with_reducible refine r_done ?_
        | with_reducible refine s_go (by simp (disch := omega) only [c19r0, c19r1, c19r2, c19r3, c19r4, c19r5, EV0, EV1, EV2, EV3, EV4, EV5, EV6, EV7, EV8, VALS, plug, ite_same, decide_true, decide_false, eq_self, ↓reduceIte, reduceCtorEq, Nat.reduceAdd, Nat.reduceEqDiff, Nat.reduceLT, Nat.reduceLeDiff, Nat.reduceMul, Nat.reduceSub, Nat.reduceDiv, Int.reduceToNat, Int.reduceAdd, Int.reduceSub, Int.reduceMul, Int.reduceNeg, Int.reduceEq, Int.reduceLT, Int.reduceLE]; with_reducible rfl) ?_
        | ((with_reducible refine chk_r ?_); refine r_callF (by simp only [CA, Nat.reduceEqDiff, ↓reduceIte]; rfl) (by exact rfl) (by simp only [CA, Nat.reduceEqDiff, ↓reduceIte]; rfl) rfl ?_)
        | ((with_reducible refine chk_r ?_); refine r_callP (by simp only [CA, Nat.reduceEqDiff, ↓reduceIte]; rfl) (by simp only [CA, Nat.reduceEqDiff, ↓reduceIte]; rfl) (by first | exact q _ | exact q2 _ | exact q3 _) rfl ?_)
        | (with_reducible refine k_condP (by simp only [GA, Nat.reduceEqDiff, ↓reduceIte]; rfl) (by first | (simp only [BO]; rfl) | rfl) (fun ht => ?_) (fun ht => ?_) <;> try (first | exact False.elim ht | exact absurd rfl ht | exact absurd trivial ht | exact Bool.noConfusion ht))
        | (with_reducible refine k_ret ?_; repeat with_reducible (first | refine ret_thru ?_ | refine ret_blk ?_ | refine fin ?_))
        | (with_reducible refine k_exit ?_; repeat with_reducible (first | refine thru ?_ | refine out_blk ?_ | refine pass (by decide) ?_))
        | (refine post1 ?_; simp only [GA, Nat.reduceEqDiff, ↓reduceIte])
        | (refine post2 ?_; simp only [GA, Nat.reduceEqDiff, ↓reduceIte])
        | (refine post3 ?_; simp only [GA, Nat.reduceEqDiff, ↓reduceIte])
        | (refine postc (by simp only [GA, Nat.reduceEqDiff, ↓reduceIte]; rfl) (by simp (disch := omega) only [c19r0, c19r1, c19r2, c19r3, c19r4, c19r5, EV0, EV1, EV2, EV3, EV4, EV5, EV6, EV7, EV8, VALS, plug, ite_same, decide_true, decide_false, eq_self, ↓reduceIte, reduceCtorEq, Nat.reduceAdd, Nat.reduceEqDiff, Nat.reduceLT, Nat.reduceLeDiff, Nat.reduceMul, Nat.reduceSub, Nat.reduceDiv, Int.reduceToNat, Int.reduceAdd, Int.reduceSub, Int.reduceMul, Int.reduceNeg, Int.reduceEq, Int.reduceLT, Int.reduceLE]; rfl) ?_)
        | refine post0 ?_
      all_goals first | exact ends_of | (exfalso; omega)
    · rw [asked_arg hv ht, if_neg (by decide)]
      repeat' first
        | with_reducible refine k_seq ?_
        | with_reducible refine k_skip ?_
        | with_reducible refine k_blkS ?_
        | with_reducible refine k_blkR ?_
        | with_reducible refine k_blkC ?_
        | with_reducible refine k_blkH ?_
        | with_reducible refine k_blkB ?_
        | with_reducible refine k_blkK ?_
        | with_reducible refine k_blkE ?_
        | with_reducible refine k_reg ?_
        | with_reducible refine r_done ?_
        | with_reducible refine s_go (by simp (disch := omega) only [c19r0, c19r1, c19r2, c19r3, c19r4, c19r5, EV0, EV1, EV2, EV3, EV4, EV5, EV6, EV7, EV8, VALS, plug, ite_same, decide_true, decide_false, eq_self, ↓reduceIte, reduceCtorEq, Nat.reduceAdd, Nat.reduceEqDiff, Nat.reduceLT, Nat.reduceLeDiff, Nat.reduceMul, Nat.reduceSub, Nat.reduceDiv, Int.reduceToNat, Int.reduceAdd, Int.reduceSub, Int.reduceMul, Int.reduceNeg, Int.reduceEq, Int.reduceLT, Int.reduceLE]; with_reducible rfl) ?_
        | ((with_reducible refine chk_r ?_); refine r_callF (by simp only [CA, Nat.reduceEqDiff, ↓reduceIte]; rfl) (by exact rfl) (by simp only [CA, Nat.reduceEqDiff, ↓reduceIte]; rfl) rfl ?_)
        | ((with_reducible refine chk_r ?_); refine r_callP (by simp only [CA, Nat.reduceEqDiff, ↓reduceIte]; rfl) (by simp only [CA, Nat.reduceEqDiff, ↓reduceIte]; rfl) (by first | exact q _ | exact q3 _) rfl ?_)
        | (with_reducible refine k_condP (by simp only [GA, Nat.reduceEqDiff, ↓reduceIte]; rfl) (by first | (simp only [BO]; rfl) | rfl) (fun ht => ?_) (fun ht => ?_) <;> try (first | exact False.elim ht | exact absurd rfl ht | exact absurd trivial ht | exact Bool.noConfusion ht))
        | (with_reducible refine k_ret ?_; repeat with_reducible (first | refine ret_thru ?_ | refine ret_blk ?_ | refine fin ?_))
        | (with_reducible refine k_exit ?_; repeat with_reducible (first | refine thru ?_ | refine out_blk ?_ | refine pass (by decide) ?_))
        | (refine post1 ?_; simp only [GA, Nat.reduceEqDiff, ↓reduceIte])
        | (refine post2 ?_; simp only [GA, Nat.reduceEqDiff, ↓reduceIte])
        | (refine post3 ?_; simp only [GA, Nat.reduceEqDiff, ↓reduceIte])
        | (refine postc (by simp only [GA, Nat.reduceEqDiff, ↓reduceIte]; rfl) (by simp (disch := omega) only [c19r0, c19r1, c19r2, c19r3, c19r4, c19r5, EV0, EV1, EV2, EV3, EV4, EV5, EV6, EV7, EV8, VALS, plug, ite_same, decide_true, decide_false, eq_self, ↓reduceIte, reduceCtorEq, Nat.reduceAdd, Nat.reduceEqDiff, Nat.reduceLT, Nat.reduceLeDiff, Nat.reduceMul, Nat.reduceSub, Nat.reduceDiv, Int.reduceToNat, Int.reduceAdd, Int.reduceSub, Int.reduceMul, Int.reduceNeg, Int.reduceEq, Int.reduceLT, Int.reduceLE]; rfl) ?_)
        | refine post0 ?_
      all_goals first | exact ends_of | (exfalso; omega)
  · rw [asked_bad hv, if_neg (by decide)]
    rw [vl_f hv] at q
    repeat' first
      | with_reducible refine k_seq ?_
      | with_reducible refine k_skip ?_
      | with_reducible refine k_blkS ?_
      | with_reducible refine k_blkR ?_
      | with_reducible refine k_blkC ?_
      | with_reducible refine k_blkH ?_
      | with_reducible refine k_blkB ?_
      | with_reducible refine k_blkK ?_
      | with_reducible refine k_blkE ?_
      | with_reducible refine k_reg ?_
      | with_reducible refine r_done ?_
      | with_reducible refine s_go (by simp (disch := omega) only [c19r0, c19r1, c19r2, c19r3, c19r4, c19r5, EV0, EV1, EV2, EV3, EV4, EV5, EV6, EV7, EV8, VALS, plug, ite_same, decide_true, decide_false, eq_self, ↓reduceIte, reduceCtorEq, Nat.reduceAdd, Nat.reduceEqDiff, Nat.reduceLT, Nat.reduceLeDiff, Nat.reduceMul, Nat.reduceSub, Nat.reduceDiv, Int.reduceToNat, Int.reduceAdd, Int.reduceSub, Int.reduceMul, Int.reduceNeg, Int.reduceEq, Int.reduceLT, Int.reduceLE]; with_reducible rfl) ?_
      | ((with_reducible refine chk_r ?_); refine r_callF (by simp only [CA, Nat.reduceEqDiff, ↓reduceIte]; rfl) (by exact rfl) (by simp only [CA, Nat.reduceEqDiff, ↓reduceIte]; rfl) rfl ?_)
      | ((with_reducible refine chk_r ?_); refine r_callP (by simp only [CA, Nat.reduceEqDiff, ↓reduceIte]; rfl) (by simp only [CA, Nat.reduceEqDiff, ↓reduceIte]; rfl) (by first | exact q _ | exact q3 _) rfl ?_)
      | (with_reducible refine k_condP (by simp only [GA, Nat.reduceEqDiff, ↓reduceIte]; rfl) (by first | (simp only [BO]; rfl) | rfl) (fun ht => ?_) (fun ht => ?_) <;> try (first | exact False.elim ht | exact absurd rfl ht | exact absurd trivial ht | exact Bool.noConfusion ht))
      | (with_reducible refine k_ret ?_; repeat with_reducible (first | refine ret_thru ?_ | refine ret_blk ?_ | refine fin ?_))
      | (with_reducible refine k_exit ?_; repeat with_reducible (first | refine thru ?_ | refine out_blk ?_ | refine pass (by decide) ?_))
      | (refine post1 ?_; simp only [GA, Nat.reduceEqDiff, ↓reduceIte])
      | (refine post2 ?_; simp only [GA, Nat.reduceEqDiff, ↓reduceIte])
      | (refine post3 ?_; simp only [GA, Nat.reduceEqDiff, ↓reduceIte])
      | (refine postc (by simp only [GA, Nat.reduceEqDiff, ↓reduceIte]; rfl) (by simp (disch := omega) only [c19r0, c19r1, c19r2, c19r3, c19r4, c19r5, EV0, EV1, EV2, EV3, EV4, EV5, EV6, EV7, EV8, VALS, plug, ite_same, decide_true, decide_false, eq_self, ↓reduceIte, reduceCtorEq, Nat.reduceAdd, Nat.reduceEqDiff, Nat.reduceLT, Nat.reduceLeDiff, Nat.reduceMul, Nat.reduceSub, Nat.reduceDiv, Int.reduceToNat, Int.reduceAdd, Int.reduceSub, Int.reduceMul, Int.reduceNeg, Int.reduceEq, Int.reduceLT, Int.reduceLE]; rfl) ?_)
      | refine post0 ?_
    all_goals first | exact ends_of | (exfalso; omega)
theorem jd_rng {l : List T} {good : T → T → Bool} {ps : List (Int × Int)} (h : jd l good ps = 0) : ∀ i, i < ps.length → rng l.length (prs ps i) := by
  unfold jd at h
  split at h
  · assumption
  · cases h
theorem decQ (r : List AV) (h : Shps [.i .i64, .i .i64] r) : ∃ x : Int × Int, r = eQ x ∧ True := by
  obtain ⟨_, _, rfl, t0, h⟩ := shps_cons h
  obtain ⟨_, _, rfl, t1, h⟩ := shps_cons h
  obtain rfl := shps_nil h
  obtain ⟨a, rfl, _⟩ := shp_i64 t0
  obtain ⟨b, rfl, _⟩ := shp_i64 t1
  exact ⟨(a, b), rfl, trivial⟩
end Go.Proofs.Ytbhkbaapfioijaa
set_option linter.unusedVariables false
set_option linter.unusedSimpArgs false
namespace Go.Proofs.Ytbhkbaapfioijaa
open Go Go.Am Go.Proofs Go.Sort
/-! ### Guard: the walk -/
def prF (M : List (Nat × Nat)) (k : Nat) : Int → Option AV := fun x => (prt M k x).map fun n => .i .i64 (n : Int)
abbrev fstP (M : List (Nat × Nat)) (k : Nat) (x : Int) : Prop := ∃ i, i < k ∧ ((M.getD i (0, 0)).1 : Int) = x
abbrev caps51 (l : List T) (tol : Int) (rb pb vb : Nat) : List AV := [.p rb 0, .pv [vT l] 0, .pv [.i .i64 tol] 0, .p pb 0, .p vb 0]
set_option maxHeartbeats 1000000 in
theorem ac51 (l : List T) (hv : VL l) (tol : Int) (M : List (Nat × Nat)) (hM : M = matchL l tol) (rb r pb m vb : Nat) (es : List (AV × AV)) (hf : MFi es (prF M M.length)) (hr : r ≠ 0) (n1 : rb ≠ r) (n2 : pb ≠ r) (n3 : m ≠ r) (n4 : vb ≠ r) :
    ∀ (n : Nat) (rs : List Bool) (u : Nat) (h : AH), uns rs = n → Free l tol M rs u → h.m rb = some (.cells true [.sl r 0 l.length 1]) → h.m r = some (.cells true (bl rs)) → h.m pb = some (.cells true [.mp m]) → h.m m = some (.map es) → h.m vb = some (.cells true [.fn 51 [] (caps51 l tol rb pb vb)]) →
    ACalls Try.prog 51 (.i .i64 (u : Int) :: caps51 l tol rb pb vb) h fun rr h' => rr = .tu [] ∧ ∃ rs', Vis l tol M rs u rs' ∧ h'.m r = some (.cells true (bl rs')) ∧ ∀ t b, t ≠ r → h.m t = some b → h'.m t = some b := by
  intro n
  induction n using Nat.strongRecOn with
  | _ n ih =>
  intro rs u h hn fr hb hm hp he hc
  refine a_fn fn51 (Nat.le_of_ble_eq_true rfl) fun ok pos => ?_
  rw [initSt6]
  have hl := hv.len
  have rl := fr.rl
  have ul := fr.ul
  have hx' := ok.m hm
  have rne : r ≠ rb := fun e => n1 e.symm
  repeat' first
    | with_reducible refine k_seq ?_
    | with_reducible refine k_skip ?_
    | with_reducible refine k_blkS ?_
    | with_reducible refine k_blkR ?_
    | with_reducible refine k_blkC ?_
    | with_reducible refine k_blkH ?_
    | with_reducible refine k_blkB ?_
    | with_reducible refine k_blkK ?_
    | with_reducible refine k_blkE ?_
    | with_reducible refine k_reg ?_
    | with_reducible refine k_head (by with_unfolding_all rfl) ?_
    | with_reducible refine k_headS ?_
    | (with_reducible refine SepK.mk ?_ ?_; (refine sepQ_P ?_; simp [sepQ, sepG, AOp.late, AOp.free, AOp.xs, AOp.isAl, tokNe, AV.tok, stS_get, strip, AX.val, c51r0, c51r1, c51r2, c51r3, c51r4, c51r5, c51r6, c51r7, c51r8, c51r9, GA]; try omega))
    | with_reducible refine r_done ?_
    | with_reducible refine hr_done ?_
    | with_reducible refine s_go (by simp (disch := omega) only [hb, row_m hb, read_row (row_m hb), hm, row_m hm, read_row (row_m hm), rl, c51r0, c51r1, c51r2, c51r3, c51r4, c51r5, c51r6, c51r7, c51r8, c51r9, EV0, EV1, EV2, EV3, EV4, EV5, EV6, EV7, EV8, VALS, plug, ite_same, decide_true, decide_false, eq_self, ↓reduceIte, reduceCtorEq, Nat.reduceAdd, Nat.reduceEqDiff, Nat.reduceLT, Nat.reduceLeDiff, Nat.reduceMul, Nat.reduceSub, Nat.reduceDiv, Int.reduceToNat, Int.reduceAdd, Int.reduceSub, Int.reduceMul, Int.reduceNeg, Int.reduceEq, Int.reduceLT, Int.reduceLE]; with_reducible rfl) ?_
    | with_reducible refine h_go (by with_unfolding_all rfl) (by simp (disch := omega) only [hb, row_m hb, read_row (row_m hb), hm, row_m hm, read_row (row_m hm), rl, c51r0, c51r1, c51r2, c51r3, c51r4, c51r5, c51r6, c51r7, c51r8, c51r9, EV0, EV1, EV2, EV3, EV4, EV5, EV6, EV7, EV8, VALS, plug, ite_same, decide_true, decide_false, eq_self, ↓reduceIte, reduceCtorEq, Nat.reduceAdd, Nat.reduceEqDiff, Nat.reduceLT, Nat.reduceLeDiff, Nat.reduceMul, Nat.reduceSub, Nat.reduceDiv, Int.reduceToNat, Int.reduceAdd, Int.reduceSub, Int.reduceMul, Int.reduceNeg, Int.reduceEq, Int.reduceLT, Int.reduceLE]; with_reducible rfl) ?_
    | ((with_reducible refine chk_r ?_); refine r_callF (by simp only [CA, Nat.reduceEqDiff, ↓reduceIte]; rfl) (by exact rfl) (by simp only [CA, Nat.reduceEqDiff, ↓reduceIte]; rfl) rfl ?_)
    | ((with_reducible refine chk_h ?_); refine hr_callF (by simp only [CA, Nat.reduceEqDiff, ↓reduceIte]; rfl) (by exact rfl) (by simp only [CA, Nat.reduceEqDiff, ↓reduceIte]; rfl) rfl ?_)
    | ((with_reducible refine chk_h ?_); refine hr_app (by simp (disch := omega) only [hb, row_m hb, read_row (row_m hb), hm, row_m hm, read_row (row_m hm), rl, c51r0, c51r1, c51r2, c51r3, c51r4, c51r5, c51r6, c51r7, c51r8, c51r9, EV0, EV1, EV2, EV3, EV4, EV5, EV6, EV7, EV8, VALS, plug, ite_same, decide_true, decide_false, eq_self, ↓reduceIte, reduceCtorEq, Nat.reduceAdd, Nat.reduceEqDiff, Nat.reduceLT, Nat.reduceLeDiff, Nat.reduceMul, Nat.reduceSub, Nat.reduceDiv, Int.reduceToNat, Int.reduceAdd, Int.reduceSub, Int.reduceMul, Int.reduceNeg, Int.reduceEq, Int.reduceLT, Int.reduceLE]; with_reducible rfl) rfl ?_)
    | (with_reducible refine k_condP (by simp only [GA, Nat.reduceEqDiff, ↓reduceIte]; rfl) (by first | (simp only [BO]; rfl) | rfl) (fun ht => ?_) (fun ht => ?_) <;> try (first | exact False.elim ht | exact absurd rfl ht | exact absurd trivial ht | exact Bool.noConfusion ht))
    | (with_reducible refine k_ret ?_; repeat with_reducible (first | refine ret_thru ?_ | refine ret_blk ?_ | refine fin ?_))
    | (with_reducible refine k_exit ?_; repeat with_reducible (first | refine thru ?_ | refine out_blk ?_ | refine pass (by decide) ?_))
    | (refine post1 ?_; simp only [GA, Nat.reduceEqDiff, ↓reduceIte])
    | (refine post2 ?_; simp only [GA, Nat.reduceEqDiff, ↓reduceIte])
    | (refine post3 ?_; simp only [GA, Nat.reduceEqDiff, ↓reduceIte])
    | (refine postc (by simp only [GA, Nat.reduceEqDiff, ↓reduceIte]; rfl) (by simp (disch := omega) only [hb, row_m hb, read_row (row_m hb), hm, row_m hm, read_row (row_m hm), rl, c51r0, c51r1, c51r2, c51r3, c51r4, c51r5, c51r6, c51r7, c51r8, c51r9, EV0, EV1, EV2, EV3, EV4, EV5, EV6, EV7, EV8, VALS, plug, ite_same, decide_true, decide_false, eq_self, ↓reduceIte, reduceCtorEq, Nat.reduceAdd, Nat.reduceEqDiff, Nat.reduceLT, Nat.reduceLeDiff, Nat.reduceMul, Nat.reduceSub, Nat.reduceDiv, Int.reduceToNat, Int.reduceAdd, Int.reduceSub, Int.reduceMul, Int.reduceNeg, Int.reduceEq, Int.reduceLT, Int.reduceLE]; rfl) ?_)
    | refine post0 ?_
  refine k_blk (k_loopS (X := List Bool) [0, 1, 2, 3, 4, 5, 14, 15] l.length (fun k r1 => [(0, .i .i64 (u : Int)), (1, .p rb 0), (2, .pv [vT l] 0), (3, .pv [.i .i64 tol] 0), (4, .p pb 0), (5, .p vb 0), (14, .i .i64 l.length), (15, .i .i64 (k : Int))])
    (fun k r1 h' => Vit l tol M rs u k r1 ∧ h'.m r = some (.cells true (bl r1)) ∧ ∀ t b, t ≠ r → h.m t = some b → h'.m t = some b) (rs.set u true) (by simp only [Am.keep, List.map_cons, List.map_nil, GA, Nat.reduceEqDiff, ↓reduceIte]; try rfl) ⟨.init fr, by simp (disch := omega) only [hm, c51r0, c51r1, c51r2, c51r3, c51r4, c51r5, c51r6, c51r7, c51r8, c51r9, EV0, EV1, EV2, EV3, EV4, EV5, EV6, EV7, EV8, VALS, plug, ite_same, decide_true, decide_false, eq_self, ↓reduceIte, reduceCtorEq, Nat.reduceAdd, Nat.reduceEqDiff, Nat.reduceLT, Nat.reduceLeDiff, Nat.reduceMul, Nat.reduceSub, Nat.reduceDiv, Int.reduceToNat, Int.reduceAdd, Int.reduceSub, Int.reduceMul, Int.reduceNeg, Int.reduceEq, Int.reduceLT, Int.reduceLE] <;> rfl, fun t b ht hb => by
      have := ok.m hb
      simp (disch := omega) only [hb, c51r0, c51r1, c51r2, c51r3, c51r4, c51r5, c51r6, c51r7, c51r8, c51r9, EV0, EV1, EV2, EV3, EV4, EV5, EV6, EV7, EV8, VALS, plug, ite_same, decide_true, decide_false, eq_self, ↓reduceIte, reduceCtorEq, Nat.reduceAdd, Nat.reduceEqDiff, Nat.reduceLT, Nat.reduceLeDiff, Nat.reduceMul, Nat.reduceSub, Nat.reduceDiv, Int.reduceToNat, Int.reduceAdd, Int.reduceSub, Int.reduceMul, Int.reduceNeg, Int.reduceEq, Int.reduceLT, Int.reduceLE]⟩ ?_)
  rintro k r1 h1 hk ⟨g, hm1, F⟩ ok1 pos1
  have hb1 := F _ _ n1 hb
  have hp1 := F _ _ n2 hp
  have he1 := F _ _ n3 he
  have hc1 := F _ _ n4 hc
  have hx1 := ok1.m hm1
  have g1 := g.rl
  by_cases hlt : k < l.length
  · have hlt' : (k : Int) < l.length := by omega
    have rA := rdT ul
    have rB := rdT hlt
    have q52 := pc52 (l.getD u T0) (l.getD k T0) (hv.2.1 u ul) (hv.2.1 k hlt) tol
    have ee : ed l tol u k = can (l.getD u T0) (l.getD k T0) tol := rfl
    have gs := sf_get (S := r1) (k := k) (by omega)
    simp only [eT] at rA rB q52
    cases hs : sf r1 k with
    | true =>
      rw [hs] at gs
      repeat' first
        | with_reducible refine k_seq ?_
        | with_reducible refine k_skip ?_
        | with_reducible refine k_blkS ?_
        | with_reducible refine k_blkR ?_
        | with_reducible refine k_blkC ?_
        | with_reducible refine k_blkH ?_
        | with_reducible refine k_blkB ?_
        | with_reducible refine k_blkK ?_
        | with_reducible refine k_blkE ?_
        | with_reducible refine k_reg ?_
        | with_reducible refine k_head (by with_unfolding_all rfl) ?_
        | with_reducible refine k_headS ?_
        | (with_reducible refine SepK.mk ?_ ?_; (refine sepQ_P ?_; simp [sepQ, sepG, AOp.late, AOp.free, AOp.xs, AOp.isAl, tokNe, AV.tok, stS_get, strip, AX.val, c51r0, c51r1, c51r2, c51r3, c51r4, c51r5, c51r6, c51r7, c51r8, c51r9, GA]; try omega))
        | with_reducible refine r_done ?_
        | with_reducible refine hr_done ?_
        | with_reducible refine s_go (by simp (disch := omega) only [hlt', hb1, row_m hb1, read_row (row_m hb1), hm1, row_m hm1, read_row (row_m hm1), gs, rA, rB, g1, c51r0, c51r1, c51r2, c51r3, c51r4, c51r5, c51r6, c51r7, c51r8, c51r9, EV0, EV1, EV2, EV3, EV4, EV5, EV6, EV7, EV8, VALS, plug, ite_same, decide_true, decide_false, eq_self, ↓reduceIte, reduceCtorEq, Nat.reduceAdd, Nat.reduceEqDiff, Nat.reduceLT, Nat.reduceLeDiff, Nat.reduceMul, Nat.reduceSub, Nat.reduceDiv, Int.reduceToNat, Int.reduceAdd, Int.reduceSub, Int.reduceMul, Int.reduceNeg, Int.reduceEq, Int.reduceLT, Int.reduceLE]; with_reducible rfl) ?_
        | with_reducible refine h_go (by with_unfolding_all rfl) (by simp (disch := omega) only [hlt', hb1, row_m hb1, read_row (row_m hb1), hm1, row_m hm1, read_row (row_m hm1), gs, rA, rB, g1, c51r0, c51r1, c51r2, c51r3, c51r4, c51r5, c51r6, c51r7, c51r8, c51r9, EV0, EV1, EV2, EV3, EV4, EV5, EV6, EV7, EV8, VALS, plug, ite_same, decide_true, decide_false, eq_self, ↓reduceIte, reduceCtorEq, Nat.reduceAdd, Nat.reduceEqDiff, Nat.reduceLT, Nat.reduceLeDiff, Nat.reduceMul, Nat.reduceSub, Nat.reduceDiv, Int.reduceToNat, Int.reduceAdd, Int.reduceSub, Int.reduceMul, Int.reduceNeg, Int.reduceEq, Int.reduceLT, Int.reduceLE]; with_reducible rfl) ?_
        | ((with_reducible refine chk_r ?_); refine r_callF (by simp only [CA, Nat.reduceEqDiff, ↓reduceIte]; rfl) (by exact rfl) (by simp only [CA, Nat.reduceEqDiff, ↓reduceIte]; rfl) rfl ?_)
        | ((with_reducible refine chk_h ?_); refine hr_callF (by simp only [CA, Nat.reduceEqDiff, ↓reduceIte]; rfl) (by exact rfl) (by simp only [CA, Nat.reduceEqDiff, ↓reduceIte]; rfl) rfl ?_)
        | ((with_reducible refine chk_r ?_); refine r_callP (by simp only [CA, Nat.reduceEqDiff, ↓reduceIte]; rfl) (by simp only [CA, Nat.reduceEqDiff, ↓reduceIte]; rfl) (by first | exact q52 _) rfl ?_)
        | ((with_reducible refine chk_h ?_); refine hr_callP (by simp only [CA, Nat.reduceEqDiff, ↓reduceIte]; rfl) (by simp only [CA, Nat.reduceEqDiff, ↓reduceIte]; rfl) (by first | exact q52 _) rfl ?_)
        | ((with_reducible refine chk_h ?_); refine hr_callP1 (by simp only [CA, Nat.reduceEqDiff, ↓reduceIte]; rfl) (by simp only [CA, Nat.reduceEqDiff, ↓reduceIte]; rfl) (by simp (disch := omega) only [CA, Nat.reduceEqDiff, ↓reduceIte, firstTok_nil, firstTok_sl, firstTok_sl0, firstTok_i, firstTok_b, firstTok_ag, firstTok_p, firstTok_s]; rfl) (by first | exact q52 _) rfl ?_)
        | ((with_reducible refine chk_r ?_); refine r_callG (by simp only [CA, Nat.reduceEqDiff, ↓reduceIte]; rfl) (by simp only [CA, Nat.reduceEqDiff, ↓reduceIte]; rfl) (by simp only [CA, Nat.reduceEqDiff, ↓reduceIte]; rfl) (by intro hg; (try simp only [BO] at hg); first | exact q52 _) rfl ?_)
        | ((with_reducible refine chk_h ?_); refine hr_callG (by simp only [CA, Nat.reduceEqDiff, ↓reduceIte]; rfl) (by simp only [CA, Nat.reduceEqDiff, ↓reduceIte]; rfl) (by simp only [CA, Nat.reduceEqDiff, ↓reduceIte]; rfl) (by intro hg; (try simp only [BO] at hg); first | exact q52 _) rfl ?_)
        | ((with_reducible refine chk_h ?_); refine hr_app (by simp (disch := omega) only [hlt', hb1, row_m hb1, read_row (row_m hb1), hm1, row_m hm1, read_row (row_m hm1), gs, rA, rB, g1, c51r0, c51r1, c51r2, c51r3, c51r4, c51r5, c51r6, c51r7, c51r8, c51r9, EV0, EV1, EV2, EV3, EV4, EV5, EV6, EV7, EV8, VALS, plug, ite_same, decide_true, decide_false, eq_self, ↓reduceIte, reduceCtorEq, Nat.reduceAdd, Nat.reduceEqDiff, Nat.reduceLT, Nat.reduceLeDiff, Nat.reduceMul, Nat.reduceSub, Nat.reduceDiv, Int.reduceToNat, Int.reduceAdd, Int.reduceSub, Int.reduceMul, Int.reduceNeg, Int.reduceEq, Int.reduceLT, Int.reduceLE]; with_reducible rfl) rfl ?_)
        | (with_reducible refine k_condP (by simp only [GA, Nat.reduceEqDiff, ↓reduceIte]; rfl) (by first | (simp only [BO]; rfl) | rfl) (fun ht => ?_) (fun ht => ?_) <;> try (first | exact False.elim ht | exact absurd rfl ht | exact absurd trivial ht | exact Bool.noConfusion ht))
        | (with_reducible refine k_ret ?_; repeat with_reducible (first | refine ret_thru ?_ | refine ret_blk ?_ | refine fin ?_))
        | (with_reducible refine k_exit ?_; repeat with_reducible (first | refine thru ?_ | refine out_blk ?_ | refine pass (by decide) ?_))
        | (refine post1 ?_; simp only [GA, Nat.reduceEqDiff, ↓reduceIte])
        | (refine post2 ?_; simp only [GA, Nat.reduceEqDiff, ↓reduceIte])
        | (refine post3 ?_; simp only [GA, Nat.reduceEqDiff, ↓reduceIte])
        | (refine postc (by simp only [GA, Nat.reduceEqDiff, ↓reduceIte]; rfl) (by simp (disch := omega) only [hlt', hb1, row_m hb1, read_row (row_m hb1), hm1, row_m hm1, read_row (row_m hm1), gs, rA, rB, g1, c51r0, c51r1, c51r2, c51r3, c51r4, c51r5, c51r6, c51r7, c51r8, c51r9, EV0, EV1, EV2, EV3, EV4, EV5, EV6, EV7, EV8, VALS, plug, ite_same, decide_true, decide_false, eq_self, ↓reduceIte, reduceCtorEq, Nat.reduceAdd, Nat.reduceEqDiff, Nat.reduceLT, Nat.reduceLeDiff, Nat.reduceMul, Nat.reduceSub, Nat.reduceDiv, Int.reduceToNat, Int.reduceAdd, Int.reduceSub, Int.reduceMul, Int.reduceNeg, Int.reduceEq, Int.reduceLT, Int.reduceLE]; rfl) ?_)
        | refine post0 ?_
      exact ⟨hlt, r1, (by simp only [Am.keep, List.map_cons, List.map_nil, GA, Nat.reduceEqDiff, ↓reduceIte]; try rfl), g.skip (.inl hs), by simp (disch := omega) only [hm1, c51r0, c51r1, c51r2, c51r3, c51r4, c51r5, c51r6, c51r7, c51r8, c51r9, EV0, EV1, EV2, EV3, EV4, EV5, EV6, EV7, EV8, VALS, plug, ite_same, decide_true, decide_false, eq_self, ↓reduceIte, reduceCtorEq, Nat.reduceAdd, Nat.reduceEqDiff, Nat.reduceLT, Nat.reduceLeDiff, Nat.reduceMul, Nat.reduceSub, Nat.reduceDiv, Int.reduceToNat, Int.reduceAdd, Int.reduceSub, Int.reduceMul, Int.reduceNeg, Int.reduceEq, Int.reduceLT, Int.reduceLE], fun t b ht hb => by
        have := F t b ht hb
        have := ok1.m this
        simp (disch := omega) only [F t b ht hb, c51r0, c51r1, c51r2, c51r3, c51r4, c51r5, c51r6, c51r7, c51r8, c51r9, EV0, EV1, EV2, EV3, EV4, EV5, EV6, EV7, EV8, VALS, plug, ite_same, decide_true, decide_false, eq_self, ↓reduceIte, reduceCtorEq, Nat.reduceAdd, Nat.reduceEqDiff, Nat.reduceLT, Nat.reduceLeDiff, Nat.reduceMul, Nat.reduceSub, Nat.reduceDiv, Int.reduceToNat, Int.reduceAdd, Int.reduceSub, Int.reduceMul, Int.reduceNeg, Int.reduceEq, Int.reduceLT, Int.reduceLE]⟩
    | false =>
      rw [hs] at gs
      rw [← ee] at q52
      cases hed : ed l tol u k with
      | false =>
        rw [hed] at q52
        repeat' first
          | with_reducible refine k_seq ?_
          | with_reducible refine k_skip ?_
          | with_reducible refine k_blkS ?_
          | with_reducible refine k_blkR ?_
          | with_reducible refine k_blkC ?_
          | with_reducible refine k_blkH ?_
          | with_reducible refine k_blkB ?_
          | with_reducible refine k_blkK ?_
          | with_reducible refine k_blkE ?_
          | with_reducible refine k_reg ?_
          | with_reducible refine k_head (by with_unfolding_all rfl) ?_
          | with_reducible refine k_headS ?_
          | (with_reducible refine SepK.mk ?_ ?_; (refine sepQ_P ?_; simp [sepQ, sepG, AOp.late, AOp.free, AOp.xs, AOp.isAl, tokNe, AV.tok, stS_get, strip, AX.val, c51r0, c51r1, c51r2, c51r3, c51r4, c51r5, c51r6, c51r7, c51r8, c51r9, GA]; try omega))
          | with_reducible refine r_done ?_
          | with_reducible refine hr_done ?_
          | with_reducible refine s_go (by simp (disch := omega) only [hlt', hb1, row_m hb1, read_row (row_m hb1), hm1, row_m hm1, read_row (row_m hm1), gs, rA, rB, g1, c51r0, c51r1, c51r2, c51r3, c51r4, c51r5, c51r6, c51r7, c51r8, c51r9, EV0, EV1, EV2, EV3, EV4, EV5, EV6, EV7, EV8, VALS, plug, ite_same, decide_true, decide_false, eq_self, ↓reduceIte, reduceCtorEq, Nat.reduceAdd, Nat.reduceEqDiff, Nat.reduceLT, Nat.reduceLeDiff, Nat.reduceMul, Nat.reduceSub, Nat.reduceDiv, Int.reduceToNat, Int.reduceAdd, Int.reduceSub, Int.reduceMul, Int.reduceNeg, Int.reduceEq, Int.reduceLT, Int.reduceLE]; with_reducible rfl) ?_
          | with_reducible refine h_go (by with_unfolding_all rfl) (by simp (disch := omega) only [hlt', hb1, row_m hb1, read_row (row_m hb1), hm1, row_m hm1, read_row (row_m hm1), gs, rA, rB, g1, c51r0, c51r1, c51r2, c51r3, c51r4, c51r5, c51r6, c51r7, c51r8, c51r9, EV0, EV1, EV2, EV3, EV4, EV5, EV6, EV7, EV8, VALS, plug, ite_same, decide_true, decide_false, eq_self, ↓reduceIte, reduceCtorEq, Nat.reduceAdd, Nat.reduceEqDiff, Nat.reduceLT, Nat.reduceLeDiff, Nat.reduceMul, Nat.reduceSub, Nat.reduceDiv, Int.reduceToNat, Int.reduceAdd, Int.reduceSub, Int.reduceMul, Int.reduceNeg, Int.reduceEq, Int.reduceLT, Int.reduceLE]; with_reducible rfl) ?_
          | ((with_reducible refine chk_r ?_); refine r_callF (by simp only [CA, Nat.reduceEqDiff, ↓reduceIte]; rfl) (by exact rfl) (by simp only [CA, Nat.reduceEqDiff, ↓reduceIte]; rfl) rfl ?_)
          | ((with_reducible refine chk_h ?_); refine hr_callF (by simp only [CA, Nat.reduceEqDiff, ↓reduceIte]; rfl) (by exact rfl) (by simp only [CA, Nat.reduceEqDiff, ↓reduceIte]; rfl) rfl ?_)
          | ((with_reducible refine chk_r ?_); refine r_callP (by simp only [CA, Nat.reduceEqDiff, ↓reduceIte]; rfl) (by simp only [CA, Nat.reduceEqDiff, ↓reduceIte]; rfl) (by first | exact q52 _) rfl ?_)
          | ((with_reducible refine chk_h ?_); refine hr_callP (by simp only [CA, Nat.reduceEqDiff, ↓reduceIte]; rfl) (by simp only [CA, Nat.reduceEqDiff, ↓reduceIte]; rfl) (by first | exact q52 _) rfl ?_)
          | ((with_reducible refine chk_h ?_); refine hr_callP1 (by simp only [CA, Nat.reduceEqDiff, ↓reduceIte]; rfl) (by simp only [CA, Nat.reduceEqDiff, ↓reduceIte]; rfl) (by simp (disch := omega) only [CA, Nat.reduceEqDiff, ↓reduceIte, firstTok_nil, firstTok_sl, firstTok_sl0, firstTok_i, firstTok_b, firstTok_ag, firstTok_p, firstTok_s]; rfl) (by first | exact q52 _) rfl ?_)
          | ((with_reducible refine chk_r ?_); refine r_callG (by simp only [CA, Nat.reduceEqDiff, ↓reduceIte]; rfl) (by simp only [CA, Nat.reduceEqDiff, ↓reduceIte]; rfl) (by simp only [CA, Nat.reduceEqDiff, ↓reduceIte]; rfl) (by intro hg; (try simp only [BO] at hg); first | exact q52 _) rfl ?_)
          | ((with_reducible refine chk_h ?_); refine hr_callG (by simp only [CA, Nat.reduceEqDiff, ↓reduceIte]; rfl) (by simp only [CA, Nat.reduceEqDiff, ↓reduceIte]; rfl) (by simp only [CA, Nat.reduceEqDiff, ↓reduceIte]; rfl) (by intro hg; (try simp only [BO] at hg); first | exact q52 _) rfl ?_)
          | ((with_reducible refine chk_h ?_); refine hr_app (by simp (disch := omega) only [hlt', hb1, row_m hb1, read_row (row_m hb1), hm1, row_m hm1, read_row (row_m hm1), gs, rA, rB, g1, c51r0, c51r1, c51r2, c51r3, c51r4, c51r5, c51r6, c51r7, c51r8, c51r9, EV0, EV1, EV2, EV3, EV4, EV5, EV6, EV7, EV8, VALS, plug, ite_same, decide_true, decide_false, eq_self, ↓reduceIte, reduceCtorEq, Nat.reduceAdd, Nat.reduceEqDiff, Nat.reduceLT, Nat.reduceLeDiff, Nat.reduceMul, Nat.reduceSub, Nat.reduceDiv, Int.reduceToNat, Int.reduceAdd, Int.reduceSub, Int.reduceMul, Int.reduceNeg, Int.reduceEq, Int.reduceLT, Int.reduceLE]; with_reducible rfl) rfl ?_)
          | (with_reducible refine k_condP (by simp only [GA, Nat.reduceEqDiff, ↓reduceIte]; rfl) (by first | (simp only [BO]; rfl) | rfl) (fun ht => ?_) (fun ht => ?_) <;> try (first | exact False.elim ht | exact absurd rfl ht | exact absurd trivial ht | exact Bool.noConfusion ht))
          | (with_reducible refine k_ret ?_; repeat with_reducible (first | refine ret_thru ?_ | refine ret_blk ?_ | refine fin ?_))
          | (with_reducible refine k_exit ?_; repeat with_reducible (first | refine thru ?_ | refine out_blk ?_ | refine pass (by decide) ?_))
          | (refine post1 ?_; simp only [GA, Nat.reduceEqDiff, ↓reduceIte])
          | (refine post2 ?_; simp only [GA, Nat.reduceEqDiff, ↓reduceIte])
          | (refine post3 ?_; simp only [GA, Nat.reduceEqDiff, ↓reduceIte])
          | (refine postc (by simp only [GA, Nat.reduceEqDiff, ↓reduceIte]; rfl) (by simp (disch := omega) only [hlt', hb1, row_m hb1, read_row (row_m hb1), hm1, row_m hm1, read_row (row_m hm1), gs, rA, rB, g1, c51r0, c51r1, c51r2, c51r3, c51r4, c51r5, c51r6, c51r7, c51r8, c51r9, EV0, EV1, EV2, EV3, EV4, EV5, EV6, EV7, EV8, VALS, plug, ite_same, decide_true, decide_false, eq_self, ↓reduceIte, reduceCtorEq, Nat.reduceAdd, Nat.reduceEqDiff, Nat.reduceLT, Nat.reduceLeDiff, Nat.reduceMul, Nat.reduceSub, Nat.reduceDiv, Int.reduceToNat, Int.reduceAdd, Int.reduceSub, Int.reduceMul, Int.reduceNeg, Int.reduceEq, Int.reduceLT, Int.reduceLE]; rfl) ?_)
          | refine post0 ?_
        exact ⟨hlt, r1, (by simp only [Am.keep, List.map_cons, List.map_nil, GA, Nat.reduceEqDiff, ↓reduceIte]; try rfl), g.skip (.inr hed), by simp (disch := omega) only [hm1, c51r0, c51r1, c51r2, c51r3, c51r4, c51r5, c51r6, c51r7, c51r8, c51r9, EV0, EV1, EV2, EV3, EV4, EV5, EV6, EV7, EV8, VALS, plug, ite_same, decide_true, decide_false, eq_self, ↓reduceIte, reduceCtorEq, Nat.reduceAdd, Nat.reduceEqDiff, Nat.reduceLT, Nat.reduceLeDiff, Nat.reduceMul, Nat.reduceSub, Nat.reduceDiv, Int.reduceToNat, Int.reduceAdd, Int.reduceSub, Int.reduceMul, Int.reduceNeg, Int.reduceEq, Int.reduceLT, Int.reduceLE], fun t b ht hb => by
          have := F t b ht hb
          have := ok1.m this
          simp (disch := omega) only [F t b ht hb, c51r0, c51r1, c51r2, c51r3, c51r4, c51r5, c51r6, c51r7, c51r8, c51r9, EV0, EV1, EV2, EV3, EV4, EV5, EV6, EV7, EV8, VALS, plug, ite_same, decide_true, decide_false, eq_self, ↓reduceIte, reduceCtorEq, Nat.reduceAdd, Nat.reduceEqDiff, Nat.reduceLT, Nat.reduceLeDiff, Nat.reduceMul, Nat.reduceSub, Nat.reduceDiv, Int.reduceToNat, Int.reduceAdd, Int.reduceSub, Int.reduceMul, Int.reduceNeg, Int.reduceEq, Int.reduceLT, Int.reduceLE]⟩
      | true =>
        rw [hed] at q52
        obtain ⟨w, hw0⟩ : ∃ w, prt M M.length k = some w := by
          cases q : prt M M.length k with
          | none => exact absurd q (g.has hv hM fr hlt hs hed)
          | some w => exact ⟨w, rfl⟩
        have hw := prt_some (Nat.le_refl _) hw0
        obtain ⟨p1, p2, p3, p4⟩ := Vit.pair hM hw
        have lk : mlkB none (.i .i64 0) true (.i .i64 (k : Int)) (.map es) = some (.tu [.i .i64 (w : Int), .b true]) := by rw [MFi.lk hf]; simp [prF, hw0]
        have gw := sf_get (S := r1.set k true) (k := w) (by rw [List.length_set]; omega)
        cases hrw : sf (r1.set k true) w with
        | true =>
          rw [hrw] at gw
          repeat' first
            | with_reducible refine k_seq ?_
            | with_reducible refine k_skip ?_
            | with_reducible refine k_blkS ?_
            | with_reducible refine k_blkR ?_
            | with_reducible refine k_blkC ?_
            | with_reducible refine k_blkH ?_
            | with_reducible refine k_blkB ?_
            | with_reducible refine k_blkK ?_
            | with_reducible refine k_blkE ?_
            | with_reducible refine k_reg ?_
            | with_reducible refine k_head (by with_unfolding_all rfl) ?_
            | with_reducible refine k_headS ?_
            | (with_reducible refine SepK.mk ?_ ?_; (refine sepQ_P ?_; simp [sepQ, sepG, AOp.late, AOp.free, AOp.xs, AOp.isAl, tokNe, AV.tok, stS_get, strip, AX.val, c51r0, c51r1, c51r2, c51r3, c51r4, c51r5, c51r6, c51r7, c51r8, c51r9, GA]; try omega))
            | with_reducible refine r_done ?_
            | with_reducible refine hr_done ?_
            | with_reducible refine s_go (by simp (disch := omega) only [hlt', hb1, row_m hb1, read_row (row_m hb1), hm1, row_m hm1, read_row (row_m hm1), hp1, row_m hp1, read_row (row_m hp1), he1, lk, gs, gw, rA, rB, g1, List.length_set, c51r0, c51r1, c51r2, c51r3, c51r4, c51r5, c51r6, c51r7, c51r8, c51r9, EV0, EV1, EV2, EV3, EV4, EV5, EV6, EV7, EV8, VALS, plug, ite_same, decide_true, decide_false, eq_self, ↓reduceIte, reduceCtorEq, Nat.reduceAdd, Nat.reduceEqDiff, Nat.reduceLT, Nat.reduceLeDiff, Nat.reduceMul, Nat.reduceSub, Nat.reduceDiv, Int.reduceToNat, Int.reduceAdd, Int.reduceSub, Int.reduceMul, Int.reduceNeg, Int.reduceEq, Int.reduceLT, Int.reduceLE]; with_reducible rfl) ?_
            | with_reducible refine h_go (by with_unfolding_all rfl) (by simp (disch := omega) only [hlt', hb1, row_m hb1, read_row (row_m hb1), hm1, row_m hm1, read_row (row_m hm1), hp1, row_m hp1, read_row (row_m hp1), he1, lk, gs, gw, rA, rB, g1, List.length_set, c51r0, c51r1, c51r2, c51r3, c51r4, c51r5, c51r6, c51r7, c51r8, c51r9, EV0, EV1, EV2, EV3, EV4, EV5, EV6, EV7, EV8, VALS, plug, ite_same, decide_true, decide_false, eq_self, ↓reduceIte, reduceCtorEq, Nat.reduceAdd, Nat.reduceEqDiff, Nat.reduceLT, Nat.reduceLeDiff, Nat.reduceMul, Nat.reduceSub, Nat.reduceDiv, Int.reduceToNat, Int.reduceAdd, Int.reduceSub, Int.reduceMul, Int.reduceNeg, Int.reduceEq, Int.reduceLT, Int.reduceLE]; with_reducible rfl) ?_
            | ((with_reducible refine chk_r ?_); refine r_callF (by simp only [CA, Nat.reduceEqDiff, ↓reduceIte]; rfl) (by exact rfl) (by simp only [CA, Nat.reduceEqDiff, ↓reduceIte]; rfl) rfl ?_)
            | ((with_reducible refine chk_h ?_); refine hr_callF (by simp only [CA, Nat.reduceEqDiff, ↓reduceIte]; rfl) (by exact rfl) (by simp only [CA, Nat.reduceEqDiff, ↓reduceIte]; rfl) rfl ?_)
            | ((with_reducible refine chk_r ?_); refine r_callP (by simp only [CA, Nat.reduceEqDiff, ↓reduceIte]; rfl) (by simp only [CA, Nat.reduceEqDiff, ↓reduceIte]; rfl) (by first | exact q52 _) rfl ?_)
            | ((with_reducible refine chk_h ?_); refine hr_callP (by simp only [CA, Nat.reduceEqDiff, ↓reduceIte]; rfl) (by simp only [CA, Nat.reduceEqDiff, ↓reduceIte]; rfl) (by first | exact q52 _) rfl ?_)
            | ((with_reducible refine chk_h ?_); refine hr_callP1 (by simp only [CA, Nat.reduceEqDiff, ↓reduceIte]; rfl) (by simp only [CA, Nat.reduceEqDiff, ↓reduceIte]; rfl) (by simp (disch := omega) only [CA, Nat.reduceEqDiff, ↓reduceIte, firstTok_nil, firstTok_sl, firstTok_sl0, firstTok_i, firstTok_b, firstTok_ag, firstTok_p, firstTok_s]; rfl) (by first | exact q52 _) rfl ?_)
            | ((with_reducible refine chk_r ?_); refine r_callG (by simp only [CA, Nat.reduceEqDiff, ↓reduceIte]; rfl) (by simp only [CA, Nat.reduceEqDiff, ↓reduceIte]; rfl) (by simp only [CA, Nat.reduceEqDiff, ↓reduceIte]; rfl) (by intro hg; (try simp only [BO] at hg); first | exact q52 _) rfl ?_)
            | ((with_reducible refine chk_h ?_); refine hr_callG (by simp only [CA, Nat.reduceEqDiff, ↓reduceIte]; rfl) (by simp only [CA, Nat.reduceEqDiff, ↓reduceIte]; rfl) (by simp only [CA, Nat.reduceEqDiff, ↓reduceIte]; rfl) (by intro hg; (try simp only [BO] at hg); first | exact q52 _) rfl ?_)
            | ((with_reducible refine chk_h ?_); refine hr_app (by simp (disch := omega) only [hlt', hb1, row_m hb1, read_row (row_m hb1), hm1, row_m hm1, read_row (row_m hm1), hp1, row_m hp1, read_row (row_m hp1), he1, lk, gs, gw, rA, rB, g1, List.length_set, c51r0, c51r1, c51r2, c51r3, c51r4, c51r5, c51r6, c51r7, c51r8, c51r9, EV0, EV1, EV2, EV3, EV4, EV5, EV6, EV7, EV8, VALS, plug, ite_same, decide_true, decide_false, eq_self, ↓reduceIte, reduceCtorEq, Nat.reduceAdd, Nat.reduceEqDiff, Nat.reduceLT, Nat.reduceLeDiff, Nat.reduceMul, Nat.reduceSub, Nat.reduceDiv, Int.reduceToNat, Int.reduceAdd, Int.reduceSub, Int.reduceMul, Int.reduceNeg, Int.reduceEq, Int.reduceLT, Int.reduceLE]; with_reducible rfl) rfl ?_)
            | (with_reducible refine k_condP (by simp only [GA, Nat.reduceEqDiff, ↓reduceIte]; rfl) (by first | (simp only [BO]; rfl) | rfl) (fun ht => ?_) (fun ht => ?_) <;> try (first | exact False.elim ht | exact absurd rfl ht | exact absurd trivial ht | exact Bool.noConfusion ht))
            | (with_reducible refine k_ret ?_; repeat with_reducible (first | refine ret_thru ?_ | refine ret_blk ?_ | refine fin ?_))
            | (with_reducible refine k_exit ?_; repeat with_reducible (first | refine thru ?_ | refine out_blk ?_ | refine pass (by decide) ?_))
            | (refine post1 ?_; simp only [GA, Nat.reduceEqDiff, ↓reduceIte])
            | (refine post2 ?_; simp only [GA, Nat.reduceEqDiff, ↓reduceIte])
            | (refine post3 ?_; simp only [GA, Nat.reduceEqDiff, ↓reduceIte])
            | (refine postc (by simp only [GA, Nat.reduceEqDiff, ↓reduceIte]; rfl) (by simp (disch := omega) only [hlt', hb1, row_m hb1, read_row (row_m hb1), hm1, row_m hm1, read_row (row_m hm1), hp1, row_m hp1, read_row (row_m hp1), he1, lk, gs, gw, rA, rB, g1, List.length_set, c51r0, c51r1, c51r2, c51r3, c51r4, c51r5, c51r6, c51r7, c51r8, c51r9, EV0, EV1, EV2, EV3, EV4, EV5, EV6, EV7, EV8, VALS, plug, ite_same, decide_true, decide_false, eq_self, ↓reduceIte, reduceCtorEq, Nat.reduceAdd, Nat.reduceEqDiff, Nat.reduceLT, Nat.reduceLeDiff, Nat.reduceMul, Nat.reduceSub, Nat.reduceDiv, Int.reduceToNat, Int.reduceAdd, Int.reduceSub, Int.reduceMul, Int.reduceNeg, Int.reduceEq, Int.reduceLT, Int.reduceLE]; rfl) ?_)
            | refine post0 ?_
          exact ⟨hlt, r1.set k true, (by simp only [Am.keep, List.map_cons, List.map_nil, GA, Nat.reduceEqDiff, ↓reduceIte]; try rfl), g.old hM fr hlt hw hrw, by simp (disch := omega) only [hm1, c51r0, c51r1, c51r2, c51r3, c51r4, c51r5, c51r6, c51r7, c51r8, c51r9, EV0, EV1, EV2, EV3, EV4, EV5, EV6, EV7, EV8, VALS, plug, ite_same, decide_true, decide_false, eq_self, ↓reduceIte, reduceCtorEq, Nat.reduceAdd, Nat.reduceEqDiff, Nat.reduceLT, Nat.reduceLeDiff, Nat.reduceMul, Nat.reduceSub, Nat.reduceDiv, Int.reduceToNat, Int.reduceAdd, Int.reduceSub, Int.reduceMul, Int.reduceNeg, Int.reduceEq, Int.reduceLT, Int.reduceLE] <;> rfl, fun t b ht hb => by
            have := F t b ht hb
            have := ok1.m this
            simp (disch := omega) only [F t b ht hb, c51r0, c51r1, c51r2, c51r3, c51r4, c51r5, c51r6, c51r7, c51r8, c51r9, EV0, EV1, EV2, EV3, EV4, EV5, EV6, EV7, EV8, VALS, plug, ite_same, decide_true, decide_false, eq_self, ↓reduceIte, reduceCtorEq, Nat.reduceAdd, Nat.reduceEqDiff, Nat.reduceLT, Nat.reduceLeDiff, Nat.reduceMul, Nat.reduceSub, Nat.reduceDiv, Int.reduceToNat, Int.reduceAdd, Int.reduceSub, Int.reduceMul, Int.reduceNeg, Int.reduceEq, Int.reduceLT, Int.reduceLE]⟩
        | false =>
          rw [hrw] at gw
          have lt : uns (r1.set k true) < n := by
            have a := uns_set (S := r1) (k := k) (by omega) hs
            have b := uns_le (S := rs) (S' := r1) (by omega) g.le
            omega
          have ih' := fun h => ih _ lt (r1.set k true) w h rfl (g.next hv hM fr hlt hs hed hw hrw)
          repeat' first
            | with_reducible refine k_seq ?_
            | with_reducible refine k_skip ?_
            | with_reducible refine k_blkS ?_
            | with_reducible refine k_blkR ?_
            | with_reducible refine k_blkC ?_
            | with_reducible refine k_blkH ?_
            | with_reducible refine k_blkB ?_
            | with_reducible refine k_blkK ?_
            | with_reducible refine k_blkE ?_
            | with_reducible refine k_reg ?_
            | with_reducible refine k_head (by with_unfolding_all rfl) ?_
            | with_reducible refine k_headS ?_
            | (with_reducible refine SepK.mk ?_ ?_; (refine sepQ_P ?_; simp [sepQ, sepG, AOp.late, AOp.free, AOp.xs, AOp.isAl, tokNe, AV.tok, stS_get, strip, AX.val, c51r0, c51r1, c51r2, c51r3, c51r4, c51r5, c51r6, c51r7, c51r8, c51r9, GA]; try omega))
            | with_reducible refine r_done ?_
            | with_reducible refine hr_done ?_
            | with_reducible refine s_go (by simp (disch := omega) only [hlt', hb1, row_m hb1, read_row (row_m hb1), hm1, row_m hm1, read_row (row_m hm1), hp1, row_m hp1, read_row (row_m hp1), he1, hc1, row_m hc1, read_row (row_m hc1), lk, gs, gw, rA, rB, g1, List.length_set, c51r0, c51r1, c51r2, c51r3, c51r4, c51r5, c51r6, c51r7, c51r8, c51r9, EV0, EV1, EV2, EV3, EV4, EV5, EV6, EV7, EV8, VALS, plug, ite_same, decide_true, decide_false, eq_self, ↓reduceIte, reduceCtorEq, Nat.reduceAdd, Nat.reduceEqDiff, Nat.reduceLT, Nat.reduceLeDiff, Nat.reduceMul, Nat.reduceSub, Nat.reduceDiv, Int.reduceToNat, Int.reduceAdd, Int.reduceSub, Int.reduceMul, Int.reduceNeg, Int.reduceEq, Int.reduceLT, Int.reduceLE]; with_reducible rfl) ?_
            | with_reducible refine h_go (by with_unfolding_all rfl) (by simp (disch := omega) only [hlt', hb1, row_m hb1, read_row (row_m hb1), hm1, row_m hm1, read_row (row_m hm1), hp1, row_m hp1, read_row (row_m hp1), he1, hc1, row_m hc1, read_row (row_m hc1), lk, gs, gw, rA, rB, g1, List.length_set, c51r0, c51r1, c51r2, c51r3, c51r4, c51r5, c51r6, c51r7, c51r8, c51r9, EV0, EV1, EV2, EV3, EV4, EV5, EV6, EV7, EV8, VALS, plug, ite_same, decide_true, decide_false, eq_self, ↓reduceIte, reduceCtorEq, Nat.reduceAdd, Nat.reduceEqDiff, Nat.reduceLT, Nat.reduceLeDiff, Nat.reduceMul, Nat.reduceSub, Nat.reduceDiv, Int.reduceToNat, Int.reduceAdd, Int.reduceSub, Int.reduceMul, Int.reduceNeg, Int.reduceEq, Int.reduceLT, Int.reduceLE]; with_reducible rfl) ?_
            | ((with_reducible refine chk_r ?_); refine r_callF (by simp only [CA, Nat.reduceEqDiff, ↓reduceIte]; rfl) (by exact rfl) (by simp only [CA, Nat.reduceEqDiff, ↓reduceIte]; rfl) rfl ?_)
            | ((with_reducible refine chk_h ?_); refine hr_callF (by simp only [CA, Nat.reduceEqDiff, ↓reduceIte]; rfl) (by exact rfl) (by simp only [CA, Nat.reduceEqDiff, ↓reduceIte]; rfl) rfl ?_)
            | ((with_reducible refine chk_r ?_); refine r_callP (by simp only [CA, Nat.reduceEqDiff, ↓reduceIte]; rfl) (by simp only [CA, Nat.reduceEqDiff, ↓reduceIte]; rfl) (by first | exact q52 _) rfl ?_)
            | ((with_reducible refine chk_h ?_); refine hr_callP (by simp only [CA, Nat.reduceEqDiff, ↓reduceIte]; rfl) (by simp only [CA, Nat.reduceEqDiff, ↓reduceIte]; rfl) (by first | exact q52 _) rfl ?_)
            | ((with_reducible refine chk_h ?_); refine hr_callP1 (by simp only [CA, Nat.reduceEqDiff, ↓reduceIte]; rfl) (by simp only [CA, Nat.reduceEqDiff, ↓reduceIte]; rfl) (by simp (disch := omega) only [CA, Nat.reduceEqDiff, ↓reduceIte, firstTok_nil, firstTok_sl, firstTok_sl0, firstTok_i, firstTok_b, firstTok_ag, firstTok_p, firstTok_s]; rfl) (by first | exact q52 _) rfl ?_)
            | ((with_reducible refine chk_r ?_); refine r_callG (by simp only [CA, Nat.reduceEqDiff, ↓reduceIte]; rfl) (by simp only [CA, Nat.reduceEqDiff, ↓reduceIte]; rfl) (by simp only [CA, Nat.reduceEqDiff, ↓reduceIte]; rfl) (by intro hg; (try simp only [BO] at hg); first | exact q52 _) rfl ?_)
            | ((with_reducible refine chk_h ?_); refine hr_callG (by simp only [CA, Nat.reduceEqDiff, ↓reduceIte]; rfl) (by simp only [CA, Nat.reduceEqDiff, ↓reduceIte]; rfl) (by simp only [CA, Nat.reduceEqDiff, ↓reduceIte]; rfl) (by intro hg; (try simp only [BO] at hg); first | exact q52 _) rfl ?_)
            | ((with_reducible refine chk_h ?_); refine hr_app (by simp (disch := omega) only [hlt', hb1, row_m hb1, read_row (row_m hb1), hm1, row_m hm1, read_row (row_m hm1), hp1, row_m hp1, read_row (row_m hp1), he1, hc1, row_m hc1, read_row (row_m hc1), lk, gs, gw, rA, rB, g1, List.length_set, c51r0, c51r1, c51r2, c51r3, c51r4, c51r5, c51r6, c51r7, c51r8, c51r9, EV0, EV1, EV2, EV3, EV4, EV5, EV6, EV7, EV8, VALS, plug, ite_same, decide_true, decide_false, eq_self, ↓reduceIte, reduceCtorEq, Nat.reduceAdd, Nat.reduceEqDiff, Nat.reduceLT, Nat.reduceLeDiff, Nat.reduceMul, Nat.reduceSub, Nat.reduceDiv, Int.reduceToNat, Int.reduceAdd, Int.reduceSub, Int.reduceMul, Int.reduceNeg, Int.reduceEq, Int.reduceLT, Int.reduceLE]; with_reducible rfl) rfl ?_)
            | ((with_reducible refine chk_r ?_); refine r_callX (by simp only [CA, Nat.reduceEqDiff, ↓reduceIte]; rfl) (by simp only [CA, Nat.reduceEqDiff, ↓reduceIte]; rfl) (by first | exact ih' _ (by simp (disch := omega) only [hb1, c51r0, c51r1, c51r2, c51r3, c51r4, c51r5, c51r6, c51r7, c51r8, c51r9, EV0, EV1, EV2, EV3, EV4, EV5, EV6, EV7, EV8, VALS, plug, ite_same, decide_true, decide_false, eq_self, ↓reduceIte, reduceCtorEq, Nat.reduceAdd, Nat.reduceEqDiff, Nat.reduceLT, Nat.reduceLeDiff, Nat.reduceMul, Nat.reduceSub, Nat.reduceDiv, Int.reduceToNat, Int.reduceAdd, Int.reduceSub, Int.reduceMul, Int.reduceNeg, Int.reduceEq, Int.reduceLT, Int.reduceLE] <;> rfl) (by simp (disch := omega) only [hm1, c51r0, c51r1, c51r2, c51r3, c51r4, c51r5, c51r6, c51r7, c51r8, c51r9, EV0, EV1, EV2, EV3, EV4, EV5, EV6, EV7, EV8, VALS, plug, ite_same, decide_true, decide_false, eq_self, ↓reduceIte, reduceCtorEq, Nat.reduceAdd, Nat.reduceEqDiff, Nat.reduceLT, Nat.reduceLeDiff, Nat.reduceMul, Nat.reduceSub, Nat.reduceDiv, Int.reduceToNat, Int.reduceAdd, Int.reduceSub, Int.reduceMul, Int.reduceNeg, Int.reduceEq, Int.reduceLT, Int.reduceLE] <;> rfl) (by simp (disch := omega) only [hp1, c51r0, c51r1, c51r2, c51r3, c51r4, c51r5, c51r6, c51r7, c51r8, c51r9, EV0, EV1, EV2, EV3, EV4, EV5, EV6, EV7, EV8, VALS, plug, ite_same, decide_true, decide_false, eq_self, ↓reduceIte, reduceCtorEq, Nat.reduceAdd, Nat.reduceEqDiff, Nat.reduceLT, Nat.reduceLeDiff, Nat.reduceMul, Nat.reduceSub, Nat.reduceDiv, Int.reduceToNat, Int.reduceAdd, Int.reduceSub, Int.reduceMul, Int.reduceNeg, Int.reduceEq, Int.reduceLT, Int.reduceLE] <;> rfl) (by simp (disch := omega) only [he1, c51r0, c51r1, c51r2, c51r3, c51r4, c51r5, c51r6, c51r7, c51r8, c51r9, EV0, EV1, EV2, EV3, EV4, EV5, EV6, EV7, EV8, VALS, plug, ite_same, decide_true, decide_false, eq_self, ↓reduceIte, reduceCtorEq, Nat.reduceAdd, Nat.reduceEqDiff, Nat.reduceLT, Nat.reduceLeDiff, Nat.reduceMul, Nat.reduceSub, Nat.reduceDiv, Int.reduceToNat, Int.reduceAdd, Int.reduceSub, Int.reduceMul, Int.reduceNeg, Int.reduceEq, Int.reduceLT, Int.reduceLE] <;> rfl) (by simp (disch := omega) only [hc1, c51r0, c51r1, c51r2, c51r3, c51r4, c51r5, c51r6, c51r7, c51r8, c51r9, EV0, EV1, EV2, EV3, EV4, EV5, EV6, EV7, EV8, VALS, plug, ite_same, decide_true, decide_false, eq_self, ↓reduceIte, reduceCtorEq, Nat.reduceAdd, Nat.reduceEqDiff, Nat.reduceLT, Nat.reduceLeDiff, Nat.reduceMul, Nat.reduceSub, Nat.reduceDiv, Int.reduceToNat, Int.reduceAdd, Int.reduceSub, Int.reduceMul, Int.reduceNeg, Int.reduceEq, Int.reduceLT, Int.reduceLE] <;> rfl)) rfl ?_)
            | ((with_reducible refine chk_r ?_); refine r_callTX (by first | (simp only [CA, Nat.reduceEqDiff, ↓reduceIte]; rfl) | simp only [CA, Nat.reduceEqDiff, ↓reduceIte]) (by simp only [CA, Nat.reduceEqDiff, ↓reduceIte]; rfl) (by simp only [CA, Nat.reduceEqDiff, ↓reduceIte]; rfl) (by first | exact ih' _ (by simp (disch := omega) only [hb1, c51r0, c51r1, c51r2, c51r3, c51r4, c51r5, c51r6, c51r7, c51r8, c51r9, EV0, EV1, EV2, EV3, EV4, EV5, EV6, EV7, EV8, VALS, plug, ite_same, decide_true, decide_false, eq_self, ↓reduceIte, reduceCtorEq, Nat.reduceAdd, Nat.reduceEqDiff, Nat.reduceLT, Nat.reduceLeDiff, Nat.reduceMul, Nat.reduceSub, Nat.reduceDiv, Int.reduceToNat, Int.reduceAdd, Int.reduceSub, Int.reduceMul, Int.reduceNeg, Int.reduceEq, Int.reduceLT, Int.reduceLE] <;> rfl) (by simp (disch := omega) only [hm1, c51r0, c51r1, c51r2, c51r3, c51r4, c51r5, c51r6, c51r7, c51r8, c51r9, EV0, EV1, EV2, EV3, EV4, EV5, EV6, EV7, EV8, VALS, plug, ite_same, decide_true, decide_false, eq_self, ↓reduceIte, reduceCtorEq, Nat.reduceAdd, Nat.reduceEqDiff, Nat.reduceLT, Nat.reduceLeDiff, Nat.reduceMul, Nat.reduceSub, Nat.reduceDiv, Int.reduceToNat, Int.reduceAdd, Int.reduceSub, Int.reduceMul, Int.reduceNeg, Int.reduceEq, Int.reduceLT, Int.reduceLE] <;> rfl) (by simp (disch := omega) only [hp1, c51r0, c51r1, c51r2, c51r3, c51r4, c51r5, c51r6, c51r7, c51r8, c51r9, EV0, EV1, EV2, EV3, EV4, EV5, EV6, EV7, EV8, VALS, plug, ite_same, decide_true, decide_false, eq_self, ↓reduceIte, reduceCtorEq, Nat.reduceAdd, Nat.reduceEqDiff, Nat.reduceLT, Nat.reduceLeDiff, Nat.reduceMul, Nat.reduceSub, Nat.reduceDiv, Int.reduceToNat, Int.reduceAdd, Int.reduceSub, Int.reduceMul, Int.reduceNeg, Int.reduceEq, Int.reduceLT, Int.reduceLE] <;> rfl) (by simp (disch := omega) only [he1, c51r0, c51r1, c51r2, c51r3, c51r4, c51r5, c51r6, c51r7, c51r8, c51r9, EV0, EV1, EV2, EV3, EV4, EV5, EV6, EV7, EV8, VALS, plug, ite_same, decide_true, decide_false, eq_self, ↓reduceIte, reduceCtorEq, Nat.reduceAdd, Nat.reduceEqDiff, Nat.reduceLT, Nat.reduceLeDiff, Nat.reduceMul, Nat.reduceSub, Nat.reduceDiv, Int.reduceToNat, Int.reduceAdd, Int.reduceSub, Int.reduceMul, Int.reduceNeg, Int.reduceEq, Int.reduceLT, Int.reduceLE] <;> rfl) (by simp (disch := omega) only [hc1, c51r0, c51r1, c51r2, c51r3, c51r4, c51r5, c51r6, c51r7, c51r8, c51r9, EV0, EV1, EV2, EV3, EV4, EV5, EV6, EV7, EV8, VALS, plug, ite_same, decide_true, decide_false, eq_self, ↓reduceIte, reduceCtorEq, Nat.reduceAdd, Nat.reduceEqDiff, Nat.reduceLT, Nat.reduceLeDiff, Nat.reduceMul, Nat.reduceSub, Nat.reduceDiv, Int.reduceToNat, Int.reduceAdd, Int.reduceSub, Int.reduceMul, Int.reduceNeg, Int.reduceEq, Int.reduceLT, Int.reduceLE] <;> rfl)) rfl ?_)
            | (with_reducible refine k_condP (by simp only [GA, Nat.reduceEqDiff, ↓reduceIte]; rfl) (by first | (simp only [BO]; rfl) | rfl) (fun ht => ?_) (fun ht => ?_) <;> try (first | exact False.elim ht | exact absurd rfl ht | exact absurd trivial ht | exact Bool.noConfusion ht))
            | (with_reducible refine k_ret ?_; repeat with_reducible (first | refine ret_thru ?_ | refine ret_blk ?_ | refine fin ?_))
            | (with_reducible refine k_exit ?_; repeat with_reducible (first | refine thru ?_ | refine out_blk ?_ | refine pass (by decide) ?_))
            | (refine post1 ?_; simp only [GA, Nat.reduceEqDiff, ↓reduceIte])
            | (refine post2 ?_; simp only [GA, Nat.reduceEqDiff, ↓reduceIte])
            | (refine post3 ?_; simp only [GA, Nat.reduceEqDiff, ↓reduceIte])
            | (refine postc (by simp only [GA, Nat.reduceEqDiff, ↓reduceIte]; rfl) (by simp (disch := omega) only [hlt', hb1, row_m hb1, read_row (row_m hb1), hm1, row_m hm1, read_row (row_m hm1), hp1, row_m hp1, read_row (row_m hp1), he1, hc1, row_m hc1, read_row (row_m hc1), lk, gs, gw, rA, rB, g1, List.length_set, c51r0, c51r1, c51r2, c51r3, c51r4, c51r5, c51r6, c51r7, c51r8, c51r9, EV0, EV1, EV2, EV3, EV4, EV5, EV6, EV7, EV8, VALS, plug, ite_same, decide_true, decide_false, eq_self, ↓reduceIte, reduceCtorEq, Nat.reduceAdd, Nat.reduceEqDiff, Nat.reduceLT, Nat.reduceLeDiff, Nat.reduceMul, Nat.reduceSub, Nat.reduceDiv, Int.reduceToNat, Int.reduceAdd, Int.reduceSub, Int.reduceMul, Int.reduceNeg, Int.reduceEq, Int.reduceLT, Int.reduceLE]; rfl) ?_)
            | refine post0 ?_
          rintro rr h' ⟨rfl, r2, v, h2, F2⟩
          repeat' first
            | with_reducible refine k_seq ?_
            | with_reducible refine k_skip ?_
            | with_reducible refine k_blkS ?_
            | with_reducible refine k_blkR ?_
            | with_reducible refine k_blkC ?_
            | with_reducible refine k_blkH ?_
            | with_reducible refine k_blkB ?_
            | with_reducible refine k_blkK ?_
            | with_reducible refine k_blkE ?_
            | with_reducible refine k_reg ?_
            | with_reducible refine k_head (by with_unfolding_all rfl) ?_
            | with_reducible refine k_headS ?_
            | (with_reducible refine SepK.mk ?_ ?_; (refine sepQ_P ?_; simp [sepQ, sepG, AOp.late, AOp.free, AOp.xs, AOp.isAl, tokNe, AV.tok, stS_get, strip, AX.val, c51r0, c51r1, c51r2, c51r3, c51r4, c51r5, c51r6, c51r7, c51r8, c51r9, GA]; try omega))
            | with_reducible refine r_done ?_
            | with_reducible refine hr_done ?_
            | with_reducible refine s_go (by simp (disch := omega) only [c51r0, c51r1, c51r2, c51r3, c51r4, c51r5, c51r6, c51r7, c51r8, c51r9, EV0, EV1, EV2, EV3, EV4, EV5, EV6, EV7, EV8, VALS, plug, ite_same, decide_true, decide_false, eq_self, ↓reduceIte, reduceCtorEq, Nat.reduceAdd, Nat.reduceEqDiff, Nat.reduceLT, Nat.reduceLeDiff, Nat.reduceMul, Nat.reduceSub, Nat.reduceDiv, Int.reduceToNat, Int.reduceAdd, Int.reduceSub, Int.reduceMul, Int.reduceNeg, Int.reduceEq, Int.reduceLT, Int.reduceLE]; with_reducible rfl) ?_
            | with_reducible refine h_go (by with_unfolding_all rfl) (by simp (disch := omega) only [c51r0, c51r1, c51r2, c51r3, c51r4, c51r5, c51r6, c51r7, c51r8, c51r9, EV0, EV1, EV2, EV3, EV4, EV5, EV6, EV7, EV8, VALS, plug, ite_same, decide_true, decide_false, eq_self, ↓reduceIte, reduceCtorEq, Nat.reduceAdd, Nat.reduceEqDiff, Nat.reduceLT, Nat.reduceLeDiff, Nat.reduceMul, Nat.reduceSub, Nat.reduceDiv, Int.reduceToNat, Int.reduceAdd, Int.reduceSub, Int.reduceMul, Int.reduceNeg, Int.reduceEq, Int.reduceLT, Int.reduceLE]; with_reducible rfl) ?_
            | ((with_reducible refine chk_r ?_); refine r_callF (by simp only [CA, Nat.reduceEqDiff, ↓reduceIte]; rfl) (by exact rfl) (by simp only [CA, Nat.reduceEqDiff, ↓reduceIte]; rfl) rfl ?_)
            | ((with_reducible refine chk_h ?_); refine hr_callF (by simp only [CA, Nat.reduceEqDiff, ↓reduceIte]; rfl) (by exact rfl) (by simp only [CA, Nat.reduceEqDiff, ↓reduceIte]; rfl) rfl ?_)
            | ((with_reducible refine chk_h ?_); refine hr_app (by simp (disch := omega) only [c51r0, c51r1, c51r2, c51r3, c51r4, c51r5, c51r6, c51r7, c51r8, c51r9, EV0, EV1, EV2, EV3, EV4, EV5, EV6, EV7, EV8, VALS, plug, ite_same, decide_true, decide_false, eq_self, ↓reduceIte, reduceCtorEq, Nat.reduceAdd, Nat.reduceEqDiff, Nat.reduceLT, Nat.reduceLeDiff, Nat.reduceMul, Nat.reduceSub, Nat.reduceDiv, Int.reduceToNat, Int.reduceAdd, Int.reduceSub, Int.reduceMul, Int.reduceNeg, Int.reduceEq, Int.reduceLT, Int.reduceLE]; with_reducible rfl) rfl ?_)
            | (with_reducible refine k_condP (by simp only [GA, Nat.reduceEqDiff, ↓reduceIte]; rfl) (by first | (simp only [BO]; rfl) | rfl) (fun ht => ?_) (fun ht => ?_) <;> try (first | exact False.elim ht | exact absurd rfl ht | exact absurd trivial ht | exact Bool.noConfusion ht))
            | (with_reducible refine k_ret ?_; repeat with_reducible (first | refine ret_thru ?_ | refine ret_blk ?_ | refine fin ?_))
            | (with_reducible refine k_exit ?_; repeat with_reducible (first | refine thru ?_ | refine out_blk ?_ | refine pass (by decide) ?_))
            | (refine post1 ?_; simp only [GA, Nat.reduceEqDiff, ↓reduceIte])
            | (refine post2 ?_; simp only [GA, Nat.reduceEqDiff, ↓reduceIte])
            | (refine post3 ?_; simp only [GA, Nat.reduceEqDiff, ↓reduceIte])
            | (refine postc (by simp only [GA, Nat.reduceEqDiff, ↓reduceIte]; rfl) (by simp (disch := omega) only [c51r0, c51r1, c51r2, c51r3, c51r4, c51r5, c51r6, c51r7, c51r8, c51r9, EV0, EV1, EV2, EV3, EV4, EV5, EV6, EV7, EV8, VALS, plug, ite_same, decide_true, decide_false, eq_self, ↓reduceIte, reduceCtorEq, Nat.reduceAdd, Nat.reduceEqDiff, Nat.reduceLT, Nat.reduceLeDiff, Nat.reduceMul, Nat.reduceSub, Nat.reduceDiv, Int.reduceToNat, Int.reduceAdd, Int.reduceSub, Int.reduceMul, Int.reduceNeg, Int.reduceEq, Int.reduceLT, Int.reduceLE]; rfl) ?_)
            | refine post0 ?_
          exact ⟨hlt, r2, (by simp only [Am.keep, List.map_cons, List.map_nil, GA, Nat.reduceEqDiff, ↓reduceIte]; try rfl), g.new hM fr hlt hw v, by simp (disch := omega) only [h2, c51r0, c51r1, c51r2, c51r3, c51r4, c51r5, c51r6, c51r7, c51r8, c51r9, EV0, EV1, EV2, EV3, EV4, EV5, EV6, EV7, EV8, VALS, plug, ite_same, decide_true, decide_false, eq_self, ↓reduceIte, reduceCtorEq, Nat.reduceAdd, Nat.reduceEqDiff, Nat.reduceLT, Nat.reduceLeDiff, Nat.reduceMul, Nat.reduceSub, Nat.reduceDiv, Int.reduceToNat, Int.reduceAdd, Int.reduceSub, Int.reduceMul, Int.reduceNeg, Int.reduceEq, Int.reduceLT, Int.reduceLE], fun t b ht hb => by
            have q := F t b ht hb
            have := ok1.m q
            have q2 := F2 t b ht (by simp (disch := omega) only [q, c51r0, c51r1, c51r2, c51r3, c51r4, c51r5, c51r6, c51r7, c51r8, c51r9, EV0, EV1, EV2, EV3, EV4, EV5, EV6, EV7, EV8, VALS, plug, ite_same, decide_true, decide_false, eq_self, ↓reduceIte, reduceCtorEq, Nat.reduceAdd, Nat.reduceEqDiff, Nat.reduceLT, Nat.reduceLeDiff, Nat.reduceMul, Nat.reduceSub, Nat.reduceDiv, Int.reduceToNat, Int.reduceAdd, Int.reduceSub, Int.reduceMul, Int.reduceNeg, Int.reduceEq, Int.reduceLT, Int.reduceLE])
            simp (disch := omega) only [q2, c51r0, c51r1, c51r2, c51r3, c51r4, c51r5, c51r6, c51r7, c51r8, c51r9, EV0, EV1, EV2, EV3, EV4, EV5, EV6, EV7, EV8, VALS, plug, ite_same, decide_true, decide_false, eq_self, ↓reduceIte, reduceCtorEq, Nat.reduceAdd, Nat.reduceEqDiff, Nat.reduceLT, Nat.reduceLeDiff, Nat.reduceMul, Nat.reduceSub, Nat.reduceDiv, Int.reduceToNat, Int.reduceAdd, Int.reduceSub, Int.reduceMul, Int.reduceNeg, Int.reduceEq, Int.reduceLT, Int.reduceLE]⟩
  · obtain rfl : k = l.length := by omega
    have hlt' : ¬ (l.length : Int) < l.length := by omega
    repeat' first
      | with_reducible refine k_seq ?_
      | with_reducible refine k_skip ?_
      | with_reducible refine k_blkS ?_
      | with_reducible refine k_blkR ?_
      | with_reducible refine k_blkC ?_
      | with_reducible refine k_blkH ?_
      | with_reducible refine k_blkB ?_
      | with_reducible refine k_blkK ?_
      | with_reducible refine k_blkE ?_
      | with_reducible refine k_reg ?_
      | with_reducible refine k_head (by with_unfolding_all rfl) ?_
      | with_reducible refine k_headS ?_
      | (with_reducible refine SepK.mk ?_ ?_; (refine sepQ_P ?_; simp [sepQ, sepG, AOp.late, AOp.free, AOp.xs, AOp.isAl, tokNe, AV.tok, stS_get, strip, AX.val, c51r0, c51r1, c51r2, c51r3, c51r4, c51r5, c51r6, c51r7, c51r8, c51r9, GA]; try omega))
      | with_reducible refine r_done ?_
      | with_reducible refine hr_done ?_
      | with_reducible refine s_go (by simp (disch := omega) only [hlt', c51r0, c51r1, c51r2, c51r3, c51r4, c51r5, c51r6, c51r7, c51r8, c51r9, EV0, EV1, EV2, EV3, EV4, EV5, EV6, EV7, EV8, VALS, plug, ite_same, decide_true, decide_false, eq_self, ↓reduceIte, reduceCtorEq, Nat.reduceAdd, Nat.reduceEqDiff, Nat.reduceLT, Nat.reduceLeDiff, Nat.reduceMul, Nat.reduceSub, Nat.reduceDiv, Int.reduceToNat, Int.reduceAdd, Int.reduceSub, Int.reduceMul, Int.reduceNeg, Int.reduceEq, Int.reduceLT, Int.reduceLE]; with_reducible rfl) ?_
      | with_reducible refine h_go (by with_unfolding_all rfl) (by simp (disch := omega) only [hlt', c51r0, c51r1, c51r2, c51r3, c51r4, c51r5, c51r6, c51r7, c51r8, c51r9, EV0, EV1, EV2, EV3, EV4, EV5, EV6, EV7, EV8, VALS, plug, ite_same, decide_true, decide_false, eq_self, ↓reduceIte, reduceCtorEq, Nat.reduceAdd, Nat.reduceEqDiff, Nat.reduceLT, Nat.reduceLeDiff, Nat.reduceMul, Nat.reduceSub, Nat.reduceDiv, Int.reduceToNat, Int.reduceAdd, Int.reduceSub, Int.reduceMul, Int.reduceNeg, Int.reduceEq, Int.reduceLT, Int.reduceLE]; with_reducible rfl) ?_
      | ((with_reducible refine chk_r ?_); refine r_callF (by simp only [CA, Nat.reduceEqDiff, ↓reduceIte]; rfl) (by exact rfl) (by simp only [CA, Nat.reduceEqDiff, ↓reduceIte]; rfl) rfl ?_)
      | ((with_reducible refine chk_h ?_); refine hr_callF (by simp only [CA, Nat.reduceEqDiff, ↓reduceIte]; rfl) (by exact rfl) (by simp only [CA, Nat.reduceEqDiff, ↓reduceIte]; rfl) rfl ?_)
      | ((with_reducible refine chk_h ?_); refine hr_app (by simp (disch := omega) only [hlt', c51r0, c51r1, c51r2, c51r3, c51r4, c51r5, c51r6, c51r7, c51r8, c51r9, EV0, EV1, EV2, EV3, EV4, EV5, EV6, EV7, EV8, VALS, plug, ite_same, decide_true, decide_false, eq_self, ↓reduceIte, reduceCtorEq, Nat.reduceAdd, Nat.reduceEqDiff, Nat.reduceLT, Nat.reduceLeDiff, Nat.reduceMul, Nat.reduceSub, Nat.reduceDiv, Int.reduceToNat, Int.reduceAdd, Int.reduceSub, Int.reduceMul, Int.reduceNeg, Int.reduceEq, Int.reduceLT, Int.reduceLE]; with_reducible rfl) rfl ?_)
      | (with_reducible refine k_condP (by simp only [GA, Nat.reduceEqDiff, ↓reduceIte]; rfl) (by first | (simp only [BO]; rfl) | rfl) (fun ht => ?_) (fun ht => ?_) <;> try (first | exact False.elim ht | exact absurd rfl ht | exact absurd trivial ht | exact Bool.noConfusion ht))
      | (with_reducible refine k_ret ?_; repeat with_reducible (first | refine ret_thru ?_ | refine ret_blk ?_ | refine fin ?_))
      | (with_reducible refine k_exit ?_; repeat with_reducible (first | refine thru ?_ | refine out_blk ?_ | refine pass (by decide) ?_))
      | (refine post1 ?_; simp only [GA, Nat.reduceEqDiff, ↓reduceIte])
      | (refine post2 ?_; simp only [GA, Nat.reduceEqDiff, ↓reduceIte])
      | (refine post3 ?_; simp only [GA, Nat.reduceEqDiff, ↓reduceIte])
      | (refine postc (by simp only [GA, Nat.reduceEqDiff, ↓reduceIte]; rfl) (by simp (disch := omega) only [hlt', c51r0, c51r1, c51r2, c51r3, c51r4, c51r5, c51r6, c51r7, c51r8, c51r9, EV0, EV1, EV2, EV3, EV4, EV5, EV6, EV7, EV8, VALS, plug, ite_same, decide_true, decide_false, eq_self, ↓reduceIte, reduceCtorEq, Nat.reduceAdd, Nat.reduceEqDiff, Nat.reduceLT, Nat.reduceLeDiff, Nat.reduceMul, Nat.reduceSub, Nat.reduceDiv, Int.reduceToNat, Int.reduceAdd, Int.reduceSub, Int.reduceMul, Int.reduceNeg, Int.reduceEq, Int.reduceLT, Int.reduceLE]; rfl) ?_)
      | refine post0 ?_
    exact ⟨rfl, r1, g.fin, by simp (disch := omega) only [hm1, c51r0, c51r1, c51r2, c51r3, c51r4, c51r5, c51r6, c51r7, c51r8, c51r9, EV0, EV1, EV2, EV3, EV4, EV5, EV6, EV7, EV8, VALS, plug, ite_same, decide_true, decide_false, eq_self, ↓reduceIte, reduceCtorEq, Nat.reduceAdd, Nat.reduceEqDiff, Nat.reduceLT, Nat.reduceLeDiff, Nat.reduceMul, Nat.reduceSub, Nat.reduceDiv, Int.reduceToNat, Int.reduceAdd, Int.reduceSub, Int.reduceMul, Int.reduceNeg, Int.reduceEq, Int.reduceLT, Int.reduceLE], fun t b ht hb => by
      have q := F t b ht hb
      have := ok1.m q
      simp (disch := omega) only [q, c51r0, c51r1, c51r2, c51r3, c51r4, c51r5, c51r6, c51r7, c51r8, c51r9, EV0, EV1, EV2, EV3, EV4, EV5, EV6, EV7, EV8, VALS, plug, ite_same, decide_true, decide_false, eq_self, ↓reduceIte, reduceCtorEq, Nat.reduceAdd, Nat.reduceEqDiff, Nat.reduceLT, Nat.reduceLeDiff, Nat.reduceMul, Nat.reduceSub, Nat.reduceDiv, Int.reduceToNat, Int.reduceAdd, Int.reduceSub, Int.reduceMul, Int.reduceNeg, Int.reduceEq, Int.reduceLT, Int.reduceLE]⟩
end Go.Proofs.Ytbhkbaapfioijaa
