/- What the proof of the law needs: the abstract machine, the functions as it reads them, their contracts, part 6. -/
import Derived.Test.YtjncfpfgobojpaaZe
set_option linter.unusedVariables false
set_option linter.unusedSimpArgs false
namespace Go.Proofs.Ytjncfpfgobojpaa
open Go Go.Am Go.Proofs Go.Sort
/-! ### Check f36 -/
set_option maxHeartbeats 4000000 in
theorem pc36 (l : List B) (hl : l.length ≤ 9223372036854775807) (rows : List (List Int)) (hn : rows.length ≤ 60) (hr : ∀ i, i < rows.length → (rI rows i).length ≤ 60) (hs : rows.flatten.length ≤ 1000000) : PC Try.prog 36 [vB l, vR rows] (.i .i64 (ck l rows)) := by
  refine pc_fn fn36 (by simp only [AV.plains, AV.plain, il_plain, bl_plain, Bool.and_true, Bool.true_and, Bool.and_self, flB_plain, vR_plain]) (by simp only [AV.plains, AV.plain, il_plain, bl_plain, Bool.and_true, Bool.true_and, Bool.and_self, flB_plain, vR_plain]) (Nat.le_of_ble_eq_true rfl) ?_
  rw [initSt2]
  have q26 := pc26 l hl
  have q72 := pc72 rows (by omega) hs
  have q73 := pc73 l hl rows.flatten (by omega)
  refine k_seq (k_reg ?_)
  refine s_go (by simp (disch := omega) only [c36r0, c36r1, c36r2, c36r3, c36r4, c36r5, c36r6, c36r7, c36r8, c36r9, c36r10, c36r11, c36r12, c36r13, c36r15, c36r16, c36r17, c36r18, c36r19, c36r20, c36r21, c36r22, c36r23, c36r24, c36r26, c36r28, c36r29, c36r30, EV0, EV1, EV2, EV3, EV4, EV5, EV6, EV7, EV8, VALS, plug, ite_same, decide_true, decide_false, eq_self, ↓reduceIte, reduceCtorEq, Nat.reduceAdd, Nat.reduceEqDiff, Nat.reduceLT, Nat.reduceLeDiff, Nat.reduceMul, Nat.reduceSub, Nat.reduceDiv, Int.reduceToNat, Int.reduceAdd, Int.reduceSub, Int.reduceMul, Int.reduceNeg, Int.reduceEq, Int.reduceLT, Int.reduceLE]; with_reducible rfl) ?_
  refine r_done ?_
  refine w_frzP (t := 1) (cs := [vB l]) 2 (by simp (disch := omega) only [c36r0, c36r1, c36r2, c36r3, c36r4, c36r5, c36r6, c36r7, c36r8, c36r9, c36r10, c36r11, c36r12, c36r13, c36r15, c36r16, c36r17, c36r18, c36r19, c36r20, c36r21, c36r22, c36r23, c36r24, c36r26, c36r28, c36r29, c36r30, EV0, EV1, EV2, EV3, EV4, EV5, EV6, EV7, EV8, VALS, plug, ite_same, decide_true, decide_false, eq_self, ↓reduceIte, reduceCtorEq, Nat.reduceAdd, Nat.reduceEqDiff, Nat.reduceLT, Nat.reduceLeDiff, Nat.reduceMul, Nat.reduceSub, Nat.reduceDiv, Int.reduceToNat, Int.reduceAdd, Int.reduceSub, Int.reduceMul, Int.reduceNeg, Int.reduceEq, Int.reduceLT, Int.reduceLE] <;> rfl) rfl ?_
  by_cases hv : VL l
  · rw [vl_t hv] at q26
    have hl6 := hv.len
    by_cases ix : IX l rows.flatten
    · rw [ix.fi] at q73
      repeat' first
        | with_reducible refine k_seq ?_
        | with_reducible refine k_skip ?_
        | with_reducible refine k_blkS ?_
        | with_reducible refine k_blkR ?_
        | with_reducible refine k_blkC ?_
        | with_reducible refine k_blkH ?_
        | with_reducible refine k_blkB ?_
        | with_reducible refine k_blkK ?_
        | with_reducible refine k_blkE ?_
        | with_reducible refine k_reg ?_
        | with_reducible refine k_head (by with_unfolding_all rfl) ?_
        | with_reducible refine k_headS ?_
        | (with_reducible refine SepK.mk ?_ ?_; (refine sepQ_P ?_; simp [sepQ, sepG, AOp.late, AOp.free, AOp.xs, AOp.isAl, tokNe, AV.tok, stS_get, strip, AX.val, c36r0, c36r1, c36r2, c36r3, c36r4, c36r5, c36r6, c36r7, c36r8, c36r9, c36r10, c36r11, c36r12, c36r13, c36r15, c36r16, c36r17, c36r18, c36r19, c36r20, c36r21, c36r22, c36r23, c36r24, c36r26, c36r28, c36r29, c36r30, GA]; try omega))
        | with_reducible refine r_done ?_
        | with_reducible refine hr_done ?_
        | with_reducible refine s_go (by simp (disch := omega) only [c36r0, c36r1, c36r2, c36r3, c36r4, c36r5, c36r6, c36r7, c36r8, c36r9, c36r10, c36r11, c36r12, c36r13, c36r15, c36r16, c36r17, c36r18, c36r19, c36r20, c36r21, c36r22, c36r23, c36r24, c36r26, c36r28, c36r29, c36r30, EV0, EV1, EV2, EV3, EV4, EV5, EV6, EV7, EV8, VALS, plug, ite_same, decide_true, decide_false, eq_self, ↓reduceIte, reduceCtorEq, Nat.reduceAdd, Nat.reduceEqDiff, Nat.reduceLT, Nat.reduceLeDiff, Nat.reduceMul, Nat.reduceSub, Nat.reduceDiv, Int.reduceToNat, Int.reduceAdd, Int.reduceSub, Int.reduceMul, Int.reduceNeg, Int.reduceEq, Int.reduceLT, Int.reduceLE]; with_reducible rfl) ?_
        | with_reducible refine h_go (by with_unfolding_all rfl) (by simp (disch := omega) only [c36r0, c36r1, c36r2, c36r3, c36r4, c36r5, c36r6, c36r7, c36r8, c36r9, c36r10, c36r11, c36r12, c36r13, c36r15, c36r16, c36r17, c36r18, c36r19, c36r20, c36r21, c36r22, c36r23, c36r24, c36r26, c36r28, c36r29, c36r30, EV0, EV1, EV2, EV3, EV4, EV5, EV6, EV7, EV8, VALS, plug, ite_same, decide_true, decide_false, eq_self, ↓reduceIte, reduceCtorEq, Nat.reduceAdd, Nat.reduceEqDiff, Nat.reduceLT, Nat.reduceLeDiff, Nat.reduceMul, Nat.reduceSub, Nat.reduceDiv, Int.reduceToNat, Int.reduceAdd, Int.reduceSub, Int.reduceMul, Int.reduceNeg, Int.reduceEq, Int.reduceLT, Int.reduceLE]; with_reducible rfl) ?_
        | ((with_reducible refine chk_r ?_); refine r_callF (by simp only [CA, Nat.reduceEqDiff, ↓reduceIte]; rfl) (by exact rfl) (by simp only [CA, Nat.reduceEqDiff, ↓reduceIte]; rfl) rfl ?_)
        | ((with_reducible refine chk_h ?_); refine hr_callF (by simp only [CA, Nat.reduceEqDiff, ↓reduceIte]; rfl) (by exact rfl) (by simp only [CA, Nat.reduceEqDiff, ↓reduceIte]; rfl) rfl ?_)
        | ((with_reducible refine chk_r ?_); refine r_callP (by simp only [CA, Nat.reduceEqDiff, ↓reduceIte]; rfl) (by simp only [CA, Nat.reduceEqDiff, ↓reduceIte]; rfl) (by first | exact q26 _ | exact q72 _ | exact q73 _) rfl ?_)
        | ((with_reducible refine chk_h ?_); refine hr_callP (by simp only [CA, Nat.reduceEqDiff, ↓reduceIte]; rfl) (by simp only [CA, Nat.reduceEqDiff, ↓reduceIte]; rfl) (by first | exact q26 _ | exact q72 _ | exact q73 _) rfl ?_)
        | ((with_reducible refine chk_h ?_); refine hr_callP1 (by simp only [CA, Nat.reduceEqDiff, ↓reduceIte]; rfl) (by simp only [CA, Nat.reduceEqDiff, ↓reduceIte]; rfl) (by simp (disch := omega) only [CA, Nat.reduceEqDiff, ↓reduceIte, firstTok_nil, firstTok_sl, firstTok_sl0, firstTok_i, firstTok_b, firstTok_ag, firstTok_p, firstTok_s]; rfl) (by first | exact q26 _ | exact q72 _ | exact q73 _) rfl ?_)
        | ((with_reducible refine chk_r ?_); refine r_callG (by simp only [CA, Nat.reduceEqDiff, ↓reduceIte]; rfl) (by simp only [CA, Nat.reduceEqDiff, ↓reduceIte]; rfl) (by simp only [CA, Nat.reduceEqDiff, ↓reduceIte]; rfl) (by intro hg; (try simp only [BO] at hg); first | exact q26 _ | exact q72 _ | exact q73 _) rfl ?_)
        | ((with_reducible refine chk_h ?_); refine hr_callG (by simp only [CA, Nat.reduceEqDiff, ↓reduceIte]; rfl) (by simp only [CA, Nat.reduceEqDiff, ↓reduceIte]; rfl) (by simp only [CA, Nat.reduceEqDiff, ↓reduceIte]; rfl) (by intro hg; (try simp only [BO] at hg); first | exact q26 _ | exact q72 _ | exact q73 _) rfl ?_)
        | ((with_reducible refine chk_h ?_); refine hr_app (by simp (disch := omega) only [c36r0, c36r1, c36r2, c36r3, c36r4, c36r5, c36r6, c36r7, c36r8, c36r9, c36r10, c36r11, c36r12, c36r13, c36r15, c36r16, c36r17, c36r18, c36r19, c36r20, c36r21, c36r22, c36r23, c36r24, c36r26, c36r28, c36r29, c36r30, EV0, EV1, EV2, EV3, EV4, EV5, EV6, EV7, EV8, VALS, plug, ite_same, decide_true, decide_false, eq_self, ↓reduceIte, reduceCtorEq, Nat.reduceAdd, Nat.reduceEqDiff, Nat.reduceLT, Nat.reduceLeDiff, Nat.reduceMul, Nat.reduceSub, Nat.reduceDiv, Int.reduceToNat, Int.reduceAdd, Int.reduceSub, Int.reduceMul, Int.reduceNeg, Int.reduceEq, Int.reduceLT, Int.reduceLE]; with_reducible rfl) rfl ?_)
        | (with_reducible refine k_condP (by simp only [GA, Nat.reduceEqDiff, ↓reduceIte]; rfl) (by first | (simp only [BO]; rfl) | rfl) (fun ht => ?_) (fun ht => ?_) <;> try (first | exact False.elim ht | exact absurd rfl ht | exact absurd trivial ht | exact Bool.noConfusion ht))
        | (with_reducible refine k_ret ?_; repeat with_reducible (first | refine ret_thru ?_ | refine ret_blk ?_ | refine fin ?_))
        | (with_reducible refine k_exit ?_; repeat with_reducible (first | refine thru ?_ | refine out_blk ?_ | refine pass (by decide) ?_))
        | (refine post1 ?_; simp only [GA, Nat.reduceEqDiff, ↓reduceIte])
        | (refine post2 ?_; simp only [GA, Nat.reduceEqDiff, ↓reduceIte])
        | (refine post3 ?_; simp only [GA, Nat.reduceEqDiff, ↓reduceIte])
        | (refine postc (by simp only [GA, Nat.reduceEqDiff, ↓reduceIte]; rfl) (by simp (disch := omega) only [c36r0, c36r1, c36r2, c36r3, c36r4, c36r5, c36r6, c36r7, c36r8, c36r9, c36r10, c36r11, c36r12, c36r13, c36r15, c36r16, c36r17, c36r18, c36r19, c36r20, c36r21, c36r22, c36r23, c36r24, c36r26, c36r28, c36r29, c36r30, EV0, EV1, EV2, EV3, EV4, EV5, EV6, EV7, EV8, VALS, plug, ite_same, decide_true, decide_false, eq_self, ↓reduceIte, reduceCtorEq, Nat.reduceAdd, Nat.reduceEqDiff, Nat.reduceLT, Nat.reduceLeDiff, Nat.reduceMul, Nat.reduceSub, Nat.reduceDiv, Int.reduceToNat, Int.reduceAdd, Int.reduceSub, Int.reduceMul, Int.reduceNeg, Int.reduceEq, Int.reduceLT, Int.reduceLE]; rfl) ?_)
        | refine post0 ?_
      refine k_blk (k_loopS (X := Nat × List Bool) [1, 2, 6, 24, 25, 26] rows.flatten.length (fun k x => [(1, vR rows), (2, .pv [vB l] 0), (6, .sl x.1 0 l.length 1), (24, vi rows.flatten), (25, .i .i64 rows.flatten.length), (26, .i .i64 (k : Int))])
        (fun k x h => x.1 ≠ 0 ∧ h.m x.1 = some (.cells true (bl x.2)) ∧ InR l x.2 (rows.flatten.take k) ∧ (rows.flatten.take k).Nodup) (_, List.replicate l.length false) (by simp only [Am.keep, List.map_cons, List.map_nil, GA, Nat.reduceEqDiff, ↓reduceIte]; try rfl) ⟨?_, by simp (disch := omega) only [bl_rep, c36r0, c36r1, c36r2, c36r3, c36r4, c36r5, c36r6, c36r7, c36r8, c36r9, c36r10, c36r11, c36r12, c36r13, c36r15, c36r16, c36r17, c36r18, c36r19, c36r20, c36r21, c36r22, c36r23, c36r24, c36r26, c36r28, c36r29, c36r30, EV0, EV1, EV2, EV3, EV4, EV5, EV6, EV7, EV8, VALS, plug, ite_same, decide_true, decide_false, eq_self, ↓reduceIte, reduceCtorEq, Nat.reduceAdd, Nat.reduceEqDiff, Nat.reduceLT, Nat.reduceLeDiff, Nat.reduceMul, Nat.reduceSub, Nat.reduceDiv, Int.reduceToNat, Int.reduceAdd, Int.reduceSub, Int.reduceMul, Int.reduceNeg, Int.reduceEq, Int.reduceLT, Int.reduceLE] <;> rfl, InR.zero l, by simp⟩ ?_)
      · simp only [AH.bump_nx]; omega
      rintro k ⟨x, us⟩ h hk ⟨hx, hm, R, nd⟩ ok pos
      simp only at hx hm R nd ⊢
      have hx' := ok.m hm
      have ul := R.len
      by_cases hlt : k < rows.flatten.length
      · have hlt' : (k : Int) < rows.flatten.length := by omega
        have g := il_get hlt
        have ixk := ix _ (List.getElem_mem hlt)
        obtain ⟨a, ha⟩ : ∃ a : Nat, rows.flatten[k] = a := ⟨rows.flatten[k].toNat, by omega⟩
        rw [getD_lt hlt, ha] at g
        rw [ha] at ixk
        have tk : rows.flatten.take (k + 1) = rows.flatten.take k ++ [(a : Int)] := by rw [List.take_succ_eq_append_getElem hlt, ha]
        have al : a < us.length := by omega
        have al2 : a < l.length := by omega
        have ba := bl_get (l := us) (j := a) al
        cases hb : us.getD a false with
        | true =>
          rw [hb] at ba
          have two := ck_two hv ix (nd_pre (A := rows.flatten.take k) (x := (a : Int)) (R := rows.flatten.drop (k + 1)) (by rw [← tk, List.take_append_drop]) ((R.is a al2).1 hb))
          rw [two]
          repeat' first
            | with_reducible refine k_seq ?_
            | with_reducible refine k_skip ?_
            | with_reducible refine k_blkS ?_
            | with_reducible refine k_blkR ?_
            | with_reducible refine k_blkC ?_
            | with_reducible refine k_blkH ?_
            | with_reducible refine k_blkB ?_
            | with_reducible refine k_blkK ?_
            | with_reducible refine k_blkE ?_
            | with_reducible refine k_reg ?_
            | with_reducible refine k_head (by with_unfolding_all rfl) ?_
            | with_reducible refine k_headS ?_
            | (with_reducible refine SepK.mk ?_ ?_; (refine sepQ_P ?_; simp [sepQ, sepG, AOp.late, AOp.free, AOp.xs, AOp.isAl, tokNe, AV.tok, stS_get, strip, AX.val, c36r0, c36r1, c36r2, c36r3, c36r4, c36r5, c36r6, c36r7, c36r8, c36r9, c36r10, c36r11, c36r12, c36r13, c36r15, c36r16, c36r17, c36r18, c36r19, c36r20, c36r21, c36r22, c36r23, c36r24, c36r26, c36r28, c36r29, c36r30, GA]; try omega))
            | with_reducible refine r_done ?_
            | with_reducible refine hr_done ?_
            | with_reducible refine s_go (by simp (disch := omega) only [hlt', g, hm, row_m hm, read_row (row_m hm), ba, ul, al, al2, c36r0, c36r1, c36r2, c36r3, c36r4, c36r5, c36r6, c36r7, c36r8, c36r9, c36r10, c36r11, c36r12, c36r13, c36r15, c36r16, c36r17, c36r18, c36r19, c36r20, c36r21, c36r22, c36r23, c36r24, c36r26, c36r28, c36r29, c36r30, EV0, EV1, EV2, EV3, EV4, EV5, EV6, EV7, EV8, VALS, plug, ite_same, decide_true, decide_false, eq_self, ↓reduceIte, reduceCtorEq, Nat.reduceAdd, Nat.reduceEqDiff, Nat.reduceLT, Nat.reduceLeDiff, Nat.reduceMul, Nat.reduceSub, Nat.reduceDiv, Int.reduceToNat, Int.reduceAdd, Int.reduceSub, Int.reduceMul, Int.reduceNeg, Int.reduceEq, Int.reduceLT, Int.reduceLE]; with_reducible rfl) ?_
            | with_reducible refine h_go (by with_unfolding_all rfl) (by simp (disch := omega) only [hlt', g, hm, row_m hm, read_row (row_m hm), ba, ul, al, al2, c36r0, c36r1, c36r2, c36r3, c36r4, c36r5, c36r6, c36r7, c36r8, c36r9, c36r10, c36r11, c36r12, c36r13, c36r15, c36r16, c36r17, c36r18, c36r19, c36r20, c36r21, c36r22, c36r23, c36r24, c36r26, c36r28, c36r29, c36r30, EV0, EV1, EV2, EV3, EV4, EV5, EV6, EV7, EV8, VALS, plug, ite_same, decide_true, decide_false, eq_self, ↓reduceIte, reduceCtorEq, Nat.reduceAdd, Nat.reduceEqDiff, Nat.reduceLT, Nat.reduceLeDiff, Nat.reduceMul, Nat.reduceSub, Nat.reduceDiv, Int.reduceToNat, Int.reduceAdd, Int.reduceSub, Int.reduceMul, Int.reduceNeg, Int.reduceEq, Int.reduceLT, Int.reduceLE]; with_reducible rfl) ?_
            | ((with_reducible refine chk_r ?_); refine r_callF (by simp only [CA, Nat.reduceEqDiff, ↓reduceIte]; rfl) (by exact rfl) (by simp only [CA, Nat.reduceEqDiff, ↓reduceIte]; rfl) rfl ?_)
            | ((with_reducible refine chk_h ?_); refine hr_callF (by simp only [CA, Nat.reduceEqDiff, ↓reduceIte]; rfl) (by exact rfl) (by simp only [CA, Nat.reduceEqDiff, ↓reduceIte]; rfl) rfl ?_)
            | ((with_reducible refine chk_h ?_); refine hr_app (by simp (disch := omega) only [hlt', g, hm, row_m hm, read_row (row_m hm), ba, ul, al, al2, c36r0, c36r1, c36r2, c36r3, c36r4, c36r5, c36r6, c36r7, c36r8, c36r9, c36r10, c36r11, c36r12, c36r13, c36r15, c36r16, c36r17, c36r18, c36r19, c36r20, c36r21, c36r22, c36r23, c36r24, c36r26, c36r28, c36r29, c36r30, EV0, EV1, EV2, EV3, EV4, EV5, EV6, EV7, EV8, VALS, plug, ite_same, decide_true, decide_false, eq_self, ↓reduceIte, reduceCtorEq, Nat.reduceAdd, Nat.reduceEqDiff, Nat.reduceLT, Nat.reduceLeDiff, Nat.reduceMul, Nat.reduceSub, Nat.reduceDiv, Int.reduceToNat, Int.reduceAdd, Int.reduceSub, Int.reduceMul, Int.reduceNeg, Int.reduceEq, Int.reduceLT, Int.reduceLE]; with_reducible rfl) rfl ?_)
            | (with_reducible refine k_condP (by simp only [GA, Nat.reduceEqDiff, ↓reduceIte]; rfl) (by first | (simp only [BO]; rfl) | rfl) (fun ht => ?_) (fun ht => ?_) <;> try (first | exact False.elim ht | exact absurd rfl ht | exact absurd trivial ht | exact Bool.noConfusion ht))
            | (with_reducible refine k_ret ?_; repeat with_reducible (first | refine ret_thru ?_ | refine ret_blk ?_ | refine fin ?_))
            | (with_reducible refine k_exit ?_; repeat with_reducible (first | refine thru ?_ | refine out_blk ?_ | refine pass (by decide) ?_))
            | (refine post1 ?_; simp only [GA, Nat.reduceEqDiff, ↓reduceIte])
            | (refine post2 ?_; simp only [GA, Nat.reduceEqDiff, ↓reduceIte])
            | (refine post3 ?_; simp only [GA, Nat.reduceEqDiff, ↓reduceIte])
            | (refine postc (by simp only [GA, Nat.reduceEqDiff, ↓reduceIte]; rfl) (by simp (disch := omega) only [hlt', g, hm, row_m hm, read_row (row_m hm), ba, ul, al, al2, c36r0, c36r1, c36r2, c36r3, c36r4, c36r5, c36r6, c36r7, c36r8, c36r9, c36r10, c36r11, c36r12, c36r13, c36r15, c36r16, c36r17, c36r18, c36r19, c36r20, c36r21, c36r22, c36r23, c36r24, c36r26, c36r28, c36r29, c36r30, EV0, EV1, EV2, EV3, EV4, EV5, EV6, EV7, EV8, VALS, plug, ite_same, decide_true, decide_false, eq_self, ↓reduceIte, reduceCtorEq, Nat.reduceAdd, Nat.reduceEqDiff, Nat.reduceLT, Nat.reduceLeDiff, Nat.reduceMul, Nat.reduceSub, Nat.reduceDiv, Int.reduceToNat, Int.reduceAdd, Int.reduceSub, Int.reduceMul, Int.reduceNeg, Int.reduceEq, Int.reduceLT, Int.reduceLE]; rfl) ?_)
            | refine post0 ?_
          all_goals first | exact ends_of | exact ends_eq rfl
        | false =>
          rw [hb] at ba
          have nm : ¬ (a : Int) ∈ rows.flatten.take k := fun q => by rw [(R.is a al2).2 q] at hb; cases hb
          repeat' first
            | with_reducible refine k_seq ?_
            | with_reducible refine k_skip ?_
            | with_reducible refine k_blkS ?_
            | with_reducible refine k_blkR ?_
            | with_reducible refine k_blkC ?_
            | with_reducible refine k_blkH ?_
            | with_reducible refine k_blkB ?_
            | with_reducible refine k_blkK ?_
            | with_reducible refine k_blkE ?_
            | with_reducible refine k_reg ?_
            | with_reducible refine k_head (by with_unfolding_all rfl) ?_
            | with_reducible refine k_headS ?_
            | (with_reducible refine SepK.mk ?_ ?_; (refine sepQ_P ?_; simp [sepQ, sepG, AOp.late, AOp.free, AOp.xs, AOp.isAl, tokNe, AV.tok, stS_get, strip, AX.val, c36r0, c36r1, c36r2, c36r3, c36r4, c36r5, c36r6, c36r7, c36r8, c36r9, c36r10, c36r11, c36r12, c36r13, c36r15, c36r16, c36r17, c36r18, c36r19, c36r20, c36r21, c36r22, c36r23, c36r24, c36r26, c36r28, c36r29, c36r30, GA]; try omega))
            | with_reducible refine r_done ?_
            | with_reducible refine hr_done ?_
            | with_reducible refine s_go (by simp (disch := omega) only [hlt', g, hm, row_m hm, read_row (row_m hm), ba, ul, al, al2, c36r0, c36r1, c36r2, c36r3, c36r4, c36r5, c36r6, c36r7, c36r8, c36r9, c36r10, c36r11, c36r12, c36r13, c36r15, c36r16, c36r17, c36r18, c36r19, c36r20, c36r21, c36r22, c36r23, c36r24, c36r26, c36r28, c36r29, c36r30, EV0, EV1, EV2, EV3, EV4, EV5, EV6, EV7, EV8, VALS, plug, ite_same, decide_true, decide_false, eq_self, ↓reduceIte, reduceCtorEq, Nat.reduceAdd, Nat.reduceEqDiff, Nat.reduceLT, Nat.reduceLeDiff, Nat.reduceMul, Nat.reduceSub, Nat.reduceDiv, Int.reduceToNat, Int.reduceAdd, Int.reduceSub, Int.reduceMul, Int.reduceNeg, Int.reduceEq, Int.reduceLT, Int.reduceLE]; with_reducible rfl) ?_
            | with_reducible refine h_go (by with_unfolding_all rfl) (by simp (disch := omega) only [hlt', g, hm, row_m hm, read_row (row_m hm), ba, ul, al, al2, c36r0, c36r1, c36r2, c36r3, c36r4, c36r5, c36r6, c36r7, c36r8, c36r9, c36r10, c36r11, c36r12, c36r13, c36r15, c36r16, c36r17, c36r18, c36r19, c36r20, c36r21, c36r22, c36r23, c36r24, c36r26, c36r28, c36r29, c36r30, EV0, EV1, EV2, EV3, EV4, EV5, EV6, EV7, EV8, VALS, plug, ite_same, decide_true, decide_false, eq_self, ↓reduceIte, reduceCtorEq, Nat.reduceAdd, Nat.reduceEqDiff, Nat.reduceLT, Nat.reduceLeDiff, Nat.reduceMul, Nat.reduceSub, Nat.reduceDiv, Int.reduceToNat, Int.reduceAdd, Int.reduceSub, Int.reduceMul, Int.reduceNeg, Int.reduceEq, Int.reduceLT, Int.reduceLE]; with_reducible rfl) ?_
            | ((with_reducible refine chk_r ?_); refine r_callF (by simp only [CA, Nat.reduceEqDiff, ↓reduceIte]; rfl) (by exact rfl) (by simp only [CA, Nat.reduceEqDiff, ↓reduceIte]; rfl) rfl ?_)
            | ((with_reducible refine chk_h ?_); refine hr_callF (by simp only [CA, Nat.reduceEqDiff, ↓reduceIte]; rfl) (by exact rfl) (by simp only [CA, Nat.reduceEqDiff, ↓reduceIte]; rfl) rfl ?_)
            | ((with_reducible refine chk_h ?_); refine hr_app (by simp (disch := omega) only [hlt', g, hm, row_m hm, read_row (row_m hm), ba, ul, al, al2, c36r0, c36r1, c36r2, c36r3, c36r4, c36r5, c36r6, c36r7, c36r8, c36r9, c36r10, c36r11, c36r12, c36r13, c36r15, c36r16, c36r17, c36r18, c36r19, c36r20, c36r21, c36r22, c36r23, c36r24, c36r26, c36r28, c36r29, c36r30, EV0, EV1, EV2, EV3, EV4, EV5, EV6, EV7, EV8, VALS, plug, ite_same, decide_true, decide_false, eq_self, ↓reduceIte, reduceCtorEq, Nat.reduceAdd, Nat.reduceEqDiff, Nat.reduceLT, Nat.reduceLeDiff, Nat.reduceMul, Nat.reduceSub, Nat.reduceDiv, Int.reduceToNat, Int.reduceAdd, Int.reduceSub, Int.reduceMul, Int.reduceNeg, Int.reduceEq, Int.reduceLT, Int.reduceLE]; with_reducible rfl) rfl ?_)
            | (with_reducible refine k_condP (by simp only [GA, Nat.reduceEqDiff, ↓reduceIte]; rfl) (by first | (simp only [BO]; rfl) | rfl) (fun ht => ?_) (fun ht => ?_) <;> try (first | exact False.elim ht | exact absurd rfl ht | exact absurd trivial ht | exact Bool.noConfusion ht))
            | (with_reducible refine k_ret ?_; repeat with_reducible (first | refine ret_thru ?_ | refine ret_blk ?_ | refine fin ?_))
            | (with_reducible refine k_exit ?_; repeat with_reducible (first | refine thru ?_ | refine out_blk ?_ | refine pass (by decide) ?_))
            | (refine post1 ?_; simp only [GA, Nat.reduceEqDiff, ↓reduceIte])
            | (refine post2 ?_; simp only [GA, Nat.reduceEqDiff, ↓reduceIte])
            | (refine post3 ?_; simp only [GA, Nat.reduceEqDiff, ↓reduceIte])
            | (refine postc (by simp only [GA, Nat.reduceEqDiff, ↓reduceIte]; rfl) (by simp (disch := omega) only [hlt', g, hm, row_m hm, read_row (row_m hm), ba, ul, al, al2, c36r0, c36r1, c36r2, c36r3, c36r4, c36r5, c36r6, c36r7, c36r8, c36r9, c36r10, c36r11, c36r12, c36r13, c36r15, c36r16, c36r17, c36r18, c36r19, c36r20, c36r21, c36r22, c36r23, c36r24, c36r26, c36r28, c36r29, c36r30, EV0, EV1, EV2, EV3, EV4, EV5, EV6, EV7, EV8, VALS, plug, ite_same, decide_true, decide_false, eq_self, ↓reduceIte, reduceCtorEq, Nat.reduceAdd, Nat.reduceEqDiff, Nat.reduceLT, Nat.reduceLeDiff, Nat.reduceMul, Nat.reduceSub, Nat.reduceDiv, Int.reduceToNat, Int.reduceAdd, Int.reduceSub, Int.reduceMul, Int.reduceNeg, Int.reduceEq, Int.reduceLT, Int.reduceLE]; rfl) ?_)
            | refine post0 ?_
          exact ⟨hlt, ⟨x, us.set a true⟩, (by simp only [Am.keep, List.map_cons, List.map_nil, GA, Nat.reduceEqDiff, ↓reduceIte]; try rfl), hx, by simp (disch := omega) only [hm, c36r0, c36r1, c36r2, c36r3, c36r4, c36r5, c36r6, c36r7, c36r8, c36r9, c36r10, c36r11, c36r12, c36r13, c36r15, c36r16, c36r17, c36r18, c36r19, c36r20, c36r21, c36r22, c36r23, c36r24, c36r26, c36r28, c36r29, c36r30, EV0, EV1, EV2, EV3, EV4, EV5, EV6, EV7, EV8, VALS, plug, ite_same, decide_true, decide_false, eq_self, ↓reduceIte, reduceCtorEq, Nat.reduceAdd, Nat.reduceEqDiff, Nat.reduceLT, Nat.reduceLeDiff, Nat.reduceMul, Nat.reduceSub, Nat.reduceDiv, Int.reduceToNat, Int.reduceAdd, Int.reduceSub, Int.reduceMul, Int.reduceNeg, Int.reduceEq, Int.reduceLT, Int.reduceLE] <;> rfl, by rw [tk]; exact R.step al2, by rw [tk]; exact nd_snoc nd nm⟩
      · obtain rfl : k = rows.flatten.length := by omega
        have hlt' : ¬ (rows.flatten.length : Int) < rows.flatten.length := by omega
        rw [List.take_length] at R nd
        repeat' first
          | with_reducible refine k_seq ?_
          | with_reducible refine k_skip ?_
          | with_reducible refine k_blkS ?_
          | with_reducible refine k_blkR ?_
          | with_reducible refine k_blkC ?_
          | with_reducible refine k_blkH ?_
          | with_reducible refine k_blkB ?_
          | with_reducible refine k_blkK ?_
          | with_reducible refine k_blkE ?_
          | with_reducible refine k_reg ?_
          | with_reducible refine k_head (by with_unfolding_all rfl) ?_
          | with_reducible refine k_headS ?_
          | (with_reducible refine SepK.mk ?_ ?_; (refine sepQ_P ?_; simp [sepQ, sepG, AOp.late, AOp.free, AOp.xs, AOp.isAl, tokNe, AV.tok, stS_get, strip, AX.val, c36r0, c36r1, c36r2, c36r3, c36r4, c36r5, c36r6, c36r7, c36r8, c36r9, c36r10, c36r11, c36r12, c36r13, c36r15, c36r16, c36r17, c36r18, c36r19, c36r20, c36r21, c36r22, c36r23, c36r24, c36r26, c36r28, c36r29, c36r30, GA]; try omega))
          | with_reducible refine r_done ?_
          | with_reducible refine hr_done ?_
          | with_reducible refine s_go (by simp (disch := omega) only [hlt', c36r0, c36r1, c36r2, c36r3, c36r4, c36r5, c36r6, c36r7, c36r8, c36r9, c36r10, c36r11, c36r12, c36r13, c36r15, c36r16, c36r17, c36r18, c36r19, c36r20, c36r21, c36r22, c36r23, c36r24, c36r26, c36r28, c36r29, c36r30, EV0, EV1, EV2, EV3, EV4, EV5, EV6, EV7, EV8, VALS, plug, ite_same, decide_true, decide_false, eq_self, ↓reduceIte, reduceCtorEq, Nat.reduceAdd, Nat.reduceEqDiff, Nat.reduceLT, Nat.reduceLeDiff, Nat.reduceMul, Nat.reduceSub, Nat.reduceDiv, Int.reduceToNat, Int.reduceAdd, Int.reduceSub, Int.reduceMul, Int.reduceNeg, Int.reduceEq, Int.reduceLT, Int.reduceLE]; with_reducible rfl) ?_
          | with_reducible refine h_go (by with_unfolding_all rfl) (by simp (disch := omega) only [hlt', c36r0, c36r1, c36r2, c36r3, c36r4, c36r5, c36r6, c36r7, c36r8, c36r9, c36r10, c36r11, c36r12, c36r13, c36r15, c36r16, c36r17, c36r18, c36r19, c36r20, c36r21, c36r22, c36r23, c36r24, c36r26, c36r28, c36r29, c36r30, EV0, EV1, EV2, EV3, EV4, EV5, EV6, EV7, EV8, VALS, plug, ite_same, decide_true, decide_false, eq_self, ↓reduceIte, reduceCtorEq, Nat.reduceAdd, Nat.reduceEqDiff, Nat.reduceLT, Nat.reduceLeDiff, Nat.reduceMul, Nat.reduceSub, Nat.reduceDiv, Int.reduceToNat, Int.reduceAdd, Int.reduceSub, Int.reduceMul, Int.reduceNeg, Int.reduceEq, Int.reduceLT, Int.reduceLE]; with_reducible rfl) ?_
          | ((with_reducible refine chk_r ?_); refine r_callF (by simp only [CA, Nat.reduceEqDiff, ↓reduceIte]; rfl) (by exact rfl) (by simp only [CA, Nat.reduceEqDiff, ↓reduceIte]; rfl) rfl ?_)
          | ((with_reducible refine chk_h ?_); refine hr_callF (by simp only [CA, Nat.reduceEqDiff, ↓reduceIte]; rfl) (by exact rfl) (by simp only [CA, Nat.reduceEqDiff, ↓reduceIte]; rfl) rfl ?_)
          | ((with_reducible refine chk_h ?_); refine hr_app (by simp (disch := omega) only [hlt', c36r0, c36r1, c36r2, c36r3, c36r4, c36r5, c36r6, c36r7, c36r8, c36r9, c36r10, c36r11, c36r12, c36r13, c36r15, c36r16, c36r17, c36r18, c36r19, c36r20, c36r21, c36r22, c36r23, c36r24, c36r26, c36r28, c36r29, c36r30, EV0, EV1, EV2, EV3, EV4, EV5, EV6, EV7, EV8, VALS, plug, ite_same, decide_true, decide_false, eq_self, ↓reduceIte, reduceCtorEq, Nat.reduceAdd, Nat.reduceEqDiff, Nat.reduceLT, Nat.reduceLeDiff, Nat.reduceMul, Nat.reduceSub, Nat.reduceDiv, Int.reduceToNat, Int.reduceAdd, Int.reduceSub, Int.reduceMul, Int.reduceNeg, Int.reduceEq, Int.reduceLT, Int.reduceLE]; with_reducible rfl) rfl ?_)
          | (with_reducible refine k_condP (by simp only [GA, Nat.reduceEqDiff, ↓reduceIte]; rfl) (by first | (simp only [BO]; rfl) | rfl) (fun ht => ?_) (fun ht => ?_) <;> try (first | exact False.elim ht | exact absurd rfl ht | exact absurd trivial ht | exact Bool.noConfusion ht))
          | (with_reducible refine k_ret ?_; repeat with_reducible (first | refine ret_thru ?_ | refine ret_blk ?_ | refine fin ?_))
          | (with_reducible refine k_exit ?_; repeat with_reducible (first | refine thru ?_ | refine out_blk ?_ | refine pass (by decide) ?_))
          | (refine post1 ?_; simp only [GA, Nat.reduceEqDiff, ↓reduceIte])
          | (refine post2 ?_; simp only [GA, Nat.reduceEqDiff, ↓reduceIte])
          | (refine post3 ?_; simp only [GA, Nat.reduceEqDiff, ↓reduceIte])
          | (refine postc (by simp only [GA, Nat.reduceEqDiff, ↓reduceIte]; rfl) (by simp (disch := omega) only [hlt', c36r0, c36r1, c36r2, c36r3, c36r4, c36r5, c36r6, c36r7, c36r8, c36r9, c36r10, c36r11, c36r12, c36r13, c36r15, c36r16, c36r17, c36r18, c36r19, c36r20, c36r21, c36r22, c36r23, c36r24, c36r26, c36r28, c36r29, c36r30, EV0, EV1, EV2, EV3, EV4, EV5, EV6, EV7, EV8, VALS, plug, ite_same, decide_true, decide_false, eq_self, ↓reduceIte, reduceCtorEq, Nat.reduceAdd, Nat.reduceEqDiff, Nat.reduceLT, Nat.reduceLeDiff, Nat.reduceMul, Nat.reduceSub, Nat.reduceDiv, Int.reduceToNat, Int.reduceAdd, Int.reduceSub, Int.reduceMul, Int.reduceNeg, Int.reduceEq, Int.reduceLT, Int.reduceLE]; rfl) ?_)
          | refine post0 ?_
        refine k_blk (k_loopS (X := Unit) [2, 6, 9, 38, 39, 40] rows.length (fun k _ => [(2, .pv [vB l] 0), (6, .sl x 0 l.length 1), (9, .b (empB rows k)), (38, vR rows), (39, .i .i64 rows.length), (40, .i .i64 (k : Int))])
          (fun k _ h => h.m x = some (.cells true (bl us)) ∧ MYs l rows k) () (by simp only [Am.keep, List.map_cons, List.map_nil, GA, Nat.reduceEqDiff, ↓reduceIte, empB_zero]; try rfl) ⟨by simp (disch := omega) only [hm, c36r0, c36r1, c36r2, c36r3, c36r4, c36r5, c36r6, c36r7, c36r8, c36r9, c36r10, c36r11, c36r12, c36r13, c36r15, c36r16, c36r17, c36r18, c36r19, c36r20, c36r21, c36r22, c36r23, c36r24, c36r26, c36r28, c36r29, c36r30, EV0, EV1, EV2, EV3, EV4, EV5, EV6, EV7, EV8, VALS, plug, ite_same, decide_true, decide_false, eq_self, ↓reduceIte, reduceCtorEq, Nat.reduceAdd, Nat.reduceEqDiff, Nat.reduceLT, Nat.reduceLeDiff, Nat.reduceMul, Nat.reduceSub, Nat.reduceDiv, Int.reduceToNat, Int.reduceAdd, Int.reduceSub, Int.reduceMul, Int.reduceNeg, Int.reduceEq, Int.reduceLT, Int.reduceLE], fun i hi => by omega⟩ ?_)
        rintro k _ h1 hk ⟨hm, M⟩ ok pos
        have hx' := ok.m hm
        by_cases klt : k < rows.length
        · have klt' : (k : Int) < rows.length := by omega
          have g := rvI_get klt
          have es := empB_succ rows k
          have rk := hr k klt
          generalize empB rows k = X at es ⊢
          generalize hY : empB rows (k + 1) = Y at es ⊢
          have key : Y = (X || decide (((rI rows k).length : Int) = 0)) := es
          cases X
          · rw [Bool.false_or] at es
            repeat' first
              | with_reducible refine k_seq ?_
              | with_reducible refine k_skip ?_
              | with_reducible refine k_blkS ?_
              | with_reducible refine k_blkR ?_
              | with_reducible refine k_blkC ?_
              | with_reducible refine k_blkH ?_
              | with_reducible refine k_blkB ?_
              | with_reducible refine k_blkK ?_
              | with_reducible refine k_blkE ?_
              | with_reducible refine k_reg ?_
              | with_reducible refine k_head (by with_unfolding_all rfl) ?_
              | with_reducible refine k_headS ?_
              | (with_reducible refine SepK.mk ?_ ?_; (refine sepQ_P ?_; simp [sepQ, sepG, AOp.late, AOp.free, AOp.xs, AOp.isAl, tokNe, AV.tok, stS_get, strip, AX.val, c36r0, c36r1, c36r2, c36r3, c36r4, c36r5, c36r6, c36r7, c36r8, c36r9, c36r10, c36r11, c36r12, c36r13, c36r15, c36r16, c36r17, c36r18, c36r19, c36r20, c36r21, c36r22, c36r23, c36r24, c36r26, c36r28, c36r29, c36r30, GA]; try omega))
              | with_reducible refine r_done ?_
              | with_reducible refine hr_done ?_
              | with_reducible refine s_go (by simp (disch := omega) only [klt', g, ← es, c36r0, c36r1, c36r2, c36r3, c36r4, c36r5, c36r6, c36r7, c36r8, c36r9, c36r10, c36r11, c36r12, c36r13, c36r15, c36r16, c36r17, c36r18, c36r19, c36r20, c36r21, c36r22, c36r23, c36r24, c36r26, c36r28, c36r29, c36r30, EV0, EV1, EV2, EV3, EV4, EV5, EV6, EV7, EV8, VALS, plug, ite_same, decide_true, decide_false, eq_self, ↓reduceIte, reduceCtorEq, Nat.reduceAdd, Nat.reduceEqDiff, Nat.reduceLT, Nat.reduceLeDiff, Nat.reduceMul, Nat.reduceSub, Nat.reduceDiv, Int.reduceToNat, Int.reduceAdd, Int.reduceSub, Int.reduceMul, Int.reduceNeg, Int.reduceEq, Int.reduceLT, Int.reduceLE]; with_reducible rfl) ?_
              | with_reducible refine h_go (by with_unfolding_all rfl) (by simp (disch := omega) only [klt', g, ← es, c36r0, c36r1, c36r2, c36r3, c36r4, c36r5, c36r6, c36r7, c36r8, c36r9, c36r10, c36r11, c36r12, c36r13, c36r15, c36r16, c36r17, c36r18, c36r19, c36r20, c36r21, c36r22, c36r23, c36r24, c36r26, c36r28, c36r29, c36r30, EV0, EV1, EV2, EV3, EV4, EV5, EV6, EV7, EV8, VALS, plug, ite_same, decide_true, decide_false, eq_self, ↓reduceIte, reduceCtorEq, Nat.reduceAdd, Nat.reduceEqDiff, Nat.reduceLT, Nat.reduceLeDiff, Nat.reduceMul, Nat.reduceSub, Nat.reduceDiv, Int.reduceToNat, Int.reduceAdd, Int.reduceSub, Int.reduceMul, Int.reduceNeg, Int.reduceEq, Int.reduceLT, Int.reduceLE]; with_reducible rfl) ?_
              | ((with_reducible refine chk_r ?_); refine r_callF (by simp only [CA, Nat.reduceEqDiff, ↓reduceIte]; rfl) (by exact rfl) (by simp only [CA, Nat.reduceEqDiff, ↓reduceIte]; rfl) rfl ?_)
              | ((with_reducible refine chk_h ?_); refine hr_callF (by simp only [CA, Nat.reduceEqDiff, ↓reduceIte]; rfl) (by exact rfl) (by simp only [CA, Nat.reduceEqDiff, ↓reduceIte]; rfl) rfl ?_)
              | ((with_reducible refine chk_h ?_); refine hr_app (by simp (disch := omega) only [klt', g, ← es, c36r0, c36r1, c36r2, c36r3, c36r4, c36r5, c36r6, c36r7, c36r8, c36r9, c36r10, c36r11, c36r12, c36r13, c36r15, c36r16, c36r17, c36r18, c36r19, c36r20, c36r21, c36r22, c36r23, c36r24, c36r26, c36r28, c36r29, c36r30, EV0, EV1, EV2, EV3, EV4, EV5, EV6, EV7, EV8, VALS, plug, ite_same, decide_true, decide_false, eq_self, ↓reduceIte, reduceCtorEq, Nat.reduceAdd, Nat.reduceEqDiff, Nat.reduceLT, Nat.reduceLeDiff, Nat.reduceMul, Nat.reduceSub, Nat.reduceDiv, Int.reduceToNat, Int.reduceAdd, Int.reduceSub, Int.reduceMul, Int.reduceNeg, Int.reduceEq, Int.reduceLT, Int.reduceLE]; with_reducible rfl) rfl ?_)
              | (with_reducible refine k_condP (by simp only [GA, Nat.reduceEqDiff, ↓reduceIte]; rfl) (by first | (simp only [BO]; rfl) | rfl) (fun ht => ?_) (fun ht => ?_) <;> try (first | exact False.elim ht | exact absurd rfl ht | exact absurd trivial ht | exact Bool.noConfusion ht))
              | (with_reducible refine k_ret ?_; repeat with_reducible (first | refine ret_thru ?_ | refine ret_blk ?_ | refine fin ?_))
              | (with_reducible refine k_exit ?_; repeat with_reducible (first | refine thru ?_ | refine out_blk ?_ | refine pass (by decide) ?_))
              | (refine post1 ?_; simp only [GA, Nat.reduceEqDiff, ↓reduceIte])
              | (refine post2 ?_; simp only [GA, Nat.reduceEqDiff, ↓reduceIte])
              | (refine post3 ?_; simp only [GA, Nat.reduceEqDiff, ↓reduceIte])
              | (refine postc (by simp only [GA, Nat.reduceEqDiff, ↓reduceIte]; rfl) (by simp (disch := omega) only [klt', g, ← es, c36r0, c36r1, c36r2, c36r3, c36r4, c36r5, c36r6, c36r7, c36r8, c36r9, c36r10, c36r11, c36r12, c36r13, c36r15, c36r16, c36r17, c36r18, c36r19, c36r20, c36r21, c36r22, c36r23, c36r24, c36r26, c36r28, c36r29, c36r30, EV0, EV1, EV2, EV3, EV4, EV5, EV6, EV7, EV8, VALS, plug, ite_same, decide_true, decide_false, eq_self, ↓reduceIte, reduceCtorEq, Nat.reduceAdd, Nat.reduceEqDiff, Nat.reduceLT, Nat.reduceLeDiff, Nat.reduceMul, Nat.reduceSub, Nat.reduceDiv, Int.reduceToNat, Int.reduceAdd, Int.reduceSub, Int.reduceMul, Int.reduceNeg, Int.reduceEq, Int.reduceLT, Int.reduceLE]; rfl) ?_)
              | refine post0 ?_
            refine k_blk (k_loopS (X := Unit) [2, 6, 9, 11, 12, 38, 39, 40] ((rI rows k).length - 1) (fun j _ => [(2, .pv [vB l] 0), (6, .sl x 0 l.length 1), (9, .b Y), (11, .vs (rI rows k).length (il (rI rows k))), (12, .i .i64 ((j + 1 : Nat) : Int)), (38, vR rows), (39, .i .i64 rows.length), (40, .i .i64 (k : Int))])
              (fun j _ h => h.m x = some (.cells true (bl us)) ∧ MY l (rI rows k) (j + 1)) () (by simp only [Am.keep, List.map_cons, List.map_nil, GA, Nat.reduceEqDiff, ↓reduceIte]; try rfl) ⟨by simp (disch := omega) only [hm, c36r0, c36r1, c36r2, c36r3, c36r4, c36r5, c36r6, c36r7, c36r8, c36r9, c36r10, c36r11, c36r12, c36r13, c36r15, c36r16, c36r17, c36r18, c36r19, c36r20, c36r21, c36r22, c36r23, c36r24, c36r26, c36r28, c36r29, c36r30, EV0, EV1, EV2, EV3, EV4, EV5, EV6, EV7, EV8, VALS, plug, ite_same, decide_true, decide_false, eq_self, ↓reduceIte, reduceCtorEq, Nat.reduceAdd, Nat.reduceEqDiff, Nat.reduceLT, Nat.reduceLeDiff, Nat.reduceMul, Nat.reduceSub, Nat.reduceDiv, Int.reduceToNat, Int.reduceAdd, Int.reduceSub, Int.reduceMul, Int.reduceNeg, Int.reduceEq, Int.reduceLT, Int.reduceLE], fun i h0 hi => by omega⟩ ?_)
            rintro j _ h2 hj ⟨hm, My⟩ ok pos
            have hx' := ok.m hm
            by_cases jlt : j + 1 < (rI rows k).length
            · have jlt' : ((j + 1 : Nat) : Int) < (rI rows k).length := by omega
              obtain ⟨a, al, ea, ga⟩ := ix.at klt (show j < (rI rows k).length by omega)
              obtain ⟨b, bl', eb, gb⟩ := ix.at klt jlt
              have e1 : ((j + 1 : Nat) : Int) - 1 = j := by omega
              have jl0 : (j : Int) < (rI rows k).length := by omega
              have rA := rdB al
              have rB := rdB bl'
              have q58 := pc58 (bD l a) (bD l b)
              simp only [eB] at rA rB q58
              have mz : mayZ l (ni (rI rows k) j) (ni (rI rows k) (j + 1)) = mayB (bD l a) (bD l b) := by simp only [mayZ, mayI, ea, eb, Int.toNat_natCast]
              cases hX : mayB (bD l a) (bD l b) with
              | false =>
                rw [hX] at q58 mz
                rw [ck_dirty hv ix nd (MY.no klt jlt mz)]
                repeat' first
                  | with_reducible refine k_seq ?_
                  | with_reducible refine k_skip ?_
                  | with_reducible refine k_blkS ?_
                  | with_reducible refine k_blkR ?_
                  | with_reducible refine k_blkC ?_
                  | with_reducible refine k_blkH ?_
                  | with_reducible refine k_blkB ?_
                  | with_reducible refine k_blkK ?_
                  | with_reducible refine k_blkE ?_
                  | with_reducible refine k_reg ?_
                  | with_reducible refine k_head (by with_unfolding_all rfl) ?_
                  | with_reducible refine k_headS ?_
                  | (with_reducible refine SepK.mk ?_ ?_; (refine sepQ_P ?_; simp [sepQ, sepG, AOp.late, AOp.free, AOp.xs, AOp.isAl, tokNe, AV.tok, stS_get, strip, AX.val, c36r0, c36r1, c36r2, c36r3, c36r4, c36r5, c36r6, c36r7, c36r8, c36r9, c36r10, c36r11, c36r12, c36r13, c36r15, c36r16, c36r17, c36r18, c36r19, c36r20, c36r21, c36r22, c36r23, c36r24, c36r26, c36r28, c36r29, c36r30, GA]; try omega))
                  | with_reducible refine r_done ?_
                  | with_reducible refine hr_done ?_
                  | with_reducible refine s_go (by simp (disch := omega) only [jlt', e1, ga, gb, rA, rB, al, bl', jl0, c36r0, c36r1, c36r2, c36r3, c36r4, c36r5, c36r6, c36r7, c36r8, c36r9, c36r10, c36r11, c36r12, c36r13, c36r15, c36r16, c36r17, c36r18, c36r19, c36r20, c36r21, c36r22, c36r23, c36r24, c36r26, c36r28, c36r29, c36r30, EV0, EV1, EV2, EV3, EV4, EV5, EV6, EV7, EV8, VALS, plug, ite_same, decide_true, decide_false, eq_self, ↓reduceIte, reduceCtorEq, Nat.reduceAdd, Nat.reduceEqDiff, Nat.reduceLT, Nat.reduceLeDiff, Nat.reduceMul, Nat.reduceSub, Nat.reduceDiv, Int.reduceToNat, Int.reduceAdd, Int.reduceSub, Int.reduceMul, Int.reduceNeg, Int.reduceEq, Int.reduceLT, Int.reduceLE]; with_reducible rfl) ?_
                  | with_reducible refine h_go (by with_unfolding_all rfl) (by simp (disch := omega) only [jlt', e1, ga, gb, rA, rB, al, bl', jl0, c36r0, c36r1, c36r2, c36r3, c36r4, c36r5, c36r6, c36r7, c36r8, c36r9, c36r10, c36r11, c36r12, c36r13, c36r15, c36r16, c36r17, c36r18, c36r19, c36r20, c36r21, c36r22, c36r23, c36r24, c36r26, c36r28, c36r29, c36r30, EV0, EV1, EV2, EV3, EV4, EV5, EV6, EV7, EV8, VALS, plug, ite_same, decide_true, decide_false, eq_self, ↓reduceIte, reduceCtorEq, Nat.reduceAdd, Nat.reduceEqDiff, Nat.reduceLT, Nat.reduceLeDiff, Nat.reduceMul, Nat.reduceSub, Nat.reduceDiv, Int.reduceToNat, Int.reduceAdd, Int.reduceSub, Int.reduceMul, Int.reduceNeg, Int.reduceEq, Int.reduceLT, Int.reduceLE]; with_reducible rfl) ?_
                  | ((with_reducible refine chk_r ?_); refine r_callF (by simp only [CA, Nat.reduceEqDiff, ↓reduceIte]; rfl) (by exact rfl) (by simp only [CA, Nat.reduceEqDiff, ↓reduceIte]; rfl) rfl ?_)
                  | ((with_reducible refine chk_h ?_); refine hr_callF (by simp only [CA, Nat.reduceEqDiff, ↓reduceIte]; rfl) (by exact rfl) (by simp only [CA, Nat.reduceEqDiff, ↓reduceIte]; rfl) rfl ?_)
                  | ((with_reducible refine chk_r ?_); refine r_callP (by simp only [CA, Nat.reduceEqDiff, ↓reduceIte]; rfl) (by simp only [CA, Nat.reduceEqDiff, ↓reduceIte]; rfl) (by first | exact q58 _) rfl ?_)
                  | ((with_reducible refine chk_h ?_); refine hr_callP (by simp only [CA, Nat.reduceEqDiff, ↓reduceIte]; rfl) (by simp only [CA, Nat.reduceEqDiff, ↓reduceIte]; rfl) (by first | exact q58 _) rfl ?_)
                  | ((with_reducible refine chk_h ?_); refine hr_callP1 (by simp only [CA, Nat.reduceEqDiff, ↓reduceIte]; rfl) (by simp only [CA, Nat.reduceEqDiff, ↓reduceIte]; rfl) (by simp (disch := omega) only [CA, Nat.reduceEqDiff, ↓reduceIte, firstTok_nil, firstTok_sl, firstTok_sl0, firstTok_i, firstTok_b, firstTok_ag, firstTok_p, firstTok_s]; rfl) (by first | exact q58 _) rfl ?_)
                  | ((with_reducible refine chk_r ?_); refine r_callG (by simp only [CA, Nat.reduceEqDiff, ↓reduceIte]; rfl) (by simp only [CA, Nat.reduceEqDiff, ↓reduceIte]; rfl) (by simp only [CA, Nat.reduceEqDiff, ↓reduceIte]; rfl) (by intro hg; (try simp only [BO] at hg); first | exact q58 _) rfl ?_)
                  | ((with_reducible refine chk_h ?_); refine hr_callG (by simp only [CA, Nat.reduceEqDiff, ↓reduceIte]; rfl) (by simp only [CA, Nat.reduceEqDiff, ↓reduceIte]; rfl) (by simp only [CA, Nat.reduceEqDiff, ↓reduceIte]; rfl) (by intro hg; (try simp only [BO] at hg); first | exact q58 _) rfl ?_)
                  | ((with_reducible refine chk_h ?_); refine hr_app (by simp (disch := omega) only [jlt', e1, ga, gb, rA, rB, al, bl', jl0, c36r0, c36r1, c36r2, c36r3, c36r4, c36r5, c36r6, c36r7, c36r8, c36r9, c36r10, c36r11, c36r12, c36r13, c36r15, c36r16, c36r17, c36r18, c36r19, c36r20, c36r21, c36r22, c36r23, c36r24, c36r26, c36r28, c36r29, c36r30, EV0, EV1, EV2, EV3, EV4, EV5, EV6, EV7, EV8, VALS, plug, ite_same, decide_true, decide_false, eq_self, ↓reduceIte, reduceCtorEq, Nat.reduceAdd, Nat.reduceEqDiff, Nat.reduceLT, Nat.reduceLeDiff, Nat.reduceMul, Nat.reduceSub, Nat.reduceDiv, Int.reduceToNat, Int.reduceAdd, Int.reduceSub, Int.reduceMul, Int.reduceNeg, Int.reduceEq, Int.reduceLT, Int.reduceLE]; with_reducible rfl) rfl ?_)
                  | (with_reducible refine k_condP (by simp only [GA, Nat.reduceEqDiff, ↓reduceIte]; rfl) (by first | (simp only [BO]; rfl) | rfl) (fun ht => ?_) (fun ht => ?_) <;> try (first | exact False.elim ht | exact absurd rfl ht | exact absurd trivial ht | exact Bool.noConfusion ht))
                  | (with_reducible refine k_ret ?_; repeat with_reducible (first | refine ret_thru ?_ | refine ret_blk ?_ | refine fin ?_))
                  | (with_reducible refine k_exit ?_; repeat with_reducible (first | refine thru ?_ | refine out_blk ?_ | refine pass (by decide) ?_))
                  | (refine post1 ?_; simp only [GA, Nat.reduceEqDiff, ↓reduceIte])
                  | (refine post2 ?_; simp only [GA, Nat.reduceEqDiff, ↓reduceIte])
                  | (refine post3 ?_; simp only [GA, Nat.reduceEqDiff, ↓reduceIte])
                  | (refine postc (by simp only [GA, Nat.reduceEqDiff, ↓reduceIte]; rfl) (by simp (disch := omega) only [jlt', e1, ga, gb, rA, rB, al, bl', jl0, c36r0, c36r1, c36r2, c36r3, c36r4, c36r5, c36r6, c36r7, c36r8, c36r9, c36r10, c36r11, c36r12, c36r13, c36r15, c36r16, c36r17, c36r18, c36r19, c36r20, c36r21, c36r22, c36r23, c36r24, c36r26, c36r28, c36r29, c36r30, EV0, EV1, EV2, EV3, EV4, EV5, EV6, EV7, EV8, VALS, plug, ite_same, decide_true, decide_false, eq_self, ↓reduceIte, reduceCtorEq, Nat.reduceAdd, Nat.reduceEqDiff, Nat.reduceLT, Nat.reduceLeDiff, Nat.reduceMul, Nat.reduceSub, Nat.reduceDiv, Int.reduceToNat, Int.reduceAdd, Int.reduceSub, Int.reduceMul, Int.reduceNeg, Int.reduceEq, Int.reduceLT, Int.reduceLE]; rfl) ?_)
                  | refine post0 ?_
                all_goals first | exact ends_of | exact ends_eq rfl
              | true =>
                rw [hX] at q58 mz
                repeat' first
                  | with_reducible refine k_seq ?_
                  | with_reducible refine k_skip ?_
                  | with_reducible refine k_blkS ?_
                  | with_reducible refine k_blkR ?_
                  | with_reducible refine k_blkC ?_
                  | with_reducible refine k_blkH ?_
                  | with_reducible refine k_blkB ?_
                  | with_reducible refine k_blkK ?_
                  | with_reducible refine k_blkE ?_
                  | with_reducible refine k_reg ?_
                  | with_reducible refine k_head (by with_unfolding_all rfl) ?_
                  | with_reducible refine k_headS ?_
                  | (with_reducible refine SepK.mk ?_ ?_; (refine sepQ_P ?_; simp [sepQ, sepG, AOp.late, AOp.free, AOp.xs, AOp.isAl, tokNe, AV.tok, stS_get, strip, AX.val, c36r0, c36r1, c36r2, c36r3, c36r4, c36r5, c36r6, c36r7, c36r8, c36r9, c36r10, c36r11, c36r12, c36r13, c36r15, c36r16, c36r17, c36r18, c36r19, c36r20, c36r21, c36r22, c36r23, c36r24, c36r26, c36r28, c36r29, c36r30, GA]; try omega))
                  | with_reducible refine r_done ?_
                  | with_reducible refine hr_done ?_
                  | with_reducible refine s_go (by simp (disch := omega) only [jlt', e1, ga, gb, rA, rB, al, bl', jl0, c36r0, c36r1, c36r2, c36r3, c36r4, c36r5, c36r6, c36r7, c36r8, c36r9, c36r10, c36r11, c36r12, c36r13, c36r15, c36r16, c36r17, c36r18, c36r19, c36r20, c36r21, c36r22, c36r23, c36r24, c36r26, c36r28, c36r29, c36r30, EV0, EV1, EV2, EV3, EV4, EV5, EV6, EV7, EV8, VALS, plug, ite_same, decide_true, decide_false, eq_self, ↓reduceIte, reduceCtorEq, Nat.reduceAdd, Nat.reduceEqDiff, Nat.reduceLT, Nat.reduceLeDiff, Nat.reduceMul, Nat.reduceSub, Nat.reduceDiv, Int.reduceToNat, Int.reduceAdd, Int.reduceSub, Int.reduceMul, Int.reduceNeg, Int.reduceEq, Int.reduceLT, Int.reduceLE]; with_reducible rfl) ?_
                  | with_reducible refine h_go (by with_unfolding_all rfl) (by simp (disch := omega) only [jlt', e1, ga, gb, rA, rB, al, bl', jl0, c36r0, c36r1, c36r2, c36r3, c36r4, c36r5, c36r6, c36r7, c36r8, c36r9, c36r10, c36r11, c36r12, c36r13, c36r15, c36r16, c36r17, c36r18, c36r19, c36r20, c36r21, c36r22, c36r23, c36r24, c36r26, c36r28, c36r29, c36r30, EV0, EV1, EV2, EV3, EV4, EV5, EV6, EV7, EV8, VALS, plug, ite_same, decide_true, decide_false, eq_self, ↓reduceIte, reduceCtorEq, Nat.reduceAdd, Nat.reduceEqDiff, Nat.reduceLT, Nat.reduceLeDiff, Nat.reduceMul, Nat.reduceSub, Nat.reduceDiv, Int.reduceToNat, Int.reduceAdd, Int.reduceSub, Int.reduceMul, Int.reduceNeg, Int.reduceEq, Int.reduceLT, Int.reduceLE]; with_reducible rfl) ?_
                  | ((with_reducible refine chk_r ?_); refine r_callF (by simp only [CA, Nat.reduceEqDiff, ↓reduceIte]; rfl) (by exact rfl) (by simp only [CA, Nat.reduceEqDiff, ↓reduceIte]; rfl) rfl ?_)
                  | ((with_reducible refine chk_h ?_); refine hr_callF (by simp only [CA, Nat.reduceEqDiff, ↓reduceIte]; rfl) (by exact rfl) (by simp only [CA, Nat.reduceEqDiff, ↓reduceIte]; rfl) rfl ?_)
                  | ((with_reducible refine chk_r ?_); refine r_callP (by simp only [CA, Nat.reduceEqDiff, ↓reduceIte]; rfl) (by simp only [CA, Nat.reduceEqDiff, ↓reduceIte]; rfl) (by first | exact q58 _) rfl ?_)
                  | ((with_reducible refine chk_h ?_); refine hr_callP (by simp only [CA, Nat.reduceEqDiff, ↓reduceIte]; rfl) (by simp only [CA, Nat.reduceEqDiff, ↓reduceIte]; rfl) (by first | exact q58 _) rfl ?_)
                  | ((with_reducible refine chk_h ?_); refine hr_callP1 (by simp only [CA, Nat.reduceEqDiff, ↓reduceIte]; rfl) (by simp only [CA, Nat.reduceEqDiff, ↓reduceIte]; rfl) (by simp (disch := omega) only [CA, Nat.reduceEqDiff, ↓reduceIte, firstTok_nil, firstTok_sl, firstTok_sl0, firstTok_i, firstTok_b, firstTok_ag, firstTok_p, firstTok_s]; rfl) (by first | exact q58 _) rfl ?_)
                  | ((with_reducible refine chk_r ?_); refine r_callG (by simp only [CA, Nat.reduceEqDiff, ↓reduceIte]; rfl) (by simp only [CA, Nat.reduceEqDiff, ↓reduceIte]; rfl) (by simp only [CA, Nat.reduceEqDiff, ↓reduceIte]; rfl) (by intro hg; (try simp only [BO] at hg); first | exact q58 _) rfl ?_)
                  | ((with_reducible refine chk_h ?_); refine hr_callG (by simp only [CA, Nat.reduceEqDiff, ↓reduceIte]; rfl) (by simp only [CA, Nat.reduceEqDiff, ↓reduceIte]; rfl) (by simp only [CA, Nat.reduceEqDiff, ↓reduceIte]; rfl) (by intro hg; (try simp only [BO] at hg); first | exact q58 _) rfl ?_)
                  | ((with_reducible refine chk_h ?_); refine hr_app (by simp (disch := omega) only [jlt', e1, ga, gb, rA, rB, al, bl', jl0, c36r0, c36r1, c36r2, c36r3, c36r4, c36r5, c36r6, c36r7, c36r8, c36r9, c36r10, c36r11, c36r12, c36r13, c36r15, c36r16, c36r17, c36r18, c36r19, c36r20, c36r21, c36r22, c36r23, c36r24, c36r26, c36r28, c36r29, c36r30, EV0, EV1, EV2, EV3, EV4, EV5, EV6, EV7, EV8, VALS, plug, ite_same, decide_true, decide_false, eq_self, ↓reduceIte, reduceCtorEq, Nat.reduceAdd, Nat.reduceEqDiff, Nat.reduceLT, Nat.reduceLeDiff, Nat.reduceMul, Nat.reduceSub, Nat.reduceDiv, Int.reduceToNat, Int.reduceAdd, Int.reduceSub, Int.reduceMul, Int.reduceNeg, Int.reduceEq, Int.reduceLT, Int.reduceLE]; with_reducible rfl) rfl ?_)
                  | (with_reducible refine k_condP (by simp only [GA, Nat.reduceEqDiff, ↓reduceIte]; rfl) (by first | (simp only [BO]; rfl) | rfl) (fun ht => ?_) (fun ht => ?_) <;> try (first | exact False.elim ht | exact absurd rfl ht | exact absurd trivial ht | exact Bool.noConfusion ht))
                  | (with_reducible refine k_ret ?_; repeat with_reducible (first | refine ret_thru ?_ | refine ret_blk ?_ | refine fin ?_))
                  | (with_reducible refine k_exit ?_; repeat with_reducible (first | refine thru ?_ | refine out_blk ?_ | refine pass (by decide) ?_))
                  | (refine post1 ?_; simp only [GA, Nat.reduceEqDiff, ↓reduceIte])
                  | (refine post2 ?_; simp only [GA, Nat.reduceEqDiff, ↓reduceIte])
                  | (refine post3 ?_; simp only [GA, Nat.reduceEqDiff, ↓reduceIte])
                  | (refine postc (by simp only [GA, Nat.reduceEqDiff, ↓reduceIte]; rfl) (by simp (disch := omega) only [jlt', e1, ga, gb, rA, rB, al, bl', jl0, c36r0, c36r1, c36r2, c36r3, c36r4, c36r5, c36r6, c36r7, c36r8, c36r9, c36r10, c36r11, c36r12, c36r13, c36r15, c36r16, c36r17, c36r18, c36r19, c36r20, c36r21, c36r22, c36r23, c36r24, c36r26, c36r28, c36r29, c36r30, EV0, EV1, EV2, EV3, EV4, EV5, EV6, EV7, EV8, VALS, plug, ite_same, decide_true, decide_false, eq_self, ↓reduceIte, reduceCtorEq, Nat.reduceAdd, Nat.reduceEqDiff, Nat.reduceLT, Nat.reduceLeDiff, Nat.reduceMul, Nat.reduceSub, Nat.reduceDiv, Int.reduceToNat, Int.reduceAdd, Int.reduceSub, Int.reduceMul, Int.reduceNeg, Int.reduceEq, Int.reduceLT, Int.reduceLE]; rfl) ?_)
                  | refine post0 ?_
                exact ⟨by omega, (), (by simp only [Am.keep, List.map_cons, List.map_nil, GA, Nat.reduceEqDiff, ↓reduceIte]; try rfl), by simp (disch := omega) only [hm, c36r0, c36r1, c36r2, c36r3, c36r4, c36r5, c36r6, c36r7, c36r8, c36r9, c36r10, c36r11, c36r12, c36r13, c36r15, c36r16, c36r17, c36r18, c36r19, c36r20, c36r21, c36r22, c36r23, c36r24, c36r26, c36r28, c36r29, c36r30, EV0, EV1, EV2, EV3, EV4, EV5, EV6, EV7, EV8, VALS, plug, ite_same, decide_true, decide_false, eq_self, ↓reduceIte, reduceCtorEq, Nat.reduceAdd, Nat.reduceEqDiff, Nat.reduceLT, Nat.reduceLeDiff, Nat.reduceMul, Nat.reduceSub, Nat.reduceDiv, Int.reduceToNat, Int.reduceAdd, Int.reduceSub, Int.reduceMul, Int.reduceNeg, Int.reduceEq, Int.reduceLT, Int.reduceLE], My.step mz⟩
            · have jlt' : ¬ ((j + 1 : Nat) : Int) < (rI rows k).length := by omega
              repeat' first
                | with_reducible refine k_seq ?_
                | with_reducible refine k_skip ?_
                | with_reducible refine k_blkS ?_
                | with_reducible refine k_blkR ?_
                | with_reducible refine k_blkC ?_
                | with_reducible refine k_blkH ?_
                | with_reducible refine k_blkB ?_
                | with_reducible refine k_blkK ?_
                | with_reducible refine k_blkE ?_
                | with_reducible refine k_reg ?_
                | with_reducible refine k_head (by with_unfolding_all rfl) ?_
                | with_reducible refine k_headS ?_
                | (with_reducible refine SepK.mk ?_ ?_; (refine sepQ_P ?_; simp [sepQ, sepG, AOp.late, AOp.free, AOp.xs, AOp.isAl, tokNe, AV.tok, stS_get, strip, AX.val, c36r0, c36r1, c36r2, c36r3, c36r4, c36r5, c36r6, c36r7, c36r8, c36r9, c36r10, c36r11, c36r12, c36r13, c36r15, c36r16, c36r17, c36r18, c36r19, c36r20, c36r21, c36r22, c36r23, c36r24, c36r26, c36r28, c36r29, c36r30, GA]; try omega))
                | with_reducible refine r_done ?_
                | with_reducible refine hr_done ?_
                | with_reducible refine s_go (by simp (disch := omega) only [jlt', c36r0, c36r1, c36r2, c36r3, c36r4, c36r5, c36r6, c36r7, c36r8, c36r9, c36r10, c36r11, c36r12, c36r13, c36r15, c36r16, c36r17, c36r18, c36r19, c36r20, c36r21, c36r22, c36r23, c36r24, c36r26, c36r28, c36r29, c36r30, EV0, EV1, EV2, EV3, EV4, EV5, EV6, EV7, EV8, VALS, plug, ite_same, decide_true, decide_false, eq_self, ↓reduceIte, reduceCtorEq, Nat.reduceAdd, Nat.reduceEqDiff, Nat.reduceLT, Nat.reduceLeDiff, Nat.reduceMul, Nat.reduceSub, Nat.reduceDiv, Int.reduceToNat, Int.reduceAdd, Int.reduceSub, Int.reduceMul, Int.reduceNeg, Int.reduceEq, Int.reduceLT, Int.reduceLE]; with_reducible rfl) ?_
                | with_reducible refine h_go (by with_unfolding_all rfl) (by simp (disch := omega) only [jlt', c36r0, c36r1, c36r2, c36r3, c36r4, c36r5, c36r6, c36r7, c36r8, c36r9, c36r10, c36r11, c36r12, c36r13, c36r15, c36r16, c36r17, c36r18, c36r19, c36r20, c36r21, c36r22, c36r23, c36r24, c36r26, c36r28, c36r29, c36r30, EV0, EV1, EV2, EV3, EV4, EV5, EV6, EV7, EV8, VALS, plug, ite_same, decide_true, decide_false, eq_self, ↓reduceIte, reduceCtorEq, Nat.reduceAdd, Nat.reduceEqDiff, Nat.reduceLT, Nat.reduceLeDiff, Nat.reduceMul, Nat.reduceSub, Nat.reduceDiv, Int.reduceToNat, Int.reduceAdd, Int.reduceSub, Int.reduceMul, Int.reduceNeg, Int.reduceEq, Int.reduceLT, Int.reduceLE]; with_reducible rfl) ?_
                | ((with_reducible refine chk_r ?_); refine r_callF (by simp only [CA, Nat.reduceEqDiff, ↓reduceIte]; rfl) (by exact rfl) (by simp only [CA, Nat.reduceEqDiff, ↓reduceIte]; rfl) rfl ?_)
                | ((with_reducible refine chk_h ?_); refine hr_callF (by simp only [CA, Nat.reduceEqDiff, ↓reduceIte]; rfl) (by exact rfl) (by simp only [CA, Nat.reduceEqDiff, ↓reduceIte]; rfl) rfl ?_)
                | ((with_reducible refine chk_h ?_); refine hr_app (by simp (disch := omega) only [jlt', c36r0, c36r1, c36r2, c36r3, c36r4, c36r5, c36r6, c36r7, c36r8, c36r9, c36r10, c36r11, c36r12, c36r13, c36r15, c36r16, c36r17, c36r18, c36r19, c36r20, c36r21, c36r22, c36r23, c36r24, c36r26, c36r28, c36r29, c36r30, EV0, EV1, EV2, EV3, EV4, EV5, EV6, EV7, EV8, VALS, plug, ite_same, decide_true, decide_false, eq_self, ↓reduceIte, reduceCtorEq, Nat.reduceAdd, Nat.reduceEqDiff, Nat.reduceLT, Nat.reduceLeDiff, Nat.reduceMul, Nat.reduceSub, Nat.reduceDiv, Int.reduceToNat, Int.reduceAdd, Int.reduceSub, Int.reduceMul, Int.reduceNeg, Int.reduceEq, Int.reduceLT, Int.reduceLE]; with_reducible rfl) rfl ?_)
                | (with_reducible refine k_condP (by simp only [GA, Nat.reduceEqDiff, ↓reduceIte]; rfl) (by first | (simp only [BO]; rfl) | rfl) (fun ht => ?_) (fun ht => ?_) <;> try (first | exact False.elim ht | exact absurd rfl ht | exact absurd trivial ht | exact Bool.noConfusion ht))
                | (with_reducible refine k_ret ?_; repeat with_reducible (first | refine ret_thru ?_ | refine ret_blk ?_ | refine fin ?_))
                | (with_reducible refine k_exit ?_; repeat with_reducible (first | refine thru ?_ | refine out_blk ?_ | refine pass (by decide) ?_))
                | (refine post1 ?_; simp only [GA, Nat.reduceEqDiff, ↓reduceIte])
                | (refine post2 ?_; simp only [GA, Nat.reduceEqDiff, ↓reduceIte])
                | (refine post3 ?_; simp only [GA, Nat.reduceEqDiff, ↓reduceIte])
                | (refine postc (by simp only [GA, Nat.reduceEqDiff, ↓reduceIte]; rfl) (by simp (disch := omega) only [jlt', c36r0, c36r1, c36r2, c36r3, c36r4, c36r5, c36r6, c36r7, c36r8, c36r9, c36r10, c36r11, c36r12, c36r13, c36r15, c36r16, c36r17, c36r18, c36r19, c36r20, c36r21, c36r22, c36r23, c36r24, c36r26, c36r28, c36r29, c36r30, EV0, EV1, EV2, EV3, EV4, EV5, EV6, EV7, EV8, VALS, plug, ite_same, decide_true, decide_false, eq_self, ↓reduceIte, reduceCtorEq, Nat.reduceAdd, Nat.reduceEqDiff, Nat.reduceLT, Nat.reduceLeDiff, Nat.reduceMul, Nat.reduceSub, Nat.reduceDiv, Int.reduceToNat, Int.reduceAdd, Int.reduceSub, Int.reduceMul, Int.reduceNeg, Int.reduceEq, Int.reduceLT, Int.reduceLE]; rfl) ?_)
                | refine post0 ?_
              exact ⟨klt, (), (by simp only [Am.keep, List.map_cons, List.map_nil, GA, Nat.reduceEqDiff, ↓reduceIte]; try rfl), by simp (disch := omega) only [hm, c36r0, c36r1, c36r2, c36r3, c36r4, c36r5, c36r6, c36r7, c36r8, c36r9, c36r10, c36r11, c36r12, c36r13, c36r15, c36r16, c36r17, c36r18, c36r19, c36r20, c36r21, c36r22, c36r23, c36r24, c36r26, c36r28, c36r29, c36r30, EV0, EV1, EV2, EV3, EV4, EV5, EV6, EV7, EV8, VALS, plug, ite_same, decide_true, decide_false, eq_self, ↓reduceIte, reduceCtorEq, Nat.reduceAdd, Nat.reduceEqDiff, Nat.reduceLT, Nat.reduceLeDiff, Nat.reduceMul, Nat.reduceSub, Nat.reduceDiv, Int.reduceToNat, Int.reduceAdd, Int.reduceSub, Int.reduceMul, Int.reduceNeg, Int.reduceEq, Int.reduceLT, Int.reduceLE], M.succ (fun i h0 hi => My i h0 (by omega))⟩
          · rw [Bool.true_or] at es
            subst es
            repeat' first
              | with_reducible refine k_seq ?_
              | with_reducible refine k_skip ?_
              | with_reducible refine k_blkS ?_
              | with_reducible refine k_blkR ?_
              | with_reducible refine k_blkC ?_
              | with_reducible refine k_blkH ?_
              | with_reducible refine k_blkB ?_
              | with_reducible refine k_blkK ?_
              | with_reducible refine k_blkE ?_
              | with_reducible refine k_reg ?_
              | with_reducible refine k_head (by with_unfolding_all rfl) ?_
              | with_reducible refine k_headS ?_
              | (with_reducible refine SepK.mk ?_ ?_; (refine sepQ_P ?_; simp [sepQ, sepG, AOp.late, AOp.free, AOp.xs, AOp.isAl, tokNe, AV.tok, stS_get, strip, AX.val, c36r0, c36r1, c36r2, c36r3, c36r4, c36r5, c36r6, c36r7, c36r8, c36r9, c36r10, c36r11, c36r12, c36r13, c36r15, c36r16, c36r17, c36r18, c36r19, c36r20, c36r21, c36r22, c36r23, c36r24, c36r26, c36r28, c36r29, c36r30, GA]; try omega))
              | with_reducible refine r_done ?_
              | with_reducible refine hr_done ?_
              | with_reducible refine s_go (by simp (disch := omega) only [klt', g, c36r0, c36r1, c36r2, c36r3, c36r4, c36r5, c36r6, c36r7, c36r8, c36r9, c36r10, c36r11, c36r12, c36r13, c36r15, c36r16, c36r17, c36r18, c36r19, c36r20, c36r21, c36r22, c36r23, c36r24, c36r26, c36r28, c36r29, c36r30, EV0, EV1, EV2, EV3, EV4, EV5, EV6, EV7, EV8, VALS, plug, ite_same, decide_true, decide_false, eq_self, ↓reduceIte, reduceCtorEq, Nat.reduceAdd, Nat.reduceEqDiff, Nat.reduceLT, Nat.reduceLeDiff, Nat.reduceMul, Nat.reduceSub, Nat.reduceDiv, Int.reduceToNat, Int.reduceAdd, Int.reduceSub, Int.reduceMul, Int.reduceNeg, Int.reduceEq, Int.reduceLT, Int.reduceLE]; with_reducible rfl) ?_
              | with_reducible refine h_go (by with_unfolding_all rfl) (by simp (disch := omega) only [klt', g, c36r0, c36r1, c36r2, c36r3, c36r4, c36r5, c36r6, c36r7, c36r8, c36r9, c36r10, c36r11, c36r12, c36r13, c36r15, c36r16, c36r17, c36r18, c36r19, c36r20, c36r21, c36r22, c36r23, c36r24, c36r26, c36r28, c36r29, c36r30, EV0, EV1, EV2, EV3, EV4, EV5, EV6, EV7, EV8, VALS, plug, ite_same, decide_true, decide_false, eq_self, ↓reduceIte, reduceCtorEq, Nat.reduceAdd, Nat.reduceEqDiff, Nat.reduceLT, Nat.reduceLeDiff, Nat.reduceMul, Nat.reduceSub, Nat.reduceDiv, Int.reduceToNat, Int.reduceAdd, Int.reduceSub, Int.reduceMul, Int.reduceNeg, Int.reduceEq, Int.reduceLT, Int.reduceLE]; with_reducible rfl) ?_
              | ((with_reducible refine chk_r ?_); refine r_callF (by simp only [CA, Nat.reduceEqDiff, ↓reduceIte]; rfl) (by exact rfl) (by simp only [CA, Nat.reduceEqDiff, ↓reduceIte]; rfl) rfl ?_)
              | ((with_reducible refine chk_h ?_); refine hr_callF (by simp only [CA, Nat.reduceEqDiff, ↓reduceIte]; rfl) (by exact rfl) (by simp only [CA, Nat.reduceEqDiff, ↓reduceIte]; rfl) rfl ?_)
              | ((with_reducible refine chk_h ?_); refine hr_app (by simp (disch := omega) only [klt', g, c36r0, c36r1, c36r2, c36r3, c36r4, c36r5, c36r6, c36r7, c36r8, c36r9, c36r10, c36r11, c36r12, c36r13, c36r15, c36r16, c36r17, c36r18, c36r19, c36r20, c36r21, c36r22, c36r23, c36r24, c36r26, c36r28, c36r29, c36r30, EV0, EV1, EV2, EV3, EV4, EV5, EV6, EV7, EV8, VALS, plug, ite_same, decide_true, decide_false, eq_self, ↓reduceIte, reduceCtorEq, Nat.reduceAdd, Nat.reduceEqDiff, Nat.reduceLT, Nat.reduceLeDiff, Nat.reduceMul, Nat.reduceSub, Nat.reduceDiv, Int.reduceToNat, Int.reduceAdd, Int.reduceSub, Int.reduceMul, Int.reduceNeg, Int.reduceEq, Int.reduceLT, Int.reduceLE]; with_reducible rfl) rfl ?_)
              | (with_reducible refine k_condP (by simp only [GA, Nat.reduceEqDiff, ↓reduceIte]; rfl) (by first | (simp only [BO]; rfl) | rfl) (fun ht => ?_) (fun ht => ?_) <;> try (first | exact False.elim ht | exact absurd rfl ht | exact absurd trivial ht | exact Bool.noConfusion ht))
              | (with_reducible refine k_ret ?_; repeat with_reducible (first | refine ret_thru ?_ | refine ret_blk ?_ | refine fin ?_))
              | (with_reducible refine k_exit ?_; repeat with_reducible (first | refine thru ?_ | refine out_blk ?_ | refine pass (by decide) ?_))
              | (refine post1 ?_; simp only [GA, Nat.reduceEqDiff, ↓reduceIte])
              | (refine post2 ?_; simp only [GA, Nat.reduceEqDiff, ↓reduceIte])
              | (refine post3 ?_; simp only [GA, Nat.reduceEqDiff, ↓reduceIte])
              | (refine postc (by simp only [GA, Nat.reduceEqDiff, ↓reduceIte]; rfl) (by simp (disch := omega) only [klt', g, c36r0, c36r1, c36r2, c36r3, c36r4, c36r5, c36r6, c36r7, c36r8, c36r9, c36r10, c36r11, c36r12, c36r13, c36r15, c36r16, c36r17, c36r18, c36r19, c36r20, c36r21, c36r22, c36r23, c36r24, c36r26, c36r28, c36r29, c36r30, EV0, EV1, EV2, EV3, EV4, EV5, EV6, EV7, EV8, VALS, plug, ite_same, decide_true, decide_false, eq_self, ↓reduceIte, reduceCtorEq, Nat.reduceAdd, Nat.reduceEqDiff, Nat.reduceLT, Nat.reduceLeDiff, Nat.reduceMul, Nat.reduceSub, Nat.reduceDiv, Int.reduceToNat, Int.reduceAdd, Int.reduceSub, Int.reduceMul, Int.reduceNeg, Int.reduceEq, Int.reduceLT, Int.reduceLE]; rfl) ?_)
              | refine post0 ?_
            refine k_blk (k_loopS (X := Unit) [2, 6, 9, 11, 12, 38, 39, 40] ((rI rows k).length - 1) (fun j _ => [(2, .pv [vB l] 0), (6, .sl x 0 l.length 1), (9, .b true), (11, .vs (rI rows k).length (il (rI rows k))), (12, .i .i64 ((j + 1 : Nat) : Int)), (38, vR rows), (39, .i .i64 rows.length), (40, .i .i64 (k : Int))])
              (fun j _ h => h.m x = some (.cells true (bl us)) ∧ MY l (rI rows k) (j + 1)) () (by simp only [Am.keep, List.map_cons, List.map_nil, GA, Nat.reduceEqDiff, ↓reduceIte]; try rfl) ⟨by simp (disch := omega) only [hm, c36r0, c36r1, c36r2, c36r3, c36r4, c36r5, c36r6, c36r7, c36r8, c36r9, c36r10, c36r11, c36r12, c36r13, c36r15, c36r16, c36r17, c36r18, c36r19, c36r20, c36r21, c36r22, c36r23, c36r24, c36r26, c36r28, c36r29, c36r30, EV0, EV1, EV2, EV3, EV4, EV5, EV6, EV7, EV8, VALS, plug, ite_same, decide_true, decide_false, eq_self, ↓reduceIte, reduceCtorEq, Nat.reduceAdd, Nat.reduceEqDiff, Nat.reduceLT, Nat.reduceLeDiff, Nat.reduceMul, Nat.reduceSub, Nat.reduceDiv, Int.reduceToNat, Int.reduceAdd, Int.reduceSub, Int.reduceMul, Int.reduceNeg, Int.reduceEq, Int.reduceLT, Int.reduceLE], fun i h0 hi => by omega⟩ ?_)
            rintro j _ h2 hj ⟨hm, My⟩ ok pos
            have hx' := ok.m hm
            by_cases jlt : j + 1 < (rI rows k).length
            · have jlt' : ((j + 1 : Nat) : Int) < (rI rows k).length := by omega
              obtain ⟨a, al, ea, ga⟩ := ix.at klt (show j < (rI rows k).length by omega)
              obtain ⟨b, bl', eb, gb⟩ := ix.at klt jlt
              have e1 : ((j + 1 : Nat) : Int) - 1 = j := by omega
              have jl0 : (j : Int) < (rI rows k).length := by omega
              have rA := rdB al
              have rB := rdB bl'
              have q58 := pc58 (bD l a) (bD l b)
              simp only [eB] at rA rB q58
              have mz : mayZ l (ni (rI rows k) j) (ni (rI rows k) (j + 1)) = mayB (bD l a) (bD l b) := by simp only [mayZ, mayI, ea, eb, Int.toNat_natCast]
              cases hX : mayB (bD l a) (bD l b) with
              | false =>
                rw [hX] at q58 mz
                rw [ck_dirty hv ix nd (MY.no klt jlt mz)]
                repeat' first
                  | with_reducible refine k_seq ?_
                  | with_reducible refine k_skip ?_
                  | with_reducible refine k_blkS ?_
                  | with_reducible refine k_blkR ?_
                  | with_reducible refine k_blkC ?_
                  | with_reducible refine k_blkH ?_
                  | with_reducible refine k_blkB ?_
                  | with_reducible refine k_blkK ?_
                  | with_reducible refine k_blkE ?_
                  | with_reducible refine k_reg ?_
                  | with_reducible refine k_head (by with_unfolding_all rfl) ?_
                  | with_reducible refine k_headS ?_
                  | (with_reducible refine SepK.mk ?_ ?_; (refine sepQ_P ?_; simp [sepQ, sepG, AOp.late, AOp.free, AOp.xs, AOp.isAl, tokNe, AV.tok, stS_get, strip, AX.val, c36r0, c36r1, c36r2, c36r3, c36r4, c36r5, c36r6, c36r7, c36r8, c36r9, c36r10, c36r11, c36r12, c36r13, c36r15, c36r16, c36r17, c36r18, c36r19, c36r20, c36r21, c36r22, c36r23, c36r24, c36r26, c36r28, c36r29, c36r30, GA]; try omega))
                  | with_reducible refine r_done ?_
                  | with_reducible refine hr_done ?_
                  | with_reducible refine s_go (by simp (disch := omega) only [jlt', e1, ga, gb, rA, rB, al, bl', jl0, c36r0, c36r1, c36r2, c36r3, c36r4, c36r5, c36r6, c36r7, c36r8, c36r9, c36r10, c36r11, c36r12, c36r13, c36r15, c36r16, c36r17, c36r18, c36r19, c36r20, c36r21, c36r22, c36r23, c36r24, c36r26, c36r28, c36r29, c36r30, EV0, EV1, EV2, EV3, EV4, EV5, EV6, EV7, EV8, VALS, plug, ite_same, decide_true, decide_false, eq_self, ↓reduceIte, reduceCtorEq, Nat.reduceAdd, Nat.reduceEqDiff, Nat.reduceLT, Nat.reduceLeDiff, Nat.reduceMul, Nat.reduceSub, Nat.reduceDiv, Int.reduceToNat, Int.reduceAdd, Int.reduceSub, Int.reduceMul, Int.reduceNeg, Int.reduceEq, Int.reduceLT, Int.reduceLE]; with_reducible rfl) ?_
                  | with_reducible refine h_go (by with_unfolding_all rfl) (by simp (disch := omega) only [jlt', e1, ga, gb, rA, rB, al, bl', jl0, c36r0, c36r1, c36r2, c36r3, c36r4, c36r5, c36r6, c36r7, c36r8, c36r9, c36r10, c36r11, c36r12, c36r13, c36r15, c36r16, c36r17, c36r18, c36r19, c36r20, c36r21, c36r22, c36r23, c36r24, c36r26, c36r28, c36r29, c36r30, EV0, EV1, EV2, EV3, EV4, EV5, EV6, EV7, EV8, VALS, plug, ite_same, decide_true, decide_false, eq_self, ↓reduceIte, reduceCtorEq, Nat.reduceAdd, Nat.reduceEqDiff, Nat.reduceLT, Nat.reduceLeDiff, Nat.reduceMul, Nat.reduceSub, Nat.reduceDiv, Int.reduceToNat, Int.reduceAdd, Int.reduceSub, Int.reduceMul, Int.reduceNeg, Int.reduceEq, Int.reduceLT, Int.reduceLE]; with_reducible rfl) ?_
                  | ((with_reducible refine chk_r ?_); refine r_callF (by simp only [CA, Nat.reduceEqDiff, ↓reduceIte]; rfl) (by exact rfl) (by simp only [CA, Nat.reduceEqDiff, ↓reduceIte]; rfl) rfl ?_)
                  | ((with_reducible refine chk_h ?_); refine hr_callF (by simp only [CA, Nat.reduceEqDiff, ↓reduceIte]; rfl) (by exact rfl) (by simp only [CA, Nat.reduceEqDiff, ↓reduceIte]; rfl) rfl ?_)
                  | ((with_reducible refine chk_r ?_); refine r_callP (by simp only [CA, Nat.reduceEqDiff, ↓reduceIte]; rfl) (by simp only [CA, Nat.reduceEqDiff, ↓reduceIte]; rfl) (by first | exact q58 _) rfl ?_)
                  | ((with_reducible refine chk_h ?_); refine hr_callP (by simp only [CA, Nat.reduceEqDiff, ↓reduceIte]; rfl) (by simp only [CA, Nat.reduceEqDiff, ↓reduceIte]; rfl) (by first | exact q58 _) rfl ?_)
                  | ((with_reducible refine chk_h ?_); refine hr_callP1 (by simp only [CA, Nat.reduceEqDiff, ↓reduceIte]; rfl) (by simp only [CA, Nat.reduceEqDiff, ↓reduceIte]; rfl) (by simp (disch := omega) only [CA, Nat.reduceEqDiff, ↓reduceIte, firstTok_nil, firstTok_sl, firstTok_sl0, firstTok_i, firstTok_b, firstTok_ag, firstTok_p, firstTok_s]; rfl) (by first | exact q58 _) rfl ?_)
                  | ((with_reducible refine chk_r ?_); refine r_callG (by simp only [CA, Nat.reduceEqDiff, ↓reduceIte]; rfl) (by simp only [CA, Nat.reduceEqDiff, ↓reduceIte]; rfl) (by simp only [CA, Nat.reduceEqDiff, ↓reduceIte]; rfl) (by intro hg; (try simp only [BO] at hg); first | exact q58 _) rfl ?_)
                  | ((with_reducible refine chk_h ?_); refine hr_callG (by simp only [CA, Nat.reduceEqDiff, ↓reduceIte]; rfl) (by simp only [CA, Nat.reduceEqDiff, ↓reduceIte]; rfl) (by simp only [CA, Nat.reduceEqDiff, ↓reduceIte]; rfl) (by intro hg; (try simp only [BO] at hg); first | exact q58 _) rfl ?_)
                  | ((with_reducible refine chk_h ?_); refine hr_app (by simp (disch := omega) only [jlt', e1, ga, gb, rA, rB, al, bl', jl0, c36r0, c36r1, c36r2, c36r3, c36r4, c36r5, c36r6, c36r7, c36r8, c36r9, c36r10, c36r11, c36r12, c36r13, c36r15, c36r16, c36r17, c36r18, c36r19, c36r20, c36r21, c36r22, c36r23, c36r24, c36r26, c36r28, c36r29, c36r30, EV0, EV1, EV2, EV3, EV4, EV5, EV6, EV7, EV8, VALS, plug, ite_same, decide_true, decide_false, eq_self, ↓reduceIte, reduceCtorEq, Nat.reduceAdd, Nat.reduceEqDiff, Nat.reduceLT, Nat.reduceLeDiff, Nat.reduceMul, Nat.reduceSub, Nat.reduceDiv, Int.reduceToNat, Int.reduceAdd, Int.reduceSub, Int.reduceMul, Int.reduceNeg, Int.reduceEq, Int.reduceLT, Int.reduceLE]; with_reducible rfl) rfl ?_)
                  | (with_reducible refine k_condP (by simp only [GA, Nat.reduceEqDiff, ↓reduceIte]; rfl) (by first | (simp only [BO]; rfl) | rfl) (fun ht => ?_) (fun ht => ?_) <;> try (first | exact False.elim ht | exact absurd rfl ht | exact absurd trivial ht | exact Bool.noConfusion ht))
                  | (with_reducible refine k_ret ?_; repeat with_reducible (first | refine ret_thru ?_ | refine ret_blk ?_ | refine fin ?_))
                  | (with_reducible refine k_exit ?_; repeat with_reducible (first | refine thru ?_ | refine out_blk ?_ | refine pass (by decide) ?_))
                  | (refine post1 ?_; simp only [GA, Nat.reduceEqDiff, ↓reduceIte])
                  | (refine post2 ?_; simp only [GA, Nat.reduceEqDiff, ↓reduceIte])
                  | (refine post3 ?_; simp only [GA, Nat.reduceEqDiff, ↓reduceIte])
                  | (refine postc (by simp only [GA, Nat.reduceEqDiff, ↓reduceIte]; rfl) (by simp (disch := omega) only [jlt', e1, ga, gb, rA, rB, al, bl', jl0, c36r0, c36r1, c36r2, c36r3, c36r4, c36r5, c36r6, c36r7, c36r8, c36r9, c36r10, c36r11, c36r12, c36r13, c36r15, c36r16, c36r17, c36r18, c36r19, c36r20, c36r21, c36r22, c36r23, c36r24, c36r26, c36r28, c36r29, c36r30, EV0, EV1, EV2, EV3, EV4, EV5, EV6, EV7, EV8, VALS, plug, ite_same, decide_true, decide_false, eq_self, ↓reduceIte, reduceCtorEq, Nat.reduceAdd, Nat.reduceEqDiff, Nat.reduceLT, Nat.reduceLeDiff, Nat.reduceMul, Nat.reduceSub, Nat.reduceDiv, Int.reduceToNat, Int.reduceAdd, Int.reduceSub, Int.reduceMul, Int.reduceNeg, Int.reduceEq, Int.reduceLT, Int.reduceLE]; rfl) ?_)
                  | refine post0 ?_
                all_goals first | exact ends_of | exact ends_eq rfl
              | true =>
                rw [hX] at q58 mz
                repeat' first
                  | with_reducible refine k_seq ?_
                  | with_reducible refine k_skip ?_
                  | with_reducible refine k_blkS ?_
                  | with_reducible refine k_blkR ?_
                  | with_reducible refine k_blkC ?_
                  | with_reducible refine k_blkH ?_
                  | with_reducible refine k_blkB ?_
                  | with_reducible refine k_blkK ?_
                  | with_reducible refine k_blkE ?_
                  | with_reducible refine k_reg ?_
                  | with_reducible refine k_head (by with_unfolding_all rfl) ?_
                  | with_reducible refine k_headS ?_
                  | (with_reducible refine SepK.mk ?_ ?_; (refine sepQ_P ?_; simp [sepQ, sepG, AOp.late, AOp.free, AOp.xs, AOp.isAl, tokNe, AV.tok, stS_get, strip, AX.val, c36r0, c36r1, c36r2, c36r3, c36r4, c36r5, c36r6, c36r7, c36r8, c36r9, c36r10, c36r11, c36r12, c36r13, c36r15, c36r16, c36r17, c36r18, c36r19, c36r20, c36r21, c36r22, c36r23, c36r24, c36r26, c36r28, c36r29, c36r30, GA]; try omega))
                  | with_reducible refine r_done ?_
                  | with_reducible refine hr_done ?_
                  | with_reducible refine s_go (by simp (disch := omega) only [jlt', e1, ga, gb, rA, rB, al, bl', jl0, c36r0, c36r1, c36r2, c36r3, c36r4, c36r5, c36r6, c36r7, c36r8, c36r9, c36r10, c36r11, c36r12, c36r13, c36r15, c36r16, c36r17, c36r18, c36r19, c36r20, c36r21, c36r22, c36r23, c36r24, c36r26, c36r28, c36r29, c36r30, EV0, EV1, EV2, EV3, EV4, EV5, EV6, EV7, EV8, VALS, plug, ite_same, decide_true, decide_false, eq_self, ↓reduceIte, reduceCtorEq, Nat.reduceAdd, Nat.reduceEqDiff, Nat.reduceLT, Nat.reduceLeDiff, Nat.reduceMul, Nat.reduceSub, Nat.reduceDiv, Int.reduceToNat, Int.reduceAdd, Int.reduceSub, Int.reduceMul, Int.reduceNeg, Int.reduceEq, Int.reduceLT, Int.reduceLE]; with_reducible rfl) ?_
                  | with_reducible refine h_go (by with_unfolding_all rfl) (by simp (disch := omega) only [jlt', e1, ga, gb, rA, rB, al, bl', jl0, c36r0, c36r1, c36r2, c36r3, c36r4, c36r5, c36r6, c36r7, c36r8, c36r9, c36r10, c36r11, c36r12, c36r13, c36r15, c36r16, c36r17, c36r18, c36r19, c36r20, c36r21, c36r22, c36r23, c36r24, c36r26, c36r28, c36r29, c36r30, EV0, EV1, EV2, EV3, EV4, EV5, EV6, EV7, EV8, VALS, plug, ite_same, decide_true, decide_false, eq_self, ↓reduceIte, reduceCtorEq, Nat.reduceAdd, Nat.reduceEqDiff, Nat.reduceLT, Nat.reduceLeDiff, Nat.reduceMul, Nat.reduceSub, Nat.reduceDiv, Int.reduceToNat, Int.reduceAdd, Int.reduceSub, Int.reduceMul, Int.reduceNeg, Int.reduceEq, Int.reduceLT, Int.reduceLE]; with_reducible rfl) ?_
                  | ((with_reducible refine chk_r ?_); refine r_callF (by simp only [CA, Nat.reduceEqDiff, ↓reduceIte]; rfl) (by exact rfl) (by simp only [CA, Nat.reduceEqDiff, ↓reduceIte]; rfl) rfl ?_)
                  | ((with_reducible refine chk_h ?_); refine hr_callF (by simp only [CA, Nat.reduceEqDiff, ↓reduceIte]; rfl) (by exact rfl) (by simp only [CA, Nat.reduceEqDiff, ↓reduceIte]; rfl) rfl ?_)
                  | ((with_reducible refine chk_r ?_); refine r_callP (by simp only [CA, Nat.reduceEqDiff, ↓reduceIte]; rfl) (by simp only [CA, Nat.reduceEqDiff, ↓reduceIte]; rfl) (by first | exact q58 _) rfl ?_)
                  | ((with_reducible refine chk_h ?_); refine hr_callP (by simp only [CA, Nat.reduceEqDiff, ↓reduceIte]; rfl) (by simp only [CA, Nat.reduceEqDiff, ↓reduceIte]; rfl) (by first | exact q58 _) rfl ?_)
                  | ((with_reducible refine chk_h ?_); refine hr_callP1 (by simp only [CA, Nat.reduceEqDiff, ↓reduceIte]; rfl) (by simp only [CA, Nat.reduceEqDiff, ↓reduceIte]; rfl) (by simp (disch := omega) only [CA, Nat.reduceEqDiff, ↓reduceIte, firstTok_nil, firstTok_sl, firstTok_sl0, firstTok_i, firstTok_b, firstTok_ag, firstTok_p, firstTok_s]; rfl) (by first | exact q58 _) rfl ?_)
                  | ((with_reducible refine chk_r ?_); refine r_callG (by simp only [CA, Nat.reduceEqDiff, ↓reduceIte]; rfl) (by simp only [CA, Nat.reduceEqDiff, ↓reduceIte]; rfl) (by simp only [CA, Nat.reduceEqDiff, ↓reduceIte]; rfl) (by intro hg; (try simp only [BO] at hg); first | exact q58 _) rfl ?_)
                  | ((with_reducible refine chk_h ?_); refine hr_callG (by simp only [CA, Nat.reduceEqDiff, ↓reduceIte]; rfl) (by simp only [CA, Nat.reduceEqDiff, ↓reduceIte]; rfl) (by simp only [CA, Nat.reduceEqDiff, ↓reduceIte]; rfl) (by intro hg; (try simp only [BO] at hg); first | exact q58 _) rfl ?_)
                  | ((with_reducible refine chk_h ?_); refine hr_app (by simp (disch := omega) only [jlt', e1, ga, gb, rA, rB, al, bl', jl0, c36r0, c36r1, c36r2, c36r3, c36r4, c36r5, c36r6, c36r7, c36r8, c36r9, c36r10, c36r11, c36r12, c36r13, c36r15, c36r16, c36r17, c36r18, c36r19, c36r20, c36r21, c36r22, c36r23, c36r24, c36r26, c36r28, c36r29, c36r30, EV0, EV1, EV2, EV3, EV4, EV5, EV6, EV7, EV8, VALS, plug, ite_same, decide_true, decide_false, eq_self, ↓reduceIte, reduceCtorEq, Nat.reduceAdd, Nat.reduceEqDiff, Nat.reduceLT, Nat.reduceLeDiff, Nat.reduceMul, Nat.reduceSub, Nat.reduceDiv, Int.reduceToNat, Int.reduceAdd, Int.reduceSub, Int.reduceMul, Int.reduceNeg, Int.reduceEq, Int.reduceLT, Int.reduceLE]; with_reducible rfl) rfl ?_)
                  | (with_reducible refine k_condP (by simp only [GA, Nat.reduceEqDiff, ↓reduceIte]; rfl) (by first | (simp only [BO]; rfl) | rfl) (fun ht => ?_) (fun ht => ?_) <;> try (first | exact False.elim ht | exact absurd rfl ht | exact absurd trivial ht | exact Bool.noConfusion ht))
                  | (with_reducible refine k_ret ?_; repeat with_reducible (first | refine ret_thru ?_ | refine ret_blk ?_ | refine fin ?_))
                  | (with_reducible refine k_exit ?_; repeat with_reducible (first | refine thru ?_ | refine out_blk ?_ | refine pass (by decide) ?_))
                  | (refine post1 ?_; simp only [GA, Nat.reduceEqDiff, ↓reduceIte])
                  | (refine post2 ?_; simp only [GA, Nat.reduceEqDiff, ↓reduceIte])
                  | (refine post3 ?_; simp only [GA, Nat.reduceEqDiff, ↓reduceIte])
                  | (refine postc (by simp only [GA, Nat.reduceEqDiff, ↓reduceIte]; rfl) (by simp (disch := omega) only [jlt', e1, ga, gb, rA, rB, al, bl', jl0, c36r0, c36r1, c36r2, c36r3, c36r4, c36r5, c36r6, c36r7, c36r8, c36r9, c36r10, c36r11, c36r12, c36r13, c36r15, c36r16, c36r17, c36r18, c36r19, c36r20, c36r21, c36r22, c36r23, c36r24, c36r26, c36r28, c36r29, c36r30, EV0, EV1, EV2, EV3, EV4, EV5, EV6, EV7, EV8, VALS, plug, ite_same, decide_true, decide_false, eq_self, ↓reduceIte, reduceCtorEq, Nat.reduceAdd, Nat.reduceEqDiff, Nat.reduceLT, Nat.reduceLeDiff, Nat.reduceMul, Nat.reduceSub, Nat.reduceDiv, Int.reduceToNat, Int.reduceAdd, Int.reduceSub, Int.reduceMul, Int.reduceNeg, Int.reduceEq, Int.reduceLT, Int.reduceLE]; rfl) ?_)
                  | refine post0 ?_
                exact ⟨by omega, (), (by simp only [Am.keep, List.map_cons, List.map_nil, GA, Nat.reduceEqDiff, ↓reduceIte]; try rfl), by simp (disch := omega) only [hm, c36r0, c36r1, c36r2, c36r3, c36r4, c36r5, c36r6, c36r7, c36r8, c36r9, c36r10, c36r11, c36r12, c36r13, c36r15, c36r16, c36r17, c36r18, c36r19, c36r20, c36r21, c36r22, c36r23, c36r24, c36r26, c36r28, c36r29, c36r30, EV0, EV1, EV2, EV3, EV4, EV5, EV6, EV7, EV8, VALS, plug, ite_same, decide_true, decide_false, eq_self, ↓reduceIte, reduceCtorEq, Nat.reduceAdd, Nat.reduceEqDiff, Nat.reduceLT, Nat.reduceLeDiff, Nat.reduceMul, Nat.reduceSub, Nat.reduceDiv, Int.reduceToNat, Int.reduceAdd, Int.reduceSub, Int.reduceMul, Int.reduceNeg, Int.reduceEq, Int.reduceLT, Int.reduceLE], My.step mz⟩
            · have jlt' : ¬ ((j + 1 : Nat) : Int) < (rI rows k).length := by omega
              repeat' first
                | with_reducible refine k_seq ?_
                | with_reducible refine k_skip ?_
                | with_reducible refine k_blkS ?_
                | with_reducible refine k_blkR ?_
                | with_reducible refine k_blkC ?_
                | with_reducible refine k_blkH ?_
                | with_reducible refine k_blkB ?_
                | with_reducible refine k_blkK ?_
                | with_reducible refine k_blkE ?_
                | with_reducible refine k_reg ?_
                | with_reducible refine k_head (by with_unfolding_all rfl) ?_
                | with_reducible refine k_headS ?_
                | (with_reducible refine SepK.mk ?_ ?_; (refine sepQ_P ?_; simp [sepQ, sepG, AOp.late, AOp.free, AOp.xs, AOp.isAl, tokNe, AV.tok, stS_get, strip, AX.val, c36r0, c36r1, c36r2, c36r3, c36r4, c36r5, c36r6, c36r7, c36r8, c36r9, c36r10, c36r11, c36r12, c36r13, c36r15, c36r16, c36r17, c36r18, c36r19, c36r20, c36r21, c36r22, c36r23, c36r24, c36r26, c36r28, c36r29, c36r30, GA]; try omega))
                | with_reducible refine r_done ?_
                | with_reducible refine hr_done ?_
                | with_reducible refine s_go (by simp (disch := omega) only [jlt', c36r0, c36r1, c36r2, c36r3, c36r4, c36r5, c36r6, c36r7, c36r8, c36r9, c36r10, c36r11, c36r12, c36r13, c36r15, c36r16, c36r17, c36r18, c36r19, c36r20, c36r21, c36r22, c36r23, c36r24, c36r26, c36r28, c36r29, c36r30, EV0, EV1, EV2, EV3, EV4, EV5, EV6, EV7, EV8, VALS, plug, ite_same, decide_true, decide_false, eq_self, ↓reduceIte, reduceCtorEq, Nat.reduceAdd, Nat.reduceEqDiff, Nat.reduceLT, Nat.reduceLeDiff, Nat.reduceMul, Nat.reduceSub, Nat.reduceDiv, Int.reduceToNat, Int.reduceAdd, Int.reduceSub, Int.reduceMul, Int.reduceNeg, Int.reduceEq, Int.reduceLT, Int.reduceLE]; with_reducible rfl) ?_
                | with_reducible refine h_go (by with_unfolding_all rfl) (by simp (disch := omega) only [jlt', c36r0, c36r1, c36r2, c36r3, c36r4, c36r5, c36r6, c36r7, c36r8, c36r9, c36r10, c36r11, c36r12, c36r13, c36r15, c36r16, c36r17, c36r18, c36r19, c36r20, c36r21, c36r22, c36r23, c36r24, c36r26, c36r28, c36r29, c36r30, EV0, EV1, EV2, EV3, EV4, EV5, EV6, EV7, EV8, VALS, plug, ite_same, decide_true, decide_false, eq_self, ↓reduceIte, reduceCtorEq, Nat.reduceAdd, Nat.reduceEqDiff, Nat.reduceLT, Nat.reduceLeDiff, Nat.reduceMul, Nat.reduceSub, Nat.reduceDiv, Int.reduceToNat, Int.reduceAdd, Int.reduceSub, Int.reduceMul, Int.reduceNeg, Int.reduceEq, Int.reduceLT, Int.reduceLE]; with_reducible rfl) ?_
                | ((with_reducible refine chk_r ?_); refine r_callF (by simp only [CA, Nat.reduceEqDiff, ↓reduceIte]; rfl) (by exact rfl) (by simp only [CA, Nat.reduceEqDiff, ↓reduceIte]; rfl) rfl ?_)
                | ((with_reducible refine chk_h ?_); refine hr_callF (by simp only [CA, Nat.reduceEqDiff, ↓reduceIte]; rfl) (by exact rfl) (by simp only [CA, Nat.reduceEqDiff, ↓reduceIte]; rfl) rfl ?_)
                | ((with_reducible refine chk_h ?_); refine hr_app (by simp (disch := omega) only [jlt', c36r0, c36r1, c36r2, c36r3, c36r4, c36r5, c36r6, c36r7, c36r8, c36r9, c36r10, c36r11, c36r12, c36r13, c36r15, c36r16, c36r17, c36r18, c36r19, c36r20, c36r21, c36r22, c36r23, c36r24, c36r26, c36r28, c36r29, c36r30, EV0, EV1, EV2, EV3, EV4, EV5, EV6, EV7, EV8, VALS, plug, ite_same, decide_true, decide_false, eq_self, ↓reduceIte, reduceCtorEq, Nat.reduceAdd, Nat.reduceEqDiff, Nat.reduceLT, Nat.reduceLeDiff, Nat.reduceMul, Nat.reduceSub, Nat.reduceDiv, Int.reduceToNat, Int.reduceAdd, Int.reduceSub, Int.reduceMul, Int.reduceNeg, Int.reduceEq, Int.reduceLT, Int.reduceLE]; with_reducible rfl) rfl ?_)
                | (with_reducible refine k_condP (by simp only [GA, Nat.reduceEqDiff, ↓reduceIte]; rfl) (by first | (simp only [BO]; rfl) | rfl) (fun ht => ?_) (fun ht => ?_) <;> try (first | exact False.elim ht | exact absurd rfl ht | exact absurd trivial ht | exact Bool.noConfusion ht))
                | (with_reducible refine k_ret ?_; repeat with_reducible (first | refine ret_thru ?_ | refine ret_blk ?_ | refine fin ?_))
                | (with_reducible refine k_exit ?_; repeat with_reducible (first | refine thru ?_ | refine out_blk ?_ | refine pass (by decide) ?_))
                | (refine post1 ?_; simp only [GA, Nat.reduceEqDiff, ↓reduceIte])
                | (refine post2 ?_; simp only [GA, Nat.reduceEqDiff, ↓reduceIte])
                | (refine post3 ?_; simp only [GA, Nat.reduceEqDiff, ↓reduceIte])
                | (refine postc (by simp only [GA, Nat.reduceEqDiff, ↓reduceIte]; rfl) (by simp (disch := omega) only [jlt', c36r0, c36r1, c36r2, c36r3, c36r4, c36r5, c36r6, c36r7, c36r8, c36r9, c36r10, c36r11, c36r12, c36r13, c36r15, c36r16, c36r17, c36r18, c36r19, c36r20, c36r21, c36r22, c36r23, c36r24, c36r26, c36r28, c36r29, c36r30, EV0, EV1, EV2, EV3, EV4, EV5, EV6, EV7, EV8, VALS, plug, ite_same, decide_true, decide_false, eq_self, ↓reduceIte, reduceCtorEq, Nat.reduceAdd, Nat.reduceEqDiff, Nat.reduceLT, Nat.reduceLeDiff, Nat.reduceMul, Nat.reduceSub, Nat.reduceDiv, Int.reduceToNat, Int.reduceAdd, Int.reduceSub, Int.reduceMul, Int.reduceNeg, Int.reduceEq, Int.reduceLT, Int.reduceLE]; rfl) ?_)
                | refine post0 ?_
              exact ⟨klt, (), (by simp only [Am.keep, List.map_cons, List.map_nil, GA, Nat.reduceEqDiff, ↓reduceIte]; try rfl), by simp (disch := omega) only [hm, c36r0, c36r1, c36r2, c36r3, c36r4, c36r5, c36r6, c36r7, c36r8, c36r9, c36r10, c36r11, c36r12, c36r13, c36r15, c36r16, c36r17, c36r18, c36r19, c36r20, c36r21, c36r22, c36r23, c36r24, c36r26, c36r28, c36r29, c36r30, EV0, EV1, EV2, EV3, EV4, EV5, EV6, EV7, EV8, VALS, plug, ite_same, decide_true, decide_false, eq_self, ↓reduceIte, reduceCtorEq, Nat.reduceAdd, Nat.reduceEqDiff, Nat.reduceLT, Nat.reduceLeDiff, Nat.reduceMul, Nat.reduceSub, Nat.reduceDiv, Int.reduceToNat, Int.reduceAdd, Int.reduceSub, Int.reduceMul, Int.reduceNeg, Int.reduceEq, Int.reduceLT, Int.reduceLE], M.succ (fun i h0 hi => My i h0 (by omega))⟩
        · obtain rfl : k = rows.length := by omega
          have klt' : ¬ (rows.length : Int) < rows.length := by omega
          have q75 := pc75 us (by omega)
          have full := R.full nd ix
          have ce := ck_end hv ix nd M (emp_all.trans empB_iff.symm) full.symm
          rw [ce]
          generalize empB rows rows.length = X at *
          generalize fi (noB us) us.length = Z at *
          rw [ul] at q75
          repeat' first
            | with_reducible refine k_seq ?_
            | with_reducible refine k_skip ?_
            | with_reducible refine k_blkS ?_
            | with_reducible refine k_blkR ?_
            | with_reducible refine k_blkC ?_
            | with_reducible refine k_blkH ?_
            | with_reducible refine k_blkB ?_
            | with_reducible refine k_blkK ?_
            | with_reducible refine k_blkE ?_
            | with_reducible refine k_reg ?_
            | with_reducible refine k_head (by with_unfolding_all rfl) ?_
            | with_reducible refine k_headS ?_
            | (with_reducible refine SepK.mk ?_ ?_; (refine sepQ_P ?_; simp [sepQ, sepG, AOp.late, AOp.free, AOp.xs, AOp.isAl, tokNe, AV.tok, stS_get, strip, AX.val, c36r0, c36r1, c36r2, c36r3, c36r4, c36r5, c36r6, c36r7, c36r8, c36r9, c36r10, c36r11, c36r12, c36r13, c36r15, c36r16, c36r17, c36r18, c36r19, c36r20, c36r21, c36r22, c36r23, c36r24, c36r26, c36r28, c36r29, c36r30, GA]; try omega))
            | with_reducible refine r_done ?_
            | with_reducible refine hr_done ?_
            | with_reducible refine s_go (by simp (disch := omega) only [klt', hm, c36r0, c36r1, c36r2, c36r3, c36r4, c36r5, c36r6, c36r7, c36r8, c36r9, c36r10, c36r11, c36r12, c36r13, c36r15, c36r16, c36r17, c36r18, c36r19, c36r20, c36r21, c36r22, c36r23, c36r24, c36r26, c36r28, c36r29, c36r30, EV0, EV1, EV2, EV3, EV4, EV5, EV6, EV7, EV8, VALS, plug, ite_same, decide_true, decide_false, eq_self, ↓reduceIte, reduceCtorEq, Nat.reduceAdd, Nat.reduceEqDiff, Nat.reduceLT, Nat.reduceLeDiff, Nat.reduceMul, Nat.reduceSub, Nat.reduceDiv, Int.reduceToNat, Int.reduceAdd, Int.reduceSub, Int.reduceMul, Int.reduceNeg, Int.reduceEq, Int.reduceLT, Int.reduceLE]; with_reducible rfl) ?_
            | with_reducible refine h_go (by with_unfolding_all rfl) (by simp (disch := omega) only [klt', hm, c36r0, c36r1, c36r2, c36r3, c36r4, c36r5, c36r6, c36r7, c36r8, c36r9, c36r10, c36r11, c36r12, c36r13, c36r15, c36r16, c36r17, c36r18, c36r19, c36r20, c36r21, c36r22, c36r23, c36r24, c36r26, c36r28, c36r29, c36r30, EV0, EV1, EV2, EV3, EV4, EV5, EV6, EV7, EV8, VALS, plug, ite_same, decide_true, decide_false, eq_self, ↓reduceIte, reduceCtorEq, Nat.reduceAdd, Nat.reduceEqDiff, Nat.reduceLT, Nat.reduceLeDiff, Nat.reduceMul, Nat.reduceSub, Nat.reduceDiv, Int.reduceToNat, Int.reduceAdd, Int.reduceSub, Int.reduceMul, Int.reduceNeg, Int.reduceEq, Int.reduceLT, Int.reduceLE]; with_reducible rfl) ?_
            | ((with_reducible refine chk_r ?_); refine r_callF (by simp only [CA, Nat.reduceEqDiff, ↓reduceIte]; rfl) (by exact rfl) (by simp only [CA, Nat.reduceEqDiff, ↓reduceIte]; rfl) rfl ?_)
            | ((with_reducible refine chk_h ?_); refine hr_callF (by simp only [CA, Nat.reduceEqDiff, ↓reduceIte]; rfl) (by exact rfl) (by simp only [CA, Nat.reduceEqDiff, ↓reduceIte]; rfl) rfl ?_)
            | ((with_reducible refine chk_r ?_); refine r_callP (by simp only [CA, Nat.reduceEqDiff, ↓reduceIte]; rfl) (by simp only [CA, Nat.reduceEqDiff, ↓reduceIte]; rfl) (by first | ((refine PC.at q75 rfl ?_; refine .cons (.row (by simp (disch := omega) only [row_m hm, c36r0, c36r1, c36r2, c36r3, c36r4, c36r5, c36r6, c36r7, c36r8, c36r9, c36r10, c36r11, c36r12, c36r13, c36r15, c36r16, c36r17, c36r18, c36r19, c36r20, c36r21, c36r22, c36r23, c36r24, c36r26, c36r28, c36r29, c36r30, EV0, EV1, EV2, EV3, EV4, EV5, EV6, EV7, EV8, VALS, plug, ite_same, decide_true, decide_false, eq_self, ↓reduceIte, reduceCtorEq, Nat.reduceAdd, Nat.reduceEqDiff, Nat.reduceLT, Nat.reduceLeDiff, Nat.reduceMul, Nat.reduceSub, Nat.reduceDiv, Int.reduceToNat, Int.reduceAdd, Int.reduceSub, Int.reduceMul, Int.reduceNeg, Int.reduceEq, Int.reduceLT, Int.reduceLE] <;> rfl) (bl_plain _)) (.cons (.same rfl) .nil)); all_goals fail)) rfl ?_)
            | ((with_reducible refine chk_h ?_); refine hr_callP (by simp only [CA, Nat.reduceEqDiff, ↓reduceIte]; rfl) (by simp only [CA, Nat.reduceEqDiff, ↓reduceIte]; rfl) (by first | ((refine PC.at q75 rfl ?_; refine .cons (.row (by simp (disch := omega) only [row_m hm, c36r0, c36r1, c36r2, c36r3, c36r4, c36r5, c36r6, c36r7, c36r8, c36r9, c36r10, c36r11, c36r12, c36r13, c36r15, c36r16, c36r17, c36r18, c36r19, c36r20, c36r21, c36r22, c36r23, c36r24, c36r26, c36r28, c36r29, c36r30, EV0, EV1, EV2, EV3, EV4, EV5, EV6, EV7, EV8, VALS, plug, ite_same, decide_true, decide_false, eq_self, ↓reduceIte, reduceCtorEq, Nat.reduceAdd, Nat.reduceEqDiff, Nat.reduceLT, Nat.reduceLeDiff, Nat.reduceMul, Nat.reduceSub, Nat.reduceDiv, Int.reduceToNat, Int.reduceAdd, Int.reduceSub, Int.reduceMul, Int.reduceNeg, Int.reduceEq, Int.reduceLT, Int.reduceLE] <;> rfl) (bl_plain _)) (.cons (.same rfl) .nil)); all_goals fail)) rfl ?_)
            | ((with_reducible refine chk_h ?_); refine hr_callP1 (by simp only [CA, Nat.reduceEqDiff, ↓reduceIte]; rfl) (by simp only [CA, Nat.reduceEqDiff, ↓reduceIte]; rfl) (by simp (disch := omega) only [CA, Nat.reduceEqDiff, ↓reduceIte, firstTok_nil, firstTok_sl, firstTok_sl0, firstTok_i, firstTok_b, firstTok_ag, firstTok_p, firstTok_s]; rfl) (by first | ((refine PC.at q75 rfl ?_; refine .cons (.row (by simp (disch := omega) only [row_m hm, c36r0, c36r1, c36r2, c36r3, c36r4, c36r5, c36r6, c36r7, c36r8, c36r9, c36r10, c36r11, c36r12, c36r13, c36r15, c36r16, c36r17, c36r18, c36r19, c36r20, c36r21, c36r22, c36r23, c36r24, c36r26, c36r28, c36r29, c36r30, EV0, EV1, EV2, EV3, EV4, EV5, EV6, EV7, EV8, VALS, plug, ite_same, decide_true, decide_false, eq_self, ↓reduceIte, reduceCtorEq, Nat.reduceAdd, Nat.reduceEqDiff, Nat.reduceLT, Nat.reduceLeDiff, Nat.reduceMul, Nat.reduceSub, Nat.reduceDiv, Int.reduceToNat, Int.reduceAdd, Int.reduceSub, Int.reduceMul, Int.reduceNeg, Int.reduceEq, Int.reduceLT, Int.reduceLE] <;> rfl) (bl_plain _)) (.cons (.same rfl) .nil)); all_goals fail)) rfl ?_)
            | ((with_reducible refine chk_r ?_); refine r_callG (by simp only [CA, Nat.reduceEqDiff, ↓reduceIte]; rfl) (by simp only [CA, Nat.reduceEqDiff, ↓reduceIte]; rfl) (by simp only [CA, Nat.reduceEqDiff, ↓reduceIte]; rfl) (by intro hg; (try simp only [BO] at hg); first | ((refine PC.at q75 rfl ?_; refine .cons (.row (by simp (disch := omega) only [row_m hm, c36r0, c36r1, c36r2, c36r3, c36r4, c36r5, c36r6, c36r7, c36r8, c36r9, c36r10, c36r11, c36r12, c36r13, c36r15, c36r16, c36r17, c36r18, c36r19, c36r20, c36r21, c36r22, c36r23, c36r24, c36r26, c36r28, c36r29, c36r30, EV0, EV1, EV2, EV3, EV4, EV5, EV6, EV7, EV8, VALS, plug, ite_same, decide_true, decide_false, eq_self, ↓reduceIte, reduceCtorEq, Nat.reduceAdd, Nat.reduceEqDiff, Nat.reduceLT, Nat.reduceLeDiff, Nat.reduceMul, Nat.reduceSub, Nat.reduceDiv, Int.reduceToNat, Int.reduceAdd, Int.reduceSub, Int.reduceMul, Int.reduceNeg, Int.reduceEq, Int.reduceLT, Int.reduceLE] <;> rfl) (bl_plain _)) (.cons (.same rfl) .nil)); all_goals fail)) rfl ?_)
            | ((with_reducible refine chk_h ?_); refine hr_callG (by simp only [CA, Nat.reduceEqDiff, ↓reduceIte]; rfl) (by simp only [CA, Nat.reduceEqDiff, ↓reduceIte]; rfl) (by simp only [CA, Nat.reduceEqDiff, ↓reduceIte]; rfl) (by intro hg; (try simp only [BO] at hg); first | ((refine PC.at q75 rfl ?_; refine .cons (.row (by simp (disch := omega) only [row_m hm, c36r0, c36r1, c36r2, c36r3, c36r4, c36r5, c36r6, c36r7, c36r8, c36r9, c36r10, c36r11, c36r12, c36r13, c36r15, c36r16, c36r17, c36r18, c36r19, c36r20, c36r21, c36r22, c36r23, c36r24, c36r26, c36r28, c36r29, c36r30, EV0, EV1, EV2, EV3, EV4, EV5, EV6, EV7, EV8, VALS, plug, ite_same, decide_true, decide_false, eq_self, ↓reduceIte, reduceCtorEq, Nat.reduceAdd, Nat.reduceEqDiff, Nat.reduceLT, Nat.reduceLeDiff, Nat.reduceMul, Nat.reduceSub, Nat.reduceDiv, Int.reduceToNat, Int.reduceAdd, Int.reduceSub, Int.reduceMul, Int.reduceNeg, Int.reduceEq, Int.reduceLT, Int.reduceLE] <;> rfl) (bl_plain _)) (.cons (.same rfl) .nil)); all_goals fail)) rfl ?_)
            | ((with_reducible refine chk_h ?_); refine hr_app (by simp (disch := omega) only [klt', hm, c36r0, c36r1, c36r2, c36r3, c36r4, c36r5, c36r6, c36r7, c36r8, c36r9, c36r10, c36r11, c36r12, c36r13, c36r15, c36r16, c36r17, c36r18, c36r19, c36r20, c36r21, c36r22, c36r23, c36r24, c36r26, c36r28, c36r29, c36r30, EV0, EV1, EV2, EV3, EV4, EV5, EV6, EV7, EV8, VALS, plug, ite_same, decide_true, decide_false, eq_self, ↓reduceIte, reduceCtorEq, Nat.reduceAdd, Nat.reduceEqDiff, Nat.reduceLT, Nat.reduceLeDiff, Nat.reduceMul, Nat.reduceSub, Nat.reduceDiv, Int.reduceToNat, Int.reduceAdd, Int.reduceSub, Int.reduceMul, Int.reduceNeg, Int.reduceEq, Int.reduceLT, Int.reduceLE]; with_reducible rfl) rfl ?_)
            | (with_reducible refine k_condP (by simp only [GA, Nat.reduceEqDiff, ↓reduceIte]; rfl) (by first | (simp only [BO]; rfl) | rfl) (fun ht => ?_) (fun ht => ?_) <;> try (first | exact False.elim ht | exact absurd rfl ht | exact absurd trivial ht | exact Bool.noConfusion ht))
            | (with_reducible refine k_ret ?_; repeat with_reducible (first | refine ret_thru ?_ | refine ret_blk ?_ | refine fin ?_))
            | (with_reducible refine k_exit ?_; repeat with_reducible (first | refine thru ?_ | refine out_blk ?_ | refine pass (by decide) ?_))
            | (refine post1 ?_; simp only [GA, Nat.reduceEqDiff, ↓reduceIte])
            | (refine post2 ?_; simp only [GA, Nat.reduceEqDiff, ↓reduceIte])
            | (refine post3 ?_; simp only [GA, Nat.reduceEqDiff, ↓reduceIte])
            | (refine postc (by simp only [GA, Nat.reduceEqDiff, ↓reduceIte]; rfl) (by simp (disch := omega) only [klt', hm, c36r0, c36r1, c36r2, c36r3, c36r4, c36r5, c36r6, c36r7, c36r8, c36r9, c36r10, c36r11, c36r12, c36r13, c36r15, c36r16, c36r17, c36r18, c36r19, c36r20, c36r21, c36r22, c36r23, c36r24, c36r26, c36r28, c36r29, c36r30, EV0, EV1, EV2, EV3, EV4, EV5, EV6, EV7, EV8, VALS, plug, ite_same, decide_true, decide_false, eq_self, ↓reduceIte, reduceCtorEq, Nat.reduceAdd, Nat.reduceEqDiff, Nat.reduceLT, Nat.reduceLeDiff, Nat.reduceMul, Nat.reduceSub, Nat.reduceDiv, Int.reduceToNat, Int.reduceAdd, Int.reduceSub, Int.reduceMul, Int.reduceNeg, Int.reduceEq, Int.reduceLT, Int.reduceLE]; rfl) ?_)
            | refine post0 ?_
          all_goals (refine ends_eq (i_eq ?_); cases X <;> by_cases hz : 0 ≤ Z <;> simp_all)
    · have := IX.fi' ix
      rw [ck_arg hv ix]
      have t : decide (0 ≤ fi (bdI l rows.flatten) rows.flatten.length) = true := decide_eq_true this
      rw [t] at q73
      repeat' first
        | with_reducible refine k_seq ?_
        | with_reducible refine k_skip ?_
        | with_reducible refine k_blkS ?_
        | with_reducible refine k_blkR ?_
        | with_reducible refine k_blkC ?_
        | with_reducible refine k_blkH ?_
        | with_reducible refine k_blkB ?_
        | with_reducible refine k_blkK ?_
        | with_reducible refine k_blkE ?_
        | with_reducible refine k_reg ?_
        | with_reducible refine k_head (by with_unfolding_all rfl) ?_
        | with_reducible refine k_headS ?_
        | (with_reducible refine SepK.mk ?_ ?_; (refine sepQ_P ?_; simp [sepQ, sepG, AOp.late, AOp.free, AOp.xs, AOp.isAl, tokNe, AV.tok, stS_get, strip, AX.val, c36r0, c36r1, c36r2, c36r3, c36r4, c36r5, c36r6, c36r7, c36r8, c36r9, c36r10, c36r11, c36r12, c36r13, c36r15, c36r16, c36r17, c36r18, c36r19, c36r20, c36r21, c36r22, c36r23, c36r24, c36r26, c36r28, c36r29, c36r30, GA]; try omega))
        | with_reducible refine r_done ?_
        | with_reducible refine hr_done ?_
        | with_reducible refine s_go (by simp (disch := omega) only [c36r0, c36r1, c36r2, c36r3, c36r4, c36r5, c36r6, c36r7, c36r8, c36r9, c36r10, c36r11, c36r12, c36r13, c36r15, c36r16, c36r17, c36r18, c36r19, c36r20, c36r21, c36r22, c36r23, c36r24, c36r26, c36r28, c36r29, c36r30, EV0, EV1, EV2, EV3, EV4, EV5, EV6, EV7, EV8, VALS, plug, ite_same, decide_true, decide_false, eq_self, ↓reduceIte, reduceCtorEq, Nat.reduceAdd, Nat.reduceEqDiff, Nat.reduceLT, Nat.reduceLeDiff, Nat.reduceMul, Nat.reduceSub, Nat.reduceDiv, Int.reduceToNat, Int.reduceAdd, Int.reduceSub, Int.reduceMul, Int.reduceNeg, Int.reduceEq, Int.reduceLT, Int.reduceLE]; with_reducible rfl) ?_
        | with_reducible refine h_go (by with_unfolding_all rfl) (by simp (disch := omega) only [c36r0, c36r1, c36r2, c36r3, c36r4, c36r5, c36r6, c36r7, c36r8, c36r9, c36r10, c36r11, c36r12, c36r13, c36r15, c36r16, c36r17, c36r18, c36r19, c36r20, c36r21, c36r22, c36r23, c36r24, c36r26, c36r28, c36r29, c36r30, EV0, EV1, EV2, EV3, EV4, EV5, EV6, EV7, EV8, VALS, plug, ite_same, decide_true, decide_false, eq_self, ↓reduceIte, reduceCtorEq, Nat.reduceAdd, Nat.reduceEqDiff, Nat.reduceLT, Nat.reduceLeDiff, Nat.reduceMul, Nat.reduceSub, Nat.reduceDiv, Int.reduceToNat, Int.reduceAdd, Int.reduceSub, Int.reduceMul, Int.reduceNeg, Int.reduceEq, Int.reduceLT, Int.reduceLE]; with_reducible rfl) ?_
        | ((with_reducible refine chk_r ?_); refine r_callF (by simp only [CA, Nat.reduceEqDiff, ↓reduceIte]; rfl) (by exact rfl) (by simp only [CA, Nat.reduceEqDiff, ↓reduceIte]; rfl) rfl ?_)
        | ((with_reducible refine chk_h ?_); refine hr_callF (by simp only [CA, Nat.reduceEqDiff, ↓reduceIte]; rfl) (by exact rfl) (by simp only [CA, Nat.reduceEqDiff, ↓reduceIte]; rfl) rfl ?_)
        | ((with_reducible refine chk_r ?_); refine r_callP (by simp only [CA, Nat.reduceEqDiff, ↓reduceIte]; rfl) (by simp only [CA, Nat.reduceEqDiff, ↓reduceIte]; rfl) (by first | exact q26 _ | exact q72 _ | exact q73 _) rfl ?_)
        | ((with_reducible refine chk_h ?_); refine hr_callP (by simp only [CA, Nat.reduceEqDiff, ↓reduceIte]; rfl) (by simp only [CA, Nat.reduceEqDiff, ↓reduceIte]; rfl) (by first | exact q26 _ | exact q72 _ | exact q73 _) rfl ?_)
        | ((with_reducible refine chk_h ?_); refine hr_callP1 (by simp only [CA, Nat.reduceEqDiff, ↓reduceIte]; rfl) (by simp only [CA, Nat.reduceEqDiff, ↓reduceIte]; rfl) (by simp (disch := omega) only [CA, Nat.reduceEqDiff, ↓reduceIte, firstTok_nil, firstTok_sl, firstTok_sl0, firstTok_i, firstTok_b, firstTok_ag, firstTok_p, firstTok_s]; rfl) (by first | exact q26 _ | exact q72 _ | exact q73 _) rfl ?_)
        | ((with_reducible refine chk_r ?_); refine r_callG (by simp only [CA, Nat.reduceEqDiff, ↓reduceIte]; rfl) (by simp only [CA, Nat.reduceEqDiff, ↓reduceIte]; rfl) (by simp only [CA, Nat.reduceEqDiff, ↓reduceIte]; rfl) (by intro hg; (try simp only [BO] at hg); first | exact q26 _ | exact q72 _ | exact q73 _) rfl ?_)
        | ((with_reducible refine chk_h ?_); refine hr_callG (by simp only [CA, Nat.reduceEqDiff, ↓reduceIte]; rfl) (by simp only [CA, Nat.reduceEqDiff, ↓reduceIte]; rfl) (by simp only [CA, Nat.reduceEqDiff, ↓reduceIte]; rfl) (by intro hg; (try simp only [BO] at hg); first | exact q26 _ | exact q72 _ | exact q73 _) rfl ?_)
        | ((with_reducible refine chk_h ?_); refine hr_app (by simp (disch := omega) only [c36r0, c36r1, c36r2, c36r3, c36r4, c36r5, c36r6, c36r7, c36r8, c36r9, c36r10, c36r11, c36r12, c36r13, c36r15, c36r16, c36r17, c36r18, c36r19, c36r20, c36r21, c36r22, c36r23, c36r24, c36r26, c36r28, c36r29, c36r30, EV0, EV1, EV2, EV3, EV4, EV5, EV6, EV7, EV8, VALS, plug, ite_same, decide_true, decide_false, eq_self, ↓reduceIte, reduceCtorEq, Nat.reduceAdd, Nat.reduceEqDiff, Nat.reduceLT, Nat.reduceLeDiff, Nat.reduceMul, Nat.reduceSub, Nat.reduceDiv, Int.reduceToNat, Int.reduceAdd, Int.reduceSub, Int.reduceMul, Int.reduceNeg, Int.reduceEq, Int.reduceLT, Int.reduceLE]; with_reducible rfl) rfl ?_)
        | (with_reducible refine k_condP (by simp only [GA, Nat.reduceEqDiff, ↓reduceIte]; rfl) (by first | (simp only [BO]; rfl) | rfl) (fun ht => ?_) (fun ht => ?_) <;> try (first | exact False.elim ht | exact absurd rfl ht | exact absurd trivial ht | exact Bool.noConfusion ht))
        | (with_reducible refine k_ret ?_; repeat with_reducible (first | refine ret_thru ?_ | refine ret_blk ?_ | refine fin ?_))
        | (with_reducible refine k_exit ?_; repeat with_reducible (first | refine thru ?_ | refine out_blk ?_ | refine pass (by decide) ?_))
        | (refine post1 ?_; simp only [GA, Nat.reduceEqDiff, ↓reduceIte])
        | (refine post2 ?_; simp only [GA, Nat.reduceEqDiff, ↓reduceIte])
        | (refine post3 ?_; simp only [GA, Nat.reduceEqDiff, ↓reduceIte])
        | (refine postc (by simp only [GA, Nat.reduceEqDiff, ↓reduceIte]; rfl) (by simp (disch := omega) only [c36r0, c36r1, c36r2, c36r3, c36r4, c36r5, c36r6, c36r7, c36r8, c36r9, c36r10, c36r11, c36r12, c36r13, c36r15, c36r16, c36r17, c36r18, c36r19, c36r20, c36r21, c36r22, c36r23, c36r24, c36r26, c36r28, c36r29, c36r30, EV0, EV1, EV2, EV3, EV4, EV5, EV6, EV7, EV8, VALS, plug, ite_same, decide_true, decide_false, eq_self, ↓reduceIte, reduceCtorEq, Nat.reduceAdd, Nat.reduceEqDiff, Nat.reduceLT, Nat.reduceLeDiff, Nat.reduceMul, Nat.reduceSub, Nat.reduceDiv, Int.reduceToNat, Int.reduceAdd, Int.reduceSub, Int.reduceMul, Int.reduceNeg, Int.reduceEq, Int.reduceLT, Int.reduceLE]; rfl) ?_)
        | refine post0 ?_
      all_goals first | exact ends_of | exact ends_eq rfl
  · rw [vl_f hv] at q26
    rw [ck_err hv]
    repeat' first
      | with_reducible refine k_seq ?_
      | with_reducible refine k_skip ?_
      | with_reducible refine k_blkS ?_
      | with_reducible refine k_blkR ?_
      | with_reducible refine k_blkC ?_
      | with_reducible refine k_blkH ?_
      | with_reducible refine k_blkB ?_
      | with_reducible refine k_blkK ?_
      | with_reducible refine k_blkE ?_
      | with_reducible refine k_reg ?_
      | with_reducible refine k_head (by with_unfolding_all rfl) ?_
      | with_reducible refine k_headS ?_
      | (with_reducible refine SepK.mk ?_ ?_; (refine sepQ_P ?_; simp [sepQ, sepG, AOp.late, AOp.free, AOp.xs, AOp.isAl, tokNe, AV.tok, stS_get, strip, AX.val, c36r0, c36r1, c36r2, c36r3, c36r4, c36r5, c36r6, c36r7, c36r8, c36r9, c36r10, c36r11, c36r12, c36r13, c36r15, c36r16, c36r17, c36r18, c36r19, c36r20, c36r21, c36r22, c36r23, c36r24, c36r26, c36r28, c36r29, c36r30, GA]; try omega))
      | with_reducible refine r_done ?_
      | with_reducible refine hr_done ?_
      | with_reducible refine s_go (by simp (disch := omega) only [c36r0, c36r1, c36r2, c36r3, c36r4, c36r5, c36r6, c36r7, c36r8, c36r9, c36r10, c36r11, c36r12, c36r13, c36r15, c36r16, c36r17, c36r18, c36r19, c36r20, c36r21, c36r22, c36r23, c36r24, c36r26, c36r28, c36r29, c36r30, EV0, EV1, EV2, EV3, EV4, EV5, EV6, EV7, EV8, VALS, plug, ite_same, decide_true, decide_false, eq_self, ↓reduceIte, reduceCtorEq, Nat.reduceAdd, Nat.reduceEqDiff, Nat.reduceLT, Nat.reduceLeDiff, Nat.reduceMul, Nat.reduceSub, Nat.reduceDiv, Int.reduceToNat, Int.reduceAdd, Int.reduceSub, Int.reduceMul, Int.reduceNeg, Int.reduceEq, Int.reduceLT, Int.reduceLE]; with_reducible rfl) ?_
      | with_reducible refine h_go (by with_unfolding_all rfl) (by simp (disch := omega) only [c36r0, c36r1, c36r2, c36r3, c36r4, c36r5, c36r6, c36r7, c36r8, c36r9, c36r10, c36r11, c36r12, c36r13, c36r15, c36r16, c36r17, c36r18, c36r19, c36r20, c36r21, c36r22, c36r23, c36r24, c36r26, c36r28, c36r29, c36r30, EV0, EV1, EV2, EV3, EV4, EV5, EV6, EV7, EV8, VALS, plug, ite_same, decide_true, decide_false, eq_self, ↓reduceIte, reduceCtorEq, Nat.reduceAdd, Nat.reduceEqDiff, Nat.reduceLT, Nat.reduceLeDiff, Nat.reduceMul, Nat.reduceSub, Nat.reduceDiv, Int.reduceToNat, Int.reduceAdd, Int.reduceSub, Int.reduceMul, Int.reduceNeg, Int.reduceEq, Int.reduceLT, Int.reduceLE]; with_reducible rfl) ?_
      | ((with_reducible refine chk_r ?_); refine r_callF (by simp only [CA, Nat.reduceEqDiff, ↓reduceIte]; rfl) (by exact rfl) (by simp only [CA, Nat.reduceEqDiff, ↓reduceIte]; rfl) rfl ?_)
      | ((with_reducible refine chk_h ?_); refine hr_callF (by simp only [CA, Nat.reduceEqDiff, ↓reduceIte]; rfl) (by exact rfl) (by simp only [CA, Nat.reduceEqDiff, ↓reduceIte]; rfl) rfl ?_)
      | ((with_reducible refine chk_r ?_); refine r_callP (by simp only [CA, Nat.reduceEqDiff, ↓reduceIte]; rfl) (by simp only [CA, Nat.reduceEqDiff, ↓reduceIte]; rfl) (by first | exact q26 _) rfl ?_)
      | ((with_reducible refine chk_h ?_); refine hr_callP (by simp only [CA, Nat.reduceEqDiff, ↓reduceIte]; rfl) (by simp only [CA, Nat.reduceEqDiff, ↓reduceIte]; rfl) (by first | exact q26 _) rfl ?_)
      | ((with_reducible refine chk_h ?_); refine hr_callP1 (by simp only [CA, Nat.reduceEqDiff, ↓reduceIte]; rfl) (by simp only [CA, Nat.reduceEqDiff, ↓reduceIte]; rfl) (by simp (disch := omega) only [CA, Nat.reduceEqDiff, ↓reduceIte, firstTok_nil, firstTok_sl, firstTok_sl0, firstTok_i, firstTok_b, firstTok_ag, firstTok_p, firstTok_s]; rfl) (by first | exact q26 _) rfl ?_)
      | ((with_reducible refine chk_r ?_); refine r_callG (by simp only [CA, Nat.reduceEqDiff, ↓reduceIte]; rfl) (by simp only [CA, Nat.reduceEqDiff, ↓reduceIte]; rfl) (by simp only [CA, Nat.reduceEqDiff, ↓reduceIte]; rfl) (by intro hg; (try simp only [BO] at hg); first | exact q26 _) rfl ?_)
      | ((with_reducible refine chk_h ?_); refine hr_callG (by simp only [CA, Nat.reduceEqDiff, ↓reduceIte]; rfl) (by simp only [CA, Nat.reduceEqDiff, ↓reduceIte]; rfl) (by simp only [CA, Nat.reduceEqDiff, ↓reduceIte]; rfl) (by intro hg; (try simp only [BO] at hg); first | exact q26 _) rfl ?_)
      | ((with_reducible refine chk_h ?_); refine hr_app (by simp (disch := omega) only [c36r0, c36r1, c36r2, c36r3, c36r4, c36r5, c36r6, c36r7, c36r8, c36r9, c36r10, c36r11, c36r12, c36r13, c36r15, c36r16, c36r17, c36r18, c36r19, c36r20, c36r21, c36r22, c36r23, c36r24, c36r26, c36r28, c36r29, c36r30, EV0, EV1, EV2, EV3, EV4, EV5, EV6, EV7, EV8, VALS, plug, ite_same, decide_true, decide_false, eq_self, ↓reduceIte, reduceCtorEq, Nat.reduceAdd, Nat.reduceEqDiff, Nat.reduceLT, Nat.reduceLeDiff, Nat.reduceMul, Nat.reduceSub, Nat.reduceDiv, Int.reduceToNat, Int.reduceAdd, Int.reduceSub, Int.reduceMul, Int.reduceNeg, Int.reduceEq, Int.reduceLT, Int.reduceLE]; with_reducible rfl) rfl ?_)
      | (with_reducible refine k_condP (by simp only [GA, Nat.reduceEqDiff, ↓reduceIte]; rfl) (by first | (simp only [BO]; rfl) | rfl) (fun ht => ?_) (fun ht => ?_) <;> try (first | exact False.elim ht | exact absurd rfl ht | exact absurd trivial ht | exact Bool.noConfusion ht))
      | (with_reducible refine k_ret ?_; repeat with_reducible (first | refine ret_thru ?_ | refine ret_blk ?_ | refine fin ?_))
      | (with_reducible refine k_exit ?_; repeat with_reducible (first | refine thru ?_ | refine out_blk ?_ | refine pass (by decide) ?_))
      | (refine post1 ?_; simp only [GA, Nat.reduceEqDiff, ↓reduceIte])
      | (refine post2 ?_; simp only [GA, Nat.reduceEqDiff, ↓reduceIte])
      | (refine post3 ?_; simp only [GA, Nat.reduceEqDiff, ↓reduceIte])
      | (refine postc (by simp only [GA, Nat.reduceEqDiff, ↓reduceIte]; rfl) (by simp (disch := omega) only [c36r0, c36r1, c36r2, c36r3, c36r4, c36r5, c36r6, c36r7, c36r8, c36r9, c36r10, c36r11, c36r12, c36r13, c36r15, c36r16, c36r17, c36r18, c36r19, c36r20, c36r21, c36r22, c36r23, c36r24, c36r26, c36r28, c36r29, c36r30, EV0, EV1, EV2, EV3, EV4, EV5, EV6, EV7, EV8, VALS, plug, ite_same, decide_true, decide_false, eq_self, ↓reduceIte, reduceCtorEq, Nat.reduceAdd, Nat.reduceEqDiff, Nat.reduceLT, Nat.reduceLeDiff, Nat.reduceMul, Nat.reduceSub, Nat.reduceDiv, Int.reduceToNat, Int.reduceAdd, Int.reduceSub, Int.reduceMul, Int.reduceNeg, Int.reduceEq, Int.reduceLT, Int.reduceLE]; rfl) ?_)
      | refine post0 ?_
    all_goals first | exact ends_of | exact ends_eq rfl
end Go.Proofs.Ytjncfpfgobojpaa
set_option linter.unusedVariables false
set_option linter.unusedSimpArgs false
namespace Go.Proofs.Ytjncfpfgobojpaa
open Go Go.Am Go.Proofs Go.Sort
/-! ### The document's Check f37 -/
theorem ix_snoc {l : List B} {A : List Int} {x : Int} (h : IX l A) (hx : 0 ≤ x ∧ x < l.length) : IX l (A ++ [x]) := fun y hy => by
  rcases List.mem_append.1 hy with q | q
  · exact h y q
  · rw [List.mem_singleton] at q; subst q; exact hx
theorem ix_no {l : List B} {rows : List (List Int)} {i j : Nat} (hi : i < rows.length) (hj : j < (rI rows i).length) (hx : ¬ (0 ≤ ni (rI rows i) j ∧ ni (rI rows i) j < l.length)) : ¬ IX l rows.flatten := fun h => by
  obtain ⟨a, h1, h2, _⟩ := h.at hi hj
  exact hx (by omega)
set_option maxHeartbeats 4000000 in
theorem pc37 (l : List B) (hl : l.length ≤ 9223372036854775807) (rows : List (List Int)) (hn : rows.length ≤ 60) (hr : ∀ i, i < rows.length → (rI rows i).length ≤ 60) (hs : rows.flatten.length ≤ 1000000) : PC Try.prog 37 [vB l, vR rows] (.i .i64 (ck l rows)) := by
  refine pc_fn fn37 (by simp only [AV.plains, AV.plain, il_plain, bl_plain, Bool.and_true, Bool.true_and, Bool.and_self, flB_plain, vR_plain]) (by simp only [AV.plains, AV.plain, il_plain, bl_plain, Bool.and_true, Bool.true_and, Bool.and_self, flB_plain, vR_plain]) (Nat.le_of_ble_eq_true rfl) ?_
  rw [initSt2]
  have q23 := pc23 l hl
  by_cases hv : VL l
  · rw [vl_t hv] at q23
    have hl6 := hv.len
    repeat' first
      | with_reducible refine k_seq ?_
      | with_reducible refine k_skip ?_
      | with_reducible refine k_blkS ?_
      | with_reducible refine k_blkR ?_
      | with_reducible refine k_blkC ?_
      | with_reducible refine k_blkH ?_
      | with_reducible refine k_blkB ?_
      | with_reducible refine k_blkK ?_
      | with_reducible refine k_blkE ?_
      | with_reducible refine k_reg ?_
      | with_reducible refine k_head (by with_unfolding_all rfl) ?_
      | with_reducible refine k_headS ?_
      | (with_reducible refine SepK.mk ?_ ?_; (refine sepQ_P ?_; simp [sepQ, sepG, AOp.late, AOp.free, AOp.xs, AOp.isAl, tokNe, AV.tok, stS_get, strip, AX.val, c37r0, c37r1, c37r2, c37r3, c37r4, c37r5, c37r6, c37r7, c37r8, c37r9, c37r11, c37r13, c37r14, c37r15, c37r16, c37r17, c37r18, c37r19, c37r20, c37r21, c37r22, c37r23, c37r24, c37r26, c37r28, c37r29, c37r30, c37r31, c37r32, c37r33, c37r34, c37r36, c37r38, c37r39, c37r40, GA]; try omega))
      | with_reducible refine r_done ?_
      | with_reducible refine hr_done ?_
      | with_reducible refine s_go (by simp (disch := omega) only [c37r0, c37r1, c37r2, c37r3, c37r4, c37r5, c37r6, c37r7, c37r8, c37r9, c37r11, c37r13, c37r14, c37r15, c37r16, c37r17, c37r18, c37r19, c37r20, c37r21, c37r22, c37r23, c37r24, c37r26, c37r28, c37r29, c37r30, c37r31, c37r32, c37r33, c37r34, c37r36, c37r38, c37r39, c37r40, EV0, EV1, EV2, EV3, EV4, EV5, EV6, EV7, EV8, VALS, plug, ite_same, decide_true, decide_false, eq_self, ↓reduceIte, reduceCtorEq, Nat.reduceAdd, Nat.reduceEqDiff, Nat.reduceLT, Nat.reduceLeDiff, Nat.reduceMul, Nat.reduceSub, Nat.reduceDiv, Int.reduceToNat, Int.reduceAdd, Int.reduceSub, Int.reduceMul, Int.reduceNeg, Int.reduceEq, Int.reduceLT, Int.reduceLE]; with_reducible rfl) ?_
      | with_reducible refine h_go (by with_unfolding_all rfl) (by simp (disch := omega) only [c37r0, c37r1, c37r2, c37r3, c37r4, c37r5, c37r6, c37r7, c37r8, c37r9, c37r11, c37r13, c37r14, c37r15, c37r16, c37r17, c37r18, c37r19, c37r20, c37r21, c37r22, c37r23, c37r24, c37r26, c37r28, c37r29, c37r30, c37r31, c37r32, c37r33, c37r34, c37r36, c37r38, c37r39, c37r40, EV0, EV1, EV2, EV3, EV4, EV5, EV6, EV7, EV8, VALS, plug, ite_same, decide_true, decide_false, eq_self, ↓reduceIte, reduceCtorEq, Nat.reduceAdd, Nat.reduceEqDiff, Nat.reduceLT, Nat.reduceLeDiff, Nat.reduceMul, Nat.reduceSub, Nat.reduceDiv, Int.reduceToNat, Int.reduceAdd, Int.reduceSub, Int.reduceMul, Int.reduceNeg, Int.reduceEq, Int.reduceLT, Int.reduceLE]; with_reducible rfl) ?_
      | ((with_reducible refine chk_r ?_); refine r_callF (by simp only [CA, Nat.reduceEqDiff, ↓reduceIte]; rfl) (by exact rfl) (by simp only [CA, Nat.reduceEqDiff, ↓reduceIte]; rfl) rfl ?_)
      | ((with_reducible refine chk_h ?_); refine hr_callF (by simp only [CA, Nat.reduceEqDiff, ↓reduceIte]; rfl) (by exact rfl) (by simp only [CA, Nat.reduceEqDiff, ↓reduceIte]; rfl) rfl ?_)
      | ((with_reducible refine chk_r ?_); refine r_callP (by simp only [CA, Nat.reduceEqDiff, ↓reduceIte]; rfl) (by simp only [CA, Nat.reduceEqDiff, ↓reduceIte]; rfl) (by first | exact q23 _) rfl ?_)
      | ((with_reducible refine chk_h ?_); refine hr_callP (by simp only [CA, Nat.reduceEqDiff, ↓reduceIte]; rfl) (by simp only [CA, Nat.reduceEqDiff, ↓reduceIte]; rfl) (by first | exact q23 _) rfl ?_)
      | ((with_reducible refine chk_h ?_); refine hr_callP1 (by simp only [CA, Nat.reduceEqDiff, ↓reduceIte]; rfl) (by simp only [CA, Nat.reduceEqDiff, ↓reduceIte]; rfl) (by simp (disch := omega) only [CA, Nat.reduceEqDiff, ↓reduceIte, firstTok_nil, firstTok_sl, firstTok_sl0, firstTok_i, firstTok_b, firstTok_ag, firstTok_p, firstTok_s]; rfl) (by first | exact q23 _) rfl ?_)
      | ((with_reducible refine chk_h ?_); refine hr_app (by simp (disch := omega) only [c37r0, c37r1, c37r2, c37r3, c37r4, c37r5, c37r6, c37r7, c37r8, c37r9, c37r11, c37r13, c37r14, c37r15, c37r16, c37r17, c37r18, c37r19, c37r20, c37r21, c37r22, c37r23, c37r24, c37r26, c37r28, c37r29, c37r30, c37r31, c37r32, c37r33, c37r34, c37r36, c37r38, c37r39, c37r40, EV0, EV1, EV2, EV3, EV4, EV5, EV6, EV7, EV8, VALS, plug, ite_same, decide_true, decide_false, eq_self, ↓reduceIte, reduceCtorEq, Nat.reduceAdd, Nat.reduceEqDiff, Nat.reduceLT, Nat.reduceLeDiff, Nat.reduceMul, Nat.reduceSub, Nat.reduceDiv, Int.reduceToNat, Int.reduceAdd, Int.reduceSub, Int.reduceMul, Int.reduceNeg, Int.reduceEq, Int.reduceLT, Int.reduceLE]; with_reducible rfl) rfl ?_)
      | (with_reducible refine k_condP (by simp only [GA, Nat.reduceEqDiff, ↓reduceIte]; rfl) (by first | (simp only [BO]; rfl) | rfl) (fun ht => ?_) (fun ht => ?_) <;> try (first | exact False.elim ht | exact absurd rfl ht | exact absurd trivial ht | exact Bool.noConfusion ht))
      | (with_reducible refine k_ret ?_; repeat with_reducible (first | refine ret_thru ?_ | refine ret_blk ?_ | refine fin ?_))
      | (with_reducible refine k_exit ?_; repeat with_reducible (first | refine thru ?_ | refine out_blk ?_ | refine pass (by decide) ?_))
      | (refine post1 ?_; simp only [GA, Nat.reduceEqDiff, ↓reduceIte])
      | (refine post2 ?_; simp only [GA, Nat.reduceEqDiff, ↓reduceIte])
      | (refine post3 ?_; simp only [GA, Nat.reduceEqDiff, ↓reduceIte])
      | (refine postc (by simp only [GA, Nat.reduceEqDiff, ↓reduceIte]; rfl) (by simp (disch := omega) only [c37r0, c37r1, c37r2, c37r3, c37r4, c37r5, c37r6, c37r7, c37r8, c37r9, c37r11, c37r13, c37r14, c37r15, c37r16, c37r17, c37r18, c37r19, c37r20, c37r21, c37r22, c37r23, c37r24, c37r26, c37r28, c37r29, c37r30, c37r31, c37r32, c37r33, c37r34, c37r36, c37r38, c37r39, c37r40, EV0, EV1, EV2, EV3, EV4, EV5, EV6, EV7, EV8, VALS, plug, ite_same, decide_true, decide_false, eq_self, ↓reduceIte, reduceCtorEq, Nat.reduceAdd, Nat.reduceEqDiff, Nat.reduceLT, Nat.reduceLeDiff, Nat.reduceMul, Nat.reduceSub, Nat.reduceDiv, Int.reduceToNat, Int.reduceAdd, Int.reduceSub, Int.reduceMul, Int.reduceNeg, Int.reduceEq, Int.reduceLT, Int.reduceLE]; rfl) ?_)
      | refine post0 ?_
    refine k_blk (k_loopS (X := Unit) [0, 1, 5] rows.length (fun i _ => [(0, vB l), (1, vR rows), (5, .i .i64 (i : Int))]) (fun i _ h => IX l (fk rows i)) () (by simp only [Am.keep, List.map_cons, List.map_nil, GA, Nat.reduceEqDiff, ↓reduceIte]; try rfl) (fun x hx => by simp [fk] at hx) ?_)
    rintro i _ h hi I ok pos
    by_cases ilt : i < rows.length
    · have ilt' : (i : Int) < rows.length := by omega
      have g := rvI_get ilt
      have ri := hr i ilt
      repeat' first
        | with_reducible refine k_seq ?_
        | with_reducible refine k_skip ?_
        | with_reducible refine k_blkS ?_
        | with_reducible refine k_blkR ?_
        | with_reducible refine k_blkC ?_
        | with_reducible refine k_blkH ?_
        | with_reducible refine k_blkB ?_
        | with_reducible refine k_blkK ?_
        | with_reducible refine k_blkE ?_
        | with_reducible refine k_reg ?_
        | with_reducible refine k_head (by with_unfolding_all rfl) ?_
        | with_reducible refine k_headS ?_
        | (with_reducible refine SepK.mk ?_ ?_; (refine sepQ_P ?_; simp [sepQ, sepG, AOp.late, AOp.free, AOp.xs, AOp.isAl, tokNe, AV.tok, stS_get, strip, AX.val, c37r0, c37r1, c37r2, c37r3, c37r4, c37r5, c37r6, c37r7, c37r8, c37r9, c37r11, c37r13, c37r14, c37r15, c37r16, c37r17, c37r18, c37r19, c37r20, c37r21, c37r22, c37r23, c37r24, c37r26, c37r28, c37r29, c37r30, c37r31, c37r32, c37r33, c37r34, c37r36, c37r38, c37r39, c37r40, GA]; try omega))
        | with_reducible refine r_done ?_
        | with_reducible refine hr_done ?_
        | with_reducible refine s_go (by simp (disch := omega) only [ilt', g, c37r0, c37r1, c37r2, c37r3, c37r4, c37r5, c37r6, c37r7, c37r8, c37r9, c37r11, c37r13, c37r14, c37r15, c37r16, c37r17, c37r18, c37r19, c37r20, c37r21, c37r22, c37r23, c37r24, c37r26, c37r28, c37r29, c37r30, c37r31, c37r32, c37r33, c37r34, c37r36, c37r38, c37r39, c37r40, EV0, EV1, EV2, EV3, EV4, EV5, EV6, EV7, EV8, VALS, plug, ite_same, decide_true, decide_false, eq_self, ↓reduceIte, reduceCtorEq, Nat.reduceAdd, Nat.reduceEqDiff, Nat.reduceLT, Nat.reduceLeDiff, Nat.reduceMul, Nat.reduceSub, Nat.reduceDiv, Int.reduceToNat, Int.reduceAdd, Int.reduceSub, Int.reduceMul, Int.reduceNeg, Int.reduceEq, Int.reduceLT, Int.reduceLE]; with_reducible rfl) ?_
        | with_reducible refine h_go (by with_unfolding_all rfl) (by simp (disch := omega) only [ilt', g, c37r0, c37r1, c37r2, c37r3, c37r4, c37r5, c37r6, c37r7, c37r8, c37r9, c37r11, c37r13, c37r14, c37r15, c37r16, c37r17, c37r18, c37r19, c37r20, c37r21, c37r22, c37r23, c37r24, c37r26, c37r28, c37r29, c37r30, c37r31, c37r32, c37r33, c37r34, c37r36, c37r38, c37r39, c37r40, EV0, EV1, EV2, EV3, EV4, EV5, EV6, EV7, EV8, VALS, plug, ite_same, decide_true, decide_false, eq_self, ↓reduceIte, reduceCtorEq, Nat.reduceAdd, Nat.reduceEqDiff, Nat.reduceLT, Nat.reduceLeDiff, Nat.reduceMul, Nat.reduceSub, Nat.reduceDiv, Int.reduceToNat, Int.reduceAdd, Int.reduceSub, Int.reduceMul, Int.reduceNeg, Int.reduceEq, Int.reduceLT, Int.reduceLE]; with_reducible rfl) ?_
        | ((with_reducible refine chk_r ?_); refine r_callF (by simp only [CA, Nat.reduceEqDiff, ↓reduceIte]; rfl) (by exact rfl) (by simp only [CA, Nat.reduceEqDiff, ↓reduceIte]; rfl) rfl ?_)
        | ((with_reducible refine chk_h ?_); refine hr_callF (by simp only [CA, Nat.reduceEqDiff, ↓reduceIte]; rfl) (by exact rfl) (by simp only [CA, Nat.reduceEqDiff, ↓reduceIte]; rfl) rfl ?_)
        | ((with_reducible refine chk_h ?_); refine hr_app (by simp (disch := omega) only [ilt', g, c37r0, c37r1, c37r2, c37r3, c37r4, c37r5, c37r6, c37r7, c37r8, c37r9, c37r11, c37r13, c37r14, c37r15, c37r16, c37r17, c37r18, c37r19, c37r20, c37r21, c37r22, c37r23, c37r24, c37r26, c37r28, c37r29, c37r30, c37r31, c37r32, c37r33, c37r34, c37r36, c37r38, c37r39, c37r40, EV0, EV1, EV2, EV3, EV4, EV5, EV6, EV7, EV8, VALS, plug, ite_same, decide_true, decide_false, eq_self, ↓reduceIte, reduceCtorEq, Nat.reduceAdd, Nat.reduceEqDiff, Nat.reduceLT, Nat.reduceLeDiff, Nat.reduceMul, Nat.reduceSub, Nat.reduceDiv, Int.reduceToNat, Int.reduceAdd, Int.reduceSub, Int.reduceMul, Int.reduceNeg, Int.reduceEq, Int.reduceLT, Int.reduceLE]; with_reducible rfl) rfl ?_)
        | (with_reducible refine k_condP (by simp only [GA, Nat.reduceEqDiff, ↓reduceIte]; rfl) (by first | (simp only [BO]; rfl) | rfl) (fun ht => ?_) (fun ht => ?_) <;> try (first | exact False.elim ht | exact absurd rfl ht | exact absurd trivial ht | exact Bool.noConfusion ht))
        | (with_reducible refine k_ret ?_; repeat with_reducible (first | refine ret_thru ?_ | refine ret_blk ?_ | refine fin ?_))
        | (with_reducible refine k_exit ?_; repeat with_reducible (first | refine thru ?_ | refine out_blk ?_ | refine pass (by decide) ?_))
        | (refine post1 ?_; simp only [GA, Nat.reduceEqDiff, ↓reduceIte])
        | (refine post2 ?_; simp only [GA, Nat.reduceEqDiff, ↓reduceIte])
        | (refine post3 ?_; simp only [GA, Nat.reduceEqDiff, ↓reduceIte])
        | (refine postc (by simp only [GA, Nat.reduceEqDiff, ↓reduceIte]; rfl) (by simp (disch := omega) only [ilt', g, c37r0, c37r1, c37r2, c37r3, c37r4, c37r5, c37r6, c37r7, c37r8, c37r9, c37r11, c37r13, c37r14, c37r15, c37r16, c37r17, c37r18, c37r19, c37r20, c37r21, c37r22, c37r23, c37r24, c37r26, c37r28, c37r29, c37r30, c37r31, c37r32, c37r33, c37r34, c37r36, c37r38, c37r39, c37r40, EV0, EV1, EV2, EV3, EV4, EV5, EV6, EV7, EV8, VALS, plug, ite_same, decide_true, decide_false, eq_self, ↓reduceIte, reduceCtorEq, Nat.reduceAdd, Nat.reduceEqDiff, Nat.reduceLT, Nat.reduceLeDiff, Nat.reduceMul, Nat.reduceSub, Nat.reduceDiv, Int.reduceToNat, Int.reduceAdd, Int.reduceSub, Int.reduceMul, Int.reduceNeg, Int.reduceEq, Int.reduceLT, Int.reduceLE]; rfl) ?_)
        | refine post0 ?_
      refine k_blk (k_loopS (X := Unit) [0, 1, 5, 6] (rI rows i).length (fun j _ => [(0, vB l), (1, vR rows), (5, .i .i64 (i : Int)), (6, .i .i64 (j : Int))]) (fun j _ h => IX l (fj rows i j)) () (by simp only [Am.keep, List.map_cons, List.map_nil, GA, Nat.reduceEqDiff, ↓reduceIte]; try rfl) (by rw [fj_zero]; exact I) ?_)
      rintro j _ h hj J ok pos
      by_cases jlt : j < (rI rows i).length
      · have jlt' : (j : Int) < (rI rows i).length := by omega
        have gj := il_get jlt
        have q67 : PC Try.prog 67 [vB l, .i .i64 ((rI rows i).getD j 0)] (.b (decide (0 ≤ ni (rI rows i) j ∧ ni (rI rows i) j < l.length))) := pc67 l hl _
        by_cases hx : 0 ≤ ni (rI rows i) j ∧ ni (rI rows i) j < l.length
        · rw [decide_eq_true hx] at q67
          repeat' first
            | with_reducible refine k_seq ?_
            | with_reducible refine k_skip ?_
            | with_reducible refine k_blkS ?_
            | with_reducible refine k_blkR ?_
            | with_reducible refine k_blkC ?_
            | with_reducible refine k_blkH ?_
            | with_reducible refine k_blkB ?_
            | with_reducible refine k_blkK ?_
            | with_reducible refine k_blkE ?_
            | with_reducible refine k_reg ?_
            | with_reducible refine k_head (by with_unfolding_all rfl) ?_
            | with_reducible refine k_headS ?_
            | (with_reducible refine SepK.mk ?_ ?_; (refine sepQ_P ?_; simp [sepQ, sepG, AOp.late, AOp.free, AOp.xs, AOp.isAl, tokNe, AV.tok, stS_get, strip, AX.val, c37r0, c37r1, c37r2, c37r3, c37r4, c37r5, c37r6, c37r7, c37r8, c37r9, c37r11, c37r13, c37r14, c37r15, c37r16, c37r17, c37r18, c37r19, c37r20, c37r21, c37r22, c37r23, c37r24, c37r26, c37r28, c37r29, c37r30, c37r31, c37r32, c37r33, c37r34, c37r36, c37r38, c37r39, c37r40, GA]; try omega))
            | with_reducible refine r_done ?_
            | with_reducible refine hr_done ?_
            | with_reducible refine s_go (by simp (disch := omega) only [ilt', g, jlt', gj, c37r0, c37r1, c37r2, c37r3, c37r4, c37r5, c37r6, c37r7, c37r8, c37r9, c37r11, c37r13, c37r14, c37r15, c37r16, c37r17, c37r18, c37r19, c37r20, c37r21, c37r22, c37r23, c37r24, c37r26, c37r28, c37r29, c37r30, c37r31, c37r32, c37r33, c37r34, c37r36, c37r38, c37r39, c37r40, EV0, EV1, EV2, EV3, EV4, EV5, EV6, EV7, EV8, VALS, plug, ite_same, decide_true, decide_false, eq_self, ↓reduceIte, reduceCtorEq, Nat.reduceAdd, Nat.reduceEqDiff, Nat.reduceLT, Nat.reduceLeDiff, Nat.reduceMul, Nat.reduceSub, Nat.reduceDiv, Int.reduceToNat, Int.reduceAdd, Int.reduceSub, Int.reduceMul, Int.reduceNeg, Int.reduceEq, Int.reduceLT, Int.reduceLE]; with_reducible rfl) ?_
            | with_reducible refine h_go (by with_unfolding_all rfl) (by simp (disch := omega) only [ilt', g, jlt', gj, c37r0, c37r1, c37r2, c37r3, c37r4, c37r5, c37r6, c37r7, c37r8, c37r9, c37r11, c37r13, c37r14, c37r15, c37r16, c37r17, c37r18, c37r19, c37r20, c37r21, c37r22, c37r23, c37r24, c37r26, c37r28, c37r29, c37r30, c37r31, c37r32, c37r33, c37r34, c37r36, c37r38, c37r39, c37r40, EV0, EV1, EV2, EV3, EV4, EV5, EV6, EV7, EV8, VALS, plug, ite_same, decide_true, decide_false, eq_self, ↓reduceIte, reduceCtorEq, Nat.reduceAdd, Nat.reduceEqDiff, Nat.reduceLT, Nat.reduceLeDiff, Nat.reduceMul, Nat.reduceSub, Nat.reduceDiv, Int.reduceToNat, Int.reduceAdd, Int.reduceSub, Int.reduceMul, Int.reduceNeg, Int.reduceEq, Int.reduceLT, Int.reduceLE]; with_reducible rfl) ?_
            | ((with_reducible refine chk_r ?_); refine r_callF (by simp only [CA, Nat.reduceEqDiff, ↓reduceIte]; rfl) (by exact rfl) (by simp only [CA, Nat.reduceEqDiff, ↓reduceIte]; rfl) rfl ?_)
            | ((with_reducible refine chk_h ?_); refine hr_callF (by simp only [CA, Nat.reduceEqDiff, ↓reduceIte]; rfl) (by exact rfl) (by simp only [CA, Nat.reduceEqDiff, ↓reduceIte]; rfl) rfl ?_)
            | ((with_reducible refine chk_r ?_); refine r_callP (by simp only [CA, Nat.reduceEqDiff, ↓reduceIte]; rfl) (by simp only [CA, Nat.reduceEqDiff, ↓reduceIte]; rfl) (by first | exact q67 _) rfl ?_)
            | ((with_reducible refine chk_h ?_); refine hr_callP (by simp only [CA, Nat.reduceEqDiff, ↓reduceIte]; rfl) (by simp only [CA, Nat.reduceEqDiff, ↓reduceIte]; rfl) (by first | exact q67 _) rfl ?_)
            | ((with_reducible refine chk_h ?_); refine hr_callP1 (by simp only [CA, Nat.reduceEqDiff, ↓reduceIte]; rfl) (by simp only [CA, Nat.reduceEqDiff, ↓reduceIte]; rfl) (by simp (disch := omega) only [CA, Nat.reduceEqDiff, ↓reduceIte, firstTok_nil, firstTok_sl, firstTok_sl0, firstTok_i, firstTok_b, firstTok_ag, firstTok_p, firstTok_s]; rfl) (by first | exact q67 _) rfl ?_)
            | ((with_reducible refine chk_h ?_); refine hr_app (by simp (disch := omega) only [ilt', g, jlt', gj, c37r0, c37r1, c37r2, c37r3, c37r4, c37r5, c37r6, c37r7, c37r8, c37r9, c37r11, c37r13, c37r14, c37r15, c37r16, c37r17, c37r18, c37r19, c37r20, c37r21, c37r22, c37r23, c37r24, c37r26, c37r28, c37r29, c37r30, c37r31, c37r32, c37r33, c37r34, c37r36, c37r38, c37r39, c37r40, EV0, EV1, EV2, EV3, EV4, EV5, EV6, EV7, EV8, VALS, plug, ite_same, decide_true, decide_false, eq_self, ↓reduceIte, reduceCtorEq, Nat.reduceAdd, Nat.reduceEqDiff, Nat.reduceLT, Nat.reduceLeDiff, Nat.reduceMul, Nat.reduceSub, Nat.reduceDiv, Int.reduceToNat, Int.reduceAdd, Int.reduceSub, Int.reduceMul, Int.reduceNeg, Int.reduceEq, Int.reduceLT, Int.reduceLE]; with_reducible rfl) rfl ?_)
            | (with_reducible refine k_condP (by simp only [GA, Nat.reduceEqDiff, ↓reduceIte]; rfl) (by first | (simp only [BO]; rfl) | rfl) (fun ht => ?_) (fun ht => ?_) <;> try (first | exact False.elim ht | exact absurd rfl ht | exact absurd trivial ht | exact Bool.noConfusion ht))
            | (with_reducible refine k_ret ?_; repeat with_reducible (first | refine ret_thru ?_ | refine ret_blk ?_ | refine fin ?_))
            | (with_reducible refine k_exit ?_; repeat with_reducible (first | refine thru ?_ | refine out_blk ?_ | refine pass (by decide) ?_))
            | (refine post1 ?_; simp only [GA, Nat.reduceEqDiff, ↓reduceIte])
            | (refine post2 ?_; simp only [GA, Nat.reduceEqDiff, ↓reduceIte])
            | (refine post3 ?_; simp only [GA, Nat.reduceEqDiff, ↓reduceIte])
            | (refine postc (by simp only [GA, Nat.reduceEqDiff, ↓reduceIte]; rfl) (by simp (disch := omega) only [ilt', g, jlt', gj, c37r0, c37r1, c37r2, c37r3, c37r4, c37r5, c37r6, c37r7, c37r8, c37r9, c37r11, c37r13, c37r14, c37r15, c37r16, c37r17, c37r18, c37r19, c37r20, c37r21, c37r22, c37r23, c37r24, c37r26, c37r28, c37r29, c37r30, c37r31, c37r32, c37r33, c37r34, c37r36, c37r38, c37r39, c37r40, EV0, EV1, EV2, EV3, EV4, EV5, EV6, EV7, EV8, VALS, plug, ite_same, decide_true, decide_false, eq_self, ↓reduceIte, reduceCtorEq, Nat.reduceAdd, Nat.reduceEqDiff, Nat.reduceLT, Nat.reduceLeDiff, Nat.reduceMul, Nat.reduceSub, Nat.reduceDiv, Int.reduceToNat, Int.reduceAdd, Int.reduceSub, Int.reduceMul, Int.reduceNeg, Int.reduceEq, Int.reduceLT, Int.reduceLE]; rfl) ?_)
            | refine post0 ?_
          exact ⟨jlt, (), (by simp only [Am.keep, List.map_cons, List.map_nil, GA, Nat.reduceEqDiff, ↓reduceIte]; try rfl), by rw [fj_succ jlt]; exact ix_snoc J hx⟩
        · rw [decide_eq_false hx] at q67
          rw [ck_arg hv (ix_no ilt jlt hx)]
          repeat' first
            | with_reducible refine k_seq ?_
            | with_reducible refine k_skip ?_
            | with_reducible refine k_blkS ?_
            | with_reducible refine k_blkR ?_
            | with_reducible refine k_blkC ?_
            | with_reducible refine k_blkH ?_
            | with_reducible refine k_blkB ?_
            | with_reducible refine k_blkK ?_
            | with_reducible refine k_blkE ?_
            | with_reducible refine k_reg ?_
            | with_reducible refine k_head (by with_unfolding_all rfl) ?_
            | with_reducible refine k_headS ?_
            | (with_reducible refine SepK.mk ?_ ?_; (refine sepQ_P ?_; simp [sepQ, sepG, AOp.late, AOp.free, AOp.xs, AOp.isAl, tokNe, AV.tok, stS_get, strip, AX.val, c37r0, c37r1, c37r2, c37r3, c37r4, c37r5, c37r6, c37r7, c37r8, c37r9, c37r11, c37r13, c37r14, c37r15, c37r16, c37r17, c37r18, c37r19, c37r20, c37r21, c37r22, c37r23, c37r24, c37r26, c37r28, c37r29, c37r30, c37r31, c37r32, c37r33, c37r34, c37r36, c37r38, c37r39, c37r40, GA]; try omega))
            | with_reducible refine r_done ?_
            | with_reducible refine hr_done ?_
            | with_reducible refine s_go (by simp (disch := omega) only [ilt', g, jlt', gj, c37r0, c37r1, c37r2, c37r3, c37r4, c37r5, c37r6, c37r7, c37r8, c37r9, c37r11, c37r13, c37r14, c37r15, c37r16, c37r17, c37r18, c37r19, c37r20, c37r21, c37r22, c37r23, c37r24, c37r26, c37r28, c37r29, c37r30, c37r31, c37r32, c37r33, c37r34, c37r36, c37r38, c37r39, c37r40, EV0, EV1, EV2, EV3, EV4, EV5, EV6, EV7, EV8, VALS, plug, ite_same, decide_true, decide_false, eq_self, ↓reduceIte, reduceCtorEq, Nat.reduceAdd, Nat.reduceEqDiff, Nat.reduceLT, Nat.reduceLeDiff, Nat.reduceMul, Nat.reduceSub, Nat.reduceDiv, Int.reduceToNat, Int.reduceAdd, Int.reduceSub, Int.reduceMul, Int.reduceNeg, Int.reduceEq, Int.reduceLT, Int.reduceLE]; with_reducible rfl) ?_
            | with_reducible refine h_go (by with_unfolding_all rfl) (by simp (disch := omega) only [ilt', g, jlt', gj, c37r0, c37r1, c37r2, c37r3, c37r4, c37r5, c37r6, c37r7, c37r8, c37r9, c37r11, c37r13, c37r14, c37r15, c37r16, c37r17, c37r18, c37r19, c37r20, c37r21, c37r22, c37r23, c37r24, c37r26, c37r28, c37r29, c37r30, c37r31, c37r32, c37r33, c37r34, c37r36, c37r38, c37r39, c37r40, EV0, EV1, EV2, EV3, EV4, EV5, EV6, EV7, EV8, VALS, plug, ite_same, decide_true, decide_false, eq_self, ↓reduceIte, reduceCtorEq, Nat.reduceAdd, Nat.reduceEqDiff, Nat.reduceLT, Nat.reduceLeDiff, Nat.reduceMul, Nat.reduceSub, Nat.reduceDiv, Int.reduceToNat, Int.reduceAdd, Int.reduceSub, Int.reduceMul, Int.reduceNeg, Int.reduceEq, Int.reduceLT, Int.reduceLE]; with_reducible rfl) ?_
            | ((with_reducible refine chk_r ?_); refine r_callF (by simp only [CA, Nat.reduceEqDiff, ↓reduceIte]; rfl) (by exact rfl) (by simp only [CA, Nat.reduceEqDiff, ↓reduceIte]; rfl) rfl ?_)
            | ((with_reducible refine chk_h ?_); refine hr_callF (by simp only [CA, Nat.reduceEqDiff, ↓reduceIte]; rfl) (by exact rfl) (by simp only [CA, Nat.reduceEqDiff, ↓reduceIte]; rfl) rfl ?_)
            | ((with_reducible refine chk_r ?_); refine r_callP (by simp only [CA, Nat.reduceEqDiff, ↓reduceIte]; rfl) (by simp only [CA, Nat.reduceEqDiff, ↓reduceIte]; rfl) (by first | exact q67 _) rfl ?_)
            | ((with_reducible refine chk_h ?_); refine hr_callP (by simp only [CA, Nat.reduceEqDiff, ↓reduceIte]; rfl) (by simp only [CA, Nat.reduceEqDiff, ↓reduceIte]; rfl) (by first | exact q67 _) rfl ?_)
            | ((with_reducible refine chk_h ?_); refine hr_callP1 (by simp only [CA, Nat.reduceEqDiff, ↓reduceIte]; rfl) (by simp only [CA, Nat.reduceEqDiff, ↓reduceIte]; rfl) (by simp (disch := omega) only [CA, Nat.reduceEqDiff, ↓reduceIte, firstTok_nil, firstTok_sl, firstTok_sl0, firstTok_i, firstTok_b, firstTok_ag, firstTok_p, firstTok_s]; rfl) (by first | exact q67 _) rfl ?_)
            | ((with_reducible refine chk_h ?_); refine hr_app (by simp (disch := omega) only [ilt', g, jlt', gj, c37r0, c37r1, c37r2, c37r3, c37r4, c37r5, c37r6, c37r7, c37r8, c37r9, c37r11, c37r13, c37r14, c37r15, c37r16, c37r17, c37r18, c37r19, c37r20, c37r21, c37r22, c37r23, c37r24, c37r26, c37r28, c37r29, c37r30, c37r31, c37r32, c37r33, c37r34, c37r36, c37r38, c37r39, c37r40, EV0, EV1, EV2, EV3, EV4, EV5, EV6, EV7, EV8, VALS, plug, ite_same, decide_true, decide_false, eq_self, ↓reduceIte, reduceCtorEq, Nat.reduceAdd, Nat.reduceEqDiff, Nat.reduceLT, Nat.reduceLeDiff, Nat.reduceMul, Nat.reduceSub, Nat.reduceDiv, Int.reduceToNat, Int.reduceAdd, Int.reduceSub, Int.reduceMul, Int.reduceNeg, Int.reduceEq, Int.reduceLT, Int.reduceLE]; with_reducible rfl) rfl ?_)
            | (with_reducible refine k_condP (by simp only [GA, Nat.reduceEqDiff, ↓reduceIte]; rfl) (by first | (simp only [BO]; rfl) | rfl) (fun ht => ?_) (fun ht => ?_) <;> try (first | exact False.elim ht | exact absurd rfl ht | exact absurd trivial ht | exact Bool.noConfusion ht))
            | (with_reducible refine k_ret ?_; repeat with_reducible (first | refine ret_thru ?_ | refine ret_blk ?_ | refine fin ?_))
            | (with_reducible refine k_exit ?_; repeat with_reducible (first | refine thru ?_ | refine out_blk ?_ | refine pass (by decide) ?_))
            | (refine post1 ?_; simp only [GA, Nat.reduceEqDiff, ↓reduceIte])
            | (refine post2 ?_; simp only [GA, Nat.reduceEqDiff, ↓reduceIte])
            | (refine post3 ?_; simp only [GA, Nat.reduceEqDiff, ↓reduceIte])
            | (refine postc (by simp only [GA, Nat.reduceEqDiff, ↓reduceIte]; rfl) (by simp (disch := omega) only [ilt', g, jlt', gj, c37r0, c37r1, c37r2, c37r3, c37r4, c37r5, c37r6, c37r7, c37r8, c37r9, c37r11, c37r13, c37r14, c37r15, c37r16, c37r17, c37r18, c37r19, c37r20, c37r21, c37r22, c37r23, c37r24, c37r26, c37r28, c37r29, c37r30, c37r31, c37r32, c37r33, c37r34, c37r36, c37r38, c37r39, c37r40, EV0, EV1, EV2, EV3, EV4, EV5, EV6, EV7, EV8, VALS, plug, ite_same, decide_true, decide_false, eq_self, ↓reduceIte, reduceCtorEq, Nat.reduceAdd, Nat.reduceEqDiff, Nat.reduceLT, Nat.reduceLeDiff, Nat.reduceMul, Nat.reduceSub, Nat.reduceDiv, Int.reduceToNat, Int.reduceAdd, Int.reduceSub, Int.reduceMul, Int.reduceNeg, Int.reduceEq, Int.reduceLT, Int.reduceLE]; rfl) ?_)
            | refine post0 ?_
          all_goals first | exact ends_of | exact ends_eq rfl
      · obtain rfl : j = (rI rows i).length := by omega
        have jlt' : ¬ ((rI rows i).length : Int) < (rI rows i).length := by omega
        repeat' first
          | with_reducible refine k_seq ?_
          | with_reducible refine k_skip ?_
          | with_reducible refine k_blkS ?_
          | with_reducible refine k_blkR ?_
          | with_reducible refine k_blkC ?_
          | with_reducible refine k_blkH ?_
          | with_reducible refine k_blkB ?_
          | with_reducible refine k_blkK ?_
          | with_reducible refine k_blkE ?_
          | with_reducible refine k_reg ?_
          | with_reducible refine k_head (by with_unfolding_all rfl) ?_
          | with_reducible refine k_headS ?_
          | (with_reducible refine SepK.mk ?_ ?_; (refine sepQ_P ?_; simp [sepQ, sepG, AOp.late, AOp.free, AOp.xs, AOp.isAl, tokNe, AV.tok, stS_get, strip, AX.val, c37r0, c37r1, c37r2, c37r3, c37r4, c37r5, c37r6, c37r7, c37r8, c37r9, c37r11, c37r13, c37r14, c37r15, c37r16, c37r17, c37r18, c37r19, c37r20, c37r21, c37r22, c37r23, c37r24, c37r26, c37r28, c37r29, c37r30, c37r31, c37r32, c37r33, c37r34, c37r36, c37r38, c37r39, c37r40, GA]; try omega))
          | with_reducible refine r_done ?_
          | with_reducible refine hr_done ?_
          | with_reducible refine s_go (by simp (disch := omega) only [ilt', g, jlt', c37r0, c37r1, c37r2, c37r3, c37r4, c37r5, c37r6, c37r7, c37r8, c37r9, c37r11, c37r13, c37r14, c37r15, c37r16, c37r17, c37r18, c37r19, c37r20, c37r21, c37r22, c37r23, c37r24, c37r26, c37r28, c37r29, c37r30, c37r31, c37r32, c37r33, c37r34, c37r36, c37r38, c37r39, c37r40, EV0, EV1, EV2, EV3, EV4, EV5, EV6, EV7, EV8, VALS, plug, ite_same, decide_true, decide_false, eq_self, ↓reduceIte, reduceCtorEq, Nat.reduceAdd, Nat.reduceEqDiff, Nat.reduceLT, Nat.reduceLeDiff, Nat.reduceMul, Nat.reduceSub, Nat.reduceDiv, Int.reduceToNat, Int.reduceAdd, Int.reduceSub, Int.reduceMul, Int.reduceNeg, Int.reduceEq, Int.reduceLT, Int.reduceLE]; with_reducible rfl) ?_
          | with_reducible refine h_go (by with_unfolding_all rfl) (by simp (disch := omega) only [ilt', g, jlt', c37r0, c37r1, c37r2, c37r3, c37r4, c37r5, c37r6, c37r7, c37r8, c37r9, c37r11, c37r13, c37r14, c37r15, c37r16, c37r17, c37r18, c37r19, c37r20, c37r21, c37r22, c37r23, c37r24, c37r26, c37r28, c37r29, c37r30, c37r31, c37r32, c37r33, c37r34, c37r36, c37r38, c37r39, c37r40, EV0, EV1, EV2, EV3, EV4, EV5, EV6, EV7, EV8, VALS, plug, ite_same, decide_true, decide_false, eq_self, ↓reduceIte, reduceCtorEq, Nat.reduceAdd, Nat.reduceEqDiff, Nat.reduceLT, Nat.reduceLeDiff, Nat.reduceMul, Nat.reduceSub, Nat.reduceDiv, Int.reduceToNat, Int.reduceAdd, Int.reduceSub, Int.reduceMul, Int.reduceNeg, Int.reduceEq, Int.reduceLT, Int.reduceLE]; with_reducible rfl) ?_
          | ((with_reducible refine chk_r ?_); refine r_callF (by simp only [CA, Nat.reduceEqDiff, ↓reduceIte]; rfl) (by exact rfl) (by simp only [CA, Nat.reduceEqDiff, ↓reduceIte]; rfl) rfl ?_)
          | ((with_reducible refine chk_h ?_); refine hr_callF (by simp only [CA, Nat.reduceEqDiff, ↓reduceIte]; rfl) (by exact rfl) (by simp only [CA, Nat.reduceEqDiff, ↓reduceIte]; rfl) rfl ?_)
          | ((with_reducible refine chk_h ?_); refine hr_app (by simp (disch := omega) only [ilt', g, jlt', c37r0, c37r1, c37r2, c37r3, c37r4, c37r5, c37r6, c37r7, c37r8, c37r9, c37r11, c37r13, c37r14, c37r15, c37r16, c37r17, c37r18, c37r19, c37r20, c37r21, c37r22, c37r23, c37r24, c37r26, c37r28, c37r29, c37r30, c37r31, c37r32, c37r33, c37r34, c37r36, c37r38, c37r39, c37r40, EV0, EV1, EV2, EV3, EV4, EV5, EV6, EV7, EV8, VALS, plug, ite_same, decide_true, decide_false, eq_self, ↓reduceIte, reduceCtorEq, Nat.reduceAdd, Nat.reduceEqDiff, Nat.reduceLT, Nat.reduceLeDiff, Nat.reduceMul, Nat.reduceSub, Nat.reduceDiv, Int.reduceToNat, Int.reduceAdd, Int.reduceSub, Int.reduceMul, Int.reduceNeg, Int.reduceEq, Int.reduceLT, Int.reduceLE]; with_reducible rfl) rfl ?_)
          | (with_reducible refine k_condP (by simp only [GA, Nat.reduceEqDiff, ↓reduceIte]; rfl) (by first | (simp only [BO]; rfl) | rfl) (fun ht => ?_) (fun ht => ?_) <;> try (first | exact False.elim ht | exact absurd rfl ht | exact absurd trivial ht | exact Bool.noConfusion ht))
          | (with_reducible refine k_ret ?_; repeat with_reducible (first | refine ret_thru ?_ | refine ret_blk ?_ | refine fin ?_))
          | (with_reducible refine k_exit ?_; repeat with_reducible (first | refine thru ?_ | refine out_blk ?_ | refine pass (by decide) ?_))
          | (refine post1 ?_; simp only [GA, Nat.reduceEqDiff, ↓reduceIte])
          | (refine post2 ?_; simp only [GA, Nat.reduceEqDiff, ↓reduceIte])
          | (refine post3 ?_; simp only [GA, Nat.reduceEqDiff, ↓reduceIte])
          | (refine postc (by simp only [GA, Nat.reduceEqDiff, ↓reduceIte]; rfl) (by simp (disch := omega) only [ilt', g, jlt', c37r0, c37r1, c37r2, c37r3, c37r4, c37r5, c37r6, c37r7, c37r8, c37r9, c37r11, c37r13, c37r14, c37r15, c37r16, c37r17, c37r18, c37r19, c37r20, c37r21, c37r22, c37r23, c37r24, c37r26, c37r28, c37r29, c37r30, c37r31, c37r32, c37r33, c37r34, c37r36, c37r38, c37r39, c37r40, EV0, EV1, EV2, EV3, EV4, EV5, EV6, EV7, EV8, VALS, plug, ite_same, decide_true, decide_false, eq_self, ↓reduceIte, reduceCtorEq, Nat.reduceAdd, Nat.reduceEqDiff, Nat.reduceLT, Nat.reduceLeDiff, Nat.reduceMul, Nat.reduceSub, Nat.reduceDiv, Int.reduceToNat, Int.reduceAdd, Int.reduceSub, Int.reduceMul, Int.reduceNeg, Int.reduceEq, Int.reduceLT, Int.reduceLE]; rfl) ?_)
          | refine post0 ?_
        exact ⟨ilt, (), (by simp only [Am.keep, List.map_cons, List.map_nil, GA, Nat.reduceEqDiff, ↓reduceIte]; try rfl), by rw [← fj_row ilt]; exact J⟩
    · obtain rfl : i = rows.length := by omega
      have ilt' : ¬ (rows.length : Int) < rows.length := by omega
      rw [fk_all] at I
      have ix := I
      repeat' first
        | with_reducible refine k_seq ?_
        | with_reducible refine k_skip ?_
        | with_reducible refine k_blkS ?_
        | with_reducible refine k_blkR ?_
        | with_reducible refine k_blkC ?_
        | with_reducible refine k_blkH ?_
        | with_reducible refine k_blkB ?_
        | with_reducible refine k_blkK ?_
        | with_reducible refine k_blkE ?_
        | with_reducible refine k_reg ?_
        | with_reducible refine k_head (by with_unfolding_all rfl) ?_
        | with_reducible refine k_headS ?_
        | (with_reducible refine SepK.mk ?_ ?_; (refine sepQ_P ?_; simp [sepQ, sepG, AOp.late, AOp.free, AOp.xs, AOp.isAl, tokNe, AV.tok, stS_get, strip, AX.val, c37r0, c37r1, c37r2, c37r3, c37r4, c37r5, c37r6, c37r7, c37r8, c37r9, c37r11, c37r13, c37r14, c37r15, c37r16, c37r17, c37r18, c37r19, c37r20, c37r21, c37r22, c37r23, c37r24, c37r26, c37r28, c37r29, c37r30, c37r31, c37r32, c37r33, c37r34, c37r36, c37r38, c37r39, c37r40, GA]; try omega))
        | with_reducible refine r_done ?_
        | with_reducible refine hr_done ?_
        | with_reducible refine s_go (by simp (disch := omega) only [ilt', c37r0, c37r1, c37r2, c37r3, c37r4, c37r5, c37r6, c37r7, c37r8, c37r9, c37r11, c37r13, c37r14, c37r15, c37r16, c37r17, c37r18, c37r19, c37r20, c37r21, c37r22, c37r23, c37r24, c37r26, c37r28, c37r29, c37r30, c37r31, c37r32, c37r33, c37r34, c37r36, c37r38, c37r39, c37r40, EV0, EV1, EV2, EV3, EV4, EV5, EV6, EV7, EV8, VALS, plug, ite_same, decide_true, decide_false, eq_self, ↓reduceIte, reduceCtorEq, Nat.reduceAdd, Nat.reduceEqDiff, Nat.reduceLT, Nat.reduceLeDiff, Nat.reduceMul, Nat.reduceSub, Nat.reduceDiv, Int.reduceToNat, Int.reduceAdd, Int.reduceSub, Int.reduceMul, Int.reduceNeg, Int.reduceEq, Int.reduceLT, Int.reduceLE]; with_reducible rfl) ?_
        | with_reducible refine h_go (by with_unfolding_all rfl) (by simp (disch := omega) only [ilt', c37r0, c37r1, c37r2, c37r3, c37r4, c37r5, c37r6, c37r7, c37r8, c37r9, c37r11, c37r13, c37r14, c37r15, c37r16, c37r17, c37r18, c37r19, c37r20, c37r21, c37r22, c37r23, c37r24, c37r26, c37r28, c37r29, c37r30, c37r31, c37r32, c37r33, c37r34, c37r36, c37r38, c37r39, c37r40, EV0, EV1, EV2, EV3, EV4, EV5, EV6, EV7, EV8, VALS, plug, ite_same, decide_true, decide_false, eq_self, ↓reduceIte, reduceCtorEq, Nat.reduceAdd, Nat.reduceEqDiff, Nat.reduceLT, Nat.reduceLeDiff, Nat.reduceMul, Nat.reduceSub, Nat.reduceDiv, Int.reduceToNat, Int.reduceAdd, Int.reduceSub, Int.reduceMul, Int.reduceNeg, Int.reduceEq, Int.reduceLT, Int.reduceLE]; with_reducible rfl) ?_
        | ((with_reducible refine chk_r ?_); refine r_callF (by simp only [CA, Nat.reduceEqDiff, ↓reduceIte]; rfl) (by exact rfl) (by simp only [CA, Nat.reduceEqDiff, ↓reduceIte]; rfl) rfl ?_)
        | ((with_reducible refine chk_h ?_); refine hr_callF (by simp only [CA, Nat.reduceEqDiff, ↓reduceIte]; rfl) (by exact rfl) (by simp only [CA, Nat.reduceEqDiff, ↓reduceIte]; rfl) rfl ?_)
        | ((with_reducible refine chk_h ?_); refine hr_app (by simp (disch := omega) only [ilt', c37r0, c37r1, c37r2, c37r3, c37r4, c37r5, c37r6, c37r7, c37r8, c37r9, c37r11, c37r13, c37r14, c37r15, c37r16, c37r17, c37r18, c37r19, c37r20, c37r21, c37r22, c37r23, c37r24, c37r26, c37r28, c37r29, c37r30, c37r31, c37r32, c37r33, c37r34, c37r36, c37r38, c37r39, c37r40, EV0, EV1, EV2, EV3, EV4, EV5, EV6, EV7, EV8, VALS, plug, ite_same, decide_true, decide_false, eq_self, ↓reduceIte, reduceCtorEq, Nat.reduceAdd, Nat.reduceEqDiff, Nat.reduceLT, Nat.reduceLeDiff, Nat.reduceMul, Nat.reduceSub, Nat.reduceDiv, Int.reduceToNat, Int.reduceAdd, Int.reduceSub, Int.reduceMul, Int.reduceNeg, Int.reduceEq, Int.reduceLT, Int.reduceLE]; with_reducible rfl) rfl ?_)
        | (with_reducible refine k_condP (by simp only [GA, Nat.reduceEqDiff, ↓reduceIte]; rfl) (by first | (simp only [BO]; rfl) | rfl) (fun ht => ?_) (fun ht => ?_) <;> try (first | exact False.elim ht | exact absurd rfl ht | exact absurd trivial ht | exact Bool.noConfusion ht))
        | (with_reducible refine k_ret ?_; repeat with_reducible (first | refine ret_thru ?_ | refine ret_blk ?_ | refine fin ?_))
        | (with_reducible refine k_exit ?_; repeat with_reducible (first | refine thru ?_ | refine out_blk ?_ | refine pass (by decide) ?_))
        | (refine post1 ?_; simp only [GA, Nat.reduceEqDiff, ↓reduceIte])
        | (refine post2 ?_; simp only [GA, Nat.reduceEqDiff, ↓reduceIte])
        | (refine post3 ?_; simp only [GA, Nat.reduceEqDiff, ↓reduceIte])
        | (refine postc (by simp only [GA, Nat.reduceEqDiff, ↓reduceIte]; rfl) (by simp (disch := omega) only [ilt', c37r0, c37r1, c37r2, c37r3, c37r4, c37r5, c37r6, c37r7, c37r8, c37r9, c37r11, c37r13, c37r14, c37r15, c37r16, c37r17, c37r18, c37r19, c37r20, c37r21, c37r22, c37r23, c37r24, c37r26, c37r28, c37r29, c37r30, c37r31, c37r32, c37r33, c37r34, c37r36, c37r38, c37r39, c37r40, EV0, EV1, EV2, EV3, EV4, EV5, EV6, EV7, EV8, VALS, plug, ite_same, decide_true, decide_false, eq_self, ↓reduceIte, reduceCtorEq, Nat.reduceAdd, Nat.reduceEqDiff, Nat.reduceLT, Nat.reduceLeDiff, Nat.reduceMul, Nat.reduceSub, Nat.reduceDiv, Int.reduceToNat, Int.reduceAdd, Int.reduceSub, Int.reduceMul, Int.reduceNeg, Int.reduceEq, Int.reduceLT, Int.reduceLE]; rfl) ?_)
        | refine post0 ?_
      refine k_blk (k_loopS (X := Nat × List Bool) [0, 1, 7, 8, 9, 10] rows.length (fun i x => [(0, vB l), (1, vR rows), (7, .sl x.1 0 l.length 1), (8, .i .i64 ((fk rows i).length : Int)), (9, .b (empB rows i)), (10, .i .i64 (i : Int))])
        (fun i x h => x.1 ≠ 0 ∧ h.m x.1 = some (.cells true (bl x.2)) ∧ InR l x.2 (fk rows i) ∧ (fk rows i).Nodup) (_, List.replicate l.length false) (by simp only [Am.keep, List.map_cons, List.map_nil, GA, Nat.reduceEqDiff, ↓reduceIte, empB_zero]; try rfl) ⟨?_, by simp (disch := omega) only [bl_rep, c37r0, c37r1, c37r2, c37r3, c37r4, c37r5, c37r6, c37r7, c37r8, c37r9, c37r11, c37r13, c37r14, c37r15, c37r16, c37r17, c37r18, c37r19, c37r20, c37r21, c37r22, c37r23, c37r24, c37r26, c37r28, c37r29, c37r30, c37r31, c37r32, c37r33, c37r34, c37r36, c37r38, c37r39, c37r40, EV0, EV1, EV2, EV3, EV4, EV5, EV6, EV7, EV8, VALS, plug, ite_same, decide_true, decide_false, eq_self, ↓reduceIte, reduceCtorEq, Nat.reduceAdd, Nat.reduceEqDiff, Nat.reduceLT, Nat.reduceLeDiff, Nat.reduceMul, Nat.reduceSub, Nat.reduceDiv, Int.reduceToNat, Int.reduceAdd, Int.reduceSub, Int.reduceMul, Int.reduceNeg, Int.reduceEq, Int.reduceLT, Int.reduceLE] <;> rfl, InR.zero l, by simp [fk]⟩ ?_)
      · simp only [AH.bump_nx]; omega
      rintro i ⟨x, us⟩ h hi ⟨hx, hm, R, nd⟩ ok pos
      simp only at hx hm R nd ⊢
      have hx' := ok.m hm
      by_cases ilt : i < rows.length
      · have ilt' : (i : Int) < rows.length := by omega
        have g := rvI_get ilt
        have ri := hr i ilt
        have es := empB_succ rows i
        have e60 : ((fk rows i).length : Int) ≤ 1000000 := by have := fk_le rows i; omega
        generalize empB rows i = X at es ⊢
        generalize empB rows (i + 1) = Y at es ⊢
        cases X
        · rw [Bool.false_or] at es
          repeat' first
            | with_reducible refine k_seq ?_
            | with_reducible refine k_skip ?_
            | with_reducible refine k_blkS ?_
            | with_reducible refine k_blkR ?_
            | with_reducible refine k_blkC ?_
            | with_reducible refine k_blkH ?_
            | with_reducible refine k_blkB ?_
            | with_reducible refine k_blkK ?_
            | with_reducible refine k_blkE ?_
            | with_reducible refine k_reg ?_
            | with_reducible refine k_head (by with_unfolding_all rfl) ?_
            | with_reducible refine k_headS ?_
            | (with_reducible refine SepK.mk ?_ ?_; (refine sepQ_P ?_; simp [sepQ, sepG, AOp.late, AOp.free, AOp.xs, AOp.isAl, tokNe, AV.tok, stS_get, strip, AX.val, c37r0, c37r1, c37r2, c37r3, c37r4, c37r5, c37r6, c37r7, c37r8, c37r9, c37r11, c37r13, c37r14, c37r15, c37r16, c37r17, c37r18, c37r19, c37r20, c37r21, c37r22, c37r23, c37r24, c37r26, c37r28, c37r29, c37r30, c37r31, c37r32, c37r33, c37r34, c37r36, c37r38, c37r39, c37r40, GA]; try omega))
            | with_reducible refine r_done ?_
            | with_reducible refine hr_done ?_
            | with_reducible refine s_go (by simp (disch := omega) only [ilt', g, ← es, c37r0, c37r1, c37r2, c37r3, c37r4, c37r5, c37r6, c37r7, c37r8, c37r9, c37r11, c37r13, c37r14, c37r15, c37r16, c37r17, c37r18, c37r19, c37r20, c37r21, c37r22, c37r23, c37r24, c37r26, c37r28, c37r29, c37r30, c37r31, c37r32, c37r33, c37r34, c37r36, c37r38, c37r39, c37r40, EV0, EV1, EV2, EV3, EV4, EV5, EV6, EV7, EV8, VALS, plug, ite_same, decide_true, decide_false, eq_self, ↓reduceIte, reduceCtorEq, Nat.reduceAdd, Nat.reduceEqDiff, Nat.reduceLT, Nat.reduceLeDiff, Nat.reduceMul, Nat.reduceSub, Nat.reduceDiv, Int.reduceToNat, Int.reduceAdd, Int.reduceSub, Int.reduceMul, Int.reduceNeg, Int.reduceEq, Int.reduceLT, Int.reduceLE]; with_reducible rfl) ?_
            | with_reducible refine h_go (by with_unfolding_all rfl) (by simp (disch := omega) only [ilt', g, ← es, c37r0, c37r1, c37r2, c37r3, c37r4, c37r5, c37r6, c37r7, c37r8, c37r9, c37r11, c37r13, c37r14, c37r15, c37r16, c37r17, c37r18, c37r19, c37r20, c37r21, c37r22, c37r23, c37r24, c37r26, c37r28, c37r29, c37r30, c37r31, c37r32, c37r33, c37r34, c37r36, c37r38, c37r39, c37r40, EV0, EV1, EV2, EV3, EV4, EV5, EV6, EV7, EV8, VALS, plug, ite_same, decide_true, decide_false, eq_self, ↓reduceIte, reduceCtorEq, Nat.reduceAdd, Nat.reduceEqDiff, Nat.reduceLT, Nat.reduceLeDiff, Nat.reduceMul, Nat.reduceSub, Nat.reduceDiv, Int.reduceToNat, Int.reduceAdd, Int.reduceSub, Int.reduceMul, Int.reduceNeg, Int.reduceEq, Int.reduceLT, Int.reduceLE]; with_reducible rfl) ?_
            | ((with_reducible refine chk_r ?_); refine r_callF (by simp only [CA, Nat.reduceEqDiff, ↓reduceIte]; rfl) (by exact rfl) (by simp only [CA, Nat.reduceEqDiff, ↓reduceIte]; rfl) rfl ?_)
            | ((with_reducible refine chk_h ?_); refine hr_callF (by simp only [CA, Nat.reduceEqDiff, ↓reduceIte]; rfl) (by exact rfl) (by simp only [CA, Nat.reduceEqDiff, ↓reduceIte]; rfl) rfl ?_)
            | ((with_reducible refine chk_h ?_); refine hr_app (by simp (disch := omega) only [ilt', g, ← es, c37r0, c37r1, c37r2, c37r3, c37r4, c37r5, c37r6, c37r7, c37r8, c37r9, c37r11, c37r13, c37r14, c37r15, c37r16, c37r17, c37r18, c37r19, c37r20, c37r21, c37r22, c37r23, c37r24, c37r26, c37r28, c37r29, c37r30, c37r31, c37r32, c37r33, c37r34, c37r36, c37r38, c37r39, c37r40, EV0, EV1, EV2, EV3, EV4, EV5, EV6, EV7, EV8, VALS, plug, ite_same, decide_true, decide_false, eq_self, ↓reduceIte, reduceCtorEq, Nat.reduceAdd, Nat.reduceEqDiff, Nat.reduceLT, Nat.reduceLeDiff, Nat.reduceMul, Nat.reduceSub, Nat.reduceDiv, Int.reduceToNat, Int.reduceAdd, Int.reduceSub, Int.reduceMul, Int.reduceNeg, Int.reduceEq, Int.reduceLT, Int.reduceLE]; with_reducible rfl) rfl ?_)
            | (with_reducible refine k_condP (by simp only [GA, Nat.reduceEqDiff, ↓reduceIte]; rfl) (by first | (simp only [BO]; rfl) | rfl) (fun ht => ?_) (fun ht => ?_) <;> try (first | exact False.elim ht | exact absurd rfl ht | exact absurd trivial ht | exact Bool.noConfusion ht))
            | (with_reducible refine k_ret ?_; repeat with_reducible (first | refine ret_thru ?_ | refine ret_blk ?_ | refine fin ?_))
            | (with_reducible refine k_exit ?_; repeat with_reducible (first | refine thru ?_ | refine out_blk ?_ | refine pass (by decide) ?_))
            | (refine post1 ?_; simp only [GA, Nat.reduceEqDiff, ↓reduceIte])
            | (refine post2 ?_; simp only [GA, Nat.reduceEqDiff, ↓reduceIte])
            | (refine post3 ?_; simp only [GA, Nat.reduceEqDiff, ↓reduceIte])
            | (refine postc (by simp only [GA, Nat.reduceEqDiff, ↓reduceIte]; rfl) (by simp (disch := omega) only [ilt', g, ← es, c37r0, c37r1, c37r2, c37r3, c37r4, c37r5, c37r6, c37r7, c37r8, c37r9, c37r11, c37r13, c37r14, c37r15, c37r16, c37r17, c37r18, c37r19, c37r20, c37r21, c37r22, c37r23, c37r24, c37r26, c37r28, c37r29, c37r30, c37r31, c37r32, c37r33, c37r34, c37r36, c37r38, c37r39, c37r40, EV0, EV1, EV2, EV3, EV4, EV5, EV6, EV7, EV8, VALS, plug, ite_same, decide_true, decide_false, eq_self, ↓reduceIte, reduceCtorEq, Nat.reduceAdd, Nat.reduceEqDiff, Nat.reduceLT, Nat.reduceLeDiff, Nat.reduceMul, Nat.reduceSub, Nat.reduceDiv, Int.reduceToNat, Int.reduceAdd, Int.reduceSub, Int.reduceMul, Int.reduceNeg, Int.reduceEq, Int.reduceLT, Int.reduceLE]; rfl) ?_)
            | refine post0 ?_
          refine k_blk (k_loopS (X := List Bool) [0, 1, 7, 8, 9, 10, 11] (rI rows i).length (fun j us => [(0, vB l), (1, vR rows), (7, .sl x 0 l.length 1), (8, .i .i64 ((fj rows i j).length : Int)), (9, .b Y), (10, .i .i64 (i : Int)), (11, .i .i64 (j : Int))])
            (fun j us h => h.m x = some (.cells true (bl us)) ∧ InR l us (fj rows i j) ∧ (fj rows i j).Nodup) us (by simp only [Am.keep, List.map_cons, List.map_nil, GA, Nat.reduceEqDiff, ↓reduceIte, fj_zero]; try rfl) ⟨by simp (disch := omega) only [hm, c37r0, c37r1, c37r2, c37r3, c37r4, c37r5, c37r6, c37r7, c37r8, c37r9, c37r11, c37r13, c37r14, c37r15, c37r16, c37r17, c37r18, c37r19, c37r20, c37r21, c37r22, c37r23, c37r24, c37r26, c37r28, c37r29, c37r30, c37r31, c37r32, c37r33, c37r34, c37r36, c37r38, c37r39, c37r40, EV0, EV1, EV2, EV3, EV4, EV5, EV6, EV7, EV8, VALS, plug, ite_same, decide_true, decide_false, eq_self, ↓reduceIte, reduceCtorEq, Nat.reduceAdd, Nat.reduceEqDiff, Nat.reduceLT, Nat.reduceLeDiff, Nat.reduceMul, Nat.reduceSub, Nat.reduceDiv, Int.reduceToNat, Int.reduceAdd, Int.reduceSub, Int.reduceMul, Int.reduceNeg, Int.reduceEq, Int.reduceLT, Int.reduceLE], by rw [fj_zero]; exact R, by rw [fj_zero]; exact nd⟩ ?_)
          rintro j us h hj ⟨hm, R, nd⟩ ok pos
          have hx' := ok.m hm
          have ul := R.len
          by_cases jlt : j < (rI rows i).length
          · have jlt' : (j : Int) < (rI rows i).length := by omega
            obtain ⟨a, al2, ea, ga⟩ := ix.at ilt jlt
            have al : a < us.length := by omega
            have ba := bl_get (l := us) (j := a) al
            have fs := fj_succ jlt
            rw [ea] at fs
            obtain ⟨T, eT⟩ := fj_pre ilt (j + 1)
            rw [fs] at eT
            have ec : ((fj rows i j).length : Int) + 1 = ((fj rows i (j + 1)).length : Int) := by rw [fs, List.length_append]; simp
            have e61 : ((fj rows i j).length : Int) ≤ 1000000 := by
              have := congrArg List.length eT
              simp only [List.length_append] at this
              omega
            cases hb : us.getD a false with
            | true =>
              rw [hb] at ba
              rw [ck_two hv ix (nd_pre eT ((R.is a al2).1 hb))]
              repeat' first
                | with_reducible refine k_seq ?_
                | with_reducible refine k_skip ?_
                | with_reducible refine k_blkS ?_
                | with_reducible refine k_blkR ?_
                | with_reducible refine k_blkC ?_
                | with_reducible refine k_blkH ?_
                | with_reducible refine k_blkB ?_
                | with_reducible refine k_blkK ?_
                | with_reducible refine k_blkE ?_
                | with_reducible refine k_reg ?_
                | with_reducible refine k_head (by with_unfolding_all rfl) ?_
                | with_reducible refine k_headS ?_
                | (with_reducible refine SepK.mk ?_ ?_; (refine sepQ_P ?_; simp [sepQ, sepG, AOp.late, AOp.free, AOp.xs, AOp.isAl, tokNe, AV.tok, stS_get, strip, AX.val, c37r0, c37r1, c37r2, c37r3, c37r4, c37r5, c37r6, c37r7, c37r8, c37r9, c37r11, c37r13, c37r14, c37r15, c37r16, c37r17, c37r18, c37r19, c37r20, c37r21, c37r22, c37r23, c37r24, c37r26, c37r28, c37r29, c37r30, c37r31, c37r32, c37r33, c37r34, c37r36, c37r38, c37r39, c37r40, GA]; try omega))
                | with_reducible refine r_done ?_
                | with_reducible refine hr_done ?_
                | with_reducible refine s_go (by simp (disch := omega) only [ilt', g, jlt', ga, hm, row_m hm, read_row (row_m hm), ba, ul, al, al2, c37r0, c37r1, c37r2, c37r3, c37r4, c37r5, c37r6, c37r7, c37r8, c37r9, c37r11, c37r13, c37r14, c37r15, c37r16, c37r17, c37r18, c37r19, c37r20, c37r21, c37r22, c37r23, c37r24, c37r26, c37r28, c37r29, c37r30, c37r31, c37r32, c37r33, c37r34, c37r36, c37r38, c37r39, c37r40, EV0, EV1, EV2, EV3, EV4, EV5, EV6, EV7, EV8, VALS, plug, ite_same, decide_true, decide_false, eq_self, ↓reduceIte, reduceCtorEq, Nat.reduceAdd, Nat.reduceEqDiff, Nat.reduceLT, Nat.reduceLeDiff, Nat.reduceMul, Nat.reduceSub, Nat.reduceDiv, Int.reduceToNat, Int.reduceAdd, Int.reduceSub, Int.reduceMul, Int.reduceNeg, Int.reduceEq, Int.reduceLT, Int.reduceLE]; with_reducible rfl) ?_
                | with_reducible refine h_go (by with_unfolding_all rfl) (by simp (disch := omega) only [ilt', g, jlt', ga, hm, row_m hm, read_row (row_m hm), ba, ul, al, al2, c37r0, c37r1, c37r2, c37r3, c37r4, c37r5, c37r6, c37r7, c37r8, c37r9, c37r11, c37r13, c37r14, c37r15, c37r16, c37r17, c37r18, c37r19, c37r20, c37r21, c37r22, c37r23, c37r24, c37r26, c37r28, c37r29, c37r30, c37r31, c37r32, c37r33, c37r34, c37r36, c37r38, c37r39, c37r40, EV0, EV1, EV2, EV3, EV4, EV5, EV6, EV7, EV8, VALS, plug, ite_same, decide_true, decide_false, eq_self, ↓reduceIte, reduceCtorEq, Nat.reduceAdd, Nat.reduceEqDiff, Nat.reduceLT, Nat.reduceLeDiff, Nat.reduceMul, Nat.reduceSub, Nat.reduceDiv, Int.reduceToNat, Int.reduceAdd, Int.reduceSub, Int.reduceMul, Int.reduceNeg, Int.reduceEq, Int.reduceLT, Int.reduceLE]; with_reducible rfl) ?_
                | ((with_reducible refine chk_r ?_); refine r_callF (by simp only [CA, Nat.reduceEqDiff, ↓reduceIte]; rfl) (by exact rfl) (by simp only [CA, Nat.reduceEqDiff, ↓reduceIte]; rfl) rfl ?_)
                | ((with_reducible refine chk_h ?_); refine hr_callF (by simp only [CA, Nat.reduceEqDiff, ↓reduceIte]; rfl) (by exact rfl) (by simp only [CA, Nat.reduceEqDiff, ↓reduceIte]; rfl) rfl ?_)
                | ((with_reducible refine chk_h ?_); refine hr_app (by simp (disch := omega) only [ilt', g, jlt', ga, hm, row_m hm, read_row (row_m hm), ba, ul, al, al2, c37r0, c37r1, c37r2, c37r3, c37r4, c37r5, c37r6, c37r7, c37r8, c37r9, c37r11, c37r13, c37r14, c37r15, c37r16, c37r17, c37r18, c37r19, c37r20, c37r21, c37r22, c37r23, c37r24, c37r26, c37r28, c37r29, c37r30, c37r31, c37r32, c37r33, c37r34, c37r36, c37r38, c37r39, c37r40, EV0, EV1, EV2, EV3, EV4, EV5, EV6, EV7, EV8, VALS, plug, ite_same, decide_true, decide_false, eq_self, ↓reduceIte, reduceCtorEq, Nat.reduceAdd, Nat.reduceEqDiff, Nat.reduceLT, Nat.reduceLeDiff, Nat.reduceMul, Nat.reduceSub, Nat.reduceDiv, Int.reduceToNat, Int.reduceAdd, Int.reduceSub, Int.reduceMul, Int.reduceNeg, Int.reduceEq, Int.reduceLT, Int.reduceLE]; with_reducible rfl) rfl ?_)
                | (with_reducible refine k_condP (by simp only [GA, Nat.reduceEqDiff, ↓reduceIte]; rfl) (by first | (simp only [BO]; rfl) | rfl) (fun ht => ?_) (fun ht => ?_) <;> try (first | exact False.elim ht | exact absurd rfl ht | exact absurd trivial ht | exact Bool.noConfusion ht))
                | (with_reducible refine k_ret ?_; repeat with_reducible (first | refine ret_thru ?_ | refine ret_blk ?_ | refine fin ?_))
                | (with_reducible refine k_exit ?_; repeat with_reducible (first | refine thru ?_ | refine out_blk ?_ | refine pass (by decide) ?_))
                | (refine post1 ?_; simp only [GA, Nat.reduceEqDiff, ↓reduceIte])
                | (refine post2 ?_; simp only [GA, Nat.reduceEqDiff, ↓reduceIte])
                | (refine post3 ?_; simp only [GA, Nat.reduceEqDiff, ↓reduceIte])
                | (refine postc (by simp only [GA, Nat.reduceEqDiff, ↓reduceIte]; rfl) (by simp (disch := omega) only [ilt', g, jlt', ga, hm, row_m hm, read_row (row_m hm), ba, ul, al, al2, c37r0, c37r1, c37r2, c37r3, c37r4, c37r5, c37r6, c37r7, c37r8, c37r9, c37r11, c37r13, c37r14, c37r15, c37r16, c37r17, c37r18, c37r19, c37r20, c37r21, c37r22, c37r23, c37r24, c37r26, c37r28, c37r29, c37r30, c37r31, c37r32, c37r33, c37r34, c37r36, c37r38, c37r39, c37r40, EV0, EV1, EV2, EV3, EV4, EV5, EV6, EV7, EV8, VALS, plug, ite_same, decide_true, decide_false, eq_self, ↓reduceIte, reduceCtorEq, Nat.reduceAdd, Nat.reduceEqDiff, Nat.reduceLT, Nat.reduceLeDiff, Nat.reduceMul, Nat.reduceSub, Nat.reduceDiv, Int.reduceToNat, Int.reduceAdd, Int.reduceSub, Int.reduceMul, Int.reduceNeg, Int.reduceEq, Int.reduceLT, Int.reduceLE]; rfl) ?_)
                | refine post0 ?_
              all_goals first | exact ends_of | exact ends_eq rfl
            | false =>
              rw [hb] at ba
              have nm : ¬ (a : Int) ∈ fj rows i j := fun q => by rw [(R.is a al2).2 q] at hb; cases hb
              repeat' first
                | with_reducible refine k_seq ?_
                | with_reducible refine k_skip ?_
                | with_reducible refine k_blkS ?_
                | with_reducible refine k_blkR ?_
                | with_reducible refine k_blkC ?_
                | with_reducible refine k_blkH ?_
                | with_reducible refine k_blkB ?_
                | with_reducible refine k_blkK ?_
                | with_reducible refine k_blkE ?_
                | with_reducible refine k_reg ?_
                | with_reducible refine k_head (by with_unfolding_all rfl) ?_
                | with_reducible refine k_headS ?_
                | (with_reducible refine SepK.mk ?_ ?_; (refine sepQ_P ?_; simp [sepQ, sepG, AOp.late, AOp.free, AOp.xs, AOp.isAl, tokNe, AV.tok, stS_get, strip, AX.val, c37r0, c37r1, c37r2, c37r3, c37r4, c37r5, c37r6, c37r7, c37r8, c37r9, c37r11, c37r13, c37r14, c37r15, c37r16, c37r17, c37r18, c37r19, c37r20, c37r21, c37r22, c37r23, c37r24, c37r26, c37r28, c37r29, c37r30, c37r31, c37r32, c37r33, c37r34, c37r36, c37r38, c37r39, c37r40, GA]; try omega))
                | with_reducible refine r_done ?_
                | with_reducible refine hr_done ?_
                | with_reducible refine s_go (by simp (disch := omega) only [ilt', g, jlt', ga, hm, row_m hm, read_row (row_m hm), ba, ul, al, al2, ec, c37r0, c37r1, c37r2, c37r3, c37r4, c37r5, c37r6, c37r7, c37r8, c37r9, c37r11, c37r13, c37r14, c37r15, c37r16, c37r17, c37r18, c37r19, c37r20, c37r21, c37r22, c37r23, c37r24, c37r26, c37r28, c37r29, c37r30, c37r31, c37r32, c37r33, c37r34, c37r36, c37r38, c37r39, c37r40, EV0, EV1, EV2, EV3, EV4, EV5, EV6, EV7, EV8, VALS, plug, ite_same, decide_true, decide_false, eq_self, ↓reduceIte, reduceCtorEq, Nat.reduceAdd, Nat.reduceEqDiff, Nat.reduceLT, Nat.reduceLeDiff, Nat.reduceMul, Nat.reduceSub, Nat.reduceDiv, Int.reduceToNat, Int.reduceAdd, Int.reduceSub, Int.reduceMul, Int.reduceNeg, Int.reduceEq, Int.reduceLT, Int.reduceLE]; with_reducible rfl) ?_
                | with_reducible refine h_go (by with_unfolding_all rfl) (by simp (disch := omega) only [ilt', g, jlt', ga, hm, row_m hm, read_row (row_m hm), ba, ul, al, al2, ec, c37r0, c37r1, c37r2, c37r3, c37r4, c37r5, c37r6, c37r7, c37r8, c37r9, c37r11, c37r13, c37r14, c37r15, c37r16, c37r17, c37r18, c37r19, c37r20, c37r21, c37r22, c37r23, c37r24, c37r26, c37r28, c37r29, c37r30, c37r31, c37r32, c37r33, c37r34, c37r36, c37r38, c37r39, c37r40, EV0, EV1, EV2, EV3, EV4, EV5, EV6, EV7, EV8, VALS, plug, ite_same, decide_true, decide_false, eq_self, ↓reduceIte, reduceCtorEq, Nat.reduceAdd, Nat.reduceEqDiff, Nat.reduceLT, Nat.reduceLeDiff, Nat.reduceMul, Nat.reduceSub, Nat.reduceDiv, Int.reduceToNat, Int.reduceAdd, Int.reduceSub, Int.reduceMul, Int.reduceNeg, Int.reduceEq, Int.reduceLT, Int.reduceLE]; with_reducible rfl) ?_
                | ((with_reducible refine chk_r ?_); refine r_callF (by simp only [CA, Nat.reduceEqDiff, ↓reduceIte]; rfl) (by exact rfl) (by simp only [CA, Nat.reduceEqDiff, ↓reduceIte]; rfl) rfl ?_)
                | ((with_reducible refine chk_h ?_); refine hr_callF (by simp only [CA, Nat.reduceEqDiff, ↓reduceIte]; rfl) (by exact rfl) (by simp only [CA, Nat.reduceEqDiff, ↓reduceIte]; rfl) rfl ?_)
                | ((with_reducible refine chk_h ?_); refine hr_app (by simp (disch := omega) only [ilt', g, jlt', ga, hm, row_m hm, read_row (row_m hm), ba, ul, al, al2, ec, c37r0, c37r1, c37r2, c37r3, c37r4, c37r5, c37r6, c37r7, c37r8, c37r9, c37r11, c37r13, c37r14, c37r15, c37r16, c37r17, c37r18, c37r19, c37r20, c37r21, c37r22, c37r23, c37r24, c37r26, c37r28, c37r29, c37r30, c37r31, c37r32, c37r33, c37r34, c37r36, c37r38, c37r39, c37r40, EV0, EV1, EV2, EV3, EV4, EV5, EV6, EV7, EV8, VALS, plug, ite_same, decide_true, decide_false, eq_self, ↓reduceIte, reduceCtorEq, Nat.reduceAdd, Nat.reduceEqDiff, Nat.reduceLT, Nat.reduceLeDiff, Nat.reduceMul, Nat.reduceSub, Nat.reduceDiv, Int.reduceToNat, Int.reduceAdd, Int.reduceSub, Int.reduceMul, Int.reduceNeg, Int.reduceEq, Int.reduceLT, Int.reduceLE]; with_reducible rfl) rfl ?_)
                | (with_reducible refine k_condP (by simp only [GA, Nat.reduceEqDiff, ↓reduceIte]; rfl) (by first | (simp only [BO]; rfl) | rfl) (fun ht => ?_) (fun ht => ?_) <;> try (first | exact False.elim ht | exact absurd rfl ht | exact absurd trivial ht | exact Bool.noConfusion ht))
                | (with_reducible refine k_ret ?_; repeat with_reducible (first | refine ret_thru ?_ | refine ret_blk ?_ | refine fin ?_))
                | (with_reducible refine k_exit ?_; repeat with_reducible (first | refine thru ?_ | refine out_blk ?_ | refine pass (by decide) ?_))
                | (refine post1 ?_; simp only [GA, Nat.reduceEqDiff, ↓reduceIte])
                | (refine post2 ?_; simp only [GA, Nat.reduceEqDiff, ↓reduceIte])
                | (refine post3 ?_; simp only [GA, Nat.reduceEqDiff, ↓reduceIte])
                | (refine postc (by simp only [GA, Nat.reduceEqDiff, ↓reduceIte]; rfl) (by simp (disch := omega) only [ilt', g, jlt', ga, hm, row_m hm, read_row (row_m hm), ba, ul, al, al2, ec, c37r0, c37r1, c37r2, c37r3, c37r4, c37r5, c37r6, c37r7, c37r8, c37r9, c37r11, c37r13, c37r14, c37r15, c37r16, c37r17, c37r18, c37r19, c37r20, c37r21, c37r22, c37r23, c37r24, c37r26, c37r28, c37r29, c37r30, c37r31, c37r32, c37r33, c37r34, c37r36, c37r38, c37r39, c37r40, EV0, EV1, EV2, EV3, EV4, EV5, EV6, EV7, EV8, VALS, plug, ite_same, decide_true, decide_false, eq_self, ↓reduceIte, reduceCtorEq, Nat.reduceAdd, Nat.reduceEqDiff, Nat.reduceLT, Nat.reduceLeDiff, Nat.reduceMul, Nat.reduceSub, Nat.reduceDiv, Int.reduceToNat, Int.reduceAdd, Int.reduceSub, Int.reduceMul, Int.reduceNeg, Int.reduceEq, Int.reduceLT, Int.reduceLE]; rfl) ?_)
                | refine post0 ?_
              exact ⟨jlt, us.set a true, (by simp only [Am.keep, List.map_cons, List.map_nil, GA, Nat.reduceEqDiff, ↓reduceIte]; try rfl), by simp (disch := omega) only [hm, c37r0, c37r1, c37r2, c37r3, c37r4, c37r5, c37r6, c37r7, c37r8, c37r9, c37r11, c37r13, c37r14, c37r15, c37r16, c37r17, c37r18, c37r19, c37r20, c37r21, c37r22, c37r23, c37r24, c37r26, c37r28, c37r29, c37r30, c37r31, c37r32, c37r33, c37r34, c37r36, c37r38, c37r39, c37r40, EV0, EV1, EV2, EV3, EV4, EV5, EV6, EV7, EV8, VALS, plug, ite_same, decide_true, decide_false, eq_self, ↓reduceIte, reduceCtorEq, Nat.reduceAdd, Nat.reduceEqDiff, Nat.reduceLT, Nat.reduceLeDiff, Nat.reduceMul, Nat.reduceSub, Nat.reduceDiv, Int.reduceToNat, Int.reduceAdd, Int.reduceSub, Int.reduceMul, Int.reduceNeg, Int.reduceEq, Int.reduceLT, Int.reduceLE] <;> rfl, by rw [fs]; exact R.step al2, by rw [fs]; exact nd_snoc nd nm⟩
          · obtain rfl : j = (rI rows i).length := by omega
            have jlt' : ¬ ((rI rows i).length : Int) < (rI rows i).length := by omega
            rw [fj_row ilt] at R nd ⊢
            repeat' first
              | with_reducible refine k_seq ?_
              | with_reducible refine k_skip ?_
              | with_reducible refine k_blkS ?_
              | with_reducible refine k_blkR ?_
              | with_reducible refine k_blkC ?_
              | with_reducible refine k_blkH ?_
              | with_reducible refine k_blkB ?_
              | with_reducible refine k_blkK ?_
              | with_reducible refine k_blkE ?_
              | with_reducible refine k_reg ?_
              | with_reducible refine k_head (by with_unfolding_all rfl) ?_
              | with_reducible refine k_headS ?_
              | (with_reducible refine SepK.mk ?_ ?_; (refine sepQ_P ?_; simp [sepQ, sepG, AOp.late, AOp.free, AOp.xs, AOp.isAl, tokNe, AV.tok, stS_get, strip, AX.val, c37r0, c37r1, c37r2, c37r3, c37r4, c37r5, c37r6, c37r7, c37r8, c37r9, c37r11, c37r13, c37r14, c37r15, c37r16, c37r17, c37r18, c37r19, c37r20, c37r21, c37r22, c37r23, c37r24, c37r26, c37r28, c37r29, c37r30, c37r31, c37r32, c37r33, c37r34, c37r36, c37r38, c37r39, c37r40, GA]; try omega))
              | with_reducible refine r_done ?_
              | with_reducible refine hr_done ?_
              | with_reducible refine s_go (by simp (disch := omega) only [ilt', g, jlt', c37r0, c37r1, c37r2, c37r3, c37r4, c37r5, c37r6, c37r7, c37r8, c37r9, c37r11, c37r13, c37r14, c37r15, c37r16, c37r17, c37r18, c37r19, c37r20, c37r21, c37r22, c37r23, c37r24, c37r26, c37r28, c37r29, c37r30, c37r31, c37r32, c37r33, c37r34, c37r36, c37r38, c37r39, c37r40, EV0, EV1, EV2, EV3, EV4, EV5, EV6, EV7, EV8, VALS, plug, ite_same, decide_true, decide_false, eq_self, ↓reduceIte, reduceCtorEq, Nat.reduceAdd, Nat.reduceEqDiff, Nat.reduceLT, Nat.reduceLeDiff, Nat.reduceMul, Nat.reduceSub, Nat.reduceDiv, Int.reduceToNat, Int.reduceAdd, Int.reduceSub, Int.reduceMul, Int.reduceNeg, Int.reduceEq, Int.reduceLT, Int.reduceLE]; with_reducible rfl) ?_
              | with_reducible refine h_go (by with_unfolding_all rfl) (by simp (disch := omega) only [ilt', g, jlt', c37r0, c37r1, c37r2, c37r3, c37r4, c37r5, c37r6, c37r7, c37r8, c37r9, c37r11, c37r13, c37r14, c37r15, c37r16, c37r17, c37r18, c37r19, c37r20, c37r21, c37r22, c37r23, c37r24, c37r26, c37r28, c37r29, c37r30, c37r31, c37r32, c37r33, c37r34, c37r36, c37r38, c37r39, c37r40, EV0, EV1, EV2, EV3, EV4, EV5, EV6, EV7, EV8, VALS, plug, ite_same, decide_true, decide_false, eq_self, ↓reduceIte, reduceCtorEq, Nat.reduceAdd, Nat.reduceEqDiff, Nat.reduceLT, Nat.reduceLeDiff, Nat.reduceMul, Nat.reduceSub, Nat.reduceDiv, Int.reduceToNat, Int.reduceAdd, Int.reduceSub, Int.reduceMul, Int.reduceNeg, Int.reduceEq, Int.reduceLT, Int.reduceLE]; with_reducible rfl) ?_
              | ((with_reducible refine chk_r ?_); refine r_callF (by simp only [CA, Nat.reduceEqDiff, ↓reduceIte]; rfl) (by exact rfl) (by simp only [CA, Nat.reduceEqDiff, ↓reduceIte]; rfl) rfl ?_)
              | ((with_reducible refine chk_h ?_); refine hr_callF (by simp only [CA, Nat.reduceEqDiff, ↓reduceIte]; rfl) (by exact rfl) (by simp only [CA, Nat.reduceEqDiff, ↓reduceIte]; rfl) rfl ?_)
              | ((with_reducible refine chk_h ?_); refine hr_app (by simp (disch := omega) only [ilt', g, jlt', c37r0, c37r1, c37r2, c37r3, c37r4, c37r5, c37r6, c37r7, c37r8, c37r9, c37r11, c37r13, c37r14, c37r15, c37r16, c37r17, c37r18, c37r19, c37r20, c37r21, c37r22, c37r23, c37r24, c37r26, c37r28, c37r29, c37r30, c37r31, c37r32, c37r33, c37r34, c37r36, c37r38, c37r39, c37r40, EV0, EV1, EV2, EV3, EV4, EV5, EV6, EV7, EV8, VALS, plug, ite_same, decide_true, decide_false, eq_self, ↓reduceIte, reduceCtorEq, Nat.reduceAdd, Nat.reduceEqDiff, Nat.reduceLT, Nat.reduceLeDiff, Nat.reduceMul, Nat.reduceSub, Nat.reduceDiv, Int.reduceToNat, Int.reduceAdd, Int.reduceSub, Int.reduceMul, Int.reduceNeg, Int.reduceEq, Int.reduceLT, Int.reduceLE]; with_reducible rfl) rfl ?_)
              | (with_reducible refine k_condP (by simp only [GA, Nat.reduceEqDiff, ↓reduceIte]; rfl) (by first | (simp only [BO]; rfl) | rfl) (fun ht => ?_) (fun ht => ?_) <;> try (first | exact False.elim ht | exact absurd rfl ht | exact absurd trivial ht | exact Bool.noConfusion ht))
              | (with_reducible refine k_ret ?_; repeat with_reducible (first | refine ret_thru ?_ | refine ret_blk ?_ | refine fin ?_))
              | (with_reducible refine k_exit ?_; repeat with_reducible (first | refine thru ?_ | refine out_blk ?_ | refine pass (by decide) ?_))
              | (refine post1 ?_; simp only [GA, Nat.reduceEqDiff, ↓reduceIte])
              | (refine post2 ?_; simp only [GA, Nat.reduceEqDiff, ↓reduceIte])
              | (refine post3 ?_; simp only [GA, Nat.reduceEqDiff, ↓reduceIte])
              | (refine postc (by simp only [GA, Nat.reduceEqDiff, ↓reduceIte]; rfl) (by simp (disch := omega) only [ilt', g, jlt', c37r0, c37r1, c37r2, c37r3, c37r4, c37r5, c37r6, c37r7, c37r8, c37r9, c37r11, c37r13, c37r14, c37r15, c37r16, c37r17, c37r18, c37r19, c37r20, c37r21, c37r22, c37r23, c37r24, c37r26, c37r28, c37r29, c37r30, c37r31, c37r32, c37r33, c37r34, c37r36, c37r38, c37r39, c37r40, EV0, EV1, EV2, EV3, EV4, EV5, EV6, EV7, EV8, VALS, plug, ite_same, decide_true, decide_false, eq_self, ↓reduceIte, reduceCtorEq, Nat.reduceAdd, Nat.reduceEqDiff, Nat.reduceLT, Nat.reduceLeDiff, Nat.reduceMul, Nat.reduceSub, Nat.reduceDiv, Int.reduceToNat, Int.reduceAdd, Int.reduceSub, Int.reduceMul, Int.reduceNeg, Int.reduceEq, Int.reduceLT, Int.reduceLE]; rfl) ?_)
              | refine post0 ?_
            exact ⟨ilt, ⟨x, us⟩, (by simp only [Am.keep, List.map_cons, List.map_nil, GA, Nat.reduceEqDiff, ↓reduceIte]; try rfl), hx, by simp (disch := omega) only [hm, c37r0, c37r1, c37r2, c37r3, c37r4, c37r5, c37r6, c37r7, c37r8, c37r9, c37r11, c37r13, c37r14, c37r15, c37r16, c37r17, c37r18, c37r19, c37r20, c37r21, c37r22, c37r23, c37r24, c37r26, c37r28, c37r29, c37r30, c37r31, c37r32, c37r33, c37r34, c37r36, c37r38, c37r39, c37r40, EV0, EV1, EV2, EV3, EV4, EV5, EV6, EV7, EV8, VALS, plug, ite_same, decide_true, decide_false, eq_self, ↓reduceIte, reduceCtorEq, Nat.reduceAdd, Nat.reduceEqDiff, Nat.reduceLT, Nat.reduceLeDiff, Nat.reduceMul, Nat.reduceSub, Nat.reduceDiv, Int.reduceToNat, Int.reduceAdd, Int.reduceSub, Int.reduceMul, Int.reduceNeg, Int.reduceEq, Int.reduceLT, Int.reduceLE], R, nd⟩
        · rw [Bool.true_or] at es
          subst es
          repeat' first
            | with_reducible refine k_seq ?_
            | with_reducible refine k_skip ?_
            | with_reducible refine k_blkS ?_
            | with_reducible refine k_blkR ?_
            | with_reducible refine k_blkC ?_
            | with_reducible refine k_blkH ?_
            | with_reducible refine k_blkB ?_
            | with_reducible refine k_blkK ?_
            | with_reducible refine k_blkE ?_
            | with_reducible refine k_reg ?_
            | with_reducible refine k_head (by with_unfolding_all rfl) ?_
            | with_reducible refine k_headS ?_
            | (with_reducible refine SepK.mk ?_ ?_; (refine sepQ_P ?_; simp [sepQ, sepG, AOp.late, AOp.free, AOp.xs, AOp.isAl, tokNe, AV.tok, stS_get, strip, AX.val, c37r0, c37r1, c37r2, c37r3, c37r4, c37r5, c37r6, c37r7, c37r8, c37r9, c37r11, c37r13, c37r14, c37r15, c37r16, c37r17, c37r18, c37r19, c37r20, c37r21, c37r22, c37r23, c37r24, c37r26, c37r28, c37r29, c37r30, c37r31, c37r32, c37r33, c37r34, c37r36, c37r38, c37r39, c37r40, GA]; try omega))
            | with_reducible refine r_done ?_
            | with_reducible refine hr_done ?_
            | with_reducible refine s_go (by simp (disch := omega) only [ilt', g, c37r0, c37r1, c37r2, c37r3, c37r4, c37r5, c37r6, c37r7, c37r8, c37r9, c37r11, c37r13, c37r14, c37r15, c37r16, c37r17, c37r18, c37r19, c37r20, c37r21, c37r22, c37r23, c37r24, c37r26, c37r28, c37r29, c37r30, c37r31, c37r32, c37r33, c37r34, c37r36, c37r38, c37r39, c37r40, EV0, EV1, EV2, EV3, EV4, EV5, EV6, EV7, EV8, VALS, plug, ite_same, decide_true, decide_false, eq_self, ↓reduceIte, reduceCtorEq, Nat.reduceAdd, Nat.reduceEqDiff, Nat.reduceLT, Nat.reduceLeDiff, Nat.reduceMul, Nat.reduceSub, Nat.reduceDiv, Int.reduceToNat, Int.reduceAdd, Int.reduceSub, Int.reduceMul, Int.reduceNeg, Int.reduceEq, Int.reduceLT, Int.reduceLE]; with_reducible rfl) ?_
            | with_reducible refine h_go (by with_unfolding_all rfl) (by simp (disch := omega) only [ilt', g, c37r0, c37r1, c37r2, c37r3, c37r4, c37r5, c37r6, c37r7, c37r8, c37r9, c37r11, c37r13, c37r14, c37r15, c37r16, c37r17, c37r18, c37r19, c37r20, c37r21, c37r22, c37r23, c37r24, c37r26, c37r28, c37r29, c37r30, c37r31, c37r32, c37r33, c37r34, c37r36, c37r38, c37r39, c37r40, EV0, EV1, EV2, EV3, EV4, EV5, EV6, EV7, EV8, VALS, plug, ite_same, decide_true, decide_false, eq_self, ↓reduceIte, reduceCtorEq, Nat.reduceAdd, Nat.reduceEqDiff, Nat.reduceLT, Nat.reduceLeDiff, Nat.reduceMul, Nat.reduceSub, Nat.reduceDiv, Int.reduceToNat, Int.reduceAdd, Int.reduceSub, Int.reduceMul, Int.reduceNeg, Int.reduceEq, Int.reduceLT, Int.reduceLE]; with_reducible rfl) ?_
            | ((with_reducible refine chk_r ?_); refine r_callF (by simp only [CA, Nat.reduceEqDiff, ↓reduceIte]; rfl) (by exact rfl) (by simp only [CA, Nat.reduceEqDiff, ↓reduceIte]; rfl) rfl ?_)
            | ((with_reducible refine chk_h ?_); refine hr_callF (by simp only [CA, Nat.reduceEqDiff, ↓reduceIte]; rfl) (by exact rfl) (by simp only [CA, Nat.reduceEqDiff, ↓reduceIte]; rfl) rfl ?_)
            | ((with_reducible refine chk_h ?_); refine hr_app (by simp (disch := omega) only [ilt', g, c37r0, c37r1, c37r2, c37r3, c37r4, c37r5, c37r6, c37r7, c37r8, c37r9, c37r11, c37r13, c37r14, c37r15, c37r16, c37r17, c37r18, c37r19, c37r20, c37r21, c37r22, c37r23, c37r24, c37r26, c37r28, c37r29, c37r30, c37r31, c37r32, c37r33, c37r34, c37r36, c37r38, c37r39, c37r40, EV0, EV1, EV2, EV3, EV4, EV5, EV6, EV7, EV8, VALS, plug, ite_same, decide_true, decide_false, eq_self, ↓reduceIte, reduceCtorEq, Nat.reduceAdd, Nat.reduceEqDiff, Nat.reduceLT, Nat.reduceLeDiff, Nat.reduceMul, Nat.reduceSub, Nat.reduceDiv, Int.reduceToNat, Int.reduceAdd, Int.reduceSub, Int.reduceMul, Int.reduceNeg, Int.reduceEq, Int.reduceLT, Int.reduceLE]; with_reducible rfl) rfl ?_)
            | (with_reducible refine k_condP (by simp only [GA, Nat.reduceEqDiff, ↓reduceIte]; rfl) (by first | (simp only [BO]; rfl) | rfl) (fun ht => ?_) (fun ht => ?_) <;> try (first | exact False.elim ht | exact absurd rfl ht | exact absurd trivial ht | exact Bool.noConfusion ht))
            | (with_reducible refine k_ret ?_; repeat with_reducible (first | refine ret_thru ?_ | refine ret_blk ?_ | refine fin ?_))
            | (with_reducible refine k_exit ?_; repeat with_reducible (first | refine thru ?_ | refine out_blk ?_ | refine pass (by decide) ?_))
            | (refine post1 ?_; simp only [GA, Nat.reduceEqDiff, ↓reduceIte])
            | (refine post2 ?_; simp only [GA, Nat.reduceEqDiff, ↓reduceIte])
            | (refine post3 ?_; simp only [GA, Nat.reduceEqDiff, ↓reduceIte])
            | (refine postc (by simp only [GA, Nat.reduceEqDiff, ↓reduceIte]; rfl) (by simp (disch := omega) only [ilt', g, c37r0, c37r1, c37r2, c37r3, c37r4, c37r5, c37r6, c37r7, c37r8, c37r9, c37r11, c37r13, c37r14, c37r15, c37r16, c37r17, c37r18, c37r19, c37r20, c37r21, c37r22, c37r23, c37r24, c37r26, c37r28, c37r29, c37r30, c37r31, c37r32, c37r33, c37r34, c37r36, c37r38, c37r39, c37r40, EV0, EV1, EV2, EV3, EV4, EV5, EV6, EV7, EV8, VALS, plug, ite_same, decide_true, decide_false, eq_self, ↓reduceIte, reduceCtorEq, Nat.reduceAdd, Nat.reduceEqDiff, Nat.reduceLT, Nat.reduceLeDiff, Nat.reduceMul, Nat.reduceSub, Nat.reduceDiv, Int.reduceToNat, Int.reduceAdd, Int.reduceSub, Int.reduceMul, Int.reduceNeg, Int.reduceEq, Int.reduceLT, Int.reduceLE]; rfl) ?_)
            | refine post0 ?_
          refine k_blk (k_loopS (X := List Bool) [0, 1, 7, 8, 9, 10, 11] (rI rows i).length (fun j us => [(0, vB l), (1, vR rows), (7, .sl x 0 l.length 1), (8, .i .i64 ((fj rows i j).length : Int)), (9, .b true), (10, .i .i64 (i : Int)), (11, .i .i64 (j : Int))])
            (fun j us h => h.m x = some (.cells true (bl us)) ∧ InR l us (fj rows i j) ∧ (fj rows i j).Nodup) us (by simp only [Am.keep, List.map_cons, List.map_nil, GA, Nat.reduceEqDiff, ↓reduceIte, fj_zero]; try rfl) ⟨by simp (disch := omega) only [hm, c37r0, c37r1, c37r2, c37r3, c37r4, c37r5, c37r6, c37r7, c37r8, c37r9, c37r11, c37r13, c37r14, c37r15, c37r16, c37r17, c37r18, c37r19, c37r20, c37r21, c37r22, c37r23, c37r24, c37r26, c37r28, c37r29, c37r30, c37r31, c37r32, c37r33, c37r34, c37r36, c37r38, c37r39, c37r40, EV0, EV1, EV2, EV3, EV4, EV5, EV6, EV7, EV8, VALS, plug, ite_same, decide_true, decide_false, eq_self, ↓reduceIte, reduceCtorEq, Nat.reduceAdd, Nat.reduceEqDiff, Nat.reduceLT, Nat.reduceLeDiff, Nat.reduceMul, Nat.reduceSub, Nat.reduceDiv, Int.reduceToNat, Int.reduceAdd, Int.reduceSub, Int.reduceMul, Int.reduceNeg, Int.reduceEq, Int.reduceLT, Int.reduceLE], by rw [fj_zero]; exact R, by rw [fj_zero]; exact nd⟩ ?_)
          rintro j us h hj ⟨hm, R, nd⟩ ok pos
          have hx' := ok.m hm
          have ul := R.len
          by_cases jlt : j < (rI rows i).length
          · have jlt' : (j : Int) < (rI rows i).length := by omega
            obtain ⟨a, al2, ea, ga⟩ := ix.at ilt jlt
            have al : a < us.length := by omega
            have ba := bl_get (l := us) (j := a) al
            have fs := fj_succ jlt
            rw [ea] at fs
            obtain ⟨T, eT⟩ := fj_pre ilt (j + 1)
            rw [fs] at eT
            have ec : ((fj rows i j).length : Int) + 1 = ((fj rows i (j + 1)).length : Int) := by rw [fs, List.length_append]; simp
            have e61 : ((fj rows i j).length : Int) ≤ 1000000 := by
              have := congrArg List.length eT
              simp only [List.length_append] at this
              omega
            cases hb : us.getD a false with
            | true =>
              rw [hb] at ba
              rw [ck_two hv ix (nd_pre eT ((R.is a al2).1 hb))]
              repeat' first
                | with_reducible refine k_seq ?_
                | with_reducible refine k_skip ?_
                | with_reducible refine k_blkS ?_
                | with_reducible refine k_blkR ?_
                | with_reducible refine k_blkC ?_
                | with_reducible refine k_blkH ?_
                | with_reducible refine k_blkB ?_
                | with_reducible refine k_blkK ?_
                | with_reducible refine k_blkE ?_
                | with_reducible refine k_reg ?_
                | with_reducible refine k_head (by with_unfolding_all rfl) ?_
                | with_reducible refine k_headS ?_
                | (with_reducible refine SepK.mk ?_ ?_; (refine sepQ_P ?_; simp [sepQ, sepG, AOp.late, AOp.free, AOp.xs, AOp.isAl, tokNe, AV.tok, stS_get, strip, AX.val, c37r0, c37r1, c37r2, c37r3, c37r4, c37r5, c37r6, c37r7, c37r8, c37r9, c37r11, c37r13, c37r14, c37r15, c37r16, c37r17, c37r18, c37r19, c37r20, c37r21, c37r22, c37r23, c37r24, c37r26, c37r28, c37r29, c37r30, c37r31, c37r32, c37r33, c37r34, c37r36, c37r38, c37r39, c37r40, GA]; try omega))
                | with_reducible refine r_done ?_
                | with_reducible refine hr_done ?_
                | with_reducible refine s_go (by simp (disch := omega) only [ilt', g, jlt', ga, hm, row_m hm, read_row (row_m hm), ba, ul, al, al2, c37r0, c37r1, c37r2, c37r3, c37r4, c37r5, c37r6, c37r7, c37r8, c37r9, c37r11, c37r13, c37r14, c37r15, c37r16, c37r17, c37r18, c37r19, c37r20, c37r21, c37r22, c37r23, c37r24, c37r26, c37r28, c37r29, c37r30, c37r31, c37r32, c37r33, c37r34, c37r36, c37r38, c37r39, c37r40, EV0, EV1, EV2, EV3, EV4, EV5, EV6, EV7, EV8, VALS, plug, ite_same, decide_true, decide_false, eq_self, ↓reduceIte, reduceCtorEq, Nat.reduceAdd, Nat.reduceEqDiff, Nat.reduceLT, Nat.reduceLeDiff, Nat.reduceMul, Nat.reduceSub, Nat.reduceDiv, Int.reduceToNat, Int.reduceAdd, Int.reduceSub, Int.reduceMul, Int.reduceNeg, Int.reduceEq, Int.reduceLT, Int.reduceLE]; with_reducible rfl) ?_
                | with_reducible refine h_go (by with_unfolding_all rfl) (by simp (disch := omega) only [ilt', g, jlt', ga, hm, row_m hm, read_row (row_m hm), ba, ul, al, al2, c37r0, c37r1, c37r2, c37r3, c37r4, c37r5, c37r6, c37r7, c37r8, c37r9, c37r11, c37r13, c37r14, c37r15, c37r16, c37r17, c37r18, c37r19, c37r20, c37r21, c37r22, c37r23, c37r24, c37r26, c37r28, c37r29, c37r30, c37r31, c37r32, c37r33, c37r34, c37r36, c37r38, c37r39, c37r40, EV0, EV1, EV2, EV3, EV4, EV5, EV6, EV7, EV8, VALS, plug, ite_same, decide_true, decide_false, eq_self, ↓reduceIte, reduceCtorEq, Nat.reduceAdd, Nat.reduceEqDiff, Nat.reduceLT, Nat.reduceLeDiff, Nat.reduceMul, Nat.reduceSub, Nat.reduceDiv, Int.reduceToNat, Int.reduceAdd, Int.reduceSub, Int.reduceMul, Int.reduceNeg, Int.reduceEq, Int.reduceLT, Int.reduceLE]; with_reducible rfl) ?_
                | ((with_reducible refine chk_r ?_); refine r_callF (by simp only [CA, Nat.reduceEqDiff, ↓reduceIte]; rfl) (by exact rfl) (by simp only [CA, Nat.reduceEqDiff, ↓reduceIte]; rfl) rfl ?_)
                | ((with_reducible refine chk_h ?_); refine hr_callF (by simp only [CA, Nat.reduceEqDiff, ↓reduceIte]; rfl) (by exact rfl) (by simp only [CA, Nat.reduceEqDiff, ↓reduceIte]; rfl) rfl ?_)
                | ((with_reducible refine chk_h ?_); refine hr_app (by simp (disch := omega) only [ilt', g, jlt', ga, hm, row_m hm, read_row (row_m hm), ba, ul, al, al2, c37r0, c37r1, c37r2, c37r3, c37r4, c37r5, c37r6, c37r7, c37r8, c37r9, c37r11, c37r13, c37r14, c37r15, c37r16, c37r17, c37r18, c37r19, c37r20, c37r21, c37r22, c37r23, c37r24, c37r26, c37r28, c37r29, c37r30, c37r31, c37r32, c37r33, c37r34, c37r36, c37r38, c37r39, c37r40, EV0, EV1, EV2, EV3, EV4, EV5, EV6, EV7, EV8, VALS, plug, ite_same, decide_true, decide_false, eq_self, ↓reduceIte, reduceCtorEq, Nat.reduceAdd, Nat.reduceEqDiff, Nat.reduceLT, Nat.reduceLeDiff, Nat.reduceMul, Nat.reduceSub, Nat.reduceDiv, Int.reduceToNat, Int.reduceAdd, Int.reduceSub, Int.reduceMul, Int.reduceNeg, Int.reduceEq, Int.reduceLT, Int.reduceLE]; with_reducible rfl) rfl ?_)
                | (with_reducible refine k_condP (by simp only [GA, Nat.reduceEqDiff, ↓reduceIte]; rfl) (by first | (simp only [BO]; rfl) | rfl) (fun ht => ?_) (fun ht => ?_) <;> try (first | exact False.elim ht | exact absurd rfl ht | exact absurd trivial ht | exact Bool.noConfusion ht))
                | (with_reducible refine k_ret ?_; repeat with_reducible (first | refine ret_thru ?_ | refine ret_blk ?_ | refine fin ?_))
                | (with_reducible refine k_exit ?_; repeat with_reducible (first | refine thru ?_ | refine out_blk ?_ | refine pass (by decide) ?_))
                | (refine post1 ?_; simp only [GA, Nat.reduceEqDiff, ↓reduceIte])
                | (refine post2 ?_; simp only [GA, Nat.reduceEqDiff, ↓reduceIte])
                | (refine post3 ?_; simp only [GA, Nat.reduceEqDiff, ↓reduceIte])
                | (refine postc (by simp only [GA, Nat.reduceEqDiff, ↓reduceIte]; rfl) (by simp (disch := omega) only [ilt', g, jlt', ga, hm, row_m hm, read_row (row_m hm), ba, ul, al, al2, c37r0, c37r1, c37r2, c37r3, c37r4, c37r5, c37r6, c37r7, c37r8, c37r9, c37r11, c37r13, c37r14, c37r15, c37r16, c37r17, c37r18, c37r19, c37r20, c37r21, c37r22, c37r23, c37r24, c37r26, c37r28, c37r29, c37r30, c37r31, c37r32, c37r33, c37r34, c37r36, c37r38, c37r39, c37r40, EV0, EV1, EV2, EV3, EV4, EV5, EV6, EV7, EV8, VALS, plug, ite_same, decide_true, decide_false, eq_self, ↓reduceIte, reduceCtorEq, Nat.reduceAdd, Nat.reduceEqDiff, Nat.reduceLT, Nat.reduceLeDiff, Nat.reduceMul, Nat.reduceSub, Nat.reduceDiv, Int.reduceToNat, Int.reduceAdd, Int.reduceSub, Int.reduceMul, Int.reduceNeg, Int.reduceEq, Int.reduceLT, Int.reduceLE]; rfl) ?_)
                | refine post0 ?_
              all_goals first | exact ends_of | exact ends_eq rfl
            | false =>
              rw [hb] at ba
              have nm : ¬ (a : Int) ∈ fj rows i j := fun q => by rw [(R.is a al2).2 q] at hb; cases hb
              repeat' first
                | with_reducible refine k_seq ?_
                | with_reducible refine k_skip ?_
                | with_reducible refine k_blkS ?_
                | with_reducible refine k_blkR ?_
                | with_reducible refine k_blkC ?_
                | with_reducible refine k_blkH ?_
                | with_reducible refine k_blkB ?_
                | with_reducible refine k_blkK ?_
                | with_reducible refine k_blkE ?_
                | with_reducible refine k_reg ?_
                | with_reducible refine k_head (by with_unfolding_all rfl) ?_
                | with_reducible refine k_headS ?_
                | (with_reducible refine SepK.mk ?_ ?_; (refine sepQ_P ?_; simp [sepQ, sepG, AOp.late, AOp.free, AOp.xs, AOp.isAl, tokNe, AV.tok, stS_get, strip, AX.val, c37r0, c37r1, c37r2, c37r3, c37r4, c37r5, c37r6, c37r7, c37r8, c37r9, c37r11, c37r13, c37r14, c37r15, c37r16, c37r17, c37r18, c37r19, c37r20, c37r21, c37r22, c37r23, c37r24, c37r26, c37r28, c37r29, c37r30, c37r31, c37r32, c37r33, c37r34, c37r36, c37r38, c37r39, c37r40, GA]; try omega))
                | with_reducible refine r_done ?_
                | with_reducible refine hr_done ?_
                | with_reducible refine s_go (by simp (disch := omega) only [ilt', g, jlt', ga, hm, row_m hm, read_row (row_m hm), ba, ul, al, al2, ec, c37r0, c37r1, c37r2, c37r3, c37r4, c37r5, c37r6, c37r7, c37r8, c37r9, c37r11, c37r13, c37r14, c37r15, c37r16, c37r17, c37r18, c37r19, c37r20, c37r21, c37r22, c37r23, c37r24, c37r26, c37r28, c37r29, c37r30, c37r31, c37r32, c37r33, c37r34, c37r36, c37r38, c37r39, c37r40, EV0, EV1, EV2, EV3, EV4, EV5, EV6, EV7, EV8, VALS, plug, ite_same, decide_true, decide_false, eq_self, ↓reduceIte, reduceCtorEq, Nat.reduceAdd, Nat.reduceEqDiff, Nat.reduceLT, Nat.reduceLeDiff, Nat.reduceMul, Nat.reduceSub, Nat.reduceDiv, Int.reduceToNat, Int.reduceAdd, Int.reduceSub, Int.reduceMul, Int.reduceNeg, Int.reduceEq, Int.reduceLT, Int.reduceLE]; with_reducible rfl) ?_
                | with_reducible refine h_go (by with_unfolding_all rfl) (by simp (disch := omega) only [ilt', g, jlt', ga, hm, row_m hm, read_row (row_m hm), ba, ul, al, al2, ec, c37r0, c37r1, c37r2, c37r3, c37r4, c37r5, c37r6, c37r7, c37r8, c37r9, c37r11, c37r13, c37r14, c37r15, c37r16, c37r17, c37r18, c37r19, c37r20, c37r21, c37r22, c37r23, c37r24, c37r26, c37r28, c37r29, c37r30, c37r31, c37r32, c37r33, c37r34, c37r36, c37r38, c37r39, c37r40, EV0, EV1, EV2, EV3, EV4, EV5, EV6, EV7, EV8, VALS, plug, ite_same, decide_true, decide_false, eq_self, ↓reduceIte, reduceCtorEq, Nat.reduceAdd, Nat.reduceEqDiff, Nat.reduceLT, Nat.reduceLeDiff, Nat.reduceMul, Nat.reduceSub, Nat.reduceDiv, Int.reduceToNat, Int.reduceAdd, Int.reduceSub, Int.reduceMul, Int.reduceNeg, Int.reduceEq, Int.reduceLT, Int.reduceLE]; with_reducible rfl) ?_
                | ((with_reducible refine chk_r ?_); refine r_callF (by simp only [CA, Nat.reduceEqDiff, ↓reduceIte]; rfl) (by exact rfl) (by simp only [CA, Nat.reduceEqDiff, ↓reduceIte]; rfl) rfl ?_)
                | ((with_reducible refine chk_h ?_); refine hr_callF (by simp only [CA, Nat.reduceEqDiff, ↓reduceIte]; rfl) (by exact rfl) (by simp only [CA, Nat.reduceEqDiff, ↓reduceIte]; rfl) rfl ?_)
                | ((with_reducible refine chk_h ?_); refine hr_app (by simp (disch := omega) only [ilt', g, jlt', ga, hm, row_m hm, read_row (row_m hm), ba, ul, al, al2, ec, c37r0, c37r1, c37r2, c37r3, c37r4, c37r5, c37r6, c37r7, c37r8, c37r9, c37r11, c37r13, c37r14, c37r15, c37r16, c37r17, c37r18, c37r19, c37r20, c37r21, c37r22, c37r23, c37r24, c37r26, c37r28, c37r29, c37r30, c37r31, c37r32, c37r33, c37r34, c37r36, c37r38, c37r39, c37r40, EV0, EV1, EV2, EV3, EV4, EV5, EV6, EV7, EV8, VALS, plug, ite_same, decide_true, decide_false, eq_self, ↓reduceIte, reduceCtorEq, Nat.reduceAdd, Nat.reduceEqDiff, Nat.reduceLT, Nat.reduceLeDiff, Nat.reduceMul, Nat.reduceSub, Nat.reduceDiv, Int.reduceToNat, Int.reduceAdd, Int.reduceSub, Int.reduceMul, Int.reduceNeg, Int.reduceEq, Int.reduceLT, Int.reduceLE]; with_reducible rfl) rfl ?_)
                | (with_reducible refine k_condP (by simp only [GA, Nat.reduceEqDiff, ↓reduceIte]; rfl) (by first | (simp only [BO]; rfl) | rfl) (fun ht => ?_) (fun ht => ?_) <;> try (first | exact False.elim ht | exact absurd rfl ht | exact absurd trivial ht | exact Bool.noConfusion ht))
                | (with_reducible refine k_ret ?_; repeat with_reducible (first | refine ret_thru ?_ | refine ret_blk ?_ | refine fin ?_))
                | (with_reducible refine k_exit ?_; repeat with_reducible (first | refine thru ?_ | refine out_blk ?_ | refine pass (by decide) ?_))
                | (refine post1 ?_; simp only [GA, Nat.reduceEqDiff, ↓reduceIte])
                | (refine post2 ?_; simp only [GA, Nat.reduceEqDiff, ↓reduceIte])
                | (refine post3 ?_; simp only [GA, Nat.reduceEqDiff, ↓reduceIte])
                | (refine postc (by simp only [GA, Nat.reduceEqDiff, ↓reduceIte]; rfl) (by simp (disch := omega) only [ilt', g, jlt', ga, hm, row_m hm, read_row (row_m hm), ba, ul, al, al2, ec, c37r0, c37r1, c37r2, c37r3, c37r4, c37r5, c37r6, c37r7, c37r8, c37r9, c37r11, c37r13, c37r14, c37r15, c37r16, c37r17, c37r18, c37r19, c37r20, c37r21, c37r22, c37r23, c37r24, c37r26, c37r28, c37r29, c37r30, c37r31, c37r32, c37r33, c37r34, c37r36, c37r38, c37r39, c37r40, EV0, EV1, EV2, EV3, EV4, EV5, EV6, EV7, EV8, VALS, plug, ite_same, decide_true, decide_false, eq_self, ↓reduceIte, reduceCtorEq, Nat.reduceAdd, Nat.reduceEqDiff, Nat.reduceLT, Nat.reduceLeDiff, Nat.reduceMul, Nat.reduceSub, Nat.reduceDiv, Int.reduceToNat, Int.reduceAdd, Int.reduceSub, Int.reduceMul, Int.reduceNeg, Int.reduceEq, Int.reduceLT, Int.reduceLE]; rfl) ?_)
                | refine post0 ?_
              exact ⟨jlt, us.set a true, (by simp only [Am.keep, List.map_cons, List.map_nil, GA, Nat.reduceEqDiff, ↓reduceIte]; try rfl), by simp (disch := omega) only [hm, c37r0, c37r1, c37r2, c37r3, c37r4, c37r5, c37r6, c37r7, c37r8, c37r9, c37r11, c37r13, c37r14, c37r15, c37r16, c37r17, c37r18, c37r19, c37r20, c37r21, c37r22, c37r23, c37r24, c37r26, c37r28, c37r29, c37r30, c37r31, c37r32, c37r33, c37r34, c37r36, c37r38, c37r39, c37r40, EV0, EV1, EV2, EV3, EV4, EV5, EV6, EV7, EV8, VALS, plug, ite_same, decide_true, decide_false, eq_self, ↓reduceIte, reduceCtorEq, Nat.reduceAdd, Nat.reduceEqDiff, Nat.reduceLT, Nat.reduceLeDiff, Nat.reduceMul, Nat.reduceSub, Nat.reduceDiv, Int.reduceToNat, Int.reduceAdd, Int.reduceSub, Int.reduceMul, Int.reduceNeg, Int.reduceEq, Int.reduceLT, Int.reduceLE] <;> rfl, by rw [fs]; exact R.step al2, by rw [fs]; exact nd_snoc nd nm⟩
          · obtain rfl : j = (rI rows i).length := by omega
            have jlt' : ¬ ((rI rows i).length : Int) < (rI rows i).length := by omega
            rw [fj_row ilt] at R nd ⊢
            repeat' first
              | with_reducible refine k_seq ?_
              | with_reducible refine k_skip ?_
              | with_reducible refine k_blkS ?_
              | with_reducible refine k_blkR ?_
              | with_reducible refine k_blkC ?_
              | with_reducible refine k_blkH ?_
              | with_reducible refine k_blkB ?_
              | with_reducible refine k_blkK ?_
              | with_reducible refine k_blkE ?_
              | with_reducible refine k_reg ?_
              | with_reducible refine k_head (by with_unfolding_all rfl) ?_
              | with_reducible refine k_headS ?_
              | (with_reducible refine SepK.mk ?_ ?_; (refine sepQ_P ?_; simp [sepQ, sepG, AOp.late, AOp.free, AOp.xs, AOp.isAl, tokNe, AV.tok, stS_get, strip, AX.val, c37r0, c37r1, c37r2, c37r3, c37r4, c37r5, c37r6, c37r7, c37r8, c37r9, c37r11, c37r13, c37r14, c37r15, c37r16, c37r17, c37r18, c37r19, c37r20, c37r21, c37r22, c37r23, c37r24, c37r26, c37r28, c37r29, c37r30, c37r31, c37r32, c37r33, c37r34, c37r36, c37r38, c37r39, c37r40, GA]; try omega))
              | with_reducible refine r_done ?_
              | with_reducible refine hr_done ?_
              | with_reducible refine s_go (by simp (disch := omega) only [ilt', g, jlt', c37r0, c37r1, c37r2, c37r3, c37r4, c37r5, c37r6, c37r7, c37r8, c37r9, c37r11, c37r13, c37r14, c37r15, c37r16, c37r17, c37r18, c37r19, c37r20, c37r21, c37r22, c37r23, c37r24, c37r26, c37r28, c37r29, c37r30, c37r31, c37r32, c37r33, c37r34, c37r36, c37r38, c37r39, c37r40, EV0, EV1, EV2, EV3, EV4, EV5, EV6, EV7, EV8, VALS, plug, ite_same, decide_true, decide_false, eq_self, ↓reduceIte, reduceCtorEq, Nat.reduceAdd, Nat.reduceEqDiff, Nat.reduceLT, Nat.reduceLeDiff, Nat.reduceMul, Nat.reduceSub, Nat.reduceDiv, Int.reduceToNat, Int.reduceAdd, Int.reduceSub, Int.reduceMul, Int.reduceNeg, Int.reduceEq, Int.reduceLT, Int.reduceLE]; with_reducible rfl) ?_
              | with_reducible refine h_go (by with_unfolding_all rfl) (by simp (disch := omega) only [ilt', g, jlt', c37r0, c37r1, c37r2, c37r3, c37r4, c37r5, c37r6, c37r7, c37r8, c37r9, c37r11, c37r13, c37r14, c37r15, c37r16, c37r17, c37r18, c37r19, c37r20, c37r21, c37r22, c37r23, c37r24, c37r26, c37r28, c37r29, c37r30, c37r31, c37r32, c37r33, c37r34, c37r36, c37r38, c37r39, c37r40, EV0, EV1, EV2, EV3, EV4, EV5, EV6, EV7, EV8, VALS, plug, ite_same, decide_true, decide_false, eq_self, ↓reduceIte, reduceCtorEq, Nat.reduceAdd, Nat.reduceEqDiff, Nat.reduceLT, Nat.reduceLeDiff, Nat.reduceMul, Nat.reduceSub, Nat.reduceDiv, Int.reduceToNat, Int.reduceAdd, Int.reduceSub, Int.reduceMul, Int.reduceNeg, Int.reduceEq, Int.reduceLT, Int.reduceLE]; with_reducible rfl) ?_
              | ((with_reducible refine chk_r ?_); refine r_callF (by simp only [CA, Nat.reduceEqDiff, ↓reduceIte]; rfl) (by exact rfl) (by simp only [CA, Nat.reduceEqDiff, ↓reduceIte]; rfl) rfl ?_)
              | ((with_reducible refine chk_h ?_); refine hr_callF (by simp only [CA, Nat.reduceEqDiff, ↓reduceIte]; rfl) (by exact rfl) (by simp only [CA, Nat.reduceEqDiff, ↓reduceIte]; rfl) rfl ?_)
              | ((with_reducible refine chk_h ?_); refine hr_app (by simp (disch := omega) only [ilt', g, jlt', c37r0, c37r1, c37r2, c37r3, c37r4, c37r5, c37r6, c37r7, c37r8, c37r9, c37r11, c37r13, c37r14, c37r15, c37r16, c37r17, c37r18, c37r19, c37r20, c37r21, c37r22, c37r23, c37r24, c37r26, c37r28, c37r29, c37r30, c37r31, c37r32, c37r33, c37r34, c37r36, c37r38, c37r39, c37r40, EV0, EV1, EV2, EV3, EV4, EV5, EV6, EV7, EV8, VALS, plug, ite_same, decide_true, decide_false, eq_self, ↓reduceIte, reduceCtorEq, Nat.reduceAdd, Nat.reduceEqDiff, Nat.reduceLT, Nat.reduceLeDiff, Nat.reduceMul, Nat.reduceSub, Nat.reduceDiv, Int.reduceToNat, Int.reduceAdd, Int.reduceSub, Int.reduceMul, Int.reduceNeg, Int.reduceEq, Int.reduceLT, Int.reduceLE]; with_reducible rfl) rfl ?_)
              | (with_reducible refine k_condP (by simp only [GA, Nat.reduceEqDiff, ↓reduceIte]; rfl) (by first | (simp only [BO]; rfl) | rfl) (fun ht => ?_) (fun ht => ?_) <;> try (first | exact False.elim ht | exact absurd rfl ht | exact absurd trivial ht | exact Bool.noConfusion ht))
              | (with_reducible refine k_ret ?_; repeat with_reducible (first | refine ret_thru ?_ | refine ret_blk ?_ | refine fin ?_))
              | (with_reducible refine k_exit ?_; repeat with_reducible (first | refine thru ?_ | refine out_blk ?_ | refine pass (by decide) ?_))
              | (refine post1 ?_; simp only [GA, Nat.reduceEqDiff, ↓reduceIte])
              | (refine post2 ?_; simp only [GA, Nat.reduceEqDiff, ↓reduceIte])
              | (refine post3 ?_; simp only [GA, Nat.reduceEqDiff, ↓reduceIte])
              | (refine postc (by simp only [GA, Nat.reduceEqDiff, ↓reduceIte]; rfl) (by simp (disch := omega) only [ilt', g, jlt', c37r0, c37r1, c37r2, c37r3, c37r4, c37r5, c37r6, c37r7, c37r8, c37r9, c37r11, c37r13, c37r14, c37r15, c37r16, c37r17, c37r18, c37r19, c37r20, c37r21, c37r22, c37r23, c37r24, c37r26, c37r28, c37r29, c37r30, c37r31, c37r32, c37r33, c37r34, c37r36, c37r38, c37r39, c37r40, EV0, EV1, EV2, EV3, EV4, EV5, EV6, EV7, EV8, VALS, plug, ite_same, decide_true, decide_false, eq_self, ↓reduceIte, reduceCtorEq, Nat.reduceAdd, Nat.reduceEqDiff, Nat.reduceLT, Nat.reduceLeDiff, Nat.reduceMul, Nat.reduceSub, Nat.reduceDiv, Int.reduceToNat, Int.reduceAdd, Int.reduceSub, Int.reduceMul, Int.reduceNeg, Int.reduceEq, Int.reduceLT, Int.reduceLE]; rfl) ?_)
              | refine post0 ?_
            exact ⟨ilt, ⟨x, us⟩, (by simp only [Am.keep, List.map_cons, List.map_nil, GA, Nat.reduceEqDiff, ↓reduceIte]; try rfl), hx, by simp (disch := omega) only [hm, c37r0, c37r1, c37r2, c37r3, c37r4, c37r5, c37r6, c37r7, c37r8, c37r9, c37r11, c37r13, c37r14, c37r15, c37r16, c37r17, c37r18, c37r19, c37r20, c37r21, c37r22, c37r23, c37r24, c37r26, c37r28, c37r29, c37r30, c37r31, c37r32, c37r33, c37r34, c37r36, c37r38, c37r39, c37r40, EV0, EV1, EV2, EV3, EV4, EV5, EV6, EV7, EV8, VALS, plug, ite_same, decide_true, decide_false, eq_self, ↓reduceIte, reduceCtorEq, Nat.reduceAdd, Nat.reduceEqDiff, Nat.reduceLT, Nat.reduceLeDiff, Nat.reduceMul, Nat.reduceSub, Nat.reduceDiv, Int.reduceToNat, Int.reduceAdd, Int.reduceSub, Int.reduceMul, Int.reduceNeg, Int.reduceEq, Int.reduceLT, Int.reduceLE], R, nd⟩
      · obtain rfl : i = rows.length := by omega
        have ilt' : ¬ (rows.length : Int) < rows.length := by omega
        rw [fk_all] at R nd ⊢
        repeat' first
          | with_reducible refine k_seq ?_
          | with_reducible refine k_skip ?_
          | with_reducible refine k_blkS ?_
          | with_reducible refine k_blkR ?_
          | with_reducible refine k_blkC ?_
          | with_reducible refine k_blkH ?_
          | with_reducible refine k_blkB ?_
          | with_reducible refine k_blkK ?_
          | with_reducible refine k_blkE ?_
          | with_reducible refine k_reg ?_
          | with_reducible refine k_head (by with_unfolding_all rfl) ?_
          | with_reducible refine k_headS ?_
          | (with_reducible refine SepK.mk ?_ ?_; (refine sepQ_P ?_; simp [sepQ, sepG, AOp.late, AOp.free, AOp.xs, AOp.isAl, tokNe, AV.tok, stS_get, strip, AX.val, c37r0, c37r1, c37r2, c37r3, c37r4, c37r5, c37r6, c37r7, c37r8, c37r9, c37r11, c37r13, c37r14, c37r15, c37r16, c37r17, c37r18, c37r19, c37r20, c37r21, c37r22, c37r23, c37r24, c37r26, c37r28, c37r29, c37r30, c37r31, c37r32, c37r33, c37r34, c37r36, c37r38, c37r39, c37r40, GA]; try omega))
          | with_reducible refine r_done ?_
          | with_reducible refine hr_done ?_
          | with_reducible refine s_go (by simp (disch := omega) only [ilt', c37r0, c37r1, c37r2, c37r3, c37r4, c37r5, c37r6, c37r7, c37r8, c37r9, c37r11, c37r13, c37r14, c37r15, c37r16, c37r17, c37r18, c37r19, c37r20, c37r21, c37r22, c37r23, c37r24, c37r26, c37r28, c37r29, c37r30, c37r31, c37r32, c37r33, c37r34, c37r36, c37r38, c37r39, c37r40, EV0, EV1, EV2, EV3, EV4, EV5, EV6, EV7, EV8, VALS, plug, ite_same, decide_true, decide_false, eq_self, ↓reduceIte, reduceCtorEq, Nat.reduceAdd, Nat.reduceEqDiff, Nat.reduceLT, Nat.reduceLeDiff, Nat.reduceMul, Nat.reduceSub, Nat.reduceDiv, Int.reduceToNat, Int.reduceAdd, Int.reduceSub, Int.reduceMul, Int.reduceNeg, Int.reduceEq, Int.reduceLT, Int.reduceLE]; with_reducible rfl) ?_
          | with_reducible refine h_go (by with_unfolding_all rfl) (by simp (disch := omega) only [ilt', c37r0, c37r1, c37r2, c37r3, c37r4, c37r5, c37r6, c37r7, c37r8, c37r9, c37r11, c37r13, c37r14, c37r15, c37r16, c37r17, c37r18, c37r19, c37r20, c37r21, c37r22, c37r23, c37r24, c37r26, c37r28, c37r29, c37r30, c37r31, c37r32, c37r33, c37r34, c37r36, c37r38, c37r39, c37r40, EV0, EV1, EV2, EV3, EV4, EV5, EV6, EV7, EV8, VALS, plug, ite_same, decide_true, decide_false, eq_self, ↓reduceIte, reduceCtorEq, Nat.reduceAdd, Nat.reduceEqDiff, Nat.reduceLT, Nat.reduceLeDiff, Nat.reduceMul, Nat.reduceSub, Nat.reduceDiv, Int.reduceToNat, Int.reduceAdd, Int.reduceSub, Int.reduceMul, Int.reduceNeg, Int.reduceEq, Int.reduceLT, Int.reduceLE]; with_reducible rfl) ?_
          | ((with_reducible refine chk_r ?_); refine r_callF (by simp only [CA, Nat.reduceEqDiff, ↓reduceIte]; rfl) (by exact rfl) (by simp only [CA, Nat.reduceEqDiff, ↓reduceIte]; rfl) rfl ?_)
          | ((with_reducible refine chk_h ?_); refine hr_callF (by simp only [CA, Nat.reduceEqDiff, ↓reduceIte]; rfl) (by exact rfl) (by simp only [CA, Nat.reduceEqDiff, ↓reduceIte]; rfl) rfl ?_)
          | ((with_reducible refine chk_h ?_); refine hr_app (by simp (disch := omega) only [ilt', c37r0, c37r1, c37r2, c37r3, c37r4, c37r5, c37r6, c37r7, c37r8, c37r9, c37r11, c37r13, c37r14, c37r15, c37r16, c37r17, c37r18, c37r19, c37r20, c37r21, c37r22, c37r23, c37r24, c37r26, c37r28, c37r29, c37r30, c37r31, c37r32, c37r33, c37r34, c37r36, c37r38, c37r39, c37r40, EV0, EV1, EV2, EV3, EV4, EV5, EV6, EV7, EV8, VALS, plug, ite_same, decide_true, decide_false, eq_self, ↓reduceIte, reduceCtorEq, Nat.reduceAdd, Nat.reduceEqDiff, Nat.reduceLT, Nat.reduceLeDiff, Nat.reduceMul, Nat.reduceSub, Nat.reduceDiv, Int.reduceToNat, Int.reduceAdd, Int.reduceSub, Int.reduceMul, Int.reduceNeg, Int.reduceEq, Int.reduceLT, Int.reduceLE]; with_reducible rfl) rfl ?_)
          | (with_reducible refine k_condP (by simp only [GA, Nat.reduceEqDiff, ↓reduceIte]; rfl) (by first | (simp only [BO]; rfl) | rfl) (fun ht => ?_) (fun ht => ?_) <;> try (first | exact False.elim ht | exact absurd rfl ht | exact absurd trivial ht | exact Bool.noConfusion ht))
          | (with_reducible refine k_ret ?_; repeat with_reducible (first | refine ret_thru ?_ | refine ret_blk ?_ | refine fin ?_))
          | (with_reducible refine k_exit ?_; repeat with_reducible (first | refine thru ?_ | refine out_blk ?_ | refine pass (by decide) ?_))
          | (refine post1 ?_; simp only [GA, Nat.reduceEqDiff, ↓reduceIte])
          | (refine post2 ?_; simp only [GA, Nat.reduceEqDiff, ↓reduceIte])
          | (refine post3 ?_; simp only [GA, Nat.reduceEqDiff, ↓reduceIte])
          | (refine postc (by simp only [GA, Nat.reduceEqDiff, ↓reduceIte]; rfl) (by simp (disch := omega) only [ilt', c37r0, c37r1, c37r2, c37r3, c37r4, c37r5, c37r6, c37r7, c37r8, c37r9, c37r11, c37r13, c37r14, c37r15, c37r16, c37r17, c37r18, c37r19, c37r20, c37r21, c37r22, c37r23, c37r24, c37r26, c37r28, c37r29, c37r30, c37r31, c37r32, c37r33, c37r34, c37r36, c37r38, c37r39, c37r40, EV0, EV1, EV2, EV3, EV4, EV5, EV6, EV7, EV8, VALS, plug, ite_same, decide_true, decide_false, eq_self, ↓reduceIte, reduceCtorEq, Nat.reduceAdd, Nat.reduceEqDiff, Nat.reduceLT, Nat.reduceLeDiff, Nat.reduceMul, Nat.reduceSub, Nat.reduceDiv, Int.reduceToNat, Int.reduceAdd, Int.reduceSub, Int.reduceMul, Int.reduceNeg, Int.reduceEq, Int.reduceLT, Int.reduceLE]; rfl) ?_)
          | refine post0 ?_
        refine k_blk (k_loopS (X := Unit) [0, 1, 8, 9, 12] rows.length (fun i _ => [(0, vB l), (1, vR rows), (8, .i .i64 (rows.flatten.length : Int)), (9, .b (empB rows rows.length)), (12, .i .i64 (i : Int))]) (fun i _ h => MYs l rows i) () (by simp only [Am.keep, List.map_cons, List.map_nil, GA, Nat.reduceEqDiff, ↓reduceIte]; try rfl) (fun i hi => by omega) ?_)
        rintro i _ h hi M ok pos
        by_cases ilt : i < rows.length
        · have ilt' : (i : Int) < rows.length := by omega
          have g := rvI_get ilt
          have ri := hr i ilt
          repeat' first
            | with_reducible refine k_seq ?_
            | with_reducible refine k_skip ?_
            | with_reducible refine k_blkS ?_
            | with_reducible refine k_blkR ?_
            | with_reducible refine k_blkC ?_
            | with_reducible refine k_blkH ?_
            | with_reducible refine k_blkB ?_
            | with_reducible refine k_blkK ?_
            | with_reducible refine k_blkE ?_
            | with_reducible refine k_reg ?_
            | with_reducible refine k_head (by with_unfolding_all rfl) ?_
            | with_reducible refine k_headS ?_
            | (with_reducible refine SepK.mk ?_ ?_; (refine sepQ_P ?_; simp [sepQ, sepG, AOp.late, AOp.free, AOp.xs, AOp.isAl, tokNe, AV.tok, stS_get, strip, AX.val, c37r0, c37r1, c37r2, c37r3, c37r4, c37r5, c37r6, c37r7, c37r8, c37r9, c37r11, c37r13, c37r14, c37r15, c37r16, c37r17, c37r18, c37r19, c37r20, c37r21, c37r22, c37r23, c37r24, c37r26, c37r28, c37r29, c37r30, c37r31, c37r32, c37r33, c37r34, c37r36, c37r38, c37r39, c37r40, GA]; try omega))
            | with_reducible refine r_done ?_
            | with_reducible refine hr_done ?_
            | with_reducible refine s_go (by simp (disch := omega) only [ilt', g, c37r0, c37r1, c37r2, c37r3, c37r4, c37r5, c37r6, c37r7, c37r8, c37r9, c37r11, c37r13, c37r14, c37r15, c37r16, c37r17, c37r18, c37r19, c37r20, c37r21, c37r22, c37r23, c37r24, c37r26, c37r28, c37r29, c37r30, c37r31, c37r32, c37r33, c37r34, c37r36, c37r38, c37r39, c37r40, EV0, EV1, EV2, EV3, EV4, EV5, EV6, EV7, EV8, VALS, plug, ite_same, decide_true, decide_false, eq_self, ↓reduceIte, reduceCtorEq, Nat.reduceAdd, Nat.reduceEqDiff, Nat.reduceLT, Nat.reduceLeDiff, Nat.reduceMul, Nat.reduceSub, Nat.reduceDiv, Int.reduceToNat, Int.reduceAdd, Int.reduceSub, Int.reduceMul, Int.reduceNeg, Int.reduceEq, Int.reduceLT, Int.reduceLE]; with_reducible rfl) ?_
            | with_reducible refine h_go (by with_unfolding_all rfl) (by simp (disch := omega) only [ilt', g, c37r0, c37r1, c37r2, c37r3, c37r4, c37r5, c37r6, c37r7, c37r8, c37r9, c37r11, c37r13, c37r14, c37r15, c37r16, c37r17, c37r18, c37r19, c37r20, c37r21, c37r22, c37r23, c37r24, c37r26, c37r28, c37r29, c37r30, c37r31, c37r32, c37r33, c37r34, c37r36, c37r38, c37r39, c37r40, EV0, EV1, EV2, EV3, EV4, EV5, EV6, EV7, EV8, VALS, plug, ite_same, decide_true, decide_false, eq_self, ↓reduceIte, reduceCtorEq, Nat.reduceAdd, Nat.reduceEqDiff, Nat.reduceLT, Nat.reduceLeDiff, Nat.reduceMul, Nat.reduceSub, Nat.reduceDiv, Int.reduceToNat, Int.reduceAdd, Int.reduceSub, Int.reduceMul, Int.reduceNeg, Int.reduceEq, Int.reduceLT, Int.reduceLE]; with_reducible rfl) ?_
            | ((with_reducible refine chk_r ?_); refine r_callF (by simp only [CA, Nat.reduceEqDiff, ↓reduceIte]; rfl) (by exact rfl) (by simp only [CA, Nat.reduceEqDiff, ↓reduceIte]; rfl) rfl ?_)
            | ((with_reducible refine chk_h ?_); refine hr_callF (by simp only [CA, Nat.reduceEqDiff, ↓reduceIte]; rfl) (by exact rfl) (by simp only [CA, Nat.reduceEqDiff, ↓reduceIte]; rfl) rfl ?_)
            | ((with_reducible refine chk_h ?_); refine hr_app (by simp (disch := omega) only [ilt', g, c37r0, c37r1, c37r2, c37r3, c37r4, c37r5, c37r6, c37r7, c37r8, c37r9, c37r11, c37r13, c37r14, c37r15, c37r16, c37r17, c37r18, c37r19, c37r20, c37r21, c37r22, c37r23, c37r24, c37r26, c37r28, c37r29, c37r30, c37r31, c37r32, c37r33, c37r34, c37r36, c37r38, c37r39, c37r40, EV0, EV1, EV2, EV3, EV4, EV5, EV6, EV7, EV8, VALS, plug, ite_same, decide_true, decide_false, eq_self, ↓reduceIte, reduceCtorEq, Nat.reduceAdd, Nat.reduceEqDiff, Nat.reduceLT, Nat.reduceLeDiff, Nat.reduceMul, Nat.reduceSub, Nat.reduceDiv, Int.reduceToNat, Int.reduceAdd, Int.reduceSub, Int.reduceMul, Int.reduceNeg, Int.reduceEq, Int.reduceLT, Int.reduceLE]; with_reducible rfl) rfl ?_)
            | (with_reducible refine k_condP (by simp only [GA, Nat.reduceEqDiff, ↓reduceIte]; rfl) (by first | (simp only [BO]; rfl) | rfl) (fun ht => ?_) (fun ht => ?_) <;> try (first | exact False.elim ht | exact absurd rfl ht | exact absurd trivial ht | exact Bool.noConfusion ht))
            | (with_reducible refine k_ret ?_; repeat with_reducible (first | refine ret_thru ?_ | refine ret_blk ?_ | refine fin ?_))
            | (with_reducible refine k_exit ?_; repeat with_reducible (first | refine thru ?_ | refine out_blk ?_ | refine pass (by decide) ?_))
            | (refine post1 ?_; simp only [GA, Nat.reduceEqDiff, ↓reduceIte])
            | (refine post2 ?_; simp only [GA, Nat.reduceEqDiff, ↓reduceIte])
            | (refine post3 ?_; simp only [GA, Nat.reduceEqDiff, ↓reduceIte])
            | (refine postc (by simp only [GA, Nat.reduceEqDiff, ↓reduceIte]; rfl) (by simp (disch := omega) only [ilt', g, c37r0, c37r1, c37r2, c37r3, c37r4, c37r5, c37r6, c37r7, c37r8, c37r9, c37r11, c37r13, c37r14, c37r15, c37r16, c37r17, c37r18, c37r19, c37r20, c37r21, c37r22, c37r23, c37r24, c37r26, c37r28, c37r29, c37r30, c37r31, c37r32, c37r33, c37r34, c37r36, c37r38, c37r39, c37r40, EV0, EV1, EV2, EV3, EV4, EV5, EV6, EV7, EV8, VALS, plug, ite_same, decide_true, decide_false, eq_self, ↓reduceIte, reduceCtorEq, Nat.reduceAdd, Nat.reduceEqDiff, Nat.reduceLT, Nat.reduceLeDiff, Nat.reduceMul, Nat.reduceSub, Nat.reduceDiv, Int.reduceToNat, Int.reduceAdd, Int.reduceSub, Int.reduceMul, Int.reduceNeg, Int.reduceEq, Int.reduceLT, Int.reduceLE]; rfl) ?_)
            | refine post0 ?_
          refine k_blk (k_loopS (X := Unit) [0, 1, 8, 9, 12, 13] ((rI rows i).length - 1) (fun j _ => [(0, vB l), (1, vR rows), (8, .i .i64 (rows.flatten.length : Int)), (9, .b (empB rows rows.length)), (12, .i .i64 (i : Int)), (13, .i .i64 ((j + 1 : Nat) : Int))]) (fun j _ h => MY l (rI rows i) (j + 1)) () (by simp only [Am.keep, List.map_cons, List.map_nil, GA, Nat.reduceEqDiff, ↓reduceIte]; try rfl) (fun i h0 hi => by omega) ?_)
          rintro j _ h2 hj My ok pos
          by_cases jlt : j + 1 < (rI rows i).length
          · have jlt' : ((j + 1 : Nat) : Int) < (rI rows i).length := by omega
            obtain ⟨a, al, ea, ga⟩ := ix.at ilt (show j < (rI rows i).length by omega)
            obtain ⟨b, bl', eb, gb⟩ := ix.at ilt jlt
            have e1 : ((j + 1 : Nat) : Int) - 1 = j := by omega
            have jl0 : (j : Int) < (rI rows i).length := by omega
            have rA := rdB al
            have rB := rdB bl'
            have q54 := pc54 (bD l a) (bD l b)
            simp only [eB] at rA rB q54
            have mz : mayZ l (ni (rI rows i) j) (ni (rI rows i) (j + 1)) = mayB (bD l a) (bD l b) := by simp only [mayZ, mayI, ea, eb, Int.toNat_natCast]
            cases hX : mayB (bD l a) (bD l b) with
            | false =>
              rw [hX] at q54 mz
              rw [ck_dirty hv ix nd (MY.no ilt jlt mz)]
              repeat' first
                | with_reducible refine k_seq ?_
                | with_reducible refine k_skip ?_
                | with_reducible refine k_blkS ?_
                | with_reducible refine k_blkR ?_
                | with_reducible refine k_blkC ?_
                | with_reducible refine k_blkH ?_
                | with_reducible refine k_blkB ?_
                | with_reducible refine k_blkK ?_
                | with_reducible refine k_blkE ?_
                | with_reducible refine k_reg ?_
                | with_reducible refine k_head (by with_unfolding_all rfl) ?_
                | with_reducible refine k_headS ?_
                | (with_reducible refine SepK.mk ?_ ?_; (refine sepQ_P ?_; simp [sepQ, sepG, AOp.late, AOp.free, AOp.xs, AOp.isAl, tokNe, AV.tok, stS_get, strip, AX.val, c37r0, c37r1, c37r2, c37r3, c37r4, c37r5, c37r6, c37r7, c37r8, c37r9, c37r11, c37r13, c37r14, c37r15, c37r16, c37r17, c37r18, c37r19, c37r20, c37r21, c37r22, c37r23, c37r24, c37r26, c37r28, c37r29, c37r30, c37r31, c37r32, c37r33, c37r34, c37r36, c37r38, c37r39, c37r40, GA]; try omega))
                | with_reducible refine r_done ?_
                | with_reducible refine hr_done ?_
                | with_reducible refine s_go (by simp (disch := omega) only [ilt', g, jlt', e1, ga, gb, rA, rB, al, bl', jl0, c37r0, c37r1, c37r2, c37r3, c37r4, c37r5, c37r6, c37r7, c37r8, c37r9, c37r11, c37r13, c37r14, c37r15, c37r16, c37r17, c37r18, c37r19, c37r20, c37r21, c37r22, c37r23, c37r24, c37r26, c37r28, c37r29, c37r30, c37r31, c37r32, c37r33, c37r34, c37r36, c37r38, c37r39, c37r40, EV0, EV1, EV2, EV3, EV4, EV5, EV6, EV7, EV8, VALS, plug, ite_same, decide_true, decide_false, eq_self, ↓reduceIte, reduceCtorEq, Nat.reduceAdd, Nat.reduceEqDiff, Nat.reduceLT, Nat.reduceLeDiff, Nat.reduceMul, Nat.reduceSub, Nat.reduceDiv, Int.reduceToNat, Int.reduceAdd, Int.reduceSub, Int.reduceMul, Int.reduceNeg, Int.reduceEq, Int.reduceLT, Int.reduceLE]; with_reducible rfl) ?_
                | with_reducible refine h_go (by with_unfolding_all rfl) (by simp (disch := omega) only [ilt', g, jlt', e1, ga, gb, rA, rB, al, bl', jl0, c37r0, c37r1, c37r2, c37r3, c37r4, c37r5, c37r6, c37r7, c37r8, c37r9, c37r11, c37r13, c37r14, c37r15, c37r16, c37r17, c37r18, c37r19, c37r20, c37r21, c37r22, c37r23, c37r24, c37r26, c37r28, c37r29, c37r30, c37r31, c37r32, c37r33, c37r34, c37r36, c37r38, c37r39, c37r40, EV0, EV1, EV2, EV3, EV4, EV5, EV6, EV7, EV8, VALS, plug, ite_same, decide_true, decide_false, eq_self, ↓reduceIte, reduceCtorEq, Nat.reduceAdd, Nat.reduceEqDiff, Nat.reduceLT, Nat.reduceLeDiff, Nat.reduceMul, Nat.reduceSub, Nat.reduceDiv, Int.reduceToNat, Int.reduceAdd, Int.reduceSub, Int.reduceMul, Int.reduceNeg, Int.reduceEq, Int.reduceLT, Int.reduceLE]; with_reducible rfl) ?_
                | ((with_reducible refine chk_r ?_); refine r_callF (by simp only [CA, Nat.reduceEqDiff, ↓reduceIte]; rfl) (by exact rfl) (by simp only [CA, Nat.reduceEqDiff, ↓reduceIte]; rfl) rfl ?_)
                | ((with_reducible refine chk_h ?_); refine hr_callF (by simp only [CA, Nat.reduceEqDiff, ↓reduceIte]; rfl) (by exact rfl) (by simp only [CA, Nat.reduceEqDiff, ↓reduceIte]; rfl) rfl ?_)
                | ((with_reducible refine chk_r ?_); refine r_callP (by simp only [CA, Nat.reduceEqDiff, ↓reduceIte]; rfl) (by simp only [CA, Nat.reduceEqDiff, ↓reduceIte]; rfl) (by first | exact q54 _) rfl ?_)
                | ((with_reducible refine chk_h ?_); refine hr_callP (by simp only [CA, Nat.reduceEqDiff, ↓reduceIte]; rfl) (by simp only [CA, Nat.reduceEqDiff, ↓reduceIte]; rfl) (by first | exact q54 _) rfl ?_)
                | ((with_reducible refine chk_h ?_); refine hr_callP1 (by simp only [CA, Nat.reduceEqDiff, ↓reduceIte]; rfl) (by simp only [CA, Nat.reduceEqDiff, ↓reduceIte]; rfl) (by simp (disch := omega) only [CA, Nat.reduceEqDiff, ↓reduceIte, firstTok_nil, firstTok_sl, firstTok_sl0, firstTok_i, firstTok_b, firstTok_ag, firstTok_p, firstTok_s]; rfl) (by first | exact q54 _) rfl ?_)
                | ((with_reducible refine chk_h ?_); refine hr_app (by simp (disch := omega) only [ilt', g, jlt', e1, ga, gb, rA, rB, al, bl', jl0, c37r0, c37r1, c37r2, c37r3, c37r4, c37r5, c37r6, c37r7, c37r8, c37r9, c37r11, c37r13, c37r14, c37r15, c37r16, c37r17, c37r18, c37r19, c37r20, c37r21, c37r22, c37r23, c37r24, c37r26, c37r28, c37r29, c37r30, c37r31, c37r32, c37r33, c37r34, c37r36, c37r38, c37r39, c37r40, EV0, EV1, EV2, EV3, EV4, EV5, EV6, EV7, EV8, VALS, plug, ite_same, decide_true, decide_false, eq_self, ↓reduceIte, reduceCtorEq, Nat.reduceAdd, Nat.reduceEqDiff, Nat.reduceLT, Nat.reduceLeDiff, Nat.reduceMul, Nat.reduceSub, Nat.reduceDiv, Int.reduceToNat, Int.reduceAdd, Int.reduceSub, Int.reduceMul, Int.reduceNeg, Int.reduceEq, Int.reduceLT, Int.reduceLE]; with_reducible rfl) rfl ?_)
                | (with_reducible refine k_condP (by simp only [GA, Nat.reduceEqDiff, ↓reduceIte]; rfl) (by first | (simp only [BO]; rfl) | rfl) (fun ht => ?_) (fun ht => ?_) <;> try (first | exact False.elim ht | exact absurd rfl ht | exact absurd trivial ht | exact Bool.noConfusion ht))
                | (with_reducible refine k_ret ?_; repeat with_reducible (first | refine ret_thru ?_ | refine ret_blk ?_ | refine fin ?_))
                | (with_reducible refine k_exit ?_; repeat with_reducible (first | refine thru ?_ | refine out_blk ?_ | refine pass (by decide) ?_))
                | (refine post1 ?_; simp only [GA, Nat.reduceEqDiff, ↓reduceIte])
                | (refine post2 ?_; simp only [GA, Nat.reduceEqDiff, ↓reduceIte])
                | (refine post3 ?_; simp only [GA, Nat.reduceEqDiff, ↓reduceIte])
                | (refine postc (by simp only [GA, Nat.reduceEqDiff, ↓reduceIte]; rfl) (by simp (disch := omega) only [ilt', g, jlt', e1, ga, gb, rA, rB, al, bl', jl0, c37r0, c37r1, c37r2, c37r3, c37r4, c37r5, c37r6, c37r7, c37r8, c37r9, c37r11, c37r13, c37r14, c37r15, c37r16, c37r17, c37r18, c37r19, c37r20, c37r21, c37r22, c37r23, c37r24, c37r26, c37r28, c37r29, c37r30, c37r31, c37r32, c37r33, c37r34, c37r36, c37r38, c37r39, c37r40, EV0, EV1, EV2, EV3, EV4, EV5, EV6, EV7, EV8, VALS, plug, ite_same, decide_true, decide_false, eq_self, ↓reduceIte, reduceCtorEq, Nat.reduceAdd, Nat.reduceEqDiff, Nat.reduceLT, Nat.reduceLeDiff, Nat.reduceMul, Nat.reduceSub, Nat.reduceDiv, Int.reduceToNat, Int.reduceAdd, Int.reduceSub, Int.reduceMul, Int.reduceNeg, Int.reduceEq, Int.reduceLT, Int.reduceLE]; rfl) ?_)
                | refine post0 ?_
              all_goals first | exact ends_of | exact ends_eq rfl
            | true =>
              rw [hX] at q54 mz
              repeat' first
                | with_reducible refine k_seq ?_
                | with_reducible refine k_skip ?_
                | with_reducible refine k_blkS ?_
                | with_reducible refine k_blkR ?_
                | with_reducible refine k_blkC ?_
                | with_reducible refine k_blkH ?_
                | with_reducible refine k_blkB ?_
                | with_reducible refine k_blkK ?_
                | with_reducible refine k_blkE ?_
                | with_reducible refine k_reg ?_
                | with_reducible refine k_head (by with_unfolding_all rfl) ?_
                | with_reducible refine k_headS ?_
                | (with_reducible refine SepK.mk ?_ ?_; (refine sepQ_P ?_; simp [sepQ, sepG, AOp.late, AOp.free, AOp.xs, AOp.isAl, tokNe, AV.tok, stS_get, strip, AX.val, c37r0, c37r1, c37r2, c37r3, c37r4, c37r5, c37r6, c37r7, c37r8, c37r9, c37r11, c37r13, c37r14, c37r15, c37r16, c37r17, c37r18, c37r19, c37r20, c37r21, c37r22, c37r23, c37r24, c37r26, c37r28, c37r29, c37r30, c37r31, c37r32, c37r33, c37r34, c37r36, c37r38, c37r39, c37r40, GA]; try omega))
                | with_reducible refine r_done ?_
                | with_reducible refine hr_done ?_
                | with_reducible refine s_go (by simp (disch := omega) only [ilt', g, jlt', e1, ga, gb, rA, rB, al, bl', jl0, c37r0, c37r1, c37r2, c37r3, c37r4, c37r5, c37r6, c37r7, c37r8, c37r9, c37r11, c37r13, c37r14, c37r15, c37r16, c37r17, c37r18, c37r19, c37r20, c37r21, c37r22, c37r23, c37r24, c37r26, c37r28, c37r29, c37r30, c37r31, c37r32, c37r33, c37r34, c37r36, c37r38, c37r39, c37r40, EV0, EV1, EV2, EV3, EV4, EV5, EV6, EV7, EV8, VALS, plug, ite_same, decide_true, decide_false, eq_self, ↓reduceIte, reduceCtorEq, Nat.reduceAdd, Nat.reduceEqDiff, Nat.reduceLT, Nat.reduceLeDiff, Nat.reduceMul, Nat.reduceSub, Nat.reduceDiv, Int.reduceToNat, Int.reduceAdd, Int.reduceSub, Int.reduceMul, Int.reduceNeg, Int.reduceEq, Int.reduceLT, Int.reduceLE]; with_reducible rfl) ?_
                | with_reducible refine h_go (by with_unfolding_all rfl) (by simp (disch := omega) only [ilt', g, jlt', e1, ga, gb, rA, rB, al, bl', jl0, c37r0, c37r1, c37r2, c37r3, c37r4, c37r5, c37r6, c37r7, c37r8, c37r9, c37r11, c37r13, c37r14, c37r15, c37r16, c37r17, c37r18, c37r19, c37r20, c37r21, c37r22, c37r23, c37r24, c37r26, c37r28, c37r29, c37r30, c37r31, c37r32, c37r33, c37r34, c37r36, c37r38, c37r39, c37r40, EV0, EV1, EV2, EV3, EV4, EV5, EV6, EV7, EV8, VALS, plug, ite_same, decide_true, decide_false, eq_self, ↓reduceIte, reduceCtorEq, Nat.reduceAdd, Nat.reduceEqDiff, Nat.reduceLT, Nat.reduceLeDiff, Nat.reduceMul, Nat.reduceSub, Nat.reduceDiv, Int.reduceToNat, Int.reduceAdd, Int.reduceSub, Int.reduceMul, Int.reduceNeg, Int.reduceEq, Int.reduceLT, Int.reduceLE]; with_reducible rfl) ?_
                | ((with_reducible refine chk_r ?_); refine r_callF (by simp only [CA, Nat.reduceEqDiff, ↓reduceIte]; rfl) (by exact rfl) (by simp only [CA, Nat.reduceEqDiff, ↓reduceIte]; rfl) rfl ?_)
                | ((with_reducible refine chk_h ?_); refine hr_callF (by simp only [CA, Nat.reduceEqDiff, ↓reduceIte]; rfl) (by exact rfl) (by simp only [CA, Nat.reduceEqDiff, ↓reduceIte]; rfl) rfl ?_)
                | ((with_reducible refine chk_r ?_); refine r_callP (by simp only [CA, Nat.reduceEqDiff, ↓reduceIte]; rfl) (by simp only [CA, Nat.reduceEqDiff, ↓reduceIte]; rfl) (by first | exact q54 _) rfl ?_)
                | ((with_reducible refine chk_h ?_); refine hr_callP (by simp only [CA, Nat.reduceEqDiff, ↓reduceIte]; rfl) (by simp only [CA, Nat.reduceEqDiff, ↓reduceIte]; rfl) (by first | exact q54 _) rfl ?_)
                | ((with_reducible refine chk_h ?_); refine hr_callP1 (by simp only [CA, Nat.reduceEqDiff, ↓reduceIte]; rfl) (by simp only [CA, Nat.reduceEqDiff, ↓reduceIte]; rfl) (by simp (disch := omega) only [CA, Nat.reduceEqDiff, ↓reduceIte, firstTok_nil, firstTok_sl, firstTok_sl0, firstTok_i, firstTok_b, firstTok_ag, firstTok_p, firstTok_s]; rfl) (by first | exact q54 _) rfl ?_)
                | ((with_reducible refine chk_h ?_); refine hr_app (by simp (disch := omega) only [ilt', g, jlt', e1, ga, gb, rA, rB, al, bl', jl0, c37r0, c37r1, c37r2, c37r3, c37r4, c37r5, c37r6, c37r7, c37r8, c37r9, c37r11, c37r13, c37r14, c37r15, c37r16, c37r17, c37r18, c37r19, c37r20, c37r21, c37r22, c37r23, c37r24, c37r26, c37r28, c37r29, c37r30, c37r31, c37r32, c37r33, c37r34, c37r36, c37r38, c37r39, c37r40, EV0, EV1, EV2, EV3, EV4, EV5, EV6, EV7, EV8, VALS, plug, ite_same, decide_true, decide_false, eq_self, ↓reduceIte, reduceCtorEq, Nat.reduceAdd, Nat.reduceEqDiff, Nat.reduceLT, Nat.reduceLeDiff, Nat.reduceMul, Nat.reduceSub, Nat.reduceDiv, Int.reduceToNat, Int.reduceAdd, Int.reduceSub, Int.reduceMul, Int.reduceNeg, Int.reduceEq, Int.reduceLT, Int.reduceLE]; with_reducible rfl) rfl ?_)
                | (with_reducible refine k_condP (by simp only [GA, Nat.reduceEqDiff, ↓reduceIte]; rfl) (by first | (simp only [BO]; rfl) | rfl) (fun ht => ?_) (fun ht => ?_) <;> try (first | exact False.elim ht | exact absurd rfl ht | exact absurd trivial ht | exact Bool.noConfusion ht))
                | (with_reducible refine k_ret ?_; repeat with_reducible (first | refine ret_thru ?_ | refine ret_blk ?_ | refine fin ?_))
                | (with_reducible refine k_exit ?_; repeat with_reducible (first | refine thru ?_ | refine out_blk ?_ | refine pass (by decide) ?_))
                | (refine post1 ?_; simp only [GA, Nat.reduceEqDiff, ↓reduceIte])
                | (refine post2 ?_; simp only [GA, Nat.reduceEqDiff, ↓reduceIte])
                | (refine post3 ?_; simp only [GA, Nat.reduceEqDiff, ↓reduceIte])
                | (refine postc (by simp only [GA, Nat.reduceEqDiff, ↓reduceIte]; rfl) (by simp (disch := omega) only [ilt', g, jlt', e1, ga, gb, rA, rB, al, bl', jl0, c37r0, c37r1, c37r2, c37r3, c37r4, c37r5, c37r6, c37r7, c37r8, c37r9, c37r11, c37r13, c37r14, c37r15, c37r16, c37r17, c37r18, c37r19, c37r20, c37r21, c37r22, c37r23, c37r24, c37r26, c37r28, c37r29, c37r30, c37r31, c37r32, c37r33, c37r34, c37r36, c37r38, c37r39, c37r40, EV0, EV1, EV2, EV3, EV4, EV5, EV6, EV7, EV8, VALS, plug, ite_same, decide_true, decide_false, eq_self, ↓reduceIte, reduceCtorEq, Nat.reduceAdd, Nat.reduceEqDiff, Nat.reduceLT, Nat.reduceLeDiff, Nat.reduceMul, Nat.reduceSub, Nat.reduceDiv, Int.reduceToNat, Int.reduceAdd, Int.reduceSub, Int.reduceMul, Int.reduceNeg, Int.reduceEq, Int.reduceLT, Int.reduceLE]; rfl) ?_)
                | refine post0 ?_
              exact ⟨by omega, (), (by simp only [Am.keep, List.map_cons, List.map_nil, GA, Nat.reduceEqDiff, ↓reduceIte]; try rfl), My.step mz⟩
          · have jlt' : ¬ ((j + 1 : Nat) : Int) < (rI rows i).length := by omega
            repeat' first
              | with_reducible refine k_seq ?_
              | with_reducible refine k_skip ?_
              | with_reducible refine k_blkS ?_
              | with_reducible refine k_blkR ?_
              | with_reducible refine k_blkC ?_
              | with_reducible refine k_blkH ?_
              | with_reducible refine k_blkB ?_
              | with_reducible refine k_blkK ?_
              | with_reducible refine k_blkE ?_
              | with_reducible refine k_reg ?_
              | with_reducible refine k_head (by with_unfolding_all rfl) ?_
              | with_reducible refine k_headS ?_
              | (with_reducible refine SepK.mk ?_ ?_; (refine sepQ_P ?_; simp [sepQ, sepG, AOp.late, AOp.free, AOp.xs, AOp.isAl, tokNe, AV.tok, stS_get, strip, AX.val, c37r0, c37r1, c37r2, c37r3, c37r4, c37r5, c37r6, c37r7, c37r8, c37r9, c37r11, c37r13, c37r14, c37r15, c37r16, c37r17, c37r18, c37r19, c37r20, c37r21, c37r22, c37r23, c37r24, c37r26, c37r28, c37r29, c37r30, c37r31, c37r32, c37r33, c37r34, c37r36, c37r38, c37r39, c37r40, GA]; try omega))
              | with_reducible refine r_done ?_
              | with_reducible refine hr_done ?_
              | with_reducible refine s_go (by simp (disch := omega) only [ilt', g, jlt', c37r0, c37r1, c37r2, c37r3, c37r4, c37r5, c37r6, c37r7, c37r8, c37r9, c37r11, c37r13, c37r14, c37r15, c37r16, c37r17, c37r18, c37r19, c37r20, c37r21, c37r22, c37r23, c37r24, c37r26, c37r28, c37r29, c37r30, c37r31, c37r32, c37r33, c37r34, c37r36, c37r38, c37r39, c37r40, EV0, EV1, EV2, EV3, EV4, EV5, EV6, EV7, EV8, VALS, plug, ite_same, decide_true, decide_false, eq_self, ↓reduceIte, reduceCtorEq, Nat.reduceAdd, Nat.reduceEqDiff, Nat.reduceLT, Nat.reduceLeDiff, Nat.reduceMul, Nat.reduceSub, Nat.reduceDiv, Int.reduceToNat, Int.reduceAdd, Int.reduceSub, Int.reduceMul, Int.reduceNeg, Int.reduceEq, Int.reduceLT, Int.reduceLE]; with_reducible rfl) ?_
              | with_reducible refine h_go (by with_unfolding_all rfl) (by simp (disch := omega) only [ilt', g, jlt', c37r0, c37r1, c37r2, c37r3, c37r4, c37r5, c37r6, c37r7, c37r8, c37r9, c37r11, c37r13, c37r14, c37r15, c37r16, c37r17, c37r18, c37r19, c37r20, c37r21, c37r22, c37r23, c37r24, c37r26, c37r28, c37r29, c37r30, c37r31, c37r32, c37r33, c37r34, c37r36, c37r38, c37r39, c37r40, EV0, EV1, EV2, EV3, EV4, EV5, EV6, EV7, EV8, VALS, plug, ite_same, decide_true, decide_false, eq_self, ↓reduceIte, reduceCtorEq, Nat.reduceAdd, Nat.reduceEqDiff, Nat.reduceLT, Nat.reduceLeDiff, Nat.reduceMul, Nat.reduceSub, Nat.reduceDiv, Int.reduceToNat, Int.reduceAdd, Int.reduceSub, Int.reduceMul, Int.reduceNeg, Int.reduceEq, Int.reduceLT, Int.reduceLE]; with_reducible rfl) ?_
              | ((with_reducible refine chk_r ?_); refine r_callF (by simp only [CA, Nat.reduceEqDiff, ↓reduceIte]; rfl) (by exact rfl) (by simp only [CA, Nat.reduceEqDiff, ↓reduceIte]; rfl) rfl ?_)
              | ((with_reducible refine chk_h ?_); refine hr_callF (by simp only [CA, Nat.reduceEqDiff, ↓reduceIte]; rfl) (by exact rfl) (by simp only [CA, Nat.reduceEqDiff, ↓reduceIte]; rfl) rfl ?_)
              | ((with_reducible refine chk_h ?_); refine hr_app (by simp (disch := omega) only [ilt', g, jlt', c37r0, c37r1, c37r2, c37r3, c37r4, c37r5, c37r6, c37r7, c37r8, c37r9, c37r11, c37r13, c37r14, c37r15, c37r16, c37r17, c37r18, c37r19, c37r20, c37r21, c37r22, c37r23, c37r24, c37r26, c37r28, c37r29, c37r30, c37r31, c37r32, c37r33, c37r34, c37r36, c37r38, c37r39, c37r40, EV0, EV1, EV2, EV3, EV4, EV5, EV6, EV7, EV8, VALS, plug, ite_same, decide_true, decide_false, eq_self, ↓reduceIte, reduceCtorEq, Nat.reduceAdd, Nat.reduceEqDiff, Nat.reduceLT, Nat.reduceLeDiff, Nat.reduceMul, Nat.reduceSub, Nat.reduceDiv, Int.reduceToNat, Int.reduceAdd, Int.reduceSub, Int.reduceMul, Int.reduceNeg, Int.reduceEq, Int.reduceLT, Int.reduceLE]; with_reducible rfl) rfl ?_)
              | (with_reducible refine k_condP (by simp only [GA, Nat.reduceEqDiff, ↓reduceIte]; rfl) (by first | (simp only [BO]; rfl) | rfl) (fun ht => ?_) (fun ht => ?_) <;> try (first | exact False.elim ht | exact absurd rfl ht | exact absurd trivial ht | exact Bool.noConfusion ht))
              | (with_reducible refine k_ret ?_; repeat with_reducible (first | refine ret_thru ?_ | refine ret_blk ?_ | refine fin ?_))
              | (with_reducible refine k_exit ?_; repeat with_reducible (first | refine thru ?_ | refine out_blk ?_ | refine pass (by decide) ?_))
              | (refine post1 ?_; simp only [GA, Nat.reduceEqDiff, ↓reduceIte])
              | (refine post2 ?_; simp only [GA, Nat.reduceEqDiff, ↓reduceIte])
              | (refine post3 ?_; simp only [GA, Nat.reduceEqDiff, ↓reduceIte])
              | (refine postc (by simp only [GA, Nat.reduceEqDiff, ↓reduceIte]; rfl) (by simp (disch := omega) only [ilt', g, jlt', c37r0, c37r1, c37r2, c37r3, c37r4, c37r5, c37r6, c37r7, c37r8, c37r9, c37r11, c37r13, c37r14, c37r15, c37r16, c37r17, c37r18, c37r19, c37r20, c37r21, c37r22, c37r23, c37r24, c37r26, c37r28, c37r29, c37r30, c37r31, c37r32, c37r33, c37r34, c37r36, c37r38, c37r39, c37r40, EV0, EV1, EV2, EV3, EV4, EV5, EV6, EV7, EV8, VALS, plug, ite_same, decide_true, decide_false, eq_self, ↓reduceIte, reduceCtorEq, Nat.reduceAdd, Nat.reduceEqDiff, Nat.reduceLT, Nat.reduceLeDiff, Nat.reduceMul, Nat.reduceSub, Nat.reduceDiv, Int.reduceToNat, Int.reduceAdd, Int.reduceSub, Int.reduceMul, Int.reduceNeg, Int.reduceEq, Int.reduceLT, Int.reduceLE]; rfl) ?_)
              | refine post0 ?_
            exact ⟨ilt, (), (by simp only [Am.keep, List.map_cons, List.map_nil, GA, Nat.reduceEqDiff, ↓reduceIte]; try rfl), M.succ (fun i h0 hi => My i h0 (by omega))⟩
        · obtain rfl : i = rows.length := by omega
          have ilt' : ¬ (rows.length : Int) < rows.length := by omega
          have ce := ck_end hv ix nd M (emp_all.trans empB_iff.symm) (show rows.flatten.length < l.length ↔ (rows.flatten.length : Int) < l.length by omega)
          rw [ce]
          generalize empB rows rows.length = X at *
          repeat' first
            | with_reducible refine k_seq ?_
            | with_reducible refine k_skip ?_
            | with_reducible refine k_blkS ?_
            | with_reducible refine k_blkR ?_
            | with_reducible refine k_blkC ?_
            | with_reducible refine k_blkH ?_
            | with_reducible refine k_blkB ?_
            | with_reducible refine k_blkK ?_
            | with_reducible refine k_blkE ?_
            | with_reducible refine k_reg ?_
            | with_reducible refine k_head (by with_unfolding_all rfl) ?_
            | with_reducible refine k_headS ?_
            | (with_reducible refine SepK.mk ?_ ?_; (refine sepQ_P ?_; simp [sepQ, sepG, AOp.late, AOp.free, AOp.xs, AOp.isAl, tokNe, AV.tok, stS_get, strip, AX.val, c37r0, c37r1, c37r2, c37r3, c37r4, c37r5, c37r6, c37r7, c37r8, c37r9, c37r11, c37r13, c37r14, c37r15, c37r16, c37r17, c37r18, c37r19, c37r20, c37r21, c37r22, c37r23, c37r24, c37r26, c37r28, c37r29, c37r30, c37r31, c37r32, c37r33, c37r34, c37r36, c37r38, c37r39, c37r40, GA]; try omega))
            | with_reducible refine r_done ?_
            | with_reducible refine hr_done ?_
            | with_reducible refine s_go (by simp (disch := omega) only [ilt', c37r0, c37r1, c37r2, c37r3, c37r4, c37r5, c37r6, c37r7, c37r8, c37r9, c37r11, c37r13, c37r14, c37r15, c37r16, c37r17, c37r18, c37r19, c37r20, c37r21, c37r22, c37r23, c37r24, c37r26, c37r28, c37r29, c37r30, c37r31, c37r32, c37r33, c37r34, c37r36, c37r38, c37r39, c37r40, EV0, EV1, EV2, EV3, EV4, EV5, EV6, EV7, EV8, VALS, plug, ite_same, decide_true, decide_false, eq_self, ↓reduceIte, reduceCtorEq, Nat.reduceAdd, Nat.reduceEqDiff, Nat.reduceLT, Nat.reduceLeDiff, Nat.reduceMul, Nat.reduceSub, Nat.reduceDiv, Int.reduceToNat, Int.reduceAdd, Int.reduceSub, Int.reduceMul, Int.reduceNeg, Int.reduceEq, Int.reduceLT, Int.reduceLE]; with_reducible rfl) ?_
            | with_reducible refine h_go (by with_unfolding_all rfl) (by simp (disch := omega) only [ilt', c37r0, c37r1, c37r2, c37r3, c37r4, c37r5, c37r6, c37r7, c37r8, c37r9, c37r11, c37r13, c37r14, c37r15, c37r16, c37r17, c37r18, c37r19, c37r20, c37r21, c37r22, c37r23, c37r24, c37r26, c37r28, c37r29, c37r30, c37r31, c37r32, c37r33, c37r34, c37r36, c37r38, c37r39, c37r40, EV0, EV1, EV2, EV3, EV4, EV5, EV6, EV7, EV8, VALS, plug, ite_same, decide_true, decide_false, eq_self, ↓reduceIte, reduceCtorEq, Nat.reduceAdd, Nat.reduceEqDiff, Nat.reduceLT, Nat.reduceLeDiff, Nat.reduceMul, Nat.reduceSub, Nat.reduceDiv, Int.reduceToNat, Int.reduceAdd, Int.reduceSub, Int.reduceMul, Int.reduceNeg, Int.reduceEq, Int.reduceLT, Int.reduceLE]; with_reducible rfl) ?_
            | ((with_reducible refine chk_r ?_); refine r_callF (by simp only [CA, Nat.reduceEqDiff, ↓reduceIte]; rfl) (by exact rfl) (by simp only [CA, Nat.reduceEqDiff, ↓reduceIte]; rfl) rfl ?_)
            | ((with_reducible refine chk_h ?_); refine hr_callF (by simp only [CA, Nat.reduceEqDiff, ↓reduceIte]; rfl) (by exact rfl) (by simp only [CA, Nat.reduceEqDiff, ↓reduceIte]; rfl) rfl ?_)
            | ((with_reducible refine chk_h ?_); refine hr_app (by simp (disch := omega) only [ilt', c37r0, c37r1, c37r2, c37r3, c37r4, c37r5, c37r6, c37r7, c37r8, c37r9, c37r11, c37r13, c37r14, c37r15, c37r16, c37r17, c37r18, c37r19, c37r20, c37r21, c37r22, c37r23, c37r24, c37r26, c37r28, c37r29, c37r30, c37r31, c37r32, c37r33, c37r34, c37r36, c37r38, c37r39, c37r40, EV0, EV1, EV2, EV3, EV4, EV5, EV6, EV7, EV8, VALS, plug, ite_same, decide_true, decide_false, eq_self, ↓reduceIte, reduceCtorEq, Nat.reduceAdd, Nat.reduceEqDiff, Nat.reduceLT, Nat.reduceLeDiff, Nat.reduceMul, Nat.reduceSub, Nat.reduceDiv, Int.reduceToNat, Int.reduceAdd, Int.reduceSub, Int.reduceMul, Int.reduceNeg, Int.reduceEq, Int.reduceLT, Int.reduceLE]; with_reducible rfl) rfl ?_)
            | (with_reducible refine k_condP (by simp only [GA, Nat.reduceEqDiff, ↓reduceIte]; rfl) (by first | (simp only [BO]; rfl) | rfl) (fun ht => ?_) (fun ht => ?_) <;> try (first | exact False.elim ht | exact absurd rfl ht | exact absurd trivial ht | exact Bool.noConfusion ht))
            | (with_reducible refine k_ret ?_; repeat with_reducible (first | refine ret_thru ?_ | refine ret_blk ?_ | refine fin ?_))
            | (with_reducible refine k_exit ?_; repeat with_reducible (first | refine thru ?_ | refine out_blk ?_ | refine pass (by decide) ?_))
            | (refine post1 ?_; simp only [GA, Nat.reduceEqDiff, ↓reduceIte])
            | (refine post2 ?_; simp only [GA, Nat.reduceEqDiff, ↓reduceIte])
            | (refine post3 ?_; simp only [GA, Nat.reduceEqDiff, ↓reduceIte])
            | (refine postc (by simp only [GA, Nat.reduceEqDiff, ↓reduceIte]; rfl) (by simp (disch := omega) only [ilt', c37r0, c37r1, c37r2, c37r3, c37r4, c37r5, c37r6, c37r7, c37r8, c37r9, c37r11, c37r13, c37r14, c37r15, c37r16, c37r17, c37r18, c37r19, c37r20, c37r21, c37r22, c37r23, c37r24, c37r26, c37r28, c37r29, c37r30, c37r31, c37r32, c37r33, c37r34, c37r36, c37r38, c37r39, c37r40, EV0, EV1, EV2, EV3, EV4, EV5, EV6, EV7, EV8, VALS, plug, ite_same, decide_true, decide_false, eq_self, ↓reduceIte, reduceCtorEq, Nat.reduceAdd, Nat.reduceEqDiff, Nat.reduceLT, Nat.reduceLeDiff, Nat.reduceMul, Nat.reduceSub, Nat.reduceDiv, Int.reduceToNat, Int.reduceAdd, Int.reduceSub, Int.reduceMul, Int.reduceNeg, Int.reduceEq, Int.reduceLT, Int.reduceLE]; rfl) ?_)
            | refine post0 ?_
          all_goals (refine ends_eq (i_eq ?_); clear hr hs q23 ix nd R M ce hi; cases X <;> by_cases hz : (rows.flatten.length : Int) < l.length <;> first | (simp only [hz]; rfl) | (simp [hz]; done) | (exfalso; first | (simp only [] at ht; omega) | (simp_all; done) | (simp_all; omega)))
  · rw [vl_f hv] at q23
    rw [ck_err hv]
    repeat' first
      | with_reducible refine k_seq ?_
      | with_reducible refine k_skip ?_
      | with_reducible refine k_blkS ?_
      | with_reducible refine k_blkR ?_
      | with_reducible refine k_blkC ?_
      | with_reducible refine k_blkH ?_
      | with_reducible refine k_blkB ?_
      | with_reducible refine k_blkK ?_
      | with_reducible refine k_blkE ?_
      | with_reducible refine k_reg ?_
      | with_reducible refine k_head (by with_unfolding_all rfl) ?_
      | with_reducible refine k_headS ?_
      | (with_reducible refine SepK.mk ?_ ?_; (refine sepQ_P ?_; simp [sepQ, sepG, AOp.late, AOp.free, AOp.xs, AOp.isAl, tokNe, AV.tok, stS_get, strip, AX.val, c37r0, c37r1, c37r2, c37r3, c37r4, c37r5, c37r6, c37r7, c37r8, c37r9, c37r11, c37r13, c37r14, c37r15, c37r16, c37r17, c37r18, c37r19, c37r20, c37r21, c37r22, c37r23, c37r24, c37r26, c37r28, c37r29, c37r30, c37r31, c37r32, c37r33, c37r34, c37r36, c37r38, c37r39, c37r40, GA]; try omega))
      | with_reducible refine r_done ?_
      | with_reducible refine hr_done ?_
      | with_reducible refine s_go (by simp (disch := omega) only [c37r0, c37r1, c37r2, c37r3, c37r4, c37r5, c37r6, c37r7, c37r8, c37r9, c37r11, c37r13, c37r14, c37r15, c37r16, c37r17, c37r18, c37r19, c37r20, c37r21, c37r22, c37r23, c37r24, c37r26, c37r28, c37r29, c37r30, c37r31, c37r32, c37r33, c37r34, c37r36, c37r38, c37r39, c37r40, EV0, EV1, EV2, EV3, EV4, EV5, EV6, EV7, EV8, VALS, plug, ite_same, decide_true, decide_false, eq_self, ↓reduceIte, reduceCtorEq, Nat.reduceAdd, Nat.reduceEqDiff, Nat.reduceLT, Nat.reduceLeDiff, Nat.reduceMul, Nat.reduceSub, Nat.reduceDiv, Int.reduceToNat, Int.reduceAdd, Int.reduceSub, Int.reduceMul, Int.reduceNeg, Int.reduceEq, Int.reduceLT, Int.reduceLE]; with_reducible rfl) ?_
      | with_reducible refine h_go (by with_unfolding_all rfl) (by simp (disch := omega) only [c37r0, c37r1, c37r2, c37r3, c37r4, c37r5, c37r6, c37r7, c37r8, c37r9, c37r11, c37r13, c37r14, c37r15, c37r16, c37r17, c37r18, c37r19, c37r20, c37r21, c37r22, c37r23, c37r24, c37r26, c37r28, c37r29, c37r30, c37r31, c37r32, c37r33, c37r34, c37r36, c37r38, c37r39, c37r40, EV0, EV1, EV2, EV3, EV4, EV5, EV6, EV7, EV8, VALS, plug, ite_same, decide_true, decide_false, eq_self, ↓reduceIte, reduceCtorEq, Nat.reduceAdd, Nat.reduceEqDiff, Nat.reduceLT, Nat.reduceLeDiff, Nat.reduceMul, Nat.reduceSub, Nat.reduceDiv, Int.reduceToNat, Int.reduceAdd, Int.reduceSub, Int.reduceMul, Int.reduceNeg, Int.reduceEq, Int.reduceLT, Int.reduceLE]; with_reducible rfl) ?_
      | ((with_reducible refine chk_r ?_); refine r_callF (by simp only [CA, Nat.reduceEqDiff, ↓reduceIte]; rfl) (by exact rfl) (by simp only [CA, Nat.reduceEqDiff, ↓reduceIte]; rfl) rfl ?_)
      | ((with_reducible refine chk_h ?_); refine hr_callF (by simp only [CA, Nat.reduceEqDiff, ↓reduceIte]; rfl) (by exact rfl) (by simp only [CA, Nat.reduceEqDiff, ↓reduceIte]; rfl) rfl ?_)
      | ((with_reducible refine chk_r ?_); refine r_callP (by simp only [CA, Nat.reduceEqDiff, ↓reduceIte]; rfl) (by simp only [CA, Nat.reduceEqDiff, ↓reduceIte]; rfl) (by first | exact q23 _) rfl ?_)
      | ((with_reducible refine chk_h ?_); refine hr_callP (by simp only [CA, Nat.reduceEqDiff, ↓reduceIte]; rfl) (by simp only [CA, Nat.reduceEqDiff, ↓reduceIte]; rfl) (by first | exact q23 _) rfl ?_)
      | ((with_reducible refine chk_h ?_); refine hr_callP1 (by simp only [CA, Nat.reduceEqDiff, ↓reduceIte]; rfl) (by simp only [CA, Nat.reduceEqDiff, ↓reduceIte]; rfl) (by simp (disch := omega) only [CA, Nat.reduceEqDiff, ↓reduceIte, firstTok_nil, firstTok_sl, firstTok_sl0, firstTok_i, firstTok_b, firstTok_ag, firstTok_p, firstTok_s]; rfl) (by first | exact q23 _) rfl ?_)
      | ((with_reducible refine chk_h ?_); refine hr_app (by simp (disch := omega) only [c37r0, c37r1, c37r2, c37r3, c37r4, c37r5, c37r6, c37r7, c37r8, c37r9, c37r11, c37r13, c37r14, c37r15, c37r16, c37r17, c37r18, c37r19, c37r20, c37r21, c37r22, c37r23, c37r24, c37r26, c37r28, c37r29, c37r30, c37r31, c37r32, c37r33, c37r34, c37r36, c37r38, c37r39, c37r40, EV0, EV1, EV2, EV3, EV4, EV5, EV6, EV7, EV8, VALS, plug, ite_same, decide_true, decide_false, eq_self, ↓reduceIte, reduceCtorEq, Nat.reduceAdd, Nat.reduceEqDiff, Nat.reduceLT, Nat.reduceLeDiff, Nat.reduceMul, Nat.reduceSub, Nat.reduceDiv, Int.reduceToNat, Int.reduceAdd, Int.reduceSub, Int.reduceMul, Int.reduceNeg, Int.reduceEq, Int.reduceLT, Int.reduceLE]; with_reducible rfl) rfl ?_)
      | (with_reducible refine k_condP (by simp only [GA, Nat.reduceEqDiff, ↓reduceIte]; rfl) (by first | (simp only [BO]; rfl) | rfl) (fun ht => ?_) (fun ht => ?_) <;> try (first | exact False.elim ht | exact absurd rfl ht | exact absurd trivial ht | exact Bool.noConfusion ht))
      | (with_reducible refine k_ret ?_; repeat with_reducible (first | refine ret_thru ?_ | refine ret_blk ?_ | refine fin ?_))
      | (with_reducible refine k_exit ?_; repeat with_reducible (first | refine thru ?_ | refine out_blk ?_ | refine pass (by decide) ?_))
      | (refine post1 ?_; simp only [GA, Nat.reduceEqDiff, ↓reduceIte])
      | (refine post2 ?_; simp only [GA, Nat.reduceEqDiff, ↓reduceIte])
      | (refine post3 ?_; simp only [GA, Nat.reduceEqDiff, ↓reduceIte])
      | (refine postc (by simp only [GA, Nat.reduceEqDiff, ↓reduceIte]; rfl) (by simp (disch := omega) only [c37r0, c37r1, c37r2, c37r3, c37r4, c37r5, c37r6, c37r7, c37r8, c37r9, c37r11, c37r13, c37r14, c37r15, c37r16, c37r17, c37r18, c37r19, c37r20, c37r21, c37r22, c37r23, c37r24, c37r26, c37r28, c37r29, c37r30, c37r31, c37r32, c37r33, c37r34, c37r36, c37r38, c37r39, c37r40, EV0, EV1, EV2, EV3, EV4, EV5, EV6, EV7, EV8, VALS, plug, ite_same, decide_true, decide_false, eq_self, ↓reduceIte, reduceCtorEq, Nat.reduceAdd, Nat.reduceEqDiff, Nat.reduceLT, Nat.reduceLeDiff, Nat.reduceMul, Nat.reduceSub, Nat.reduceDiv, Int.reduceToNat, Int.reduceAdd, Int.reduceSub, Int.reduceMul, Int.reduceNeg, Int.reduceEq, Int.reduceLT, Int.reduceLE]; rfl) ?_)
      | refine post0 ?_
    all_goals first | exact ends_of | exact ends_eq rfl
end Go.Proofs.Ytjncfpfgobojpaa
set_option linter.unusedVariables false
set_option linter.unusedSimpArgs false
namespace Go.Proofs.Ytjncfpfgobojpaa
open Go Go.Am Go.Proofs Go.Sort
/-! ### BarrelChecks -/
theorem fk_small {rows : List (List Int)} (hr : ∀ i, i < rows.length → (rI rows i).length ≤ 60) : ∀ k, k ≤ rows.length → (fk rows k).length ≤ 60 * k
  | 0, _ => by simp [fk]
  | k + 1, h => by
    have := fk_small hr k (by omega)
    have := hr k (by omega)
    rw [fk_succ (by omega), List.length_append]
    omega
theorem lg_no {rows : List (List Int)} (h : ¬ lgL rows) : rows.length ≤ 60 ∧ (∀ i, i < rows.length → (rI rows i).length ≤ 60) ∧ rows.flatten.length ≤ 1000000 := by
  unfold lgL at h
  simp only [not_or, not_exists, not_and, Nat.not_lt] at h
  refine ⟨h.2, h.1, ?_⟩
  have := fk_small h.1 rows.length (Nat.le_refl _)
  rw [fk_all] at this
  omega
theorem pc10 (l : List B) (hl : l.length ≤ 9223372036854775807) (rows : List (List Int)) (hn : rows.length ≤ 9223372036854775807) (hr : ∀ r ∈ rows, r.length ≤ 9223372036854775807) : PC Try.prog 10 [vB l, vR rows] (.b true) := by
  refine pc_fn fn10 (by simp only [AV.plains, AV.plain, il_plain, bl_plain, Bool.and_true, Bool.true_and, Bool.and_self, flB_plain, vR_plain]) (by simp only [AV.plains, AV.plain, il_plain, bl_plain, Bool.and_true, Bool.true_and, Bool.and_self, flB_plain, vR_plain]) (Nat.le_of_ble_eq_true rfl) ?_
  rw [initSt2]
  have q16 := pc16 l hl 50
  have q35 := pc35 rows hn hr
  by_cases c1 : (50 : Int) < l.length
  · repeat' first
      | with_reducible refine k_seq ?_
      | with_reducible refine k_skip ?_
      | with_reducible refine k_blkS ?_
      | with_reducible refine k_blkR ?_
      | with_reducible refine k_blkC ?_
      | with_reducible refine k_blkH ?_
      | with_reducible refine k_blkB ?_
      | with_reducible refine k_blkK ?_
      | with_reducible refine k_blkE ?_
      | with_reducible refine k_reg ?_
      | with_reducible refine r_done ?_
      | with_reducible refine s_go (by simp (disch := omega) only [c1, c10r0, c10r1, c10r2, c10r3, EV0, EV1, EV2, EV3, EV4, EV5, EV6, EV7, EV8, VALS, plug, ite_same, decide_true, decide_false, eq_self, ↓reduceIte, reduceCtorEq, Nat.reduceAdd, Nat.reduceEqDiff, Nat.reduceLT, Nat.reduceLeDiff, Nat.reduceMul, Nat.reduceSub, Nat.reduceDiv, Int.reduceToNat, Int.reduceAdd, Int.reduceSub, Int.reduceMul, Int.reduceNeg, Int.reduceEq, Int.reduceLT, Int.reduceLE]; with_reducible rfl) ?_
      | ((with_reducible refine chk_r ?_); refine r_callF (by simp only [CA, Nat.reduceEqDiff, ↓reduceIte]; rfl) (by exact rfl) (by simp only [CA, Nat.reduceEqDiff, ↓reduceIte]; rfl) rfl ?_)
      | ((with_reducible refine chk_r ?_); refine r_callP (by simp only [CA, Nat.reduceEqDiff, ↓reduceIte]; rfl) (by simp only [CA, Nat.reduceEqDiff, ↓reduceIte]; rfl) (by first | exact q16 _ | exact q35 _ | exact pc17 _) rfl ?_)
      | ((with_reducible refine chk_r ?_); refine r_callG (by simp only [CA, Nat.reduceEqDiff, ↓reduceIte]; rfl) (by simp only [CA, Nat.reduceEqDiff, ↓reduceIte]; rfl) (by simp only [CA, Nat.reduceEqDiff, ↓reduceIte]; rfl) (by intro hg; (try simp only [BO] at hg); first | exact q16 _ | exact q35 _ | exact pc17 _) rfl ?_)
      | (with_reducible refine k_condP (by simp only [GA, Nat.reduceEqDiff, ↓reduceIte]; rfl) (by first | (simp only [BO]; rfl) | rfl) (fun ht => ?_) (fun ht => ?_) <;> try (first | exact False.elim ht | exact absurd rfl ht | exact absurd trivial ht | exact Bool.noConfusion ht))
      | (with_reducible refine k_ret ?_; repeat with_reducible (first | refine ret_thru ?_ | refine ret_blk ?_ | refine fin ?_))
      | (with_reducible refine k_exit ?_; repeat with_reducible (first | refine thru ?_ | refine out_blk ?_ | refine pass (by decide) ?_))
      | (refine post1 ?_; simp only [GA, Nat.reduceEqDiff, ↓reduceIte])
      | (refine post2 ?_; simp only [GA, Nat.reduceEqDiff, ↓reduceIte])
      | (refine post3 ?_; simp only [GA, Nat.reduceEqDiff, ↓reduceIte])
      | (refine postc (by simp only [GA, Nat.reduceEqDiff, ↓reduceIte]; rfl) (by simp (disch := omega) only [c1, c10r0, c10r1, c10r2, c10r3, EV0, EV1, EV2, EV3, EV4, EV5, EV6, EV7, EV8, VALS, plug, ite_same, decide_true, decide_false, eq_self, ↓reduceIte, reduceCtorEq, Nat.reduceAdd, Nat.reduceEqDiff, Nat.reduceLT, Nat.reduceLeDiff, Nat.reduceMul, Nat.reduceSub, Nat.reduceDiv, Int.reduceToNat, Int.reduceAdd, Int.reduceSub, Int.reduceMul, Int.reduceNeg, Int.reduceEq, Int.reduceLT, Int.reduceLE]; rfl) ?_)
      | refine post0 ?_
    all_goals first | exact ends_of | exact ends_eq rfl
  · by_cases c2 : lgL rows
    · rw [lgB_t c2] at q35
      repeat' first
        | with_reducible refine k_seq ?_
        | with_reducible refine k_skip ?_
        | with_reducible refine k_blkS ?_
        | with_reducible refine k_blkR ?_
        | with_reducible refine k_blkC ?_
        | with_reducible refine k_blkH ?_
        | with_reducible refine k_blkB ?_
        | with_reducible refine k_blkK ?_
        | with_reducible refine k_blkE ?_
        | with_reducible refine k_reg ?_
        | with_reducible refine r_done ?_
        | with_reducible refine s_go (by simp (disch := omega) only [c1, c10r0, c10r1, c10r2, c10r3, EV0, EV1, EV2, EV3, EV4, EV5, EV6, EV7, EV8, VALS, plug, ite_same, decide_true, decide_false, eq_self, ↓reduceIte, reduceCtorEq, Nat.reduceAdd, Nat.reduceEqDiff, Nat.reduceLT, Nat.reduceLeDiff, Nat.reduceMul, Nat.reduceSub, Nat.reduceDiv, Int.reduceToNat, Int.reduceAdd, Int.reduceSub, Int.reduceMul, Int.reduceNeg, Int.reduceEq, Int.reduceLT, Int.reduceLE]; with_reducible rfl) ?_
        | ((with_reducible refine chk_r ?_); refine r_callF (by simp only [CA, Nat.reduceEqDiff, ↓reduceIte]; rfl) (by exact rfl) (by simp only [CA, Nat.reduceEqDiff, ↓reduceIte]; rfl) rfl ?_)
        | ((with_reducible refine chk_r ?_); refine r_callP (by simp only [CA, Nat.reduceEqDiff, ↓reduceIte]; rfl) (by simp only [CA, Nat.reduceEqDiff, ↓reduceIte]; rfl) (by first | exact q16 _ | exact q35 _ | exact pc17 _) rfl ?_)
        | ((with_reducible refine chk_r ?_); refine r_callG (by simp only [CA, Nat.reduceEqDiff, ↓reduceIte]; rfl) (by simp only [CA, Nat.reduceEqDiff, ↓reduceIte]; rfl) (by simp only [CA, Nat.reduceEqDiff, ↓reduceIte]; rfl) (by intro hg; (try simp only [BO] at hg); first | exact q16 _ | exact q35 _ | exact pc17 _) rfl ?_)
        | (with_reducible refine k_condP (by simp only [GA, Nat.reduceEqDiff, ↓reduceIte]; rfl) (by first | (simp only [BO]; rfl) | rfl) (fun ht => ?_) (fun ht => ?_) <;> try (first | exact False.elim ht | exact absurd rfl ht | exact absurd trivial ht | exact Bool.noConfusion ht))
        | (with_reducible refine k_ret ?_; repeat with_reducible (first | refine ret_thru ?_ | refine ret_blk ?_ | refine fin ?_))
        | (with_reducible refine k_exit ?_; repeat with_reducible (first | refine thru ?_ | refine out_blk ?_ | refine pass (by decide) ?_))
        | (refine post1 ?_; simp only [GA, Nat.reduceEqDiff, ↓reduceIte])
        | (refine post2 ?_; simp only [GA, Nat.reduceEqDiff, ↓reduceIte])
        | (refine post3 ?_; simp only [GA, Nat.reduceEqDiff, ↓reduceIte])
        | (refine postc (by simp only [GA, Nat.reduceEqDiff, ↓reduceIte]; rfl) (by simp (disch := omega) only [c1, c10r0, c10r1, c10r2, c10r3, EV0, EV1, EV2, EV3, EV4, EV5, EV6, EV7, EV8, VALS, plug, ite_same, decide_true, decide_false, eq_self, ↓reduceIte, reduceCtorEq, Nat.reduceAdd, Nat.reduceEqDiff, Nat.reduceLT, Nat.reduceLeDiff, Nat.reduceMul, Nat.reduceSub, Nat.reduceDiv, Int.reduceToNat, Int.reduceAdd, Int.reduceSub, Int.reduceMul, Int.reduceNeg, Int.reduceEq, Int.reduceLT, Int.reduceLE]; rfl) ?_)
        | refine post0 ?_
      all_goals first | exact ends_of | exact ends_eq rfl
    · rw [lgB_f c2] at q35
      obtain ⟨h1, h2, h3⟩ := lg_no c2
      have q36 := pc36 l hl rows h1 h2 h3
      have q37 := pc37 l hl rows h1 h2 h3
      generalize ck l rows = C at q36 q37
      repeat' first
        | with_reducible refine k_seq ?_
        | with_reducible refine k_skip ?_
        | with_reducible refine k_blkS ?_
        | with_reducible refine k_blkR ?_
        | with_reducible refine k_blkC ?_
        | with_reducible refine k_blkH ?_
        | with_reducible refine k_blkB ?_
        | with_reducible refine k_blkK ?_
        | with_reducible refine k_blkE ?_
        | with_reducible refine k_reg ?_
        | with_reducible refine r_done ?_
        | with_reducible refine s_go (by simp (disch := omega) only [c1, c10r0, c10r1, c10r2, c10r3, EV0, EV1, EV2, EV3, EV4, EV5, EV6, EV7, EV8, VALS, plug, ite_same, decide_true, decide_false, eq_self, ↓reduceIte, reduceCtorEq, Nat.reduceAdd, Nat.reduceEqDiff, Nat.reduceLT, Nat.reduceLeDiff, Nat.reduceMul, Nat.reduceSub, Nat.reduceDiv, Int.reduceToNat, Int.reduceAdd, Int.reduceSub, Int.reduceMul, Int.reduceNeg, Int.reduceEq, Int.reduceLT, Int.reduceLE]; with_reducible rfl) ?_
        | ((with_reducible refine chk_r ?_); refine r_callF (by simp only [CA, Nat.reduceEqDiff, ↓reduceIte]; rfl) (by exact rfl) (by simp only [CA, Nat.reduceEqDiff, ↓reduceIte]; rfl) rfl ?_)
        | ((with_reducible refine chk_r ?_); refine r_callP (by simp only [CA, Nat.reduceEqDiff, ↓reduceIte]; rfl) (by simp only [CA, Nat.reduceEqDiff, ↓reduceIte]; rfl) (by first | exact q16 _ | exact q35 _ | exact pc17 _ | exact q36 _ | exact q37 _) rfl ?_)
        | ((with_reducible refine chk_r ?_); refine r_callG (by simp only [CA, Nat.reduceEqDiff, ↓reduceIte]; rfl) (by simp only [CA, Nat.reduceEqDiff, ↓reduceIte]; rfl) (by simp only [CA, Nat.reduceEqDiff, ↓reduceIte]; rfl) (by intro hg; (try simp only [BO] at hg); first | exact q16 _ | exact q35 _ | exact pc17 _ | exact q36 _ | exact q37 _) rfl ?_)
        | (with_reducible refine k_condP (by simp only [GA, Nat.reduceEqDiff, ↓reduceIte]; rfl) (by first | (simp only [BO]; rfl) | rfl) (fun ht => ?_) (fun ht => ?_) <;> try (first | exact False.elim ht | exact absurd rfl ht | exact absurd trivial ht | exact Bool.noConfusion ht))
        | (with_reducible refine k_ret ?_; repeat with_reducible (first | refine ret_thru ?_ | refine ret_blk ?_ | refine fin ?_))
        | (with_reducible refine k_exit ?_; repeat with_reducible (first | refine thru ?_ | refine out_blk ?_ | refine pass (by decide) ?_))
        | (refine post1 ?_; simp only [GA, Nat.reduceEqDiff, ↓reduceIte])
        | (refine post2 ?_; simp only [GA, Nat.reduceEqDiff, ↓reduceIte])
        | (refine post3 ?_; simp only [GA, Nat.reduceEqDiff, ↓reduceIte])
        | (refine postc (by simp only [GA, Nat.reduceEqDiff, ↓reduceIte]; rfl) (by simp (disch := omega) only [c1, c10r0, c10r1, c10r2, c10r3, EV0, EV1, EV2, EV3, EV4, EV5, EV6, EV7, EV8, VALS, plug, ite_same, decide_true, decide_false, eq_self, ↓reduceIte, reduceCtorEq, Nat.reduceAdd, Nat.reduceEqDiff, Nat.reduceLT, Nat.reduceLeDiff, Nat.reduceMul, Nat.reduceSub, Nat.reduceDiv, Int.reduceToNat, Int.reduceAdd, Int.reduceSub, Int.reduceMul, Int.reduceNeg, Int.reduceEq, Int.reduceLT, Int.reduceLE]; rfl) ?_)
        | refine post0 ?_
      all_goals first | exact ends_of | exact ends_eq rfl
/-- a row of numbers, az an argument's cell -/
def eW (r : List Int) : List AV := [.vs r.length (fl eI r)]
theorem flW (rows : List (List Int)) : fl eW rows = rows.map rvI := by
  induction rows with
  | nil => rfl
  | cons r rows ih => rw [fl_cons, ih]; simp only [eW, flI]; rfl
theorem decW (r : List AV) (h : Shps [.sl [.i .i64]] r) : ∃ x : List Int, r = eW x ∧ x.length ≤ 9223372036854775807 := by
  obtain ⟨a, r, rfl, h1, h⟩ := shps_cons h
  obtain rfl := shps_nil h
  obtain ⟨x, rfl, hx, _⟩ := sl_dec eI (fun _ => True) decI h1
  exact ⟨x, rfl, hx⟩
theorem pc10' (l : List B) (hl : l.length ≤ 9223372036854775807) (rows : List (List Int)) (hn : rows.length ≤ 9223372036854775807) (hr : ∀ r ∈ rows, r.length ≤ 9223372036854775807) : PC Try.prog 10 [vB l, .vs rows.length (fl eW rows)] (.b true) := by
  rw [flW]; exact pc10 l hl rows hn hr
end Go.Proofs.Ytjncfpfgobojpaa
