import Derived.Test.YtbhkbaapfioijaaTmR
set_option linter.unusedVariables false
set_option linter.unusedSimpArgs false
namespace Go.Proofs.Ytbhkbaapfioijaa
open Go Go.Am Go.Proofs Go.Sort

theorem flT_snoc (l : List T) (t : T) : fl eT l ++ [.i .i64 t.num, .i .i64 t.side, .i .i64 t.len, .i .i64 t.col] = fl eT (l ++ [t]) := fl_snoc l t
theorem eT_one (t : T) : (eT t).all AV.one = true := rfl
theorem flT_one (l : List T) : (fl eT l).all AV.one = true := fl_one eT_one l
theorem mc_len (l : List T) (tol : Int) : ∀ k, (mc l tol k).length ≤ k * l.length
  | 0 => by simp [mc]
  | k + 1 => by
    rw [mc_succ, List.length_append, Nat.succ_mul]
    have := mc_len l tol k
    have := mt_len l tol _ (sideL l 1 (k + 1 : Nat)) (sideL l 2 (k + 1 : Nat)) (Nat.le_refl _)
    have := sideL_len l 1 (k + 1 : Nat)
    omega
theorem mostR {l : List T} {tol : Int} (hv : VL l) (ht : 0 ≤ tol ∧ tol ≤ 1000) : PC Try.prog 16 [vT l, .i .i64 tol] (.tu [.i .i64 ((matchL l tol).length : Int), .i .i64 0]) := by
  have := pc16 l (by have := hv.len; omega) tol
  unfold matR at this
  rw [asked_yes hv ht] at this
  rwa [if_pos rfl] at this
theorem long_fact {l : List T} {t : T} {tol : Int} (hv : VL l) (h4 : l.length ≤ 40) (ht : 0 ≤ tol ∧ tol ≤ 1000) : ∃ (g e : Int) (V : Bool), PC Try.prog 16 [vT (l ++ [t]), .i .i64 tol] (.tu [.i .i64 g, .i .i64 e]) ∧ PC Try.prog 14 [vT (l ++ [t])] (.b V) ∧
    (V = true → e = 0 ∧ (g = (matchL l tol).length ∨ g = (matchL l tol).length + 1)) ∧ (V = false → e = 40) := by
  have hl : (l ++ [t]).length ≤ 9223372036854775807 := by simp; omega
  refine ⟨_, _, _, pc16 _ hl tol, pc14 _ hl, fun hV => ?_, fun hV => ?_⟩
  · have hw := vl_iff.1 hV
    have := more_long hv hw tol
    unfold matR
    rw [asked_yes hw ht, if_pos rfl]
    exact ⟨rfl, by omega⟩
  · exact asked_bad fun h => by rw [vl_t h] at hV; cases hV

set_option maxHeartbeats 1000000 in
theorem pc4 (l : List T) (hl : l.length ≤ 9223372036854775807) (t : T) (tol y : Int) : PC Try.prog 4 [vT l, .ag (eT t), .ag [.i .i64 tol, .i .i64 y]] (.b true) := by
  simp only [eT]
  refine pc_fn fn4 (by simp only [AV.plains, AV.plain, il_plain, bl_plain, Bool.and_true, Bool.true_and, Bool.and_self, flT_plain]) (by simp only [AV.plains, AV.plain, il_plain, bl_plain, Bool.and_true, Bool.true_and, Bool.and_self, flT_plain]) (Nat.le_of_ble_eq_true rfl) ?_
  rw [initSt3]
  have q23 := pc23 l hl 40
  have q14 := pc14 l hl
  obtain ⟨w, hw, hw2⟩ : ∃ w : Nat, (IntKind.u64.wrap y).tmod 100 = (w : Int) ∧ w < 100 := by
    have u0 : 0 ≤ IntKind.u64.wrap y := by
      have : IntKind.u64.wrap y = y % 18446744073709551616 := rfl
      rw [this]; exact Int.emod_nonneg _ (by decide)
    have a := Int.tmod_nonneg 100 u0
    have b := Int.tmod_lt_of_pos (IntKind.u64.wrap y) (show (0 : Int) < 100 by decide)
    exact ⟨((IntKind.u64.wrap y).tmod 100).toNat, by omega, by omega⟩
  by_cases C : l.length ≤ 40 ∧ VL l ∧ 0 ≤ tol ∧ tol ≤ 1000
  · obtain ⟨c1, hv, c2, c3⟩ := C
    rw [vl_t hv] at q14
    have q16 := mostR hv ⟨c2, c3⟩
    have qt := mostR (VL_tn hv w) ⟨c2, c3⟩
    rw [more_tn hv w tol] at qt
    have qu : tol < 1000 → _ := fun h => mostR hv (tol := tol + 1) ⟨by omega, by omega⟩
    have hm1 := more_tol hv tol
    have hA : (matchL l tol).length ≤ 9 * l.length := mc_len l tol 9
    obtain ⟨g, e, V, ql, qv, k1, k2⟩ := long_fact (t := t) hv c1 ⟨c2, c3⟩
    generalize (matchL l tol).length = A at *
    generalize (matchL l (tol + 1)).length = B at *
    repeat' first
      | with_reducible refine k_seq ?_
      | with_reducible refine k_skip ?_
      | with_reducible refine k_blkS ?_
      | with_reducible refine k_blkR ?_
      | with_reducible refine k_blkC ?_
      | with_reducible refine k_blkH ?_
      | with_reducible refine k_blkB ?_
      | with_reducible refine k_blkK ?_
      | with_reducible refine k_blkE ?_
      | with_reducible refine k_reg ?_
      | with_reducible refine k_head (by with_unfolding_all rfl) ?_
      | with_reducible refine k_headS ?_
      | (with_reducible refine SepK.mk ?_ ?_; (refine sepQ_P ?_; simp [sepQ, sepG, AOp.late, AOp.free, AOp.xs, AOp.isAl, tokNe, AV.tok, stS_get, strip, AX.val, c4r0, c4r1, c4r2, c4r3, c4r4, c4r5, c4r6, c4r7, c4r8, c4r9, c4r10, c4r11, c4r13, c4r14, c4r15, c4r16, c4r17, c4r18, c4r19, c4r20, c4r21, c4r22, c4r23, c4r24, c4r25, c4r26, GA]; try omega))
      | with_reducible refine r_done ?_
      | with_reducible refine hr_done ?_
      | with_reducible refine s_go (by simp (disch := omega) only [hw, c4r0, c4r1, c4r2, c4r3, c4r4, c4r5, c4r6, c4r7, c4r8, c4r9, c4r10, c4r11, c4r13, c4r14, c4r15, c4r16, c4r17, c4r18, c4r19, c4r20, c4r21, c4r22, c4r23, c4r24, c4r25, c4r26, EV0, EV1, EV2, EV3, EV4, EV5, EV6, EV7, EV8, VALS, plug, ite_same, decide_true, decide_false, eq_self, ↓reduceIte, reduceCtorEq, Nat.reduceAdd, Nat.reduceEqDiff, Nat.reduceLT, Nat.reduceLeDiff, Nat.reduceMul, Nat.reduceSub, Nat.reduceDiv, Int.reduceToNat, Int.reduceAdd, Int.reduceSub, Int.reduceMul, Int.reduceNeg, Int.reduceEq, Int.reduceLT, Int.reduceLE]; with_reducible rfl) ?_
      | with_reducible refine h_go (by with_unfolding_all rfl) (by simp (disch := omega) only [hw, c4r0, c4r1, c4r2, c4r3, c4r4, c4r5, c4r6, c4r7, c4r8, c4r9, c4r10, c4r11, c4r13, c4r14, c4r15, c4r16, c4r17, c4r18, c4r19, c4r20, c4r21, c4r22, c4r23, c4r24, c4r25, c4r26, EV0, EV1, EV2, EV3, EV4, EV5, EV6, EV7, EV8, VALS, plug, ite_same, decide_true, decide_false, eq_self, ↓reduceIte, reduceCtorEq, Nat.reduceAdd, Nat.reduceEqDiff, Nat.reduceLT, Nat.reduceLeDiff, Nat.reduceMul, Nat.reduceSub, Nat.reduceDiv, Int.reduceToNat, Int.reduceAdd, Int.reduceSub, Int.reduceMul, Int.reduceNeg, Int.reduceEq, Int.reduceLT, Int.reduceLE]; with_reducible rfl) ?_
      | ((with_reducible refine chk_r ?_); refine r_callF (by simp only [CA, Nat.reduceEqDiff, ↓reduceIte]; rfl) (by exact rfl) (by simp only [CA, Nat.reduceEqDiff, ↓reduceIte]; rfl) rfl ?_)
      | ((with_reducible refine chk_h ?_); refine hr_callF (by simp only [CA, Nat.reduceEqDiff, ↓reduceIte]; rfl) (by exact rfl) (by simp only [CA, Nat.reduceEqDiff, ↓reduceIte]; rfl) rfl ?_)
      | ((with_reducible refine chk_r ?_); refine r_callP (by simp only [CA, Nat.reduceEqDiff, ↓reduceIte]; rfl) (by simp only [CA, Nat.reduceEqDiff, ↓reduceIte]; rfl) (by first | exact q23 _ | exact q14 _ | exact pc24 _ | exact q16 _) rfl ?_)
      | ((with_reducible refine chk_h ?_); refine hr_callP (by simp only [CA, Nat.reduceEqDiff, ↓reduceIte]; rfl) (by simp only [CA, Nat.reduceEqDiff, ↓reduceIte]; rfl) (by first | exact q23 _ | exact q14 _ | exact pc24 _ | exact q16 _) rfl ?_)
      | ((with_reducible refine chk_h ?_); refine hr_callP1 (by simp only [CA, Nat.reduceEqDiff, ↓reduceIte]; rfl) (by simp only [CA, Nat.reduceEqDiff, ↓reduceIte]; rfl) (by simp (disch := omega) only [CA, Nat.reduceEqDiff, ↓reduceIte, firstTok_nil, firstTok_sl, firstTok_sl0, firstTok_i, firstTok_b, firstTok_ag, firstTok_p, firstTok_s]; rfl) (by first | exact q23 _ | exact q14 _ | exact pc24 _ | exact q16 _) rfl ?_)
      | ((with_reducible refine chk_r ?_); refine r_callG (by simp only [CA, Nat.reduceEqDiff, ↓reduceIte]; rfl) (by simp only [CA, Nat.reduceEqDiff, ↓reduceIte]; rfl) (by simp only [CA, Nat.reduceEqDiff, ↓reduceIte]; rfl) (by intro hg; (try simp only [BO] at hg); first | exact q23 _ | exact q14 _ | exact pc24 _ | exact q16 _) rfl ?_)
      | ((with_reducible refine chk_h ?_); refine hr_callG (by simp only [CA, Nat.reduceEqDiff, ↓reduceIte]; rfl) (by simp only [CA, Nat.reduceEqDiff, ↓reduceIte]; rfl) (by simp only [CA, Nat.reduceEqDiff, ↓reduceIte]; rfl) (by intro hg; (try simp only [BO] at hg); first | exact q23 _ | exact q14 _ | exact pc24 _ | exact q16 _) rfl ?_)
      | ((with_reducible refine chk_h ?_); refine hr_app (by simp (disch := omega) only [hw, c4r0, c4r1, c4r2, c4r3, c4r4, c4r5, c4r6, c4r7, c4r8, c4r9, c4r10, c4r11, c4r13, c4r14, c4r15, c4r16, c4r17, c4r18, c4r19, c4r20, c4r21, c4r22, c4r23, c4r24, c4r25, c4r26, EV0, EV1, EV2, EV3, EV4, EV5, EV6, EV7, EV8, VALS, plug, ite_same, decide_true, decide_false, eq_self, ↓reduceIte, reduceCtorEq, Nat.reduceAdd, Nat.reduceEqDiff, Nat.reduceLT, Nat.reduceLeDiff, Nat.reduceMul, Nat.reduceSub, Nat.reduceDiv, Int.reduceToNat, Int.reduceAdd, Int.reduceSub, Int.reduceMul, Int.reduceNeg, Int.reduceEq, Int.reduceLT, Int.reduceLE]; with_reducible rfl) rfl ?_)
      | (with_reducible refine k_condP (by simp only [GA, Nat.reduceEqDiff, ↓reduceIte]; rfl) (by first | (simp only [BO]; rfl) | rfl) (fun ht => ?_) (fun ht => ?_) <;> try (first | exact False.elim ht | exact absurd rfl ht | exact absurd trivial ht | exact Bool.noConfusion ht))
      | (with_reducible refine k_ret ?_; repeat with_reducible (first | refine ret_thru ?_ | refine ret_blk ?_ | refine fin ?_))
      | (with_reducible refine k_exit ?_; repeat with_reducible (first | refine thru ?_ | refine out_blk ?_ | refine pass (by decide) ?_))
      | (refine post1 ?_; simp only [GA, Nat.reduceEqDiff, ↓reduceIte])
      | (refine post2 ?_; simp only [GA, Nat.reduceEqDiff, ↓reduceIte])
      | (refine post3 ?_; simp only [GA, Nat.reduceEqDiff, ↓reduceIte])
      | (refine postc (by simp only [GA, Nat.reduceEqDiff, ↓reduceIte]; rfl) (by simp (disch := omega) only [hw, c4r0, c4r1, c4r2, c4r3, c4r4, c4r5, c4r6, c4r7, c4r8, c4r9, c4r10, c4r11, c4r13, c4r14, c4r15, c4r16, c4r17, c4r18, c4r19, c4r20, c4r21, c4r22, c4r23, c4r24, c4r25, c4r26, EV0, EV1, EV2, EV3, EV4, EV5, EV6, EV7, EV8, VALS, plug, ite_same, decide_true, decide_false, eq_self, ↓reduceIte, reduceCtorEq, Nat.reduceAdd, Nat.reduceEqDiff, Nat.reduceLT, Nat.reduceLeDiff, Nat.reduceMul, Nat.reduceSub, Nat.reduceDiv, Int.reduceToNat, Int.reduceAdd, Int.reduceSub, Int.reduceMul, Int.reduceNeg, Int.reduceEq, Int.reduceLT, Int.reduceLE]; rfl) ?_)
      | refine post0 ?_
    · exact ends_of
    refine w_virt 4 11 rfl ?_
    refine k_blk (k_loopS (X := Nat) [0, 4, 7, 8, 9, 11, 12] l.length (fun k x => [(0, vT l), (4, .p 1 0), (7, .i .i64 tol), (8, .i .i64 (w : Int)), (9, .i .i64 (A : Int)), (11, .sl x 0 (tn l w k).length 4), (12, .i .i64 (k : Int))])
      (fun k x h => x ≠ 0 ∧ x ≠ 1 ∧ h.m x = some (.cells true (fl eT (tn l w k))) ∧ h.m 1 = some (.cells true [.i .i64 t.num, .i .i64 t.side, .i .i64 t.len, .i .i64 t.col])) _ (by simp only [Am.keep, List.map_cons, List.map_nil, GA, Nat.reduceEqDiff, ↓reduceIte]; try rfl) ⟨?_, ?_, by simp (disch := omega) only [c4r0, c4r1, c4r2, c4r3, c4r4, c4r5, c4r6, c4r7, c4r8, c4r9, c4r10, c4r11, c4r13, c4r14, c4r15, c4r16, c4r17, c4r18, c4r19, c4r20, c4r21, c4r22, c4r23, c4r24, c4r25, c4r26, EV0, EV1, EV2, EV3, EV4, EV5, EV6, EV7, EV8, VALS, plug, ite_same, decide_true, decide_false, eq_self, ↓reduceIte, reduceCtorEq, Nat.reduceAdd, Nat.reduceEqDiff, Nat.reduceLT, Nat.reduceLeDiff, Nat.reduceMul, Nat.reduceSub, Nat.reduceDiv, Int.reduceToNat, Int.reduceAdd, Int.reduceSub, Int.reduceMul, Int.reduceNeg, Int.reduceEq, Int.reduceLT, Int.reduceLE] <;> rfl, by simp (disch := omega) only [c4r0, c4r1, c4r2, c4r3, c4r4, c4r5, c4r6, c4r7, c4r8, c4r9, c4r10, c4r11, c4r13, c4r14, c4r15, c4r16, c4r17, c4r18, c4r19, c4r20, c4r21, c4r22, c4r23, c4r24, c4r25, c4r26, EV0, EV1, EV2, EV3, EV4, EV5, EV6, EV7, EV8, VALS, plug, ite_same, decide_true, decide_false, eq_self, ↓reduceIte, reduceCtorEq, Nat.reduceAdd, Nat.reduceEqDiff, Nat.reduceLT, Nat.reduceLeDiff, Nat.reduceMul, Nat.reduceSub, Nat.reduceDiv, Int.reduceToNat, Int.reduceAdd, Int.reduceSub, Int.reduceMul, Int.reduceNeg, Int.reduceEq, Int.reduceLT, Int.reduceLE] <;> rfl⟩ ?_)
    · simp [H1, AH.bump, AH.set]
    · simp [H1, AH.bump, AH.set]
    rintro k x h hk ⟨hx, hx1, hm, hmt⟩ ok pos
    have hx' := ok.m hm
    have ht1 := ok.m hmt
    have tl := tn_len l w k
    by_cases hlt : k < l.length
    · have hlt' : (k : Int) < l.length := by omega
      have ts := tn_succ l w k
      have e1 : ((k : Int) + w).tmod l.length = (((k + w) % l.length : Nat) : Int) := by
        rw [Int.tmod_eq_emod_of_nonneg (by omega), Int.natCast_emod, Int.natCast_add]
      have hmod := Nat.mod_lt (k + w) (show 0 < l.length by omega)
      have e2 : (l.length : Int) - 1 - (((k + w) % l.length : Nat) : Int) = ((sg l.length w k : Nat) : Int) := by unfold sg; omega
      have hs := sg_lt (n := l.length) (w := w) (i := k) (by omega)
      have rT := rdT hs
      simp only [eT] at rT
      repeat' first
        | with_reducible refine k_seq ?_
        | with_reducible refine k_skip ?_
        | with_reducible refine k_blkS ?_
        | with_reducible refine k_blkR ?_
        | with_reducible refine k_blkC ?_
        | with_reducible refine k_blkH ?_
        | with_reducible refine k_blkB ?_
        | with_reducible refine k_blkK ?_
        | with_reducible refine k_blkE ?_
        | with_reducible refine k_reg ?_
        | with_reducible refine k_head (by with_unfolding_all rfl) ?_
        | with_reducible refine k_headS ?_
        | (with_reducible refine SepK.mk ?_ ?_; (refine sepQ_P ?_; simp [sepQ, sepG, AOp.late, AOp.free, AOp.xs, AOp.isAl, tokNe, AV.tok, stS_get, strip, AX.val, c4r0, c4r1, c4r2, c4r3, c4r4, c4r5, c4r6, c4r7, c4r8, c4r9, c4r10, c4r11, c4r13, c4r14, c4r15, c4r16, c4r17, c4r18, c4r19, c4r20, c4r21, c4r22, c4r23, c4r24, c4r25, c4r26, GA]; try omega))
        | with_reducible refine r_done ?_
        | with_reducible refine hr_done ?_
        | with_reducible refine s_go (by simp (disch := omega) only [hlt', e1, e2, rT, hm, hx, flT_len, flT_snoc, c4r0, c4r1, c4r2, c4r3, c4r4, c4r5, c4r6, c4r7, c4r8, c4r9, c4r10, c4r11, c4r13, c4r14, c4r15, c4r16, c4r17, c4r18, c4r19, c4r20, c4r21, c4r22, c4r23, c4r24, c4r25, c4r26, EV0, EV1, EV2, EV3, EV4, EV5, EV6, EV7, EV8, VALS, plug, ite_same, decide_true, decide_false, eq_self, ↓reduceIte, reduceCtorEq, Nat.reduceAdd, Nat.reduceEqDiff, Nat.reduceLT, Nat.reduceLeDiff, Nat.reduceMul, Nat.reduceSub, Nat.reduceDiv, Int.reduceToNat, Int.reduceAdd, Int.reduceSub, Int.reduceMul, Int.reduceNeg, Int.reduceEq, Int.reduceLT, Int.reduceLE]; with_reducible rfl) ?_
        | with_reducible refine h_go (by with_unfolding_all rfl) (by simp (disch := omega) only [hlt', e1, e2, rT, hm, hx, flT_len, flT_snoc, c4r0, c4r1, c4r2, c4r3, c4r4, c4r5, c4r6, c4r7, c4r8, c4r9, c4r10, c4r11, c4r13, c4r14, c4r15, c4r16, c4r17, c4r18, c4r19, c4r20, c4r21, c4r22, c4r23, c4r24, c4r25, c4r26, EV0, EV1, EV2, EV3, EV4, EV5, EV6, EV7, EV8, VALS, plug, ite_same, decide_true, decide_false, eq_self, ↓reduceIte, reduceCtorEq, Nat.reduceAdd, Nat.reduceEqDiff, Nat.reduceLT, Nat.reduceLeDiff, Nat.reduceMul, Nat.reduceSub, Nat.reduceDiv, Int.reduceToNat, Int.reduceAdd, Int.reduceSub, Int.reduceMul, Int.reduceNeg, Int.reduceEq, Int.reduceLT, Int.reduceLE]; with_reducible rfl) ?_
        | ((with_reducible refine chk_r ?_); refine r_callF (by simp only [CA, Nat.reduceEqDiff, ↓reduceIte]; rfl) (by exact rfl) (by simp only [CA, Nat.reduceEqDiff, ↓reduceIte]; rfl) rfl ?_)
        | ((with_reducible refine chk_h ?_); refine hr_callF (by simp only [CA, Nat.reduceEqDiff, ↓reduceIte]; rfl) (by exact rfl) (by simp only [CA, Nat.reduceEqDiff, ↓reduceIte]; rfl) rfl ?_)
        | ((with_reducible refine chk_h ?_); refine hr_app (by simp (disch := omega) only [hlt', e1, e2, rT, hm, hx, flT_len, flT_snoc, c4r0, c4r1, c4r2, c4r3, c4r4, c4r5, c4r6, c4r7, c4r8, c4r9, c4r10, c4r11, c4r13, c4r14, c4r15, c4r16, c4r17, c4r18, c4r19, c4r20, c4r21, c4r22, c4r23, c4r24, c4r25, c4r26, EV0, EV1, EV2, EV3, EV4, EV5, EV6, EV7, EV8, VALS, plug, ite_same, decide_true, decide_false, eq_self, ↓reduceIte, reduceCtorEq, Nat.reduceAdd, Nat.reduceEqDiff, Nat.reduceLT, Nat.reduceLeDiff, Nat.reduceMul, Nat.reduceSub, Nat.reduceDiv, Int.reduceToNat, Int.reduceAdd, Int.reduceSub, Int.reduceMul, Int.reduceNeg, Int.reduceEq, Int.reduceLT, Int.reduceLE]; with_reducible rfl) rfl ?_)
        | (with_reducible refine k_condP (by simp only [GA, Nat.reduceEqDiff, ↓reduceIte]; rfl) (by first | (simp only [BO]; rfl) | rfl) (fun ht => ?_) (fun ht => ?_) <;> try (first | exact False.elim ht | exact absurd rfl ht | exact absurd trivial ht | exact Bool.noConfusion ht))
        | (with_reducible refine k_ret ?_; repeat with_reducible (first | refine ret_thru ?_ | refine ret_blk ?_ | refine fin ?_))
        | (with_reducible refine k_exit ?_; repeat with_reducible (first | refine thru ?_ | refine out_blk ?_ | refine pass (by decide) ?_))
        | (refine post1 ?_; simp only [GA, Nat.reduceEqDiff, ↓reduceIte])
        | (refine post2 ?_; simp only [GA, Nat.reduceEqDiff, ↓reduceIte])
        | (refine post3 ?_; simp only [GA, Nat.reduceEqDiff, ↓reduceIte])
        | (refine postc (by simp only [GA, Nat.reduceEqDiff, ↓reduceIte]; rfl) (by simp (disch := omega) only [hlt', e1, e2, rT, hm, hx, flT_len, flT_snoc, c4r0, c4r1, c4r2, c4r3, c4r4, c4r5, c4r6, c4r7, c4r8, c4r9, c4r10, c4r11, c4r13, c4r14, c4r15, c4r16, c4r17, c4r18, c4r19, c4r20, c4r21, c4r22, c4r23, c4r24, c4r25, c4r26, EV0, EV1, EV2, EV3, EV4, EV5, EV6, EV7, EV8, VALS, plug, ite_same, decide_true, decide_false, eq_self, ↓reduceIte, reduceCtorEq, Nat.reduceAdd, Nat.reduceEqDiff, Nat.reduceLT, Nat.reduceLeDiff, Nat.reduceMul, Nat.reduceSub, Nat.reduceDiv, Int.reduceToNat, Int.reduceAdd, Int.reduceSub, Int.reduceMul, Int.reduceNeg, Int.reduceEq, Int.reduceLT, Int.reduceLE]; rfl) ?_)
        | refine post0 ?_
      rw [ts]
      refine ⟨hlt, ?tk, ?g1, ?g2, ?g3, ?g4, ?g5⟩
      case g1 =>
        simp only [Am.keep, List.map_cons, List.map_nil, GA, Nat.reduceEqDiff, ↓reduceIte, List.length_append, List.length_cons, List.length_nil, Nat.zero_add]
        rfl
      case g2 => omega
      case g3 => omega
      case g4 => simp (disch := omega) only [flT_snoc, c4r0, c4r1, c4r2, c4r3, c4r4, c4r5, c4r6, c4r7, c4r8, c4r9, c4r10, c4r11, c4r13, c4r14, c4r15, c4r16, c4r17, c4r18, c4r19, c4r20, c4r21, c4r22, c4r23, c4r24, c4r25, c4r26, EV0, EV1, EV2, EV3, EV4, EV5, EV6, EV7, EV8, VALS, plug, ite_same, decide_true, decide_false, eq_self, ↓reduceIte, reduceCtorEq, Nat.reduceAdd, Nat.reduceEqDiff, Nat.reduceLT, Nat.reduceLeDiff, Nat.reduceMul, Nat.reduceSub, Nat.reduceDiv, Int.reduceToNat, Int.reduceAdd, Int.reduceSub, Int.reduceMul, Int.reduceNeg, Int.reduceEq, Int.reduceLT, Int.reduceLE] <;> rfl
      case g5 => simp (disch := omega) only [hmt, c4r0, c4r1, c4r2, c4r3, c4r4, c4r5, c4r6, c4r7, c4r8, c4r9, c4r10, c4r11, c4r13, c4r14, c4r15, c4r16, c4r17, c4r18, c4r19, c4r20, c4r21, c4r22, c4r23, c4r24, c4r25, c4r26, EV0, EV1, EV2, EV3, EV4, EV5, EV6, EV7, EV8, VALS, plug, ite_same, decide_true, decide_false, eq_self, ↓reduceIte, reduceCtorEq, Nat.reduceAdd, Nat.reduceEqDiff, Nat.reduceLT, Nat.reduceLeDiff, Nat.reduceMul, Nat.reduceSub, Nat.reduceDiv, Int.reduceToNat, Int.reduceAdd, Int.reduceSub, Int.reduceMul, Int.reduceNeg, Int.reduceEq, Int.reduceLT, Int.reduceLE]
    · obtain rfl : k = l.length := by omega
      have hlt' : ¬ (l.length : Int) < l.length := by omega
      simp only [vT, List.length_append, List.length_cons, List.length_nil, Nat.zero_add] at ql qv
      repeat' first
        | with_reducible refine k_seq ?_
        | with_reducible refine k_skip ?_
        | with_reducible refine k_blkS ?_
        | with_reducible refine k_blkR ?_
        | with_reducible refine k_blkC ?_
        | with_reducible refine k_blkH ?_
        | with_reducible refine k_blkB ?_
        | with_reducible refine k_blkK ?_
        | with_reducible refine k_blkE ?_
        | with_reducible refine k_reg ?_
        | with_reducible refine k_head (by with_unfolding_all rfl) ?_
        | with_reducible refine k_headS ?_
        | (with_reducible refine SepK.mk ?_ ?_; (refine sepQ_P ?_; simp [sepQ, sepG, AOp.late, AOp.free, AOp.xs, AOp.isAl, tokNe, AV.tok, stS_get, strip, AX.val, c4r0, c4r1, c4r2, c4r3, c4r4, c4r5, c4r6, c4r7, c4r8, c4r9, c4r10, c4r11, c4r13, c4r14, c4r15, c4r16, c4r17, c4r18, c4r19, c4r20, c4r21, c4r22, c4r23, c4r24, c4r25, c4r26, GA]; try omega))
        | with_reducible refine r_done ?_
        | with_reducible refine hr_done ?_
        | with_reducible refine s_go (by simp (disch := omega) only [hlt', hm, hmt, row_m hmt, read_row (row_m hmt), flT_len, flT_one, flT_snoc, c4r0, c4r1, c4r2, c4r3, c4r4, c4r5, c4r6, c4r7, c4r8, c4r9, c4r10, c4r11, c4r13, c4r14, c4r15, c4r16, c4r17, c4r18, c4r19, c4r20, c4r21, c4r22, c4r23, c4r24, c4r25, c4r26, EV0, EV1, EV2, EV3, EV4, EV5, EV6, EV7, EV8, VALS, plug, ite_same, decide_true, decide_false, eq_self, ↓reduceIte, reduceCtorEq, Nat.reduceAdd, Nat.reduceEqDiff, Nat.reduceLT, Nat.reduceLeDiff, Nat.reduceMul, Nat.reduceSub, Nat.reduceDiv, Int.reduceToNat, Int.reduceAdd, Int.reduceSub, Int.reduceMul, Int.reduceNeg, Int.reduceEq, Int.reduceLT, Int.reduceLE]; with_reducible rfl) ?_
        | with_reducible refine h_go (by with_unfolding_all rfl) (by simp (disch := omega) only [hlt', hm, hmt, row_m hmt, read_row (row_m hmt), flT_len, flT_one, flT_snoc, c4r0, c4r1, c4r2, c4r3, c4r4, c4r5, c4r6, c4r7, c4r8, c4r9, c4r10, c4r11, c4r13, c4r14, c4r15, c4r16, c4r17, c4r18, c4r19, c4r20, c4r21, c4r22, c4r23, c4r24, c4r25, c4r26, EV0, EV1, EV2, EV3, EV4, EV5, EV6, EV7, EV8, VALS, plug, ite_same, decide_true, decide_false, eq_self, ↓reduceIte, reduceCtorEq, Nat.reduceAdd, Nat.reduceEqDiff, Nat.reduceLT, Nat.reduceLeDiff, Nat.reduceMul, Nat.reduceSub, Nat.reduceDiv, Int.reduceToNat, Int.reduceAdd, Int.reduceSub, Int.reduceMul, Int.reduceNeg, Int.reduceEq, Int.reduceLT, Int.reduceLE]; with_reducible rfl) ?_
        | ((with_reducible refine chk_r ?_); refine r_callF (by simp only [CA, Nat.reduceEqDiff, ↓reduceIte]; rfl) (by exact rfl) (by simp only [CA, Nat.reduceEqDiff, ↓reduceIte]; rfl) rfl ?_)
        | ((with_reducible refine chk_h ?_); refine hr_callF (by simp only [CA, Nat.reduceEqDiff, ↓reduceIte]; rfl) (by exact rfl) (by simp only [CA, Nat.reduceEqDiff, ↓reduceIte]; rfl) rfl ?_)
        | ((with_reducible refine chk_r ?_); refine r_callP (by simp only [CA, Nat.reduceEqDiff, ↓reduceIte]; rfl) (by simp only [CA, Nat.reduceEqDiff, ↓reduceIte]; rfl) (by first | ((refine PC.at qt rfl ?_; refine .cons (.row (by simp (disch := omega) only [row_m hm, c4r0, c4r1, c4r2, c4r3, c4r4, c4r5, c4r6, c4r7, c4r8, c4r9, c4r10, c4r11, c4r13, c4r14, c4r15, c4r16, c4r17, c4r18, c4r19, c4r20, c4r21, c4r22, c4r23, c4r24, c4r25, c4r26, EV0, EV1, EV2, EV3, EV4, EV5, EV6, EV7, EV8, VALS, plug, ite_same, decide_true, decide_false, eq_self, ↓reduceIte, reduceCtorEq, Nat.reduceAdd, Nat.reduceEqDiff, Nat.reduceLT, Nat.reduceLeDiff, Nat.reduceMul, Nat.reduceSub, Nat.reduceDiv, Int.reduceToNat, Int.reduceAdd, Int.reduceSub, Int.reduceMul, Int.reduceNeg, Int.reduceEq, Int.reduceLT, Int.reduceLE] <;> rfl) (flT_plain _)) (.cons (.same rfl) .nil)); all_goals fail) | exact qu (by omega) _ | ((refine PC.at ql rfl ?_; refine .cons (.row (by simp (disch := omega) only [flT_snoc, c4r0, c4r1, c4r2, c4r3, c4r4, c4r5, c4r6, c4r7, c4r8, c4r9, c4r10, c4r11, c4r13, c4r14, c4r15, c4r16, c4r17, c4r18, c4r19, c4r20, c4r21, c4r22, c4r23, c4r24, c4r25, c4r26, EV0, EV1, EV2, EV3, EV4, EV5, EV6, EV7, EV8, VALS, plug, ite_same, decide_true, decide_false, eq_self, ↓reduceIte, reduceCtorEq, Nat.reduceAdd, Nat.reduceEqDiff, Nat.reduceLT, Nat.reduceLeDiff, Nat.reduceMul, Nat.reduceSub, Nat.reduceDiv, Int.reduceToNat, Int.reduceAdd, Int.reduceSub, Int.reduceMul, Int.reduceNeg, Int.reduceEq, Int.reduceLT, Int.reduceLE] <;> rfl) (flT_plain _)) (.cons (.same rfl) .nil)); all_goals fail) | ((refine PC.at qv rfl ?_; refine .cons (.row (by simp (disch := omega) only [flT_snoc, c4r0, c4r1, c4r2, c4r3, c4r4, c4r5, c4r6, c4r7, c4r8, c4r9, c4r10, c4r11, c4r13, c4r14, c4r15, c4r16, c4r17, c4r18, c4r19, c4r20, c4r21, c4r22, c4r23, c4r24, c4r25, c4r26, EV0, EV1, EV2, EV3, EV4, EV5, EV6, EV7, EV8, VALS, plug, ite_same, decide_true, decide_false, eq_self, ↓reduceIte, reduceCtorEq, Nat.reduceAdd, Nat.reduceEqDiff, Nat.reduceLT, Nat.reduceLeDiff, Nat.reduceMul, Nat.reduceSub, Nat.reduceDiv, Int.reduceToNat, Int.reduceAdd, Int.reduceSub, Int.reduceMul, Int.reduceNeg, Int.reduceEq, Int.reduceLT, Int.reduceLE] <;> rfl) (flT_plain _)) .nil); all_goals fail) | exact pc24 _) rfl ?_)
        | ((with_reducible refine chk_h ?_); refine hr_callP (by simp only [CA, Nat.reduceEqDiff, ↓reduceIte]; rfl) (by simp only [CA, Nat.reduceEqDiff, ↓reduceIte]; rfl) (by first | ((refine PC.at qt rfl ?_; refine .cons (.row (by simp (disch := omega) only [row_m hm, c4r0, c4r1, c4r2, c4r3, c4r4, c4r5, c4r6, c4r7, c4r8, c4r9, c4r10, c4r11, c4r13, c4r14, c4r15, c4r16, c4r17, c4r18, c4r19, c4r20, c4r21, c4r22, c4r23, c4r24, c4r25, c4r26, EV0, EV1, EV2, EV3, EV4, EV5, EV6, EV7, EV8, VALS, plug, ite_same, decide_true, decide_false, eq_self, ↓reduceIte, reduceCtorEq, Nat.reduceAdd, Nat.reduceEqDiff, Nat.reduceLT, Nat.reduceLeDiff, Nat.reduceMul, Nat.reduceSub, Nat.reduceDiv, Int.reduceToNat, Int.reduceAdd, Int.reduceSub, Int.reduceMul, Int.reduceNeg, Int.reduceEq, Int.reduceLT, Int.reduceLE] <;> rfl) (flT_plain _)) (.cons (.same rfl) .nil)); all_goals fail) | exact qu (by omega) _ | ((refine PC.at ql rfl ?_; refine .cons (.row (by simp (disch := omega) only [flT_snoc, c4r0, c4r1, c4r2, c4r3, c4r4, c4r5, c4r6, c4r7, c4r8, c4r9, c4r10, c4r11, c4r13, c4r14, c4r15, c4r16, c4r17, c4r18, c4r19, c4r20, c4r21, c4r22, c4r23, c4r24, c4r25, c4r26, EV0, EV1, EV2, EV3, EV4, EV5, EV6, EV7, EV8, VALS, plug, ite_same, decide_true, decide_false, eq_self, ↓reduceIte, reduceCtorEq, Nat.reduceAdd, Nat.reduceEqDiff, Nat.reduceLT, Nat.reduceLeDiff, Nat.reduceMul, Nat.reduceSub, Nat.reduceDiv, Int.reduceToNat, Int.reduceAdd, Int.reduceSub, Int.reduceMul, Int.reduceNeg, Int.reduceEq, Int.reduceLT, Int.reduceLE] <;> rfl) (flT_plain _)) (.cons (.same rfl) .nil)); all_goals fail) | ((refine PC.at qv rfl ?_; refine .cons (.row (by simp (disch := omega) only [flT_snoc, c4r0, c4r1, c4r2, c4r3, c4r4, c4r5, c4r6, c4r7, c4r8, c4r9, c4r10, c4r11, c4r13, c4r14, c4r15, c4r16, c4r17, c4r18, c4r19, c4r20, c4r21, c4r22, c4r23, c4r24, c4r25, c4r26, EV0, EV1, EV2, EV3, EV4, EV5, EV6, EV7, EV8, VALS, plug, ite_same, decide_true, decide_false, eq_self, ↓reduceIte, reduceCtorEq, Nat.reduceAdd, Nat.reduceEqDiff, Nat.reduceLT, Nat.reduceLeDiff, Nat.reduceMul, Nat.reduceSub, Nat.reduceDiv, Int.reduceToNat, Int.reduceAdd, Int.reduceSub, Int.reduceMul, Int.reduceNeg, Int.reduceEq, Int.reduceLT, Int.reduceLE] <;> rfl) (flT_plain _)) .nil); all_goals fail) | exact pc24 _) rfl ?_)
        | ((with_reducible refine chk_h ?_); refine hr_callP1 (by simp only [CA, Nat.reduceEqDiff, ↓reduceIte]; rfl) (by simp only [CA, Nat.reduceEqDiff, ↓reduceIte]; rfl) (by simp (disch := omega) only [CA, Nat.reduceEqDiff, ↓reduceIte, firstTok_nil, firstTok_sl, firstTok_sl0, firstTok_i, firstTok_b, firstTok_ag, firstTok_p, firstTok_s]; rfl) (by first | ((refine PC.at qt rfl ?_; refine .cons (.row (by simp (disch := omega) only [row_m hm, c4r0, c4r1, c4r2, c4r3, c4r4, c4r5, c4r6, c4r7, c4r8, c4r9, c4r10, c4r11, c4r13, c4r14, c4r15, c4r16, c4r17, c4r18, c4r19, c4r20, c4r21, c4r22, c4r23, c4r24, c4r25, c4r26, EV0, EV1, EV2, EV3, EV4, EV5, EV6, EV7, EV8, VALS, plug, ite_same, decide_true, decide_false, eq_self, ↓reduceIte, reduceCtorEq, Nat.reduceAdd, Nat.reduceEqDiff, Nat.reduceLT, Nat.reduceLeDiff, Nat.reduceMul, Nat.reduceSub, Nat.reduceDiv, Int.reduceToNat, Int.reduceAdd, Int.reduceSub, Int.reduceMul, Int.reduceNeg, Int.reduceEq, Int.reduceLT, Int.reduceLE] <;> rfl) (flT_plain _)) (.cons (.same rfl) .nil)); all_goals fail) | exact qu (by omega) _ | ((refine PC.at ql rfl ?_; refine .cons (.row (by simp (disch := omega) only [flT_snoc, c4r0, c4r1, c4r2, c4r3, c4r4, c4r5, c4r6, c4r7, c4r8, c4r9, c4r10, c4r11, c4r13, c4r14, c4r15, c4r16, c4r17, c4r18, c4r19, c4r20, c4r21, c4r22, c4r23, c4r24, c4r25, c4r26, EV0, EV1, EV2, EV3, EV4, EV5, EV6, EV7, EV8, VALS, plug, ite_same, decide_true, decide_false, eq_self, ↓reduceIte, reduceCtorEq, Nat.reduceAdd, Nat.reduceEqDiff, Nat.reduceLT, Nat.reduceLeDiff, Nat.reduceMul, Nat.reduceSub, Nat.reduceDiv, Int.reduceToNat, Int.reduceAdd, Int.reduceSub, Int.reduceMul, Int.reduceNeg, Int.reduceEq, Int.reduceLT, Int.reduceLE] <;> rfl) (flT_plain _)) (.cons (.same rfl) .nil)); all_goals fail) | ((refine PC.at qv rfl ?_; refine .cons (.row (by simp (disch := omega) only [flT_snoc, c4r0, c4r1, c4r2, c4r3, c4r4, c4r5, c4r6, c4r7, c4r8, c4r9, c4r10, c4r11, c4r13, c4r14, c4r15, c4r16, c4r17, c4r18, c4r19, c4r20, c4r21, c4r22, c4r23, c4r24, c4r25, c4r26, EV0, EV1, EV2, EV3, EV4, EV5, EV6, EV7, EV8, VALS, plug, ite_same, decide_true, decide_false, eq_self, ↓reduceIte, reduceCtorEq, Nat.reduceAdd, Nat.reduceEqDiff, Nat.reduceLT, Nat.reduceLeDiff, Nat.reduceMul, Nat.reduceSub, Nat.reduceDiv, Int.reduceToNat, Int.reduceAdd, Int.reduceSub, Int.reduceMul, Int.reduceNeg, Int.reduceEq, Int.reduceLT, Int.reduceLE] <;> rfl) (flT_plain _)) .nil); all_goals fail) | exact pc24 _) rfl ?_)
        | ((with_reducible refine chk_r ?_); refine r_callG (by simp only [CA, Nat.reduceEqDiff, ↓reduceIte]; rfl) (by simp only [CA, Nat.reduceEqDiff, ↓reduceIte]; rfl) (by simp only [CA, Nat.reduceEqDiff, ↓reduceIte]; rfl) (by intro hg; (try simp only [BO] at hg); first | ((refine PC.at qt rfl ?_; refine .cons (.row (by simp (disch := omega) only [row_m hm, c4r0, c4r1, c4r2, c4r3, c4r4, c4r5, c4r6, c4r7, c4r8, c4r9, c4r10, c4r11, c4r13, c4r14, c4r15, c4r16, c4r17, c4r18, c4r19, c4r20, c4r21, c4r22, c4r23, c4r24, c4r25, c4r26, EV0, EV1, EV2, EV3, EV4, EV5, EV6, EV7, EV8, VALS, plug, ite_same, decide_true, decide_false, eq_self, ↓reduceIte, reduceCtorEq, Nat.reduceAdd, Nat.reduceEqDiff, Nat.reduceLT, Nat.reduceLeDiff, Nat.reduceMul, Nat.reduceSub, Nat.reduceDiv, Int.reduceToNat, Int.reduceAdd, Int.reduceSub, Int.reduceMul, Int.reduceNeg, Int.reduceEq, Int.reduceLT, Int.reduceLE] <;> rfl) (flT_plain _)) (.cons (.same rfl) .nil)); all_goals fail) | exact qu (by omega) _ | ((refine PC.at ql rfl ?_; refine .cons (.row (by simp (disch := omega) only [flT_snoc, c4r0, c4r1, c4r2, c4r3, c4r4, c4r5, c4r6, c4r7, c4r8, c4r9, c4r10, c4r11, c4r13, c4r14, c4r15, c4r16, c4r17, c4r18, c4r19, c4r20, c4r21, c4r22, c4r23, c4r24, c4r25, c4r26, EV0, EV1, EV2, EV3, EV4, EV5, EV6, EV7, EV8, VALS, plug, ite_same, decide_true, decide_false, eq_self, ↓reduceIte, reduceCtorEq, Nat.reduceAdd, Nat.reduceEqDiff, Nat.reduceLT, Nat.reduceLeDiff, Nat.reduceMul, Nat.reduceSub, Nat.reduceDiv, Int.reduceToNat, Int.reduceAdd, Int.reduceSub, Int.reduceMul, Int.reduceNeg, Int.reduceEq, Int.reduceLT, Int.reduceLE] <;> rfl) (flT_plain _)) (.cons (.same rfl) .nil)); all_goals fail) | ((refine PC.at qv rfl ?_; refine .cons (.row (by simp (disch := omega) only [flT_snoc, c4r0, c4r1, c4r2, c4r3, c4r4, c4r5, c4r6, c4r7, c4r8, c4r9, c4r10, c4r11, c4r13, c4r14, c4r15, c4r16, c4r17, c4r18, c4r19, c4r20, c4r21, c4r22, c4r23, c4r24, c4r25, c4r26, EV0, EV1, EV2, EV3, EV4, EV5, EV6, EV7, EV8, VALS, plug, ite_same, decide_true, decide_false, eq_self, ↓reduceIte, reduceCtorEq, Nat.reduceAdd, Nat.reduceEqDiff, Nat.reduceLT, Nat.reduceLeDiff, Nat.reduceMul, Nat.reduceSub, Nat.reduceDiv, Int.reduceToNat, Int.reduceAdd, Int.reduceSub, Int.reduceMul, Int.reduceNeg, Int.reduceEq, Int.reduceLT, Int.reduceLE] <;> rfl) (flT_plain _)) .nil); all_goals fail) | exact pc24 _) rfl ?_)
        | ((with_reducible refine chk_h ?_); refine hr_callG (by simp only [CA, Nat.reduceEqDiff, ↓reduceIte]; rfl) (by simp only [CA, Nat.reduceEqDiff, ↓reduceIte]; rfl) (by simp only [CA, Nat.reduceEqDiff, ↓reduceIte]; rfl) (by intro hg; (try simp only [BO] at hg); first | ((refine PC.at qt rfl ?_; refine .cons (.row (by simp (disch := omega) only [row_m hm, c4r0, c4r1, c4r2, c4r3, c4r4, c4r5, c4r6, c4r7, c4r8, c4r9, c4r10, c4r11, c4r13, c4r14, c4r15, c4r16, c4r17, c4r18, c4r19, c4r20, c4r21, c4r22, c4r23, c4r24, c4r25, c4r26, EV0, EV1, EV2, EV3, EV4, EV5, EV6, EV7, EV8, VALS, plug, ite_same, decide_true, decide_false, eq_self, ↓reduceIte, reduceCtorEq, Nat.reduceAdd, Nat.reduceEqDiff, Nat.reduceLT, Nat.reduceLeDiff, Nat.reduceMul, Nat.reduceSub, Nat.reduceDiv, Int.reduceToNat, Int.reduceAdd, Int.reduceSub, Int.reduceMul, Int.reduceNeg, Int.reduceEq, Int.reduceLT, Int.reduceLE] <;> rfl) (flT_plain _)) (.cons (.same rfl) .nil)); all_goals fail) | exact qu (by omega) _ | ((refine PC.at ql rfl ?_; refine .cons (.row (by simp (disch := omega) only [flT_snoc, c4r0, c4r1, c4r2, c4r3, c4r4, c4r5, c4r6, c4r7, c4r8, c4r9, c4r10, c4r11, c4r13, c4r14, c4r15, c4r16, c4r17, c4r18, c4r19, c4r20, c4r21, c4r22, c4r23, c4r24, c4r25, c4r26, EV0, EV1, EV2, EV3, EV4, EV5, EV6, EV7, EV8, VALS, plug, ite_same, decide_true, decide_false, eq_self, ↓reduceIte, reduceCtorEq, Nat.reduceAdd, Nat.reduceEqDiff, Nat.reduceLT, Nat.reduceLeDiff, Nat.reduceMul, Nat.reduceSub, Nat.reduceDiv, Int.reduceToNat, Int.reduceAdd, Int.reduceSub, Int.reduceMul, Int.reduceNeg, Int.reduceEq, Int.reduceLT, Int.reduceLE] <;> rfl) (flT_plain _)) (.cons (.same rfl) .nil)); all_goals fail) | ((refine PC.at qv rfl ?_; refine .cons (.row (by simp (disch := omega) only [flT_snoc, c4r0, c4r1, c4r2, c4r3, c4r4, c4r5, c4r6, c4r7, c4r8, c4r9, c4r10, c4r11, c4r13, c4r14, c4r15, c4r16, c4r17, c4r18, c4r19, c4r20, c4r21, c4r22, c4r23, c4r24, c4r25, c4r26, EV0, EV1, EV2, EV3, EV4, EV5, EV6, EV7, EV8, VALS, plug, ite_same, decide_true, decide_false, eq_self, ↓reduceIte, reduceCtorEq, Nat.reduceAdd, Nat.reduceEqDiff, Nat.reduceLT, Nat.reduceLeDiff, Nat.reduceMul, Nat.reduceSub, Nat.reduceDiv, Int.reduceToNat, Int.reduceAdd, Int.reduceSub, Int.reduceMul, Int.reduceNeg, Int.reduceEq, Int.reduceLT, Int.reduceLE] <;> rfl) (flT_plain _)) .nil); all_goals fail) | exact pc24 _) rfl ?_)
        | ((with_reducible refine chk_h ?_); refine hr_app (by simp (disch := omega) only [hlt', hm, hmt, row_m hmt, read_row (row_m hmt), flT_len, flT_one, flT_snoc, c4r0, c4r1, c4r2, c4r3, c4r4, c4r5, c4r6, c4r7, c4r8, c4r9, c4r10, c4r11, c4r13, c4r14, c4r15, c4r16, c4r17, c4r18, c4r19, c4r20, c4r21, c4r22, c4r23, c4r24, c4r25, c4r26, EV0, EV1, EV2, EV3, EV4, EV5, EV6, EV7, EV8, VALS, plug, ite_same, decide_true, decide_false, eq_self, ↓reduceIte, reduceCtorEq, Nat.reduceAdd, Nat.reduceEqDiff, Nat.reduceLT, Nat.reduceLeDiff, Nat.reduceMul, Nat.reduceSub, Nat.reduceDiv, Int.reduceToNat, Int.reduceAdd, Int.reduceSub, Int.reduceMul, Int.reduceNeg, Int.reduceEq, Int.reduceLT, Int.reduceLE]; with_reducible rfl) rfl ?_)
        | (with_reducible refine k_condP (by simp only [GA, Nat.reduceEqDiff, ↓reduceIte]; rfl) (by first | (simp only [BO]; rfl) | rfl) (fun ht => ?_) (fun ht => ?_) <;> try (first | exact False.elim ht | exact absurd rfl ht | exact absurd trivial ht | exact Bool.noConfusion ht))
        | (with_reducible refine k_ret ?_; repeat with_reducible (first | refine ret_thru ?_ | refine ret_blk ?_ | refine fin ?_))
        | (with_reducible refine k_exit ?_; repeat with_reducible (first | refine thru ?_ | refine out_blk ?_ | refine pass (by decide) ?_))
        | (refine post1 ?_; simp only [GA, Nat.reduceEqDiff, ↓reduceIte])
        | (refine post2 ?_; simp only [GA, Nat.reduceEqDiff, ↓reduceIte])
        | (refine post3 ?_; simp only [GA, Nat.reduceEqDiff, ↓reduceIte])
        | (refine postc (by simp only [GA, Nat.reduceEqDiff, ↓reduceIte]; rfl) (by simp (disch := omega) only [hlt', hm, hmt, row_m hmt, read_row (row_m hmt), flT_len, flT_one, flT_snoc, c4r0, c4r1, c4r2, c4r3, c4r4, c4r5, c4r6, c4r7, c4r8, c4r9, c4r10, c4r11, c4r13, c4r14, c4r15, c4r16, c4r17, c4r18, c4r19, c4r20, c4r21, c4r22, c4r23, c4r24, c4r25, c4r26, EV0, EV1, EV2, EV3, EV4, EV5, EV6, EV7, EV8, VALS, plug, ite_same, decide_true, decide_false, eq_self, ↓reduceIte, reduceCtorEq, Nat.reduceAdd, Nat.reduceEqDiff, Nat.reduceLT, Nat.reduceLeDiff, Nat.reduceMul, Nat.reduceSub, Nat.reduceDiv, Int.reduceToNat, Int.reduceAdd, Int.reduceSub, Int.reduceMul, Int.reduceNeg, Int.reduceEq, Int.reduceLT, Int.reduceLE]; rfl) ?_)
        | refine post0 ?_
      · exfalso; omega
      · exact ends_eq (b_eq (by rw [decide_eq_true (k2 ht)]))
      · have k1 := k1 (by simpa using ht)
        refine ends_eq (b_eq ?_)
        simp only [Bool.true_eq, Bool.and_eq_true, Bool.or_eq_true, decide_eq_true_eq]
        omega
      · exact ends_eq (b_eq (by rw [decide_eq_true (k2 ht)]))
      · have k1 := k1 (by simpa using ht)
        refine ends_eq (b_eq ?_)
        simp only [Bool.true_eq, Bool.and_eq_true, Bool.or_eq_true, decide_eq_true_eq]
        omega
  · by_cases hv : VL l
    · rw [vl_t hv] at q14
      repeat' first
        | with_reducible refine k_seq ?_
        | with_reducible refine k_skip ?_
        | with_reducible refine k_blkS ?_
        | with_reducible refine k_blkR ?_
        | with_reducible refine k_blkC ?_
        | with_reducible refine k_blkH ?_
        | with_reducible refine k_blkB ?_
        | with_reducible refine k_blkK ?_
        | with_reducible refine k_blkE ?_
        | with_reducible refine k_reg ?_
        | with_reducible refine k_head (by with_unfolding_all rfl) ?_
        | with_reducible refine k_headS ?_
        | (with_reducible refine SepK.mk ?_ ?_; (refine sepQ_P ?_; simp [sepQ, sepG, AOp.late, AOp.free, AOp.xs, AOp.isAl, tokNe, AV.tok, stS_get, strip, AX.val, c4r0, c4r1, c4r2, c4r3, c4r4, c4r5, c4r6, c4r7, c4r8, c4r9, c4r10, c4r11, c4r13, c4r14, c4r15, c4r16, c4r17, c4r18, c4r19, c4r20, c4r21, c4r22, c4r23, c4r24, c4r25, c4r26, GA]; try omega))
        | with_reducible refine r_done ?_
        | with_reducible refine hr_done ?_
        | with_reducible refine s_go (by simp (disch := omega) only [hw, c4r0, c4r1, c4r2, c4r3, c4r4, c4r5, c4r6, c4r7, c4r8, c4r9, c4r10, c4r11, c4r13, c4r14, c4r15, c4r16, c4r17, c4r18, c4r19, c4r20, c4r21, c4r22, c4r23, c4r24, c4r25, c4r26, EV0, EV1, EV2, EV3, EV4, EV5, EV6, EV7, EV8, VALS, plug, ite_same, decide_true, decide_false, eq_self, ↓reduceIte, reduceCtorEq, Nat.reduceAdd, Nat.reduceEqDiff, Nat.reduceLT, Nat.reduceLeDiff, Nat.reduceMul, Nat.reduceSub, Nat.reduceDiv, Int.reduceToNat, Int.reduceAdd, Int.reduceSub, Int.reduceMul, Int.reduceNeg, Int.reduceEq, Int.reduceLT, Int.reduceLE]; with_reducible rfl) ?_
        | with_reducible refine h_go (by with_unfolding_all rfl) (by simp (disch := omega) only [hw, c4r0, c4r1, c4r2, c4r3, c4r4, c4r5, c4r6, c4r7, c4r8, c4r9, c4r10, c4r11, c4r13, c4r14, c4r15, c4r16, c4r17, c4r18, c4r19, c4r20, c4r21, c4r22, c4r23, c4r24, c4r25, c4r26, EV0, EV1, EV2, EV3, EV4, EV5, EV6, EV7, EV8, VALS, plug, ite_same, decide_true, decide_false, eq_self, ↓reduceIte, reduceCtorEq, Nat.reduceAdd, Nat.reduceEqDiff, Nat.reduceLT, Nat.reduceLeDiff, Nat.reduceMul, Nat.reduceSub, Nat.reduceDiv, Int.reduceToNat, Int.reduceAdd, Int.reduceSub, Int.reduceMul, Int.reduceNeg, Int.reduceEq, Int.reduceLT, Int.reduceLE]; with_reducible rfl) ?_
        | ((with_reducible refine chk_r ?_); refine r_callF (by simp only [CA, Nat.reduceEqDiff, ↓reduceIte]; rfl) (by exact rfl) (by simp only [CA, Nat.reduceEqDiff, ↓reduceIte]; rfl) rfl ?_)
        | ((with_reducible refine chk_h ?_); refine hr_callF (by simp only [CA, Nat.reduceEqDiff, ↓reduceIte]; rfl) (by exact rfl) (by simp only [CA, Nat.reduceEqDiff, ↓reduceIte]; rfl) rfl ?_)
        | ((with_reducible refine chk_r ?_); refine r_callP (by simp only [CA, Nat.reduceEqDiff, ↓reduceIte]; rfl) (by simp only [CA, Nat.reduceEqDiff, ↓reduceIte]; rfl) (by first | exact q23 _ | exact q14 _ | exact pc24 _) rfl ?_)
        | ((with_reducible refine chk_h ?_); refine hr_callP (by simp only [CA, Nat.reduceEqDiff, ↓reduceIte]; rfl) (by simp only [CA, Nat.reduceEqDiff, ↓reduceIte]; rfl) (by first | exact q23 _ | exact q14 _ | exact pc24 _) rfl ?_)
        | ((with_reducible refine chk_h ?_); refine hr_callP1 (by simp only [CA, Nat.reduceEqDiff, ↓reduceIte]; rfl) (by simp only [CA, Nat.reduceEqDiff, ↓reduceIte]; rfl) (by simp (disch := omega) only [CA, Nat.reduceEqDiff, ↓reduceIte, firstTok_nil, firstTok_sl, firstTok_sl0, firstTok_i, firstTok_b, firstTok_ag, firstTok_p, firstTok_s]; rfl) (by first | exact q23 _ | exact q14 _ | exact pc24 _) rfl ?_)
        | ((with_reducible refine chk_r ?_); refine r_callG (by simp only [CA, Nat.reduceEqDiff, ↓reduceIte]; rfl) (by simp only [CA, Nat.reduceEqDiff, ↓reduceIte]; rfl) (by simp only [CA, Nat.reduceEqDiff, ↓reduceIte]; rfl) (by intro hg; (try simp only [BO] at hg); first | exact q23 _ | exact q14 _ | exact pc24 _) rfl ?_)
        | ((with_reducible refine chk_h ?_); refine hr_callG (by simp only [CA, Nat.reduceEqDiff, ↓reduceIte]; rfl) (by simp only [CA, Nat.reduceEqDiff, ↓reduceIte]; rfl) (by simp only [CA, Nat.reduceEqDiff, ↓reduceIte]; rfl) (by intro hg; (try simp only [BO] at hg); first | exact q23 _ | exact q14 _ | exact pc24 _) rfl ?_)
        | ((with_reducible refine chk_h ?_); refine hr_app (by simp (disch := omega) only [hw, c4r0, c4r1, c4r2, c4r3, c4r4, c4r5, c4r6, c4r7, c4r8, c4r9, c4r10, c4r11, c4r13, c4r14, c4r15, c4r16, c4r17, c4r18, c4r19, c4r20, c4r21, c4r22, c4r23, c4r24, c4r25, c4r26, EV0, EV1, EV2, EV3, EV4, EV5, EV6, EV7, EV8, VALS, plug, ite_same, decide_true, decide_false, eq_self, ↓reduceIte, reduceCtorEq, Nat.reduceAdd, Nat.reduceEqDiff, Nat.reduceLT, Nat.reduceLeDiff, Nat.reduceMul, Nat.reduceSub, Nat.reduceDiv, Int.reduceToNat, Int.reduceAdd, Int.reduceSub, Int.reduceMul, Int.reduceNeg, Int.reduceEq, Int.reduceLT, Int.reduceLE]; with_reducible rfl) rfl ?_)
        | (with_reducible refine k_condP (by simp only [GA, Nat.reduceEqDiff, ↓reduceIte]; rfl) (by first | (simp only [BO]; rfl) | rfl) (fun ht => ?_) (fun ht => ?_) <;> try (first | exact False.elim ht | exact absurd rfl ht | exact absurd trivial ht | exact Bool.noConfusion ht))
        | (with_reducible refine k_ret ?_; repeat with_reducible (first | refine ret_thru ?_ | refine ret_blk ?_ | refine fin ?_))
        | (with_reducible refine k_exit ?_; repeat with_reducible (first | refine thru ?_ | refine out_blk ?_ | refine pass (by decide) ?_))
        | (refine post1 ?_; simp only [GA, Nat.reduceEqDiff, ↓reduceIte])
        | (refine post2 ?_; simp only [GA, Nat.reduceEqDiff, ↓reduceIte])
        | (refine post3 ?_; simp only [GA, Nat.reduceEqDiff, ↓reduceIte])
        | (refine postc (by simp only [GA, Nat.reduceEqDiff, ↓reduceIte]; rfl) (by simp (disch := omega) only [hw, c4r0, c4r1, c4r2, c4r3, c4r4, c4r5, c4r6, c4r7, c4r8, c4r9, c4r10, c4r11, c4r13, c4r14, c4r15, c4r16, c4r17, c4r18, c4r19, c4r20, c4r21, c4r22, c4r23, c4r24, c4r25, c4r26, EV0, EV1, EV2, EV3, EV4, EV5, EV6, EV7, EV8, VALS, plug, ite_same, decide_true, decide_false, eq_self, ↓reduceIte, reduceCtorEq, Nat.reduceAdd, Nat.reduceEqDiff, Nat.reduceLT, Nat.reduceLeDiff, Nat.reduceMul, Nat.reduceSub, Nat.reduceDiv, Int.reduceToNat, Int.reduceAdd, Int.reduceSub, Int.reduceMul, Int.reduceNeg, Int.reduceEq, Int.reduceLT, Int.reduceLE]; rfl) ?_)
        | refine post0 ?_
      · exact ends_of
      · exact absurd ⟨by omega, hv, by omega, by omega⟩ C
    · rw [vl_f hv] at q14
      repeat' first
        | with_reducible refine k_seq ?_
        | with_reducible refine k_skip ?_
        | with_reducible refine k_blkS ?_
        | with_reducible refine k_blkR ?_
        | with_reducible refine k_blkC ?_
        | with_reducible refine k_blkH ?_
        | with_reducible refine k_blkB ?_
        | with_reducible refine k_blkK ?_
        | with_reducible refine k_blkE ?_
        | with_reducible refine k_reg ?_
        | with_reducible refine k_head (by with_unfolding_all rfl) ?_
        | with_reducible refine k_headS ?_
        | (with_reducible refine SepK.mk ?_ ?_; (refine sepQ_P ?_; simp [sepQ, sepG, AOp.late, AOp.free, AOp.xs, AOp.isAl, tokNe, AV.tok, stS_get, strip, AX.val, c4r0, c4r1, c4r2, c4r3, c4r4, c4r5, c4r6, c4r7, c4r8, c4r9, c4r10, c4r11, c4r13, c4r14, c4r15, c4r16, c4r17, c4r18, c4r19, c4r20, c4r21, c4r22, c4r23, c4r24, c4r25, c4r26, GA]; try omega))
        | with_reducible refine r_done ?_
        | with_reducible refine hr_done ?_
        | with_reducible refine s_go (by simp (disch := omega) only [hw, c4r0, c4r1, c4r2, c4r3, c4r4, c4r5, c4r6, c4r7, c4r8, c4r9, c4r10, c4r11, c4r13, c4r14, c4r15, c4r16, c4r17, c4r18, c4r19, c4r20, c4r21, c4r22, c4r23, c4r24, c4r25, c4r26, EV0, EV1, EV2, EV3, EV4, EV5, EV6, EV7, EV8, VALS, plug, ite_same, decide_true, decide_false, eq_self, ↓reduceIte, reduceCtorEq, Nat.reduceAdd, Nat.reduceEqDiff, Nat.reduceLT, Nat.reduceLeDiff, Nat.reduceMul, Nat.reduceSub, Nat.reduceDiv, Int.reduceToNat, Int.reduceAdd, Int.reduceSub, Int.reduceMul, Int.reduceNeg, Int.reduceEq, Int.reduceLT, Int.reduceLE]; with_reducible rfl) ?_
        | with_reducible refine h_go (by with_unfolding_all rfl) (by simp (disch := omega) only [hw, c4r0, c4r1, c4r2, c4r3, c4r4, c4r5, c4r6, c4r7, c4r8, c4r9, c4r10, c4r11, c4r13, c4r14, c4r15, c4r16, c4r17, c4r18, c4r19, c4r20, c4r21, c4r22, c4r23, c4r24, c4r25, c4r26, EV0, EV1, EV2, EV3, EV4, EV5, EV6, EV7, EV8, VALS, plug, ite_same, decide_true, decide_false, eq_self, ↓reduceIte, reduceCtorEq, Nat.reduceAdd, Nat.reduceEqDiff, Nat.reduceLT, Nat.reduceLeDiff, Nat.reduceMul, Nat.reduceSub, Nat.reduceDiv, Int.reduceToNat, Int.reduceAdd, Int.reduceSub, Int.reduceMul, Int.reduceNeg, Int.reduceEq, Int.reduceLT, Int.reduceLE]; with_reducible rfl) ?_
        | ((with_reducible refine chk_r ?_); refine r_callF (by simp only [CA, Nat.reduceEqDiff, ↓reduceIte]; rfl) (by exact rfl) (by simp only [CA, Nat.reduceEqDiff, ↓reduceIte]; rfl) rfl ?_)
        | ((with_reducible refine chk_h ?_); refine hr_callF (by simp only [CA, Nat.reduceEqDiff, ↓reduceIte]; rfl) (by exact rfl) (by simp only [CA, Nat.reduceEqDiff, ↓reduceIte]; rfl) rfl ?_)
        | ((with_reducible refine chk_r ?_); refine r_callP (by simp only [CA, Nat.reduceEqDiff, ↓reduceIte]; rfl) (by simp only [CA, Nat.reduceEqDiff, ↓reduceIte]; rfl) (by first | exact q23 _ | exact q14 _ | exact pc24 _) rfl ?_)
        | ((with_reducible refine chk_h ?_); refine hr_callP (by simp only [CA, Nat.reduceEqDiff, ↓reduceIte]; rfl) (by simp only [CA, Nat.reduceEqDiff, ↓reduceIte]; rfl) (by first | exact q23 _ | exact q14 _ | exact pc24 _) rfl ?_)
        | ((with_reducible refine chk_h ?_); refine hr_callP1 (by simp only [CA, Nat.reduceEqDiff, ↓reduceIte]; rfl) (by simp only [CA, Nat.reduceEqDiff, ↓reduceIte]; rfl) (by simp (disch := omega) only [CA, Nat.reduceEqDiff, ↓reduceIte, firstTok_nil, firstTok_sl, firstTok_sl0, firstTok_i, firstTok_b, firstTok_ag, firstTok_p, firstTok_s]; rfl) (by first | exact q23 _ | exact q14 _ | exact pc24 _) rfl ?_)
        | ((with_reducible refine chk_r ?_); refine r_callG (by simp only [CA, Nat.reduceEqDiff, ↓reduceIte]; rfl) (by simp only [CA, Nat.reduceEqDiff, ↓reduceIte]; rfl) (by simp only [CA, Nat.reduceEqDiff, ↓reduceIte]; rfl) (by intro hg; (try simp only [BO] at hg); first | exact q23 _ | exact q14 _ | exact pc24 _) rfl ?_)
        | ((with_reducible refine chk_h ?_); refine hr_callG (by simp only [CA, Nat.reduceEqDiff, ↓reduceIte]; rfl) (by simp only [CA, Nat.reduceEqDiff, ↓reduceIte]; rfl) (by simp only [CA, Nat.reduceEqDiff, ↓reduceIte]; rfl) (by intro hg; (try simp only [BO] at hg); first | exact q23 _ | exact q14 _ | exact pc24 _) rfl ?_)
        | ((with_reducible refine chk_h ?_); refine hr_app (by simp (disch := omega) only [hw, c4r0, c4r1, c4r2, c4r3, c4r4, c4r5, c4r6, c4r7, c4r8, c4r9, c4r10, c4r11, c4r13, c4r14, c4r15, c4r16, c4r17, c4r18, c4r19, c4r20, c4r21, c4r22, c4r23, c4r24, c4r25, c4r26, EV0, EV1, EV2, EV3, EV4, EV5, EV6, EV7, EV8, VALS, plug, ite_same, decide_true, decide_false, eq_self, ↓reduceIte, reduceCtorEq, Nat.reduceAdd, Nat.reduceEqDiff, Nat.reduceLT, Nat.reduceLeDiff, Nat.reduceMul, Nat.reduceSub, Nat.reduceDiv, Int.reduceToNat, Int.reduceAdd, Int.reduceSub, Int.reduceMul, Int.reduceNeg, Int.reduceEq, Int.reduceLT, Int.reduceLE]; with_reducible rfl) rfl ?_)
        | (with_reducible refine k_condP (by simp only [GA, Nat.reduceEqDiff, ↓reduceIte]; rfl) (by first | (simp only [BO]; rfl) | rfl) (fun ht => ?_) (fun ht => ?_) <;> try (first | exact False.elim ht | exact absurd rfl ht | exact absurd trivial ht | exact Bool.noConfusion ht))
        | (with_reducible refine k_ret ?_; repeat with_reducible (first | refine ret_thru ?_ | refine ret_blk ?_ | refine fin ?_))
        | (with_reducible refine k_exit ?_; repeat with_reducible (first | refine thru ?_ | refine out_blk ?_ | refine pass (by decide) ?_))
        | (refine post1 ?_; simp only [GA, Nat.reduceEqDiff, ↓reduceIte])
        | (refine post2 ?_; simp only [GA, Nat.reduceEqDiff, ↓reduceIte])
        | (refine post3 ?_; simp only [GA, Nat.reduceEqDiff, ↓reduceIte])
        | (refine postc (by simp only [GA, Nat.reduceEqDiff, ↓reduceIte]; rfl) (by simp (disch := omega) only [hw, c4r0, c4r1, c4r2, c4r3, c4r4, c4r5, c4r6, c4r7, c4r8, c4r9, c4r10, c4r11, c4r13, c4r14, c4r15, c4r16, c4r17, c4r18, c4r19, c4r20, c4r21, c4r22, c4r23, c4r24, c4r25, c4r26, EV0, EV1, EV2, EV3, EV4, EV5, EV6, EV7, EV8, VALS, plug, ite_same, decide_true, decide_false, eq_self, ↓reduceIte, reduceCtorEq, Nat.reduceAdd, Nat.reduceEqDiff, Nat.reduceLT, Nat.reduceLeDiff, Nat.reduceMul, Nat.reduceSub, Nat.reduceDiv, Int.reduceToNat, Int.reduceAdd, Int.reduceSub, Int.reduceMul, Int.reduceNeg, Int.reduceEq, Int.reduceLT, Int.reduceLE]; rfl) ?_)
        | refine post0 ?_
      all_goals first | exact ends_of | exact ends_eq rfl
end Go.Proofs.Ytbhkbaapfioijaa
