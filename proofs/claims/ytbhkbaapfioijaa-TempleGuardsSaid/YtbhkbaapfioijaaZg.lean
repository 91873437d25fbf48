/- What the proof of the law needs: the abstract machine, the functions as it reads them, their contracts, part 7. -/
import Derived.Test.YtbhkbaapfioijaaZf
set_option linter.unusedVariables false
set_option linter.unusedSimpArgs false
namespace Go.Proofs.Ytbhkbaapfioijaa
open Go Go.Am Go.Proofs Go.Sort
/-! ### TempleGuards -/
theorem vi_nat (g : List Nat) : vi (g.map fun (n : Nat) => (n : Int)) = .vs g.length (nl g) := by rw [vi, List.length_map, ← nl_il]
theorem pc11 (l : List T) (hl : l.length ≤ 9223372036854775807) (tol : Int) (ns : List Int) (hn : ns.length ≤ 9223372036854775807) : PC Try.prog 11 [vT l, .i .i64 tol, vi ns] (.b true) := by
  refine pc_fn fn11 (by simp only [AV.plains, AV.plain, il_plain, bl_plain, Bool.and_true, Bool.true_and, Bool.and_self, flT_plain]) (by simp only [AV.plains, AV.plain, il_plain, bl_plain, Bool.and_true, Bool.true_and, Bool.and_self, flT_plain]) (Nat.le_of_ble_eq_true rfl) ?_
  rw [initSt3]
  have q23 := pc23 l hl 40
  by_cases C : l.length ≤ 40 ∧ ns.length ≤ 60
  · obtain ⟨c1, c2⟩ := C
    have a1 := pc41 l hl tol ns hn
    have a2 := pc20 l hl tol ns hn
    have a3 := pc18 l hl tol
    have a4 := pc29 l hl tol
    unfold matR at a4
    by_cases h0 : asked l tol = 0
    · rw [h0, if_pos rfl] at a4
      repeat' first
        | with_reducible refine k_seq ?_
        | with_reducible refine k_skip ?_
        | with_reducible refine k_blkS ?_
        | with_reducible refine k_blkR ?_
        | with_reducible refine k_blkC ?_
        | with_reducible refine k_blkH ?_
        | with_reducible refine k_blkB ?_
        | with_reducible refine k_blkK ?_
        | with_reducible refine k_blkE ?_
        | with_reducible refine k_reg ?_
        | with_reducible refine k_head (by with_unfolding_all rfl) ?_
        | with_reducible refine k_headS ?_
        | (with_reducible refine SepK.mk ?_ ?_; (refine sepQ_P ?_; simp [sepQ, sepG, AOp.late, AOp.free, AOp.xs, AOp.isAl, tokNe, AV.tok, stS_get, strip, AX.val, c11r0, c11r1, c11r2, c11r3, c11r4, c11r5, c11r6, c11r7, c11r8, c11r9, c11r10, c11r11, c11r12, c11r13, c11r14, c11r15, c11r16, c11r17, c11r18, c11r20, GA]; try omega))
        | with_reducible refine r_done ?_
        | with_reducible refine hr_done ?_
        | with_reducible refine s_go (by simp (disch := omega) only [c11r0, c11r1, c11r2, c11r3, c11r4, c11r5, c11r6, c11r7, c11r8, c11r9, c11r10, c11r11, c11r12, c11r13, c11r14, c11r15, c11r16, c11r17, c11r18, c11r20, EV0, EV1, EV2, EV3, EV4, EV5, EV6, EV7, EV8, VALS, plug, ite_same, decide_true, decide_false, eq_self, ↓reduceIte, reduceCtorEq, Nat.reduceAdd, Nat.reduceEqDiff, Nat.reduceLT, Nat.reduceLeDiff, Nat.reduceMul, Nat.reduceSub, Nat.reduceDiv, Int.reduceToNat, Int.reduceAdd, Int.reduceSub, Int.reduceMul, Int.reduceNeg, Int.reduceEq, Int.reduceLT, Int.reduceLE]; with_reducible rfl) ?_
        | with_reducible refine h_go (by with_unfolding_all rfl) (by simp (disch := omega) only [c11r0, c11r1, c11r2, c11r3, c11r4, c11r5, c11r6, c11r7, c11r8, c11r9, c11r10, c11r11, c11r12, c11r13, c11r14, c11r15, c11r16, c11r17, c11r18, c11r20, EV0, EV1, EV2, EV3, EV4, EV5, EV6, EV7, EV8, VALS, plug, ite_same, decide_true, decide_false, eq_self, ↓reduceIte, reduceCtorEq, Nat.reduceAdd, Nat.reduceEqDiff, Nat.reduceLT, Nat.reduceLeDiff, Nat.reduceMul, Nat.reduceSub, Nat.reduceDiv, Int.reduceToNat, Int.reduceAdd, Int.reduceSub, Int.reduceMul, Int.reduceNeg, Int.reduceEq, Int.reduceLT, Int.reduceLE]; with_reducible rfl) ?_
        | ((with_reducible refine chk_r ?_); refine r_callF (by simp only [CA, Nat.reduceEqDiff, ↓reduceIte]; rfl) (by exact rfl) (by simp only [CA, Nat.reduceEqDiff, ↓reduceIte]; rfl) rfl ?_)
        | ((with_reducible refine chk_h ?_); refine hr_callF (by simp only [CA, Nat.reduceEqDiff, ↓reduceIte]; rfl) (by exact rfl) (by simp only [CA, Nat.reduceEqDiff, ↓reduceIte]; rfl) rfl ?_)
        | ((with_reducible refine chk_r ?_); refine r_callP (by simp only [CA, Nat.reduceEqDiff, ↓reduceIte]; rfl) (by simp only [CA, Nat.reduceEqDiff, ↓reduceIte]; rfl) (by first | exact q23 _ | exact pc24 _ | exact a1 _ | exact a2 _ | exact a4 _) rfl ?_)
        | ((with_reducible refine chk_h ?_); refine hr_callP (by simp only [CA, Nat.reduceEqDiff, ↓reduceIte]; rfl) (by simp only [CA, Nat.reduceEqDiff, ↓reduceIte]; rfl) (by first | exact q23 _ | exact pc24 _ | exact a1 _ | exact a2 _ | exact a4 _) rfl ?_)
        | ((with_reducible refine chk_h ?_); refine hr_callP1 (by simp only [CA, Nat.reduceEqDiff, ↓reduceIte]; rfl) (by simp only [CA, Nat.reduceEqDiff, ↓reduceIte]; rfl) (by simp (disch := omega) only [CA, Nat.reduceEqDiff, ↓reduceIte, firstTok_nil, firstTok_sl, firstTok_sl0, firstTok_i, firstTok_b, firstTok_ag, firstTok_p, firstTok_s]; rfl) (by first | exact q23 _ | exact pc24 _ | exact a1 _ | exact a2 _ | exact a4 _) rfl ?_)
        | ((with_reducible refine chk_r ?_); refine r_callG (by simp only [CA, Nat.reduceEqDiff, ↓reduceIte]; rfl) (by simp only [CA, Nat.reduceEqDiff, ↓reduceIte]; rfl) (by simp only [CA, Nat.reduceEqDiff, ↓reduceIte]; rfl) (by intro hg; (try simp only [BO] at hg); first | exact q23 _ | exact pc24 _ | exact a1 _ | exact a2 _ | exact a4 _) rfl ?_)
        | ((with_reducible refine chk_h ?_); refine hr_callG (by simp only [CA, Nat.reduceEqDiff, ↓reduceIte]; rfl) (by simp only [CA, Nat.reduceEqDiff, ↓reduceIte]; rfl) (by simp only [CA, Nat.reduceEqDiff, ↓reduceIte]; rfl) (by intro hg; (try simp only [BO] at hg); first | exact q23 _ | exact pc24 _ | exact a1 _ | exact a2 _ | exact a4 _) rfl ?_)
        | ((with_reducible refine chk_h ?_); refine hr_app (by simp (disch := omega) only [c11r0, c11r1, c11r2, c11r3, c11r4, c11r5, c11r6, c11r7, c11r8, c11r9, c11r10, c11r11, c11r12, c11r13, c11r14, c11r15, c11r16, c11r17, c11r18, c11r20, EV0, EV1, EV2, EV3, EV4, EV5, EV6, EV7, EV8, VALS, plug, ite_same, decide_true, decide_false, eq_self, ↓reduceIte, reduceCtorEq, Nat.reduceAdd, Nat.reduceEqDiff, Nat.reduceLT, Nat.reduceLeDiff, Nat.reduceMul, Nat.reduceSub, Nat.reduceDiv, Int.reduceToNat, Int.reduceAdd, Int.reduceSub, Int.reduceMul, Int.reduceNeg, Int.reduceEq, Int.reduceLT, Int.reduceLE]; with_reducible rfl) rfl ?_)
        | ((with_reducible refine chk_r ?_); refine r_callX (by simp only [CA, Nat.reduceEqDiff, ↓reduceIte]; rfl) (by simp only [CA, Nat.reduceEqDiff, ↓reduceIte]; rfl) (by first | exact a3 _) rfl ?_)
        | ((with_reducible refine chk_r ?_); refine r_callTX (by first | (simp only [CA, Nat.reduceEqDiff, ↓reduceIte]; rfl) | simp only [CA, Nat.reduceEqDiff, ↓reduceIte]) (by simp only [CA, Nat.reduceEqDiff, ↓reduceIte]; rfl) (by simp only [CA, Nat.reduceEqDiff, ↓reduceIte]; rfl) (by first | exact a3 _) rfl ?_)
        | (with_reducible refine k_condP (by simp only [GA, Nat.reduceEqDiff, ↓reduceIte]; rfl) (by first | (simp only [BO]; rfl) | rfl) (fun ht => ?_) (fun ht => ?_) <;> try (first | exact False.elim ht | exact absurd rfl ht | exact absurd trivial ht | exact Bool.noConfusion ht))
        | (with_reducible refine k_ret ?_; repeat with_reducible (first | refine ret_thru ?_ | refine ret_blk ?_ | refine fin ?_))
        | (with_reducible refine k_exit ?_; repeat with_reducible (first | refine thru ?_ | refine out_blk ?_ | refine pass (by decide) ?_))
        | (refine post1 ?_; simp only [GA, Nat.reduceEqDiff, ↓reduceIte])
        | (refine post2 ?_; simp only [GA, Nat.reduceEqDiff, ↓reduceIte])
        | (refine post3 ?_; simp only [GA, Nat.reduceEqDiff, ↓reduceIte])
        | (refine postc (by simp only [GA, Nat.reduceEqDiff, ↓reduceIte]; rfl) (by simp (disch := omega) only [c11r0, c11r1, c11r2, c11r3, c11r4, c11r5, c11r6, c11r7, c11r8, c11r9, c11r10, c11r11, c11r12, c11r13, c11r14, c11r15, c11r16, c11r17, c11r18, c11r20, EV0, EV1, EV2, EV3, EV4, EV5, EV6, EV7, EV8, VALS, plug, ite_same, decide_true, decide_false, eq_self, ↓reduceIte, reduceCtorEq, Nat.reduceAdd, Nat.reduceEqDiff, Nat.reduceLT, Nat.reduceLeDiff, Nat.reduceMul, Nat.reduceSub, Nat.reduceDiv, Int.reduceToNat, Int.reduceAdd, Int.reduceSub, Int.reduceMul, Int.reduceNeg, Int.reduceEq, Int.reduceLT, Int.reduceLE]; rfl) ?_)
        | refine post0 ?_
      all_goals try (exfalso; omega)
      rintro r h' ⟨hR, rfl⟩
      obtain ⟨g, hg, rfl⟩ : ∃ g : List Nat, GOK l tol g ∧ r = .tu [.vs g.length (nl g), .i .i64 0] := by
        rcases hR with ⟨_, hg⟩ | ⟨hn, _⟩
        · exact hg
        · exact absurd h0 hn
      have gl := hg.le
      have a5 := pc20 l hl tol (g.map fun (n : Nat) => (n : Int)) (by rw [List.length_map]; omega)
      rw [hg.is h0, vi_nat] at a5
      rw [← hg.len] at a4
      repeat' first
        | with_reducible refine k_seq ?_
        | with_reducible refine k_skip ?_
        | with_reducible refine k_blkS ?_
        | with_reducible refine k_blkR ?_
        | with_reducible refine k_blkC ?_
        | with_reducible refine k_blkH ?_
        | with_reducible refine k_blkB ?_
        | with_reducible refine k_blkK ?_
        | with_reducible refine k_blkE ?_
        | with_reducible refine k_reg ?_
        | with_reducible refine k_head (by with_unfolding_all rfl) ?_
        | with_reducible refine k_headS ?_
        | (with_reducible refine SepK.mk ?_ ?_; (refine sepQ_P ?_; simp [sepQ, sepG, AOp.late, AOp.free, AOp.xs, AOp.isAl, tokNe, AV.tok, stS_get, strip, AX.val, c11r0, c11r1, c11r2, c11r3, c11r4, c11r5, c11r6, c11r7, c11r8, c11r9, c11r10, c11r11, c11r12, c11r13, c11r14, c11r15, c11r16, c11r17, c11r18, c11r20, GA]; try omega))
        | with_reducible refine r_done ?_
        | with_reducible refine hr_done ?_
        | with_reducible refine s_go (by simp (disch := omega) only [c11r0, c11r1, c11r2, c11r3, c11r4, c11r5, c11r6, c11r7, c11r8, c11r9, c11r10, c11r11, c11r12, c11r13, c11r14, c11r15, c11r16, c11r17, c11r18, c11r20, EV0, EV1, EV2, EV3, EV4, EV5, EV6, EV7, EV8, VALS, plug, ite_same, decide_true, decide_false, eq_self, ↓reduceIte, reduceCtorEq, Nat.reduceAdd, Nat.reduceEqDiff, Nat.reduceLT, Nat.reduceLeDiff, Nat.reduceMul, Nat.reduceSub, Nat.reduceDiv, Int.reduceToNat, Int.reduceAdd, Int.reduceSub, Int.reduceMul, Int.reduceNeg, Int.reduceEq, Int.reduceLT, Int.reduceLE]; with_reducible rfl) ?_
        | with_reducible refine h_go (by with_unfolding_all rfl) (by simp (disch := omega) only [c11r0, c11r1, c11r2, c11r3, c11r4, c11r5, c11r6, c11r7, c11r8, c11r9, c11r10, c11r11, c11r12, c11r13, c11r14, c11r15, c11r16, c11r17, c11r18, c11r20, EV0, EV1, EV2, EV3, EV4, EV5, EV6, EV7, EV8, VALS, plug, ite_same, decide_true, decide_false, eq_self, ↓reduceIte, reduceCtorEq, Nat.reduceAdd, Nat.reduceEqDiff, Nat.reduceLT, Nat.reduceLeDiff, Nat.reduceMul, Nat.reduceSub, Nat.reduceDiv, Int.reduceToNat, Int.reduceAdd, Int.reduceSub, Int.reduceMul, Int.reduceNeg, Int.reduceEq, Int.reduceLT, Int.reduceLE]; with_reducible rfl) ?_
        | ((with_reducible refine chk_r ?_); refine r_callF (by simp only [CA, Nat.reduceEqDiff, ↓reduceIte]; rfl) (by exact rfl) (by simp only [CA, Nat.reduceEqDiff, ↓reduceIte]; rfl) rfl ?_)
        | ((with_reducible refine chk_h ?_); refine hr_callF (by simp only [CA, Nat.reduceEqDiff, ↓reduceIte]; rfl) (by exact rfl) (by simp only [CA, Nat.reduceEqDiff, ↓reduceIte]; rfl) rfl ?_)
        | ((with_reducible refine chk_r ?_); refine r_callP (by simp only [CA, Nat.reduceEqDiff, ↓reduceIte]; rfl) (by simp only [CA, Nat.reduceEqDiff, ↓reduceIte]; rfl) (by first | exact q23 _ | exact pc24 _ | exact a4 _ | exact a5 _) rfl ?_)
        | ((with_reducible refine chk_h ?_); refine hr_callP (by simp only [CA, Nat.reduceEqDiff, ↓reduceIte]; rfl) (by simp only [CA, Nat.reduceEqDiff, ↓reduceIte]; rfl) (by first | exact q23 _ | exact pc24 _ | exact a4 _ | exact a5 _) rfl ?_)
        | ((with_reducible refine chk_h ?_); refine hr_callP1 (by simp only [CA, Nat.reduceEqDiff, ↓reduceIte]; rfl) (by simp only [CA, Nat.reduceEqDiff, ↓reduceIte]; rfl) (by simp (disch := omega) only [CA, Nat.reduceEqDiff, ↓reduceIte, firstTok_nil, firstTok_sl, firstTok_sl0, firstTok_i, firstTok_b, firstTok_ag, firstTok_p, firstTok_s]; rfl) (by first | exact q23 _ | exact pc24 _ | exact a4 _ | exact a5 _) rfl ?_)
        | ((with_reducible refine chk_r ?_); refine r_callG (by simp only [CA, Nat.reduceEqDiff, ↓reduceIte]; rfl) (by simp only [CA, Nat.reduceEqDiff, ↓reduceIte]; rfl) (by simp only [CA, Nat.reduceEqDiff, ↓reduceIte]; rfl) (by intro hg; (try simp only [BO] at hg); first | exact q23 _ | exact pc24 _ | exact a4 _ | exact a5 _) rfl ?_)
        | ((with_reducible refine chk_h ?_); refine hr_callG (by simp only [CA, Nat.reduceEqDiff, ↓reduceIte]; rfl) (by simp only [CA, Nat.reduceEqDiff, ↓reduceIte]; rfl) (by simp only [CA, Nat.reduceEqDiff, ↓reduceIte]; rfl) (by intro hg; (try simp only [BO] at hg); first | exact q23 _ | exact pc24 _ | exact a4 _ | exact a5 _) rfl ?_)
        | ((with_reducible refine chk_h ?_); refine hr_app (by simp (disch := omega) only [c11r0, c11r1, c11r2, c11r3, c11r4, c11r5, c11r6, c11r7, c11r8, c11r9, c11r10, c11r11, c11r12, c11r13, c11r14, c11r15, c11r16, c11r17, c11r18, c11r20, EV0, EV1, EV2, EV3, EV4, EV5, EV6, EV7, EV8, VALS, plug, ite_same, decide_true, decide_false, eq_self, ↓reduceIte, reduceCtorEq, Nat.reduceAdd, Nat.reduceEqDiff, Nat.reduceLT, Nat.reduceLeDiff, Nat.reduceMul, Nat.reduceSub, Nat.reduceDiv, Int.reduceToNat, Int.reduceAdd, Int.reduceSub, Int.reduceMul, Int.reduceNeg, Int.reduceEq, Int.reduceLT, Int.reduceLE]; with_reducible rfl) rfl ?_)
        | (with_reducible refine k_condP (by simp only [GA, Nat.reduceEqDiff, ↓reduceIte]; rfl) (by first | (simp only [BO]; rfl) | rfl) (fun ht => ?_) (fun ht => ?_) <;> try (first | exact False.elim ht | exact absurd rfl ht | exact absurd trivial ht | exact Bool.noConfusion ht))
        | (with_reducible refine k_ret ?_; repeat with_reducible (first | refine ret_thru ?_ | refine ret_blk ?_ | refine fin ?_))
        | (with_reducible refine k_exit ?_; repeat with_reducible (first | refine thru ?_ | refine out_blk ?_ | refine pass (by decide) ?_))
        | (refine post1 ?_; simp only [GA, Nat.reduceEqDiff, ↓reduceIte])
        | (refine post2 ?_; simp only [GA, Nat.reduceEqDiff, ↓reduceIte])
        | (refine post3 ?_; simp only [GA, Nat.reduceEqDiff, ↓reduceIte])
        | (refine postc (by simp only [GA, Nat.reduceEqDiff, ↓reduceIte]; rfl) (by simp (disch := omega) only [c11r0, c11r1, c11r2, c11r3, c11r4, c11r5, c11r6, c11r7, c11r8, c11r9, c11r10, c11r11, c11r12, c11r13, c11r14, c11r15, c11r16, c11r17, c11r18, c11r20, EV0, EV1, EV2, EV3, EV4, EV5, EV6, EV7, EV8, VALS, plug, ite_same, decide_true, decide_false, eq_self, ↓reduceIte, reduceCtorEq, Nat.reduceAdd, Nat.reduceEqDiff, Nat.reduceLT, Nat.reduceLeDiff, Nat.reduceMul, Nat.reduceSub, Nat.reduceDiv, Int.reduceToNat, Int.reduceAdd, Int.reduceSub, Int.reduceMul, Int.reduceNeg, Int.reduceEq, Int.reduceLT, Int.reduceLE]; rfl) ?_)
        | refine post0 ?_
      refine k_blk (k_loopS (X := Unit) [11, 13, 15, 16, 17] g.length (fun k _ => [(11, .vs g.length (nl g)), (13, .i .i64 (g.length : Int)), (15, .b true), (16, .i .i64 0), (17, .i .i64 ((k + 1 : Nat) : Int))]) (fun k _ h => True) () (by simp only [Am.keep, List.map_cons, List.map_nil, GA, Nat.reduceEqDiff, ↓reduceIte]; try rfl) trivial ?_)
      rintro k _ h hk - ok pos
      by_cases hlt : k + 1 < g.length
      · have hlt' : ((k + 1 : Nat) : Int) < g.length := by omega
        have e1 : ((k + 1 : Nat) : Int) - 1 = k := by omega
        have g1 := nl_get hlt
        have g2 := nl_get (show k < g.length by omega)
        have lt : g.getD k 0 < g.getD (k + 1) 0 := by
          have := List.pairwise_iff_getElem.1 hg.inc k (k + 1) (by omega) hlt (by omega)
          rw [getD_lt hlt, getD_lt (by omega)]; exact this
        repeat' first
          | with_reducible refine k_seq ?_
          | with_reducible refine k_skip ?_
          | with_reducible refine k_blkS ?_
          | with_reducible refine k_blkR ?_
          | with_reducible refine k_blkC ?_
          | with_reducible refine k_blkH ?_
          | with_reducible refine k_blkB ?_
          | with_reducible refine k_blkK ?_
          | with_reducible refine k_blkE ?_
          | with_reducible refine k_reg ?_
          | with_reducible refine k_head (by with_unfolding_all rfl) ?_
          | with_reducible refine k_headS ?_
          | (with_reducible refine SepK.mk ?_ ?_; (refine sepQ_P ?_; simp [sepQ, sepG, AOp.late, AOp.free, AOp.xs, AOp.isAl, tokNe, AV.tok, stS_get, strip, AX.val, c11r0, c11r1, c11r2, c11r3, c11r4, c11r5, c11r6, c11r7, c11r8, c11r9, c11r10, c11r11, c11r12, c11r13, c11r14, c11r15, c11r16, c11r17, c11r18, c11r20, GA]; try omega))
          | with_reducible refine r_done ?_
          | with_reducible refine hr_done ?_
          | with_reducible refine s_go (by simp (disch := omega) only [hlt', e1, g1, g2, c11r0, c11r1, c11r2, c11r3, c11r4, c11r5, c11r6, c11r7, c11r8, c11r9, c11r10, c11r11, c11r12, c11r13, c11r14, c11r15, c11r16, c11r17, c11r18, c11r20, EV0, EV1, EV2, EV3, EV4, EV5, EV6, EV7, EV8, VALS, plug, ite_same, decide_true, decide_false, eq_self, ↓reduceIte, reduceCtorEq, Nat.reduceAdd, Nat.reduceEqDiff, Nat.reduceLT, Nat.reduceLeDiff, Nat.reduceMul, Nat.reduceSub, Nat.reduceDiv, Int.reduceToNat, Int.reduceAdd, Int.reduceSub, Int.reduceMul, Int.reduceNeg, Int.reduceEq, Int.reduceLT, Int.reduceLE]; with_reducible rfl) ?_
          | with_reducible refine h_go (by with_unfolding_all rfl) (by simp (disch := omega) only [hlt', e1, g1, g2, c11r0, c11r1, c11r2, c11r3, c11r4, c11r5, c11r6, c11r7, c11r8, c11r9, c11r10, c11r11, c11r12, c11r13, c11r14, c11r15, c11r16, c11r17, c11r18, c11r20, EV0, EV1, EV2, EV3, EV4, EV5, EV6, EV7, EV8, VALS, plug, ite_same, decide_true, decide_false, eq_self, ↓reduceIte, reduceCtorEq, Nat.reduceAdd, Nat.reduceEqDiff, Nat.reduceLT, Nat.reduceLeDiff, Nat.reduceMul, Nat.reduceSub, Nat.reduceDiv, Int.reduceToNat, Int.reduceAdd, Int.reduceSub, Int.reduceMul, Int.reduceNeg, Int.reduceEq, Int.reduceLT, Int.reduceLE]; with_reducible rfl) ?_
          | ((with_reducible refine chk_r ?_); refine r_callF (by simp only [CA, Nat.reduceEqDiff, ↓reduceIte]; rfl) (by exact rfl) (by simp only [CA, Nat.reduceEqDiff, ↓reduceIte]; rfl) rfl ?_)
          | ((with_reducible refine chk_h ?_); refine hr_callF (by simp only [CA, Nat.reduceEqDiff, ↓reduceIte]; rfl) (by exact rfl) (by simp only [CA, Nat.reduceEqDiff, ↓reduceIte]; rfl) rfl ?_)
          | ((with_reducible refine chk_h ?_); refine hr_app (by simp (disch := omega) only [hlt', e1, g1, g2, c11r0, c11r1, c11r2, c11r3, c11r4, c11r5, c11r6, c11r7, c11r8, c11r9, c11r10, c11r11, c11r12, c11r13, c11r14, c11r15, c11r16, c11r17, c11r18, c11r20, EV0, EV1, EV2, EV3, EV4, EV5, EV6, EV7, EV8, VALS, plug, ite_same, decide_true, decide_false, eq_self, ↓reduceIte, reduceCtorEq, Nat.reduceAdd, Nat.reduceEqDiff, Nat.reduceLT, Nat.reduceLeDiff, Nat.reduceMul, Nat.reduceSub, Nat.reduceDiv, Int.reduceToNat, Int.reduceAdd, Int.reduceSub, Int.reduceMul, Int.reduceNeg, Int.reduceEq, Int.reduceLT, Int.reduceLE]; with_reducible rfl) rfl ?_)
          | (with_reducible refine k_condP (by simp only [GA, Nat.reduceEqDiff, ↓reduceIte]; rfl) (by first | (simp only [BO]; rfl) | rfl) (fun ht => ?_) (fun ht => ?_) <;> try (first | exact False.elim ht | exact absurd rfl ht | exact absurd trivial ht | exact Bool.noConfusion ht))
          | (with_reducible refine k_ret ?_; repeat with_reducible (first | refine ret_thru ?_ | refine ret_blk ?_ | refine fin ?_))
          | (with_reducible refine k_exit ?_; repeat with_reducible (first | refine thru ?_ | refine out_blk ?_ | refine pass (by decide) ?_))
          | (refine post1 ?_; simp only [GA, Nat.reduceEqDiff, ↓reduceIte])
          | (refine post2 ?_; simp only [GA, Nat.reduceEqDiff, ↓reduceIte])
          | (refine post3 ?_; simp only [GA, Nat.reduceEqDiff, ↓reduceIte])
          | (refine postc (by simp only [GA, Nat.reduceEqDiff, ↓reduceIte]; rfl) (by simp (disch := omega) only [hlt', e1, g1, g2, c11r0, c11r1, c11r2, c11r3, c11r4, c11r5, c11r6, c11r7, c11r8, c11r9, c11r10, c11r11, c11r12, c11r13, c11r14, c11r15, c11r16, c11r17, c11r18, c11r20, EV0, EV1, EV2, EV3, EV4, EV5, EV6, EV7, EV8, VALS, plug, ite_same, decide_true, decide_false, eq_self, ↓reduceIte, reduceCtorEq, Nat.reduceAdd, Nat.reduceEqDiff, Nat.reduceLT, Nat.reduceLeDiff, Nat.reduceMul, Nat.reduceSub, Nat.reduceDiv, Int.reduceToNat, Int.reduceAdd, Int.reduceSub, Int.reduceMul, Int.reduceNeg, Int.reduceEq, Int.reduceLT, Int.reduceLE]; rfl) ?_)
          | refine post0 ?_
        all_goals try (exfalso; omega)
        exact ⟨by omega, (), (by simp only [Am.keep, List.map_cons, List.map_nil, GA, Nat.reduceEqDiff, ↓reduceIte]; try rfl), trivial⟩
      · have hlt' : ¬ ((k + 1 : Nat) : Int) < g.length := by omega
        repeat' first
          | with_reducible refine k_seq ?_
          | with_reducible refine k_skip ?_
          | with_reducible refine k_blkS ?_
          | with_reducible refine k_blkR ?_
          | with_reducible refine k_blkC ?_
          | with_reducible refine k_blkH ?_
          | with_reducible refine k_blkB ?_
          | with_reducible refine k_blkK ?_
          | with_reducible refine k_blkE ?_
          | with_reducible refine k_reg ?_
          | with_reducible refine k_head (by with_unfolding_all rfl) ?_
          | with_reducible refine k_headS ?_
          | (with_reducible refine SepK.mk ?_ ?_; (refine sepQ_P ?_; simp [sepQ, sepG, AOp.late, AOp.free, AOp.xs, AOp.isAl, tokNe, AV.tok, stS_get, strip, AX.val, c11r0, c11r1, c11r2, c11r3, c11r4, c11r5, c11r6, c11r7, c11r8, c11r9, c11r10, c11r11, c11r12, c11r13, c11r14, c11r15, c11r16, c11r17, c11r18, c11r20, GA]; try omega))
          | with_reducible refine r_done ?_
          | with_reducible refine hr_done ?_
          | with_reducible refine s_go (by simp (disch := omega) only [hlt', c11r0, c11r1, c11r2, c11r3, c11r4, c11r5, c11r6, c11r7, c11r8, c11r9, c11r10, c11r11, c11r12, c11r13, c11r14, c11r15, c11r16, c11r17, c11r18, c11r20, EV0, EV1, EV2, EV3, EV4, EV5, EV6, EV7, EV8, VALS, plug, ite_same, decide_true, decide_false, eq_self, ↓reduceIte, reduceCtorEq, Nat.reduceAdd, Nat.reduceEqDiff, Nat.reduceLT, Nat.reduceLeDiff, Nat.reduceMul, Nat.reduceSub, Nat.reduceDiv, Int.reduceToNat, Int.reduceAdd, Int.reduceSub, Int.reduceMul, Int.reduceNeg, Int.reduceEq, Int.reduceLT, Int.reduceLE]; with_reducible rfl) ?_
          | with_reducible refine h_go (by with_unfolding_all rfl) (by simp (disch := omega) only [hlt', c11r0, c11r1, c11r2, c11r3, c11r4, c11r5, c11r6, c11r7, c11r8, c11r9, c11r10, c11r11, c11r12, c11r13, c11r14, c11r15, c11r16, c11r17, c11r18, c11r20, EV0, EV1, EV2, EV3, EV4, EV5, EV6, EV7, EV8, VALS, plug, ite_same, decide_true, decide_false, eq_self, ↓reduceIte, reduceCtorEq, Nat.reduceAdd, Nat.reduceEqDiff, Nat.reduceLT, Nat.reduceLeDiff, Nat.reduceMul, Nat.reduceSub, Nat.reduceDiv, Int.reduceToNat, Int.reduceAdd, Int.reduceSub, Int.reduceMul, Int.reduceNeg, Int.reduceEq, Int.reduceLT, Int.reduceLE]; with_reducible rfl) ?_
          | ((with_reducible refine chk_r ?_); refine r_callF (by simp only [CA, Nat.reduceEqDiff, ↓reduceIte]; rfl) (by exact rfl) (by simp only [CA, Nat.reduceEqDiff, ↓reduceIte]; rfl) rfl ?_)
          | ((with_reducible refine chk_h ?_); refine hr_callF (by simp only [CA, Nat.reduceEqDiff, ↓reduceIte]; rfl) (by exact rfl) (by simp only [CA, Nat.reduceEqDiff, ↓reduceIte]; rfl) rfl ?_)
          | ((with_reducible refine chk_r ?_); refine r_callP (by simp only [CA, Nat.reduceEqDiff, ↓reduceIte]; rfl) (by simp only [CA, Nat.reduceEqDiff, ↓reduceIte]; rfl) (by first | exact pc24 _) rfl ?_)
          | ((with_reducible refine chk_h ?_); refine hr_callP (by simp only [CA, Nat.reduceEqDiff, ↓reduceIte]; rfl) (by simp only [CA, Nat.reduceEqDiff, ↓reduceIte]; rfl) (by first | exact pc24 _) rfl ?_)
          | ((with_reducible refine chk_h ?_); refine hr_callP1 (by simp only [CA, Nat.reduceEqDiff, ↓reduceIte]; rfl) (by simp only [CA, Nat.reduceEqDiff, ↓reduceIte]; rfl) (by simp (disch := omega) only [CA, Nat.reduceEqDiff, ↓reduceIte, firstTok_nil, firstTok_sl, firstTok_sl0, firstTok_i, firstTok_b, firstTok_ag, firstTok_p, firstTok_s]; rfl) (by first | exact pc24 _) rfl ?_)
          | ((with_reducible refine chk_r ?_); refine r_callG (by simp only [CA, Nat.reduceEqDiff, ↓reduceIte]; rfl) (by simp only [CA, Nat.reduceEqDiff, ↓reduceIte]; rfl) (by simp only [CA, Nat.reduceEqDiff, ↓reduceIte]; rfl) (by intro hg; (try simp only [BO] at hg); first | exact pc24 _) rfl ?_)
          | ((with_reducible refine chk_h ?_); refine hr_callG (by simp only [CA, Nat.reduceEqDiff, ↓reduceIte]; rfl) (by simp only [CA, Nat.reduceEqDiff, ↓reduceIte]; rfl) (by simp only [CA, Nat.reduceEqDiff, ↓reduceIte]; rfl) (by intro hg; (try simp only [BO] at hg); first | exact pc24 _) rfl ?_)
          | ((with_reducible refine chk_h ?_); refine hr_app (by simp (disch := omega) only [hlt', c11r0, c11r1, c11r2, c11r3, c11r4, c11r5, c11r6, c11r7, c11r8, c11r9, c11r10, c11r11, c11r12, c11r13, c11r14, c11r15, c11r16, c11r17, c11r18, c11r20, EV0, EV1, EV2, EV3, EV4, EV5, EV6, EV7, EV8, VALS, plug, ite_same, decide_true, decide_false, eq_self, ↓reduceIte, reduceCtorEq, Nat.reduceAdd, Nat.reduceEqDiff, Nat.reduceLT, Nat.reduceLeDiff, Nat.reduceMul, Nat.reduceSub, Nat.reduceDiv, Int.reduceToNat, Int.reduceAdd, Int.reduceSub, Int.reduceMul, Int.reduceNeg, Int.reduceEq, Int.reduceLT, Int.reduceLE]; with_reducible rfl) rfl ?_)
          | (with_reducible refine k_condP (by simp only [GA, Nat.reduceEqDiff, ↓reduceIte]; rfl) (by first | (simp only [BO]; rfl) | rfl) (fun ht => ?_) (fun ht => ?_) <;> try (first | exact False.elim ht | exact absurd rfl ht | exact absurd trivial ht | exact Bool.noConfusion ht))
          | (with_reducible refine k_ret ?_; repeat with_reducible (first | refine ret_thru ?_ | refine ret_blk ?_ | refine fin ?_))
          | (with_reducible refine k_exit ?_; repeat with_reducible (first | refine thru ?_ | refine out_blk ?_ | refine pass (by decide) ?_))
          | (refine post1 ?_; simp only [GA, Nat.reduceEqDiff, ↓reduceIte])
          | (refine post2 ?_; simp only [GA, Nat.reduceEqDiff, ↓reduceIte])
          | (refine post3 ?_; simp only [GA, Nat.reduceEqDiff, ↓reduceIte])
          | (refine postc (by simp only [GA, Nat.reduceEqDiff, ↓reduceIte]; rfl) (by simp (disch := omega) only [hlt', c11r0, c11r1, c11r2, c11r3, c11r4, c11r5, c11r6, c11r7, c11r8, c11r9, c11r10, c11r11, c11r12, c11r13, c11r14, c11r15, c11r16, c11r17, c11r18, c11r20, EV0, EV1, EV2, EV3, EV4, EV5, EV6, EV7, EV8, VALS, plug, ite_same, decide_true, decide_false, eq_self, ↓reduceIte, reduceCtorEq, Nat.reduceAdd, Nat.reduceEqDiff, Nat.reduceLT, Nat.reduceLeDiff, Nat.reduceMul, Nat.reduceSub, Nat.reduceDiv, Int.reduceToNat, Int.reduceAdd, Int.reduceSub, Int.reduceMul, Int.reduceNeg, Int.reduceEq, Int.reduceLT, Int.reduceLE]; rfl) ?_)
          | refine post0 ?_
        all_goals first | exact ends_of | exact ends_eq rfl
    · rw [if_neg h0] at a4
      repeat' first
        | with_reducible refine k_seq ?_
        | with_reducible refine k_skip ?_
        | with_reducible refine k_blkS ?_
        | with_reducible refine k_blkR ?_
        | with_reducible refine k_blkC ?_
        | with_reducible refine k_blkH ?_
        | with_reducible refine k_blkB ?_
        | with_reducible refine k_blkK ?_
        | with_reducible refine k_blkE ?_
        | with_reducible refine k_reg ?_
        | with_reducible refine k_head (by with_unfolding_all rfl) ?_
        | with_reducible refine k_headS ?_
        | (with_reducible refine SepK.mk ?_ ?_; (refine sepQ_P ?_; simp [sepQ, sepG, AOp.late, AOp.free, AOp.xs, AOp.isAl, tokNe, AV.tok, stS_get, strip, AX.val, c11r0, c11r1, c11r2, c11r3, c11r4, c11r5, c11r6, c11r7, c11r8, c11r9, c11r10, c11r11, c11r12, c11r13, c11r14, c11r15, c11r16, c11r17, c11r18, c11r20, GA]; try omega))
        | with_reducible refine r_done ?_
        | with_reducible refine hr_done ?_
        | with_reducible refine s_go (by simp (disch := omega) only [c11r0, c11r1, c11r2, c11r3, c11r4, c11r5, c11r6, c11r7, c11r8, c11r9, c11r10, c11r11, c11r12, c11r13, c11r14, c11r15, c11r16, c11r17, c11r18, c11r20, EV0, EV1, EV2, EV3, EV4, EV5, EV6, EV7, EV8, VALS, plug, ite_same, decide_true, decide_false, eq_self, ↓reduceIte, reduceCtorEq, Nat.reduceAdd, Nat.reduceEqDiff, Nat.reduceLT, Nat.reduceLeDiff, Nat.reduceMul, Nat.reduceSub, Nat.reduceDiv, Int.reduceToNat, Int.reduceAdd, Int.reduceSub, Int.reduceMul, Int.reduceNeg, Int.reduceEq, Int.reduceLT, Int.reduceLE]; with_reducible rfl) ?_
        | with_reducible refine h_go (by with_unfolding_all rfl) (by simp (disch := omega) only [c11r0, c11r1, c11r2, c11r3, c11r4, c11r5, c11r6, c11r7, c11r8, c11r9, c11r10, c11r11, c11r12, c11r13, c11r14, c11r15, c11r16, c11r17, c11r18, c11r20, EV0, EV1, EV2, EV3, EV4, EV5, EV6, EV7, EV8, VALS, plug, ite_same, decide_true, decide_false, eq_self, ↓reduceIte, reduceCtorEq, Nat.reduceAdd, Nat.reduceEqDiff, Nat.reduceLT, Nat.reduceLeDiff, Nat.reduceMul, Nat.reduceSub, Nat.reduceDiv, Int.reduceToNat, Int.reduceAdd, Int.reduceSub, Int.reduceMul, Int.reduceNeg, Int.reduceEq, Int.reduceLT, Int.reduceLE]; with_reducible rfl) ?_
        | ((with_reducible refine chk_r ?_); refine r_callF (by simp only [CA, Nat.reduceEqDiff, ↓reduceIte]; rfl) (by exact rfl) (by simp only [CA, Nat.reduceEqDiff, ↓reduceIte]; rfl) rfl ?_)
        | ((with_reducible refine chk_h ?_); refine hr_callF (by simp only [CA, Nat.reduceEqDiff, ↓reduceIte]; rfl) (by exact rfl) (by simp only [CA, Nat.reduceEqDiff, ↓reduceIte]; rfl) rfl ?_)
        | ((with_reducible refine chk_r ?_); refine r_callP (by simp only [CA, Nat.reduceEqDiff, ↓reduceIte]; rfl) (by simp only [CA, Nat.reduceEqDiff, ↓reduceIte]; rfl) (by first | exact q23 _ | exact pc24 _ | exact a1 _ | exact a2 _ | exact a4 _) rfl ?_)
        | ((with_reducible refine chk_h ?_); refine hr_callP (by simp only [CA, Nat.reduceEqDiff, ↓reduceIte]; rfl) (by simp only [CA, Nat.reduceEqDiff, ↓reduceIte]; rfl) (by first | exact q23 _ | exact pc24 _ | exact a1 _ | exact a2 _ | exact a4 _) rfl ?_)
        | ((with_reducible refine chk_h ?_); refine hr_callP1 (by simp only [CA, Nat.reduceEqDiff, ↓reduceIte]; rfl) (by simp only [CA, Nat.reduceEqDiff, ↓reduceIte]; rfl) (by simp (disch := omega) only [CA, Nat.reduceEqDiff, ↓reduceIte, firstTok_nil, firstTok_sl, firstTok_sl0, firstTok_i, firstTok_b, firstTok_ag, firstTok_p, firstTok_s]; rfl) (by first | exact q23 _ | exact pc24 _ | exact a1 _ | exact a2 _ | exact a4 _) rfl ?_)
        | ((with_reducible refine chk_r ?_); refine r_callG (by simp only [CA, Nat.reduceEqDiff, ↓reduceIte]; rfl) (by simp only [CA, Nat.reduceEqDiff, ↓reduceIte]; rfl) (by simp only [CA, Nat.reduceEqDiff, ↓reduceIte]; rfl) (by intro hg; (try simp only [BO] at hg); first | exact q23 _ | exact pc24 _ | exact a1 _ | exact a2 _ | exact a4 _) rfl ?_)
        | ((with_reducible refine chk_h ?_); refine hr_callG (by simp only [CA, Nat.reduceEqDiff, ↓reduceIte]; rfl) (by simp only [CA, Nat.reduceEqDiff, ↓reduceIte]; rfl) (by simp only [CA, Nat.reduceEqDiff, ↓reduceIte]; rfl) (by intro hg; (try simp only [BO] at hg); first | exact q23 _ | exact pc24 _ | exact a1 _ | exact a2 _ | exact a4 _) rfl ?_)
        | ((with_reducible refine chk_h ?_); refine hr_app (by simp (disch := omega) only [c11r0, c11r1, c11r2, c11r3, c11r4, c11r5, c11r6, c11r7, c11r8, c11r9, c11r10, c11r11, c11r12, c11r13, c11r14, c11r15, c11r16, c11r17, c11r18, c11r20, EV0, EV1, EV2, EV3, EV4, EV5, EV6, EV7, EV8, VALS, plug, ite_same, decide_true, decide_false, eq_self, ↓reduceIte, reduceCtorEq, Nat.reduceAdd, Nat.reduceEqDiff, Nat.reduceLT, Nat.reduceLeDiff, Nat.reduceMul, Nat.reduceSub, Nat.reduceDiv, Int.reduceToNat, Int.reduceAdd, Int.reduceSub, Int.reduceMul, Int.reduceNeg, Int.reduceEq, Int.reduceLT, Int.reduceLE]; with_reducible rfl) rfl ?_)
        | ((with_reducible refine chk_r ?_); refine r_callX (by simp only [CA, Nat.reduceEqDiff, ↓reduceIte]; rfl) (by simp only [CA, Nat.reduceEqDiff, ↓reduceIte]; rfl) (by first | exact a3 _) rfl ?_)
        | ((with_reducible refine chk_r ?_); refine r_callTX (by first | (simp only [CA, Nat.reduceEqDiff, ↓reduceIte]; rfl) | simp only [CA, Nat.reduceEqDiff, ↓reduceIte]) (by simp only [CA, Nat.reduceEqDiff, ↓reduceIte]; rfl) (by simp only [CA, Nat.reduceEqDiff, ↓reduceIte]; rfl) (by first | exact a3 _) rfl ?_)
        | (with_reducible refine k_condP (by simp only [GA, Nat.reduceEqDiff, ↓reduceIte]; rfl) (by first | (simp only [BO]; rfl) | rfl) (fun ht => ?_) (fun ht => ?_) <;> try (first | exact False.elim ht | exact absurd rfl ht | exact absurd trivial ht | exact Bool.noConfusion ht))
        | (with_reducible refine k_ret ?_; repeat with_reducible (first | refine ret_thru ?_ | refine ret_blk ?_ | refine fin ?_))
        | (with_reducible refine k_exit ?_; repeat with_reducible (first | refine thru ?_ | refine out_blk ?_ | refine pass (by decide) ?_))
        | (refine post1 ?_; simp only [GA, Nat.reduceEqDiff, ↓reduceIte])
        | (refine post2 ?_; simp only [GA, Nat.reduceEqDiff, ↓reduceIte])
        | (refine post3 ?_; simp only [GA, Nat.reduceEqDiff, ↓reduceIte])
        | (refine postc (by simp only [GA, Nat.reduceEqDiff, ↓reduceIte]; rfl) (by simp (disch := omega) only [c11r0, c11r1, c11r2, c11r3, c11r4, c11r5, c11r6, c11r7, c11r8, c11r9, c11r10, c11r11, c11r12, c11r13, c11r14, c11r15, c11r16, c11r17, c11r18, c11r20, EV0, EV1, EV2, EV3, EV4, EV5, EV6, EV7, EV8, VALS, plug, ite_same, decide_true, decide_false, eq_self, ↓reduceIte, reduceCtorEq, Nat.reduceAdd, Nat.reduceEqDiff, Nat.reduceLT, Nat.reduceLeDiff, Nat.reduceMul, Nat.reduceSub, Nat.reduceDiv, Int.reduceToNat, Int.reduceAdd, Int.reduceSub, Int.reduceMul, Int.reduceNeg, Int.reduceEq, Int.reduceLT, Int.reduceLE]; rfl) ?_)
        | refine post0 ?_
      all_goals try (exfalso; omega)
      rintro r h' ⟨hR, rfl⟩
      rcases hR with ⟨h, _⟩ | ⟨hn, rfl⟩
      · exact absurd h h0
      generalize asked l tol = A at *
      repeat' first
        | with_reducible refine k_seq ?_
        | with_reducible refine k_skip ?_
        | with_reducible refine k_blkS ?_
        | with_reducible refine k_blkR ?_
        | with_reducible refine k_blkC ?_
        | with_reducible refine k_blkH ?_
        | with_reducible refine k_blkB ?_
        | with_reducible refine k_blkK ?_
        | with_reducible refine k_blkE ?_
        | with_reducible refine k_reg ?_
        | with_reducible refine k_head (by with_unfolding_all rfl) ?_
        | with_reducible refine k_headS ?_
        | (with_reducible refine SepK.mk ?_ ?_; (refine sepQ_P ?_; simp [sepQ, sepG, AOp.late, AOp.free, AOp.xs, AOp.isAl, tokNe, AV.tok, stS_get, strip, AX.val, c11r0, c11r1, c11r2, c11r3, c11r4, c11r5, c11r6, c11r7, c11r8, c11r9, c11r10, c11r11, c11r12, c11r13, c11r14, c11r15, c11r16, c11r17, c11r18, c11r20, GA]; try omega))
        | with_reducible refine r_done ?_
        | with_reducible refine hr_done ?_
        | with_reducible refine s_go (by simp (disch := omega) only [h0, c11r0, c11r1, c11r2, c11r3, c11r4, c11r5, c11r6, c11r7, c11r8, c11r9, c11r10, c11r11, c11r12, c11r13, c11r14, c11r15, c11r16, c11r17, c11r18, c11r20, EV0, EV1, EV2, EV3, EV4, EV5, EV6, EV7, EV8, VALS, plug, ite_same, decide_true, decide_false, eq_self, ↓reduceIte, reduceCtorEq, Nat.reduceAdd, Nat.reduceEqDiff, Nat.reduceLT, Nat.reduceLeDiff, Nat.reduceMul, Nat.reduceSub, Nat.reduceDiv, Int.reduceToNat, Int.reduceAdd, Int.reduceSub, Int.reduceMul, Int.reduceNeg, Int.reduceEq, Int.reduceLT, Int.reduceLE]; with_reducible rfl) ?_
        | with_reducible refine h_go (by with_unfolding_all rfl) (by simp (disch := omega) only [h0, c11r0, c11r1, c11r2, c11r3, c11r4, c11r5, c11r6, c11r7, c11r8, c11r9, c11r10, c11r11, c11r12, c11r13, c11r14, c11r15, c11r16, c11r17, c11r18, c11r20, EV0, EV1, EV2, EV3, EV4, EV5, EV6, EV7, EV8, VALS, plug, ite_same, decide_true, decide_false, eq_self, ↓reduceIte, reduceCtorEq, Nat.reduceAdd, Nat.reduceEqDiff, Nat.reduceLT, Nat.reduceLeDiff, Nat.reduceMul, Nat.reduceSub, Nat.reduceDiv, Int.reduceToNat, Int.reduceAdd, Int.reduceSub, Int.reduceMul, Int.reduceNeg, Int.reduceEq, Int.reduceLT, Int.reduceLE]; with_reducible rfl) ?_
        | ((with_reducible refine chk_r ?_); refine r_callF (by simp only [CA, Nat.reduceEqDiff, ↓reduceIte]; rfl) (by exact rfl) (by simp only [CA, Nat.reduceEqDiff, ↓reduceIte]; rfl) rfl ?_)
        | ((with_reducible refine chk_h ?_); refine hr_callF (by simp only [CA, Nat.reduceEqDiff, ↓reduceIte]; rfl) (by exact rfl) (by simp only [CA, Nat.reduceEqDiff, ↓reduceIte]; rfl) rfl ?_)
        | ((with_reducible refine chk_r ?_); refine r_callP (by simp only [CA, Nat.reduceEqDiff, ↓reduceIte]; rfl) (by simp only [CA, Nat.reduceEqDiff, ↓reduceIte]; rfl) (by first | exact q23 _ | exact pc24 _ | exact a4 _) rfl ?_)
        | ((with_reducible refine chk_h ?_); refine hr_callP (by simp only [CA, Nat.reduceEqDiff, ↓reduceIte]; rfl) (by simp only [CA, Nat.reduceEqDiff, ↓reduceIte]; rfl) (by first | exact q23 _ | exact pc24 _ | exact a4 _) rfl ?_)
        | ((with_reducible refine chk_h ?_); refine hr_callP1 (by simp only [CA, Nat.reduceEqDiff, ↓reduceIte]; rfl) (by simp only [CA, Nat.reduceEqDiff, ↓reduceIte]; rfl) (by simp (disch := omega) only [CA, Nat.reduceEqDiff, ↓reduceIte, firstTok_nil, firstTok_sl, firstTok_sl0, firstTok_i, firstTok_b, firstTok_ag, firstTok_p, firstTok_s]; rfl) (by first | exact q23 _ | exact pc24 _ | exact a4 _) rfl ?_)
        | ((with_reducible refine chk_r ?_); refine r_callG (by simp only [CA, Nat.reduceEqDiff, ↓reduceIte]; rfl) (by simp only [CA, Nat.reduceEqDiff, ↓reduceIte]; rfl) (by simp only [CA, Nat.reduceEqDiff, ↓reduceIte]; rfl) (by intro hg; (try simp only [BO] at hg); first | exact q23 _ | exact pc24 _ | exact a4 _) rfl ?_)
        | ((with_reducible refine chk_h ?_); refine hr_callG (by simp only [CA, Nat.reduceEqDiff, ↓reduceIte]; rfl) (by simp only [CA, Nat.reduceEqDiff, ↓reduceIte]; rfl) (by simp only [CA, Nat.reduceEqDiff, ↓reduceIte]; rfl) (by intro hg; (try simp only [BO] at hg); first | exact q23 _ | exact pc24 _ | exact a4 _) rfl ?_)
        | ((with_reducible refine chk_h ?_); refine hr_app (by simp (disch := omega) only [h0, c11r0, c11r1, c11r2, c11r3, c11r4, c11r5, c11r6, c11r7, c11r8, c11r9, c11r10, c11r11, c11r12, c11r13, c11r14, c11r15, c11r16, c11r17, c11r18, c11r20, EV0, EV1, EV2, EV3, EV4, EV5, EV6, EV7, EV8, VALS, plug, ite_same, decide_true, decide_false, eq_self, ↓reduceIte, reduceCtorEq, Nat.reduceAdd, Nat.reduceEqDiff, Nat.reduceLT, Nat.reduceLeDiff, Nat.reduceMul, Nat.reduceSub, Nat.reduceDiv, Int.reduceToNat, Int.reduceAdd, Int.reduceSub, Int.reduceMul, Int.reduceNeg, Int.reduceEq, Int.reduceLT, Int.reduceLE]; with_reducible rfl) rfl ?_)
        | (with_reducible refine k_condP (by simp only [GA, Nat.reduceEqDiff, ↓reduceIte]; rfl) (by first | (simp only [BO]; rfl) | rfl) (fun ht => ?_) (fun ht => ?_) <;> try (first | exact False.elim ht | exact absurd rfl ht | exact absurd trivial ht | exact Bool.noConfusion ht))
        | (with_reducible refine k_ret ?_; repeat with_reducible (first | refine ret_thru ?_ | refine ret_blk ?_ | refine fin ?_))
        | (with_reducible refine k_exit ?_; repeat with_reducible (first | refine thru ?_ | refine out_blk ?_ | refine pass (by decide) ?_))
        | (refine post1 ?_; simp only [GA, Nat.reduceEqDiff, ↓reduceIte])
        | (refine post2 ?_; simp only [GA, Nat.reduceEqDiff, ↓reduceIte])
        | (refine post3 ?_; simp only [GA, Nat.reduceEqDiff, ↓reduceIte])
        | (refine postc (by simp only [GA, Nat.reduceEqDiff, ↓reduceIte]; rfl) (by simp (disch := omega) only [h0, c11r0, c11r1, c11r2, c11r3, c11r4, c11r5, c11r6, c11r7, c11r8, c11r9, c11r10, c11r11, c11r12, c11r13, c11r14, c11r15, c11r16, c11r17, c11r18, c11r20, EV0, EV1, EV2, EV3, EV4, EV5, EV6, EV7, EV8, VALS, plug, ite_same, decide_true, decide_false, eq_self, ↓reduceIte, reduceCtorEq, Nat.reduceAdd, Nat.reduceEqDiff, Nat.reduceLT, Nat.reduceLeDiff, Nat.reduceMul, Nat.reduceSub, Nat.reduceDiv, Int.reduceToNat, Int.reduceAdd, Int.reduceSub, Int.reduceMul, Int.reduceNeg, Int.reduceEq, Int.reduceLT, Int.reduceLE]; rfl) ?_)
        | refine post0 ?_
      all_goals first | exact ends_of | exact absurd trivial (by assumption)
  · by_cases c1 : l.length ≤ 40
    · have c2 : ¬ ns.length ≤ 60 := fun h => C ⟨c1, h⟩
      have c3 : (60 : Int) < ns.length := by omega
      have c4 : decide ((40 : Int) < l.length) = false := decide_eq_false (by omega)
      repeat' first
        | with_reducible refine k_seq ?_
        | with_reducible refine k_skip ?_
        | with_reducible refine k_blkS ?_
        | with_reducible refine k_blkR ?_
        | with_reducible refine k_blkC ?_
        | with_reducible refine k_blkH ?_
        | with_reducible refine k_blkB ?_
        | with_reducible refine k_blkK ?_
        | with_reducible refine k_blkE ?_
        | with_reducible refine k_reg ?_
        | with_reducible refine k_head (by with_unfolding_all rfl) ?_
        | with_reducible refine k_headS ?_
        | (with_reducible refine SepK.mk ?_ ?_; (refine sepQ_P ?_; simp [sepQ, sepG, AOp.late, AOp.free, AOp.xs, AOp.isAl, tokNe, AV.tok, stS_get, strip, AX.val, c11r0, c11r1, c11r2, c11r3, c11r4, c11r5, c11r6, c11r7, c11r8, c11r9, c11r10, c11r11, c11r12, c11r13, c11r14, c11r15, c11r16, c11r17, c11r18, c11r20, GA]; try omega))
        | with_reducible refine r_done ?_
        | with_reducible refine hr_done ?_
        | with_reducible refine s_go (by simp (disch := omega) only [c3, c11r0, c11r1, c11r2, c11r3, c11r4, c11r5, c11r6, c11r7, c11r8, c11r9, c11r10, c11r11, c11r12, c11r13, c11r14, c11r15, c11r16, c11r17, c11r18, c11r20, EV0, EV1, EV2, EV3, EV4, EV5, EV6, EV7, EV8, VALS, plug, ite_same, decide_true, decide_false, eq_self, ↓reduceIte, reduceCtorEq, Nat.reduceAdd, Nat.reduceEqDiff, Nat.reduceLT, Nat.reduceLeDiff, Nat.reduceMul, Nat.reduceSub, Nat.reduceDiv, Int.reduceToNat, Int.reduceAdd, Int.reduceSub, Int.reduceMul, Int.reduceNeg, Int.reduceEq, Int.reduceLT, Int.reduceLE]; with_reducible rfl) ?_
        | with_reducible refine h_go (by with_unfolding_all rfl) (by simp (disch := omega) only [c3, c11r0, c11r1, c11r2, c11r3, c11r4, c11r5, c11r6, c11r7, c11r8, c11r9, c11r10, c11r11, c11r12, c11r13, c11r14, c11r15, c11r16, c11r17, c11r18, c11r20, EV0, EV1, EV2, EV3, EV4, EV5, EV6, EV7, EV8, VALS, plug, ite_same, decide_true, decide_false, eq_self, ↓reduceIte, reduceCtorEq, Nat.reduceAdd, Nat.reduceEqDiff, Nat.reduceLT, Nat.reduceLeDiff, Nat.reduceMul, Nat.reduceSub, Nat.reduceDiv, Int.reduceToNat, Int.reduceAdd, Int.reduceSub, Int.reduceMul, Int.reduceNeg, Int.reduceEq, Int.reduceLT, Int.reduceLE]; with_reducible rfl) ?_
        | ((with_reducible refine chk_r ?_); refine r_callF (by simp only [CA, Nat.reduceEqDiff, ↓reduceIte]; rfl) (by exact rfl) (by simp only [CA, Nat.reduceEqDiff, ↓reduceIte]; rfl) rfl ?_)
        | ((with_reducible refine chk_h ?_); refine hr_callF (by simp only [CA, Nat.reduceEqDiff, ↓reduceIte]; rfl) (by exact rfl) (by simp only [CA, Nat.reduceEqDiff, ↓reduceIte]; rfl) rfl ?_)
        | ((with_reducible refine chk_r ?_); refine r_callP (by simp only [CA, Nat.reduceEqDiff, ↓reduceIte]; rfl) (by simp only [CA, Nat.reduceEqDiff, ↓reduceIte]; rfl) (by first | exact q23 _ | exact pc24 _) rfl ?_)
        | ((with_reducible refine chk_h ?_); refine hr_callP (by simp only [CA, Nat.reduceEqDiff, ↓reduceIte]; rfl) (by simp only [CA, Nat.reduceEqDiff, ↓reduceIte]; rfl) (by first | exact q23 _ | exact pc24 _) rfl ?_)
        | ((with_reducible refine chk_h ?_); refine hr_callP1 (by simp only [CA, Nat.reduceEqDiff, ↓reduceIte]; rfl) (by simp only [CA, Nat.reduceEqDiff, ↓reduceIte]; rfl) (by simp (disch := omega) only [CA, Nat.reduceEqDiff, ↓reduceIte, firstTok_nil, firstTok_sl, firstTok_sl0, firstTok_i, firstTok_b, firstTok_ag, firstTok_p, firstTok_s]; rfl) (by first | exact q23 _ | exact pc24 _) rfl ?_)
        | ((with_reducible refine chk_r ?_); refine r_callG (by simp only [CA, Nat.reduceEqDiff, ↓reduceIte]; rfl) (by simp only [CA, Nat.reduceEqDiff, ↓reduceIte]; rfl) (by simp only [CA, Nat.reduceEqDiff, ↓reduceIte]; rfl) (by intro hg; (try simp only [BO] at hg); first | exact q23 _ | exact pc24 _) rfl ?_)
        | ((with_reducible refine chk_h ?_); refine hr_callG (by simp only [CA, Nat.reduceEqDiff, ↓reduceIte]; rfl) (by simp only [CA, Nat.reduceEqDiff, ↓reduceIte]; rfl) (by simp only [CA, Nat.reduceEqDiff, ↓reduceIte]; rfl) (by intro hg; (try simp only [BO] at hg); first | exact q23 _ | exact pc24 _) rfl ?_)
        | ((with_reducible refine chk_h ?_); refine hr_app (by simp (disch := omega) only [c3, c11r0, c11r1, c11r2, c11r3, c11r4, c11r5, c11r6, c11r7, c11r8, c11r9, c11r10, c11r11, c11r12, c11r13, c11r14, c11r15, c11r16, c11r17, c11r18, c11r20, EV0, EV1, EV2, EV3, EV4, EV5, EV6, EV7, EV8, VALS, plug, ite_same, decide_true, decide_false, eq_self, ↓reduceIte, reduceCtorEq, Nat.reduceAdd, Nat.reduceEqDiff, Nat.reduceLT, Nat.reduceLeDiff, Nat.reduceMul, Nat.reduceSub, Nat.reduceDiv, Int.reduceToNat, Int.reduceAdd, Int.reduceSub, Int.reduceMul, Int.reduceNeg, Int.reduceEq, Int.reduceLT, Int.reduceLE]; with_reducible rfl) rfl ?_)
        | (with_reducible refine k_condP (by simp only [GA, Nat.reduceEqDiff, ↓reduceIte]; rfl) (by first | (simp only [BO]; rfl) | rfl) (fun ht => ?_) (fun ht => ?_) <;> try (first | exact False.elim ht | exact absurd rfl ht | exact absurd trivial ht | exact Bool.noConfusion ht))
        | (with_reducible refine k_ret ?_; repeat with_reducible (first | refine ret_thru ?_ | refine ret_blk ?_ | refine fin ?_))
        | (with_reducible refine k_exit ?_; repeat with_reducible (first | refine thru ?_ | refine out_blk ?_ | refine pass (by decide) ?_))
        | (refine post1 ?_; simp only [GA, Nat.reduceEqDiff, ↓reduceIte])
        | (refine post2 ?_; simp only [GA, Nat.reduceEqDiff, ↓reduceIte])
        | (refine post3 ?_; simp only [GA, Nat.reduceEqDiff, ↓reduceIte])
        | (refine postc (by simp only [GA, Nat.reduceEqDiff, ↓reduceIte]; rfl) (by simp (disch := omega) only [c3, c11r0, c11r1, c11r2, c11r3, c11r4, c11r5, c11r6, c11r7, c11r8, c11r9, c11r10, c11r11, c11r12, c11r13, c11r14, c11r15, c11r16, c11r17, c11r18, c11r20, EV0, EV1, EV2, EV3, EV4, EV5, EV6, EV7, EV8, VALS, plug, ite_same, decide_true, decide_false, eq_self, ↓reduceIte, reduceCtorEq, Nat.reduceAdd, Nat.reduceEqDiff, Nat.reduceLT, Nat.reduceLeDiff, Nat.reduceMul, Nat.reduceSub, Nat.reduceDiv, Int.reduceToNat, Int.reduceAdd, Int.reduceSub, Int.reduceMul, Int.reduceNeg, Int.reduceEq, Int.reduceLT, Int.reduceLE]; rfl) ?_)
        | refine post0 ?_
      all_goals first | exact ends_of | (exfalso; omega)
    · repeat' first
        | with_reducible refine k_seq ?_
        | with_reducible refine k_skip ?_
        | with_reducible refine k_blkS ?_
        | with_reducible refine k_blkR ?_
        | with_reducible refine k_blkC ?_
        | with_reducible refine k_blkH ?_
        | with_reducible refine k_blkB ?_
        | with_reducible refine k_blkK ?_
        | with_reducible refine k_blkE ?_
        | with_reducible refine k_reg ?_
        | with_reducible refine k_head (by with_unfolding_all rfl) ?_
        | with_reducible refine k_headS ?_
        | (with_reducible refine SepK.mk ?_ ?_; (refine sepQ_P ?_; simp [sepQ, sepG, AOp.late, AOp.free, AOp.xs, AOp.isAl, tokNe, AV.tok, stS_get, strip, AX.val, c11r0, c11r1, c11r2, c11r3, c11r4, c11r5, c11r6, c11r7, c11r8, c11r9, c11r10, c11r11, c11r12, c11r13, c11r14, c11r15, c11r16, c11r17, c11r18, c11r20, GA]; try omega))
        | with_reducible refine r_done ?_
        | with_reducible refine hr_done ?_
        | with_reducible refine s_go (by simp (disch := omega) only [c11r0, c11r1, c11r2, c11r3, c11r4, c11r5, c11r6, c11r7, c11r8, c11r9, c11r10, c11r11, c11r12, c11r13, c11r14, c11r15, c11r16, c11r17, c11r18, c11r20, EV0, EV1, EV2, EV3, EV4, EV5, EV6, EV7, EV8, VALS, plug, ite_same, decide_true, decide_false, eq_self, ↓reduceIte, reduceCtorEq, Nat.reduceAdd, Nat.reduceEqDiff, Nat.reduceLT, Nat.reduceLeDiff, Nat.reduceMul, Nat.reduceSub, Nat.reduceDiv, Int.reduceToNat, Int.reduceAdd, Int.reduceSub, Int.reduceMul, Int.reduceNeg, Int.reduceEq, Int.reduceLT, Int.reduceLE]; with_reducible rfl) ?_
        | with_reducible refine h_go (by with_unfolding_all rfl) (by simp (disch := omega) only [c11r0, c11r1, c11r2, c11r3, c11r4, c11r5, c11r6, c11r7, c11r8, c11r9, c11r10, c11r11, c11r12, c11r13, c11r14, c11r15, c11r16, c11r17, c11r18, c11r20, EV0, EV1, EV2, EV3, EV4, EV5, EV6, EV7, EV8, VALS, plug, ite_same, decide_true, decide_false, eq_self, ↓reduceIte, reduceCtorEq, Nat.reduceAdd, Nat.reduceEqDiff, Nat.reduceLT, Nat.reduceLeDiff, Nat.reduceMul, Nat.reduceSub, Nat.reduceDiv, Int.reduceToNat, Int.reduceAdd, Int.reduceSub, Int.reduceMul, Int.reduceNeg, Int.reduceEq, Int.reduceLT, Int.reduceLE]; with_reducible rfl) ?_
        | ((with_reducible refine chk_r ?_); refine r_callF (by simp only [CA, Nat.reduceEqDiff, ↓reduceIte]; rfl) (by exact rfl) (by simp only [CA, Nat.reduceEqDiff, ↓reduceIte]; rfl) rfl ?_)
        | ((with_reducible refine chk_h ?_); refine hr_callF (by simp only [CA, Nat.reduceEqDiff, ↓reduceIte]; rfl) (by exact rfl) (by simp only [CA, Nat.reduceEqDiff, ↓reduceIte]; rfl) rfl ?_)
        | ((with_reducible refine chk_r ?_); refine r_callP (by simp only [CA, Nat.reduceEqDiff, ↓reduceIte]; rfl) (by simp only [CA, Nat.reduceEqDiff, ↓reduceIte]; rfl) (by first | exact q23 _ | exact pc24 _) rfl ?_)
        | ((with_reducible refine chk_h ?_); refine hr_callP (by simp only [CA, Nat.reduceEqDiff, ↓reduceIte]; rfl) (by simp only [CA, Nat.reduceEqDiff, ↓reduceIte]; rfl) (by first | exact q23 _ | exact pc24 _) rfl ?_)
        | ((with_reducible refine chk_h ?_); refine hr_callP1 (by simp only [CA, Nat.reduceEqDiff, ↓reduceIte]; rfl) (by simp only [CA, Nat.reduceEqDiff, ↓reduceIte]; rfl) (by simp (disch := omega) only [CA, Nat.reduceEqDiff, ↓reduceIte, firstTok_nil, firstTok_sl, firstTok_sl0, firstTok_i, firstTok_b, firstTok_ag, firstTok_p, firstTok_s]; rfl) (by first | exact q23 _ | exact pc24 _) rfl ?_)
        | ((with_reducible refine chk_r ?_); refine r_callG (by simp only [CA, Nat.reduceEqDiff, ↓reduceIte]; rfl) (by simp only [CA, Nat.reduceEqDiff, ↓reduceIte]; rfl) (by simp only [CA, Nat.reduceEqDiff, ↓reduceIte]; rfl) (by intro hg; (try simp only [BO] at hg); first | exact q23 _ | exact pc24 _) rfl ?_)
        | ((with_reducible refine chk_h ?_); refine hr_callG (by simp only [CA, Nat.reduceEqDiff, ↓reduceIte]; rfl) (by simp only [CA, Nat.reduceEqDiff, ↓reduceIte]; rfl) (by simp only [CA, Nat.reduceEqDiff, ↓reduceIte]; rfl) (by intro hg; (try simp only [BO] at hg); first | exact q23 _ | exact pc24 _) rfl ?_)
        | ((with_reducible refine chk_h ?_); refine hr_app (by simp (disch := omega) only [c11r0, c11r1, c11r2, c11r3, c11r4, c11r5, c11r6, c11r7, c11r8, c11r9, c11r10, c11r11, c11r12, c11r13, c11r14, c11r15, c11r16, c11r17, c11r18, c11r20, EV0, EV1, EV2, EV3, EV4, EV5, EV6, EV7, EV8, VALS, plug, ite_same, decide_true, decide_false, eq_self, ↓reduceIte, reduceCtorEq, Nat.reduceAdd, Nat.reduceEqDiff, Nat.reduceLT, Nat.reduceLeDiff, Nat.reduceMul, Nat.reduceSub, Nat.reduceDiv, Int.reduceToNat, Int.reduceAdd, Int.reduceSub, Int.reduceMul, Int.reduceNeg, Int.reduceEq, Int.reduceLT, Int.reduceLE]; with_reducible rfl) rfl ?_)
        | (with_reducible refine k_condP (by simp only [GA, Nat.reduceEqDiff, ↓reduceIte]; rfl) (by first | (simp only [BO]; rfl) | rfl) (fun ht => ?_) (fun ht => ?_) <;> try (first | exact False.elim ht | exact absurd rfl ht | exact absurd trivial ht | exact Bool.noConfusion ht))
        | (with_reducible refine k_ret ?_; repeat with_reducible (first | refine ret_thru ?_ | refine ret_blk ?_ | refine fin ?_))
        | (with_reducible refine k_exit ?_; repeat with_reducible (first | refine thru ?_ | refine out_blk ?_ | refine pass (by decide) ?_))
        | (refine post1 ?_; simp only [GA, Nat.reduceEqDiff, ↓reduceIte])
        | (refine post2 ?_; simp only [GA, Nat.reduceEqDiff, ↓reduceIte])
        | (refine post3 ?_; simp only [GA, Nat.reduceEqDiff, ↓reduceIte])
        | (refine postc (by simp only [GA, Nat.reduceEqDiff, ↓reduceIte]; rfl) (by simp (disch := omega) only [c11r0, c11r1, c11r2, c11r3, c11r4, c11r5, c11r6, c11r7, c11r8, c11r9, c11r10, c11r11, c11r12, c11r13, c11r14, c11r15, c11r16, c11r17, c11r18, c11r20, EV0, EV1, EV2, EV3, EV4, EV5, EV6, EV7, EV8, VALS, plug, ite_same, decide_true, decide_false, eq_self, ↓reduceIte, reduceCtorEq, Nat.reduceAdd, Nat.reduceEqDiff, Nat.reduceLT, Nat.reduceLeDiff, Nat.reduceMul, Nat.reduceSub, Nat.reduceDiv, Int.reduceToNat, Int.reduceAdd, Int.reduceSub, Int.reduceMul, Int.reduceNeg, Int.reduceEq, Int.reduceLT, Int.reduceLE]; rfl) ?_)
        | refine post0 ?_
      all_goals first | exact ends_of | (exfalso; omega)
/-- a number, az an argument's cell -/
def eI (n : Int) : List AV := [.i .i64 n]
theorem flI (l : List Int) : fl eI l = il l := by
  induction l with
  | nil => rfl
  | cons n l ih => rw [fl_cons, ih]; rfl
theorem decI (r : List AV) (h : Shps [.i .i64] r) : ∃ x : Int, r = eI x ∧ True := by
  obtain ⟨a, r, rfl, h1, h⟩ := shps_cons h
  obtain rfl := shps_nil h
  obtain ⟨n, rfl, _⟩ := shp_i64 h1
  exact ⟨n, rfl, trivial⟩
theorem pc11' (l : List T) (hl : l.length ≤ 9223372036854775807) (tol : Int) (ns : List Int) (hn : ns.length ≤ 9223372036854775807) : PC Try.prog 11 [vT l, .i .i64 tol, .vs ns.length (fl eI ns)] (.b true) := by
  rw [flI]; exact pc11 l hl tol ns hn
end Go.Proofs.Ytbhkbaapfioijaa
