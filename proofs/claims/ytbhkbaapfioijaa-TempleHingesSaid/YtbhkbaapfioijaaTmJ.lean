import Derived.Test.YtbhkbaapfioijaaTmI
set_option linter.unusedVariables false
set_option linter.unusedSimpArgs false
namespace Go.Proofs.Ytbhkbaapfioijaa
open Go Go.Am Go.Proofs Go.Sort

/-! ### TempleHinges -/
theorem pc12 (t : H) (f n at' : Int) : PC Try.prog 12 [.ag [.i .i64 t.bar, .i .i64 t.st, .i .i64 t.wear, .i .i64 t.ti, .i .i64 f, .i .i64 n, .i .i64 at']] (.b true) := by
  refine pc_fn fn12 (by simp only [AV.plains, AV.plain, il_plain, bl_plain, Bool.and_true, Bool.true_and, Bool.and_self]) (by simp only [AV.plains, AV.plain, il_plain, bl_plain, Bool.and_true, Bool.true_and, Bool.and_self]) (Nat.le_of_ble_eq_true rfl) ?_
  rw [initSt1]
  have q35 := pc35 t f n
  have q42 := pc42 t f n
  have q43 := pc43 t f
  have q44 := pc44 t f
  have q45 := pc45 t
  have q34 := pc34 t
  have q39 := pc39 t f at'
  have q46 := pc46 t f at'
  have q40 := pc40 t n at'
  have q47 := pc47 t n at'
  generalize opd t f n = r1 at q35 q42
  generalize tig t f = r2 at q43 q44
  generalize vh t = r3 at q45 q34
  generalize lif t f at' = r4 at q39 q46
  generalize svc t n at' = r5 at q40 q47
  simp only [eH] at q35 q42 q43 q44 q45 q34 q39 q46 q40 q47
  repeat' first
    | with_reducible refine k_seq ?_
    | with_reducible refine k_skip ?_
    | with_reducible refine k_blkS ?_
    | with_reducible refine k_blkR ?_
    | with_reducible refine k_blkC ?_
    | with_reducible refine k_blkH ?_
    | with_reducible refine k_blkB ?_
    | with_reducible refine k_blkK ?_
    | with_reducible refine k_blkE ?_
    | with_reducible refine k_reg ?_
    | with_reducible refine k_head (by with_unfolding_all rfl) ?_
    | with_reducible refine k_headS ?_
    | (with_reducible refine SepK.mk ?_ ?_; (refine sepQ_P ?_; simp [sepQ, sepG, AOp.late, AOp.free, AOp.xs, AOp.isAl, tokNe, AV.tok, stS_get, strip, AX.val, c12r0, c12r1, c12r2, c12r3, c12r4, c12r5, c12r6, c12r7, c12r8, c12r9, c12r10, c12r11, GA]; try omega))
    | with_reducible refine r_done ?_
    | with_reducible refine hr_done ?_
    | with_reducible refine s_go (by simp (disch := omega) only [c12r0, c12r1, c12r2, c12r3, c12r4, c12r5, c12r6, c12r7, c12r8, c12r9, c12r10, c12r11, EV0, EV1, EV2, EV3, EV4, EV5, EV6, EV7, EV8, VALS, plug, ite_same, decide_true, decide_false, eq_self, ↓reduceIte, reduceCtorEq, Nat.reduceAdd, Nat.reduceEqDiff, Nat.reduceLT, Nat.reduceLeDiff, Nat.reduceMul, Nat.reduceSub, Nat.reduceDiv, Int.reduceToNat, Int.reduceAdd, Int.reduceSub, Int.reduceMul, Int.reduceNeg, Int.reduceEq, Int.reduceLT, Int.reduceLE]; with_reducible rfl) ?_
    | with_reducible refine h_go (by with_unfolding_all rfl) (by simp (disch := omega) only [c12r0, c12r1, c12r2, c12r3, c12r4, c12r5, c12r6, c12r7, c12r8, c12r9, c12r10, c12r11, EV0, EV1, EV2, EV3, EV4, EV5, EV6, EV7, EV8, VALS, plug, ite_same, decide_true, decide_false, eq_self, ↓reduceIte, reduceCtorEq, Nat.reduceAdd, Nat.reduceEqDiff, Nat.reduceLT, Nat.reduceLeDiff, Nat.reduceMul, Nat.reduceSub, Nat.reduceDiv, Int.reduceToNat, Int.reduceAdd, Int.reduceSub, Int.reduceMul, Int.reduceNeg, Int.reduceEq, Int.reduceLT, Int.reduceLE]; with_reducible rfl) ?_
    | ((with_reducible refine chk_r ?_); refine r_callF (by simp only [CA, Nat.reduceEqDiff, ↓reduceIte]; rfl) (by exact rfl) (by simp only [CA, Nat.reduceEqDiff, ↓reduceIte]; rfl) rfl ?_)
    | ((with_reducible refine chk_h ?_); refine hr_callF (by simp only [CA, Nat.reduceEqDiff, ↓reduceIte]; rfl) (by exact rfl) (by simp only [CA, Nat.reduceEqDiff, ↓reduceIte]; rfl) rfl ?_)
    | ((with_reducible refine chk_r ?_); refine r_callP (by simp only [CA, Nat.reduceEqDiff, ↓reduceIte]; rfl) (by simp only [CA, Nat.reduceEqDiff, ↓reduceIte]; rfl) (by first | exact q35 _ | exact q42 _ | exact q43 _ | exact q44 _ | exact q45 _ | exact q34 _ | exact q39 _ | exact q46 _ | exact q40 _ | exact q47 _ | exact pc24 _) rfl ?_)
    | ((with_reducible refine chk_h ?_); refine hr_callP (by simp only [CA, Nat.reduceEqDiff, ↓reduceIte]; rfl) (by simp only [CA, Nat.reduceEqDiff, ↓reduceIte]; rfl) (by first | exact q35 _ | exact q42 _ | exact q43 _ | exact q44 _ | exact q45 _ | exact q34 _ | exact q39 _ | exact q46 _ | exact q40 _ | exact q47 _ | exact pc24 _) rfl ?_)
    | ((with_reducible refine chk_h ?_); refine hr_callP1 (by simp only [CA, Nat.reduceEqDiff, ↓reduceIte]; rfl) (by simp only [CA, Nat.reduceEqDiff, ↓reduceIte]; rfl) (by simp (disch := omega) only [CA, Nat.reduceEqDiff, ↓reduceIte, firstTok_nil, firstTok_sl, firstTok_sl0, firstTok_i, firstTok_b, firstTok_ag, firstTok_p, firstTok_s]; rfl) (by first | exact q35 _ | exact q42 _ | exact q43 _ | exact q44 _ | exact q45 _ | exact q34 _ | exact q39 _ | exact q46 _ | exact q40 _ | exact q47 _ | exact pc24 _) rfl ?_)
    | ((with_reducible refine chk_r ?_); refine r_callG (by simp only [CA, Nat.reduceEqDiff, ↓reduceIte]; rfl) (by simp only [CA, Nat.reduceEqDiff, ↓reduceIte]; rfl) (by simp only [CA, Nat.reduceEqDiff, ↓reduceIte]; rfl) (by intro hg; (try simp only [BO] at hg); first | exact q35 _ | exact q42 _ | exact q43 _ | exact q44 _ | exact q45 _ | exact q34 _ | exact q39 _ | exact q46 _ | exact q40 _ | exact q47 _ | exact pc24 _) rfl ?_)
    | ((with_reducible refine chk_h ?_); refine hr_callG (by simp only [CA, Nat.reduceEqDiff, ↓reduceIte]; rfl) (by simp only [CA, Nat.reduceEqDiff, ↓reduceIte]; rfl) (by simp only [CA, Nat.reduceEqDiff, ↓reduceIte]; rfl) (by intro hg; (try simp only [BO] at hg); first | exact q35 _ | exact q42 _ | exact q43 _ | exact q44 _ | exact q45 _ | exact q34 _ | exact q39 _ | exact q46 _ | exact q40 _ | exact q47 _ | exact pc24 _) rfl ?_)
    | ((with_reducible refine chk_h ?_); refine hr_app (by simp (disch := omega) only [c12r0, c12r1, c12r2, c12r3, c12r4, c12r5, c12r6, c12r7, c12r8, c12r9, c12r10, c12r11, EV0, EV1, EV2, EV3, EV4, EV5, EV6, EV7, EV8, VALS, plug, ite_same, decide_true, decide_false, eq_self, ↓reduceIte, reduceCtorEq, Nat.reduceAdd, Nat.reduceEqDiff, Nat.reduceLT, Nat.reduceLeDiff, Nat.reduceMul, Nat.reduceSub, Nat.reduceDiv, Int.reduceToNat, Int.reduceAdd, Int.reduceSub, Int.reduceMul, Int.reduceNeg, Int.reduceEq, Int.reduceLT, Int.reduceLE]; with_reducible rfl) rfl ?_)
    | (with_reducible refine k_condP (by simp only [GA, Nat.reduceEqDiff, ↓reduceIte]; rfl) (by first | (simp only [BO]; rfl) | rfl) (fun ht => ?_) (fun ht => ?_) <;> try (first | exact False.elim ht | exact absurd rfl ht | exact absurd trivial ht | exact Bool.noConfusion ht))
    | (with_reducible refine k_ret ?_; repeat with_reducible (first | refine ret_thru ?_ | refine ret_blk ?_ | refine fin ?_))
    | (with_reducible refine k_exit ?_; repeat with_reducible (first | refine thru ?_ | refine out_blk ?_ | refine pass (by decide) ?_))
    | (refine post1 ?_; simp only [GA, Nat.reduceEqDiff, ↓reduceIte])
    | (refine post2 ?_; simp only [GA, Nat.reduceEqDiff, ↓reduceIte])
    | (refine post3 ?_; simp only [GA, Nat.reduceEqDiff, ↓reduceIte])
    | (refine postc (by simp only [GA, Nat.reduceEqDiff, ↓reduceIte]; rfl) (by simp (disch := omega) only [c12r0, c12r1, c12r2, c12r3, c12r4, c12r5, c12r6, c12r7, c12r8, c12r9, c12r10, c12r11, EV0, EV1, EV2, EV3, EV4, EV5, EV6, EV7, EV8, VALS, plug, ite_same, decide_true, decide_false, eq_self, ↓reduceIte, reduceCtorEq, Nat.reduceAdd, Nat.reduceEqDiff, Nat.reduceLT, Nat.reduceLeDiff, Nat.reduceMul, Nat.reduceSub, Nat.reduceDiv, Int.reduceToNat, Int.reduceAdd, Int.reduceSub, Int.reduceMul, Int.reduceNeg, Int.reduceEq, Int.reduceLT, Int.reduceLE]; rfl) ?_)
    | refine post0 ?_
  all_goals first | exact ends_of | exact ends_eq rfl
end Go.Proofs.Ytbhkbaapfioijaa
