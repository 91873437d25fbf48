import Derived.Test.YtbhkbaapfioijaaTmG
set_option linter.unusedVariables false
set_option linter.unusedSimpArgs false
namespace Go.Proofs.Ytbhkbaapfioijaa
open Go Go.Am Go.Proofs Go.Sort

/-! ### Pairs -/
def eP (p : Nat × Nat) : List AV := [.i .i64 (p.1 : Int), .i .i64 (p.2 : Int)]
theorem eP_len (p : Nat × Nat) : (eP p).length = 2 := rfl
theorem eP_plain (p : Nat × Nat) : AV.plains (eP p) = true := rfl
theorem eP_one (p : Nat × Nat) : (eP p).all AV.one = true := rfl
theorem flP_plain (l : List (Nat × Nat)) : AV.plains (fl eP l) = true := fl_plain eP_plain l
theorem flP_one (l : List (Nat × Nat)) : (fl eP l).all AV.one = true := fl_one eP_one l
theorem flP_len (l : List (Nat × Nat)) : (fl eP l).length = l.length * 2 := fl_len eP_len l
theorem flP_snoc (l : List (Nat × Nat)) (x y : Nat) : fl eP l ++ [.i .i64 (x : Int), .i .i64 (y : Int)] = fl eP (l ++ [(x, y)]) := fl_snoc l (x, y)
theorem rdP {l : List (Nat × Nat)} {j : Nat} (h : j < l.length) : rd (fl eP l) (j * 2) (some 2) = some (.ag (eP (l.getD j (0, 0)))) := fl_rd eP_len (0, 0) h
theorem getP0 {l : List (Nat × Nat)} {j : Nat} (h : j < l.length) : (fl eP l)[j * 2]? = some (.i .i64 ((l.getD j (0, 0)).1 : Nat)) := fl_get (c := 0) eP_len (0, 0) h (by omega)
theorem getP1 {l : List (Nat × Nat)} {j : Nat} (h : j < l.length) : (fl eP l)[j * 2 + 1]? = some (.i .i64 ((l.getD j (0, 0)).2 : Nat)) := fl_get eP_len (0, 0) h (by omega)
abbrev vP (l : List (Nat × Nat)) : AV := .vs l.length (fl eP l)

/-- two sides, the shortest ahead -/
def mt (l : List T) (tol : Int) : List Nat → List Nat → List (Nat × Nat)
  | a :: xs, b :: ys => if apart (l.getD a T0) (l.getD b T0) ≤ tol then (a, b) :: mt l tol xs ys else if (l.getD a T0).len < (l.getD b T0).len then mt l tol xs (b :: ys) else mt l tol (a :: xs) ys
  | _, _ => []
termination_by xs ys => xs.length + ys.length
theorem mt_nil1 (l : List T) (tol : Int) (ys : List Nat) : mt l tol [] ys = [] := by unfold mt; rfl
theorem mt_nil2 (l : List T) (tol : Int) (xs : List Nat) : mt l tol xs [] = [] := by cases xs <;> (unfold mt; rfl)
theorem mt_cons (l : List T) (tol : Int) (a b : Nat) (xs ys : List Nat) : mt l tol (a :: xs) (b :: ys) = if apart (l.getD a T0) (l.getD b T0) ≤ tol then (a, b) :: mt l tol xs ys else if (l.getD a T0).len < (l.getD b T0).len then mt l tol xs (b :: ys) else mt l tol (a :: xs) ys := by
  rw [mt]
theorem mt_len (l : List T) (tol : Int) : ∀ (n : Nat) (xs ys : List Nat), xs.length + ys.length ≤ n → (mt l tol xs ys).length ≤ xs.length
  | n, [], ys, h => by rw [mt_nil1]; simp
  | n, a :: xs, [], h => by rw [mt_nil2]; simp
  | 0, a :: xs, b :: ys, h => by simp at h
  | n + 1, a :: xs, b :: ys, h => by
    rw [mt_cons]
    simp only [List.length_cons] at h ⊢
    split
    · have := mt_len l tol n xs ys (by omega); simp only [List.length_cons]; omega
    · split
      · have := mt_len l tol n xs (b :: ys) (by simp only [List.length_cons]; omega); omega
      · have := mt_len l tol n (a :: xs) ys (by simp only [List.length_cons]; omega); simpa using this
/-- the pairs of the first k colours -/
def mc (l : List T) (tol : Int) (k : Nat) : List (Nat × Nat) := (List.range k).flatMap fun c => mt l tol (sideL l 1 (c + 1 : Nat)) (sideL l 2 (c + 1 : Nat))
def matchL (l : List T) (tol : Int) : List (Nat × Nat) := mc l tol 9
theorem mc_succ (l : List T) (tol : Int) (k : Nat) : mc l tol (k + 1) = mc l tol k ++ mt l tol (sideL l 1 (k + 1 : Nat)) (sideL l 2 (k + 1 : Nat)) := by
  unfold mc; rw [List.range_succ, List.flatMap_append]; simp
theorem sideL_lt {l : List T} {s c : Int} {i : Nat} (h : i ∈ sideL l s c) : i < l.length := by
  unfold sideL at h
  rw [List.mem_mergeSort] at h
  simp only [sfil, List.mem_filter, List.mem_range] at h
  exact h.1
theorem sideL_len (l : List T) (s c : Int) : (sideL l s c).length ≤ l.length := by
  unfold sideL; rw [List.length_mergeSort]; exact sfil_len _ _ _ _

theorem pc50 (l : List T) (hv : VL l) (tol : Int) : PC Try.prog 50 [vT l, .i .i64 tol] (vP (matchL l tol)) := by
  refine pc_fn fn50 (by simp only [AV.plains, AV.plain, il_plain, bl_plain, Bool.and_true, Bool.true_and, Bool.and_self, flT_plain, flP_plain]) (by simp only [AV.plains, AV.plain, il_plain, bl_plain, Bool.and_true, Bool.true_and, Bool.and_self, flT_plain, flP_plain]) (Nat.le_of_ble_eq_true rfl) ?_
  rw [initSt2]
  have hl := hv.len
  have q74 := pc74 l hv
  repeat' first
    | with_reducible refine k_seq ?_
    | with_reducible refine k_skip ?_
    | with_reducible refine k_blkS ?_
    | with_reducible refine k_blkR ?_
    | with_reducible refine k_blkC ?_
    | with_reducible refine k_blkH ?_
    | with_reducible refine k_blkB ?_
    | with_reducible refine k_blkK ?_
    | with_reducible refine k_blkE ?_
    | with_reducible refine k_reg ?_
    | with_reducible refine k_head (by with_unfolding_all rfl) ?_
    | with_reducible refine k_headS ?_
    | (with_reducible refine SepK.mk ?_ ?_; (refine sepQ_P ?_; simp [sepQ, sepG, AOp.late, AOp.free, AOp.xs, AOp.isAl, tokNe, AV.tok, stS_get, strip, AX.val, c50r0, c50r1, c50r2, c50r3, c50r4, c50r5, c50r6, c50r7, c50r8, c50r9, c50r10, c50r11, c50r12, c50r14, c50r16, GA]; try omega))
    | with_reducible refine r_done ?_
    | with_reducible refine hr_done ?_
    | with_reducible refine s_go (by simp (disch := omega) only [c50r0, c50r1, c50r2, c50r3, c50r4, c50r5, c50r6, c50r7, c50r8, c50r9, c50r10, c50r11, c50r12, c50r14, c50r16, EV0, EV1, EV2, EV3, EV4, EV5, EV6, EV7, EV8, VALS, plug, ite_same, decide_true, decide_false, eq_self, ↓reduceIte, reduceCtorEq, Nat.reduceAdd, Nat.reduceEqDiff, Nat.reduceLT, Nat.reduceLeDiff, Nat.reduceMul, Nat.reduceSub, Nat.reduceDiv, Int.reduceToNat, Int.reduceAdd, Int.reduceSub, Int.reduceMul, Int.reduceNeg, Int.reduceEq, Int.reduceLT, Int.reduceLE]; with_reducible rfl) ?_
    | with_reducible refine h_go (by with_unfolding_all rfl) (by simp (disch := omega) only [c50r0, c50r1, c50r2, c50r3, c50r4, c50r5, c50r6, c50r7, c50r8, c50r9, c50r10, c50r11, c50r12, c50r14, c50r16, EV0, EV1, EV2, EV3, EV4, EV5, EV6, EV7, EV8, VALS, plug, ite_same, decide_true, decide_false, eq_self, ↓reduceIte, reduceCtorEq, Nat.reduceAdd, Nat.reduceEqDiff, Nat.reduceLT, Nat.reduceLeDiff, Nat.reduceMul, Nat.reduceSub, Nat.reduceDiv, Int.reduceToNat, Int.reduceAdd, Int.reduceSub, Int.reduceMul, Int.reduceNeg, Int.reduceEq, Int.reduceLT, Int.reduceLE]; with_reducible rfl) ?_
    | ((with_reducible refine chk_r ?_); refine r_callF (by simp only [CA, Nat.reduceEqDiff, ↓reduceIte]; rfl) (by exact rfl) (by simp only [CA, Nat.reduceEqDiff, ↓reduceIte]; rfl) rfl ?_)
    | ((with_reducible refine chk_h ?_); refine hr_callF (by simp only [CA, Nat.reduceEqDiff, ↓reduceIte]; rfl) (by exact rfl) (by simp only [CA, Nat.reduceEqDiff, ↓reduceIte]; rfl) rfl ?_)
    | ((with_reducible refine chk_h ?_); refine hr_app (by simp (disch := omega) only [c50r0, c50r1, c50r2, c50r3, c50r4, c50r5, c50r6, c50r7, c50r8, c50r9, c50r10, c50r11, c50r12, c50r14, c50r16, EV0, EV1, EV2, EV3, EV4, EV5, EV6, EV7, EV8, VALS, plug, ite_same, decide_true, decide_false, eq_self, ↓reduceIte, reduceCtorEq, Nat.reduceAdd, Nat.reduceEqDiff, Nat.reduceLT, Nat.reduceLeDiff, Nat.reduceMul, Nat.reduceSub, Nat.reduceDiv, Int.reduceToNat, Int.reduceAdd, Int.reduceSub, Int.reduceMul, Int.reduceNeg, Int.reduceEq, Int.reduceLT, Int.reduceLE]; with_reducible rfl) rfl ?_)
    | (with_reducible refine k_condP (by simp only [GA, Nat.reduceEqDiff, ↓reduceIte]; rfl) (by first | (simp only [BO]; rfl) | rfl) (fun ht => ?_) (fun ht => ?_) <;> try (first | exact False.elim ht | exact absurd rfl ht | exact absurd trivial ht | exact Bool.noConfusion ht))
    | (with_reducible refine k_ret ?_; repeat with_reducible (first | refine ret_thru ?_ | refine ret_blk ?_ | refine fin ?_))
    | (with_reducible refine k_exit ?_; repeat with_reducible (first | refine thru ?_ | refine out_blk ?_ | refine pass (by decide) ?_))
    | (refine post1 ?_; simp only [GA, Nat.reduceEqDiff, ↓reduceIte])
    | (refine post2 ?_; simp only [GA, Nat.reduceEqDiff, ↓reduceIte])
    | (refine post3 ?_; simp only [GA, Nat.reduceEqDiff, ↓reduceIte])
    | (refine postc (by simp only [GA, Nat.reduceEqDiff, ↓reduceIte]; rfl) (by simp (disch := omega) only [c50r0, c50r1, c50r2, c50r3, c50r4, c50r5, c50r6, c50r7, c50r8, c50r9, c50r10, c50r11, c50r12, c50r14, c50r16, EV0, EV1, EV2, EV3, EV4, EV5, EV6, EV7, EV8, VALS, plug, ite_same, decide_true, decide_false, eq_self, ↓reduceIte, reduceCtorEq, Nat.reduceAdd, Nat.reduceEqDiff, Nat.reduceLT, Nat.reduceLeDiff, Nat.reduceMul, Nat.reduceSub, Nat.reduceDiv, Int.reduceToNat, Int.reduceAdd, Int.reduceSub, Int.reduceMul, Int.reduceNeg, Int.reduceEq, Int.reduceLT, Int.reduceLE]; rfl) ?_)
    | refine post0 ?_
  refine w_virt 2 5 rfl ?_
  refine k_blk (k_loopS (X := Nat) [0, 1, 5, 6] 9 (fun k x => [(0, vT l), (1, .i .i64 tol), (5, .sl x 0 (mc l tol k).length 2), (6, .i .i64 ((k + 1 : Nat) : Int))])
    (fun k x h => x ≠ 0 ∧ (mc l tol k).length ≤ k * 60 ∧ h.m x = some (.cells true (fl eP (mc l tol k)))) _ (by simp only [Am.keep, List.map_cons, List.map_nil, GA, Nat.reduceEqDiff, ↓reduceIte]; try rfl) ⟨?_, by simp [mc], by simp (disch := omega) only [c50r0, c50r1, c50r2, c50r3, c50r4, c50r5, c50r6, c50r7, c50r8, c50r9, c50r10, c50r11, c50r12, c50r14, c50r16, EV0, EV1, EV2, EV3, EV4, EV5, EV6, EV7, EV8, VALS, plug, ite_same, decide_true, decide_false, eq_self, ↓reduceIte, reduceCtorEq, Nat.reduceAdd, Nat.reduceEqDiff, Nat.reduceLT, Nat.reduceLeDiff, Nat.reduceMul, Nat.reduceSub, Nat.reduceDiv, Int.reduceToNat, Int.reduceAdd, Int.reduceSub, Int.reduceMul, Int.reduceNeg, Int.reduceEq, Int.reduceLT, Int.reduceLE] <;> rfl⟩ ?_)
  · decide
  rintro k x h hk ⟨hx, hlen, hm⟩ ok pos
  have hx' := ok.m hm
  by_cases hlt : k < 9
  · have c1 : ((k + 1 : Nat) : Int) ≤ 9 := by omega
    repeat' first
      | with_reducible refine k_seq ?_
      | with_reducible refine k_skip ?_
      | with_reducible refine k_blkS ?_
      | with_reducible refine k_blkR ?_
      | with_reducible refine k_blkC ?_
      | with_reducible refine k_blkH ?_
      | with_reducible refine k_blkB ?_
      | with_reducible refine k_blkK ?_
      | with_reducible refine k_blkE ?_
      | with_reducible refine k_reg ?_
      | with_reducible refine k_head (by with_unfolding_all rfl) ?_
      | with_reducible refine k_headS ?_
      | (with_reducible refine SepK.mk ?_ ?_; (refine sepQ_P ?_; simp [sepQ, sepG, AOp.late, AOp.free, AOp.xs, AOp.isAl, tokNe, AV.tok, stS_get, strip, AX.val, c50r0, c50r1, c50r2, c50r3, c50r4, c50r5, c50r6, c50r7, c50r8, c50r9, c50r10, c50r11, c50r12, c50r14, c50r16, GA]; try omega))
      | with_reducible refine r_done ?_
      | with_reducible refine hr_done ?_
      | with_reducible refine s_go (by simp (disch := omega) only [c1, c50r0, c50r1, c50r2, c50r3, c50r4, c50r5, c50r6, c50r7, c50r8, c50r9, c50r10, c50r11, c50r12, c50r14, c50r16, EV0, EV1, EV2, EV3, EV4, EV5, EV6, EV7, EV8, VALS, plug, ite_same, decide_true, decide_false, eq_self, ↓reduceIte, reduceCtorEq, Nat.reduceAdd, Nat.reduceEqDiff, Nat.reduceLT, Nat.reduceLeDiff, Nat.reduceMul, Nat.reduceSub, Nat.reduceDiv, Int.reduceToNat, Int.reduceAdd, Int.reduceSub, Int.reduceMul, Int.reduceNeg, Int.reduceEq, Int.reduceLT, Int.reduceLE]; with_reducible rfl) ?_
      | with_reducible refine h_go (by with_unfolding_all rfl) (by simp (disch := omega) only [c1, c50r0, c50r1, c50r2, c50r3, c50r4, c50r5, c50r6, c50r7, c50r8, c50r9, c50r10, c50r11, c50r12, c50r14, c50r16, EV0, EV1, EV2, EV3, EV4, EV5, EV6, EV7, EV8, VALS, plug, ite_same, decide_true, decide_false, eq_self, ↓reduceIte, reduceCtorEq, Nat.reduceAdd, Nat.reduceEqDiff, Nat.reduceLT, Nat.reduceLeDiff, Nat.reduceMul, Nat.reduceSub, Nat.reduceDiv, Int.reduceToNat, Int.reduceAdd, Int.reduceSub, Int.reduceMul, Int.reduceNeg, Int.reduceEq, Int.reduceLT, Int.reduceLE]; with_reducible rfl) ?_
      | ((with_reducible refine chk_r ?_); refine r_callF (by simp only [CA, Nat.reduceEqDiff, ↓reduceIte]; rfl) (by exact rfl) (by simp only [CA, Nat.reduceEqDiff, ↓reduceIte]; rfl) rfl ?_)
      | ((with_reducible refine chk_h ?_); refine hr_callF (by simp only [CA, Nat.reduceEqDiff, ↓reduceIte]; rfl) (by exact rfl) (by simp only [CA, Nat.reduceEqDiff, ↓reduceIte]; rfl) rfl ?_)
      | ((with_reducible refine chk_r ?_); refine r_callP (by simp only [CA, Nat.reduceEqDiff, ↓reduceIte]; rfl) (by simp only [CA, Nat.reduceEqDiff, ↓reduceIte]; rfl) (by first | exact q74 _ _ _) rfl ?_)
      | ((with_reducible refine chk_h ?_); refine hr_callP (by simp only [CA, Nat.reduceEqDiff, ↓reduceIte]; rfl) (by simp only [CA, Nat.reduceEqDiff, ↓reduceIte]; rfl) (by first | exact q74 _ _ _) rfl ?_)
      | ((with_reducible refine chk_h ?_); refine hr_callP1 (by simp only [CA, Nat.reduceEqDiff, ↓reduceIte]; rfl) (by simp only [CA, Nat.reduceEqDiff, ↓reduceIte]; rfl) (by simp (disch := omega) only [CA, Nat.reduceEqDiff, ↓reduceIte, firstTok_nil, firstTok_sl, firstTok_sl0, firstTok_i, firstTok_b, firstTok_ag, firstTok_p, firstTok_s]; rfl) (by first | exact q74 _ _ _) rfl ?_)
      | ((with_reducible refine chk_h ?_); refine hr_app (by simp (disch := omega) only [c1, c50r0, c50r1, c50r2, c50r3, c50r4, c50r5, c50r6, c50r7, c50r8, c50r9, c50r10, c50r11, c50r12, c50r14, c50r16, EV0, EV1, EV2, EV3, EV4, EV5, EV6, EV7, EV8, VALS, plug, ite_same, decide_true, decide_false, eq_self, ↓reduceIte, reduceCtorEq, Nat.reduceAdd, Nat.reduceEqDiff, Nat.reduceLT, Nat.reduceLeDiff, Nat.reduceMul, Nat.reduceSub, Nat.reduceDiv, Int.reduceToNat, Int.reduceAdd, Int.reduceSub, Int.reduceMul, Int.reduceNeg, Int.reduceEq, Int.reduceLT, Int.reduceLE]; with_reducible rfl) rfl ?_)
      | (with_reducible refine k_condP (by simp only [GA, Nat.reduceEqDiff, ↓reduceIte]; rfl) (by first | (simp only [BO]; rfl) | rfl) (fun ht => ?_) (fun ht => ?_) <;> try (first | exact False.elim ht | exact absurd rfl ht | exact absurd trivial ht | exact Bool.noConfusion ht))
      | (with_reducible refine k_ret ?_; repeat with_reducible (first | refine ret_thru ?_ | refine ret_blk ?_ | refine fin ?_))
      | (with_reducible refine k_exit ?_; repeat with_reducible (first | refine thru ?_ | refine out_blk ?_ | refine pass (by decide) ?_))
      | (refine post1 ?_; simp only [GA, Nat.reduceEqDiff, ↓reduceIte])
      | (refine post2 ?_; simp only [GA, Nat.reduceEqDiff, ↓reduceIte])
      | (refine post3 ?_; simp only [GA, Nat.reduceEqDiff, ↓reduceIte])
      | (refine postc (by simp only [GA, Nat.reduceEqDiff, ↓reduceIte]; rfl) (by simp (disch := omega) only [c1, c50r0, c50r1, c50r2, c50r3, c50r4, c50r5, c50r6, c50r7, c50r8, c50r9, c50r10, c50r11, c50r12, c50r14, c50r16, EV0, EV1, EV2, EV3, EV4, EV5, EV6, EV7, EV8, VALS, plug, ite_same, decide_true, decide_false, eq_self, ↓reduceIte, reduceCtorEq, Nat.reduceAdd, Nat.reduceEqDiff, Nat.reduceLT, Nat.reduceLeDiff, Nat.reduceMul, Nat.reduceSub, Nat.reduceDiv, Int.reduceToNat, Int.reduceAdd, Int.reduceSub, Int.reduceMul, Int.reduceNeg, Int.reduceEq, Int.reduceLT, Int.reduceLE]; rfl) ?_)
      | refine post0 ?_
    have hs1 := sideL_len l 1 (k + 1 : Nat)
    have hs2 := sideL_len l 2 (k + 1 : Nat)
    have fs := mc_succ l tol k
    refine k_blk (k_loopW (X := Nat × List (Nat × Nat) × List Nat × List Nat) [0, 1, 5, 6, 7, 8] (fun x => [(0, vT l), (1, .i .i64 tol), (5, .sl x.1 0 x.2.1.length 2), (6, .i .i64 ((k + 1 : Nat) : Int)), (7, .vs x.2.2.1.length (nl x.2.2.1)), (8, .vs x.2.2.2.length (nl x.2.2.2))])
      (fun x => x.2.2.1.length + x.2.2.2.length)
      (fun x h => x.1 ≠ 0 ∧ x.2.1 ++ mt l tol x.2.2.1 x.2.2.2 = mc l tol (k + 1) ∧ x.2.1.length + x.2.2.1.length ≤ k * 60 + 60 ∧ x.2.2.1.length ≤ 60 ∧ x.2.2.2.length ≤ 60 ∧ (∀ i ∈ x.2.2.1, i < l.length) ∧ (∀ i ∈ x.2.2.2, i < l.length) ∧ h.m x.1 = some (.cells true (fl eP x.2.1))) (x, mc l tol k, sideL l 1 (k + 1 : Nat), sideL l 2 (k + 1 : Nat)) (by simp only [Am.keep, List.map_cons, List.map_nil, GA, Nat.reduceEqDiff, ↓reduceIte]; try rfl) ⟨hx, fs.symm, by simp only []; omega, by simp only []; omega, by simp only []; omega, fun i => sideL_lt, fun i => sideL_lt, by simp (disch := omega) only [hm, c50r0, c50r1, c50r2, c50r3, c50r4, c50r5, c50r6, c50r7, c50r8, c50r9, c50r10, c50r11, c50r12, c50r14, c50r16, EV0, EV1, EV2, EV3, EV4, EV5, EV6, EV7, EV8, VALS, plug, ite_same, decide_true, decide_false, eq_self, ↓reduceIte, reduceCtorEq, Nat.reduceAdd, Nat.reduceEqDiff, Nat.reduceLT, Nat.reduceLeDiff, Nat.reduceMul, Nat.reduceSub, Nat.reduceDiv, Int.reduceToNat, Int.reduceAdd, Int.reduceSub, Int.reduceMul, Int.reduceNeg, Int.reduceEq, Int.reduceLT, Int.reduceLE]⟩ ?_)
    rintro ⟨x, acc, xs, ys⟩ h ⟨hx, e, hlen, hn1, hn2, hi1, hi2, hm⟩ ok pos
    simp only [] at hx e hlen hn1 hn2 hi1 hi2 hm
    have hx' := ok.m hm
    cases xs with
    | nil =>
      rw [mt_nil1, List.append_nil] at e
      simp only [List.length_nil] at hlen
      repeat' first
        | with_reducible refine k_seq ?_
        | with_reducible refine k_skip ?_
        | with_reducible refine k_blkS ?_
        | with_reducible refine k_blkR ?_
        | with_reducible refine k_blkC ?_
        | with_reducible refine k_blkH ?_
        | with_reducible refine k_blkB ?_
        | with_reducible refine k_blkK ?_
        | with_reducible refine k_blkE ?_
        | with_reducible refine k_reg ?_
        | with_reducible refine k_head (by with_unfolding_all rfl) ?_
        | with_reducible refine k_headS ?_
        | (with_reducible refine SepK.mk ?_ ?_; (refine sepQ_P ?_; simp [sepQ, sepG, AOp.late, AOp.free, AOp.xs, AOp.isAl, tokNe, AV.tok, stS_get, strip, AX.val, c50r0, c50r1, c50r2, c50r3, c50r4, c50r5, c50r6, c50r7, c50r8, c50r9, c50r10, c50r11, c50r12, c50r14, c50r16, GA]; try omega))
        | with_reducible refine r_done ?_
        | with_reducible refine hr_done ?_
        | with_reducible refine s_go (by simp (disch := omega) only [List.length_nil, c50r0, c50r1, c50r2, c50r3, c50r4, c50r5, c50r6, c50r7, c50r8, c50r9, c50r10, c50r11, c50r12, c50r14, c50r16, EV0, EV1, EV2, EV3, EV4, EV5, EV6, EV7, EV8, VALS, plug, ite_same, decide_true, decide_false, eq_self, ↓reduceIte, reduceCtorEq, Nat.reduceAdd, Nat.reduceEqDiff, Nat.reduceLT, Nat.reduceLeDiff, Nat.reduceMul, Nat.reduceSub, Nat.reduceDiv, Int.reduceToNat, Int.reduceAdd, Int.reduceSub, Int.reduceMul, Int.reduceNeg, Int.reduceEq, Int.reduceLT, Int.reduceLE]; with_reducible rfl) ?_
        | with_reducible refine h_go (by with_unfolding_all rfl) (by simp (disch := omega) only [List.length_nil, c50r0, c50r1, c50r2, c50r3, c50r4, c50r5, c50r6, c50r7, c50r8, c50r9, c50r10, c50r11, c50r12, c50r14, c50r16, EV0, EV1, EV2, EV3, EV4, EV5, EV6, EV7, EV8, VALS, plug, ite_same, decide_true, decide_false, eq_self, ↓reduceIte, reduceCtorEq, Nat.reduceAdd, Nat.reduceEqDiff, Nat.reduceLT, Nat.reduceLeDiff, Nat.reduceMul, Nat.reduceSub, Nat.reduceDiv, Int.reduceToNat, Int.reduceAdd, Int.reduceSub, Int.reduceMul, Int.reduceNeg, Int.reduceEq, Int.reduceLT, Int.reduceLE]; with_reducible rfl) ?_
        | ((with_reducible refine chk_r ?_); refine r_callF (by simp only [CA, Nat.reduceEqDiff, ↓reduceIte]; rfl) (by exact rfl) (by simp only [CA, Nat.reduceEqDiff, ↓reduceIte]; rfl) rfl ?_)
        | ((with_reducible refine chk_h ?_); refine hr_callF (by simp only [CA, Nat.reduceEqDiff, ↓reduceIte]; rfl) (by exact rfl) (by simp only [CA, Nat.reduceEqDiff, ↓reduceIte]; rfl) rfl ?_)
        | ((with_reducible refine chk_h ?_); refine hr_app (by simp (disch := omega) only [List.length_nil, c50r0, c50r1, c50r2, c50r3, c50r4, c50r5, c50r6, c50r7, c50r8, c50r9, c50r10, c50r11, c50r12, c50r14, c50r16, EV0, EV1, EV2, EV3, EV4, EV5, EV6, EV7, EV8, VALS, plug, ite_same, decide_true, decide_false, eq_self, ↓reduceIte, reduceCtorEq, Nat.reduceAdd, Nat.reduceEqDiff, Nat.reduceLT, Nat.reduceLeDiff, Nat.reduceMul, Nat.reduceSub, Nat.reduceDiv, Int.reduceToNat, Int.reduceAdd, Int.reduceSub, Int.reduceMul, Int.reduceNeg, Int.reduceEq, Int.reduceLT, Int.reduceLE]; with_reducible rfl) rfl ?_)
        | (with_reducible refine k_condP (by simp only [GA, Nat.reduceEqDiff, ↓reduceIte]; rfl) (by first | (simp only [BO]; rfl) | rfl) (fun ht => ?_) (fun ht => ?_) <;> try (first | exact False.elim ht | exact absurd rfl ht | exact absurd trivial ht | exact Bool.noConfusion ht))
        | (with_reducible refine k_ret ?_; repeat with_reducible (first | refine ret_thru ?_ | refine ret_blk ?_ | refine fin ?_))
        | (with_reducible refine k_exit ?_; repeat with_reducible (first | refine thru ?_ | refine out_blk ?_ | refine pass (by decide) ?_))
        | (refine post1 ?_; simp only [GA, Nat.reduceEqDiff, ↓reduceIte])
        | (refine post2 ?_; simp only [GA, Nat.reduceEqDiff, ↓reduceIte])
        | (refine post3 ?_; simp only [GA, Nat.reduceEqDiff, ↓reduceIte])
        | (refine postc (by simp only [GA, Nat.reduceEqDiff, ↓reduceIte]; rfl) (by simp (disch := omega) only [List.length_nil, c50r0, c50r1, c50r2, c50r3, c50r4, c50r5, c50r6, c50r7, c50r8, c50r9, c50r10, c50r11, c50r12, c50r14, c50r16, EV0, EV1, EV2, EV3, EV4, EV5, EV6, EV7, EV8, VALS, plug, ite_same, decide_true, decide_false, eq_self, ↓reduceIte, reduceCtorEq, Nat.reduceAdd, Nat.reduceEqDiff, Nat.reduceLT, Nat.reduceLeDiff, Nat.reduceMul, Nat.reduceSub, Nat.reduceDiv, Int.reduceToNat, Int.reduceAdd, Int.reduceSub, Int.reduceMul, Int.reduceNeg, Int.reduceEq, Int.reduceLT, Int.reduceLE]; rfl) ?_)
        | refine post0 ?_
      all_goals try (exfalso; omega)
      rw [← e]
      exact ⟨hlt, x, (by simp only [Am.keep, List.map_cons, List.map_nil, GA, Nat.reduceEqDiff, ↓reduceIte]; try rfl), hx, by omega, by simp (disch := omega) only [hm, c50r0, c50r1, c50r2, c50r3, c50r4, c50r5, c50r6, c50r7, c50r8, c50r9, c50r10, c50r11, c50r12, c50r14, c50r16, EV0, EV1, EV2, EV3, EV4, EV5, EV6, EV7, EV8, VALS, plug, ite_same, decide_true, decide_false, eq_self, ↓reduceIte, reduceCtorEq, Nat.reduceAdd, Nat.reduceEqDiff, Nat.reduceLT, Nat.reduceLeDiff, Nat.reduceMul, Nat.reduceSub, Nat.reduceDiv, Int.reduceToNat, Int.reduceAdd, Int.reduceSub, Int.reduceMul, Int.reduceNeg, Int.reduceEq, Int.reduceLT, Int.reduceLE]⟩
    | cons a xs =>
      cases ys with
      | nil =>
        rw [mt_nil2, List.append_nil] at e
        simp only [List.length_cons] at hlen
        repeat' first
          | with_reducible refine k_seq ?_
          | with_reducible refine k_skip ?_
          | with_reducible refine k_blkS ?_
          | with_reducible refine k_blkR ?_
          | with_reducible refine k_blkC ?_
          | with_reducible refine k_blkH ?_
          | with_reducible refine k_blkB ?_
          | with_reducible refine k_blkK ?_
          | with_reducible refine k_blkE ?_
          | with_reducible refine k_reg ?_
          | with_reducible refine k_head (by with_unfolding_all rfl) ?_
          | with_reducible refine k_headS ?_
          | (with_reducible refine SepK.mk ?_ ?_; (refine sepQ_P ?_; simp [sepQ, sepG, AOp.late, AOp.free, AOp.xs, AOp.isAl, tokNe, AV.tok, stS_get, strip, AX.val, c50r0, c50r1, c50r2, c50r3, c50r4, c50r5, c50r6, c50r7, c50r8, c50r9, c50r10, c50r11, c50r12, c50r14, c50r16, GA]; try omega))
          | with_reducible refine r_done ?_
          | with_reducible refine hr_done ?_
          | with_reducible refine s_go (by simp (disch := omega) only [c50r0, c50r1, c50r2, c50r3, c50r4, c50r5, c50r6, c50r7, c50r8, c50r9, c50r10, c50r11, c50r12, c50r14, c50r16, EV0, EV1, EV2, EV3, EV4, EV5, EV6, EV7, EV8, VALS, plug, ite_same, decide_true, decide_false, eq_self, ↓reduceIte, reduceCtorEq, Nat.reduceAdd, Nat.reduceEqDiff, Nat.reduceLT, Nat.reduceLeDiff, Nat.reduceMul, Nat.reduceSub, Nat.reduceDiv, Int.reduceToNat, Int.reduceAdd, Int.reduceSub, Int.reduceMul, Int.reduceNeg, Int.reduceEq, Int.reduceLT, Int.reduceLE]; with_reducible rfl) ?_
          | with_reducible refine h_go (by with_unfolding_all rfl) (by simp (disch := omega) only [c50r0, c50r1, c50r2, c50r3, c50r4, c50r5, c50r6, c50r7, c50r8, c50r9, c50r10, c50r11, c50r12, c50r14, c50r16, EV0, EV1, EV2, EV3, EV4, EV5, EV6, EV7, EV8, VALS, plug, ite_same, decide_true, decide_false, eq_self, ↓reduceIte, reduceCtorEq, Nat.reduceAdd, Nat.reduceEqDiff, Nat.reduceLT, Nat.reduceLeDiff, Nat.reduceMul, Nat.reduceSub, Nat.reduceDiv, Int.reduceToNat, Int.reduceAdd, Int.reduceSub, Int.reduceMul, Int.reduceNeg, Int.reduceEq, Int.reduceLT, Int.reduceLE]; with_reducible rfl) ?_
          | ((with_reducible refine chk_r ?_); refine r_callF (by simp only [CA, Nat.reduceEqDiff, ↓reduceIte]; rfl) (by exact rfl) (by simp only [CA, Nat.reduceEqDiff, ↓reduceIte]; rfl) rfl ?_)
          | ((with_reducible refine chk_h ?_); refine hr_callF (by simp only [CA, Nat.reduceEqDiff, ↓reduceIte]; rfl) (by exact rfl) (by simp only [CA, Nat.reduceEqDiff, ↓reduceIte]; rfl) rfl ?_)
          | ((with_reducible refine chk_h ?_); refine hr_app (by simp (disch := omega) only [c50r0, c50r1, c50r2, c50r3, c50r4, c50r5, c50r6, c50r7, c50r8, c50r9, c50r10, c50r11, c50r12, c50r14, c50r16, EV0, EV1, EV2, EV3, EV4, EV5, EV6, EV7, EV8, VALS, plug, ite_same, decide_true, decide_false, eq_self, ↓reduceIte, reduceCtorEq, Nat.reduceAdd, Nat.reduceEqDiff, Nat.reduceLT, Nat.reduceLeDiff, Nat.reduceMul, Nat.reduceSub, Nat.reduceDiv, Int.reduceToNat, Int.reduceAdd, Int.reduceSub, Int.reduceMul, Int.reduceNeg, Int.reduceEq, Int.reduceLT, Int.reduceLE]; with_reducible rfl) rfl ?_)
          | (with_reducible refine k_condP (by simp only [GA, Nat.reduceEqDiff, ↓reduceIte]; rfl) (by first | (simp only [BO]; rfl) | rfl) (fun ht => ?_) (fun ht => ?_) <;> try (first | exact False.elim ht | exact absurd rfl ht | exact absurd trivial ht | exact Bool.noConfusion ht))
          | (with_reducible refine k_ret ?_; repeat with_reducible (first | refine ret_thru ?_ | refine ret_blk ?_ | refine fin ?_))
          | (with_reducible refine k_exit ?_; repeat with_reducible (first | refine thru ?_ | refine out_blk ?_ | refine pass (by decide) ?_))
          | (refine post1 ?_; simp only [GA, Nat.reduceEqDiff, ↓reduceIte])
          | (refine post2 ?_; simp only [GA, Nat.reduceEqDiff, ↓reduceIte])
          | (refine post3 ?_; simp only [GA, Nat.reduceEqDiff, ↓reduceIte])
          | (refine postc (by simp only [GA, Nat.reduceEqDiff, ↓reduceIte]; rfl) (by simp (disch := omega) only [c50r0, c50r1, c50r2, c50r3, c50r4, c50r5, c50r6, c50r7, c50r8, c50r9, c50r10, c50r11, c50r12, c50r14, c50r16, EV0, EV1, EV2, EV3, EV4, EV5, EV6, EV7, EV8, VALS, plug, ite_same, decide_true, decide_false, eq_self, ↓reduceIte, reduceCtorEq, Nat.reduceAdd, Nat.reduceEqDiff, Nat.reduceLT, Nat.reduceLeDiff, Nat.reduceMul, Nat.reduceSub, Nat.reduceDiv, Int.reduceToNat, Int.reduceAdd, Int.reduceSub, Int.reduceMul, Int.reduceNeg, Int.reduceEq, Int.reduceLT, Int.reduceLE]; rfl) ?_)
          | refine post0 ?_
        all_goals try (exfalso; omega)
        rw [← e]
        exact ⟨hlt, x, (by simp only [Am.keep, List.map_cons, List.map_nil, GA, Nat.reduceEqDiff, ↓reduceIte]; try rfl), hx, by omega, by simp (disch := omega) only [hm, c50r0, c50r1, c50r2, c50r3, c50r4, c50r5, c50r6, c50r7, c50r8, c50r9, c50r10, c50r11, c50r12, c50r14, c50r16, EV0, EV1, EV2, EV3, EV4, EV5, EV6, EV7, EV8, VALS, plug, ite_same, decide_true, decide_false, eq_self, ↓reduceIte, reduceCtorEq, Nat.reduceAdd, Nat.reduceEqDiff, Nat.reduceLT, Nat.reduceLeDiff, Nat.reduceMul, Nat.reduceSub, Nat.reduceDiv, Int.reduceToNat, Int.reduceAdd, Int.reduceSub, Int.reduceMul, Int.reduceNeg, Int.reduceEq, Int.reduceLT, Int.reduceLE]⟩
      | cons b ys =>
        rw [mt_cons] at e
        have ha := hi1 a (by simp)
        have hb := hi2 b (by simp)
        have rA := rdT ha
        have rB := rdT hb
        simp only [eT] at rA rB
        simp only [List.length_cons] at hlen hn1 hn2
        have d1 : (nl (a :: xs)).drop 1 = nl xs := rfl
        have d2 : (nl (b :: ys)).drop 1 = nl ys := rfl
        have g1 : (nl (a :: xs))[0]? = some (.i .i64 (a : Int)) := rfl
        have g2 : (nl (b :: ys))[0]? = some (.i .i64 (b : Int)) := rfl
        have t1 : (nl xs).take xs.length = nl xs := List.take_of_length_le (by rw [nl_len]; omega)
        have t2 : (nl ys).take ys.length = nl ys := List.take_of_length_le (by rw [nl_len]; omega)
        have j1 : ∀ i ∈ xs, i < l.length := fun i hi => hi1 i (List.mem_cons_of_mem _ hi)
        have j2 : ∀ i ∈ ys, i < l.length := fun i hi => hi2 i (List.mem_cons_of_mem _ hi)
        have q60 := pc60 (l.getD a T0) (l.getD b T0) (hv.2.1 a ha) (hv.2.1 b hb)
        simp only [eT] at q60
        repeat' first
          | with_reducible refine k_seq ?_
          | with_reducible refine k_skip ?_
          | with_reducible refine k_blkS ?_
          | with_reducible refine k_blkR ?_
          | with_reducible refine k_blkC ?_
          | with_reducible refine k_blkH ?_
          | with_reducible refine k_blkB ?_
          | with_reducible refine k_blkK ?_
          | with_reducible refine k_blkE ?_
          | with_reducible refine k_reg ?_
          | with_reducible refine k_head (by with_unfolding_all rfl) ?_
          | with_reducible refine k_headS ?_
          | (with_reducible refine SepK.mk ?_ ?_; (refine sepQ_P ?_; simp [sepQ, sepG, AOp.late, AOp.free, AOp.xs, AOp.isAl, tokNe, AV.tok, stS_get, strip, AX.val, c50r0, c50r1, c50r2, c50r3, c50r4, c50r5, c50r6, c50r7, c50r8, c50r9, c50r10, c50r11, c50r12, c50r14, c50r16, GA]; try omega))
          | with_reducible refine r_done ?_
          | with_reducible refine hr_done ?_
          | with_reducible refine s_go (by simp (disch := omega) only [rA, rB, d1, d2, g1, g2, t1, t2, List.length_cons, hx, hm, flP_len, flP_snoc, c50r0, c50r1, c50r2, c50r3, c50r4, c50r5, c50r6, c50r7, c50r8, c50r9, c50r10, c50r11, c50r12, c50r14, c50r16, EV0, EV1, EV2, EV3, EV4, EV5, EV6, EV7, EV8, VALS, plug, ite_same, decide_true, decide_false, eq_self, ↓reduceIte, reduceCtorEq, Nat.reduceAdd, Nat.reduceEqDiff, Nat.reduceLT, Nat.reduceLeDiff, Nat.reduceMul, Nat.reduceSub, Nat.reduceDiv, Int.reduceToNat, Int.reduceAdd, Int.reduceSub, Int.reduceMul, Int.reduceNeg, Int.reduceEq, Int.reduceLT, Int.reduceLE]; with_reducible rfl) ?_
          | with_reducible refine h_go (by with_unfolding_all rfl) (by simp (disch := omega) only [rA, rB, d1, d2, g1, g2, t1, t2, List.length_cons, hx, hm, flP_len, flP_snoc, c50r0, c50r1, c50r2, c50r3, c50r4, c50r5, c50r6, c50r7, c50r8, c50r9, c50r10, c50r11, c50r12, c50r14, c50r16, EV0, EV1, EV2, EV3, EV4, EV5, EV6, EV7, EV8, VALS, plug, ite_same, decide_true, decide_false, eq_self, ↓reduceIte, reduceCtorEq, Nat.reduceAdd, Nat.reduceEqDiff, Nat.reduceLT, Nat.reduceLeDiff, Nat.reduceMul, Nat.reduceSub, Nat.reduceDiv, Int.reduceToNat, Int.reduceAdd, Int.reduceSub, Int.reduceMul, Int.reduceNeg, Int.reduceEq, Int.reduceLT, Int.reduceLE]; with_reducible rfl) ?_
          | ((with_reducible refine chk_r ?_); refine r_callF (by simp only [CA, Nat.reduceEqDiff, ↓reduceIte]; rfl) (by exact rfl) (by simp only [CA, Nat.reduceEqDiff, ↓reduceIte]; rfl) rfl ?_)
          | ((with_reducible refine chk_h ?_); refine hr_callF (by simp only [CA, Nat.reduceEqDiff, ↓reduceIte]; rfl) (by exact rfl) (by simp only [CA, Nat.reduceEqDiff, ↓reduceIte]; rfl) rfl ?_)
          | ((with_reducible refine chk_r ?_); refine r_callP (by simp only [CA, Nat.reduceEqDiff, ↓reduceIte]; rfl) (by simp only [CA, Nat.reduceEqDiff, ↓reduceIte]; rfl) (by first | exact q60 _) rfl ?_)
          | ((with_reducible refine chk_h ?_); refine hr_callP (by simp only [CA, Nat.reduceEqDiff, ↓reduceIte]; rfl) (by simp only [CA, Nat.reduceEqDiff, ↓reduceIte]; rfl) (by first | exact q60 _) rfl ?_)
          | ((with_reducible refine chk_h ?_); refine hr_callP1 (by simp only [CA, Nat.reduceEqDiff, ↓reduceIte]; rfl) (by simp only [CA, Nat.reduceEqDiff, ↓reduceIte]; rfl) (by simp (disch := omega) only [CA, Nat.reduceEqDiff, ↓reduceIte, firstTok_nil, firstTok_sl, firstTok_sl0, firstTok_i, firstTok_b, firstTok_ag, firstTok_p, firstTok_s]; rfl) (by first | exact q60 _) rfl ?_)
          | ((with_reducible refine chk_h ?_); refine hr_app (by simp (disch := omega) only [rA, rB, d1, d2, g1, g2, t1, t2, List.length_cons, hx, hm, flP_len, flP_snoc, c50r0, c50r1, c50r2, c50r3, c50r4, c50r5, c50r6, c50r7, c50r8, c50r9, c50r10, c50r11, c50r12, c50r14, c50r16, EV0, EV1, EV2, EV3, EV4, EV5, EV6, EV7, EV8, VALS, plug, ite_same, decide_true, decide_false, eq_self, ↓reduceIte, reduceCtorEq, Nat.reduceAdd, Nat.reduceEqDiff, Nat.reduceLT, Nat.reduceLeDiff, Nat.reduceMul, Nat.reduceSub, Nat.reduceDiv, Int.reduceToNat, Int.reduceAdd, Int.reduceSub, Int.reduceMul, Int.reduceNeg, Int.reduceEq, Int.reduceLT, Int.reduceLE]; with_reducible rfl) rfl ?_)
          | (with_reducible refine k_condP (by simp only [GA, Nat.reduceEqDiff, ↓reduceIte]; rfl) (by first | (simp only [BO]; rfl) | rfl) (fun ht => ?_) (fun ht => ?_) <;> try (first | exact False.elim ht | exact absurd rfl ht | exact absurd trivial ht | exact Bool.noConfusion ht))
          | (with_reducible refine k_ret ?_; repeat with_reducible (first | refine ret_thru ?_ | refine ret_blk ?_ | refine fin ?_))
          | (with_reducible refine k_exit ?_; repeat with_reducible (first | refine thru ?_ | refine out_blk ?_ | refine pass (by decide) ?_))
          | (refine post1 ?_; simp only [GA, Nat.reduceEqDiff, ↓reduceIte])
          | (refine post2 ?_; simp only [GA, Nat.reduceEqDiff, ↓reduceIte])
          | (refine post3 ?_; simp only [GA, Nat.reduceEqDiff, ↓reduceIte])
          | (refine postc (by simp only [GA, Nat.reduceEqDiff, ↓reduceIte]; rfl) (by simp (disch := omega) only [rA, rB, d1, d2, g1, g2, t1, t2, List.length_cons, hx, hm, flP_len, flP_snoc, c50r0, c50r1, c50r2, c50r3, c50r4, c50r5, c50r6, c50r7, c50r8, c50r9, c50r10, c50r11, c50r12, c50r14, c50r16, EV0, EV1, EV2, EV3, EV4, EV5, EV6, EV7, EV8, VALS, plug, ite_same, decide_true, decide_false, eq_self, ↓reduceIte, reduceCtorEq, Nat.reduceAdd, Nat.reduceEqDiff, Nat.reduceLT, Nat.reduceLeDiff, Nat.reduceMul, Nat.reduceSub, Nat.reduceDiv, Int.reduceToNat, Int.reduceAdd, Int.reduceSub, Int.reduceMul, Int.reduceNeg, Int.reduceEq, Int.reduceLT, Int.reduceLE]; rfl) ?_)
          | refine post0 ?_
        all_goals try (exfalso; omega)
        · rw [if_pos (by first | assumption | (simp only [Bool.and_eq_true, Bool.or_eq_true, decide_eq_true_eq]; assumption))] at e
          refine ⟨(?tk, acc ++ [(a, b)], xs, ys), ?gm, ?g1, ?g2, ?g3, ?g4, ?g5, ?g6, j1, j2, ?g7⟩
          case g1 =>
            simp only [Am.keep, List.map_cons, List.map_nil, GA, Nat.reduceEqDiff, ↓reduceIte, List.length_append, List.length_cons, List.length_nil, Nat.zero_add, Nat.add_sub_cancel]
            rfl
          case gm => simp only [List.length_cons]; omega
          case g2 => simp only []; omega
          case g3 => simp only []; rw [List.append_assoc]; exact e
          case g4 => (try simp only [List.length_append, List.length_cons, List.length_nil]); omega
          case g5 => show xs.length ≤ 60; (try simp only [List.length_cons]); omega
          case g6 => show ys.length ≤ 60; (try simp only [List.length_cons]); omega
          case g7 => simp (disch := omega) only [flP_snoc, c50r0, c50r1, c50r2, c50r3, c50r4, c50r5, c50r6, c50r7, c50r8, c50r9, c50r10, c50r11, c50r12, c50r14, c50r16, EV0, EV1, EV2, EV3, EV4, EV5, EV6, EV7, EV8, VALS, plug, ite_same, decide_true, decide_false, eq_self, ↓reduceIte, reduceCtorEq, Nat.reduceAdd, Nat.reduceEqDiff, Nat.reduceLT, Nat.reduceLeDiff, Nat.reduceMul, Nat.reduceSub, Nat.reduceDiv, Int.reduceToNat, Int.reduceAdd, Int.reduceSub, Int.reduceMul, Int.reduceNeg, Int.reduceEq, Int.reduceLT, Int.reduceLE] <;> rfl
        · rw [if_neg (by first | assumption | (simp only [Bool.and_eq_true, Bool.or_eq_true, decide_eq_true_eq]; assumption)), if_pos (by first | assumption | (simp only [Bool.and_eq_true, Bool.or_eq_true, decide_eq_true_eq]; assumption))] at e
          refine ⟨(x, acc, xs, b :: ys), ?gm, ?g1, hx, e, ?g4, ?g5, ?g6, j1, hi2, ?g7⟩
          case g1 =>
            simp only [Am.keep, List.map_cons, List.map_nil, GA, Nat.reduceEqDiff, ↓reduceIte, List.length_append, List.length_cons, List.length_nil, Nat.zero_add, Nat.add_sub_cancel]
            try rfl
          case gm => simp only [List.length_cons]; omega
          case g4 => (try simp only [List.length_append, List.length_cons, List.length_nil]); omega
          case g5 => show xs.length ≤ 60; (try simp only [List.length_cons]); omega
          case g6 => show (b :: ys).length ≤ 60; (try simp only [List.length_cons]); omega
          case g7 => simp (disch := omega) only [hm, c50r0, c50r1, c50r2, c50r3, c50r4, c50r5, c50r6, c50r7, c50r8, c50r9, c50r10, c50r11, c50r12, c50r14, c50r16, EV0, EV1, EV2, EV3, EV4, EV5, EV6, EV7, EV8, VALS, plug, ite_same, decide_true, decide_false, eq_self, ↓reduceIte, reduceCtorEq, Nat.reduceAdd, Nat.reduceEqDiff, Nat.reduceLT, Nat.reduceLeDiff, Nat.reduceMul, Nat.reduceSub, Nat.reduceDiv, Int.reduceToNat, Int.reduceAdd, Int.reduceSub, Int.reduceMul, Int.reduceNeg, Int.reduceEq, Int.reduceLT, Int.reduceLE]
        · rw [if_neg (by first | assumption | (simp only [Bool.and_eq_true, Bool.or_eq_true, decide_eq_true_eq]; assumption)), if_neg (by first | assumption | (simp only [Bool.and_eq_true, Bool.or_eq_true, decide_eq_true_eq]; assumption))] at e
          refine ⟨(x, acc, a :: xs, ys), ?gm, ?g1, hx, e, ?g4, ?g5, ?g6, hi1, j2, ?g7⟩
          case g1 =>
            simp only [Am.keep, List.map_cons, List.map_nil, GA, Nat.reduceEqDiff, ↓reduceIte, List.length_append, List.length_cons, List.length_nil, Nat.zero_add, Nat.add_sub_cancel]
            try rfl
          case gm => simp only [List.length_cons]; omega
          case g4 => (try simp only [List.length_append, List.length_cons, List.length_nil]); omega
          case g5 => show (a :: xs).length ≤ 60; (try simp only [List.length_cons]); omega
          case g6 => show ys.length ≤ 60; (try simp only [List.length_cons]); omega
          case g7 => simp (disch := omega) only [hm, c50r0, c50r1, c50r2, c50r3, c50r4, c50r5, c50r6, c50r7, c50r8, c50r9, c50r10, c50r11, c50r12, c50r14, c50r16, EV0, EV1, EV2, EV3, EV4, EV5, EV6, EV7, EV8, VALS, plug, ite_same, decide_true, decide_false, eq_self, ↓reduceIte, reduceCtorEq, Nat.reduceAdd, Nat.reduceEqDiff, Nat.reduceLT, Nat.reduceLeDiff, Nat.reduceMul, Nat.reduceSub, Nat.reduceDiv, Int.reduceToNat, Int.reduceAdd, Int.reduceSub, Int.reduceMul, Int.reduceNeg, Int.reduceEq, Int.reduceLT, Int.reduceLE]
  · obtain rfl : k = 9 := by omega
    have c1 : ¬ ((10 : Nat) : Int) ≤ 9 := by omega
    repeat' first
      | with_reducible refine k_seq ?_
      | with_reducible refine k_skip ?_
      | with_reducible refine k_blkS ?_
      | with_reducible refine k_blkR ?_
      | with_reducible refine k_blkC ?_
      | with_reducible refine k_blkH ?_
      | with_reducible refine k_blkB ?_
      | with_reducible refine k_blkK ?_
      | with_reducible refine k_blkE ?_
      | with_reducible refine k_reg ?_
      | with_reducible refine k_head (by with_unfolding_all rfl) ?_
      | with_reducible refine k_headS ?_
      | (with_reducible refine SepK.mk ?_ ?_; (refine sepQ_P ?_; simp [sepQ, sepG, AOp.late, AOp.free, AOp.xs, AOp.isAl, tokNe, AV.tok, stS_get, strip, AX.val, c50r0, c50r1, c50r2, c50r3, c50r4, c50r5, c50r6, c50r7, c50r8, c50r9, c50r10, c50r11, c50r12, c50r14, c50r16, GA]; try omega))
      | with_reducible refine r_done ?_
      | with_reducible refine hr_done ?_
      | with_reducible refine s_go (by simp (disch := omega) only [c1, c50r0, c50r1, c50r2, c50r3, c50r4, c50r5, c50r6, c50r7, c50r8, c50r9, c50r10, c50r11, c50r12, c50r14, c50r16, EV0, EV1, EV2, EV3, EV4, EV5, EV6, EV7, EV8, VALS, plug, ite_same, decide_true, decide_false, eq_self, ↓reduceIte, reduceCtorEq, Nat.reduceAdd, Nat.reduceEqDiff, Nat.reduceLT, Nat.reduceLeDiff, Nat.reduceMul, Nat.reduceSub, Nat.reduceDiv, Int.reduceToNat, Int.reduceAdd, Int.reduceSub, Int.reduceMul, Int.reduceNeg, Int.reduceEq, Int.reduceLT, Int.reduceLE]; with_reducible rfl) ?_
      | with_reducible refine h_go (by with_unfolding_all rfl) (by simp (disch := omega) only [c1, c50r0, c50r1, c50r2, c50r3, c50r4, c50r5, c50r6, c50r7, c50r8, c50r9, c50r10, c50r11, c50r12, c50r14, c50r16, EV0, EV1, EV2, EV3, EV4, EV5, EV6, EV7, EV8, VALS, plug, ite_same, decide_true, decide_false, eq_self, ↓reduceIte, reduceCtorEq, Nat.reduceAdd, Nat.reduceEqDiff, Nat.reduceLT, Nat.reduceLeDiff, Nat.reduceMul, Nat.reduceSub, Nat.reduceDiv, Int.reduceToNat, Int.reduceAdd, Int.reduceSub, Int.reduceMul, Int.reduceNeg, Int.reduceEq, Int.reduceLT, Int.reduceLE]; with_reducible rfl) ?_
      | ((with_reducible refine chk_r ?_); refine r_callF (by simp only [CA, Nat.reduceEqDiff, ↓reduceIte]; rfl) (by exact rfl) (by simp only [CA, Nat.reduceEqDiff, ↓reduceIte]; rfl) rfl ?_)
      | ((with_reducible refine chk_h ?_); refine hr_callF (by simp only [CA, Nat.reduceEqDiff, ↓reduceIte]; rfl) (by exact rfl) (by simp only [CA, Nat.reduceEqDiff, ↓reduceIte]; rfl) rfl ?_)
      | ((with_reducible refine chk_h ?_); refine hr_app (by simp (disch := omega) only [c1, c50r0, c50r1, c50r2, c50r3, c50r4, c50r5, c50r6, c50r7, c50r8, c50r9, c50r10, c50r11, c50r12, c50r14, c50r16, EV0, EV1, EV2, EV3, EV4, EV5, EV6, EV7, EV8, VALS, plug, ite_same, decide_true, decide_false, eq_self, ↓reduceIte, reduceCtorEq, Nat.reduceAdd, Nat.reduceEqDiff, Nat.reduceLT, Nat.reduceLeDiff, Nat.reduceMul, Nat.reduceSub, Nat.reduceDiv, Int.reduceToNat, Int.reduceAdd, Int.reduceSub, Int.reduceMul, Int.reduceNeg, Int.reduceEq, Int.reduceLT, Int.reduceLE]; with_reducible rfl) rfl ?_)
      | (with_reducible refine k_condP (by simp only [GA, Nat.reduceEqDiff, ↓reduceIte]; rfl) (by first | (simp only [BO]; rfl) | rfl) (fun ht => ?_) (fun ht => ?_) <;> try (first | exact False.elim ht | exact absurd rfl ht | exact absurd trivial ht | exact Bool.noConfusion ht))
      | (with_reducible refine k_ret ?_; repeat with_reducible (first | refine ret_thru ?_ | refine ret_blk ?_ | refine fin ?_))
      | (with_reducible refine k_exit ?_; repeat with_reducible (first | refine thru ?_ | refine out_blk ?_ | refine pass (by decide) ?_))
      | (refine post1 ?_; simp only [GA, Nat.reduceEqDiff, ↓reduceIte])
      | (refine post2 ?_; simp only [GA, Nat.reduceEqDiff, ↓reduceIte])
      | (refine post3 ?_; simp only [GA, Nat.reduceEqDiff, ↓reduceIte])
      | (refine postc (by simp only [GA, Nat.reduceEqDiff, ↓reduceIte]; rfl) (by simp (disch := omega) only [c1, c50r0, c50r1, c50r2, c50r3, c50r4, c50r5, c50r6, c50r7, c50r8, c50r9, c50r10, c50r11, c50r12, c50r14, c50r16, EV0, EV1, EV2, EV3, EV4, EV5, EV6, EV7, EV8, VALS, plug, ite_same, decide_true, decide_false, eq_self, ↓reduceIte, reduceCtorEq, Nat.reduceAdd, Nat.reduceEqDiff, Nat.reduceLT, Nat.reduceLeDiff, Nat.reduceMul, Nat.reduceSub, Nat.reduceDiv, Int.reduceToNat, Int.reduceAdd, Int.reduceSub, Int.reduceMul, Int.reduceNeg, Int.reduceEq, Int.reduceLT, Int.reduceLE]; rfl) ?_)
      | refine post0 ?_
    exact ends_sl (k := 2) hm (by rw [flP_len])
end Go.Proofs.Ytbhkbaapfioijaa
