/- What the proof of the law needs: the abstract machine, the functions as it reads them, their contracts, part 5. -/
import Derived.Test.YtbhkbaapfioijaaZd
set_option linter.unusedVariables false
set_option linter.unusedSimpArgs false
namespace Go.Proofs.Ytbhkbaapfioijaa
open Go Go.Am Go.Proofs Go.Sort
/-! ### Pairs -/
def eP (p : Nat × Nat) : List AV := [.i .i64 (p.1 : Int), .i .i64 (p.2 : Int)]
theorem eP_len (p : Nat × Nat) : (eP p).length = 2 := rfl
theorem eP_plain (p : Nat × Nat) : AV.plains (eP p) = true := rfl
theorem flP_plain (l : List (Nat × Nat)) : AV.plains (fl eP l) = true := fl_plain eP_plain l
theorem flP_len (l : List (Nat × Nat)) : (fl eP l).length = l.length * 2 := fl_len eP_len l
theorem flP_snoc (l : List (Nat × Nat)) (x y : Nat) : fl eP l ++ [.i .i64 (x : Int), .i .i64 (y : Int)] = fl eP (l ++ [(x, y)]) := fl_snoc l (x, y)
theorem rdP {l : List (Nat × Nat)} {j : Nat} (h : j < l.length) : rd (fl eP l) (j * 2) (some 2) = some (.ag (eP (l.getD j (0, 0)))) := fl_rd eP_len (0, 0) h
abbrev vP (l : List (Nat × Nat)) : AV := .vs l.length (fl eP l)
/-- two sides, the shortest ahead -/
def mt (l : List T) (tol : Int) : List Nat → List Nat → List (Nat × Nat)
  | a :: xs, b :: ys => if apart (l.getD a T0) (l.getD b T0) ≤ tol then (a, b) :: mt l tol xs ys else if (l.getD a T0).len < (l.getD b T0).len then mt l tol xs (b :: ys) else mt l tol (a :: xs) ys
  | _, _ => []
termination_by xs ys => xs.length + ys.length
theorem mt_nil1 (l : List T) (tol : Int) (ys : List Nat) : mt l tol [] ys = [] := by unfold mt; rfl
theorem mt_nil2 (l : List T) (tol : Int) (xs : List Nat) : mt l tol xs [] = [] := by cases xs <;> (unfold mt; rfl)
theorem mt_cons (l : List T) (tol : Int) (a b : Nat) (xs ys : List Nat) : mt l tol (a :: xs) (b :: ys) = if apart (l.getD a T0) (l.getD b T0) ≤ tol then (a, b) :: mt l tol xs ys else if (l.getD a T0).len < (l.getD b T0).len then mt l tol xs (b :: ys) else mt l tol (a :: xs) ys := by
  rw [mt]
theorem mt_len (l : List T) (tol : Int) : ∀ (n : Nat) (xs ys : List Nat), xs.length + ys.length ≤ n → (mt l tol xs ys).length ≤ xs.length
  | n, [], ys, h => by rw [mt_nil1]; simp
  | n, a :: xs, [], h => by rw [mt_nil2]; simp
  | 0, a :: xs, b :: ys, h => by simp at h
  | n + 1, a :: xs, b :: ys, h => by
    rw [mt_cons]
    simp only [List.length_cons] at h ⊢
    split
    · have := mt_len l tol n xs ys (by omega); simp only [List.length_cons]; omega
    · split
      · have := mt_len l tol n xs (b :: ys) (by simp only [List.length_cons]; omega); omega
      · have := mt_len l tol n (a :: xs) ys (by simp only [List.length_cons]; omega); simpa using this
/-- the pairs of the first k colours -/
def mc (l : List T) (tol : Int) (k : Nat) : List (Nat × Nat) := (List.range k).flatMap fun c => mt l tol (sideL l 1 (c + 1 : Nat)) (sideL l 2 (c + 1 : Nat))
def matchL (l : List T) (tol : Int) : List (Nat × Nat) := mc l tol 9
theorem mc_succ (l : List T) (tol : Int) (k : Nat) : mc l tol (k + 1) = mc l tol k ++ mt l tol (sideL l 1 (k + 1 : Nat)) (sideL l 2 (k + 1 : Nat)) := by
  unfold mc; rw [List.range_succ, List.flatMap_append]; simp
theorem sideL_lt {l : List T} {s c : Int} {i : Nat} (h : i ∈ sideL l s c) : i < l.length := by
  unfold sideL at h
  rw [List.mem_mergeSort] at h
  simp only [sfil, List.mem_filter, List.mem_range] at h
  exact h.1
theorem sideL_len (l : List T) (s c : Int) : (sideL l s c).length ≤ l.length := by
  unfold sideL; rw [List.length_mergeSort]; exact sfil_len _ _ _ _
theorem pc50 (l : List T) (hv : VL l) (tol : Int) : PC Try.prog 50 [vT l, .i .i64 tol] (vP (matchL l tol)) := by
  refine pc_fn fn50 (by simp only [AV.plains, AV.plain, il_plain, bl_plain, Bool.and_true, Bool.true_and, Bool.and_self, flT_plain, flP_plain]) (by simp only [AV.plains, AV.plain, il_plain, bl_plain, Bool.and_true, Bool.true_and, Bool.and_self, flT_plain, flP_plain]) (Nat.le_of_ble_eq_true rfl) ?_
  rw [initSt2]
  have hl := hv.len
  have q74 := pc74 l hv
  repeat' first
    | with_reducible refine k_seq ?_
    | with_reducible refine k_skip ?_
    | with_reducible refine k_blkS ?_
    | with_reducible refine k_blkR ?_
    | with_reducible refine k_blkC ?_
    | with_reducible refine k_blkH ?_
    | with_reducible refine k_blkB ?_
    | with_reducible refine k_blkK ?_
    | with_reducible refine k_blkE ?_
    | with_reducible refine k_reg ?_
    | with_reducible refine k_head (by with_unfolding_all rfl) ?_
    | with_reducible refine k_headS ?_
    | (with_reducible refine SepK.mk ?_ ?_; (refine sepQ_P ?_; simp [sepQ, sepG, AOp.late, AOp.free, AOp.xs, AOp.isAl, tokNe, AV.tok, stS_get, strip, AX.val, c50r0, c50r1, c50r2, c50r3, c50r4, c50r5, c50r6, c50r7, c50r8, c50r9, c50r10, c50r11, c50r12, c50r14, c50r16, GA]; try omega))
    | with_reducible refine r_done ?_
    | with_reducible refine hr_done ?_
    | with_reducible refine s_go (by simp (disch := omega) only [c50r0, c50r1, c50r2, c50r3, c50r4, c50r5, c50r6, c50r7, c50r8, c50r9, c50r10, c50r11, c50r12, c50r14, c50r16, EV0, EV1, EV2, EV3, EV4, EV5, EV6, EV7, EV8, VALS, plug, ite_same, decide_true, decide_false, eq_self, ↓reduceIte, reduceCtorEq, Nat.reduceAdd, Nat.reduceEqDiff, Nat.reduceLT, Nat.reduceLeDiff, Nat.reduceMul, Nat.reduceSub, Nat.reduceDiv, Int.reduceToNat, Int.reduceAdd, Int.reduceSub, Int.reduceMul, Int.reduceNeg, Int.reduceEq, Int.reduceLT, Int.reduceLE]; with_reducible rfl) ?_
    | with_reducible refine h_go (by with_unfolding_all rfl) (by simp (disch := omega) only [c50r0, c50r1, c50r2, c50r3, c50r4, c50r5, c50r6, c50r7, c50r8, c50r9, c50r10, c50r11, c50r12, c50r14, c50r16, EV0, EV1, EV2, EV3, EV4, EV5, EV6, EV7, EV8, VALS, plug, ite_same, decide_true, decide_false, eq_self, ↓reduceIte, reduceCtorEq, Nat.reduceAdd, Nat.reduceEqDiff, Nat.reduceLT, Nat.reduceLeDiff, Nat.reduceMul, Nat.reduceSub, Nat.reduceDiv, Int.reduceToNat, Int.reduceAdd, Int.reduceSub, Int.reduceMul, Int.reduceNeg, Int.reduceEq, Int.reduceLT, Int.reduceLE]; with_reducible rfl) ?_
    | ((with_reducible refine chk_r ?_); refine r_callF (by simp only [CA, Nat.reduceEqDiff, ↓reduceIte]; rfl) (by exact rfl) (by simp only [CA, Nat.reduceEqDiff, ↓reduceIte]; rfl) rfl ?_)
    | ((with_reducible refine chk_h ?_); refine hr_callF (by simp only [CA, Nat.reduceEqDiff, ↓reduceIte]; rfl) (by exact rfl) (by simp only [CA, Nat.reduceEqDiff, ↓reduceIte]; rfl) rfl ?_)
    | ((with_reducible refine chk_h ?_); refine hr_app (by simp (disch := omega) only [c50r0, c50r1, c50r2, c50r3, c50r4, c50r5, c50r6, c50r7, c50r8, c50r9, c50r10, c50r11, c50r12, c50r14, c50r16, EV0, EV1, EV2, EV3, EV4, EV5, EV6, EV7, EV8, VALS, plug, ite_same, decide_true, decide_false, eq_self, ↓reduceIte, reduceCtorEq, Nat.reduceAdd, Nat.reduceEqDiff, Nat.reduceLT, Nat.reduceLeDiff, Nat.reduceMul, Nat.reduceSub, Nat.reduceDiv, Int.reduceToNat, Int.reduceAdd, Int.reduceSub, Int.reduceMul, Int.reduceNeg, Int.reduceEq, Int.reduceLT, Int.reduceLE]; with_reducible rfl) rfl ?_)
    | (with_reducible refine k_condP (by simp only [GA, Nat.reduceEqDiff, ↓reduceIte]; rfl) (by first | (simp only [BO]; rfl) | rfl) (fun ht => ?_) (fun ht => ?_) <;> try (first | exact False.elim ht | exact absurd rfl ht | exact absurd trivial ht | exact Bool.noConfusion ht))
    | (with_reducible refine k_ret ?_; repeat with_reducible (first | refine ret_thru ?_ | refine ret_blk ?_ | refine fin ?_))
    | (with_reducible refine k_exit ?_; repeat with_reducible (first | refine thru ?_ | refine out_blk ?_ | refine pass (by decide) ?_))
    | (refine post1 ?_; simp only [GA, Nat.reduceEqDiff, ↓reduceIte])
    | (refine post2 ?_; simp only [GA, Nat.reduceEqDiff, ↓reduceIte])
    | (refine post3 ?_; simp only [GA, Nat.reduceEqDiff, ↓reduceIte])
    | (refine postc (by simp only [GA, Nat.reduceEqDiff, ↓reduceIte]; rfl) (by simp (disch := omega) only [c50r0, c50r1, c50r2, c50r3, c50r4, c50r5, c50r6, c50r7, c50r8, c50r9, c50r10, c50r11, c50r12, c50r14, c50r16, EV0, EV1, EV2, EV3, EV4, EV5, EV6, EV7, EV8, VALS, plug, ite_same, decide_true, decide_false, eq_self, ↓reduceIte, reduceCtorEq, Nat.reduceAdd, Nat.reduceEqDiff, Nat.reduceLT, Nat.reduceLeDiff, Nat.reduceMul, Nat.reduceSub, Nat.reduceDiv, Int.reduceToNat, Int.reduceAdd, Int.reduceSub, Int.reduceMul, Int.reduceNeg, Int.reduceEq, Int.reduceLT, Int.reduceLE]; rfl) ?_)
    | refine post0 ?_
  refine w_virt 2 5 rfl ?_
  refine k_blk (k_loopS (X := Nat) [0, 1, 5, 6] 9 (fun k x => [(0, vT l), (1, .i .i64 tol), (5, .sl x 0 (mc l tol k).length 2), (6, .i .i64 ((k + 1 : Nat) : Int))])
    (fun k x h => x ≠ 0 ∧ (mc l tol k).length ≤ k * 60 ∧ h.m x = some (.cells true (fl eP (mc l tol k)))) _ (by simp only [Am.keep, List.map_cons, List.map_nil, GA, Nat.reduceEqDiff, ↓reduceIte]; try rfl) ⟨?_, by simp [mc], by simp (disch := omega) only [c50r0, c50r1, c50r2, c50r3, c50r4, c50r5, c50r6, c50r7, c50r8, c50r9, c50r10, c50r11, c50r12, c50r14, c50r16, EV0, EV1, EV2, EV3, EV4, EV5, EV6, EV7, EV8, VALS, plug, ite_same, decide_true, decide_false, eq_self, ↓reduceIte, reduceCtorEq, Nat.reduceAdd, Nat.reduceEqDiff, Nat.reduceLT, Nat.reduceLeDiff, Nat.reduceMul, Nat.reduceSub, Nat.reduceDiv, Int.reduceToNat, Int.reduceAdd, Int.reduceSub, Int.reduceMul, Int.reduceNeg, Int.reduceEq, Int.reduceLT, Int.reduceLE] <;> rfl⟩ ?_)
  · decide
  rintro k x h hk ⟨hx, hlen, hm⟩ ok pos
  have hx' := ok.m hm
  by_cases hlt : k < 9
  · have c1 : ((k + 1 : Nat) : Int) ≤ 9 := by omega
    repeat' first
      | with_reducible refine k_seq ?_
      | with_reducible refine k_skip ?_
      | with_reducible refine k_blkS ?_
      | with_reducible refine k_blkR ?_
      | with_reducible refine k_blkC ?_
      | with_reducible refine k_blkH ?_
      | with_reducible refine k_blkB ?_
      | with_reducible refine k_blkK ?_
      | with_reducible refine k_blkE ?_
      | with_reducible refine k_reg ?_
      | with_reducible refine k_head (by with_unfolding_all rfl) ?_
      | with_reducible refine k_headS ?_
      | (with_reducible refine SepK.mk ?_ ?_; (refine sepQ_P ?_; simp [sepQ, sepG, AOp.late, AOp.free, AOp.xs, AOp.isAl, tokNe, AV.tok, stS_get, strip, AX.val, c50r0, c50r1, c50r2, c50r3, c50r4, c50r5, c50r6, c50r7, c50r8, c50r9, c50r10, c50r11, c50r12, c50r14, c50r16, GA]; try omega))
      | with_reducible refine r_done ?_
      | with_reducible refine hr_done ?_
      | with_reducible refine s_go (by simp (disch := omega) only [c1, c50r0, c50r1, c50r2, c50r3, c50r4, c50r5, c50r6, c50r7, c50r8, c50r9, c50r10, c50r11, c50r12, c50r14, c50r16, EV0, EV1, EV2, EV3, EV4, EV5, EV6, EV7, EV8, VALS, plug, ite_same, decide_true, decide_false, eq_self, ↓reduceIte, reduceCtorEq, Nat.reduceAdd, Nat.reduceEqDiff, Nat.reduceLT, Nat.reduceLeDiff, Nat.reduceMul, Nat.reduceSub, Nat.reduceDiv, Int.reduceToNat, Int.reduceAdd, Int.reduceSub, Int.reduceMul, Int.reduceNeg, Int.reduceEq, Int.reduceLT, Int.reduceLE]; with_reducible rfl) ?_
      | with_reducible refine h_go (by with_unfolding_all rfl) (by simp (disch := omega) only [c1, c50r0, c50r1, c50r2, c50r3, c50r4, c50r5, c50r6, c50r7, c50r8, c50r9, c50r10, c50r11, c50r12, c50r14, c50r16, EV0, EV1, EV2, EV3, EV4, EV5, EV6, EV7, EV8, VALS, plug, ite_same, decide_true, decide_false, eq_self, ↓reduceIte, reduceCtorEq, Nat.reduceAdd, Nat.reduceEqDiff, Nat.reduceLT, Nat.reduceLeDiff, Nat.reduceMul, Nat.reduceSub, Nat.reduceDiv, Int.reduceToNat, Int.reduceAdd, Int.reduceSub, Int.reduceMul, Int.reduceNeg, Int.reduceEq, Int.reduceLT, Int.reduceLE]; with_reducible rfl) ?_
      | ((with_reducible refine chk_r ?_); refine r_callF (by simp only [CA, Nat.reduceEqDiff, ↓reduceIte]; rfl) (by exact rfl) (by simp only [CA, Nat.reduceEqDiff, ↓reduceIte]; rfl) rfl ?_)
      | ((with_reducible refine chk_h ?_); refine hr_callF (by simp only [CA, Nat.reduceEqDiff, ↓reduceIte]; rfl) (by exact rfl) (by simp only [CA, Nat.reduceEqDiff, ↓reduceIte]; rfl) rfl ?_)
      | ((with_reducible refine chk_r ?_); refine r_callP (by simp only [CA, Nat.reduceEqDiff, ↓reduceIte]; rfl) (by simp only [CA, Nat.reduceEqDiff, ↓reduceIte]; rfl) (by first | exact q74 _ _ _) rfl ?_)
      | ((with_reducible refine chk_h ?_); refine hr_callP (by simp only [CA, Nat.reduceEqDiff, ↓reduceIte]; rfl) (by simp only [CA, Nat.reduceEqDiff, ↓reduceIte]; rfl) (by first | exact q74 _ _ _) rfl ?_)
      | ((with_reducible refine chk_h ?_); refine hr_callP1 (by simp only [CA, Nat.reduceEqDiff, ↓reduceIte]; rfl) (by simp only [CA, Nat.reduceEqDiff, ↓reduceIte]; rfl) (by simp (disch := omega) only [CA, Nat.reduceEqDiff, ↓reduceIte, firstTok_nil, firstTok_sl, firstTok_sl0, firstTok_i, firstTok_b, firstTok_ag, firstTok_p, firstTok_s]; rfl) (by first | exact q74 _ _ _) rfl ?_)
      | ((with_reducible refine chk_h ?_); refine hr_app (by simp (disch := omega) only [c1, c50r0, c50r1, c50r2, c50r3, c50r4, c50r5, c50r6, c50r7, c50r8, c50r9, c50r10, c50r11, c50r12, c50r14, c50r16, EV0, EV1, EV2, EV3, EV4, EV5, EV6, EV7, EV8, VALS, plug, ite_same, decide_true, decide_false, eq_self, ↓reduceIte, reduceCtorEq, Nat.reduceAdd, Nat.reduceEqDiff, Nat.reduceLT, Nat.reduceLeDiff, Nat.reduceMul, Nat.reduceSub, Nat.reduceDiv, Int.reduceToNat, Int.reduceAdd, Int.reduceSub, Int.reduceMul, Int.reduceNeg, Int.reduceEq, Int.reduceLT, Int.reduceLE]; with_reducible rfl) rfl ?_)
      | (with_reducible refine k_condP (by simp only [GA, Nat.reduceEqDiff, ↓reduceIte]; rfl) (by first | (simp only [BO]; rfl) | rfl) (fun ht => ?_) (fun ht => ?_) <;> try (first | exact False.elim ht | exact absurd rfl ht | exact absurd trivial ht | exact Bool.noConfusion ht))
      | (with_reducible refine k_ret ?_; repeat with_reducible (first | refine ret_thru ?_ | refine ret_blk ?_ | refine fin ?_))
      | (with_reducible refine k_exit ?_; repeat with_reducible (first | refine thru ?_ | refine out_blk ?_ | refine pass (by decide) ?_))
      | (refine post1 ?_; simp only [GA, Nat.reduceEqDiff, ↓reduceIte])
      | (refine post2 ?_; simp only [GA, Nat.reduceEqDiff, ↓reduceIte])
      | (refine post3 ?_; simp only [GA, Nat.reduceEqDiff, ↓reduceIte])
      | (refine postc (by simp only [GA, Nat.reduceEqDiff, ↓reduceIte]; rfl) (by simp (disch := omega) only [c1, c50r0, c50r1, c50r2, c50r3, c50r4, c50r5, c50r6, c50r7, c50r8, c50r9, c50r10, c50r11, c50r12, c50r14, c50r16, EV0, EV1, EV2, EV3, EV4, EV5, EV6, EV7, EV8, VALS, plug, ite_same, decide_true, decide_false, eq_self, ↓reduceIte, reduceCtorEq, Nat.reduceAdd, Nat.reduceEqDiff, Nat.reduceLT, Nat.reduceLeDiff, Nat.reduceMul, Nat.reduceSub, Nat.reduceDiv, Int.reduceToNat, Int.reduceAdd, Int.reduceSub, Int.reduceMul, Int.reduceNeg, Int.reduceEq, Int.reduceLT, Int.reduceLE]; rfl) ?_)
      | refine post0 ?_
    have hs1 := sideL_len l 1 (k + 1 : Nat)
    have hs2 := sideL_len l 2 (k + 1 : Nat)
    have fs := mc_succ l tol k
    refine k_blk (k_loopW (X := Nat × List (Nat × Nat) × List Nat × List Nat) [0, 1, 5, 6, 7, 8] (fun x => [(0, vT l), (1, .i .i64 tol), (5, .sl x.1 0 x.2.1.length 2), (6, .i .i64 ((k + 1 : Nat) : Int)), (7, .vs x.2.2.1.length (nl x.2.2.1)), (8, .vs x.2.2.2.length (nl x.2.2.2))])
      (fun x => x.2.2.1.length + x.2.2.2.length)
      (fun x h => x.1 ≠ 0 ∧ x.2.1 ++ mt l tol x.2.2.1 x.2.2.2 = mc l tol (k + 1) ∧ x.2.1.length + x.2.2.1.length ≤ k * 60 + 60 ∧ x.2.2.1.length ≤ 60 ∧ x.2.2.2.length ≤ 60 ∧ (∀ i ∈ x.2.2.1, i < l.length) ∧ (∀ i ∈ x.2.2.2, i < l.length) ∧ h.m x.1 = some (.cells true (fl eP x.2.1))) (x, mc l tol k, sideL l 1 (k + 1 : Nat), sideL l 2 (k + 1 : Nat)) (by simp only [Am.keep, List.map_cons, List.map_nil, GA, Nat.reduceEqDiff, ↓reduceIte]; try rfl) ⟨hx, fs.symm, by simp only []; omega, by simp only []; omega, by simp only []; omega, fun i => sideL_lt, fun i => sideL_lt, by simp (disch := omega) only [hm, c50r0, c50r1, c50r2, c50r3, c50r4, c50r5, c50r6, c50r7, c50r8, c50r9, c50r10, c50r11, c50r12, c50r14, c50r16, EV0, EV1, EV2, EV3, EV4, EV5, EV6, EV7, EV8, VALS, plug, ite_same, decide_true, decide_false, eq_self, ↓reduceIte, reduceCtorEq, Nat.reduceAdd, Nat.reduceEqDiff, Nat.reduceLT, Nat.reduceLeDiff, Nat.reduceMul, Nat.reduceSub, Nat.reduceDiv, Int.reduceToNat, Int.reduceAdd, Int.reduceSub, Int.reduceMul, Int.reduceNeg, Int.reduceEq, Int.reduceLT, Int.reduceLE]⟩ ?_)
    rintro ⟨x, acc, xs, ys⟩ h ⟨hx, e, hlen, hn1, hn2, hi1, hi2, hm⟩ ok pos
    simp only [] at hx e hlen hn1 hn2 hi1 hi2 hm
    have hx' := ok.m hm
    cases xs with
    | nil =>
      rw [mt_nil1, List.append_nil] at e
      simp only [List.length_nil] at hlen
      repeat' first
        | with_reducible refine k_seq ?_
        | with_reducible refine k_skip ?_
        | with_reducible refine k_blkS ?_
        | with_reducible refine k_blkR ?_
        | with_reducible refine k_blkC ?_
        | with_reducible refine k_blkH ?_
        | with_reducible refine k_blkB ?_
        | with_reducible refine k_blkK ?_
        | with_reducible refine k_blkE ?_
        | with_reducible refine k_reg ?_
        | with_reducible refine k_head (by with_unfolding_all rfl) ?_
        | with_reducible refine k_headS ?_
        | (with_reducible refine SepK.mk ?_ ?_; (refine sepQ_P ?_; simp [sepQ, sepG, AOp.late, AOp.free, AOp.xs, AOp.isAl, tokNe, AV.tok, stS_get, strip, AX.val, c50r0, c50r1, c50r2, c50r3, c50r4, c50r5, c50r6, c50r7, c50r8, c50r9, c50r10, c50r11, c50r12, c50r14, c50r16, GA]; try omega))
        | with_reducible refine r_done ?_
        | with_reducible refine hr_done ?_
        | with_reducible refine s_go (by simp (disch := omega) only [List.length_nil, c50r0, c50r1, c50r2, c50r3, c50r4, c50r5, c50r6, c50r7, c50r8, c50r9, c50r10, c50r11, c50r12, c50r14, c50r16, EV0, EV1, EV2, EV3, EV4, EV5, EV6, EV7, EV8, VALS, plug, ite_same, decide_true, decide_false, eq_self, ↓reduceIte, reduceCtorEq, Nat.reduceAdd, Nat.reduceEqDiff, Nat.reduceLT, Nat.reduceLeDiff, Nat.reduceMul, Nat.reduceSub, Nat.reduceDiv, Int.reduceToNat, Int.reduceAdd, Int.reduceSub, Int.reduceMul, Int.reduceNeg, Int.reduceEq, Int.reduceLT, Int.reduceLE]; with_reducible rfl) ?_
        | with_reducible refine h_go (by with_unfolding_all rfl) (by simp (disch := omega) only [List.length_nil, c50r0, c50r1, c50r2, c50r3, c50r4, c50r5, c50r6, c50r7, c50r8, c50r9, c50r10, c50r11, c50r12, c50r14, c50r16, EV0, EV1, EV2, EV3, EV4, EV5, EV6, EV7, EV8, VALS, plug, ite_same, decide_true, decide_false, eq_self, ↓reduceIte, reduceCtorEq, Nat.reduceAdd, Nat.reduceEqDiff, Nat.reduceLT, Nat.reduceLeDiff, Nat.reduceMul, Nat.reduceSub, Nat.reduceDiv, Int.reduceToNat, Int.reduceAdd, Int.reduceSub, Int.reduceMul, Int.reduceNeg, Int.reduceEq, Int.reduceLT, Int.reduceLE]; with_reducible rfl) ?_
        | ((with_reducible refine chk_r ?_); refine r_callF (by simp only [CA, Nat.reduceEqDiff, ↓reduceIte]; rfl) (by exact rfl) (by simp only [CA, Nat.reduceEqDiff, ↓reduceIte]; rfl) rfl ?_)
        | ((with_reducible refine chk_h ?_); refine hr_callF (by simp only [CA, Nat.reduceEqDiff, ↓reduceIte]; rfl) (by exact rfl) (by simp only [CA, Nat.reduceEqDiff, ↓reduceIte]; rfl) rfl ?_)
        | ((with_reducible refine chk_h ?_); refine hr_app (by simp (disch := omega) only [List.length_nil, c50r0, c50r1, c50r2, c50r3, c50r4, c50r5, c50r6, c50r7, c50r8, c50r9, c50r10, c50r11, c50r12, c50r14, c50r16, EV0, EV1, EV2, EV3, EV4, EV5, EV6, EV7, EV8, VALS, plug, ite_same, decide_true, decide_false, eq_self, ↓reduceIte, reduceCtorEq, Nat.reduceAdd, Nat.reduceEqDiff, Nat.reduceLT, Nat.reduceLeDiff, Nat.reduceMul, Nat.reduceSub, Nat.reduceDiv, Int.reduceToNat, Int.reduceAdd, Int.reduceSub, Int.reduceMul, Int.reduceNeg, Int.reduceEq, Int.reduceLT, Int.reduceLE]; with_reducible rfl) rfl ?_)
        | (with_reducible refine k_condP (by simp only [GA, Nat.reduceEqDiff, ↓reduceIte]; rfl) (by first | (simp only [BO]; rfl) | rfl) (fun ht => ?_) (fun ht => ?_) <;> try (first | exact False.elim ht | exact absurd rfl ht | exact absurd trivial ht | exact Bool.noConfusion ht))
        | (with_reducible refine k_ret ?_; repeat with_reducible (first | refine ret_thru ?_ | refine ret_blk ?_ | refine fin ?_))
        | (with_reducible refine k_exit ?_; repeat with_reducible (first | refine thru ?_ | refine out_blk ?_ | refine pass (by decide) ?_))
        | (refine post1 ?_; simp only [GA, Nat.reduceEqDiff, ↓reduceIte])
        | (refine post2 ?_; simp only [GA, Nat.reduceEqDiff, ↓reduceIte])
        | (refine post3 ?_; simp only [GA, Nat.reduceEqDiff, ↓reduceIte])
        | (refine postc (by simp only [GA, Nat.reduceEqDiff, ↓reduceIte]; rfl) (by simp (disch := omega) only [List.length_nil, c50r0, c50r1, c50r2, c50r3, c50r4, c50r5, c50r6, c50r7, c50r8, c50r9, c50r10, c50r11, c50r12, c50r14, c50r16, EV0, EV1, EV2, EV3, EV4, EV5, EV6, EV7, EV8, VALS, plug, ite_same, decide_true, decide_false, eq_self, ↓reduceIte, reduceCtorEq, Nat.reduceAdd, Nat.reduceEqDiff, Nat.reduceLT, Nat.reduceLeDiff, Nat.reduceMul, Nat.reduceSub, Nat.reduceDiv, Int.reduceToNat, Int.reduceAdd, Int.reduceSub, Int.reduceMul, Int.reduceNeg, Int.reduceEq, Int.reduceLT, Int.reduceLE]; rfl) ?_)
        | refine post0 ?_
      all_goals try (exfalso; omega)
      rw [← e]
      exact ⟨hlt, x, (by simp only [Am.keep, List.map_cons, List.map_nil, GA, Nat.reduceEqDiff, ↓reduceIte]; try rfl), hx, by omega, by simp (disch := omega) only [hm, c50r0, c50r1, c50r2, c50r3, c50r4, c50r5, c50r6, c50r7, c50r8, c50r9, c50r10, c50r11, c50r12, c50r14, c50r16, EV0, EV1, EV2, EV3, EV4, EV5, EV6, EV7, EV8, VALS, plug, ite_same, decide_true, decide_false, eq_self, ↓reduceIte, reduceCtorEq, Nat.reduceAdd, Nat.reduceEqDiff, Nat.reduceLT, Nat.reduceLeDiff, Nat.reduceMul, Nat.reduceSub, Nat.reduceDiv, Int.reduceToNat, Int.reduceAdd, Int.reduceSub, Int.reduceMul, Int.reduceNeg, Int.reduceEq, Int.reduceLT, Int.reduceLE]⟩
    | cons a xs =>
      cases ys with
      | nil =>
        rw [mt_nil2, List.append_nil] at e
        simp only [List.length_cons] at hlen
        repeat' first
          | with_reducible refine k_seq ?_
          | with_reducible refine k_skip ?_
          | with_reducible refine k_blkS ?_
          | with_reducible refine k_blkR ?_
          | with_reducible refine k_blkC ?_
          | with_reducible refine k_blkH ?_
          | with_reducible refine k_blkB ?_
          | with_reducible refine k_blkK ?_
          | with_reducible refine k_blkE ?_
          | with_reducible refine k_reg ?_
          | with_reducible refine k_head (by with_unfolding_all rfl) ?_
          | with_reducible refine k_headS ?_
          | (with_reducible refine SepK.mk ?_ ?_; (refine sepQ_P ?_; simp [sepQ, sepG, AOp.late, AOp.free, AOp.xs, AOp.isAl, tokNe, AV.tok, stS_get, strip, AX.val, c50r0, c50r1, c50r2, c50r3, c50r4, c50r5, c50r6, c50r7, c50r8, c50r9, c50r10, c50r11, c50r12, c50r14, c50r16, GA]; try omega))
          | with_reducible refine r_done ?_
          | with_reducible refine hr_done ?_
          | with_reducible refine s_go (by simp (disch := omega) only [c50r0, c50r1, c50r2, c50r3, c50r4, c50r5, c50r6, c50r7, c50r8, c50r9, c50r10, c50r11, c50r12, c50r14, c50r16, EV0, EV1, EV2, EV3, EV4, EV5, EV6, EV7, EV8, VALS, plug, ite_same, decide_true, decide_false, eq_self, ↓reduceIte, reduceCtorEq, Nat.reduceAdd, Nat.reduceEqDiff, Nat.reduceLT, Nat.reduceLeDiff, Nat.reduceMul, Nat.reduceSub, Nat.reduceDiv, Int.reduceToNat, Int.reduceAdd, Int.reduceSub, Int.reduceMul, Int.reduceNeg, Int.reduceEq, Int.reduceLT, Int.reduceLE]; with_reducible rfl) ?_
          | with_reducible refine h_go (by with_unfolding_all rfl) (by simp (disch := omega) only [c50r0, c50r1, c50r2, c50r3, c50r4, c50r5, c50r6, c50r7, c50r8, c50r9, c50r10, c50r11, c50r12, c50r14, c50r16, EV0, EV1, EV2, EV3, EV4, EV5, EV6, EV7, EV8, VALS, plug, ite_same, decide_true, decide_false, eq_self, ↓reduceIte, reduceCtorEq, Nat.reduceAdd, Nat.reduceEqDiff, Nat.reduceLT, Nat.reduceLeDiff, Nat.reduceMul, Nat.reduceSub, Nat.reduceDiv, Int.reduceToNat, Int.reduceAdd, Int.reduceSub, Int.reduceMul, Int.reduceNeg, Int.reduceEq, Int.reduceLT, Int.reduceLE]; with_reducible rfl) ?_
          | ((with_reducible refine chk_r ?_); refine r_callF (by simp only [CA, Nat.reduceEqDiff, ↓reduceIte]; rfl) (by exact rfl) (by simp only [CA, Nat.reduceEqDiff, ↓reduceIte]; rfl) rfl ?_)
          | ((with_reducible refine chk_h ?_); refine hr_callF (by simp only [CA, Nat.reduceEqDiff, ↓reduceIte]; rfl) (by exact rfl) (by simp only [CA, Nat.reduceEqDiff, ↓reduceIte]; rfl) rfl ?_)
          | ((with_reducible refine chk_h ?_); refine hr_app (by simp (disch := omega) only [c50r0, c50r1, c50r2, c50r3, c50r4, c50r5, c50r6, c50r7, c50r8, c50r9, c50r10, c50r11, c50r12, c50r14, c50r16, EV0, EV1, EV2, EV3, EV4, EV5, EV6, EV7, EV8, VALS, plug, ite_same, decide_true, decide_false, eq_self, ↓reduceIte, reduceCtorEq, Nat.reduceAdd, Nat.reduceEqDiff, Nat.reduceLT, Nat.reduceLeDiff, Nat.reduceMul, Nat.reduceSub, Nat.reduceDiv, Int.reduceToNat, Int.reduceAdd, Int.reduceSub, Int.reduceMul, Int.reduceNeg, Int.reduceEq, Int.reduceLT, Int.reduceLE]; with_reducible rfl) rfl ?_)
          | (with_reducible refine k_condP (by simp only [GA, Nat.reduceEqDiff, ↓reduceIte]; rfl) (by first | (simp only [BO]; rfl) | rfl) (fun ht => ?_) (fun ht => ?_) <;> try (first | exact False.elim ht | exact absurd rfl ht | exact absurd trivial ht | exact Bool.noConfusion ht))
          | (with_reducible refine k_ret ?_; repeat with_reducible (first | refine ret_thru ?_ | refine ret_blk ?_ | refine fin ?_))
          | (with_reducible refine k_exit ?_; repeat with_reducible (first | refine thru ?_ | refine out_blk ?_ | refine pass (by decide) ?_))
          | (refine post1 ?_; simp only [GA, Nat.reduceEqDiff, ↓reduceIte])
          | (refine post2 ?_; simp only [GA, Nat.reduceEqDiff, ↓reduceIte])
          | (refine post3 ?_; simp only [GA, Nat.reduceEqDiff, ↓reduceIte])
          | (refine postc (by simp only [GA, Nat.reduceEqDiff, ↓reduceIte]; rfl) (by simp (disch := omega) only [c50r0, c50r1, c50r2, c50r3, c50r4, c50r5, c50r6, c50r7, c50r8, c50r9, c50r10, c50r11, c50r12, c50r14, c50r16, EV0, EV1, EV2, EV3, EV4, EV5, EV6, EV7, EV8, VALS, plug, ite_same, decide_true, decide_false, eq_self, ↓reduceIte, reduceCtorEq, Nat.reduceAdd, Nat.reduceEqDiff, Nat.reduceLT, Nat.reduceLeDiff, Nat.reduceMul, Nat.reduceSub, Nat.reduceDiv, Int.reduceToNat, Int.reduceAdd, Int.reduceSub, Int.reduceMul, Int.reduceNeg, Int.reduceEq, Int.reduceLT, Int.reduceLE]; rfl) ?_)
          | refine post0 ?_
        all_goals try (exfalso; omega)
        rw [← e]
        exact ⟨hlt, x, (by simp only [Am.keep, List.map_cons, List.map_nil, GA, Nat.reduceEqDiff, ↓reduceIte]; try rfl), hx, by omega, by simp (disch := omega) only [hm, c50r0, c50r1, c50r2, c50r3, c50r4, c50r5, c50r6, c50r7, c50r8, c50r9, c50r10, c50r11, c50r12, c50r14, c50r16, EV0, EV1, EV2, EV3, EV4, EV5, EV6, EV7, EV8, VALS, plug, ite_same, decide_true, decide_false, eq_self, ↓reduceIte, reduceCtorEq, Nat.reduceAdd, Nat.reduceEqDiff, Nat.reduceLT, Nat.reduceLeDiff, Nat.reduceMul, Nat.reduceSub, Nat.reduceDiv, Int.reduceToNat, Int.reduceAdd, Int.reduceSub, Int.reduceMul, Int.reduceNeg, Int.reduceEq, Int.reduceLT, Int.reduceLE]⟩
      | cons b ys =>
        rw [mt_cons] at e
        have ha := hi1 a (by simp)
        have hb := hi2 b (by simp)
        have rA := rdT ha
        have rB := rdT hb
        simp only [eT] at rA rB
        simp only [List.length_cons] at hlen hn1 hn2
        have d1 : (nl (a :: xs)).drop 1 = nl xs := rfl
        have d2 : (nl (b :: ys)).drop 1 = nl ys := rfl
        have g1 : (nl (a :: xs))[0]? = some (.i .i64 (a : Int)) := rfl
        have g2 : (nl (b :: ys))[0]? = some (.i .i64 (b : Int)) := rfl
        have t1 : (nl xs).take xs.length = nl xs := List.take_of_length_le (by rw [nl_len]; omega)
        have t2 : (nl ys).take ys.length = nl ys := List.take_of_length_le (by rw [nl_len]; omega)
        have j1 : ∀ i ∈ xs, i < l.length := fun i hi => hi1 i (List.mem_cons_of_mem _ hi)
        have j2 : ∀ i ∈ ys, i < l.length := fun i hi => hi2 i (List.mem_cons_of_mem _ hi)
        have q60 := pc60 (l.getD a T0) (l.getD b T0) (hv.2.1 a ha) (hv.2.1 b hb)
        simp only [eT] at q60
        repeat' first
          | with_reducible refine k_seq ?_
          | with_reducible refine k_skip ?_
          | with_reducible refine k_blkS ?_
          | with_reducible refine k_blkR ?_
          | with_reducible refine k_blkC ?_
          | with_reducible refine k_blkH ?_
          | with_reducible refine k_blkB ?_
          | with_reducible refine k_blkK ?_
          | with_reducible refine k_blkE ?_
          | with_reducible refine k_reg ?_
          | with_reducible refine k_head (by with_unfolding_all rfl) ?_
          | with_reducible refine k_headS ?_
          | (with_reducible refine SepK.mk ?_ ?_; (refine sepQ_P ?_; simp [sepQ, sepG, AOp.late, AOp.free, AOp.xs, AOp.isAl, tokNe, AV.tok, stS_get, strip, AX.val, c50r0, c50r1, c50r2, c50r3, c50r4, c50r5, c50r6, c50r7, c50r8, c50r9, c50r10, c50r11, c50r12, c50r14, c50r16, GA]; try omega))
          | with_reducible refine r_done ?_
          | with_reducible refine hr_done ?_
          | with_reducible refine s_go (by simp (disch := omega) only [rA, rB, d1, d2, g1, g2, t1, t2, List.length_cons, hx, hm, flP_len, flP_snoc, c50r0, c50r1, c50r2, c50r3, c50r4, c50r5, c50r6, c50r7, c50r8, c50r9, c50r10, c50r11, c50r12, c50r14, c50r16, EV0, EV1, EV2, EV3, EV4, EV5, EV6, EV7, EV8, VALS, plug, ite_same, decide_true, decide_false, eq_self, ↓reduceIte, reduceCtorEq, Nat.reduceAdd, Nat.reduceEqDiff, Nat.reduceLT, Nat.reduceLeDiff, Nat.reduceMul, Nat.reduceSub, Nat.reduceDiv, Int.reduceToNat, Int.reduceAdd, Int.reduceSub, Int.reduceMul, Int.reduceNeg, Int.reduceEq, Int.reduceLT, Int.reduceLE]; with_reducible rfl) ?_
          | with_reducible refine h_go (by with_unfolding_all rfl) (by simp (disch := omega) only [rA, rB, d1, d2, g1, g2, t1, t2, List.length_cons, hx, hm, flP_len, flP_snoc, c50r0, c50r1, c50r2, c50r3, c50r4, c50r5, c50r6, c50r7, c50r8, c50r9, c50r10, c50r11, c50r12, c50r14, c50r16, EV0, EV1, EV2, EV3, EV4, EV5, EV6, EV7, EV8, VALS, plug, ite_same, decide_true, decide_false, eq_self, ↓reduceIte, reduceCtorEq, Nat.reduceAdd, Nat.reduceEqDiff, Nat.reduceLT, Nat.reduceLeDiff, Nat.reduceMul, Nat.reduceSub, Nat.reduceDiv, Int.reduceToNat, Int.reduceAdd, Int.reduceSub, Int.reduceMul, Int.reduceNeg, Int.reduceEq, Int.reduceLT, Int.reduceLE]; with_reducible rfl) ?_
          | ((with_reducible refine chk_r ?_); refine r_callF (by simp only [CA, Nat.reduceEqDiff, ↓reduceIte]; rfl) (by exact rfl) (by simp only [CA, Nat.reduceEqDiff, ↓reduceIte]; rfl) rfl ?_)
          | ((with_reducible refine chk_h ?_); refine hr_callF (by simp only [CA, Nat.reduceEqDiff, ↓reduceIte]; rfl) (by exact rfl) (by simp only [CA, Nat.reduceEqDiff, ↓reduceIte]; rfl) rfl ?_)
          | ((with_reducible refine chk_r ?_); refine r_callP (by simp only [CA, Nat.reduceEqDiff, ↓reduceIte]; rfl) (by simp only [CA, Nat.reduceEqDiff, ↓reduceIte]; rfl) (by first | exact q60 _) rfl ?_)
          | ((with_reducible refine chk_h ?_); refine hr_callP (by simp only [CA, Nat.reduceEqDiff, ↓reduceIte]; rfl) (by simp only [CA, Nat.reduceEqDiff, ↓reduceIte]; rfl) (by first | exact q60 _) rfl ?_)
          | ((with_reducible refine chk_h ?_); refine hr_callP1 (by simp only [CA, Nat.reduceEqDiff, ↓reduceIte]; rfl) (by simp only [CA, Nat.reduceEqDiff, ↓reduceIte]; rfl) (by simp (disch := omega) only [CA, Nat.reduceEqDiff, ↓reduceIte, firstTok_nil, firstTok_sl, firstTok_sl0, firstTok_i, firstTok_b, firstTok_ag, firstTok_p, firstTok_s]; rfl) (by first | exact q60 _) rfl ?_)
          | ((with_reducible refine chk_h ?_); refine hr_app (by simp (disch := omega) only [rA, rB, d1, d2, g1, g2, t1, t2, List.length_cons, hx, hm, flP_len, flP_snoc, c50r0, c50r1, c50r2, c50r3, c50r4, c50r5, c50r6, c50r7, c50r8, c50r9, c50r10, c50r11, c50r12, c50r14, c50r16, EV0, EV1, EV2, EV3, EV4, EV5, EV6, EV7, EV8, VALS, plug, ite_same, decide_true, decide_false, eq_self, ↓reduceIte, reduceCtorEq, Nat.reduceAdd, Nat.reduceEqDiff, Nat.reduceLT, Nat.reduceLeDiff, Nat.reduceMul, Nat.reduceSub, Nat.reduceDiv, Int.reduceToNat, Int.reduceAdd, Int.reduceSub, Int.reduceMul, Int.reduceNeg, Int.reduceEq, Int.reduceLT, Int.reduceLE]; with_reducible rfl) rfl ?_)
          | (with_reducible refine k_condP (by simp only [GA, Nat.reduceEqDiff, ↓reduceIte]; rfl) (by first | (simp only [BO]; rfl) | rfl) (fun ht => ?_) (fun ht => ?_) <;> try (first | exact False.elim ht | exact absurd rfl ht | exact absurd trivial ht | exact Bool.noConfusion ht))
          | (with_reducible refine k_ret ?_; repeat with_reducible (first | refine ret_thru ?_ | refine ret_blk ?_ | refine fin ?_))
          | (with_reducible refine k_exit ?_; repeat with_reducible (first | refine thru ?_ | refine out_blk ?_ | refine pass (by decide) ?_))
          | (refine post1 ?_; simp only [GA, Nat.reduceEqDiff, ↓reduceIte])
          | (refine post2 ?_; simp only [GA, Nat.reduceEqDiff, ↓reduceIte])
          | (refine post3 ?_; simp only [GA, Nat.reduceEqDiff, ↓reduceIte])
          | (refine postc (by simp only [GA, Nat.reduceEqDiff, ↓reduceIte]; rfl) (by simp (disch := omega) only [rA, rB, d1, d2, g1, g2, t1, t2, List.length_cons, hx, hm, flP_len, flP_snoc, c50r0, c50r1, c50r2, c50r3, c50r4, c50r5, c50r6, c50r7, c50r8, c50r9, c50r10, c50r11, c50r12, c50r14, c50r16, EV0, EV1, EV2, EV3, EV4, EV5, EV6, EV7, EV8, VALS, plug, ite_same, decide_true, decide_false, eq_self, ↓reduceIte, reduceCtorEq, Nat.reduceAdd, Nat.reduceEqDiff, Nat.reduceLT, Nat.reduceLeDiff, Nat.reduceMul, Nat.reduceSub, Nat.reduceDiv, Int.reduceToNat, Int.reduceAdd, Int.reduceSub, Int.reduceMul, Int.reduceNeg, Int.reduceEq, Int.reduceLT, Int.reduceLE]; rfl) ?_)
          | refine post0 ?_
        all_goals try (exfalso; omega)
        · rw [if_pos (by first | assumption | (simp only [Bool.and_eq_true, Bool.or_eq_true, decide_eq_true_eq]; assumption))] at e
          refine ⟨(?tk, acc ++ [(a, b)], xs, ys), ?gm, ?g1, ?g2, ?g3, ?g4, ?g5, ?g6, j1, j2, ?g7⟩
          case g1 =>
            simp only [Am.keep, List.map_cons, List.map_nil, GA, Nat.reduceEqDiff, ↓reduceIte, List.length_append, List.length_cons, List.length_nil, Nat.zero_add, Nat.add_sub_cancel]
            rfl
          case gm => simp only [List.length_cons]; omega
          case g2 => simp only []; omega
          case g3 => simp only []; rw [List.append_assoc]; exact e
          case g4 => (try simp only [List.length_append, List.length_cons, List.length_nil]); omega
          case g5 => show xs.length ≤ 60; (try simp only [List.length_cons]); omega
          case g6 => show ys.length ≤ 60; (try simp only [List.length_cons]); omega
          case g7 => simp (disch := omega) only [flP_snoc, c50r0, c50r1, c50r2, c50r3, c50r4, c50r5, c50r6, c50r7, c50r8, c50r9, c50r10, c50r11, c50r12, c50r14, c50r16, EV0, EV1, EV2, EV3, EV4, EV5, EV6, EV7, EV8, VALS, plug, ite_same, decide_true, decide_false, eq_self, ↓reduceIte, reduceCtorEq, Nat.reduceAdd, Nat.reduceEqDiff, Nat.reduceLT, Nat.reduceLeDiff, Nat.reduceMul, Nat.reduceSub, Nat.reduceDiv, Int.reduceToNat, Int.reduceAdd, Int.reduceSub, Int.reduceMul, Int.reduceNeg, Int.reduceEq, Int.reduceLT, Int.reduceLE] <;> rfl
        · rw [if_neg (by first | assumption | (simp only [Bool.and_eq_true, Bool.or_eq_true, decide_eq_true_eq]; assumption)), if_pos (by first | assumption | (simp only [Bool.and_eq_true, Bool.or_eq_true, decide_eq_true_eq]; assumption))] at e
          refine ⟨(x, acc, xs, b :: ys), ?gm, ?g1, hx, e, ?g4, ?g5, ?g6, j1, hi2, ?g7⟩
          case g1 =>
            simp only [Am.keep, List.map_cons, List.map_nil, GA, Nat.reduceEqDiff, ↓reduceIte, List.length_append, List.length_cons, List.length_nil, Nat.zero_add, Nat.add_sub_cancel]
            try rfl
          case gm => simp only [List.length_cons]; omega
          case g4 => (try simp only [List.length_append, List.length_cons, List.length_nil]); omega
          case g5 => show xs.length ≤ 60; (try simp only [List.length_cons]); omega
          case g6 => show (b :: ys).length ≤ 60; (try simp only [List.length_cons]); omega
          case g7 => simp (disch := omega) only [hm, c50r0, c50r1, c50r2, c50r3, c50r4, c50r5, c50r6, c50r7, c50r8, c50r9, c50r10, c50r11, c50r12, c50r14, c50r16, EV0, EV1, EV2, EV3, EV4, EV5, EV6, EV7, EV8, VALS, plug, ite_same, decide_true, decide_false, eq_self, ↓reduceIte, reduceCtorEq, Nat.reduceAdd, Nat.reduceEqDiff, Nat.reduceLT, Nat.reduceLeDiff, Nat.reduceMul, Nat.reduceSub, Nat.reduceDiv, Int.reduceToNat, Int.reduceAdd, Int.reduceSub, Int.reduceMul, Int.reduceNeg, Int.reduceEq, Int.reduceLT, Int.reduceLE]
        · rw [if_neg (by first | assumption | (simp only [Bool.and_eq_true, Bool.or_eq_true, decide_eq_true_eq]; assumption)), if_neg (by first | assumption | (simp only [Bool.and_eq_true, Bool.or_eq_true, decide_eq_true_eq]; assumption))] at e
          refine ⟨(x, acc, a :: xs, ys), ?gm, ?g1, hx, e, ?g4, ?g5, ?g6, hi1, j2, ?g7⟩
          case g1 =>
            simp only [Am.keep, List.map_cons, List.map_nil, GA, Nat.reduceEqDiff, ↓reduceIte, List.length_append, List.length_cons, List.length_nil, Nat.zero_add, Nat.add_sub_cancel]
            try rfl
          case gm => simp only [List.length_cons]; omega
          case g4 => (try simp only [List.length_append, List.length_cons, List.length_nil]); omega
          case g5 => show (a :: xs).length ≤ 60; (try simp only [List.length_cons]); omega
          case g6 => show ys.length ≤ 60; (try simp only [List.length_cons]); omega
          case g7 => simp (disch := omega) only [hm, c50r0, c50r1, c50r2, c50r3, c50r4, c50r5, c50r6, c50r7, c50r8, c50r9, c50r10, c50r11, c50r12, c50r14, c50r16, EV0, EV1, EV2, EV3, EV4, EV5, EV6, EV7, EV8, VALS, plug, ite_same, decide_true, decide_false, eq_self, ↓reduceIte, reduceCtorEq, Nat.reduceAdd, Nat.reduceEqDiff, Nat.reduceLT, Nat.reduceLeDiff, Nat.reduceMul, Nat.reduceSub, Nat.reduceDiv, Int.reduceToNat, Int.reduceAdd, Int.reduceSub, Int.reduceMul, Int.reduceNeg, Int.reduceEq, Int.reduceLT, Int.reduceLE]
  · obtain rfl : k = 9 := by omega
    have c1 : ¬ ((10 : Nat) : Int) ≤ 9 := by omega
    repeat' first
      | with_reducible refine k_seq ?_
      | with_reducible refine k_skip ?_
      | with_reducible refine k_blkS ?_
      | with_reducible refine k_blkR ?_
      | with_reducible refine k_blkC ?_
      | with_reducible refine k_blkH ?_
      | with_reducible refine k_blkB ?_
      | with_reducible refine k_blkK ?_
      | with_reducible refine k_blkE ?_
      | with_reducible refine k_reg ?_
      | with_reducible refine k_head (by with_unfolding_all rfl) ?_
      | with_reducible refine k_headS ?_
      | (with_reducible refine SepK.mk ?_ ?_; (refine sepQ_P ?_; simp [sepQ, sepG, AOp.late, AOp.free, AOp.xs, AOp.isAl, tokNe, AV.tok, stS_get, strip, AX.val, c50r0, c50r1, c50r2, c50r3, c50r4, c50r5, c50r6, c50r7, c50r8, c50r9, c50r10, c50r11, c50r12, c50r14, c50r16, GA]; try omega))
      | with_reducible refine r_done ?_
      | with_reducible refine hr_done ?_
      | with_reducible refine s_go (by simp (disch := omega) only [c1, c50r0, c50r1, c50r2, c50r3, c50r4, c50r5, c50r6, c50r7, c50r8, c50r9, c50r10, c50r11, c50r12, c50r14, c50r16, EV0, EV1, EV2, EV3, EV4, EV5, EV6, EV7, EV8, VALS, plug, ite_same, decide_true, decide_false, eq_self, ↓reduceIte, reduceCtorEq, Nat.reduceAdd, Nat.reduceEqDiff, Nat.reduceLT, Nat.reduceLeDiff, Nat.reduceMul, Nat.reduceSub, Nat.reduceDiv, Int.reduceToNat, Int.reduceAdd, Int.reduceSub, Int.reduceMul, Int.reduceNeg, Int.reduceEq, Int.reduceLT, Int.reduceLE]; with_reducible rfl) ?_
      | with_reducible refine h_go (by with_unfolding_all rfl) (by simp (disch := omega) only [c1, c50r0, c50r1, c50r2, c50r3, c50r4, c50r5, c50r6, c50r7, c50r8, c50r9, c50r10, c50r11, c50r12, c50r14, c50r16, EV0, EV1, EV2, EV3, EV4, EV5, EV6, EV7, EV8, VALS, plug, ite_same, decide_true, decide_false, eq_self, ↓reduceIte, reduceCtorEq, Nat.reduceAdd, Nat.reduceEqDiff, Nat.reduceLT, Nat.reduceLeDiff, Nat.reduceMul, Nat.reduceSub, Nat.reduceDiv, Int.reduceToNat, Int.reduceAdd, Int.reduceSub, Int.reduceMul, Int.reduceNeg, Int.reduceEq, Int.reduceLT, Int.reduceLE]; with_reducible rfl) ?_
      | ((with_reducible refine chk_r ?_); refine r_callF (by simp only [CA, Nat.reduceEqDiff, ↓reduceIte]; rfl) (by exact rfl) (by simp only [CA, Nat.reduceEqDiff, ↓reduceIte]; rfl) rfl ?_)
      | ((with_reducible refine chk_h ?_); refine hr_callF (by simp only [CA, Nat.reduceEqDiff, ↓reduceIte]; rfl) (by exact rfl) (by simp only [CA, Nat.reduceEqDiff, ↓reduceIte]; rfl) rfl ?_)
      | ((with_reducible refine chk_h ?_); refine hr_app (by simp (disch := omega) only [c1, c50r0, c50r1, c50r2, c50r3, c50r4, c50r5, c50r6, c50r7, c50r8, c50r9, c50r10, c50r11, c50r12, c50r14, c50r16, EV0, EV1, EV2, EV3, EV4, EV5, EV6, EV7, EV8, VALS, plug, ite_same, decide_true, decide_false, eq_self, ↓reduceIte, reduceCtorEq, Nat.reduceAdd, Nat.reduceEqDiff, Nat.reduceLT, Nat.reduceLeDiff, Nat.reduceMul, Nat.reduceSub, Nat.reduceDiv, Int.reduceToNat, Int.reduceAdd, Int.reduceSub, Int.reduceMul, Int.reduceNeg, Int.reduceEq, Int.reduceLT, Int.reduceLE]; with_reducible rfl) rfl ?_)
      | (with_reducible refine k_condP (by simp only [GA, Nat.reduceEqDiff, ↓reduceIte]; rfl) (by first | (simp only [BO]; rfl) | rfl) (fun ht => ?_) (fun ht => ?_) <;> try (first | exact False.elim ht | exact absurd rfl ht | exact absurd trivial ht | exact Bool.noConfusion ht))
      | (with_reducible refine k_ret ?_; repeat with_reducible (first | refine ret_thru ?_ | refine ret_blk ?_ | refine fin ?_))
      | (with_reducible refine k_exit ?_; repeat with_reducible (first | refine thru ?_ | refine out_blk ?_ | refine pass (by decide) ?_))
      | (refine post1 ?_; simp only [GA, Nat.reduceEqDiff, ↓reduceIte])
      | (refine post2 ?_; simp only [GA, Nat.reduceEqDiff, ↓reduceIte])
      | (refine post3 ?_; simp only [GA, Nat.reduceEqDiff, ↓reduceIte])
      | (refine postc (by simp only [GA, Nat.reduceEqDiff, ↓reduceIte]; rfl) (by simp (disch := omega) only [c1, c50r0, c50r1, c50r2, c50r3, c50r4, c50r5, c50r6, c50r7, c50r8, c50r9, c50r10, c50r11, c50r12, c50r14, c50r16, EV0, EV1, EV2, EV3, EV4, EV5, EV6, EV7, EV8, VALS, plug, ite_same, decide_true, decide_false, eq_self, ↓reduceIte, reduceCtorEq, Nat.reduceAdd, Nat.reduceEqDiff, Nat.reduceLT, Nat.reduceLeDiff, Nat.reduceMul, Nat.reduceSub, Nat.reduceDiv, Int.reduceToNat, Int.reduceAdd, Int.reduceSub, Int.reduceMul, Int.reduceNeg, Int.reduceEq, Int.reduceLT, Int.reduceLE]; rfl) ?_)
      | refine post0 ?_
    exact ends_sl (k := 2) hm (by rw [flP_len])
end Go.Proofs.Ytbhkbaapfioijaa
set_option linter.unusedVariables false
set_option linter.unusedSimpArgs false
namespace Go.Proofs.Ytbhkbaapfioijaa
open Go Go.Am Go.Proofs Go.Sort
/-! ### Match, Most, and the example -/
noncomputable def matR (l : List T) (tol : Int) : List (Nat × Nat) := if asked l tol = 0 then matchL l tol else []
theorem pc17 (l : List T) (hl : l.length ≤ 9223372036854775807) (tol : Int) : PC Try.prog 17 [vT l, .i .i64 tol] (.tu [vP (matR l tol), .i .i64 (asked l tol)]) := by
  refine pc_fn fn17 (by simp only [AV.plains, AV.plain, il_plain, bl_plain, Bool.and_true, Bool.true_and, Bool.and_self, flT_plain, flP_plain]) (by simp only [AV.plains, AV.plain, il_plain, bl_plain, Bool.and_true, Bool.true_and, Bool.and_self, flT_plain, flP_plain]) (Nat.le_of_ble_eq_true rfl) ?_
  rw [initSt2]
  have q := pc49 l hl tol
  unfold matR
  by_cases h : asked l tol = 0
  · rw [if_pos h]
    have q2 := pc50 l (asked_ok h).1 tol
    rw [h] at q ⊢
    repeat' first
      | with_reducible refine k_seq ?_
      | with_reducible refine k_skip ?_
      | with_reducible refine k_blkS ?_
      | with_reducible refine k_blkR ?_
      | with_reducible refine k_blkC ?_
      | with_reducible refine k_blkH ?_
      | with_reducible refine k_blkB ?_
      | with_reducible refine k_blkK ?_
      | with_reducible refine k_blkE ?_
      | with_reducible refine k_reg ?_
      | with_reducible refine r_done ?_
      | with_reducible refine s_go (by simp (disch := omega) only [c17r0, c17r1, c17r2, c17r3, c17r4, EV0, EV1, EV2, EV3, EV4, EV5, EV6, EV7, EV8, VALS, plug, ite_same, decide_true, decide_false, eq_self, ↓reduceIte, reduceCtorEq, Nat.reduceAdd, Nat.reduceEqDiff, Nat.reduceLT, Nat.reduceLeDiff, Nat.reduceMul, Nat.reduceSub, Nat.reduceDiv, Int.reduceToNat, Int.reduceAdd, Int.reduceSub, Int.reduceMul, Int.reduceNeg, Int.reduceEq, Int.reduceLT, Int.reduceLE]; with_reducible rfl) ?_
      | ((with_reducible refine chk_r ?_); refine r_callF (by simp only [CA, Nat.reduceEqDiff, ↓reduceIte]; rfl) (by exact rfl) (by simp only [CA, Nat.reduceEqDiff, ↓reduceIte]; rfl) rfl ?_)
      | ((with_reducible refine chk_r ?_); refine r_callP (by simp only [CA, Nat.reduceEqDiff, ↓reduceIte]; rfl) (by simp only [CA, Nat.reduceEqDiff, ↓reduceIte]; rfl) (by first | exact q _ | exact q2 _) rfl ?_)
      | (with_reducible refine k_condP (by simp only [GA, Nat.reduceEqDiff, ↓reduceIte]; rfl) (by first | (simp only [BO]; rfl) | rfl) (fun ht => ?_) (fun ht => ?_) <;> try (first | exact False.elim ht | exact absurd rfl ht | exact absurd trivial ht | exact Bool.noConfusion ht))
      | (with_reducible refine k_ret ?_; repeat with_reducible (first | refine ret_thru ?_ | refine ret_blk ?_ | refine fin ?_))
      | (with_reducible refine k_exit ?_; repeat with_reducible (first | refine thru ?_ | refine out_blk ?_ | refine pass (by decide) ?_))
      | (refine post1 ?_; simp only [GA, Nat.reduceEqDiff, ↓reduceIte])
      | (refine post2 ?_; simp only [GA, Nat.reduceEqDiff, ↓reduceIte])
      | (refine post3 ?_; simp only [GA, Nat.reduceEqDiff, ↓reduceIte])
      | (refine postc (by simp only [GA, Nat.reduceEqDiff, ↓reduceIte]; rfl) (by simp (disch := omega) only [c17r0, c17r1, c17r2, c17r3, c17r4, EV0, EV1, EV2, EV3, EV4, EV5, EV6, EV7, EV8, VALS, plug, ite_same, decide_true, decide_false, eq_self, ↓reduceIte, reduceCtorEq, Nat.reduceAdd, Nat.reduceEqDiff, Nat.reduceLT, Nat.reduceLeDiff, Nat.reduceMul, Nat.reduceSub, Nat.reduceDiv, Int.reduceToNat, Int.reduceAdd, Int.reduceSub, Int.reduceMul, Int.reduceNeg, Int.reduceEq, Int.reduceLT, Int.reduceLE]; rfl) ?_)
      | refine post0 ?_
    all_goals first | exact ends_of | exact ends_eq rfl
  · rw [if_neg h]
    generalize asked l tol = A at q h ⊢
    repeat' first
      | with_reducible refine k_seq ?_
      | with_reducible refine k_skip ?_
      | with_reducible refine k_blkS ?_
      | with_reducible refine k_blkR ?_
      | with_reducible refine k_blkC ?_
      | with_reducible refine k_blkH ?_
      | with_reducible refine k_blkB ?_
      | with_reducible refine k_blkK ?_
      | with_reducible refine k_blkE ?_
      | with_reducible refine k_reg ?_
      | with_reducible refine r_done ?_
      | with_reducible refine s_go (by simp (disch := omega) only [h, c17r0, c17r1, c17r2, c17r3, c17r4, EV0, EV1, EV2, EV3, EV4, EV5, EV6, EV7, EV8, VALS, plug, ite_same, decide_true, decide_false, eq_self, ↓reduceIte, reduceCtorEq, Nat.reduceAdd, Nat.reduceEqDiff, Nat.reduceLT, Nat.reduceLeDiff, Nat.reduceMul, Nat.reduceSub, Nat.reduceDiv, Int.reduceToNat, Int.reduceAdd, Int.reduceSub, Int.reduceMul, Int.reduceNeg, Int.reduceEq, Int.reduceLT, Int.reduceLE]; with_reducible rfl) ?_
      | ((with_reducible refine chk_r ?_); refine r_callF (by simp only [CA, Nat.reduceEqDiff, ↓reduceIte]; rfl) (by exact rfl) (by simp only [CA, Nat.reduceEqDiff, ↓reduceIte]; rfl) rfl ?_)
      | ((with_reducible refine chk_r ?_); refine r_callP (by simp only [CA, Nat.reduceEqDiff, ↓reduceIte]; rfl) (by simp only [CA, Nat.reduceEqDiff, ↓reduceIte]; rfl) (by first | exact q _) rfl ?_)
      | (with_reducible refine k_condP (by simp only [GA, Nat.reduceEqDiff, ↓reduceIte]; rfl) (by first | (simp only [BO]; rfl) | rfl) (fun ht => ?_) (fun ht => ?_) <;> try (first | exact False.elim ht | exact absurd rfl ht | exact absurd trivial ht | exact Bool.noConfusion ht))
      | (with_reducible refine k_ret ?_; repeat with_reducible (first | refine ret_thru ?_ | refine ret_blk ?_ | refine fin ?_))
      | (with_reducible refine k_exit ?_; repeat with_reducible (first | refine thru ?_ | refine out_blk ?_ | refine pass (by decide) ?_))
      | (refine post1 ?_; simp only [GA, Nat.reduceEqDiff, ↓reduceIte])
      | (refine post2 ?_; simp only [GA, Nat.reduceEqDiff, ↓reduceIte])
      | (refine post3 ?_; simp only [GA, Nat.reduceEqDiff, ↓reduceIte])
      | (refine postc (by simp only [GA, Nat.reduceEqDiff, ↓reduceIte]; rfl) (by simp (disch := omega) only [h, c17r0, c17r1, c17r2, c17r3, c17r4, EV0, EV1, EV2, EV3, EV4, EV5, EV6, EV7, EV8, VALS, plug, ite_same, decide_true, decide_false, eq_self, ↓reduceIte, reduceCtorEq, Nat.reduceAdd, Nat.reduceEqDiff, Nat.reduceLT, Nat.reduceLeDiff, Nat.reduceMul, Nat.reduceSub, Nat.reduceDiv, Int.reduceToNat, Int.reduceAdd, Int.reduceSub, Int.reduceMul, Int.reduceNeg, Int.reduceEq, Int.reduceLT, Int.reduceLE]; rfl) ?_)
      | refine post0 ?_
    exact ends_nil2
theorem pc16 (l : List T) (hl : l.length ≤ 9223372036854775807) (tol : Int) : PC Try.prog 16 [vT l, .i .i64 tol] (.tu [.i .i64 ((matR l tol).length : Int), .i .i64 (asked l tol)]) := by
  refine pc_fn fn16 (by simp only [AV.plains, AV.plain, il_plain, bl_plain, Bool.and_true, Bool.true_and, Bool.and_self, flT_plain]) (by simp only [AV.plains, AV.plain, il_plain, bl_plain, Bool.and_true, Bool.true_and, Bool.and_self, flT_plain]) (Nat.le_of_ble_eq_true rfl) ?_
  rw [initSt2]
  have q := pc17 l hl tol
  generalize asked l tol = A at q ⊢
  generalize matR l tol = M at q ⊢
  repeat' first
    | with_reducible refine k_seq ?_
    | with_reducible refine k_skip ?_
    | with_reducible refine k_blkS ?_
    | with_reducible refine k_blkR ?_
    | with_reducible refine k_blkC ?_
    | with_reducible refine k_blkH ?_
    | with_reducible refine k_blkB ?_
    | with_reducible refine k_blkK ?_
    | with_reducible refine k_blkE ?_
    | with_reducible refine k_reg ?_
    | with_reducible refine r_done ?_
    | with_reducible refine s_go (by simp (disch := omega) only [c16r0, c16r1, c16r2, EV0, EV1, EV2, EV3, EV4, EV5, EV6, EV7, EV8, VALS, plug, ite_same, decide_true, decide_false, eq_self, ↓reduceIte, reduceCtorEq, Nat.reduceAdd, Nat.reduceEqDiff, Nat.reduceLT, Nat.reduceLeDiff, Nat.reduceMul, Nat.reduceSub, Nat.reduceDiv, Int.reduceToNat, Int.reduceAdd, Int.reduceSub, Int.reduceMul, Int.reduceNeg, Int.reduceEq, Int.reduceLT, Int.reduceLE]; with_reducible rfl) ?_
    | ((with_reducible refine chk_r ?_); refine r_callF (by simp only [CA, Nat.reduceEqDiff, ↓reduceIte]; rfl) (by exact rfl) (by simp only [CA, Nat.reduceEqDiff, ↓reduceIte]; rfl) rfl ?_)
    | ((with_reducible refine chk_r ?_); refine r_callP (by simp only [CA, Nat.reduceEqDiff, ↓reduceIte]; rfl) (by simp only [CA, Nat.reduceEqDiff, ↓reduceIte]; rfl) (by first | exact q _) rfl ?_)
    | (with_reducible refine k_condP (by simp only [GA, Nat.reduceEqDiff, ↓reduceIte]; rfl) (by first | (simp only [BO]; rfl) | rfl) (fun ht => ?_) (fun ht => ?_) <;> try (first | exact False.elim ht | exact absurd rfl ht | exact absurd trivial ht | exact Bool.noConfusion ht))
    | (with_reducible refine k_ret ?_; repeat with_reducible (first | refine ret_thru ?_ | refine ret_blk ?_ | refine fin ?_))
    | (with_reducible refine k_exit ?_; repeat with_reducible (first | refine thru ?_ | refine out_blk ?_ | refine pass (by decide) ?_))
    | (refine post1 ?_; simp only [GA, Nat.reduceEqDiff, ↓reduceIte])
    | (refine post2 ?_; simp only [GA, Nat.reduceEqDiff, ↓reduceIte])
    | (refine post3 ?_; simp only [GA, Nat.reduceEqDiff, ↓reduceIte])
    | (refine postc (by simp only [GA, Nat.reduceEqDiff, ↓reduceIte]; rfl) (by simp (disch := omega) only [c16r0, c16r1, c16r2, EV0, EV1, EV2, EV3, EV4, EV5, EV6, EV7, EV8, VALS, plug, ite_same, decide_true, decide_false, eq_self, ↓reduceIte, reduceCtorEq, Nat.reduceAdd, Nat.reduceEqDiff, Nat.reduceLT, Nat.reduceLeDiff, Nat.reduceMul, Nat.reduceSub, Nat.reduceDiv, Int.reduceToNat, Int.reduceAdd, Int.reduceSub, Int.reduceMul, Int.reduceNeg, Int.reduceEq, Int.reduceLT, Int.reduceLE]; rfl) ?_)
    | refine post0 ?_
  all_goals first | exact ends_of | exact ends_eq rfl
def Lx : List T := [⟨1, 1, 104, 1⟩, ⟨2, 2, 103, 1⟩]
theorem Lx_VL : VL Lx := ⟨by decide, by
  show vk Lx 2
  refine vk_succ.2 ⟨vk_succ.2 ⟨⟨fun i h => by omega, fun i j h1 h2 => by omega⟩, by decide, fun i h => by omega⟩, by decide, fun i h => ?_⟩
  obtain rfl : i = 0 := by omega
  decide⟩
theorem Lx_side {s c : Int} (h : ¬ c = 1) : sideL Lx s c = [] := by
  have : sfil Lx s c Lx.length = [] := by
    unfold sfil
    rw [List.filter_eq_nil_iff]
    intro i hi
    simp only [Lx, List.length_cons, List.length_nil, List.mem_range] at hi
    have : i = 0 ∨ i = 1 := by omega
    rcases this with rfl | rfl <;> simp [onside, Lx] <;> omega
  unfold sideL; rw [this, List.mergeSort_nil]
theorem Lx_1 : sideL Lx 1 1 = [0] := by
  have : sfil Lx 1 1 Lx.length = [0] := by decide
  unfold sideL; rw [this, List.mergeSort_singleton]
theorem Lx_2 : sideL Lx 2 1 = [1] := by
  have : sfil Lx 2 1 Lx.length = [1] := by decide
  unfold sideL; rw [this, List.mergeSort_singleton]
theorem Lx_mc (tol : Int) : ∀ k, mc Lx tol (k + 1) = mt Lx tol [0] [1]
  | 0 => by
    rw [mc_succ, show (((0 + 1 : Nat)) : Int) = 1 from rfl, Lx_1, Lx_2]
    simp [mc]
  | k + 1 => by
    rw [mc_succ, Lx_mc tol k, Lx_side (by omega), mt_nil1, List.append_nil]
theorem Lx_match2 : matchL Lx 2 = [(0, 1)] := by
  unfold matchL
  rw [Lx_mc, mt_cons, mt_nil1, if_pos (by decide)]
theorem Lx_match0 : matchL Lx 0 = [] := by
  unfold matchL
  rw [Lx_mc, mt_cons, if_neg (by decide), if_neg (by decide), mt_nil2]
section
variable {P : Program} {N : Nat} {Q : Exit → St → AH → Prop} {st : St} {h : AH}
/-- a row that lies in one slot alone, az a value from here on -/
theorem w_frz1 {c : AC} (d : Nat) {t n a : Nat} (k : Nat) {cs : List AV} (hm : h.m t = some (.cells true cs)) (hd : st.get d = .sl t 0 n a) (hl : n * k = cs.length) (w : W P N c Q [(d, .vs n cs)] (h.kill t)) : W P N c Q st h :=
  w_frz hm (fun x => by
    simp only [St.get]
    by_cases e : x = d
    · subst e
      rw [hd, if_pos rfl]
      have := @FrzV.sl t cs 0 n k a (by omega)
      rwa [List.drop_zero, hl, List.take_length] at this
    · rw [if_neg e]; exact .un) w
end
theorem pc24 : PC Try.prog 24 [] (.b true) := by
  refine pc_fn fn24 (by simp only [AV.plains, AV.plain, il_plain, bl_plain, Bool.and_true, Bool.true_and, Bool.and_self]) (by simp only [AV.plains, AV.plain, il_plain, bl_plain, Bool.and_true, Bool.true_and, Bool.and_self]) (Nat.le_of_ble_eq_true rfl) ?_
  rw [initSt0]
  have v := Lx_VL
  have a2 : asked Lx 2 = 0 := asked_yes v (by decide)
  have a0 : asked Lx 0 = 0 := asked_yes v (by decide)
  have q1 := pc17 Lx (by decide) 2
  have q2 := pc16 Lx (by decide) 0
  rw [a2] at q1
  rw [a0] at q2
  unfold matR at q1 q2
  rw [if_pos a2, Lx_match2] at q1
  rw [if_pos a0, Lx_match0] at q2
  refine k_seq (k_reg ?_)
  refine s_go (by simp (disch := omega) only [c24r0, c24r1, c24r2, c24r3, c24r4, EV0, EV1, EV2, EV3, EV4, EV5, EV6, EV7, EV8, VALS, plug, ite_same, decide_true, decide_false, eq_self, ↓reduceIte, reduceCtorEq, Nat.reduceAdd, Nat.reduceEqDiff, Nat.reduceLT, Nat.reduceLeDiff, Nat.reduceMul, Nat.reduceSub, Nat.reduceDiv, Int.reduceToNat, Int.reduceAdd, Int.reduceSub, Int.reduceMul, Int.reduceNeg, Int.reduceEq, Int.reduceLT, Int.reduceLE]; with_reducible rfl) ?_
  refine r_done ?_
  refine k_seq (k_reg ?_)
  refine s_go (by simp (disch := omega) only [c24r0, c24r1, c24r2, c24r3, c24r4, EV0, EV1, EV2, EV3, EV4, EV5, EV6, EV7, EV8, VALS, plug, ite_same, decide_true, decide_false, eq_self, ↓reduceIte, reduceCtorEq, Nat.reduceAdd, Nat.reduceEqDiff, Nat.reduceLT, Nat.reduceLeDiff, Nat.reduceMul, Nat.reduceSub, Nat.reduceDiv, Int.reduceToNat, Int.reduceAdd, Int.reduceSub, Int.reduceMul, Int.reduceNeg, Int.reduceEq, Int.reduceLT, Int.reduceLE]; with_reducible rfl) ?_
  refine r_done ?_
  refine w_frz1 (t := 4) (n := 2) (a := 4) 1 4 (by simp (disch := omega) only [c24r0, c24r1, c24r2, c24r3, c24r4, EV0, EV1, EV2, EV3, EV4, EV5, EV6, EV7, EV8, VALS, plug, ite_same, decide_true, decide_false, eq_self, ↓reduceIte, reduceCtorEq, Nat.reduceAdd, Nat.reduceEqDiff, Nat.reduceLT, Nat.reduceLeDiff, Nat.reduceMul, Nat.reduceSub, Nat.reduceDiv, Int.reduceToNat, Int.reduceAdd, Int.reduceSub, Int.reduceMul, Int.reduceNeg, Int.reduceEq, Int.reduceLT, Int.reduceLE] <;> rfl) rfl rfl ?_
  refine k_seq ?_
  simp only [Lx, eP, eT, vT, vP, fl, List.map_cons, List.map_nil, List.flatten_cons, List.flatten_nil, List.cons_append, List.nil_append, List.append_nil, List.length_cons, List.length_nil] at q1 q2 ⊢
  repeat' first
    | with_reducible refine k_seq ?_
    | with_reducible refine k_skip ?_
    | with_reducible refine k_blkS ?_
    | with_reducible refine k_blkR ?_
    | with_reducible refine k_blkC ?_
    | with_reducible refine k_blkH ?_
    | with_reducible refine k_blkB ?_
    | with_reducible refine k_blkK ?_
    | with_reducible refine k_blkE ?_
    | with_reducible refine k_reg ?_
    | with_reducible refine r_done ?_
    | with_reducible refine s_go (by simp (disch := omega) only [c24r0, c24r1, c24r2, c24r3, c24r4, EV0, EV1, EV2, EV3, EV4, EV5, EV6, EV7, EV8, VALS, plug, ite_same, decide_true, decide_false, eq_self, ↓reduceIte, reduceCtorEq, Nat.reduceAdd, Nat.reduceEqDiff, Nat.reduceLT, Nat.reduceLeDiff, Nat.reduceMul, Nat.reduceSub, Nat.reduceDiv, Int.reduceToNat, Int.reduceAdd, Int.reduceSub, Int.reduceMul, Int.reduceNeg, Int.reduceEq, Int.reduceLT, Int.reduceLE]; with_reducible rfl) ?_
    | ((with_reducible refine chk_r ?_); refine r_callF (by simp only [CA, Nat.reduceEqDiff, ↓reduceIte]; rfl) (by exact rfl) (by simp only [CA, Nat.reduceEqDiff, ↓reduceIte]; rfl) rfl ?_)
    | ((with_reducible refine chk_r ?_); refine r_callP (by simp only [CA, Nat.reduceEqDiff, ↓reduceIte]; rfl) (by simp only [CA, Nat.reduceEqDiff, ↓reduceIte]; rfl) (by first | exact q1 _ | exact q2 _) rfl ?_)
    | (with_reducible refine k_condP (by simp only [GA, Nat.reduceEqDiff, ↓reduceIte]; rfl) (by first | (simp only [BO]; rfl) | rfl) (fun ht => ?_) (fun ht => ?_) <;> try (first | exact False.elim ht | exact absurd rfl ht | exact absurd trivial ht | exact Bool.noConfusion ht))
    | (with_reducible refine k_ret ?_; repeat with_reducible (first | refine ret_thru ?_ | refine ret_blk ?_ | refine fin ?_))
    | (with_reducible refine k_exit ?_; repeat with_reducible (first | refine thru ?_ | refine out_blk ?_ | refine pass (by decide) ?_))
    | (refine post1 ?_; simp only [GA, Nat.reduceEqDiff, ↓reduceIte])
    | (refine post2 ?_; simp only [GA, Nat.reduceEqDiff, ↓reduceIte])
    | (refine post3 ?_; simp only [GA, Nat.reduceEqDiff, ↓reduceIte])
    | (refine postc (by simp only [GA, Nat.reduceEqDiff, ↓reduceIte]; rfl) (by simp (disch := omega) only [c24r0, c24r1, c24r2, c24r3, c24r4, EV0, EV1, EV2, EV3, EV4, EV5, EV6, EV7, EV8, VALS, plug, ite_same, decide_true, decide_false, eq_self, ↓reduceIte, reduceCtorEq, Nat.reduceAdd, Nat.reduceEqDiff, Nat.reduceLT, Nat.reduceLeDiff, Nat.reduceMul, Nat.reduceSub, Nat.reduceDiv, Int.reduceToNat, Int.reduceAdd, Int.reduceSub, Int.reduceMul, Int.reduceNeg, Int.reduceEq, Int.reduceLT, Int.reduceLE]; rfl) ?_)
    | refine post0 ?_
  exact ends_eq (b_eq (by decide))
end Go.Proofs.Ytbhkbaapfioijaa
set_option linter.unusedVariables false
set_option linter.unusedSimpArgs false
namespace Go.Proofs.Ytbhkbaapfioijaa
open Go Go.Am Go.Proofs Go.Sort
/-! ### TempleValid -/
theorem pc23 (l : List T) (hl : l.length ≤ 9223372036854775807) (n : Int) : PC Try.prog 23 [vT l, .i .i64 n] (.b (decide (n < l.length))) := by
  refine pc_fn fn23 (by simp only [AV.plains, AV.plain, il_plain, bl_plain, Bool.and_true, Bool.true_and, Bool.and_self, flT_plain]) (by simp only [AV.plains, AV.plain, il_plain, bl_plain, Bool.and_true, Bool.true_and, Bool.and_self, flT_plain]) (Nat.le_of_ble_eq_true rfl) ?_
  rw [initSt2]
  repeat' first
    | with_reducible refine k_seq ?_
    | with_reducible refine k_skip ?_
    | with_reducible refine k_blkS ?_
    | with_reducible refine k_blkR ?_
    | with_reducible refine k_blkC ?_
    | with_reducible refine k_blkH ?_
    | with_reducible refine k_blkB ?_
    | with_reducible refine k_blkK ?_
    | with_reducible refine k_blkE ?_
    | with_reducible refine k_reg ?_
    | with_reducible refine r_done ?_
    | with_reducible refine s_go (by simp (disch := omega) only [c23r0, c23r1, EV0, EV1, EV2, EV3, EV4, EV5, EV6, EV7, EV8, VALS, plug, ite_same, decide_true, decide_false, eq_self, ↓reduceIte, reduceCtorEq, Nat.reduceAdd, Nat.reduceEqDiff, Nat.reduceLT, Nat.reduceLeDiff, Nat.reduceMul, Nat.reduceSub, Nat.reduceDiv, Int.reduceToNat, Int.reduceAdd, Int.reduceSub, Int.reduceMul, Int.reduceNeg, Int.reduceEq, Int.reduceLT, Int.reduceLE]; with_reducible rfl) ?_
    | ((with_reducible refine chk_r ?_); refine r_callF (by simp only [CA, Nat.reduceEqDiff, ↓reduceIte]; rfl) (by exact rfl) (by simp only [CA, Nat.reduceEqDiff, ↓reduceIte]; rfl) rfl ?_)
    | (with_reducible refine k_condP (by simp only [GA, Nat.reduceEqDiff, ↓reduceIte]; rfl) (by first | (simp only [BO]; rfl) | rfl) (fun ht => ?_) (fun ht => ?_) <;> try (first | exact False.elim ht | exact absurd rfl ht | exact absurd trivial ht | exact Bool.noConfusion ht))
    | (with_reducible refine k_ret ?_; repeat with_reducible (first | refine ret_thru ?_ | refine ret_blk ?_ | refine fin ?_))
    | (with_reducible refine k_exit ?_; repeat with_reducible (first | refine thru ?_ | refine out_blk ?_ | refine pass (by decide) ?_))
    | (refine post1 ?_; simp only [GA, Nat.reduceEqDiff, ↓reduceIte])
    | (refine post2 ?_; simp only [GA, Nat.reduceEqDiff, ↓reduceIte])
    | (refine post3 ?_; simp only [GA, Nat.reduceEqDiff, ↓reduceIte])
    | (refine postc (by simp only [GA, Nat.reduceEqDiff, ↓reduceIte]; rfl) (by simp (disch := omega) only [c23r0, c23r1, EV0, EV1, EV2, EV3, EV4, EV5, EV6, EV7, EV8, VALS, plug, ite_same, decide_true, decide_false, eq_self, ↓reduceIte, reduceCtorEq, Nat.reduceAdd, Nat.reduceEqDiff, Nat.reduceLT, Nat.reduceLeDiff, Nat.reduceMul, Nat.reduceSub, Nat.reduceDiv, Int.reduceToNat, Int.reduceAdd, Int.reduceSub, Int.reduceMul, Int.reduceNeg, Int.reduceEq, Int.reduceLT, Int.reduceLE]; rfl) ?_)
    | refine post0 ?_
  all_goals first | exact ends_of | exact ends_eq rfl
theorem decT (r : List AV) (h : Shps [.i .i64, .i .i64, .i .i64, .i .i64] r) : ∃ x : T, r = eT x ∧ True := by
  obtain ⟨_, _, rfl, t0, h⟩ := shps_cons h
  obtain ⟨_, _, rfl, t1, h⟩ := shps_cons h
  obtain ⟨_, _, rfl, t2, h⟩ := shps_cons h
  obtain ⟨_, _, rfl, t3, h⟩ := shps_cons h
  obtain rfl := shps_nil h
  obtain ⟨a, rfl, _⟩ := shp_i64 t0
  obtain ⟨b, rfl, _⟩ := shp_i64 t1
  obtain ⟨c, rfl, _⟩ := shp_i64 t2
  obtain ⟨d, rfl, _⟩ := shp_i64 t3
  exact ⟨⟨a, b, c, d⟩, rfl, trivial⟩
end Go.Proofs.Ytbhkbaapfioijaa
set_option linter.unusedVariables false
set_option linter.unusedSimpArgs false
namespace Go.Proofs.Ytbhkbaapfioijaa
open Go Go.Am Go.Proofs Go.Sort
/-! ### The pairs of match are the most: plain -/
/-- pairs between two lists, with no index twice -/
def Mat (l : List T) (tol : Int) (xs ys : List Nat) (M : List (Nat × Nat)) : Prop :=
  (M.map Prod.fst).Nodup ∧ (M.map Prod.snd).Nodup ∧ ∀ p ∈ M, p.1 ∈ xs ∧ p.2 ∈ ys ∧ apart (l.getD p.1 T0) (l.getD p.2 T0) ≤ tol
theorem inj_fst {M : List (Nat × Nat)} (h : (M.map Prod.fst).Nodup) {p q : Nat × Nat} (hp : p ∈ M) (hq : q ∈ M) (e : p.1 = q.1) : p = q := by
  induction M with
  | nil => cases hp
  | cons x M ih =>
    simp only [List.map_cons, List.nodup_cons, List.mem_map, not_exists, not_and] at h
    rcases List.mem_cons.1 hp with e1 | hp'
    · rcases List.mem_cons.1 hq with e2 | hq'
      · rw [e1, e2]
      · rw [e1] at e; exact absurd e.symm (h.1 q hq')
    · rcases List.mem_cons.1 hq with e2 | hq'
      · rw [e2] at e; exact absurd e (h.1 p hp')
      · exact ih h.2 hp' hq'
theorem inj_snd {M : List (Nat × Nat)} (h : (M.map Prod.snd).Nodup) {p q : Nat × Nat} (hp : p ∈ M) (hq : q ∈ M) (e : p.2 = q.2) : p = q := by
  induction M with
  | nil => cases hp
  | cons x M ih =>
    simp only [List.map_cons, List.nodup_cons, List.mem_map, not_exists, not_and] at h
    rcases List.mem_cons.1 hp with e1 | hp'
    · rcases List.mem_cons.1 hq with e2 | hq'
      · rw [e1, e2]
      · rw [e1] at e; exact absurd e.symm (h.1 q hq')
    · rcases List.mem_cons.1 hq with e2 | hq'
      · rw [e2] at e; exact absurd e (h.1 p hp')
      · exact ih h.2 hp' hq'
theorem nodup_fst {M : List (Nat × Nat)} (h : (M.map Prod.fst).Nodup) : M.Nodup := by
  induction M with
  | nil => exact List.nodup_nil
  | cons x M ih =>
    simp only [List.map_cons, List.nodup_cons, List.mem_map, not_exists, not_and] at h
    exact List.nodup_cons.2 ⟨fun hx => h.1 x hx rfl, ih h.2⟩
/-- one pair less -/
theorem Mat.erase {l : List T} {tol : Int} {xs ys : List Nat} {M : List (Nat × Nat)} (h : Mat l tol xs ys M) {p : Nat × Nat} (hp : p ∈ M) :
    Mat l tol xs ys (M.erase p) ∧ (∀ q ∈ M.erase p, q.1 ≠ p.1 ∧ q.2 ≠ p.2) ∧ (M.erase p).length + 1 = M.length := by
  have nd := nodup_fst h.1
  have sub : (M.erase p).Sublist M := List.erase_sublist
  refine ⟨⟨h.1.sublist (sub.map _), h.2.1.sublist (sub.map _), fun q hq => h.2.2 q (sub.subset hq)⟩, fun q hq => ?_, ?_⟩
  · have hne : q ≠ p := fun e => by subst e; exact nd.not_mem_erase hq
    exact ⟨fun e => hne (inj_fst h.1 (sub.subset hq) hp e), fun e => hne (inj_snd h.2.1 (sub.subset hq) hp e)⟩
  · rw [List.length_erase_of_mem hp]
    have := List.length_pos_of_mem hp
    omega
theorem Mat.small {l : List T} {tol : Int} {a b : Nat} {xs ys : List Nat} {M : List (Nat × Nat)} (h : Mat l tol (a :: xs) (b :: ys) M) (ha : ∀ q ∈ M, q.1 ≠ a) (hb : ∀ q ∈ M, q.2 ≠ b) : Mat l tol xs ys M :=
  ⟨h.1, h.2.1, fun p hp => by
    obtain ⟨h1, h2, h3⟩ := h.2.2 p hp
    exact ⟨(List.mem_cons.1 h1).resolve_left (ha p hp), (List.mem_cons.1 h2).resolve_left (hb p hp), h3⟩⟩
abbrev Inc (l : List T) (xs : List Nat) : Prop := xs.Pairwise fun i j => (l.getD i T0).len ≤ (l.getD j T0).len
theorem mt_max (l : List T) (tol : Int) : ∀ (n : Nat) (xs ys : List Nat) (M : List (Nat × Nat)), xs.length + ys.length ≤ n → Inc l xs → Inc l ys → Mat l tol xs ys M → M.length ≤ (mt l tol xs ys).length
  | n, [], ys, M, h, _, _, hM => by
    cases M with
    | nil => simp
    | cons p M => have := (hM.2.2 p (by simp)).1; cases this
  | n, a :: xs, [], M, h, _, _, hM => by
    cases M with
    | nil => simp
    | cons p M => have := (hM.2.2 p (by simp)).2.1; cases this
  | 0, a :: xs, b :: ys, M, h, _, _, _ => by simp at h
  | n + 1, a :: xs, b :: ys, M, h, hx, hy, hM => by
    rw [mt_cons]
    simp only [List.length_cons] at h
    have hx' := List.pairwise_cons.1 hx
    have hy' := List.pairwise_cons.1 hy
    by_cases hc : apart (l.getD a T0) (l.getD b T0) ≤ tol
    · rw [if_pos hc, List.length_cons]
      have ih := fun M' hM' => mt_max l tol n xs ys M' (by omega) hx'.2 hy'.2 hM'
      by_cases e1 : ∃ y, (a, y) ∈ M
      · obtain ⟨y, hy1⟩ := e1
        obtain ⟨m1, m2, m3⟩ := hM.erase hy1
        by_cases e2 : ∃ x, (x, b) ∈ M.erase (a, y)
        · obtain ⟨x, hx1⟩ := e2
          obtain ⟨k1, k2, k3⟩ := m1.erase hx1
          have r1 := m2 _ hx1
          simp only at r1
          have ax := hM.2.2 _ hy1
          have bx := m1.2.2 _ hx1
          simp only at ax bx
          have xin : x ∈ xs := (List.mem_cons.1 bx.1).resolve_left r1.1
          have yin : y ∈ ys := (List.mem_cons.1 ax.2.1).resolve_left (fun e => r1.2 e.symm)
          have lx := hx'.1 x xin
          have ly := hy'.1 y yin
          have : Mat l tol xs ys ((x, y) :: (M.erase (a, y)).erase (x, b)) := by
            have sm := k1.small (fun q hq => (m2 q (List.mem_of_mem_erase hq)).1) (fun q hq => (k2 q hq).2)
            refine ⟨?_, ?_, fun p hp => ?_⟩
            · simp only [List.map_cons, List.nodup_cons, List.mem_map, not_exists, not_and]
              exact ⟨fun q hq => (k2 q hq).1, k1.1⟩
            · simp only [List.map_cons, List.nodup_cons, List.mem_map, not_exists, not_and]
              exact ⟨fun q hq => (m2 q (List.mem_of_mem_erase hq)).2, k1.2.1⟩
            · rcases List.mem_cons.1 hp with rfl | hp
              · refine ⟨xin, yin, ?_⟩
                have q1 := ax.2.2
                have q2 := bx.2.2
                unfold apart at q1 q2 ⊢
                simp only
                omega
              · exact sm.2.2 p hp
          have := ih _ this
          rw [List.length_cons] at this
          omega
        · have := ih _ (m1.small (fun q hq => (m2 q hq).1) (fun q hq e => e2 ⟨q.1, by rw [← e]; exact hq⟩))
          omega
      · by_cases e2 : ∃ x, (x, b) ∈ M
        · obtain ⟨x, hx1⟩ := e2
          obtain ⟨k1, k2, k3⟩ := hM.erase hx1
          have := ih _ (k1.small (fun q hq e => e1 ⟨q.2, by rw [← e]; exact List.mem_of_mem_erase hq⟩) (fun q hq => (k2 q hq).2))
          omega
        · have := ih _ (hM.small (fun q hq e => e1 ⟨q.2, by rw [← e]; exact hq⟩) (fun q hq e => e2 ⟨q.1, by rw [← e]; exact hq⟩))
          omega
    · rw [if_neg hc]
      by_cases hlt : (l.getD a T0).len < (l.getD b T0).len
      · rw [if_pos hlt]
        refine mt_max l tol n xs (b :: ys) M (by simp only [List.length_cons]; omega) hx'.2 hy ⟨hM.1, hM.2.1, fun p hp => ?_⟩
        obtain ⟨h1, h2, h3⟩ := hM.2.2 p hp
        refine ⟨(List.mem_cons.1 h1).resolve_left fun e => ?_, h2, h3⟩
        rw [e] at h3
        have : (l.getD b T0).len ≤ (l.getD p.2 T0).len := by
          rcases List.mem_cons.1 h2 with e | h2
          · rw [e]; exact Int.le_refl _
          · exact hy'.1 _ h2
        unfold apart at h3 hc
        omega
      · rw [if_neg hlt]
        refine mt_max l tol n (a :: xs) ys M (by simp only [List.length_cons]; omega) hx hy'.2 ⟨hM.1, hM.2.1, fun p hp => ?_⟩
        obtain ⟨h1, h2, h3⟩ := hM.2.2 p hp
        refine ⟨h1, (List.mem_cons.1 h2).resolve_left fun e => ?_, h3⟩
        rw [e] at h3
        have : (l.getD a T0).len ≤ (l.getD p.1 T0).len := by
          rcases List.mem_cons.1 h1 with e | h1
          · rw [e]; exact Int.le_refl _
          · exact hx'.1 _ h1
        unfold apart at h3 hc
        omega
/-! all colours -/
def PairsOK (l : List T) (tol : Int) (M : List (Nat × Nat)) : Prop :=
  (M.map Prod.fst).Nodup ∧ (M.map Prod.snd).Nodup ∧ ∀ p ∈ M, p.1 < l.length ∧ p.2 < l.length ∧ (l.getD p.1 T0).side = 1 ∧ (l.getD p.2 T0).side = 2 ∧ (l.getD p.1 T0).col = (l.getD p.2 T0).col ∧ apart (l.getD p.1 T0) (l.getD p.2 T0) ≤ tol
theorem mem_side {l : List T} {s c : Int} {i : Nat} : i ∈ sideL l s c ↔ i < l.length ∧ (l.getD i T0).side = s ∧ (l.getD i T0).col = c := by
  unfold sideL
  rw [List.mem_mergeSort]
  simp [sfil, List.mem_filter, List.mem_range, onside]
theorem side_inc (l : List T) (s c : Int) : Inc l (sideL l s c) := by
  have := List.pairwise_mergeSort (le := fun i k => !ltT l k i) (by
    intro a b c h1 h2
    simp only [ltT, Bool.not_eq_true', decide_eq_false_iff_not] at *
    omega) (by
    intro a b
    simp only [ltT, Bool.or_eq_true, Bool.not_eq_true', decide_eq_false_iff_not]
    omega) (sfil l s c l.length)
  refine this.imp fun h => ?_
  simp only [ltT, Bool.not_eq_true', decide_eq_false_iff_not] at h
  omega
theorem side_nodup (l : List T) (s c : Int) : (sideL l s c).Nodup := by
  unfold sideL
  refine (List.mergeSort_perm _ _).nodup_iff.2 ?_
  exact List.nodup_range.filter _
theorem mc_max (l : List T) (tol : Int) : ∀ (k : Nat) (M : List (Nat × Nat)), PairsOK l tol M → (∀ p ∈ M, 1 ≤ (l.getD p.1 T0).col ∧ (l.getD p.1 T0).col ≤ k) → M.length ≤ (mc l tol k).length
  | 0, M, h, hc => by
    cases M with
    | nil => simp
    | cons p M => have := hc p (by simp); omega
  | k + 1, M, h, hc => by
    rw [mc_succ, List.length_append]
    let here : Nat × Nat → Bool := fun p => decide ((l.getD p.1 T0).col = ((k + 1 : Nat) : Int))
    have split : M.length = (M.filter here).length + (M.filter fun p => !here p).length := by
      rw [List.length_eq_countP_add_countP here, List.countP_eq_length_filter, List.countP_eq_length_filter]
      congr 2
      exact List.filter_congr fun p _ => by simp
    have h1 : (M.filter fun p => !here p).length ≤ (mc l tol k).length := by
      refine mc_max l tol k _ ⟨h.1.sublist (List.filter_sublist.map _), h.2.1.sublist (List.filter_sublist.map _), fun p hp => h.2.2 p (List.mem_filter.1 hp).1⟩ fun p hp => ?_
      obtain ⟨hp, hn⟩ := List.mem_filter.1 hp
      have := hc p hp
      simp only [here, Bool.not_eq_true', decide_eq_false_iff_not] at hn
      omega
    have h2 : (M.filter here).length ≤ (mt l tol (sideL l 1 (k + 1 : Nat)) (sideL l 2 (k + 1 : Nat))).length := by
      refine mt_max l tol _ _ _ _ (Nat.le_refl _) (side_inc _ _ _) (side_inc _ _ _) ⟨h.1.sublist (List.filter_sublist.map _), h.2.1.sublist (List.filter_sublist.map _), fun p hp => ?_⟩
      obtain ⟨hp, hn⟩ := List.mem_filter.1 hp
      simp only [here, decide_eq_true_eq] at hn
      obtain ⟨a1, a2, a3, a4, a5, a6⟩ := h.2.2 p hp
      exact ⟨mem_side.2 ⟨a1, a3, hn⟩, mem_side.2 ⟨a2, a4, by rw [← a5]; exact hn⟩, a6⟩
    omega
/-- no pairing has more pairs than match makes -/
theorem match_max {l : List T} (hv : VL l) {tol : Int} {M : List (Nat × Nat)} (h : PairsOK l tol M) : M.length ≤ (matchL l tol).length :=
  mc_max l tol 9 M h fun p hp => by
    have := hv.2.1 p.1 (h.2.2 p hp).1
    simp only [vt, decide_eq_true_eq] at this
    omega
theorem mt_mat (l : List T) (tol : Int) : ∀ (n : Nat) (xs ys : List Nat), xs.length + ys.length ≤ n → xs.Nodup → ys.Nodup → Mat l tol xs ys (mt l tol xs ys)
  | n, [], ys, h, _, _ => by rw [mt_nil1]; exact ⟨by simp, by simp, fun p hp => by cases hp⟩
  | n, a :: xs, [], h, _, _ => by rw [mt_nil2]; exact ⟨by simp, by simp, fun p hp => by cases hp⟩
  | 0, a :: xs, b :: ys, h, _, _ => by simp at h
  | n + 1, a :: xs, b :: ys, h, hx, hy => by
    rw [mt_cons]
    simp only [List.length_cons] at h
    have hx' := List.nodup_cons.1 hx
    have hy' := List.nodup_cons.1 hy
    split
    · rename_i hc
      obtain ⟨m1, m2, m3⟩ := mt_mat l tol n xs ys (by omega) hx'.2 hy'.2
      refine ⟨?_, ?_, fun p hp => ?_⟩
      · simp only [List.map_cons, List.nodup_cons, List.mem_map, not_exists, not_and]
        exact ⟨fun q hq e => hx'.1 (e ▸ (m3 q hq).1), m1⟩
      · simp only [List.map_cons, List.nodup_cons, List.mem_map, not_exists, not_and]
        exact ⟨fun q hq e => hy'.1 (e ▸ (m3 q hq).2.1), m2⟩
      · rcases List.mem_cons.1 hp with rfl | hp
        · exact ⟨by simp, by simp, hc⟩
        · obtain ⟨q1, q2, q3⟩ := m3 p hp
          exact ⟨List.mem_cons_of_mem _ q1, List.mem_cons_of_mem _ q2, q3⟩
    · split
      · obtain ⟨m1, m2, m3⟩ := mt_mat l tol n xs (b :: ys) (by simp only [List.length_cons]; omega) hx'.2 hy
        exact ⟨m1, m2, fun p hp => ⟨List.mem_cons_of_mem _ (m3 p hp).1, (m3 p hp).2⟩⟩
      · obtain ⟨m1, m2, m3⟩ := mt_mat l tol n (a :: xs) ys (by simp only [List.length_cons]; omega) hx hy'.2
        exact ⟨m1, m2, fun p hp => ⟨(m3 p hp).1, List.mem_cons_of_mem _ (m3 p hp).2.1, (m3 p hp).2.2⟩⟩
theorem mc_ok (l : List T) (tol : Int) : ∀ k, PairsOK l tol (mc l tol k) ∧ ∀ p ∈ mc l tol k, (l.getD p.1 T0).col ≤ k
  | 0 => ⟨⟨by simp [mc], by simp [mc], fun p hp => by simp [mc] at hp⟩, fun p hp => by simp [mc] at hp⟩
  | k + 1 => by
    obtain ⟨⟨h1, h2, h3⟩, h4⟩ := mc_ok l tol k
    obtain ⟨m1, m2, m3⟩ := mt_mat l tol _ _ _ (Nat.le_refl _) (side_nodup l 1 (k + 1 : Nat)) (side_nodup l 2 (k + 1 : Nat))
    have m4 : ∀ p ∈ mt l tol (sideL l 1 (k + 1 : Nat)) (sideL l 2 (k + 1 : Nat)), (l.getD p.1 T0).col = ((k + 1 : Nat) : Int) ∧ (l.getD p.2 T0).col = ((k + 1 : Nat) : Int) := fun p hp => ⟨(mem_side.1 (m3 p hp).1).2.2, (mem_side.1 (m3 p hp).2.1).2.2⟩
    rw [mc_succ]
    refine ⟨⟨?_, ?_, fun p hp => ?_⟩, fun p hp => ?_⟩
    · rw [List.map_append, List.nodup_append]
      refine ⟨h1, m1, fun a ha b hb e => ?_⟩
      obtain ⟨p, hp, rfl⟩ := List.mem_map.1 ha
      obtain ⟨q, hq, rfl⟩ := List.mem_map.1 hb
      have := h4 p hp
      have := (m4 q hq).1
      rw [← e] at this
      omega
    · rw [List.map_append, List.nodup_append]
      refine ⟨h2, m2, fun a ha b hb e => ?_⟩
      obtain ⟨p, hp, rfl⟩ := List.mem_map.1 ha
      obtain ⟨q, hq, rfl⟩ := List.mem_map.1 hb
      have h5 := h4 p hp
      rw [(h3 p hp).2.2.2.2.1] at h5
      have := (m4 q hq).2
      rw [← e] at this
      omega
    · rcases List.mem_append.1 hp with hp | hp
      · exact h3 p hp
      · have a := mem_side.1 (m3 p hp).1
        have b := mem_side.1 (m3 p hp).2.1
        exact ⟨a.1, b.1, a.2.1, b.2.1, by rw [a.2.2, b.2.2], (m3 p hp).2.2⟩
    · rcases List.mem_append.1 hp with hp | hp
      · have := h4 p hp; omega
      · have := (m4 p hp).1; omega
theorem match_ok (l : List T) (tol : Int) : PairsOK l tol (matchL l tol) := (mc_ok l tol 9).1
end Go.Proofs.Ytbhkbaapfioijaa
set_option linter.unusedVariables false
set_option linter.unusedSimpArgs false
namespace Go.Proofs.Ytbhkbaapfioijaa
open Go Go.Am Go.Proofs Go.Sort
/-! ### TempleMore: plain -/
theorem nodup_map {f : Nat → Nat} {A : List Nat} (h : A.Nodup) (hi : ∀ x ∈ A, ∀ y ∈ A, f x = f y → x = y) : (A.map f).Nodup := by
  induction A with
  | nil => simp
  | cons a A ih =>
    have h' := List.nodup_cons.1 h
    simp only [List.map_cons, List.nodup_cons, List.mem_map, not_exists, not_and]
    exact ⟨fun x hx e => h'.1 (hi x (by simp [hx]) a (by simp) e ▸ hx), ih h'.2 fun x hx y hy => hi x (by simp [hx]) y (by simp [hy])⟩
end Go.Proofs.Ytbhkbaapfioijaa
set_option linter.unusedVariables false
set_option linter.unusedSimpArgs false
namespace Go.Proofs.Ytbhkbaapfioijaa
open Go Go.Am Go.Proofs Go.Sort
theorem mc_len (l : List T) (tol : Int) : ∀ k, (mc l tol k).length ≤ k * l.length
  | 0 => by simp [mc]
  | k + 1 => by
    rw [mc_succ, List.length_append, Nat.succ_mul]
    have := mc_len l tol k
    have := mt_len l tol _ (sideL l 1 (k + 1 : Nat)) (sideL l 2 (k + 1 : Nat)) (Nat.le_refl _)
    have := sideL_len l 1 (k + 1 : Nat)
    omega
theorem mostR {l : List T} {tol : Int} (hv : VL l) (ht : 0 ≤ tol ∧ tol ≤ 1000) : PC Try.prog 16 [vT l, .i .i64 tol] (.tu [.i .i64 ((matchL l tol).length : Int), .i .i64 0]) := by
  have := pc16 l (by have := hv.len; omega) tol
  unfold matR at this
  rw [asked_yes hv ht] at this
  rwa [if_pos rfl] at this
end Go.Proofs.Ytbhkbaapfioijaa
set_option linter.unusedVariables false
set_option linter.unusedSimpArgs false
namespace Go.Proofs.Ytbhkbaapfioijaa
open Go Go.Am Go.Proofs Go.Sort
/-! ### Pairings that are given -/
def eQ (p : Int × Int) : List AV := [.i .i64 p.1, .i .i64 p.2]
theorem eQ_len (p : Int × Int) : (eQ p).length = 2 := rfl
theorem eQ_plain (p : Int × Int) : AV.plains (eQ p) = true := rfl
theorem flQ_plain (l : List (Int × Int)) : AV.plains (fl eQ l) = true := fl_plain eQ_plain l
theorem rdQ {l : List (Int × Int)} {j : Nat} (h : j < l.length) : rd (fl eQ l) (j * 2) (some 2) = some (.ag (eQ (l.getD j (0, 0)))) := fl_rd eQ_len (0, 0) h
theorem getQ0 {l : List (Int × Int)} {j : Nat} (h : j < l.length) : (fl eQ l)[j * 2]? = some (.i .i64 (l.getD j (0, 0)).1) := fl_get (c := 0) eQ_len (0, 0) h (by omega)
theorem getQ1 {l : List (Int × Int)} {j : Nat} (h : j < l.length) : (fl eQ l)[j * 2 + 1]? = some (.i .i64 (l.getD j (0, 0)).2) := fl_get eQ_len (0, 0) h (by omega)
abbrev vQ (l : List (Int × Int)) : AV := .vs l.length (fl eQ l)
abbrev prs (ps : List (Int × Int)) (k : Nat) : Int × Int := ps.getD k (0, 0)
def rng (n : Nat) (p : Int × Int) : Prop := 0 ≤ p.1 ∧ p.1 < n ∧ 0 ≤ p.2 ∧ p.2 < n
abbrev hadP (ps : List (Int × Int)) (k : Nat) (x : Int) : Prop := ∃ i, i < k ∧ ((prs ps i).1 = x ∨ (prs ps i).2 = x)
def er (l : List T) (good : T → T → Bool) (ps : List (Int × Int)) (k : Nat) : Int :=
  if (hadP ps k (prs ps k).1 ∨ hadP ps k (prs ps k).2) ∨ (prs ps k).1 = (prs ps k).2 then 43
  else if (l.getD (prs ps k).1.toNat T0).side ≠ 1 ∨ good (l.getD (prs ps k).1.toNat T0) (l.getD (prs ps k).2.toNat T0) = false then 42 else 0
def jg (l : List T) (good : T → T → Bool) (ps : List (Int × Int)) : Nat → Nat → Int
  | 0, _ => 0
  | n + 1, k => if er l good ps k = 0 then jg l good ps n (k + 1) else er l good ps k
open Classical in
noncomputable def jd (l : List T) (good : T → T → Bool) (ps : List (Int × Int)) : Int :=
  if ∀ i, i < ps.length → rng l.length (prs ps i) then jg l good ps ps.length 0 else 2
theorem jd_bad {l : List T} {good : T → T → Bool} {ps : List (Int × Int)} {k : Nat} (hk : k < ps.length) (h : ¬ rng l.length (prs ps k)) : jd l good ps = 2 := by
  unfold jd; rw [if_neg]; exact fun hh => h (hh k hk)
theorem jd_ok {l : List T} {good : T → T → Bool} {ps : List (Int × Int)} (h : ∀ i, i < ps.length → rng l.length (prs ps i)) : jd l good ps = jg l good ps ps.length 0 := by
  unfold jd; rw [if_pos h]
theorem jg_err {l : List T} {good : T → T → Bool} {ps : List (Int × Int)} {n k : Nat} {e : Int} (h : er l good ps k = e) (he : e ≠ 0) (hn : 0 < n) : jg l good ps n k = e := by
  obtain ⟨m, rfl⟩ : ∃ m, n = m + 1 := ⟨n - 1, by omega⟩
  simp only [jg, h, if_neg he]
theorem jg_go {l : List T} {good : T → T → Bool} {ps : List (Int × Int)} {n k : Nat} (h : er l good ps k = 0) (hn : 0 < n) : jg l good ps n k = jg l good ps (n - 1) (k + 1) := by
  obtain ⟨m, rfl⟩ : ∃ m, n = m + 1 := ⟨n - 1, by omega⟩
  simp only [jg, h, if_true, Nat.add_sub_cancel]
theorem pc58 (l : List T) (hv : VL l) (ps : List (Int × Int)) (hp : ps.length ≤ 9223372036854775807) (g : Nat) (caps : List AV) (hc : AV.plains caps = true) (good : T → T → Bool)
    (hg : ∀ a b, vt a = true → vt b = true → PC Try.prog g (.ag (eT a) :: .ag (eT b) :: caps) (.b (good a b))) : PC Try.prog 58 [vT l, vQ ps, .fn g [] caps] (.i .i64 (jd l good ps)) := by
  refine pc_fn fn58 (by simp only [AV.plains, AV.plain, il_plain, bl_plain, Bool.and_true, Bool.true_and, Bool.and_self, flT_plain, flQ_plain, hc]) (by simp only [AV.plains, AV.plain, il_plain, bl_plain, Bool.and_true, Bool.true_and, Bool.and_self, flT_plain, flQ_plain, hc]) (Nat.le_of_ble_eq_true rfl) ?_
  rw [initSt3]
  have hl := hv.len
  repeat' first
    | with_reducible refine k_seq ?_
    | with_reducible refine k_skip ?_
    | with_reducible refine k_blkS ?_
    | with_reducible refine k_blkR ?_
    | with_reducible refine k_blkC ?_
    | with_reducible refine k_blkH ?_
    | with_reducible refine k_blkB ?_
    | with_reducible refine k_blkK ?_
    | with_reducible refine k_blkE ?_
    | with_reducible refine k_reg ?_
    | with_reducible refine k_head (by with_unfolding_all rfl) ?_
    | with_reducible refine k_headS ?_
    | (with_reducible refine SepK.mk ?_ ?_; (refine sepQ_P ?_; simp [sepQ, sepG, AOp.late, AOp.free, AOp.xs, AOp.isAl, tokNe, AV.tok, stS_get, strip, AX.val, c58r0, c58r1, c58r2, c58r3, c58r4, c58r5, c58r6, c58r8, c58r9, c58r10, c58r11, c58r12, c58r13, c58r14, c58r15, c58r16, c58r17, c58r18, c58r20, GA]; try omega))
    | with_reducible refine r_done ?_
    | with_reducible refine hr_done ?_
    | with_reducible refine s_go (by simp (disch := omega) only [c58r0, c58r1, c58r2, c58r3, c58r4, c58r5, c58r6, c58r8, c58r9, c58r10, c58r11, c58r12, c58r13, c58r14, c58r15, c58r16, c58r17, c58r18, c58r20, EV0, EV1, EV2, EV3, EV4, EV5, EV6, EV7, EV8, VALS, plug, ite_same, decide_true, decide_false, eq_self, ↓reduceIte, reduceCtorEq, Nat.reduceAdd, Nat.reduceEqDiff, Nat.reduceLT, Nat.reduceLeDiff, Nat.reduceMul, Nat.reduceSub, Nat.reduceDiv, Int.reduceToNat, Int.reduceAdd, Int.reduceSub, Int.reduceMul, Int.reduceNeg, Int.reduceEq, Int.reduceLT, Int.reduceLE]; with_reducible rfl) ?_
    | with_reducible refine h_go (by with_unfolding_all rfl) (by simp (disch := omega) only [c58r0, c58r1, c58r2, c58r3, c58r4, c58r5, c58r6, c58r8, c58r9, c58r10, c58r11, c58r12, c58r13, c58r14, c58r15, c58r16, c58r17, c58r18, c58r20, EV0, EV1, EV2, EV3, EV4, EV5, EV6, EV7, EV8, VALS, plug, ite_same, decide_true, decide_false, eq_self, ↓reduceIte, reduceCtorEq, Nat.reduceAdd, Nat.reduceEqDiff, Nat.reduceLT, Nat.reduceLeDiff, Nat.reduceMul, Nat.reduceSub, Nat.reduceDiv, Int.reduceToNat, Int.reduceAdd, Int.reduceSub, Int.reduceMul, Int.reduceNeg, Int.reduceEq, Int.reduceLT, Int.reduceLE]; with_reducible rfl) ?_
    | ((with_reducible refine chk_r ?_); refine r_callF (by simp only [CA, Nat.reduceEqDiff, ↓reduceIte]; rfl) (by exact rfl) (by simp only [CA, Nat.reduceEqDiff, ↓reduceIte]; rfl) rfl ?_)
    | ((with_reducible refine chk_h ?_); refine hr_callF (by simp only [CA, Nat.reduceEqDiff, ↓reduceIte]; rfl) (by exact rfl) (by simp only [CA, Nat.reduceEqDiff, ↓reduceIte]; rfl) rfl ?_)
    | ((with_reducible refine chk_h ?_); refine hr_app (by simp (disch := omega) only [c58r0, c58r1, c58r2, c58r3, c58r4, c58r5, c58r6, c58r8, c58r9, c58r10, c58r11, c58r12, c58r13, c58r14, c58r15, c58r16, c58r17, c58r18, c58r20, EV0, EV1, EV2, EV3, EV4, EV5, EV6, EV7, EV8, VALS, plug, ite_same, decide_true, decide_false, eq_self, ↓reduceIte, reduceCtorEq, Nat.reduceAdd, Nat.reduceEqDiff, Nat.reduceLT, Nat.reduceLeDiff, Nat.reduceMul, Nat.reduceSub, Nat.reduceDiv, Int.reduceToNat, Int.reduceAdd, Int.reduceSub, Int.reduceMul, Int.reduceNeg, Int.reduceEq, Int.reduceLT, Int.reduceLE]; with_reducible rfl) rfl ?_)
    | (with_reducible refine k_condP (by simp only [GA, Nat.reduceEqDiff, ↓reduceIte]; rfl) (by first | (simp only [BO]; rfl) | rfl) (fun ht => ?_) (fun ht => ?_) <;> try (first | exact False.elim ht | exact absurd rfl ht | exact absurd trivial ht | exact Bool.noConfusion ht))
    | (with_reducible refine k_ret ?_; repeat with_reducible (first | refine ret_thru ?_ | refine ret_blk ?_ | refine fin ?_))
    | (with_reducible refine k_exit ?_; repeat with_reducible (first | refine thru ?_ | refine out_blk ?_ | refine pass (by decide) ?_))
    | (refine post1 ?_; simp only [GA, Nat.reduceEqDiff, ↓reduceIte])
    | (refine post2 ?_; simp only [GA, Nat.reduceEqDiff, ↓reduceIte])
    | (refine post3 ?_; simp only [GA, Nat.reduceEqDiff, ↓reduceIte])
    | (refine postc (by simp only [GA, Nat.reduceEqDiff, ↓reduceIte]; rfl) (by simp (disch := omega) only [c58r0, c58r1, c58r2, c58r3, c58r4, c58r5, c58r6, c58r8, c58r9, c58r10, c58r11, c58r12, c58r13, c58r14, c58r15, c58r16, c58r17, c58r18, c58r20, EV0, EV1, EV2, EV3, EV4, EV5, EV6, EV7, EV8, VALS, plug, ite_same, decide_true, decide_false, eq_self, ↓reduceIte, reduceCtorEq, Nat.reduceAdd, Nat.reduceEqDiff, Nat.reduceLT, Nat.reduceLeDiff, Nat.reduceMul, Nat.reduceSub, Nat.reduceDiv, Int.reduceToNat, Int.reduceAdd, Int.reduceSub, Int.reduceMul, Int.reduceNeg, Int.reduceEq, Int.reduceLT, Int.reduceLE]; rfl) ?_)
    | refine post0 ?_
  refine k_blk (k_loopS (X := Unit) [0, 1, 2, 14, 15, 16] ps.length (fun k _ => [(0, vT l), (1, vQ ps), (2, .fn g [] caps), (14, vQ ps), (15, .i .i64 ps.length), (16, .i .i64 (k : Int))])
    (fun k _ h => ∀ i, i < k → rng l.length (prs ps i)) () (by simp only [Am.keep, List.map_cons, List.map_nil, GA, Nat.reduceEqDiff, ↓reduceIte]; try rfl) (fun i hi => by omega) ?_)
  rintro k _ h hk hr ok pos
  by_cases hlt : k < ps.length
  · have rQ := rdQ hlt
    have hlt' : (k : Int) < ps.length := by omega
    simp only [eQ] at rQ
    repeat' first
      | with_reducible refine k_seq ?_
      | with_reducible refine k_skip ?_
      | with_reducible refine k_blkS ?_
      | with_reducible refine k_blkR ?_
      | with_reducible refine k_blkC ?_
      | with_reducible refine k_blkH ?_
      | with_reducible refine k_blkB ?_
      | with_reducible refine k_blkK ?_
      | with_reducible refine k_blkE ?_
      | with_reducible refine k_reg ?_
      | with_reducible refine k_head (by with_unfolding_all rfl) ?_
      | with_reducible refine k_headS ?_
      | (with_reducible refine SepK.mk ?_ ?_; (refine sepQ_P ?_; simp [sepQ, sepG, AOp.late, AOp.free, AOp.xs, AOp.isAl, tokNe, AV.tok, stS_get, strip, AX.val, c58r0, c58r1, c58r2, c58r3, c58r4, c58r5, c58r6, c58r8, c58r9, c58r10, c58r11, c58r12, c58r13, c58r14, c58r15, c58r16, c58r17, c58r18, c58r20, GA]; try omega))
      | with_reducible refine r_done ?_
      | with_reducible refine hr_done ?_
      | with_reducible refine s_go (by simp (disch := omega) only [rQ, hlt', c58r0, c58r1, c58r2, c58r3, c58r4, c58r5, c58r6, c58r8, c58r9, c58r10, c58r11, c58r12, c58r13, c58r14, c58r15, c58r16, c58r17, c58r18, c58r20, EV0, EV1, EV2, EV3, EV4, EV5, EV6, EV7, EV8, VALS, plug, ite_same, decide_true, decide_false, eq_self, ↓reduceIte, reduceCtorEq, Nat.reduceAdd, Nat.reduceEqDiff, Nat.reduceLT, Nat.reduceLeDiff, Nat.reduceMul, Nat.reduceSub, Nat.reduceDiv, Int.reduceToNat, Int.reduceAdd, Int.reduceSub, Int.reduceMul, Int.reduceNeg, Int.reduceEq, Int.reduceLT, Int.reduceLE]; with_reducible rfl) ?_
      | with_reducible refine h_go (by with_unfolding_all rfl) (by simp (disch := omega) only [rQ, hlt', c58r0, c58r1, c58r2, c58r3, c58r4, c58r5, c58r6, c58r8, c58r9, c58r10, c58r11, c58r12, c58r13, c58r14, c58r15, c58r16, c58r17, c58r18, c58r20, EV0, EV1, EV2, EV3, EV4, EV5, EV6, EV7, EV8, VALS, plug, ite_same, decide_true, decide_false, eq_self, ↓reduceIte, reduceCtorEq, Nat.reduceAdd, Nat.reduceEqDiff, Nat.reduceLT, Nat.reduceLeDiff, Nat.reduceMul, Nat.reduceSub, Nat.reduceDiv, Int.reduceToNat, Int.reduceAdd, Int.reduceSub, Int.reduceMul, Int.reduceNeg, Int.reduceEq, Int.reduceLT, Int.reduceLE]; with_reducible rfl) ?_
      | ((with_reducible refine chk_r ?_); refine r_callF (by simp only [CA, Nat.reduceEqDiff, ↓reduceIte]; rfl) (by exact rfl) (by simp only [CA, Nat.reduceEqDiff, ↓reduceIte]; rfl) rfl ?_)
      | ((with_reducible refine chk_h ?_); refine hr_callF (by simp only [CA, Nat.reduceEqDiff, ↓reduceIte]; rfl) (by exact rfl) (by simp only [CA, Nat.reduceEqDiff, ↓reduceIte]; rfl) rfl ?_)
      | ((with_reducible refine chk_r ?_); refine r_callP (by simp only [CA, Nat.reduceEqDiff, ↓reduceIte]; rfl) (by simp only [CA, Nat.reduceEqDiff, ↓reduceIte]; rfl) (by first | exact pc71 _ _ _ _) rfl ?_)
      | ((with_reducible refine chk_h ?_); refine hr_callP (by simp only [CA, Nat.reduceEqDiff, ↓reduceIte]; rfl) (by simp only [CA, Nat.reduceEqDiff, ↓reduceIte]; rfl) (by first | exact pc71 _ _ _ _) rfl ?_)
      | ((with_reducible refine chk_h ?_); refine hr_callP1 (by simp only [CA, Nat.reduceEqDiff, ↓reduceIte]; rfl) (by simp only [CA, Nat.reduceEqDiff, ↓reduceIte]; rfl) (by simp (disch := omega) only [CA, Nat.reduceEqDiff, ↓reduceIte, firstTok_nil, firstTok_sl, firstTok_sl0, firstTok_i, firstTok_b, firstTok_ag, firstTok_p, firstTok_s]; rfl) (by first | exact pc71 _ _ _ _) rfl ?_)
      | ((with_reducible refine chk_r ?_); refine r_callG (by simp only [CA, Nat.reduceEqDiff, ↓reduceIte]; rfl) (by simp only [CA, Nat.reduceEqDiff, ↓reduceIte]; rfl) (by simp only [CA, Nat.reduceEqDiff, ↓reduceIte]; rfl) (by intro hg; (try simp only [BO] at hg); first | exact pc71 _ _ _ _) rfl ?_)
      | ((with_reducible refine chk_h ?_); refine hr_callG (by simp only [CA, Nat.reduceEqDiff, ↓reduceIte]; rfl) (by simp only [CA, Nat.reduceEqDiff, ↓reduceIte]; rfl) (by simp only [CA, Nat.reduceEqDiff, ↓reduceIte]; rfl) (by intro hg; (try simp only [BO] at hg); first | exact pc71 _ _ _ _) rfl ?_)
      | ((with_reducible refine chk_h ?_); refine hr_app (by simp (disch := omega) only [rQ, hlt', c58r0, c58r1, c58r2, c58r3, c58r4, c58r5, c58r6, c58r8, c58r9, c58r10, c58r11, c58r12, c58r13, c58r14, c58r15, c58r16, c58r17, c58r18, c58r20, EV0, EV1, EV2, EV3, EV4, EV5, EV6, EV7, EV8, VALS, plug, ite_same, decide_true, decide_false, eq_self, ↓reduceIte, reduceCtorEq, Nat.reduceAdd, Nat.reduceEqDiff, Nat.reduceLT, Nat.reduceLeDiff, Nat.reduceMul, Nat.reduceSub, Nat.reduceDiv, Int.reduceToNat, Int.reduceAdd, Int.reduceSub, Int.reduceMul, Int.reduceNeg, Int.reduceEq, Int.reduceLT, Int.reduceLE]; with_reducible rfl) rfl ?_)
      | (with_reducible refine k_condP (by simp only [GA, Nat.reduceEqDiff, ↓reduceIte]; rfl) (by first | (simp only [BO]; rfl) | rfl) (fun ht => ?_) (fun ht => ?_) <;> try (first | exact False.elim ht | exact absurd rfl ht | exact absurd trivial ht | exact Bool.noConfusion ht))
      | (with_reducible refine k_ret ?_; repeat with_reducible (first | refine ret_thru ?_ | refine ret_blk ?_ | refine fin ?_))
      | (with_reducible refine k_exit ?_; repeat with_reducible (first | refine thru ?_ | refine out_blk ?_ | refine pass (by decide) ?_))
      | (refine post1 ?_; simp only [GA, Nat.reduceEqDiff, ↓reduceIte])
      | (refine post2 ?_; simp only [GA, Nat.reduceEqDiff, ↓reduceIte])
      | (refine post3 ?_; simp only [GA, Nat.reduceEqDiff, ↓reduceIte])
      | (refine postc (by simp only [GA, Nat.reduceEqDiff, ↓reduceIte]; rfl) (by simp (disch := omega) only [rQ, hlt', c58r0, c58r1, c58r2, c58r3, c58r4, c58r5, c58r6, c58r8, c58r9, c58r10, c58r11, c58r12, c58r13, c58r14, c58r15, c58r16, c58r17, c58r18, c58r20, EV0, EV1, EV2, EV3, EV4, EV5, EV6, EV7, EV8, VALS, plug, ite_same, decide_true, decide_false, eq_self, ↓reduceIte, reduceCtorEq, Nat.reduceAdd, Nat.reduceEqDiff, Nat.reduceLT, Nat.reduceLeDiff, Nat.reduceMul, Nat.reduceSub, Nat.reduceDiv, Int.reduceToNat, Int.reduceAdd, Int.reduceSub, Int.reduceMul, Int.reduceNeg, Int.reduceEq, Int.reduceLT, Int.reduceLE]; rfl) ?_)
      | refine post0 ?_
    · rw [jd_bad hlt (by unfold rng; simp only [prs] at *; omega)]
      exact ends_of
    · refine ⟨hlt, (), (by simp only [Am.keep, List.map_cons, List.map_nil, GA, Nat.reduceEqDiff, ↓reduceIte]; try rfl), fun i hi => ?_⟩
      by_cases e : i = k
      · subst e; unfold rng; simp only [prs] at *; omega
      · exact hr i (by omega)
  · obtain rfl : k = ps.length := by omega
    have hlt' : ¬ (ps.length : Int) < ps.length := by omega
    rw [jd_ok hr]
    repeat' first
      | with_reducible refine k_seq ?_
      | with_reducible refine k_skip ?_
      | with_reducible refine k_blkS ?_
      | with_reducible refine k_blkR ?_
      | with_reducible refine k_blkC ?_
      | with_reducible refine k_blkH ?_
      | with_reducible refine k_blkB ?_
      | with_reducible refine k_blkK ?_
      | with_reducible refine k_blkE ?_
      | with_reducible refine k_reg ?_
      | with_reducible refine k_head (by with_unfolding_all rfl) ?_
      | with_reducible refine k_headS ?_
      | (with_reducible refine SepK.mk ?_ ?_; (refine sepQ_P ?_; simp [sepQ, sepG, AOp.late, AOp.free, AOp.xs, AOp.isAl, tokNe, AV.tok, stS_get, strip, AX.val, c58r0, c58r1, c58r2, c58r3, c58r4, c58r5, c58r6, c58r8, c58r9, c58r10, c58r11, c58r12, c58r13, c58r14, c58r15, c58r16, c58r17, c58r18, c58r20, GA]; try omega))
      | with_reducible refine r_done ?_
      | with_reducible refine hr_done ?_
      | with_reducible refine s_go (by simp (disch := omega) only [hlt', c58r0, c58r1, c58r2, c58r3, c58r4, c58r5, c58r6, c58r8, c58r9, c58r10, c58r11, c58r12, c58r13, c58r14, c58r15, c58r16, c58r17, c58r18, c58r20, EV0, EV1, EV2, EV3, EV4, EV5, EV6, EV7, EV8, VALS, plug, ite_same, decide_true, decide_false, eq_self, ↓reduceIte, reduceCtorEq, Nat.reduceAdd, Nat.reduceEqDiff, Nat.reduceLT, Nat.reduceLeDiff, Nat.reduceMul, Nat.reduceSub, Nat.reduceDiv, Int.reduceToNat, Int.reduceAdd, Int.reduceSub, Int.reduceMul, Int.reduceNeg, Int.reduceEq, Int.reduceLT, Int.reduceLE]; with_reducible rfl) ?_
      | with_reducible refine h_go (by with_unfolding_all rfl) (by simp (disch := omega) only [hlt', c58r0, c58r1, c58r2, c58r3, c58r4, c58r5, c58r6, c58r8, c58r9, c58r10, c58r11, c58r12, c58r13, c58r14, c58r15, c58r16, c58r17, c58r18, c58r20, EV0, EV1, EV2, EV3, EV4, EV5, EV6, EV7, EV8, VALS, plug, ite_same, decide_true, decide_false, eq_self, ↓reduceIte, reduceCtorEq, Nat.reduceAdd, Nat.reduceEqDiff, Nat.reduceLT, Nat.reduceLeDiff, Nat.reduceMul, Nat.reduceSub, Nat.reduceDiv, Int.reduceToNat, Int.reduceAdd, Int.reduceSub, Int.reduceMul, Int.reduceNeg, Int.reduceEq, Int.reduceLT, Int.reduceLE]; with_reducible rfl) ?_
      | ((with_reducible refine chk_r ?_); refine r_callF (by simp only [CA, Nat.reduceEqDiff, ↓reduceIte]; rfl) (by exact rfl) (by simp only [CA, Nat.reduceEqDiff, ↓reduceIte]; rfl) rfl ?_)
      | ((with_reducible refine chk_h ?_); refine hr_callF (by simp only [CA, Nat.reduceEqDiff, ↓reduceIte]; rfl) (by exact rfl) (by simp only [CA, Nat.reduceEqDiff, ↓reduceIte]; rfl) rfl ?_)
      | ((with_reducible refine chk_h ?_); refine hr_app (by simp (disch := omega) only [hlt', c58r0, c58r1, c58r2, c58r3, c58r4, c58r5, c58r6, c58r8, c58r9, c58r10, c58r11, c58r12, c58r13, c58r14, c58r15, c58r16, c58r17, c58r18, c58r20, EV0, EV1, EV2, EV3, EV4, EV5, EV6, EV7, EV8, VALS, plug, ite_same, decide_true, decide_false, eq_self, ↓reduceIte, reduceCtorEq, Nat.reduceAdd, Nat.reduceEqDiff, Nat.reduceLT, Nat.reduceLeDiff, Nat.reduceMul, Nat.reduceSub, Nat.reduceDiv, Int.reduceToNat, Int.reduceAdd, Int.reduceSub, Int.reduceMul, Int.reduceNeg, Int.reduceEq, Int.reduceLT, Int.reduceLE]; with_reducible rfl) rfl ?_)
      | (with_reducible refine k_condP (by simp only [GA, Nat.reduceEqDiff, ↓reduceIte]; rfl) (by first | (simp only [BO]; rfl) | rfl) (fun ht => ?_) (fun ht => ?_) <;> try (first | exact False.elim ht | exact absurd rfl ht | exact absurd trivial ht | exact Bool.noConfusion ht))
      | (with_reducible refine k_ret ?_; repeat with_reducible (first | refine ret_thru ?_ | refine ret_blk ?_ | refine fin ?_))
      | (with_reducible refine k_exit ?_; repeat with_reducible (first | refine thru ?_ | refine out_blk ?_ | refine pass (by decide) ?_))
      | (refine post1 ?_; simp only [GA, Nat.reduceEqDiff, ↓reduceIte])
      | (refine post2 ?_; simp only [GA, Nat.reduceEqDiff, ↓reduceIte])
      | (refine post3 ?_; simp only [GA, Nat.reduceEqDiff, ↓reduceIte])
      | (refine postc (by simp only [GA, Nat.reduceEqDiff, ↓reduceIte]; rfl) (by simp (disch := omega) only [hlt', c58r0, c58r1, c58r2, c58r3, c58r4, c58r5, c58r6, c58r8, c58r9, c58r10, c58r11, c58r12, c58r13, c58r14, c58r15, c58r16, c58r17, c58r18, c58r20, EV0, EV1, EV2, EV3, EV4, EV5, EV6, EV7, EV8, VALS, plug, ite_same, decide_true, decide_false, eq_self, ↓reduceIte, reduceCtorEq, Nat.reduceAdd, Nat.reduceEqDiff, Nat.reduceLT, Nat.reduceLeDiff, Nat.reduceMul, Nat.reduceSub, Nat.reduceDiv, Int.reduceToNat, Int.reduceAdd, Int.reduceSub, Int.reduceMul, Int.reduceNeg, Int.reduceEq, Int.reduceLT, Int.reduceLE]; rfl) ?_)
      | refine post0 ?_
    refine k_blk (k_loopS (X := Nat × List (AV × AV)) [0, 2, 9, 38, 39, 40] ps.length (fun k x => [(0, vT l), (2, .fn g [] caps), (9, .mp x.1), (38, vQ ps), (39, .i .i64 ps.length), (40, .i .i64 (k : Int))])
      (fun k x h => h.m x.1 = some (.map x.2) ∧ MFi x.2 (setOf (hadP ps k)) ∧ jg l good ps ps.length 0 = jg l good ps (ps.length - k) k) (_, _) (by simp only [Am.keep, List.map_cons, List.map_nil, GA, Nat.reduceEqDiff, ↓reduceIte]; try rfl) ⟨by simp (disch := omega) only [c58r0, c58r1, c58r2, c58r3, c58r4, c58r5, c58r6, c58r8, c58r9, c58r10, c58r11, c58r12, c58r13, c58r14, c58r15, c58r16, c58r17, c58r18, c58r20, EV0, EV1, EV2, EV3, EV4, EV5, EV6, EV7, EV8, VALS, plug, ite_same, decide_true, decide_false, eq_self, ↓reduceIte, reduceCtorEq, Nat.reduceAdd, Nat.reduceEqDiff, Nat.reduceLT, Nat.reduceLeDiff, Nat.reduceMul, Nat.reduceSub, Nat.reduceDiv, Int.reduceToNat, Int.reduceAdd, Int.reduceSub, Int.reduceMul, Int.reduceNeg, Int.reduceEq, Int.reduceLT, Int.reduceLE] <;> rfl, MFi.set_nil fun a ⟨i, hi, _⟩ => by omega, rfl⟩ ?_)
    rintro k ⟨tk, es⟩ h hk ⟨hm, hf, hj⟩ ok pos
    simp only at hm hf hj ⊢
    have htk := ok.m hm
    have lk := MFi.set_lk hf
    by_cases hlt : k < ps.length
    · have rQ := rdQ hlt
      have hlt' : (k : Int) < ps.length := by omega
      have hrk := hr k hlt
      obtain ⟨a, b, hP, ha, hb⟩ : ∃ a b : Nat, ps.getD k (0, 0) = ((a : Int), (b : Int)) ∧ a < l.length ∧ b < l.length :=
        ⟨(ps.getD k (0, 0)).1.toNat, (ps.getD k (0, 0)).2.toNat, by
          unfold rng at hrk; simp only [prs] at hrk
          exact Prod.ext (by simp only; omega) (by simp only; omega), by unfold rng at hrk; simp only [prs] at hrk; omega, by unfold rng at hrk; simp only [prs] at hrk; omega⟩
      simp only [eQ, hP] at rQ
      obtain ⟨u1, u2⟩ := MFi.up hf (a : Int) (.b true)
      obtain ⟨u3, u4⟩ := MFi.up u2 (b : Int) (.b true)
      have rA := rdT ha
      have rB := rdT hb
      have qg := hg (l.getD a T0) (l.getD b T0) (hv.2.1 a ha) (hv.2.1 b hb)
      have e0 : er l good ps k = if (hadP ps k a ∨ hadP ps k b) ∨ (a : Int) = b then 43 else if (l.getD a T0).side ≠ 1 ∨ good (l.getD a T0) (l.getD b T0) = false then 42 else 0 := by
        simp only [er, prs, hP, Int.toNat_natCast]
      rw [hj]
      simp only [eT] at rA rB qg
      repeat' first
        | with_reducible refine k_seq ?_
        | with_reducible refine k_skip ?_
        | with_reducible refine k_blkS ?_
        | with_reducible refine k_blkR ?_
        | with_reducible refine k_blkC ?_
        | with_reducible refine k_blkH ?_
        | with_reducible refine k_blkB ?_
        | with_reducible refine k_blkK ?_
        | with_reducible refine k_blkE ?_
        | with_reducible refine k_reg ?_
        | with_reducible refine k_head (by with_unfolding_all rfl) ?_
        | with_reducible refine k_headS ?_
        | (with_reducible refine SepK.mk ?_ ?_; (refine sepQ_P ?_; simp [sepQ, sepG, AOp.late, AOp.free, AOp.xs, AOp.isAl, tokNe, AV.tok, stS_get, strip, AX.val, c58r0, c58r1, c58r2, c58r3, c58r4, c58r5, c58r6, c58r8, c58r9, c58r10, c58r11, c58r12, c58r13, c58r14, c58r15, c58r16, c58r17, c58r18, c58r20, GA]; try omega))
        | with_reducible refine r_done ?_
        | with_reducible refine hr_done ?_
        | with_reducible refine s_go (by simp (disch := omega) only [rQ, hlt', hm, lk, u1, u3, rA, rB, c58r0, c58r1, c58r2, c58r3, c58r4, c58r5, c58r6, c58r8, c58r9, c58r10, c58r11, c58r12, c58r13, c58r14, c58r15, c58r16, c58r17, c58r18, c58r20, EV0, EV1, EV2, EV3, EV4, EV5, EV6, EV7, EV8, VALS, plug, ite_same, decide_true, decide_false, eq_self, ↓reduceIte, reduceCtorEq, Nat.reduceAdd, Nat.reduceEqDiff, Nat.reduceLT, Nat.reduceLeDiff, Nat.reduceMul, Nat.reduceSub, Nat.reduceDiv, Int.reduceToNat, Int.reduceAdd, Int.reduceSub, Int.reduceMul, Int.reduceNeg, Int.reduceEq, Int.reduceLT, Int.reduceLE]; with_reducible rfl) ?_
        | with_reducible refine h_go (by with_unfolding_all rfl) (by simp (disch := omega) only [rQ, hlt', hm, lk, u1, u3, rA, rB, c58r0, c58r1, c58r2, c58r3, c58r4, c58r5, c58r6, c58r8, c58r9, c58r10, c58r11, c58r12, c58r13, c58r14, c58r15, c58r16, c58r17, c58r18, c58r20, EV0, EV1, EV2, EV3, EV4, EV5, EV6, EV7, EV8, VALS, plug, ite_same, decide_true, decide_false, eq_self, ↓reduceIte, reduceCtorEq, Nat.reduceAdd, Nat.reduceEqDiff, Nat.reduceLT, Nat.reduceLeDiff, Nat.reduceMul, Nat.reduceSub, Nat.reduceDiv, Int.reduceToNat, Int.reduceAdd, Int.reduceSub, Int.reduceMul, Int.reduceNeg, Int.reduceEq, Int.reduceLT, Int.reduceLE]; with_reducible rfl) ?_
        | ((with_reducible refine chk_r ?_); refine r_callF (by simp only [CA, Nat.reduceEqDiff, ↓reduceIte]; rfl) (by exact rfl) (by simp only [CA, Nat.reduceEqDiff, ↓reduceIte]; rfl) rfl ?_)
        | ((with_reducible refine chk_h ?_); refine hr_callF (by simp only [CA, Nat.reduceEqDiff, ↓reduceIte]; rfl) (by exact rfl) (by simp only [CA, Nat.reduceEqDiff, ↓reduceIte]; rfl) rfl ?_)
        | ((with_reducible refine chk_r ?_); refine r_callP (by simp only [CA, Nat.reduceEqDiff, ↓reduceIte]; rfl) (by simp only [CA, Nat.reduceEqDiff, ↓reduceIte]; rfl) (by first | exact qg _) rfl ?_)
        | ((with_reducible refine chk_h ?_); refine hr_callP (by simp only [CA, Nat.reduceEqDiff, ↓reduceIte]; rfl) (by simp only [CA, Nat.reduceEqDiff, ↓reduceIte]; rfl) (by first | exact qg _) rfl ?_)
        | ((with_reducible refine chk_h ?_); refine hr_callP1 (by simp only [CA, Nat.reduceEqDiff, ↓reduceIte]; rfl) (by simp only [CA, Nat.reduceEqDiff, ↓reduceIte]; rfl) (by simp (disch := omega) only [CA, Nat.reduceEqDiff, ↓reduceIte, firstTok_nil, firstTok_sl, firstTok_sl0, firstTok_i, firstTok_b, firstTok_ag, firstTok_p, firstTok_s]; rfl) (by first | exact qg _) rfl ?_)
        | ((with_reducible refine chk_r ?_); refine r_callG (by simp only [CA, Nat.reduceEqDiff, ↓reduceIte]; rfl) (by simp only [CA, Nat.reduceEqDiff, ↓reduceIte]; rfl) (by simp only [CA, Nat.reduceEqDiff, ↓reduceIte]; rfl) (by intro hg; (try simp only [BO] at hg); first | exact qg _) rfl ?_)
        | ((with_reducible refine chk_h ?_); refine hr_callG (by simp only [CA, Nat.reduceEqDiff, ↓reduceIte]; rfl) (by simp only [CA, Nat.reduceEqDiff, ↓reduceIte]; rfl) (by simp only [CA, Nat.reduceEqDiff, ↓reduceIte]; rfl) (by intro hg; (try simp only [BO] at hg); first | exact qg _) rfl ?_)
        | ((with_reducible refine chk_h ?_); refine hr_app (by simp (disch := omega) only [rQ, hlt', hm, lk, u1, u3, rA, rB, c58r0, c58r1, c58r2, c58r3, c58r4, c58r5, c58r6, c58r8, c58r9, c58r10, c58r11, c58r12, c58r13, c58r14, c58r15, c58r16, c58r17, c58r18, c58r20, EV0, EV1, EV2, EV3, EV4, EV5, EV6, EV7, EV8, VALS, plug, ite_same, decide_true, decide_false, eq_self, ↓reduceIte, reduceCtorEq, Nat.reduceAdd, Nat.reduceEqDiff, Nat.reduceLT, Nat.reduceLeDiff, Nat.reduceMul, Nat.reduceSub, Nat.reduceDiv, Int.reduceToNat, Int.reduceAdd, Int.reduceSub, Int.reduceMul, Int.reduceNeg, Int.reduceEq, Int.reduceLT, Int.reduceLE]; with_reducible rfl) rfl ?_)
        | (with_reducible refine k_condP (by simp only [GA, Nat.reduceEqDiff, ↓reduceIte]; rfl) (by first | (simp only [BO]; rfl) | rfl) (fun ht => ?_) (fun ht => ?_) <;> try (first | exact False.elim ht | exact absurd rfl ht | exact absurd trivial ht | exact Bool.noConfusion ht))
        | (with_reducible refine k_ret ?_; repeat with_reducible (first | refine ret_thru ?_ | refine ret_blk ?_ | refine fin ?_))
        | (with_reducible refine k_exit ?_; repeat with_reducible (first | refine thru ?_ | refine out_blk ?_ | refine pass (by decide) ?_))
        | (refine post1 ?_; simp only [GA, Nat.reduceEqDiff, ↓reduceIte])
        | (refine post2 ?_; simp only [GA, Nat.reduceEqDiff, ↓reduceIte])
        | (refine post3 ?_; simp only [GA, Nat.reduceEqDiff, ↓reduceIte])
        | (refine postc (by simp only [GA, Nat.reduceEqDiff, ↓reduceIte]; rfl) (by simp (disch := omega) only [rQ, hlt', hm, lk, u1, u3, rA, rB, c58r0, c58r1, c58r2, c58r3, c58r4, c58r5, c58r6, c58r8, c58r9, c58r10, c58r11, c58r12, c58r13, c58r14, c58r15, c58r16, c58r17, c58r18, c58r20, EV0, EV1, EV2, EV3, EV4, EV5, EV6, EV7, EV8, VALS, plug, ite_same, decide_true, decide_false, eq_self, ↓reduceIte, reduceCtorEq, Nat.reduceAdd, Nat.reduceEqDiff, Nat.reduceLT, Nat.reduceLeDiff, Nat.reduceMul, Nat.reduceSub, Nat.reduceDiv, Int.reduceToNat, Int.reduceAdd, Int.reduceSub, Int.reduceMul, Int.reduceNeg, Int.reduceEq, Int.reduceLT, Int.reduceLE]; rfl) ?_)
        | refine post0 ?_
      · rw [if_pos (by first | assumption | (simp only [Bool.and_eq_true, Bool.or_eq_true, decide_eq_true_eq]; assumption))] at e0
        rw [jg_err e0 (by decide) (by omega)]
        exact ends_of
      · rename_i h43
        rw [if_neg h43, if_pos (by first | assumption | (simp only [Bool.and_eq_true, Bool.or_eq_true, decide_eq_true_eq]; assumption))] at e0
        rw [jg_err e0 (by decide) (by omega)]
        exact ends_of
      · rename_i h43
        rw [if_neg h43, if_neg (by first | assumption | (simp only [Bool.and_eq_true, Bool.or_eq_true, decide_eq_true_eq]; assumption))] at e0
        refine ⟨hlt, ⟨tk, _⟩, (by simp only [Am.keep, List.map_cons, List.map_nil, GA, Nat.reduceEqDiff, ↓reduceIte]; try rfl), by simp (disch := omega) only [u1, u3, hm, c58r0, c58r1, c58r2, c58r3, c58r4, c58r5, c58r6, c58r8, c58r9, c58r10, c58r11, c58r12, c58r13, c58r14, c58r15, c58r16, c58r17, c58r18, c58r20, EV0, EV1, EV2, EV3, EV4, EV5, EV6, EV7, EV8, VALS, plug, ite_same, decide_true, decide_false, eq_self, ↓reduceIte, reduceCtorEq, Nat.reduceAdd, Nat.reduceEqDiff, Nat.reduceLT, Nat.reduceLeDiff, Nat.reduceMul, Nat.reduceSub, Nat.reduceDiv, Int.reduceToNat, Int.reduceAdd, Int.reduceSub, Int.reduceMul, Int.reduceNeg, Int.reduceEq, Int.reduceLT, Int.reduceLE] <;> rfl, MFi.set_up (MFi.set_up hf _ _ fun x => Iff.rfl) _ _ fun x => ⟨fun ⟨i, hi, e⟩ => ?_, fun hx => ?_⟩, by rw [jg_go e0 (by omega), Nat.sub_sub]⟩
        · by_cases hik : i = k
          · subst hik
            simp only [prs, hP] at e
            rcases e with e | e
            · exact .inr (.inl e.symm)
            · exact .inl e.symm
          · exact .inr (.inr ⟨i, by omega, e⟩)
        · rcases hx with rfl | rfl | ⟨i, hi, e⟩
          · exact ⟨k, by omega, .inr (by simp only [prs, hP])⟩
          · exact ⟨k, by omega, .inl (by simp only [prs, hP])⟩
          · exact ⟨i, by omega, e⟩
    · obtain rfl : k = ps.length := by omega
      have hlt' : ¬ (ps.length : Int) < ps.length := by omega
      rw [hj, Nat.sub_self]
      repeat' first
        | with_reducible refine k_seq ?_
        | with_reducible refine k_skip ?_
        | with_reducible refine k_blkS ?_
        | with_reducible refine k_blkR ?_
        | with_reducible refine k_blkC ?_
        | with_reducible refine k_blkH ?_
        | with_reducible refine k_blkB ?_
        | with_reducible refine k_blkK ?_
        | with_reducible refine k_blkE ?_
        | with_reducible refine k_reg ?_
        | with_reducible refine k_head (by with_unfolding_all rfl) ?_
        | with_reducible refine k_headS ?_
        | (with_reducible refine SepK.mk ?_ ?_; (refine sepQ_P ?_; simp [sepQ, sepG, AOp.late, AOp.free, AOp.xs, AOp.isAl, tokNe, AV.tok, stS_get, strip, AX.val, c58r0, c58r1, c58r2, c58r3, c58r4, c58r5, c58r6, c58r8, c58r9, c58r10, c58r11, c58r12, c58r13, c58r14, c58r15, c58r16, c58r17, c58r18, c58r20, GA]; try omega))
        | with_reducible refine r_done ?_
        | with_reducible refine hr_done ?_
        | with_reducible refine s_go (by simp (disch := omega) only [hlt', c58r0, c58r1, c58r2, c58r3, c58r4, c58r5, c58r6, c58r8, c58r9, c58r10, c58r11, c58r12, c58r13, c58r14, c58r15, c58r16, c58r17, c58r18, c58r20, EV0, EV1, EV2, EV3, EV4, EV5, EV6, EV7, EV8, VALS, plug, ite_same, decide_true, decide_false, eq_self, ↓reduceIte, reduceCtorEq, Nat.reduceAdd, Nat.reduceEqDiff, Nat.reduceLT, Nat.reduceLeDiff, Nat.reduceMul, Nat.reduceSub, Nat.reduceDiv, Int.reduceToNat, Int.reduceAdd, Int.reduceSub, Int.reduceMul, Int.reduceNeg, Int.reduceEq, Int.reduceLT, Int.reduceLE]; with_reducible rfl) ?_
        | with_reducible refine h_go (by with_unfolding_all rfl) (by simp (disch := omega) only [hlt', c58r0, c58r1, c58r2, c58r3, c58r4, c58r5, c58r6, c58r8, c58r9, c58r10, c58r11, c58r12, c58r13, c58r14, c58r15, c58r16, c58r17, c58r18, c58r20, EV0, EV1, EV2, EV3, EV4, EV5, EV6, EV7, EV8, VALS, plug, ite_same, decide_true, decide_false, eq_self, ↓reduceIte, reduceCtorEq, Nat.reduceAdd, Nat.reduceEqDiff, Nat.reduceLT, Nat.reduceLeDiff, Nat.reduceMul, Nat.reduceSub, Nat.reduceDiv, Int.reduceToNat, Int.reduceAdd, Int.reduceSub, Int.reduceMul, Int.reduceNeg, Int.reduceEq, Int.reduceLT, Int.reduceLE]; with_reducible rfl) ?_
        | ((with_reducible refine chk_r ?_); refine r_callF (by simp only [CA, Nat.reduceEqDiff, ↓reduceIte]; rfl) (by exact rfl) (by simp only [CA, Nat.reduceEqDiff, ↓reduceIte]; rfl) rfl ?_)
        | ((with_reducible refine chk_h ?_); refine hr_callF (by simp only [CA, Nat.reduceEqDiff, ↓reduceIte]; rfl) (by exact rfl) (by simp only [CA, Nat.reduceEqDiff, ↓reduceIte]; rfl) rfl ?_)
        | ((with_reducible refine chk_h ?_); refine hr_app (by simp (disch := omega) only [hlt', c58r0, c58r1, c58r2, c58r3, c58r4, c58r5, c58r6, c58r8, c58r9, c58r10, c58r11, c58r12, c58r13, c58r14, c58r15, c58r16, c58r17, c58r18, c58r20, EV0, EV1, EV2, EV3, EV4, EV5, EV6, EV7, EV8, VALS, plug, ite_same, decide_true, decide_false, eq_self, ↓reduceIte, reduceCtorEq, Nat.reduceAdd, Nat.reduceEqDiff, Nat.reduceLT, Nat.reduceLeDiff, Nat.reduceMul, Nat.reduceSub, Nat.reduceDiv, Int.reduceToNat, Int.reduceAdd, Int.reduceSub, Int.reduceMul, Int.reduceNeg, Int.reduceEq, Int.reduceLT, Int.reduceLE]; with_reducible rfl) rfl ?_)
        | (with_reducible refine k_condP (by simp only [GA, Nat.reduceEqDiff, ↓reduceIte]; rfl) (by first | (simp only [BO]; rfl) | rfl) (fun ht => ?_) (fun ht => ?_) <;> try (first | exact False.elim ht | exact absurd rfl ht | exact absurd trivial ht | exact Bool.noConfusion ht))
        | (with_reducible refine k_ret ?_; repeat with_reducible (first | refine ret_thru ?_ | refine ret_blk ?_ | refine fin ?_))
        | (with_reducible refine k_exit ?_; repeat with_reducible (first | refine thru ?_ | refine out_blk ?_ | refine pass (by decide) ?_))
        | (refine post1 ?_; simp only [GA, Nat.reduceEqDiff, ↓reduceIte])
        | (refine post2 ?_; simp only [GA, Nat.reduceEqDiff, ↓reduceIte])
        | (refine post3 ?_; simp only [GA, Nat.reduceEqDiff, ↓reduceIte])
        | (refine postc (by simp only [GA, Nat.reduceEqDiff, ↓reduceIte]; rfl) (by simp (disch := omega) only [hlt', c58r0, c58r1, c58r2, c58r3, c58r4, c58r5, c58r6, c58r8, c58r9, c58r10, c58r11, c58r12, c58r13, c58r14, c58r15, c58r16, c58r17, c58r18, c58r20, EV0, EV1, EV2, EV3, EV4, EV5, EV6, EV7, EV8, VALS, plug, ite_same, decide_true, decide_false, eq_self, ↓reduceIte, reduceCtorEq, Nat.reduceAdd, Nat.reduceEqDiff, Nat.reduceLT, Nat.reduceLeDiff, Nat.reduceMul, Nat.reduceSub, Nat.reduceDiv, Int.reduceToNat, Int.reduceAdd, Int.reduceSub, Int.reduceMul, Int.reduceNeg, Int.reduceEq, Int.reduceLT, Int.reduceLE]; rfl) ?_)
        | refine post0 ?_
      all_goals first | exact ends_of | exact ends_eq rfl
end Go.Proofs.Ytbhkbaapfioijaa
set_option linter.unusedVariables false
set_option linter.unusedSimpArgs false
namespace Go.Proofs.Ytbhkbaapfioijaa
open Go Go.Am Go.Proofs Go.Sort
theorem pc56 (l : List T) (hl : l.length ≤ 9223372036854775807) (i : Int) : PC Try.prog 56 [vT l, .i .i64 i] (.b (decide (0 ≤ i ∧ i < l.length))) := by
  refine pc_fn fn56 (by simp only [AV.plains, AV.plain, il_plain, bl_plain, Bool.and_true, Bool.true_and, Bool.and_self, flT_plain]) (by simp only [AV.plains, AV.plain, il_plain, bl_plain, Bool.and_true, Bool.true_and, Bool.and_self, flT_plain]) (Nat.le_of_ble_eq_true rfl) ?_
  rw [initSt2]
  repeat' first
    | with_reducible refine k_seq ?_
    | with_reducible refine k_skip ?_
    | with_reducible refine k_blkS ?_
    | with_reducible refine k_blkR ?_
    | with_reducible refine k_blkC ?_
    | with_reducible refine k_blkH ?_
    | with_reducible refine k_blkB ?_
    | with_reducible refine k_blkK ?_
    | with_reducible refine k_blkE ?_
    | with_reducible refine k_reg ?_
    | with_reducible refine r_done ?_
    | with_reducible refine s_go (by simp (disch := omega) only [c56r0, c56r1, EV0, EV1, EV2, EV3, EV4, EV5, EV6, EV7, EV8, VALS, plug, ite_same, decide_true, decide_false, eq_self, ↓reduceIte, reduceCtorEq, Nat.reduceAdd, Nat.reduceEqDiff, Nat.reduceLT, Nat.reduceLeDiff, Nat.reduceMul, Nat.reduceSub, Nat.reduceDiv, Int.reduceToNat, Int.reduceAdd, Int.reduceSub, Int.reduceMul, Int.reduceNeg, Int.reduceEq, Int.reduceLT, Int.reduceLE]; with_reducible rfl) ?_
    | ((with_reducible refine chk_r ?_); refine r_callF (by simp only [CA, Nat.reduceEqDiff, ↓reduceIte]; rfl) (by exact rfl) (by simp only [CA, Nat.reduceEqDiff, ↓reduceIte]; rfl) rfl ?_)
    | (with_reducible refine k_condP (by simp only [GA, Nat.reduceEqDiff, ↓reduceIte]; rfl) (by first | (simp only [BO]; rfl) | rfl) (fun ht => ?_) (fun ht => ?_) <;> try (first | exact False.elim ht | exact absurd rfl ht | exact absurd trivial ht | exact Bool.noConfusion ht))
    | (with_reducible refine k_ret ?_; repeat with_reducible (first | refine ret_thru ?_ | refine ret_blk ?_ | refine fin ?_))
    | (with_reducible refine k_exit ?_; repeat with_reducible (first | refine thru ?_ | refine out_blk ?_ | refine pass (by decide) ?_))
    | (refine post1 ?_; simp only [GA, Nat.reduceEqDiff, ↓reduceIte])
    | (refine post2 ?_; simp only [GA, Nat.reduceEqDiff, ↓reduceIte])
    | (refine post3 ?_; simp only [GA, Nat.reduceEqDiff, ↓reduceIte])
    | (refine postc (by simp only [GA, Nat.reduceEqDiff, ↓reduceIte]; rfl) (by simp (disch := omega) only [c56r0, c56r1, EV0, EV1, EV2, EV3, EV4, EV5, EV6, EV7, EV8, VALS, plug, ite_same, decide_true, decide_false, eq_self, ↓reduceIte, reduceCtorEq, Nat.reduceAdd, Nat.reduceEqDiff, Nat.reduceLT, Nat.reduceLeDiff, Nat.reduceMul, Nat.reduceSub, Nat.reduceDiv, Int.reduceToNat, Int.reduceAdd, Int.reduceSub, Int.reduceMul, Int.reduceNeg, Int.reduceEq, Int.reduceLT, Int.reduceLE]; rfl) ?_)
    | refine post0 ?_
  refine ends_eq (b_eq ?_); rw [Bool.eq_iff_iff]
  simp
theorem can_side {a b : T} {tol : Int} (hb : vt b = true) : ((¬ a.side = 1 ∨ ¬ b.side = 2) ∨ can a b tol = false) ↔ (a.side ≠ 1 ∨ can a b tol = false) := by
  constructor
  · rintro ((h | h) | h)
    · exact .inl h
    · by_cases h1 : a.side = 1
      · right
        simp only [vt, decide_eq_true_eq] at hb
        have : mates a b = false := by unfold mates; exact decide_eq_false (by omega)
        unfold can; rw [this]; rfl
      · exact .inl h1
    · exact .inr h
  · rintro (h | h)
    · exact .inl (.inl h)
    · exact .inr h
theorem getD_set (us : List Bool) (a i : Nat) (ha : a < us.length) : (us.set a true).getD i false = (decide (i = a) || us.getD i false) := by
  rw [List.getD_eq_getElem?_getD, List.getElem?_set]
  by_cases h : a = i
  · subst h; simp [ha]
  · rw [if_neg h, decide_eq_false (fun e => h e.symm), Bool.false_or, List.getD_eq_getElem?_getD]
theorem pc54 (l : List T) (hv : VL l) (ps : List (Int × Int)) (hp : ps.length ≤ 9223372036854775807) (tol : Int) : PC Try.prog 54 [vT l, .i .i64 tol, vQ ps] (.i .i64 (jd l (fun a b => can a b tol) ps)) := by
  refine pc_fn fn54 (by simp only [AV.plains, AV.plain, il_plain, bl_plain, Bool.and_true, Bool.true_and, Bool.and_self, flT_plain, flQ_plain]) (by simp only [AV.plains, AV.plain, il_plain, bl_plain, Bool.and_true, Bool.true_and, Bool.and_self, flT_plain, flQ_plain]) (Nat.le_of_ble_eq_true rfl) ?_
  rw [initSt3]
  have hl := hv.len
  have q56 := pc56 l (by omega)
  repeat' first
    | with_reducible refine k_seq ?_
    | with_reducible refine k_skip ?_
    | with_reducible refine k_blkS ?_
    | with_reducible refine k_blkR ?_
    | with_reducible refine k_blkC ?_
    | with_reducible refine k_blkH ?_
    | with_reducible refine k_blkB ?_
    | with_reducible refine k_blkK ?_
    | with_reducible refine k_blkE ?_
    | with_reducible refine k_reg ?_
    | with_reducible refine k_head (by with_unfolding_all rfl) ?_
    | with_reducible refine k_headS ?_
    | (with_reducible refine SepK.mk ?_ ?_; (refine sepQ_P ?_; simp [sepQ, sepG, AOp.late, AOp.free, AOp.xs, AOp.isAl, tokNe, AV.tok, stS_get, strip, AX.val, c54r0, c54r1, c54r2, c54r3, c54r4, c54r5, c54r7, c54r8, c54r9, c54r10, c54r11, c54r12, c54r13, c54r14, c54r15, c54r16, c54r18, GA]; try omega))
    | with_reducible refine r_done ?_
    | with_reducible refine hr_done ?_
    | with_reducible refine s_go (by simp (disch := omega) only [c54r0, c54r1, c54r2, c54r3, c54r4, c54r5, c54r7, c54r8, c54r9, c54r10, c54r11, c54r12, c54r13, c54r14, c54r15, c54r16, c54r18, EV0, EV1, EV2, EV3, EV4, EV5, EV6, EV7, EV8, VALS, plug, ite_same, decide_true, decide_false, eq_self, ↓reduceIte, reduceCtorEq, Nat.reduceAdd, Nat.reduceEqDiff, Nat.reduceLT, Nat.reduceLeDiff, Nat.reduceMul, Nat.reduceSub, Nat.reduceDiv, Int.reduceToNat, Int.reduceAdd, Int.reduceSub, Int.reduceMul, Int.reduceNeg, Int.reduceEq, Int.reduceLT, Int.reduceLE]; with_reducible rfl) ?_
    | with_reducible refine h_go (by with_unfolding_all rfl) (by simp (disch := omega) only [c54r0, c54r1, c54r2, c54r3, c54r4, c54r5, c54r7, c54r8, c54r9, c54r10, c54r11, c54r12, c54r13, c54r14, c54r15, c54r16, c54r18, EV0, EV1, EV2, EV3, EV4, EV5, EV6, EV7, EV8, VALS, plug, ite_same, decide_true, decide_false, eq_self, ↓reduceIte, reduceCtorEq, Nat.reduceAdd, Nat.reduceEqDiff, Nat.reduceLT, Nat.reduceLeDiff, Nat.reduceMul, Nat.reduceSub, Nat.reduceDiv, Int.reduceToNat, Int.reduceAdd, Int.reduceSub, Int.reduceMul, Int.reduceNeg, Int.reduceEq, Int.reduceLT, Int.reduceLE]; with_reducible rfl) ?_
    | ((with_reducible refine chk_r ?_); refine r_callF (by simp only [CA, Nat.reduceEqDiff, ↓reduceIte]; rfl) (by exact rfl) (by simp only [CA, Nat.reduceEqDiff, ↓reduceIte]; rfl) rfl ?_)
    | ((with_reducible refine chk_h ?_); refine hr_callF (by simp only [CA, Nat.reduceEqDiff, ↓reduceIte]; rfl) (by exact rfl) (by simp only [CA, Nat.reduceEqDiff, ↓reduceIte]; rfl) rfl ?_)
    | ((with_reducible refine chk_h ?_); refine hr_app (by simp (disch := omega) only [c54r0, c54r1, c54r2, c54r3, c54r4, c54r5, c54r7, c54r8, c54r9, c54r10, c54r11, c54r12, c54r13, c54r14, c54r15, c54r16, c54r18, EV0, EV1, EV2, EV3, EV4, EV5, EV6, EV7, EV8, VALS, plug, ite_same, decide_true, decide_false, eq_self, ↓reduceIte, reduceCtorEq, Nat.reduceAdd, Nat.reduceEqDiff, Nat.reduceLT, Nat.reduceLeDiff, Nat.reduceMul, Nat.reduceSub, Nat.reduceDiv, Int.reduceToNat, Int.reduceAdd, Int.reduceSub, Int.reduceMul, Int.reduceNeg, Int.reduceEq, Int.reduceLT, Int.reduceLE]; with_reducible rfl) rfl ?_)
    | (with_reducible refine k_condP (by simp only [GA, Nat.reduceEqDiff, ↓reduceIte]; rfl) (by first | (simp only [BO]; rfl) | rfl) (fun ht => ?_) (fun ht => ?_) <;> try (first | exact False.elim ht | exact absurd rfl ht | exact absurd trivial ht | exact Bool.noConfusion ht))
    | (with_reducible refine k_ret ?_; repeat with_reducible (first | refine ret_thru ?_ | refine ret_blk ?_ | refine fin ?_))
    | (with_reducible refine k_exit ?_; repeat with_reducible (first | refine thru ?_ | refine out_blk ?_ | refine pass (by decide) ?_))
    | (refine post1 ?_; simp only [GA, Nat.reduceEqDiff, ↓reduceIte])
    | (refine post2 ?_; simp only [GA, Nat.reduceEqDiff, ↓reduceIte])
    | (refine post3 ?_; simp only [GA, Nat.reduceEqDiff, ↓reduceIte])
    | (refine postc (by simp only [GA, Nat.reduceEqDiff, ↓reduceIte]; rfl) (by simp (disch := omega) only [c54r0, c54r1, c54r2, c54r3, c54r4, c54r5, c54r7, c54r8, c54r9, c54r10, c54r11, c54r12, c54r13, c54r14, c54r15, c54r16, c54r18, EV0, EV1, EV2, EV3, EV4, EV5, EV6, EV7, EV8, VALS, plug, ite_same, decide_true, decide_false, eq_self, ↓reduceIte, reduceCtorEq, Nat.reduceAdd, Nat.reduceEqDiff, Nat.reduceLT, Nat.reduceLeDiff, Nat.reduceMul, Nat.reduceSub, Nat.reduceDiv, Int.reduceToNat, Int.reduceAdd, Int.reduceSub, Int.reduceMul, Int.reduceNeg, Int.reduceEq, Int.reduceLT, Int.reduceLE]; rfl) ?_)
    | refine post0 ?_
  refine k_blk (k_loopS (X := Unit) [0, 1, 2, 7] ps.length (fun k _ => [(0, vT l), (1, .i .i64 tol), (2, vQ ps), (7, .i .i64 (k : Int))])
    (fun k _ h => ∀ i, i < k → rng l.length (prs ps i)) () (by simp only [Am.keep, List.map_cons, List.map_nil, GA, Nat.reduceEqDiff, ↓reduceIte]; try rfl) (fun i hi => by omega) ?_)
  rintro k _ h hk hr ok pos
  by_cases hlt : k < ps.length
  · have g0 := getQ0 hlt
    have g1 := getQ1 hlt
    have hlt' : (k : Int) < ps.length := by omega
    repeat' first
      | with_reducible refine k_seq ?_
      | with_reducible refine k_skip ?_
      | with_reducible refine k_blkS ?_
      | with_reducible refine k_blkR ?_
      | with_reducible refine k_blkC ?_
      | with_reducible refine k_blkH ?_
      | with_reducible refine k_blkB ?_
      | with_reducible refine k_blkK ?_
      | with_reducible refine k_blkE ?_
      | with_reducible refine k_reg ?_
      | with_reducible refine k_head (by with_unfolding_all rfl) ?_
      | with_reducible refine k_headS ?_
      | (with_reducible refine SepK.mk ?_ ?_; (refine sepQ_P ?_; simp [sepQ, sepG, AOp.late, AOp.free, AOp.xs, AOp.isAl, tokNe, AV.tok, stS_get, strip, AX.val, c54r0, c54r1, c54r2, c54r3, c54r4, c54r5, c54r7, c54r8, c54r9, c54r10, c54r11, c54r12, c54r13, c54r14, c54r15, c54r16, c54r18, GA]; try omega))
      | with_reducible refine r_done ?_
      | with_reducible refine hr_done ?_
      | with_reducible refine s_go (by simp (disch := omega) only [g0, g1, hlt', c54r0, c54r1, c54r2, c54r3, c54r4, c54r5, c54r7, c54r8, c54r9, c54r10, c54r11, c54r12, c54r13, c54r14, c54r15, c54r16, c54r18, EV0, EV1, EV2, EV3, EV4, EV5, EV6, EV7, EV8, VALS, plug, ite_same, decide_true, decide_false, eq_self, ↓reduceIte, reduceCtorEq, Nat.reduceAdd, Nat.reduceEqDiff, Nat.reduceLT, Nat.reduceLeDiff, Nat.reduceMul, Nat.reduceSub, Nat.reduceDiv, Int.reduceToNat, Int.reduceAdd, Int.reduceSub, Int.reduceMul, Int.reduceNeg, Int.reduceEq, Int.reduceLT, Int.reduceLE]; with_reducible rfl) ?_
      | with_reducible refine h_go (by with_unfolding_all rfl) (by simp (disch := omega) only [g0, g1, hlt', c54r0, c54r1, c54r2, c54r3, c54r4, c54r5, c54r7, c54r8, c54r9, c54r10, c54r11, c54r12, c54r13, c54r14, c54r15, c54r16, c54r18, EV0, EV1, EV2, EV3, EV4, EV5, EV6, EV7, EV8, VALS, plug, ite_same, decide_true, decide_false, eq_self, ↓reduceIte, reduceCtorEq, Nat.reduceAdd, Nat.reduceEqDiff, Nat.reduceLT, Nat.reduceLeDiff, Nat.reduceMul, Nat.reduceSub, Nat.reduceDiv, Int.reduceToNat, Int.reduceAdd, Int.reduceSub, Int.reduceMul, Int.reduceNeg, Int.reduceEq, Int.reduceLT, Int.reduceLE]; with_reducible rfl) ?_
      | ((with_reducible refine chk_r ?_); refine r_callF (by simp only [CA, Nat.reduceEqDiff, ↓reduceIte]; rfl) (by exact rfl) (by simp only [CA, Nat.reduceEqDiff, ↓reduceIte]; rfl) rfl ?_)
      | ((with_reducible refine chk_h ?_); refine hr_callF (by simp only [CA, Nat.reduceEqDiff, ↓reduceIte]; rfl) (by exact rfl) (by simp only [CA, Nat.reduceEqDiff, ↓reduceIte]; rfl) rfl ?_)
      | ((with_reducible refine chk_r ?_); refine r_callP (by simp only [CA, Nat.reduceEqDiff, ↓reduceIte]; rfl) (by simp only [CA, Nat.reduceEqDiff, ↓reduceIte]; rfl) (by first | exact q56 _ _) rfl ?_)
      | ((with_reducible refine chk_h ?_); refine hr_callP (by simp only [CA, Nat.reduceEqDiff, ↓reduceIte]; rfl) (by simp only [CA, Nat.reduceEqDiff, ↓reduceIte]; rfl) (by first | exact q56 _ _) rfl ?_)
      | ((with_reducible refine chk_h ?_); refine hr_callP1 (by simp only [CA, Nat.reduceEqDiff, ↓reduceIte]; rfl) (by simp only [CA, Nat.reduceEqDiff, ↓reduceIte]; rfl) (by simp (disch := omega) only [CA, Nat.reduceEqDiff, ↓reduceIte, firstTok_nil, firstTok_sl, firstTok_sl0, firstTok_i, firstTok_b, firstTok_ag, firstTok_p, firstTok_s]; rfl) (by first | exact q56 _ _) rfl ?_)
      | ((with_reducible refine chk_r ?_); refine r_callG (by simp only [CA, Nat.reduceEqDiff, ↓reduceIte]; rfl) (by simp only [CA, Nat.reduceEqDiff, ↓reduceIte]; rfl) (by simp only [CA, Nat.reduceEqDiff, ↓reduceIte]; rfl) (by intro hg; (try simp only [BO] at hg); first | exact q56 _ _) rfl ?_)
      | ((with_reducible refine chk_h ?_); refine hr_callG (by simp only [CA, Nat.reduceEqDiff, ↓reduceIte]; rfl) (by simp only [CA, Nat.reduceEqDiff, ↓reduceIte]; rfl) (by simp only [CA, Nat.reduceEqDiff, ↓reduceIte]; rfl) (by intro hg; (try simp only [BO] at hg); first | exact q56 _ _) rfl ?_)
      | ((with_reducible refine chk_h ?_); refine hr_app (by simp (disch := omega) only [g0, g1, hlt', c54r0, c54r1, c54r2, c54r3, c54r4, c54r5, c54r7, c54r8, c54r9, c54r10, c54r11, c54r12, c54r13, c54r14, c54r15, c54r16, c54r18, EV0, EV1, EV2, EV3, EV4, EV5, EV6, EV7, EV8, VALS, plug, ite_same, decide_true, decide_false, eq_self, ↓reduceIte, reduceCtorEq, Nat.reduceAdd, Nat.reduceEqDiff, Nat.reduceLT, Nat.reduceLeDiff, Nat.reduceMul, Nat.reduceSub, Nat.reduceDiv, Int.reduceToNat, Int.reduceAdd, Int.reduceSub, Int.reduceMul, Int.reduceNeg, Int.reduceEq, Int.reduceLT, Int.reduceLE]; with_reducible rfl) rfl ?_)
      | (with_reducible refine k_condP (by simp only [GA, Nat.reduceEqDiff, ↓reduceIte]; rfl) (by first | (simp only [BO]; rfl) | rfl) (fun ht => ?_) (fun ht => ?_) <;> try (first | exact False.elim ht | exact absurd rfl ht | exact absurd trivial ht | exact Bool.noConfusion ht))
      | (with_reducible refine k_ret ?_; repeat with_reducible (first | refine ret_thru ?_ | refine ret_blk ?_ | refine fin ?_))
      | (with_reducible refine k_exit ?_; repeat with_reducible (first | refine thru ?_ | refine out_blk ?_ | refine pass (by decide) ?_))
      | (refine post1 ?_; simp only [GA, Nat.reduceEqDiff, ↓reduceIte])
      | (refine post2 ?_; simp only [GA, Nat.reduceEqDiff, ↓reduceIte])
      | (refine post3 ?_; simp only [GA, Nat.reduceEqDiff, ↓reduceIte])
      | (refine postc (by simp only [GA, Nat.reduceEqDiff, ↓reduceIte]; rfl) (by simp (disch := omega) only [g0, g1, hlt', c54r0, c54r1, c54r2, c54r3, c54r4, c54r5, c54r7, c54r8, c54r9, c54r10, c54r11, c54r12, c54r13, c54r14, c54r15, c54r16, c54r18, EV0, EV1, EV2, EV3, EV4, EV5, EV6, EV7, EV8, VALS, plug, ite_same, decide_true, decide_false, eq_self, ↓reduceIte, reduceCtorEq, Nat.reduceAdd, Nat.reduceEqDiff, Nat.reduceLT, Nat.reduceLeDiff, Nat.reduceMul, Nat.reduceSub, Nat.reduceDiv, Int.reduceToNat, Int.reduceAdd, Int.reduceSub, Int.reduceMul, Int.reduceNeg, Int.reduceEq, Int.reduceLT, Int.reduceLE]; rfl) ?_)
      | refine post0 ?_
    · rw [jd_bad hlt (by unfold rng; simp only [prs] at *; omega)]
      exact ends_of
    · refine ⟨hlt, (), (by simp only [Am.keep, List.map_cons, List.map_nil, GA, Nat.reduceEqDiff, ↓reduceIte]; try rfl), fun i hi => ?_⟩
      by_cases e : i = k
      · subst e; unfold rng; simp only [prs] at *; omega
      · exact hr i (by omega)
  · obtain rfl : k = ps.length := by omega
    have hlt' : ¬ (ps.length : Int) < ps.length := by omega
    rw [jd_ok hr]
    repeat' first
      | with_reducible refine k_seq ?_
      | with_reducible refine k_skip ?_
      | with_reducible refine k_blkS ?_
      | with_reducible refine k_blkR ?_
      | with_reducible refine k_blkC ?_
      | with_reducible refine k_blkH ?_
      | with_reducible refine k_blkB ?_
      | with_reducible refine k_blkK ?_
      | with_reducible refine k_blkE ?_
      | with_reducible refine k_reg ?_
      | with_reducible refine k_head (by with_unfolding_all rfl) ?_
      | with_reducible refine k_headS ?_
      | (with_reducible refine SepK.mk ?_ ?_; (refine sepQ_P ?_; simp [sepQ, sepG, AOp.late, AOp.free, AOp.xs, AOp.isAl, tokNe, AV.tok, stS_get, strip, AX.val, c54r0, c54r1, c54r2, c54r3, c54r4, c54r5, c54r7, c54r8, c54r9, c54r10, c54r11, c54r12, c54r13, c54r14, c54r15, c54r16, c54r18, GA]; try omega))
      | with_reducible refine r_done ?_
      | with_reducible refine hr_done ?_
      | with_reducible refine s_go (by simp (disch := omega) only [hlt', c54r0, c54r1, c54r2, c54r3, c54r4, c54r5, c54r7, c54r8, c54r9, c54r10, c54r11, c54r12, c54r13, c54r14, c54r15, c54r16, c54r18, EV0, EV1, EV2, EV3, EV4, EV5, EV6, EV7, EV8, VALS, plug, ite_same, decide_true, decide_false, eq_self, ↓reduceIte, reduceCtorEq, Nat.reduceAdd, Nat.reduceEqDiff, Nat.reduceLT, Nat.reduceLeDiff, Nat.reduceMul, Nat.reduceSub, Nat.reduceDiv, Int.reduceToNat, Int.reduceAdd, Int.reduceSub, Int.reduceMul, Int.reduceNeg, Int.reduceEq, Int.reduceLT, Int.reduceLE]; with_reducible rfl) ?_
      | with_reducible refine h_go (by with_unfolding_all rfl) (by simp (disch := omega) only [hlt', c54r0, c54r1, c54r2, c54r3, c54r4, c54r5, c54r7, c54r8, c54r9, c54r10, c54r11, c54r12, c54r13, c54r14, c54r15, c54r16, c54r18, EV0, EV1, EV2, EV3, EV4, EV5, EV6, EV7, EV8, VALS, plug, ite_same, decide_true, decide_false, eq_self, ↓reduceIte, reduceCtorEq, Nat.reduceAdd, Nat.reduceEqDiff, Nat.reduceLT, Nat.reduceLeDiff, Nat.reduceMul, Nat.reduceSub, Nat.reduceDiv, Int.reduceToNat, Int.reduceAdd, Int.reduceSub, Int.reduceMul, Int.reduceNeg, Int.reduceEq, Int.reduceLT, Int.reduceLE]; with_reducible rfl) ?_
      | ((with_reducible refine chk_r ?_); refine r_callF (by simp only [CA, Nat.reduceEqDiff, ↓reduceIte]; rfl) (by exact rfl) (by simp only [CA, Nat.reduceEqDiff, ↓reduceIte]; rfl) rfl ?_)
      | ((with_reducible refine chk_h ?_); refine hr_callF (by simp only [CA, Nat.reduceEqDiff, ↓reduceIte]; rfl) (by exact rfl) (by simp only [CA, Nat.reduceEqDiff, ↓reduceIte]; rfl) rfl ?_)
      | ((with_reducible refine chk_h ?_); refine hr_app (by simp (disch := omega) only [hlt', c54r0, c54r1, c54r2, c54r3, c54r4, c54r5, c54r7, c54r8, c54r9, c54r10, c54r11, c54r12, c54r13, c54r14, c54r15, c54r16, c54r18, EV0, EV1, EV2, EV3, EV4, EV5, EV6, EV7, EV8, VALS, plug, ite_same, decide_true, decide_false, eq_self, ↓reduceIte, reduceCtorEq, Nat.reduceAdd, Nat.reduceEqDiff, Nat.reduceLT, Nat.reduceLeDiff, Nat.reduceMul, Nat.reduceSub, Nat.reduceDiv, Int.reduceToNat, Int.reduceAdd, Int.reduceSub, Int.reduceMul, Int.reduceNeg, Int.reduceEq, Int.reduceLT, Int.reduceLE]; with_reducible rfl) rfl ?_)
      | (with_reducible refine k_condP (by simp only [GA, Nat.reduceEqDiff, ↓reduceIte]; rfl) (by first | (simp only [BO]; rfl) | rfl) (fun ht => ?_) (fun ht => ?_) <;> try (first | exact False.elim ht | exact absurd rfl ht | exact absurd trivial ht | exact Bool.noConfusion ht))
      | (with_reducible refine k_ret ?_; repeat with_reducible (first | refine ret_thru ?_ | refine ret_blk ?_ | refine fin ?_))
      | (with_reducible refine k_exit ?_; repeat with_reducible (first | refine thru ?_ | refine out_blk ?_ | refine pass (by decide) ?_))
      | (refine post1 ?_; simp only [GA, Nat.reduceEqDiff, ↓reduceIte])
      | (refine post2 ?_; simp only [GA, Nat.reduceEqDiff, ↓reduceIte])
      | (refine post3 ?_; simp only [GA, Nat.reduceEqDiff, ↓reduceIte])
      | (refine postc (by simp only [GA, Nat.reduceEqDiff, ↓reduceIte]; rfl) (by simp (disch := omega) only [hlt', c54r0, c54r1, c54r2, c54r3, c54r4, c54r5, c54r7, c54r8, c54r9, c54r10, c54r11, c54r12, c54r13, c54r14, c54r15, c54r16, c54r18, EV0, EV1, EV2, EV3, EV4, EV5, EV6, EV7, EV8, VALS, plug, ite_same, decide_true, decide_false, eq_self, ↓reduceIte, reduceCtorEq, Nat.reduceAdd, Nat.reduceEqDiff, Nat.reduceLT, Nat.reduceLeDiff, Nat.reduceMul, Nat.reduceSub, Nat.reduceDiv, Int.reduceToNat, Int.reduceAdd, Int.reduceSub, Int.reduceMul, Int.reduceNeg, Int.reduceEq, Int.reduceLT, Int.reduceLE]; rfl) ?_)
      | refine post0 ?_
    refine k_blk (k_loopS (X := Nat × List Bool) [0, 1, 2, 8, 9] ps.length (fun k x => [(0, vT l), (1, .i .i64 tol), (2, vQ ps), (8, .sl x.1 0 l.length 1), (9, .i .i64 (k : Int))])
      (fun k x h => x.1 ≠ 0 ∧ h.m x.1 = some (.cells true (bl x.2)) ∧ x.2.length = l.length ∧ (∀ i, i < l.length → x.2.getD i false = decide (hadP ps k i)) ∧ jg l (fun a b => can a b tol) ps ps.length 0 = jg l (fun a b => can a b tol) ps (ps.length - k) k) (_, List.replicate l.length false) (by simp only [Am.keep, List.map_cons, List.map_nil, GA, Nat.reduceEqDiff, ↓reduceIte]; try rfl) ⟨by simp only []; omega, by simp (disch := omega) only [bl_rep, c54r0, c54r1, c54r2, c54r3, c54r4, c54r5, c54r7, c54r8, c54r9, c54r10, c54r11, c54r12, c54r13, c54r14, c54r15, c54r16, c54r18, EV0, EV1, EV2, EV3, EV4, EV5, EV6, EV7, EV8, VALS, plug, ite_same, decide_true, decide_false, eq_self, ↓reduceIte, reduceCtorEq, Nat.reduceAdd, Nat.reduceEqDiff, Nat.reduceLT, Nat.reduceLeDiff, Nat.reduceMul, Nat.reduceSub, Nat.reduceDiv, Int.reduceToNat, Int.reduceAdd, Int.reduceSub, Int.reduceMul, Int.reduceNeg, Int.reduceEq, Int.reduceLT, Int.reduceLE] <;> rfl, by simp, fun i hi => by simp [hi], rfl⟩ ?_)
    rintro k ⟨tk, us⟩ h hk ⟨hx, hm, hu, hf, hj⟩ ok pos
    simp only at hx hm hu hf hj ⊢
    have htk := ok.m hm
    by_cases hlt : k < ps.length
    · have g0 := getQ0 hlt
      have g1 := getQ1 hlt
      have hlt' : (k : Int) < ps.length := by omega
      have hrk := hr k hlt
      obtain ⟨a, b, hP, ha, hb⟩ : ∃ a b : Nat, ps.getD k (0, 0) = ((a : Int), (b : Int)) ∧ a < l.length ∧ b < l.length :=
        ⟨(ps.getD k (0, 0)).1.toNat, (ps.getD k (0, 0)).2.toNat, by
          unfold rng at hrk; simp only [prs] at hrk
          exact Prod.ext (by simp only; omega) (by simp only; omega), by unfold rng at hrk; simp only [prs] at hrk; omega, by unfold rng at hrk; simp only [prs] at hrk; omega⟩
      rw [hP] at g0 g1
      simp only at g0 g1
      have va := hf a ha
      have vb := hf b hb
      have rA := rdT ha
      have rB := rdT hb
      have sA := getT1 ha
      have sB := getT1 hb
      have qg := pc57 (l.getD a T0) (l.getD b T0) (hv.2.1 a ha) (hv.2.1 b hb) tol
      have e0 : er l (fun a b => can a b tol) ps k = if (hadP ps k a ∨ hadP ps k b) ∨ (a : Int) = b then 43 else if (l.getD a T0).side ≠ 1 ∨ can (l.getD a T0) (l.getD b T0) tol = false then 42 else 0 := by
        simp only [er, prs, hP, Int.toNat_natCast]
      simp only [← can_side (hv.2.1 b hb)] at e0
      rw [hj]
      simp only [eT] at rA rB qg
      repeat' first
        | with_reducible refine k_seq ?_
        | with_reducible refine k_skip ?_
        | with_reducible refine k_blkS ?_
        | with_reducible refine k_blkR ?_
        | with_reducible refine k_blkC ?_
        | with_reducible refine k_blkH ?_
        | with_reducible refine k_blkB ?_
        | with_reducible refine k_blkK ?_
        | with_reducible refine k_blkE ?_
        | with_reducible refine k_reg ?_
        | with_reducible refine k_head (by with_unfolding_all rfl) ?_
        | with_reducible refine k_headS ?_
        | (with_reducible refine SepK.mk ?_ ?_; (refine sepQ_P ?_; simp [sepQ, sepG, AOp.late, AOp.free, AOp.xs, AOp.isAl, tokNe, AV.tok, stS_get, strip, AX.val, c54r0, c54r1, c54r2, c54r3, c54r4, c54r5, c54r7, c54r8, c54r9, c54r10, c54r11, c54r12, c54r13, c54r14, c54r15, c54r16, c54r18, GA]; try omega))
        | with_reducible refine r_done ?_
        | with_reducible refine hr_done ?_
        | with_reducible refine s_go (by simp (disch := omega) only [g0, g1, hlt', hm, row_m hm, read_row (row_m hm), va, vb, rA, rB, sA, sB, hu, List.length_set, c54r0, c54r1, c54r2, c54r3, c54r4, c54r5, c54r7, c54r8, c54r9, c54r10, c54r11, c54r12, c54r13, c54r14, c54r15, c54r16, c54r18, EV0, EV1, EV2, EV3, EV4, EV5, EV6, EV7, EV8, VALS, plug, ite_same, decide_true, decide_false, eq_self, ↓reduceIte, reduceCtorEq, Nat.reduceAdd, Nat.reduceEqDiff, Nat.reduceLT, Nat.reduceLeDiff, Nat.reduceMul, Nat.reduceSub, Nat.reduceDiv, Int.reduceToNat, Int.reduceAdd, Int.reduceSub, Int.reduceMul, Int.reduceNeg, Int.reduceEq, Int.reduceLT, Int.reduceLE]; with_reducible rfl) ?_
        | with_reducible refine h_go (by with_unfolding_all rfl) (by simp (disch := omega) only [g0, g1, hlt', hm, row_m hm, read_row (row_m hm), va, vb, rA, rB, sA, sB, hu, List.length_set, c54r0, c54r1, c54r2, c54r3, c54r4, c54r5, c54r7, c54r8, c54r9, c54r10, c54r11, c54r12, c54r13, c54r14, c54r15, c54r16, c54r18, EV0, EV1, EV2, EV3, EV4, EV5, EV6, EV7, EV8, VALS, plug, ite_same, decide_true, decide_false, eq_self, ↓reduceIte, reduceCtorEq, Nat.reduceAdd, Nat.reduceEqDiff, Nat.reduceLT, Nat.reduceLeDiff, Nat.reduceMul, Nat.reduceSub, Nat.reduceDiv, Int.reduceToNat, Int.reduceAdd, Int.reduceSub, Int.reduceMul, Int.reduceNeg, Int.reduceEq, Int.reduceLT, Int.reduceLE]; with_reducible rfl) ?_
        | ((with_reducible refine chk_r ?_); refine r_callF (by simp only [CA, Nat.reduceEqDiff, ↓reduceIte]; rfl) (by exact rfl) (by simp only [CA, Nat.reduceEqDiff, ↓reduceIte]; rfl) rfl ?_)
        | ((with_reducible refine chk_h ?_); refine hr_callF (by simp only [CA, Nat.reduceEqDiff, ↓reduceIte]; rfl) (by exact rfl) (by simp only [CA, Nat.reduceEqDiff, ↓reduceIte]; rfl) rfl ?_)
        | ((with_reducible refine chk_r ?_); refine r_callP (by simp only [CA, Nat.reduceEqDiff, ↓reduceIte]; rfl) (by simp only [CA, Nat.reduceEqDiff, ↓reduceIte]; rfl) (by first | exact qg _) rfl ?_)
        | ((with_reducible refine chk_h ?_); refine hr_callP (by simp only [CA, Nat.reduceEqDiff, ↓reduceIte]; rfl) (by simp only [CA, Nat.reduceEqDiff, ↓reduceIte]; rfl) (by first | exact qg _) rfl ?_)
        | ((with_reducible refine chk_h ?_); refine hr_callP1 (by simp only [CA, Nat.reduceEqDiff, ↓reduceIte]; rfl) (by simp only [CA, Nat.reduceEqDiff, ↓reduceIte]; rfl) (by simp (disch := omega) only [CA, Nat.reduceEqDiff, ↓reduceIte, firstTok_nil, firstTok_sl, firstTok_sl0, firstTok_i, firstTok_b, firstTok_ag, firstTok_p, firstTok_s]; rfl) (by first | exact qg _) rfl ?_)
        | ((with_reducible refine chk_r ?_); refine r_callG (by simp only [CA, Nat.reduceEqDiff, ↓reduceIte]; rfl) (by simp only [CA, Nat.reduceEqDiff, ↓reduceIte]; rfl) (by simp only [CA, Nat.reduceEqDiff, ↓reduceIte]; rfl) (by intro hg; (try simp only [BO] at hg); first | exact qg _) rfl ?_)
        | ((with_reducible refine chk_h ?_); refine hr_callG (by simp only [CA, Nat.reduceEqDiff, ↓reduceIte]; rfl) (by simp only [CA, Nat.reduceEqDiff, ↓reduceIte]; rfl) (by simp only [CA, Nat.reduceEqDiff, ↓reduceIte]; rfl) (by intro hg; (try simp only [BO] at hg); first | exact qg _) rfl ?_)
        | ((with_reducible refine chk_h ?_); refine hr_app (by simp (disch := omega) only [g0, g1, hlt', hm, row_m hm, read_row (row_m hm), va, vb, rA, rB, sA, sB, hu, List.length_set, c54r0, c54r1, c54r2, c54r3, c54r4, c54r5, c54r7, c54r8, c54r9, c54r10, c54r11, c54r12, c54r13, c54r14, c54r15, c54r16, c54r18, EV0, EV1, EV2, EV3, EV4, EV5, EV6, EV7, EV8, VALS, plug, ite_same, decide_true, decide_false, eq_self, ↓reduceIte, reduceCtorEq, Nat.reduceAdd, Nat.reduceEqDiff, Nat.reduceLT, Nat.reduceLeDiff, Nat.reduceMul, Nat.reduceSub, Nat.reduceDiv, Int.reduceToNat, Int.reduceAdd, Int.reduceSub, Int.reduceMul, Int.reduceNeg, Int.reduceEq, Int.reduceLT, Int.reduceLE]; with_reducible rfl) rfl ?_)
        | (with_reducible refine k_condP (by simp only [GA, Nat.reduceEqDiff, ↓reduceIte]; rfl) (by first | (simp only [BO]; rfl) | rfl) (fun ht => ?_) (fun ht => ?_) <;> try (first | exact False.elim ht | exact absurd rfl ht | exact absurd trivial ht | exact Bool.noConfusion ht))
        | (with_reducible refine k_ret ?_; repeat with_reducible (first | refine ret_thru ?_ | refine ret_blk ?_ | refine fin ?_))
        | (with_reducible refine k_exit ?_; repeat with_reducible (first | refine thru ?_ | refine out_blk ?_ | refine pass (by decide) ?_))
        | (refine post1 ?_; simp only [GA, Nat.reduceEqDiff, ↓reduceIte])
        | (refine post2 ?_; simp only [GA, Nat.reduceEqDiff, ↓reduceIte])
        | (refine post3 ?_; simp only [GA, Nat.reduceEqDiff, ↓reduceIte])
        | (refine postc (by simp only [GA, Nat.reduceEqDiff, ↓reduceIte]; rfl) (by simp (disch := omega) only [g0, g1, hlt', hm, row_m hm, read_row (row_m hm), va, vb, rA, rB, sA, sB, hu, List.length_set, c54r0, c54r1, c54r2, c54r3, c54r4, c54r5, c54r7, c54r8, c54r9, c54r10, c54r11, c54r12, c54r13, c54r14, c54r15, c54r16, c54r18, EV0, EV1, EV2, EV3, EV4, EV5, EV6, EV7, EV8, VALS, plug, ite_same, decide_true, decide_false, eq_self, ↓reduceIte, reduceCtorEq, Nat.reduceAdd, Nat.reduceEqDiff, Nat.reduceLT, Nat.reduceLeDiff, Nat.reduceMul, Nat.reduceSub, Nat.reduceDiv, Int.reduceToNat, Int.reduceAdd, Int.reduceSub, Int.reduceMul, Int.reduceNeg, Int.reduceEq, Int.reduceLT, Int.reduceLE]; rfl) ?_)
        | refine post0 ?_
      · rw [if_pos (by first | assumption | (simp only [Bool.and_eq_true, Bool.or_eq_true, decide_eq_true_eq]; assumption))] at e0
        rw [jg_err e0 (by decide) (by omega)]
        exact ends_of
      · rename_i h43
        rw [if_neg h43, if_pos (by first | assumption | (simp only [Bool.and_eq_true, Bool.or_eq_true, decide_eq_true_eq]; assumption))] at e0
        rw [jg_err e0 (by decide) (by omega)]
        exact ends_of
      · rename_i h43
        rw [if_neg h43, if_neg (by first | assumption | (simp only [Bool.and_eq_true, Bool.or_eq_true, decide_eq_true_eq]; assumption))] at e0
        refine ⟨hlt, ⟨tk, (us.set a true).set b true⟩, (by simp only [Am.keep, List.map_cons, List.map_nil, GA, Nat.reduceEqDiff, ↓reduceIte]; try rfl), hx, by simp (disch := omega) only [hm, c54r0, c54r1, c54r2, c54r3, c54r4, c54r5, c54r7, c54r8, c54r9, c54r10, c54r11, c54r12, c54r13, c54r14, c54r15, c54r16, c54r18, EV0, EV1, EV2, EV3, EV4, EV5, EV6, EV7, EV8, VALS, plug, ite_same, decide_true, decide_false, eq_self, ↓reduceIte, reduceCtorEq, Nat.reduceAdd, Nat.reduceEqDiff, Nat.reduceLT, Nat.reduceLeDiff, Nat.reduceMul, Nat.reduceSub, Nat.reduceDiv, Int.reduceToNat, Int.reduceAdd, Int.reduceSub, Int.reduceMul, Int.reduceNeg, Int.reduceEq, Int.reduceLT, Int.reduceLE] <;> rfl, by simp only [List.length_set]; exact hu, fun i hi => ?_, by rw [jg_go e0 (by omega), Nat.sub_sub]⟩
        rw [getD_set _ _ _ (by rw [List.length_set]; omega), getD_set _ _ _ (by omega), hf i hi, Bool.eq_iff_iff]
        simp only [Bool.or_eq_true, decide_eq_true_eq]
        constructor
        · rintro (rfl | rfl | ⟨j, hj', e⟩)
          · exact ⟨k, by omega, .inr (by simp only [prs, hP])⟩
          · exact ⟨k, by omega, .inl (by simp only [prs, hP])⟩
          · exact ⟨j, by omega, e⟩
        · rintro ⟨j, hj', e⟩
          by_cases hjk : j = k
          · subst hjk
            simp only [prs, hP] at e
            rcases e with e | e
            · exact .inr (.inl (by omega))
            · exact .inl (by omega)
          · exact .inr (.inr ⟨j, by omega, e⟩)
    · obtain rfl : k = ps.length := by omega
      have hlt' : ¬ (ps.length : Int) < ps.length := by omega
      rw [hj, Nat.sub_self]
      repeat' first
        | with_reducible refine k_seq ?_
        | with_reducible refine k_skip ?_
        | with_reducible refine k_blkS ?_
        | with_reducible refine k_blkR ?_
        | with_reducible refine k_blkC ?_
        | with_reducible refine k_blkH ?_
        | with_reducible refine k_blkB ?_
        | with_reducible refine k_blkK ?_
        | with_reducible refine k_blkE ?_
        | with_reducible refine k_reg ?_
        | with_reducible refine k_head (by with_unfolding_all rfl) ?_
        | with_reducible refine k_headS ?_
        | (with_reducible refine SepK.mk ?_ ?_; (refine sepQ_P ?_; simp [sepQ, sepG, AOp.late, AOp.free, AOp.xs, AOp.isAl, tokNe, AV.tok, stS_get, strip, AX.val, c54r0, c54r1, c54r2, c54r3, c54r4, c54r5, c54r7, c54r8, c54r9, c54r10, c54r11, c54r12, c54r13, c54r14, c54r15, c54r16, c54r18, GA]; try omega))
        | with_reducible refine r_done ?_
        | with_reducible refine hr_done ?_
        | with_reducible refine s_go (by simp (disch := omega) only [hlt', c54r0, c54r1, c54r2, c54r3, c54r4, c54r5, c54r7, c54r8, c54r9, c54r10, c54r11, c54r12, c54r13, c54r14, c54r15, c54r16, c54r18, EV0, EV1, EV2, EV3, EV4, EV5, EV6, EV7, EV8, VALS, plug, ite_same, decide_true, decide_false, eq_self, ↓reduceIte, reduceCtorEq, Nat.reduceAdd, Nat.reduceEqDiff, Nat.reduceLT, Nat.reduceLeDiff, Nat.reduceMul, Nat.reduceSub, Nat.reduceDiv, Int.reduceToNat, Int.reduceAdd, Int.reduceSub, Int.reduceMul, Int.reduceNeg, Int.reduceEq, Int.reduceLT, Int.reduceLE]; with_reducible rfl) ?_
        | with_reducible refine h_go (by with_unfolding_all rfl) (by simp (disch := omega) only [hlt', c54r0, c54r1, c54r2, c54r3, c54r4, c54r5, c54r7, c54r8, c54r9, c54r10, c54r11, c54r12, c54r13, c54r14, c54r15, c54r16, c54r18, EV0, EV1, EV2, EV3, EV4, EV5, EV6, EV7, EV8, VALS, plug, ite_same, decide_true, decide_false, eq_self, ↓reduceIte, reduceCtorEq, Nat.reduceAdd, Nat.reduceEqDiff, Nat.reduceLT, Nat.reduceLeDiff, Nat.reduceMul, Nat.reduceSub, Nat.reduceDiv, Int.reduceToNat, Int.reduceAdd, Int.reduceSub, Int.reduceMul, Int.reduceNeg, Int.reduceEq, Int.reduceLT, Int.reduceLE]; with_reducible rfl) ?_
        | ((with_reducible refine chk_r ?_); refine r_callF (by simp only [CA, Nat.reduceEqDiff, ↓reduceIte]; rfl) (by exact rfl) (by simp only [CA, Nat.reduceEqDiff, ↓reduceIte]; rfl) rfl ?_)
        | ((with_reducible refine chk_h ?_); refine hr_callF (by simp only [CA, Nat.reduceEqDiff, ↓reduceIte]; rfl) (by exact rfl) (by simp only [CA, Nat.reduceEqDiff, ↓reduceIte]; rfl) rfl ?_)
        | ((with_reducible refine chk_h ?_); refine hr_app (by simp (disch := omega) only [hlt', c54r0, c54r1, c54r2, c54r3, c54r4, c54r5, c54r7, c54r8, c54r9, c54r10, c54r11, c54r12, c54r13, c54r14, c54r15, c54r16, c54r18, EV0, EV1, EV2, EV3, EV4, EV5, EV6, EV7, EV8, VALS, plug, ite_same, decide_true, decide_false, eq_self, ↓reduceIte, reduceCtorEq, Nat.reduceAdd, Nat.reduceEqDiff, Nat.reduceLT, Nat.reduceLeDiff, Nat.reduceMul, Nat.reduceSub, Nat.reduceDiv, Int.reduceToNat, Int.reduceAdd, Int.reduceSub, Int.reduceMul, Int.reduceNeg, Int.reduceEq, Int.reduceLT, Int.reduceLE]; with_reducible rfl) rfl ?_)
        | (with_reducible refine k_condP (by simp only [GA, Nat.reduceEqDiff, ↓reduceIte]; rfl) (by first | (simp only [BO]; rfl) | rfl) (fun ht => ?_) (fun ht => ?_) <;> try (first | exact False.elim ht | exact absurd rfl ht | exact absurd trivial ht | exact Bool.noConfusion ht))
        | (with_reducible refine k_ret ?_; repeat with_reducible (first | refine ret_thru ?_ | refine ret_blk ?_ | refine fin ?_))
        | (with_reducible refine k_exit ?_; repeat with_reducible (first | refine thru ?_ | refine out_blk ?_ | refine pass (by decide) ?_))
        | (refine post1 ?_; simp only [GA, Nat.reduceEqDiff, ↓reduceIte])
        | (refine post2 ?_; simp only [GA, Nat.reduceEqDiff, ↓reduceIte])
        | (refine post3 ?_; simp only [GA, Nat.reduceEqDiff, ↓reduceIte])
        | (refine postc (by simp only [GA, Nat.reduceEqDiff, ↓reduceIte]; rfl) (by simp (disch := omega) only [hlt', c54r0, c54r1, c54r2, c54r3, c54r4, c54r5, c54r7, c54r8, c54r9, c54r10, c54r11, c54r12, c54r13, c54r14, c54r15, c54r16, c54r18, EV0, EV1, EV2, EV3, EV4, EV5, EV6, EV7, EV8, VALS, plug, ite_same, decide_true, decide_false, eq_self, ↓reduceIte, reduceCtorEq, Nat.reduceAdd, Nat.reduceEqDiff, Nat.reduceLT, Nat.reduceLeDiff, Nat.reduceMul, Nat.reduceSub, Nat.reduceDiv, Int.reduceToNat, Int.reduceAdd, Int.reduceSub, Int.reduceMul, Int.reduceNeg, Int.reduceEq, Int.reduceLT, Int.reduceLE]; rfl) ?_)
        | refine post0 ?_
      all_goals first | exact ends_of | exact ends_eq rfl
end Go.Proofs.Ytbhkbaapfioijaa
set_option linter.unusedVariables false
set_option linter.unusedSimpArgs false
namespace Go.Proofs.Ytbhkbaapfioijaa
open Go Go.Am Go.Proofs Go.Sort
/-! ### Rest -/
/-- is i in one of the first k pairs? -/
def inP (M : List (Nat × Nat)) (k i : Nat) : Bool := (M.take k).any fun p => p.1 == i || p.2 == i
theorem inP_succ {M : List (Nat × Nat)} {k : Nat} (h : k < M.length) (i : Nat) : inP M (k + 1) i = (inP M k i || ((M.getD k (0, 0)).1 == i || (M.getD k (0, 0)).2 == i)) := by
  unfold inP
  rw [List.take_succ_eq_append_getElem h, List.any_append]
  simp [h]
def rst (l : List T) (M : List (Nat × Nat)) (k : Nat) : List Nat := (List.range k).filter fun i => !inP M M.length i
theorem rst_succ (l : List T) (M : List (Nat × Nat)) (k : Nat) : rst l M (k + 1) = if inP M M.length k = false then rst l M k ++ [k] else rst l M k := by
  unfold rst
  rw [List.range_succ, List.filter_append]
  cases h : inP M M.length k <;> simp [h]
theorem rst_len (l : List T) (M : List (Nat × Nat)) (k : Nat) : (rst l M k).length ≤ k := Nat.le_trans (List.length_filter_le _ _) (by simp)
noncomputable def resR (l : List T) (tol : Int) : List Nat := if asked l tol = 0 then rst l (matchL l tol) l.length else []
theorem pc30 (l : List T) (hl : l.length ≤ 9223372036854775807) (tol : Int) : PC Try.prog 30 [vT l, .i .i64 tol] (.tu [.vs (resR l tol).length (nl (resR l tol)), .i .i64 (asked l tol)]) := by
  refine pc_fn fn30 (by simp only [AV.plains, AV.plain, il_plain, bl_plain, Bool.and_true, Bool.true_and, Bool.and_self, flT_plain, nl_plain]) (by simp only [AV.plains, AV.plain, il_plain, bl_plain, Bool.and_true, Bool.true_and, Bool.and_self, flT_plain, nl_plain]) (Nat.le_of_ble_eq_true rfl) ?_
  rw [initSt2]
  have q := pc17 l hl tol
  unfold matR at q
  unfold resR
  by_cases h0 : asked l tol = 0
  · have hv := (asked_ok h0).1
    have hl6 := hv.len
    rw [if_pos h0] at q ⊢
    rw [h0] at q ⊢
    obtain ⟨_, _, ok3⟩ := match_ok l tol
    have hA : (matchL l tol).length ≤ 9 * l.length := mc_len l tol 9
    generalize matchL l tol = M at q ok3 hA ⊢
    repeat' first
      | with_reducible refine k_seq ?_
      | with_reducible refine k_skip ?_
      | with_reducible refine k_blkS ?_
      | with_reducible refine k_blkR ?_
      | with_reducible refine k_blkC ?_
      | with_reducible refine k_blkH ?_
      | with_reducible refine k_blkB ?_
      | with_reducible refine k_blkK ?_
      | with_reducible refine k_blkE ?_
      | with_reducible refine k_reg ?_
      | with_reducible refine k_head (by with_unfolding_all rfl) ?_
      | with_reducible refine k_headS ?_
      | (with_reducible refine SepK.mk ?_ ?_; (refine sepQ_P ?_; simp [sepQ, sepG, AOp.late, AOp.free, AOp.xs, AOp.isAl, tokNe, AV.tok, stS_get, strip, AX.val, c30r0, c30r1, c30r2, c30r3, c30r4, c30r5, c30r6, c30r7, c30r8, c30r9, c30r11, c30r12, c30r13, c30r14, c30r15, c30r16, c30r17, c30r19, GA]; try omega))
      | with_reducible refine r_done ?_
      | with_reducible refine hr_done ?_
      | with_reducible refine s_go (by simp (disch := omega) only [c30r0, c30r1, c30r2, c30r3, c30r4, c30r5, c30r6, c30r7, c30r8, c30r9, c30r11, c30r12, c30r13, c30r14, c30r15, c30r16, c30r17, c30r19, EV0, EV1, EV2, EV3, EV4, EV5, EV6, EV7, EV8, VALS, plug, ite_same, decide_true, decide_false, eq_self, ↓reduceIte, reduceCtorEq, Nat.reduceAdd, Nat.reduceEqDiff, Nat.reduceLT, Nat.reduceLeDiff, Nat.reduceMul, Nat.reduceSub, Nat.reduceDiv, Int.reduceToNat, Int.reduceAdd, Int.reduceSub, Int.reduceMul, Int.reduceNeg, Int.reduceEq, Int.reduceLT, Int.reduceLE]; with_reducible rfl) ?_
      | with_reducible refine h_go (by with_unfolding_all rfl) (by simp (disch := omega) only [c30r0, c30r1, c30r2, c30r3, c30r4, c30r5, c30r6, c30r7, c30r8, c30r9, c30r11, c30r12, c30r13, c30r14, c30r15, c30r16, c30r17, c30r19, EV0, EV1, EV2, EV3, EV4, EV5, EV6, EV7, EV8, VALS, plug, ite_same, decide_true, decide_false, eq_self, ↓reduceIte, reduceCtorEq, Nat.reduceAdd, Nat.reduceEqDiff, Nat.reduceLT, Nat.reduceLeDiff, Nat.reduceMul, Nat.reduceSub, Nat.reduceDiv, Int.reduceToNat, Int.reduceAdd, Int.reduceSub, Int.reduceMul, Int.reduceNeg, Int.reduceEq, Int.reduceLT, Int.reduceLE]; with_reducible rfl) ?_
      | ((with_reducible refine chk_r ?_); refine r_callF (by simp only [CA, Nat.reduceEqDiff, ↓reduceIte]; rfl) (by exact rfl) (by simp only [CA, Nat.reduceEqDiff, ↓reduceIte]; rfl) rfl ?_)
      | ((with_reducible refine chk_h ?_); refine hr_callF (by simp only [CA, Nat.reduceEqDiff, ↓reduceIte]; rfl) (by exact rfl) (by simp only [CA, Nat.reduceEqDiff, ↓reduceIte]; rfl) rfl ?_)
      | ((with_reducible refine chk_r ?_); refine r_callP (by simp only [CA, Nat.reduceEqDiff, ↓reduceIte]; rfl) (by simp only [CA, Nat.reduceEqDiff, ↓reduceIte]; rfl) (by first | exact q _) rfl ?_)
      | ((with_reducible refine chk_h ?_); refine hr_callP (by simp only [CA, Nat.reduceEqDiff, ↓reduceIte]; rfl) (by simp only [CA, Nat.reduceEqDiff, ↓reduceIte]; rfl) (by first | exact q _) rfl ?_)
      | ((with_reducible refine chk_h ?_); refine hr_callP1 (by simp only [CA, Nat.reduceEqDiff, ↓reduceIte]; rfl) (by simp only [CA, Nat.reduceEqDiff, ↓reduceIte]; rfl) (by simp (disch := omega) only [CA, Nat.reduceEqDiff, ↓reduceIte, firstTok_nil, firstTok_sl, firstTok_sl0, firstTok_i, firstTok_b, firstTok_ag, firstTok_p, firstTok_s]; rfl) (by first | exact q _) rfl ?_)
      | ((with_reducible refine chk_h ?_); refine hr_app (by simp (disch := omega) only [c30r0, c30r1, c30r2, c30r3, c30r4, c30r5, c30r6, c30r7, c30r8, c30r9, c30r11, c30r12, c30r13, c30r14, c30r15, c30r16, c30r17, c30r19, EV0, EV1, EV2, EV3, EV4, EV5, EV6, EV7, EV8, VALS, plug, ite_same, decide_true, decide_false, eq_self, ↓reduceIte, reduceCtorEq, Nat.reduceAdd, Nat.reduceEqDiff, Nat.reduceLT, Nat.reduceLeDiff, Nat.reduceMul, Nat.reduceSub, Nat.reduceDiv, Int.reduceToNat, Int.reduceAdd, Int.reduceSub, Int.reduceMul, Int.reduceNeg, Int.reduceEq, Int.reduceLT, Int.reduceLE]; with_reducible rfl) rfl ?_)
      | (with_reducible refine k_condP (by simp only [GA, Nat.reduceEqDiff, ↓reduceIte]; rfl) (by first | (simp only [BO]; rfl) | rfl) (fun ht => ?_) (fun ht => ?_) <;> try (first | exact False.elim ht | exact absurd rfl ht | exact absurd trivial ht | exact Bool.noConfusion ht))
      | (with_reducible refine k_ret ?_; repeat with_reducible (first | refine ret_thru ?_ | refine ret_blk ?_ | refine fin ?_))
      | (with_reducible refine k_exit ?_; repeat with_reducible (first | refine thru ?_ | refine out_blk ?_ | refine pass (by decide) ?_))
      | (refine post1 ?_; simp only [GA, Nat.reduceEqDiff, ↓reduceIte])
      | (refine post2 ?_; simp only [GA, Nat.reduceEqDiff, ↓reduceIte])
      | (refine post3 ?_; simp only [GA, Nat.reduceEqDiff, ↓reduceIte])
      | (refine postc (by simp only [GA, Nat.reduceEqDiff, ↓reduceIte]; rfl) (by simp (disch := omega) only [c30r0, c30r1, c30r2, c30r3, c30r4, c30r5, c30r6, c30r7, c30r8, c30r9, c30r11, c30r12, c30r13, c30r14, c30r15, c30r16, c30r17, c30r19, EV0, EV1, EV2, EV3, EV4, EV5, EV6, EV7, EV8, VALS, plug, ite_same, decide_true, decide_false, eq_self, ↓reduceIte, reduceCtorEq, Nat.reduceAdd, Nat.reduceEqDiff, Nat.reduceLT, Nat.reduceLeDiff, Nat.reduceMul, Nat.reduceSub, Nat.reduceDiv, Int.reduceToNat, Int.reduceAdd, Int.reduceSub, Int.reduceMul, Int.reduceNeg, Int.reduceEq, Int.reduceLT, Int.reduceLE]; rfl) ?_)
      | refine post0 ?_
    refine k_blk (k_loopS (X := Nat × List Bool) [8, 26, 27, 28] M.length (fun k x => [(8, .sl x.1 0 l.length 1), (26, vP M), (27, .i .i64 M.length), (28, .i .i64 (k : Int))])
      (fun k x h => x.1 ≠ 0 ∧ h.m x.1 = some (.cells true (bl x.2)) ∧ x.2.length = l.length ∧ ∀ i, i < l.length → x.2.getD i false = inP M k i) (_, List.replicate l.length false) (by simp only [Am.keep, List.map_cons, List.map_nil, GA, Nat.reduceEqDiff, ↓reduceIte]; try rfl) ⟨by simp [H1, AH.bump, AH.set], by simp (disch := omega) only [bl_rep, c30r0, c30r1, c30r2, c30r3, c30r4, c30r5, c30r6, c30r7, c30r8, c30r9, c30r11, c30r12, c30r13, c30r14, c30r15, c30r16, c30r17, c30r19, EV0, EV1, EV2, EV3, EV4, EV5, EV6, EV7, EV8, VALS, plug, ite_same, decide_true, decide_false, eq_self, ↓reduceIte, reduceCtorEq, Nat.reduceAdd, Nat.reduceEqDiff, Nat.reduceLT, Nat.reduceLeDiff, Nat.reduceMul, Nat.reduceSub, Nat.reduceDiv, Int.reduceToNat, Int.reduceAdd, Int.reduceSub, Int.reduceMul, Int.reduceNeg, Int.reduceEq, Int.reduceLT, Int.reduceLE] <;> rfl, by simp, fun i hi => by simp [hi, inP]⟩ ?_)
    rintro k ⟨x, us⟩ h hk ⟨hx, hm, hu, hf⟩ ok pos
    simp only at hx hm hu hf ⊢
    have htk := ok.m hm
    by_cases hlt : k < M.length
    · have hlt' : (k : Int) < M.length := by omega
      have rP := rdP hlt
      have hin : M.getD k (0, 0) ∈ M := by simp [List.getD_eq_getElem?_getD, hlt]
      obtain ⟨p1, p2, _⟩ := ok3 _ hin
      have is := inP_succ hlt
      generalize M.getD k (0, 0) = p at rP hin p1 p2 is
      simp only [eP] at rP
      repeat' first
        | with_reducible refine k_seq ?_
        | with_reducible refine k_skip ?_
        | with_reducible refine k_blkS ?_
        | with_reducible refine k_blkR ?_
        | with_reducible refine k_blkC ?_
        | with_reducible refine k_blkH ?_
        | with_reducible refine k_blkB ?_
        | with_reducible refine k_blkK ?_
        | with_reducible refine k_blkE ?_
        | with_reducible refine k_reg ?_
        | with_reducible refine k_head (by with_unfolding_all rfl) ?_
        | with_reducible refine k_headS ?_
        | (with_reducible refine SepK.mk ?_ ?_; (refine sepQ_P ?_; simp [sepQ, sepG, AOp.late, AOp.free, AOp.xs, AOp.isAl, tokNe, AV.tok, stS_get, strip, AX.val, c30r0, c30r1, c30r2, c30r3, c30r4, c30r5, c30r6, c30r7, c30r8, c30r9, c30r11, c30r12, c30r13, c30r14, c30r15, c30r16, c30r17, c30r19, GA]; try omega))
        | with_reducible refine r_done ?_
        | with_reducible refine hr_done ?_
        | with_reducible refine s_go (by simp (disch := omega) only [rP, hlt', hm, row_m hm, read_row (row_m hm), hu, List.length_set, c30r0, c30r1, c30r2, c30r3, c30r4, c30r5, c30r6, c30r7, c30r8, c30r9, c30r11, c30r12, c30r13, c30r14, c30r15, c30r16, c30r17, c30r19, EV0, EV1, EV2, EV3, EV4, EV5, EV6, EV7, EV8, VALS, plug, ite_same, decide_true, decide_false, eq_self, ↓reduceIte, reduceCtorEq, Nat.reduceAdd, Nat.reduceEqDiff, Nat.reduceLT, Nat.reduceLeDiff, Nat.reduceMul, Nat.reduceSub, Nat.reduceDiv, Int.reduceToNat, Int.reduceAdd, Int.reduceSub, Int.reduceMul, Int.reduceNeg, Int.reduceEq, Int.reduceLT, Int.reduceLE]; with_reducible rfl) ?_
        | with_reducible refine h_go (by with_unfolding_all rfl) (by simp (disch := omega) only [rP, hlt', hm, row_m hm, read_row (row_m hm), hu, List.length_set, c30r0, c30r1, c30r2, c30r3, c30r4, c30r5, c30r6, c30r7, c30r8, c30r9, c30r11, c30r12, c30r13, c30r14, c30r15, c30r16, c30r17, c30r19, EV0, EV1, EV2, EV3, EV4, EV5, EV6, EV7, EV8, VALS, plug, ite_same, decide_true, decide_false, eq_self, ↓reduceIte, reduceCtorEq, Nat.reduceAdd, Nat.reduceEqDiff, Nat.reduceLT, Nat.reduceLeDiff, Nat.reduceMul, Nat.reduceSub, Nat.reduceDiv, Int.reduceToNat, Int.reduceAdd, Int.reduceSub, Int.reduceMul, Int.reduceNeg, Int.reduceEq, Int.reduceLT, Int.reduceLE]; with_reducible rfl) ?_
        | ((with_reducible refine chk_r ?_); refine r_callF (by simp only [CA, Nat.reduceEqDiff, ↓reduceIte]; rfl) (by exact rfl) (by simp only [CA, Nat.reduceEqDiff, ↓reduceIte]; rfl) rfl ?_)
        | ((with_reducible refine chk_h ?_); refine hr_callF (by simp only [CA, Nat.reduceEqDiff, ↓reduceIte]; rfl) (by exact rfl) (by simp only [CA, Nat.reduceEqDiff, ↓reduceIte]; rfl) rfl ?_)
        | ((with_reducible refine chk_h ?_); refine hr_app (by simp (disch := omega) only [rP, hlt', hm, row_m hm, read_row (row_m hm), hu, List.length_set, c30r0, c30r1, c30r2, c30r3, c30r4, c30r5, c30r6, c30r7, c30r8, c30r9, c30r11, c30r12, c30r13, c30r14, c30r15, c30r16, c30r17, c30r19, EV0, EV1, EV2, EV3, EV4, EV5, EV6, EV7, EV8, VALS, plug, ite_same, decide_true, decide_false, eq_self, ↓reduceIte, reduceCtorEq, Nat.reduceAdd, Nat.reduceEqDiff, Nat.reduceLT, Nat.reduceLeDiff, Nat.reduceMul, Nat.reduceSub, Nat.reduceDiv, Int.reduceToNat, Int.reduceAdd, Int.reduceSub, Int.reduceMul, Int.reduceNeg, Int.reduceEq, Int.reduceLT, Int.reduceLE]; with_reducible rfl) rfl ?_)
        | (with_reducible refine k_condP (by simp only [GA, Nat.reduceEqDiff, ↓reduceIte]; rfl) (by first | (simp only [BO]; rfl) | rfl) (fun ht => ?_) (fun ht => ?_) <;> try (first | exact False.elim ht | exact absurd rfl ht | exact absurd trivial ht | exact Bool.noConfusion ht))
        | (with_reducible refine k_ret ?_; repeat with_reducible (first | refine ret_thru ?_ | refine ret_blk ?_ | refine fin ?_))
        | (with_reducible refine k_exit ?_; repeat with_reducible (first | refine thru ?_ | refine out_blk ?_ | refine pass (by decide) ?_))
        | (refine post1 ?_; simp only [GA, Nat.reduceEqDiff, ↓reduceIte])
        | (refine post2 ?_; simp only [GA, Nat.reduceEqDiff, ↓reduceIte])
        | (refine post3 ?_; simp only [GA, Nat.reduceEqDiff, ↓reduceIte])
        | (refine postc (by simp only [GA, Nat.reduceEqDiff, ↓reduceIte]; rfl) (by simp (disch := omega) only [rP, hlt', hm, row_m hm, read_row (row_m hm), hu, List.length_set, c30r0, c30r1, c30r2, c30r3, c30r4, c30r5, c30r6, c30r7, c30r8, c30r9, c30r11, c30r12, c30r13, c30r14, c30r15, c30r16, c30r17, c30r19, EV0, EV1, EV2, EV3, EV4, EV5, EV6, EV7, EV8, VALS, plug, ite_same, decide_true, decide_false, eq_self, ↓reduceIte, reduceCtorEq, Nat.reduceAdd, Nat.reduceEqDiff, Nat.reduceLT, Nat.reduceLeDiff, Nat.reduceMul, Nat.reduceSub, Nat.reduceDiv, Int.reduceToNat, Int.reduceAdd, Int.reduceSub, Int.reduceMul, Int.reduceNeg, Int.reduceEq, Int.reduceLT, Int.reduceLE]; rfl) ?_)
        | refine post0 ?_
      refine ⟨hlt, ⟨x, (us.set p.1 true).set p.2 true⟩, (by simp only [Am.keep, List.map_cons, List.map_nil, GA, Nat.reduceEqDiff, ↓reduceIte]; try rfl), hx, by simp (disch := omega) only [hm, c30r0, c30r1, c30r2, c30r3, c30r4, c30r5, c30r6, c30r7, c30r8, c30r9, c30r11, c30r12, c30r13, c30r14, c30r15, c30r16, c30r17, c30r19, EV0, EV1, EV2, EV3, EV4, EV5, EV6, EV7, EV8, VALS, plug, ite_same, decide_true, decide_false, eq_self, ↓reduceIte, reduceCtorEq, Nat.reduceAdd, Nat.reduceEqDiff, Nat.reduceLT, Nat.reduceLeDiff, Nat.reduceMul, Nat.reduceSub, Nat.reduceDiv, Int.reduceToNat, Int.reduceAdd, Int.reduceSub, Int.reduceMul, Int.reduceNeg, Int.reduceEq, Int.reduceLT, Int.reduceLE] <;> rfl, by simp only [List.length_set]; exact hu, fun i hi => ?_⟩
      rw [getD_set _ _ _ (by rw [List.length_set]; omega), getD_set _ _ _ (by omega), hf i hi, is, Bool.eq_iff_iff]
      simp only [Bool.or_eq_true, decide_eq_true_eq, beq_iff_eq]
      constructor
      · rintro (e | e | e)
        · exact .inr (.inr e.symm)
        · exact .inr (.inl e.symm)
        · exact .inl e
      · rintro (e | e | e)
        · exact .inr (.inr e)
        · exact .inr (.inl e.symm)
        · exact .inl e.symm
    · obtain rfl : k = M.length := by omega
      have hlt' : ¬ (M.length : Int) < M.length := by omega
      repeat' first
        | with_reducible refine k_seq ?_
        | with_reducible refine k_skip ?_
        | with_reducible refine k_blkS ?_
        | with_reducible refine k_blkR ?_
        | with_reducible refine k_blkC ?_
        | with_reducible refine k_blkH ?_
        | with_reducible refine k_blkB ?_
        | with_reducible refine k_blkK ?_
        | with_reducible refine k_blkE ?_
        | with_reducible refine k_reg ?_
        | with_reducible refine k_head (by with_unfolding_all rfl) ?_
        | with_reducible refine k_headS ?_
        | (with_reducible refine SepK.mk ?_ ?_; (refine sepQ_P ?_; simp [sepQ, sepG, AOp.late, AOp.free, AOp.xs, AOp.isAl, tokNe, AV.tok, stS_get, strip, AX.val, c30r0, c30r1, c30r2, c30r3, c30r4, c30r5, c30r6, c30r7, c30r8, c30r9, c30r11, c30r12, c30r13, c30r14, c30r15, c30r16, c30r17, c30r19, GA]; try omega))
        | with_reducible refine r_done ?_
        | with_reducible refine hr_done ?_
        | with_reducible refine s_go (by simp (disch := omega) only [hlt', hm, c30r0, c30r1, c30r2, c30r3, c30r4, c30r5, c30r6, c30r7, c30r8, c30r9, c30r11, c30r12, c30r13, c30r14, c30r15, c30r16, c30r17, c30r19, EV0, EV1, EV2, EV3, EV4, EV5, EV6, EV7, EV8, VALS, plug, ite_same, decide_true, decide_false, eq_self, ↓reduceIte, reduceCtorEq, Nat.reduceAdd, Nat.reduceEqDiff, Nat.reduceLT, Nat.reduceLeDiff, Nat.reduceMul, Nat.reduceSub, Nat.reduceDiv, Int.reduceToNat, Int.reduceAdd, Int.reduceSub, Int.reduceMul, Int.reduceNeg, Int.reduceEq, Int.reduceLT, Int.reduceLE]; with_reducible rfl) ?_
        | with_reducible refine h_go (by with_unfolding_all rfl) (by simp (disch := omega) only [hlt', hm, c30r0, c30r1, c30r2, c30r3, c30r4, c30r5, c30r6, c30r7, c30r8, c30r9, c30r11, c30r12, c30r13, c30r14, c30r15, c30r16, c30r17, c30r19, EV0, EV1, EV2, EV3, EV4, EV5, EV6, EV7, EV8, VALS, plug, ite_same, decide_true, decide_false, eq_self, ↓reduceIte, reduceCtorEq, Nat.reduceAdd, Nat.reduceEqDiff, Nat.reduceLT, Nat.reduceLeDiff, Nat.reduceMul, Nat.reduceSub, Nat.reduceDiv, Int.reduceToNat, Int.reduceAdd, Int.reduceSub, Int.reduceMul, Int.reduceNeg, Int.reduceEq, Int.reduceLT, Int.reduceLE]; with_reducible rfl) ?_
        | ((with_reducible refine chk_r ?_); refine r_callF (by simp only [CA, Nat.reduceEqDiff, ↓reduceIte]; rfl) (by exact rfl) (by simp only [CA, Nat.reduceEqDiff, ↓reduceIte]; rfl) rfl ?_)
        | ((with_reducible refine chk_h ?_); refine hr_callF (by simp only [CA, Nat.reduceEqDiff, ↓reduceIte]; rfl) (by exact rfl) (by simp only [CA, Nat.reduceEqDiff, ↓reduceIte]; rfl) rfl ?_)
        | ((with_reducible refine chk_h ?_); refine hr_app (by simp (disch := omega) only [hlt', hm, c30r0, c30r1, c30r2, c30r3, c30r4, c30r5, c30r6, c30r7, c30r8, c30r9, c30r11, c30r12, c30r13, c30r14, c30r15, c30r16, c30r17, c30r19, EV0, EV1, EV2, EV3, EV4, EV5, EV6, EV7, EV8, VALS, plug, ite_same, decide_true, decide_false, eq_self, ↓reduceIte, reduceCtorEq, Nat.reduceAdd, Nat.reduceEqDiff, Nat.reduceLT, Nat.reduceLeDiff, Nat.reduceMul, Nat.reduceSub, Nat.reduceDiv, Int.reduceToNat, Int.reduceAdd, Int.reduceSub, Int.reduceMul, Int.reduceNeg, Int.reduceEq, Int.reduceLT, Int.reduceLE]; with_reducible rfl) rfl ?_)
        | (with_reducible refine k_condP (by simp only [GA, Nat.reduceEqDiff, ↓reduceIte]; rfl) (by first | (simp only [BO]; rfl) | rfl) (fun ht => ?_) (fun ht => ?_) <;> try (first | exact False.elim ht | exact absurd rfl ht | exact absurd trivial ht | exact Bool.noConfusion ht))
        | (with_reducible refine k_ret ?_; repeat with_reducible (first | refine ret_thru ?_ | refine ret_blk ?_ | refine fin ?_))
        | (with_reducible refine k_exit ?_; repeat with_reducible (first | refine thru ?_ | refine out_blk ?_ | refine pass (by decide) ?_))
        | (refine post1 ?_; simp only [GA, Nat.reduceEqDiff, ↓reduceIte])
        | (refine post2 ?_; simp only [GA, Nat.reduceEqDiff, ↓reduceIte])
        | (refine post3 ?_; simp only [GA, Nat.reduceEqDiff, ↓reduceIte])
        | (refine postc (by simp only [GA, Nat.reduceEqDiff, ↓reduceIte]; rfl) (by simp (disch := omega) only [hlt', hm, c30r0, c30r1, c30r2, c30r3, c30r4, c30r5, c30r6, c30r7, c30r8, c30r9, c30r11, c30r12, c30r13, c30r14, c30r15, c30r16, c30r17, c30r19, EV0, EV1, EV2, EV3, EV4, EV5, EV6, EV7, EV8, VALS, plug, ite_same, decide_true, decide_false, eq_self, ↓reduceIte, reduceCtorEq, Nat.reduceAdd, Nat.reduceEqDiff, Nat.reduceLT, Nat.reduceLeDiff, Nat.reduceMul, Nat.reduceSub, Nat.reduceDiv, Int.reduceToNat, Int.reduceAdd, Int.reduceSub, Int.reduceMul, Int.reduceNeg, Int.reduceEq, Int.reduceLT, Int.reduceLE]; rfl) ?_)
        | refine post0 ?_
      refine w_virt 1 11 rfl ?_
      refine k_blk (k_loopS (X := Nat) [11, 41, 42, 43] l.length (fun k y => [(11, .sl y 0 (rst l M k).length 1), (41, .sl x 0 l.length 1), (42, .i .i64 l.length), (43, .i .i64 (k : Int))])
        (fun k y h => y ≠ 0 ∧ y ≠ x ∧ h.m x = some (.cells true (bl us)) ∧ h.m y = some (.cells true (nl (rst l M k)))) _ (by simp only [Am.keep, List.map_cons, List.map_nil, GA, Nat.reduceEqDiff, ↓reduceIte]; try rfl) ⟨?_, ?_, by simp (disch := omega) only [hm, c30r0, c30r1, c30r2, c30r3, c30r4, c30r5, c30r6, c30r7, c30r8, c30r9, c30r11, c30r12, c30r13, c30r14, c30r15, c30r16, c30r17, c30r19, EV0, EV1, EV2, EV3, EV4, EV5, EV6, EV7, EV8, VALS, plug, ite_same, decide_true, decide_false, eq_self, ↓reduceIte, reduceCtorEq, Nat.reduceAdd, Nat.reduceEqDiff, Nat.reduceLT, Nat.reduceLeDiff, Nat.reduceMul, Nat.reduceSub, Nat.reduceDiv, Int.reduceToNat, Int.reduceAdd, Int.reduceSub, Int.reduceMul, Int.reduceNeg, Int.reduceEq, Int.reduceLT, Int.reduceLE] <;> rfl, by simp (disch := omega) only [c30r0, c30r1, c30r2, c30r3, c30r4, c30r5, c30r6, c30r7, c30r8, c30r9, c30r11, c30r12, c30r13, c30r14, c30r15, c30r16, c30r17, c30r19, EV0, EV1, EV2, EV3, EV4, EV5, EV6, EV7, EV8, VALS, plug, ite_same, decide_true, decide_false, eq_self, ↓reduceIte, reduceCtorEq, Nat.reduceAdd, Nat.reduceEqDiff, Nat.reduceLT, Nat.reduceLeDiff, Nat.reduceMul, Nat.reduceSub, Nat.reduceDiv, Int.reduceToNat, Int.reduceAdd, Int.reduceSub, Int.reduceMul, Int.reduceNeg, Int.reduceEq, Int.reduceLT, Int.reduceLE] <;> rfl⟩ ?_)
      · simp only [AH.bump_nx]; omega
      · simp only [AH.bump_nx]; omega
      rintro k y h hk ⟨hy, hyx, hm, hmy⟩ ok pos
      have hx' := ok.m hm
      have hy' := ok.m hmy
      have rl := rst_len l M k
      by_cases hlt : k < l.length
      · have hlt' : (k : Int) < l.length := by omega
        have hfk := hf k hlt
        have rs := rst_succ l M k
        repeat' first
          | with_reducible refine k_seq ?_
          | with_reducible refine k_skip ?_
          | with_reducible refine k_blkS ?_
          | with_reducible refine k_blkR ?_
          | with_reducible refine k_blkC ?_
          | with_reducible refine k_blkH ?_
          | with_reducible refine k_blkB ?_
          | with_reducible refine k_blkK ?_
          | with_reducible refine k_blkE ?_
          | with_reducible refine k_reg ?_
          | with_reducible refine k_head (by with_unfolding_all rfl) ?_
          | with_reducible refine k_headS ?_
          | (with_reducible refine SepK.mk ?_ ?_; (refine sepQ_P ?_; simp [sepQ, sepG, AOp.late, AOp.free, AOp.xs, AOp.isAl, tokNe, AV.tok, stS_get, strip, AX.val, c30r0, c30r1, c30r2, c30r3, c30r4, c30r5, c30r6, c30r7, c30r8, c30r9, c30r11, c30r12, c30r13, c30r14, c30r15, c30r16, c30r17, c30r19, GA]; try omega))
          | with_reducible refine r_done ?_
          | with_reducible refine hr_done ?_
          | with_reducible refine s_go (by simp (disch := omega) only [hlt', hm, hmy, row_m hm, read_row (row_m hm), hu, hfk, nl_len, nl_snoc, hy, c30r0, c30r1, c30r2, c30r3, c30r4, c30r5, c30r6, c30r7, c30r8, c30r9, c30r11, c30r12, c30r13, c30r14, c30r15, c30r16, c30r17, c30r19, EV0, EV1, EV2, EV3, EV4, EV5, EV6, EV7, EV8, VALS, plug, ite_same, decide_true, decide_false, eq_self, ↓reduceIte, reduceCtorEq, Nat.reduceAdd, Nat.reduceEqDiff, Nat.reduceLT, Nat.reduceLeDiff, Nat.reduceMul, Nat.reduceSub, Nat.reduceDiv, Int.reduceToNat, Int.reduceAdd, Int.reduceSub, Int.reduceMul, Int.reduceNeg, Int.reduceEq, Int.reduceLT, Int.reduceLE]; with_reducible rfl) ?_
          | with_reducible refine h_go (by with_unfolding_all rfl) (by simp (disch := omega) only [hlt', hm, hmy, row_m hm, read_row (row_m hm), hu, hfk, nl_len, nl_snoc, hy, c30r0, c30r1, c30r2, c30r3, c30r4, c30r5, c30r6, c30r7, c30r8, c30r9, c30r11, c30r12, c30r13, c30r14, c30r15, c30r16, c30r17, c30r19, EV0, EV1, EV2, EV3, EV4, EV5, EV6, EV7, EV8, VALS, plug, ite_same, decide_true, decide_false, eq_self, ↓reduceIte, reduceCtorEq, Nat.reduceAdd, Nat.reduceEqDiff, Nat.reduceLT, Nat.reduceLeDiff, Nat.reduceMul, Nat.reduceSub, Nat.reduceDiv, Int.reduceToNat, Int.reduceAdd, Int.reduceSub, Int.reduceMul, Int.reduceNeg, Int.reduceEq, Int.reduceLT, Int.reduceLE]; with_reducible rfl) ?_
          | ((with_reducible refine chk_r ?_); refine r_callF (by simp only [CA, Nat.reduceEqDiff, ↓reduceIte]; rfl) (by exact rfl) (by simp only [CA, Nat.reduceEqDiff, ↓reduceIte]; rfl) rfl ?_)
          | ((with_reducible refine chk_h ?_); refine hr_callF (by simp only [CA, Nat.reduceEqDiff, ↓reduceIte]; rfl) (by exact rfl) (by simp only [CA, Nat.reduceEqDiff, ↓reduceIte]; rfl) rfl ?_)
          | ((with_reducible refine chk_h ?_); refine hr_app (by simp (disch := omega) only [hlt', hm, hmy, row_m hm, read_row (row_m hm), hu, hfk, nl_len, nl_snoc, hy, c30r0, c30r1, c30r2, c30r3, c30r4, c30r5, c30r6, c30r7, c30r8, c30r9, c30r11, c30r12, c30r13, c30r14, c30r15, c30r16, c30r17, c30r19, EV0, EV1, EV2, EV3, EV4, EV5, EV6, EV7, EV8, VALS, plug, ite_same, decide_true, decide_false, eq_self, ↓reduceIte, reduceCtorEq, Nat.reduceAdd, Nat.reduceEqDiff, Nat.reduceLT, Nat.reduceLeDiff, Nat.reduceMul, Nat.reduceSub, Nat.reduceDiv, Int.reduceToNat, Int.reduceAdd, Int.reduceSub, Int.reduceMul, Int.reduceNeg, Int.reduceEq, Int.reduceLT, Int.reduceLE]; with_reducible rfl) rfl ?_)
          | (with_reducible refine k_condP (by simp only [GA, Nat.reduceEqDiff, ↓reduceIte]; rfl) (by first | (simp only [BO]; rfl) | rfl) (fun ht => ?_) (fun ht => ?_) <;> try (first | exact False.elim ht | exact absurd rfl ht | exact absurd trivial ht | exact Bool.noConfusion ht))
          | (with_reducible refine k_ret ?_; repeat with_reducible (first | refine ret_thru ?_ | refine ret_blk ?_ | refine fin ?_))
          | (with_reducible refine k_exit ?_; repeat with_reducible (first | refine thru ?_ | refine out_blk ?_ | refine pass (by decide) ?_))
          | (refine post1 ?_; simp only [GA, Nat.reduceEqDiff, ↓reduceIte])
          | (refine post2 ?_; simp only [GA, Nat.reduceEqDiff, ↓reduceIte])
          | (refine post3 ?_; simp only [GA, Nat.reduceEqDiff, ↓reduceIte])
          | (refine postc (by simp only [GA, Nat.reduceEqDiff, ↓reduceIte]; rfl) (by simp (disch := omega) only [hlt', hm, hmy, row_m hm, read_row (row_m hm), hu, hfk, nl_len, nl_snoc, hy, c30r0, c30r1, c30r2, c30r3, c30r4, c30r5, c30r6, c30r7, c30r8, c30r9, c30r11, c30r12, c30r13, c30r14, c30r15, c30r16, c30r17, c30r19, EV0, EV1, EV2, EV3, EV4, EV5, EV6, EV7, EV8, VALS, plug, ite_same, decide_true, decide_false, eq_self, ↓reduceIte, reduceCtorEq, Nat.reduceAdd, Nat.reduceEqDiff, Nat.reduceLT, Nat.reduceLeDiff, Nat.reduceMul, Nat.reduceSub, Nat.reduceDiv, Int.reduceToNat, Int.reduceAdd, Int.reduceSub, Int.reduceMul, Int.reduceNeg, Int.reduceEq, Int.reduceLT, Int.reduceLE]; rfl) ?_)
          | refine post0 ?_
        · rw [if_pos ht] at rs
          rw [rs]
          refine ⟨hlt, ?tk, ?g1, ?g2, ?g3, ?g4, ?g5⟩
          case g1 =>
            simp only [Am.keep, List.map_cons, List.map_nil, GA, Nat.reduceEqDiff, ↓reduceIte, List.length_append, List.length_cons, List.length_nil, Nat.zero_add]
            rfl
          case g2 => omega
          case g3 => omega
          case g4 => simp (disch := omega) only [hm, c30r0, c30r1, c30r2, c30r3, c30r4, c30r5, c30r6, c30r7, c30r8, c30r9, c30r11, c30r12, c30r13, c30r14, c30r15, c30r16, c30r17, c30r19, EV0, EV1, EV2, EV3, EV4, EV5, EV6, EV7, EV8, VALS, plug, ite_same, decide_true, decide_false, eq_self, ↓reduceIte, reduceCtorEq, Nat.reduceAdd, Nat.reduceEqDiff, Nat.reduceLT, Nat.reduceLeDiff, Nat.reduceMul, Nat.reduceSub, Nat.reduceDiv, Int.reduceToNat, Int.reduceAdd, Int.reduceSub, Int.reduceMul, Int.reduceNeg, Int.reduceEq, Int.reduceLT, Int.reduceLE]
          case g5 => simp (disch := omega) only [c30r0, c30r1, c30r2, c30r3, c30r4, c30r5, c30r6, c30r7, c30r8, c30r9, c30r11, c30r12, c30r13, c30r14, c30r15, c30r16, c30r17, c30r19, EV0, EV1, EV2, EV3, EV4, EV5, EV6, EV7, EV8, VALS, plug, ite_same, decide_true, decide_false, eq_self, ↓reduceIte, reduceCtorEq, Nat.reduceAdd, Nat.reduceEqDiff, Nat.reduceLT, Nat.reduceLeDiff, Nat.reduceMul, Nat.reduceSub, Nat.reduceDiv, Int.reduceToNat, Int.reduceAdd, Int.reduceSub, Int.reduceMul, Int.reduceNeg, Int.reduceEq, Int.reduceLT, Int.reduceLE] <;> rfl
        · rw [if_neg ht] at rs
          rw [rs]
          exact ⟨hlt, y, (by simp only [Am.keep, List.map_cons, List.map_nil, GA, Nat.reduceEqDiff, ↓reduceIte]; try rfl), hy, hyx, by simp (disch := omega) only [hm, c30r0, c30r1, c30r2, c30r3, c30r4, c30r5, c30r6, c30r7, c30r8, c30r9, c30r11, c30r12, c30r13, c30r14, c30r15, c30r16, c30r17, c30r19, EV0, EV1, EV2, EV3, EV4, EV5, EV6, EV7, EV8, VALS, plug, ite_same, decide_true, decide_false, eq_self, ↓reduceIte, reduceCtorEq, Nat.reduceAdd, Nat.reduceEqDiff, Nat.reduceLT, Nat.reduceLeDiff, Nat.reduceMul, Nat.reduceSub, Nat.reduceDiv, Int.reduceToNat, Int.reduceAdd, Int.reduceSub, Int.reduceMul, Int.reduceNeg, Int.reduceEq, Int.reduceLT, Int.reduceLE], by simp (disch := omega) only [hmy, c30r0, c30r1, c30r2, c30r3, c30r4, c30r5, c30r6, c30r7, c30r8, c30r9, c30r11, c30r12, c30r13, c30r14, c30r15, c30r16, c30r17, c30r19, EV0, EV1, EV2, EV3, EV4, EV5, EV6, EV7, EV8, VALS, plug, ite_same, decide_true, decide_false, eq_self, ↓reduceIte, reduceCtorEq, Nat.reduceAdd, Nat.reduceEqDiff, Nat.reduceLT, Nat.reduceLeDiff, Nat.reduceMul, Nat.reduceSub, Nat.reduceDiv, Int.reduceToNat, Int.reduceAdd, Int.reduceSub, Int.reduceMul, Int.reduceNeg, Int.reduceEq, Int.reduceLT, Int.reduceLE]⟩
      · obtain rfl : k = l.length := by omega
        have hlt' : ¬ (l.length : Int) < l.length := by omega
        repeat' first
          | with_reducible refine k_seq ?_
          | with_reducible refine k_skip ?_
          | with_reducible refine k_blkS ?_
          | with_reducible refine k_blkR ?_
          | with_reducible refine k_blkC ?_
          | with_reducible refine k_blkH ?_
          | with_reducible refine k_blkB ?_
          | with_reducible refine k_blkK ?_
          | with_reducible refine k_blkE ?_
          | with_reducible refine k_reg ?_
          | with_reducible refine k_head (by with_unfolding_all rfl) ?_
          | with_reducible refine k_headS ?_
          | (with_reducible refine SepK.mk ?_ ?_; (refine sepQ_P ?_; simp [sepQ, sepG, AOp.late, AOp.free, AOp.xs, AOp.isAl, tokNe, AV.tok, stS_get, strip, AX.val, c30r0, c30r1, c30r2, c30r3, c30r4, c30r5, c30r6, c30r7, c30r8, c30r9, c30r11, c30r12, c30r13, c30r14, c30r15, c30r16, c30r17, c30r19, GA]; try omega))
          | with_reducible refine r_done ?_
          | with_reducible refine hr_done ?_
          | with_reducible refine s_go (by simp (disch := omega) only [hlt', c30r0, c30r1, c30r2, c30r3, c30r4, c30r5, c30r6, c30r7, c30r8, c30r9, c30r11, c30r12, c30r13, c30r14, c30r15, c30r16, c30r17, c30r19, EV0, EV1, EV2, EV3, EV4, EV5, EV6, EV7, EV8, VALS, plug, ite_same, decide_true, decide_false, eq_self, ↓reduceIte, reduceCtorEq, Nat.reduceAdd, Nat.reduceEqDiff, Nat.reduceLT, Nat.reduceLeDiff, Nat.reduceMul, Nat.reduceSub, Nat.reduceDiv, Int.reduceToNat, Int.reduceAdd, Int.reduceSub, Int.reduceMul, Int.reduceNeg, Int.reduceEq, Int.reduceLT, Int.reduceLE]; with_reducible rfl) ?_
          | with_reducible refine h_go (by with_unfolding_all rfl) (by simp (disch := omega) only [hlt', c30r0, c30r1, c30r2, c30r3, c30r4, c30r5, c30r6, c30r7, c30r8, c30r9, c30r11, c30r12, c30r13, c30r14, c30r15, c30r16, c30r17, c30r19, EV0, EV1, EV2, EV3, EV4, EV5, EV6, EV7, EV8, VALS, plug, ite_same, decide_true, decide_false, eq_self, ↓reduceIte, reduceCtorEq, Nat.reduceAdd, Nat.reduceEqDiff, Nat.reduceLT, Nat.reduceLeDiff, Nat.reduceMul, Nat.reduceSub, Nat.reduceDiv, Int.reduceToNat, Int.reduceAdd, Int.reduceSub, Int.reduceMul, Int.reduceNeg, Int.reduceEq, Int.reduceLT, Int.reduceLE]; with_reducible rfl) ?_
          | ((with_reducible refine chk_r ?_); refine r_callF (by simp only [CA, Nat.reduceEqDiff, ↓reduceIte]; rfl) (by exact rfl) (by simp only [CA, Nat.reduceEqDiff, ↓reduceIte]; rfl) rfl ?_)
          | ((with_reducible refine chk_h ?_); refine hr_callF (by simp only [CA, Nat.reduceEqDiff, ↓reduceIte]; rfl) (by exact rfl) (by simp only [CA, Nat.reduceEqDiff, ↓reduceIte]; rfl) rfl ?_)
          | ((with_reducible refine chk_h ?_); refine hr_app (by simp (disch := omega) only [hlt', c30r0, c30r1, c30r2, c30r3, c30r4, c30r5, c30r6, c30r7, c30r8, c30r9, c30r11, c30r12, c30r13, c30r14, c30r15, c30r16, c30r17, c30r19, EV0, EV1, EV2, EV3, EV4, EV5, EV6, EV7, EV8, VALS, plug, ite_same, decide_true, decide_false, eq_self, ↓reduceIte, reduceCtorEq, Nat.reduceAdd, Nat.reduceEqDiff, Nat.reduceLT, Nat.reduceLeDiff, Nat.reduceMul, Nat.reduceSub, Nat.reduceDiv, Int.reduceToNat, Int.reduceAdd, Int.reduceSub, Int.reduceMul, Int.reduceNeg, Int.reduceEq, Int.reduceLT, Int.reduceLE]; with_reducible rfl) rfl ?_)
          | (with_reducible refine k_condP (by simp only [GA, Nat.reduceEqDiff, ↓reduceIte]; rfl) (by first | (simp only [BO]; rfl) | rfl) (fun ht => ?_) (fun ht => ?_) <;> try (first | exact False.elim ht | exact absurd rfl ht | exact absurd trivial ht | exact Bool.noConfusion ht))
          | (with_reducible refine k_ret ?_; repeat with_reducible (first | refine ret_thru ?_ | refine ret_blk ?_ | refine fin ?_))
          | (with_reducible refine k_exit ?_; repeat with_reducible (first | refine thru ?_ | refine out_blk ?_ | refine pass (by decide) ?_))
          | (refine post1 ?_; simp only [GA, Nat.reduceEqDiff, ↓reduceIte])
          | (refine post2 ?_; simp only [GA, Nat.reduceEqDiff, ↓reduceIte])
          | (refine post3 ?_; simp only [GA, Nat.reduceEqDiff, ↓reduceIte])
          | (refine postc (by simp only [GA, Nat.reduceEqDiff, ↓reduceIte]; rfl) (by simp (disch := omega) only [hlt', c30r0, c30r1, c30r2, c30r3, c30r4, c30r5, c30r6, c30r7, c30r8, c30r9, c30r11, c30r12, c30r13, c30r14, c30r15, c30r16, c30r17, c30r19, EV0, EV1, EV2, EV3, EV4, EV5, EV6, EV7, EV8, VALS, plug, ite_same, decide_true, decide_false, eq_self, ↓reduceIte, reduceCtorEq, Nat.reduceAdd, Nat.reduceEqDiff, Nat.reduceLT, Nat.reduceLeDiff, Nat.reduceMul, Nat.reduceSub, Nat.reduceDiv, Int.reduceToNat, Int.reduceAdd, Int.reduceSub, Int.reduceMul, Int.reduceNeg, Int.reduceEq, Int.reduceLT, Int.reduceLE]; rfl) ?_)
          | refine post0 ?_
        exact ends_sl2 (k := 1) hmy (by rw [nl_len, Nat.mul_one])
  · rw [if_neg h0] at q ⊢
    generalize asked l tol = A at q h0 ⊢
    repeat' first
      | with_reducible refine k_seq ?_
      | with_reducible refine k_skip ?_
      | with_reducible refine k_blkS ?_
      | with_reducible refine k_blkR ?_
      | with_reducible refine k_blkC ?_
      | with_reducible refine k_blkH ?_
      | with_reducible refine k_blkB ?_
      | with_reducible refine k_blkK ?_
      | with_reducible refine k_blkE ?_
      | with_reducible refine k_reg ?_
      | with_reducible refine k_head (by with_unfolding_all rfl) ?_
      | with_reducible refine k_headS ?_
      | (with_reducible refine SepK.mk ?_ ?_; (refine sepQ_P ?_; simp [sepQ, sepG, AOp.late, AOp.free, AOp.xs, AOp.isAl, tokNe, AV.tok, stS_get, strip, AX.val, c30r0, c30r1, c30r2, c30r3, c30r4, c30r5, c30r6, c30r7, c30r8, c30r9, c30r11, c30r12, c30r13, c30r14, c30r15, c30r16, c30r17, c30r19, GA]; try omega))
      | with_reducible refine r_done ?_
      | with_reducible refine hr_done ?_
      | with_reducible refine s_go (by simp (disch := omega) only [h0, c30r0, c30r1, c30r2, c30r3, c30r4, c30r5, c30r6, c30r7, c30r8, c30r9, c30r11, c30r12, c30r13, c30r14, c30r15, c30r16, c30r17, c30r19, EV0, EV1, EV2, EV3, EV4, EV5, EV6, EV7, EV8, VALS, plug, ite_same, decide_true, decide_false, eq_self, ↓reduceIte, reduceCtorEq, Nat.reduceAdd, Nat.reduceEqDiff, Nat.reduceLT, Nat.reduceLeDiff, Nat.reduceMul, Nat.reduceSub, Nat.reduceDiv, Int.reduceToNat, Int.reduceAdd, Int.reduceSub, Int.reduceMul, Int.reduceNeg, Int.reduceEq, Int.reduceLT, Int.reduceLE]; with_reducible rfl) ?_
      | with_reducible refine h_go (by with_unfolding_all rfl) (by simp (disch := omega) only [h0, c30r0, c30r1, c30r2, c30r3, c30r4, c30r5, c30r6, c30r7, c30r8, c30r9, c30r11, c30r12, c30r13, c30r14, c30r15, c30r16, c30r17, c30r19, EV0, EV1, EV2, EV3, EV4, EV5, EV6, EV7, EV8, VALS, plug, ite_same, decide_true, decide_false, eq_self, ↓reduceIte, reduceCtorEq, Nat.reduceAdd, Nat.reduceEqDiff, Nat.reduceLT, Nat.reduceLeDiff, Nat.reduceMul, Nat.reduceSub, Nat.reduceDiv, Int.reduceToNat, Int.reduceAdd, Int.reduceSub, Int.reduceMul, Int.reduceNeg, Int.reduceEq, Int.reduceLT, Int.reduceLE]; with_reducible rfl) ?_
      | ((with_reducible refine chk_r ?_); refine r_callF (by simp only [CA, Nat.reduceEqDiff, ↓reduceIte]; rfl) (by exact rfl) (by simp only [CA, Nat.reduceEqDiff, ↓reduceIte]; rfl) rfl ?_)
      | ((with_reducible refine chk_h ?_); refine hr_callF (by simp only [CA, Nat.reduceEqDiff, ↓reduceIte]; rfl) (by exact rfl) (by simp only [CA, Nat.reduceEqDiff, ↓reduceIte]; rfl) rfl ?_)
      | ((with_reducible refine chk_r ?_); refine r_callP (by simp only [CA, Nat.reduceEqDiff, ↓reduceIte]; rfl) (by simp only [CA, Nat.reduceEqDiff, ↓reduceIte]; rfl) (by first | exact q _) rfl ?_)
      | ((with_reducible refine chk_h ?_); refine hr_callP (by simp only [CA, Nat.reduceEqDiff, ↓reduceIte]; rfl) (by simp only [CA, Nat.reduceEqDiff, ↓reduceIte]; rfl) (by first | exact q _) rfl ?_)
      | ((with_reducible refine chk_h ?_); refine hr_callP1 (by simp only [CA, Nat.reduceEqDiff, ↓reduceIte]; rfl) (by simp only [CA, Nat.reduceEqDiff, ↓reduceIte]; rfl) (by simp (disch := omega) only [CA, Nat.reduceEqDiff, ↓reduceIte, firstTok_nil, firstTok_sl, firstTok_sl0, firstTok_i, firstTok_b, firstTok_ag, firstTok_p, firstTok_s]; rfl) (by first | exact q _) rfl ?_)
      | ((with_reducible refine chk_h ?_); refine hr_app (by simp (disch := omega) only [h0, c30r0, c30r1, c30r2, c30r3, c30r4, c30r5, c30r6, c30r7, c30r8, c30r9, c30r11, c30r12, c30r13, c30r14, c30r15, c30r16, c30r17, c30r19, EV0, EV1, EV2, EV3, EV4, EV5, EV6, EV7, EV8, VALS, plug, ite_same, decide_true, decide_false, eq_self, ↓reduceIte, reduceCtorEq, Nat.reduceAdd, Nat.reduceEqDiff, Nat.reduceLT, Nat.reduceLeDiff, Nat.reduceMul, Nat.reduceSub, Nat.reduceDiv, Int.reduceToNat, Int.reduceAdd, Int.reduceSub, Int.reduceMul, Int.reduceNeg, Int.reduceEq, Int.reduceLT, Int.reduceLE]; with_reducible rfl) rfl ?_)
      | (with_reducible refine k_condP (by simp only [GA, Nat.reduceEqDiff, ↓reduceIte]; rfl) (by first | (simp only [BO]; rfl) | rfl) (fun ht => ?_) (fun ht => ?_) <;> try (first | exact False.elim ht | exact absurd rfl ht | exact absurd trivial ht | exact Bool.noConfusion ht))
      | (with_reducible refine k_ret ?_; repeat with_reducible (first | refine ret_thru ?_ | refine ret_blk ?_ | refine fin ?_))
      | (with_reducible refine k_exit ?_; repeat with_reducible (first | refine thru ?_ | refine out_blk ?_ | refine pass (by decide) ?_))
      | (refine post1 ?_; simp only [GA, Nat.reduceEqDiff, ↓reduceIte])
      | (refine post2 ?_; simp only [GA, Nat.reduceEqDiff, ↓reduceIte])
      | (refine post3 ?_; simp only [GA, Nat.reduceEqDiff, ↓reduceIte])
      | (refine postc (by simp only [GA, Nat.reduceEqDiff, ↓reduceIte]; rfl) (by simp (disch := omega) only [h0, c30r0, c30r1, c30r2, c30r3, c30r4, c30r5, c30r6, c30r7, c30r8, c30r9, c30r11, c30r12, c30r13, c30r14, c30r15, c30r16, c30r17, c30r19, EV0, EV1, EV2, EV3, EV4, EV5, EV6, EV7, EV8, VALS, plug, ite_same, decide_true, decide_false, eq_self, ↓reduceIte, reduceCtorEq, Nat.reduceAdd, Nat.reduceEqDiff, Nat.reduceLT, Nat.reduceLeDiff, Nat.reduceMul, Nat.reduceSub, Nat.reduceDiv, Int.reduceToNat, Int.reduceAdd, Int.reduceSub, Int.reduceMul, Int.reduceNeg, Int.reduceEq, Int.reduceLT, Int.reduceLE]; rfl) ?_)
      | refine post0 ?_
    exact ends_nil2
end Go.Proofs.Ytbhkbaapfioijaa
set_option linter.unusedVariables false
set_option linter.unusedSimpArgs false
namespace Go.Proofs.Ytbhkbaapfioijaa
open Go Go.Am Go.Proofs Go.Sort
/-! ### The document's pairs: plain -/
/-- xs: the temples of a side and a colour that are not gone, the least first -/
structure Has (l : List T) (gs : List Bool) (s c : Int) (xs : List Nat) : Prop where
  iff : ∀ i, i ∈ xs ↔ i < l.length ∧ gs.getD i false = false ∧ onside l s c i = true
  nd : xs.Nodup
  srt : xs.Pairwise fun i k => ltT l k i = false
theorem side_srt (l : List T) (s c : Int) : (sideL l s c).Pairwise fun i k => ltT l k i = false := by
  have := List.pairwise_mergeSort (le := fun i k => !ltT l k i) (by
    intro a b c h1 h2
    simp only [ltT, Bool.not_eq_true', decide_eq_false_iff_not] at *
    omega) (by
    intro a b
    simp only [ltT, Bool.or_eq_true, Bool.not_eq_true', decide_eq_false_iff_not]
    omega) (sfil l s c l.length)
  exact this.imp fun h => by simpa using h
theorem onside_iff {l : List T} {s c : Int} {i : Nat} : onside l s c i = true ↔ (l.getD i T0).side = s ∧ (l.getD i T0).col = c := by simp [onside]
theorem Has.init {l : List T} {gs : List Bool} {s c : Int} (h : ∀ i, i < l.length → (l.getD i T0).col = c → gs.getD i false = false) : Has l gs s c (sideL l s c) where
  iff i := by
    rw [mem_side, onside_iff]
    constructor
    · rintro ⟨h1, h2, h3⟩; exact ⟨h1, h i h1 h3, h2, h3⟩
    · rintro ⟨h1, _, h2, h3⟩; exact ⟨h1, h2, h3⟩
  nd := side_nodup l s c
  srt := side_srt l s c
end Go.Proofs.Ytbhkbaapfioijaa
set_option linter.unusedVariables false
set_option linter.unusedSimpArgs false
namespace Go.Proofs.Ytbhkbaapfioijaa
open Go Go.Am Go.Proofs Go.Sort
/-! ### The document's most: plain -/
/-- i can be paired with k -/
def ed (l : List T) (tol : Int) (i k : Nat) : Bool := can (l.getD i T0) (l.getD k T0) tol
/-- partners of some temples: of the right ones, left ones; no one twice -/
structure MQ (l : List T) (tol : Int) (Q : Nat → Int) : Prop where
  rng : ∀ k, Q k = -1 ∨ ∃ j : Nat, Q k = j ∧ j < l.length ∧ k < l.length ∧ (l.getD j T0).side = 1 ∧ ed l tol j k = true
  inj : ∀ k k', 0 ≤ Q k → Q k = Q k' → k = k'
/-- how many have a partner -/
def cnt (Q : Nat → Int) (n : Nat) : Nat := ((List.range n).filter fun k => decide (0 ≤ Q k)).length
theorem cnt_succ (Q : Nat → Int) (n : Nat) : cnt Q (n + 1) = cnt Q n + if 0 ≤ Q n then 1 else 0 := by
  unfold cnt
  rw [List.range_succ, List.filter_append, List.length_append]
  by_cases h : 0 ≤ Q n <;> simp [h]
theorem cnt_congr {Q R : Nat → Int} : ∀ {n : Nat}, (∀ k, k < n → (0 ≤ Q k ↔ 0 ≤ R k)) → cnt Q n = cnt R n
  | 0, _ => rfl
  | n + 1, h => by
    rw [cnt_succ, cnt_succ, cnt_congr fun k hk => h k (by omega)]
    by_cases q : 0 ≤ Q n
    · rw [if_pos q, if_pos ((h n (by omega)).1 q)]
    · rw [if_neg q, if_neg fun r => q ((h n (by omega)).2 r)]
def upd (Q : Nat → Int) (k : Nat) (x : Int) : Nat → Int := fun m => if m = k then x else Q m
theorem cnt_set {Q : Nat → Int} {k : Nat} {x : Int} (hQ : ¬ 0 ≤ Q k) (hx : 0 ≤ x) : ∀ {n : Nat}, k < n → cnt (upd Q k x) n = cnt Q n + 1
  | 0, h => by omega
  | n + 1, h => by
    rw [cnt_succ, cnt_succ]
    by_cases e : k = n
    · subst e
      have : cnt (upd Q k x) k = cnt Q k := cnt_congr fun m hm => by unfold upd; rw [if_neg (by omega)]
      rw [this, if_neg hQ]
      unfold upd
      rw [if_pos rfl, if_pos hx]
    · rw [cnt_set hQ hx (n := n) (by omega)]
      have : upd Q k x n = Q n := by unfold upd; rw [if_neg (by omega)]
      rw [this]
      omega
/-- partners and what was seen, az functions -/
def pf (P : List Int) (k : Nat) : Int := P.getD k (-1)
def sf (S : List Bool) (k : Nat) : Bool := S.getD k false
theorem sf_set {S : List Bool} {k m : Nat} (hk : k < S.length) : sf (S.set k true) m = (decide (m = k) || sf S m) := by
  unfold sf
  by_cases e : m = k
  · subst e; simp [List.getD_eq_getElem?_getD, hk]
  · have : ¬ k = m := fun q => e q.symm
    simp [List.getD_eq_getElem?_getD, List.getElem?_set, this, e]
theorem pf_set {P : List Int} {k m : Nat} {x : Int} (hk : k < P.length) : pf (P.set k x) m = if m = k then x else pf P m := by
  unfold pf
  by_cases e : m = k
  · subst e; simp [List.getD_eq_getElem?_getD, hk]
  · have : ¬ k = m := fun q => e q.symm
    simp [List.getD_eq_getElem?_getD, List.getElem?_set, this, e]
/-- what was seen stays what it was thought to be -/
def mix (S : List Bool) (Q : Nat → Int) (P : List Int) : Nat → Int := fun k => if sf S k = true then Q k else pf P k
/-- what a search gives -/
def Fnd (l : List T) (tol : Int) (Q : Nat → Int) (P : List Int) (S : List Bool) (i : Nat) (b : Bool) (P' : List Int) (S' : List Bool) : Prop :=
  P'.length = l.length ∧ S'.length = l.length ∧ (∀ k, sf S k = true → sf S' k = true ∧ pf P' k = pf P k) ∧
  (b = true → MQ l tol (mix S Q P') ∧ cnt (mix S Q P') l.length = cnt Q l.length + 1 ∧ ∀ k, 0 ≤ mix S Q P' k → mix S Q P' k = i ∨ ∃ k', mix S Q P' k = Q k') ∧
  (b = false → P' = P ∧ (∀ k, k < l.length → ed l tol i k = true → sf S' k = true) ∧
    ∀ k, sf S' k = true → sf S k = false → ∃ j : Nat, pf P k = j ∧ j < l.length ∧ k < l.length ∧ ed l tol j k = true ∧ ∀ m, m < l.length → ed l tol j m = true → sf S' m = true)
/-- what must hold ahead of a search -/
structure Pre (l : List T) (tol : Int) (Q : Nat → Int) (P : List Int) (S : List Bool) (i : Nat) : Prop where
  pl : P.length = l.length
  sl : S.length = l.length
  il : i < l.length
  is : (l.getD i T0).side = 1
  mq : MQ l tol Q
  eq : ∀ k, sf S k = false → Q k = pf P k
  fr : ∀ k, Q k ≠ i
/-- in a loop: so far nothing was found -/
structure Sofar (l : List T) (tol : Int) (P : List Int) (S S1 : List Bool) (i k : Nat) : Prop where
  sl : S1.length = l.length
  le : ∀ m, sf S m = true → sf S1 m = true
  me : ∀ m, m < k → ed l tol i m = true → sf S1 m = true
  cl : ∀ m, sf S1 m = true → sf S m = false → ∃ j : Nat, pf P m = j ∧ j < l.length ∧ m < l.length ∧ ed l tol j m = true ∧ ∀ m', m' < l.length → ed l tol j m' = true → sf S1 m' = true
variable {l : List T} {tol : Int} {Q : Nat → Int} {P P2 : List Int} {S S1 S2 : List Bool} {i k : Nat}
theorem Sofar.init (h : Pre l tol Q P S i) : Sofar l tol P S S i 0 := ⟨h.sl, fun _ h => h, fun m hm => by omega, fun m h1 h2 => by rw [h1] at h2; cases h2⟩
theorem Sofar.skip (h : Sofar l tol P S S1 i k) (hk : sf S1 k = true ∨ ¬ ed l tol i k = true) : Sofar l tol P S S1 i (k + 1) := ⟨h.sl, h.le, fun m hm he => by
  by_cases e : m = k
  · subst e; rcases hk with hk | hk; exact hk; exact absurd he hk
  · exact h.me m (by omega) he, h.cl⟩
theorem sf_mono_f (h : Sofar l tol P S S1 i k) {m : Nat} (hm : sf S1 m = false) : sf S m = false := by
  cases q : sf S m with
  | false => rfl
  | true => rw [h.le m q] at hm; cases hm
/-- the partner's search -/
theorem Pre.next (h : Pre l tol Q P S i) (g : Sofar l tol P S S1 i k) (hk : k < l.length) (hs : sf S1 k = false) {j : Nat} (hj : pf P k = j) : Pre l tol (upd Q k (-1)) P (S1.set k true) j := by
  have q1 := h.eq k (sf_mono_f g hs)
  obtain ⟨j', e1, e2, e3, e4, e5⟩ : ∃ j : Nat, Q k = j ∧ j < l.length ∧ k < l.length ∧ (l.getD j T0).side = 1 ∧ ed l tol j k = true := by
    rcases h.mq.rng k with e | e
    · rw [q1, hj] at e; omega
    · exact e
  have : j' = j := by rw [q1, hj] at e1; omega
  subst this
  refine ⟨h.pl, by rw [List.length_set]; exact g.sl, e2, e4, ⟨fun m => ?_, fun m m' => ?_⟩, fun m hm => ?_, fun m => ?_⟩
  · unfold upd
    split
    · exact .inl rfl
    · exact h.mq.rng m
  · unfold upd
    intro a b
    split at a
    · omega
    · rename_i n1
      rw [if_neg n1] at b
      split at b
      · omega
      · exact h.mq.inj m m' a b
  · rw [sf_set (by rw [g.sl]; exact hk)] at hm
    simp only [Bool.or_eq_false_iff, decide_eq_false_iff_not] at hm
    unfold upd
    rw [if_neg hm.1]
    exact h.eq m (sf_mono_f g hm.2)
  · unfold upd
    split
    · omega
    · rename_i n1
      intro e
      exact n1 (h.mq.inj m k (by omega) (by omega))
/-- it is found: one with no partner -/
theorem Fnd.free (h : Pre l tol Q P S i) (g : Sofar l tol P S S1 i k) (hk : k < l.length) (hs : sf S1 k = false) (he : ed l tol i k = true) (hj : pf P k < 0) : Fnd l tol Q P S i true (P.set k i) (S1.set k true) := by
  have sk := sf_mono_f g hs
  have q1 := h.eq k sk
  have sset : ∀ m, sf (S1.set k true) m = (decide (m = k) || sf S1 m) := fun m => sf_set (by rw [g.sl]; exact hk)
  have pset : ∀ m, pf (P.set k i) m = if m = k then (i : Int) else pf P m := fun m => pf_set (by rw [h.pl]; exact hk)
  have view : mix S Q (P.set k i) = upd Q k i := by
    funext m
    unfold mix upd
    rw [pset]
    by_cases e : m = k
    · subst e; simp [sk]
    · simp only [e, if_false]
      cases b : sf S m with
      | true => simp
      | false => simp [h.eq m b]
  refine ⟨by rw [List.length_set]; exact h.pl, by rw [List.length_set]; exact g.sl, fun m hm => ⟨by rw [sset, g.le m hm]; simp, ?_⟩, fun _ => ?_, fun q => by cases q⟩
  · rw [pset, if_neg (fun e => by subst e; rw [sk] at hm; cases hm)]
  · rw [view]
    refine ⟨⟨fun m => ?_, fun m m' => ?_⟩, cnt_set (by omega) (by omega) hk, fun m => ?_⟩
    · unfold upd
      split
      · rename_i e; subst e
        exact .inr ⟨i, rfl, h.il, hk, h.is, he⟩
      · exact h.mq.rng m
    · unfold upd
      intro a b
      split at a
      · rename_i e; subst e
        rw [if_pos rfl] at b
        split at b
        · rename_i e; exact e.symm
        · exact absurd b.symm (h.fr m')
      · rename_i n1
        rw [if_neg n1] at b
        split at b
        · exact absurd b (h.fr m)
        · exact h.mq.inj m m' a b
    · unfold upd
      split
      · exact fun _ => .inl rfl
      · exact fun _ => .inr ⟨m, rfl⟩
/-- the partner finds no other one -/
theorem Sofar.no (h : Pre l tol Q P S i) (g : Sofar l tol P S S1 i k) (hk : k < l.length) (hs : sf S1 k = false) {j : Nat} (hj : pf P k = j)
    (f : Fnd l tol (upd Q k (-1)) P (S1.set k true) j false P2 S2) : P2 = P ∧ Sofar l tol P S S2 i (k + 1) := by
  obtain ⟨f1, f2, f3, -, f4⟩ := f
  obtain ⟨f4, f5, f6⟩ := f4 rfl
  have sset : ∀ m, sf (S1.set k true) m = (decide (m = k) || sf S1 m) := fun m => sf_set (by rw [g.sl]; exact hk)
  have up : ∀ m, sf S1 m = true → sf S2 m = true := fun m hm => (f3 m (by rw [sset, hm]; simp)).1
  have upk : sf S2 k = true := (f3 k (by rw [sset]; simp)).1
  have nx := h.next g hk hs hj
  have q1 := h.eq k (sf_mono_f g hs)
  refine ⟨f4, f2, fun m hm => up m (g.le m hm), fun m hm he => ?_, fun m h1 h2 => ?_⟩
  · by_cases e : m = k
    · subst e; exact upk
    · exact up m (g.me m (by omega) he)
  · by_cases e : m = k
    · subst e
      obtain ⟨j', e1, e2, e3, e4, e5⟩ : ∃ j : Nat, Q m = j ∧ j < l.length ∧ m < l.length ∧ (l.getD j T0).side = 1 ∧ ed l tol j m = true := by
        rcases h.mq.rng m with e | e
        · rw [q1, hj] at e; omega
        · exact e
      have : j' = j := by rw [q1, hj] at e1; omega
      subst this
      exact ⟨j', hj, e2, e3, e5, f5⟩
    · cases a : sf S1 m with
      | true =>
        obtain ⟨j', c1, c2, c3, c4, c5⟩ := g.cl m a h2
        exact ⟨j', c1, c2, c3, c4, fun m' h3 h4 => up m' (c5 m' h3 h4)⟩
      | false => exact f6 m h1 (by rw [sset, a]; simp [e])
/-- nothing is found at the end -/
theorem Fnd.no (h : Pre l tol Q P S i) (g : Sofar l tol P S S1 i l.length) : Fnd l tol Q P S i false P S1 :=
  ⟨h.pl, g.sl, fun m hm => ⟨g.le m hm, rfl⟩, fun q => by (cases q), fun _ => ⟨rfl, g.me, g.cl⟩⟩
/-- so many are not seen -/
def uns (S : List Bool) : Nat := S.countP fun b => !b
theorem uns_set {S : List Bool} {k : Nat} (hk : k < S.length) (hs : sf S k = false) : uns (S.set k true) + 1 = uns S := by
  induction S generalizing k with
  | nil => simp at hk
  | cons b S ih =>
    cases k with
    | zero =>
      unfold sf at hs
      simp at hs
      subst hs
      simp [uns]
    | succ k =>
      have := ih (k := k) (by simpa using hk) (by simpa [sf] using hs)
      unfold uns at *
      rw [List.set_cons_succ, List.countP_cons, List.countP_cons]
      omega
theorem uns_le {S S' : List Bool} (hl : S.length = S'.length) (h : ∀ m, sf S m = true → sf S' m = true) : uns S' ≤ uns S := by
  induction S generalizing S' with
  | nil => cases S' with
    | nil => exact Nat.le_refl _
    | cons _ _ => simp at hl
  | cons b S ih =>
    cases S' with
    | nil => simp at hl
    | cons b' S' =>
      have h1 := ih (S' := S') (by simpa using hl) fun m hm => by have := h (m + 1) (by simpa [sf] using hm); simpa [sf] using this
      have h2 := h 0
      simp only [sf, List.getD_cons_zero] at h2
      unfold uns at *
      rw [List.countP_cons, List.countP_cons]
      cases b <;> cases b' <;> simp_all <;> omega
end Go.Proofs.Ytbhkbaapfioijaa
set_option linter.unusedVariables false
set_option linter.unusedSimpArgs false
namespace Go.Proofs.Ytbhkbaapfioijaa
open Go Go.Am Go.Proofs Go.Sort
/-! ### The document's most is the most: plain -/
theorem nodup_len : ∀ {A B : List Nat}, A.Nodup → (∀ x ∈ A, x ∈ B) → A.length ≤ B.length
  | [], B, _, _ => Nat.zero_le _
  | a :: A, B, h, s => by
    have h' := List.nodup_cons.1 h
    have ha := s a (by simp)
    have := nodup_len (A := A) (B := B.erase a) h'.2 fun x hx => (List.mem_erase_of_ne (by rintro rfl; exact h'.1 hx)).2 (s x (by simp [hx]))
    rw [List.length_erase_of_mem ha] at this
    have := List.length_pos_of_mem ha
    simp only [List.length_cons]
    omega
theorem ed_iff {l : List T} {tol : Int} {j k : Nat} : ed l tol j k = true ↔ (l.getD j T0).side ≠ (l.getD k T0).side ∧ (l.getD j T0).col = (l.getD k T0).col ∧ apart (l.getD j T0) (l.getD k T0) ≤ tol := by
  simp [ed, can, mates, and_assoc]
theorem side2 {l : List T} (hv : VL l) {j k : Nat} (hk : k < l.length) (hj : (l.getD j T0).side = 1) (hn : (l.getD j T0).side ≠ (l.getD k T0).side) : (l.getD k T0).side = 2 := by
  have := vt_len (hv.t hk); omega
/-- pairs of the first i temples are at most n -/
def Top (l : List T) (tol : Int) (i n : Nat) : Prop := ∀ M, PairsOK l tol M → (∀ p ∈ M, p.1 < i) → M.length ≤ n
theorem Top.zero (l : List T) (tol : Int) : Top l tol 0 0 := fun M _ h => by
  cases M with
  | nil => simp
  | cons p M => have := h p (by simp); omega
theorem Top.skip {l : List T} {tol : Int} {i n : Nat} (h : Top l tol i n) (hs : (l.getD i T0).side ≠ 1) : Top l tol (i + 1) n := fun M hM hi => h M hM fun p hp => by
  have := hi p hp
  have q := (hM.2.2 p hp).2.2.1
  have : p.1 ≠ i := fun e => hs (e ▸ q)
  omega
theorem Top.no {l : List T} {tol : Int} {i n : Nat} (hv : VL l) (h : Top l tol i n) {P : List Int} {S : List Bool} (mq : MQ l tol (pf P)) (hi : ∀ k, pf P k < i) (me : ∀ k, k < l.length → ed l tol i k = true → sf S k = true)
    (cl : ∀ m, sf S m = true → ∃ j : Nat, pf P m = j ∧ j < l.length ∧ m < l.length ∧ ed l tol j m = true ∧ ∀ m', m' < l.length → ed l tol j m' = true → sf S m' = true) : Top l tol (i + 1) n := fun M hM hlt => by
  let A := M.filter fun p => sf S p.2
  let B := M.filter fun p => !sf S p.2
  let R := (List.range l.length).filter fun k => sf S k
  let C := R.map fun k => ((pf P k).toNat, k)
  have split : M.length = A.length + B.length := by
    show M.length = (M.filter fun p => sf S p.2).length + (M.filter fun p => !sf S p.2).length
    rw [List.length_eq_countP_add_countP (fun p : Nat × Nat => sf S p.2), List.countP_eq_length_filter, List.countP_eq_length_filter]
    congr 2
    exact List.filter_congr fun p _ => by simp
  have hR : ∀ k, k ∈ R ↔ k < l.length ∧ sf S k = true := fun k => by simp [R, List.mem_filter, List.mem_range]
  have nR : R.Nodup := List.nodup_range.filter _
  have hA : A.length ≤ C.length := by
    have : (A.map Prod.snd).length ≤ R.length := nodup_len (hM.2.1.sublist (List.filter_sublist.map _)) fun x hx => by
      obtain ⟨p, hp, rfl⟩ := List.mem_map.1 hx
      obtain ⟨p1, p2⟩ := List.mem_filter.1 hp
      exact (hR p.2).2 ⟨(hM.2.2 p p1).2.1, p2⟩
    simpa [C] using this
  have hB : ∀ p ∈ B, p ∈ M ∧ sf S p.2 = false := fun p hp => by
    obtain ⟨p1, p2⟩ := List.mem_filter.1 hp
    exact ⟨p1, by simpa using p2⟩
  have eM : ∀ p ∈ M, ed l tol p.1 p.2 = true := fun p hp => by
    obtain ⟨_, _, c3, c4, c5, c6⟩ := hM.2.2 p hp
    rw [ed_iff]
    exact ⟨by rw [c3, c4]; decide, c5, c6⟩
  have hC : ∀ k, k ∈ R → ∃ j : Nat, pf P k = j ∧ j < l.length ∧ k < l.length ∧ ed l tol j k = true ∧ (l.getD j T0).side = 1 ∧ ∀ m', m' < l.length → ed l tol j m' = true → sf S m' = true := fun k hk => by
    obtain ⟨j, c1, c2, c3, c4, c5⟩ := cl k ((hR k).1 hk).2
    refine ⟨j, c1, c2, c3, c4, ?_, c5⟩
    rcases mq.rng k with e | ⟨j', e1, _, _, e4, _⟩
    · omega
    · have : j' = j := by omega
      subst this; exact e4
  have := h (B ++ C) ⟨?_, ?_, ?_⟩ ?_
  · rw [List.length_append] at this; omega
  · rw [List.map_append, List.nodup_append]
    refine ⟨hM.1.sublist (List.filter_sublist.map _), ?_, fun a ha b hb e => ?_⟩
    · show ((R.map fun k => ((pf P k).toNat, k)).map Prod.fst).Nodup
      rw [List.map_map]
      refine nodup_map nR fun x hx y hy e => ?_
      obtain ⟨j, c1, _⟩ := hC x hx
      obtain ⟨j', c1', _⟩ := hC y hy
      simp only [Function.comp_apply] at e
      exact mq.inj x y (by omega) (by omega)
    · subst e
      obtain ⟨p, hp, rfl⟩ := List.mem_map.1 ha
      obtain ⟨q, hq, e⟩ := List.mem_map.1 hb
      obtain ⟨k, hk, rfl⟩ := List.mem_map.1 hq
      obtain ⟨j, c1, _, _, _, _, c5⟩ := hC k hk
      simp only [c1, Int.toNat_natCast] at e
      have hp' := hB p hp
      have := c5 p.2 (hM.2.2 p hp'.1).2.1 (by rw [e]; exact eM p hp'.1)
      rw [hp'.2] at this
      cases this
  · rw [List.map_append, List.nodup_append]
    refine ⟨hM.2.1.sublist (List.filter_sublist.map _), ?_, fun a ha b hb e => ?_⟩
    · show ((R.map fun k => ((pf P k).toNat, k)).map Prod.snd).Nodup
      rw [List.map_map]
      have : (Prod.snd ∘ fun k : Nat => ((pf P k).toNat, k)) = id := rfl
      rw [this, List.map_id]
      exact nR
    · subst e
      obtain ⟨p, hp, rfl⟩ := List.mem_map.1 ha
      obtain ⟨q, hq, e⟩ := List.mem_map.1 hb
      obtain ⟨k, hk, rfl⟩ := List.mem_map.1 hq
      simp only at e
      have := ((hR k).1 hk).2
      rw [e, (hB p hp).2] at this
      cases this
  · intro p hp
    rcases List.mem_append.1 hp with hp | hp
    · exact hM.2.2 p (hB p hp).1
    · obtain ⟨k, hk, rfl⟩ := List.mem_map.1 hp
      obtain ⟨j, c1, c2, c3, c4, c6, c5⟩ := hC k hk
      simp only [c1, Int.toNat_natCast]
      have e := ed_iff.1 c4
      exact ⟨c2, c3, c6, side2 hv c3 c6 e.1, e.2.1, e.2.2⟩
  · intro p hp
    rcases List.mem_append.1 hp with hp | hp
    · have hp' := hB p hp
      have := hlt p hp'.1
      have : p.1 ≠ i := fun e => by
        have := me p.2 (hM.2.2 p hp'.1).2.1 (by rw [← e]; exact eM p hp'.1)
        rw [hp'.2] at this
        cases this
      omega
    · obtain ⟨k, hk, rfl⟩ := List.mem_map.1 hp
      obtain ⟨j, c1, _⟩ := hC k hk
      have := hi k
      simp only
      omega
/-- so many partners are pairs -/
theorem MQ.pairs {l : List T} {tol : Int} {Q : Nat → Int} (hv : VL l) (mq : MQ l tol Q) : cnt Q l.length ≤ (matchL l tol).length := by
  have hR : ∀ k, k ∈ (List.range l.length).filter (fun k => decide (0 ≤ Q k)) → ∃ j : Nat, Q k = j ∧ j < l.length ∧ k < l.length ∧ (l.getD j T0).side = 1 ∧ ed l tol j k = true := fun k hk => by
    have h0 : 0 ≤ Q k := by simpa using (List.mem_filter.1 hk).2
    rcases mq.rng k with e | e
    · omega
    · exact e
  have := match_max hv (tol := tol) (M := ((List.range l.length).filter fun k => decide (0 ≤ Q k)).map fun k => ((Q k).toNat, k)) ⟨?_, ?_, ?_⟩
  · rw [List.length_map] at this; exact this
  · rw [List.map_map]
    refine nodup_map (List.nodup_range.filter _) fun x hx y hy e => ?_
    obtain ⟨j, c1, _⟩ := hR x hx
    obtain ⟨j', c1', _⟩ := hR y hy
    simp only [Function.comp_apply] at e
    exact mq.inj x y (by omega) (by omega)
  · rw [List.map_map]
    have : (Prod.snd ∘ fun k : Nat => ((Q k).toNat, k)) = id := rfl
    rw [this, List.map_id]
    exact List.nodup_range.filter _
  · intro p hp
    obtain ⟨k, hk, rfl⟩ := List.mem_map.1 hp
    obtain ⟨j, c1, c2, c3, c4, c5⟩ := hR k hk
    simp only [c1, Int.toNat_natCast]
    have e := ed_iff.1 c5
    exact ⟨c2, c3, c4, side2 hv c3 c4 e.1, e.2.1, e.2.2⟩
theorem Top.fin {l : List T} {tol : Int} {Q : Nat → Int} (hv : VL l) (mq : MQ l tol Q) (h : Top l tol l.length (cnt Q l.length)) : cnt Q l.length = (matchL l tol).length :=
  Nat.le_antisymm (mq.pairs hv) (h _ (match_ok l tol) fun p hp => ((match_ok l tol).2.2 p hp).1)
end Go.Proofs.Ytbhkbaapfioijaa
set_option linter.unusedVariables false
set_option linter.unusedSimpArgs false
namespace Go.Proofs.Ytbhkbaapfioijaa
open Go Go.Am Go.Proofs Go.Sort
theorem sf_get {S : List Bool} {k : Nat} (h : k < S.length) : (bl S)[k]? = some (.b (sf S k)) := by simp [bl, sf, h]
theorem sf_rep (n m : Nat) : sf (List.replicate n false) m = false := by
  unfold sf
  by_cases h : m < n <;> simp [List.getD_eq_getElem?_getD, h]
end Go.Proofs.Ytbhkbaapfioijaa
set_option linter.unusedVariables false
set_option linter.unusedSimpArgs false
namespace Go.Proofs.Ytbhkbaapfioijaa
open Go Go.Am Go.Proofs Go.Sort
/-! ### IsGuard -/
abbrev ni (ns : List Int) (k : Nat) : Int := ns.getD k 0
/-- x is one of the first k -/
abbrev hasI (ns : List Int) (k : Nat) (x : Int) : Prop := ∃ i, i < k ∧ ni ns i = x
theorem hasI_succ {ns : List Int} {k : Nat} {x : Int} : hasI ns (k + 1) x ↔ x = ni ns k ∨ hasI ns k x := by
  constructor
  · rintro ⟨i, hi, e⟩
    by_cases h : i = k
    · subst h; exact .inl e.symm
    · exact .inr ⟨i, by omega, e⟩
  · rintro (e | ⟨i, hi, e⟩)
    · exact ⟨k, by omega, e.symm⟩
    · exact ⟨i, by omega, e⟩
/-- the first k are indexes, no one twice -/
def GK (l : List T) (ns : List Int) (k : Nat) : Prop := ∀ i, i < k → 0 ≤ ni ns i ∧ ni ns i < l.length ∧ ¬ hasI ns i (ni ns i)
theorem GK.succ {l : List T} {ns : List Int} {k : Nat} (h : GK l ns k) (h1 : 0 ≤ ni ns k ∧ ni ns k < l.length) (h2 : ¬ hasI ns k (ni ns k)) : GK l ns (k + 1) := fun i hi => by
  by_cases e : i = k
  · subst e; exact ⟨h1.1, h1.2, h2⟩
  · exact h i (by omega)
/-- of two that can be a pair one is there -/
def CV (l : List T) (tol : Int) (p : Int → Prop) (n : Nat) : Prop := ∀ i, i < n → ∀ k, k < i → ed l tol i k = true → p i ∨ p k
open Classical in
noncomputable def isG (l : List T) (tol : Int) (ns : List Int) : Bool × Int :=
  if asked l tol = 0 then (if GK l ns ns.length then (decide (CV l tol (hasI ns ns.length) l.length), 0) else (false, 2)) else (false, asked l tol)
theorem isG_err {l : List T} {tol : Int} {ns : List Int} (h : ¬ asked l tol = 0) : isG l tol ns = (false, asked l tol) := by unfold isG; rw [if_neg h]
theorem isG_arg {l : List T} {tol : Int} {ns : List Int} (h : asked l tol = 0) {k : Nat} (hk : k < ns.length) (hn : ¬ (0 ≤ ni ns k ∧ ni ns k < l.length) ∨ hasI ns k (ni ns k)) : isG l tol ns = (false, 2) := by
  unfold isG
  rw [if_pos h, if_neg]
  intro g
  have := g k hk
  rcases hn with hn | hn
  · exact hn ⟨this.1, this.2.1⟩
  · exact this.2.2 hn
theorem isG_no {l : List T} {tol : Int} {ns : List Int} (h : asked l tol = 0) (g : GK l ns ns.length) {i k : Nat} (hi : i < l.length) (hk : k < i) (e : ed l tol i k = true) (n1 : ¬ hasI ns ns.length i) (n2 : ¬ hasI ns ns.length k) : isG l tol ns = (false, 0) := by
  unfold isG
  rw [if_pos h, if_pos g, @decide_eq_false _ (Classical.propDecidable _)]
  intro c
  rcases c i hi k hk e with q | q
  · exact n1 q
  · exact n2 q
theorem isG_yes {l : List T} {tol : Int} {ns : List Int} (h : asked l tol = 0) (g : GK l ns ns.length) (c : CV l tol (hasI ns ns.length) l.length) : isG l tol ns = (true, 0) := by
  unfold isG
  rw [if_pos h, if_pos g, @decide_eq_true _ (Classical.propDecidable _) c]
set_option maxHeartbeats 1000000 in
theorem pc41 (l : List T) (hl : l.length ≤ 9223372036854775807) (tol : Int) (ns : List Int) (hn : ns.length ≤ 9223372036854775807) : PC Try.prog 41 [vT l, .i .i64 tol, vi ns] (.tu [.b (isG l tol ns).1, .i .i64 (isG l tol ns).2]) := by
  refine pc_fn fn41 (by simp only [AV.plains, AV.plain, il_plain, bl_plain, Bool.and_true, Bool.true_and, Bool.and_self, flT_plain, il_plain]) (by simp only [AV.plains, AV.plain, il_plain, bl_plain, Bool.and_true, Bool.true_and, Bool.and_self, flT_plain, il_plain]) (Nat.le_of_ble_eq_true rfl) ?_
  rw [initSt3]
  have q := pc49 l hl tol
  by_cases h0 : asked l tol = 0
  · have hv := (asked_ok h0).1
    have hl6 := hv.len
    have stop : ∀ {b : Bool} {e : Int}, isG l tol ns = (b, e) → ∀ h, Am.Ends (AV.tu [.b (isG l tol ns).1, .i .i64 (isG l tol ns).2]) (AV.tu [.b b, .i .i64 e]) h := fun e h => by rw [e]; exact ends_of
    rw [h0] at q
    repeat' first
      | with_reducible refine k_seq ?_
      | with_reducible refine k_skip ?_
      | with_reducible refine k_blkS ?_
      | with_reducible refine k_blkR ?_
      | with_reducible refine k_blkC ?_
      | with_reducible refine k_blkH ?_
      | with_reducible refine k_blkB ?_
      | with_reducible refine k_blkK ?_
      | with_reducible refine k_blkE ?_
      | with_reducible refine k_reg ?_
      | with_reducible refine r_done ?_
      | with_reducible refine s_go (by simp (disch := omega) only [c41r0, c41r1, c41r2, c41r3, c41r4, c41r5, c41r6, c41r7, c41r8, c41r9, c41r10, c41r11, c41r13, c41r14, c41r15, c41r16, c41r17, c41r18, c41r19, c41r20, c41r21, c41r23, c41r25, EV0, EV1, EV2, EV3, EV4, EV5, EV6, EV7, EV8, VALS, plug, ite_same, decide_true, decide_false, eq_self, ↓reduceIte, reduceCtorEq, Nat.reduceAdd, Nat.reduceEqDiff, Nat.reduceLT, Nat.reduceLeDiff, Nat.reduceMul, Nat.reduceSub, Nat.reduceDiv, Int.reduceToNat, Int.reduceAdd, Int.reduceSub, Int.reduceMul, Int.reduceNeg, Int.reduceEq, Int.reduceLT, Int.reduceLE]; with_reducible rfl) ?_
      | ((with_reducible refine chk_r ?_); refine r_callF (by simp only [CA, Nat.reduceEqDiff, ↓reduceIte]; rfl) (by exact rfl) (by simp only [CA, Nat.reduceEqDiff, ↓reduceIte]; rfl) rfl ?_)
      | ((with_reducible refine chk_r ?_); refine r_callP (by simp only [CA, Nat.reduceEqDiff, ↓reduceIte]; rfl) (by simp only [CA, Nat.reduceEqDiff, ↓reduceIte]; rfl) (by first | exact q _) rfl ?_)
      | (with_reducible refine k_condP (by simp only [GA, Nat.reduceEqDiff, ↓reduceIte]; rfl) (by first | (simp only [BO]; rfl) | rfl) (fun ht => ?_) (fun ht => ?_) <;> try (first | exact False.elim ht | exact absurd rfl ht | exact absurd trivial ht | exact Bool.noConfusion ht))
      | (with_reducible refine k_ret ?_; repeat with_reducible (first | refine ret_thru ?_ | refine ret_blk ?_ | refine fin ?_))
      | (with_reducible refine k_exit ?_; repeat with_reducible (first | refine thru ?_ | refine out_blk ?_ | refine pass (by decide) ?_))
      | (refine post1 ?_; simp only [GA, Nat.reduceEqDiff, ↓reduceIte])
      | (refine post2 ?_; simp only [GA, Nat.reduceEqDiff, ↓reduceIte])
      | (refine post3 ?_; simp only [GA, Nat.reduceEqDiff, ↓reduceIte])
      | (refine postc (by simp only [GA, Nat.reduceEqDiff, ↓reduceIte]; rfl) (by simp (disch := omega) only [c41r0, c41r1, c41r2, c41r3, c41r4, c41r5, c41r6, c41r7, c41r8, c41r9, c41r10, c41r11, c41r13, c41r14, c41r15, c41r16, c41r17, c41r18, c41r19, c41r20, c41r21, c41r23, c41r25, EV0, EV1, EV2, EV3, EV4, EV5, EV6, EV7, EV8, VALS, plug, ite_same, decide_true, decide_false, eq_self, ↓reduceIte, reduceCtorEq, Nat.reduceAdd, Nat.reduceEqDiff, Nat.reduceLT, Nat.reduceLeDiff, Nat.reduceMul, Nat.reduceSub, Nat.reduceDiv, Int.reduceToNat, Int.reduceAdd, Int.reduceSub, Int.reduceMul, Int.reduceNeg, Int.reduceEq, Int.reduceLT, Int.reduceLE]; rfl) ?_)
      | refine post0 ?_
    refine k_blk (k_loopS (X := Nat × List (AV × AV)) [0, 1, 9, 23, 24, 25] ns.length (fun k x => [(0, vT l), (1, .i .i64 tol), (9, .mp x.1), (23, vi ns), (24, .i .i64 ns.length), (25, .i .i64 (k : Int))])
      (fun k x h => h.m x.1 = some (.map x.2) ∧ MFi x.2 (setOf (hasI ns k)) ∧ GK l ns k) (_, _) (by simp only [Am.keep, List.map_cons, List.map_nil, GA, Nat.reduceEqDiff, ↓reduceIte]; try rfl) ⟨by simp (disch := omega) only [c41r0, c41r1, c41r2, c41r3, c41r4, c41r5, c41r6, c41r7, c41r8, c41r9, c41r10, c41r11, c41r13, c41r14, c41r15, c41r16, c41r17, c41r18, c41r19, c41r20, c41r21, c41r23, c41r25, EV0, EV1, EV2, EV3, EV4, EV5, EV6, EV7, EV8, VALS, plug, ite_same, decide_true, decide_false, eq_self, ↓reduceIte, reduceCtorEq, Nat.reduceAdd, Nat.reduceEqDiff, Nat.reduceLT, Nat.reduceLeDiff, Nat.reduceMul, Nat.reduceSub, Nat.reduceDiv, Int.reduceToNat, Int.reduceAdd, Int.reduceSub, Int.reduceMul, Int.reduceNeg, Int.reduceEq, Int.reduceLT, Int.reduceLE] <;> rfl, MFi.set_nil fun a ⟨i, hi, _⟩ => by omega, fun i hi => by omega⟩ ?_)
    rintro k ⟨tk, es⟩ h hk ⟨hm, hf, hg⟩ ok pos
    simp only at hm hf hg ⊢
    have htk := ok.m hm
    have lk := MFi.set_lk hf
    by_cases hlt : k < ns.length
    · have hlt' : (k : Int) < ns.length := by omega
      have g := il_get hlt
      obtain ⟨u1, u2⟩ := MFi.up hf (ni ns k) (.b true)
      repeat' first
        | with_reducible refine k_seq ?_
        | with_reducible refine k_skip ?_
        | with_reducible refine k_blkS ?_
        | with_reducible refine k_blkR ?_
        | with_reducible refine k_blkC ?_
        | with_reducible refine k_blkH ?_
        | with_reducible refine k_blkB ?_
        | with_reducible refine k_blkK ?_
        | with_reducible refine k_blkE ?_
        | with_reducible refine k_reg ?_
        | with_reducible refine r_done ?_
        | with_reducible refine s_go (by simp (disch := omega) only [hlt', g, hm, lk, u1, c41r0, c41r1, c41r2, c41r3, c41r4, c41r5, c41r6, c41r7, c41r8, c41r9, c41r10, c41r11, c41r13, c41r14, c41r15, c41r16, c41r17, c41r18, c41r19, c41r20, c41r21, c41r23, c41r25, EV0, EV1, EV2, EV3, EV4, EV5, EV6, EV7, EV8, VALS, plug, ite_same, decide_true, decide_false, eq_self, ↓reduceIte, reduceCtorEq, Nat.reduceAdd, Nat.reduceEqDiff, Nat.reduceLT, Nat.reduceLeDiff, Nat.reduceMul, Nat.reduceSub, Nat.reduceDiv, Int.reduceToNat, Int.reduceAdd, Int.reduceSub, Int.reduceMul, Int.reduceNeg, Int.reduceEq, Int.reduceLT, Int.reduceLE]; with_reducible rfl) ?_
        | ((with_reducible refine chk_r ?_); refine r_callF (by simp only [CA, Nat.reduceEqDiff, ↓reduceIte]; rfl) (by exact rfl) (by simp only [CA, Nat.reduceEqDiff, ↓reduceIte]; rfl) rfl ?_)
        | ((with_reducible refine chk_r ?_); refine r_callP (by simp only [CA, Nat.reduceEqDiff, ↓reduceIte]; rfl) (by simp only [CA, Nat.reduceEqDiff, ↓reduceIte]; rfl) (by first | exact pc71 _ _ _ _) rfl ?_)
        | (with_reducible refine k_condP (by simp only [GA, Nat.reduceEqDiff, ↓reduceIte]; rfl) (by first | (simp only [BO]; rfl) | rfl) (fun ht => ?_) (fun ht => ?_) <;> try (first | exact False.elim ht | exact absurd rfl ht | exact absurd trivial ht | exact Bool.noConfusion ht))
        | (with_reducible refine k_ret ?_; repeat with_reducible (first | refine ret_thru ?_ | refine ret_blk ?_ | refine fin ?_))
        | (with_reducible refine k_exit ?_; repeat with_reducible (first | refine thru ?_ | refine out_blk ?_ | refine pass (by decide) ?_))
        | (refine post1 ?_; simp only [GA, Nat.reduceEqDiff, ↓reduceIte])
        | (refine post2 ?_; simp only [GA, Nat.reduceEqDiff, ↓reduceIte])
        | (refine post3 ?_; simp only [GA, Nat.reduceEqDiff, ↓reduceIte])
        | (refine postc (by simp only [GA, Nat.reduceEqDiff, ↓reduceIte]; rfl) (by simp (disch := omega) only [hlt', g, hm, lk, u1, c41r0, c41r1, c41r2, c41r3, c41r4, c41r5, c41r6, c41r7, c41r8, c41r9, c41r10, c41r11, c41r13, c41r14, c41r15, c41r16, c41r17, c41r18, c41r19, c41r20, c41r21, c41r23, c41r25, EV0, EV1, EV2, EV3, EV4, EV5, EV6, EV7, EV8, VALS, plug, ite_same, decide_true, decide_false, eq_self, ↓reduceIte, reduceCtorEq, Nat.reduceAdd, Nat.reduceEqDiff, Nat.reduceLT, Nat.reduceLeDiff, Nat.reduceMul, Nat.reduceSub, Nat.reduceDiv, Int.reduceToNat, Int.reduceAdd, Int.reduceSub, Int.reduceMul, Int.reduceNeg, Int.reduceEq, Int.reduceLT, Int.reduceLE]; rfl) ?_)
        | refine post0 ?_
      · exact stop (isG_arg h0 hlt (by rcases ht with ht | ht; exact .inl (by simp only [ni]; omega); exact .inr ht)) _
      · refine ⟨hlt, ⟨tk, _⟩, (by simp only [Am.keep, List.map_cons, List.map_nil, GA, Nat.reduceEqDiff, ↓reduceIte]; try rfl), by simp (disch := omega) only [u1, hm, c41r0, c41r1, c41r2, c41r3, c41r4, c41r5, c41r6, c41r7, c41r8, c41r9, c41r10, c41r11, c41r13, c41r14, c41r15, c41r16, c41r17, c41r18, c41r19, c41r20, c41r21, c41r23, c41r25, EV0, EV1, EV2, EV3, EV4, EV5, EV6, EV7, EV8, VALS, plug, ite_same, decide_true, decide_false, eq_self, ↓reduceIte, reduceCtorEq, Nat.reduceAdd, Nat.reduceEqDiff, Nat.reduceLT, Nat.reduceLeDiff, Nat.reduceMul, Nat.reduceSub, Nat.reduceDiv, Int.reduceToNat, Int.reduceAdd, Int.reduceSub, Int.reduceMul, Int.reduceNeg, Int.reduceEq, Int.reduceLT, Int.reduceLE] <;> rfl, MFi.set_up hf _ _ fun x => hasI_succ, hg.succ ?_ fun q => ht (.inr q)⟩
        simp only [ni]
        omega
    · obtain rfl : k = ns.length := by omega
      have hlt' : ¬ (ns.length : Int) < ns.length := by omega
      repeat' first
        | with_reducible refine k_seq ?_
        | with_reducible refine k_skip ?_
        | with_reducible refine k_blkS ?_
        | with_reducible refine k_blkR ?_
        | with_reducible refine k_blkC ?_
        | with_reducible refine k_blkH ?_
        | with_reducible refine k_blkB ?_
        | with_reducible refine k_blkK ?_
        | with_reducible refine k_blkE ?_
        | with_reducible refine k_reg ?_
        | with_reducible refine r_done ?_
        | with_reducible refine s_go (by simp (disch := omega) only [hlt', c41r0, c41r1, c41r2, c41r3, c41r4, c41r5, c41r6, c41r7, c41r8, c41r9, c41r10, c41r11, c41r13, c41r14, c41r15, c41r16, c41r17, c41r18, c41r19, c41r20, c41r21, c41r23, c41r25, EV0, EV1, EV2, EV3, EV4, EV5, EV6, EV7, EV8, VALS, plug, ite_same, decide_true, decide_false, eq_self, ↓reduceIte, reduceCtorEq, Nat.reduceAdd, Nat.reduceEqDiff, Nat.reduceLT, Nat.reduceLeDiff, Nat.reduceMul, Nat.reduceSub, Nat.reduceDiv, Int.reduceToNat, Int.reduceAdd, Int.reduceSub, Int.reduceMul, Int.reduceNeg, Int.reduceEq, Int.reduceLT, Int.reduceLE]; with_reducible rfl) ?_
        | ((with_reducible refine chk_r ?_); refine r_callF (by simp only [CA, Nat.reduceEqDiff, ↓reduceIte]; rfl) (by exact rfl) (by simp only [CA, Nat.reduceEqDiff, ↓reduceIte]; rfl) rfl ?_)
        | (with_reducible refine k_condP (by simp only [GA, Nat.reduceEqDiff, ↓reduceIte]; rfl) (by first | (simp only [BO]; rfl) | rfl) (fun ht => ?_) (fun ht => ?_) <;> try (first | exact False.elim ht | exact absurd rfl ht | exact absurd trivial ht | exact Bool.noConfusion ht))
        | (with_reducible refine k_ret ?_; repeat with_reducible (first | refine ret_thru ?_ | refine ret_blk ?_ | refine fin ?_))
        | (with_reducible refine k_exit ?_; repeat with_reducible (first | refine thru ?_ | refine out_blk ?_ | refine pass (by decide) ?_))
        | (refine post1 ?_; simp only [GA, Nat.reduceEqDiff, ↓reduceIte])
        | (refine post2 ?_; simp only [GA, Nat.reduceEqDiff, ↓reduceIte])
        | (refine post3 ?_; simp only [GA, Nat.reduceEqDiff, ↓reduceIte])
        | (refine postc (by simp only [GA, Nat.reduceEqDiff, ↓reduceIte]; rfl) (by simp (disch := omega) only [hlt', c41r0, c41r1, c41r2, c41r3, c41r4, c41r5, c41r6, c41r7, c41r8, c41r9, c41r10, c41r11, c41r13, c41r14, c41r15, c41r16, c41r17, c41r18, c41r19, c41r20, c41r21, c41r23, c41r25, EV0, EV1, EV2, EV3, EV4, EV5, EV6, EV7, EV8, VALS, plug, ite_same, decide_true, decide_false, eq_self, ↓reduceIte, reduceCtorEq, Nat.reduceAdd, Nat.reduceEqDiff, Nat.reduceLT, Nat.reduceLeDiff, Nat.reduceMul, Nat.reduceSub, Nat.reduceDiv, Int.reduceToNat, Int.reduceAdd, Int.reduceSub, Int.reduceMul, Int.reduceNeg, Int.reduceEq, Int.reduceLT, Int.reduceLE]; rfl) ?_)
        | refine post0 ?_
      refine k_blk (k_loopS (X := Unit) [0, 1, 9, 43, 44, 45] l.length (fun i _ => [(0, vT l), (1, .i .i64 tol), (9, .mp tk), (43, vT l), (44, .i .i64 l.length), (45, .i .i64 (i : Int))])
        (fun i _ h => h.m tk = some (.map es) ∧ CV l tol (hasI ns ns.length) i) () (by simp only [Am.keep, List.map_cons, List.map_nil, GA, Nat.reduceEqDiff, ↓reduceIte]; try rfl) ⟨by simp (disch := omega) only [hm, c41r0, c41r1, c41r2, c41r3, c41r4, c41r5, c41r6, c41r7, c41r8, c41r9, c41r10, c41r11, c41r13, c41r14, c41r15, c41r16, c41r17, c41r18, c41r19, c41r20, c41r21, c41r23, c41r25, EV0, EV1, EV2, EV3, EV4, EV5, EV6, EV7, EV8, VALS, plug, ite_same, decide_true, decide_false, eq_self, ↓reduceIte, reduceCtorEq, Nat.reduceAdd, Nat.reduceEqDiff, Nat.reduceLT, Nat.reduceLeDiff, Nat.reduceMul, Nat.reduceSub, Nat.reduceDiv, Int.reduceToNat, Int.reduceAdd, Int.reduceSub, Int.reduceMul, Int.reduceNeg, Int.reduceEq, Int.reduceLT, Int.reduceLE], fun i hi => by omega⟩ ?_)
      rintro i _ h hi ⟨hm, hc⟩ ok pos
      have htk := ok.m hm
      by_cases ilt : i < l.length
      · have ilt' : (i : Int) < l.length := by omega
        have rA := rdT ilt
        have tk4 : (fl eT l).take (i * 4) = fl eT (l.take i) := fl_take eT_len l i
        have tkl : (l.take i).length = i := by rw [List.length_take]; omega
        simp only [eT] at rA
        repeat' first
          | with_reducible refine k_seq ?_
          | with_reducible refine k_skip ?_
          | with_reducible refine k_blkS ?_
          | with_reducible refine k_blkR ?_
          | with_reducible refine k_blkC ?_
          | with_reducible refine k_blkH ?_
          | with_reducible refine k_blkB ?_
          | with_reducible refine k_blkK ?_
          | with_reducible refine k_blkE ?_
          | with_reducible refine k_reg ?_
          | with_reducible refine r_done ?_
          | with_reducible refine s_go (by simp (disch := omega) only [ilt', rA, tk4, c41r0, c41r1, c41r2, c41r3, c41r4, c41r5, c41r6, c41r7, c41r8, c41r9, c41r10, c41r11, c41r13, c41r14, c41r15, c41r16, c41r17, c41r18, c41r19, c41r20, c41r21, c41r23, c41r25, EV0, EV1, EV2, EV3, EV4, EV5, EV6, EV7, EV8, VALS, plug, ite_same, decide_true, decide_false, eq_self, ↓reduceIte, reduceCtorEq, Nat.reduceAdd, Nat.reduceEqDiff, Nat.reduceLT, Nat.reduceLeDiff, Nat.reduceMul, Nat.reduceSub, Nat.reduceDiv, Int.reduceToNat, Int.reduceAdd, Int.reduceSub, Int.reduceMul, Int.reduceNeg, Int.reduceEq, Int.reduceLT, Int.reduceLE]; with_reducible rfl) ?_
          | ((with_reducible refine chk_r ?_); refine r_callF (by simp only [CA, Nat.reduceEqDiff, ↓reduceIte]; rfl) (by exact rfl) (by simp only [CA, Nat.reduceEqDiff, ↓reduceIte]; rfl) rfl ?_)
          | (with_reducible refine k_condP (by simp only [GA, Nat.reduceEqDiff, ↓reduceIte]; rfl) (by first | (simp only [BO]; rfl) | rfl) (fun ht => ?_) (fun ht => ?_) <;> try (first | exact False.elim ht | exact absurd rfl ht | exact absurd trivial ht | exact Bool.noConfusion ht))
          | (with_reducible refine k_ret ?_; repeat with_reducible (first | refine ret_thru ?_ | refine ret_blk ?_ | refine fin ?_))
          | (with_reducible refine k_exit ?_; repeat with_reducible (first | refine thru ?_ | refine out_blk ?_ | refine pass (by decide) ?_))
          | (refine post1 ?_; simp only [GA, Nat.reduceEqDiff, ↓reduceIte])
          | (refine post2 ?_; simp only [GA, Nat.reduceEqDiff, ↓reduceIte])
          | (refine post3 ?_; simp only [GA, Nat.reduceEqDiff, ↓reduceIte])
          | (refine postc (by simp only [GA, Nat.reduceEqDiff, ↓reduceIte]; rfl) (by simp (disch := omega) only [ilt', rA, tk4, c41r0, c41r1, c41r2, c41r3, c41r4, c41r5, c41r6, c41r7, c41r8, c41r9, c41r10, c41r11, c41r13, c41r14, c41r15, c41r16, c41r17, c41r18, c41r19, c41r20, c41r21, c41r23, c41r25, EV0, EV1, EV2, EV3, EV4, EV5, EV6, EV7, EV8, VALS, plug, ite_same, decide_true, decide_false, eq_self, ↓reduceIte, reduceCtorEq, Nat.reduceAdd, Nat.reduceEqDiff, Nat.reduceLT, Nat.reduceLeDiff, Nat.reduceMul, Nat.reduceSub, Nat.reduceDiv, Int.reduceToNat, Int.reduceAdd, Int.reduceSub, Int.reduceMul, Int.reduceNeg, Int.reduceEq, Int.reduceLT, Int.reduceLE]; rfl) ?_)
          | refine post0 ?_
        refine k_blk (k_loopS (X := Nat) [0, 1, 9, 12, 13, 43, 44, 45, 52, 53, 54] i (fun j x => [(0, vT l), (1, .i .i64 tol), (9, .mp tk), (12, .i .i64 (i : Int)), (13, .p x 0), (43, vT l), (44, .i .i64 l.length), (45, .i .i64 (i : Int)), (52, .vs i (fl eT (l.take i))), (53, .i .i64 (i : Int)), (54, .i .i64 (j : Int))])
          (fun j x h => h.m tk = some (.map es) ∧ h.m x = some (.cells true [.i .i64 (l.getD i T0).num, .i .i64 (l.getD i T0).side, .i .i64 (l.getD i T0).len, .i .i64 (l.getD i T0).col]) ∧ ∀ k, k < j → ed l tol i k = true → hasI ns ns.length i ∨ hasI ns ns.length k) _ (by simp only [Am.keep, List.map_cons, List.map_nil, GA, Nat.reduceEqDiff, ↓reduceIte]; try rfl) ⟨by simp (disch := omega) only [hm, c41r0, c41r1, c41r2, c41r3, c41r4, c41r5, c41r6, c41r7, c41r8, c41r9, c41r10, c41r11, c41r13, c41r14, c41r15, c41r16, c41r17, c41r18, c41r19, c41r20, c41r21, c41r23, c41r25, EV0, EV1, EV2, EV3, EV4, EV5, EV6, EV7, EV8, VALS, plug, ite_same, decide_true, decide_false, eq_self, ↓reduceIte, reduceCtorEq, Nat.reduceAdd, Nat.reduceEqDiff, Nat.reduceLT, Nat.reduceLeDiff, Nat.reduceMul, Nat.reduceSub, Nat.reduceDiv, Int.reduceToNat, Int.reduceAdd, Int.reduceSub, Int.reduceMul, Int.reduceNeg, Int.reduceEq, Int.reduceLT, Int.reduceLE], by simp (disch := omega) only [c41r0, c41r1, c41r2, c41r3, c41r4, c41r5, c41r6, c41r7, c41r8, c41r9, c41r10, c41r11, c41r13, c41r14, c41r15, c41r16, c41r17, c41r18, c41r19, c41r20, c41r21, c41r23, c41r25, EV0, EV1, EV2, EV3, EV4, EV5, EV6, EV7, EV8, VALS, plug, ite_same, decide_true, decide_false, eq_self, ↓reduceIte, reduceCtorEq, Nat.reduceAdd, Nat.reduceEqDiff, Nat.reduceLT, Nat.reduceLeDiff, Nat.reduceMul, Nat.reduceSub, Nat.reduceDiv, Int.reduceToNat, Int.reduceAdd, Int.reduceSub, Int.reduceMul, Int.reduceNeg, Int.reduceEq, Int.reduceLT, Int.reduceLE] <;> rfl, fun k hk => by omega⟩ ?_)
        rintro j x h hj ⟨hm, hmx, hc2⟩ ok pos
        have htk := ok.m hm
        have hx := ok.m hmx
        by_cases jlt : j < i
        · have jlt' : (j : Int) < i := by omega
          have rB : rd (fl eT (l.take i)) (j * 4) (some 4) = some (.ag (eT (l.getD j T0))) := by
            rw [rdT (by omega)]
            congr 3
            simp [List.getD_eq_getElem?_getD, jlt]
          have q52 := pc52 (l.getD i T0) (l.getD j T0) (hv.2.1 i ilt) (hv.2.1 j (by omega)) tol
          have ee : ed l tol i j = can (l.getD i T0) (l.getD j T0) tol := rfl
          rw [← ee] at q52
          simp only [eT] at rB q52
          cases he : ed l tol i j with
          | false =>
            rw [he] at q52
            repeat' first
              | with_reducible refine k_seq ?_
              | with_reducible refine k_skip ?_
              | with_reducible refine k_blkS ?_
              | with_reducible refine k_blkR ?_
              | with_reducible refine k_blkC ?_
              | with_reducible refine k_blkH ?_
              | with_reducible refine k_blkB ?_
              | with_reducible refine k_blkK ?_
              | with_reducible refine k_blkE ?_
              | with_reducible refine k_reg ?_
              | with_reducible refine r_done ?_
              | with_reducible refine s_go (by simp (disch := omega) only [jlt', rB, hm, hmx, row_m hmx, read_row (row_m hmx), lk, c41r0, c41r1, c41r2, c41r3, c41r4, c41r5, c41r6, c41r7, c41r8, c41r9, c41r10, c41r11, c41r13, c41r14, c41r15, c41r16, c41r17, c41r18, c41r19, c41r20, c41r21, c41r23, c41r25, EV0, EV1, EV2, EV3, EV4, EV5, EV6, EV7, EV8, VALS, plug, ite_same, decide_true, decide_false, eq_self, ↓reduceIte, reduceCtorEq, Nat.reduceAdd, Nat.reduceEqDiff, Nat.reduceLT, Nat.reduceLeDiff, Nat.reduceMul, Nat.reduceSub, Nat.reduceDiv, Int.reduceToNat, Int.reduceAdd, Int.reduceSub, Int.reduceMul, Int.reduceNeg, Int.reduceEq, Int.reduceLT, Int.reduceLE]; with_reducible rfl) ?_
              | ((with_reducible refine chk_r ?_); refine r_callF (by simp only [CA, Nat.reduceEqDiff, ↓reduceIte]; rfl) (by exact rfl) (by simp only [CA, Nat.reduceEqDiff, ↓reduceIte]; rfl) rfl ?_)
              | ((with_reducible refine chk_r ?_); refine r_callP (by simp only [CA, Nat.reduceEqDiff, ↓reduceIte]; rfl) (by simp only [CA, Nat.reduceEqDiff, ↓reduceIte]; rfl) (by first | exact q52 _) rfl ?_)
              | (with_reducible refine k_condP (by simp only [GA, Nat.reduceEqDiff, ↓reduceIte]; rfl) (by first | (simp only [BO]; rfl) | rfl) (fun ht => ?_) (fun ht => ?_) <;> try (first | exact False.elim ht | exact absurd rfl ht | exact absurd trivial ht | exact Bool.noConfusion ht))
              | (with_reducible refine k_ret ?_; repeat with_reducible (first | refine ret_thru ?_ | refine ret_blk ?_ | refine fin ?_))
              | (with_reducible refine k_exit ?_; repeat with_reducible (first | refine thru ?_ | refine out_blk ?_ | refine pass (by decide) ?_))
              | (refine post1 ?_; simp only [GA, Nat.reduceEqDiff, ↓reduceIte])
              | (refine post2 ?_; simp only [GA, Nat.reduceEqDiff, ↓reduceIte])
              | (refine post3 ?_; simp only [GA, Nat.reduceEqDiff, ↓reduceIte])
              | (refine postc (by simp only [GA, Nat.reduceEqDiff, ↓reduceIte]; rfl) (by simp (disch := omega) only [jlt', rB, hm, hmx, row_m hmx, read_row (row_m hmx), lk, c41r0, c41r1, c41r2, c41r3, c41r4, c41r5, c41r6, c41r7, c41r8, c41r9, c41r10, c41r11, c41r13, c41r14, c41r15, c41r16, c41r17, c41r18, c41r19, c41r20, c41r21, c41r23, c41r25, EV0, EV1, EV2, EV3, EV4, EV5, EV6, EV7, EV8, VALS, plug, ite_same, decide_true, decide_false, eq_self, ↓reduceIte, reduceCtorEq, Nat.reduceAdd, Nat.reduceEqDiff, Nat.reduceLT, Nat.reduceLeDiff, Nat.reduceMul, Nat.reduceSub, Nat.reduceDiv, Int.reduceToNat, Int.reduceAdd, Int.reduceSub, Int.reduceMul, Int.reduceNeg, Int.reduceEq, Int.reduceLT, Int.reduceLE]; rfl) ?_)
              | refine post0 ?_
            exact ⟨jlt, x, (by simp only [Am.keep, List.map_cons, List.map_nil, GA, Nat.reduceEqDiff, ↓reduceIte]; try rfl), by simp (disch := omega) only [hm, c41r0, c41r1, c41r2, c41r3, c41r4, c41r5, c41r6, c41r7, c41r8, c41r9, c41r10, c41r11, c41r13, c41r14, c41r15, c41r16, c41r17, c41r18, c41r19, c41r20, c41r21, c41r23, c41r25, EV0, EV1, EV2, EV3, EV4, EV5, EV6, EV7, EV8, VALS, plug, ite_same, decide_true, decide_false, eq_self, ↓reduceIte, reduceCtorEq, Nat.reduceAdd, Nat.reduceEqDiff, Nat.reduceLT, Nat.reduceLeDiff, Nat.reduceMul, Nat.reduceSub, Nat.reduceDiv, Int.reduceToNat, Int.reduceAdd, Int.reduceSub, Int.reduceMul, Int.reduceNeg, Int.reduceEq, Int.reduceLT, Int.reduceLE], by simp (disch := omega) only [hmx, c41r0, c41r1, c41r2, c41r3, c41r4, c41r5, c41r6, c41r7, c41r8, c41r9, c41r10, c41r11, c41r13, c41r14, c41r15, c41r16, c41r17, c41r18, c41r19, c41r20, c41r21, c41r23, c41r25, EV0, EV1, EV2, EV3, EV4, EV5, EV6, EV7, EV8, VALS, plug, ite_same, decide_true, decide_false, eq_self, ↓reduceIte, reduceCtorEq, Nat.reduceAdd, Nat.reduceEqDiff, Nat.reduceLT, Nat.reduceLeDiff, Nat.reduceMul, Nat.reduceSub, Nat.reduceDiv, Int.reduceToNat, Int.reduceAdd, Int.reduceSub, Int.reduceMul, Int.reduceNeg, Int.reduceEq, Int.reduceLT, Int.reduceLE], fun k hk e => by
              by_cases q : k = j
              · subst q; rw [he] at e; cases e
              · exact hc2 k (by omega) e⟩
          | true =>
            rw [he] at q52
            repeat' first
              | with_reducible refine k_seq ?_
              | with_reducible refine k_skip ?_
              | with_reducible refine k_blkS ?_
              | with_reducible refine k_blkR ?_
              | with_reducible refine k_blkC ?_
              | with_reducible refine k_blkH ?_
              | with_reducible refine k_blkB ?_
              | with_reducible refine k_blkK ?_
              | with_reducible refine k_blkE ?_
              | with_reducible refine k_reg ?_
              | with_reducible refine r_done ?_
              | with_reducible refine s_go (by simp (disch := omega) only [jlt', rB, hm, hmx, row_m hmx, read_row (row_m hmx), lk, c41r0, c41r1, c41r2, c41r3, c41r4, c41r5, c41r6, c41r7, c41r8, c41r9, c41r10, c41r11, c41r13, c41r14, c41r15, c41r16, c41r17, c41r18, c41r19, c41r20, c41r21, c41r23, c41r25, EV0, EV1, EV2, EV3, EV4, EV5, EV6, EV7, EV8, VALS, plug, ite_same, decide_true, decide_false, eq_self, ↓reduceIte, reduceCtorEq, Nat.reduceAdd, Nat.reduceEqDiff, Nat.reduceLT, Nat.reduceLeDiff, Nat.reduceMul, Nat.reduceSub, Nat.reduceDiv, Int.reduceToNat, Int.reduceAdd, Int.reduceSub, Int.reduceMul, Int.reduceNeg, Int.reduceEq, Int.reduceLT, Int.reduceLE]; with_reducible rfl) ?_
              | ((with_reducible refine chk_r ?_); refine r_callF (by simp only [CA, Nat.reduceEqDiff, ↓reduceIte]; rfl) (by exact rfl) (by simp only [CA, Nat.reduceEqDiff, ↓reduceIte]; rfl) rfl ?_)
              | ((with_reducible refine chk_r ?_); refine r_callP (by simp only [CA, Nat.reduceEqDiff, ↓reduceIte]; rfl) (by simp only [CA, Nat.reduceEqDiff, ↓reduceIte]; rfl) (by first | exact q52 _) rfl ?_)
              | (with_reducible refine k_condP (by simp only [GA, Nat.reduceEqDiff, ↓reduceIte]; rfl) (by first | (simp only [BO]; rfl) | rfl) (fun ht => ?_) (fun ht => ?_) <;> try (first | exact False.elim ht | exact absurd rfl ht | exact absurd trivial ht | exact Bool.noConfusion ht))
              | (with_reducible refine k_ret ?_; repeat with_reducible (first | refine ret_thru ?_ | refine ret_blk ?_ | refine fin ?_))
              | (with_reducible refine k_exit ?_; repeat with_reducible (first | refine thru ?_ | refine out_blk ?_ | refine pass (by decide) ?_))
              | (refine post1 ?_; simp only [GA, Nat.reduceEqDiff, ↓reduceIte])
              | (refine post2 ?_; simp only [GA, Nat.reduceEqDiff, ↓reduceIte])
              | (refine post3 ?_; simp only [GA, Nat.reduceEqDiff, ↓reduceIte])
              | (refine postc (by simp only [GA, Nat.reduceEqDiff, ↓reduceIte]; rfl) (by simp (disch := omega) only [jlt', rB, hm, hmx, row_m hmx, read_row (row_m hmx), lk, c41r0, c41r1, c41r2, c41r3, c41r4, c41r5, c41r6, c41r7, c41r8, c41r9, c41r10, c41r11, c41r13, c41r14, c41r15, c41r16, c41r17, c41r18, c41r19, c41r20, c41r21, c41r23, c41r25, EV0, EV1, EV2, EV3, EV4, EV5, EV6, EV7, EV8, VALS, plug, ite_same, decide_true, decide_false, eq_self, ↓reduceIte, reduceCtorEq, Nat.reduceAdd, Nat.reduceEqDiff, Nat.reduceLT, Nat.reduceLeDiff, Nat.reduceMul, Nat.reduceSub, Nat.reduceDiv, Int.reduceToNat, Int.reduceAdd, Int.reduceSub, Int.reduceMul, Int.reduceNeg, Int.reduceEq, Int.reduceLT, Int.reduceLE]; rfl) ?_)
              | refine post0 ?_
            · exact stop (isG_no h0 hg ilt jlt he ht.1 ht.2) _
            · exact ⟨jlt, x, (by simp only [Am.keep, List.map_cons, List.map_nil, GA, Nat.reduceEqDiff, ↓reduceIte]; try rfl), by simp (disch := omega) only [hm, c41r0, c41r1, c41r2, c41r3, c41r4, c41r5, c41r6, c41r7, c41r8, c41r9, c41r10, c41r11, c41r13, c41r14, c41r15, c41r16, c41r17, c41r18, c41r19, c41r20, c41r21, c41r23, c41r25, EV0, EV1, EV2, EV3, EV4, EV5, EV6, EV7, EV8, VALS, plug, ite_same, decide_true, decide_false, eq_self, ↓reduceIte, reduceCtorEq, Nat.reduceAdd, Nat.reduceEqDiff, Nat.reduceLT, Nat.reduceLeDiff, Nat.reduceMul, Nat.reduceSub, Nat.reduceDiv, Int.reduceToNat, Int.reduceAdd, Int.reduceSub, Int.reduceMul, Int.reduceNeg, Int.reduceEq, Int.reduceLT, Int.reduceLE], by simp (disch := omega) only [hmx, c41r0, c41r1, c41r2, c41r3, c41r4, c41r5, c41r6, c41r7, c41r8, c41r9, c41r10, c41r11, c41r13, c41r14, c41r15, c41r16, c41r17, c41r18, c41r19, c41r20, c41r21, c41r23, c41r25, EV0, EV1, EV2, EV3, EV4, EV5, EV6, EV7, EV8, VALS, plug, ite_same, decide_true, decide_false, eq_self, ↓reduceIte, reduceCtorEq, Nat.reduceAdd, Nat.reduceEqDiff, Nat.reduceLT, Nat.reduceLeDiff, Nat.reduceMul, Nat.reduceSub, Nat.reduceDiv, Int.reduceToNat, Int.reduceAdd, Int.reduceSub, Int.reduceMul, Int.reduceNeg, Int.reduceEq, Int.reduceLT, Int.reduceLE], fun k hk e => by
                by_cases q : k = j
                · subst q; by_cases h1 : hasI ns ns.length i; exact .inl h1; exact .inr (Classical.byContradiction fun h2 => ht ⟨h1, h2⟩)
                · exact hc2 k (by omega) e⟩
        · obtain rfl : j = i := by omega
          have jlt' : ¬ (j : Int) < j := by omega
          repeat' first
            | with_reducible refine k_seq ?_
            | with_reducible refine k_skip ?_
            | with_reducible refine k_blkS ?_
            | with_reducible refine k_blkR ?_
            | with_reducible refine k_blkC ?_
            | with_reducible refine k_blkH ?_
            | with_reducible refine k_blkB ?_
            | with_reducible refine k_blkK ?_
            | with_reducible refine k_blkE ?_
            | with_reducible refine k_reg ?_
            | with_reducible refine r_done ?_
            | with_reducible refine s_go (by simp (disch := omega) only [jlt', c41r0, c41r1, c41r2, c41r3, c41r4, c41r5, c41r6, c41r7, c41r8, c41r9, c41r10, c41r11, c41r13, c41r14, c41r15, c41r16, c41r17, c41r18, c41r19, c41r20, c41r21, c41r23, c41r25, EV0, EV1, EV2, EV3, EV4, EV5, EV6, EV7, EV8, VALS, plug, ite_same, decide_true, decide_false, eq_self, ↓reduceIte, reduceCtorEq, Nat.reduceAdd, Nat.reduceEqDiff, Nat.reduceLT, Nat.reduceLeDiff, Nat.reduceMul, Nat.reduceSub, Nat.reduceDiv, Int.reduceToNat, Int.reduceAdd, Int.reduceSub, Int.reduceMul, Int.reduceNeg, Int.reduceEq, Int.reduceLT, Int.reduceLE]; with_reducible rfl) ?_
            | ((with_reducible refine chk_r ?_); refine r_callF (by simp only [CA, Nat.reduceEqDiff, ↓reduceIte]; rfl) (by exact rfl) (by simp only [CA, Nat.reduceEqDiff, ↓reduceIte]; rfl) rfl ?_)
            | (with_reducible refine k_condP (by simp only [GA, Nat.reduceEqDiff, ↓reduceIte]; rfl) (by first | (simp only [BO]; rfl) | rfl) (fun ht => ?_) (fun ht => ?_) <;> try (first | exact False.elim ht | exact absurd rfl ht | exact absurd trivial ht | exact Bool.noConfusion ht))
            | (with_reducible refine k_ret ?_; repeat with_reducible (first | refine ret_thru ?_ | refine ret_blk ?_ | refine fin ?_))
            | (with_reducible refine k_exit ?_; repeat with_reducible (first | refine thru ?_ | refine out_blk ?_ | refine pass (by decide) ?_))
            | (refine post1 ?_; simp only [GA, Nat.reduceEqDiff, ↓reduceIte])
            | (refine post2 ?_; simp only [GA, Nat.reduceEqDiff, ↓reduceIte])
            | (refine post3 ?_; simp only [GA, Nat.reduceEqDiff, ↓reduceIte])
            | (refine postc (by simp only [GA, Nat.reduceEqDiff, ↓reduceIte]; rfl) (by simp (disch := omega) only [jlt', c41r0, c41r1, c41r2, c41r3, c41r4, c41r5, c41r6, c41r7, c41r8, c41r9, c41r10, c41r11, c41r13, c41r14, c41r15, c41r16, c41r17, c41r18, c41r19, c41r20, c41r21, c41r23, c41r25, EV0, EV1, EV2, EV3, EV4, EV5, EV6, EV7, EV8, VALS, plug, ite_same, decide_true, decide_false, eq_self, ↓reduceIte, reduceCtorEq, Nat.reduceAdd, Nat.reduceEqDiff, Nat.reduceLT, Nat.reduceLeDiff, Nat.reduceMul, Nat.reduceSub, Nat.reduceDiv, Int.reduceToNat, Int.reduceAdd, Int.reduceSub, Int.reduceMul, Int.reduceNeg, Int.reduceEq, Int.reduceLT, Int.reduceLE]; rfl) ?_)
            | refine post0 ?_
          exact ⟨ilt, (), (by simp only [Am.keep, List.map_cons, List.map_nil, GA, Nat.reduceEqDiff, ↓reduceIte]; try rfl), by simp (disch := omega) only [hm, c41r0, c41r1, c41r2, c41r3, c41r4, c41r5, c41r6, c41r7, c41r8, c41r9, c41r10, c41r11, c41r13, c41r14, c41r15, c41r16, c41r17, c41r18, c41r19, c41r20, c41r21, c41r23, c41r25, EV0, EV1, EV2, EV3, EV4, EV5, EV6, EV7, EV8, VALS, plug, ite_same, decide_true, decide_false, eq_self, ↓reduceIte, reduceCtorEq, Nat.reduceAdd, Nat.reduceEqDiff, Nat.reduceLT, Nat.reduceLeDiff, Nat.reduceMul, Nat.reduceSub, Nat.reduceDiv, Int.reduceToNat, Int.reduceAdd, Int.reduceSub, Int.reduceMul, Int.reduceNeg, Int.reduceEq, Int.reduceLT, Int.reduceLE], fun i' hi' k hk e => by
            by_cases q : i' = j
            · subst q; exact hc2 k hk e
            · exact hc i' (by omega) k hk e⟩
      · obtain rfl : i = l.length := by omega
        have ilt' : ¬ (l.length : Int) < l.length := by omega
        repeat' first
          | with_reducible refine k_seq ?_
          | with_reducible refine k_skip ?_
          | with_reducible refine k_blkS ?_
          | with_reducible refine k_blkR ?_
          | with_reducible refine k_blkC ?_
          | with_reducible refine k_blkH ?_
          | with_reducible refine k_blkB ?_
          | with_reducible refine k_blkK ?_
          | with_reducible refine k_blkE ?_
          | with_reducible refine k_reg ?_
          | with_reducible refine r_done ?_
          | with_reducible refine s_go (by simp (disch := omega) only [ilt', c41r0, c41r1, c41r2, c41r3, c41r4, c41r5, c41r6, c41r7, c41r8, c41r9, c41r10, c41r11, c41r13, c41r14, c41r15, c41r16, c41r17, c41r18, c41r19, c41r20, c41r21, c41r23, c41r25, EV0, EV1, EV2, EV3, EV4, EV5, EV6, EV7, EV8, VALS, plug, ite_same, decide_true, decide_false, eq_self, ↓reduceIte, reduceCtorEq, Nat.reduceAdd, Nat.reduceEqDiff, Nat.reduceLT, Nat.reduceLeDiff, Nat.reduceMul, Nat.reduceSub, Nat.reduceDiv, Int.reduceToNat, Int.reduceAdd, Int.reduceSub, Int.reduceMul, Int.reduceNeg, Int.reduceEq, Int.reduceLT, Int.reduceLE]; with_reducible rfl) ?_
          | ((with_reducible refine chk_r ?_); refine r_callF (by simp only [CA, Nat.reduceEqDiff, ↓reduceIte]; rfl) (by exact rfl) (by simp only [CA, Nat.reduceEqDiff, ↓reduceIte]; rfl) rfl ?_)
          | (with_reducible refine k_condP (by simp only [GA, Nat.reduceEqDiff, ↓reduceIte]; rfl) (by first | (simp only [BO]; rfl) | rfl) (fun ht => ?_) (fun ht => ?_) <;> try (first | exact False.elim ht | exact absurd rfl ht | exact absurd trivial ht | exact Bool.noConfusion ht))
          | (with_reducible refine k_ret ?_; repeat with_reducible (first | refine ret_thru ?_ | refine ret_blk ?_ | refine fin ?_))
          | (with_reducible refine k_exit ?_; repeat with_reducible (first | refine thru ?_ | refine out_blk ?_ | refine pass (by decide) ?_))
          | (refine post1 ?_; simp only [GA, Nat.reduceEqDiff, ↓reduceIte])
          | (refine post2 ?_; simp only [GA, Nat.reduceEqDiff, ↓reduceIte])
          | (refine post3 ?_; simp only [GA, Nat.reduceEqDiff, ↓reduceIte])
          | (refine postc (by simp only [GA, Nat.reduceEqDiff, ↓reduceIte]; rfl) (by simp (disch := omega) only [ilt', c41r0, c41r1, c41r2, c41r3, c41r4, c41r5, c41r6, c41r7, c41r8, c41r9, c41r10, c41r11, c41r13, c41r14, c41r15, c41r16, c41r17, c41r18, c41r19, c41r20, c41r21, c41r23, c41r25, EV0, EV1, EV2, EV3, EV4, EV5, EV6, EV7, EV8, VALS, plug, ite_same, decide_true, decide_false, eq_self, ↓reduceIte, reduceCtorEq, Nat.reduceAdd, Nat.reduceEqDiff, Nat.reduceLT, Nat.reduceLeDiff, Nat.reduceMul, Nat.reduceSub, Nat.reduceDiv, Int.reduceToNat, Int.reduceAdd, Int.reduceSub, Int.reduceMul, Int.reduceNeg, Int.reduceEq, Int.reduceLT, Int.reduceLE]; rfl) ?_)
          | refine post0 ?_
        exact stop (isG_yes h0 hg hc) _
  · rw [isG_err h0]
    generalize asked l tol = A at q h0 ⊢
    repeat' first
      | with_reducible refine k_seq ?_
      | with_reducible refine k_skip ?_
      | with_reducible refine k_blkS ?_
      | with_reducible refine k_blkR ?_
      | with_reducible refine k_blkC ?_
      | with_reducible refine k_blkH ?_
      | with_reducible refine k_blkB ?_
      | with_reducible refine k_blkK ?_
      | with_reducible refine k_blkE ?_
      | with_reducible refine k_reg ?_
      | with_reducible refine r_done ?_
      | with_reducible refine s_go (by simp (disch := omega) only [h0, c41r0, c41r1, c41r2, c41r3, c41r4, c41r5, c41r6, c41r7, c41r8, c41r9, c41r10, c41r11, c41r13, c41r14, c41r15, c41r16, c41r17, c41r18, c41r19, c41r20, c41r21, c41r23, c41r25, EV0, EV1, EV2, EV3, EV4, EV5, EV6, EV7, EV8, VALS, plug, ite_same, decide_true, decide_false, eq_self, ↓reduceIte, reduceCtorEq, Nat.reduceAdd, Nat.reduceEqDiff, Nat.reduceLT, Nat.reduceLeDiff, Nat.reduceMul, Nat.reduceSub, Nat.reduceDiv, Int.reduceToNat, Int.reduceAdd, Int.reduceSub, Int.reduceMul, Int.reduceNeg, Int.reduceEq, Int.reduceLT, Int.reduceLE]; with_reducible rfl) ?_
      | ((with_reducible refine chk_r ?_); refine r_callF (by simp only [CA, Nat.reduceEqDiff, ↓reduceIte]; rfl) (by exact rfl) (by simp only [CA, Nat.reduceEqDiff, ↓reduceIte]; rfl) rfl ?_)
      | ((with_reducible refine chk_r ?_); refine r_callP (by simp only [CA, Nat.reduceEqDiff, ↓reduceIte]; rfl) (by simp only [CA, Nat.reduceEqDiff, ↓reduceIte]; rfl) (by first | exact q _) rfl ?_)
      | (with_reducible refine k_condP (by simp only [GA, Nat.reduceEqDiff, ↓reduceIte]; rfl) (by first | (simp only [BO]; rfl) | rfl) (fun ht => ?_) (fun ht => ?_) <;> try (first | exact False.elim ht | exact absurd rfl ht | exact absurd trivial ht | exact Bool.noConfusion ht))
      | (with_reducible refine k_ret ?_; repeat with_reducible (first | refine ret_thru ?_ | refine ret_blk ?_ | refine fin ?_))
      | (with_reducible refine k_exit ?_; repeat with_reducible (first | refine thru ?_ | refine out_blk ?_ | refine pass (by decide) ?_))
      | (refine post1 ?_; simp only [GA, Nat.reduceEqDiff, ↓reduceIte])
      | (refine post2 ?_; simp only [GA, Nat.reduceEqDiff, ↓reduceIte])
      | (refine post3 ?_; simp only [GA, Nat.reduceEqDiff, ↓reduceIte])
      | (refine postc (by simp only [GA, Nat.reduceEqDiff, ↓reduceIte]; rfl) (by simp (disch := omega) only [h0, c41r0, c41r1, c41r2, c41r3, c41r4, c41r5, c41r6, c41r7, c41r8, c41r9, c41r10, c41r11, c41r13, c41r14, c41r15, c41r16, c41r17, c41r18, c41r19, c41r20, c41r21, c41r23, c41r25, EV0, EV1, EV2, EV3, EV4, EV5, EV6, EV7, EV8, VALS, plug, ite_same, decide_true, decide_false, eq_self, ↓reduceIte, reduceCtorEq, Nat.reduceAdd, Nat.reduceEqDiff, Nat.reduceLT, Nat.reduceLeDiff, Nat.reduceMul, Nat.reduceSub, Nat.reduceDiv, Int.reduceToNat, Int.reduceAdd, Int.reduceSub, Int.reduceMul, Int.reduceNeg, Int.reduceEq, Int.reduceLT, Int.reduceLE]; rfl) ?_)
      | refine post0 ?_
    all_goals first | exact ends_of | exact ends_eq rfl
end Go.Proofs.Ytbhkbaapfioijaa
