/- What the proof of the law needs: the abstract machine, the functions as it reads them, their contracts, part 7. -/
import Derived.Test.YtbhkbaapfioijaaZf
set_option linter.unusedVariables false
set_option linter.unusedSimpArgs false
namespace Go.Proofs.Ytbhkbaapfioijaa
open Go Go.Am Go.Proofs Go.Sort
/-! ### TopPairs -/
def Ly : List T := [⟨1, 1, 10, 1⟩, ⟨2, 2, 10, 1⟩]
theorem Ly_VL : VL Ly := ⟨by decide, by
  show vk Ly 2
  refine vk_succ.2 ⟨vk_succ.2 ⟨⟨fun i h => by omega, fun i j h1 h2 => by omega⟩, by decide, fun i h => by omega⟩, by decide, fun i h => ?_⟩
  obtain rfl : i = 0 := by omega
  decide⟩
theorem Ly_side {s c : Int} (h : ¬ c = 1) : sideL Ly s c = [] := by
  have : sfil Ly s c Ly.length = [] := by
    unfold sfil
    rw [List.filter_eq_nil_iff]
    intro i hi
    simp only [Ly, List.length_cons, List.length_nil, List.mem_range] at hi
    have : i = 0 ∨ i = 1 := by omega
    rcases this with rfl | rfl <;> simp [onside, Ly] <;> omega
  unfold sideL; rw [this, List.mergeSort_nil]
theorem Ly_1 : sideL Ly 1 1 = [0] := by
  have : sfil Ly 1 1 Ly.length = [0] := by decide
  unfold sideL; rw [this, List.mergeSort_singleton]
theorem Ly_2 : sideL Ly 2 1 = [1] := by
  have : sfil Ly 2 1 Ly.length = [1] := by decide
  unfold sideL; rw [this, List.mergeSort_singleton]
theorem Ly_mc (tol : Int) : ∀ k, mc Ly tol (k + 1) = mt Ly tol [0] [1]
  | 0 => by
    rw [mc_succ, show (((0 + 1 : Nat)) : Int) = 1 from rfl, Ly_1, Ly_2]
    simp [mc]
  | k + 1 => by
    rw [mc_succ, Ly_mc tol k, Ly_side (by omega), mt_nil1, List.append_nil]
theorem Ly_match0 : matchL Ly 0 = [(0, 1)] := by
  unfold matchL
  rw [Ly_mc, mt_cons, mt_nil1, if_pos (by decide)]
theorem pc15 : PC Try.prog 15 [] (.b true) := by
  refine pc_fn fn15 (by simp only [AV.plains, AV.plain, il_plain, bl_plain, Bool.and_true, Bool.true_and, Bool.and_self]) (by simp only [AV.plains, AV.plain, il_plain, bl_plain, Bool.and_true, Bool.true_and, Bool.and_self]) (Nat.le_of_ble_eq_true rfl) ?_
  rw [initSt0]
  have v := Ly_VL
  have a0 : asked Ly 0 = 0 := asked_yes v (by decide)
  have q2 := pc16 Ly (by decide) 0
  rw [a0] at q2
  unfold matR at q2
  rw [if_pos a0, Ly_match0] at q2
  refine k_seq (k_reg ?_)
  refine s_go (by simp (disch := omega) only [c15r0, c15r1, c15r2, c15r3, EV0, EV1, EV2, EV3, EV4, EV5, EV6, EV7, EV8, VALS, plug, ite_same, decide_true, decide_false, eq_self, ↓reduceIte, reduceCtorEq, Nat.reduceAdd, Nat.reduceEqDiff, Nat.reduceLT, Nat.reduceLeDiff, Nat.reduceMul, Nat.reduceSub, Nat.reduceDiv, Int.reduceToNat, Int.reduceAdd, Int.reduceSub, Int.reduceMul, Int.reduceNeg, Int.reduceEq, Int.reduceLT, Int.reduceLE]; with_reducible rfl) ?_
  refine r_done ?_
  refine k_seq (k_reg ?_)
  refine s_go (by simp (disch := omega) only [c15r0, c15r1, c15r2, c15r3, EV0, EV1, EV2, EV3, EV4, EV5, EV6, EV7, EV8, VALS, plug, ite_same, decide_true, decide_false, eq_self, ↓reduceIte, reduceCtorEq, Nat.reduceAdd, Nat.reduceEqDiff, Nat.reduceLT, Nat.reduceLeDiff, Nat.reduceMul, Nat.reduceSub, Nat.reduceDiv, Int.reduceToNat, Int.reduceAdd, Int.reduceSub, Int.reduceMul, Int.reduceNeg, Int.reduceEq, Int.reduceLT, Int.reduceLE]; with_reducible rfl) ?_
  refine r_done ?_
  refine w_frz1 (t := 4) (n := 2) (a := 4) 1 4 (by simp (disch := omega) only [c15r0, c15r1, c15r2, c15r3, EV0, EV1, EV2, EV3, EV4, EV5, EV6, EV7, EV8, VALS, plug, ite_same, decide_true, decide_false, eq_self, ↓reduceIte, reduceCtorEq, Nat.reduceAdd, Nat.reduceEqDiff, Nat.reduceLT, Nat.reduceLeDiff, Nat.reduceMul, Nat.reduceSub, Nat.reduceDiv, Int.reduceToNat, Int.reduceAdd, Int.reduceSub, Int.reduceMul, Int.reduceNeg, Int.reduceEq, Int.reduceLT, Int.reduceLE] <;> rfl) rfl rfl ?_
  simp only [Ly, eP, eT, vT, vP, fl, List.map_cons, List.map_nil, List.flatten_cons, List.flatten_nil, List.cons_append, List.nil_append, List.append_nil, List.length_cons, List.length_nil] at q2 ⊢
  repeat' first
    | with_reducible refine k_seq ?_
    | with_reducible refine k_skip ?_
    | with_reducible refine k_blkS ?_
    | with_reducible refine k_blkR ?_
    | with_reducible refine k_blkC ?_
    | with_reducible refine k_blkH ?_
    | with_reducible refine k_blkB ?_
    | with_reducible refine k_blkK ?_
    | with_reducible refine k_blkE ?_
    | with_reducible refine k_reg ?_
    | with_reducible refine r_done ?_
    | with_reducible refine s_go (by simp (disch := omega) only [c15r0, c15r1, c15r2, c15r3, EV0, EV1, EV2, EV3, EV4, EV5, EV6, EV7, EV8, VALS, plug, ite_same, decide_true, decide_false, eq_self, ↓reduceIte, reduceCtorEq, Nat.reduceAdd, Nat.reduceEqDiff, Nat.reduceLT, Nat.reduceLeDiff, Nat.reduceMul, Nat.reduceSub, Nat.reduceDiv, Int.reduceToNat, Int.reduceAdd, Int.reduceSub, Int.reduceMul, Int.reduceNeg, Int.reduceEq, Int.reduceLT, Int.reduceLE]; with_reducible rfl) ?_
    | ((with_reducible refine chk_r ?_); refine r_callF (by simp only [CA, Nat.reduceEqDiff, ↓reduceIte]; rfl) (by exact rfl) (by simp only [CA, Nat.reduceEqDiff, ↓reduceIte]; rfl) rfl ?_)
    | ((with_reducible refine chk_r ?_); refine r_callP (by simp only [CA, Nat.reduceEqDiff, ↓reduceIte]; rfl) (by simp only [CA, Nat.reduceEqDiff, ↓reduceIte]; rfl) (by first | exact q2 _) rfl ?_)
    | (with_reducible refine k_condP (by simp only [GA, Nat.reduceEqDiff, ↓reduceIte]; rfl) (by first | (simp only [BO]; rfl) | rfl) (fun ht => ?_) (fun ht => ?_) <;> try (first | exact False.elim ht | exact absurd rfl ht | exact absurd trivial ht | exact Bool.noConfusion ht))
    | (with_reducible refine k_ret ?_; repeat with_reducible (first | refine ret_thru ?_ | refine ret_blk ?_ | refine fin ?_))
    | (with_reducible refine k_exit ?_; repeat with_reducible (first | refine thru ?_ | refine out_blk ?_ | refine pass (by decide) ?_))
    | (refine post1 ?_; simp only [GA, Nat.reduceEqDiff, ↓reduceIte])
    | (refine post2 ?_; simp only [GA, Nat.reduceEqDiff, ↓reduceIte])
    | (refine post3 ?_; simp only [GA, Nat.reduceEqDiff, ↓reduceIte])
    | (refine postc (by simp only [GA, Nat.reduceEqDiff, ↓reduceIte]; rfl) (by simp (disch := omega) only [c15r0, c15r1, c15r2, c15r3, EV0, EV1, EV2, EV3, EV4, EV5, EV6, EV7, EV8, VALS, plug, ite_same, decide_true, decide_false, eq_self, ↓reduceIte, reduceCtorEq, Nat.reduceAdd, Nat.reduceEqDiff, Nat.reduceLT, Nat.reduceLeDiff, Nat.reduceMul, Nat.reduceSub, Nat.reduceDiv, Int.reduceToNat, Int.reduceAdd, Int.reduceSub, Int.reduceMul, Int.reduceNeg, Int.reduceEq, Int.reduceLT, Int.reduceLE]; rfl) ?_)
    | refine post0 ?_
  exact ends_eq (b_eq (by decide))
theorem jd_mono {l : List T} {g g' : T → T → Bool} {ps : List (Int × Int)} (hg : ∀ a b, g a b = true → g' a b = true) (h : jd l g ps = 0) : jd l g' ps = 0 := by
  have hr := jd_rng h
  rw [jd_ok hr, jg_zero] at h ⊢
  intro i h1 h2
  have := er_zero.1 (h i h1 h2)
  exact er_zero.2 ⟨this.1, this.2.1, this.2.2.1, hg _ _ this.2.2.2⟩
theorem wm_le {l : List T} {tol : Int} (h0 : 0 ≤ tol) {ps : List (Int × Int)} : ∀ k, (∀ i, i < k → apart (l.getD (prs ps i).1.toNat T0) (l.getD (prs ps i).2.toNat T0) ≤ tol) → wm l ps k ≤ tol
  | 0, _ => h0
  | k + 1, h => by
    have := wm_le h0 k fun i hi => h i (by omega)
    have := h k (by omega)
    simp only [wm]
    omega
/-- the greatest difference of the pairs that are made -/
theorem worst_ok {l : List T} {tol : Int} (h0 : asked l tol = 0) : ∃ w, PC Try.prog 21 [vT l, vP (matchL l tol)] (.tu [.i .i64 w, .i .i64 0]) ∧ w ≤ tol := by
  obtain ⟨hv, t0, t1⟩ := asked_ok h0
  have hl := hv.len
  have ml : (matchL l tol).length ≤ 9 * l.length := mc_len l tol 9
  have ok := match_ok l tol
  have c := chk_ok h0 ok
  unfold chk at c
  rw [if_pos h0] at c
  have c2 : jd l mates (pI (matchL l tol)) = 0 := jd_mono (fun a b h => by unfold can at h; simp only [Bool.and_eq_true] at h; exact h.1) c
  have q := pc21 l (by omega) (pI (matchL l tol)) (by simp only [pI, List.length_map]; omega)
  rw [← vP_vQ] at q
  unfold wst at q
  rw [if_pos hv, if_pos c2] at q
  refine ⟨_, q, wm_le t0 _ fun i hi => ?_⟩
  have hi' : i < (matchL l tol).length := by simpa [pI] using hi
  have := (ok.2.2 _ (List.getElem_mem hi')).2.2.2.2.2
  have e : prs (pI (matchL l tol)) i = ((((matchL l tol)[i]).1 : Int), (((matchL l tol)[i]).2 : Int)) := by simp [prs, pI, hi']
  rw [e]
  simpa using this
theorem mt_len2 (l : List T) (tol : Int) : ∀ (n : Nat) (xs ys : List Nat), xs.length + ys.length ≤ n → (mt l tol xs ys).length ≤ ys.length
  | n, [], ys, h => by rw [mt_nil1]; simp
  | n, a :: xs, [], h => by rw [mt_nil2]; simp
  | 0, a :: xs, b :: ys, h => by simp at h
  | n + 1, a :: xs, b :: ys, h => by
    rw [mt_cons]
    simp only [List.length_cons] at h ⊢
    split
    · have := mt_len2 l tol n xs ys (by omega); simp only [List.length_cons]; omega
    · split
      · have := mt_len2 l tol n xs (b :: ys) (by simp only [List.length_cons]; omega); simpa using this
      · have := mt_len2 l tol n (a :: xs) ys (by simp only [List.length_cons]; omega); omega
/-- temples of the lesser sides of the first k colours -/
def less (l : List T) : Nat → Nat
  | 0 => 0
  | k + 1 => less l k + min (sfil l 1 (k + 1 : Nat) l.length).length (sfil l 2 (k + 1 : Nat) l.length).length
theorem less_le (l : List T) : ∀ k, less l k ≤ k * l.length
  | 0 => by simp [less]
  | k + 1 => by
    have := less_le l k
    have := sfil_len l 1 (k + 1 : Nat) l.length
    simp only [less, Nat.succ_mul]
    omega
theorem mc_less (l : List T) (tol : Int) : ∀ k, (mc l tol k).length ≤ less l k
  | 0 => by simp [mc]
  | k + 1 => by
    have := mc_less l tol k
    have a := mt_len l tol _ (sideL l 1 (k + 1 : Nat)) (sideL l 2 (k + 1 : Nat)) (Nat.le_refl _)
    have b := mt_len2 l tol _ (sideL l 1 (k + 1 : Nat)) (sideL l 2 (k + 1 : Nat)) (Nat.le_refl _)
    have e1 : (sideL l 1 (k + 1 : Nat)).length = (sfil l 1 (k + 1 : Nat) l.length).length := List.length_mergeSort _
    have e2 : (sideL l 2 (k + 1 : Nat)).length = (sfil l 2 (k + 1 : Nat) l.length).length := List.length_mergeSort _
    rw [mc_succ, List.length_append]
    simp only [less]
    omega
theorem tolR_ok {l : List T} {n : Int} {t : Nat} (hv : VL l) (hn : 0 ≤ n) (ht : t ≤ 1000) (h : n ≤ (matchL l t).length) : ∃ r : Nat, tolR l n = ((r : Int), 0) ∧ r ≤ t := by
  have it := leastT_is hv n
  have := (it.iff t (by omega)).1 h
  refine ⟨leastT l n, ?_, this⟩
  unfold tolR
  rw [if_neg (by simpa using hv), if_neg (by omega), if_neg (by omega)]
theorem tolR_no {l : List T} {n : Int} (hv : VL l) (hn : 0 ≤ n) (h : ((matchL l 1000).length : Int) < n) : tolR l n = (0, 4) := by
  have it := leastT_is hv n
  have i := it.iff 1000 (by decide)
  have e1 : ((1000 : Nat) : Int) = 1000 := rfl
  rw [e1] at i
  have : 1000 < leastT l n := by
    have : ¬ leastT l n ≤ 1000 := fun q => by have := i.2 q; omega
    omega
  unfold tolR
  rw [if_neg (by simpa using hv), if_neg (by omega), if_pos this]
set_option maxHeartbeats 2000000 in
theorem pc3 (l : List T) (hl : l.length ≤ 9223372036854775807) (a b c : Int) (wa : 0 ≤ a ∧ a ≤ 65535) (wb : 0 ≤ b ∧ b ≤ 65535) (wc : 0 ≤ c ∧ c ≤ 65535) : PC Try.prog 3 [vT l, .ag [.i .u16 a, .i .u16 b, .i .u16 c]] (.b true) := by
  refine pc_fn fn3 (by simp only [AV.plains, AV.plain, il_plain, bl_plain, Bool.and_true, Bool.true_and, Bool.and_self, flT_plain]) (by simp only [AV.plains, AV.plain, il_plain, bl_plain, Bool.and_true, Bool.true_and, Bool.and_self, flT_plain]) (Nat.le_of_ble_eq_true rfl) ?_
  rw [initSt2]
  have q14 := pc14 l hl
  by_cases hv : VL l
  · rw [vl_t hv] at q14
    by_cases h16 : l.length ≤ 16
    · refine k_seq (k_reg ?_)
      refine s_go (by simp (disch := omega) only [c3r0, c3r1, c3r2, c3r3, c3r4, c3r5, c3r6, c3r7, c3r8, c3r9, c3r10, c3r11, c3r12, c3r13, c3r14, c3r15, c3r16, c3r17, c3r18, c3r19, c3r20, c3r21, c3r22, c3r23, c3r24, c3r26, c3r27, c3r29, c3r30, c3r31, c3r32, c3r33, c3r34, c3r35, c3r36, c3r37, c3r38, c3r40, c3r41, c3r43, c3r44, EV0, EV1, EV2, EV3, EV4, EV5, EV6, EV7, EV8, VALS, plug, ite_same, decide_true, decide_false, eq_self, ↓reduceIte, reduceCtorEq, Nat.reduceAdd, Nat.reduceEqDiff, Nat.reduceLT, Nat.reduceLeDiff, Nat.reduceMul, Nat.reduceSub, Nat.reduceDiv, Int.reduceToNat, Int.reduceAdd, Int.reduceSub, Int.reduceMul, Int.reduceNeg, Int.reduceEq, Int.reduceLT, Int.reduceLE]; with_reducible rfl) ?_
      refine r_done ?_
      refine w_frzP (t := 1) (cs := [.i .u16 a, .i .u16 b, .i .u16 c]) 3 (by simp (disch := omega) only [c3r0, c3r1, c3r2, c3r3, c3r4, c3r5, c3r6, c3r7, c3r8, c3r9, c3r10, c3r11, c3r12, c3r13, c3r14, c3r15, c3r16, c3r17, c3r18, c3r19, c3r20, c3r21, c3r22, c3r23, c3r24, c3r26, c3r27, c3r29, c3r30, c3r31, c3r32, c3r33, c3r34, c3r35, c3r36, c3r37, c3r38, c3r40, c3r41, c3r43, c3r44, EV0, EV1, EV2, EV3, EV4, EV5, EV6, EV7, EV8, VALS, plug, ite_same, decide_true, decide_false, eq_self, ↓reduceIte, reduceCtorEq, Nat.reduceAdd, Nat.reduceEqDiff, Nat.reduceLT, Nat.reduceLeDiff, Nat.reduceMul, Nat.reduceSub, Nat.reduceDiv, Int.reduceToNat, Int.reduceAdd, Int.reduceSub, Int.reduceMul, Int.reduceNeg, Int.reduceEq, Int.reduceLT, Int.reduceLE] <;> rfl) rfl ?_
      obtain ⟨tk, tk1, tk2⟩ : ∃ tk : Nat → Nat, (∀ k, k < 3 → ([.i .u16 a, .i .u16 b, .i .u16 c] : List AV)[k]? = some (.i .u16 (tk k : Int))) ∧ ∀ k, tk k ≤ 65535 := by
        refine ⟨fun k => if k = 0 then a.toNat else if k = 1 then b.toNat else c.toNat, fun k hk => ?_, fun k => ?_⟩
        · have : k = 0 ∨ k = 1 ∨ k = 2 := by omega
          rcases this with rfl | rfl | rfl <;> simp <;> omega
        · simp only []; split
          · omega
          · split <;> omega
      generalize hcs : ([.i .u16 a, .i .u16 b, .i .u16 c] : List AV) = cs at tk1 ⊢
      have cl : cs.length = 3 := by rw [← hcs]; rfl
      clear hcs
      repeat' first
        | with_reducible refine k_seq ?_
        | with_reducible refine k_skip ?_
        | with_reducible refine k_blkS ?_
        | with_reducible refine k_blkR ?_
        | with_reducible refine k_blkC ?_
        | with_reducible refine k_blkH ?_
        | with_reducible refine k_blkB ?_
        | with_reducible refine k_blkK ?_
        | with_reducible refine k_blkE ?_
        | with_reducible refine k_reg ?_
        | with_reducible refine r_done ?_
        | with_reducible refine s_go (by simp (disch := omega) only [c3r0, c3r1, c3r2, c3r3, c3r4, c3r5, c3r6, c3r7, c3r8, c3r9, c3r10, c3r11, c3r12, c3r13, c3r14, c3r15, c3r16, c3r17, c3r18, c3r19, c3r20, c3r21, c3r22, c3r23, c3r24, c3r26, c3r27, c3r29, c3r30, c3r31, c3r32, c3r33, c3r34, c3r35, c3r36, c3r37, c3r38, c3r40, c3r41, c3r43, c3r44, EV0, EV1, EV2, EV3, EV4, EV5, EV6, EV7, EV8, VALS, plug, ite_same, decide_true, decide_false, eq_self, ↓reduceIte, reduceCtorEq, Nat.reduceAdd, Nat.reduceEqDiff, Nat.reduceLT, Nat.reduceLeDiff, Nat.reduceMul, Nat.reduceSub, Nat.reduceDiv, Int.reduceToNat, Int.reduceAdd, Int.reduceSub, Int.reduceMul, Int.reduceNeg, Int.reduceEq, Int.reduceLT, Int.reduceLE]; with_reducible rfl) ?_
        | ((with_reducible refine chk_r ?_); refine r_callF (by simp only [CA, Nat.reduceEqDiff, ↓reduceIte]; rfl) (by exact rfl) (by simp only [CA, Nat.reduceEqDiff, ↓reduceIte]; rfl) rfl ?_)
        | ((with_reducible refine chk_r ?_); refine r_callP (by simp only [CA, Nat.reduceEqDiff, ↓reduceIte]; rfl) (by simp only [CA, Nat.reduceEqDiff, ↓reduceIte]; rfl) (by first | exact q14 _ | exact pc15 _) rfl ?_)
        | ((with_reducible refine chk_r ?_); refine r_callG (by simp only [CA, Nat.reduceEqDiff, ↓reduceIte]; rfl) (by simp only [CA, Nat.reduceEqDiff, ↓reduceIte]; rfl) (by simp only [CA, Nat.reduceEqDiff, ↓reduceIte]; rfl) (by intro hg; (try simp only [BO] at hg); first | exact q14 _ | exact pc15 _) rfl ?_)
        | (with_reducible refine k_condP (by simp only [GA, Nat.reduceEqDiff, ↓reduceIte]; rfl) (by first | (simp only [BO]; rfl) | rfl) (fun ht => ?_) (fun ht => ?_) <;> try (first | exact False.elim ht | exact absurd rfl ht | exact absurd trivial ht | exact Bool.noConfusion ht))
        | (with_reducible refine k_ret ?_; repeat with_reducible (first | refine ret_thru ?_ | refine ret_blk ?_ | refine fin ?_))
        | (with_reducible refine k_exit ?_; repeat with_reducible (first | refine thru ?_ | refine out_blk ?_ | refine pass (by decide) ?_))
        | (refine post1 ?_; simp only [GA, Nat.reduceEqDiff, ↓reduceIte])
        | (refine post2 ?_; simp only [GA, Nat.reduceEqDiff, ↓reduceIte])
        | (refine post3 ?_; simp only [GA, Nat.reduceEqDiff, ↓reduceIte])
        | (refine postc (by simp only [GA, Nat.reduceEqDiff, ↓reduceIte]; rfl) (by simp (disch := omega) only [c3r0, c3r1, c3r2, c3r3, c3r4, c3r5, c3r6, c3r7, c3r8, c3r9, c3r10, c3r11, c3r12, c3r13, c3r14, c3r15, c3r16, c3r17, c3r18, c3r19, c3r20, c3r21, c3r22, c3r23, c3r24, c3r26, c3r27, c3r29, c3r30, c3r31, c3r32, c3r33, c3r34, c3r35, c3r36, c3r37, c3r38, c3r40, c3r41, c3r43, c3r44, EV0, EV1, EV2, EV3, EV4, EV5, EV6, EV7, EV8, VALS, plug, ite_same, decide_true, decide_false, eq_self, ↓reduceIte, reduceCtorEq, Nat.reduceAdd, Nat.reduceEqDiff, Nat.reduceLT, Nat.reduceLeDiff, Nat.reduceMul, Nat.reduceSub, Nat.reduceDiv, Int.reduceToNat, Int.reduceAdd, Int.reduceSub, Int.reduceMul, Int.reduceNeg, Int.reduceEq, Int.reduceLT, Int.reduceLE]; rfl) ?_)
        | refine post0 ?_
      · exfalso; omega
      refine k_blk (k_loopS (X := Int × Nat) [0, 3, 5, 6, 7, 8] 3 (fun k x => [(0, vT l), (3, .pv cs 0), (5, .i .i64 x.1), (6, .i .i64 0), (7, .i .i64 (x.2 : Int)), (8, .i .i64 (k : Int))])
        (fun k x h => x.2 ≤ 1000 ∧ -1 ≤ x.1 ∧ x.1 ≤ (matchL l (x.2 : Nat)).length) (-1, 0) (by simp only [Am.keep, List.map_cons, List.map_nil, GA, Nat.reduceEqDiff, ↓reduceIte]; try rfl) ⟨by decide, by decide, by simp only []; omega⟩ ?_)
      rintro k ⟨last, tol⟩ h hk ⟨h1, h2, h3⟩ ok pos
      simp only at h1 h2 h3 ⊢
      by_cases hlt : k < 3
      · have hlt' : (k : Int) < 3 := by omega
        have g := tk1 k hlt
        have gle := tk2 k
        have w1 : IntKind.i64.wrap (tk k : Int) = (tk k : Int) := wrap64 (by omega) (by omega)
        have w2 : (tk k : Int).tmod 400 = ((tk k % 400 : Nat) : Int) := by rw [Int.tmod_eq_emod_of_nonneg (by omega)]; omega
        obtain ⟨u, hu, hu2⟩ : ∃ u : Nat, min ((tol : Int) + ((tk k % 400 : Nat) : Int)) 1000 = (u : Int) ∧ tol ≤ u ∧ u ≤ 1000 :=
          ⟨min 1000 (tol + tk k % 400), by omega, by omega, by omega⟩
        have h0 : asked l (u : Int) = 0 := asked_yes hv ⟨by omega, by omega⟩
        have a16 := mostR hv (tol := (u : Int)) ⟨by omega, by omega⟩
        have a17 := pc17 l hl (u : Int)
        have a18 := pc18 l hl (u : Int)
        have a19 := pc19 l hl (u : Int) (pI (matchL l (u : Int))) (by have := mc_len l (u : Int) 9; simp only [pI, List.length_map]; unfold matchL; omega)
        rw [chk_ok h0 (match_ok l (u : Int)), ← vP_vQ] at a19
        obtain ⟨w, a21, hw⟩ := worst_ok h0
        unfold matR at a17
        rw [h0, if_pos rfl] at a17
        have a20 : ∀ g, GOK l (u : Int) g → PC Try.prog 20 [vT l, .i .i64 (u : Int), .vs g.length (nl g)] (.tu [.b true, .i .i64 0]) := fun g hg => by
          have := pc20 l hl (u : Int) (g.map fun (n : Nat) => (n : Int)) (by have := hg.le; rw [List.length_map]; omega)
          rwa [hg.is h0, vi_nat] at this
        have gR : ∀ r, GR l (u : Int) r → ∃ g : List Nat, GOK l (u : Int) g ∧ r = .tu [.vs g.length (nl g), .i .i64 0] := fun r hR => by
          rcases hR with ⟨_, hg⟩ | ⟨hn, _⟩
          · exact hg
          · exact absurd h0 hn
        have mono := mono_tol hv (t := (tol : Int)) (u := (u : Int)) (by omega)
        have hA : (matchL l (u : Int)).length ≤ 9 * l.length := mc_len l (u : Int) 9
        have a22 := fun k' => pc22 l hl k'
        have tr := fun (k' : Int) (h : 0 ≤ k') (h2 : k' ≤ (matchL l (u : Int)).length) => tolR_ok hv h (t := u) (by omega) h2
        have hnl : ¬ ((matchL l (u : Int)).length : Int) < last := by omega
        obtain ⟨M, hM⟩ : ∃ M, matchL l (u : Int) = M := ⟨_, rfl⟩
        have fin : Am.keep [0, 3, 5, 6, 7, 8] [(8, .i .i64 ((k + 1 : Nat) : Int)), (0, vT l), (3, .pv cs 0), (5, .i .i64 ((matchL l (u : Int)).length : Int)), (6, .i .i64 0), (7, .i .i64 (u : Int))] = Am.keep [0, 3, 5, 6, 7, 8] [(8, .i .i64 ((k + 1 : Nat) : Int)), (0, vT l), (3, .pv cs 0), (5, .i .i64 (M.length : Int)), (6, .i .i64 0), (7, .i .i64 (u : Int))] := by rw [hM]
        rw [hM] at a16 a17 a19 a21 mono hA tr hnl
        have hMl : ((matchL l (u : Int)).length : Int) = M.length := by rw [hM]
        repeat' first
          | with_reducible refine k_seq ?_
          | with_reducible refine k_skip ?_
          | with_reducible refine k_blkS ?_
          | with_reducible refine k_blkR ?_
          | with_reducible refine k_blkC ?_
          | with_reducible refine k_blkH ?_
          | with_reducible refine k_blkB ?_
          | with_reducible refine k_blkK ?_
          | with_reducible refine k_blkE ?_
          | with_reducible refine k_reg ?_
          | with_reducible refine r_done ?_
          | with_reducible refine s_go (by simp (disch := omega) only [hlt', g, cl, w1, w2, hu, hnl, c3r0, c3r1, c3r2, c3r3, c3r4, c3r5, c3r6, c3r7, c3r8, c3r9, c3r10, c3r11, c3r12, c3r13, c3r14, c3r15, c3r16, c3r17, c3r18, c3r19, c3r20, c3r21, c3r22, c3r23, c3r24, c3r26, c3r27, c3r29, c3r30, c3r31, c3r32, c3r33, c3r34, c3r35, c3r36, c3r37, c3r38, c3r40, c3r41, c3r43, c3r44, EV0, EV1, EV2, EV3, EV4, EV5, EV6, EV7, EV8, VALS, plug, ite_same, decide_true, decide_false, eq_self, ↓reduceIte, reduceCtorEq, Nat.reduceAdd, Nat.reduceEqDiff, Nat.reduceLT, Nat.reduceLeDiff, Nat.reduceMul, Nat.reduceSub, Nat.reduceDiv, Int.reduceToNat, Int.reduceAdd, Int.reduceSub, Int.reduceMul, Int.reduceNeg, Int.reduceEq, Int.reduceLT, Int.reduceLE]; with_reducible rfl) ?_
          | ((with_reducible refine chk_r ?_); refine r_callF (by simp only [CA, Nat.reduceEqDiff, ↓reduceIte]; rfl) (by exact rfl) (by simp only [CA, Nat.reduceEqDiff, ↓reduceIte]; rfl) rfl ?_)
          | ((with_reducible refine chk_r ?_); refine r_callP (by simp only [CA, Nat.reduceEqDiff, ↓reduceIte]; rfl) (by simp only [CA, Nat.reduceEqDiff, ↓reduceIte]; rfl) (by first | exact a16 _ | exact a17 _) rfl ?_)
          | ((with_reducible refine chk_r ?_); refine r_callG (by simp only [CA, Nat.reduceEqDiff, ↓reduceIte]; rfl) (by simp only [CA, Nat.reduceEqDiff, ↓reduceIte]; rfl) (by simp only [CA, Nat.reduceEqDiff, ↓reduceIte]; rfl) (by intro hg; (try simp only [BO] at hg); first | exact a16 _ | exact a17 _) rfl ?_)
          | ((with_reducible refine chk_r ?_); refine r_callX (by simp only [CA, Nat.reduceEqDiff, ↓reduceIte]; rfl) (by simp only [CA, Nat.reduceEqDiff, ↓reduceIte]; rfl) (by first | exact a18 _) rfl ?_)
          | ((with_reducible refine chk_r ?_); refine r_callTX (by first | (simp only [CA, Nat.reduceEqDiff, ↓reduceIte]; rfl) | simp only [CA, Nat.reduceEqDiff, ↓reduceIte]) (by simp only [CA, Nat.reduceEqDiff, ↓reduceIte]; rfl) (by simp only [CA, Nat.reduceEqDiff, ↓reduceIte]; rfl) (by first | exact a18 _) rfl ?_)
          | (with_reducible refine k_condP (by simp only [GA, Nat.reduceEqDiff, ↓reduceIte]; rfl) (by first | (simp only [BO]; rfl) | rfl) (fun ht => ?_) (fun ht => ?_) <;> try (first | exact False.elim ht | exact absurd rfl ht | exact absurd trivial ht | exact Bool.noConfusion ht))
          | (with_reducible refine k_ret ?_; repeat with_reducible (first | refine ret_thru ?_ | refine ret_blk ?_ | refine fin ?_))
          | (with_reducible refine k_exit ?_; repeat with_reducible (first | refine thru ?_ | refine out_blk ?_ | refine pass (by decide) ?_))
          | (refine post1 ?_; simp only [GA, Nat.reduceEqDiff, ↓reduceIte])
          | (refine post2 ?_; simp only [GA, Nat.reduceEqDiff, ↓reduceIte])
          | (refine post3 ?_; simp only [GA, Nat.reduceEqDiff, ↓reduceIte])
          | (refine postc (by simp only [GA, Nat.reduceEqDiff, ↓reduceIte]; rfl) (by simp (disch := omega) only [hlt', g, cl, w1, w2, hu, hnl, c3r0, c3r1, c3r2, c3r3, c3r4, c3r5, c3r6, c3r7, c3r8, c3r9, c3r10, c3r11, c3r12, c3r13, c3r14, c3r15, c3r16, c3r17, c3r18, c3r19, c3r20, c3r21, c3r22, c3r23, c3r24, c3r26, c3r27, c3r29, c3r30, c3r31, c3r32, c3r33, c3r34, c3r35, c3r36, c3r37, c3r38, c3r40, c3r41, c3r43, c3r44, EV0, EV1, EV2, EV3, EV4, EV5, EV6, EV7, EV8, VALS, plug, ite_same, decide_true, decide_false, eq_self, ↓reduceIte, reduceCtorEq, Nat.reduceAdd, Nat.reduceEqDiff, Nat.reduceLT, Nat.reduceLeDiff, Nat.reduceMul, Nat.reduceSub, Nat.reduceDiv, Int.reduceToNat, Int.reduceAdd, Int.reduceSub, Int.reduceMul, Int.reduceNeg, Int.reduceEq, Int.reduceLT, Int.reduceLE]; rfl) ?_)
          | refine post0 ?_
        rintro r h' ⟨hR, rfl⟩
        obtain ⟨g, hg, rfl⟩ := gR r hR
        have a20 := a20 g hg
        have gl := hg.len
        rw [hM] at gl
        have f1 : ((g.length : Int) = (M.length : Int)) = True := by simp [gl]
        have hw' : ¬ (u : Int) < w := by omega
        repeat' first
          | with_reducible refine k_seq ?_
          | with_reducible refine k_skip ?_
          | with_reducible refine k_blkS ?_
          | with_reducible refine k_blkR ?_
          | with_reducible refine k_blkC ?_
          | with_reducible refine k_blkH ?_
          | with_reducible refine k_blkB ?_
          | with_reducible refine k_blkK ?_
          | with_reducible refine k_blkE ?_
          | with_reducible refine k_reg ?_
          | with_reducible refine r_done ?_
          | with_reducible refine s_go (by simp (disch := omega) only [f1, hnl, hw', c3r0, c3r1, c3r2, c3r3, c3r4, c3r5, c3r6, c3r7, c3r8, c3r9, c3r10, c3r11, c3r12, c3r13, c3r14, c3r15, c3r16, c3r17, c3r18, c3r19, c3r20, c3r21, c3r22, c3r23, c3r24, c3r26, c3r27, c3r29, c3r30, c3r31, c3r32, c3r33, c3r34, c3r35, c3r36, c3r37, c3r38, c3r40, c3r41, c3r43, c3r44, EV0, EV1, EV2, EV3, EV4, EV5, EV6, EV7, EV8, VALS, plug, ite_same, decide_true, decide_false, eq_self, ↓reduceIte, reduceCtorEq, Nat.reduceAdd, Nat.reduceEqDiff, Nat.reduceLT, Nat.reduceLeDiff, Nat.reduceMul, Nat.reduceSub, Nat.reduceDiv, Int.reduceToNat, Int.reduceAdd, Int.reduceSub, Int.reduceMul, Int.reduceNeg, Int.reduceEq, Int.reduceLT, Int.reduceLE]; with_reducible rfl) ?_
          | ((with_reducible refine chk_r ?_); refine r_callF (by simp only [CA, Nat.reduceEqDiff, ↓reduceIte]; rfl) (by exact rfl) (by simp only [CA, Nat.reduceEqDiff, ↓reduceIte]; rfl) rfl ?_)
          | ((with_reducible refine chk_r ?_); refine r_callP (by simp only [CA, Nat.reduceEqDiff, ↓reduceIte]; rfl) (by simp only [CA, Nat.reduceEqDiff, ↓reduceIte]; rfl) (by first | exact a19 _ | exact a20 _ | exact a21 _) rfl ?_)
          | ((with_reducible refine chk_r ?_); refine r_callG (by simp only [CA, Nat.reduceEqDiff, ↓reduceIte]; rfl) (by simp only [CA, Nat.reduceEqDiff, ↓reduceIte]; rfl) (by simp only [CA, Nat.reduceEqDiff, ↓reduceIte]; rfl) (by intro hg; (try simp only [BO] at hg); first | exact a19 _ | exact a20 _ | exact a21 _) rfl ?_)
          | (with_reducible refine k_condP (by simp only [GA, Nat.reduceEqDiff, ↓reduceIte]; rfl) (by first | (simp only [BO]; rfl) | rfl) (fun ht => ?_) (fun ht => ?_) <;> try (first | exact False.elim ht | exact absurd rfl ht | exact absurd trivial ht | exact Bool.noConfusion ht))
          | (with_reducible refine k_ret ?_; repeat with_reducible (first | refine ret_thru ?_ | refine ret_blk ?_ | refine fin ?_))
          | (with_reducible refine k_exit ?_; repeat with_reducible (first | refine thru ?_ | refine out_blk ?_ | refine pass (by decide) ?_))
          | (refine post1 ?_; simp only [GA, Nat.reduceEqDiff, ↓reduceIte])
          | (refine post2 ?_; simp only [GA, Nat.reduceEqDiff, ↓reduceIte])
          | (refine post3 ?_; simp only [GA, Nat.reduceEqDiff, ↓reduceIte])
          | (refine postc (by simp only [GA, Nat.reduceEqDiff, ↓reduceIte]; rfl) (by simp (disch := omega) only [f1, hnl, hw', c3r0, c3r1, c3r2, c3r3, c3r4, c3r5, c3r6, c3r7, c3r8, c3r9, c3r10, c3r11, c3r12, c3r13, c3r14, c3r15, c3r16, c3r17, c3r18, c3r19, c3r20, c3r21, c3r22, c3r23, c3r24, c3r26, c3r27, c3r29, c3r30, c3r31, c3r32, c3r33, c3r34, c3r35, c3r36, c3r37, c3r38, c3r40, c3r41, c3r43, c3r44, EV0, EV1, EV2, EV3, EV4, EV5, EV6, EV7, EV8, VALS, plug, ite_same, decide_true, decide_false, eq_self, ↓reduceIte, reduceCtorEq, Nat.reduceAdd, Nat.reduceEqDiff, Nat.reduceLT, Nat.reduceLeDiff, Nat.reduceMul, Nat.reduceSub, Nat.reduceDiv, Int.reduceToNat, Int.reduceAdd, Int.reduceSub, Int.reduceMul, Int.reduceNeg, Int.reduceEq, Int.reduceLT, Int.reduceLE]; rfl) ?_)
          | refine post0 ?_
        all_goals try (exfalso; omega)
        refine k_blk (k_loopS (X := Unit) [0, 3, 6, 7, 8, 9, 19] (M.length - last).toNat (fun j _ => [(0, vT l), (3, .pv cs 0), (6, .i .i64 0), (7, .i .i64 (u : Int)), (8, .i .i64 (k : Int)), (9, .i .i64 (M.length : Int)), (19, .i .i64 (last + 1 + (j : Int)))]) (fun j _ h => True) () (by simp only [Am.keep, List.map_cons, List.map_nil, GA, Nat.reduceEqDiff, ↓reduceIte]; simp) trivial ?_)
        rintro j _ h hj - ok pos
        by_cases jlt : last + 1 + (j : Int) ≤ M.length
        · obtain ⟨r, er, hr⟩ := tr (last + 1 + (j : Int)) (by omega) jlt
          have a22 := a22 (last + 1 + (j : Int))
          rw [er] at a22
          have hr' : ¬ (u : Int) < r := by omega
          repeat' first
            | with_reducible refine k_seq ?_
            | with_reducible refine k_skip ?_
            | with_reducible refine k_blkS ?_
            | with_reducible refine k_blkR ?_
            | with_reducible refine k_blkC ?_
            | with_reducible refine k_blkH ?_
            | with_reducible refine k_blkB ?_
            | with_reducible refine k_blkK ?_
            | with_reducible refine k_blkE ?_
            | with_reducible refine k_reg ?_
            | with_reducible refine r_done ?_
            | with_reducible refine s_go (by simp (disch := omega) only [jlt, hr', c3r0, c3r1, c3r2, c3r3, c3r4, c3r5, c3r6, c3r7, c3r8, c3r9, c3r10, c3r11, c3r12, c3r13, c3r14, c3r15, c3r16, c3r17, c3r18, c3r19, c3r20, c3r21, c3r22, c3r23, c3r24, c3r26, c3r27, c3r29, c3r30, c3r31, c3r32, c3r33, c3r34, c3r35, c3r36, c3r37, c3r38, c3r40, c3r41, c3r43, c3r44, EV0, EV1, EV2, EV3, EV4, EV5, EV6, EV7, EV8, VALS, plug, ite_same, decide_true, decide_false, eq_self, ↓reduceIte, reduceCtorEq, Nat.reduceAdd, Nat.reduceEqDiff, Nat.reduceLT, Nat.reduceLeDiff, Nat.reduceMul, Nat.reduceSub, Nat.reduceDiv, Int.reduceToNat, Int.reduceAdd, Int.reduceSub, Int.reduceMul, Int.reduceNeg, Int.reduceEq, Int.reduceLT, Int.reduceLE]; with_reducible rfl) ?_
            | ((with_reducible refine chk_r ?_); refine r_callF (by simp only [CA, Nat.reduceEqDiff, ↓reduceIte]; rfl) (by exact rfl) (by simp only [CA, Nat.reduceEqDiff, ↓reduceIte]; rfl) rfl ?_)
            | ((with_reducible refine chk_r ?_); refine r_callP (by simp only [CA, Nat.reduceEqDiff, ↓reduceIte]; rfl) (by simp only [CA, Nat.reduceEqDiff, ↓reduceIte]; rfl) (by first | exact a22 _) rfl ?_)
            | ((with_reducible refine chk_r ?_); refine r_callG (by simp only [CA, Nat.reduceEqDiff, ↓reduceIte]; rfl) (by simp only [CA, Nat.reduceEqDiff, ↓reduceIte]; rfl) (by simp only [CA, Nat.reduceEqDiff, ↓reduceIte]; rfl) (by intro hg; (try simp only [BO] at hg); first | exact a22 _) rfl ?_)
            | (with_reducible refine k_condP (by simp only [GA, Nat.reduceEqDiff, ↓reduceIte]; rfl) (by first | (simp only [BO]; rfl) | rfl) (fun ht => ?_) (fun ht => ?_) <;> try (first | exact False.elim ht | exact absurd rfl ht | exact absurd trivial ht | exact Bool.noConfusion ht))
            | (with_reducible refine k_ret ?_; repeat with_reducible (first | refine ret_thru ?_ | refine ret_blk ?_ | refine fin ?_))
            | (with_reducible refine k_exit ?_; repeat with_reducible (first | refine thru ?_ | refine out_blk ?_ | refine pass (by decide) ?_))
            | (refine post1 ?_; simp only [GA, Nat.reduceEqDiff, ↓reduceIte])
            | (refine post2 ?_; simp only [GA, Nat.reduceEqDiff, ↓reduceIte])
            | (refine post3 ?_; simp only [GA, Nat.reduceEqDiff, ↓reduceIte])
            | (refine postc (by simp only [GA, Nat.reduceEqDiff, ↓reduceIte]; rfl) (by simp (disch := omega) only [jlt, hr', c3r0, c3r1, c3r2, c3r3, c3r4, c3r5, c3r6, c3r7, c3r8, c3r9, c3r10, c3r11, c3r12, c3r13, c3r14, c3r15, c3r16, c3r17, c3r18, c3r19, c3r20, c3r21, c3r22, c3r23, c3r24, c3r26, c3r27, c3r29, c3r30, c3r31, c3r32, c3r33, c3r34, c3r35, c3r36, c3r37, c3r38, c3r40, c3r41, c3r43, c3r44, EV0, EV1, EV2, EV3, EV4, EV5, EV6, EV7, EV8, VALS, plug, ite_same, decide_true, decide_false, eq_self, ↓reduceIte, reduceCtorEq, Nat.reduceAdd, Nat.reduceEqDiff, Nat.reduceLT, Nat.reduceLeDiff, Nat.reduceMul, Nat.reduceSub, Nat.reduceDiv, Int.reduceToNat, Int.reduceAdd, Int.reduceSub, Int.reduceMul, Int.reduceNeg, Int.reduceEq, Int.reduceLT, Int.reduceLE]; rfl) ?_)
            | refine post0 ?_
          exact ⟨by omega, (), by (simp only [Am.keep, List.map_cons, List.map_nil, GA, Nat.reduceEqDiff, ↓reduceIte, show last + 1 + (j : Int) + 1 = last + 1 + ((j + 1 : Nat) : Int) by omega]), trivial⟩
        · repeat' first
            | with_reducible refine k_seq ?_
            | with_reducible refine k_skip ?_
            | with_reducible refine k_blkS ?_
            | with_reducible refine k_blkR ?_
            | with_reducible refine k_blkC ?_
            | with_reducible refine k_blkH ?_
            | with_reducible refine k_blkB ?_
            | with_reducible refine k_blkK ?_
            | with_reducible refine k_blkE ?_
            | with_reducible refine k_reg ?_
            | with_reducible refine r_done ?_
            | with_reducible refine s_go (by simp (disch := omega) only [jlt, c3r0, c3r1, c3r2, c3r3, c3r4, c3r5, c3r6, c3r7, c3r8, c3r9, c3r10, c3r11, c3r12, c3r13, c3r14, c3r15, c3r16, c3r17, c3r18, c3r19, c3r20, c3r21, c3r22, c3r23, c3r24, c3r26, c3r27, c3r29, c3r30, c3r31, c3r32, c3r33, c3r34, c3r35, c3r36, c3r37, c3r38, c3r40, c3r41, c3r43, c3r44, EV0, EV1, EV2, EV3, EV4, EV5, EV6, EV7, EV8, VALS, plug, ite_same, decide_true, decide_false, eq_self, ↓reduceIte, reduceCtorEq, Nat.reduceAdd, Nat.reduceEqDiff, Nat.reduceLT, Nat.reduceLeDiff, Nat.reduceMul, Nat.reduceSub, Nat.reduceDiv, Int.reduceToNat, Int.reduceAdd, Int.reduceSub, Int.reduceMul, Int.reduceNeg, Int.reduceEq, Int.reduceLT, Int.reduceLE]; with_reducible rfl) ?_
            | ((with_reducible refine chk_r ?_); refine r_callF (by simp only [CA, Nat.reduceEqDiff, ↓reduceIte]; rfl) (by exact rfl) (by simp only [CA, Nat.reduceEqDiff, ↓reduceIte]; rfl) rfl ?_)
            | (with_reducible refine k_condP (by simp only [GA, Nat.reduceEqDiff, ↓reduceIte]; rfl) (by first | (simp only [BO]; rfl) | rfl) (fun ht => ?_) (fun ht => ?_) <;> try (first | exact False.elim ht | exact absurd rfl ht | exact absurd trivial ht | exact Bool.noConfusion ht))
            | (with_reducible refine k_ret ?_; repeat with_reducible (first | refine ret_thru ?_ | refine ret_blk ?_ | refine fin ?_))
            | (with_reducible refine k_exit ?_; repeat with_reducible (first | refine thru ?_ | refine out_blk ?_ | refine pass (by decide) ?_))
            | (refine post1 ?_; simp only [GA, Nat.reduceEqDiff, ↓reduceIte])
            | (refine post2 ?_; simp only [GA, Nat.reduceEqDiff, ↓reduceIte])
            | (refine post3 ?_; simp only [GA, Nat.reduceEqDiff, ↓reduceIte])
            | (refine postc (by simp only [GA, Nat.reduceEqDiff, ↓reduceIte]; rfl) (by simp (disch := omega) only [jlt, c3r0, c3r1, c3r2, c3r3, c3r4, c3r5, c3r6, c3r7, c3r8, c3r9, c3r10, c3r11, c3r12, c3r13, c3r14, c3r15, c3r16, c3r17, c3r18, c3r19, c3r20, c3r21, c3r22, c3r23, c3r24, c3r26, c3r27, c3r29, c3r30, c3r31, c3r32, c3r33, c3r34, c3r35, c3r36, c3r37, c3r38, c3r40, c3r41, c3r43, c3r44, EV0, EV1, EV2, EV3, EV4, EV5, EV6, EV7, EV8, VALS, plug, ite_same, decide_true, decide_false, eq_self, ↓reduceIte, reduceCtorEq, Nat.reduceAdd, Nat.reduceEqDiff, Nat.reduceLT, Nat.reduceLeDiff, Nat.reduceMul, Nat.reduceSub, Nat.reduceDiv, Int.reduceToNat, Int.reduceAdd, Int.reduceSub, Int.reduceMul, Int.reduceNeg, Int.reduceEq, Int.reduceLT, Int.reduceLE]; rfl) ?_)
            | refine post0 ?_
          exact ⟨hlt, (M.length, u), (by simp only [Am.keep, List.map_cons, List.map_nil, GA, Nat.reduceEqDiff, ↓reduceIte]; try rfl), by simp only []; omega, by simp only []; omega, by simp only []; omega⟩
      · obtain rfl : k = 3 := by omega
        have hlast : last ≤ less l 9 := by
          have := mc_less l (tol : Int) 9
          have e : mc l (tol : Int) 9 = matchL l (tol : Int) := rfl
          rw [e] at this
          omega
        have hlt' : ¬ ((3 : Nat) : Int) < 3 := by omega
        repeat' first
          | with_reducible refine k_seq ?_
          | with_reducible refine k_skip ?_
          | with_reducible refine k_blkS ?_
          | with_reducible refine k_blkR ?_
          | with_reducible refine k_blkC ?_
          | with_reducible refine k_blkH ?_
          | with_reducible refine k_blkB ?_
          | with_reducible refine k_blkK ?_
          | with_reducible refine k_blkE ?_
          | with_reducible refine k_reg ?_
          | with_reducible refine r_done ?_
          | with_reducible refine s_go (by simp (disch := omega) only [hlt', c3r0, c3r1, c3r2, c3r3, c3r4, c3r5, c3r6, c3r7, c3r8, c3r9, c3r10, c3r11, c3r12, c3r13, c3r14, c3r15, c3r16, c3r17, c3r18, c3r19, c3r20, c3r21, c3r22, c3r23, c3r24, c3r26, c3r27, c3r29, c3r30, c3r31, c3r32, c3r33, c3r34, c3r35, c3r36, c3r37, c3r38, c3r40, c3r41, c3r43, c3r44, EV0, EV1, EV2, EV3, EV4, EV5, EV6, EV7, EV8, VALS, plug, ite_same, decide_true, decide_false, eq_self, ↓reduceIte, reduceCtorEq, Nat.reduceAdd, Nat.reduceEqDiff, Nat.reduceLT, Nat.reduceLeDiff, Nat.reduceMul, Nat.reduceSub, Nat.reduceDiv, Int.reduceToNat, Int.reduceAdd, Int.reduceSub, Int.reduceMul, Int.reduceNeg, Int.reduceEq, Int.reduceLT, Int.reduceLE]; with_reducible rfl) ?_
          | ((with_reducible refine chk_r ?_); refine r_callF (by simp only [CA, Nat.reduceEqDiff, ↓reduceIte]; rfl) (by exact rfl) (by simp only [CA, Nat.reduceEqDiff, ↓reduceIte]; rfl) rfl ?_)
          | (with_reducible refine k_condP (by simp only [GA, Nat.reduceEqDiff, ↓reduceIte]; rfl) (by first | (simp only [BO]; rfl) | rfl) (fun ht => ?_) (fun ht => ?_) <;> try (first | exact False.elim ht | exact absurd rfl ht | exact absurd trivial ht | exact Bool.noConfusion ht))
          | (with_reducible refine k_ret ?_; repeat with_reducible (first | refine ret_thru ?_ | refine ret_blk ?_ | refine fin ?_))
          | (with_reducible refine k_exit ?_; repeat with_reducible (first | refine thru ?_ | refine out_blk ?_ | refine pass (by decide) ?_))
          | (refine post1 ?_; simp only [GA, Nat.reduceEqDiff, ↓reduceIte])
          | (refine post2 ?_; simp only [GA, Nat.reduceEqDiff, ↓reduceIte])
          | (refine post3 ?_; simp only [GA, Nat.reduceEqDiff, ↓reduceIte])
          | (refine postc (by simp only [GA, Nat.reduceEqDiff, ↓reduceIte]; rfl) (by simp (disch := omega) only [hlt', c3r0, c3r1, c3r2, c3r3, c3r4, c3r5, c3r6, c3r7, c3r8, c3r9, c3r10, c3r11, c3r12, c3r13, c3r14, c3r15, c3r16, c3r17, c3r18, c3r19, c3r20, c3r21, c3r22, c3r23, c3r24, c3r26, c3r27, c3r29, c3r30, c3r31, c3r32, c3r33, c3r34, c3r35, c3r36, c3r37, c3r38, c3r40, c3r41, c3r43, c3r44, EV0, EV1, EV2, EV3, EV4, EV5, EV6, EV7, EV8, VALS, plug, ite_same, decide_true, decide_false, eq_self, ↓reduceIte, reduceCtorEq, Nat.reduceAdd, Nat.reduceEqDiff, Nat.reduceLT, Nat.reduceLeDiff, Nat.reduceMul, Nat.reduceSub, Nat.reduceDiv, Int.reduceToNat, Int.reduceAdd, Int.reduceSub, Int.reduceMul, Int.reduceNeg, Int.reduceEq, Int.reduceLT, Int.reduceLE]; rfl) ?_)
          | refine post0 ?_
        refine k_blk (k_loopS (X := Unit) [0, 5, 6, 22] 9 (fun k _ => [(0, vT l), (5, .i .i64 last), (6, .i .i64 (less l k : Nat)), (22, .i .i64 ((k + 1 : Nat) : Int))]) (fun k _ h => True) () (by simp only [Am.keep, List.map_cons, List.map_nil, GA, Nat.reduceEqDiff, ↓reduceIte]; try rfl) trivial ?_)
        rintro k _ h hk - ok pos
        have lk := Nat.le_trans (less_le l k) (Nat.mul_le_mul_right l.length hk)
        by_cases hlt : k < 9
        · have hlt' : ((k + 1 : Nat) : Int) ≤ 9 := by omega
          repeat' first
            | with_reducible refine k_seq ?_
            | with_reducible refine k_skip ?_
            | with_reducible refine k_blkS ?_
            | with_reducible refine k_blkR ?_
            | with_reducible refine k_blkC ?_
            | with_reducible refine k_blkH ?_
            | with_reducible refine k_blkB ?_
            | with_reducible refine k_blkK ?_
            | with_reducible refine k_blkE ?_
            | with_reducible refine k_reg ?_
            | with_reducible refine r_done ?_
            | with_reducible refine s_go (by simp (disch := omega) only [hlt', c3r0, c3r1, c3r2, c3r3, c3r4, c3r5, c3r6, c3r7, c3r8, c3r9, c3r10, c3r11, c3r12, c3r13, c3r14, c3r15, c3r16, c3r17, c3r18, c3r19, c3r20, c3r21, c3r22, c3r23, c3r24, c3r26, c3r27, c3r29, c3r30, c3r31, c3r32, c3r33, c3r34, c3r35, c3r36, c3r37, c3r38, c3r40, c3r41, c3r43, c3r44, EV0, EV1, EV2, EV3, EV4, EV5, EV6, EV7, EV8, VALS, plug, ite_same, decide_true, decide_false, eq_self, ↓reduceIte, reduceCtorEq, Nat.reduceAdd, Nat.reduceEqDiff, Nat.reduceLT, Nat.reduceLeDiff, Nat.reduceMul, Nat.reduceSub, Nat.reduceDiv, Int.reduceToNat, Int.reduceAdd, Int.reduceSub, Int.reduceMul, Int.reduceNeg, Int.reduceEq, Int.reduceLT, Int.reduceLE]; with_reducible rfl) ?_
            | ((with_reducible refine chk_r ?_); refine r_callF (by simp only [CA, Nat.reduceEqDiff, ↓reduceIte]; rfl) (by exact rfl) (by simp only [CA, Nat.reduceEqDiff, ↓reduceIte]; rfl) rfl ?_)
            | (with_reducible refine k_condP (by simp only [GA, Nat.reduceEqDiff, ↓reduceIte]; rfl) (by first | (simp only [BO]; rfl) | rfl) (fun ht => ?_) (fun ht => ?_) <;> try (first | exact False.elim ht | exact absurd rfl ht | exact absurd trivial ht | exact Bool.noConfusion ht))
            | (with_reducible refine k_ret ?_; repeat with_reducible (first | refine ret_thru ?_ | refine ret_blk ?_ | refine fin ?_))
            | (with_reducible refine k_exit ?_; repeat with_reducible (first | refine thru ?_ | refine out_blk ?_ | refine pass (by decide) ?_))
            | (refine post1 ?_; simp only [GA, Nat.reduceEqDiff, ↓reduceIte])
            | (refine post2 ?_; simp only [GA, Nat.reduceEqDiff, ↓reduceIte])
            | (refine post3 ?_; simp only [GA, Nat.reduceEqDiff, ↓reduceIte])
            | (refine postc (by simp only [GA, Nat.reduceEqDiff, ↓reduceIte]; rfl) (by simp (disch := omega) only [hlt', c3r0, c3r1, c3r2, c3r3, c3r4, c3r5, c3r6, c3r7, c3r8, c3r9, c3r10, c3r11, c3r12, c3r13, c3r14, c3r15, c3r16, c3r17, c3r18, c3r19, c3r20, c3r21, c3r22, c3r23, c3r24, c3r26, c3r27, c3r29, c3r30, c3r31, c3r32, c3r33, c3r34, c3r35, c3r36, c3r37, c3r38, c3r40, c3r41, c3r43, c3r44, EV0, EV1, EV2, EV3, EV4, EV5, EV6, EV7, EV8, VALS, plug, ite_same, decide_true, decide_false, eq_self, ↓reduceIte, reduceCtorEq, Nat.reduceAdd, Nat.reduceEqDiff, Nat.reduceLT, Nat.reduceLeDiff, Nat.reduceMul, Nat.reduceSub, Nat.reduceDiv, Int.reduceToNat, Int.reduceAdd, Int.reduceSub, Int.reduceMul, Int.reduceNeg, Int.reduceEq, Int.reduceLT, Int.reduceLE]; rfl) ?_)
            | refine post0 ?_
          refine k_blk (k_loopS (X := Unit) [0, 5, 6, 22, 23, 24, 25] l.length (fun i _ => [(0, vT l), (5, .i .i64 last), (6, .i .i64 (less l k : Nat)), (22, .i .i64 ((k + 1 : Nat) : Int)), (23, .i .i64 ((sfil l 1 (k + 1 : Nat) i).length : Nat)), (24, .i .i64 ((sfil l 2 (k + 1 : Nat) i).length : Nat)), (25, .i .i64 (i : Int))]) (fun i _ h => True) () (by simp only [Am.keep, List.map_cons, List.map_nil, GA, Nat.reduceEqDiff, ↓reduceIte]; try rfl) trivial ?_)
          rintro i _ h hi - ok pos
          have s1 := sfil_len l 1 (k + 1 : Nat) i
          have s2 := sfil_len l 2 (k + 1 : Nat) i
          by_cases ilt : i < l.length
          · have ilt' : (i : Int) < l.length := by omega
            have g1 := getT1 ilt
            have g3 := getT3 ilt
            have e1 := sfil_succ l 1 (k + 1 : Nat) i
            have e2 := sfil_succ l 2 (k + 1 : Nat) i
            have o1 : ∀ s, onside l s (k + 1 : Nat) i = true ↔ (l.getD i T0).col = ((k + 1 : Nat) : Int) ∧ (l.getD i T0).side = s := fun s => by rw [onside_iff]; exact And.comm
            by_cases q1 : (l.getD i T0).col = ((k + 1 : Nat) : Int)
            · have q1' := eq_true q1
              by_cases q2 : (l.getD i T0).side = 1
              · have q2' := eq_true q2
                have q3' : ((l.getD i T0).side = 2) = False := eq_false (by omega)
                rw [if_pos ((o1 1).2 ⟨q1, q2⟩)] at e1
                rw [if_neg fun q => by have := ((o1 2).1 q).2; omega] at e2
                repeat' first
                  | with_reducible refine k_seq ?_
                  | with_reducible refine k_skip ?_
                  | with_reducible refine k_blkS ?_
                  | with_reducible refine k_blkR ?_
                  | with_reducible refine k_blkC ?_
                  | with_reducible refine k_blkH ?_
                  | with_reducible refine k_blkB ?_
                  | with_reducible refine k_blkK ?_
                  | with_reducible refine k_blkE ?_
                  | with_reducible refine k_reg ?_
                  | with_reducible refine r_done ?_
                  | with_reducible refine s_go (by simp (disch := omega) only [ilt', g1, g3, q1', q2', q3', c3r0, c3r1, c3r2, c3r3, c3r4, c3r5, c3r6, c3r7, c3r8, c3r9, c3r10, c3r11, c3r12, c3r13, c3r14, c3r15, c3r16, c3r17, c3r18, c3r19, c3r20, c3r21, c3r22, c3r23, c3r24, c3r26, c3r27, c3r29, c3r30, c3r31, c3r32, c3r33, c3r34, c3r35, c3r36, c3r37, c3r38, c3r40, c3r41, c3r43, c3r44, EV0, EV1, EV2, EV3, EV4, EV5, EV6, EV7, EV8, VALS, plug, ite_same, decide_true, decide_false, eq_self, ↓reduceIte, reduceCtorEq, Nat.reduceAdd, Nat.reduceEqDiff, Nat.reduceLT, Nat.reduceLeDiff, Nat.reduceMul, Nat.reduceSub, Nat.reduceDiv, Int.reduceToNat, Int.reduceAdd, Int.reduceSub, Int.reduceMul, Int.reduceNeg, Int.reduceEq, Int.reduceLT, Int.reduceLE]; with_reducible rfl) ?_
                  | ((with_reducible refine chk_r ?_); refine r_callF (by simp only [CA, Nat.reduceEqDiff, ↓reduceIte]; rfl) (by exact rfl) (by simp only [CA, Nat.reduceEqDiff, ↓reduceIte]; rfl) rfl ?_)
                  | (with_reducible refine k_condP (by simp only [GA, Nat.reduceEqDiff, ↓reduceIte]; rfl) (by first | (simp only [BO]; rfl) | rfl) (fun ht => ?_) (fun ht => ?_) <;> try (first | exact False.elim ht | exact absurd rfl ht | exact absurd trivial ht | exact Bool.noConfusion ht))
                  | (with_reducible refine k_ret ?_; repeat with_reducible (first | refine ret_thru ?_ | refine ret_blk ?_ | refine fin ?_))
                  | (with_reducible refine k_exit ?_; repeat with_reducible (first | refine thru ?_ | refine out_blk ?_ | refine pass (by decide) ?_))
                  | (refine post1 ?_; simp only [GA, Nat.reduceEqDiff, ↓reduceIte])
                  | (refine post2 ?_; simp only [GA, Nat.reduceEqDiff, ↓reduceIte])
                  | (refine post3 ?_; simp only [GA, Nat.reduceEqDiff, ↓reduceIte])
                  | (refine postc (by simp only [GA, Nat.reduceEqDiff, ↓reduceIte]; rfl) (by simp (disch := omega) only [ilt', g1, g3, q1', q2', q3', c3r0, c3r1, c3r2, c3r3, c3r4, c3r5, c3r6, c3r7, c3r8, c3r9, c3r10, c3r11, c3r12, c3r13, c3r14, c3r15, c3r16, c3r17, c3r18, c3r19, c3r20, c3r21, c3r22, c3r23, c3r24, c3r26, c3r27, c3r29, c3r30, c3r31, c3r32, c3r33, c3r34, c3r35, c3r36, c3r37, c3r38, c3r40, c3r41, c3r43, c3r44, EV0, EV1, EV2, EV3, EV4, EV5, EV6, EV7, EV8, VALS, plug, ite_same, decide_true, decide_false, eq_self, ↓reduceIte, reduceCtorEq, Nat.reduceAdd, Nat.reduceEqDiff, Nat.reduceLT, Nat.reduceLeDiff, Nat.reduceMul, Nat.reduceSub, Nat.reduceDiv, Int.reduceToNat, Int.reduceAdd, Int.reduceSub, Int.reduceMul, Int.reduceNeg, Int.reduceEq, Int.reduceLT, Int.reduceLE]; rfl) ?_)
                  | refine post0 ?_
                exact ⟨ilt, (), by (simp only [Am.keep, List.map_cons, List.map_nil, GA, Nat.reduceEqDiff, ↓reduceIte, e1, e2, List.length_append, List.length_cons, List.length_nil]; rfl), trivial⟩
              · have q2' := eq_false q2
                by_cases q3 : (l.getD i T0).side = 2
                · have q3' := eq_true q3
                  rw [if_neg fun q => q2 ((o1 1).1 q).2] at e1
                  rw [if_pos ((o1 2).2 ⟨q1, q3⟩)] at e2
                  repeat' first
                    | with_reducible refine k_seq ?_
                    | with_reducible refine k_skip ?_
                    | with_reducible refine k_blkS ?_
                    | with_reducible refine k_blkR ?_
                    | with_reducible refine k_blkC ?_
                    | with_reducible refine k_blkH ?_
                    | with_reducible refine k_blkB ?_
                    | with_reducible refine k_blkK ?_
                    | with_reducible refine k_blkE ?_
                    | with_reducible refine k_reg ?_
                    | with_reducible refine r_done ?_
                    | with_reducible refine s_go (by simp (disch := omega) only [ilt', g1, g3, q1', q2', q3', c3r0, c3r1, c3r2, c3r3, c3r4, c3r5, c3r6, c3r7, c3r8, c3r9, c3r10, c3r11, c3r12, c3r13, c3r14, c3r15, c3r16, c3r17, c3r18, c3r19, c3r20, c3r21, c3r22, c3r23, c3r24, c3r26, c3r27, c3r29, c3r30, c3r31, c3r32, c3r33, c3r34, c3r35, c3r36, c3r37, c3r38, c3r40, c3r41, c3r43, c3r44, EV0, EV1, EV2, EV3, EV4, EV5, EV6, EV7, EV8, VALS, plug, ite_same, decide_true, decide_false, eq_self, ↓reduceIte, reduceCtorEq, Nat.reduceAdd, Nat.reduceEqDiff, Nat.reduceLT, Nat.reduceLeDiff, Nat.reduceMul, Nat.reduceSub, Nat.reduceDiv, Int.reduceToNat, Int.reduceAdd, Int.reduceSub, Int.reduceMul, Int.reduceNeg, Int.reduceEq, Int.reduceLT, Int.reduceLE]; with_reducible rfl) ?_
                    | ((with_reducible refine chk_r ?_); refine r_callF (by simp only [CA, Nat.reduceEqDiff, ↓reduceIte]; rfl) (by exact rfl) (by simp only [CA, Nat.reduceEqDiff, ↓reduceIte]; rfl) rfl ?_)
                    | (with_reducible refine k_condP (by simp only [GA, Nat.reduceEqDiff, ↓reduceIte]; rfl) (by first | (simp only [BO]; rfl) | rfl) (fun ht => ?_) (fun ht => ?_) <;> try (first | exact False.elim ht | exact absurd rfl ht | exact absurd trivial ht | exact Bool.noConfusion ht))
                    | (with_reducible refine k_ret ?_; repeat with_reducible (first | refine ret_thru ?_ | refine ret_blk ?_ | refine fin ?_))
                    | (with_reducible refine k_exit ?_; repeat with_reducible (first | refine thru ?_ | refine out_blk ?_ | refine pass (by decide) ?_))
                    | (refine post1 ?_; simp only [GA, Nat.reduceEqDiff, ↓reduceIte])
                    | (refine post2 ?_; simp only [GA, Nat.reduceEqDiff, ↓reduceIte])
                    | (refine post3 ?_; simp only [GA, Nat.reduceEqDiff, ↓reduceIte])
                    | (refine postc (by simp only [GA, Nat.reduceEqDiff, ↓reduceIte]; rfl) (by simp (disch := omega) only [ilt', g1, g3, q1', q2', q3', c3r0, c3r1, c3r2, c3r3, c3r4, c3r5, c3r6, c3r7, c3r8, c3r9, c3r10, c3r11, c3r12, c3r13, c3r14, c3r15, c3r16, c3r17, c3r18, c3r19, c3r20, c3r21, c3r22, c3r23, c3r24, c3r26, c3r27, c3r29, c3r30, c3r31, c3r32, c3r33, c3r34, c3r35, c3r36, c3r37, c3r38, c3r40, c3r41, c3r43, c3r44, EV0, EV1, EV2, EV3, EV4, EV5, EV6, EV7, EV8, VALS, plug, ite_same, decide_true, decide_false, eq_self, ↓reduceIte, reduceCtorEq, Nat.reduceAdd, Nat.reduceEqDiff, Nat.reduceLT, Nat.reduceLeDiff, Nat.reduceMul, Nat.reduceSub, Nat.reduceDiv, Int.reduceToNat, Int.reduceAdd, Int.reduceSub, Int.reduceMul, Int.reduceNeg, Int.reduceEq, Int.reduceLT, Int.reduceLE]; rfl) ?_)
                    | refine post0 ?_
                  exact ⟨ilt, (), by (simp only [Am.keep, List.map_cons, List.map_nil, GA, Nat.reduceEqDiff, ↓reduceIte, e1, e2, List.length_append, List.length_cons, List.length_nil]; rfl), trivial⟩
                · have q3' := eq_false q3
                  rw [if_neg fun q => q2 ((o1 1).1 q).2] at e1
                  rw [if_neg fun q => q3 ((o1 2).1 q).2] at e2
                  repeat' first
                    | with_reducible refine k_seq ?_
                    | with_reducible refine k_skip ?_
                    | with_reducible refine k_blkS ?_
                    | with_reducible refine k_blkR ?_
                    | with_reducible refine k_blkC ?_
                    | with_reducible refine k_blkH ?_
                    | with_reducible refine k_blkB ?_
                    | with_reducible refine k_blkK ?_
                    | with_reducible refine k_blkE ?_
                    | with_reducible refine k_reg ?_
                    | with_reducible refine r_done ?_
                    | with_reducible refine s_go (by simp (disch := omega) only [ilt', g1, g3, q1', q2', q3', c3r0, c3r1, c3r2, c3r3, c3r4, c3r5, c3r6, c3r7, c3r8, c3r9, c3r10, c3r11, c3r12, c3r13, c3r14, c3r15, c3r16, c3r17, c3r18, c3r19, c3r20, c3r21, c3r22, c3r23, c3r24, c3r26, c3r27, c3r29, c3r30, c3r31, c3r32, c3r33, c3r34, c3r35, c3r36, c3r37, c3r38, c3r40, c3r41, c3r43, c3r44, EV0, EV1, EV2, EV3, EV4, EV5, EV6, EV7, EV8, VALS, plug, ite_same, decide_true, decide_false, eq_self, ↓reduceIte, reduceCtorEq, Nat.reduceAdd, Nat.reduceEqDiff, Nat.reduceLT, Nat.reduceLeDiff, Nat.reduceMul, Nat.reduceSub, Nat.reduceDiv, Int.reduceToNat, Int.reduceAdd, Int.reduceSub, Int.reduceMul, Int.reduceNeg, Int.reduceEq, Int.reduceLT, Int.reduceLE]; with_reducible rfl) ?_
                    | ((with_reducible refine chk_r ?_); refine r_callF (by simp only [CA, Nat.reduceEqDiff, ↓reduceIte]; rfl) (by exact rfl) (by simp only [CA, Nat.reduceEqDiff, ↓reduceIte]; rfl) rfl ?_)
                    | (with_reducible refine k_condP (by simp only [GA, Nat.reduceEqDiff, ↓reduceIte]; rfl) (by first | (simp only [BO]; rfl) | rfl) (fun ht => ?_) (fun ht => ?_) <;> try (first | exact False.elim ht | exact absurd rfl ht | exact absurd trivial ht | exact Bool.noConfusion ht))
                    | (with_reducible refine k_ret ?_; repeat with_reducible (first | refine ret_thru ?_ | refine ret_blk ?_ | refine fin ?_))
                    | (with_reducible refine k_exit ?_; repeat with_reducible (first | refine thru ?_ | refine out_blk ?_ | refine pass (by decide) ?_))
                    | (refine post1 ?_; simp only [GA, Nat.reduceEqDiff, ↓reduceIte])
                    | (refine post2 ?_; simp only [GA, Nat.reduceEqDiff, ↓reduceIte])
                    | (refine post3 ?_; simp only [GA, Nat.reduceEqDiff, ↓reduceIte])
                    | (refine postc (by simp only [GA, Nat.reduceEqDiff, ↓reduceIte]; rfl) (by simp (disch := omega) only [ilt', g1, g3, q1', q2', q3', c3r0, c3r1, c3r2, c3r3, c3r4, c3r5, c3r6, c3r7, c3r8, c3r9, c3r10, c3r11, c3r12, c3r13, c3r14, c3r15, c3r16, c3r17, c3r18, c3r19, c3r20, c3r21, c3r22, c3r23, c3r24, c3r26, c3r27, c3r29, c3r30, c3r31, c3r32, c3r33, c3r34, c3r35, c3r36, c3r37, c3r38, c3r40, c3r41, c3r43, c3r44, EV0, EV1, EV2, EV3, EV4, EV5, EV6, EV7, EV8, VALS, plug, ite_same, decide_true, decide_false, eq_self, ↓reduceIte, reduceCtorEq, Nat.reduceAdd, Nat.reduceEqDiff, Nat.reduceLT, Nat.reduceLeDiff, Nat.reduceMul, Nat.reduceSub, Nat.reduceDiv, Int.reduceToNat, Int.reduceAdd, Int.reduceSub, Int.reduceMul, Int.reduceNeg, Int.reduceEq, Int.reduceLT, Int.reduceLE]; rfl) ?_)
                    | refine post0 ?_
                  exact ⟨ilt, (), by (simp only [Am.keep, List.map_cons, List.map_nil, GA, Nat.reduceEqDiff, ↓reduceIte, e1, e2]; rfl), trivial⟩
            · have q1' := eq_false q1
              rw [if_neg fun q => q1 ((o1 1).1 q).1] at e1
              rw [if_neg fun q => q1 ((o1 2).1 q).1] at e2
              repeat' first
                | with_reducible refine k_seq ?_
                | with_reducible refine k_skip ?_
                | with_reducible refine k_blkS ?_
                | with_reducible refine k_blkR ?_
                | with_reducible refine k_blkC ?_
                | with_reducible refine k_blkH ?_
                | with_reducible refine k_blkB ?_
                | with_reducible refine k_blkK ?_
                | with_reducible refine k_blkE ?_
                | with_reducible refine k_reg ?_
                | with_reducible refine r_done ?_
                | with_reducible refine s_go (by simp (disch := omega) only [ilt', g1, g3, q1', c3r0, c3r1, c3r2, c3r3, c3r4, c3r5, c3r6, c3r7, c3r8, c3r9, c3r10, c3r11, c3r12, c3r13, c3r14, c3r15, c3r16, c3r17, c3r18, c3r19, c3r20, c3r21, c3r22, c3r23, c3r24, c3r26, c3r27, c3r29, c3r30, c3r31, c3r32, c3r33, c3r34, c3r35, c3r36, c3r37, c3r38, c3r40, c3r41, c3r43, c3r44, EV0, EV1, EV2, EV3, EV4, EV5, EV6, EV7, EV8, VALS, plug, ite_same, decide_true, decide_false, eq_self, ↓reduceIte, reduceCtorEq, Nat.reduceAdd, Nat.reduceEqDiff, Nat.reduceLT, Nat.reduceLeDiff, Nat.reduceMul, Nat.reduceSub, Nat.reduceDiv, Int.reduceToNat, Int.reduceAdd, Int.reduceSub, Int.reduceMul, Int.reduceNeg, Int.reduceEq, Int.reduceLT, Int.reduceLE]; with_reducible rfl) ?_
                | ((with_reducible refine chk_r ?_); refine r_callF (by simp only [CA, Nat.reduceEqDiff, ↓reduceIte]; rfl) (by exact rfl) (by simp only [CA, Nat.reduceEqDiff, ↓reduceIte]; rfl) rfl ?_)
                | (with_reducible refine k_condP (by simp only [GA, Nat.reduceEqDiff, ↓reduceIte]; rfl) (by first | (simp only [BO]; rfl) | rfl) (fun ht => ?_) (fun ht => ?_) <;> try (first | exact False.elim ht | exact absurd rfl ht | exact absurd trivial ht | exact Bool.noConfusion ht))
                | (with_reducible refine k_ret ?_; repeat with_reducible (first | refine ret_thru ?_ | refine ret_blk ?_ | refine fin ?_))
                | (with_reducible refine k_exit ?_; repeat with_reducible (first | refine thru ?_ | refine out_blk ?_ | refine pass (by decide) ?_))
                | (refine post1 ?_; simp only [GA, Nat.reduceEqDiff, ↓reduceIte])
                | (refine post2 ?_; simp only [GA, Nat.reduceEqDiff, ↓reduceIte])
                | (refine post3 ?_; simp only [GA, Nat.reduceEqDiff, ↓reduceIte])
                | (refine postc (by simp only [GA, Nat.reduceEqDiff, ↓reduceIte]; rfl) (by simp (disch := omega) only [ilt', g1, g3, q1', c3r0, c3r1, c3r2, c3r3, c3r4, c3r5, c3r6, c3r7, c3r8, c3r9, c3r10, c3r11, c3r12, c3r13, c3r14, c3r15, c3r16, c3r17, c3r18, c3r19, c3r20, c3r21, c3r22, c3r23, c3r24, c3r26, c3r27, c3r29, c3r30, c3r31, c3r32, c3r33, c3r34, c3r35, c3r36, c3r37, c3r38, c3r40, c3r41, c3r43, c3r44, EV0, EV1, EV2, EV3, EV4, EV5, EV6, EV7, EV8, VALS, plug, ite_same, decide_true, decide_false, eq_self, ↓reduceIte, reduceCtorEq, Nat.reduceAdd, Nat.reduceEqDiff, Nat.reduceLT, Nat.reduceLeDiff, Nat.reduceMul, Nat.reduceSub, Nat.reduceDiv, Int.reduceToNat, Int.reduceAdd, Int.reduceSub, Int.reduceMul, Int.reduceNeg, Int.reduceEq, Int.reduceLT, Int.reduceLE]; rfl) ?_)
                | refine post0 ?_
              exact ⟨ilt, (), by (simp only [Am.keep, List.map_cons, List.map_nil, GA, Nat.reduceEqDiff, ↓reduceIte, e1, e2]; rfl), trivial⟩
          · obtain rfl : i = l.length := by omega
            have ilt' : ¬ (l.length : Int) < l.length := by omega
            have f : ∃ m : Nat, min ((sfil l 1 (k + 1 : Nat) l.length).length : Int) ((sfil l 2 (k + 1 : Nat) l.length).length : Int) = (m : Int) ∧ (less l k : Int) + m = (less l (k + 1) : Nat) ∧ m ≤ l.length :=
              ⟨min (sfil l 1 (k + 1 : Nat) l.length).length (sfil l 2 (k + 1 : Nat) l.length).length, by omega, by simp only [less]; omega, by omega⟩
            obtain ⟨m, f1, f2, f3⟩ := f
            have lk1 := Nat.le_trans (less_le l (k + 1)) (Nat.mul_le_mul_right l.length (show k + 1 ≤ 9 by omega))
            repeat' first
              | with_reducible refine k_seq ?_
              | with_reducible refine k_skip ?_
              | with_reducible refine k_blkS ?_
              | with_reducible refine k_blkR ?_
              | with_reducible refine k_blkC ?_
              | with_reducible refine k_blkH ?_
              | with_reducible refine k_blkB ?_
              | with_reducible refine k_blkK ?_
              | with_reducible refine k_blkE ?_
              | with_reducible refine k_reg ?_
              | with_reducible refine r_done ?_
              | with_reducible refine s_go (by simp (disch := omega) only [ilt', f1, f2, c3r0, c3r1, c3r2, c3r3, c3r4, c3r5, c3r6, c3r7, c3r8, c3r9, c3r10, c3r11, c3r12, c3r13, c3r14, c3r15, c3r16, c3r17, c3r18, c3r19, c3r20, c3r21, c3r22, c3r23, c3r24, c3r26, c3r27, c3r29, c3r30, c3r31, c3r32, c3r33, c3r34, c3r35, c3r36, c3r37, c3r38, c3r40, c3r41, c3r43, c3r44, EV0, EV1, EV2, EV3, EV4, EV5, EV6, EV7, EV8, VALS, plug, ite_same, decide_true, decide_false, eq_self, ↓reduceIte, reduceCtorEq, Nat.reduceAdd, Nat.reduceEqDiff, Nat.reduceLT, Nat.reduceLeDiff, Nat.reduceMul, Nat.reduceSub, Nat.reduceDiv, Int.reduceToNat, Int.reduceAdd, Int.reduceSub, Int.reduceMul, Int.reduceNeg, Int.reduceEq, Int.reduceLT, Int.reduceLE]; with_reducible rfl) ?_
              | ((with_reducible refine chk_r ?_); refine r_callF (by simp only [CA, Nat.reduceEqDiff, ↓reduceIte]; rfl) (by exact rfl) (by simp only [CA, Nat.reduceEqDiff, ↓reduceIte]; rfl) rfl ?_)
              | (with_reducible refine k_condP (by simp only [GA, Nat.reduceEqDiff, ↓reduceIte]; rfl) (by first | (simp only [BO]; rfl) | rfl) (fun ht => ?_) (fun ht => ?_) <;> try (first | exact False.elim ht | exact absurd rfl ht | exact absurd trivial ht | exact Bool.noConfusion ht))
              | (with_reducible refine k_ret ?_; repeat with_reducible (first | refine ret_thru ?_ | refine ret_blk ?_ | refine fin ?_))
              | (with_reducible refine k_exit ?_; repeat with_reducible (first | refine thru ?_ | refine out_blk ?_ | refine pass (by decide) ?_))
              | (refine post1 ?_; simp only [GA, Nat.reduceEqDiff, ↓reduceIte])
              | (refine post2 ?_; simp only [GA, Nat.reduceEqDiff, ↓reduceIte])
              | (refine post3 ?_; simp only [GA, Nat.reduceEqDiff, ↓reduceIte])
              | (refine postc (by simp only [GA, Nat.reduceEqDiff, ↓reduceIte]; rfl) (by simp (disch := omega) only [ilt', f1, f2, c3r0, c3r1, c3r2, c3r3, c3r4, c3r5, c3r6, c3r7, c3r8, c3r9, c3r10, c3r11, c3r12, c3r13, c3r14, c3r15, c3r16, c3r17, c3r18, c3r19, c3r20, c3r21, c3r22, c3r23, c3r24, c3r26, c3r27, c3r29, c3r30, c3r31, c3r32, c3r33, c3r34, c3r35, c3r36, c3r37, c3r38, c3r40, c3r41, c3r43, c3r44, EV0, EV1, EV2, EV3, EV4, EV5, EV6, EV7, EV8, VALS, plug, ite_same, decide_true, decide_false, eq_self, ↓reduceIte, reduceCtorEq, Nat.reduceAdd, Nat.reduceEqDiff, Nat.reduceLT, Nat.reduceLeDiff, Nat.reduceMul, Nat.reduceSub, Nat.reduceDiv, Int.reduceToNat, Int.reduceAdd, Int.reduceSub, Int.reduceMul, Int.reduceNeg, Int.reduceEq, Int.reduceLT, Int.reduceLE]; rfl) ?_)
              | refine post0 ?_
            exact ⟨hlt, (), (by simp only [Am.keep, List.map_cons, List.map_nil, GA, Nat.reduceEqDiff, ↓reduceIte]; try rfl), trivial⟩
        · obtain rfl : k = 9 := by omega
          have hlt' : ¬ ((10 : Nat) : Int) ≤ 9 := by omega
          have a22 := pc22 l hl ((less l 9 : Nat) + 1)
          have : ((matchL l 1000).length : Int) < (less l 9 : Nat) + 1 := by
            have := mc_less l 1000 9
            have e : mc l 1000 9 = matchL l 1000 := rfl
            rw [e] at this
            omega
          rw [tolR_no hv (by omega) this] at a22
          repeat' first
            | with_reducible refine k_seq ?_
            | with_reducible refine k_skip ?_
            | with_reducible refine k_blkS ?_
            | with_reducible refine k_blkR ?_
            | with_reducible refine k_blkC ?_
            | with_reducible refine k_blkH ?_
            | with_reducible refine k_blkB ?_
            | with_reducible refine k_blkK ?_
            | with_reducible refine k_blkE ?_
            | with_reducible refine k_reg ?_
            | with_reducible refine r_done ?_
            | with_reducible refine s_go (by simp (disch := omega) only [hlt', hlast, c3r0, c3r1, c3r2, c3r3, c3r4, c3r5, c3r6, c3r7, c3r8, c3r9, c3r10, c3r11, c3r12, c3r13, c3r14, c3r15, c3r16, c3r17, c3r18, c3r19, c3r20, c3r21, c3r22, c3r23, c3r24, c3r26, c3r27, c3r29, c3r30, c3r31, c3r32, c3r33, c3r34, c3r35, c3r36, c3r37, c3r38, c3r40, c3r41, c3r43, c3r44, EV0, EV1, EV2, EV3, EV4, EV5, EV6, EV7, EV8, VALS, plug, ite_same, decide_true, decide_false, eq_self, ↓reduceIte, reduceCtorEq, Nat.reduceAdd, Nat.reduceEqDiff, Nat.reduceLT, Nat.reduceLeDiff, Nat.reduceMul, Nat.reduceSub, Nat.reduceDiv, Int.reduceToNat, Int.reduceAdd, Int.reduceSub, Int.reduceMul, Int.reduceNeg, Int.reduceEq, Int.reduceLT, Int.reduceLE]; with_reducible rfl) ?_
            | ((with_reducible refine chk_r ?_); refine r_callF (by simp only [CA, Nat.reduceEqDiff, ↓reduceIte]; rfl) (by exact rfl) (by simp only [CA, Nat.reduceEqDiff, ↓reduceIte]; rfl) rfl ?_)
            | ((with_reducible refine chk_r ?_); refine r_callP (by simp only [CA, Nat.reduceEqDiff, ↓reduceIte]; rfl) (by simp only [CA, Nat.reduceEqDiff, ↓reduceIte]; rfl) (by first | exact a22 _ | exact pc15 _) rfl ?_)
            | ((with_reducible refine chk_r ?_); refine r_callG (by simp only [CA, Nat.reduceEqDiff, ↓reduceIte]; rfl) (by simp only [CA, Nat.reduceEqDiff, ↓reduceIte]; rfl) (by simp only [CA, Nat.reduceEqDiff, ↓reduceIte]; rfl) (by intro hg; (try simp only [BO] at hg); first | exact a22 _ | exact pc15 _) rfl ?_)
            | (with_reducible refine k_condP (by simp only [GA, Nat.reduceEqDiff, ↓reduceIte]; rfl) (by first | (simp only [BO]; rfl) | rfl) (fun ht => ?_) (fun ht => ?_) <;> try (first | exact False.elim ht | exact absurd rfl ht | exact absurd trivial ht | exact Bool.noConfusion ht))
            | (with_reducible refine k_ret ?_; repeat with_reducible (first | refine ret_thru ?_ | refine ret_blk ?_ | refine fin ?_))
            | (with_reducible refine k_exit ?_; repeat with_reducible (first | refine thru ?_ | refine out_blk ?_ | refine pass (by decide) ?_))
            | (refine post1 ?_; simp only [GA, Nat.reduceEqDiff, ↓reduceIte])
            | (refine post2 ?_; simp only [GA, Nat.reduceEqDiff, ↓reduceIte])
            | (refine post3 ?_; simp only [GA, Nat.reduceEqDiff, ↓reduceIte])
            | (refine postc (by simp only [GA, Nat.reduceEqDiff, ↓reduceIte]; rfl) (by simp (disch := omega) only [hlt', hlast, c3r0, c3r1, c3r2, c3r3, c3r4, c3r5, c3r6, c3r7, c3r8, c3r9, c3r10, c3r11, c3r12, c3r13, c3r14, c3r15, c3r16, c3r17, c3r18, c3r19, c3r20, c3r21, c3r22, c3r23, c3r24, c3r26, c3r27, c3r29, c3r30, c3r31, c3r32, c3r33, c3r34, c3r35, c3r36, c3r37, c3r38, c3r40, c3r41, c3r43, c3r44, EV0, EV1, EV2, EV3, EV4, EV5, EV6, EV7, EV8, VALS, plug, ite_same, decide_true, decide_false, eq_self, ↓reduceIte, reduceCtorEq, Nat.reduceAdd, Nat.reduceEqDiff, Nat.reduceLT, Nat.reduceLeDiff, Nat.reduceMul, Nat.reduceSub, Nat.reduceDiv, Int.reduceToNat, Int.reduceAdd, Int.reduceSub, Int.reduceMul, Int.reduceNeg, Int.reduceEq, Int.reduceLT, Int.reduceLE]; rfl) ?_)
            | refine post0 ?_
          all_goals first | exact ends_of | exact ends_eq rfl
    · have h16' : (16 : Int) < l.length := by omega
      repeat' first
        | with_reducible refine k_seq ?_
        | with_reducible refine k_skip ?_
        | with_reducible refine k_blkS ?_
        | with_reducible refine k_blkR ?_
        | with_reducible refine k_blkC ?_
        | with_reducible refine k_blkH ?_
        | with_reducible refine k_blkB ?_
        | with_reducible refine k_blkK ?_
        | with_reducible refine k_blkE ?_
        | with_reducible refine k_reg ?_
        | with_reducible refine r_done ?_
        | with_reducible refine s_go (by simp (disch := omega) only [h16', c3r0, c3r1, c3r2, c3r3, c3r4, c3r5, c3r6, c3r7, c3r8, c3r9, c3r10, c3r11, c3r12, c3r13, c3r14, c3r15, c3r16, c3r17, c3r18, c3r19, c3r20, c3r21, c3r22, c3r23, c3r24, c3r26, c3r27, c3r29, c3r30, c3r31, c3r32, c3r33, c3r34, c3r35, c3r36, c3r37, c3r38, c3r40, c3r41, c3r43, c3r44, EV0, EV1, EV2, EV3, EV4, EV5, EV6, EV7, EV8, VALS, plug, ite_same, decide_true, decide_false, eq_self, ↓reduceIte, reduceCtorEq, Nat.reduceAdd, Nat.reduceEqDiff, Nat.reduceLT, Nat.reduceLeDiff, Nat.reduceMul, Nat.reduceSub, Nat.reduceDiv, Int.reduceToNat, Int.reduceAdd, Int.reduceSub, Int.reduceMul, Int.reduceNeg, Int.reduceEq, Int.reduceLT, Int.reduceLE]; with_reducible rfl) ?_
        | ((with_reducible refine chk_r ?_); refine r_callF (by simp only [CA, Nat.reduceEqDiff, ↓reduceIte]; rfl) (by exact rfl) (by simp only [CA, Nat.reduceEqDiff, ↓reduceIte]; rfl) rfl ?_)
        | ((with_reducible refine chk_r ?_); refine r_callP (by simp only [CA, Nat.reduceEqDiff, ↓reduceIte]; rfl) (by simp only [CA, Nat.reduceEqDiff, ↓reduceIte]; rfl) (by first | exact q14 _ | exact pc15 _) rfl ?_)
        | ((with_reducible refine chk_r ?_); refine r_callG (by simp only [CA, Nat.reduceEqDiff, ↓reduceIte]; rfl) (by simp only [CA, Nat.reduceEqDiff, ↓reduceIte]; rfl) (by simp only [CA, Nat.reduceEqDiff, ↓reduceIte]; rfl) (by intro hg; (try simp only [BO] at hg); first | exact q14 _ | exact pc15 _) rfl ?_)
        | (with_reducible refine k_condP (by simp only [GA, Nat.reduceEqDiff, ↓reduceIte]; rfl) (by first | (simp only [BO]; rfl) | rfl) (fun ht => ?_) (fun ht => ?_) <;> try (first | exact False.elim ht | exact absurd rfl ht | exact absurd trivial ht | exact Bool.noConfusion ht))
        | (with_reducible refine k_ret ?_; repeat with_reducible (first | refine ret_thru ?_ | refine ret_blk ?_ | refine fin ?_))
        | (with_reducible refine k_exit ?_; repeat with_reducible (first | refine thru ?_ | refine out_blk ?_ | refine pass (by decide) ?_))
        | (refine post1 ?_; simp only [GA, Nat.reduceEqDiff, ↓reduceIte])
        | (refine post2 ?_; simp only [GA, Nat.reduceEqDiff, ↓reduceIte])
        | (refine post3 ?_; simp only [GA, Nat.reduceEqDiff, ↓reduceIte])
        | (refine postc (by simp only [GA, Nat.reduceEqDiff, ↓reduceIte]; rfl) (by simp (disch := omega) only [h16', c3r0, c3r1, c3r2, c3r3, c3r4, c3r5, c3r6, c3r7, c3r8, c3r9, c3r10, c3r11, c3r12, c3r13, c3r14, c3r15, c3r16, c3r17, c3r18, c3r19, c3r20, c3r21, c3r22, c3r23, c3r24, c3r26, c3r27, c3r29, c3r30, c3r31, c3r32, c3r33, c3r34, c3r35, c3r36, c3r37, c3r38, c3r40, c3r41, c3r43, c3r44, EV0, EV1, EV2, EV3, EV4, EV5, EV6, EV7, EV8, VALS, plug, ite_same, decide_true, decide_false, eq_self, ↓reduceIte, reduceCtorEq, Nat.reduceAdd, Nat.reduceEqDiff, Nat.reduceLT, Nat.reduceLeDiff, Nat.reduceMul, Nat.reduceSub, Nat.reduceDiv, Int.reduceToNat, Int.reduceAdd, Int.reduceSub, Int.reduceMul, Int.reduceNeg, Int.reduceEq, Int.reduceLT, Int.reduceLE]; rfl) ?_)
        | refine post0 ?_
      all_goals first | exact ends_of | exact ends_eq rfl
  · rw [vl_f hv] at q14
    repeat' first
      | with_reducible refine k_seq ?_
      | with_reducible refine k_skip ?_
      | with_reducible refine k_blkS ?_
      | with_reducible refine k_blkR ?_
      | with_reducible refine k_blkC ?_
      | with_reducible refine k_blkH ?_
      | with_reducible refine k_blkB ?_
      | with_reducible refine k_blkK ?_
      | with_reducible refine k_blkE ?_
      | with_reducible refine k_reg ?_
      | with_reducible refine r_done ?_
      | with_reducible refine s_go (by simp (disch := omega) only [c3r0, c3r1, c3r2, c3r3, c3r4, c3r5, c3r6, c3r7, c3r8, c3r9, c3r10, c3r11, c3r12, c3r13, c3r14, c3r15, c3r16, c3r17, c3r18, c3r19, c3r20, c3r21, c3r22, c3r23, c3r24, c3r26, c3r27, c3r29, c3r30, c3r31, c3r32, c3r33, c3r34, c3r35, c3r36, c3r37, c3r38, c3r40, c3r41, c3r43, c3r44, EV0, EV1, EV2, EV3, EV4, EV5, EV6, EV7, EV8, VALS, plug, ite_same, decide_true, decide_false, eq_self, ↓reduceIte, reduceCtorEq, Nat.reduceAdd, Nat.reduceEqDiff, Nat.reduceLT, Nat.reduceLeDiff, Nat.reduceMul, Nat.reduceSub, Nat.reduceDiv, Int.reduceToNat, Int.reduceAdd, Int.reduceSub, Int.reduceMul, Int.reduceNeg, Int.reduceEq, Int.reduceLT, Int.reduceLE]; with_reducible rfl) ?_
      | ((with_reducible refine chk_r ?_); refine r_callF (by simp only [CA, Nat.reduceEqDiff, ↓reduceIte]; rfl) (by exact rfl) (by simp only [CA, Nat.reduceEqDiff, ↓reduceIte]; rfl) rfl ?_)
      | ((with_reducible refine chk_r ?_); refine r_callP (by simp only [CA, Nat.reduceEqDiff, ↓reduceIte]; rfl) (by simp only [CA, Nat.reduceEqDiff, ↓reduceIte]; rfl) (by first | exact q14 _ | exact pc15 _) rfl ?_)
      | ((with_reducible refine chk_r ?_); refine r_callG (by simp only [CA, Nat.reduceEqDiff, ↓reduceIte]; rfl) (by simp only [CA, Nat.reduceEqDiff, ↓reduceIte]; rfl) (by simp only [CA, Nat.reduceEqDiff, ↓reduceIte]; rfl) (by intro hg; (try simp only [BO] at hg); first | exact q14 _ | exact pc15 _) rfl ?_)
      | (with_reducible refine k_condP (by simp only [GA, Nat.reduceEqDiff, ↓reduceIte]; rfl) (by first | (simp only [BO]; rfl) | rfl) (fun ht => ?_) (fun ht => ?_) <;> try (first | exact False.elim ht | exact absurd rfl ht | exact absurd trivial ht | exact Bool.noConfusion ht))
      | (with_reducible refine k_ret ?_; repeat with_reducible (first | refine ret_thru ?_ | refine ret_blk ?_ | refine fin ?_))
      | (with_reducible refine k_exit ?_; repeat with_reducible (first | refine thru ?_ | refine out_blk ?_ | refine pass (by decide) ?_))
      | (refine post1 ?_; simp only [GA, Nat.reduceEqDiff, ↓reduceIte])
      | (refine post2 ?_; simp only [GA, Nat.reduceEqDiff, ↓reduceIte])
      | (refine post3 ?_; simp only [GA, Nat.reduceEqDiff, ↓reduceIte])
      | (refine postc (by simp only [GA, Nat.reduceEqDiff, ↓reduceIte]; rfl) (by simp (disch := omega) only [c3r0, c3r1, c3r2, c3r3, c3r4, c3r5, c3r6, c3r7, c3r8, c3r9, c3r10, c3r11, c3r12, c3r13, c3r14, c3r15, c3r16, c3r17, c3r18, c3r19, c3r20, c3r21, c3r22, c3r23, c3r24, c3r26, c3r27, c3r29, c3r30, c3r31, c3r32, c3r33, c3r34, c3r35, c3r36, c3r37, c3r38, c3r40, c3r41, c3r43, c3r44, EV0, EV1, EV2, EV3, EV4, EV5, EV6, EV7, EV8, VALS, plug, ite_same, decide_true, decide_false, eq_self, ↓reduceIte, reduceCtorEq, Nat.reduceAdd, Nat.reduceEqDiff, Nat.reduceLT, Nat.reduceLeDiff, Nat.reduceMul, Nat.reduceSub, Nat.reduceDiv, Int.reduceToNat, Int.reduceAdd, Int.reduceSub, Int.reduceMul, Int.reduceNeg, Int.reduceEq, Int.reduceLT, Int.reduceLE]; rfl) ?_)
      | refine post0 ?_
    all_goals first | exact ends_of | exact ends_eq rfl
theorem wf_u16 {n : Int} (h : (Lit.int .u16 n).wf = true) : 0 ≤ n ∧ n ≤ 65535 := by
  simp only [Lit.wf, Bool.and_eq_true, decide_eq_true_eq] at h
  exact h
theorem shp_u16 {a : AV} (h : Shp (.i .u16) a) : ∃ n : Int, a = .i .u16 n ∧ 0 ≤ n ∧ n ≤ 65535 := by
  simp only [Shp] at h
  obtain ⟨n, rfl, hw⟩ := h
  exact ⟨n, rfl, wf_u16 hw⟩
end Go.Proofs.Ytbhkbaapfioijaa
