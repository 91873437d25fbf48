import Derived.Test.YtbhkbaapfioijaaTmH
set_option linter.unusedVariables false
set_option linter.unusedSimpArgs false
namespace Go.Proofs.Ytbhkbaapfioijaa
open Go Go.Am Go.Proofs Go.Sort

/-! ### Match, Most, and the example -/
noncomputable def matR (l : List T) (tol : Int) : List (Nat × Nat) := if asked l tol = 0 then matchL l tol else []
theorem pc17 (l : List T) (hl : l.length ≤ 9223372036854775807) (tol : Int) : PC Try.prog 17 [vT l, .i .i64 tol] (.tu [vP (matR l tol), .i .i64 (asked l tol)]) := by
  refine pc_fn fn17 (by simp only [AV.plains, AV.plain, il_plain, bl_plain, Bool.and_true, Bool.true_and, Bool.and_self, flT_plain, flP_plain]) (by simp only [AV.plains, AV.plain, il_plain, bl_plain, Bool.and_true, Bool.true_and, Bool.and_self, flT_plain, flP_plain]) (Nat.le_of_ble_eq_true rfl) ?_
  rw [initSt2]
  have q := pc49 l hl tol
  unfold matR
  by_cases h : asked l tol = 0
  · rw [if_pos h]
    have q2 := pc50 l (asked_ok h).1 tol
    rw [h] at q ⊢
    repeat' first
      | with_reducible refine k_seq ?_
      | with_reducible refine k_skip ?_
      | with_reducible refine k_blkS ?_
      | with_reducible refine k_blkR ?_
      | with_reducible refine k_blkC ?_
      | with_reducible refine k_blkH ?_
      | with_reducible refine k_blkB ?_
      | with_reducible refine k_blkK ?_
      | with_reducible refine k_blkE ?_
      | with_reducible refine k_reg ?_
      | with_reducible refine r_done ?_
      | with_reducible refine s_go (by simp (disch := omega) only [c17r0, c17r1, c17r2, c17r3, c17r4, EV0, EV1, EV2, EV3, EV4, EV5, EV6, EV7, EV8, VALS, plug, ite_same, decide_true, decide_false, eq_self, ↓reduceIte, reduceCtorEq, Nat.reduceAdd, Nat.reduceEqDiff, Nat.reduceLT, Nat.reduceLeDiff, Nat.reduceMul, Nat.reduceSub, Nat.reduceDiv, Int.reduceToNat, Int.reduceAdd, Int.reduceSub, Int.reduceMul, Int.reduceNeg, Int.reduceEq, Int.reduceLT, Int.reduceLE]; with_reducible rfl) ?_
      | ((with_reducible refine chk_r ?_); refine r_callF (by simp only [CA, Nat.reduceEqDiff, ↓reduceIte]; rfl) (by exact rfl) (by simp only [CA, Nat.reduceEqDiff, ↓reduceIte]; rfl) rfl ?_)
      | ((with_reducible refine chk_r ?_); refine r_callP (by simp only [CA, Nat.reduceEqDiff, ↓reduceIte]; rfl) (by simp only [CA, Nat.reduceEqDiff, ↓reduceIte]; rfl) (by first | exact q _ | exact q2 _) rfl ?_)
      | (with_reducible refine k_condP (by simp only [GA, Nat.reduceEqDiff, ↓reduceIte]; rfl) (by first | (simp only [BO]; rfl) | rfl) (fun ht => ?_) (fun ht => ?_) <;> try (first | exact False.elim ht | exact absurd rfl ht | exact absurd trivial ht | exact Bool.noConfusion ht))
      | (with_reducible refine k_ret ?_; repeat with_reducible (first | refine ret_thru ?_ | refine ret_blk ?_ | refine fin ?_))
      | (with_reducible refine k_exit ?_; repeat with_reducible (first | refine thru ?_ | refine out_blk ?_ | refine pass (by decide) ?_))
      | (refine post1 ?_; simp only [GA, Nat.reduceEqDiff, ↓reduceIte])
      | (refine post2 ?_; simp only [GA, Nat.reduceEqDiff, ↓reduceIte])
      | (refine post3 ?_; simp only [GA, Nat.reduceEqDiff, ↓reduceIte])
      | (refine postc (by simp only [GA, Nat.reduceEqDiff, ↓reduceIte]; rfl) (by simp (disch := omega) only [c17r0, c17r1, c17r2, c17r3, c17r4, EV0, EV1, EV2, EV3, EV4, EV5, EV6, EV7, EV8, VALS, plug, ite_same, decide_true, decide_false, eq_self, ↓reduceIte, reduceCtorEq, Nat.reduceAdd, Nat.reduceEqDiff, Nat.reduceLT, Nat.reduceLeDiff, Nat.reduceMul, Nat.reduceSub, Nat.reduceDiv, Int.reduceToNat, Int.reduceAdd, Int.reduceSub, Int.reduceMul, Int.reduceNeg, Int.reduceEq, Int.reduceLT, Int.reduceLE]; rfl) ?_)
      | refine post0 ?_
    all_goals first | exact ends_of | exact ends_eq rfl
  · rw [if_neg h]
    generalize asked l tol = A at q h ⊢
    repeat' first
      | with_reducible refine k_seq ?_
      | with_reducible refine k_skip ?_
      | with_reducible refine k_blkS ?_
      | with_reducible refine k_blkR ?_
      | with_reducible refine k_blkC ?_
      | with_reducible refine k_blkH ?_
      | with_reducible refine k_blkB ?_
      | with_reducible refine k_blkK ?_
      | with_reducible refine k_blkE ?_
      | with_reducible refine k_reg ?_
      | with_reducible refine r_done ?_
      | with_reducible refine s_go (by simp (disch := omega) only [h, c17r0, c17r1, c17r2, c17r3, c17r4, EV0, EV1, EV2, EV3, EV4, EV5, EV6, EV7, EV8, VALS, plug, ite_same, decide_true, decide_false, eq_self, ↓reduceIte, reduceCtorEq, Nat.reduceAdd, Nat.reduceEqDiff, Nat.reduceLT, Nat.reduceLeDiff, Nat.reduceMul, Nat.reduceSub, Nat.reduceDiv, Int.reduceToNat, Int.reduceAdd, Int.reduceSub, Int.reduceMul, Int.reduceNeg, Int.reduceEq, Int.reduceLT, Int.reduceLE]; with_reducible rfl) ?_
      | ((with_reducible refine chk_r ?_); refine r_callF (by simp only [CA, Nat.reduceEqDiff, ↓reduceIte]; rfl) (by exact rfl) (by simp only [CA, Nat.reduceEqDiff, ↓reduceIte]; rfl) rfl ?_)
      | ((with_reducible refine chk_r ?_); refine r_callP (by simp only [CA, Nat.reduceEqDiff, ↓reduceIte]; rfl) (by simp only [CA, Nat.reduceEqDiff, ↓reduceIte]; rfl) (by first | exact q _) rfl ?_)
      | (with_reducible refine k_condP (by simp only [GA, Nat.reduceEqDiff, ↓reduceIte]; rfl) (by first | (simp only [BO]; rfl) | rfl) (fun ht => ?_) (fun ht => ?_) <;> try (first | exact False.elim ht | exact absurd rfl ht | exact absurd trivial ht | exact Bool.noConfusion ht))
      | (with_reducible refine k_ret ?_; repeat with_reducible (first | refine ret_thru ?_ | refine ret_blk ?_ | refine fin ?_))
      | (with_reducible refine k_exit ?_; repeat with_reducible (first | refine thru ?_ | refine out_blk ?_ | refine pass (by decide) ?_))
      | (refine post1 ?_; simp only [GA, Nat.reduceEqDiff, ↓reduceIte])
      | (refine post2 ?_; simp only [GA, Nat.reduceEqDiff, ↓reduceIte])
      | (refine post3 ?_; simp only [GA, Nat.reduceEqDiff, ↓reduceIte])
      | (refine postc (by simp only [GA, Nat.reduceEqDiff, ↓reduceIte]; rfl) (by simp (disch := omega) only [h, c17r0, c17r1, c17r2, c17r3, c17r4, EV0, EV1, EV2, EV3, EV4, EV5, EV6, EV7, EV8, VALS, plug, ite_same, decide_true, decide_false, eq_self, ↓reduceIte, reduceCtorEq, Nat.reduceAdd, Nat.reduceEqDiff, Nat.reduceLT, Nat.reduceLeDiff, Nat.reduceMul, Nat.reduceSub, Nat.reduceDiv, Int.reduceToNat, Int.reduceAdd, Int.reduceSub, Int.reduceMul, Int.reduceNeg, Int.reduceEq, Int.reduceLT, Int.reduceLE]; rfl) ?_)
      | refine post0 ?_
    exact ends_nil2
theorem pc16 (l : List T) (hl : l.length ≤ 9223372036854775807) (tol : Int) : PC Try.prog 16 [vT l, .i .i64 tol] (.tu [.i .i64 ((matR l tol).length : Int), .i .i64 (asked l tol)]) := by
  refine pc_fn fn16 (by simp only [AV.plains, AV.plain, il_plain, bl_plain, Bool.and_true, Bool.true_and, Bool.and_self, flT_plain]) (by simp only [AV.plains, AV.plain, il_plain, bl_plain, Bool.and_true, Bool.true_and, Bool.and_self, flT_plain]) (Nat.le_of_ble_eq_true rfl) ?_
  rw [initSt2]
  have q := pc17 l hl tol
  generalize asked l tol = A at q ⊢
  generalize matR l tol = M at q ⊢
  repeat' first
    | with_reducible refine k_seq ?_
    | with_reducible refine k_skip ?_
    | with_reducible refine k_blkS ?_
    | with_reducible refine k_blkR ?_
    | with_reducible refine k_blkC ?_
    | with_reducible refine k_blkH ?_
    | with_reducible refine k_blkB ?_
    | with_reducible refine k_blkK ?_
    | with_reducible refine k_blkE ?_
    | with_reducible refine k_reg ?_
    | with_reducible refine r_done ?_
    | with_reducible refine s_go (by simp (disch := omega) only [c16r0, c16r1, c16r2, EV0, EV1, EV2, EV3, EV4, EV5, EV6, EV7, EV8, VALS, plug, ite_same, decide_true, decide_false, eq_self, ↓reduceIte, reduceCtorEq, Nat.reduceAdd, Nat.reduceEqDiff, Nat.reduceLT, Nat.reduceLeDiff, Nat.reduceMul, Nat.reduceSub, Nat.reduceDiv, Int.reduceToNat, Int.reduceAdd, Int.reduceSub, Int.reduceMul, Int.reduceNeg, Int.reduceEq, Int.reduceLT, Int.reduceLE]; with_reducible rfl) ?_
    | ((with_reducible refine chk_r ?_); refine r_callF (by simp only [CA, Nat.reduceEqDiff, ↓reduceIte]; rfl) (by exact rfl) (by simp only [CA, Nat.reduceEqDiff, ↓reduceIte]; rfl) rfl ?_)
    | ((with_reducible refine chk_r ?_); refine r_callP (by simp only [CA, Nat.reduceEqDiff, ↓reduceIte]; rfl) (by simp only [CA, Nat.reduceEqDiff, ↓reduceIte]; rfl) (by first | exact q _) rfl ?_)
    | (with_reducible refine k_condP (by simp only [GA, Nat.reduceEqDiff, ↓reduceIte]; rfl) (by first | (simp only [BO]; rfl) | rfl) (fun ht => ?_) (fun ht => ?_) <;> try (first | exact False.elim ht | exact absurd rfl ht | exact absurd trivial ht | exact Bool.noConfusion ht))
    | (with_reducible refine k_ret ?_; repeat with_reducible (first | refine ret_thru ?_ | refine ret_blk ?_ | refine fin ?_))
    | (with_reducible refine k_exit ?_; repeat with_reducible (first | refine thru ?_ | refine out_blk ?_ | refine pass (by decide) ?_))
    | (refine post1 ?_; simp only [GA, Nat.reduceEqDiff, ↓reduceIte])
    | (refine post2 ?_; simp only [GA, Nat.reduceEqDiff, ↓reduceIte])
    | (refine post3 ?_; simp only [GA, Nat.reduceEqDiff, ↓reduceIte])
    | (refine postc (by simp only [GA, Nat.reduceEqDiff, ↓reduceIte]; rfl) (by simp (disch := omega) only [c16r0, c16r1, c16r2, EV0, EV1, EV2, EV3, EV4, EV5, EV6, EV7, EV8, VALS, plug, ite_same, decide_true, decide_false, eq_self, ↓reduceIte, reduceCtorEq, Nat.reduceAdd, Nat.reduceEqDiff, Nat.reduceLT, Nat.reduceLeDiff, Nat.reduceMul, Nat.reduceSub, Nat.reduceDiv, Int.reduceToNat, Int.reduceAdd, Int.reduceSub, Int.reduceMul, Int.reduceNeg, Int.reduceEq, Int.reduceLT, Int.reduceLE]; rfl) ?_)
    | refine post0 ?_
  all_goals first | exact ends_of | exact ends_eq rfl

def Lx : List T := [⟨1, 1, 104, 1⟩, ⟨2, 2, 103, 1⟩]
theorem Lx_VL : VL Lx := ⟨by decide, by
  show vk Lx 2
  refine vk_succ.2 ⟨vk_succ.2 ⟨⟨fun i h => by omega, fun i j h1 h2 => by omega⟩, by decide, fun i h => by omega⟩, by decide, fun i h => ?_⟩
  obtain rfl : i = 0 := by omega
  decide⟩
theorem Lx_side {s c : Int} (h : ¬ c = 1) : sideL Lx s c = [] := by
  have : sfil Lx s c Lx.length = [] := by
    unfold sfil
    rw [List.filter_eq_nil_iff]
    intro i hi
    simp only [Lx, List.length_cons, List.length_nil, List.mem_range] at hi
    have : i = 0 ∨ i = 1 := by omega
    rcases this with rfl | rfl <;> simp [onside, Lx] <;> omega
  unfold sideL; rw [this, List.mergeSort_nil]
theorem Lx_1 : sideL Lx 1 1 = [0] := by
  have : sfil Lx 1 1 Lx.length = [0] := by decide
  unfold sideL; rw [this, List.mergeSort_singleton]
theorem Lx_2 : sideL Lx 2 1 = [1] := by
  have : sfil Lx 2 1 Lx.length = [1] := by decide
  unfold sideL; rw [this, List.mergeSort_singleton]
theorem Lx_mc (tol : Int) : ∀ k, mc Lx tol (k + 1) = mt Lx tol [0] [1]
  | 0 => by
    rw [mc_succ, show (((0 + 1 : Nat)) : Int) = 1 from rfl, Lx_1, Lx_2]
    simp [mc]
  | k + 1 => by
    rw [mc_succ, Lx_mc tol k, Lx_side (by omega), mt_nil1, List.append_nil]
theorem Lx_match2 : matchL Lx 2 = [(0, 1)] := by
  unfold matchL
  rw [Lx_mc, mt_cons, mt_nil1, if_pos (by decide)]
theorem Lx_match0 : matchL Lx 0 = [] := by
  unfold matchL
  rw [Lx_mc, mt_cons, if_neg (by decide), if_neg (by decide), mt_nil2]

section
variable {P : Program} {N : Nat} {Q : Exit → St → AH → Prop} {st : St} {h : AH}
/-- a row that lies in one slot alone, as a value from here on -/
theorem w_frz1 {c : AC} (d : Nat) {t n a : Nat} (k : Nat) {cs : List AV} (hm : h.m t = some (.cells true cs)) (hd : st.get d = .sl t 0 n a) (hl : n * k = cs.length) (w : W P N c Q [(d, .vs n cs)] (h.kill t)) : W P N c Q st h :=
  w_frz hm (fun x => by
    simp only [St.get]
    by_cases e : x = d
    · subst e
      rw [hd, if_pos rfl]
      have := @FrzV.sl t cs 0 n k a (by omega)
      rwa [List.drop_zero, hl, List.take_length] at this
    · rw [if_neg e]; exact .un) w
end

theorem pc24 : PC Try.prog 24 [] (.b true) := by
  refine pc_fn fn24 (by simp only [AV.plains, AV.plain, il_plain, bl_plain, Bool.and_true, Bool.true_and, Bool.and_self]) (by simp only [AV.plains, AV.plain, il_plain, bl_plain, Bool.and_true, Bool.true_and, Bool.and_self]) (Nat.le_of_ble_eq_true rfl) ?_
  rw [initSt0]
  have v := Lx_VL
  have a2 : asked Lx 2 = 0 := asked_yes v (by decide)
  have a0 : asked Lx 0 = 0 := asked_yes v (by decide)
  have q1 := pc17 Lx (by decide) 2
  have q2 := pc16 Lx (by decide) 0
  rw [a2] at q1
  rw [a0] at q2
  unfold matR at q1 q2
  rw [if_pos a2, Lx_match2] at q1
  rw [if_pos a0, Lx_match0] at q2
  refine k_seq (k_reg ?_)
  refine s_go (by simp (disch := omega) only [c24r0, c24r1, c24r2, c24r3, c24r4, EV0, EV1, EV2, EV3, EV4, EV5, EV6, EV7, EV8, VALS, plug, ite_same, decide_true, decide_false, eq_self, ↓reduceIte, reduceCtorEq, Nat.reduceAdd, Nat.reduceEqDiff, Nat.reduceLT, Nat.reduceLeDiff, Nat.reduceMul, Nat.reduceSub, Nat.reduceDiv, Int.reduceToNat, Int.reduceAdd, Int.reduceSub, Int.reduceMul, Int.reduceNeg, Int.reduceEq, Int.reduceLT, Int.reduceLE]; with_reducible rfl) ?_
  refine r_done ?_
  refine k_seq (k_reg ?_)
  refine s_go (by simp (disch := omega) only [c24r0, c24r1, c24r2, c24r3, c24r4, EV0, EV1, EV2, EV3, EV4, EV5, EV6, EV7, EV8, VALS, plug, ite_same, decide_true, decide_false, eq_self, ↓reduceIte, reduceCtorEq, Nat.reduceAdd, Nat.reduceEqDiff, Nat.reduceLT, Nat.reduceLeDiff, Nat.reduceMul, Nat.reduceSub, Nat.reduceDiv, Int.reduceToNat, Int.reduceAdd, Int.reduceSub, Int.reduceMul, Int.reduceNeg, Int.reduceEq, Int.reduceLT, Int.reduceLE]; with_reducible rfl) ?_
  refine r_done ?_
  refine w_frz1 (t := 4) (n := 2) (a := 4) 1 4 (by simp (disch := omega) only [c24r0, c24r1, c24r2, c24r3, c24r4, EV0, EV1, EV2, EV3, EV4, EV5, EV6, EV7, EV8, VALS, plug, ite_same, decide_true, decide_false, eq_self, ↓reduceIte, reduceCtorEq, Nat.reduceAdd, Nat.reduceEqDiff, Nat.reduceLT, Nat.reduceLeDiff, Nat.reduceMul, Nat.reduceSub, Nat.reduceDiv, Int.reduceToNat, Int.reduceAdd, Int.reduceSub, Int.reduceMul, Int.reduceNeg, Int.reduceEq, Int.reduceLT, Int.reduceLE] <;> rfl) rfl rfl ?_
  refine k_seq ?_
  simp only [Lx, eP, eT, vT, vP, fl, List.map_cons, List.map_nil, List.flatten_cons, List.flatten_nil, List.cons_append, List.nil_append, List.append_nil, List.length_cons, List.length_nil] at q1 q2 ⊢
  repeat' first
    | with_reducible refine k_seq ?_
    | with_reducible refine k_skip ?_
    | with_reducible refine k_blkS ?_
    | with_reducible refine k_blkR ?_
    | with_reducible refine k_blkC ?_
    | with_reducible refine k_blkH ?_
    | with_reducible refine k_blkB ?_
    | with_reducible refine k_blkK ?_
    | with_reducible refine k_blkE ?_
    | with_reducible refine k_reg ?_
    | with_reducible refine r_done ?_
    | with_reducible refine s_go (by simp (disch := omega) only [c24r0, c24r1, c24r2, c24r3, c24r4, EV0, EV1, EV2, EV3, EV4, EV5, EV6, EV7, EV8, VALS, plug, ite_same, decide_true, decide_false, eq_self, ↓reduceIte, reduceCtorEq, Nat.reduceAdd, Nat.reduceEqDiff, Nat.reduceLT, Nat.reduceLeDiff, Nat.reduceMul, Nat.reduceSub, Nat.reduceDiv, Int.reduceToNat, Int.reduceAdd, Int.reduceSub, Int.reduceMul, Int.reduceNeg, Int.reduceEq, Int.reduceLT, Int.reduceLE]; with_reducible rfl) ?_
    | ((with_reducible refine chk_r ?_); refine r_callF (by simp only [CA, Nat.reduceEqDiff, ↓reduceIte]; rfl) (by exact rfl) (by simp only [CA, Nat.reduceEqDiff, ↓reduceIte]; rfl) rfl ?_)
    | ((with_reducible refine chk_r ?_); refine r_callP (by simp only [CA, Nat.reduceEqDiff, ↓reduceIte]; rfl) (by simp only [CA, Nat.reduceEqDiff, ↓reduceIte]; rfl) (by first | exact q1 _ | exact q2 _) rfl ?_)
    | (with_reducible refine k_condP (by simp only [GA, Nat.reduceEqDiff, ↓reduceIte]; rfl) (by first | (simp only [BO]; rfl) | rfl) (fun ht => ?_) (fun ht => ?_) <;> try (first | exact False.elim ht | exact absurd rfl ht | exact absurd trivial ht | exact Bool.noConfusion ht))
    | (with_reducible refine k_ret ?_; repeat with_reducible (first | refine ret_thru ?_ | refine ret_blk ?_ | refine fin ?_))
    | (with_reducible refine k_exit ?_; repeat with_reducible (first | refine thru ?_ | refine out_blk ?_ | refine pass (by decide) ?_))
    | (refine post1 ?_; simp only [GA, Nat.reduceEqDiff, ↓reduceIte])
    | (refine post2 ?_; simp only [GA, Nat.reduceEqDiff, ↓reduceIte])
    | (refine post3 ?_; simp only [GA, Nat.reduceEqDiff, ↓reduceIte])
    | (refine postc (by simp only [GA, Nat.reduceEqDiff, ↓reduceIte]; rfl) (by simp (disch := omega) only [c24r0, c24r1, c24r2, c24r3, c24r4, EV0, EV1, EV2, EV3, EV4, EV5, EV6, EV7, EV8, VALS, plug, ite_same, decide_true, decide_false, eq_self, ↓reduceIte, reduceCtorEq, Nat.reduceAdd, Nat.reduceEqDiff, Nat.reduceLT, Nat.reduceLeDiff, Nat.reduceMul, Nat.reduceSub, Nat.reduceDiv, Int.reduceToNat, Int.reduceAdd, Int.reduceSub, Int.reduceMul, Int.reduceNeg, Int.reduceEq, Int.reduceLT, Int.reduceLE]; rfl) ?_)
    | refine post0 ?_
  exact ends_eq (b_eq (by decide))
end Go.Proofs.Ytbhkbaapfioijaa
