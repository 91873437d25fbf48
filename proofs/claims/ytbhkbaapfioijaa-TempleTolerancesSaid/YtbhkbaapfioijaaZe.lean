/- What the proof of the law needs: the abstract machine, the functions as it reads them, their contracts, part 5. -/
import Derived.Test.YtbhkbaapfioijaaZd
set_option linter.unusedVariables false
set_option linter.unusedSimpArgs false
namespace Go.Proofs.Ytbhkbaapfioijaa
open Go Go.Am Go.Proofs Go.Sort
/-! ### Match, Most, and the example -/
noncomputable def matR (l : List T) (tol : Int) : List (Nat × Nat) := if asked l tol = 0 then matchL l tol else []
theorem pc17 (l : List T) (hl : l.length ≤ 9223372036854775807) (tol : Int) : PC Try.prog 17 [vT l, .i .i64 tol] (.tu [vP (matR l tol), .i .i64 (asked l tol)]) := by
  refine pc_fn fn17 (by simp only [AV.plains, AV.plain, il_plain, bl_plain, Bool.and_true, Bool.true_and, Bool.and_self, flT_plain, flP_plain]) (by simp only [AV.plains, AV.plain, il_plain, bl_plain, Bool.and_true, Bool.true_and, Bool.and_self, flT_plain, flP_plain]) (Nat.le_of_ble_eq_true rfl) ?_
  rw [initSt2]
  have q := pc49 l hl tol
  unfold matR
  by_cases h : asked l tol = 0
  · rw [if_pos h]
    have q2 := pc50 l (asked_ok h).1 tol
    rw [h] at q ⊢
    repeat' first
      | with_reducible refine k_seq ?_
      | with_reducible refine k_skip ?_
      | with_reducible refine k_blkS ?_
      | with_reducible refine k_blkR ?_
      | with_reducible refine k_blkC ?_
      | with_reducible refine k_blkH ?_
      | with_reducible refine k_blkB ?_
      | with_reducible refine k_blkK ?_
      | with_reducible refine k_blkE ?_
      | with_reducible refine k_reg ?_
      | with_reducible refine r_done ?_
      | with_reducible refine s_go (by simp (disch := omega) only [c17r0, c17r1, c17r2, c17r3, c17r4, EV0, EV1, EV2, EV3, EV4, EV5, EV6, EV7, EV8, VALS, plug, ite_same, decide_true, decide_false, eq_self, ↓reduceIte, reduceCtorEq, Nat.reduceAdd, Nat.reduceEqDiff, Nat.reduceLT, Nat.reduceLeDiff, Nat.reduceMul, Nat.reduceSub, Nat.reduceDiv, Int.reduceToNat, Int.reduceAdd, Int.reduceSub, Int.reduceMul, Int.reduceNeg, Int.reduceEq, Int.reduceLT, Int.reduceLE]; with_reducible rfl) ?_
      | ((with_reducible refine chk_r ?_); refine r_callF (by simp only [CA, Nat.reduceEqDiff, ↓reduceIte]; rfl) (by exact rfl) (by simp only [CA, Nat.reduceEqDiff, ↓reduceIte]; rfl) rfl ?_)
      | ((with_reducible refine chk_r ?_); refine r_callP (by simp only [CA, Nat.reduceEqDiff, ↓reduceIte]; rfl) (by simp only [CA, Nat.reduceEqDiff, ↓reduceIte]; rfl) (by first | exact q _ | exact q2 _) rfl ?_)
      | (with_reducible refine k_condP (by simp only [GA, Nat.reduceEqDiff, ↓reduceIte]; rfl) (by first | (simp only [BO]; rfl) | rfl) (fun ht => ?_) (fun ht => ?_) <;> try (first | exact False.elim ht | exact absurd rfl ht | exact absurd trivial ht | exact Bool.noConfusion ht))
      | (with_reducible refine k_ret ?_; repeat with_reducible (first | refine ret_thru ?_ | refine ret_blk ?_ | refine fin ?_))
      | (with_reducible refine k_exit ?_; repeat with_reducible (first | refine thru ?_ | refine out_blk ?_ | refine pass (by decide) ?_))
      | (refine post1 ?_; simp only [GA, Nat.reduceEqDiff, ↓reduceIte])
      | (refine post2 ?_; simp only [GA, Nat.reduceEqDiff, ↓reduceIte])
      | (refine post3 ?_; simp only [GA, Nat.reduceEqDiff, ↓reduceIte])
      | (refine postc (by simp only [GA, Nat.reduceEqDiff, ↓reduceIte]; rfl) (by simp (disch := omega) only [c17r0, c17r1, c17r2, c17r3, c17r4, EV0, EV1, EV2, EV3, EV4, EV5, EV6, EV7, EV8, VALS, plug, ite_same, decide_true, decide_false, eq_self, ↓reduceIte, reduceCtorEq, Nat.reduceAdd, Nat.reduceEqDiff, Nat.reduceLT, Nat.reduceLeDiff, Nat.reduceMul, Nat.reduceSub, Nat.reduceDiv, Int.reduceToNat, Int.reduceAdd, Int.reduceSub, Int.reduceMul, Int.reduceNeg, Int.reduceEq, Int.reduceLT, Int.reduceLE]; rfl) ?_)
      | refine post0 ?_
    all_goals first | exact ends_of | exact ends_eq rfl
  · rw [if_neg h]
    generalize asked l tol = A at q h ⊢
    repeat' first
      | with_reducible refine k_seq ?_
      | with_reducible refine k_skip ?_
      | with_reducible refine k_blkS ?_
      | with_reducible refine k_blkR ?_
      | with_reducible refine k_blkC ?_
      | with_reducible refine k_blkH ?_
      | with_reducible refine k_blkB ?_
      | with_reducible refine k_blkK ?_
      | with_reducible refine k_blkE ?_
      | with_reducible refine k_reg ?_
      | with_reducible refine r_done ?_
      | with_reducible refine s_go (by simp (disch := omega) only [h, c17r0, c17r1, c17r2, c17r3, c17r4, EV0, EV1, EV2, EV3, EV4, EV5, EV6, EV7, EV8, VALS, plug, ite_same, decide_true, decide_false, eq_self, ↓reduceIte, reduceCtorEq, Nat.reduceAdd, Nat.reduceEqDiff, Nat.reduceLT, Nat.reduceLeDiff, Nat.reduceMul, Nat.reduceSub, Nat.reduceDiv, Int.reduceToNat, Int.reduceAdd, Int.reduceSub, Int.reduceMul, Int.reduceNeg, Int.reduceEq, Int.reduceLT, Int.reduceLE]; with_reducible rfl) ?_
      | ((with_reducible refine chk_r ?_); refine r_callF (by simp only [CA, Nat.reduceEqDiff, ↓reduceIte]; rfl) (by exact rfl) (by simp only [CA, Nat.reduceEqDiff, ↓reduceIte]; rfl) rfl ?_)
      | ((with_reducible refine chk_r ?_); refine r_callP (by simp only [CA, Nat.reduceEqDiff, ↓reduceIte]; rfl) (by simp only [CA, Nat.reduceEqDiff, ↓reduceIte]; rfl) (by first | exact q _) rfl ?_)
      | (with_reducible refine k_condP (by simp only [GA, Nat.reduceEqDiff, ↓reduceIte]; rfl) (by first | (simp only [BO]; rfl) | rfl) (fun ht => ?_) (fun ht => ?_) <;> try (first | exact False.elim ht | exact absurd rfl ht | exact absurd trivial ht | exact Bool.noConfusion ht))
      | (with_reducible refine k_ret ?_; repeat with_reducible (first | refine ret_thru ?_ | refine ret_blk ?_ | refine fin ?_))
      | (with_reducible refine k_exit ?_; repeat with_reducible (first | refine thru ?_ | refine out_blk ?_ | refine pass (by decide) ?_))
      | (refine post1 ?_; simp only [GA, Nat.reduceEqDiff, ↓reduceIte])
      | (refine post2 ?_; simp only [GA, Nat.reduceEqDiff, ↓reduceIte])
      | (refine post3 ?_; simp only [GA, Nat.reduceEqDiff, ↓reduceIte])
      | (refine postc (by simp only [GA, Nat.reduceEqDiff, ↓reduceIte]; rfl) (by simp (disch := omega) only [h, c17r0, c17r1, c17r2, c17r3, c17r4, EV0, EV1, EV2, EV3, EV4, EV5, EV6, EV7, EV8, VALS, plug, ite_same, decide_true, decide_false, eq_self, ↓reduceIte, reduceCtorEq, Nat.reduceAdd, Nat.reduceEqDiff, Nat.reduceLT, Nat.reduceLeDiff, Nat.reduceMul, Nat.reduceSub, Nat.reduceDiv, Int.reduceToNat, Int.reduceAdd, Int.reduceSub, Int.reduceMul, Int.reduceNeg, Int.reduceEq, Int.reduceLT, Int.reduceLE]; rfl) ?_)
      | refine post0 ?_
    exact ends_nil2
theorem pc16 (l : List T) (hl : l.length ≤ 9223372036854775807) (tol : Int) : PC Try.prog 16 [vT l, .i .i64 tol] (.tu [.i .i64 ((matR l tol).length : Int), .i .i64 (asked l tol)]) := by
  refine pc_fn fn16 (by simp only [AV.plains, AV.plain, il_plain, bl_plain, Bool.and_true, Bool.true_and, Bool.and_self, flT_plain]) (by simp only [AV.plains, AV.plain, il_plain, bl_plain, Bool.and_true, Bool.true_and, Bool.and_self, flT_plain]) (Nat.le_of_ble_eq_true rfl) ?_
  rw [initSt2]
  have q := pc17 l hl tol
  generalize asked l tol = A at q ⊢
  generalize matR l tol = M at q ⊢
  repeat' first
    | with_reducible refine k_seq ?_
    | with_reducible refine k_skip ?_
    | with_reducible refine k_blkS ?_
    | with_reducible refine k_blkR ?_
    | with_reducible refine k_blkC ?_
    | with_reducible refine k_blkH ?_
    | with_reducible refine k_blkB ?_
    | with_reducible refine k_blkK ?_
    | with_reducible refine k_blkE ?_
    | with_reducible refine k_reg ?_
    | with_reducible refine r_done ?_
    | with_reducible refine s_go (by simp (disch := omega) only [c16r0, c16r1, c16r2, EV0, EV1, EV2, EV3, EV4, EV5, EV6, EV7, EV8, VALS, plug, ite_same, decide_true, decide_false, eq_self, ↓reduceIte, reduceCtorEq, Nat.reduceAdd, Nat.reduceEqDiff, Nat.reduceLT, Nat.reduceLeDiff, Nat.reduceMul, Nat.reduceSub, Nat.reduceDiv, Int.reduceToNat, Int.reduceAdd, Int.reduceSub, Int.reduceMul, Int.reduceNeg, Int.reduceEq, Int.reduceLT, Int.reduceLE]; with_reducible rfl) ?_
    | ((with_reducible refine chk_r ?_); refine r_callF (by simp only [CA, Nat.reduceEqDiff, ↓reduceIte]; rfl) (by exact rfl) (by simp only [CA, Nat.reduceEqDiff, ↓reduceIte]; rfl) rfl ?_)
    | ((with_reducible refine chk_r ?_); refine r_callP (by simp only [CA, Nat.reduceEqDiff, ↓reduceIte]; rfl) (by simp only [CA, Nat.reduceEqDiff, ↓reduceIte]; rfl) (by first | exact q _) rfl ?_)
    | (with_reducible refine k_condP (by simp only [GA, Nat.reduceEqDiff, ↓reduceIte]; rfl) (by first | (simp only [BO]; rfl) | rfl) (fun ht => ?_) (fun ht => ?_) <;> try (first | exact False.elim ht | exact absurd rfl ht | exact absurd trivial ht | exact Bool.noConfusion ht))
    | (with_reducible refine k_ret ?_; repeat with_reducible (first | refine ret_thru ?_ | refine ret_blk ?_ | refine fin ?_))
    | (with_reducible refine k_exit ?_; repeat with_reducible (first | refine thru ?_ | refine out_blk ?_ | refine pass (by decide) ?_))
    | (refine post1 ?_; simp only [GA, Nat.reduceEqDiff, ↓reduceIte])
    | (refine post2 ?_; simp only [GA, Nat.reduceEqDiff, ↓reduceIte])
    | (refine post3 ?_; simp only [GA, Nat.reduceEqDiff, ↓reduceIte])
    | (refine postc (by simp only [GA, Nat.reduceEqDiff, ↓reduceIte]; rfl) (by simp (disch := omega) only [c16r0, c16r1, c16r2, EV0, EV1, EV2, EV3, EV4, EV5, EV6, EV7, EV8, VALS, plug, ite_same, decide_true, decide_false, eq_self, ↓reduceIte, reduceCtorEq, Nat.reduceAdd, Nat.reduceEqDiff, Nat.reduceLT, Nat.reduceLeDiff, Nat.reduceMul, Nat.reduceSub, Nat.reduceDiv, Int.reduceToNat, Int.reduceAdd, Int.reduceSub, Int.reduceMul, Int.reduceNeg, Int.reduceEq, Int.reduceLT, Int.reduceLE]; rfl) ?_)
    | refine post0 ?_
  all_goals first | exact ends_of | exact ends_eq rfl
def Lx : List T := [⟨1, 1, 104, 1⟩, ⟨2, 2, 103, 1⟩]
theorem Lx_VL : VL Lx := ⟨by decide, by
  show vk Lx 2
  refine vk_succ.2 ⟨vk_succ.2 ⟨⟨fun i h => by omega, fun i j h1 h2 => by omega⟩, by decide, fun i h => by omega⟩, by decide, fun i h => ?_⟩
  obtain rfl : i = 0 := by omega
  decide⟩
theorem Lx_side {s c : Int} (h : ¬ c = 1) : sideL Lx s c = [] := by
  have : sfil Lx s c Lx.length = [] := by
    unfold sfil
    rw [List.filter_eq_nil_iff]
    intro i hi
    simp only [Lx, List.length_cons, List.length_nil, List.mem_range] at hi
    have : i = 0 ∨ i = 1 := by omega
    rcases this with rfl | rfl <;> simp [onside, Lx] <;> omega
  unfold sideL; rw [this, List.mergeSort_nil]
theorem Lx_1 : sideL Lx 1 1 = [0] := by
  have : sfil Lx 1 1 Lx.length = [0] := by decide
  unfold sideL; rw [this, List.mergeSort_singleton]
theorem Lx_2 : sideL Lx 2 1 = [1] := by
  have : sfil Lx 2 1 Lx.length = [1] := by decide
  unfold sideL; rw [this, List.mergeSort_singleton]
theorem Lx_mc (tol : Int) : ∀ k, mc Lx tol (k + 1) = mt Lx tol [0] [1]
  | 0 => by
    rw [mc_succ, show (((0 + 1 : Nat)) : Int) = 1 from rfl, Lx_1, Lx_2]
    simp [mc]
  | k + 1 => by
    rw [mc_succ, Lx_mc tol k, Lx_side (by omega), mt_nil1, List.append_nil]
theorem Lx_match2 : matchL Lx 2 = [(0, 1)] := by
  unfold matchL
  rw [Lx_mc, mt_cons, mt_nil1, if_pos (by decide)]
theorem Lx_match0 : matchL Lx 0 = [] := by
  unfold matchL
  rw [Lx_mc, mt_cons, if_neg (by decide), if_neg (by decide), mt_nil2]
section
variable {P : Program} {N : Nat} {Q : Exit → St → AH → Prop} {st : St} {h : AH}
/-- a row that lies in one slot alone, az a value from here on -/
theorem w_frz1 {c : AC} (d : Nat) {t n a : Nat} (k : Nat) {cs : List AV} (hm : h.m t = some (.cells true cs)) (hd : st.get d = .sl t 0 n a) (hl : n * k = cs.length) (w : W P N c Q [(d, .vs n cs)] (h.kill t)) : W P N c Q st h :=
  w_frz hm (fun x => by
    simp only [St.get]
    by_cases e : x = d
    · subst e
      rw [hd, if_pos rfl]
      have := @FrzV.sl t cs 0 n k a (by omega)
      rwa [List.drop_zero, hl, List.take_length] at this
    · rw [if_neg e]; exact .un) w
end
theorem pc24 : PC Try.prog 24 [] (.b true) := by
  refine pc_fn fn24 (by simp only [AV.plains, AV.plain, il_plain, bl_plain, Bool.and_true, Bool.true_and, Bool.and_self]) (by simp only [AV.plains, AV.plain, il_plain, bl_plain, Bool.and_true, Bool.true_and, Bool.and_self]) (Nat.le_of_ble_eq_true rfl) ?_
  rw [initSt0]
  have v := Lx_VL
  have a2 : asked Lx 2 = 0 := asked_yes v (by decide)
  have a0 : asked Lx 0 = 0 := asked_yes v (by decide)
  have q1 := pc17 Lx (by decide) 2
  have q2 := pc16 Lx (by decide) 0
  rw [a2] at q1
  rw [a0] at q2
  unfold matR at q1 q2
  rw [if_pos a2, Lx_match2] at q1
  rw [if_pos a0, Lx_match0] at q2
  refine k_seq (k_reg ?_)
  refine s_go (by simp (disch := omega) only [c24r0, c24r1, c24r2, c24r3, c24r4, EV0, EV1, EV2, EV3, EV4, EV5, EV6, EV7, EV8, VALS, plug, ite_same, decide_true, decide_false, eq_self, ↓reduceIte, reduceCtorEq, Nat.reduceAdd, Nat.reduceEqDiff, Nat.reduceLT, Nat.reduceLeDiff, Nat.reduceMul, Nat.reduceSub, Nat.reduceDiv, Int.reduceToNat, Int.reduceAdd, Int.reduceSub, Int.reduceMul, Int.reduceNeg, Int.reduceEq, Int.reduceLT, Int.reduceLE]; with_reducible rfl) ?_
  refine r_done ?_
  refine k_seq (k_reg ?_)
  refine s_go (by simp (disch := omega) only [c24r0, c24r1, c24r2, c24r3, c24r4, EV0, EV1, EV2, EV3, EV4, EV5, EV6, EV7, EV8, VALS, plug, ite_same, decide_true, decide_false, eq_self, ↓reduceIte, reduceCtorEq, Nat.reduceAdd, Nat.reduceEqDiff, Nat.reduceLT, Nat.reduceLeDiff, Nat.reduceMul, Nat.reduceSub, Nat.reduceDiv, Int.reduceToNat, Int.reduceAdd, Int.reduceSub, Int.reduceMul, Int.reduceNeg, Int.reduceEq, Int.reduceLT, Int.reduceLE]; with_reducible rfl) ?_
  refine r_done ?_
  refine w_frz1 (t := 4) (n := 2) (a := 4) 1 4 (by simp (disch := omega) only [c24r0, c24r1, c24r2, c24r3, c24r4, EV0, EV1, EV2, EV3, EV4, EV5, EV6, EV7, EV8, VALS, plug, ite_same, decide_true, decide_false, eq_self, ↓reduceIte, reduceCtorEq, Nat.reduceAdd, Nat.reduceEqDiff, Nat.reduceLT, Nat.reduceLeDiff, Nat.reduceMul, Nat.reduceSub, Nat.reduceDiv, Int.reduceToNat, Int.reduceAdd, Int.reduceSub, Int.reduceMul, Int.reduceNeg, Int.reduceEq, Int.reduceLT, Int.reduceLE] <;> rfl) rfl rfl ?_
  refine k_seq ?_
  simp only [Lx, eP, eT, vT, vP, fl, List.map_cons, List.map_nil, List.flatten_cons, List.flatten_nil, List.cons_append, List.nil_append, List.append_nil, List.length_cons, List.length_nil] at q1 q2 ⊢
  repeat' first
    | with_reducible refine k_seq ?_
    | with_reducible refine k_skip ?_
    | with_reducible refine k_blkS ?_
    | with_reducible refine k_blkR ?_
    | with_reducible refine k_blkC ?_
    | with_reducible refine k_blkH ?_
    | with_reducible refine k_blkB ?_
    | with_reducible refine k_blkK ?_
    | with_reducible refine k_blkE ?_
    | with_reducible refine k_reg ?_
    | with_reducible refine r_done ?_
    | with_reducible refine s_go (by simp (disch := omega) only [c24r0, c24r1, c24r2, c24r3, c24r4, EV0, EV1, EV2, EV3, EV4, EV5, EV6, EV7, EV8, VALS, plug, ite_same, decide_true, decide_false, eq_self, ↓reduceIte, reduceCtorEq, Nat.reduceAdd, Nat.reduceEqDiff, Nat.reduceLT, Nat.reduceLeDiff, Nat.reduceMul, Nat.reduceSub, Nat.reduceDiv, Int.reduceToNat, Int.reduceAdd, Int.reduceSub, Int.reduceMul, Int.reduceNeg, Int.reduceEq, Int.reduceLT, Int.reduceLE]; with_reducible rfl) ?_
    | ((with_reducible refine chk_r ?_); refine r_callF (by simp only [CA, Nat.reduceEqDiff, ↓reduceIte]; rfl) (by exact rfl) (by simp only [CA, Nat.reduceEqDiff, ↓reduceIte]; rfl) rfl ?_)
    | ((with_reducible refine chk_r ?_); refine r_callP (by simp only [CA, Nat.reduceEqDiff, ↓reduceIte]; rfl) (by simp only [CA, Nat.reduceEqDiff, ↓reduceIte]; rfl) (by first | exact q1 _ | exact q2 _) rfl ?_)
    | (with_reducible refine k_condP (by simp only [GA, Nat.reduceEqDiff, ↓reduceIte]; rfl) (by first | (simp only [BO]; rfl) | rfl) (fun ht => ?_) (fun ht => ?_) <;> try (first | exact False.elim ht | exact absurd rfl ht | exact absurd trivial ht | exact Bool.noConfusion ht))
    | (with_reducible refine k_ret ?_; repeat with_reducible (first | refine ret_thru ?_ | refine ret_blk ?_ | refine fin ?_))
    | (with_reducible refine k_exit ?_; repeat with_reducible (first | refine thru ?_ | refine out_blk ?_ | refine pass (by decide) ?_))
    | (refine post1 ?_; simp only [GA, Nat.reduceEqDiff, ↓reduceIte])
    | (refine post2 ?_; simp only [GA, Nat.reduceEqDiff, ↓reduceIte])
    | (refine post3 ?_; simp only [GA, Nat.reduceEqDiff, ↓reduceIte])
    | (refine postc (by simp only [GA, Nat.reduceEqDiff, ↓reduceIte]; rfl) (by simp (disch := omega) only [c24r0, c24r1, c24r2, c24r3, c24r4, EV0, EV1, EV2, EV3, EV4, EV5, EV6, EV7, EV8, VALS, plug, ite_same, decide_true, decide_false, eq_self, ↓reduceIte, reduceCtorEq, Nat.reduceAdd, Nat.reduceEqDiff, Nat.reduceLT, Nat.reduceLeDiff, Nat.reduceMul, Nat.reduceSub, Nat.reduceDiv, Int.reduceToNat, Int.reduceAdd, Int.reduceSub, Int.reduceMul, Int.reduceNeg, Int.reduceEq, Int.reduceLT, Int.reduceLE]; rfl) ?_)
    | refine post0 ?_
  exact ends_eq (b_eq (by decide))
end Go.Proofs.Ytbhkbaapfioijaa
set_option linter.unusedVariables false
set_option linter.unusedSimpArgs false
namespace Go.Proofs.Ytbhkbaapfioijaa
open Go Go.Am Go.Proofs Go.Sort
/-! ### TempleValid -/
theorem pc23 (l : List T) (hl : l.length ≤ 9223372036854775807) (n : Int) : PC Try.prog 23 [vT l, .i .i64 n] (.b (decide (n < l.length))) := by
  refine pc_fn fn23 (by simp only [AV.plains, AV.plain, il_plain, bl_plain, Bool.and_true, Bool.true_and, Bool.and_self, flT_plain]) (by simp only [AV.plains, AV.plain, il_plain, bl_plain, Bool.and_true, Bool.true_and, Bool.and_self, flT_plain]) (Nat.le_of_ble_eq_true rfl) ?_
  rw [initSt2]
  repeat' first
    | with_reducible refine k_seq ?_
    | with_reducible refine k_skip ?_
    | with_reducible refine k_blkS ?_
    | with_reducible refine k_blkR ?_
    | with_reducible refine k_blkC ?_
    | with_reducible refine k_blkH ?_
    | with_reducible refine k_blkB ?_
    | with_reducible refine k_blkK ?_
    | with_reducible refine k_blkE ?_
    | with_reducible refine k_reg ?_
    | with_reducible refine r_done ?_
    | with_reducible refine s_go (by simp (disch := omega) only [c23r0, c23r1, EV0, EV1, EV2, EV3, EV4, EV5, EV6, EV7, EV8, VALS, plug, ite_same, decide_true, decide_false, eq_self, ↓reduceIte, reduceCtorEq, Nat.reduceAdd, Nat.reduceEqDiff, Nat.reduceLT, Nat.reduceLeDiff, Nat.reduceMul, Nat.reduceSub, Nat.reduceDiv, Int.reduceToNat, Int.reduceAdd, Int.reduceSub, Int.reduceMul, Int.reduceNeg, Int.reduceEq, Int.reduceLT, Int.reduceLE]; with_reducible rfl) ?_
    | ((with_reducible refine chk_r ?_); refine r_callF (by simp only [CA, Nat.reduceEqDiff, ↓reduceIte]; rfl) (by exact rfl) (by simp only [CA, Nat.reduceEqDiff, ↓reduceIte]; rfl) rfl ?_)
    | (with_reducible refine k_condP (by simp only [GA, Nat.reduceEqDiff, ↓reduceIte]; rfl) (by first | (simp only [BO]; rfl) | rfl) (fun ht => ?_) (fun ht => ?_) <;> try (first | exact False.elim ht | exact absurd rfl ht | exact absurd trivial ht | exact Bool.noConfusion ht))
    | (with_reducible refine k_ret ?_; repeat with_reducible (first | refine ret_thru ?_ | refine ret_blk ?_ | refine fin ?_))
    | (with_reducible refine k_exit ?_; repeat with_reducible (first | refine thru ?_ | refine out_blk ?_ | refine pass (by decide) ?_))
    | (refine post1 ?_; simp only [GA, Nat.reduceEqDiff, ↓reduceIte])
    | (refine post2 ?_; simp only [GA, Nat.reduceEqDiff, ↓reduceIte])
    | (refine post3 ?_; simp only [GA, Nat.reduceEqDiff, ↓reduceIte])
    | (refine postc (by simp only [GA, Nat.reduceEqDiff, ↓reduceIte]; rfl) (by simp (disch := omega) only [c23r0, c23r1, EV0, EV1, EV2, EV3, EV4, EV5, EV6, EV7, EV8, VALS, plug, ite_same, decide_true, decide_false, eq_self, ↓reduceIte, reduceCtorEq, Nat.reduceAdd, Nat.reduceEqDiff, Nat.reduceLT, Nat.reduceLeDiff, Nat.reduceMul, Nat.reduceSub, Nat.reduceDiv, Int.reduceToNat, Int.reduceAdd, Int.reduceSub, Int.reduceMul, Int.reduceNeg, Int.reduceEq, Int.reduceLT, Int.reduceLE]; rfl) ?_)
    | refine post0 ?_
  all_goals first | exact ends_of | exact ends_eq rfl
theorem decT (r : List AV) (h : Shps [.i .i64, .i .i64, .i .i64, .i .i64] r) : ∃ x : T, r = eT x ∧ True := by
  obtain ⟨_, _, rfl, t0, h⟩ := shps_cons h
  obtain ⟨_, _, rfl, t1, h⟩ := shps_cons h
  obtain ⟨_, _, rfl, t2, h⟩ := shps_cons h
  obtain ⟨_, _, rfl, t3, h⟩ := shps_cons h
  obtain rfl := shps_nil h
  obtain ⟨a, rfl, _⟩ := shp_i64 t0
  obtain ⟨b, rfl, _⟩ := shp_i64 t1
  obtain ⟨c, rfl, _⟩ := shp_i64 t2
  obtain ⟨d, rfl, _⟩ := shp_i64 t3
  exact ⟨⟨a, b, c, d⟩, rfl, trivial⟩
end Go.Proofs.Ytbhkbaapfioijaa
set_option linter.unusedVariables false
set_option linter.unusedSimpArgs false
namespace Go.Proofs.Ytbhkbaapfioijaa
open Go Go.Am Go.Proofs Go.Sort
/-! ### The pairs of match are the most: plain -/
/-- pairs between two lists, with no index twice -/
def Mat (l : List T) (tol : Int) (xs ys : List Nat) (M : List (Nat × Nat)) : Prop :=
  (M.map Prod.fst).Nodup ∧ (M.map Prod.snd).Nodup ∧ ∀ p ∈ M, p.1 ∈ xs ∧ p.2 ∈ ys ∧ apart (l.getD p.1 T0) (l.getD p.2 T0) ≤ tol
theorem inj_fst {M : List (Nat × Nat)} (h : (M.map Prod.fst).Nodup) {p q : Nat × Nat} (hp : p ∈ M) (hq : q ∈ M) (e : p.1 = q.1) : p = q := by
  induction M with
  | nil => cases hp
  | cons x M ih =>
    simp only [List.map_cons, List.nodup_cons, List.mem_map, not_exists, not_and] at h
    rcases List.mem_cons.1 hp with e1 | hp'
    · rcases List.mem_cons.1 hq with e2 | hq'
      · rw [e1, e2]
      · rw [e1] at e; exact absurd e.symm (h.1 q hq')
    · rcases List.mem_cons.1 hq with e2 | hq'
      · rw [e2] at e; exact absurd e (h.1 p hp')
      · exact ih h.2 hp' hq'
theorem inj_snd {M : List (Nat × Nat)} (h : (M.map Prod.snd).Nodup) {p q : Nat × Nat} (hp : p ∈ M) (hq : q ∈ M) (e : p.2 = q.2) : p = q := by
  induction M with
  | nil => cases hp
  | cons x M ih =>
    simp only [List.map_cons, List.nodup_cons, List.mem_map, not_exists, not_and] at h
    rcases List.mem_cons.1 hp with e1 | hp'
    · rcases List.mem_cons.1 hq with e2 | hq'
      · rw [e1, e2]
      · rw [e1] at e; exact absurd e.symm (h.1 q hq')
    · rcases List.mem_cons.1 hq with e2 | hq'
      · rw [e2] at e; exact absurd e (h.1 p hp')
      · exact ih h.2 hp' hq'
theorem nodup_fst {M : List (Nat × Nat)} (h : (M.map Prod.fst).Nodup) : M.Nodup := by
  induction M with
  | nil => exact List.nodup_nil
  | cons x M ih =>
    simp only [List.map_cons, List.nodup_cons, List.mem_map, not_exists, not_and] at h
    exact List.nodup_cons.2 ⟨fun hx => h.1 x hx rfl, ih h.2⟩
/-- one pair less -/
theorem Mat.erase {l : List T} {tol : Int} {xs ys : List Nat} {M : List (Nat × Nat)} (h : Mat l tol xs ys M) {p : Nat × Nat} (hp : p ∈ M) :
    Mat l tol xs ys (M.erase p) ∧ (∀ q ∈ M.erase p, q.1 ≠ p.1 ∧ q.2 ≠ p.2) ∧ (M.erase p).length + 1 = M.length := by
  have nd := nodup_fst h.1
  have sub : (M.erase p).Sublist M := List.erase_sublist
  refine ⟨⟨h.1.sublist (sub.map _), h.2.1.sublist (sub.map _), fun q hq => h.2.2 q (sub.subset hq)⟩, fun q hq => ?_, ?_⟩
  · have hne : q ≠ p := fun e => by subst e; exact nd.not_mem_erase hq
    exact ⟨fun e => hne (inj_fst h.1 (sub.subset hq) hp e), fun e => hne (inj_snd h.2.1 (sub.subset hq) hp e)⟩
  · rw [List.length_erase_of_mem hp]
    have := List.length_pos_of_mem hp
    omega
theorem Mat.small {l : List T} {tol : Int} {a b : Nat} {xs ys : List Nat} {M : List (Nat × Nat)} (h : Mat l tol (a :: xs) (b :: ys) M) (ha : ∀ q ∈ M, q.1 ≠ a) (hb : ∀ q ∈ M, q.2 ≠ b) : Mat l tol xs ys M :=
  ⟨h.1, h.2.1, fun p hp => by
    obtain ⟨h1, h2, h3⟩ := h.2.2 p hp
    exact ⟨(List.mem_cons.1 h1).resolve_left (ha p hp), (List.mem_cons.1 h2).resolve_left (hb p hp), h3⟩⟩
abbrev Inc (l : List T) (xs : List Nat) : Prop := xs.Pairwise fun i j => (l.getD i T0).len ≤ (l.getD j T0).len
theorem mt_max (l : List T) (tol : Int) : ∀ (n : Nat) (xs ys : List Nat) (M : List (Nat × Nat)), xs.length + ys.length ≤ n → Inc l xs → Inc l ys → Mat l tol xs ys M → M.length ≤ (mt l tol xs ys).length
  | n, [], ys, M, h, _, _, hM => by
    cases M with
    | nil => simp
    | cons p M => have := (hM.2.2 p (by simp)).1; cases this
  | n, a :: xs, [], M, h, _, _, hM => by
    cases M with
    | nil => simp
    | cons p M => have := (hM.2.2 p (by simp)).2.1; cases this
  | 0, a :: xs, b :: ys, M, h, _, _, _ => by simp at h
  | n + 1, a :: xs, b :: ys, M, h, hx, hy, hM => by
    rw [mt_cons]
    simp only [List.length_cons] at h
    have hx' := List.pairwise_cons.1 hx
    have hy' := List.pairwise_cons.1 hy
    by_cases hc : apart (l.getD a T0) (l.getD b T0) ≤ tol
    · rw [if_pos hc, List.length_cons]
      have ih := fun M' hM' => mt_max l tol n xs ys M' (by omega) hx'.2 hy'.2 hM'
      by_cases e1 : ∃ y, (a, y) ∈ M
      · obtain ⟨y, hy1⟩ := e1
        obtain ⟨m1, m2, m3⟩ := hM.erase hy1
        by_cases e2 : ∃ x, (x, b) ∈ M.erase (a, y)
        · obtain ⟨x, hx1⟩ := e2
          obtain ⟨k1, k2, k3⟩ := m1.erase hx1
          have r1 := m2 _ hx1
          simp only at r1
          have ax := hM.2.2 _ hy1
          have bx := m1.2.2 _ hx1
          simp only at ax bx
          have xin : x ∈ xs := (List.mem_cons.1 bx.1).resolve_left r1.1
          have yin : y ∈ ys := (List.mem_cons.1 ax.2.1).resolve_left (fun e => r1.2 e.symm)
          have lx := hx'.1 x xin
          have ly := hy'.1 y yin
          have : Mat l tol xs ys ((x, y) :: (M.erase (a, y)).erase (x, b)) := by
            have sm := k1.small (fun q hq => (m2 q (List.mem_of_mem_erase hq)).1) (fun q hq => (k2 q hq).2)
            refine ⟨?_, ?_, fun p hp => ?_⟩
            · simp only [List.map_cons, List.nodup_cons, List.mem_map, not_exists, not_and]
              exact ⟨fun q hq => (k2 q hq).1, k1.1⟩
            · simp only [List.map_cons, List.nodup_cons, List.mem_map, not_exists, not_and]
              exact ⟨fun q hq => (m2 q (List.mem_of_mem_erase hq)).2, k1.2.1⟩
            · rcases List.mem_cons.1 hp with rfl | hp
              · refine ⟨xin, yin, ?_⟩
                have q1 := ax.2.2
                have q2 := bx.2.2
                unfold apart at q1 q2 ⊢
                simp only
                omega
              · exact sm.2.2 p hp
          have := ih _ this
          rw [List.length_cons] at this
          omega
        · have := ih _ (m1.small (fun q hq => (m2 q hq).1) (fun q hq e => e2 ⟨q.1, by rw [← e]; exact hq⟩))
          omega
      · by_cases e2 : ∃ x, (x, b) ∈ M
        · obtain ⟨x, hx1⟩ := e2
          obtain ⟨k1, k2, k3⟩ := hM.erase hx1
          have := ih _ (k1.small (fun q hq e => e1 ⟨q.2, by rw [← e]; exact List.mem_of_mem_erase hq⟩) (fun q hq => (k2 q hq).2))
          omega
        · have := ih _ (hM.small (fun q hq e => e1 ⟨q.2, by rw [← e]; exact hq⟩) (fun q hq e => e2 ⟨q.1, by rw [← e]; exact hq⟩))
          omega
    · rw [if_neg hc]
      by_cases hlt : (l.getD a T0).len < (l.getD b T0).len
      · rw [if_pos hlt]
        refine mt_max l tol n xs (b :: ys) M (by simp only [List.length_cons]; omega) hx'.2 hy ⟨hM.1, hM.2.1, fun p hp => ?_⟩
        obtain ⟨h1, h2, h3⟩ := hM.2.2 p hp
        refine ⟨(List.mem_cons.1 h1).resolve_left fun e => ?_, h2, h3⟩
        rw [e] at h3
        have : (l.getD b T0).len ≤ (l.getD p.2 T0).len := by
          rcases List.mem_cons.1 h2 with e | h2
          · rw [e]; exact Int.le_refl _
          · exact hy'.1 _ h2
        unfold apart at h3 hc
        omega
      · rw [if_neg hlt]
        refine mt_max l tol n (a :: xs) ys M (by simp only [List.length_cons]; omega) hx hy'.2 ⟨hM.1, hM.2.1, fun p hp => ?_⟩
        obtain ⟨h1, h2, h3⟩ := hM.2.2 p hp
        refine ⟨h1, (List.mem_cons.1 h2).resolve_left fun e => ?_, h3⟩
        rw [e] at h3
        have : (l.getD a T0).len ≤ (l.getD p.1 T0).len := by
          rcases List.mem_cons.1 h1 with e | h1
          · rw [e]; exact Int.le_refl _
          · exact hx'.1 _ h1
        unfold apart at h3 hc
        omega
/-! all colours -/
def PairsOK (l : List T) (tol : Int) (M : List (Nat × Nat)) : Prop :=
  (M.map Prod.fst).Nodup ∧ (M.map Prod.snd).Nodup ∧ ∀ p ∈ M, p.1 < l.length ∧ p.2 < l.length ∧ (l.getD p.1 T0).side = 1 ∧ (l.getD p.2 T0).side = 2 ∧ (l.getD p.1 T0).col = (l.getD p.2 T0).col ∧ apart (l.getD p.1 T0) (l.getD p.2 T0) ≤ tol
theorem mem_side {l : List T} {s c : Int} {i : Nat} : i ∈ sideL l s c ↔ i < l.length ∧ (l.getD i T0).side = s ∧ (l.getD i T0).col = c := by
  unfold sideL
  rw [List.mem_mergeSort]
  simp [sfil, List.mem_filter, List.mem_range, onside]
theorem side_inc (l : List T) (s c : Int) : Inc l (sideL l s c) := by
  have := List.pairwise_mergeSort (le := fun i k => !ltT l k i) (by
    intro a b c h1 h2
    simp only [ltT, Bool.not_eq_true', decide_eq_false_iff_not] at *
    omega) (by
    intro a b
    simp only [ltT, Bool.or_eq_true, Bool.not_eq_true', decide_eq_false_iff_not]
    omega) (sfil l s c l.length)
  refine this.imp fun h => ?_
  simp only [ltT, Bool.not_eq_true', decide_eq_false_iff_not] at h
  omega
theorem side_nodup (l : List T) (s c : Int) : (sideL l s c).Nodup := by
  unfold sideL
  refine (List.mergeSort_perm _ _).nodup_iff.2 ?_
  exact List.nodup_range.filter _
theorem mc_max (l : List T) (tol : Int) : ∀ (k : Nat) (M : List (Nat × Nat)), PairsOK l tol M → (∀ p ∈ M, 1 ≤ (l.getD p.1 T0).col ∧ (l.getD p.1 T0).col ≤ k) → M.length ≤ (mc l tol k).length
  | 0, M, h, hc => by
    cases M with
    | nil => simp
    | cons p M => have := hc p (by simp); omega
  | k + 1, M, h, hc => by
    rw [mc_succ, List.length_append]
    let here : Nat × Nat → Bool := fun p => decide ((l.getD p.1 T0).col = ((k + 1 : Nat) : Int))
    have split : M.length = (M.filter here).length + (M.filter fun p => !here p).length := by
      rw [List.length_eq_countP_add_countP here, List.countP_eq_length_filter, List.countP_eq_length_filter]
      congr 2
      exact List.filter_congr fun p _ => by simp
    have h1 : (M.filter fun p => !here p).length ≤ (mc l tol k).length := by
      refine mc_max l tol k _ ⟨h.1.sublist (List.filter_sublist.map _), h.2.1.sublist (List.filter_sublist.map _), fun p hp => h.2.2 p (List.mem_filter.1 hp).1⟩ fun p hp => ?_
      obtain ⟨hp, hn⟩ := List.mem_filter.1 hp
      have := hc p hp
      simp only [here, Bool.not_eq_true', decide_eq_false_iff_not] at hn
      omega
    have h2 : (M.filter here).length ≤ (mt l tol (sideL l 1 (k + 1 : Nat)) (sideL l 2 (k + 1 : Nat))).length := by
      refine mt_max l tol _ _ _ _ (Nat.le_refl _) (side_inc _ _ _) (side_inc _ _ _) ⟨h.1.sublist (List.filter_sublist.map _), h.2.1.sublist (List.filter_sublist.map _), fun p hp => ?_⟩
      obtain ⟨hp, hn⟩ := List.mem_filter.1 hp
      simp only [here, decide_eq_true_eq] at hn
      obtain ⟨a1, a2, a3, a4, a5, a6⟩ := h.2.2 p hp
      exact ⟨mem_side.2 ⟨a1, a3, hn⟩, mem_side.2 ⟨a2, a4, by rw [← a5]; exact hn⟩, a6⟩
    omega
/-- no pairing has more pairs than match makes -/
theorem match_max {l : List T} (hv : VL l) {tol : Int} {M : List (Nat × Nat)} (h : PairsOK l tol M) : M.length ≤ (matchL l tol).length :=
  mc_max l tol 9 M h fun p hp => by
    have := hv.2.1 p.1 (h.2.2 p hp).1
    simp only [vt, decide_eq_true_eq] at this
    omega
theorem mt_mat (l : List T) (tol : Int) : ∀ (n : Nat) (xs ys : List Nat), xs.length + ys.length ≤ n → xs.Nodup → ys.Nodup → Mat l tol xs ys (mt l tol xs ys)
  | n, [], ys, h, _, _ => by rw [mt_nil1]; exact ⟨by simp, by simp, fun p hp => by cases hp⟩
  | n, a :: xs, [], h, _, _ => by rw [mt_nil2]; exact ⟨by simp, by simp, fun p hp => by cases hp⟩
  | 0, a :: xs, b :: ys, h, _, _ => by simp at h
  | n + 1, a :: xs, b :: ys, h, hx, hy => by
    rw [mt_cons]
    simp only [List.length_cons] at h
    have hx' := List.nodup_cons.1 hx
    have hy' := List.nodup_cons.1 hy
    split
    · rename_i hc
      obtain ⟨m1, m2, m3⟩ := mt_mat l tol n xs ys (by omega) hx'.2 hy'.2
      refine ⟨?_, ?_, fun p hp => ?_⟩
      · simp only [List.map_cons, List.nodup_cons, List.mem_map, not_exists, not_and]
        exact ⟨fun q hq e => hx'.1 (e ▸ (m3 q hq).1), m1⟩
      · simp only [List.map_cons, List.nodup_cons, List.mem_map, not_exists, not_and]
        exact ⟨fun q hq e => hy'.1 (e ▸ (m3 q hq).2.1), m2⟩
      · rcases List.mem_cons.1 hp with rfl | hp
        · exact ⟨by simp, by simp, hc⟩
        · obtain ⟨q1, q2, q3⟩ := m3 p hp
          exact ⟨List.mem_cons_of_mem _ q1, List.mem_cons_of_mem _ q2, q3⟩
    · split
      · obtain ⟨m1, m2, m3⟩ := mt_mat l tol n xs (b :: ys) (by simp only [List.length_cons]; omega) hx'.2 hy
        exact ⟨m1, m2, fun p hp => ⟨List.mem_cons_of_mem _ (m3 p hp).1, (m3 p hp).2⟩⟩
      · obtain ⟨m1, m2, m3⟩ := mt_mat l tol n (a :: xs) ys (by simp only [List.length_cons]; omega) hx hy'.2
        exact ⟨m1, m2, fun p hp => ⟨(m3 p hp).1, List.mem_cons_of_mem _ (m3 p hp).2.1, (m3 p hp).2.2⟩⟩
theorem mc_ok (l : List T) (tol : Int) : ∀ k, PairsOK l tol (mc l tol k) ∧ ∀ p ∈ mc l tol k, (l.getD p.1 T0).col ≤ k
  | 0 => ⟨⟨by simp [mc], by simp [mc], fun p hp => by simp [mc] at hp⟩, fun p hp => by simp [mc] at hp⟩
  | k + 1 => by
    obtain ⟨⟨h1, h2, h3⟩, h4⟩ := mc_ok l tol k
    obtain ⟨m1, m2, m3⟩ := mt_mat l tol _ _ _ (Nat.le_refl _) (side_nodup l 1 (k + 1 : Nat)) (side_nodup l 2 (k + 1 : Nat))
    have m4 : ∀ p ∈ mt l tol (sideL l 1 (k + 1 : Nat)) (sideL l 2 (k + 1 : Nat)), (l.getD p.1 T0).col = ((k + 1 : Nat) : Int) ∧ (l.getD p.2 T0).col = ((k + 1 : Nat) : Int) := fun p hp => ⟨(mem_side.1 (m3 p hp).1).2.2, (mem_side.1 (m3 p hp).2.1).2.2⟩
    rw [mc_succ]
    refine ⟨⟨?_, ?_, fun p hp => ?_⟩, fun p hp => ?_⟩
    · rw [List.map_append, List.nodup_append]
      refine ⟨h1, m1, fun a ha b hb e => ?_⟩
      obtain ⟨p, hp, rfl⟩ := List.mem_map.1 ha
      obtain ⟨q, hq, rfl⟩ := List.mem_map.1 hb
      have := h4 p hp
      have := (m4 q hq).1
      rw [← e] at this
      omega
    · rw [List.map_append, List.nodup_append]
      refine ⟨h2, m2, fun a ha b hb e => ?_⟩
      obtain ⟨p, hp, rfl⟩ := List.mem_map.1 ha
      obtain ⟨q, hq, rfl⟩ := List.mem_map.1 hb
      have h5 := h4 p hp
      rw [(h3 p hp).2.2.2.2.1] at h5
      have := (m4 q hq).2
      rw [← e] at this
      omega
    · rcases List.mem_append.1 hp with hp | hp
      · exact h3 p hp
      · have a := mem_side.1 (m3 p hp).1
        have b := mem_side.1 (m3 p hp).2.1
        exact ⟨a.1, b.1, a.2.1, b.2.1, by rw [a.2.2, b.2.2], (m3 p hp).2.2⟩
    · rcases List.mem_append.1 hp with hp | hp
      · have := h4 p hp; omega
      · have := (m4 p hp).1; omega
theorem match_ok (l : List T) (tol : Int) : PairsOK l tol (matchL l tol) := (mc_ok l tol 9).1
end Go.Proofs.Ytbhkbaapfioijaa
set_option linter.unusedVariables false
set_option linter.unusedSimpArgs false
namespace Go.Proofs.Ytbhkbaapfioijaa
open Go Go.Am Go.Proofs Go.Sort
/-! ### TempleMore: plain -/
theorem nodup_map {f : Nat → Nat} {A : List Nat} (h : A.Nodup) (hi : ∀ x ∈ A, ∀ y ∈ A, f x = f y → x = y) : (A.map f).Nodup := by
  induction A with
  | nil => simp
  | cons a A ih =>
    have h' := List.nodup_cons.1 h
    simp only [List.map_cons, List.nodup_cons, List.mem_map, not_exists, not_and]
    exact ⟨fun x hx e => h'.1 (hi x (by simp [hx]) a (by simp) e ▸ hx), ih h'.2 fun x hx y hy => hi x (by simp [hx]) y (by simp [hy])⟩
end Go.Proofs.Ytbhkbaapfioijaa
set_option linter.unusedVariables false
set_option linter.unusedSimpArgs false
namespace Go.Proofs.Ytbhkbaapfioijaa
open Go Go.Am Go.Proofs Go.Sort
theorem mostR {l : List T} {tol : Int} (hv : VL l) (ht : 0 ≤ tol ∧ tol ≤ 1000) : PC Try.prog 16 [vT l, .i .i64 tol] (.tu [.i .i64 ((matchL l tol).length : Int), .i .i64 0]) := by
  have := pc16 l (by have := hv.len; omega) tol
  unfold matR at this
  rw [asked_yes hv ht] at this
  rwa [if_pos rfl] at this
end Go.Proofs.Ytbhkbaapfioijaa
set_option linter.unusedVariables false
set_option linter.unusedSimpArgs false
namespace Go.Proofs.Ytbhkbaapfioijaa
open Go Go.Am Go.Proofs Go.Sort
def rng (n : Nat) (p : Int × Int) : Prop := 0 ≤ p.1 ∧ p.1 < n ∧ 0 ≤ p.2 ∧ p.2 < n
end Go.Proofs.Ytbhkbaapfioijaa
set_option linter.unusedVariables false
set_option linter.unusedSimpArgs false
namespace Go.Proofs.Ytbhkbaapfioijaa
open Go Go.Am Go.Proofs Go.Sort
/-! ### The document's pairs: plain -/
/-- xs: the temples of a side and a colour that are not gone, the least first -/
structure Has (l : List T) (gs : List Bool) (s c : Int) (xs : List Nat) : Prop where
  iff : ∀ i, i ∈ xs ↔ i < l.length ∧ gs.getD i false = false ∧ onside l s c i = true
  nd : xs.Nodup
  srt : xs.Pairwise fun i k => ltT l k i = false
theorem side_srt (l : List T) (s c : Int) : (sideL l s c).Pairwise fun i k => ltT l k i = false := by
  have := List.pairwise_mergeSort (le := fun i k => !ltT l k i) (by
    intro a b c h1 h2
    simp only [ltT, Bool.not_eq_true', decide_eq_false_iff_not] at *
    omega) (by
    intro a b
    simp only [ltT, Bool.or_eq_true, Bool.not_eq_true', decide_eq_false_iff_not]
    omega) (sfil l s c l.length)
  exact this.imp fun h => by simpa using h
theorem onside_iff {l : List T} {s c : Int} {i : Nat} : onside l s c i = true ↔ (l.getD i T0).side = s ∧ (l.getD i T0).col = c := by simp [onside]
theorem Has.init {l : List T} {gs : List Bool} {s c : Int} (h : ∀ i, i < l.length → (l.getD i T0).col = c → gs.getD i false = false) : Has l gs s c (sideL l s c) where
  iff i := by
    rw [mem_side, onside_iff]
    constructor
    · rintro ⟨h1, h2, h3⟩; exact ⟨h1, h i h1 h3, h2, h3⟩
    · rintro ⟨h1, _, h2, h3⟩; exact ⟨h1, h2, h3⟩
  nd := side_nodup l s c
  srt := side_srt l s c
end Go.Proofs.Ytbhkbaapfioijaa
set_option linter.unusedVariables false
set_option linter.unusedSimpArgs false
namespace Go.Proofs.Ytbhkbaapfioijaa
open Go Go.Am Go.Proofs Go.Sort
/-! ### The document's most: plain -/
/-- i can be paired with k -/
def ed (l : List T) (tol : Int) (i k : Nat) : Bool := can (l.getD i T0) (l.getD k T0) tol
/-- partners of some temples: of the right ones, left ones; no one twice -/
structure MQ (l : List T) (tol : Int) (Q : Nat → Int) : Prop where
  rng : ∀ k, Q k = -1 ∨ ∃ j : Nat, Q k = j ∧ j < l.length ∧ k < l.length ∧ (l.getD j T0).side = 1 ∧ ed l tol j k = true
  inj : ∀ k k', 0 ≤ Q k → Q k = Q k' → k = k'
/-- how many have a partner -/
def cnt (Q : Nat → Int) (n : Nat) : Nat := ((List.range n).filter fun k => decide (0 ≤ Q k)).length
theorem cnt_succ (Q : Nat → Int) (n : Nat) : cnt Q (n + 1) = cnt Q n + if 0 ≤ Q n then 1 else 0 := by
  unfold cnt
  rw [List.range_succ, List.filter_append, List.length_append]
  by_cases h : 0 ≤ Q n <;> simp [h]
theorem cnt_congr {Q R : Nat → Int} : ∀ {n : Nat}, (∀ k, k < n → (0 ≤ Q k ↔ 0 ≤ R k)) → cnt Q n = cnt R n
  | 0, _ => rfl
  | n + 1, h => by
    rw [cnt_succ, cnt_succ, cnt_congr fun k hk => h k (by omega)]
    by_cases q : 0 ≤ Q n
    · rw [if_pos q, if_pos ((h n (by omega)).1 q)]
    · rw [if_neg q, if_neg fun r => q ((h n (by omega)).2 r)]
def upd (Q : Nat → Int) (k : Nat) (x : Int) : Nat → Int := fun m => if m = k then x else Q m
theorem cnt_set {Q : Nat → Int} {k : Nat} {x : Int} (hQ : ¬ 0 ≤ Q k) (hx : 0 ≤ x) : ∀ {n : Nat}, k < n → cnt (upd Q k x) n = cnt Q n + 1
  | 0, h => by omega
  | n + 1, h => by
    rw [cnt_succ, cnt_succ]
    by_cases e : k = n
    · subst e
      have : cnt (upd Q k x) k = cnt Q k := cnt_congr fun m hm => by unfold upd; rw [if_neg (by omega)]
      rw [this, if_neg hQ]
      unfold upd
      rw [if_pos rfl, if_pos hx]
    · rw [cnt_set hQ hx (n := n) (by omega)]
      have : upd Q k x n = Q n := by unfold upd; rw [if_neg (by omega)]
      rw [this]
      omega
theorem cnt_unset {Q : Nat → Int} {k n : Nat} (hQ : 0 ≤ Q k) (hk : k < n) : cnt (upd Q k (-1)) n + 1 = cnt Q n := by
  have := cnt_set (Q := upd Q k (-1)) (k := k) (x := Q k) (by unfold upd; rw [if_pos rfl]; omega) hQ hk
  rw [← this]
  refine cnt_congr fun m _ => ?_
  unfold upd
  by_cases e : m = k
  · subst e; simp
  · simp [e]
/-- partners and what was seen, az functions -/
def pf (P : List Int) (k : Nat) : Int := P.getD k (-1)
def sf (S : List Bool) (k : Nat) : Bool := S.getD k false
theorem sf_set {S : List Bool} {k m : Nat} (hk : k < S.length) : sf (S.set k true) m = (decide (m = k) || sf S m) := by
  unfold sf
  by_cases e : m = k
  · subst e; simp [List.getD_eq_getElem?_getD, hk]
  · have : ¬ k = m := fun q => e q.symm
    simp [List.getD_eq_getElem?_getD, List.getElem?_set, this, e]
theorem pf_set {P : List Int} {k m : Nat} {x : Int} (hk : k < P.length) : pf (P.set k x) m = if m = k then x else pf P m := by
  unfold pf
  by_cases e : m = k
  · subst e; simp [List.getD_eq_getElem?_getD, hk]
  · have : ¬ k = m := fun q => e q.symm
    simp [List.getD_eq_getElem?_getD, List.getElem?_set, this, e]
/-- what was seen stays what it was thought to be -/
def mix (S : List Bool) (Q : Nat → Int) (P : List Int) : Nat → Int := fun k => if sf S k = true then Q k else pf P k
/-- what a search gives -/
def Fnd (l : List T) (tol : Int) (Q : Nat → Int) (P : List Int) (S : List Bool) (i : Nat) (b : Bool) (P' : List Int) (S' : List Bool) : Prop :=
  P'.length = l.length ∧ S'.length = l.length ∧ (∀ k, sf S k = true → sf S' k = true ∧ pf P' k = pf P k) ∧
  (b = true → MQ l tol (mix S Q P') ∧ cnt (mix S Q P') l.length = cnt Q l.length + 1 ∧ ∀ k, 0 ≤ mix S Q P' k → mix S Q P' k = i ∨ ∃ k', mix S Q P' k = Q k') ∧
  (b = false → P' = P ∧ (∀ k, k < l.length → ed l tol i k = true → sf S' k = true) ∧
    ∀ k, sf S' k = true → sf S k = false → ∃ j : Nat, pf P k = j ∧ j < l.length ∧ k < l.length ∧ ed l tol j k = true ∧ ∀ m, m < l.length → ed l tol j m = true → sf S' m = true)
/-- what must hold ahead of a search -/
structure Pre (l : List T) (tol : Int) (Q : Nat → Int) (P : List Int) (S : List Bool) (i : Nat) : Prop where
  pl : P.length = l.length
  sl : S.length = l.length
  il : i < l.length
  is : (l.getD i T0).side = 1
  mq : MQ l tol Q
  eq : ∀ k, sf S k = false → Q k = pf P k
  fr : ∀ k, Q k ≠ i
/-- in a loop: so far nothing was found -/
structure Sofar (l : List T) (tol : Int) (P : List Int) (S S1 : List Bool) (i k : Nat) : Prop where
  sl : S1.length = l.length
  le : ∀ m, sf S m = true → sf S1 m = true
  me : ∀ m, m < k → ed l tol i m = true → sf S1 m = true
  cl : ∀ m, sf S1 m = true → sf S m = false → ∃ j : Nat, pf P m = j ∧ j < l.length ∧ m < l.length ∧ ed l tol j m = true ∧ ∀ m', m' < l.length → ed l tol j m' = true → sf S1 m' = true
variable {l : List T} {tol : Int} {Q : Nat → Int} {P P2 : List Int} {S S1 S2 : List Bool} {i k : Nat}
theorem Sofar.init (h : Pre l tol Q P S i) : Sofar l tol P S S i 0 := ⟨h.sl, fun _ h => h, fun m hm => by omega, fun m h1 h2 => by rw [h1] at h2; cases h2⟩
theorem Sofar.skip (h : Sofar l tol P S S1 i k) (hk : sf S1 k = true ∨ ¬ ed l tol i k = true) : Sofar l tol P S S1 i (k + 1) := ⟨h.sl, h.le, fun m hm he => by
  by_cases e : m = k
  · subst e; rcases hk with hk | hk; exact hk; exact absurd he hk
  · exact h.me m (by omega) he, h.cl⟩
theorem sf_mono_f (h : Sofar l tol P S S1 i k) {m : Nat} (hm : sf S1 m = false) : sf S m = false := by
  cases q : sf S m with
  | false => rfl
  | true => rw [h.le m q] at hm; cases hm
/-- the partner's search -/
theorem Pre.next (h : Pre l tol Q P S i) (g : Sofar l tol P S S1 i k) (hk : k < l.length) (hs : sf S1 k = false) {j : Nat} (hj : pf P k = j) : Pre l tol (upd Q k (-1)) P (S1.set k true) j := by
  have q1 := h.eq k (sf_mono_f g hs)
  obtain ⟨j', e1, e2, e3, e4, e5⟩ : ∃ j : Nat, Q k = j ∧ j < l.length ∧ k < l.length ∧ (l.getD j T0).side = 1 ∧ ed l tol j k = true := by
    rcases h.mq.rng k with e | e
    · rw [q1, hj] at e; omega
    · exact e
  have : j' = j := by rw [q1, hj] at e1; omega
  subst this
  refine ⟨h.pl, by rw [List.length_set]; exact g.sl, e2, e4, ⟨fun m => ?_, fun m m' => ?_⟩, fun m hm => ?_, fun m => ?_⟩
  · unfold upd
    split
    · exact .inl rfl
    · exact h.mq.rng m
  · unfold upd
    intro a b
    split at a
    · omega
    · rename_i n1
      rw [if_neg n1] at b
      split at b
      · omega
      · exact h.mq.inj m m' a b
  · rw [sf_set (by rw [g.sl]; exact hk)] at hm
    simp only [Bool.or_eq_false_iff, decide_eq_false_iff_not] at hm
    unfold upd
    rw [if_neg hm.1]
    exact h.eq m (sf_mono_f g hm.2)
  · unfold upd
    split
    · omega
    · rename_i n1
      intro e
      exact n1 (h.mq.inj m k (by omega) (by omega))
/-- it is found: the partner finds another one -/
theorem Fnd.yes (h : Pre l tol Q P S i) (g : Sofar l tol P S S1 i k) (hk : k < l.length) (hs : sf S1 k = false) (he : ed l tol i k = true) {j : Nat} (hj : pf P k = j)
    (f : Fnd l tol (upd Q k (-1)) P (S1.set k true) j true P2 S2) : Fnd l tol Q P S i true (P2.set k i) S2 := by
  obtain ⟨f1, f2, f3, f40, -⟩ := f
  obtain ⟨f4, f5, f6⟩ := f40 rfl
  clear f40
  have sk := sf_mono_f g hs
  have q1 := h.eq k sk
  have sset : ∀ m, sf (S1.set k true) m = (decide (m = k) || sf S1 m) := fun m => sf_set (by rw [g.sl]; exact hk)
  have pset : ∀ m, pf (P2.set k i) m = if m = k then (i : Int) else pf P2 m := fun m => pf_set (by rw [f1]; exact hk)
  -- the two views
  have view : mix S Q (P2.set k i) = upd (mix (S1.set k true) (upd Q k (-1)) P2) k i := by
    funext m
    unfold mix upd
    rw [pset]
    simp only [sset]
    by_cases e : m = k
    · subst e; simp [sk]
    · simp only [e, decide_false, Bool.false_or, if_false]
      cases a : sf S1 m with
      | false => rw [sf_mono_f g a]
      | true =>
        simp only [if_true]
        cases b : sf S m with
        | true => simp
        | false =>
          simp only [Bool.false_eq_true, if_false]
          rw [h.eq m b]
          exact (f3 m (by rw [sset, a]; simp)).2
  have old : mix (S1.set k true) (upd Q k (-1)) P2 k = -1 := by
    unfold mix upd
    rw [sset]
    simp
  generalize mix (S1.set k true) (upd Q k (-1)) P2 = R at *
  refine ⟨by rw [List.length_set]; exact f1, f2, fun m hm => ⟨(f3 m (by rw [sset, g.le m hm]; simp)).1, ?_⟩, fun _ => ?_, fun q => by cases q⟩
  · rw [pset, if_neg (fun e => by subst e; rw [sk] at hm; cases hm)]
    exact (f3 m (by rw [sset, g.le m hm]; simp)).2
  · rw [view]
    have rQ : ∀ m, 0 ≤ R m → ∃ k', R m = Q k' := fun m hm => by
      rcases f6 m hm with e | ⟨k', e⟩
      · exact ⟨k, by rw [e, q1, hj]⟩
      · unfold upd at e
        split at e
        · omega
        · exact ⟨k', e⟩
    refine ⟨⟨fun m => ?_, fun m m' => ?_⟩, ?_, fun m => ?_⟩
    · unfold upd
      split
      · rename_i e; subst e
        exact .inr ⟨i, rfl, h.il, hk, h.is, he⟩
      · exact f4.rng m
    · unfold upd
      intro a b
      split at a
      · rename_i e; subst e
        rw [if_pos rfl] at b
        split at b
        · rename_i e; exact e.symm
        · obtain ⟨k', e⟩ := rQ m' (by omega)
          exact absurd (b.trans e).symm (h.fr k')
      · rename_i n1
        rw [if_neg n1] at b
        split at b
        · obtain ⟨k', e⟩ := rQ m (by omega)
          exact absurd (e.symm.trans b) (h.fr k')
        · exact f4.inj m m' a b
    · rw [cnt_set (by omega) (by omega) hk, f5]
      have := cnt_unset (Q := Q) (k := k) (n := l.length) (by omega) hk
      omega
    · unfold upd
      split
      · exact fun _ => .inl rfl
      · exact fun a => .inr (rQ m a)
/-- it is found: one with no partner -/
theorem Fnd.free (h : Pre l tol Q P S i) (g : Sofar l tol P S S1 i k) (hk : k < l.length) (hs : sf S1 k = false) (he : ed l tol i k = true) (hj : pf P k < 0) : Fnd l tol Q P S i true (P.set k i) (S1.set k true) := by
  have sk := sf_mono_f g hs
  have q1 := h.eq k sk
  have sset : ∀ m, sf (S1.set k true) m = (decide (m = k) || sf S1 m) := fun m => sf_set (by rw [g.sl]; exact hk)
  have pset : ∀ m, pf (P.set k i) m = if m = k then (i : Int) else pf P m := fun m => pf_set (by rw [h.pl]; exact hk)
  have view : mix S Q (P.set k i) = upd Q k i := by
    funext m
    unfold mix upd
    rw [pset]
    by_cases e : m = k
    · subst e; simp [sk]
    · simp only [e, if_false]
      cases b : sf S m with
      | true => simp
      | false => simp [h.eq m b]
  refine ⟨by rw [List.length_set]; exact h.pl, by rw [List.length_set]; exact g.sl, fun m hm => ⟨by rw [sset, g.le m hm]; simp, ?_⟩, fun _ => ?_, fun q => by cases q⟩
  · rw [pset, if_neg (fun e => by subst e; rw [sk] at hm; cases hm)]
  · rw [view]
    refine ⟨⟨fun m => ?_, fun m m' => ?_⟩, cnt_set (by omega) (by omega) hk, fun m => ?_⟩
    · unfold upd
      split
      · rename_i e; subst e
        exact .inr ⟨i, rfl, h.il, hk, h.is, he⟩
      · exact h.mq.rng m
    · unfold upd
      intro a b
      split at a
      · rename_i e; subst e
        rw [if_pos rfl] at b
        split at b
        · rename_i e; exact e.symm
        · exact absurd b.symm (h.fr m')
      · rename_i n1
        rw [if_neg n1] at b
        split at b
        · exact absurd b (h.fr m)
        · exact h.mq.inj m m' a b
    · unfold upd
      split
      · exact fun _ => .inl rfl
      · exact fun _ => .inr ⟨m, rfl⟩
/-- the partner finds no other one -/
theorem Sofar.no (h : Pre l tol Q P S i) (g : Sofar l tol P S S1 i k) (hk : k < l.length) (hs : sf S1 k = false) {j : Nat} (hj : pf P k = j)
    (f : Fnd l tol (upd Q k (-1)) P (S1.set k true) j false P2 S2) : P2 = P ∧ Sofar l tol P S S2 i (k + 1) := by
  obtain ⟨f1, f2, f3, -, f4⟩ := f
  obtain ⟨f4, f5, f6⟩ := f4 rfl
  have sset : ∀ m, sf (S1.set k true) m = (decide (m = k) || sf S1 m) := fun m => sf_set (by rw [g.sl]; exact hk)
  have up : ∀ m, sf S1 m = true → sf S2 m = true := fun m hm => (f3 m (by rw [sset, hm]; simp)).1
  have upk : sf S2 k = true := (f3 k (by rw [sset]; simp)).1
  have nx := h.next g hk hs hj
  have q1 := h.eq k (sf_mono_f g hs)
  refine ⟨f4, f2, fun m hm => up m (g.le m hm), fun m hm he => ?_, fun m h1 h2 => ?_⟩
  · by_cases e : m = k
    · subst e; exact upk
    · exact up m (g.me m (by omega) he)
  · by_cases e : m = k
    · subst e
      obtain ⟨j', e1, e2, e3, e4, e5⟩ : ∃ j : Nat, Q m = j ∧ j < l.length ∧ m < l.length ∧ (l.getD j T0).side = 1 ∧ ed l tol j m = true := by
        rcases h.mq.rng m with e | e
        · rw [q1, hj] at e; omega
        · exact e
      have : j' = j := by rw [q1, hj] at e1; omega
      subst this
      exact ⟨j', hj, e2, e3, e5, f5⟩
    · cases a : sf S1 m with
      | true =>
        obtain ⟨j', c1, c2, c3, c4, c5⟩ := g.cl m a h2
        exact ⟨j', c1, c2, c3, c4, fun m' h3 h4 => up m' (c5 m' h3 h4)⟩
      | false => exact f6 m h1 (by rw [sset, a]; simp [e])
/-- nothing is found at the end -/
theorem Fnd.no (h : Pre l tol Q P S i) (g : Sofar l tol P S S1 i l.length) : Fnd l tol Q P S i false P S1 :=
  ⟨h.pl, g.sl, fun m hm => ⟨g.le m hm, rfl⟩, fun q => by (cases q), fun _ => ⟨rfl, g.me, g.cl⟩⟩
/-- so many are not seen -/
def uns (S : List Bool) : Nat := S.countP fun b => !b
theorem uns_set {S : List Bool} {k : Nat} (hk : k < S.length) (hs : sf S k = false) : uns (S.set k true) + 1 = uns S := by
  induction S generalizing k with
  | nil => simp at hk
  | cons b S ih =>
    cases k with
    | zero =>
      unfold sf at hs
      simp at hs
      subst hs
      simp [uns]
    | succ k =>
      have := ih (k := k) (by simpa using hk) (by simpa [sf] using hs)
      unfold uns at *
      rw [List.set_cons_succ, List.countP_cons, List.countP_cons]
      omega
theorem uns_le {S S' : List Bool} (hl : S.length = S'.length) (h : ∀ m, sf S m = true → sf S' m = true) : uns S' ≤ uns S := by
  induction S generalizing S' with
  | nil => cases S' with
    | nil => exact Nat.le_refl _
    | cons _ _ => simp at hl
  | cons b S ih =>
    cases S' with
    | nil => simp at hl
    | cons b' S' =>
      have h1 := ih (S' := S') (by simpa using hl) fun m hm => by have := h (m + 1) (by simpa [sf] using hm); simpa [sf] using this
      have h2 := h 0
      simp only [sf, List.getD_cons_zero] at h2
      unfold uns at *
      rw [List.countP_cons, List.countP_cons]
      cases b <;> cases b' <;> simp_all <;> omega
end Go.Proofs.Ytbhkbaapfioijaa
set_option linter.unusedVariables false
set_option linter.unusedSimpArgs false
namespace Go.Proofs.Ytbhkbaapfioijaa
open Go Go.Am Go.Proofs Go.Sort
/-! ### The document's most is the most: plain -/
theorem nodup_len : ∀ {A B : List Nat}, A.Nodup → (∀ x ∈ A, x ∈ B) → A.length ≤ B.length
  | [], B, _, _ => Nat.zero_le _
  | a :: A, B, h, s => by
    have h' := List.nodup_cons.1 h
    have ha := s a (by simp)
    have := nodup_len (A := A) (B := B.erase a) h'.2 fun x hx => (List.mem_erase_of_ne (by rintro rfl; exact h'.1 hx)).2 (s x (by simp [hx]))
    rw [List.length_erase_of_mem ha] at this
    have := List.length_pos_of_mem ha
    simp only [List.length_cons]
    omega
theorem ed_iff {l : List T} {tol : Int} {j k : Nat} : ed l tol j k = true ↔ (l.getD j T0).side ≠ (l.getD k T0).side ∧ (l.getD j T0).col = (l.getD k T0).col ∧ apart (l.getD j T0) (l.getD k T0) ≤ tol := by
  simp [ed, can, mates, and_assoc]
theorem side2 {l : List T} (hv : VL l) {j k : Nat} (hk : k < l.length) (hj : (l.getD j T0).side = 1) (hn : (l.getD j T0).side ≠ (l.getD k T0).side) : (l.getD k T0).side = 2 := by
  have := vt_len (hv.t hk); omega
/-- pairs of the first i temples are at most n -/
def Top (l : List T) (tol : Int) (i n : Nat) : Prop := ∀ M, PairsOK l tol M → (∀ p ∈ M, p.1 < i) → M.length ≤ n
theorem Top.zero (l : List T) (tol : Int) : Top l tol 0 0 := fun M _ h => by
  cases M with
  | nil => simp
  | cons p M => have := h p (by simp); omega
theorem Top.skip {l : List T} {tol : Int} {i n : Nat} (h : Top l tol i n) (hs : (l.getD i T0).side ≠ 1) : Top l tol (i + 1) n := fun M hM hi => h M hM fun p hp => by
  have := hi p hp
  have q := (hM.2.2 p hp).2.2.1
  have : p.1 ≠ i := fun e => hs (e ▸ q)
  omega
theorem Top.yes {l : List T} {tol : Int} {i n : Nat} (h : Top l tol i n) : Top l tol (i + 1) (n + 1) := fun M ⟨a, b, c⟩ hi => by
  by_cases e : ∃ p ∈ M, p.1 = i
  · obtain ⟨p, hp, he⟩ := e
    have nd := nodup_fst a
    have sub : (M.erase p).Sublist M := List.erase_sublist
    have := h (M.erase p) ⟨a.sublist (sub.map _), b.sublist (sub.map _), fun q hq => c q (sub.subset hq)⟩ fun q hq => by
      have hne : q ≠ p := fun e => by subst e; exact nd.not_mem_erase hq
      have : q.1 ≠ i := fun e => hne (inj_fst a (sub.subset hq) hp (e.trans he.symm))
      have := hi q (sub.subset hq)
      omega
    rw [List.length_erase_of_mem hp] at this
    omega
  · have := h M ⟨a, b, c⟩ fun p hp => by
      have : p.1 ≠ i := fun q => e ⟨p, hp, q⟩
      have := hi p hp
      omega
    omega
theorem Top.no {l : List T} {tol : Int} {i n : Nat} (hv : VL l) (h : Top l tol i n) {P : List Int} {S : List Bool} (mq : MQ l tol (pf P)) (hi : ∀ k, pf P k < i) (me : ∀ k, k < l.length → ed l tol i k = true → sf S k = true)
    (cl : ∀ m, sf S m = true → ∃ j : Nat, pf P m = j ∧ j < l.length ∧ m < l.length ∧ ed l tol j m = true ∧ ∀ m', m' < l.length → ed l tol j m' = true → sf S m' = true) : Top l tol (i + 1) n := fun M hM hlt => by
  let A := M.filter fun p => sf S p.2
  let B := M.filter fun p => !sf S p.2
  let R := (List.range l.length).filter fun k => sf S k
  let C := R.map fun k => ((pf P k).toNat, k)
  have split : M.length = A.length + B.length := by
    show M.length = (M.filter fun p => sf S p.2).length + (M.filter fun p => !sf S p.2).length
    rw [List.length_eq_countP_add_countP (fun p : Nat × Nat => sf S p.2), List.countP_eq_length_filter, List.countP_eq_length_filter]
    congr 2
    exact List.filter_congr fun p _ => by simp
  have hR : ∀ k, k ∈ R ↔ k < l.length ∧ sf S k = true := fun k => by simp [R, List.mem_filter, List.mem_range]
  have nR : R.Nodup := List.nodup_range.filter _
  have hA : A.length ≤ C.length := by
    have : (A.map Prod.snd).length ≤ R.length := nodup_len (hM.2.1.sublist (List.filter_sublist.map _)) fun x hx => by
      obtain ⟨p, hp, rfl⟩ := List.mem_map.1 hx
      obtain ⟨p1, p2⟩ := List.mem_filter.1 hp
      exact (hR p.2).2 ⟨(hM.2.2 p p1).2.1, p2⟩
    simpa [C] using this
  have hB : ∀ p ∈ B, p ∈ M ∧ sf S p.2 = false := fun p hp => by
    obtain ⟨p1, p2⟩ := List.mem_filter.1 hp
    exact ⟨p1, by simpa using p2⟩
  have eM : ∀ p ∈ M, ed l tol p.1 p.2 = true := fun p hp => by
    obtain ⟨_, _, c3, c4, c5, c6⟩ := hM.2.2 p hp
    rw [ed_iff]
    exact ⟨by rw [c3, c4]; decide, c5, c6⟩
  have hC : ∀ k, k ∈ R → ∃ j : Nat, pf P k = j ∧ j < l.length ∧ k < l.length ∧ ed l tol j k = true ∧ (l.getD j T0).side = 1 ∧ ∀ m', m' < l.length → ed l tol j m' = true → sf S m' = true := fun k hk => by
    obtain ⟨j, c1, c2, c3, c4, c5⟩ := cl k ((hR k).1 hk).2
    refine ⟨j, c1, c2, c3, c4, ?_, c5⟩
    rcases mq.rng k with e | ⟨j', e1, _, _, e4, _⟩
    · omega
    · have : j' = j := by omega
      subst this; exact e4
  have := h (B ++ C) ⟨?_, ?_, ?_⟩ ?_
  · rw [List.length_append] at this; omega
  · rw [List.map_append, List.nodup_append]
    refine ⟨hM.1.sublist (List.filter_sublist.map _), ?_, fun a ha b hb e => ?_⟩
    · show ((R.map fun k => ((pf P k).toNat, k)).map Prod.fst).Nodup
      rw [List.map_map]
      refine nodup_map nR fun x hx y hy e => ?_
      obtain ⟨j, c1, _⟩ := hC x hx
      obtain ⟨j', c1', _⟩ := hC y hy
      simp only [Function.comp_apply] at e
      exact mq.inj x y (by omega) (by omega)
    · subst e
      obtain ⟨p, hp, rfl⟩ := List.mem_map.1 ha
      obtain ⟨q, hq, e⟩ := List.mem_map.1 hb
      obtain ⟨k, hk, rfl⟩ := List.mem_map.1 hq
      obtain ⟨j, c1, _, _, _, _, c5⟩ := hC k hk
      simp only [c1, Int.toNat_natCast] at e
      have hp' := hB p hp
      have := c5 p.2 (hM.2.2 p hp'.1).2.1 (by rw [e]; exact eM p hp'.1)
      rw [hp'.2] at this
      cases this
  · rw [List.map_append, List.nodup_append]
    refine ⟨hM.2.1.sublist (List.filter_sublist.map _), ?_, fun a ha b hb e => ?_⟩
    · show ((R.map fun k => ((pf P k).toNat, k)).map Prod.snd).Nodup
      rw [List.map_map]
      have : (Prod.snd ∘ fun k : Nat => ((pf P k).toNat, k)) = id := rfl
      rw [this, List.map_id]
      exact nR
    · subst e
      obtain ⟨p, hp, rfl⟩ := List.mem_map.1 ha
      obtain ⟨q, hq, e⟩ := List.mem_map.1 hb
      obtain ⟨k, hk, rfl⟩ := List.mem_map.1 hq
      simp only at e
      have := ((hR k).1 hk).2
      rw [e, (hB p hp).2] at this
      cases this
  · intro p hp
    rcases List.mem_append.1 hp with hp | hp
    · exact hM.2.2 p (hB p hp).1
    · obtain ⟨k, hk, rfl⟩ := List.mem_map.1 hp
      obtain ⟨j, c1, c2, c3, c4, c6, c5⟩ := hC k hk
      simp only [c1, Int.toNat_natCast]
      have e := ed_iff.1 c4
      exact ⟨c2, c3, c6, side2 hv c3 c6 e.1, e.2.1, e.2.2⟩
  · intro p hp
    rcases List.mem_append.1 hp with hp | hp
    · have hp' := hB p hp
      have := hlt p hp'.1
      have : p.1 ≠ i := fun e => by
        have := me p.2 (hM.2.2 p hp'.1).2.1 (by rw [← e]; exact eM p hp'.1)
        rw [hp'.2] at this
        cases this
      omega
    · obtain ⟨k, hk, rfl⟩ := List.mem_map.1 hp
      obtain ⟨j, c1, _⟩ := hC k hk
      have := hi k
      simp only
      omega
/-- so many partners are pairs -/
theorem MQ.pairs {l : List T} {tol : Int} {Q : Nat → Int} (hv : VL l) (mq : MQ l tol Q) : cnt Q l.length ≤ (matchL l tol).length := by
  have hR : ∀ k, k ∈ (List.range l.length).filter (fun k => decide (0 ≤ Q k)) → ∃ j : Nat, Q k = j ∧ j < l.length ∧ k < l.length ∧ (l.getD j T0).side = 1 ∧ ed l tol j k = true := fun k hk => by
    have h0 : 0 ≤ Q k := by simpa using (List.mem_filter.1 hk).2
    rcases mq.rng k with e | e
    · omega
    · exact e
  have := match_max hv (tol := tol) (M := ((List.range l.length).filter fun k => decide (0 ≤ Q k)).map fun k => ((Q k).toNat, k)) ⟨?_, ?_, ?_⟩
  · rw [List.length_map] at this; exact this
  · rw [List.map_map]
    refine nodup_map (List.nodup_range.filter _) fun x hx y hy e => ?_
    obtain ⟨j, c1, _⟩ := hR x hx
    obtain ⟨j', c1', _⟩ := hR y hy
    simp only [Function.comp_apply] at e
    exact mq.inj x y (by omega) (by omega)
  · rw [List.map_map]
    have : (Prod.snd ∘ fun k : Nat => ((Q k).toNat, k)) = id := rfl
    rw [this, List.map_id]
    exact List.nodup_range.filter _
  · intro p hp
    obtain ⟨k, hk, rfl⟩ := List.mem_map.1 hp
    obtain ⟨j, c1, c2, c3, c4, c5⟩ := hR k hk
    simp only [c1, Int.toNat_natCast]
    have e := ed_iff.1 c5
    exact ⟨c2, c3, c4, side2 hv c3 c4 e.1, e.2.1, e.2.2⟩
theorem Top.fin {l : List T} {tol : Int} {Q : Nat → Int} (hv : VL l) (mq : MQ l tol Q) (h : Top l tol l.length (cnt Q l.length)) : cnt Q l.length = (matchL l tol).length :=
  Nat.le_antisymm (mq.pairs hv) (h _ (match_ok l tol) fun p hp => ((match_ok l tol).2.2 p hp).1)
end Go.Proofs.Ytbhkbaapfioijaa
set_option linter.unusedVariables false
set_option linter.unusedSimpArgs false
namespace Go.Proofs.Ytbhkbaapfioijaa
open Go Go.Am Go.Proofs Go.Sort
/-! ### The document's most: the walk -/
theorem pf_get {P : List Int} {k : Nat} (h : k < P.length) : (il P)[k]? = some (.i .i64 (pf P k)) := by simp [il, pf, h]
theorem sf_get {S : List Bool} {k : Nat} (h : k < S.length) : (bl S)[k]? = some (.b (sf S k)) := by simp [bl, sf, h]
set_option maxHeartbeats 1000000 in
theorem ac76 (l : List T) (hv : VL l) (tol : Int) : ∀ (n : Nat) (Q : Nat → Int) (P : List Int) (S : List Bool) (i : Nat) (x y : Nat) (h : AH), uns S = n → Pre l tol Q P S i → x ≠ 0 → y ≠ 0 → y ≠ x → h.m x = some (.cells true (il P)) → h.m y = some (.cells true (bl S)) →
    ACalls Try.prog 76 [vT l, .i .i64 tol, .sl x 0 l.length 1, .sl y 0 l.length 1, .i .i64 (i : Int)] h fun r h' => ∃ b P' S', r = .b b ∧ Fnd l tol Q P S i b P' S' ∧ h'.m x = some (.cells true (il P')) ∧ h'.m y = some (.cells true (bl S')) := by
  intro n
  induction n using Nat.strongRecOn with
  | _ n ih =>
  intro Q P S i x y h hn hp hx hy hyx hm hmy
  have hxy : x ≠ y := fun e => hyx e.symm
  refine a_fn fn76 (Nat.le_of_ble_eq_true rfl) fun ok pos => ?_
  rw [initSt5]
  have hl := hv.len
  have hx' := ok.m hm
  have hy' := ok.m hmy
  repeat' first
    | with_reducible refine k_seq ?_
    | with_reducible refine k_skip ?_
    | with_reducible refine k_blkS ?_
    | with_reducible refine k_blkR ?_
    | with_reducible refine k_blkC ?_
    | with_reducible refine k_blkH ?_
    | with_reducible refine k_blkB ?_
    | with_reducible refine k_blkK ?_
    | with_reducible refine k_blkE ?_
    | with_reducible refine k_reg ?_
    | with_reducible refine k_head (by with_unfolding_all rfl) ?_
    | with_reducible refine k_headS ?_
    | (with_reducible refine SepK.mk ?_ ?_; (refine sepQ_P ?_; simp [sepQ, sepG, AOp.late, AOp.free, AOp.xs, AOp.isAl, tokNe, AV.tok, stS_get, strip, AX.val, c76r0, c76r1, c76r2, c76r3, c76r4, c76r5, c76r6, c76r7, c76r8, c76r10, GA]; try omega))
    | with_reducible refine r_done ?_
    | with_reducible refine hr_done ?_
    | with_reducible refine s_go (by simp (disch := omega) only [c76r0, c76r1, c76r2, c76r3, c76r4, c76r5, c76r6, c76r7, c76r8, c76r10, EV0, EV1, EV2, EV3, EV4, EV5, EV6, EV7, EV8, VALS, plug, ite_same, decide_true, decide_false, eq_self, ↓reduceIte, reduceCtorEq, Nat.reduceAdd, Nat.reduceEqDiff, Nat.reduceLT, Nat.reduceLeDiff, Nat.reduceMul, Nat.reduceSub, Nat.reduceDiv, Int.reduceToNat, Int.reduceAdd, Int.reduceSub, Int.reduceMul, Int.reduceNeg, Int.reduceEq, Int.reduceLT, Int.reduceLE]; with_reducible rfl) ?_
    | with_reducible refine h_go (by with_unfolding_all rfl) (by simp (disch := omega) only [c76r0, c76r1, c76r2, c76r3, c76r4, c76r5, c76r6, c76r7, c76r8, c76r10, EV0, EV1, EV2, EV3, EV4, EV5, EV6, EV7, EV8, VALS, plug, ite_same, decide_true, decide_false, eq_self, ↓reduceIte, reduceCtorEq, Nat.reduceAdd, Nat.reduceEqDiff, Nat.reduceLT, Nat.reduceLeDiff, Nat.reduceMul, Nat.reduceSub, Nat.reduceDiv, Int.reduceToNat, Int.reduceAdd, Int.reduceSub, Int.reduceMul, Int.reduceNeg, Int.reduceEq, Int.reduceLT, Int.reduceLE]; with_reducible rfl) ?_
    | ((with_reducible refine chk_r ?_); refine r_callF (by simp only [CA, Nat.reduceEqDiff, ↓reduceIte]; rfl) (by exact rfl) (by simp only [CA, Nat.reduceEqDiff, ↓reduceIte]; rfl) rfl ?_)
    | ((with_reducible refine chk_h ?_); refine hr_callF (by simp only [CA, Nat.reduceEqDiff, ↓reduceIte]; rfl) (by exact rfl) (by simp only [CA, Nat.reduceEqDiff, ↓reduceIte]; rfl) rfl ?_)
    | ((with_reducible refine chk_h ?_); refine hr_app (by simp (disch := omega) only [c76r0, c76r1, c76r2, c76r3, c76r4, c76r5, c76r6, c76r7, c76r8, c76r10, EV0, EV1, EV2, EV3, EV4, EV5, EV6, EV7, EV8, VALS, plug, ite_same, decide_true, decide_false, eq_self, ↓reduceIte, reduceCtorEq, Nat.reduceAdd, Nat.reduceEqDiff, Nat.reduceLT, Nat.reduceLeDiff, Nat.reduceMul, Nat.reduceSub, Nat.reduceDiv, Int.reduceToNat, Int.reduceAdd, Int.reduceSub, Int.reduceMul, Int.reduceNeg, Int.reduceEq, Int.reduceLT, Int.reduceLE]; with_reducible rfl) rfl ?_)
    | (with_reducible refine k_condP (by simp only [GA, Nat.reduceEqDiff, ↓reduceIte]; rfl) (by first | (simp only [BO]; rfl) | rfl) (fun ht => ?_) (fun ht => ?_) <;> try (first | exact False.elim ht | exact absurd rfl ht | exact absurd trivial ht | exact Bool.noConfusion ht))
    | (with_reducible refine k_ret ?_; repeat with_reducible (first | refine ret_thru ?_ | refine ret_blk ?_ | refine fin ?_))
    | (with_reducible refine k_exit ?_; repeat with_reducible (first | refine thru ?_ | refine out_blk ?_ | refine pass (by decide) ?_))
    | (refine post1 ?_; simp only [GA, Nat.reduceEqDiff, ↓reduceIte])
    | (refine post2 ?_; simp only [GA, Nat.reduceEqDiff, ↓reduceIte])
    | (refine post3 ?_; simp only [GA, Nat.reduceEqDiff, ↓reduceIte])
    | (refine postc (by simp only [GA, Nat.reduceEqDiff, ↓reduceIte]; rfl) (by simp (disch := omega) only [c76r0, c76r1, c76r2, c76r3, c76r4, c76r5, c76r6, c76r7, c76r8, c76r10, EV0, EV1, EV2, EV3, EV4, EV5, EV6, EV7, EV8, VALS, plug, ite_same, decide_true, decide_false, eq_self, ↓reduceIte, reduceCtorEq, Nat.reduceAdd, Nat.reduceEqDiff, Nat.reduceLT, Nat.reduceLeDiff, Nat.reduceMul, Nat.reduceSub, Nat.reduceDiv, Int.reduceToNat, Int.reduceAdd, Int.reduceSub, Int.reduceMul, Int.reduceNeg, Int.reduceEq, Int.reduceLT, Int.reduceLE]; rfl) ?_)
    | refine post0 ?_
  refine k_blk (k_loopS (X := List Bool) [0, 1, 2, 3, 4, 11] l.length (fun k S1 => [(0, vT l), (1, .i .i64 tol), (2, .sl x 0 l.length 1), (3, .sl y 0 l.length 1), (4, .i .i64 (i : Int)), (11, .i .i64 (k : Int))]) (fun k S1 h => Sofar l tol P S S1 i k ∧ h.m x = some (.cells true (il P)) ∧ h.m y = some (.cells true (bl S1))) S (by simp only [Am.keep, List.map_cons, List.map_nil, GA, Nat.reduceEqDiff, ↓reduceIte]; try rfl) ⟨.init hp, by simp (disch := omega) only [hm, c76r0, c76r1, c76r2, c76r3, c76r4, c76r5, c76r6, c76r7, c76r8, c76r10, EV0, EV1, EV2, EV3, EV4, EV5, EV6, EV7, EV8, VALS, plug, ite_same, decide_true, decide_false, eq_self, ↓reduceIte, reduceCtorEq, Nat.reduceAdd, Nat.reduceEqDiff, Nat.reduceLT, Nat.reduceLeDiff, Nat.reduceMul, Nat.reduceSub, Nat.reduceDiv, Int.reduceToNat, Int.reduceAdd, Int.reduceSub, Int.reduceMul, Int.reduceNeg, Int.reduceEq, Int.reduceLT, Int.reduceLE], by simp (disch := omega) only [hmy, c76r0, c76r1, c76r2, c76r3, c76r4, c76r5, c76r6, c76r7, c76r8, c76r10, EV0, EV1, EV2, EV3, EV4, EV5, EV6, EV7, EV8, VALS, plug, ite_same, decide_true, decide_false, eq_self, ↓reduceIte, reduceCtorEq, Nat.reduceAdd, Nat.reduceEqDiff, Nat.reduceLT, Nat.reduceLeDiff, Nat.reduceMul, Nat.reduceSub, Nat.reduceDiv, Int.reduceToNat, Int.reduceAdd, Int.reduceSub, Int.reduceMul, Int.reduceNeg, Int.reduceEq, Int.reduceLT, Int.reduceLE]⟩ ?_)
  rintro k S1 h hk ⟨g, hm, hmy⟩ ok pos
  have hx' := ok.m hm
  have hy' := ok.m hmy
  by_cases hlt : k < l.length
  · have hlt' : (k : Int) < l.length := by omega
    have rA := rdT hp.il
    have rB := rdT hlt
    have hi := hp.il
    have pl := hp.pl
    have sl := g.sl
    have q57 := pc57 (l.getD i T0) (l.getD k T0) (hv.2.1 i hp.il) (hv.2.1 k hlt) tol
    have gs := sf_get (S := S1) (k := k) (by omega)
    have gp := pf_get (P := P) (k := k) (by omega)
    have ee : ed l tol i k = can (l.getD i T0) (l.getD k T0) tol := rfl
    simp only [eT] at rA rB q57
    cases hs : sf S1 k with
    | true =>
      rw [hs] at gs
      repeat' first
        | with_reducible refine k_seq ?_
        | with_reducible refine k_skip ?_
        | with_reducible refine k_blkS ?_
        | with_reducible refine k_blkR ?_
        | with_reducible refine k_blkC ?_
        | with_reducible refine k_blkH ?_
        | with_reducible refine k_blkB ?_
        | with_reducible refine k_blkK ?_
        | with_reducible refine k_blkE ?_
        | with_reducible refine k_reg ?_
        | with_reducible refine k_head (by with_unfolding_all rfl) ?_
        | with_reducible refine k_headS ?_
        | (with_reducible refine SepK.mk ?_ ?_; (refine sepQ_P ?_; simp [sepQ, sepG, AOp.late, AOp.free, AOp.xs, AOp.isAl, tokNe, AV.tok, stS_get, strip, AX.val, c76r0, c76r1, c76r2, c76r3, c76r4, c76r5, c76r6, c76r7, c76r8, c76r10, GA]; try omega))
        | with_reducible refine r_done ?_
        | with_reducible refine hr_done ?_
        | with_reducible refine s_go (by simp (disch := omega) only [hlt', hmy, row_m hmy, read_row (row_m hmy), gs, rA, rB, sl, c76r0, c76r1, c76r2, c76r3, c76r4, c76r5, c76r6, c76r7, c76r8, c76r10, EV0, EV1, EV2, EV3, EV4, EV5, EV6, EV7, EV8, VALS, plug, ite_same, decide_true, decide_false, eq_self, ↓reduceIte, reduceCtorEq, Nat.reduceAdd, Nat.reduceEqDiff, Nat.reduceLT, Nat.reduceLeDiff, Nat.reduceMul, Nat.reduceSub, Nat.reduceDiv, Int.reduceToNat, Int.reduceAdd, Int.reduceSub, Int.reduceMul, Int.reduceNeg, Int.reduceEq, Int.reduceLT, Int.reduceLE]; with_reducible rfl) ?_
        | with_reducible refine h_go (by with_unfolding_all rfl) (by simp (disch := omega) only [hlt', hmy, row_m hmy, read_row (row_m hmy), gs, rA, rB, sl, c76r0, c76r1, c76r2, c76r3, c76r4, c76r5, c76r6, c76r7, c76r8, c76r10, EV0, EV1, EV2, EV3, EV4, EV5, EV6, EV7, EV8, VALS, plug, ite_same, decide_true, decide_false, eq_self, ↓reduceIte, reduceCtorEq, Nat.reduceAdd, Nat.reduceEqDiff, Nat.reduceLT, Nat.reduceLeDiff, Nat.reduceMul, Nat.reduceSub, Nat.reduceDiv, Int.reduceToNat, Int.reduceAdd, Int.reduceSub, Int.reduceMul, Int.reduceNeg, Int.reduceEq, Int.reduceLT, Int.reduceLE]; with_reducible rfl) ?_
        | ((with_reducible refine chk_r ?_); refine r_callF (by simp only [CA, Nat.reduceEqDiff, ↓reduceIte]; rfl) (by exact rfl) (by simp only [CA, Nat.reduceEqDiff, ↓reduceIte]; rfl) rfl ?_)
        | ((with_reducible refine chk_h ?_); refine hr_callF (by simp only [CA, Nat.reduceEqDiff, ↓reduceIte]; rfl) (by exact rfl) (by simp only [CA, Nat.reduceEqDiff, ↓reduceIte]; rfl) rfl ?_)
        | ((with_reducible refine chk_r ?_); refine r_callP (by simp only [CA, Nat.reduceEqDiff, ↓reduceIte]; rfl) (by simp only [CA, Nat.reduceEqDiff, ↓reduceIte]; rfl) (by first | exact q57 _) rfl ?_)
        | ((with_reducible refine chk_h ?_); refine hr_callP (by simp only [CA, Nat.reduceEqDiff, ↓reduceIte]; rfl) (by simp only [CA, Nat.reduceEqDiff, ↓reduceIte]; rfl) (by first | exact q57 _) rfl ?_)
        | ((with_reducible refine chk_h ?_); refine hr_callP1 (by simp only [CA, Nat.reduceEqDiff, ↓reduceIte]; rfl) (by simp only [CA, Nat.reduceEqDiff, ↓reduceIte]; rfl) (by simp (disch := omega) only [CA, Nat.reduceEqDiff, ↓reduceIte, firstTok_nil, firstTok_sl, firstTok_sl0, firstTok_i, firstTok_b, firstTok_ag, firstTok_p, firstTok_s]; rfl) (by first | exact q57 _) rfl ?_)
        | ((with_reducible refine chk_r ?_); refine r_callG (by simp only [CA, Nat.reduceEqDiff, ↓reduceIte]; rfl) (by simp only [CA, Nat.reduceEqDiff, ↓reduceIte]; rfl) (by simp only [CA, Nat.reduceEqDiff, ↓reduceIte]; rfl) (by intro hg; (try simp only [BO] at hg); first | exact q57 _) rfl ?_)
        | ((with_reducible refine chk_h ?_); refine hr_callG (by simp only [CA, Nat.reduceEqDiff, ↓reduceIte]; rfl) (by simp only [CA, Nat.reduceEqDiff, ↓reduceIte]; rfl) (by simp only [CA, Nat.reduceEqDiff, ↓reduceIte]; rfl) (by intro hg; (try simp only [BO] at hg); first | exact q57 _) rfl ?_)
        | ((with_reducible refine chk_h ?_); refine hr_app (by simp (disch := omega) only [hlt', hmy, row_m hmy, read_row (row_m hmy), gs, rA, rB, sl, c76r0, c76r1, c76r2, c76r3, c76r4, c76r5, c76r6, c76r7, c76r8, c76r10, EV0, EV1, EV2, EV3, EV4, EV5, EV6, EV7, EV8, VALS, plug, ite_same, decide_true, decide_false, eq_self, ↓reduceIte, reduceCtorEq, Nat.reduceAdd, Nat.reduceEqDiff, Nat.reduceLT, Nat.reduceLeDiff, Nat.reduceMul, Nat.reduceSub, Nat.reduceDiv, Int.reduceToNat, Int.reduceAdd, Int.reduceSub, Int.reduceMul, Int.reduceNeg, Int.reduceEq, Int.reduceLT, Int.reduceLE]; with_reducible rfl) rfl ?_)
        | (with_reducible refine k_condP (by simp only [GA, Nat.reduceEqDiff, ↓reduceIte]; rfl) (by first | (simp only [BO]; rfl) | rfl) (fun ht => ?_) (fun ht => ?_) <;> try (first | exact False.elim ht | exact absurd rfl ht | exact absurd trivial ht | exact Bool.noConfusion ht))
        | (with_reducible refine k_ret ?_; repeat with_reducible (first | refine ret_thru ?_ | refine ret_blk ?_ | refine fin ?_))
        | (with_reducible refine k_exit ?_; repeat with_reducible (first | refine thru ?_ | refine out_blk ?_ | refine pass (by decide) ?_))
        | (refine post1 ?_; simp only [GA, Nat.reduceEqDiff, ↓reduceIte])
        | (refine post2 ?_; simp only [GA, Nat.reduceEqDiff, ↓reduceIte])
        | (refine post3 ?_; simp only [GA, Nat.reduceEqDiff, ↓reduceIte])
        | (refine postc (by simp only [GA, Nat.reduceEqDiff, ↓reduceIte]; rfl) (by simp (disch := omega) only [hlt', hmy, row_m hmy, read_row (row_m hmy), gs, rA, rB, sl, c76r0, c76r1, c76r2, c76r3, c76r4, c76r5, c76r6, c76r7, c76r8, c76r10, EV0, EV1, EV2, EV3, EV4, EV5, EV6, EV7, EV8, VALS, plug, ite_same, decide_true, decide_false, eq_self, ↓reduceIte, reduceCtorEq, Nat.reduceAdd, Nat.reduceEqDiff, Nat.reduceLT, Nat.reduceLeDiff, Nat.reduceMul, Nat.reduceSub, Nat.reduceDiv, Int.reduceToNat, Int.reduceAdd, Int.reduceSub, Int.reduceMul, Int.reduceNeg, Int.reduceEq, Int.reduceLT, Int.reduceLE]; rfl) ?_)
        | refine post0 ?_
      exact ⟨hlt, S1, (by simp only [Am.keep, List.map_cons, List.map_nil, GA, Nat.reduceEqDiff, ↓reduceIte]; try rfl), g.skip (.inl hs), by simp (disch := omega) only [hm, c76r0, c76r1, c76r2, c76r3, c76r4, c76r5, c76r6, c76r7, c76r8, c76r10, EV0, EV1, EV2, EV3, EV4, EV5, EV6, EV7, EV8, VALS, plug, ite_same, decide_true, decide_false, eq_self, ↓reduceIte, reduceCtorEq, Nat.reduceAdd, Nat.reduceEqDiff, Nat.reduceLT, Nat.reduceLeDiff, Nat.reduceMul, Nat.reduceSub, Nat.reduceDiv, Int.reduceToNat, Int.reduceAdd, Int.reduceSub, Int.reduceMul, Int.reduceNeg, Int.reduceEq, Int.reduceLT, Int.reduceLE], by simp (disch := omega) only [hmy, c76r0, c76r1, c76r2, c76r3, c76r4, c76r5, c76r6, c76r7, c76r8, c76r10, EV0, EV1, EV2, EV3, EV4, EV5, EV6, EV7, EV8, VALS, plug, ite_same, decide_true, decide_false, eq_self, ↓reduceIte, reduceCtorEq, Nat.reduceAdd, Nat.reduceEqDiff, Nat.reduceLT, Nat.reduceLeDiff, Nat.reduceMul, Nat.reduceSub, Nat.reduceDiv, Int.reduceToNat, Int.reduceAdd, Int.reduceSub, Int.reduceMul, Int.reduceNeg, Int.reduceEq, Int.reduceLT, Int.reduceLE]⟩
    | false =>
      rw [hs] at gs
      rw [← ee] at q57
      cases he : ed l tol i k with
      | false =>
        rw [he] at q57
        repeat' first
          | with_reducible refine k_seq ?_
          | with_reducible refine k_skip ?_
          | with_reducible refine k_blkS ?_
          | with_reducible refine k_blkR ?_
          | with_reducible refine k_blkC ?_
          | with_reducible refine k_blkH ?_
          | with_reducible refine k_blkB ?_
          | with_reducible refine k_blkK ?_
          | with_reducible refine k_blkE ?_
          | with_reducible refine k_reg ?_
          | with_reducible refine k_head (by with_unfolding_all rfl) ?_
          | with_reducible refine k_headS ?_
          | (with_reducible refine SepK.mk ?_ ?_; (refine sepQ_P ?_; simp [sepQ, sepG, AOp.late, AOp.free, AOp.xs, AOp.isAl, tokNe, AV.tok, stS_get, strip, AX.val, c76r0, c76r1, c76r2, c76r3, c76r4, c76r5, c76r6, c76r7, c76r8, c76r10, GA]; try omega))
          | with_reducible refine r_done ?_
          | with_reducible refine hr_done ?_
          | with_reducible refine s_go (by simp (disch := omega) only [hlt', hmy, row_m hmy, read_row (row_m hmy), gs, rA, rB, sl, c76r0, c76r1, c76r2, c76r3, c76r4, c76r5, c76r6, c76r7, c76r8, c76r10, EV0, EV1, EV2, EV3, EV4, EV5, EV6, EV7, EV8, VALS, plug, ite_same, decide_true, decide_false, eq_self, ↓reduceIte, reduceCtorEq, Nat.reduceAdd, Nat.reduceEqDiff, Nat.reduceLT, Nat.reduceLeDiff, Nat.reduceMul, Nat.reduceSub, Nat.reduceDiv, Int.reduceToNat, Int.reduceAdd, Int.reduceSub, Int.reduceMul, Int.reduceNeg, Int.reduceEq, Int.reduceLT, Int.reduceLE]; with_reducible rfl) ?_
          | with_reducible refine h_go (by with_unfolding_all rfl) (by simp (disch := omega) only [hlt', hmy, row_m hmy, read_row (row_m hmy), gs, rA, rB, sl, c76r0, c76r1, c76r2, c76r3, c76r4, c76r5, c76r6, c76r7, c76r8, c76r10, EV0, EV1, EV2, EV3, EV4, EV5, EV6, EV7, EV8, VALS, plug, ite_same, decide_true, decide_false, eq_self, ↓reduceIte, reduceCtorEq, Nat.reduceAdd, Nat.reduceEqDiff, Nat.reduceLT, Nat.reduceLeDiff, Nat.reduceMul, Nat.reduceSub, Nat.reduceDiv, Int.reduceToNat, Int.reduceAdd, Int.reduceSub, Int.reduceMul, Int.reduceNeg, Int.reduceEq, Int.reduceLT, Int.reduceLE]; with_reducible rfl) ?_
          | ((with_reducible refine chk_r ?_); refine r_callF (by simp only [CA, Nat.reduceEqDiff, ↓reduceIte]; rfl) (by exact rfl) (by simp only [CA, Nat.reduceEqDiff, ↓reduceIte]; rfl) rfl ?_)
          | ((with_reducible refine chk_h ?_); refine hr_callF (by simp only [CA, Nat.reduceEqDiff, ↓reduceIte]; rfl) (by exact rfl) (by simp only [CA, Nat.reduceEqDiff, ↓reduceIte]; rfl) rfl ?_)
          | ((with_reducible refine chk_r ?_); refine r_callP (by simp only [CA, Nat.reduceEqDiff, ↓reduceIte]; rfl) (by simp only [CA, Nat.reduceEqDiff, ↓reduceIte]; rfl) (by first | exact q57 _) rfl ?_)
          | ((with_reducible refine chk_h ?_); refine hr_callP (by simp only [CA, Nat.reduceEqDiff, ↓reduceIte]; rfl) (by simp only [CA, Nat.reduceEqDiff, ↓reduceIte]; rfl) (by first | exact q57 _) rfl ?_)
          | ((with_reducible refine chk_h ?_); refine hr_callP1 (by simp only [CA, Nat.reduceEqDiff, ↓reduceIte]; rfl) (by simp only [CA, Nat.reduceEqDiff, ↓reduceIte]; rfl) (by simp (disch := omega) only [CA, Nat.reduceEqDiff, ↓reduceIte, firstTok_nil, firstTok_sl, firstTok_sl0, firstTok_i, firstTok_b, firstTok_ag, firstTok_p, firstTok_s]; rfl) (by first | exact q57 _) rfl ?_)
          | ((with_reducible refine chk_r ?_); refine r_callG (by simp only [CA, Nat.reduceEqDiff, ↓reduceIte]; rfl) (by simp only [CA, Nat.reduceEqDiff, ↓reduceIte]; rfl) (by simp only [CA, Nat.reduceEqDiff, ↓reduceIte]; rfl) (by intro hg; (try simp only [BO] at hg); first | exact q57 _) rfl ?_)
          | ((with_reducible refine chk_h ?_); refine hr_callG (by simp only [CA, Nat.reduceEqDiff, ↓reduceIte]; rfl) (by simp only [CA, Nat.reduceEqDiff, ↓reduceIte]; rfl) (by simp only [CA, Nat.reduceEqDiff, ↓reduceIte]; rfl) (by intro hg; (try simp only [BO] at hg); first | exact q57 _) rfl ?_)
          | ((with_reducible refine chk_h ?_); refine hr_app (by simp (disch := omega) only [hlt', hmy, row_m hmy, read_row (row_m hmy), gs, rA, rB, sl, c76r0, c76r1, c76r2, c76r3, c76r4, c76r5, c76r6, c76r7, c76r8, c76r10, EV0, EV1, EV2, EV3, EV4, EV5, EV6, EV7, EV8, VALS, plug, ite_same, decide_true, decide_false, eq_self, ↓reduceIte, reduceCtorEq, Nat.reduceAdd, Nat.reduceEqDiff, Nat.reduceLT, Nat.reduceLeDiff, Nat.reduceMul, Nat.reduceSub, Nat.reduceDiv, Int.reduceToNat, Int.reduceAdd, Int.reduceSub, Int.reduceMul, Int.reduceNeg, Int.reduceEq, Int.reduceLT, Int.reduceLE]; with_reducible rfl) rfl ?_)
          | (with_reducible refine k_condP (by simp only [GA, Nat.reduceEqDiff, ↓reduceIte]; rfl) (by first | (simp only [BO]; rfl) | rfl) (fun ht => ?_) (fun ht => ?_) <;> try (first | exact False.elim ht | exact absurd rfl ht | exact absurd trivial ht | exact Bool.noConfusion ht))
          | (with_reducible refine k_ret ?_; repeat with_reducible (first | refine ret_thru ?_ | refine ret_blk ?_ | refine fin ?_))
          | (with_reducible refine k_exit ?_; repeat with_reducible (first | refine thru ?_ | refine out_blk ?_ | refine pass (by decide) ?_))
          | (refine post1 ?_; simp only [GA, Nat.reduceEqDiff, ↓reduceIte])
          | (refine post2 ?_; simp only [GA, Nat.reduceEqDiff, ↓reduceIte])
          | (refine post3 ?_; simp only [GA, Nat.reduceEqDiff, ↓reduceIte])
          | (refine postc (by simp only [GA, Nat.reduceEqDiff, ↓reduceIte]; rfl) (by simp (disch := omega) only [hlt', hmy, row_m hmy, read_row (row_m hmy), gs, rA, rB, sl, c76r0, c76r1, c76r2, c76r3, c76r4, c76r5, c76r6, c76r7, c76r8, c76r10, EV0, EV1, EV2, EV3, EV4, EV5, EV6, EV7, EV8, VALS, plug, ite_same, decide_true, decide_false, eq_self, ↓reduceIte, reduceCtorEq, Nat.reduceAdd, Nat.reduceEqDiff, Nat.reduceLT, Nat.reduceLeDiff, Nat.reduceMul, Nat.reduceSub, Nat.reduceDiv, Int.reduceToNat, Int.reduceAdd, Int.reduceSub, Int.reduceMul, Int.reduceNeg, Int.reduceEq, Int.reduceLT, Int.reduceLE]; rfl) ?_)
          | refine post0 ?_
        exact ⟨hlt, S1, (by simp only [Am.keep, List.map_cons, List.map_nil, GA, Nat.reduceEqDiff, ↓reduceIte]; try rfl), g.skip (.inr (by simp [he])), by simp (disch := omega) only [hm, c76r0, c76r1, c76r2, c76r3, c76r4, c76r5, c76r6, c76r7, c76r8, c76r10, EV0, EV1, EV2, EV3, EV4, EV5, EV6, EV7, EV8, VALS, plug, ite_same, decide_true, decide_false, eq_self, ↓reduceIte, reduceCtorEq, Nat.reduceAdd, Nat.reduceEqDiff, Nat.reduceLT, Nat.reduceLeDiff, Nat.reduceMul, Nat.reduceSub, Nat.reduceDiv, Int.reduceToNat, Int.reduceAdd, Int.reduceSub, Int.reduceMul, Int.reduceNeg, Int.reduceEq, Int.reduceLT, Int.reduceLE], by simp (disch := omega) only [hmy, c76r0, c76r1, c76r2, c76r3, c76r4, c76r5, c76r6, c76r7, c76r8, c76r10, EV0, EV1, EV2, EV3, EV4, EV5, EV6, EV7, EV8, VALS, plug, ite_same, decide_true, decide_false, eq_self, ↓reduceIte, reduceCtorEq, Nat.reduceAdd, Nat.reduceEqDiff, Nat.reduceLT, Nat.reduceLeDiff, Nat.reduceMul, Nat.reduceSub, Nat.reduceDiv, Int.reduceToNat, Int.reduceAdd, Int.reduceSub, Int.reduceMul, Int.reduceNeg, Int.reduceEq, Int.reduceLT, Int.reduceLE]⟩
      | true =>
        rw [he] at q57
        by_cases hj : pf P k < 0
        · repeat' first
            | with_reducible refine k_seq ?_
            | with_reducible refine k_skip ?_
            | with_reducible refine k_blkS ?_
            | with_reducible refine k_blkR ?_
            | with_reducible refine k_blkC ?_
            | with_reducible refine k_blkH ?_
            | with_reducible refine k_blkB ?_
            | with_reducible refine k_blkK ?_
            | with_reducible refine k_blkE ?_
            | with_reducible refine k_reg ?_
            | with_reducible refine k_head (by with_unfolding_all rfl) ?_
            | with_reducible refine k_headS ?_
            | (with_reducible refine SepK.mk ?_ ?_; (refine sepQ_P ?_; simp [sepQ, sepG, AOp.late, AOp.free, AOp.xs, AOp.isAl, tokNe, AV.tok, stS_get, strip, AX.val, c76r0, c76r1, c76r2, c76r3, c76r4, c76r5, c76r6, c76r7, c76r8, c76r10, GA]; try omega))
            | with_reducible refine r_done ?_
            | with_reducible refine hr_done ?_
            | with_reducible refine s_go (by simp (disch := omega) only [hlt', hm, row_m hm, read_row (row_m hm), hmy, row_m hmy, read_row (row_m hmy), gs, gp, rA, rB, sl, pl, hj, c76r0, c76r1, c76r2, c76r3, c76r4, c76r5, c76r6, c76r7, c76r8, c76r10, EV0, EV1, EV2, EV3, EV4, EV5, EV6, EV7, EV8, VALS, plug, ite_same, decide_true, decide_false, eq_self, ↓reduceIte, reduceCtorEq, Nat.reduceAdd, Nat.reduceEqDiff, Nat.reduceLT, Nat.reduceLeDiff, Nat.reduceMul, Nat.reduceSub, Nat.reduceDiv, Int.reduceToNat, Int.reduceAdd, Int.reduceSub, Int.reduceMul, Int.reduceNeg, Int.reduceEq, Int.reduceLT, Int.reduceLE]; with_reducible rfl) ?_
            | with_reducible refine h_go (by with_unfolding_all rfl) (by simp (disch := omega) only [hlt', hm, row_m hm, read_row (row_m hm), hmy, row_m hmy, read_row (row_m hmy), gs, gp, rA, rB, sl, pl, hj, c76r0, c76r1, c76r2, c76r3, c76r4, c76r5, c76r6, c76r7, c76r8, c76r10, EV0, EV1, EV2, EV3, EV4, EV5, EV6, EV7, EV8, VALS, plug, ite_same, decide_true, decide_false, eq_self, ↓reduceIte, reduceCtorEq, Nat.reduceAdd, Nat.reduceEqDiff, Nat.reduceLT, Nat.reduceLeDiff, Nat.reduceMul, Nat.reduceSub, Nat.reduceDiv, Int.reduceToNat, Int.reduceAdd, Int.reduceSub, Int.reduceMul, Int.reduceNeg, Int.reduceEq, Int.reduceLT, Int.reduceLE]; with_reducible rfl) ?_
            | ((with_reducible refine chk_r ?_); refine r_callF (by simp only [CA, Nat.reduceEqDiff, ↓reduceIte]; rfl) (by exact rfl) (by simp only [CA, Nat.reduceEqDiff, ↓reduceIte]; rfl) rfl ?_)
            | ((with_reducible refine chk_h ?_); refine hr_callF (by simp only [CA, Nat.reduceEqDiff, ↓reduceIte]; rfl) (by exact rfl) (by simp only [CA, Nat.reduceEqDiff, ↓reduceIte]; rfl) rfl ?_)
            | ((with_reducible refine chk_r ?_); refine r_callP (by simp only [CA, Nat.reduceEqDiff, ↓reduceIte]; rfl) (by simp only [CA, Nat.reduceEqDiff, ↓reduceIte]; rfl) (by first | exact q57 _) rfl ?_)
            | ((with_reducible refine chk_h ?_); refine hr_callP (by simp only [CA, Nat.reduceEqDiff, ↓reduceIte]; rfl) (by simp only [CA, Nat.reduceEqDiff, ↓reduceIte]; rfl) (by first | exact q57 _) rfl ?_)
            | ((with_reducible refine chk_h ?_); refine hr_callP1 (by simp only [CA, Nat.reduceEqDiff, ↓reduceIte]; rfl) (by simp only [CA, Nat.reduceEqDiff, ↓reduceIte]; rfl) (by simp (disch := omega) only [CA, Nat.reduceEqDiff, ↓reduceIte, firstTok_nil, firstTok_sl, firstTok_sl0, firstTok_i, firstTok_b, firstTok_ag, firstTok_p, firstTok_s]; rfl) (by first | exact q57 _) rfl ?_)
            | ((with_reducible refine chk_r ?_); refine r_callG (by simp only [CA, Nat.reduceEqDiff, ↓reduceIte]; rfl) (by simp only [CA, Nat.reduceEqDiff, ↓reduceIte]; rfl) (by simp only [CA, Nat.reduceEqDiff, ↓reduceIte]; rfl) (by intro hg; (try simp only [BO] at hg); first | exact q57 _) rfl ?_)
            | ((with_reducible refine chk_h ?_); refine hr_callG (by simp only [CA, Nat.reduceEqDiff, ↓reduceIte]; rfl) (by simp only [CA, Nat.reduceEqDiff, ↓reduceIte]; rfl) (by simp only [CA, Nat.reduceEqDiff, ↓reduceIte]; rfl) (by intro hg; (try simp only [BO] at hg); first | exact q57 _) rfl ?_)
            | ((with_reducible refine chk_h ?_); refine hr_app (by simp (disch := omega) only [hlt', hm, row_m hm, read_row (row_m hm), hmy, row_m hmy, read_row (row_m hmy), gs, gp, rA, rB, sl, pl, hj, c76r0, c76r1, c76r2, c76r3, c76r4, c76r5, c76r6, c76r7, c76r8, c76r10, EV0, EV1, EV2, EV3, EV4, EV5, EV6, EV7, EV8, VALS, plug, ite_same, decide_true, decide_false, eq_self, ↓reduceIte, reduceCtorEq, Nat.reduceAdd, Nat.reduceEqDiff, Nat.reduceLT, Nat.reduceLeDiff, Nat.reduceMul, Nat.reduceSub, Nat.reduceDiv, Int.reduceToNat, Int.reduceAdd, Int.reduceSub, Int.reduceMul, Int.reduceNeg, Int.reduceEq, Int.reduceLT, Int.reduceLE]; with_reducible rfl) rfl ?_)
            | (with_reducible refine k_condP (by simp only [GA, Nat.reduceEqDiff, ↓reduceIte]; rfl) (by first | (simp only [BO]; rfl) | rfl) (fun ht => ?_) (fun ht => ?_) <;> try (first | exact False.elim ht | exact absurd rfl ht | exact absurd trivial ht | exact Bool.noConfusion ht))
            | (with_reducible refine k_ret ?_; repeat with_reducible (first | refine ret_thru ?_ | refine ret_blk ?_ | refine fin ?_))
            | (with_reducible refine k_exit ?_; repeat with_reducible (first | refine thru ?_ | refine out_blk ?_ | refine pass (by decide) ?_))
            | (refine post1 ?_; simp only [GA, Nat.reduceEqDiff, ↓reduceIte])
            | (refine post2 ?_; simp only [GA, Nat.reduceEqDiff, ↓reduceIte])
            | (refine post3 ?_; simp only [GA, Nat.reduceEqDiff, ↓reduceIte])
            | (refine postc (by simp only [GA, Nat.reduceEqDiff, ↓reduceIte]; rfl) (by simp (disch := omega) only [hlt', hm, row_m hm, read_row (row_m hm), hmy, row_m hmy, read_row (row_m hmy), gs, gp, rA, rB, sl, pl, hj, c76r0, c76r1, c76r2, c76r3, c76r4, c76r5, c76r6, c76r7, c76r8, c76r10, EV0, EV1, EV2, EV3, EV4, EV5, EV6, EV7, EV8, VALS, plug, ite_same, decide_true, decide_false, eq_self, ↓reduceIte, reduceCtorEq, Nat.reduceAdd, Nat.reduceEqDiff, Nat.reduceLT, Nat.reduceLeDiff, Nat.reduceMul, Nat.reduceSub, Nat.reduceDiv, Int.reduceToNat, Int.reduceAdd, Int.reduceSub, Int.reduceMul, Int.reduceNeg, Int.reduceEq, Int.reduceLT, Int.reduceLE]; rfl) ?_)
            | refine post0 ?_
          exact ⟨true, P.set k i, S1.set k true, rfl, .free hp g hlt hs he hj, by simp (disch := omega) only [hm, c76r0, c76r1, c76r2, c76r3, c76r4, c76r5, c76r6, c76r7, c76r8, c76r10, EV0, EV1, EV2, EV3, EV4, EV5, EV6, EV7, EV8, VALS, plug, ite_same, decide_true, decide_false, eq_self, ↓reduceIte, reduceCtorEq, Nat.reduceAdd, Nat.reduceEqDiff, Nat.reduceLT, Nat.reduceLeDiff, Nat.reduceMul, Nat.reduceSub, Nat.reduceDiv, Int.reduceToNat, Int.reduceAdd, Int.reduceSub, Int.reduceMul, Int.reduceNeg, Int.reduceEq, Int.reduceLT, Int.reduceLE] <;> rfl, by simp (disch := omega) only [hmy, c76r0, c76r1, c76r2, c76r3, c76r4, c76r5, c76r6, c76r7, c76r8, c76r10, EV0, EV1, EV2, EV3, EV4, EV5, EV6, EV7, EV8, VALS, plug, ite_same, decide_true, decide_false, eq_self, ↓reduceIte, reduceCtorEq, Nat.reduceAdd, Nat.reduceEqDiff, Nat.reduceLT, Nat.reduceLeDiff, Nat.reduceMul, Nat.reduceSub, Nat.reduceDiv, Int.reduceToNat, Int.reduceAdd, Int.reduceSub, Int.reduceMul, Int.reduceNeg, Int.reduceEq, Int.reduceLT, Int.reduceLE] <;> rfl⟩
        · obtain ⟨j, hj'⟩ : ∃ j : Nat, pf P k = j := ⟨(pf P k).toNat, by omega⟩
          rw [hj'] at gp hj
          have nx := hp.next g hlt hs hj'
          have lt : uns (S1.set k true) < n := by
            have a := uns_set (S := S1) (k := k) (by omega) hs
            have b := uns_le (S := S) (S' := S1) (by rw [hp.sl, g.sl]) g.le
            omega
          have ih' := fun h => ih _ lt (upd Q k (-1)) P (S1.set k true) j x y h rfl nx hx hy hyx
          repeat' first
            | with_reducible refine k_seq ?_
            | with_reducible refine k_skip ?_
            | with_reducible refine k_blkS ?_
            | with_reducible refine k_blkR ?_
            | with_reducible refine k_blkC ?_
            | with_reducible refine k_blkH ?_
            | with_reducible refine k_blkB ?_
            | with_reducible refine k_blkK ?_
            | with_reducible refine k_blkE ?_
            | with_reducible refine k_reg ?_
            | with_reducible refine k_head (by with_unfolding_all rfl) ?_
            | with_reducible refine k_headS ?_
            | (with_reducible refine SepK.mk ?_ ?_; (refine sepQ_P ?_; simp [sepQ, sepG, AOp.late, AOp.free, AOp.xs, AOp.isAl, tokNe, AV.tok, stS_get, strip, AX.val, c76r0, c76r1, c76r2, c76r3, c76r4, c76r5, c76r6, c76r7, c76r8, c76r10, GA]; try omega))
            | with_reducible refine r_done ?_
            | with_reducible refine hr_done ?_
            | with_reducible refine s_go (by simp (disch := omega) only [hlt', hm, row_m hm, read_row (row_m hm), hmy, row_m hmy, read_row (row_m hmy), gs, gp, rA, rB, sl, pl, hj, c76r0, c76r1, c76r2, c76r3, c76r4, c76r5, c76r6, c76r7, c76r8, c76r10, EV0, EV1, EV2, EV3, EV4, EV5, EV6, EV7, EV8, VALS, plug, ite_same, decide_true, decide_false, eq_self, ↓reduceIte, reduceCtorEq, Nat.reduceAdd, Nat.reduceEqDiff, Nat.reduceLT, Nat.reduceLeDiff, Nat.reduceMul, Nat.reduceSub, Nat.reduceDiv, Int.reduceToNat, Int.reduceAdd, Int.reduceSub, Int.reduceMul, Int.reduceNeg, Int.reduceEq, Int.reduceLT, Int.reduceLE]; with_reducible rfl) ?_
            | with_reducible refine h_go (by with_unfolding_all rfl) (by simp (disch := omega) only [hlt', hm, row_m hm, read_row (row_m hm), hmy, row_m hmy, read_row (row_m hmy), gs, gp, rA, rB, sl, pl, hj, c76r0, c76r1, c76r2, c76r3, c76r4, c76r5, c76r6, c76r7, c76r8, c76r10, EV0, EV1, EV2, EV3, EV4, EV5, EV6, EV7, EV8, VALS, plug, ite_same, decide_true, decide_false, eq_self, ↓reduceIte, reduceCtorEq, Nat.reduceAdd, Nat.reduceEqDiff, Nat.reduceLT, Nat.reduceLeDiff, Nat.reduceMul, Nat.reduceSub, Nat.reduceDiv, Int.reduceToNat, Int.reduceAdd, Int.reduceSub, Int.reduceMul, Int.reduceNeg, Int.reduceEq, Int.reduceLT, Int.reduceLE]; with_reducible rfl) ?_
            | ((with_reducible refine chk_r ?_); refine r_callF (by simp only [CA, Nat.reduceEqDiff, ↓reduceIte]; rfl) (by exact rfl) (by simp only [CA, Nat.reduceEqDiff, ↓reduceIte]; rfl) rfl ?_)
            | ((with_reducible refine chk_h ?_); refine hr_callF (by simp only [CA, Nat.reduceEqDiff, ↓reduceIte]; rfl) (by exact rfl) (by simp only [CA, Nat.reduceEqDiff, ↓reduceIte]; rfl) rfl ?_)
            | ((with_reducible refine chk_r ?_); refine r_callP (by simp only [CA, Nat.reduceEqDiff, ↓reduceIte]; rfl) (by simp only [CA, Nat.reduceEqDiff, ↓reduceIte]; rfl) (by first | exact q57 _) rfl ?_)
            | ((with_reducible refine chk_h ?_); refine hr_callP (by simp only [CA, Nat.reduceEqDiff, ↓reduceIte]; rfl) (by simp only [CA, Nat.reduceEqDiff, ↓reduceIte]; rfl) (by first | exact q57 _) rfl ?_)
            | ((with_reducible refine chk_h ?_); refine hr_callP1 (by simp only [CA, Nat.reduceEqDiff, ↓reduceIte]; rfl) (by simp only [CA, Nat.reduceEqDiff, ↓reduceIte]; rfl) (by simp (disch := omega) only [CA, Nat.reduceEqDiff, ↓reduceIte, firstTok_nil, firstTok_sl, firstTok_sl0, firstTok_i, firstTok_b, firstTok_ag, firstTok_p, firstTok_s]; rfl) (by first | exact q57 _) rfl ?_)
            | ((with_reducible refine chk_r ?_); refine r_callG (by simp only [CA, Nat.reduceEqDiff, ↓reduceIte]; rfl) (by simp only [CA, Nat.reduceEqDiff, ↓reduceIte]; rfl) (by simp only [CA, Nat.reduceEqDiff, ↓reduceIte]; rfl) (by intro hg; (try simp only [BO] at hg); first | exact q57 _) rfl ?_)
            | ((with_reducible refine chk_h ?_); refine hr_callG (by simp only [CA, Nat.reduceEqDiff, ↓reduceIte]; rfl) (by simp only [CA, Nat.reduceEqDiff, ↓reduceIte]; rfl) (by simp only [CA, Nat.reduceEqDiff, ↓reduceIte]; rfl) (by intro hg; (try simp only [BO] at hg); first | exact q57 _) rfl ?_)
            | ((with_reducible refine chk_h ?_); refine hr_app (by simp (disch := omega) only [hlt', hm, row_m hm, read_row (row_m hm), hmy, row_m hmy, read_row (row_m hmy), gs, gp, rA, rB, sl, pl, hj, c76r0, c76r1, c76r2, c76r3, c76r4, c76r5, c76r6, c76r7, c76r8, c76r10, EV0, EV1, EV2, EV3, EV4, EV5, EV6, EV7, EV8, VALS, plug, ite_same, decide_true, decide_false, eq_self, ↓reduceIte, reduceCtorEq, Nat.reduceAdd, Nat.reduceEqDiff, Nat.reduceLT, Nat.reduceLeDiff, Nat.reduceMul, Nat.reduceSub, Nat.reduceDiv, Int.reduceToNat, Int.reduceAdd, Int.reduceSub, Int.reduceMul, Int.reduceNeg, Int.reduceEq, Int.reduceLT, Int.reduceLE]; with_reducible rfl) rfl ?_)
            | ((with_reducible refine chk_r ?_); refine r_callX (by simp only [CA, Nat.reduceEqDiff, ↓reduceIte]; rfl) (by simp only [CA, Nat.reduceEqDiff, ↓reduceIte]; rfl) (by first | exact ih' _ (by simp (disch := omega) only [hm, c76r0, c76r1, c76r2, c76r3, c76r4, c76r5, c76r6, c76r7, c76r8, c76r10, EV0, EV1, EV2, EV3, EV4, EV5, EV6, EV7, EV8, VALS, plug, ite_same, decide_true, decide_false, eq_self, ↓reduceIte, reduceCtorEq, Nat.reduceAdd, Nat.reduceEqDiff, Nat.reduceLT, Nat.reduceLeDiff, Nat.reduceMul, Nat.reduceSub, Nat.reduceDiv, Int.reduceToNat, Int.reduceAdd, Int.reduceSub, Int.reduceMul, Int.reduceNeg, Int.reduceEq, Int.reduceLT, Int.reduceLE] <;> rfl) (by simp (disch := omega) only [hmy, c76r0, c76r1, c76r2, c76r3, c76r4, c76r5, c76r6, c76r7, c76r8, c76r10, EV0, EV1, EV2, EV3, EV4, EV5, EV6, EV7, EV8, VALS, plug, ite_same, decide_true, decide_false, eq_self, ↓reduceIte, reduceCtorEq, Nat.reduceAdd, Nat.reduceEqDiff, Nat.reduceLT, Nat.reduceLeDiff, Nat.reduceMul, Nat.reduceSub, Nat.reduceDiv, Int.reduceToNat, Int.reduceAdd, Int.reduceSub, Int.reduceMul, Int.reduceNeg, Int.reduceEq, Int.reduceLT, Int.reduceLE] <;> rfl)) rfl ?_)
            | ((with_reducible refine chk_r ?_); refine r_callTX (by first | (simp only [CA, Nat.reduceEqDiff, ↓reduceIte]; rfl) | simp only [CA, Nat.reduceEqDiff, ↓reduceIte]) (by simp only [CA, Nat.reduceEqDiff, ↓reduceIte]; rfl) (by simp only [CA, Nat.reduceEqDiff, ↓reduceIte]; rfl) (by first | exact ih' _ (by simp (disch := omega) only [hm, c76r0, c76r1, c76r2, c76r3, c76r4, c76r5, c76r6, c76r7, c76r8, c76r10, EV0, EV1, EV2, EV3, EV4, EV5, EV6, EV7, EV8, VALS, plug, ite_same, decide_true, decide_false, eq_self, ↓reduceIte, reduceCtorEq, Nat.reduceAdd, Nat.reduceEqDiff, Nat.reduceLT, Nat.reduceLeDiff, Nat.reduceMul, Nat.reduceSub, Nat.reduceDiv, Int.reduceToNat, Int.reduceAdd, Int.reduceSub, Int.reduceMul, Int.reduceNeg, Int.reduceEq, Int.reduceLT, Int.reduceLE] <;> rfl) (by simp (disch := omega) only [hmy, c76r0, c76r1, c76r2, c76r3, c76r4, c76r5, c76r6, c76r7, c76r8, c76r10, EV0, EV1, EV2, EV3, EV4, EV5, EV6, EV7, EV8, VALS, plug, ite_same, decide_true, decide_false, eq_self, ↓reduceIte, reduceCtorEq, Nat.reduceAdd, Nat.reduceEqDiff, Nat.reduceLT, Nat.reduceLeDiff, Nat.reduceMul, Nat.reduceSub, Nat.reduceDiv, Int.reduceToNat, Int.reduceAdd, Int.reduceSub, Int.reduceMul, Int.reduceNeg, Int.reduceEq, Int.reduceLT, Int.reduceLE] <;> rfl)) rfl ?_)
            | (with_reducible refine k_condP (by simp only [GA, Nat.reduceEqDiff, ↓reduceIte]; rfl) (by first | (simp only [BO]; rfl) | rfl) (fun ht => ?_) (fun ht => ?_) <;> try (first | exact False.elim ht | exact absurd rfl ht | exact absurd trivial ht | exact Bool.noConfusion ht))
            | (with_reducible refine k_ret ?_; repeat with_reducible (first | refine ret_thru ?_ | refine ret_blk ?_ | refine fin ?_))
            | (with_reducible refine k_exit ?_; repeat with_reducible (first | refine thru ?_ | refine out_blk ?_ | refine pass (by decide) ?_))
            | (refine post1 ?_; simp only [GA, Nat.reduceEqDiff, ↓reduceIte])
            | (refine post2 ?_; simp only [GA, Nat.reduceEqDiff, ↓reduceIte])
            | (refine post3 ?_; simp only [GA, Nat.reduceEqDiff, ↓reduceIte])
            | (refine postc (by simp only [GA, Nat.reduceEqDiff, ↓reduceIte]; rfl) (by simp (disch := omega) only [hlt', hm, row_m hm, read_row (row_m hm), hmy, row_m hmy, read_row (row_m hmy), gs, gp, rA, rB, sl, pl, hj, c76r0, c76r1, c76r2, c76r3, c76r4, c76r5, c76r6, c76r7, c76r8, c76r10, EV0, EV1, EV2, EV3, EV4, EV5, EV6, EV7, EV8, VALS, plug, ite_same, decide_true, decide_false, eq_self, ↓reduceIte, reduceCtorEq, Nat.reduceAdd, Nat.reduceEqDiff, Nat.reduceLT, Nat.reduceLeDiff, Nat.reduceMul, Nat.reduceSub, Nat.reduceDiv, Int.reduceToNat, Int.reduceAdd, Int.reduceSub, Int.reduceMul, Int.reduceNeg, Int.reduceEq, Int.reduceLT, Int.reduceLE]; rfl) ?_)
            | refine post0 ?_
          rintro r h' ⟨b, P2, S2, rfl, f, h1, h2⟩
          have pl2 : P2.length = l.length := f.1
          cases b with
          | true =>
            repeat' first
              | with_reducible refine k_seq ?_
              | with_reducible refine k_skip ?_
              | with_reducible refine k_blkS ?_
              | with_reducible refine k_blkR ?_
              | with_reducible refine k_blkC ?_
              | with_reducible refine k_blkH ?_
              | with_reducible refine k_blkB ?_
              | with_reducible refine k_blkK ?_
              | with_reducible refine k_blkE ?_
              | with_reducible refine k_reg ?_
              | with_reducible refine k_head (by with_unfolding_all rfl) ?_
              | with_reducible refine k_headS ?_
              | (with_reducible refine SepK.mk ?_ ?_; (refine sepQ_P ?_; simp [sepQ, sepG, AOp.late, AOp.free, AOp.xs, AOp.isAl, tokNe, AV.tok, stS_get, strip, AX.val, c76r0, c76r1, c76r2, c76r3, c76r4, c76r5, c76r6, c76r7, c76r8, c76r10, GA]; try omega))
              | with_reducible refine r_done ?_
              | with_reducible refine hr_done ?_
              | with_reducible refine s_go (by simp (disch := omega) only [h1, row_m h1, read_row (row_m h1), pl2, c76r0, c76r1, c76r2, c76r3, c76r4, c76r5, c76r6, c76r7, c76r8, c76r10, EV0, EV1, EV2, EV3, EV4, EV5, EV6, EV7, EV8, VALS, plug, ite_same, decide_true, decide_false, eq_self, ↓reduceIte, reduceCtorEq, Nat.reduceAdd, Nat.reduceEqDiff, Nat.reduceLT, Nat.reduceLeDiff, Nat.reduceMul, Nat.reduceSub, Nat.reduceDiv, Int.reduceToNat, Int.reduceAdd, Int.reduceSub, Int.reduceMul, Int.reduceNeg, Int.reduceEq, Int.reduceLT, Int.reduceLE]; with_reducible rfl) ?_
              | with_reducible refine h_go (by with_unfolding_all rfl) (by simp (disch := omega) only [h1, row_m h1, read_row (row_m h1), pl2, c76r0, c76r1, c76r2, c76r3, c76r4, c76r5, c76r6, c76r7, c76r8, c76r10, EV0, EV1, EV2, EV3, EV4, EV5, EV6, EV7, EV8, VALS, plug, ite_same, decide_true, decide_false, eq_self, ↓reduceIte, reduceCtorEq, Nat.reduceAdd, Nat.reduceEqDiff, Nat.reduceLT, Nat.reduceLeDiff, Nat.reduceMul, Nat.reduceSub, Nat.reduceDiv, Int.reduceToNat, Int.reduceAdd, Int.reduceSub, Int.reduceMul, Int.reduceNeg, Int.reduceEq, Int.reduceLT, Int.reduceLE]; with_reducible rfl) ?_
              | ((with_reducible refine chk_r ?_); refine r_callF (by simp only [CA, Nat.reduceEqDiff, ↓reduceIte]; rfl) (by exact rfl) (by simp only [CA, Nat.reduceEqDiff, ↓reduceIte]; rfl) rfl ?_)
              | ((with_reducible refine chk_h ?_); refine hr_callF (by simp only [CA, Nat.reduceEqDiff, ↓reduceIte]; rfl) (by exact rfl) (by simp only [CA, Nat.reduceEqDiff, ↓reduceIte]; rfl) rfl ?_)
              | ((with_reducible refine chk_h ?_); refine hr_app (by simp (disch := omega) only [h1, row_m h1, read_row (row_m h1), pl2, c76r0, c76r1, c76r2, c76r3, c76r4, c76r5, c76r6, c76r7, c76r8, c76r10, EV0, EV1, EV2, EV3, EV4, EV5, EV6, EV7, EV8, VALS, plug, ite_same, decide_true, decide_false, eq_self, ↓reduceIte, reduceCtorEq, Nat.reduceAdd, Nat.reduceEqDiff, Nat.reduceLT, Nat.reduceLeDiff, Nat.reduceMul, Nat.reduceSub, Nat.reduceDiv, Int.reduceToNat, Int.reduceAdd, Int.reduceSub, Int.reduceMul, Int.reduceNeg, Int.reduceEq, Int.reduceLT, Int.reduceLE]; with_reducible rfl) rfl ?_)
              | (with_reducible refine k_condP (by simp only [GA, Nat.reduceEqDiff, ↓reduceIte]; rfl) (by first | (simp only [BO]; rfl) | rfl) (fun ht => ?_) (fun ht => ?_) <;> try (first | exact False.elim ht | exact absurd rfl ht | exact absurd trivial ht | exact Bool.noConfusion ht))
              | (with_reducible refine k_ret ?_; repeat with_reducible (first | refine ret_thru ?_ | refine ret_blk ?_ | refine fin ?_))
              | (with_reducible refine k_exit ?_; repeat with_reducible (first | refine thru ?_ | refine out_blk ?_ | refine pass (by decide) ?_))
              | (refine post1 ?_; simp only [GA, Nat.reduceEqDiff, ↓reduceIte])
              | (refine post2 ?_; simp only [GA, Nat.reduceEqDiff, ↓reduceIte])
              | (refine post3 ?_; simp only [GA, Nat.reduceEqDiff, ↓reduceIte])
              | (refine postc (by simp only [GA, Nat.reduceEqDiff, ↓reduceIte]; rfl) (by simp (disch := omega) only [h1, row_m h1, read_row (row_m h1), pl2, c76r0, c76r1, c76r2, c76r3, c76r4, c76r5, c76r6, c76r7, c76r8, c76r10, EV0, EV1, EV2, EV3, EV4, EV5, EV6, EV7, EV8, VALS, plug, ite_same, decide_true, decide_false, eq_self, ↓reduceIte, reduceCtorEq, Nat.reduceAdd, Nat.reduceEqDiff, Nat.reduceLT, Nat.reduceLeDiff, Nat.reduceMul, Nat.reduceSub, Nat.reduceDiv, Int.reduceToNat, Int.reduceAdd, Int.reduceSub, Int.reduceMul, Int.reduceNeg, Int.reduceEq, Int.reduceLT, Int.reduceLE]; rfl) ?_)
              | refine post0 ?_
            exact ⟨true, P2.set k i, S2, rfl, .yes hp g hlt hs he hj' f, by simp (disch := omega) only [h1, c76r0, c76r1, c76r2, c76r3, c76r4, c76r5, c76r6, c76r7, c76r8, c76r10, EV0, EV1, EV2, EV3, EV4, EV5, EV6, EV7, EV8, VALS, plug, ite_same, decide_true, decide_false, eq_self, ↓reduceIte, reduceCtorEq, Nat.reduceAdd, Nat.reduceEqDiff, Nat.reduceLT, Nat.reduceLeDiff, Nat.reduceMul, Nat.reduceSub, Nat.reduceDiv, Int.reduceToNat, Int.reduceAdd, Int.reduceSub, Int.reduceMul, Int.reduceNeg, Int.reduceEq, Int.reduceLT, Int.reduceLE] <;> rfl, by simp (disch := omega) only [h2, c76r0, c76r1, c76r2, c76r3, c76r4, c76r5, c76r6, c76r7, c76r8, c76r10, EV0, EV1, EV2, EV3, EV4, EV5, EV6, EV7, EV8, VALS, plug, ite_same, decide_true, decide_false, eq_self, ↓reduceIte, reduceCtorEq, Nat.reduceAdd, Nat.reduceEqDiff, Nat.reduceLT, Nat.reduceLeDiff, Nat.reduceMul, Nat.reduceSub, Nat.reduceDiv, Int.reduceToNat, Int.reduceAdd, Int.reduceSub, Int.reduceMul, Int.reduceNeg, Int.reduceEq, Int.reduceLT, Int.reduceLE]⟩
          | false =>
            obtain ⟨rfl, g2⟩ := g.no hp hlt hs hj' f
            repeat' first
              | with_reducible refine k_seq ?_
              | with_reducible refine k_skip ?_
              | with_reducible refine k_blkS ?_
              | with_reducible refine k_blkR ?_
              | with_reducible refine k_blkC ?_
              | with_reducible refine k_blkH ?_
              | with_reducible refine k_blkB ?_
              | with_reducible refine k_blkK ?_
              | with_reducible refine k_blkE ?_
              | with_reducible refine k_reg ?_
              | with_reducible refine k_head (by with_unfolding_all rfl) ?_
              | with_reducible refine k_headS ?_
              | (with_reducible refine SepK.mk ?_ ?_; (refine sepQ_P ?_; simp [sepQ, sepG, AOp.late, AOp.free, AOp.xs, AOp.isAl, tokNe, AV.tok, stS_get, strip, AX.val, c76r0, c76r1, c76r2, c76r3, c76r4, c76r5, c76r6, c76r7, c76r8, c76r10, GA]; try omega))
              | with_reducible refine r_done ?_
              | with_reducible refine hr_done ?_
              | with_reducible refine s_go (by simp (disch := omega) only [c76r0, c76r1, c76r2, c76r3, c76r4, c76r5, c76r6, c76r7, c76r8, c76r10, EV0, EV1, EV2, EV3, EV4, EV5, EV6, EV7, EV8, VALS, plug, ite_same, decide_true, decide_false, eq_self, ↓reduceIte, reduceCtorEq, Nat.reduceAdd, Nat.reduceEqDiff, Nat.reduceLT, Nat.reduceLeDiff, Nat.reduceMul, Nat.reduceSub, Nat.reduceDiv, Int.reduceToNat, Int.reduceAdd, Int.reduceSub, Int.reduceMul, Int.reduceNeg, Int.reduceEq, Int.reduceLT, Int.reduceLE]; with_reducible rfl) ?_
              | with_reducible refine h_go (by with_unfolding_all rfl) (by simp (disch := omega) only [c76r0, c76r1, c76r2, c76r3, c76r4, c76r5, c76r6, c76r7, c76r8, c76r10, EV0, EV1, EV2, EV3, EV4, EV5, EV6, EV7, EV8, VALS, plug, ite_same, decide_true, decide_false, eq_self, ↓reduceIte, reduceCtorEq, Nat.reduceAdd, Nat.reduceEqDiff, Nat.reduceLT, Nat.reduceLeDiff, Nat.reduceMul, Nat.reduceSub, Nat.reduceDiv, Int.reduceToNat, Int.reduceAdd, Int.reduceSub, Int.reduceMul, Int.reduceNeg, Int.reduceEq, Int.reduceLT, Int.reduceLE]; with_reducible rfl) ?_
              | ((with_reducible refine chk_r ?_); refine r_callF (by simp only [CA, Nat.reduceEqDiff, ↓reduceIte]; rfl) (by exact rfl) (by simp only [CA, Nat.reduceEqDiff, ↓reduceIte]; rfl) rfl ?_)
              | ((with_reducible refine chk_h ?_); refine hr_callF (by simp only [CA, Nat.reduceEqDiff, ↓reduceIte]; rfl) (by exact rfl) (by simp only [CA, Nat.reduceEqDiff, ↓reduceIte]; rfl) rfl ?_)
              | ((with_reducible refine chk_h ?_); refine hr_app (by simp (disch := omega) only [c76r0, c76r1, c76r2, c76r3, c76r4, c76r5, c76r6, c76r7, c76r8, c76r10, EV0, EV1, EV2, EV3, EV4, EV5, EV6, EV7, EV8, VALS, plug, ite_same, decide_true, decide_false, eq_self, ↓reduceIte, reduceCtorEq, Nat.reduceAdd, Nat.reduceEqDiff, Nat.reduceLT, Nat.reduceLeDiff, Nat.reduceMul, Nat.reduceSub, Nat.reduceDiv, Int.reduceToNat, Int.reduceAdd, Int.reduceSub, Int.reduceMul, Int.reduceNeg, Int.reduceEq, Int.reduceLT, Int.reduceLE]; with_reducible rfl) rfl ?_)
              | (with_reducible refine k_condP (by simp only [GA, Nat.reduceEqDiff, ↓reduceIte]; rfl) (by first | (simp only [BO]; rfl) | rfl) (fun ht => ?_) (fun ht => ?_) <;> try (first | exact False.elim ht | exact absurd rfl ht | exact absurd trivial ht | exact Bool.noConfusion ht))
              | (with_reducible refine k_ret ?_; repeat with_reducible (first | refine ret_thru ?_ | refine ret_blk ?_ | refine fin ?_))
              | (with_reducible refine k_exit ?_; repeat with_reducible (first | refine thru ?_ | refine out_blk ?_ | refine pass (by decide) ?_))
              | (refine post1 ?_; simp only [GA, Nat.reduceEqDiff, ↓reduceIte])
              | (refine post2 ?_; simp only [GA, Nat.reduceEqDiff, ↓reduceIte])
              | (refine post3 ?_; simp only [GA, Nat.reduceEqDiff, ↓reduceIte])
              | (refine postc (by simp only [GA, Nat.reduceEqDiff, ↓reduceIte]; rfl) (by simp (disch := omega) only [c76r0, c76r1, c76r2, c76r3, c76r4, c76r5, c76r6, c76r7, c76r8, c76r10, EV0, EV1, EV2, EV3, EV4, EV5, EV6, EV7, EV8, VALS, plug, ite_same, decide_true, decide_false, eq_self, ↓reduceIte, reduceCtorEq, Nat.reduceAdd, Nat.reduceEqDiff, Nat.reduceLT, Nat.reduceLeDiff, Nat.reduceMul, Nat.reduceSub, Nat.reduceDiv, Int.reduceToNat, Int.reduceAdd, Int.reduceSub, Int.reduceMul, Int.reduceNeg, Int.reduceEq, Int.reduceLT, Int.reduceLE]; rfl) ?_)
              | refine post0 ?_
            exact ⟨hlt, S2, (by simp only [Am.keep, List.map_cons, List.map_nil, GA, Nat.reduceEqDiff, ↓reduceIte]; try rfl), g2, by simp (disch := omega) only [h1, c76r0, c76r1, c76r2, c76r3, c76r4, c76r5, c76r6, c76r7, c76r8, c76r10, EV0, EV1, EV2, EV3, EV4, EV5, EV6, EV7, EV8, VALS, plug, ite_same, decide_true, decide_false, eq_self, ↓reduceIte, reduceCtorEq, Nat.reduceAdd, Nat.reduceEqDiff, Nat.reduceLT, Nat.reduceLeDiff, Nat.reduceMul, Nat.reduceSub, Nat.reduceDiv, Int.reduceToNat, Int.reduceAdd, Int.reduceSub, Int.reduceMul, Int.reduceNeg, Int.reduceEq, Int.reduceLT, Int.reduceLE], by simp (disch := omega) only [h2, c76r0, c76r1, c76r2, c76r3, c76r4, c76r5, c76r6, c76r7, c76r8, c76r10, EV0, EV1, EV2, EV3, EV4, EV5, EV6, EV7, EV8, VALS, plug, ite_same, decide_true, decide_false, eq_self, ↓reduceIte, reduceCtorEq, Nat.reduceAdd, Nat.reduceEqDiff, Nat.reduceLT, Nat.reduceLeDiff, Nat.reduceMul, Nat.reduceSub, Nat.reduceDiv, Int.reduceToNat, Int.reduceAdd, Int.reduceSub, Int.reduceMul, Int.reduceNeg, Int.reduceEq, Int.reduceLT, Int.reduceLE]⟩
  · obtain rfl : k = l.length := by omega
    have hlt' : ¬ (l.length : Int) < l.length := by omega
    repeat' first
      | with_reducible refine k_seq ?_
      | with_reducible refine k_skip ?_
      | with_reducible refine k_blkS ?_
      | with_reducible refine k_blkR ?_
      | with_reducible refine k_blkC ?_
      | with_reducible refine k_blkH ?_
      | with_reducible refine k_blkB ?_
      | with_reducible refine k_blkK ?_
      | with_reducible refine k_blkE ?_
      | with_reducible refine k_reg ?_
      | with_reducible refine k_head (by with_unfolding_all rfl) ?_
      | with_reducible refine k_headS ?_
      | (with_reducible refine SepK.mk ?_ ?_; (refine sepQ_P ?_; simp [sepQ, sepG, AOp.late, AOp.free, AOp.xs, AOp.isAl, tokNe, AV.tok, stS_get, strip, AX.val, c76r0, c76r1, c76r2, c76r3, c76r4, c76r5, c76r6, c76r7, c76r8, c76r10, GA]; try omega))
      | with_reducible refine r_done ?_
      | with_reducible refine hr_done ?_
      | with_reducible refine s_go (by simp (disch := omega) only [hlt', c76r0, c76r1, c76r2, c76r3, c76r4, c76r5, c76r6, c76r7, c76r8, c76r10, EV0, EV1, EV2, EV3, EV4, EV5, EV6, EV7, EV8, VALS, plug, ite_same, decide_true, decide_false, eq_self, ↓reduceIte, reduceCtorEq, Nat.reduceAdd, Nat.reduceEqDiff, Nat.reduceLT, Nat.reduceLeDiff, Nat.reduceMul, Nat.reduceSub, Nat.reduceDiv, Int.reduceToNat, Int.reduceAdd, Int.reduceSub, Int.reduceMul, Int.reduceNeg, Int.reduceEq, Int.reduceLT, Int.reduceLE]; with_reducible rfl) ?_
      | with_reducible refine h_go (by with_unfolding_all rfl) (by simp (disch := omega) only [hlt', c76r0, c76r1, c76r2, c76r3, c76r4, c76r5, c76r6, c76r7, c76r8, c76r10, EV0, EV1, EV2, EV3, EV4, EV5, EV6, EV7, EV8, VALS, plug, ite_same, decide_true, decide_false, eq_self, ↓reduceIte, reduceCtorEq, Nat.reduceAdd, Nat.reduceEqDiff, Nat.reduceLT, Nat.reduceLeDiff, Nat.reduceMul, Nat.reduceSub, Nat.reduceDiv, Int.reduceToNat, Int.reduceAdd, Int.reduceSub, Int.reduceMul, Int.reduceNeg, Int.reduceEq, Int.reduceLT, Int.reduceLE]; with_reducible rfl) ?_
      | ((with_reducible refine chk_r ?_); refine r_callF (by simp only [CA, Nat.reduceEqDiff, ↓reduceIte]; rfl) (by exact rfl) (by simp only [CA, Nat.reduceEqDiff, ↓reduceIte]; rfl) rfl ?_)
      | ((with_reducible refine chk_h ?_); refine hr_callF (by simp only [CA, Nat.reduceEqDiff, ↓reduceIte]; rfl) (by exact rfl) (by simp only [CA, Nat.reduceEqDiff, ↓reduceIte]; rfl) rfl ?_)
      | ((with_reducible refine chk_h ?_); refine hr_app (by simp (disch := omega) only [hlt', c76r0, c76r1, c76r2, c76r3, c76r4, c76r5, c76r6, c76r7, c76r8, c76r10, EV0, EV1, EV2, EV3, EV4, EV5, EV6, EV7, EV8, VALS, plug, ite_same, decide_true, decide_false, eq_self, ↓reduceIte, reduceCtorEq, Nat.reduceAdd, Nat.reduceEqDiff, Nat.reduceLT, Nat.reduceLeDiff, Nat.reduceMul, Nat.reduceSub, Nat.reduceDiv, Int.reduceToNat, Int.reduceAdd, Int.reduceSub, Int.reduceMul, Int.reduceNeg, Int.reduceEq, Int.reduceLT, Int.reduceLE]; with_reducible rfl) rfl ?_)
      | (with_reducible refine k_condP (by simp only [GA, Nat.reduceEqDiff, ↓reduceIte]; rfl) (by first | (simp only [BO]; rfl) | rfl) (fun ht => ?_) (fun ht => ?_) <;> try (first | exact False.elim ht | exact absurd rfl ht | exact absurd trivial ht | exact Bool.noConfusion ht))
      | (with_reducible refine k_ret ?_; repeat with_reducible (first | refine ret_thru ?_ | refine ret_blk ?_ | refine fin ?_))
      | (with_reducible refine k_exit ?_; repeat with_reducible (first | refine thru ?_ | refine out_blk ?_ | refine pass (by decide) ?_))
      | (refine post1 ?_; simp only [GA, Nat.reduceEqDiff, ↓reduceIte])
      | (refine post2 ?_; simp only [GA, Nat.reduceEqDiff, ↓reduceIte])
      | (refine post3 ?_; simp only [GA, Nat.reduceEqDiff, ↓reduceIte])
      | (refine postc (by simp only [GA, Nat.reduceEqDiff, ↓reduceIte]; rfl) (by simp (disch := omega) only [hlt', c76r0, c76r1, c76r2, c76r3, c76r4, c76r5, c76r6, c76r7, c76r8, c76r10, EV0, EV1, EV2, EV3, EV4, EV5, EV6, EV7, EV8, VALS, plug, ite_same, decide_true, decide_false, eq_self, ↓reduceIte, reduceCtorEq, Nat.reduceAdd, Nat.reduceEqDiff, Nat.reduceLT, Nat.reduceLeDiff, Nat.reduceMul, Nat.reduceSub, Nat.reduceDiv, Int.reduceToNat, Int.reduceAdd, Int.reduceSub, Int.reduceMul, Int.reduceNeg, Int.reduceEq, Int.reduceLT, Int.reduceLE]; rfl) ?_)
      | refine post0 ?_
    exact ⟨false, P, S1, rfl, .no hp g, by simp (disch := omega) only [hm, c76r0, c76r1, c76r2, c76r3, c76r4, c76r5, c76r6, c76r7, c76r8, c76r10, EV0, EV1, EV2, EV3, EV4, EV5, EV6, EV7, EV8, VALS, plug, ite_same, decide_true, decide_false, eq_self, ↓reduceIte, reduceCtorEq, Nat.reduceAdd, Nat.reduceEqDiff, Nat.reduceLT, Nat.reduceLeDiff, Nat.reduceMul, Nat.reduceSub, Nat.reduceDiv, Int.reduceToNat, Int.reduceAdd, Int.reduceSub, Int.reduceMul, Int.reduceNeg, Int.reduceEq, Int.reduceLT, Int.reduceLE], by simp (disch := omega) only [hmy, c76r0, c76r1, c76r2, c76r3, c76r4, c76r5, c76r6, c76r7, c76r8, c76r10, EV0, EV1, EV2, EV3, EV4, EV5, EV6, EV7, EV8, VALS, plug, ite_same, decide_true, decide_false, eq_self, ↓reduceIte, reduceCtorEq, Nat.reduceAdd, Nat.reduceEqDiff, Nat.reduceLT, Nat.reduceLeDiff, Nat.reduceMul, Nat.reduceSub, Nat.reduceDiv, Int.reduceToNat, Int.reduceAdd, Int.reduceSub, Int.reduceMul, Int.reduceNeg, Int.reduceEq, Int.reduceLT, Int.reduceLE]⟩
theorem sf_rep (n m : Nat) : sf (List.replicate n false) m = false := by
  unfold sf
  by_cases h : m < n <;> simp [List.getD_eq_getElem?_getD, h]
set_option maxHeartbeats 1000000 in
theorem pc65 (l : List T) (hv : VL l) (tol : Int) : PC Try.prog 65 [vT l, .i .i64 tol] (.i .i64 ((matchL l tol).length : Int)) := by
  refine pc_fn fn65 (by simp only [AV.plains, AV.plain, il_plain, bl_plain, Bool.and_true, Bool.true_and, Bool.and_self, flT_plain]) (by simp only [AV.plains, AV.plain, il_plain, bl_plain, Bool.and_true, Bool.true_and, Bool.and_self, flT_plain]) (Nat.le_of_ble_eq_true rfl) ?_
  rw [initSt2]
  have hl := hv.len
  repeat' first
    | with_reducible refine k_seq ?_
    | with_reducible refine k_skip ?_
    | with_reducible refine k_blkS ?_
    | with_reducible refine k_blkR ?_
    | with_reducible refine k_blkC ?_
    | with_reducible refine k_blkH ?_
    | with_reducible refine k_blkB ?_
    | with_reducible refine k_blkK ?_
    | with_reducible refine k_blkE ?_
    | with_reducible refine k_reg ?_
    | with_reducible refine r_done ?_
    | with_reducible refine s_go (by simp (disch := omega) only [c65r0, c65r1, c65r2, c65r3, c65r4, c65r5, c65r7, c65r8, c65r9, c65r10, c65r11, c65r12, c65r14, EV0, EV1, EV2, EV3, EV4, EV5, EV6, EV7, EV8, VALS, plug, ite_same, decide_true, decide_false, eq_self, ↓reduceIte, reduceCtorEq, Nat.reduceAdd, Nat.reduceEqDiff, Nat.reduceLT, Nat.reduceLeDiff, Nat.reduceMul, Nat.reduceSub, Nat.reduceDiv, Int.reduceToNat, Int.reduceAdd, Int.reduceSub, Int.reduceMul, Int.reduceNeg, Int.reduceEq, Int.reduceLT, Int.reduceLE]; with_reducible rfl) ?_
    | ((with_reducible refine chk_r ?_); refine r_callF (by simp only [CA, Nat.reduceEqDiff, ↓reduceIte]; rfl) (by exact rfl) (by simp only [CA, Nat.reduceEqDiff, ↓reduceIte]; rfl) rfl ?_)
    | (with_reducible refine k_condP (by simp only [GA, Nat.reduceEqDiff, ↓reduceIte]; rfl) (by first | (simp only [BO]; rfl) | rfl) (fun ht => ?_) (fun ht => ?_) <;> try (first | exact False.elim ht | exact absurd rfl ht | exact absurd trivial ht | exact Bool.noConfusion ht))
    | (with_reducible refine k_ret ?_; repeat with_reducible (first | refine ret_thru ?_ | refine ret_blk ?_ | refine fin ?_))
    | (with_reducible refine k_exit ?_; repeat with_reducible (first | refine thru ?_ | refine out_blk ?_ | refine pass (by decide) ?_))
    | (refine post1 ?_; simp only [GA, Nat.reduceEqDiff, ↓reduceIte])
    | (refine post2 ?_; simp only [GA, Nat.reduceEqDiff, ↓reduceIte])
    | (refine post3 ?_; simp only [GA, Nat.reduceEqDiff, ↓reduceIte])
    | (refine postc (by simp only [GA, Nat.reduceEqDiff, ↓reduceIte]; rfl) (by simp (disch := omega) only [c65r0, c65r1, c65r2, c65r3, c65r4, c65r5, c65r7, c65r8, c65r9, c65r10, c65r11, c65r12, c65r14, EV0, EV1, EV2, EV3, EV4, EV5, EV6, EV7, EV8, VALS, plug, ite_same, decide_true, decide_false, eq_self, ↓reduceIte, reduceCtorEq, Nat.reduceAdd, Nat.reduceEqDiff, Nat.reduceLT, Nat.reduceLeDiff, Nat.reduceMul, Nat.reduceSub, Nat.reduceDiv, Int.reduceToNat, Int.reduceAdd, Int.reduceSub, Int.reduceMul, Int.reduceNeg, Int.reduceEq, Int.reduceLT, Int.reduceLE]; rfl) ?_)
    | refine post0 ?_
  refine k_blk (k_loopS (X := Nat × List Int) [0, 1, 5, 6] l.length (fun k x => [(0, vT l), (1, .i .i64 tol), (5, .sl x.1 0 l.length 1), (6, .i .i64 (k : Int))]) (fun k x h => x.1 ≠ 0 ∧ h.m x.1 = some (.cells true (il x.2)) ∧ x.2.length = l.length ∧ ∀ m, m < k → pf x.2 m = -1) (_, List.replicate l.length 0) (by simp only [Am.keep, List.map_cons, List.map_nil, GA, Nat.reduceEqDiff, ↓reduceIte]; try rfl) ⟨?_, by simp (disch := omega) only [il_rep, c65r0, c65r1, c65r2, c65r3, c65r4, c65r5, c65r7, c65r8, c65r9, c65r10, c65r11, c65r12, c65r14, EV0, EV1, EV2, EV3, EV4, EV5, EV6, EV7, EV8, VALS, plug, ite_same, decide_true, decide_false, eq_self, ↓reduceIte, reduceCtorEq, Nat.reduceAdd, Nat.reduceEqDiff, Nat.reduceLT, Nat.reduceLeDiff, Nat.reduceMul, Nat.reduceSub, Nat.reduceDiv, Int.reduceToNat, Int.reduceAdd, Int.reduceSub, Int.reduceMul, Int.reduceNeg, Int.reduceEq, Int.reduceLT, Int.reduceLE] <;> rfl, by simp, fun m hm => by omega⟩ ?_)
  · simp only [AH.bump_nx]; omega
  rintro k ⟨x, P⟩ h hk ⟨hx, hm, pl, hP⟩ ok pos
  simp only at hx hm pl hP ⊢
  have hx' := ok.m hm
  by_cases hlt : k < l.length
  · have hlt' : (k : Int) < l.length := by omega
    repeat' first
      | with_reducible refine k_seq ?_
      | with_reducible refine k_skip ?_
      | with_reducible refine k_blkS ?_
      | with_reducible refine k_blkR ?_
      | with_reducible refine k_blkC ?_
      | with_reducible refine k_blkH ?_
      | with_reducible refine k_blkB ?_
      | with_reducible refine k_blkK ?_
      | with_reducible refine k_blkE ?_
      | with_reducible refine k_reg ?_
      | with_reducible refine r_done ?_
      | with_reducible refine s_go (by simp (disch := omega) only [hlt', hm, row_m hm, pl, c65r0, c65r1, c65r2, c65r3, c65r4, c65r5, c65r7, c65r8, c65r9, c65r10, c65r11, c65r12, c65r14, EV0, EV1, EV2, EV3, EV4, EV5, EV6, EV7, EV8, VALS, plug, ite_same, decide_true, decide_false, eq_self, ↓reduceIte, reduceCtorEq, Nat.reduceAdd, Nat.reduceEqDiff, Nat.reduceLT, Nat.reduceLeDiff, Nat.reduceMul, Nat.reduceSub, Nat.reduceDiv, Int.reduceToNat, Int.reduceAdd, Int.reduceSub, Int.reduceMul, Int.reduceNeg, Int.reduceEq, Int.reduceLT, Int.reduceLE]; with_reducible rfl) ?_
      | ((with_reducible refine chk_r ?_); refine r_callF (by simp only [CA, Nat.reduceEqDiff, ↓reduceIte]; rfl) (by exact rfl) (by simp only [CA, Nat.reduceEqDiff, ↓reduceIte]; rfl) rfl ?_)
      | (with_reducible refine k_condP (by simp only [GA, Nat.reduceEqDiff, ↓reduceIte]; rfl) (by first | (simp only [BO]; rfl) | rfl) (fun ht => ?_) (fun ht => ?_) <;> try (first | exact False.elim ht | exact absurd rfl ht | exact absurd trivial ht | exact Bool.noConfusion ht))
      | (with_reducible refine k_ret ?_; repeat with_reducible (first | refine ret_thru ?_ | refine ret_blk ?_ | refine fin ?_))
      | (with_reducible refine k_exit ?_; repeat with_reducible (first | refine thru ?_ | refine out_blk ?_ | refine pass (by decide) ?_))
      | (refine post1 ?_; simp only [GA, Nat.reduceEqDiff, ↓reduceIte])
      | (refine post2 ?_; simp only [GA, Nat.reduceEqDiff, ↓reduceIte])
      | (refine post3 ?_; simp only [GA, Nat.reduceEqDiff, ↓reduceIte])
      | (refine postc (by simp only [GA, Nat.reduceEqDiff, ↓reduceIte]; rfl) (by simp (disch := omega) only [hlt', hm, row_m hm, pl, c65r0, c65r1, c65r2, c65r3, c65r4, c65r5, c65r7, c65r8, c65r9, c65r10, c65r11, c65r12, c65r14, EV0, EV1, EV2, EV3, EV4, EV5, EV6, EV7, EV8, VALS, plug, ite_same, decide_true, decide_false, eq_self, ↓reduceIte, reduceCtorEq, Nat.reduceAdd, Nat.reduceEqDiff, Nat.reduceLT, Nat.reduceLeDiff, Nat.reduceMul, Nat.reduceSub, Nat.reduceDiv, Int.reduceToNat, Int.reduceAdd, Int.reduceSub, Int.reduceMul, Int.reduceNeg, Int.reduceEq, Int.reduceLT, Int.reduceLE]; rfl) ?_)
      | refine post0 ?_
    refine ⟨hlt, ⟨x, P.set k (-1)⟩, (by simp only [Am.keep, List.map_cons, List.map_nil, GA, Nat.reduceEqDiff, ↓reduceIte]; try rfl), hx, by simp (disch := omega) only [hm, c65r0, c65r1, c65r2, c65r3, c65r4, c65r5, c65r7, c65r8, c65r9, c65r10, c65r11, c65r12, c65r14, EV0, EV1, EV2, EV3, EV4, EV5, EV6, EV7, EV8, VALS, plug, ite_same, decide_true, decide_false, eq_self, ↓reduceIte, reduceCtorEq, Nat.reduceAdd, Nat.reduceEqDiff, Nat.reduceLT, Nat.reduceLeDiff, Nat.reduceMul, Nat.reduceSub, Nat.reduceDiv, Int.reduceToNat, Int.reduceAdd, Int.reduceSub, Int.reduceMul, Int.reduceNeg, Int.reduceEq, Int.reduceLT, Int.reduceLE] <;> rfl, by rw [List.length_set]; exact pl, fun m hm => ?_⟩
    rw [pf_set (by omega)]
    split
    · rfl
    · exact hP m (by omega)
  · obtain rfl : k = l.length := by omega
    have hlt' : ¬ (l.length : Int) < l.length := by omega
    have hP : ∀ m, pf P m = -1 := fun m => by
      by_cases h : m < l.length
      · exact hP m h
      · unfold pf; simp [List.getD_eq_getElem?_getD, List.getElem?_eq_none (show P.length ≤ m by omega)]
    have c0 : cnt (pf P) l.length = 0 := by
      have : cnt (pf P) l.length = cnt (fun _ => -1) l.length := cnt_congr fun k _ => by rw [hP k]
      rw [this]; simp [cnt]
    repeat' first
      | with_reducible refine k_seq ?_
      | with_reducible refine k_skip ?_
      | with_reducible refine k_blkS ?_
      | with_reducible refine k_blkR ?_
      | with_reducible refine k_blkC ?_
      | with_reducible refine k_blkH ?_
      | with_reducible refine k_blkB ?_
      | with_reducible refine k_blkK ?_
      | with_reducible refine k_blkE ?_
      | with_reducible refine k_reg ?_
      | with_reducible refine r_done ?_
      | with_reducible refine s_go (by simp (disch := omega) only [hlt', c65r0, c65r1, c65r2, c65r3, c65r4, c65r5, c65r7, c65r8, c65r9, c65r10, c65r11, c65r12, c65r14, EV0, EV1, EV2, EV3, EV4, EV5, EV6, EV7, EV8, VALS, plug, ite_same, decide_true, decide_false, eq_self, ↓reduceIte, reduceCtorEq, Nat.reduceAdd, Nat.reduceEqDiff, Nat.reduceLT, Nat.reduceLeDiff, Nat.reduceMul, Nat.reduceSub, Nat.reduceDiv, Int.reduceToNat, Int.reduceAdd, Int.reduceSub, Int.reduceMul, Int.reduceNeg, Int.reduceEq, Int.reduceLT, Int.reduceLE]; with_reducible rfl) ?_
      | ((with_reducible refine chk_r ?_); refine r_callF (by simp only [CA, Nat.reduceEqDiff, ↓reduceIte]; rfl) (by exact rfl) (by simp only [CA, Nat.reduceEqDiff, ↓reduceIte]; rfl) rfl ?_)
      | (with_reducible refine k_condP (by simp only [GA, Nat.reduceEqDiff, ↓reduceIte]; rfl) (by first | (simp only [BO]; rfl) | rfl) (fun ht => ?_) (fun ht => ?_) <;> try (first | exact False.elim ht | exact absurd rfl ht | exact absurd trivial ht | exact Bool.noConfusion ht))
      | (with_reducible refine k_ret ?_; repeat with_reducible (first | refine ret_thru ?_ | refine ret_blk ?_ | refine fin ?_))
      | (with_reducible refine k_exit ?_; repeat with_reducible (first | refine thru ?_ | refine out_blk ?_ | refine pass (by decide) ?_))
      | (refine post1 ?_; simp only [GA, Nat.reduceEqDiff, ↓reduceIte])
      | (refine post2 ?_; simp only [GA, Nat.reduceEqDiff, ↓reduceIte])
      | (refine post3 ?_; simp only [GA, Nat.reduceEqDiff, ↓reduceIte])
      | (refine postc (by simp only [GA, Nat.reduceEqDiff, ↓reduceIte]; rfl) (by simp (disch := omega) only [hlt', c65r0, c65r1, c65r2, c65r3, c65r4, c65r5, c65r7, c65r8, c65r9, c65r10, c65r11, c65r12, c65r14, EV0, EV1, EV2, EV3, EV4, EV5, EV6, EV7, EV8, VALS, plug, ite_same, decide_true, decide_false, eq_self, ↓reduceIte, reduceCtorEq, Nat.reduceAdd, Nat.reduceEqDiff, Nat.reduceLT, Nat.reduceLeDiff, Nat.reduceMul, Nat.reduceSub, Nat.reduceDiv, Int.reduceToNat, Int.reduceAdd, Int.reduceSub, Int.reduceMul, Int.reduceNeg, Int.reduceEq, Int.reduceLT, Int.reduceLE]; rfl) ?_)
      | refine post0 ?_
    refine k_blk (k_loopS (X := Nat × List Int) [0, 1, 5, 7, 8] l.length (fun k x => [(0, vT l), (1, .i .i64 tol), (5, .sl x.1 0 l.length 1), (7, .i .i64 (cnt (pf x.2) l.length : Nat)), (8, .i .i64 (k : Int))])
      (fun k x h => x.1 ≠ 0 ∧ h.m x.1 = some (.cells true (il x.2)) ∧ x.2.length = l.length ∧ MQ l tol (pf x.2) ∧ (∀ m, pf x.2 m < k) ∧ cnt (pf x.2) l.length ≤ k ∧ Top l tol k (cnt (pf x.2) l.length)) (x, P)
      (by simp only [Am.keep, List.map_cons, List.map_nil, GA, Nat.reduceEqDiff, ↓reduceIte, c0]; rfl) ⟨hx, by simp (disch := omega) only [hm, c65r0, c65r1, c65r2, c65r3, c65r4, c65r5, c65r7, c65r8, c65r9, c65r10, c65r11, c65r12, c65r14, EV0, EV1, EV2, EV3, EV4, EV5, EV6, EV7, EV8, VALS, plug, ite_same, decide_true, decide_false, eq_self, ↓reduceIte, reduceCtorEq, Nat.reduceAdd, Nat.reduceEqDiff, Nat.reduceLT, Nat.reduceLeDiff, Nat.reduceMul, Nat.reduceSub, Nat.reduceDiv, Int.reduceToNat, Int.reduceAdd, Int.reduceSub, Int.reduceMul, Int.reduceNeg, Int.reduceEq, Int.reduceLT, Int.reduceLE], pl, ⟨fun k => .inl (hP k), fun k k' h => by rw [hP k] at h; omega⟩, fun m => by simp only [hP m]; omega, by simp only [c0]; omega, by simp only [c0]; exact Top.zero l tol⟩ ?_)
    clear hP c0 pl hm hx' ok pos
    rintro k ⟨x, P⟩ h hk ⟨hx, hm, pl, mq, hP, hc, top⟩ ok pos
    simp only at hx hm pl mq hP hc top ⊢
    have hx' := ok.m hm
    by_cases hlt : k < l.length
    · have hlt' : (k : Int) < l.length := by omega
      have g1 := getT1 hlt
      by_cases hs : (l.getD k T0).side = 1
      · have pre : Pre l tol (pf P) P (List.replicate l.length false) k := ⟨pl, by simp, hlt, hs, mq, fun _ _ => rfl, fun m => by have := hP m; omega⟩
        have q76 := fun y h hy hyx => ac76 l hv tol _ (pf P) P (List.replicate l.length false) k x y h rfl pre hx hy hyx
        repeat' first
          | with_reducible refine k_seq ?_
          | with_reducible refine k_skip ?_
          | with_reducible refine k_blkS ?_
          | with_reducible refine k_blkR ?_
          | with_reducible refine k_blkC ?_
          | with_reducible refine k_blkH ?_
          | with_reducible refine k_blkB ?_
          | with_reducible refine k_blkK ?_
          | with_reducible refine k_blkE ?_
          | with_reducible refine k_reg ?_
          | with_reducible refine r_done ?_
          | with_reducible refine s_go (by simp (disch := omega) only [hlt', g1, hs, hm, c65r0, c65r1, c65r2, c65r3, c65r4, c65r5, c65r7, c65r8, c65r9, c65r10, c65r11, c65r12, c65r14, EV0, EV1, EV2, EV3, EV4, EV5, EV6, EV7, EV8, VALS, plug, ite_same, decide_true, decide_false, eq_self, ↓reduceIte, reduceCtorEq, Nat.reduceAdd, Nat.reduceEqDiff, Nat.reduceLT, Nat.reduceLeDiff, Nat.reduceMul, Nat.reduceSub, Nat.reduceDiv, Int.reduceToNat, Int.reduceAdd, Int.reduceSub, Int.reduceMul, Int.reduceNeg, Int.reduceEq, Int.reduceLT, Int.reduceLE]; with_reducible rfl) ?_
          | ((with_reducible refine chk_r ?_); refine r_callF (by simp only [CA, Nat.reduceEqDiff, ↓reduceIte]; rfl) (by exact rfl) (by simp only [CA, Nat.reduceEqDiff, ↓reduceIte]; rfl) rfl ?_)
          | ((with_reducible refine chk_r ?_); refine r_callX (by simp only [CA, Nat.reduceEqDiff, ↓reduceIte]; rfl) (by simp only [CA, Nat.reduceEqDiff, ↓reduceIte]; rfl) (by first | exact q76 _ _ (by omega) (by omega) (by simp (disch := omega) only [hm, c65r0, c65r1, c65r2, c65r3, c65r4, c65r5, c65r7, c65r8, c65r9, c65r10, c65r11, c65r12, c65r14, EV0, EV1, EV2, EV3, EV4, EV5, EV6, EV7, EV8, VALS, plug, ite_same, decide_true, decide_false, eq_self, ↓reduceIte, reduceCtorEq, Nat.reduceAdd, Nat.reduceEqDiff, Nat.reduceLT, Nat.reduceLeDiff, Nat.reduceMul, Nat.reduceSub, Nat.reduceDiv, Int.reduceToNat, Int.reduceAdd, Int.reduceSub, Int.reduceMul, Int.reduceNeg, Int.reduceEq, Int.reduceLT, Int.reduceLE] <;> rfl) (by simp (disch := omega) only [bl_rep, c65r0, c65r1, c65r2, c65r3, c65r4, c65r5, c65r7, c65r8, c65r9, c65r10, c65r11, c65r12, c65r14, EV0, EV1, EV2, EV3, EV4, EV5, EV6, EV7, EV8, VALS, plug, ite_same, decide_true, decide_false, eq_self, ↓reduceIte, reduceCtorEq, Nat.reduceAdd, Nat.reduceEqDiff, Nat.reduceLT, Nat.reduceLeDiff, Nat.reduceMul, Nat.reduceSub, Nat.reduceDiv, Int.reduceToNat, Int.reduceAdd, Int.reduceSub, Int.reduceMul, Int.reduceNeg, Int.reduceEq, Int.reduceLT, Int.reduceLE] <;> rfl)) rfl ?_)
          | ((with_reducible refine chk_r ?_); refine r_callTX (by first | (simp only [CA, Nat.reduceEqDiff, ↓reduceIte]; rfl) | simp only [CA, Nat.reduceEqDiff, ↓reduceIte]) (by simp only [CA, Nat.reduceEqDiff, ↓reduceIte]; rfl) (by simp only [CA, Nat.reduceEqDiff, ↓reduceIte]; rfl) (by first | exact q76 _ _ (by omega) (by omega) (by simp (disch := omega) only [hm, c65r0, c65r1, c65r2, c65r3, c65r4, c65r5, c65r7, c65r8, c65r9, c65r10, c65r11, c65r12, c65r14, EV0, EV1, EV2, EV3, EV4, EV5, EV6, EV7, EV8, VALS, plug, ite_same, decide_true, decide_false, eq_self, ↓reduceIte, reduceCtorEq, Nat.reduceAdd, Nat.reduceEqDiff, Nat.reduceLT, Nat.reduceLeDiff, Nat.reduceMul, Nat.reduceSub, Nat.reduceDiv, Int.reduceToNat, Int.reduceAdd, Int.reduceSub, Int.reduceMul, Int.reduceNeg, Int.reduceEq, Int.reduceLT, Int.reduceLE] <;> rfl) (by simp (disch := omega) only [bl_rep, c65r0, c65r1, c65r2, c65r3, c65r4, c65r5, c65r7, c65r8, c65r9, c65r10, c65r11, c65r12, c65r14, EV0, EV1, EV2, EV3, EV4, EV5, EV6, EV7, EV8, VALS, plug, ite_same, decide_true, decide_false, eq_self, ↓reduceIte, reduceCtorEq, Nat.reduceAdd, Nat.reduceEqDiff, Nat.reduceLT, Nat.reduceLeDiff, Nat.reduceMul, Nat.reduceSub, Nat.reduceDiv, Int.reduceToNat, Int.reduceAdd, Int.reduceSub, Int.reduceMul, Int.reduceNeg, Int.reduceEq, Int.reduceLT, Int.reduceLE] <;> rfl)) rfl ?_)
          | (with_reducible refine k_condP (by simp only [GA, Nat.reduceEqDiff, ↓reduceIte]; rfl) (by first | (simp only [BO]; rfl) | rfl) (fun ht => ?_) (fun ht => ?_) <;> try (first | exact False.elim ht | exact absurd rfl ht | exact absurd trivial ht | exact Bool.noConfusion ht))
          | (with_reducible refine k_ret ?_; repeat with_reducible (first | refine ret_thru ?_ | refine ret_blk ?_ | refine fin ?_))
          | (with_reducible refine k_exit ?_; repeat with_reducible (first | refine thru ?_ | refine out_blk ?_ | refine pass (by decide) ?_))
          | (refine post1 ?_; simp only [GA, Nat.reduceEqDiff, ↓reduceIte])
          | (refine post2 ?_; simp only [GA, Nat.reduceEqDiff, ↓reduceIte])
          | (refine post3 ?_; simp only [GA, Nat.reduceEqDiff, ↓reduceIte])
          | (refine postc (by simp only [GA, Nat.reduceEqDiff, ↓reduceIte]; rfl) (by simp (disch := omega) only [hlt', g1, hs, hm, c65r0, c65r1, c65r2, c65r3, c65r4, c65r5, c65r7, c65r8, c65r9, c65r10, c65r11, c65r12, c65r14, EV0, EV1, EV2, EV3, EV4, EV5, EV6, EV7, EV8, VALS, plug, ite_same, decide_true, decide_false, eq_self, ↓reduceIte, reduceCtorEq, Nat.reduceAdd, Nat.reduceEqDiff, Nat.reduceLT, Nat.reduceLeDiff, Nat.reduceMul, Nat.reduceSub, Nat.reduceDiv, Int.reduceToNat, Int.reduceAdd, Int.reduceSub, Int.reduceMul, Int.reduceNeg, Int.reduceEq, Int.reduceLT, Int.reduceLE]; rfl) ?_)
          | refine post0 ?_
        rintro r h' ⟨b, P2, S2, rfl, f, h1, h2⟩
        obtain ⟨f1, f2, f3, f4, f5⟩ := f
        cases b with
        | true =>
          obtain ⟨f6, f7, f8⟩ := f4 rfl
          have view : mix (List.replicate l.length false) (pf P) P2 = pf P2 := by
            funext m
            unfold mix
            rw [sf_rep, if_neg (by simp)]
          rw [view] at f6 f7 f8
          repeat' first
            | with_reducible refine k_seq ?_
            | with_reducible refine k_skip ?_
            | with_reducible refine k_blkS ?_
            | with_reducible refine k_blkR ?_
            | with_reducible refine k_blkC ?_
            | with_reducible refine k_blkH ?_
            | with_reducible refine k_blkB ?_
            | with_reducible refine k_blkK ?_
            | with_reducible refine k_blkE ?_
            | with_reducible refine k_reg ?_
            | with_reducible refine r_done ?_
            | with_reducible refine s_go (by simp (disch := omega) only [c65r0, c65r1, c65r2, c65r3, c65r4, c65r5, c65r7, c65r8, c65r9, c65r10, c65r11, c65r12, c65r14, EV0, EV1, EV2, EV3, EV4, EV5, EV6, EV7, EV8, VALS, plug, ite_same, decide_true, decide_false, eq_self, ↓reduceIte, reduceCtorEq, Nat.reduceAdd, Nat.reduceEqDiff, Nat.reduceLT, Nat.reduceLeDiff, Nat.reduceMul, Nat.reduceSub, Nat.reduceDiv, Int.reduceToNat, Int.reduceAdd, Int.reduceSub, Int.reduceMul, Int.reduceNeg, Int.reduceEq, Int.reduceLT, Int.reduceLE]; with_reducible rfl) ?_
            | ((with_reducible refine chk_r ?_); refine r_callF (by simp only [CA, Nat.reduceEqDiff, ↓reduceIte]; rfl) (by exact rfl) (by simp only [CA, Nat.reduceEqDiff, ↓reduceIte]; rfl) rfl ?_)
            | (with_reducible refine k_condP (by simp only [GA, Nat.reduceEqDiff, ↓reduceIte]; rfl) (by first | (simp only [BO]; rfl) | rfl) (fun ht => ?_) (fun ht => ?_) <;> try (first | exact False.elim ht | exact absurd rfl ht | exact absurd trivial ht | exact Bool.noConfusion ht))
            | (with_reducible refine k_ret ?_; repeat with_reducible (first | refine ret_thru ?_ | refine ret_blk ?_ | refine fin ?_))
            | (with_reducible refine k_exit ?_; repeat with_reducible (first | refine thru ?_ | refine out_blk ?_ | refine pass (by decide) ?_))
            | (refine post1 ?_; simp only [GA, Nat.reduceEqDiff, ↓reduceIte])
            | (refine post2 ?_; simp only [GA, Nat.reduceEqDiff, ↓reduceIte])
            | (refine post3 ?_; simp only [GA, Nat.reduceEqDiff, ↓reduceIte])
            | (refine postc (by simp only [GA, Nat.reduceEqDiff, ↓reduceIte]; rfl) (by simp (disch := omega) only [c65r0, c65r1, c65r2, c65r3, c65r4, c65r5, c65r7, c65r8, c65r9, c65r10, c65r11, c65r12, c65r14, EV0, EV1, EV2, EV3, EV4, EV5, EV6, EV7, EV8, VALS, plug, ite_same, decide_true, decide_false, eq_self, ↓reduceIte, reduceCtorEq, Nat.reduceAdd, Nat.reduceEqDiff, Nat.reduceLT, Nat.reduceLeDiff, Nat.reduceMul, Nat.reduceSub, Nat.reduceDiv, Int.reduceToNat, Int.reduceAdd, Int.reduceSub, Int.reduceMul, Int.reduceNeg, Int.reduceEq, Int.reduceLT, Int.reduceLE]; rfl) ?_)
            | refine post0 ?_
          refine ⟨hlt, ⟨x, P2⟩, by (simp only [Am.keep, List.map_cons, List.map_nil, GA, Nat.reduceEqDiff, ↓reduceIte, f7]; rfl), hx, by simp (disch := omega) only [h1, c65r0, c65r1, c65r2, c65r3, c65r4, c65r5, c65r7, c65r8, c65r9, c65r10, c65r11, c65r12, c65r14, EV0, EV1, EV2, EV3, EV4, EV5, EV6, EV7, EV8, VALS, plug, ite_same, decide_true, decide_false, eq_self, ↓reduceIte, reduceCtorEq, Nat.reduceAdd, Nat.reduceEqDiff, Nat.reduceLT, Nat.reduceLeDiff, Nat.reduceMul, Nat.reduceSub, Nat.reduceDiv, Int.reduceToNat, Int.reduceAdd, Int.reduceSub, Int.reduceMul, Int.reduceNeg, Int.reduceEq, Int.reduceLT, Int.reduceLE], f1, f6, fun m => ?_, by simp only [f7]; omega, by simp only [f7]; exact top.yes⟩
          by_cases h0 : 0 ≤ pf P2 m
          · rcases f8 m h0 with e | ⟨k', e⟩
            · simp only []; omega
            · have := hP k'; simp only []; omega
          · simp only []; omega
        | false =>
          obtain ⟨rfl, f6, f7⟩ := f5 rfl
          repeat' first
            | with_reducible refine k_seq ?_
            | with_reducible refine k_skip ?_
            | with_reducible refine k_blkS ?_
            | with_reducible refine k_blkR ?_
            | with_reducible refine k_blkC ?_
            | with_reducible refine k_blkH ?_
            | with_reducible refine k_blkB ?_
            | with_reducible refine k_blkK ?_
            | with_reducible refine k_blkE ?_
            | with_reducible refine k_reg ?_
            | with_reducible refine r_done ?_
            | with_reducible refine s_go (by simp (disch := omega) only [c65r0, c65r1, c65r2, c65r3, c65r4, c65r5, c65r7, c65r8, c65r9, c65r10, c65r11, c65r12, c65r14, EV0, EV1, EV2, EV3, EV4, EV5, EV6, EV7, EV8, VALS, plug, ite_same, decide_true, decide_false, eq_self, ↓reduceIte, reduceCtorEq, Nat.reduceAdd, Nat.reduceEqDiff, Nat.reduceLT, Nat.reduceLeDiff, Nat.reduceMul, Nat.reduceSub, Nat.reduceDiv, Int.reduceToNat, Int.reduceAdd, Int.reduceSub, Int.reduceMul, Int.reduceNeg, Int.reduceEq, Int.reduceLT, Int.reduceLE]; with_reducible rfl) ?_
            | ((with_reducible refine chk_r ?_); refine r_callF (by simp only [CA, Nat.reduceEqDiff, ↓reduceIte]; rfl) (by exact rfl) (by simp only [CA, Nat.reduceEqDiff, ↓reduceIte]; rfl) rfl ?_)
            | (with_reducible refine k_condP (by simp only [GA, Nat.reduceEqDiff, ↓reduceIte]; rfl) (by first | (simp only [BO]; rfl) | rfl) (fun ht => ?_) (fun ht => ?_) <;> try (first | exact False.elim ht | exact absurd rfl ht | exact absurd trivial ht | exact Bool.noConfusion ht))
            | (with_reducible refine k_ret ?_; repeat with_reducible (first | refine ret_thru ?_ | refine ret_blk ?_ | refine fin ?_))
            | (with_reducible refine k_exit ?_; repeat with_reducible (first | refine thru ?_ | refine out_blk ?_ | refine pass (by decide) ?_))
            | (refine post1 ?_; simp only [GA, Nat.reduceEqDiff, ↓reduceIte])
            | (refine post2 ?_; simp only [GA, Nat.reduceEqDiff, ↓reduceIte])
            | (refine post3 ?_; simp only [GA, Nat.reduceEqDiff, ↓reduceIte])
            | (refine postc (by simp only [GA, Nat.reduceEqDiff, ↓reduceIte]; rfl) (by simp (disch := omega) only [c65r0, c65r1, c65r2, c65r3, c65r4, c65r5, c65r7, c65r8, c65r9, c65r10, c65r11, c65r12, c65r14, EV0, EV1, EV2, EV3, EV4, EV5, EV6, EV7, EV8, VALS, plug, ite_same, decide_true, decide_false, eq_self, ↓reduceIte, reduceCtorEq, Nat.reduceAdd, Nat.reduceEqDiff, Nat.reduceLT, Nat.reduceLeDiff, Nat.reduceMul, Nat.reduceSub, Nat.reduceDiv, Int.reduceToNat, Int.reduceAdd, Int.reduceSub, Int.reduceMul, Int.reduceNeg, Int.reduceEq, Int.reduceLT, Int.reduceLE]; rfl) ?_)
            | refine post0 ?_
          exact ⟨hlt, ⟨x, P2⟩, (by simp only [Am.keep, List.map_cons, List.map_nil, GA, Nat.reduceEqDiff, ↓reduceIte]; try rfl), hx, by simp (disch := omega) only [h1, c65r0, c65r1, c65r2, c65r3, c65r4, c65r5, c65r7, c65r8, c65r9, c65r10, c65r11, c65r12, c65r14, EV0, EV1, EV2, EV3, EV4, EV5, EV6, EV7, EV8, VALS, plug, ite_same, decide_true, decide_false, eq_self, ↓reduceIte, reduceCtorEq, Nat.reduceAdd, Nat.reduceEqDiff, Nat.reduceLT, Nat.reduceLeDiff, Nat.reduceMul, Nat.reduceSub, Nat.reduceDiv, Int.reduceToNat, Int.reduceAdd, Int.reduceSub, Int.reduceMul, Int.reduceNeg, Int.reduceEq, Int.reduceLT, Int.reduceLE], pl, mq, fun m => by have := hP m; simp only []; omega, by simp only []; omega, top.no hv mq hP f6 fun m hm => f7 m hm (sf_rep _ _)⟩
      · repeat' first
          | with_reducible refine k_seq ?_
          | with_reducible refine k_skip ?_
          | with_reducible refine k_blkS ?_
          | with_reducible refine k_blkR ?_
          | with_reducible refine k_blkC ?_
          | with_reducible refine k_blkH ?_
          | with_reducible refine k_blkB ?_
          | with_reducible refine k_blkK ?_
          | with_reducible refine k_blkE ?_
          | with_reducible refine k_reg ?_
          | with_reducible refine r_done ?_
          | with_reducible refine s_go (by simp (disch := omega) only [hlt', g1, hs, hm, c65r0, c65r1, c65r2, c65r3, c65r4, c65r5, c65r7, c65r8, c65r9, c65r10, c65r11, c65r12, c65r14, EV0, EV1, EV2, EV3, EV4, EV5, EV6, EV7, EV8, VALS, plug, ite_same, decide_true, decide_false, eq_self, ↓reduceIte, reduceCtorEq, Nat.reduceAdd, Nat.reduceEqDiff, Nat.reduceLT, Nat.reduceLeDiff, Nat.reduceMul, Nat.reduceSub, Nat.reduceDiv, Int.reduceToNat, Int.reduceAdd, Int.reduceSub, Int.reduceMul, Int.reduceNeg, Int.reduceEq, Int.reduceLT, Int.reduceLE]; with_reducible rfl) ?_
          | ((with_reducible refine chk_r ?_); refine r_callF (by simp only [CA, Nat.reduceEqDiff, ↓reduceIte]; rfl) (by exact rfl) (by simp only [CA, Nat.reduceEqDiff, ↓reduceIte]; rfl) rfl ?_)
          | (with_reducible refine k_condP (by simp only [GA, Nat.reduceEqDiff, ↓reduceIte]; rfl) (by first | (simp only [BO]; rfl) | rfl) (fun ht => ?_) (fun ht => ?_) <;> try (first | exact False.elim ht | exact absurd rfl ht | exact absurd trivial ht | exact Bool.noConfusion ht))
          | (with_reducible refine k_ret ?_; repeat with_reducible (first | refine ret_thru ?_ | refine ret_blk ?_ | refine fin ?_))
          | (with_reducible refine k_exit ?_; repeat with_reducible (first | refine thru ?_ | refine out_blk ?_ | refine pass (by decide) ?_))
          | (refine post1 ?_; simp only [GA, Nat.reduceEqDiff, ↓reduceIte])
          | (refine post2 ?_; simp only [GA, Nat.reduceEqDiff, ↓reduceIte])
          | (refine post3 ?_; simp only [GA, Nat.reduceEqDiff, ↓reduceIte])
          | (refine postc (by simp only [GA, Nat.reduceEqDiff, ↓reduceIte]; rfl) (by simp (disch := omega) only [hlt', g1, hs, hm, c65r0, c65r1, c65r2, c65r3, c65r4, c65r5, c65r7, c65r8, c65r9, c65r10, c65r11, c65r12, c65r14, EV0, EV1, EV2, EV3, EV4, EV5, EV6, EV7, EV8, VALS, plug, ite_same, decide_true, decide_false, eq_self, ↓reduceIte, reduceCtorEq, Nat.reduceAdd, Nat.reduceEqDiff, Nat.reduceLT, Nat.reduceLeDiff, Nat.reduceMul, Nat.reduceSub, Nat.reduceDiv, Int.reduceToNat, Int.reduceAdd, Int.reduceSub, Int.reduceMul, Int.reduceNeg, Int.reduceEq, Int.reduceLT, Int.reduceLE]; rfl) ?_)
          | refine post0 ?_
        exact ⟨hlt, ⟨x, P⟩, (by simp only [Am.keep, List.map_cons, List.map_nil, GA, Nat.reduceEqDiff, ↓reduceIte]; try rfl), hx, by simp (disch := omega) only [hm, c65r0, c65r1, c65r2, c65r3, c65r4, c65r5, c65r7, c65r8, c65r9, c65r10, c65r11, c65r12, c65r14, EV0, EV1, EV2, EV3, EV4, EV5, EV6, EV7, EV8, VALS, plug, ite_same, decide_true, decide_false, eq_self, ↓reduceIte, reduceCtorEq, Nat.reduceAdd, Nat.reduceEqDiff, Nat.reduceLT, Nat.reduceLeDiff, Nat.reduceMul, Nat.reduceSub, Nat.reduceDiv, Int.reduceToNat, Int.reduceAdd, Int.reduceSub, Int.reduceMul, Int.reduceNeg, Int.reduceEq, Int.reduceLT, Int.reduceLE], pl, mq, fun m => by have := hP m; simp only []; omega, by simp only []; omega, top.skip hs⟩
    · obtain rfl : k = l.length := by omega
      have hlt' : ¬ (l.length : Int) < l.length := by omega
      repeat' first
        | with_reducible refine k_seq ?_
        | with_reducible refine k_skip ?_
        | with_reducible refine k_blkS ?_
        | with_reducible refine k_blkR ?_
        | with_reducible refine k_blkC ?_
        | with_reducible refine k_blkH ?_
        | with_reducible refine k_blkB ?_
        | with_reducible refine k_blkK ?_
        | with_reducible refine k_blkE ?_
        | with_reducible refine k_reg ?_
        | with_reducible refine r_done ?_
        | with_reducible refine s_go (by simp (disch := omega) only [hlt', top.fin hv mq, c65r0, c65r1, c65r2, c65r3, c65r4, c65r5, c65r7, c65r8, c65r9, c65r10, c65r11, c65r12, c65r14, EV0, EV1, EV2, EV3, EV4, EV5, EV6, EV7, EV8, VALS, plug, ite_same, decide_true, decide_false, eq_self, ↓reduceIte, reduceCtorEq, Nat.reduceAdd, Nat.reduceEqDiff, Nat.reduceLT, Nat.reduceLeDiff, Nat.reduceMul, Nat.reduceSub, Nat.reduceDiv, Int.reduceToNat, Int.reduceAdd, Int.reduceSub, Int.reduceMul, Int.reduceNeg, Int.reduceEq, Int.reduceLT, Int.reduceLE]; with_reducible rfl) ?_
        | ((with_reducible refine chk_r ?_); refine r_callF (by simp only [CA, Nat.reduceEqDiff, ↓reduceIte]; rfl) (by exact rfl) (by simp only [CA, Nat.reduceEqDiff, ↓reduceIte]; rfl) rfl ?_)
        | (with_reducible refine k_condP (by simp only [GA, Nat.reduceEqDiff, ↓reduceIte]; rfl) (by first | (simp only [BO]; rfl) | rfl) (fun ht => ?_) (fun ht => ?_) <;> try (first | exact False.elim ht | exact absurd rfl ht | exact absurd trivial ht | exact Bool.noConfusion ht))
        | (with_reducible refine k_ret ?_; repeat with_reducible (first | refine ret_thru ?_ | refine ret_blk ?_ | refine fin ?_))
        | (with_reducible refine k_exit ?_; repeat with_reducible (first | refine thru ?_ | refine out_blk ?_ | refine pass (by decide) ?_))
        | (refine post1 ?_; simp only [GA, Nat.reduceEqDiff, ↓reduceIte])
        | (refine post2 ?_; simp only [GA, Nat.reduceEqDiff, ↓reduceIte])
        | (refine post3 ?_; simp only [GA, Nat.reduceEqDiff, ↓reduceIte])
        | (refine postc (by simp only [GA, Nat.reduceEqDiff, ↓reduceIte]; rfl) (by simp (disch := omega) only [hlt', top.fin hv mq, c65r0, c65r1, c65r2, c65r3, c65r4, c65r5, c65r7, c65r8, c65r9, c65r10, c65r11, c65r12, c65r14, EV0, EV1, EV2, EV3, EV4, EV5, EV6, EV7, EV8, VALS, plug, ite_same, decide_true, decide_false, eq_self, ↓reduceIte, reduceCtorEq, Nat.reduceAdd, Nat.reduceEqDiff, Nat.reduceLT, Nat.reduceLeDiff, Nat.reduceMul, Nat.reduceSub, Nat.reduceDiv, Int.reduceToNat, Int.reduceAdd, Int.reduceSub, Int.reduceMul, Int.reduceNeg, Int.reduceEq, Int.reduceLT, Int.reduceLE]; rfl) ?_)
        | refine post0 ?_
      all_goals first | exact ends_of | exact ends_eq rfl
end Go.Proofs.Ytbhkbaapfioijaa
set_option linter.unusedVariables false
set_option linter.unusedSimpArgs false
namespace Go.Proofs.Ytbhkbaapfioijaa
open Go Go.Am Go.Proofs Go.Sort
section
variable {P : Program} {N : Nat} {Q : Exit → St → AH → Prop} {st : St} {h : AH}
/-- a block behind a pointer in one slot, az a value from here on -/
theorem w_frzP {c : AC} (d : Nat) {t : Nat} {cs : List AV} (hm : h.m t = some (.cells true cs)) (hd : st.get d = .p t 0) (w : W P N c Q ((d, .pv cs 0) :: st) (h.kill t)) : W P N c Q st h :=
  w_frz hm (fun x => by
    simp only [St.get]
    by_cases e : x = d
    · subst e; rw [if_pos rfl, hd]; exact .p
    · rw [if_neg e]; exact .same) w
end
end Go.Proofs.Ytbhkbaapfioijaa
set_option linter.unusedVariables false
set_option linter.unusedSimpArgs false
namespace Go.Proofs.Ytbhkbaapfioijaa
open Go Go.Am Go.Proofs Go.Sort
/-! ### sort.Search -/
theorem wrapu {n : Nat} (h : n ≤ 9223372036854775807) : IntKind.u64.wrap (n : Int) = n := by
  have : IntKind.u64.wrap (n : Int) = (n : Int) % 18446744073709551616 := rfl
  rw [this]; omega
theorem half (n : Nat) : (n : Int).fdiv (2 ^ min 1 IntKind.u64.bits) = ((n / 2 : Nat) : Int) := by
  have : (2 ^ min 1 IntKind.u64.bits : Int) = 2 := rfl
  rw [this, Int.fdiv_eq_ediv_of_nonneg _ (by decide), Int.natCast_ediv]; rfl
theorem pc61 (N r : Nat) (hN : N ≤ 1000000) (hr : r ≤ N) (g : Nat) (caps : List AV) (hc : AV.plains caps = true) (hg : ∀ t : Nat, t < N → PC Try.prog g (.i .i64 (t : Int) :: caps) (.b (decide (r ≤ t)))) : PC Try.prog 61 [.i .i64 (N : Int), .fn g [] caps] (.i .i64 (r : Int)) := by
  refine pc_fn fn61 (by simp only [AV.plains, AV.plain, il_plain, bl_plain, Bool.and_true, Bool.true_and, Bool.and_self, hc]) (by simp only [AV.plains, AV.plain, il_plain, bl_plain, Bool.and_true, Bool.true_and, Bool.and_self, hc]) (Nat.le_of_ble_eq_true rfl) ?_
  rw [initSt2]
  repeat' first
    | with_reducible refine k_seq ?_
    | with_reducible refine k_skip ?_
    | with_reducible refine k_blkS ?_
    | with_reducible refine k_blkR ?_
    | with_reducible refine k_blkC ?_
    | with_reducible refine k_blkH ?_
    | with_reducible refine k_blkB ?_
    | with_reducible refine k_blkK ?_
    | with_reducible refine k_blkE ?_
    | with_reducible refine k_reg ?_
    | with_reducible refine r_done ?_
    | with_reducible refine s_go (by simp (disch := omega) only [c61r0, c61r1, c61r2, c61r3, c61r4, c61r5, c61r6, c61r8, EV0, EV1, EV2, EV3, EV4, EV5, EV6, EV7, EV8, VALS, plug, ite_same, decide_true, decide_false, eq_self, ↓reduceIte, reduceCtorEq, Nat.reduceAdd, Nat.reduceEqDiff, Nat.reduceLT, Nat.reduceLeDiff, Nat.reduceMul, Nat.reduceSub, Nat.reduceDiv, Int.reduceToNat, Int.reduceAdd, Int.reduceSub, Int.reduceMul, Int.reduceNeg, Int.reduceEq, Int.reduceLT, Int.reduceLE]; with_reducible rfl) ?_
    | ((with_reducible refine chk_r ?_); refine r_callF (by simp only [CA, Nat.reduceEqDiff, ↓reduceIte]; rfl) (by exact rfl) (by simp only [CA, Nat.reduceEqDiff, ↓reduceIte]; rfl) rfl ?_)
    | (with_reducible refine k_condP (by simp only [GA, Nat.reduceEqDiff, ↓reduceIte]; rfl) (by first | (simp only [BO]; rfl) | rfl) (fun ht => ?_) (fun ht => ?_) <;> try (first | exact False.elim ht | exact absurd rfl ht | exact absurd trivial ht | exact Bool.noConfusion ht))
    | (with_reducible refine k_ret ?_; repeat with_reducible (first | refine ret_thru ?_ | refine ret_blk ?_ | refine fin ?_))
    | (with_reducible refine k_exit ?_; repeat with_reducible (first | refine thru ?_ | refine out_blk ?_ | refine pass (by decide) ?_))
    | (refine post1 ?_; simp only [GA, Nat.reduceEqDiff, ↓reduceIte])
    | (refine post2 ?_; simp only [GA, Nat.reduceEqDiff, ↓reduceIte])
    | (refine post3 ?_; simp only [GA, Nat.reduceEqDiff, ↓reduceIte])
    | (refine postc (by simp only [GA, Nat.reduceEqDiff, ↓reduceIte]; rfl) (by simp (disch := omega) only [c61r0, c61r1, c61r2, c61r3, c61r4, c61r5, c61r6, c61r8, EV0, EV1, EV2, EV3, EV4, EV5, EV6, EV7, EV8, VALS, plug, ite_same, decide_true, decide_false, eq_self, ↓reduceIte, reduceCtorEq, Nat.reduceAdd, Nat.reduceEqDiff, Nat.reduceLT, Nat.reduceLeDiff, Nat.reduceMul, Nat.reduceSub, Nat.reduceDiv, Int.reduceToNat, Int.reduceAdd, Int.reduceSub, Int.reduceMul, Int.reduceNeg, Int.reduceEq, Int.reduceLT, Int.reduceLE]; rfl) ?_)
    | refine post0 ?_
  refine k_blk (k_loopW (X := Nat × Nat) [1, 5, 6] (fun x => [(1, .fn g [] caps), (5, .i .i64 (x.1 : Int)), (6, .i .i64 (x.2 : Int))]) (fun x => x.2 - x.1) (fun x h => x.1 ≤ r ∧ r ≤ x.2 ∧ x.2 ≤ N) (0, N) (by simp only [Am.keep, List.map_cons, List.map_nil, GA, Nat.reduceEqDiff, ↓reduceIte]; try rfl) ⟨Nat.zero_le _, hr, Nat.le_refl _⟩ ?_)
  rintro ⟨i, j⟩ h ⟨h1, h2, h3⟩ ok pos
  simp only at h1 h2 h3 ⊢
  by_cases hlt : i < j
  · have hlt' : (i : Int) < j := by omega
    have w1 : IntKind.u64.wrap ((i : Int) + j) = ((i + j : Nat) : Int) := by rw [← Int.natCast_add]; exact wrapu (by omega)
    have w2 := half (i + j)
    have w3 : IntKind.i64.wrap (((i + j) / 2 : Nat) : Int) = (((i + j) / 2 : Nat) : Int) := wrap64 (by omega) (by omega)
    have q := hg ((i + j) / 2) (by omega)
    by_cases hh : r ≤ (i + j) / 2
    · rw [decide_eq_true hh] at q
      repeat' first
        | with_reducible refine k_seq ?_
        | with_reducible refine k_skip ?_
        | with_reducible refine k_blkS ?_
        | with_reducible refine k_blkR ?_
        | with_reducible refine k_blkC ?_
        | with_reducible refine k_blkH ?_
        | with_reducible refine k_blkB ?_
        | with_reducible refine k_blkK ?_
        | with_reducible refine k_blkE ?_
        | with_reducible refine k_reg ?_
        | with_reducible refine r_done ?_
        | with_reducible refine s_go (by simp (disch := omega) only [hlt', w1, w2, w3, c61r0, c61r1, c61r2, c61r3, c61r4, c61r5, c61r6, c61r8, EV0, EV1, EV2, EV3, EV4, EV5, EV6, EV7, EV8, VALS, plug, ite_same, decide_true, decide_false, eq_self, ↓reduceIte, reduceCtorEq, Nat.reduceAdd, Nat.reduceEqDiff, Nat.reduceLT, Nat.reduceLeDiff, Nat.reduceMul, Nat.reduceSub, Nat.reduceDiv, Int.reduceToNat, Int.reduceAdd, Int.reduceSub, Int.reduceMul, Int.reduceNeg, Int.reduceEq, Int.reduceLT, Int.reduceLE]; with_reducible rfl) ?_
        | ((with_reducible refine chk_r ?_); refine r_callF (by simp only [CA, Nat.reduceEqDiff, ↓reduceIte]; rfl) (by exact rfl) (by simp only [CA, Nat.reduceEqDiff, ↓reduceIte]; rfl) rfl ?_)
        | ((with_reducible refine chk_r ?_); refine r_callP (by simp only [CA, Nat.reduceEqDiff, ↓reduceIte]; rfl) (by simp only [CA, Nat.reduceEqDiff, ↓reduceIte]; rfl) (by first | exact q _) rfl ?_)
        | (with_reducible refine k_condP (by simp only [GA, Nat.reduceEqDiff, ↓reduceIte]; rfl) (by first | (simp only [BO]; rfl) | rfl) (fun ht => ?_) (fun ht => ?_) <;> try (first | exact False.elim ht | exact absurd rfl ht | exact absurd trivial ht | exact Bool.noConfusion ht))
        | (with_reducible refine k_ret ?_; repeat with_reducible (first | refine ret_thru ?_ | refine ret_blk ?_ | refine fin ?_))
        | (with_reducible refine k_exit ?_; repeat with_reducible (first | refine thru ?_ | refine out_blk ?_ | refine pass (by decide) ?_))
        | (refine post1 ?_; simp only [GA, Nat.reduceEqDiff, ↓reduceIte])
        | (refine post2 ?_; simp only [GA, Nat.reduceEqDiff, ↓reduceIte])
        | (refine post3 ?_; simp only [GA, Nat.reduceEqDiff, ↓reduceIte])
        | (refine postc (by simp only [GA, Nat.reduceEqDiff, ↓reduceIte]; rfl) (by simp (disch := omega) only [hlt', w1, w2, w3, c61r0, c61r1, c61r2, c61r3, c61r4, c61r5, c61r6, c61r8, EV0, EV1, EV2, EV3, EV4, EV5, EV6, EV7, EV8, VALS, plug, ite_same, decide_true, decide_false, eq_self, ↓reduceIte, reduceCtorEq, Nat.reduceAdd, Nat.reduceEqDiff, Nat.reduceLT, Nat.reduceLeDiff, Nat.reduceMul, Nat.reduceSub, Nat.reduceDiv, Int.reduceToNat, Int.reduceAdd, Int.reduceSub, Int.reduceMul, Int.reduceNeg, Int.reduceEq, Int.reduceLT, Int.reduceLE]; rfl) ?_)
        | refine post0 ?_
      exact ⟨(i, (i + j) / 2), by simp only []; omega, (by simp only [Am.keep, List.map_cons, List.map_nil, GA, Nat.reduceEqDiff, ↓reduceIte]; try rfl), h1, hh, by simp only []; omega⟩
    · rw [decide_eq_false hh] at q
      have w4 : (((i + j) / 2 : Nat) : Int) + 1 = (((i + j) / 2 + 1 : Nat) : Int) := by omega
      repeat' first
        | with_reducible refine k_seq ?_
        | with_reducible refine k_skip ?_
        | with_reducible refine k_blkS ?_
        | with_reducible refine k_blkR ?_
        | with_reducible refine k_blkC ?_
        | with_reducible refine k_blkH ?_
        | with_reducible refine k_blkB ?_
        | with_reducible refine k_blkK ?_
        | with_reducible refine k_blkE ?_
        | with_reducible refine k_reg ?_
        | with_reducible refine r_done ?_
        | with_reducible refine s_go (by simp (disch := omega) only [hlt', w1, w2, w3, w4, c61r0, c61r1, c61r2, c61r3, c61r4, c61r5, c61r6, c61r8, EV0, EV1, EV2, EV3, EV4, EV5, EV6, EV7, EV8, VALS, plug, ite_same, decide_true, decide_false, eq_self, ↓reduceIte, reduceCtorEq, Nat.reduceAdd, Nat.reduceEqDiff, Nat.reduceLT, Nat.reduceLeDiff, Nat.reduceMul, Nat.reduceSub, Nat.reduceDiv, Int.reduceToNat, Int.reduceAdd, Int.reduceSub, Int.reduceMul, Int.reduceNeg, Int.reduceEq, Int.reduceLT, Int.reduceLE]; with_reducible rfl) ?_
        | ((with_reducible refine chk_r ?_); refine r_callF (by simp only [CA, Nat.reduceEqDiff, ↓reduceIte]; rfl) (by exact rfl) (by simp only [CA, Nat.reduceEqDiff, ↓reduceIte]; rfl) rfl ?_)
        | ((with_reducible refine chk_r ?_); refine r_callP (by simp only [CA, Nat.reduceEqDiff, ↓reduceIte]; rfl) (by simp only [CA, Nat.reduceEqDiff, ↓reduceIte]; rfl) (by first | exact q _) rfl ?_)
        | (with_reducible refine k_condP (by simp only [GA, Nat.reduceEqDiff, ↓reduceIte]; rfl) (by first | (simp only [BO]; rfl) | rfl) (fun ht => ?_) (fun ht => ?_) <;> try (first | exact False.elim ht | exact absurd rfl ht | exact absurd trivial ht | exact Bool.noConfusion ht))
        | (with_reducible refine k_ret ?_; repeat with_reducible (first | refine ret_thru ?_ | refine ret_blk ?_ | refine fin ?_))
        | (with_reducible refine k_exit ?_; repeat with_reducible (first | refine thru ?_ | refine out_blk ?_ | refine pass (by decide) ?_))
        | (refine post1 ?_; simp only [GA, Nat.reduceEqDiff, ↓reduceIte])
        | (refine post2 ?_; simp only [GA, Nat.reduceEqDiff, ↓reduceIte])
        | (refine post3 ?_; simp only [GA, Nat.reduceEqDiff, ↓reduceIte])
        | (refine postc (by simp only [GA, Nat.reduceEqDiff, ↓reduceIte]; rfl) (by simp (disch := omega) only [hlt', w1, w2, w3, w4, c61r0, c61r1, c61r2, c61r3, c61r4, c61r5, c61r6, c61r8, EV0, EV1, EV2, EV3, EV4, EV5, EV6, EV7, EV8, VALS, plug, ite_same, decide_true, decide_false, eq_self, ↓reduceIte, reduceCtorEq, Nat.reduceAdd, Nat.reduceEqDiff, Nat.reduceLT, Nat.reduceLeDiff, Nat.reduceMul, Nat.reduceSub, Nat.reduceDiv, Int.reduceToNat, Int.reduceAdd, Int.reduceSub, Int.reduceMul, Int.reduceNeg, Int.reduceEq, Int.reduceLT, Int.reduceLE]; rfl) ?_)
        | refine post0 ?_
      exact ⟨((i + j) / 2 + 1, j), by simp only []; omega, (by simp only [Am.keep, List.map_cons, List.map_nil, GA, Nat.reduceEqDiff, ↓reduceIte]; try rfl), by simp only []; omega, h2, h3⟩
  · have hlt' : ¬ (i : Int) < j := by omega
    obtain rfl : i = r := by omega
    repeat' first
      | with_reducible refine k_seq ?_
      | with_reducible refine k_skip ?_
      | with_reducible refine k_blkS ?_
      | with_reducible refine k_blkR ?_
      | with_reducible refine k_blkC ?_
      | with_reducible refine k_blkH ?_
      | with_reducible refine k_blkB ?_
      | with_reducible refine k_blkK ?_
      | with_reducible refine k_blkE ?_
      | with_reducible refine k_reg ?_
      | with_reducible refine r_done ?_
      | with_reducible refine s_go (by simp (disch := omega) only [hlt', c61r0, c61r1, c61r2, c61r3, c61r4, c61r5, c61r6, c61r8, EV0, EV1, EV2, EV3, EV4, EV5, EV6, EV7, EV8, VALS, plug, ite_same, decide_true, decide_false, eq_self, ↓reduceIte, reduceCtorEq, Nat.reduceAdd, Nat.reduceEqDiff, Nat.reduceLT, Nat.reduceLeDiff, Nat.reduceMul, Nat.reduceSub, Nat.reduceDiv, Int.reduceToNat, Int.reduceAdd, Int.reduceSub, Int.reduceMul, Int.reduceNeg, Int.reduceEq, Int.reduceLT, Int.reduceLE]; with_reducible rfl) ?_
      | ((with_reducible refine chk_r ?_); refine r_callF (by simp only [CA, Nat.reduceEqDiff, ↓reduceIte]; rfl) (by exact rfl) (by simp only [CA, Nat.reduceEqDiff, ↓reduceIte]; rfl) rfl ?_)
      | (with_reducible refine k_condP (by simp only [GA, Nat.reduceEqDiff, ↓reduceIte]; rfl) (by first | (simp only [BO]; rfl) | rfl) (fun ht => ?_) (fun ht => ?_) <;> try (first | exact False.elim ht | exact absurd rfl ht | exact absurd trivial ht | exact Bool.noConfusion ht))
      | (with_reducible refine k_ret ?_; repeat with_reducible (first | refine ret_thru ?_ | refine ret_blk ?_ | refine fin ?_))
      | (with_reducible refine k_exit ?_; repeat with_reducible (first | refine thru ?_ | refine out_blk ?_ | refine pass (by decide) ?_))
      | (refine post1 ?_; simp only [GA, Nat.reduceEqDiff, ↓reduceIte])
      | (refine post2 ?_; simp only [GA, Nat.reduceEqDiff, ↓reduceIte])
      | (refine post3 ?_; simp only [GA, Nat.reduceEqDiff, ↓reduceIte])
      | (refine postc (by simp only [GA, Nat.reduceEqDiff, ↓reduceIte]; rfl) (by simp (disch := omega) only [hlt', c61r0, c61r1, c61r2, c61r3, c61r4, c61r5, c61r6, c61r8, EV0, EV1, EV2, EV3, EV4, EV5, EV6, EV7, EV8, VALS, plug, ite_same, decide_true, decide_false, eq_self, ↓reduceIte, reduceCtorEq, Nat.reduceAdd, Nat.reduceEqDiff, Nat.reduceLT, Nat.reduceLeDiff, Nat.reduceMul, Nat.reduceSub, Nat.reduceDiv, Int.reduceToNat, Int.reduceAdd, Int.reduceSub, Int.reduceMul, Int.reduceNeg, Int.reduceEq, Int.reduceLT, Int.reduceLE]; rfl) ?_)
      | refine post0 ?_
    all_goals first | exact ends_of | exact ends_eq rfl
theorem pc62 (l : List T) (hv : VL l) (t n : Int) : PC Try.prog 62 [.i .i64 t, .pv [vT l] 0, .pv [.i .i64 n] 0] (.b (decide (n ≤ (matchL l t).length))) := by
  refine pc_fn fn62 (by simp only [AV.plains, AV.plain, il_plain, bl_plain, Bool.and_true, Bool.true_and, Bool.and_self, flT_plain]) (by simp only [AV.plains, AV.plain, il_plain, bl_plain, Bool.and_true, Bool.true_and, Bool.and_self, flT_plain]) (Nat.le_of_ble_eq_true rfl) ?_
  rw [initSt3]
  have q := pc50 l hv t
  repeat' first
    | with_reducible refine k_seq ?_
    | with_reducible refine k_skip ?_
    | with_reducible refine k_blkS ?_
    | with_reducible refine k_blkR ?_
    | with_reducible refine k_blkC ?_
    | with_reducible refine k_blkH ?_
    | with_reducible refine k_blkB ?_
    | with_reducible refine k_blkK ?_
    | with_reducible refine k_blkE ?_
    | with_reducible refine k_reg ?_
    | with_reducible refine k_head (by with_unfolding_all rfl) ?_
    | with_reducible refine k_headS ?_
    | (with_reducible refine SepK.mk ?_ ?_; (refine sepQ_P ?_; simp [sepQ, sepG, AOp.late, AOp.free, AOp.xs, AOp.isAl, tokNe, AV.tok, stS_get, strip, AX.val, c62r0, c62r1, GA]; try omega))
    | with_reducible refine r_done ?_
    | with_reducible refine hr_done ?_
    | with_reducible refine s_go (by simp (disch := omega) only [c62r0, c62r1, EV0, EV1, EV2, EV3, EV4, EV5, EV6, EV7, EV8, VALS, plug, ite_same, decide_true, decide_false, eq_self, ↓reduceIte, reduceCtorEq, Nat.reduceAdd, Nat.reduceEqDiff, Nat.reduceLT, Nat.reduceLeDiff, Nat.reduceMul, Nat.reduceSub, Nat.reduceDiv, Int.reduceToNat, Int.reduceAdd, Int.reduceSub, Int.reduceMul, Int.reduceNeg, Int.reduceEq, Int.reduceLT, Int.reduceLE]; with_reducible rfl) ?_
    | with_reducible refine h_go (by with_unfolding_all rfl) (by simp (disch := omega) only [c62r0, c62r1, EV0, EV1, EV2, EV3, EV4, EV5, EV6, EV7, EV8, VALS, plug, ite_same, decide_true, decide_false, eq_self, ↓reduceIte, reduceCtorEq, Nat.reduceAdd, Nat.reduceEqDiff, Nat.reduceLT, Nat.reduceLeDiff, Nat.reduceMul, Nat.reduceSub, Nat.reduceDiv, Int.reduceToNat, Int.reduceAdd, Int.reduceSub, Int.reduceMul, Int.reduceNeg, Int.reduceEq, Int.reduceLT, Int.reduceLE]; with_reducible rfl) ?_
    | ((with_reducible refine chk_r ?_); refine r_callF (by simp only [CA, Nat.reduceEqDiff, ↓reduceIte]; rfl) (by exact rfl) (by simp only [CA, Nat.reduceEqDiff, ↓reduceIte]; rfl) rfl ?_)
    | ((with_reducible refine chk_h ?_); refine hr_callF (by simp only [CA, Nat.reduceEqDiff, ↓reduceIte]; rfl) (by exact rfl) (by simp only [CA, Nat.reduceEqDiff, ↓reduceIte]; rfl) rfl ?_)
    | ((with_reducible refine chk_r ?_); refine r_callP (by simp only [CA, Nat.reduceEqDiff, ↓reduceIte]; rfl) (by simp only [CA, Nat.reduceEqDiff, ↓reduceIte]; rfl) (by first | exact q _) rfl ?_)
    | ((with_reducible refine chk_h ?_); refine hr_callP (by simp only [CA, Nat.reduceEqDiff, ↓reduceIte]; rfl) (by simp only [CA, Nat.reduceEqDiff, ↓reduceIte]; rfl) (by first | exact q _) rfl ?_)
    | ((with_reducible refine chk_h ?_); refine hr_callP1 (by simp only [CA, Nat.reduceEqDiff, ↓reduceIte]; rfl) (by simp only [CA, Nat.reduceEqDiff, ↓reduceIte]; rfl) (by simp (disch := omega) only [CA, Nat.reduceEqDiff, ↓reduceIte, firstTok_nil, firstTok_sl, firstTok_sl0, firstTok_i, firstTok_b, firstTok_ag, firstTok_p, firstTok_s]; rfl) (by first | exact q _) rfl ?_)
    | ((with_reducible refine chk_h ?_); refine hr_app (by simp (disch := omega) only [c62r0, c62r1, EV0, EV1, EV2, EV3, EV4, EV5, EV6, EV7, EV8, VALS, plug, ite_same, decide_true, decide_false, eq_self, ↓reduceIte, reduceCtorEq, Nat.reduceAdd, Nat.reduceEqDiff, Nat.reduceLT, Nat.reduceLeDiff, Nat.reduceMul, Nat.reduceSub, Nat.reduceDiv, Int.reduceToNat, Int.reduceAdd, Int.reduceSub, Int.reduceMul, Int.reduceNeg, Int.reduceEq, Int.reduceLT, Int.reduceLE]; with_reducible rfl) rfl ?_)
    | (with_reducible refine k_condP (by simp only [GA, Nat.reduceEqDiff, ↓reduceIte]; rfl) (by first | (simp only [BO]; rfl) | rfl) (fun ht => ?_) (fun ht => ?_) <;> try (first | exact False.elim ht | exact absurd rfl ht | exact absurd trivial ht | exact Bool.noConfusion ht))
    | (with_reducible refine k_ret ?_; repeat with_reducible (first | refine ret_thru ?_ | refine ret_blk ?_ | refine fin ?_))
    | (with_reducible refine k_exit ?_; repeat with_reducible (first | refine thru ?_ | refine out_blk ?_ | refine pass (by decide) ?_))
    | (refine post1 ?_; simp only [GA, Nat.reduceEqDiff, ↓reduceIte])
    | (refine post2 ?_; simp only [GA, Nat.reduceEqDiff, ↓reduceIte])
    | (refine post3 ?_; simp only [GA, Nat.reduceEqDiff, ↓reduceIte])
    | (refine postc (by simp only [GA, Nat.reduceEqDiff, ↓reduceIte]; rfl) (by simp (disch := omega) only [c62r0, c62r1, EV0, EV1, EV2, EV3, EV4, EV5, EV6, EV7, EV8, VALS, plug, ite_same, decide_true, decide_false, eq_self, ↓reduceIte, reduceCtorEq, Nat.reduceAdd, Nat.reduceEqDiff, Nat.reduceLT, Nat.reduceLeDiff, Nat.reduceMul, Nat.reduceSub, Nat.reduceDiv, Int.reduceToNat, Int.reduceAdd, Int.reduceSub, Int.reduceMul, Int.reduceNeg, Int.reduceEq, Int.reduceLT, Int.reduceLE]; rfl) ?_)
    | refine post0 ?_
  all_goals first | exact ends_of | exact ends_eq rfl
/-! ### Tolerance: plain -/
theorem mono_tol {l : List T} (hv : VL l) {t u : Int} (h : t ≤ u) : (matchL l t).length ≤ (matchL l u).length := by
  obtain ⟨a, b, c⟩ := match_ok l t
  refine match_max hv ⟨a, b, fun p hp => ?_⟩
  obtain ⟨c1, c2, c3, c4, c5, c6⟩ := c p hp
  exact ⟨c1, c2, c3, c4, c5, by omega⟩
theorem least_ex {p : Nat → Prop} : ∀ (N : Nat), (∀ a b, a ≤ b → p a → p b) → ∃ r, r ≤ N ∧ ∀ t, t < N → (p t ↔ r ≤ t)
  | 0, _ => ⟨0, Nat.le_refl _, fun t h => by omega⟩
  | N + 1, m => by
    obtain ⟨r, h1, h2⟩ := least_ex N m
    by_cases h : r < N
    · refine ⟨r, by omega, fun t ht => ?_⟩
      by_cases e : t < N
      · exact h2 t e
      · have : p t := m r t (by omega) ((h2 r h).2 (Nat.le_refl _))
        exact ⟨fun _ => by omega, fun _ => this⟩
    · by_cases hp : p N
      · refine ⟨N, by omega, fun t ht => ?_⟩
        by_cases e : t < N
        · have := h2 t e
          constructor
          · intro q; have := this.1 q; omega
          · intro q; omega
        · have : t = N := by omega
          subst this
          exact ⟨fun _ => Nat.le_refl _, fun _ => hp⟩
      · refine ⟨N + 1, Nat.le_refl _, fun t ht => ?_⟩
        constructor
        · intro q; exact absurd (m t N (by omega) q) hp
        · intro q; omega
/-- the least tolerance, or 1001 -/
structure IsT (l : List T) (n : Int) (r : Nat) : Prop where
  le : r ≤ 1001
  iff : ∀ t : Nat, t < 1001 → (n ≤ (matchL l t).length ↔ r ≤ t)
theorem isT_ex {l : List T} (hv : VL l) (n : Int) : ∃ r, IsT l n r := by
  obtain ⟨r, h1, h2⟩ := least_ex (p := fun t => n ≤ (matchL l (t : Nat)).length) 1001 fun a b h q => by
    have := mono_tol hv (t := (a : Int)) (u := b) (by omega)
    omega
  exact ⟨r, h1, h2⟩
open Classical in
noncomputable def leastT (l : List T) (n : Int) : Nat := if h : ∃ r, IsT l n r then Classical.choose h else 0
theorem leastT_is {l : List T} (hv : VL l) (n : Int) : IsT l n (leastT l n) := by
  unfold leastT
  rw [dif_pos (isT_ex hv n)]
  exact Classical.choose_spec (isT_ex hv n)
open Classical in
noncomputable def tolR (l : List T) (n : Int) : Int × Int := if ¬ VL l then (0, 40) else if n < 0 then (0, 2) else if 1000 < leastT l n then (0, 4) else (leastT l n, 0)
theorem pc22 (l : List T) (hl : l.length ≤ 9223372036854775807) (n : Int) : PC Try.prog 22 [vT l, .i .i64 n] (.tu [.i .i64 (tolR l n).1, .i .i64 (tolR l n).2]) := by
  refine pc_fn fn22 (by simp only [AV.plains, AV.plain, il_plain, bl_plain, Bool.and_true, Bool.true_and, Bool.and_self, flT_plain]) (by simp only [AV.plains, AV.plain, il_plain, bl_plain, Bool.and_true, Bool.true_and, Bool.and_self, flT_plain]) (Nat.le_of_ble_eq_true rfl) ?_
  rw [initSt2]
  have q := pc27 l hl
  unfold tolR
  refine k_seq (k_reg ?_)
  refine s_go (by simp (disch := omega) only [c22r0, c22r1, c22r2, c22r3, c22r4, c22r5, c22r6, c22r7, c22r8, EV0, EV1, EV2, EV3, EV4, EV5, EV6, EV7, EV8, VALS, plug, ite_same, decide_true, decide_false, eq_self, ↓reduceIte, reduceCtorEq, Nat.reduceAdd, Nat.reduceEqDiff, Nat.reduceLT, Nat.reduceLeDiff, Nat.reduceMul, Nat.reduceSub, Nat.reduceDiv, Int.reduceToNat, Int.reduceAdd, Int.reduceSub, Int.reduceMul, Int.reduceNeg, Int.reduceEq, Int.reduceLT, Int.reduceLE]; with_reducible rfl) ?_
  refine r_done ?_
  refine w_frzP (t := 1) (cs := [vT l]) 2 (by simp (disch := omega) only [c22r0, c22r1, c22r2, c22r3, c22r4, c22r5, c22r6, c22r7, c22r8, EV0, EV1, EV2, EV3, EV4, EV5, EV6, EV7, EV8, VALS, plug, ite_same, decide_true, decide_false, eq_self, ↓reduceIte, reduceCtorEq, Nat.reduceAdd, Nat.reduceEqDiff, Nat.reduceLT, Nat.reduceLeDiff, Nat.reduceMul, Nat.reduceSub, Nat.reduceDiv, Int.reduceToNat, Int.reduceAdd, Int.reduceSub, Int.reduceMul, Int.reduceNeg, Int.reduceEq, Int.reduceLT, Int.reduceLE] <;> rfl) rfl ?_
  refine w_frzP (t := 2) (cs := [.i .i64 n]) 3 (by simp (disch := omega) only [c22r0, c22r1, c22r2, c22r3, c22r4, c22r5, c22r6, c22r7, c22r8, EV0, EV1, EV2, EV3, EV4, EV5, EV6, EV7, EV8, VALS, plug, ite_same, decide_true, decide_false, eq_self, ↓reduceIte, reduceCtorEq, Nat.reduceAdd, Nat.reduceEqDiff, Nat.reduceLT, Nat.reduceLeDiff, Nat.reduceMul, Nat.reduceSub, Nat.reduceDiv, Int.reduceToNat, Int.reduceAdd, Int.reduceSub, Int.reduceMul, Int.reduceNeg, Int.reduceEq, Int.reduceLT, Int.reduceLE] <;> rfl) rfl ?_
  by_cases hv : VL l
  · rw [if_neg (by simpa using hv)]
    rw [vl_t hv] at q
    have it := leastT_is hv n
    generalize leastT l n = r at it ⊢
    have q61 := pc61 1001 r (by decide) it.le 62 [.pv [vT l] 0, .pv [.i .i64 n] 0] (by simp only [AV.plains, AV.plain, il_plain, bl_plain, Bool.and_true, Bool.true_and, Bool.and_self, flT_plain]) fun t ht => by
      have := pc62 l hv t n
      rwa [decide_eq_decide.2 (it.iff t ht)] at this
    have e1 : ((1001 : Nat) : Int) = 1001 := rfl
    rw [e1] at q61
    have := it.le
    by_cases hn : n < 0
    · rw [if_pos hn]
      repeat' first
        | with_reducible refine k_seq ?_
        | with_reducible refine k_skip ?_
        | with_reducible refine k_blkS ?_
        | with_reducible refine k_blkR ?_
        | with_reducible refine k_blkC ?_
        | with_reducible refine k_blkH ?_
        | with_reducible refine k_blkB ?_
        | with_reducible refine k_blkK ?_
        | with_reducible refine k_blkE ?_
        | with_reducible refine k_reg ?_
        | with_reducible refine r_done ?_
        | with_reducible refine s_go (by simp (disch := omega) only [hn, c22r0, c22r1, c22r2, c22r3, c22r4, c22r5, c22r6, c22r7, c22r8, EV0, EV1, EV2, EV3, EV4, EV5, EV6, EV7, EV8, VALS, plug, ite_same, decide_true, decide_false, eq_self, ↓reduceIte, reduceCtorEq, Nat.reduceAdd, Nat.reduceEqDiff, Nat.reduceLT, Nat.reduceLeDiff, Nat.reduceMul, Nat.reduceSub, Nat.reduceDiv, Int.reduceToNat, Int.reduceAdd, Int.reduceSub, Int.reduceMul, Int.reduceNeg, Int.reduceEq, Int.reduceLT, Int.reduceLE]; with_reducible rfl) ?_
        | ((with_reducible refine chk_r ?_); refine r_callF (by simp only [CA, Nat.reduceEqDiff, ↓reduceIte]; rfl) (by exact rfl) (by simp only [CA, Nat.reduceEqDiff, ↓reduceIte]; rfl) rfl ?_)
        | ((with_reducible refine chk_r ?_); refine r_callP (by simp only [CA, Nat.reduceEqDiff, ↓reduceIte]; rfl) (by simp only [CA, Nat.reduceEqDiff, ↓reduceIte]; rfl) (by first | exact q _) rfl ?_)
        | (with_reducible refine k_condP (by simp only [GA, Nat.reduceEqDiff, ↓reduceIte]; rfl) (by first | (simp only [BO]; rfl) | rfl) (fun ht => ?_) (fun ht => ?_) <;> try (first | exact False.elim ht | exact absurd rfl ht | exact absurd trivial ht | exact Bool.noConfusion ht))
        | (with_reducible refine k_ret ?_; repeat with_reducible (first | refine ret_thru ?_ | refine ret_blk ?_ | refine fin ?_))
        | (with_reducible refine k_exit ?_; repeat with_reducible (first | refine thru ?_ | refine out_blk ?_ | refine pass (by decide) ?_))
        | (refine post1 ?_; simp only [GA, Nat.reduceEqDiff, ↓reduceIte])
        | (refine post2 ?_; simp only [GA, Nat.reduceEqDiff, ↓reduceIte])
        | (refine post3 ?_; simp only [GA, Nat.reduceEqDiff, ↓reduceIte])
        | (refine postc (by simp only [GA, Nat.reduceEqDiff, ↓reduceIte]; rfl) (by simp (disch := omega) only [hn, c22r0, c22r1, c22r2, c22r3, c22r4, c22r5, c22r6, c22r7, c22r8, EV0, EV1, EV2, EV3, EV4, EV5, EV6, EV7, EV8, VALS, plug, ite_same, decide_true, decide_false, eq_self, ↓reduceIte, reduceCtorEq, Nat.reduceAdd, Nat.reduceEqDiff, Nat.reduceLT, Nat.reduceLeDiff, Nat.reduceMul, Nat.reduceSub, Nat.reduceDiv, Int.reduceToNat, Int.reduceAdd, Int.reduceSub, Int.reduceMul, Int.reduceNeg, Int.reduceEq, Int.reduceLT, Int.reduceLE]; rfl) ?_)
        | refine post0 ?_
      all_goals first | exact ends_of | exact ends_eq rfl
    · rw [if_neg hn]
      by_cases hr : 1000 < r
      · rw [if_pos hr]
        have hr' : (1000 : Int) < r := by omega
        repeat' first
          | with_reducible refine k_seq ?_
          | with_reducible refine k_skip ?_
          | with_reducible refine k_blkS ?_
          | with_reducible refine k_blkR ?_
          | with_reducible refine k_blkC ?_
          | with_reducible refine k_blkH ?_
          | with_reducible refine k_blkB ?_
          | with_reducible refine k_blkK ?_
          | with_reducible refine k_blkE ?_
          | with_reducible refine k_reg ?_
          | with_reducible refine r_done ?_
          | with_reducible refine s_go (by simp (disch := omega) only [hn, hr', c22r0, c22r1, c22r2, c22r3, c22r4, c22r5, c22r6, c22r7, c22r8, EV0, EV1, EV2, EV3, EV4, EV5, EV6, EV7, EV8, VALS, plug, ite_same, decide_true, decide_false, eq_self, ↓reduceIte, reduceCtorEq, Nat.reduceAdd, Nat.reduceEqDiff, Nat.reduceLT, Nat.reduceLeDiff, Nat.reduceMul, Nat.reduceSub, Nat.reduceDiv, Int.reduceToNat, Int.reduceAdd, Int.reduceSub, Int.reduceMul, Int.reduceNeg, Int.reduceEq, Int.reduceLT, Int.reduceLE]; with_reducible rfl) ?_
          | ((with_reducible refine chk_r ?_); refine r_callF (by simp only [CA, Nat.reduceEqDiff, ↓reduceIte]; rfl) (by exact rfl) (by simp only [CA, Nat.reduceEqDiff, ↓reduceIte]; rfl) rfl ?_)
          | ((with_reducible refine chk_r ?_); refine r_callP (by simp only [CA, Nat.reduceEqDiff, ↓reduceIte]; rfl) (by simp only [CA, Nat.reduceEqDiff, ↓reduceIte]; rfl) (by first | exact q _ | exact q61 _) rfl ?_)
          | (with_reducible refine k_condP (by simp only [GA, Nat.reduceEqDiff, ↓reduceIte]; rfl) (by first | (simp only [BO]; rfl) | rfl) (fun ht => ?_) (fun ht => ?_) <;> try (first | exact False.elim ht | exact absurd rfl ht | exact absurd trivial ht | exact Bool.noConfusion ht))
          | (with_reducible refine k_ret ?_; repeat with_reducible (first | refine ret_thru ?_ | refine ret_blk ?_ | refine fin ?_))
          | (with_reducible refine k_exit ?_; repeat with_reducible (first | refine thru ?_ | refine out_blk ?_ | refine pass (by decide) ?_))
          | (refine post1 ?_; simp only [GA, Nat.reduceEqDiff, ↓reduceIte])
          | (refine post2 ?_; simp only [GA, Nat.reduceEqDiff, ↓reduceIte])
          | (refine post3 ?_; simp only [GA, Nat.reduceEqDiff, ↓reduceIte])
          | (refine postc (by simp only [GA, Nat.reduceEqDiff, ↓reduceIte]; rfl) (by simp (disch := omega) only [hn, hr', c22r0, c22r1, c22r2, c22r3, c22r4, c22r5, c22r6, c22r7, c22r8, EV0, EV1, EV2, EV3, EV4, EV5, EV6, EV7, EV8, VALS, plug, ite_same, decide_true, decide_false, eq_self, ↓reduceIte, reduceCtorEq, Nat.reduceAdd, Nat.reduceEqDiff, Nat.reduceLT, Nat.reduceLeDiff, Nat.reduceMul, Nat.reduceSub, Nat.reduceDiv, Int.reduceToNat, Int.reduceAdd, Int.reduceSub, Int.reduceMul, Int.reduceNeg, Int.reduceEq, Int.reduceLT, Int.reduceLE]; rfl) ?_)
          | refine post0 ?_
        all_goals first | exact ends_of | exact ends_eq rfl
      · rw [if_neg hr]
        have hr' : ¬ (1000 : Int) < r := by omega
        repeat' first
          | with_reducible refine k_seq ?_
          | with_reducible refine k_skip ?_
          | with_reducible refine k_blkS ?_
          | with_reducible refine k_blkR ?_
          | with_reducible refine k_blkC ?_
          | with_reducible refine k_blkH ?_
          | with_reducible refine k_blkB ?_
          | with_reducible refine k_blkK ?_
          | with_reducible refine k_blkE ?_
          | with_reducible refine k_reg ?_
          | with_reducible refine r_done ?_
          | with_reducible refine s_go (by simp (disch := omega) only [hn, hr', c22r0, c22r1, c22r2, c22r3, c22r4, c22r5, c22r6, c22r7, c22r8, EV0, EV1, EV2, EV3, EV4, EV5, EV6, EV7, EV8, VALS, plug, ite_same, decide_true, decide_false, eq_self, ↓reduceIte, reduceCtorEq, Nat.reduceAdd, Nat.reduceEqDiff, Nat.reduceLT, Nat.reduceLeDiff, Nat.reduceMul, Nat.reduceSub, Nat.reduceDiv, Int.reduceToNat, Int.reduceAdd, Int.reduceSub, Int.reduceMul, Int.reduceNeg, Int.reduceEq, Int.reduceLT, Int.reduceLE]; with_reducible rfl) ?_
          | ((with_reducible refine chk_r ?_); refine r_callF (by simp only [CA, Nat.reduceEqDiff, ↓reduceIte]; rfl) (by exact rfl) (by simp only [CA, Nat.reduceEqDiff, ↓reduceIte]; rfl) rfl ?_)
          | ((with_reducible refine chk_r ?_); refine r_callP (by simp only [CA, Nat.reduceEqDiff, ↓reduceIte]; rfl) (by simp only [CA, Nat.reduceEqDiff, ↓reduceIte]; rfl) (by first | exact q _ | exact q61 _) rfl ?_)
          | (with_reducible refine k_condP (by simp only [GA, Nat.reduceEqDiff, ↓reduceIte]; rfl) (by first | (simp only [BO]; rfl) | rfl) (fun ht => ?_) (fun ht => ?_) <;> try (first | exact False.elim ht | exact absurd rfl ht | exact absurd trivial ht | exact Bool.noConfusion ht))
          | (with_reducible refine k_ret ?_; repeat with_reducible (first | refine ret_thru ?_ | refine ret_blk ?_ | refine fin ?_))
          | (with_reducible refine k_exit ?_; repeat with_reducible (first | refine thru ?_ | refine out_blk ?_ | refine pass (by decide) ?_))
          | (refine post1 ?_; simp only [GA, Nat.reduceEqDiff, ↓reduceIte])
          | (refine post2 ?_; simp only [GA, Nat.reduceEqDiff, ↓reduceIte])
          | (refine post3 ?_; simp only [GA, Nat.reduceEqDiff, ↓reduceIte])
          | (refine postc (by simp only [GA, Nat.reduceEqDiff, ↓reduceIte]; rfl) (by simp (disch := omega) only [hn, hr', c22r0, c22r1, c22r2, c22r3, c22r4, c22r5, c22r6, c22r7, c22r8, EV0, EV1, EV2, EV3, EV4, EV5, EV6, EV7, EV8, VALS, plug, ite_same, decide_true, decide_false, eq_self, ↓reduceIte, reduceCtorEq, Nat.reduceAdd, Nat.reduceEqDiff, Nat.reduceLT, Nat.reduceLeDiff, Nat.reduceMul, Nat.reduceSub, Nat.reduceDiv, Int.reduceToNat, Int.reduceAdd, Int.reduceSub, Int.reduceMul, Int.reduceNeg, Int.reduceEq, Int.reduceLT, Int.reduceLE]; rfl) ?_)
          | refine post0 ?_
        all_goals first | exact ends_of | exact ends_eq rfl
  · rw [if_pos hv]
    rw [vl_f hv] at q
    repeat' first
      | with_reducible refine k_seq ?_
      | with_reducible refine k_skip ?_
      | with_reducible refine k_blkS ?_
      | with_reducible refine k_blkR ?_
      | with_reducible refine k_blkC ?_
      | with_reducible refine k_blkH ?_
      | with_reducible refine k_blkB ?_
      | with_reducible refine k_blkK ?_
      | with_reducible refine k_blkE ?_
      | with_reducible refine k_reg ?_
      | with_reducible refine r_done ?_
      | with_reducible refine s_go (by simp (disch := omega) only [c22r0, c22r1, c22r2, c22r3, c22r4, c22r5, c22r6, c22r7, c22r8, EV0, EV1, EV2, EV3, EV4, EV5, EV6, EV7, EV8, VALS, plug, ite_same, decide_true, decide_false, eq_self, ↓reduceIte, reduceCtorEq, Nat.reduceAdd, Nat.reduceEqDiff, Nat.reduceLT, Nat.reduceLeDiff, Nat.reduceMul, Nat.reduceSub, Nat.reduceDiv, Int.reduceToNat, Int.reduceAdd, Int.reduceSub, Int.reduceMul, Int.reduceNeg, Int.reduceEq, Int.reduceLT, Int.reduceLE]; with_reducible rfl) ?_
      | ((with_reducible refine chk_r ?_); refine r_callF (by simp only [CA, Nat.reduceEqDiff, ↓reduceIte]; rfl) (by exact rfl) (by simp only [CA, Nat.reduceEqDiff, ↓reduceIte]; rfl) rfl ?_)
      | ((with_reducible refine chk_r ?_); refine r_callP (by simp only [CA, Nat.reduceEqDiff, ↓reduceIte]; rfl) (by simp only [CA, Nat.reduceEqDiff, ↓reduceIte]; rfl) (by first | exact q _) rfl ?_)
      | (with_reducible refine k_condP (by simp only [GA, Nat.reduceEqDiff, ↓reduceIte]; rfl) (by first | (simp only [BO]; rfl) | rfl) (fun ht => ?_) (fun ht => ?_) <;> try (first | exact False.elim ht | exact absurd rfl ht | exact absurd trivial ht | exact Bool.noConfusion ht))
      | (with_reducible refine k_ret ?_; repeat with_reducible (first | refine ret_thru ?_ | refine ret_blk ?_ | refine fin ?_))
      | (with_reducible refine k_exit ?_; repeat with_reducible (first | refine thru ?_ | refine out_blk ?_ | refine pass (by decide) ?_))
      | (refine post1 ?_; simp only [GA, Nat.reduceEqDiff, ↓reduceIte])
      | (refine post2 ?_; simp only [GA, Nat.reduceEqDiff, ↓reduceIte])
      | (refine post3 ?_; simp only [GA, Nat.reduceEqDiff, ↓reduceIte])
      | (refine postc (by simp only [GA, Nat.reduceEqDiff, ↓reduceIte]; rfl) (by simp (disch := omega) only [c22r0, c22r1, c22r2, c22r3, c22r4, c22r5, c22r6, c22r7, c22r8, EV0, EV1, EV2, EV3, EV4, EV5, EV6, EV7, EV8, VALS, plug, ite_same, decide_true, decide_false, eq_self, ↓reduceIte, reduceCtorEq, Nat.reduceAdd, Nat.reduceEqDiff, Nat.reduceLT, Nat.reduceLeDiff, Nat.reduceMul, Nat.reduceSub, Nat.reduceDiv, Int.reduceToNat, Int.reduceAdd, Int.reduceSub, Int.reduceMul, Int.reduceNeg, Int.reduceEq, Int.reduceLT, Int.reduceLE]; rfl) ?_)
      | refine post0 ?_
    all_goals first | exact ends_of | exact ends_eq rfl
end Go.Proofs.Ytbhkbaapfioijaa
