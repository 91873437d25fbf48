/- What the proof of the law needs: the abstract machine, the functions as it reads them, their contracts, part 9. -/
import Derived.Test.YtjaihaccehaicaaDoorZh
import Derived.Test.YtjaihaccehaicaaDoorRows
import Derived.Test.YtjaihaccehaicaaDoorTie
import Derived.LaidLaws
import Derived.Handed
import Derived.ProofKit
set_option linter.unusedVariables false
set_option linter.unusedSimpArgs false
namespace Go.Proofs.YtjaihaccehaicaaDoor
open Go Go.Am Go.Proofs
theorem d87 (x : Int) : PC Tryd.prog 87 [.i .i64 x] (.b false) := by
 refine pc_fn fn87 (by simp only [AV.plains, AV.plain, il_plain, bl_plain, Bool.and_true, Bool.true_and, Bool.and_self]) (by simp only [AV.plains, AV.plain, il_plain, bl_plain, Bool.and_true, Bool.true_and, Bool.and_self]) (Nat.le_of_ble_eq_true rfl) ?_
 rw [initSt1]
 repeat' first | (with_reducible first | refine k_seq ?_ | refine k_skip ?_ | refine k_blkS ?_ | refine k_blkR ?_ | refine k_blkC ?_ | refine k_blkH ?_ | refine k_blkB ?_ | refine k_blkK ?_ | refine k_blkE ?_ | refine k_reg ?_) | with_reducible refine r_done ?_ | with_reducible refine s_go (by simp (disch := omega) only [c87r0, c87r1, EVA, plug, eq_self, simprocAttr]; with_reducible rfl) ?_ | ((with_reducible refine chk_r ?_); refine r_callF (by simp only [CA, simprocAttr]; rfl) (by exact rfl) (by simp only [CA, simprocAttr]; rfl) rfl ?_) | (with_reducible refine k_condP (by simp only [GA, simprocAttr]; rfl) (by first | (simp only [BO]; rfl) | rfl) (fun ht => ?_) (fun ht => ?_) <;> try (first | exact False.elim ht | exact absurd rfl ht | exact absurd trivial ht | exact Bool.noConfusion ht)) | (with_reducible refine k_ret ?_; repeat with_reducible (first | refine ret_thru ?_ | refine ret_blk ?_ | refine fin ?_)) | (with_reducible refine k_exit ?_; repeat with_reducible (first | refine thru ?_ | refine out_blk ?_ | refine pass (by decide) ?_)) | ((first | refine post1 ?_ | refine post2 ?_ | refine post3 ?_); simp only [GA, simprocAttr]) | refine post0 ?_
 first | exact ends_of | exact ends_eq rfl | (refine ends_eq (b_eq ?_); simp)
theorem RG75 : (type_of% @c75r0.eq_1) ∧ (type_of% @c75r1.eq_1) ∧ (type_of% @c75r2.eq_1) ∧ (type_of% @c75r3.eq_1) ∧ (type_of% @c75r4.eq_1) ∧ (type_of% @c75r5.eq_1) ∧ (type_of% @c75r6.eq_1) ∧ (type_of% @c75r7.eq_1) ∧ (type_of% @c75r8.eq_1) ∧ (type_of% @c75r9.eq_1) ∧ (type_of% @c75r10.eq_1) ∧ (type_of% @c75r11.eq_1) ∧ (type_of% @c75r12.eq_1) ∧ (type_of% @c75r13.eq_1) := ⟨@c75r0.eq_1, @c75r1.eq_1, @c75r2.eq_1, @c75r3.eq_1, @c75r4.eq_1, @c75r5.eq_1, @c75r6.eq_1, @c75r7.eq_1, @c75r8.eq_1, @c75r9.eq_1, @c75r10.eq_1, @c75r11.eq_1, @c75r12.eq_1, @c75r13.eq_1⟩
theorem d75 (x y : Int) : PC Tryd.prog 75 [.i .i64 x, .i .i64 y] (.i .i64 (cmpZ x y)) := by
 unfold cmpZ
 refine pc_fn fn75 (by simp only [AV.plains, AV.plain, il_plain, bl_plain, Bool.and_true, Bool.true_and, Bool.and_self]) (by simp only [AV.plains, AV.plain, il_plain, bl_plain, Bool.and_true, Bool.true_and, Bool.and_self]) (Nat.le_of_ble_eq_true rfl) ?_
 rw [initSt2]
 by_cases h1 : x < y
 ·have h1' := eq_true h1
  rw [if_pos h1]
  repeat' first | (with_reducible first | refine k_seq ?_ | refine k_skip ?_ | refine k_blkS ?_ | refine k_blkR ?_ | refine k_blkC ?_ | refine k_blkH ?_ | refine k_blkB ?_ | refine k_blkK ?_ | refine k_blkE ?_ | refine k_reg ?_) | with_reducible refine r_done ?_ | with_reducible refine s_go (by simp (disch := omega) only [h1', RG75, EVA, plug, eq_self, simprocAttr]; with_reducible rfl) ?_ | ((with_reducible refine chk_r ?_); refine r_callF (by simp only [CA, simprocAttr]; rfl) (by exact rfl) (by simp only [CA, simprocAttr]; rfl) rfl ?_) | ((with_reducible refine chk_r ?_); refine r_callP (by simp only [CA, simprocAttr]; rfl) (by simp only [CA, simprocAttr]; rfl) (by first | exact d87 _ _) rfl ?_) | (with_reducible refine k_condP (by simp only [GA, simprocAttr]; rfl) (by first | (simp only [BO]; rfl) | rfl) (fun ht => ?_) (fun ht => ?_) <;> try (first | exact False.elim ht | exact absurd rfl ht | exact absurd trivial ht | exact Bool.noConfusion ht)) | (with_reducible refine k_ret ?_; repeat with_reducible (first | refine ret_thru ?_ | refine ret_blk ?_ | refine fin ?_)) | (with_reducible refine k_exit ?_; repeat with_reducible (first | refine thru ?_ | refine out_blk ?_ | refine pass (by decide) ?_)) | ((first | refine post1 ?_ | refine post2 ?_ | refine post3 ?_); simp only [GA, simprocAttr]) | refine post0 ?_
  all_goals first | exact ends_of | exact ends_eq rfl
 ·have h1' := eq_false h1
  rw [if_neg h1]
  by_cases h2 : y < x
  ·have h2' := eq_true h2
   rw [if_pos h2]
   repeat' first | (with_reducible first | refine k_seq ?_ | refine k_skip ?_ | refine k_blkS ?_ | refine k_blkR ?_ | refine k_blkC ?_ | refine k_blkH ?_ | refine k_blkB ?_ | refine k_blkK ?_ | refine k_blkE ?_ | refine k_reg ?_) | with_reducible refine r_done ?_ | with_reducible refine s_go (by simp (disch := omega) only [h1', h2', RG75, EVA, plug, eq_self, simprocAttr]; with_reducible rfl) ?_ | ((with_reducible refine chk_r ?_); refine r_callF (by simp only [CA, simprocAttr]; rfl) (by exact rfl) (by simp only [CA, simprocAttr]; rfl) rfl ?_) | ((with_reducible refine chk_r ?_); refine r_callP (by simp only [CA, simprocAttr]; rfl) (by simp only [CA, simprocAttr]; rfl) (by first | exact d87 _ _) rfl ?_) | (with_reducible refine k_condP (by simp only [GA, simprocAttr]; rfl) (by first | (simp only [BO]; rfl) | rfl) (fun ht => ?_) (fun ht => ?_) <;> try (first | exact False.elim ht | exact absurd rfl ht | exact absurd trivial ht | exact Bool.noConfusion ht)) | (with_reducible refine k_ret ?_; repeat with_reducible (first | refine ret_thru ?_ | refine ret_blk ?_ | refine fin ?_)) | (with_reducible refine k_exit ?_; repeat with_reducible (first | refine thru ?_ | refine out_blk ?_ | refine pass (by decide) ?_)) | ((first | refine post1 ?_ | refine post2 ?_ | refine post3 ?_); simp only [GA, simprocAttr]) | refine post0 ?_
   all_goals first | exact ends_of | exact ends_eq rfl
  ·have h2' := eq_false h2
   rw [if_neg h2]
   repeat' first | (with_reducible first | refine k_seq ?_ | refine k_skip ?_ | refine k_blkS ?_ | refine k_blkR ?_ | refine k_blkC ?_ | refine k_blkH ?_ | refine k_blkB ?_ | refine k_blkK ?_ | refine k_blkE ?_ | refine k_reg ?_) | with_reducible refine r_done ?_ | with_reducible refine s_go (by simp (disch := omega) only [h1', h2', RG75, EVA, plug, eq_self, simprocAttr]; with_reducible rfl) ?_ | ((with_reducible refine chk_r ?_); refine r_callF (by simp only [CA, simprocAttr]; rfl) (by exact rfl) (by simp only [CA, simprocAttr]; rfl) rfl ?_) | ((with_reducible refine chk_r ?_); refine r_callP (by simp only [CA, simprocAttr]; rfl) (by simp only [CA, simprocAttr]; rfl) (by first | exact d87 _ _) rfl ?_) | (with_reducible refine k_condP (by simp only [GA, simprocAttr]; rfl) (by first | (simp only [BO]; rfl) | rfl) (fun ht => ?_) (fun ht => ?_) <;> try (first | exact False.elim ht | exact absurd rfl ht | exact absurd trivial ht | exact Bool.noConfusion ht)) | (with_reducible refine k_ret ?_; repeat with_reducible (first | refine ret_thru ?_ | refine ret_blk ?_ | refine fin ?_)) | (with_reducible refine k_exit ?_; repeat with_reducible (first | refine thru ?_ | refine out_blk ?_ | refine pass (by decide) ?_)) | ((first | refine post1 ?_ | refine post2 ?_ | refine post3 ?_); simp only [GA, simprocAttr]) | refine post0 ?_
   all_goals first | exact ends_of | exact ends_eq rfl
theorem drop_cons {l : List Int} {k : Nat} (h : k < l.length) : l.drop k = l.getD k 0 :: l.drop (k + 1) := by
 rw [List.drop_eq_getElem_cons h, List.getD_eq_getElem?_getD, List.getElem?_eq_getElem h]
 rfl
theorem RG50 : (type_of% @c50r0.eq_1) ∧ (type_of% @c50r1.eq_1) ∧ (type_of% @c50r2.eq_1) ∧ (type_of% @c50r3.eq_1) ∧ (type_of% @c50r4.eq_1) ∧ (type_of% @c50r5.eq_1) ∧ (type_of% @c50r6.eq_1) ∧ (type_of% @c50r7.eq_1) ∧ (type_of% @c50r8.eq_1) ∧ (type_of% @c50r9.eq_1) ∧ (type_of% @c50r10.eq_1) ∧ (type_of% @c50r12.eq_1) ∧ (type_of% @c50r13.eq_1) ∧ (type_of% @c50r14.eq_1) := ⟨@c50r0.eq_1, @c50r1.eq_1, @c50r2.eq_1, @c50r3.eq_1, @c50r4.eq_1, @c50r5.eq_1, @c50r6.eq_1, @c50r7.eq_1, @c50r8.eq_1, @c50r9.eq_1, @c50r10.eq_1, @c50r12.eq_1, @c50r13.eq_1, @c50r14.eq_1⟩
theorem d50 (a b : List Int) (ha : a.length ≤ 9223372036854775807) (hb : b.length ≤ 9223372036854775807) : PC Tryd.prog 50 [vi a, vi b] (.i .i64 (cmpL a b)) := by
 refine pc_fn fn50 (by simp only [AV.plains, AV.plain, il_plain, bl_plain, Bool.and_true, Bool.true_and, Bool.and_self, il_plain]) (by simp only [AV.plains, AV.plain, il_plain, bl_plain, Bool.and_true, Bool.true_and, Bool.and_self, il_plain]) (Nat.le_of_ble_eq_true rfl) ?_
 rw [initSt2]
 repeat' first | (with_reducible first | refine k_seq ?_ | refine k_skip ?_ | refine k_blkS ?_ | refine k_blkR ?_ | refine k_blkC ?_ | refine k_blkH ?_ | refine k_blkB ?_ | refine k_blkK ?_ | refine k_blkE ?_ | refine k_reg ?_) | with_reducible refine r_done ?_ | with_reducible refine s_go (by simp (disch := omega) only [RG50, EVA, plug, eq_self, simprocAttr]; with_reducible rfl) ?_ | ((with_reducible refine chk_r ?_); refine r_callF (by simp only [CA, simprocAttr]; rfl) (by exact rfl) (by simp only [CA, simprocAttr]; rfl) rfl ?_) | (with_reducible refine k_condP (by simp only [GA, simprocAttr]; rfl) (by first | (simp only [BO]; rfl) | rfl) (fun ht => ?_) (fun ht => ?_) <;> try (first | exact False.elim ht | exact absurd rfl ht | exact absurd trivial ht | exact Bool.noConfusion ht)) | (with_reducible refine k_ret ?_; repeat with_reducible (first | refine ret_thru ?_ | refine ret_blk ?_ | refine fin ?_)) | (with_reducible refine k_exit ?_; repeat with_reducible (first | refine thru ?_ | refine out_blk ?_ | refine pass (by decide) ?_)) | ((first | refine post1 ?_ | refine post2 ?_ | refine post3 ?_); simp only [GA, simprocAttr]) | refine post0 ?_
 refine k_blk (k_loopS (X := Unit) [0, 1, 9, 10, 11] a.length (fun k _ => [(0, vi a), (1, vi b), (9, vi a), (10, .i .i64 a.length), (11, .i .i64 (k : Int))]) (fun k _ h => k ≤ b.length ∧ cmpL a b = cmpL (a.drop k) (b.drop k)) () (by simp only [Am.keep, List.map_cons, List.map_nil, GA, simprocAttr]; try rfl) ⟨Nat.zero_le _, rfl⟩ ?_)
 rintro k _ h hk ⟨kb, e⟩ ok pos
 by_cases klt : k < a.length
 ·have klt' : (k : Int) < a.length := by omega
  have g := il_get klt
  rw [drop_cons klt] at e
  by_cases c1 : b.length ≤ k
  ·have c1' := eq_true (show (b.length : Int) ≤ k by omega)
   rw [List.drop_of_length_le c1, cmpL] at e
   rw [e]
   repeat' first | (with_reducible first | refine k_seq ?_ | refine k_skip ?_ | refine k_blkS ?_ | refine k_blkR ?_ | refine k_blkC ?_ | refine k_blkH ?_ | refine k_blkB ?_ | refine k_blkK ?_ | refine k_blkE ?_ | refine k_reg ?_) | with_reducible refine r_done ?_ | with_reducible refine s_go (by simp (disch := omega) only [klt', g, c1', RG50, EVA, plug, eq_self, simprocAttr]; with_reducible rfl) ?_ | ((with_reducible refine chk_r ?_); refine r_callF (by simp only [CA, simprocAttr]; rfl) (by exact rfl) (by simp only [CA, simprocAttr]; rfl) rfl ?_) | (with_reducible refine k_condP (by simp only [GA, simprocAttr]; rfl) (by first | (simp only [BO]; rfl) | rfl) (fun ht => ?_) (fun ht => ?_) <;> try (first | exact False.elim ht | exact absurd rfl ht | exact absurd trivial ht | exact Bool.noConfusion ht)) | (with_reducible refine k_ret ?_; repeat with_reducible (first | refine ret_thru ?_ | refine ret_blk ?_ | refine fin ?_)) | (with_reducible refine k_exit ?_; repeat with_reducible (first | refine thru ?_ | refine out_blk ?_ | refine pass (by decide) ?_)) | ((first | refine post1 ?_ | refine post2 ?_ | refine post3 ?_); simp only [GA, simprocAttr]) | refine post0 ?_
   all_goals first | exact ends_of | exact ends_eq rfl
  ·have c1' := eq_false (show ¬ (b.length : Int) ≤ k by omega)
   have c2 : (k : Int) < b.length := by omega
   have g2 := il_get (l := b) (j := k) (by omega)
   rw [drop_cons (l := b) (by omega), cmpL] at e
   have q := d75 (a.getD k 0) (b.getD k 0)
   generalize a.getD k 0 = x at *
   generalize b.getD k 0 = y at *
   by_cases z : cmpZ x y = 0
   ·have z' := eq_true z
    rw [if_neg (by simp [z])] at e
    repeat' first | (with_reducible first | refine k_seq ?_ | refine k_skip ?_ | refine k_blkS ?_ | refine k_blkR ?_ | refine k_blkC ?_ | refine k_blkH ?_ | refine k_blkB ?_ | refine k_blkK ?_ | refine k_blkE ?_ | refine k_reg ?_) | with_reducible refine r_done ?_ | with_reducible refine s_go (by simp (disch := omega) only [klt', g, c1', c2, g2, z', RG50, EVA, plug, eq_self, simprocAttr]; with_reducible rfl) ?_ | ((with_reducible refine chk_r ?_); refine r_callF (by simp only [CA, simprocAttr]; rfl) (by exact rfl) (by simp only [CA, simprocAttr]; rfl) rfl ?_) | ((with_reducible refine chk_r ?_); refine r_callP (by simp only [CA, simprocAttr]; rfl) (by simp only [CA, simprocAttr]; rfl) (by first | exact q _) rfl ?_) | (with_reducible refine k_condP (by simp only [GA, simprocAttr]; rfl) (by first | (simp only [BO]; rfl) | rfl) (fun ht => ?_) (fun ht => ?_) <;> try (first | exact False.elim ht | exact absurd rfl ht | exact absurd trivial ht | exact Bool.noConfusion ht)) | (with_reducible refine k_ret ?_; repeat with_reducible (first | refine ret_thru ?_ | refine ret_blk ?_ | refine fin ?_)) | (with_reducible refine k_exit ?_; repeat with_reducible (first | refine thru ?_ | refine out_blk ?_ | refine pass (by decide) ?_)) | ((first | refine post1 ?_ | refine post2 ?_ | refine post3 ?_); simp only [GA, simprocAttr]) | refine post0 ?_
    exact ⟨klt, (), (by simp only [Am.keep, List.map_cons, List.map_nil, GA, simprocAttr]; try rfl), by omega, e⟩
   ·have z' := eq_false z
    rw [if_pos z] at e
    rw [e]
    repeat' first | (with_reducible first | refine k_seq ?_ | refine k_skip ?_ | refine k_blkS ?_ | refine k_blkR ?_ | refine k_blkC ?_ | refine k_blkH ?_ | refine k_blkB ?_ | refine k_blkK ?_ | refine k_blkE ?_ | refine k_reg ?_) | with_reducible refine r_done ?_ | with_reducible refine s_go (by simp (disch := omega) only [klt', g, c1', c2, g2, z', RG50, EVA, plug, eq_self, simprocAttr]; with_reducible rfl) ?_ | ((with_reducible refine chk_r ?_); refine r_callF (by simp only [CA, simprocAttr]; rfl) (by exact rfl) (by simp only [CA, simprocAttr]; rfl) rfl ?_) | ((with_reducible refine chk_r ?_); refine r_callP (by simp only [CA, simprocAttr]; rfl) (by simp only [CA, simprocAttr]; rfl) (by first | exact q _) rfl ?_) | (with_reducible refine k_condP (by simp only [GA, simprocAttr]; rfl) (by first | (simp only [BO]; rfl) | rfl) (fun ht => ?_) (fun ht => ?_) <;> try (first | exact False.elim ht | exact absurd rfl ht | exact absurd trivial ht | exact Bool.noConfusion ht)) | (with_reducible refine k_ret ?_; repeat with_reducible (first | refine ret_thru ?_ | refine ret_blk ?_ | refine fin ?_)) | (with_reducible refine k_exit ?_; repeat with_reducible (first | refine thru ?_ | refine out_blk ?_ | refine pass (by decide) ?_)) | ((first | refine post1 ?_ | refine post2 ?_ | refine post3 ?_); simp only [GA, simprocAttr]) | refine post0 ?_
    all_goals first | exact ends_of | exact ends_eq rfl
 ·obtain rfl : k = a.length := by omega
  have klt' : ¬ (a.length : Int) < a.length := by omega
  rw [List.drop_length] at e
  by_cases c1 : a.length < b.length
  ·have c1' := eq_true (show (a.length : Int) < b.length by omega)
   rw [drop_cons c1, cmpL] at e
   rw [e]
   repeat' first | (with_reducible first | refine k_seq ?_ | refine k_skip ?_ | refine k_blkS ?_ | refine k_blkR ?_ | refine k_blkC ?_ | refine k_blkH ?_ | refine k_blkB ?_ | refine k_blkK ?_ | refine k_blkE ?_ | refine k_reg ?_) | with_reducible refine r_done ?_ | with_reducible refine s_go (by simp (disch := omega) only [klt', c1', RG50, EVA, plug, eq_self, simprocAttr]; with_reducible rfl) ?_ | ((with_reducible refine chk_r ?_); refine r_callF (by simp only [CA, simprocAttr]; rfl) (by exact rfl) (by simp only [CA, simprocAttr]; rfl) rfl ?_) | (with_reducible refine k_condP (by simp only [GA, simprocAttr]; rfl) (by first | (simp only [BO]; rfl) | rfl) (fun ht => ?_) (fun ht => ?_) <;> try (first | exact False.elim ht | exact absurd rfl ht | exact absurd trivial ht | exact Bool.noConfusion ht)) | (with_reducible refine k_ret ?_; repeat with_reducible (first | refine ret_thru ?_ | refine ret_blk ?_ | refine fin ?_)) | (with_reducible refine k_exit ?_; repeat with_reducible (first | refine thru ?_ | refine out_blk ?_ | refine pass (by decide) ?_)) | ((first | refine post1 ?_ | refine post2 ?_ | refine post3 ?_); simp only [GA, simprocAttr]) | refine post0 ?_
   all_goals first | exact ends_of | exact ends_eq rfl
  ·have c1' := eq_false (show ¬ (a.length : Int) < b.length by omega)
   rw [List.drop_of_length_le (by omega), cmpL] at e
   rw [e]
   repeat' first | (with_reducible first | refine k_seq ?_ | refine k_skip ?_ | refine k_blkS ?_ | refine k_blkR ?_ | refine k_blkC ?_ | refine k_blkH ?_ | refine k_blkB ?_ | refine k_blkK ?_ | refine k_blkE ?_ | refine k_reg ?_) | with_reducible refine r_done ?_ | with_reducible refine s_go (by simp (disch := omega) only [klt', c1', RG50, EVA, plug, eq_self, simprocAttr]; with_reducible rfl) ?_ | ((with_reducible refine chk_r ?_); refine r_callF (by simp only [CA, simprocAttr]; rfl) (by exact rfl) (by simp only [CA, simprocAttr]; rfl) rfl ?_) | (with_reducible refine k_condP (by simp only [GA, simprocAttr]; rfl) (by first | (simp only [BO]; rfl) | rfl) (fun ht => ?_) (fun ht => ?_) <;> try (first | exact False.elim ht | exact absurd rfl ht | exact absurd trivial ht | exact Bool.noConfusion ht)) | (with_reducible refine k_ret ?_; repeat with_reducible (first | refine ret_thru ?_ | refine ret_blk ?_ | refine fin ?_)) | (with_reducible refine k_exit ?_; repeat with_reducible (first | refine thru ?_ | refine out_blk ?_ | refine pass (by decide) ?_)) | ((first | refine post1 ?_ | refine post2 ?_ | refine post3 ?_); simp only [GA, simprocAttr]) | refine post0 ?_
   all_goals first | exact ends_of | exact ends_eq rfl
theorem pk_of_asc {n : Nat} {li : List Int} (ha : asc li) (hb : inB n li) : pkOk li n = true := by
 rw [pkOk_iff]
 intro j hj
 have ej : lN li j = li[j] := by
  unfold lN
  rw [List.getD_eq_getElem?_getD, List.getElem?_eq_getElem hj]; rfl
 refine ⟨by rw [ej]; exact hb _ (List.getElem_mem hj), fun i hi => ?_⟩
 have ei : lN li i = li[i] := by
  unfold lN
  rw [List.getD_eq_getElem?_getD, List.getElem?_eq_getElem (by omega)]; rfl
 have := List.pairwise_iff_getElem.1 ha i j (by omega) hj hi
 rw [ej, ei]
 omega
theorem whole_eq {l : List Sz} {m : List Hd} {li : List Int} (hp : pkOk li l.length = true) : orS (fitL l m) li li.length = 2 ^ m.length - 1 ↔ cvsB l m li = true := by
 have P := pkOk_iff.1 hp
 unfold cvsB
 rw [decide_eq_true_eq]
 constructor
 ·intro e k hk
  have b : (orS (fitL l m) li li.length).testBit k = true := by rw [e, Nat.testBit_two_pow_sub_one]; exact decide_eq_true hk
  obtain ⟨j, hj, q⟩ := orS_bit.1 b
  have p := (P j hj).1
  rw [fitL_get (by omega)] at q
  exact anyZ_at.2 ⟨j, hj, (fitS_bit.1 q).2⟩
 ·intro h
  refine Nat.eq_of_testBit_eq fun i => ?_
  rw [Nat.testBit_two_pow_sub_one]
  by_cases hi : i < m.length
  ·rw [decide_eq_true hi]
   obtain ⟨j, hj, q⟩ := anyZ_at.1 (h i hi)
   have p := (P j hj).1
   refine orS_bit.2 ⟨j, hj, ?_⟩
   rw [fitL_get (by omega)]
   exact fitS_bit.2 ⟨hi, q⟩
  ·rw [decide_eq_false hi]
   exact Nat.testBit_lt_two_pow (Nat.lt_of_lt_of_le (orS_lt (m := m) hp (Nat.le_refl _)) (Nat.pow_le_pow_right (by omega) (by omega)))
def cvrR (l : List Sz) (m : List Hd) : List Int × Int := if chk l m ≠ 0 then ([], chk l m) else if 12 < l.length then ([], 4) else if (cvN (cvsB l m) (2 ^ l.length)).1 = true then ((cvN (cvsB l m) (2 ^ l.length)).2, 0) else ([], 32)
theorem cvN_len (p : List Int → Bool) : ∀ k, (cvN p k).2.length ≤ 64
 | 0 => Nat.zero_le _
 | k + 1 => by
   rw [cvN]; unfold cvF
   split
   ·exact bts_len k
   ·exact cvN_len p k
theorem RG18 : (type_of% @c18r0.eq_1) ∧ (type_of% @c18r1.eq_1) ∧ (type_of% @c18r2.eq_1) ∧ (type_of% @c18r3.eq_1) ∧ (type_of% @c18r4.eq_1) ∧ (type_of% @c18r5.eq_1) ∧ (type_of% @c18r6.eq_1) ∧ (type_of% @c18r7.eq_1) ∧ (type_of% @c18r8.eq_1) ∧ (type_of% @c18r9.eq_1) ∧ (type_of% @c18r10.eq_1) ∧ (type_of% @c18r11.eq_1) ∧ (type_of% @c18r12.eq_1) ∧ (type_of% @c18r13.eq_1) ∧ (type_of% @c18r14.eq_1) ∧ (type_of% @c18r15.eq_1) ∧ (type_of% @c18r16.eq_1) ∧ (type_of% @c18r17.eq_1) ∧ (type_of% @c18r18.eq_1) ∧ (type_of% @c18r19.eq_1) ∧ (type_of% @c18r21.eq_1) ∧ (type_of% @c18r22.eq_1) ∧ (type_of% @c18r23.eq_1) ∧ (type_of% @c18r25.eq_1) ∧ (type_of% @c18r26.eq_1) ∧ (type_of% @c18r27.eq_1) := ⟨@c18r0.eq_1, @c18r1.eq_1, @c18r2.eq_1, @c18r3.eq_1, @c18r4.eq_1, @c18r5.eq_1, @c18r6.eq_1, @c18r7.eq_1, @c18r8.eq_1, @c18r9.eq_1, @c18r10.eq_1, @c18r11.eq_1, @c18r12.eq_1, @c18r13.eq_1, @c18r14.eq_1, @c18r15.eq_1, @c18r16.eq_1, @c18r17.eq_1, @c18r18.eq_1, @c18r19.eq_1, @c18r21.eq_1, @c18r22.eq_1, @c18r23.eq_1, @c18r25.eq_1, @c18r26.eq_1, @c18r27.eq_1⟩
set_option maxHeartbeats 2000000 in
theorem d18 (l : List Sz) (m : List Hd) (hl : l.length ≤ 9223372036854775807) (hm : m.length ≤ 9223372036854775807) : PC Tryd.prog 18 [vZ l, vH m] (.tu [vi (cvrR l m).1, .i .i64 (cvrR l m).2]) := by
 have q1 := pc41 l m hl hm
 unfold cvrR
 refine pc_fn fn18 (by simp only [AV.plains, AV.plain, il_plain, bl_plain, Bool.and_true, Bool.true_and, Bool.and_self, fleZ_plain, fleH_plain, il_plain]) (by simp only [AV.plains, AV.plain, il_plain, bl_plain, Bool.and_true, Bool.true_and, Bool.and_self, fleZ_plain, fleH_plain, il_plain]) (Nat.le_of_ble_eq_true rfl) ?_
 rw [initSt2]
 by_cases c : chk l m = 0
 ·rw [if_neg (by simp [c])]
  rw [c] at q1
  by_cases c12 : 12 < l.length
  ·rw [if_pos c12]
   have c12' := eq_true (show (12 : Int) < l.length by omega)
   repeat' first | (with_reducible first | refine k_seq ?_ | refine k_skip ?_ | refine k_blkS ?_ | refine k_blkR ?_ | refine k_blkC ?_ | refine k_blkH ?_ | refine k_blkB ?_ | refine k_blkK ?_ | refine k_blkE ?_ | refine k_reg ?_) | with_reducible refine r_done ?_ | with_reducible refine s_go (by simp (disch := omega) only [c12', RG18, EVA, plug, eq_self, simprocAttr]; with_reducible rfl) ?_ | ((with_reducible refine chk_r ?_); refine r_callF (by simp only [CA, simprocAttr]; rfl) (by exact rfl) (by simp only [CA, simprocAttr]; rfl) rfl ?_) | ((with_reducible refine chk_r ?_); refine r_callP (by simp only [CA, simprocAttr]; rfl) (by simp only [CA, simprocAttr]; rfl) (by first | exact q1 _) rfl ?_) | ((with_reducible refine chk_r ?_); refine r_callG (by simp only [CA, simprocAttr]; rfl) (by simp only [CA, simprocAttr]; rfl) (by simp only [CA, simprocAttr]; rfl) (by intro hg; (try simp only [BO] at hg); first | exact q1 _) rfl ?_) | (with_reducible refine k_condP (by simp only [GA, simprocAttr]; rfl) (by first | (simp only [BO]; rfl) | rfl) (fun ht => ?_) (fun ht => ?_) <;> try (first | exact False.elim ht | exact absurd rfl ht | exact absurd trivial ht | exact Bool.noConfusion ht)) | (with_reducible refine k_ret ?_; repeat with_reducible (first | refine ret_thru ?_ | refine ret_blk ?_ | refine fin ?_)) | (with_reducible refine k_exit ?_; repeat with_reducible (first | refine thru ?_ | refine out_blk ?_ | refine pass (by decide) ?_)) | ((first | refine post1 ?_ | refine post2 ?_ | refine post3 ?_); simp only [GA, simprocAttr]) | refine post0 ?_
   exact ends_nil2
  ·rw [if_neg c12]
   have c12' := eq_false (show ¬ (12 : Int) < l.length by omega)
   have q3 := pc48 l m (chk_ok c).1 (chk_ok c).2
   have M := (hdsOk_iff.1 (chk_ok c).2).1
   have sh1 := shl_64 (k := m.length) (by omega)
   have p1 : 0 < 2 ^ m.length := Nat.two_pow_pos _
   have p2 : 2 ^ m.length ≤ 2 ^ 40 := Nat.pow_le_pow_right (by omega) M
   have w1 : IntKind.u64.wrap (((2 ^ m.length : Nat) : Int) - 1) = ((2 ^ m.length - 1 : Nat) : Int) := by rw [wrapU]; omega
   have p3 : 2 ^ l.length ≤ 2 ^ 12 := Nat.pow_le_pow_right (by omega) (by omega)
   have sh2 : IntKind.i64.wrap (1 * 2 ^ (min l.length IntKind.i64.bits)) = ((2 ^ l.length : Nat) : Int) := by
    have e : min l.length IntKind.i64.bits = l.length := Nat.min_eq_left (by show l.length ≤ 64; omega)
    rw [e, Int.one_mul]
    have w : ∀ N : Nat, N ≤ 4096 → IntKind.i64.wrap (N : Int) = N := fun N h => wrap64 (by omega) (by omega)
    have := w _ (show 2 ^ l.length ≤ 4096 from p3)
    rw [Int.natCast_pow] at this ⊢
    exact this
   have WE := fun {li : List Int} (hp : pkOk li l.length = true) => whole_eq (m := m) hp
   repeat' first | (with_reducible first | refine k_seq ?_ | refine k_skip ?_ | refine k_blkS ?_ | refine k_blkR ?_ | refine k_blkC ?_ | refine k_blkH ?_ | refine k_blkB ?_ | refine k_blkK ?_ | refine k_blkE ?_ | refine k_reg ?_) | with_reducible refine r_done ?_ | with_reducible refine s_go (by simp (disch := omega) only [c12', sh1, w1, sh2, RG18, EVA, plug, eq_self, simprocAttr]; with_reducible rfl) ?_ | ((with_reducible refine chk_r ?_); refine r_callF (by simp only [CA, simprocAttr]; rfl) (by exact rfl) (by simp only [CA, simprocAttr]; rfl) rfl ?_) | ((with_reducible refine chk_r ?_); refine r_callP (by simp only [CA, simprocAttr]; rfl) (by simp only [CA, simprocAttr]; rfl) (by first | exact q1 _ | exact q3 _) rfl ?_) | ((with_reducible refine chk_r ?_); refine r_callG (by simp only [CA, simprocAttr]; rfl) (by simp only [CA, simprocAttr]; rfl) (by simp only [CA, simprocAttr]; rfl) (by intro hg; (try simp only [BO] at hg); first | exact q1 _ | exact q3 _) rfl ?_) | (with_reducible refine k_condP (by simp only [GA, simprocAttr]; rfl) (by first | (simp only [BO]; rfl) | rfl) (fun ht => ?_) (fun ht => ?_) <;> try (first | exact False.elim ht | exact absurd rfl ht | exact absurd trivial ht | exact Bool.noConfusion ht)) | (with_reducible refine k_ret ?_; repeat with_reducible (first | refine ret_thru ?_ | refine ret_blk ?_ | refine fin ?_)) | (with_reducible refine k_exit ?_; repeat with_reducible (first | refine thru ?_ | refine out_blk ?_ | refine pass (by decide) ?_)) | ((first | refine post1 ?_ | refine post2 ?_ | refine post3 ?_); simp only [GA, simprocAttr]) | refine post0 ?_
   refine w_nilS 9 rfl ?_
   generalize hW : 2 ^ m.length - 1 = wh at *
   refine k_blk (k_loopS (X := Unit) [7, 8, 9, 10, 34, 35] (2 ^ l.length) (fun k _ => [(7, .vs l.length (nu (fitL l m))), (8, .i .u64 (wh : Int)), (9, vi (cvN (cvsB l m) k).2), (10, .b (cvN (cvsB l m) k).1), (34, .i .i64 ((2 ^ l.length : Nat) : Int)), (35, .i .i64 (k : Int))]) (fun k _ h => True) () (by simp only [Am.keep, List.map_cons, List.map_nil, GA, simprocAttr]; try rfl) trivial ?_)
   rintro k _ h hk - ok pos
   by_cases klt : k < 2 ^ l.length
   ·have klt' : (k : Int) < ((2 ^ l.length : Nat) : Int) := by omega
    have cv : IntKind.u64.wrap (k : Int) = k := wrapN (by omega)
    have s64 : k < 2 ^ 64 := by omega
    have la := asc_bts k
    have lb := bts_in klt
    have ll := bts_len k
    have bl := cvN_len (cvsB l m) k
    have eT : cvsB l m (bts k) = true → ((cvN (cvsB l m) k).1 = false ∨ bet (bts k) (cvN (cvsB l m) k).2) → cvN (cvsB l m) (k + 1) = (true, bts k) := fun h1 h2 => if_pos ⟨h1, h2⟩
    have eF : (cvsB l m (bts k) = true → ¬ ((cvN (cvsB l m) k).1 = false ∨ bet (bts k) (cvN (cvsB l m) k).2)) → cvN (cvsB l m) (k + 1) = cvN (cvsB l m) k := fun h => if_neg fun q => h q.1 q.2
    have eB : ∀ a b : List Int, bet a b ↔ a.length < b.length ∨ a.length = b.length ∧ cmpL a b < 0 := fun a b => Iff.rfl
    rw [eB] at eT eF
    repeat' first | (with_reducible first | refine k_seq ?_ | refine k_skip ?_ | refine k_blkS ?_ | refine k_blkR ?_ | refine k_blkC ?_ | refine k_blkH ?_ | refine k_blkB ?_ | refine k_blkK ?_ | refine k_blkE ?_ | refine k_reg ?_) | with_reducible refine r_done ?_ | with_reducible refine s_go (by simp (disch := omega) only [klt', cv, RG18, EVA, plug, eq_self, simprocAttr]; with_reducible rfl) ?_ | ((with_reducible refine chk_r ?_); refine r_callF (by simp only [CA, simprocAttr]; rfl) (by exact rfl) (by simp only [CA, simprocAttr]; rfl) rfl ?_) | ((with_reducible refine chk_r ?_); refine r_callX (by simp only [CA, simprocAttr]; rfl) (by simp only [CA, simprocAttr]; rfl) (by first | exact a43 _ _) rfl ?_) | ((with_reducible refine chk_r ?_); refine r_callTX (by first | (simp only [CA, simprocAttr]; rfl) | simp only [CA, simprocAttr]) (by simp only [CA, simprocAttr]; rfl) (by simp only [CA, simprocAttr]; rfl) (by first | exact a43 _ _) rfl ?_) | (with_reducible refine k_condP (by simp only [GA, simprocAttr]; rfl) (by first | (simp only [BO]; rfl) | rfl) (fun ht => ?_) (fun ht => ?_) <;> try (first | exact False.elim ht | exact absurd rfl ht | exact absurd trivial ht | exact Bool.noConfusion ht)) | (with_reducible refine k_ret ?_; repeat with_reducible (first | refine ret_thru ?_ | refine ret_blk ?_ | refine fin ?_)) | (with_reducible refine k_exit ?_; repeat with_reducible (first | refine thru ?_ | refine out_blk ?_ | refine pass (by decide) ?_)) | ((first | refine post1 ?_ | refine post2 ?_ | refine post3 ?_); simp only [GA, simprocAttr]) | refine post0 ?_
    rintro r h2 ⟨t, rfl, t1, t2, t3, t4⟩
    repeat' first | (with_reducible first | refine k_seq ?_ | refine k_skip ?_ | refine k_blkS ?_ | refine k_blkR ?_ | refine k_blkC ?_ | refine k_blkH ?_ | refine k_blkB ?_ | refine k_blkK ?_ | refine k_blkE ?_ | refine k_reg ?_) | with_reducible refine r_done ?_ | with_reducible refine s_go (by simp (disch := omega) only [RG18, EVA, plug, eq_self, simprocAttr]; with_reducible rfl) ?_ | ((with_reducible refine chk_r ?_); refine r_callF (by simp only [CA, simprocAttr]; rfl) (by exact rfl) (by simp only [CA, simprocAttr]; rfl) rfl ?_) | ((with_reducible refine chk_r ?_); refine r_callX (by simp only [CA, simprocAttr]; rfl) (by simp only [CA, simprocAttr]; rfl) (by first | exact n42 t k s64 _ (by simp (disch := omega) only [t2, RG18, EVA, plug, eq_self, simprocAttr])) rfl ?_) | ((with_reducible refine chk_r ?_); refine r_callTX (by first | (simp only [CA, simprocAttr]; rfl) | simp only [CA, simprocAttr]) (by simp only [CA, simprocAttr]; rfl) (by simp only [CA, simprocAttr]; rfl) (by first | exact n42 t k s64 _ (by simp (disch := omega) only [t2, RG18, EVA, plug, eq_self, simprocAttr])) rfl ?_) | (with_reducible refine k_condP (by simp only [GA, simprocAttr]; rfl) (by first | (simp only [BO]; rfl) | rfl) (fun ht => ?_) (fun ht => ?_) <;> try (first | exact False.elim ht | exact absurd rfl ht | exact absurd trivial ht | exact Bool.noConfusion ht)) | (with_reducible refine k_ret ?_; repeat with_reducible (first | refine ret_thru ?_ | refine ret_blk ?_ | refine fin ?_)) | (with_reducible refine k_exit ?_; repeat with_reducible (first | refine thru ?_ | refine out_blk ?_ | refine pass (by decide) ?_)) | ((first | refine post1 ?_ | refine post2 ?_ | refine post3 ?_); simp only [GA, simprocAttr]) | refine post0 ?_
    rintro r h3 ⟨rfl, U⟩
    have hp := pk_of_asc la lb
    have P := pkOk_iff.1 hp
    have we := WE hp
    generalize bts k = li at *
    have pr : cvN (cvsB l m) k = ((cvN (cvsB l m) k).1, (cvN (cvsB l m) k).2) := rfl
    generalize hF : (cvN (cvsB l m) k).1 = F at *
    generalize hB : (cvN (cvsB l m) k).2 = B at *
    repeat' first | (with_reducible first | refine k_seq ?_ | refine k_skip ?_ | refine k_blkS ?_ | refine k_blkR ?_ | refine k_blkC ?_ | refine k_blkH ?_ | refine k_blkB ?_ | refine k_blkK ?_ | refine k_blkE ?_ | refine k_reg ?_) | with_reducible refine r_done ?_ | with_reducible refine s_go (by simp (disch := omega) only [RG18, EVA, plug, eq_self, simprocAttr]; with_reducible rfl) ?_ | ((with_reducible refine chk_r ?_); refine r_callF (by simp only [CA, simprocAttr]; rfl) (by exact rfl) (by simp only [CA, simprocAttr]; rfl) rfl ?_) | (with_reducible refine k_condP (by simp only [GA, simprocAttr]; rfl) (by first | (simp only [BO]; rfl) | rfl) (fun ht => ?_) (fun ht => ?_) <;> try (first | exact False.elim ht | exact absurd rfl ht | exact absurd trivial ht | exact Bool.noConfusion ht)) | (with_reducible refine k_ret ?_; repeat with_reducible (first | refine ret_thru ?_ | refine ret_blk ?_ | refine fin ?_)) | (with_reducible refine k_exit ?_; repeat with_reducible (first | refine thru ?_ | refine out_blk ?_ | refine pass (by decide) ?_)) | ((first | refine post1 ?_ | refine post2 ?_ | refine post3 ?_); simp only [GA, simprocAttr]) | refine post0 ?_
    refine k_blk (k_loopS (X := Unit) [7, 8, 9, 10, 12, 13, 34, 35, 42, 43, 44] li.length (fun j _ => [(7, .vs l.length (nu (fitL l m))), (8, .i .u64 (wh : Int)), (9, vi B), (10, .b F), (12, .i .u64 ((orS (fitL l m) li j : Nat) : Int)), (13, vi li), (34, .i .i64 ((2 ^ l.length : Nat) : Int)), (35, .i .i64 (k : Int)), (42, vi li), (43, .i .i64 li.length), (44, .i .i64 (j : Int))]) (fun j _ h => True) () (by simp only [Am.keep, List.map_cons, List.map_nil, GA, simprocAttr]; try rfl) trivial ?_)
    rintro j _ h' hj - ok' pos'
    have lk := lt_64 (orS_lt (m := m) hp hj) M
    by_cases jlt : j < li.length
    ·have jlt' : (j : Int) < li.length := by omega
     have g : (il li)[j]? = some (.i .i64 (lN li j)) := il_get jlt
     have pk := (P j jlt).1
     obtain ⟨a, ha⟩ : ∃ a : Nat, lN li j = (a : Int) := ⟨(lN li j).toNat, by omega⟩
     have e1 : orS (fitL l m) li (j + 1) = orS (fitL l m) li j ||| fitS m (zD l a) := by
      rw [orS, ha, Int.toNat_natCast, fitL_get (by omega)]
     rw [ha] at g pk
     have al : (a : Int) < l.length := pk.2
     have g2 := nu_get (l := fitL l m) (j := a) (by simp [fitL]; omega)
     rw [fitL_get (by omega)] at g2
     have o1 := or_64 lk (lt_64 (fitS_lt (m := m) (s := zD l a)) M)
     rw [← e1] at o1
     repeat' first | (with_reducible first | refine k_seq ?_ | refine k_skip ?_ | refine k_blkS ?_ | refine k_blkR ?_ | refine k_blkC ?_ | refine k_blkH ?_ | refine k_blkB ?_ | refine k_blkK ?_ | refine k_blkE ?_ | refine k_reg ?_) | with_reducible refine r_done ?_ | with_reducible refine s_go (by simp (disch := omega) only [jlt', g, al, g2, o1, RG18, EVA, plug, eq_self, simprocAttr]; with_reducible rfl) ?_ | ((with_reducible refine chk_r ?_); refine r_callF (by simp only [CA, simprocAttr]; rfl) (by exact rfl) (by simp only [CA, simprocAttr]; rfl) rfl ?_) | (with_reducible refine k_condP (by simp only [GA, simprocAttr]; rfl) (by first | (simp only [BO]; rfl) | rfl) (fun ht => ?_) (fun ht => ?_) <;> try (first | exact False.elim ht | exact absurd rfl ht | exact absurd trivial ht | exact Bool.noConfusion ht)) | (with_reducible refine k_ret ?_; repeat with_reducible (first | refine ret_thru ?_ | refine ret_blk ?_ | refine fin ?_)) | (with_reducible refine k_exit ?_; repeat with_reducible (first | refine thru ?_ | refine out_blk ?_ | refine pass (by decide) ?_)) | ((first | refine post1 ?_ | refine post2 ?_ | refine post3 ?_); simp only [GA, simprocAttr]) | refine post0 ?_
     exact ⟨jlt, (), (by simp only [Am.keep, List.map_cons, List.map_nil, GA, simprocAttr]; try rfl), trivial⟩
    ·obtain rfl : j = li.length := by omega
     have jlt' : ¬ (li.length : Int) < li.length := by omega
     have q50 := d50 li B (by omega) (by omega)
     generalize orS (fitL l m) li li.length = o at *
     by_cases w : o = wh
     ·have w' := eq_true (show (o : Int) = wh by omega)
      have cv1 := we.1 w
      cases F with
      | false =>
        have es := eT cv1 (.inl rfl)
        repeat' first | (with_reducible first | refine k_seq ?_ | refine k_skip ?_ | refine k_blkS ?_ | refine k_blkR ?_ | refine k_blkC ?_ | refine k_blkH ?_ | refine k_blkB ?_ | refine k_blkK ?_ | refine k_blkE ?_ | refine k_reg ?_) | with_reducible refine r_done ?_ | with_reducible refine s_go (by simp (disch := omega) only [jlt', w', RG18, EVA, plug, eq_self, simprocAttr]; with_reducible rfl) ?_ | ((with_reducible refine chk_r ?_); refine r_callF (by simp only [CA, simprocAttr]; rfl) (by exact rfl) (by simp only [CA, simprocAttr]; rfl) rfl ?_) | ((with_reducible refine chk_r ?_); refine r_callP (by simp only [CA, simprocAttr]; rfl) (by simp only [CA, simprocAttr]; rfl) (by first | exact q50 _) rfl ?_) | ((with_reducible refine chk_r ?_); refine r_callG (by simp only [CA, simprocAttr]; rfl) (by simp only [CA, simprocAttr]; rfl) (by simp only [CA, simprocAttr]; rfl) (by intro hg; (try simp only [BO] at hg); first | exact q50 _) rfl ?_) | (with_reducible refine k_condP (by simp only [GA, simprocAttr]; rfl) (by first | (simp only [BO]; rfl) | rfl) (fun ht => ?_) (fun ht => ?_) <;> try (first | exact False.elim ht | exact absurd rfl ht | exact absurd trivial ht | exact Bool.noConfusion ht)) | (with_reducible refine k_ret ?_; repeat with_reducible (first | refine ret_thru ?_ | refine ret_blk ?_ | refine fin ?_)) | (with_reducible refine k_exit ?_; repeat with_reducible (first | refine thru ?_ | refine out_blk ?_ | refine pass (by decide) ?_)) | ((first | refine post1 ?_ | refine post2 ?_ | refine post3 ?_); simp only [GA, simprocAttr]) | refine post0 ?_
        exact ⟨klt, (), (by rw [es]; exact (by simp only [Am.keep, List.map_cons, List.map_nil, GA, simprocAttr]; try rfl)), trivial⟩
      | true =>
        by_cases c1 : li.length < B.length
        ·have c1' := eq_true (show (li.length : Int) < B.length by omega)
         have es := eT cv1 (.inr (.inl c1))
         repeat' first | (with_reducible first | refine k_seq ?_ | refine k_skip ?_ | refine k_blkS ?_ | refine k_blkR ?_ | refine k_blkC ?_ | refine k_blkH ?_ | refine k_blkB ?_ | refine k_blkK ?_ | refine k_blkE ?_ | refine k_reg ?_) | with_reducible refine r_done ?_ | with_reducible refine s_go (by simp (disch := omega) only [jlt', w', c1', RG18, EVA, plug, eq_self, simprocAttr]; with_reducible rfl) ?_ | ((with_reducible refine chk_r ?_); refine r_callF (by simp only [CA, simprocAttr]; rfl) (by exact rfl) (by simp only [CA, simprocAttr]; rfl) rfl ?_) | ((with_reducible refine chk_r ?_); refine r_callP (by simp only [CA, simprocAttr]; rfl) (by simp only [CA, simprocAttr]; rfl) (by first | exact q50 _) rfl ?_) | ((with_reducible refine chk_r ?_); refine r_callG (by simp only [CA, simprocAttr]; rfl) (by simp only [CA, simprocAttr]; rfl) (by simp only [CA, simprocAttr]; rfl) (by intro hg; (try simp only [BO] at hg); first | exact q50 _) rfl ?_) | (with_reducible refine k_condP (by simp only [GA, simprocAttr]; rfl) (by first | (simp only [BO]; rfl) | rfl) (fun ht => ?_) (fun ht => ?_) <;> try (first | exact False.elim ht | exact absurd rfl ht | exact absurd trivial ht | exact Bool.noConfusion ht)) | (with_reducible refine k_ret ?_; repeat with_reducible (first | refine ret_thru ?_ | refine ret_blk ?_ | refine fin ?_)) | (with_reducible refine k_exit ?_; repeat with_reducible (first | refine thru ?_ | refine out_blk ?_ | refine pass (by decide) ?_)) | ((first | refine post1 ?_ | refine post2 ?_ | refine post3 ?_); simp only [GA, simprocAttr]) | refine post0 ?_
         exact ⟨klt, (), (by rw [es]; exact (by simp only [Am.keep, List.map_cons, List.map_nil, GA, simprocAttr]; try rfl)), trivial⟩
        ·have c1' := eq_false (show ¬ (li.length : Int) < B.length by omega)
         by_cases c2 : li.length = B.length
         ·have c2' := eq_true (show (li.length : Int) = B.length by omega)
          by_cases c3 : cmpL li B < 0
          ·have c3' := eq_true c3
           have es := eT cv1 (.inr (.inr ⟨c2, c3⟩))
           repeat' first | (with_reducible first | refine k_seq ?_ | refine k_skip ?_ | refine k_blkS ?_ | refine k_blkR ?_ | refine k_blkC ?_ | refine k_blkH ?_ | refine k_blkB ?_ | refine k_blkK ?_ | refine k_blkE ?_ | refine k_reg ?_) | with_reducible refine r_done ?_ | with_reducible refine s_go (by simp (disch := omega) only [jlt', w', c1', c2', c3', RG18, EVA, plug, eq_self, simprocAttr]; with_reducible rfl) ?_ | ((with_reducible refine chk_r ?_); refine r_callF (by simp only [CA, simprocAttr]; rfl) (by exact rfl) (by simp only [CA, simprocAttr]; rfl) rfl ?_) | ((with_reducible refine chk_r ?_); refine r_callP (by simp only [CA, simprocAttr]; rfl) (by simp only [CA, simprocAttr]; rfl) (by first | exact q50 _) rfl ?_) | ((with_reducible refine chk_r ?_); refine r_callG (by simp only [CA, simprocAttr]; rfl) (by simp only [CA, simprocAttr]; rfl) (by simp only [CA, simprocAttr]; rfl) (by intro hg; (try simp only [BO] at hg); first | exact q50 _) rfl ?_) | (with_reducible refine k_condP (by simp only [GA, simprocAttr]; rfl) (by first | (simp only [BO]; rfl) | rfl) (fun ht => ?_) (fun ht => ?_) <;> try (first | exact False.elim ht | exact absurd rfl ht | exact absurd trivial ht | exact Bool.noConfusion ht)) | (with_reducible refine k_ret ?_; repeat with_reducible (first | refine ret_thru ?_ | refine ret_blk ?_ | refine fin ?_)) | (with_reducible refine k_exit ?_; repeat with_reducible (first | refine thru ?_ | refine out_blk ?_ | refine pass (by decide) ?_)) | ((first | refine post1 ?_ | refine post2 ?_ | refine post3 ?_); simp only [GA, simprocAttr]) | refine post0 ?_
           exact ⟨klt, (), (by rw [es]; exact (by simp only [Am.keep, List.map_cons, List.map_nil, GA, simprocAttr]; try rfl)), trivial⟩
          ·have c3' := eq_false c3
           have es := eF fun _ => by simp [c1, c3]
           repeat' first | (with_reducible first | refine k_seq ?_ | refine k_skip ?_ | refine k_blkS ?_ | refine k_blkR ?_ | refine k_blkC ?_ | refine k_blkH ?_ | refine k_blkB ?_ | refine k_blkK ?_ | refine k_blkE ?_ | refine k_reg ?_) | with_reducible refine r_done ?_ | with_reducible refine s_go (by simp (disch := omega) only [jlt', w', c1', c2', c3', RG18, EVA, plug, eq_self, simprocAttr]; with_reducible rfl) ?_ | ((with_reducible refine chk_r ?_); refine r_callF (by simp only [CA, simprocAttr]; rfl) (by exact rfl) (by simp only [CA, simprocAttr]; rfl) rfl ?_) | ((with_reducible refine chk_r ?_); refine r_callP (by simp only [CA, simprocAttr]; rfl) (by simp only [CA, simprocAttr]; rfl) (by first | exact q50 _) rfl ?_) | ((with_reducible refine chk_r ?_); refine r_callG (by simp only [CA, simprocAttr]; rfl) (by simp only [CA, simprocAttr]; rfl) (by simp only [CA, simprocAttr]; rfl) (by intro hg; (try simp only [BO] at hg); first | exact q50 _) rfl ?_) | (with_reducible refine k_condP (by simp only [GA, simprocAttr]; rfl) (by first | (simp only [BO]; rfl) | rfl) (fun ht => ?_) (fun ht => ?_) <;> try (first | exact False.elim ht | exact absurd rfl ht | exact absurd trivial ht | exact Bool.noConfusion ht)) | (with_reducible refine k_ret ?_; repeat with_reducible (first | refine ret_thru ?_ | refine ret_blk ?_ | refine fin ?_)) | (with_reducible refine k_exit ?_; repeat with_reducible (first | refine thru ?_ | refine out_blk ?_ | refine pass (by decide) ?_)) | ((first | refine post1 ?_ | refine post2 ?_ | refine post3 ?_); simp only [GA, simprocAttr]) | refine post0 ?_
           exact ⟨klt, (), (by rw [es, pr]; exact (by simp only [Am.keep, List.map_cons, List.map_nil, GA, simprocAttr]; try rfl)), trivial⟩
         ·have c2' := eq_false (show ¬ (li.length : Int) = B.length by omega)
          have es := eF fun _ => by simp [c1, c2]
          repeat' first | (with_reducible first | refine k_seq ?_ | refine k_skip ?_ | refine k_blkS ?_ | refine k_blkR ?_ | refine k_blkC ?_ | refine k_blkH ?_ | refine k_blkB ?_ | refine k_blkK ?_ | refine k_blkE ?_ | refine k_reg ?_) | with_reducible refine r_done ?_ | with_reducible refine s_go (by simp (disch := omega) only [jlt', w', c1', c2', RG18, EVA, plug, eq_self, simprocAttr]; with_reducible rfl) ?_ | ((with_reducible refine chk_r ?_); refine r_callF (by simp only [CA, simprocAttr]; rfl) (by exact rfl) (by simp only [CA, simprocAttr]; rfl) rfl ?_) | ((with_reducible refine chk_r ?_); refine r_callP (by simp only [CA, simprocAttr]; rfl) (by simp only [CA, simprocAttr]; rfl) (by first | exact q50 _) rfl ?_) | ((with_reducible refine chk_r ?_); refine r_callG (by simp only [CA, simprocAttr]; rfl) (by simp only [CA, simprocAttr]; rfl) (by simp only [CA, simprocAttr]; rfl) (by intro hg; (try simp only [BO] at hg); first | exact q50 _) rfl ?_) | (with_reducible refine k_condP (by simp only [GA, simprocAttr]; rfl) (by first | (simp only [BO]; rfl) | rfl) (fun ht => ?_) (fun ht => ?_) <;> try (first | exact False.elim ht | exact absurd rfl ht | exact absurd trivial ht | exact Bool.noConfusion ht)) | (with_reducible refine k_ret ?_; repeat with_reducible (first | refine ret_thru ?_ | refine ret_blk ?_ | refine fin ?_)) | (with_reducible refine k_exit ?_; repeat with_reducible (first | refine thru ?_ | refine out_blk ?_ | refine pass (by decide) ?_)) | ((first | refine post1 ?_ | refine post2 ?_ | refine post3 ?_); simp only [GA, simprocAttr]) | refine post0 ?_
          exact ⟨klt, (), (by rw [es, pr]; exact (by simp only [Am.keep, List.map_cons, List.map_nil, GA, simprocAttr]; try rfl)), trivial⟩
     ·have w' := eq_false (show ¬ (o : Int) = wh by omega)
      have es := eF fun q => absurd (we.2 q) w
      repeat' first | (with_reducible first | refine k_seq ?_ | refine k_skip ?_ | refine k_blkS ?_ | refine k_blkR ?_ | refine k_blkC ?_ | refine k_blkH ?_ | refine k_blkB ?_ | refine k_blkK ?_ | refine k_blkE ?_ | refine k_reg ?_) | with_reducible refine r_done ?_ | with_reducible refine s_go (by simp (disch := omega) only [jlt', w', RG18, EVA, plug, eq_self, simprocAttr]; with_reducible rfl) ?_ | ((with_reducible refine chk_r ?_); refine r_callF (by simp only [CA, simprocAttr]; rfl) (by exact rfl) (by simp only [CA, simprocAttr]; rfl) rfl ?_) | ((with_reducible refine chk_r ?_); refine r_callP (by simp only [CA, simprocAttr]; rfl) (by simp only [CA, simprocAttr]; rfl) (by first | exact q50 _) rfl ?_) | ((with_reducible refine chk_r ?_); refine r_callG (by simp only [CA, simprocAttr]; rfl) (by simp only [CA, simprocAttr]; rfl) (by simp only [CA, simprocAttr]; rfl) (by intro hg; (try simp only [BO] at hg); first | exact q50 _) rfl ?_) | (with_reducible refine k_condP (by simp only [GA, simprocAttr]; rfl) (by first | (simp only [BO]; rfl) | rfl) (fun ht => ?_) (fun ht => ?_) <;> try (first | exact False.elim ht | exact absurd rfl ht | exact absurd trivial ht | exact Bool.noConfusion ht)) | (with_reducible refine k_ret ?_; repeat with_reducible (first | refine ret_thru ?_ | refine ret_blk ?_ | refine fin ?_)) | (with_reducible refine k_exit ?_; repeat with_reducible (first | refine thru ?_ | refine out_blk ?_ | refine pass (by decide) ?_)) | ((first | refine post1 ?_ | refine post2 ?_ | refine post3 ?_); simp only [GA, simprocAttr]) | refine post0 ?_
      exact ⟨klt, (), (by rw [es, pr]; exact (by simp only [Am.keep, List.map_cons, List.map_nil, GA, simprocAttr]; try rfl)), trivial⟩
   ·obtain rfl : k = 2 ^ l.length := by omega
    have klt' : ¬ ((2 ^ l.length : Nat) : Int) < ((2 ^ l.length : Nat) : Int) := by omega
    cases d : (cvN (cvsB l m) (2 ^ l.length)).1 with
    | true =>
      rw [if_pos rfl]
      repeat' first | (with_reducible first | refine k_seq ?_ | refine k_skip ?_ | refine k_blkS ?_ | refine k_blkR ?_ | refine k_blkC ?_ | refine k_blkH ?_ | refine k_blkB ?_ | refine k_blkK ?_ | refine k_blkE ?_ | refine k_reg ?_) | with_reducible refine r_done ?_ | with_reducible refine s_go (by simp (disch := omega) only [klt', d, RG18, EVA, plug, eq_self, simprocAttr]; with_reducible rfl) ?_ | ((with_reducible refine chk_r ?_); refine r_callF (by simp only [CA, simprocAttr]; rfl) (by exact rfl) (by simp only [CA, simprocAttr]; rfl) rfl ?_) | (with_reducible refine k_condP (by simp only [GA, simprocAttr]; rfl) (by first | (simp only [BO]; rfl) | rfl) (fun ht => ?_) (fun ht => ?_) <;> try (first | exact False.elim ht | exact absurd rfl ht | exact absurd trivial ht | exact Bool.noConfusion ht)) | (with_reducible refine k_ret ?_; repeat with_reducible (first | refine ret_thru ?_ | refine ret_blk ?_ | refine fin ?_)) | (with_reducible refine k_exit ?_; repeat with_reducible (first | refine thru ?_ | refine out_blk ?_ | refine pass (by decide) ?_)) | ((first | refine post1 ?_ | refine post2 ?_ | refine post3 ?_); simp only [GA, simprocAttr]) | refine post0 ?_
      all_goals first | exact ends_of | exact ends_eq rfl
    | false =>
      rw [if_neg (by simp)]
      repeat' first | (with_reducible first | refine k_seq ?_ | refine k_skip ?_ | refine k_blkS ?_ | refine k_blkR ?_ | refine k_blkC ?_ | refine k_blkH ?_ | refine k_blkB ?_ | refine k_blkK ?_ | refine k_blkE ?_ | refine k_reg ?_) | with_reducible refine r_done ?_ | with_reducible refine s_go (by simp (disch := omega) only [klt', d, RG18, EVA, plug, eq_self, simprocAttr]; with_reducible rfl) ?_ | ((with_reducible refine chk_r ?_); refine r_callF (by simp only [CA, simprocAttr]; rfl) (by exact rfl) (by simp only [CA, simprocAttr]; rfl) rfl ?_) | (with_reducible refine k_condP (by simp only [GA, simprocAttr]; rfl) (by first | (simp only [BO]; rfl) | rfl) (fun ht => ?_) (fun ht => ?_) <;> try (first | exact False.elim ht | exact absurd rfl ht | exact absurd trivial ht | exact Bool.noConfusion ht)) | (with_reducible refine k_ret ?_; repeat with_reducible (first | refine ret_thru ?_ | refine ret_blk ?_ | refine fin ?_)) | (with_reducible refine k_exit ?_; repeat with_reducible (first | refine thru ?_ | refine out_blk ?_ | refine pass (by decide) ?_)) | ((first | refine post1 ?_ | refine post2 ?_ | refine post3 ?_); simp only [GA, simprocAttr]) | refine post0 ?_
      exact ends_nil2
 ·have c' := eq_false c
  rw [if_pos c]
  repeat' first | (with_reducible first | refine k_seq ?_ | refine k_skip ?_ | refine k_blkS ?_ | refine k_blkR ?_ | refine k_blkC ?_ | refine k_blkH ?_ | refine k_blkB ?_ | refine k_blkK ?_ | refine k_blkE ?_ | refine k_reg ?_) | with_reducible refine r_done ?_ | with_reducible refine s_go (by simp (disch := omega) only [c', RG18, EVA, plug, eq_self, simprocAttr]; with_reducible rfl) ?_ | ((with_reducible refine chk_r ?_); refine r_callF (by simp only [CA, simprocAttr]; rfl) (by exact rfl) (by simp only [CA, simprocAttr]; rfl) rfl ?_) | ((with_reducible refine chk_r ?_); refine r_callP (by simp only [CA, simprocAttr]; rfl) (by simp only [CA, simprocAttr]; rfl) (by first | exact q1 _) rfl ?_) | ((with_reducible refine chk_r ?_); refine r_callG (by simp only [CA, simprocAttr]; rfl) (by simp only [CA, simprocAttr]; rfl) (by simp only [CA, simprocAttr]; rfl) (by intro hg; (try simp only [BO] at hg); first | exact q1 _) rfl ?_) | (with_reducible refine k_condP (by simp only [GA, simprocAttr]; rfl) (by first | (simp only [BO]; rfl) | rfl) (fun ht => ?_) (fun ht => ?_) <;> try (first | exact False.elim ht | exact absurd rfl ht | exact absurd trivial ht | exact Bool.noConfusion ht)) | (with_reducible refine k_ret ?_; repeat with_reducible (first | refine ret_thru ?_ | refine ret_blk ?_ | refine fin ?_)) | (with_reducible refine k_exit ?_; repeat with_reducible (first | refine thru ?_ | refine out_blk ?_ | refine pass (by decide) ?_)) | ((first | refine post1 ?_ | refine post2 ?_ | refine post3 ?_); simp only [GA, simprocAttr]) | refine post0 ?_
  exact ends_nil2
end Go.Proofs.YtjaihaccehaicaaDoor
set_option linter.unusedVariables false
set_option linter.unusedSimpArgs false
namespace Go.Proofs.YtjaihaccehaicaaDoor
open Go Go.Am Go.Proofs
def an (x y : Nat) : Nat := x ^^^ (x &&& y)
theorem an_bit {x y i : Nat} : (an x y).testBit i = (x.testBit i && !y.testBit i) := by
 unfold an
 rw [Nat.testBit_xor, Nat.testBit_and]
 cases x.testBit i <;> cases y.testBit i <;> rfl
theorem an_lt {x y n : Nat} (h : x < 2 ^ n) : an x y < 2 ^ n := Nat.lt_pow_two_of_testBit _ fun i hi => by
 rw [an_bit, Nat.testBit_lt_two_pow (Nat.lt_of_lt_of_le h (Nat.pow_le_pow_right (by omega) hi))]; rfl
theorem andnot_64 {x y : Nat} (hx : x < 2 ^ 64) (hy : y < 2 ^ 64) : abits .andNot .u64 (x : Int) (y : Int) = ((an x y : Nat) : Int) := by
 have e : (BitVec.ofInt 64 (x : Int) &&& ~~~ BitVec.ofInt 64 (y : Int)).toNat = an x y := by
  refine Nat.eq_of_testBit_eq fun i => ?_
  rw [BitVec.testBit_toNat, BitVec.getLsbD_and, BitVec.getLsbD_not, an_bit, ← BitVec.testBit_toNat, ← BitVec.testBit_toNat, toNat_64 hx, toNat_64 hy]
  by_cases hi : i < 64
  ·simp [hi]
  ·rw [Nat.testBit_lt_two_pow (Nat.lt_of_lt_of_le hx (Nat.pow_le_pow_right (by omega) (Nat.le_of_not_lt hi)))]; simp
 show IntKind.u64.wrap ((BitVec.ofInt 64 (x : Int) &&& ~~~ BitVec.ofInt 64 (y : Int)).toNat : Int) = _
 rw [e]
 exact wrapN (an_lt hx)
def cB (x : Nat) : Nat → Nat
 | 0 => 0
 | k + 1 => cB x k + if x.testBit k = true then 1 else 0
theorem cB_half (x : Nat) : ∀ k, cB x (k + 1) = x % 2 + cB (x / 2) k
 | 0 => by
   simp only [cB, Nat.zero_add, Nat.add_zero, Nat.testBit_zero, decide_eq_true_eq]
   split <;> omega
 | k + 1 => by
   rw [cB, cB_half x k, cB, Nat.testBit_succ, Nat.add_assoc]
theorem popA_cB : ∀ (m x : Nat), popA m x = cB x m
 | 0, x => rfl
 | m + 1, x => by rw [popA, cB_half, popA_cB m]
theorem cB_low {x n : Nat} (h : x < 2 ^ n) : ∀ k, cB x (n + k) = cB x n
 | 0 => rfl
 | k + 1 => by
   rw [← Nat.add_assoc, cB, cB_low h k, Nat.testBit_lt_two_pow (Nat.lt_of_lt_of_le h (Nat.pow_le_pow_right (by omega) (by omega)))]
   rfl
theorem pop_cB {x n : Nat} (h : x < 2 ^ n) (hn : n ≤ 64) : popA 64 x = cB x n := by
 rw [popA_cB, show 64 = n + (64 - n) by omega, cB_low h]
theorem cB_le {x y : Nat} (h : ∀ i, y.testBit i = true → x.testBit i = true) : ∀ k, cB y k ≤ cB x k
 | 0 => Nat.le_refl _
 | k + 1 => by
   have ih := cB_le h k
   rw [cB, cB]
   by_cases c : y.testBit k = true
   ·rw [if_pos c, if_pos (h k c)]; omega
   ·rw [if_neg c]; omega
theorem cB_bd (x : Nat) : ∀ k, cB x k ≤ k
 | 0 => Nat.le_refl _
 | k + 1 => by
   have := cB_bd x k
   rw [cB]; split <;> omega
theorem cB_lt {x y i : Nat} (h : ∀ i, y.testBit i = true → x.testBit i = true) (hx : x.testBit i = true) (hy : y.testBit i = false) : ∀ {k : Nat}, i < k → cB y k < cB x k
 | k + 1, hk => by
   rw [cB, cB]
   by_cases e : i = k
   ·subst e
    have := cB_le h i
    rw [hx, hy]
    simp only [if_true]
    simp
    omega
   ·have ih := cB_lt h hx hy (k := k) (by omega)
    by_cases c : y.testBit k = true
    ·rw [if_pos c, if_pos (h k c)]; omega
    ·rw [if_neg c]; omega
theorem pop_an {x y : Nat} (h : 0 < popA 64 (y &&& x)) : popA 64 (an x y) < popA 64 x := by
 obtain ⟨i, hi, b⟩ := pop_one.1 h
 rw [Nat.testBit_and, Bool.and_eq_true] at b
 rw [popA_cB, popA_cB]
 exact cB_lt (fun j q => by rw [an_bit, Bool.and_eq_true] at q; exact q.1) b.2 (by rw [an_bit, b.1]; simp) hi
section
variable (l : List Sz) (m : List Hd)
def cnt (left i : Nat) : Nat := popA 64 (fitS m (zD l i) &&& left)
def gbS (left : Nat) : Nat → Int
 | 0 => -1
 | k + 1 => if 0 < cnt l m left k ∧ (gbS left k < 0 ∨ cnt l m left (gbS left k).toNat < cnt l m left k) then (k : Int) else gbS left k
def rbS (left : Nat) : Nat → Int × Int
 | 0 => (0, 0)
 | k + 1 => if (rbS left k).2 < cnt l m left k then ((k : Int), (cnt l m left k : Int)) else rbS left k
def grN : Nat → Nat → List Int → List Int × Int
 | 0, _, _ => ([], 32)
 | t + 1, left, out => if left = 0 then (out, 0) else if gbS l m left l.length < 0 then ([], 32) else
     grN t (an left (fitS m (zD l (gbS l m left l.length).toNat))) (out ++ [gbS l m left l.length])
def grR : List Int × Int := if chk l m ≠ 0 then ([], chk l m) else grN l m (m.length + 1) (2 ^ m.length - 1) []
end
theorem gb_rb {l : List Sz} {m : List Hd} {left : Nat} : ∀ {k : Nat}, (gbS l m left k = -1 ∧ rbS l m left k = (0, 0) ∧ ∀ i, i < k → cnt l m left i = 0) ∨ ∃ b : Nat, gbS l m left k = b ∧ b < k ∧ 0 < cnt l m left b ∧ rbS l m left k = ((b : Int), (cnt l m left b : Int))
 | 0 => .inl ⟨rfl, rfl, fun i hi => by omega⟩
 | k + 1 => by
   rw [gbS, rbS]
   rcases gb_rb (l := l) (m := m) (left := left) (k := k) with ⟨h1, h2, h3⟩ | ⟨b, h1, h2, h3, h4⟩
   ·rw [h1, h2]
    by_cases c : 0 < cnt l m left k
    ·rw [if_pos ⟨c, .inl (by omega)⟩, if_pos (by simp only; omega)]
     exact .inr ⟨k, rfl, by omega, c, rfl⟩
    ·rw [if_neg fun q => c q.1, if_neg (by simp only; omega)]
     refine .inl ⟨rfl, rfl, fun i hi => ?_⟩
     by_cases e : i = k
     ·subst e; omega
     ·exact h3 i (by omega)
   ·rw [h1, h4, Int.toNat_natCast]
    by_cases c : cnt l m left b < cnt l m left k
    ·rw [if_pos ⟨by omega, .inr c⟩, if_pos (by simp only; omega)]
     exact .inr ⟨k, rfl, by omega, by omega, rfl⟩
    ·rw [if_neg fun q => q.2.elim (by omega) c, if_neg (by simp only; omega)]
     exact .inr ⟨b, rfl, by omega, h3, rfl⟩
structure GI (l : List Sz) (m : List Hd) (left : Nat) (out : List Int) : Prop where
 lt : left < 2 ^ m.length
 bit : ∀ j, j < m.length → (left.testBit j = true ↔ cvdB l (hD m j) out = false)
 pk : pkOk out l.length = true
theorem cvd_iff {l : List Sz} {x : Hd} {li : List Int} : cvdB l x li = true ↔ ∃ i ∈ li, fitB (zD l i.toNat) x = true := anyZ_iff
theorem GI.start (l : List Sz) (m : List Hd) : GI l m (2 ^ m.length - 1) [] where
 lt := by have := Nat.two_pow_pos m.length; omega
 bit j hj := by
  rw [Nat.testBit_two_pow_sub_one, decide_eq_true hj]
  exact ⟨fun _ => by rw [Bool.eq_false_iff]; intro q; obtain ⟨i, hi, _⟩ := cvd_iff.1 q; simp at hi, fun _ => rfl⟩
 pk := pkOk_iff.2 fun j hj => by simp at hj
theorem GI.zero {l : List Sz} {m : List Hd} {left : Nat} {out : List Int} (h : GI l m left out) : cvsB l m out = true ↔ left = 0 := by
 unfold cvsB
 rw [decide_eq_true_eq]
 constructor
 ·intro c
  refine Nat.eq_of_testBit_eq fun i => ?_
  rw [Nat.zero_testBit]
  by_cases hi : i < m.length
  ·rw [Bool.eq_false_iff]
   intro q
   have := (h.bit i hi).1 q
   rw [c i hi] at this; cases this
  ·exact Nat.testBit_lt_two_pow (Nat.lt_of_lt_of_le h.lt (Nat.pow_le_pow_right (by omega) (by omega)))
 ·rintro rfl k hk
  cases q : cvdB l (hD m k) out with
  | true => rfl
  | false => have := (h.bit k hk).2 q; simp at this
theorem lN_snoc {out : List Int} {b : Int} {j : Nat} : lN (out ++ [b]) j = if j < out.length then lN out j else if j = out.length then b else 0 := by
 unfold lN
 rw [List.getD_eq_getElem?_getD, List.getD_eq_getElem?_getD, List.getElem?_append]
 split
 ·rfl
 ·split
  ·rename_i h; subst h; simp
  ·rw [List.getElem?_eq_none (by simp; omega)]; rfl
theorem GI.step {l : List Sz} {m : List Hd} {left : Nat} {out : List Int} (h : GI l m left out) {b : Nat} (hb : b < l.length) (hc : 0 < cnt l m left b) : GI l m (an left (fitS m (zD l b))) (out ++ [(b : Int)]) where
 lt := an_lt h.lt
 bit j hj := by
  rw [an_bit, Bool.and_eq_true, h.bit j hj, Bool.not_eq_true', ← Bool.not_eq_true (Nat.testBit _ _), fitS_bit]
  rw [← Bool.not_eq_true, ← Bool.not_eq_true, cvd_iff, cvd_iff]
  simp only [List.mem_append, List.mem_singleton]
  constructor
  ·rintro ⟨h1, h2⟩ ⟨i, hi | rfl, q⟩
   ·exact h1 ⟨i, hi, q⟩
   ·exact h2 ⟨hj, by rw [Int.toNat_natCast] at q; exact q⟩
  ·intro q
   exact ⟨fun ⟨i, hi, r⟩ => q ⟨i, .inl hi, r⟩, fun ⟨_, r⟩ => q ⟨b, .inr rfl, by rw [Int.toNat_natCast]; exact r⟩⟩
 pk := by
  have P := pkOk_iff.1 h.pk
  obtain ⟨j, hj, q⟩ := pop_one.1 hc
  rw [Nat.testBit_and, Bool.and_eq_true, fitS_bit] at q
  have nc := (h.bit j q.1.1).1 q.2
  rw [← Bool.not_eq_true, cvd_iff] at nc
  have ne : ∀ i, i < out.length → lN out i ≠ b := fun i hi e => nc ⟨lN out i, by
   unfold lN
   rw [List.getD_eq_getElem?_getD, List.getElem?_eq_getElem hi]; exact List.getElem_mem hi, by rw [e, Int.toNat_natCast]; exact q.1.2⟩
  rw [pkOk_iff]
  intro k hk
  rw [List.length_append, List.length_singleton] at hk
  rw [lN_snoc]
  by_cases e : k < out.length
  ·rw [if_pos e]
   refine ⟨(P k e).1, fun i hi => ?_⟩
   rw [lN_snoc, if_pos (by omega)]
   exact (P k e).2 i hi
  ·obtain rfl : k = out.length := by omega
   rw [if_neg e, if_pos rfl]
   refine ⟨by omega, fun i hi => ?_⟩
   rw [lN_snoc, if_pos hi]
   exact ne i hi
theorem gr_ok {l : List Sz} {m : List Hd} (hm : m.length ≤ 40) (hall : ∀ j, j < m.length → ∃ i, i < l.length ∧ (fitS m (zD l i)).testBit j = true) : ∀ (t : Nat) {left : Nat} {out : List Int}, GI l m left out → popA 64 left < t → ∃ r, grN l m t left out = (r, 0) ∧ cvsB l m r = true ∧ pkOk r l.length = true := by
 intro t
 induction t with
 | zero => intro left out h ht; exact absurd ht (Nat.not_lt_zero _)
 | succ t ih =>
   intro left out h ht
   rw [grN]
   by_cases l0 : left = 0
   ·rw [if_pos l0]
    exact ⟨out, rfl, h.zero.2 l0, h.pk⟩
   ·rw [if_neg l0]
    rcases gb_rb (l := l) (m := m) (left := left) (k := l.length) with ⟨h1, h2, h3⟩ | ⟨b, h1, h2, h3, h4⟩
    ·exfalso
     obtain ⟨j, hj⟩ : ∃ j, left.testBit j = true := Classical.byContradiction fun q => l0 (Nat.eq_of_testBit_eq fun i => by
      rw [Nat.zero_testBit, Bool.eq_false_iff]; exact fun r => q ⟨i, r⟩)
     have hjm : j < m.length := Classical.byContradiction fun q => by
      rw [Nat.testBit_lt_two_pow (Nat.lt_of_lt_of_le h.lt (Nat.pow_le_pow_right (by omega) (Nat.le_of_not_lt q)))] at hj; cases hj
     obtain ⟨i, hi, r⟩ := hall j hjm
     have := h3 i hi
     have : 0 < cnt l m left i := pop_one.2 ⟨j, by omega, by rw [Nat.testBit_and, r, hj]; rfl⟩
     omega
    ·rw [if_neg (by omega), h1, Int.toNat_natCast]
     have := pop_an h3
     exact ih (h.step h2 h3) (Nat.lt_of_lt_of_le this (Nat.le_of_lt_succ ht))
theorem pop_whole {n : Nat} (hn : n ≤ 64) : popA 64 (2 ^ n - 1) ≤ n := by
 rw [pop_cB (n := n) (by have := Nat.two_pow_pos n; omega) hn]
 exact cB_bd _ _
end Go.Proofs.YtjaihaccehaicaaDoor
set_option linter.unusedVariables false
set_option linter.unusedSimpArgs false
namespace Go.Proofs.YtjaihaccehaicaaDoor
open Go Go.Am Go.Proofs
theorem cnt_pc {l : List Sz} {m : List Hd} (hm : m.length ≤ 40) {left k : Nat} (hl : left < 2 ^ m.length) :
 abits .and .u64 ((fitS m (zD l k) : Nat) : Int) (left : Int) = ((fitS m (zD l k) &&& left : Nat) : Int) ∧ PC Tryd.prog 52 [.i .u64 ((fitS m (zD l k) &&& left : Nat) : Int)] (.i .i64 (cnt l m left k : Nat)) :=
 ⟨and_64 (lt_64 (fitS_lt (m := m)) hm) (lt_64 hl hm), pc49 _ (Nat.and_lt_two_pow _ (lt_64 hl hm))⟩
theorem RG20 : (type_of% @c20r0.eq_1) ∧ (type_of% @c20r1.eq_1) ∧ (type_of% @c20r2.eq_1) ∧ (type_of% @c20r3.eq_1) ∧ (type_of% @c20r4.eq_1) ∧ (type_of% @c20r5.eq_1) ∧ (type_of% @c20r6.eq_1) ∧ (type_of% @c20r7.eq_1) ∧ (type_of% @c20r8.eq_1) ∧ (type_of% @c20r9.eq_1) ∧ (type_of% @c20r10.eq_1) ∧ (type_of% @c20r11.eq_1) ∧ (type_of% @c20r12.eq_1) ∧ (type_of% @c20r13.eq_1) ∧ (type_of% @c20r14.eq_1) ∧ (type_of% @c20r16.eq_1) ∧ (type_of% @c20r17.eq_1) ∧ (type_of% @c20r18.eq_1) ∧ (type_of% @c20r19.eq_1) ∧ (type_of% @c20r21.eq_1) := ⟨@c20r0.eq_1, @c20r1.eq_1, @c20r2.eq_1, @c20r3.eq_1, @c20r4.eq_1, @c20r5.eq_1, @c20r6.eq_1, @c20r7.eq_1, @c20r8.eq_1, @c20r9.eq_1, @c20r10.eq_1, @c20r11.eq_1, @c20r12.eq_1, @c20r13.eq_1, @c20r14.eq_1, @c20r16.eq_1, @c20r17.eq_1, @c20r18.eq_1, @c20r19.eq_1, @c20r21.eq_1⟩
set_option maxHeartbeats 2000000 in
theorem d20 (l : List Sz) (m : List Hd) (hl : l.length ≤ 9223372036854775807) (hm : m.length ≤ 9223372036854775807) : PC Tryd.prog 20 [vZ l, vH m] (.tu [vi (grR l m).1, .i .i64 (grR l m).2]) := by
 have q1 := pc41 l m hl hm
 unfold grR
 refine pc_fn fn20 (by simp only [AV.plains, AV.plain, il_plain, bl_plain, Bool.and_true, Bool.true_and, Bool.and_self, fleZ_plain, fleH_plain, il_plain]) (by simp only [AV.plains, AV.plain, il_plain, bl_plain, Bool.and_true, Bool.true_and, Bool.and_self, fleZ_plain, fleH_plain, il_plain]) (Nat.le_of_ble_eq_true rfl) ?_
 rw [initSt2]
 by_cases c : chk l m = 0
 ·rw [if_neg (by simp [c])]
  rw [c] at q1
  have q3 := pc48 l m (chk_ok c).1 (chk_ok c).2
  have L := (szsOk_iff.1 (chk_ok c).1).1
  have M := (hdsOk_iff.1 (chk_ok c).2).1
  have sh1 := shl_64 (k := m.length) (by omega)
  have p1 : 0 < 2 ^ m.length := Nat.two_pow_pos _
  have p2 : 2 ^ m.length ≤ 2 ^ 40 := Nat.pow_le_pow_right (by omega) M
  have w1 : IntKind.u64.wrap (((2 ^ m.length : Nat) : Int) - 1) = ((2 ^ m.length - 1 : Nat) : Int) := by rw [wrapU]; omega
  have pw := pop_whole (n := m.length) (by omega)
  have lw : 2 ^ m.length - 1 < 2 ^ m.length := by omega
  repeat' first | (with_reducible first | refine k_seq ?_ | refine k_skip ?_ | refine k_blkS ?_ | refine k_blkR ?_ | refine k_blkC ?_ | refine k_blkH ?_ | refine k_blkB ?_ | refine k_blkK ?_ | refine k_blkE ?_ | refine k_reg ?_) | with_reducible refine k_head (by with_unfolding_all rfl) ?_ | with_reducible refine k_headS ?_ | (with_reducible refine SepK.mk ?_ ?_; (refine sepQ_P ?_; simp [sepQ, sepG, AOp.late, AOp.free, AOp.xs, AOp.isAl, tokNe, AV.tok, stS_get, strip, AX.val, RG20, GA]; try omega)) | with_reducible refine r_done ?_ | with_reducible refine hr_done ?_ | with_reducible refine s_go (by simp (disch := omega) only [sh1, w1, RG20, EVA, plug, eq_self, simprocAttr]; with_reducible rfl) ?_ | with_reducible refine h_go (by with_unfolding_all rfl) (by simp (disch := omega) only [sh1, w1, RG20, EVA, plug, eq_self, simprocAttr]; with_reducible rfl) ?_ | ((with_reducible refine chk_r ?_); refine r_callF (by simp only [CA, simprocAttr]; rfl) (by exact rfl) (by simp only [CA, simprocAttr]; rfl) rfl ?_) | ((with_reducible refine chk_h ?_); refine hr_callF (by simp only [CA, simprocAttr]; rfl) (by exact rfl) (by simp only [CA, simprocAttr]; rfl) rfl ?_) | ((with_reducible refine chk_r ?_); refine r_callP (by simp only [CA, simprocAttr]; rfl) (by simp only [CA, simprocAttr]; rfl) (by first | exact q1 _ | exact q3 _) rfl ?_) | ((with_reducible refine chk_h ?_); refine hr_callP (by simp only [CA, simprocAttr]; rfl) (by simp only [CA, simprocAttr]; rfl) (by first | exact q1 _ | exact q3 _) rfl ?_) | ((with_reducible refine chk_h ?_); refine hr_callP1 (by simp only [CA, simprocAttr]; rfl) (by simp only [CA, simprocAttr]; rfl) (by simp (disch := omega) only [CA, Nat.reduceEqDiff, ↓reduceIte, firstTok_nil, firstTok_sl, firstTok_sl0, firstTok_i, firstTok_b, firstTok_ag, firstTok_p, firstTok_s]; rfl) (by first | exact q1 _ | exact q3 _) rfl ?_) | ((with_reducible refine chk_r ?_); refine r_callG (by simp only [CA, simprocAttr]; rfl) (by simp only [CA, simprocAttr]; rfl) (by simp only [CA, simprocAttr]; rfl) (by intro hg; (try simp only [BO] at hg); first | exact q1 _ | exact q3 _) rfl ?_) | ((with_reducible refine chk_h ?_); refine hr_callG (by simp only [CA, simprocAttr]; rfl) (by simp only [CA, simprocAttr]; rfl) (by simp only [CA, simprocAttr]; rfl) (by intro hg; (try simp only [BO] at hg); first | exact q1 _ | exact q3 _) rfl ?_) | ((with_reducible refine chk_h ?_); refine hr_app (by simp (disch := omega) only [sh1, w1, RG20, EVA, plug, eq_self, simprocAttr]; with_reducible rfl) rfl ?_) | (with_reducible refine k_condP (by simp only [GA, simprocAttr]; rfl) (by first | (simp only [BO]; rfl) | rfl) (fun ht => ?_) (fun ht => ?_) <;> try (first | exact False.elim ht | exact absurd rfl ht | exact absurd trivial ht | exact Bool.noConfusion ht)) | (with_reducible refine k_ret ?_; repeat with_reducible (first | refine ret_thru ?_ | refine ret_blk ?_ | refine fin ?_)) | (with_reducible refine k_exit ?_; repeat with_reducible (first | refine thru ?_ | refine out_blk ?_ | refine pass (by decide) ?_)) | ((first | refine post1 ?_ | refine post2 ?_ | refine post3 ?_); simp only [GA, simprocAttr]) | refine post0 ?_
  refine w_virt 1 9 rfl ?_
  generalize 2 ^ m.length - 1 = wh at *
  generalize hR : grN l m (m.length + 1) wh [] = R
  refine k_blk (k_loopW (X := Nat × Nat × Nat × List Int) [7, 8, 9] (fun x => [(7, .vs l.length (nu (fitL l m))), (8, .i .u64 (x.2.2.1 : Int)), (9, .sl x.1 0 x.2.2.2.length 1)]) (fun x => x.2.1)
   (fun x h => x.1 ≠ 0 ∧ h.m x.1 = some (.cells true (il x.2.2.2)) ∧ x.2.2.1 < 2 ^ m.length ∧ x.2.2.2.length + x.2.1 ≤ 41 ∧ popA 64 x.2.2.1 < x.2.1 ∧ grN l m x.2.1 x.2.2.1 x.2.2.2 = R) (_, m.length + 1, wh, []) (by simp only [Am.keep, List.map_cons, List.map_nil, GA, simprocAttr]; try rfl) ⟨?_, by simp (disch := omega) only [RG20, EVA, plug, eq_self, simprocAttr] <;> rfl, lw, by show 0 + (m.length + 1) ≤ 41; omega, Nat.lt_succ_of_le pw, hR⟩ ?_)
  ·simp only [AH.bump_nx]; omega
  rintro ⟨y, t, left, out⟩ h ⟨hy, hmy, hlt, ho, hpop, e⟩ ok pos
  simp only at hy hmy hlt ho hpop e ⊢
  have ly := ok.m hmy
  have l64 := lt_64 hlt M
  cases t with
  | zero => exact absurd hpop (Nat.not_lt_zero _)
  | succ t =>
  rw [grN] at e
  by_cases l0 : left = 0
  ·rw [if_pos l0] at e
   have z := eq_true (show (left : Int) = 0 by omega)
   rw [← e]
   repeat' first | (with_reducible first | refine k_seq ?_ | refine k_skip ?_ | refine k_blkS ?_ | refine k_blkR ?_ | refine k_blkC ?_ | refine k_blkH ?_ | refine k_blkB ?_ | refine k_blkK ?_ | refine k_blkE ?_ | refine k_reg ?_) | with_reducible refine k_head (by with_unfolding_all rfl) ?_ | with_reducible refine k_headS ?_ | (with_reducible refine SepK.mk ?_ ?_; (refine sepQ_P ?_; simp [sepQ, sepG, AOp.late, AOp.free, AOp.xs, AOp.isAl, tokNe, AV.tok, stS_get, strip, AX.val, RG20, GA]; try omega)) | with_reducible refine r_done ?_ | with_reducible refine hr_done ?_ | with_reducible refine s_go (by simp (disch := omega) only [z, RG20, EVA, plug, eq_self, simprocAttr]; with_reducible rfl) ?_ | with_reducible refine h_go (by with_unfolding_all rfl) (by simp (disch := omega) only [z, RG20, EVA, plug, eq_self, simprocAttr]; with_reducible rfl) ?_ | ((with_reducible refine chk_r ?_); refine r_callF (by simp only [CA, simprocAttr]; rfl) (by exact rfl) (by simp only [CA, simprocAttr]; rfl) rfl ?_) | ((with_reducible refine chk_h ?_); refine hr_callF (by simp only [CA, simprocAttr]; rfl) (by exact rfl) (by simp only [CA, simprocAttr]; rfl) rfl ?_) | ((with_reducible refine chk_h ?_); refine hr_app (by simp (disch := omega) only [z, RG20, EVA, plug, eq_self, simprocAttr]; with_reducible rfl) rfl ?_) | (with_reducible refine k_condP (by simp only [GA, simprocAttr]; rfl) (by first | (simp only [BO]; rfl) | rfl) (fun ht => ?_) (fun ht => ?_) <;> try (first | exact False.elim ht | exact absurd rfl ht | exact absurd trivial ht | exact Bool.noConfusion ht)) | (with_reducible refine k_ret ?_; repeat with_reducible (first | refine ret_thru ?_ | refine ret_blk ?_ | refine fin ?_)) | (with_reducible refine k_exit ?_; repeat with_reducible (first | refine thru ?_ | refine out_blk ?_ | refine pass (by decide) ?_)) | ((first | refine post1 ?_ | refine post2 ?_ | refine post3 ?_); simp only [GA, simprocAttr]) | refine post0 ?_
   exact ends_sl2 (k := 1) hmy (by rw [il_len, Nat.mul_one])
  ·rw [if_neg l0] at e
   have z := eq_false (show ¬ (left : Int) = 0 by omega)
   repeat' first | (with_reducible first | refine k_seq ?_ | refine k_skip ?_ | refine k_blkS ?_ | refine k_blkR ?_ | refine k_blkC ?_ | refine k_blkH ?_ | refine k_blkB ?_ | refine k_blkK ?_ | refine k_blkE ?_ | refine k_reg ?_) | with_reducible refine k_head (by with_unfolding_all rfl) ?_ | with_reducible refine k_headS ?_ | (with_reducible refine SepK.mk ?_ ?_; (refine sepQ_P ?_; simp [sepQ, sepG, AOp.late, AOp.free, AOp.xs, AOp.isAl, tokNe, AV.tok, stS_get, strip, AX.val, RG20, GA]; try omega)) | with_reducible refine r_done ?_ | with_reducible refine hr_done ?_ | with_reducible refine s_go (by simp (disch := omega) only [z, RG20, EVA, plug, eq_self, simprocAttr]; with_reducible rfl) ?_ | with_reducible refine h_go (by with_unfolding_all rfl) (by simp (disch := omega) only [z, RG20, EVA, plug, eq_self, simprocAttr]; with_reducible rfl) ?_ | ((with_reducible refine chk_r ?_); refine r_callF (by simp only [CA, simprocAttr]; rfl) (by exact rfl) (by simp only [CA, simprocAttr]; rfl) rfl ?_) | ((with_reducible refine chk_h ?_); refine hr_callF (by simp only [CA, simprocAttr]; rfl) (by exact rfl) (by simp only [CA, simprocAttr]; rfl) rfl ?_) | ((with_reducible refine chk_h ?_); refine hr_app (by simp (disch := omega) only [z, RG20, EVA, plug, eq_self, simprocAttr]; with_reducible rfl) rfl ?_) | (with_reducible refine k_condP (by simp only [GA, simprocAttr]; rfl) (by first | (simp only [BO]; rfl) | rfl) (fun ht => ?_) (fun ht => ?_) <;> try (first | exact False.elim ht | exact absurd rfl ht | exact absurd trivial ht | exact Bool.noConfusion ht)) | (with_reducible refine k_ret ?_; repeat with_reducible (first | refine ret_thru ?_ | refine ret_blk ?_ | refine fin ?_)) | (with_reducible refine k_exit ?_; repeat with_reducible (first | refine thru ?_ | refine out_blk ?_ | refine pass (by decide) ?_)) | ((first | refine post1 ?_ | refine post2 ?_ | refine post3 ?_); simp only [GA, simprocAttr]) | refine post0 ?_
   refine k_blk (k_loopS (X := Unit) [7, 8, 9, 10, 28, 29, 30] l.length (fun k _ => [(7, .vs l.length (nu (fitL l m))), (8, .i .u64 (left : Int)), (9, .sl y 0 out.length 1), (10, .i .i64 (gbS l m left k)), (28, .vs l.length (nu (fitL l m))), (29, .i .i64 l.length), (30, .i .i64 (k : Int))]) (fun k _ h' => h'.m y = some (.cells true (il out))) () (by simp only [Am.keep, List.map_cons, List.map_nil, GA, simprocAttr]; try rfl) hmy ?_)
   rintro k _ h' hk hmy' ok' pos'
   have ly' := ok'.m hmy'
   by_cases klt : k < l.length
   ·have klt' : (k : Int) < l.length := by omega
    have g2 := nu_get (l := fitL l m) (j := k) (by simp [fitL]; omega)
    rw [fitL_get klt] at g2
    obtain ⟨a1, q4⟩ := cnt_pc (l := l) (k := k) M hlt
    have eT : 0 < cnt l m left k → (gbS l m left k < 0 ∨ cnt l m left (gbS l m left k).toNat < cnt l m left k) → gbS l m left (k + 1) = k := fun h1 h2 => if_pos ⟨h1, h2⟩
    have eF : (0 < cnt l m left k → ¬ (gbS l m left k < 0 ∨ cnt l m left (gbS l m left k).toNat < cnt l m left k)) → gbS l m left (k + 1) = gbS l m left k := fun h => if_neg fun q => h q.1 q.2
    have GB := gb_rb (l := l) (m := m) (left := left) (k := k)
    by_cases c0 : 0 < cnt l m left k
    ·have c0' := eq_true (show (0 : Int) < (cnt l m left k : Nat) by omega)
     rcases GB with ⟨h1, h2, h3⟩ | ⟨b, h1, h2, h3, h4⟩
     ·have es := eT c0 (.inl (by omega))
      rw [h1]
      generalize cnt l m left k = cc at *
      repeat' first | (with_reducible first | refine k_seq ?_ | refine k_skip ?_ | refine k_blkS ?_ | refine k_blkR ?_ | refine k_blkC ?_ | refine k_blkH ?_ | refine k_blkB ?_ | refine k_blkK ?_ | refine k_blkE ?_ | refine k_reg ?_) | with_reducible refine k_head (by with_unfolding_all rfl) ?_ | with_reducible refine k_headS ?_ | (with_reducible refine SepK.mk ?_ ?_; (refine sepQ_P ?_; simp [sepQ, sepG, AOp.late, AOp.free, AOp.xs, AOp.isAl, tokNe, AV.tok, stS_get, strip, AX.val, RG20, GA]; try omega)) | with_reducible refine r_done ?_ | with_reducible refine hr_done ?_ | with_reducible refine s_go (by simp (disch := omega) only [klt', g2, a1, c0', RG20, EVA, plug, eq_self, simprocAttr]; with_reducible rfl) ?_ | with_reducible refine h_go (by with_unfolding_all rfl) (by simp (disch := omega) only [klt', g2, a1, c0', RG20, EVA, plug, eq_self, simprocAttr]; with_reducible rfl) ?_ | ((with_reducible refine chk_r ?_); refine r_callF (by simp only [CA, simprocAttr]; rfl) (by exact rfl) (by simp only [CA, simprocAttr]; rfl) rfl ?_) | ((with_reducible refine chk_h ?_); refine hr_callF (by simp only [CA, simprocAttr]; rfl) (by exact rfl) (by simp only [CA, simprocAttr]; rfl) rfl ?_) | ((with_reducible refine chk_r ?_); refine r_callP (by simp only [CA, simprocAttr]; rfl) (by simp only [CA, simprocAttr]; rfl) (by first | exact q4 _) rfl ?_) | ((with_reducible refine chk_h ?_); refine hr_callP (by simp only [CA, simprocAttr]; rfl) (by simp only [CA, simprocAttr]; rfl) (by first | exact q4 _) rfl ?_) | ((with_reducible refine chk_h ?_); refine hr_callP1 (by simp only [CA, simprocAttr]; rfl) (by simp only [CA, simprocAttr]; rfl) (by simp (disch := omega) only [CA, Nat.reduceEqDiff, ↓reduceIte, firstTok_nil, firstTok_sl, firstTok_sl0, firstTok_i, firstTok_b, firstTok_ag, firstTok_p, firstTok_s]; rfl) (by first | exact q4 _) rfl ?_) | ((with_reducible refine chk_r ?_); refine r_callG (by simp only [CA, simprocAttr]; rfl) (by simp only [CA, simprocAttr]; rfl) (by simp only [CA, simprocAttr]; rfl) (by intro hg; (try simp only [BO] at hg); first | exact q4 _) rfl ?_) | ((with_reducible refine chk_h ?_); refine hr_callG (by simp only [CA, simprocAttr]; rfl) (by simp only [CA, simprocAttr]; rfl) (by simp only [CA, simprocAttr]; rfl) (by intro hg; (try simp only [BO] at hg); first | exact q4 _) rfl ?_) | ((with_reducible refine chk_h ?_); refine hr_app (by simp (disch := omega) only [klt', g2, a1, c0', RG20, EVA, plug, eq_self, simprocAttr]; with_reducible rfl) rfl ?_) | (with_reducible refine k_condP (by simp only [GA, simprocAttr]; rfl) (by first | (simp only [BO]; rfl) | rfl) (fun ht => ?_) (fun ht => ?_) <;> try (first | exact False.elim ht | exact absurd rfl ht | exact absurd trivial ht | exact Bool.noConfusion ht)) | (with_reducible refine k_ret ?_; repeat with_reducible (first | refine ret_thru ?_ | refine ret_blk ?_ | refine fin ?_)) | (with_reducible refine k_exit ?_; repeat with_reducible (first | refine thru ?_ | refine out_blk ?_ | refine pass (by decide) ?_)) | ((first | refine post1 ?_ | refine post2 ?_ | refine post3 ?_); simp only [GA, simprocAttr]) | refine post0 ?_
      exact ⟨klt, (), (by rw [es]; exact (by simp only [Am.keep, List.map_cons, List.map_nil, GA, simprocAttr]; try rfl)), by simp (disch := omega) only [hmy', RG20, EVA, plug, eq_self, simprocAttr]⟩
     ·have b0 := eq_false (show ¬ (b : Int) < 0 by omega)
      have bl' : (b : Int) < l.length := by omega
      have g3 := nu_get (l := fitL l m) (j := b) (by simp [fitL]; omega)
      rw [fitL_get (by omega)] at g3
      obtain ⟨a2, q5⟩ := cnt_pc (l := l) (k := b) M hlt
      rw [h1, Int.toNat_natCast] at eT eF
      rw [h1]
      generalize cnt l m left k = cc at *
      generalize cnt l m left b = cb at *
      by_cases c1 : cb < cc
      ·have c1' := eq_true (show (cb : Int) < cc by omega)
       have es := eT c0 (.inr c1)
       repeat' first | (with_reducible first | refine k_seq ?_ | refine k_skip ?_ | refine k_blkS ?_ | refine k_blkR ?_ | refine k_blkC ?_ | refine k_blkH ?_ | refine k_blkB ?_ | refine k_blkK ?_ | refine k_blkE ?_ | refine k_reg ?_) | with_reducible refine k_head (by with_unfolding_all rfl) ?_ | with_reducible refine k_headS ?_ | (with_reducible refine SepK.mk ?_ ?_; (refine sepQ_P ?_; simp [sepQ, sepG, AOp.late, AOp.free, AOp.xs, AOp.isAl, tokNe, AV.tok, stS_get, strip, AX.val, RG20, GA]; try omega)) | with_reducible refine r_done ?_ | with_reducible refine hr_done ?_ | with_reducible refine s_go (by simp (disch := omega) only [klt', g2, a1, c0', b0, bl', g3, a2, c1', RG20, EVA, plug, eq_self, simprocAttr]; with_reducible rfl) ?_ | with_reducible refine h_go (by with_unfolding_all rfl) (by simp (disch := omega) only [klt', g2, a1, c0', b0, bl', g3, a2, c1', RG20, EVA, plug, eq_self, simprocAttr]; with_reducible rfl) ?_ | ((with_reducible refine chk_r ?_); refine r_callF (by simp only [CA, simprocAttr]; rfl) (by exact rfl) (by simp only [CA, simprocAttr]; rfl) rfl ?_) | ((with_reducible refine chk_h ?_); refine hr_callF (by simp only [CA, simprocAttr]; rfl) (by exact rfl) (by simp only [CA, simprocAttr]; rfl) rfl ?_) | ((with_reducible refine chk_r ?_); refine r_callP (by simp only [CA, simprocAttr]; rfl) (by simp only [CA, simprocAttr]; rfl) (by first | exact q4 _ | exact q5 _) rfl ?_) | ((with_reducible refine chk_h ?_); refine hr_callP (by simp only [CA, simprocAttr]; rfl) (by simp only [CA, simprocAttr]; rfl) (by first | exact q4 _ | exact q5 _) rfl ?_) | ((with_reducible refine chk_h ?_); refine hr_callP1 (by simp only [CA, simprocAttr]; rfl) (by simp only [CA, simprocAttr]; rfl) (by simp (disch := omega) only [CA, Nat.reduceEqDiff, ↓reduceIte, firstTok_nil, firstTok_sl, firstTok_sl0, firstTok_i, firstTok_b, firstTok_ag, firstTok_p, firstTok_s]; rfl) (by first | exact q4 _ | exact q5 _) rfl ?_) | ((with_reducible refine chk_r ?_); refine r_callG (by simp only [CA, simprocAttr]; rfl) (by simp only [CA, simprocAttr]; rfl) (by simp only [CA, simprocAttr]; rfl) (by intro hg; (try simp only [BO] at hg); first | exact q4 _ | exact q5 _) rfl ?_) | ((with_reducible refine chk_h ?_); refine hr_callG (by simp only [CA, simprocAttr]; rfl) (by simp only [CA, simprocAttr]; rfl) (by simp only [CA, simprocAttr]; rfl) (by intro hg; (try simp only [BO] at hg); first | exact q4 _ | exact q5 _) rfl ?_) | ((with_reducible refine chk_h ?_); refine hr_app (by simp (disch := omega) only [klt', g2, a1, c0', b0, bl', g3, a2, c1', RG20, EVA, plug, eq_self, simprocAttr]; with_reducible rfl) rfl ?_) | (with_reducible refine k_condP (by simp only [GA, simprocAttr]; rfl) (by first | (simp only [BO]; rfl) | rfl) (fun ht => ?_) (fun ht => ?_) <;> try (first | exact False.elim ht | exact absurd rfl ht | exact absurd trivial ht | exact Bool.noConfusion ht)) | (with_reducible refine k_ret ?_; repeat with_reducible (first | refine ret_thru ?_ | refine ret_blk ?_ | refine fin ?_)) | (with_reducible refine k_exit ?_; repeat with_reducible (first | refine thru ?_ | refine out_blk ?_ | refine pass (by decide) ?_)) | ((first | refine post1 ?_ | refine post2 ?_ | refine post3 ?_); simp only [GA, simprocAttr]) | refine post0 ?_
       exact ⟨klt, (), (by rw [es]; exact (by simp only [Am.keep, List.map_cons, List.map_nil, GA, simprocAttr]; try rfl)), by simp (disch := omega) only [hmy', RG20, EVA, plug, eq_self, simprocAttr]⟩
      ·have c1' := eq_false (show ¬ (cb : Int) < cc by omega)
       have es := eF fun _ q => q.elim (by omega) c1
       repeat' first | (with_reducible first | refine k_seq ?_ | refine k_skip ?_ | refine k_blkS ?_ | refine k_blkR ?_ | refine k_blkC ?_ | refine k_blkH ?_ | refine k_blkB ?_ | refine k_blkK ?_ | refine k_blkE ?_ | refine k_reg ?_) | with_reducible refine k_head (by with_unfolding_all rfl) ?_ | with_reducible refine k_headS ?_ | (with_reducible refine SepK.mk ?_ ?_; (refine sepQ_P ?_; simp [sepQ, sepG, AOp.late, AOp.free, AOp.xs, AOp.isAl, tokNe, AV.tok, stS_get, strip, AX.val, RG20, GA]; try omega)) | with_reducible refine r_done ?_ | with_reducible refine hr_done ?_ | with_reducible refine s_go (by simp (disch := omega) only [klt', g2, a1, c0', b0, bl', g3, a2, c1', RG20, EVA, plug, eq_self, simprocAttr]; with_reducible rfl) ?_ | with_reducible refine h_go (by with_unfolding_all rfl) (by simp (disch := omega) only [klt', g2, a1, c0', b0, bl', g3, a2, c1', RG20, EVA, plug, eq_self, simprocAttr]; with_reducible rfl) ?_ | ((with_reducible refine chk_r ?_); refine r_callF (by simp only [CA, simprocAttr]; rfl) (by exact rfl) (by simp only [CA, simprocAttr]; rfl) rfl ?_) | ((with_reducible refine chk_h ?_); refine hr_callF (by simp only [CA, simprocAttr]; rfl) (by exact rfl) (by simp only [CA, simprocAttr]; rfl) rfl ?_) | ((with_reducible refine chk_r ?_); refine r_callP (by simp only [CA, simprocAttr]; rfl) (by simp only [CA, simprocAttr]; rfl) (by first | exact q4 _ | exact q5 _) rfl ?_) | ((with_reducible refine chk_h ?_); refine hr_callP (by simp only [CA, simprocAttr]; rfl) (by simp only [CA, simprocAttr]; rfl) (by first | exact q4 _ | exact q5 _) rfl ?_) | ((with_reducible refine chk_h ?_); refine hr_callP1 (by simp only [CA, simprocAttr]; rfl) (by simp only [CA, simprocAttr]; rfl) (by simp (disch := omega) only [CA, Nat.reduceEqDiff, ↓reduceIte, firstTok_nil, firstTok_sl, firstTok_sl0, firstTok_i, firstTok_b, firstTok_ag, firstTok_p, firstTok_s]; rfl) (by first | exact q4 _ | exact q5 _) rfl ?_) | ((with_reducible refine chk_r ?_); refine r_callG (by simp only [CA, simprocAttr]; rfl) (by simp only [CA, simprocAttr]; rfl) (by simp only [CA, simprocAttr]; rfl) (by intro hg; (try simp only [BO] at hg); first | exact q4 _ | exact q5 _) rfl ?_) | ((with_reducible refine chk_h ?_); refine hr_callG (by simp only [CA, simprocAttr]; rfl) (by simp only [CA, simprocAttr]; rfl) (by simp only [CA, simprocAttr]; rfl) (by intro hg; (try simp only [BO] at hg); first | exact q4 _ | exact q5 _) rfl ?_) | ((with_reducible refine chk_h ?_); refine hr_app (by simp (disch := omega) only [klt', g2, a1, c0', b0, bl', g3, a2, c1', RG20, EVA, plug, eq_self, simprocAttr]; with_reducible rfl) rfl ?_) | (with_reducible refine k_condP (by simp only [GA, simprocAttr]; rfl) (by first | (simp only [BO]; rfl) | rfl) (fun ht => ?_) (fun ht => ?_) <;> try (first | exact False.elim ht | exact absurd rfl ht | exact absurd trivial ht | exact Bool.noConfusion ht)) | (with_reducible refine k_ret ?_; repeat with_reducible (first | refine ret_thru ?_ | refine ret_blk ?_ | refine fin ?_)) | (with_reducible refine k_exit ?_; repeat with_reducible (first | refine thru ?_ | refine out_blk ?_ | refine pass (by decide) ?_)) | ((first | refine post1 ?_ | refine post2 ?_ | refine post3 ?_); simp only [GA, simprocAttr]) | refine post0 ?_
       exact ⟨klt, (), (by rw [es]; exact (by simp only [Am.keep, List.map_cons, List.map_nil, GA, simprocAttr]; try rfl)), by simp (disch := omega) only [hmy', RG20, EVA, plug, eq_self, simprocAttr]⟩
    ·have c0' := eq_false (show ¬ (0 : Int) < (cnt l m left k : Nat) by omega)
     have es := eF fun q => absurd q c0
     generalize cnt l m left k = cc at *
     repeat' first | (with_reducible first | refine k_seq ?_ | refine k_skip ?_ | refine k_blkS ?_ | refine k_blkR ?_ | refine k_blkC ?_ | refine k_blkH ?_ | refine k_blkB ?_ | refine k_blkK ?_ | refine k_blkE ?_ | refine k_reg ?_) | with_reducible refine k_head (by with_unfolding_all rfl) ?_ | with_reducible refine k_headS ?_ | (with_reducible refine SepK.mk ?_ ?_; (refine sepQ_P ?_; simp [sepQ, sepG, AOp.late, AOp.free, AOp.xs, AOp.isAl, tokNe, AV.tok, stS_get, strip, AX.val, RG20, GA]; try omega)) | with_reducible refine r_done ?_ | with_reducible refine hr_done ?_ | with_reducible refine s_go (by simp (disch := omega) only [klt', g2, a1, c0', RG20, EVA, plug, eq_self, simprocAttr]; with_reducible rfl) ?_ | with_reducible refine h_go (by with_unfolding_all rfl) (by simp (disch := omega) only [klt', g2, a1, c0', RG20, EVA, plug, eq_self, simprocAttr]; with_reducible rfl) ?_ | ((with_reducible refine chk_r ?_); refine r_callF (by simp only [CA, simprocAttr]; rfl) (by exact rfl) (by simp only [CA, simprocAttr]; rfl) rfl ?_) | ((with_reducible refine chk_h ?_); refine hr_callF (by simp only [CA, simprocAttr]; rfl) (by exact rfl) (by simp only [CA, simprocAttr]; rfl) rfl ?_) | ((with_reducible refine chk_r ?_); refine r_callP (by simp only [CA, simprocAttr]; rfl) (by simp only [CA, simprocAttr]; rfl) (by first | exact q4 _) rfl ?_) | ((with_reducible refine chk_h ?_); refine hr_callP (by simp only [CA, simprocAttr]; rfl) (by simp only [CA, simprocAttr]; rfl) (by first | exact q4 _) rfl ?_) | ((with_reducible refine chk_h ?_); refine hr_callP1 (by simp only [CA, simprocAttr]; rfl) (by simp only [CA, simprocAttr]; rfl) (by simp (disch := omega) only [CA, Nat.reduceEqDiff, ↓reduceIte, firstTok_nil, firstTok_sl, firstTok_sl0, firstTok_i, firstTok_b, firstTok_ag, firstTok_p, firstTok_s]; rfl) (by first | exact q4 _) rfl ?_) | ((with_reducible refine chk_r ?_); refine r_callG (by simp only [CA, simprocAttr]; rfl) (by simp only [CA, simprocAttr]; rfl) (by simp only [CA, simprocAttr]; rfl) (by intro hg; (try simp only [BO] at hg); first | exact q4 _) rfl ?_) | ((with_reducible refine chk_h ?_); refine hr_callG (by simp only [CA, simprocAttr]; rfl) (by simp only [CA, simprocAttr]; rfl) (by simp only [CA, simprocAttr]; rfl) (by intro hg; (try simp only [BO] at hg); first | exact q4 _) rfl ?_) | ((with_reducible refine chk_h ?_); refine hr_app (by simp (disch := omega) only [klt', g2, a1, c0', RG20, EVA, plug, eq_self, simprocAttr]; with_reducible rfl) rfl ?_) | (with_reducible refine k_condP (by simp only [GA, simprocAttr]; rfl) (by first | (simp only [BO]; rfl) | rfl) (fun ht => ?_) (fun ht => ?_) <;> try (first | exact False.elim ht | exact absurd rfl ht | exact absurd trivial ht | exact Bool.noConfusion ht)) | (with_reducible refine k_ret ?_; repeat with_reducible (first | refine ret_thru ?_ | refine ret_blk ?_ | refine fin ?_)) | (with_reducible refine k_exit ?_; repeat with_reducible (first | refine thru ?_ | refine out_blk ?_ | refine pass (by decide) ?_)) | ((first | refine post1 ?_ | refine post2 ?_ | refine post3 ?_); simp only [GA, simprocAttr]) | refine post0 ?_
     exact ⟨klt, (), (by rw [es]; exact (by simp only [Am.keep, List.map_cons, List.map_nil, GA, simprocAttr]; try rfl)), by simp (disch := omega) only [hmy', RG20, EVA, plug, eq_self, simprocAttr]⟩
   ·obtain rfl : k = l.length := by omega
    have klt' : ¬ (l.length : Int) < l.length := by omega
    rcases gb_rb (l := l) (m := m) (left := left) (k := l.length) with ⟨h1, h2, h3⟩ | ⟨b, h1, h2, h3, h4⟩
    ·rw [h1, if_pos (by omega)] at e
     rw [h1, ← e]
     repeat' first | (with_reducible first | refine k_seq ?_ | refine k_skip ?_ | refine k_blkS ?_ | refine k_blkR ?_ | refine k_blkC ?_ | refine k_blkH ?_ | refine k_blkB ?_ | refine k_blkK ?_ | refine k_blkE ?_ | refine k_reg ?_) | with_reducible refine k_head (by with_unfolding_all rfl) ?_ | with_reducible refine k_headS ?_ | (with_reducible refine SepK.mk ?_ ?_; (refine sepQ_P ?_; simp [sepQ, sepG, AOp.late, AOp.free, AOp.xs, AOp.isAl, tokNe, AV.tok, stS_get, strip, AX.val, RG20, GA]; try omega)) | with_reducible refine r_done ?_ | with_reducible refine hr_done ?_ | with_reducible refine s_go (by simp (disch := omega) only [klt', RG20, EVA, plug, eq_self, simprocAttr]; with_reducible rfl) ?_ | with_reducible refine h_go (by with_unfolding_all rfl) (by simp (disch := omega) only [klt', RG20, EVA, plug, eq_self, simprocAttr]; with_reducible rfl) ?_ | ((with_reducible refine chk_r ?_); refine r_callF (by simp only [CA, simprocAttr]; rfl) (by exact rfl) (by simp only [CA, simprocAttr]; rfl) rfl ?_) | ((with_reducible refine chk_h ?_); refine hr_callF (by simp only [CA, simprocAttr]; rfl) (by exact rfl) (by simp only [CA, simprocAttr]; rfl) rfl ?_) | ((with_reducible refine chk_h ?_); refine hr_app (by simp (disch := omega) only [klt', RG20, EVA, plug, eq_self, simprocAttr]; with_reducible rfl) rfl ?_) | (with_reducible refine k_condP (by simp only [GA, simprocAttr]; rfl) (by first | (simp only [BO]; rfl) | rfl) (fun ht => ?_) (fun ht => ?_) <;> try (first | exact False.elim ht | exact absurd rfl ht | exact absurd trivial ht | exact Bool.noConfusion ht)) | (with_reducible refine k_ret ?_; repeat with_reducible (first | refine ret_thru ?_ | refine ret_blk ?_ | refine fin ?_)) | (with_reducible refine k_exit ?_; repeat with_reducible (first | refine thru ?_ | refine out_blk ?_ | refine pass (by decide) ?_)) | ((first | refine post1 ?_ | refine post2 ?_ | refine post3 ?_); simp only [GA, simprocAttr]) | refine post0 ?_
     exact ends_nil2
    ·have b0 := eq_false (show ¬ (b : Int) < 0 by omega)
     have bl' : (b : Int) < l.length := by omega
     have g3 := nu_get (l := fitL l m) (j := b) (by simp [fitL]; omega)
     rw [fitL_get (by omega)] at g3
     rw [h1, if_neg (by omega), Int.toNat_natCast] at e
     have a3 := andnot_64 l64 (lt_64 (fitS_lt (m := m) (s := zD l b)) M)
     have pa := pop_an h3
     have ll := an_lt (y := fitS m (zD l b)) hlt
     rw [h1]
     generalize an left (fitS m (zD l b)) = left' at *
     repeat' first | (with_reducible first | refine k_seq ?_ | refine k_skip ?_ | refine k_blkS ?_ | refine k_blkR ?_ | refine k_blkC ?_ | refine k_blkH ?_ | refine k_blkB ?_ | refine k_blkK ?_ | refine k_blkE ?_ | refine k_reg ?_) | with_reducible refine k_head (by with_unfolding_all rfl) ?_ | with_reducible refine k_headS ?_ | (with_reducible refine SepK.mk ?_ ?_; (refine sepQ_P ?_; simp [sepQ, sepG, AOp.late, AOp.free, AOp.xs, AOp.isAl, tokNe, AV.tok, stS_get, strip, AX.val, RG20, GA]; try omega)) | with_reducible refine r_done ?_ | with_reducible refine hr_done ?_ | with_reducible refine s_go (by simp (disch := omega) only [klt', b0, bl', g3, a3, hmy', row_m hmy', hy, il_len, RG20, EVA, plug, eq_self, simprocAttr]; with_reducible rfl) ?_ | with_reducible refine h_go (by with_unfolding_all rfl) (by simp (disch := omega) only [klt', b0, bl', g3, a3, hmy', row_m hmy', hy, il_len, RG20, EVA, plug, eq_self, simprocAttr]; with_reducible rfl) ?_ | ((with_reducible refine chk_r ?_); refine r_callF (by simp only [CA, simprocAttr]; rfl) (by exact rfl) (by simp only [CA, simprocAttr]; rfl) rfl ?_) | ((with_reducible refine chk_h ?_); refine hr_callF (by simp only [CA, simprocAttr]; rfl) (by exact rfl) (by simp only [CA, simprocAttr]; rfl) rfl ?_) | ((with_reducible refine chk_h ?_); refine hr_app (by simp (disch := omega) only [klt', b0, bl', g3, a3, hmy', row_m hmy', hy, il_len, RG20, EVA, plug, eq_self, simprocAttr]; with_reducible rfl) rfl ?_) | (with_reducible refine k_condP (by simp only [GA, simprocAttr]; rfl) (by first | (simp only [BO]; rfl) | rfl) (fun ht => ?_) (fun ht => ?_) <;> try (first | exact False.elim ht | exact absurd rfl ht | exact absurd trivial ht | exact Bool.noConfusion ht)) | (with_reducible refine k_ret ?_; repeat with_reducible (first | refine ret_thru ?_ | refine ret_blk ?_ | refine fin ?_)) | (with_reducible refine k_exit ?_; repeat with_reducible (first | refine thru ?_ | refine out_blk ?_ | refine pass (by decide) ?_)) | ((first | refine post1 ?_ | refine post2 ?_ | refine post3 ?_); simp only [GA, simprocAttr]) | refine post0 ?_
     refine ⟨(_, t, left', out ++ [(b : Int)]), Nat.lt_succ_self t, (by simp only [Am.keep, List.map_cons, List.map_nil, GA, Nat.reduceEqDiff, ↓reduceIte, List.length_append, List.length_singleton]; try rfl), ?_, ?_, ll, by show (out ++ [(b : Int)]).length + t ≤ 41; rw [List.length_append, List.length_singleton]; omega, Nat.lt_of_lt_of_le pa (Nat.le_of_lt_succ hpop), e⟩
     ·first | omega | (simp only [AH.bump_nx, AH.set_nx, AH.kill_nx]; omega)
     ·simp (disch := omega) only [RG20, EVA, plug, eq_self, simprocAttr] <;> rfl
 ·have c' := eq_false c
  rw [if_pos c]
  repeat' first | (with_reducible first | refine k_seq ?_ | refine k_skip ?_ | refine k_blkS ?_ | refine k_blkR ?_ | refine k_blkC ?_ | refine k_blkH ?_ | refine k_blkB ?_ | refine k_blkK ?_ | refine k_blkE ?_ | refine k_reg ?_) | with_reducible refine k_head (by with_unfolding_all rfl) ?_ | with_reducible refine k_headS ?_ | (with_reducible refine SepK.mk ?_ ?_; (refine sepQ_P ?_; simp [sepQ, sepG, AOp.late, AOp.free, AOp.xs, AOp.isAl, tokNe, AV.tok, stS_get, strip, AX.val, RG20, GA]; try omega)) | with_reducible refine r_done ?_ | with_reducible refine hr_done ?_ | with_reducible refine s_go (by simp (disch := omega) only [c', RG20, EVA, plug, eq_self, simprocAttr]; with_reducible rfl) ?_ | with_reducible refine h_go (by with_unfolding_all rfl) (by simp (disch := omega) only [c', RG20, EVA, plug, eq_self, simprocAttr]; with_reducible rfl) ?_ | ((with_reducible refine chk_r ?_); refine r_callF (by simp only [CA, simprocAttr]; rfl) (by exact rfl) (by simp only [CA, simprocAttr]; rfl) rfl ?_) | ((with_reducible refine chk_h ?_); refine hr_callF (by simp only [CA, simprocAttr]; rfl) (by exact rfl) (by simp only [CA, simprocAttr]; rfl) rfl ?_) | ((with_reducible refine chk_r ?_); refine r_callP (by simp only [CA, simprocAttr]; rfl) (by simp only [CA, simprocAttr]; rfl) (by first | exact q1 _) rfl ?_) | ((with_reducible refine chk_h ?_); refine hr_callP (by simp only [CA, simprocAttr]; rfl) (by simp only [CA, simprocAttr]; rfl) (by first | exact q1 _) rfl ?_) | ((with_reducible refine chk_h ?_); refine hr_callP1 (by simp only [CA, simprocAttr]; rfl) (by simp only [CA, simprocAttr]; rfl) (by simp (disch := omega) only [CA, Nat.reduceEqDiff, ↓reduceIte, firstTok_nil, firstTok_sl, firstTok_sl0, firstTok_i, firstTok_b, firstTok_ag, firstTok_p, firstTok_s]; rfl) (by first | exact q1 _) rfl ?_) | ((with_reducible refine chk_r ?_); refine r_callG (by simp only [CA, simprocAttr]; rfl) (by simp only [CA, simprocAttr]; rfl) (by simp only [CA, simprocAttr]; rfl) (by intro hg; (try simp only [BO] at hg); first | exact q1 _) rfl ?_) | ((with_reducible refine chk_h ?_); refine hr_callG (by simp only [CA, simprocAttr]; rfl) (by simp only [CA, simprocAttr]; rfl) (by simp only [CA, simprocAttr]; rfl) (by intro hg; (try simp only [BO] at hg); first | exact q1 _) rfl ?_) | ((with_reducible refine chk_h ?_); refine hr_app (by simp (disch := omega) only [c', RG20, EVA, plug, eq_self, simprocAttr]; with_reducible rfl) rfl ?_) | (with_reducible refine k_condP (by simp only [GA, simprocAttr]; rfl) (by first | (simp only [BO]; rfl) | rfl) (fun ht => ?_) (fun ht => ?_) <;> try (first | exact False.elim ht | exact absurd rfl ht | exact absurd trivial ht | exact Bool.noConfusion ht)) | (with_reducible refine k_ret ?_; repeat with_reducible (first | refine ret_thru ?_ | refine ret_blk ?_ | refine fin ?_)) | (with_reducible refine k_exit ?_; repeat with_reducible (first | refine thru ?_ | refine out_blk ?_ | refine pass (by decide) ?_)) | ((first | refine post1 ?_ | refine post2 ?_ | refine post3 ?_); simp only [GA, simprocAttr]) | refine post0 ?_
  exact ends_nil2
end Go.Proofs.YtjaihaccehaicaaDoor
set_option linter.unusedVariables false
set_option linter.unusedSimpArgs false
namespace Go.Proofs.YtjaihaccehaicaaDoor
open Go Go.Am Go.Proofs
theorem grN_len {l : List Sz} {m : List Hd} : ∀ {t left : Nat} {out : List Int}, (grN l m t left out).1.length ≤ out.length + t
 | 0, left, out => Nat.zero_le _
 | t + 1, left, out => by
   rw [grN]
   split
   ·simp only; omega
   ·split
    ·exact Nat.zero_le _
    ·have := grN_len (l := l) (m := m) (t := t) (left := an left (fitS m (zD l (gbS l m left l.length).toNat))) (out := out ++ [gbS l m left l.length])
     rw [List.length_append, List.length_singleton] at this
     omega
theorem grR_len (l : List Sz) (m : List Hd) (hm : m.length ≤ 9223372036854775807) : (grR l m).1.length ≤ 9223372036854775807 := by
 unfold grR
 split
 ·exact Nat.zero_le _
 ·rename_i c
  have M := (hdsOk_iff.1 (chk_ok (Classical.not_not.1 c)).2).1
  have := grN_len (l := l) (m := m) (t := m.length + 1) (left := 2 ^ m.length - 1) (out := [])
  simp only [List.length_nil] at this
  omega
theorem cvrR_len (l : List Sz) (m : List Hd) : (cvrR l m).1.length ≤ 64 := by
 unfold cvrR
 split
 ·exact Nat.zero_le _
 ·split
  ·exact Nat.zero_le _
  ·split
   ·exact cvN_len _ _
   ·exact Nat.zero_le _
end Go.Proofs.YtjaihaccehaicaaDoor
set_option linter.unusedVariables false
set_option linter.unusedSimpArgs false
namespace Go.Proofs.YtjaihaccehaicaaDoor
open Go Go.Am Go.Proofs
theorem mem_lN {l : List Int} {x : Int} (h : x ∈ l) : ∃ j, j < l.length ∧ lN l j = x := by
 obtain ⟨j, hj, e⟩ := List.getElem_of_mem h
 refine ⟨j, hj, ?_⟩
 unfold lN
 rw [List.getD_eq_getElem?_getD, List.getElem?_eq_getElem hj]
 exact e
theorem pk_in {l : List Int} {n : Nat} (h : pkOk l n = true) : inB n l := fun x hx => by
 obtain ⟨j, hj, rfl⟩ := mem_lN hx
 exact ((pkOk_iff.1 h) j hj).1
theorem pk_nodup {l : List Int} {n : Int} (h : pkOk l n = true) : l.Nodup := by
 have P := pkOk_iff.1 h
 refine List.pairwise_iff_getElem.2 fun i j hi hj hij e => (P j hj).2 i hij ?_
 unfold lN
 rw [List.getD_eq_getElem?_getD, List.getD_eq_getElem?_getD, List.getElem?_eq_getElem hi, List.getElem?_eq_getElem hj]
 exact e
theorem cvs_iff {l : List Sz} {m : List Hd} {li : List Int} : cvsB l m li = true ↔ ∀ k, k < m.length → ∃ i ∈ li, fitB (zD l i.toNat) (hD m k) = true := by
 unfold cvsB
 rw [decide_eq_true_eq]
 exact forall_congr' fun k => forall_congr' fun _ => cvd_iff
theorem cvs_apart {l : List Sz} {m : List Hd} {li ap : List Int} (hp : pkOk li l.length = true) (ha : pkOk ap m.length = true) (hc : cvsB l m li = true) (hy : aptB l m ap = true) : ap.length ≤ li.length := by
 have A : ∀ i, i < ap.length → ∀ j, j < i → ∀ s, s < l.length → ¬ apP l m ap i j s := of_decide_eq_true hy
 refine pig (R := fun s v => s.toNat < l.length ∧ fitB (zD l s.toNat) (hD m v.toNat) = true) (pk_nodup ha) (fun v hv => ?_) fun s u v hu hv ⟨sn, h1⟩ ⟨_, h2⟩ => ?_
 ·have b := pk_in ha v hv
  obtain ⟨i, hi, q⟩ := cvs_iff.1 hc v.toNat (by omega)
  have := pk_in hp i hi
  exact ⟨i, hi, by omega, q⟩
 ·obtain ⟨i, hi, rfl⟩ := mem_lN hu
  obtain ⟨j, hj, rfl⟩ := mem_lN hv
  rcases Nat.lt_trichotomy i j with q | q | q
  ·exact absurd ⟨h2, h1⟩ (A j hj i q s.toNat sn)
  ·rw [q]
  ·exact absurd ⟨h1, h2⟩ (A i hi j q s.toNat sn)
theorem cvs_asc {l : List Sz} {m : List Hd} {li : List Int} (hl : l.length ≤ 64) (hp : pkOk li l.length = true) (hc : cvsB l m li = true) : ∃ r, cand (cvsB l m) l.length r ∧ r.length ≤ li.length := by
 have b := pk_in hp
 have M : ∀ {x : Int}, x ∈ bts (shS li li.length) ↔ x ∈ li := fun {x} => bts_mem hl b
 refine ⟨bts (shS li li.length), ⟨asc_bts _, bts_in (shS_lt2 b), cvs_iff.2 fun k hk => ?_⟩, pig (R := fun s v => s = v) (asc_nodup (asc_bts _)) (fun v hv => ⟨v, M.1 hv, rfl⟩) fun s u v _ _ h1 h2 => h1.symm.trans h2⟩
 obtain ⟨i, hi, q⟩ := cvs_iff.1 hc k hk
 exact ⟨i, M.2 hi, q⟩
theorem cvr_ok {l : List Sz} {m : List Hd} (h : (cvrR l m).2 = 0) : chk l m = 0 ∧ l.length ≤ 12 ∧ Least (cvsB l m) l.length (cvrR l m).1 := by
 unfold cvrR at h ⊢
 by_cases c : chk l m = 0
 ·rw [if_neg (by simp [c])] at h ⊢
  by_cases c12 : 12 < l.length
  ·rw [if_pos c12] at h; cases h
  ·rw [if_neg c12] at h ⊢
   by_cases d : (cvN (cvsB l m) (2 ^ l.length)).1 = true
   ·rw [if_pos d] at h ⊢
    exact ⟨c, by omega, (cvN_least (by omega)).1 d⟩
   ·rw [if_neg d] at h; cases h
 ·rw [if_pos c] at h; exact absurd h c
theorem cvr_pk {l : List Sz} {m : List Hd} (h : (cvrR l m).2 = 0) : pkOk (cvrR l m).1 l.length = true := pk_of_asc (cvr_ok h).2.2.1.1 (cvr_ok h).2.2.1.2.1
theorem least_le {l : List Sz} {m : List Hd} (h : (cvrR l m).2 = 0) {li : List Int} (hp : pkOk li l.length = true) (hc : cvsB l m li = true) : (cvrR l m).1.length ≤ li.length := by
 obtain ⟨h1, h2, h3⟩ := cvr_ok h
 obtain ⟨r, hr, hle⟩ := cvs_asc (by omega) hp hc
 have := h3.2 r hr
 have : ¬ r.length < (cvrR l m).1.length := fun q => this (.inl q)
 omega
theorem cov_ok {l : List Sz} {m : List Hd} {li : List Int} (c : chk l m = 0) : (covR l m li).2 = 0 → pkOk li l.length = true ∧ (covR l m li).1 = cvsB l m li := by
 unfold covR
 rw [if_neg (by simp [c])]
 cases d : pkOk li l.length with
 | false => rw [if_pos rfl]; intro h; cases h
 | true => rw [if_neg (by simp)]; exact fun _ => ⟨rfl, rfl⟩
theorem cov_eq {l : List Sz} {m : List Hd} {li : List Int} (c : chk l m = 0) (h : pkOk li l.length = true) : covR l m li = (cvsB l m li, 0) := by
 unfold covR
 rw [if_neg (by simp [c]), if_neg (by simp [h])]
theorem cov_chk {l : List Sz} {m : List Hd} {li : List Int} (h : (covR l m li).2 = 0) : chk l m = 0 := by
 unfold covR at h
 by_cases c : chk l m = 0
 ·exact c
 ·rw [if_pos c] at h; exact absurd h c
theorem apt_ok {l : List Sz} {m : List Hd} {li : List Int} (c : chk l m = 0) : (aptR l m li).2 = 0 → pkOk li m.length = true ∧ (aptR l m li).1 = aptB l m li := by
 unfold aptR
 rw [if_neg (by simp [c])]
 cases d : pkOk li m.length with
 | false => rw [if_pos rfl]; intro h; cases h
 | true => rw [if_neg (by simp)]; exact fun _ => ⟨rfl, rfl⟩
theorem gr_of {l : List Sz} {m : List Hd} (h : (cvrR l m).2 = 0) : (grR l m).2 = 0 ∧ cvsB l m (grR l m).1 = true ∧ pkOk (grR l m).1 l.length = true := by
 obtain ⟨h1, h2, h3⟩ := cvr_ok h
 have M := (hdsOk_iff.1 (chk_ok h1).2).1
 have hall : ∀ j, j < m.length → ∃ i, i < l.length ∧ (fitS m (zD l i)).testBit j = true := fun j hj => by
  obtain ⟨i, hi, q⟩ := cvs_iff.1 h3.1.2.2 j hj
  have := h3.1.2.1 i hi
  exact ⟨i.toNat, by omega, fitS_bit.2 ⟨hj, q⟩⟩
 obtain ⟨r, e, q1, q2⟩ := gr_ok M hall (m.length + 1) (GI.start l m) (Nat.lt_succ_of_le (pop_whole (by omega)))
 unfold grR
 rw [if_neg (by simp [h1]), e]
 exact ⟨rfl, q1, q2⟩
def eI (n : Int) : List AV := [.i .i64 n]
theorem flI (l : List Int) : fl eI l = il l := by
 induction l with
 | nil => rfl
 | cons n l ih => rw [fl_cons, ih]; rfl
theorem decI (r : List AV) (h : Shps [.i .i64] r) : ∃ x : Int, r = eI x ∧ True := by
 obtain ⟨a, r, rfl, h1, h⟩ := shps_cons h
 obtain rfl := shps_nil h
 obtain ⟨n, rfl, _⟩ := shp_i64 h1
 exact ⟨n, rfl, trivial⟩
theorem RG6 : (type_of% @c6r0.eq_1) ∧ (type_of% @c6r1.eq_1) ∧ (type_of% @c6r2.eq_1) ∧ (type_of% @c6r3.eq_1) ∧ (type_of% @c6r4.eq_1) ∧ (type_of% @c6r5.eq_1) ∧ (type_of% @c6r6.eq_1) ∧ (type_of% @c6r7.eq_1) ∧ (type_of% @c6r8.eq_1) ∧ (type_of% @c6r9.eq_1) ∧ (type_of% @c6r10.eq_1) ∧ (type_of% @c6r11.eq_1) ∧ (type_of% @c6r12.eq_1) ∧ (type_of% @c6r13.eq_1) := ⟨@c6r0.eq_1, @c6r1.eq_1, @c6r2.eq_1, @c6r3.eq_1, @c6r4.eq_1, @c6r5.eq_1, @c6r6.eq_1, @c6r7.eq_1, @c6r8.eq_1, @c6r9.eq_1, @c6r10.eq_1, @c6r11.eq_1, @c6r12.eq_1, @c6r13.eq_1⟩
set_option maxHeartbeats 4000000 in
theorem d6 (l : List Sz) (m : List Hd) (li ap : List Int) (hl : l.length ≤ 9223372036854775807) (hm : m.length ≤ 9223372036854775807) (hli : li.length ≤ 9223372036854775807) (hap : ap.length ≤ 9223372036854775807) : PC Tryd.prog 6 [vZ l, vH m, vi li, vi ap] (.b true) := by
 have q1 := pc27 l m li hl hm hli
 have q2 := pc29 l m ap hl hm hap
 have q3 := d18 l m hl hm
 have q4 := d20 l m hl hm
 have q5 := pc27 l m (cvrR l m).1 hl hm (by have := cvrR_len l m; omega)
 have q6 := pc27 l m (grR l m).1 hl hm (grR_len l m hm)
 have H1 : (covR l m li).2 = 0 → (aptR l m ap).2 = 0 → (covR l m li).1 = true → (aptR l m ap).1 = true → ap.length ≤ li.length := fun a b c d => by
  have k := cov_chk a
  obtain ⟨p1, e1⟩ := cov_ok k a
  obtain ⟨p2, e2⟩ := apt_ok k b
  exact cvs_apart p1 p2 (by rw [← e1]; exact c) (by rw [← e2]; exact d)
 have H2 : (cvrR l m).2 = 0 → (grR l m).2 = 0 ∧ covR l m (cvrR l m).1 = (true, 0) ∧ (cvrR l m).1.length ≤ (grR l m).1.length ∧ ((covR l m li).2 = 0 → (covR l m li).1 = true → (cvrR l m).1.length ≤ li.length) ∧ covR l m (grR l m).1 = (true, 0) ∧ ((aptR l m ap).2 = 0 → (aptR l m ap).1 = true → ap.length ≤ (cvrR l m).1.length) := fun a => by
  obtain ⟨g1, g2, g3⟩ := gr_of a
  obtain ⟨k, _, L⟩ := cvr_ok a
  have pk := cvr_pk a
  refine ⟨g1, ?_, least_le a g3 g2, fun b c => ?_, ?_, fun b c => ?_⟩
  ·rw [cov_eq k pk, L.1.2.2]
  ·obtain ⟨p1, e1⟩ := cov_ok k b
   exact least_le a p1 (by rw [← e1]; exact c)
  ·rw [cov_eq k g3, g2]
  ·obtain ⟨p2, e2⟩ := apt_ok k b
   exact cvs_apart pk p2 L.1.2.2 (by rw [← e2]; exact c)
 generalize (covR l m li).1 = x at *
 generalize (covR l m li).2 = e at *
 generalize (aptR l m ap).1 = y at *
 generalize (aptR l m ap).2 = f at *
 generalize covR l m (cvrR l m).1 = C5 at *
 generalize covR l m (grR l m).1 = C6 at *
 generalize (cvrR l m).1 = best at *
 generalize (cvrR l m).2 = g at *
 generalize (grR l m).1 = gr at *
 generalize (grR l m).2 = h at *
 refine pc_fn fn6 (by simp only [AV.plains, AV.plain, il_plain, bl_plain, Bool.and_true, Bool.true_and, Bool.and_self, fleZ_plain, fleH_plain, il_plain]) (by simp only [AV.plains, AV.plain, il_plain, bl_plain, Bool.and_true, Bool.true_and, Bool.and_self, fleZ_plain, fleH_plain, il_plain]) (Nat.le_of_ble_eq_true rfl) ?_
 rw [initSt4]
 by_cases e0 : e = 0
 ·have e0' := eq_true e0
  cases x with
  | true =>
    by_cases f0 : f = 0
    ·have f0' := eq_true f0
     cases y with
     | true =>
       have c1 := eq_false (show ¬ (li.length : Int) < ap.length by have := H1 e0 f0 rfl rfl; omega)
       by_cases g0 : g = 0
       ·have g0' := eq_true g0
        obtain ⟨K1, K2, K3, K4, K5, K6⟩ := H2 g0
        have h0' := eq_true K1
        rw [K2] at q5
        rw [K5] at q6
        have c3 := eq_false (show ¬ (gr.length : Int) < best.length by omega)
        have c4 := eq_false (show ¬ (li.length : Int) < best.length by have := K4 e0 rfl; omega)
        have c5 := eq_true (show (ap.length : Int) ≤ best.length by have := K6 f0 rfl; omega)
        repeat' first | (with_reducible first | refine k_seq ?_ | refine k_skip ?_ | refine k_blkS ?_ | refine k_blkR ?_ | refine k_blkC ?_ | refine k_blkH ?_ | refine k_blkB ?_ | refine k_blkK ?_ | refine k_blkE ?_ | refine k_reg ?_) | with_reducible refine r_done ?_ | with_reducible refine s_go (by simp (disch := omega) only [e0', f0', c1, g0', h0', c3, c4, c5, RG6, EVA, plug, eq_self, simprocAttr]; with_reducible rfl) ?_ | ((with_reducible refine chk_r ?_); refine r_callF (by simp only [CA, simprocAttr]; rfl) (by exact rfl) (by simp only [CA, simprocAttr]; rfl) rfl ?_) | ((with_reducible refine chk_r ?_); refine r_callP (by simp only [CA, simprocAttr]; rfl) (by simp only [CA, simprocAttr]; rfl) (by first | exact q1 _ | exact q2 _ | exact q3 _ | exact q4 _ | exact q5 _ | exact q6 _ | exact pc17 _) rfl ?_) | ((with_reducible refine chk_r ?_); refine r_callG (by simp only [CA, simprocAttr]; rfl) (by simp only [CA, simprocAttr]; rfl) (by simp only [CA, simprocAttr]; rfl) (by intro hg; (try simp only [BO] at hg); first | exact q1 _ | exact q2 _ | exact q3 _ | exact q4 _ | exact q5 _ | exact q6 _ | exact pc17 _) rfl ?_) | (with_reducible refine k_condP (by simp only [GA, simprocAttr]; rfl) (by first | (simp only [BO]; rfl) | rfl) (fun ht => ?_) (fun ht => ?_) <;> try (first | exact False.elim ht | exact absurd rfl ht | exact absurd trivial ht | exact Bool.noConfusion ht)) | (with_reducible refine k_ret ?_; repeat with_reducible (first | refine ret_thru ?_ | refine ret_blk ?_ | refine fin ?_)) | (with_reducible refine k_exit ?_; repeat with_reducible (first | refine thru ?_ | refine out_blk ?_ | refine pass (by decide) ?_)) | ((first | refine post1 ?_ | refine post2 ?_ | refine post3 ?_); simp only [GA, simprocAttr]) | refine post0 ?_
        all_goals first | exact ends_of | exact ends_eq rfl
       ·have g0' := eq_false g0
        repeat' first | (with_reducible first | refine k_seq ?_ | refine k_skip ?_ | refine k_blkS ?_ | refine k_blkR ?_ | refine k_blkC ?_ | refine k_blkH ?_ | refine k_blkB ?_ | refine k_blkK ?_ | refine k_blkE ?_ | refine k_reg ?_) | with_reducible refine r_done ?_ | with_reducible refine s_go (by simp (disch := omega) only [e0', f0', c1, g0', RG6, EVA, plug, eq_self, simprocAttr]; with_reducible rfl) ?_ | ((with_reducible refine chk_r ?_); refine r_callF (by simp only [CA, simprocAttr]; rfl) (by exact rfl) (by simp only [CA, simprocAttr]; rfl) rfl ?_) | ((with_reducible refine chk_r ?_); refine r_callP (by simp only [CA, simprocAttr]; rfl) (by simp only [CA, simprocAttr]; rfl) (by first | exact q1 _ | exact q2 _ | exact q3 _ | exact q4 _ | exact q5 _ | exact q6 _ | exact pc17 _) rfl ?_) | ((with_reducible refine chk_r ?_); refine r_callG (by simp only [CA, simprocAttr]; rfl) (by simp only [CA, simprocAttr]; rfl) (by simp only [CA, simprocAttr]; rfl) (by intro hg; (try simp only [BO] at hg); first | exact q1 _ | exact q2 _ | exact q3 _ | exact q4 _ | exact q5 _ | exact q6 _ | exact pc17 _) rfl ?_) | (with_reducible refine k_condP (by simp only [GA, simprocAttr]; rfl) (by first | (simp only [BO]; rfl) | rfl) (fun ht => ?_) (fun ht => ?_) <;> try (first | exact False.elim ht | exact absurd rfl ht | exact absurd trivial ht | exact Bool.noConfusion ht)) | (with_reducible refine k_ret ?_; repeat with_reducible (first | refine ret_thru ?_ | refine ret_blk ?_ | refine fin ?_)) | (with_reducible refine k_exit ?_; repeat with_reducible (first | refine thru ?_ | refine out_blk ?_ | refine pass (by decide) ?_)) | ((first | refine post1 ?_ | refine post2 ?_ | refine post3 ?_); simp only [GA, simprocAttr]) | refine post0 ?_
        all_goals first | exact ends_of | exact ends_eq rfl
     | false =>
       by_cases g0 : g = 0
       ·have g0' := eq_true g0
        obtain ⟨K1, K2, K3, K4, K5, K6⟩ := H2 g0
        have h0' := eq_true K1
        rw [K2] at q5
        rw [K5] at q6
        have c3 := eq_false (show ¬ (gr.length : Int) < best.length by omega)
        have c4 := eq_false (show ¬ (li.length : Int) < best.length by have := K4 e0 rfl; omega)
        repeat' first | (with_reducible first | refine k_seq ?_ | refine k_skip ?_ | refine k_blkS ?_ | refine k_blkR ?_ | refine k_blkC ?_ | refine k_blkH ?_ | refine k_blkB ?_ | refine k_blkK ?_ | refine k_blkE ?_ | refine k_reg ?_) | with_reducible refine r_done ?_ | with_reducible refine s_go (by simp (disch := omega) only [e0', f0', g0', h0', c3, c4, RG6, EVA, plug, eq_self, simprocAttr]; with_reducible rfl) ?_ | ((with_reducible refine chk_r ?_); refine r_callF (by simp only [CA, simprocAttr]; rfl) (by exact rfl) (by simp only [CA, simprocAttr]; rfl) rfl ?_) | ((with_reducible refine chk_r ?_); refine r_callP (by simp only [CA, simprocAttr]; rfl) (by simp only [CA, simprocAttr]; rfl) (by first | exact q1 _ | exact q2 _ | exact q3 _ | exact q4 _ | exact q5 _ | exact q6 _ | exact pc17 _) rfl ?_) | ((with_reducible refine chk_r ?_); refine r_callG (by simp only [CA, simprocAttr]; rfl) (by simp only [CA, simprocAttr]; rfl) (by simp only [CA, simprocAttr]; rfl) (by intro hg; (try simp only [BO] at hg); first | exact q1 _ | exact q2 _ | exact q3 _ | exact q4 _ | exact q5 _ | exact q6 _ | exact pc17 _) rfl ?_) | (with_reducible refine k_condP (by simp only [GA, simprocAttr]; rfl) (by first | (simp only [BO]; rfl) | rfl) (fun ht => ?_) (fun ht => ?_) <;> try (first | exact False.elim ht | exact absurd rfl ht | exact absurd trivial ht | exact Bool.noConfusion ht)) | (with_reducible refine k_ret ?_; repeat with_reducible (first | refine ret_thru ?_ | refine ret_blk ?_ | refine fin ?_)) | (with_reducible refine k_exit ?_; repeat with_reducible (first | refine thru ?_ | refine out_blk ?_ | refine pass (by decide) ?_)) | ((first | refine post1 ?_ | refine post2 ?_ | refine post3 ?_); simp only [GA, simprocAttr]) | refine post0 ?_
        all_goals first | exact ends_of | exact ends_eq rfl
       ·have g0' := eq_false g0
        repeat' first | (with_reducible first | refine k_seq ?_ | refine k_skip ?_ | refine k_blkS ?_ | refine k_blkR ?_ | refine k_blkC ?_ | refine k_blkH ?_ | refine k_blkB ?_ | refine k_blkK ?_ | refine k_blkE ?_ | refine k_reg ?_) | with_reducible refine r_done ?_ | with_reducible refine s_go (by simp (disch := omega) only [e0', f0', g0', RG6, EVA, plug, eq_self, simprocAttr]; with_reducible rfl) ?_ | ((with_reducible refine chk_r ?_); refine r_callF (by simp only [CA, simprocAttr]; rfl) (by exact rfl) (by simp only [CA, simprocAttr]; rfl) rfl ?_) | ((with_reducible refine chk_r ?_); refine r_callP (by simp only [CA, simprocAttr]; rfl) (by simp only [CA, simprocAttr]; rfl) (by first | exact q1 _ | exact q2 _ | exact q3 _ | exact q4 _ | exact q5 _ | exact q6 _ | exact pc17 _) rfl ?_) | ((with_reducible refine chk_r ?_); refine r_callG (by simp only [CA, simprocAttr]; rfl) (by simp only [CA, simprocAttr]; rfl) (by simp only [CA, simprocAttr]; rfl) (by intro hg; (try simp only [BO] at hg); first | exact q1 _ | exact q2 _ | exact q3 _ | exact q4 _ | exact q5 _ | exact q6 _ | exact pc17 _) rfl ?_) | (with_reducible refine k_condP (by simp only [GA, simprocAttr]; rfl) (by first | (simp only [BO]; rfl) | rfl) (fun ht => ?_) (fun ht => ?_) <;> try (first | exact False.elim ht | exact absurd rfl ht | exact absurd trivial ht | exact Bool.noConfusion ht)) | (with_reducible refine k_ret ?_; repeat with_reducible (first | refine ret_thru ?_ | refine ret_blk ?_ | refine fin ?_)) | (with_reducible refine k_exit ?_; repeat with_reducible (first | refine thru ?_ | refine out_blk ?_ | refine pass (by decide) ?_)) | ((first | refine post1 ?_ | refine post2 ?_ | refine post3 ?_); simp only [GA, simprocAttr]) | refine post0 ?_
        all_goals first | exact ends_of | exact ends_eq rfl
    ·have f0' := eq_false f0
     by_cases g0 : g = 0
     ·have g0' := eq_true g0
      obtain ⟨K1, K2, K3, K4, K5, K6⟩ := H2 g0
      have h0' := eq_true K1
      rw [K2] at q5
      rw [K5] at q6
      have c3 := eq_false (show ¬ (gr.length : Int) < best.length by omega)
      have c4 := eq_false (show ¬ (li.length : Int) < best.length by have := K4 e0 rfl; omega)
      repeat' first | (with_reducible first | refine k_seq ?_ | refine k_skip ?_ | refine k_blkS ?_ | refine k_blkR ?_ | refine k_blkC ?_ | refine k_blkH ?_ | refine k_blkB ?_ | refine k_blkK ?_ | refine k_blkE ?_ | refine k_reg ?_) | with_reducible refine r_done ?_ | with_reducible refine s_go (by simp (disch := omega) only [e0', f0', g0', h0', c3, c4, RG6, EVA, plug, eq_self, simprocAttr]; with_reducible rfl) ?_ | ((with_reducible refine chk_r ?_); refine r_callF (by simp only [CA, simprocAttr]; rfl) (by exact rfl) (by simp only [CA, simprocAttr]; rfl) rfl ?_) | ((with_reducible refine chk_r ?_); refine r_callP (by simp only [CA, simprocAttr]; rfl) (by simp only [CA, simprocAttr]; rfl) (by first | exact q1 _ | exact q2 _ | exact q3 _ | exact q4 _ | exact q5 _ | exact q6 _ | exact pc17 _) rfl ?_) | ((with_reducible refine chk_r ?_); refine r_callG (by simp only [CA, simprocAttr]; rfl) (by simp only [CA, simprocAttr]; rfl) (by simp only [CA, simprocAttr]; rfl) (by intro hg; (try simp only [BO] at hg); first | exact q1 _ | exact q2 _ | exact q3 _ | exact q4 _ | exact q5 _ | exact q6 _ | exact pc17 _) rfl ?_) | (with_reducible refine k_condP (by simp only [GA, simprocAttr]; rfl) (by first | (simp only [BO]; rfl) | rfl) (fun ht => ?_) (fun ht => ?_) <;> try (first | exact False.elim ht | exact absurd rfl ht | exact absurd trivial ht | exact Bool.noConfusion ht)) | (with_reducible refine k_ret ?_; repeat with_reducible (first | refine ret_thru ?_ | refine ret_blk ?_ | refine fin ?_)) | (with_reducible refine k_exit ?_; repeat with_reducible (first | refine thru ?_ | refine out_blk ?_ | refine pass (by decide) ?_)) | ((first | refine post1 ?_ | refine post2 ?_ | refine post3 ?_); simp only [GA, simprocAttr]) | refine post0 ?_
      all_goals first | exact ends_of | exact ends_eq rfl
     ·have g0' := eq_false g0
      repeat' first | (with_reducible first | refine k_seq ?_ | refine k_skip ?_ | refine k_blkS ?_ | refine k_blkR ?_ | refine k_blkC ?_ | refine k_blkH ?_ | refine k_blkB ?_ | refine k_blkK ?_ | refine k_blkE ?_ | refine k_reg ?_) | with_reducible refine r_done ?_ | with_reducible refine s_go (by simp (disch := omega) only [e0', f0', g0', RG6, EVA, plug, eq_self, simprocAttr]; with_reducible rfl) ?_ | ((with_reducible refine chk_r ?_); refine r_callF (by simp only [CA, simprocAttr]; rfl) (by exact rfl) (by simp only [CA, simprocAttr]; rfl) rfl ?_) | ((with_reducible refine chk_r ?_); refine r_callP (by simp only [CA, simprocAttr]; rfl) (by simp only [CA, simprocAttr]; rfl) (by first | exact q1 _ | exact q2 _ | exact q3 _ | exact q4 _ | exact q5 _ | exact q6 _ | exact pc17 _) rfl ?_) | ((with_reducible refine chk_r ?_); refine r_callG (by simp only [CA, simprocAttr]; rfl) (by simp only [CA, simprocAttr]; rfl) (by simp only [CA, simprocAttr]; rfl) (by intro hg; (try simp only [BO] at hg); first | exact q1 _ | exact q2 _ | exact q3 _ | exact q4 _ | exact q5 _ | exact q6 _ | exact pc17 _) rfl ?_) | (with_reducible refine k_condP (by simp only [GA, simprocAttr]; rfl) (by first | (simp only [BO]; rfl) | rfl) (fun ht => ?_) (fun ht => ?_) <;> try (first | exact False.elim ht | exact absurd rfl ht | exact absurd trivial ht | exact Bool.noConfusion ht)) | (with_reducible refine k_ret ?_; repeat with_reducible (first | refine ret_thru ?_ | refine ret_blk ?_ | refine fin ?_)) | (with_reducible refine k_exit ?_; repeat with_reducible (first | refine thru ?_ | refine out_blk ?_ | refine pass (by decide) ?_)) | ((first | refine post1 ?_ | refine post2 ?_ | refine post3 ?_); simp only [GA, simprocAttr]) | refine post0 ?_
      all_goals first | exact ends_of | exact ends_eq rfl
  | false =>
    by_cases f0 : f = 0
    ·have f0' := eq_true f0
     cases y with
     | true =>
       by_cases g0 : g = 0
       ·have g0' := eq_true g0
        obtain ⟨K1, K2, K3, K4, K5, K6⟩ := H2 g0
        have h0' := eq_true K1
        rw [K2] at q5
        rw [K5] at q6
        have c3 := eq_false (show ¬ (gr.length : Int) < best.length by omega)
        have c5 := eq_true (show (ap.length : Int) ≤ best.length by have := K6 f0 rfl; omega)
        repeat' first | (with_reducible first | refine k_seq ?_ | refine k_skip ?_ | refine k_blkS ?_ | refine k_blkR ?_ | refine k_blkC ?_ | refine k_blkH ?_ | refine k_blkB ?_ | refine k_blkK ?_ | refine k_blkE ?_ | refine k_reg ?_) | with_reducible refine r_done ?_ | with_reducible refine s_go (by simp (disch := omega) only [e0', f0', g0', h0', c3, c5, RG6, EVA, plug, eq_self, simprocAttr]; with_reducible rfl) ?_ | ((with_reducible refine chk_r ?_); refine r_callF (by simp only [CA, simprocAttr]; rfl) (by exact rfl) (by simp only [CA, simprocAttr]; rfl) rfl ?_) | ((with_reducible refine chk_r ?_); refine r_callP (by simp only [CA, simprocAttr]; rfl) (by simp only [CA, simprocAttr]; rfl) (by first | exact q1 _ | exact q2 _ | exact q3 _ | exact q4 _ | exact q5 _ | exact q6 _ | exact pc17 _) rfl ?_) | ((with_reducible refine chk_r ?_); refine r_callG (by simp only [CA, simprocAttr]; rfl) (by simp only [CA, simprocAttr]; rfl) (by simp only [CA, simprocAttr]; rfl) (by intro hg; (try simp only [BO] at hg); first | exact q1 _ | exact q2 _ | exact q3 _ | exact q4 _ | exact q5 _ | exact q6 _ | exact pc17 _) rfl ?_) | (with_reducible refine k_condP (by simp only [GA, simprocAttr]; rfl) (by first | (simp only [BO]; rfl) | rfl) (fun ht => ?_) (fun ht => ?_) <;> try (first | exact False.elim ht | exact absurd rfl ht | exact absurd trivial ht | exact Bool.noConfusion ht)) | (with_reducible refine k_ret ?_; repeat with_reducible (first | refine ret_thru ?_ | refine ret_blk ?_ | refine fin ?_)) | (with_reducible refine k_exit ?_; repeat with_reducible (first | refine thru ?_ | refine out_blk ?_ | refine pass (by decide) ?_)) | ((first | refine post1 ?_ | refine post2 ?_ | refine post3 ?_); simp only [GA, simprocAttr]) | refine post0 ?_
        all_goals first | exact ends_of | exact ends_eq rfl
       ·have g0' := eq_false g0
        repeat' first | (with_reducible first | refine k_seq ?_ | refine k_skip ?_ | refine k_blkS ?_ | refine k_blkR ?_ | refine k_blkC ?_ | refine k_blkH ?_ | refine k_blkB ?_ | refine k_blkK ?_ | refine k_blkE ?_ | refine k_reg ?_) | with_reducible refine r_done ?_ | with_reducible refine s_go (by simp (disch := omega) only [e0', f0', g0', RG6, EVA, plug, eq_self, simprocAttr]; with_reducible rfl) ?_ | ((with_reducible refine chk_r ?_); refine r_callF (by simp only [CA, simprocAttr]; rfl) (by exact rfl) (by simp only [CA, simprocAttr]; rfl) rfl ?_) | ((with_reducible refine chk_r ?_); refine r_callP (by simp only [CA, simprocAttr]; rfl) (by simp only [CA, simprocAttr]; rfl) (by first | exact q1 _ | exact q2 _ | exact q3 _ | exact q4 _ | exact q5 _ | exact q6 _ | exact pc17 _) rfl ?_) | ((with_reducible refine chk_r ?_); refine r_callG (by simp only [CA, simprocAttr]; rfl) (by simp only [CA, simprocAttr]; rfl) (by simp only [CA, simprocAttr]; rfl) (by intro hg; (try simp only [BO] at hg); first | exact q1 _ | exact q2 _ | exact q3 _ | exact q4 _ | exact q5 _ | exact q6 _ | exact pc17 _) rfl ?_) | (with_reducible refine k_condP (by simp only [GA, simprocAttr]; rfl) (by first | (simp only [BO]; rfl) | rfl) (fun ht => ?_) (fun ht => ?_) <;> try (first | exact False.elim ht | exact absurd rfl ht | exact absurd trivial ht | exact Bool.noConfusion ht)) | (with_reducible refine k_ret ?_; repeat with_reducible (first | refine ret_thru ?_ | refine ret_blk ?_ | refine fin ?_)) | (with_reducible refine k_exit ?_; repeat with_reducible (first | refine thru ?_ | refine out_blk ?_ | refine pass (by decide) ?_)) | ((first | refine post1 ?_ | refine post2 ?_ | refine post3 ?_); simp only [GA, simprocAttr]) | refine post0 ?_
        all_goals first | exact ends_of | exact ends_eq rfl
     | false =>
       by_cases g0 : g = 0
       ·have g0' := eq_true g0
        obtain ⟨K1, K2, K3, K4, K5, K6⟩ := H2 g0
        have h0' := eq_true K1
        rw [K2] at q5
        rw [K5] at q6
        have c3 := eq_false (show ¬ (gr.length : Int) < best.length by omega)
        repeat' first | (with_reducible first | refine k_seq ?_ | refine k_skip ?_ | refine k_blkS ?_ | refine k_blkR ?_ | refine k_blkC ?_ | refine k_blkH ?_ | refine k_blkB ?_ | refine k_blkK ?_ | refine k_blkE ?_ | refine k_reg ?_) | with_reducible refine r_done ?_ | with_reducible refine s_go (by simp (disch := omega) only [e0', f0', g0', h0', c3, RG6, EVA, plug, eq_self, simprocAttr]; with_reducible rfl) ?_ | ((with_reducible refine chk_r ?_); refine r_callF (by simp only [CA, simprocAttr]; rfl) (by exact rfl) (by simp only [CA, simprocAttr]; rfl) rfl ?_) | ((with_reducible refine chk_r ?_); refine r_callP (by simp only [CA, simprocAttr]; rfl) (by simp only [CA, simprocAttr]; rfl) (by first | exact q1 _ | exact q2 _ | exact q3 _ | exact q4 _ | exact q5 _ | exact q6 _ | exact pc17 _) rfl ?_) | ((with_reducible refine chk_r ?_); refine r_callG (by simp only [CA, simprocAttr]; rfl) (by simp only [CA, simprocAttr]; rfl) (by simp only [CA, simprocAttr]; rfl) (by intro hg; (try simp only [BO] at hg); first | exact q1 _ | exact q2 _ | exact q3 _ | exact q4 _ | exact q5 _ | exact q6 _ | exact pc17 _) rfl ?_) | (with_reducible refine k_condP (by simp only [GA, simprocAttr]; rfl) (by first | (simp only [BO]; rfl) | rfl) (fun ht => ?_) (fun ht => ?_) <;> try (first | exact False.elim ht | exact absurd rfl ht | exact absurd trivial ht | exact Bool.noConfusion ht)) | (with_reducible refine k_ret ?_; repeat with_reducible (first | refine ret_thru ?_ | refine ret_blk ?_ | refine fin ?_)) | (with_reducible refine k_exit ?_; repeat with_reducible (first | refine thru ?_ | refine out_blk ?_ | refine pass (by decide) ?_)) | ((first | refine post1 ?_ | refine post2 ?_ | refine post3 ?_); simp only [GA, simprocAttr]) | refine post0 ?_
        all_goals first | exact ends_of | exact ends_eq rfl
       ·have g0' := eq_false g0
        repeat' first | (with_reducible first | refine k_seq ?_ | refine k_skip ?_ | refine k_blkS ?_ | refine k_blkR ?_ | refine k_blkC ?_ | refine k_blkH ?_ | refine k_blkB ?_ | refine k_blkK ?_ | refine k_blkE ?_ | refine k_reg ?_) | with_reducible refine r_done ?_ | with_reducible refine s_go (by simp (disch := omega) only [e0', f0', g0', RG6, EVA, plug, eq_self, simprocAttr]; with_reducible rfl) ?_ | ((with_reducible refine chk_r ?_); refine r_callF (by simp only [CA, simprocAttr]; rfl) (by exact rfl) (by simp only [CA, simprocAttr]; rfl) rfl ?_) | ((with_reducible refine chk_r ?_); refine r_callP (by simp only [CA, simprocAttr]; rfl) (by simp only [CA, simprocAttr]; rfl) (by first | exact q1 _ | exact q2 _ | exact q3 _ | exact q4 _ | exact q5 _ | exact q6 _ | exact pc17 _) rfl ?_) | ((with_reducible refine chk_r ?_); refine r_callG (by simp only [CA, simprocAttr]; rfl) (by simp only [CA, simprocAttr]; rfl) (by simp only [CA, simprocAttr]; rfl) (by intro hg; (try simp only [BO] at hg); first | exact q1 _ | exact q2 _ | exact q3 _ | exact q4 _ | exact q5 _ | exact q6 _ | exact pc17 _) rfl ?_) | (with_reducible refine k_condP (by simp only [GA, simprocAttr]; rfl) (by first | (simp only [BO]; rfl) | rfl) (fun ht => ?_) (fun ht => ?_) <;> try (first | exact False.elim ht | exact absurd rfl ht | exact absurd trivial ht | exact Bool.noConfusion ht)) | (with_reducible refine k_ret ?_; repeat with_reducible (first | refine ret_thru ?_ | refine ret_blk ?_ | refine fin ?_)) | (with_reducible refine k_exit ?_; repeat with_reducible (first | refine thru ?_ | refine out_blk ?_ | refine pass (by decide) ?_)) | ((first | refine post1 ?_ | refine post2 ?_ | refine post3 ?_); simp only [GA, simprocAttr]) | refine post0 ?_
        all_goals first | exact ends_of | exact ends_eq rfl
    ·have f0' := eq_false f0
     by_cases g0 : g = 0
     ·have g0' := eq_true g0
      obtain ⟨K1, K2, K3, K4, K5, K6⟩ := H2 g0
      have h0' := eq_true K1
      rw [K2] at q5
      rw [K5] at q6
      have c3 := eq_false (show ¬ (gr.length : Int) < best.length by omega)
      repeat' first | (with_reducible first | refine k_seq ?_ | refine k_skip ?_ | refine k_blkS ?_ | refine k_blkR ?_ | refine k_blkC ?_ | refine k_blkH ?_ | refine k_blkB ?_ | refine k_blkK ?_ | refine k_blkE ?_ | refine k_reg ?_) | with_reducible refine r_done ?_ | with_reducible refine s_go (by simp (disch := omega) only [e0', f0', g0', h0', c3, RG6, EVA, plug, eq_self, simprocAttr]; with_reducible rfl) ?_ | ((with_reducible refine chk_r ?_); refine r_callF (by simp only [CA, simprocAttr]; rfl) (by exact rfl) (by simp only [CA, simprocAttr]; rfl) rfl ?_) | ((with_reducible refine chk_r ?_); refine r_callP (by simp only [CA, simprocAttr]; rfl) (by simp only [CA, simprocAttr]; rfl) (by first | exact q1 _ | exact q2 _ | exact q3 _ | exact q4 _ | exact q5 _ | exact q6 _ | exact pc17 _) rfl ?_) | ((with_reducible refine chk_r ?_); refine r_callG (by simp only [CA, simprocAttr]; rfl) (by simp only [CA, simprocAttr]; rfl) (by simp only [CA, simprocAttr]; rfl) (by intro hg; (try simp only [BO] at hg); first | exact q1 _ | exact q2 _ | exact q3 _ | exact q4 _ | exact q5 _ | exact q6 _ | exact pc17 _) rfl ?_) | (with_reducible refine k_condP (by simp only [GA, simprocAttr]; rfl) (by first | (simp only [BO]; rfl) | rfl) (fun ht => ?_) (fun ht => ?_) <;> try (first | exact False.elim ht | exact absurd rfl ht | exact absurd trivial ht | exact Bool.noConfusion ht)) | (with_reducible refine k_ret ?_; repeat with_reducible (first | refine ret_thru ?_ | refine ret_blk ?_ | refine fin ?_)) | (with_reducible refine k_exit ?_; repeat with_reducible (first | refine thru ?_ | refine out_blk ?_ | refine pass (by decide) ?_)) | ((first | refine post1 ?_ | refine post2 ?_ | refine post3 ?_); simp only [GA, simprocAttr]) | refine post0 ?_
      all_goals first | exact ends_of | exact ends_eq rfl
     ·have g0' := eq_false g0
      repeat' first | (with_reducible first | refine k_seq ?_ | refine k_skip ?_ | refine k_blkS ?_ | refine k_blkR ?_ | refine k_blkC ?_ | refine k_blkH ?_ | refine k_blkB ?_ | refine k_blkK ?_ | refine k_blkE ?_ | refine k_reg ?_) | with_reducible refine r_done ?_ | with_reducible refine s_go (by simp (disch := omega) only [e0', f0', g0', RG6, EVA, plug, eq_self, simprocAttr]; with_reducible rfl) ?_ | ((with_reducible refine chk_r ?_); refine r_callF (by simp only [CA, simprocAttr]; rfl) (by exact rfl) (by simp only [CA, simprocAttr]; rfl) rfl ?_) | ((with_reducible refine chk_r ?_); refine r_callP (by simp only [CA, simprocAttr]; rfl) (by simp only [CA, simprocAttr]; rfl) (by first | exact q1 _ | exact q2 _ | exact q3 _ | exact q4 _ | exact q5 _ | exact q6 _ | exact pc17 _) rfl ?_) | ((with_reducible refine chk_r ?_); refine r_callG (by simp only [CA, simprocAttr]; rfl) (by simp only [CA, simprocAttr]; rfl) (by simp only [CA, simprocAttr]; rfl) (by intro hg; (try simp only [BO] at hg); first | exact q1 _ | exact q2 _ | exact q3 _ | exact q4 _ | exact q5 _ | exact q6 _ | exact pc17 _) rfl ?_) | (with_reducible refine k_condP (by simp only [GA, simprocAttr]; rfl) (by first | (simp only [BO]; rfl) | rfl) (fun ht => ?_) (fun ht => ?_) <;> try (first | exact False.elim ht | exact absurd rfl ht | exact absurd trivial ht | exact Bool.noConfusion ht)) | (with_reducible refine k_ret ?_; repeat with_reducible (first | refine ret_thru ?_ | refine ret_blk ?_ | refine fin ?_)) | (with_reducible refine k_exit ?_; repeat with_reducible (first | refine thru ?_ | refine out_blk ?_ | refine pass (by decide) ?_)) | ((first | refine post1 ?_ | refine post2 ?_ | refine post3 ?_); simp only [GA, simprocAttr]) | refine post0 ?_
      all_goals first | exact ends_of | exact ends_eq rfl
 ·have e0' := eq_false e0
  by_cases f0 : f = 0
  ·have f0' := eq_true f0
   cases y with
   | true =>
     by_cases g0 : g = 0
     ·have g0' := eq_true g0
      obtain ⟨K1, K2, K3, K4, K5, K6⟩ := H2 g0
      have h0' := eq_true K1
      rw [K2] at q5
      rw [K5] at q6
      have c3 := eq_false (show ¬ (gr.length : Int) < best.length by omega)
      have c5 := eq_true (show (ap.length : Int) ≤ best.length by have := K6 f0 rfl; omega)
      repeat' first | (with_reducible first | refine k_seq ?_ | refine k_skip ?_ | refine k_blkS ?_ | refine k_blkR ?_ | refine k_blkC ?_ | refine k_blkH ?_ | refine k_blkB ?_ | refine k_blkK ?_ | refine k_blkE ?_ | refine k_reg ?_) | with_reducible refine r_done ?_ | with_reducible refine s_go (by simp (disch := omega) only [e0', f0', g0', h0', c3, c5, RG6, EVA, plug, eq_self, simprocAttr]; with_reducible rfl) ?_ | ((with_reducible refine chk_r ?_); refine r_callF (by simp only [CA, simprocAttr]; rfl) (by exact rfl) (by simp only [CA, simprocAttr]; rfl) rfl ?_) | ((with_reducible refine chk_r ?_); refine r_callP (by simp only [CA, simprocAttr]; rfl) (by simp only [CA, simprocAttr]; rfl) (by first | exact q1 _ | exact q2 _ | exact q3 _ | exact q4 _ | exact q5 _ | exact q6 _ | exact pc17 _) rfl ?_) | ((with_reducible refine chk_r ?_); refine r_callG (by simp only [CA, simprocAttr]; rfl) (by simp only [CA, simprocAttr]; rfl) (by simp only [CA, simprocAttr]; rfl) (by intro hg; (try simp only [BO] at hg); first | exact q1 _ | exact q2 _ | exact q3 _ | exact q4 _ | exact q5 _ | exact q6 _ | exact pc17 _) rfl ?_) | (with_reducible refine k_condP (by simp only [GA, simprocAttr]; rfl) (by first | (simp only [BO]; rfl) | rfl) (fun ht => ?_) (fun ht => ?_) <;> try (first | exact False.elim ht | exact absurd rfl ht | exact absurd trivial ht | exact Bool.noConfusion ht)) | (with_reducible refine k_ret ?_; repeat with_reducible (first | refine ret_thru ?_ | refine ret_blk ?_ | refine fin ?_)) | (with_reducible refine k_exit ?_; repeat with_reducible (first | refine thru ?_ | refine out_blk ?_ | refine pass (by decide) ?_)) | ((first | refine post1 ?_ | refine post2 ?_ | refine post3 ?_); simp only [GA, simprocAttr]) | refine post0 ?_
      all_goals first | exact ends_of | exact ends_eq rfl
     ·have g0' := eq_false g0
      repeat' first | (with_reducible first | refine k_seq ?_ | refine k_skip ?_ | refine k_blkS ?_ | refine k_blkR ?_ | refine k_blkC ?_ | refine k_blkH ?_ | refine k_blkB ?_ | refine k_blkK ?_ | refine k_blkE ?_ | refine k_reg ?_) | with_reducible refine r_done ?_ | with_reducible refine s_go (by simp (disch := omega) only [e0', f0', g0', RG6, EVA, plug, eq_self, simprocAttr]; with_reducible rfl) ?_ | ((with_reducible refine chk_r ?_); refine r_callF (by simp only [CA, simprocAttr]; rfl) (by exact rfl) (by simp only [CA, simprocAttr]; rfl) rfl ?_) | ((with_reducible refine chk_r ?_); refine r_callP (by simp only [CA, simprocAttr]; rfl) (by simp only [CA, simprocAttr]; rfl) (by first | exact q1 _ | exact q2 _ | exact q3 _ | exact q4 _ | exact q5 _ | exact q6 _ | exact pc17 _) rfl ?_) | ((with_reducible refine chk_r ?_); refine r_callG (by simp only [CA, simprocAttr]; rfl) (by simp only [CA, simprocAttr]; rfl) (by simp only [CA, simprocAttr]; rfl) (by intro hg; (try simp only [BO] at hg); first | exact q1 _ | exact q2 _ | exact q3 _ | exact q4 _ | exact q5 _ | exact q6 _ | exact pc17 _) rfl ?_) | (with_reducible refine k_condP (by simp only [GA, simprocAttr]; rfl) (by first | (simp only [BO]; rfl) | rfl) (fun ht => ?_) (fun ht => ?_) <;> try (first | exact False.elim ht | exact absurd rfl ht | exact absurd trivial ht | exact Bool.noConfusion ht)) | (with_reducible refine k_ret ?_; repeat with_reducible (first | refine ret_thru ?_ | refine ret_blk ?_ | refine fin ?_)) | (with_reducible refine k_exit ?_; repeat with_reducible (first | refine thru ?_ | refine out_blk ?_ | refine pass (by decide) ?_)) | ((first | refine post1 ?_ | refine post2 ?_ | refine post3 ?_); simp only [GA, simprocAttr]) | refine post0 ?_
      all_goals first | exact ends_of | exact ends_eq rfl
   | false =>
     by_cases g0 : g = 0
     ·have g0' := eq_true g0
      obtain ⟨K1, K2, K3, K4, K5, K6⟩ := H2 g0
      have h0' := eq_true K1
      rw [K2] at q5
      rw [K5] at q6
      have c3 := eq_false (show ¬ (gr.length : Int) < best.length by omega)
      repeat' first | (with_reducible first | refine k_seq ?_ | refine k_skip ?_ | refine k_blkS ?_ | refine k_blkR ?_ | refine k_blkC ?_ | refine k_blkH ?_ | refine k_blkB ?_ | refine k_blkK ?_ | refine k_blkE ?_ | refine k_reg ?_) | with_reducible refine r_done ?_ | with_reducible refine s_go (by simp (disch := omega) only [e0', f0', g0', h0', c3, RG6, EVA, plug, eq_self, simprocAttr]; with_reducible rfl) ?_ | ((with_reducible refine chk_r ?_); refine r_callF (by simp only [CA, simprocAttr]; rfl) (by exact rfl) (by simp only [CA, simprocAttr]; rfl) rfl ?_) | ((with_reducible refine chk_r ?_); refine r_callP (by simp only [CA, simprocAttr]; rfl) (by simp only [CA, simprocAttr]; rfl) (by first | exact q1 _ | exact q2 _ | exact q3 _ | exact q4 _ | exact q5 _ | exact q6 _ | exact pc17 _) rfl ?_) | ((with_reducible refine chk_r ?_); refine r_callG (by simp only [CA, simprocAttr]; rfl) (by simp only [CA, simprocAttr]; rfl) (by simp only [CA, simprocAttr]; rfl) (by intro hg; (try simp only [BO] at hg); first | exact q1 _ | exact q2 _ | exact q3 _ | exact q4 _ | exact q5 _ | exact q6 _ | exact pc17 _) rfl ?_) | (with_reducible refine k_condP (by simp only [GA, simprocAttr]; rfl) (by first | (simp only [BO]; rfl) | rfl) (fun ht => ?_) (fun ht => ?_) <;> try (first | exact False.elim ht | exact absurd rfl ht | exact absurd trivial ht | exact Bool.noConfusion ht)) | (with_reducible refine k_ret ?_; repeat with_reducible (first | refine ret_thru ?_ | refine ret_blk ?_ | refine fin ?_)) | (with_reducible refine k_exit ?_; repeat with_reducible (first | refine thru ?_ | refine out_blk ?_ | refine pass (by decide) ?_)) | ((first | refine post1 ?_ | refine post2 ?_ | refine post3 ?_); simp only [GA, simprocAttr]) | refine post0 ?_
      all_goals first | exact ends_of | exact ends_eq rfl
     ·have g0' := eq_false g0
      repeat' first | (with_reducible first | refine k_seq ?_ | refine k_skip ?_ | refine k_blkS ?_ | refine k_blkR ?_ | refine k_blkC ?_ | refine k_blkH ?_ | refine k_blkB ?_ | refine k_blkK ?_ | refine k_blkE ?_ | refine k_reg ?_) | with_reducible refine r_done ?_ | with_reducible refine s_go (by simp (disch := omega) only [e0', f0', g0', RG6, EVA, plug, eq_self, simprocAttr]; with_reducible rfl) ?_ | ((with_reducible refine chk_r ?_); refine r_callF (by simp only [CA, simprocAttr]; rfl) (by exact rfl) (by simp only [CA, simprocAttr]; rfl) rfl ?_) | ((with_reducible refine chk_r ?_); refine r_callP (by simp only [CA, simprocAttr]; rfl) (by simp only [CA, simprocAttr]; rfl) (by first | exact q1 _ | exact q2 _ | exact q3 _ | exact q4 _ | exact q5 _ | exact q6 _ | exact pc17 _) rfl ?_) | ((with_reducible refine chk_r ?_); refine r_callG (by simp only [CA, simprocAttr]; rfl) (by simp only [CA, simprocAttr]; rfl) (by simp only [CA, simprocAttr]; rfl) (by intro hg; (try simp only [BO] at hg); first | exact q1 _ | exact q2 _ | exact q3 _ | exact q4 _ | exact q5 _ | exact q6 _ | exact pc17 _) rfl ?_) | (with_reducible refine k_condP (by simp only [GA, simprocAttr]; rfl) (by first | (simp only [BO]; rfl) | rfl) (fun ht => ?_) (fun ht => ?_) <;> try (first | exact False.elim ht | exact absurd rfl ht | exact absurd trivial ht | exact Bool.noConfusion ht)) | (with_reducible refine k_ret ?_; repeat with_reducible (first | refine ret_thru ?_ | refine ret_blk ?_ | refine fin ?_)) | (with_reducible refine k_exit ?_; repeat with_reducible (first | refine thru ?_ | refine out_blk ?_ | refine pass (by decide) ?_)) | ((first | refine post1 ?_ | refine post2 ?_ | refine post3 ?_); simp only [GA, simprocAttr]) | refine post0 ?_
      all_goals first | exact ends_of | exact ends_eq rfl
  ·have f0' := eq_false f0
   by_cases g0 : g = 0
   ·have g0' := eq_true g0
    obtain ⟨K1, K2, K3, K4, K5, K6⟩ := H2 g0
    have h0' := eq_true K1
    rw [K2] at q5
    rw [K5] at q6
    have c3 := eq_false (show ¬ (gr.length : Int) < best.length by omega)
    repeat' first | (with_reducible first | refine k_seq ?_ | refine k_skip ?_ | refine k_blkS ?_ | refine k_blkR ?_ | refine k_blkC ?_ | refine k_blkH ?_ | refine k_blkB ?_ | refine k_blkK ?_ | refine k_blkE ?_ | refine k_reg ?_) | with_reducible refine r_done ?_ | with_reducible refine s_go (by simp (disch := omega) only [e0', f0', g0', h0', c3, RG6, EVA, plug, eq_self, simprocAttr]; with_reducible rfl) ?_ | ((with_reducible refine chk_r ?_); refine r_callF (by simp only [CA, simprocAttr]; rfl) (by exact rfl) (by simp only [CA, simprocAttr]; rfl) rfl ?_) | ((with_reducible refine chk_r ?_); refine r_callP (by simp only [CA, simprocAttr]; rfl) (by simp only [CA, simprocAttr]; rfl) (by first | exact q1 _ | exact q2 _ | exact q3 _ | exact q4 _ | exact q5 _ | exact q6 _ | exact pc17 _) rfl ?_) | ((with_reducible refine chk_r ?_); refine r_callG (by simp only [CA, simprocAttr]; rfl) (by simp only [CA, simprocAttr]; rfl) (by simp only [CA, simprocAttr]; rfl) (by intro hg; (try simp only [BO] at hg); first | exact q1 _ | exact q2 _ | exact q3 _ | exact q4 _ | exact q5 _ | exact q6 _ | exact pc17 _) rfl ?_) | (with_reducible refine k_condP (by simp only [GA, simprocAttr]; rfl) (by first | (simp only [BO]; rfl) | rfl) (fun ht => ?_) (fun ht => ?_) <;> try (first | exact False.elim ht | exact absurd rfl ht | exact absurd trivial ht | exact Bool.noConfusion ht)) | (with_reducible refine k_ret ?_; repeat with_reducible (first | refine ret_thru ?_ | refine ret_blk ?_ | refine fin ?_)) | (with_reducible refine k_exit ?_; repeat with_reducible (first | refine thru ?_ | refine out_blk ?_ | refine pass (by decide) ?_)) | ((first | refine post1 ?_ | refine post2 ?_ | refine post3 ?_); simp only [GA, simprocAttr]) | refine post0 ?_
    all_goals first | exact ends_of | exact ends_eq rfl
   ·have g0' := eq_false g0
    repeat' first | (with_reducible first | refine k_seq ?_ | refine k_skip ?_ | refine k_blkS ?_ | refine k_blkR ?_ | refine k_blkC ?_ | refine k_blkH ?_ | refine k_blkB ?_ | refine k_blkK ?_ | refine k_blkE ?_ | refine k_reg ?_) | with_reducible refine r_done ?_ | with_reducible refine s_go (by simp (disch := omega) only [e0', f0', g0', RG6, EVA, plug, eq_self, simprocAttr]; with_reducible rfl) ?_ | ((with_reducible refine chk_r ?_); refine r_callF (by simp only [CA, simprocAttr]; rfl) (by exact rfl) (by simp only [CA, simprocAttr]; rfl) rfl ?_) | ((with_reducible refine chk_r ?_); refine r_callP (by simp only [CA, simprocAttr]; rfl) (by simp only [CA, simprocAttr]; rfl) (by first | exact q1 _ | exact q2 _ | exact q3 _ | exact q4 _ | exact q5 _ | exact q6 _ | exact pc17 _) rfl ?_) | ((with_reducible refine chk_r ?_); refine r_callG (by simp only [CA, simprocAttr]; rfl) (by simp only [CA, simprocAttr]; rfl) (by simp only [CA, simprocAttr]; rfl) (by intro hg; (try simp only [BO] at hg); first | exact q1 _ | exact q2 _ | exact q3 _ | exact q4 _ | exact q5 _ | exact q6 _ | exact pc17 _) rfl ?_) | (with_reducible refine k_condP (by simp only [GA, simprocAttr]; rfl) (by first | (simp only [BO]; rfl) | rfl) (fun ht => ?_) (fun ht => ?_) <;> try (first | exact False.elim ht | exact absurd rfl ht | exact absurd trivial ht | exact Bool.noConfusion ht)) | (with_reducible refine k_ret ?_; repeat with_reducible (first | refine ret_thru ?_ | refine ret_blk ?_ | refine fin ?_)) | (with_reducible refine k_exit ?_; repeat with_reducible (first | refine thru ?_ | refine out_blk ?_ | refine pass (by decide) ?_)) | ((first | refine post1 ?_ | refine post2 ?_ | refine post3 ?_); simp only [GA, simprocAttr]) | refine post0 ?_
    all_goals first | exact ends_of | exact ends_eq rfl
theorem d6' (l : List Sz) (hl : l.length ≤ 9223372036854775807) (m : List Hd) (hm : m.length ≤ 9223372036854775807) (li : List Int) (hli : li.length ≤ 9223372036854775807) (ap : List Int) (hap : ap.length ≤ 9223372036854775807) : PC Tryd.prog 6 [.vs l.length (fl eZ l), .vs m.length (fl eH m), .vs li.length (fl eI li), .vs ap.length (fl eI ap)] (.b true) := by
 rw [flI, flI]; exact d6 l m li ap hl hm hli hap
end Go.Proofs.YtjaihaccehaicaaDoor
set_option linter.unusedVariables false
set_option linter.unusedSimpArgs false
namespace Go.Proofs.YtjaihaccehaicaaDoor
open Go Go.Am Go.Proofs
theorem mapM_get {α β : Type} {f : α → Option β} : ∀ {xs : List α} {ys : List β}, xs.mapM f = some ys → ∀ (i : Nat) x, xs[i]? = some x → ∃ y, f x = some y ∧ ys[i]? = some y
 | [], ys, h, i, x, hx => by simp at hx
 | a :: xs, ys, h, i, x, hx => by
   simp only [List.mapM_cons, Option.pure_def, Option.bind_eq_bind, Option.bind_eq_some_iff, Option.some.injEq] at h
   obtain ⟨y, hy, zs, hz, rfl⟩ := h
   cases i with
   | zero => simp at hx; subst hx; exact ⟨y, hy, rfl⟩
   | succ i => simp at hx; exact mapM_get hz i x hx
theorem int_of_trod {H : Type} {enc : TypeId × Value → H} {P : Program} {w : World} {base : Nat} {sp : Nat → Bool} {held : Bool} {fuel : Nat} {t : TypeId} {k : IntKind} {c : Value} {y : DataW H × List MemPlace}
 (ht : P.underlying t = some (.int k)) (h : DataW.trod enc P w base sp held fuel t [c] = some y) : ∃ n, c = .int k n ∧ y = (.lit (.int k n), []) := by
 cases fuel with
 | zero => simp [DataW.trod] at h
 | succ fuel =>
   cases c <;> simp [DataW.trod, ht] at h
   rename_i k' n
   obtain ⟨⟨rfl, _⟩, rfl⟩ := h
   exact ⟨n, rfl, rfl⟩
def litOf : Value → DataW Unit
 | .int k n => .lit (.int k n)
 | _ => .nil
theorem laid_lits : (Rows.laid_math_bits_deBruijn64tab : DataW Unit) = .agg (TABV.toList.map litOf) := rfl
theorem tabv_u8 : ∀ v ∈ TABV.toList, ∃ n, v = .int .u8 n := by
 intro v hv
 simp only [TABV, List.mem_cons, List.not_mem_nil, or_false] at hv
 rcases hv with rfl | hv
 ·exact ⟨_, rfl⟩
 repeat (rcases hv with rfl | hv; exact ⟨_, rfl⟩)
theorem g0 : Tryd.prog.globalNamed "math/bits.deBruijn64tab" = some 0 := by kernel_rfl
theorem gT : (Tryd.prog.globals[0]?).map (·.type) = some 106 := by kernel_rfl
theorem cells106 : Tryd.prog.cellsOf 106 = 64 := by kernel_rfl
theorem cells5 : Tryd.prog.cellsOf 5 = 1 := by kernel_rfl
theorem tab_of_laid {W : World} (h : laidMet Tryd.prog Rows.lastListsRow.laid W) : TabOK (φW W) := by
 obtain ⟨ps, ⟨g, t, cs, fuel, p, q, hg, ht, hvar, hd, _, _⟩, _⟩ := h
 obtain rfl := Option.some.inj (g0.symm.trans hg)
 obtain rfl := Option.some.inj (gT.symm.trans ht)
 have hcs : cs = TABV := by
  cases fuel with
  | zero => simp [DataW.trod] at hd
  | succ fuel =>
    simp only [DataW.trod, Tryd.underlying106, cells106, cells5] at hd
    split at hd
    ·rename_i hl
     simp only [Option.map_eq_some_iff] at hd
     obtain ⟨xs, hx, he⟩ := hd
     rw [laid_lits] at he
     have he := (Prod.mk.inj he).1
     simp only [DataW.agg.injEq] at he
     have hl' : cs.toList.length = 64 := by simpa using hl
     refine Array.toList_inj.1 (List.ext_getElem? fun i => ?_)
     by_cases hi : i < 64
     ·have hi' : i < cs.toList.length := by omega
      obtain ⟨y, hy, hyi⟩ := mapM_get hx i i (by rw [List.getElem?_range hi])
      have e1 : (cs.toList.drop (i * 1)).take 1 = [cs.toList[i]] := by
       rw [Nat.mul_one, List.drop_eq_getElem_cons hi', List.take_succ_cons, List.take_zero]
      rw [e1] at hy
      obtain ⟨n, hn, rfl⟩ := int_of_trod Tryd.underlying5 hy
      have ti : i < TABV.toList.length := hi
      have e2 := congrArg (fun l => l[i]?) he
      simp only [List.getElem?_map, hyi, Option.map_some, List.getElem?_eq_getElem ti, Option.some.injEq] at e2
      obtain ⟨m, hm⟩ := tabv_u8 _ (List.getElem_mem ti)
      rw [List.getElem?_eq_getElem hi', List.getElem?_eq_getElem ti, hn, hm]
      rw [hm] at e2
      simp only [litOf, DataW.lit.injEq, Lit.int.injEq, true_and] at e2
      rw [e2]
     ·rw [List.getElem?_eq_none (by omega), List.getElem?_eq_none (show TABV.toList.length ≤ i from Nat.le_of_not_lt hi)]
    ·cases hd
 intro b xs hb
 unfold TAB at hb
 split at hb
 ·rename_i e
  subst e
  cases hb
  unfold World.var? at hvar
  rw [g0] at hvar
  simp only [Option.bind_some] at hvar
  unfold φW
  split at hvar
  ·rename_i ys e fz hh
   cases hvar
   rw [hh, hcs]
  ·cases hvar
 ·cases hb
noncomputable def tabWorld (os : Os) : World :=
 let w0 := World.holding Tryd.prog os ⟨#[], #[], []⟩
 { w0 with heap := w0.heap.modify 0 fun
  | .cells _ t frozen => .cells TABV t frozen
  | o => o }
set_option maxRecDepth 100000 in
theorem laid_met (os : Os) (args : Array Value) : laidMet Tryd.prog Rows.lastListsRow.laid ((tabWorld os).forCall (fun _ _ => 0) ⟨#[], args, []⟩).memory :=
 laidMet_of_run (ps := (List.range 64).map fun i => .cell 0 i) 8 (by kernel_rfl) (by kernel_rfl) (by kernel_rfl)
end Go.Proofs.YtjaihaccehaicaaDoor
