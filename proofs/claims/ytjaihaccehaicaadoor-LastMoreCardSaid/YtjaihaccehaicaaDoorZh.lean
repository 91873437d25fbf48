/- What the proof of the law needs: the abstract machine, the functions as it reads them, their contracts, part 8. -/
import Derived.Test.YtjaihaccehaicaaDoorZg
set_option linter.unusedVariables false
set_option linter.unusedSimpArgs false
namespace Go.Proofs.YtjaihaccehaicaaDoor
open Go Go.Am Go.Proofs
theorem d87 (x : Int) : PC Tryd.prog 87 [.i .i64 x] (.b false) := by
 refine pc_fn fn87 (by simp only [AV.plains, AV.plain, il_plain, bl_plain, Bool.and_true, Bool.true_and, Bool.and_self]) (by simp only [AV.plains, AV.plain, il_plain, bl_plain, Bool.and_true, Bool.true_and, Bool.and_self]) (Nat.le_of_ble_eq_true rfl) ?_
 rw [initSt1]
 repeat' first | (with_reducible first | refine k_seq ?_ | refine k_skip ?_ | refine k_blkS ?_ | refine k_blkR ?_ | refine k_blkC ?_ | refine k_blkH ?_ | refine k_blkB ?_ | refine k_blkK ?_ | refine k_blkE ?_ | refine k_reg ?_) | with_reducible refine r_done ?_ | with_reducible refine s_go (by simp (disch := omega) only [c87r0, c87r1, EVA, plug, eq_self, simprocAttr]; with_reducible rfl) ?_ | ((with_reducible refine chk_r ?_); refine r_callF (by simp only [CA, simprocAttr]; rfl) (by exact rfl) (by simp only [CA, simprocAttr]; rfl) rfl ?_) | (with_reducible refine k_condP (by simp only [GA, simprocAttr]; rfl) (by first | (simp only [BO]; rfl) | rfl) (fun ht => ?_) (fun ht => ?_) <;> try (first | exact False.elim ht | exact absurd rfl ht | exact absurd trivial ht | exact Bool.noConfusion ht)) | (with_reducible refine k_ret ?_; repeat with_reducible (first | refine ret_thru ?_ | refine ret_blk ?_ | refine fin ?_)) | (with_reducible refine k_exit ?_; repeat with_reducible (first | refine thru ?_ | refine out_blk ?_ | refine pass (by decide) ?_)) | ((first | refine post1 ?_ | refine post2 ?_ | refine post3 ?_); simp only [GA, simprocAttr]) | refine post0 ?_
 first | exact ends_of | exact ends_eq rfl | (refine ends_eq (b_eq ?_); simp)
theorem RG75 : (type_of% @c75r0.eq_1) ∧ (type_of% @c75r1.eq_1) ∧ (type_of% @c75r2.eq_1) ∧ (type_of% @c75r3.eq_1) ∧ (type_of% @c75r4.eq_1) ∧ (type_of% @c75r5.eq_1) ∧ (type_of% @c75r6.eq_1) ∧ (type_of% @c75r7.eq_1) ∧ (type_of% @c75r8.eq_1) ∧ (type_of% @c75r9.eq_1) ∧ (type_of% @c75r10.eq_1) ∧ (type_of% @c75r11.eq_1) ∧ (type_of% @c75r12.eq_1) ∧ (type_of% @c75r13.eq_1) := ⟨@c75r0.eq_1, @c75r1.eq_1, @c75r2.eq_1, @c75r3.eq_1, @c75r4.eq_1, @c75r5.eq_1, @c75r6.eq_1, @c75r7.eq_1, @c75r8.eq_1, @c75r9.eq_1, @c75r10.eq_1, @c75r11.eq_1, @c75r12.eq_1, @c75r13.eq_1⟩
theorem d75 (x y : Int) : PC Tryd.prog 75 [.i .i64 x, .i .i64 y] (.i .i64 (cmpZ x y)) := by
 unfold cmpZ
 refine pc_fn fn75 (by simp only [AV.plains, AV.plain, il_plain, bl_plain, Bool.and_true, Bool.true_and, Bool.and_self]) (by simp only [AV.plains, AV.plain, il_plain, bl_plain, Bool.and_true, Bool.true_and, Bool.and_self]) (Nat.le_of_ble_eq_true rfl) ?_
 rw [initSt2]
 by_cases h1 : x < y
 ·have h1' := eq_true h1
  rw [if_pos h1]
  repeat' first | (with_reducible first | refine k_seq ?_ | refine k_skip ?_ | refine k_blkS ?_ | refine k_blkR ?_ | refine k_blkC ?_ | refine k_blkH ?_ | refine k_blkB ?_ | refine k_blkK ?_ | refine k_blkE ?_ | refine k_reg ?_) | with_reducible refine r_done ?_ | with_reducible refine s_go (by simp (disch := omega) only [h1', RG75, EVA, plug, eq_self, simprocAttr]; with_reducible rfl) ?_ | ((with_reducible refine chk_r ?_); refine r_callF (by simp only [CA, simprocAttr]; rfl) (by exact rfl) (by simp only [CA, simprocAttr]; rfl) rfl ?_) | ((with_reducible refine chk_r ?_); refine r_callP (by simp only [CA, simprocAttr]; rfl) (by simp only [CA, simprocAttr]; rfl) (by first | exact d87 _ _) rfl ?_) | (with_reducible refine k_condP (by simp only [GA, simprocAttr]; rfl) (by first | (simp only [BO]; rfl) | rfl) (fun ht => ?_) (fun ht => ?_) <;> try (first | exact False.elim ht | exact absurd rfl ht | exact absurd trivial ht | exact Bool.noConfusion ht)) | (with_reducible refine k_ret ?_; repeat with_reducible (first | refine ret_thru ?_ | refine ret_blk ?_ | refine fin ?_)) | (with_reducible refine k_exit ?_; repeat with_reducible (first | refine thru ?_ | refine out_blk ?_ | refine pass (by decide) ?_)) | ((first | refine post1 ?_ | refine post2 ?_ | refine post3 ?_); simp only [GA, simprocAttr]) | refine post0 ?_
  all_goals first | exact ends_of | exact ends_eq rfl
 ·have h1' := eq_false h1
  rw [if_neg h1]
  by_cases h2 : y < x
  ·have h2' := eq_true h2
   rw [if_pos h2]
   repeat' first | (with_reducible first | refine k_seq ?_ | refine k_skip ?_ | refine k_blkS ?_ | refine k_blkR ?_ | refine k_blkC ?_ | refine k_blkH ?_ | refine k_blkB ?_ | refine k_blkK ?_ | refine k_blkE ?_ | refine k_reg ?_) | with_reducible refine r_done ?_ | with_reducible refine s_go (by simp (disch := omega) only [h1', h2', RG75, EVA, plug, eq_self, simprocAttr]; with_reducible rfl) ?_ | ((with_reducible refine chk_r ?_); refine r_callF (by simp only [CA, simprocAttr]; rfl) (by exact rfl) (by simp only [CA, simprocAttr]; rfl) rfl ?_) | ((with_reducible refine chk_r ?_); refine r_callP (by simp only [CA, simprocAttr]; rfl) (by simp only [CA, simprocAttr]; rfl) (by first | exact d87 _ _) rfl ?_) | (with_reducible refine k_condP (by simp only [GA, simprocAttr]; rfl) (by first | (simp only [BO]; rfl) | rfl) (fun ht => ?_) (fun ht => ?_) <;> try (first | exact False.elim ht | exact absurd rfl ht | exact absurd trivial ht | exact Bool.noConfusion ht)) | (with_reducible refine k_ret ?_; repeat with_reducible (first | refine ret_thru ?_ | refine ret_blk ?_ | refine fin ?_)) | (with_reducible refine k_exit ?_; repeat with_reducible (first | refine thru ?_ | refine out_blk ?_ | refine pass (by decide) ?_)) | ((first | refine post1 ?_ | refine post2 ?_ | refine post3 ?_); simp only [GA, simprocAttr]) | refine post0 ?_
   all_goals first | exact ends_of | exact ends_eq rfl
  ·have h2' := eq_false h2
   rw [if_neg h2]
   repeat' first | (with_reducible first | refine k_seq ?_ | refine k_skip ?_ | refine k_blkS ?_ | refine k_blkR ?_ | refine k_blkC ?_ | refine k_blkH ?_ | refine k_blkB ?_ | refine k_blkK ?_ | refine k_blkE ?_ | refine k_reg ?_) | with_reducible refine r_done ?_ | with_reducible refine s_go (by simp (disch := omega) only [h1', h2', RG75, EVA, plug, eq_self, simprocAttr]; with_reducible rfl) ?_ | ((with_reducible refine chk_r ?_); refine r_callF (by simp only [CA, simprocAttr]; rfl) (by exact rfl) (by simp only [CA, simprocAttr]; rfl) rfl ?_) | ((with_reducible refine chk_r ?_); refine r_callP (by simp only [CA, simprocAttr]; rfl) (by simp only [CA, simprocAttr]; rfl) (by first | exact d87 _ _) rfl ?_) | (with_reducible refine k_condP (by simp only [GA, simprocAttr]; rfl) (by first | (simp only [BO]; rfl) | rfl) (fun ht => ?_) (fun ht => ?_) <;> try (first | exact False.elim ht | exact absurd rfl ht | exact absurd trivial ht | exact Bool.noConfusion ht)) | (with_reducible refine k_ret ?_; repeat with_reducible (first | refine ret_thru ?_ | refine ret_blk ?_ | refine fin ?_)) | (with_reducible refine k_exit ?_; repeat with_reducible (first | refine thru ?_ | refine out_blk ?_ | refine pass (by decide) ?_)) | ((first | refine post1 ?_ | refine post2 ?_ | refine post3 ?_); simp only [GA, simprocAttr]) | refine post0 ?_
   all_goals first | exact ends_of | exact ends_eq rfl
theorem drop_cons {l : List Int} {k : Nat} (h : k < l.length) : l.drop k = l.getD k 0 :: l.drop (k + 1) := by
 rw [List.drop_eq_getElem_cons h, List.getD_eq_getElem?_getD, List.getElem?_eq_getElem h]
 rfl
theorem RG50 : (type_of% @c50r0.eq_1) ∧ (type_of% @c50r1.eq_1) ∧ (type_of% @c50r2.eq_1) ∧ (type_of% @c50r3.eq_1) ∧ (type_of% @c50r4.eq_1) ∧ (type_of% @c50r5.eq_1) ∧ (type_of% @c50r6.eq_1) ∧ (type_of% @c50r7.eq_1) ∧ (type_of% @c50r8.eq_1) ∧ (type_of% @c50r9.eq_1) ∧ (type_of% @c50r10.eq_1) ∧ (type_of% @c50r12.eq_1) ∧ (type_of% @c50r13.eq_1) ∧ (type_of% @c50r14.eq_1) := ⟨@c50r0.eq_1, @c50r1.eq_1, @c50r2.eq_1, @c50r3.eq_1, @c50r4.eq_1, @c50r5.eq_1, @c50r6.eq_1, @c50r7.eq_1, @c50r8.eq_1, @c50r9.eq_1, @c50r10.eq_1, @c50r12.eq_1, @c50r13.eq_1, @c50r14.eq_1⟩
theorem d50 (a b : List Int) (ha : a.length ≤ 9223372036854775807) (hb : b.length ≤ 9223372036854775807) : PC Tryd.prog 50 [vi a, vi b] (.i .i64 (cmpL a b)) := by
 refine pc_fn fn50 (by simp only [AV.plains, AV.plain, il_plain, bl_plain, Bool.and_true, Bool.true_and, Bool.and_self, il_plain]) (by simp only [AV.plains, AV.plain, il_plain, bl_plain, Bool.and_true, Bool.true_and, Bool.and_self, il_plain]) (Nat.le_of_ble_eq_true rfl) ?_
 rw [initSt2]
 repeat' first | (with_reducible first | refine k_seq ?_ | refine k_skip ?_ | refine k_blkS ?_ | refine k_blkR ?_ | refine k_blkC ?_ | refine k_blkH ?_ | refine k_blkB ?_ | refine k_blkK ?_ | refine k_blkE ?_ | refine k_reg ?_) | with_reducible refine r_done ?_ | with_reducible refine s_go (by simp (disch := omega) only [RG50, EVA, plug, eq_self, simprocAttr]; with_reducible rfl) ?_ | ((with_reducible refine chk_r ?_); refine r_callF (by simp only [CA, simprocAttr]; rfl) (by exact rfl) (by simp only [CA, simprocAttr]; rfl) rfl ?_) | (with_reducible refine k_condP (by simp only [GA, simprocAttr]; rfl) (by first | (simp only [BO]; rfl) | rfl) (fun ht => ?_) (fun ht => ?_) <;> try (first | exact False.elim ht | exact absurd rfl ht | exact absurd trivial ht | exact Bool.noConfusion ht)) | (with_reducible refine k_ret ?_; repeat with_reducible (first | refine ret_thru ?_ | refine ret_blk ?_ | refine fin ?_)) | (with_reducible refine k_exit ?_; repeat with_reducible (first | refine thru ?_ | refine out_blk ?_ | refine pass (by decide) ?_)) | ((first | refine post1 ?_ | refine post2 ?_ | refine post3 ?_); simp only [GA, simprocAttr]) | refine post0 ?_
 refine k_blk (k_loopS (X := Unit) [0, 1, 9, 10, 11] a.length (fun k _ => [(0, vi a), (1, vi b), (9, vi a), (10, .i .i64 a.length), (11, .i .i64 (k : Int))]) (fun k _ h => k ≤ b.length ∧ cmpL a b = cmpL (a.drop k) (b.drop k)) () (by simp only [Am.keep, List.map_cons, List.map_nil, GA, simprocAttr]; try rfl) ⟨Nat.zero_le _, rfl⟩ ?_)
 rintro k _ h hk ⟨kb, e⟩ ok pos
 by_cases klt : k < a.length
 ·have klt' : (k : Int) < a.length := by omega
  have g := il_get klt
  rw [drop_cons klt] at e
  by_cases c1 : b.length ≤ k
  ·have c1' := eq_true (show (b.length : Int) ≤ k by omega)
   rw [List.drop_of_length_le c1, cmpL] at e
   rw [e]
   repeat' first | (with_reducible first | refine k_seq ?_ | refine k_skip ?_ | refine k_blkS ?_ | refine k_blkR ?_ | refine k_blkC ?_ | refine k_blkH ?_ | refine k_blkB ?_ | refine k_blkK ?_ | refine k_blkE ?_ | refine k_reg ?_) | with_reducible refine r_done ?_ | with_reducible refine s_go (by simp (disch := omega) only [klt', g, c1', RG50, EVA, plug, eq_self, simprocAttr]; with_reducible rfl) ?_ | ((with_reducible refine chk_r ?_); refine r_callF (by simp only [CA, simprocAttr]; rfl) (by exact rfl) (by simp only [CA, simprocAttr]; rfl) rfl ?_) | (with_reducible refine k_condP (by simp only [GA, simprocAttr]; rfl) (by first | (simp only [BO]; rfl) | rfl) (fun ht => ?_) (fun ht => ?_) <;> try (first | exact False.elim ht | exact absurd rfl ht | exact absurd trivial ht | exact Bool.noConfusion ht)) | (with_reducible refine k_ret ?_; repeat with_reducible (first | refine ret_thru ?_ | refine ret_blk ?_ | refine fin ?_)) | (with_reducible refine k_exit ?_; repeat with_reducible (first | refine thru ?_ | refine out_blk ?_ | refine pass (by decide) ?_)) | ((first | refine post1 ?_ | refine post2 ?_ | refine post3 ?_); simp only [GA, simprocAttr]) | refine post0 ?_
   all_goals first | exact ends_of | exact ends_eq rfl
  ·have c1' := eq_false (show ¬ (b.length : Int) ≤ k by omega)
   have c2 : (k : Int) < b.length := by omega
   have g2 := il_get (l := b) (j := k) (by omega)
   rw [drop_cons (l := b) (by omega), cmpL] at e
   have q := d75 (a.getD k 0) (b.getD k 0)
   generalize a.getD k 0 = x at *
   generalize b.getD k 0 = y at *
   by_cases z : cmpZ x y = 0
   ·have z' := eq_true z
    rw [if_neg (by simp [z])] at e
    repeat' first | (with_reducible first | refine k_seq ?_ | refine k_skip ?_ | refine k_blkS ?_ | refine k_blkR ?_ | refine k_blkC ?_ | refine k_blkH ?_ | refine k_blkB ?_ | refine k_blkK ?_ | refine k_blkE ?_ | refine k_reg ?_) | with_reducible refine r_done ?_ | with_reducible refine s_go (by simp (disch := omega) only [klt', g, c1', c2, g2, z', RG50, EVA, plug, eq_self, simprocAttr]; with_reducible rfl) ?_ | ((with_reducible refine chk_r ?_); refine r_callF (by simp only [CA, simprocAttr]; rfl) (by exact rfl) (by simp only [CA, simprocAttr]; rfl) rfl ?_) | ((with_reducible refine chk_r ?_); refine r_callP (by simp only [CA, simprocAttr]; rfl) (by simp only [CA, simprocAttr]; rfl) (by first | exact q _) rfl ?_) | (with_reducible refine k_condP (by simp only [GA, simprocAttr]; rfl) (by first | (simp only [BO]; rfl) | rfl) (fun ht => ?_) (fun ht => ?_) <;> try (first | exact False.elim ht | exact absurd rfl ht | exact absurd trivial ht | exact Bool.noConfusion ht)) | (with_reducible refine k_ret ?_; repeat with_reducible (first | refine ret_thru ?_ | refine ret_blk ?_ | refine fin ?_)) | (with_reducible refine k_exit ?_; repeat with_reducible (first | refine thru ?_ | refine out_blk ?_ | refine pass (by decide) ?_)) | ((first | refine post1 ?_ | refine post2 ?_ | refine post3 ?_); simp only [GA, simprocAttr]) | refine post0 ?_
    exact ⟨klt, (), (by simp only [Am.keep, List.map_cons, List.map_nil, GA, simprocAttr]; try rfl), by omega, e⟩
   ·have z' := eq_false z
    rw [if_pos z] at e
    rw [e]
    repeat' first | (with_reducible first | refine k_seq ?_ | refine k_skip ?_ | refine k_blkS ?_ | refine k_blkR ?_ | refine k_blkC ?_ | refine k_blkH ?_ | refine k_blkB ?_ | refine k_blkK ?_ | refine k_blkE ?_ | refine k_reg ?_) | with_reducible refine r_done ?_ | with_reducible refine s_go (by simp (disch := omega) only [klt', g, c1', c2, g2, z', RG50, EVA, plug, eq_self, simprocAttr]; with_reducible rfl) ?_ | ((with_reducible refine chk_r ?_); refine r_callF (by simp only [CA, simprocAttr]; rfl) (by exact rfl) (by simp only [CA, simprocAttr]; rfl) rfl ?_) | ((with_reducible refine chk_r ?_); refine r_callP (by simp only [CA, simprocAttr]; rfl) (by simp only [CA, simprocAttr]; rfl) (by first | exact q _) rfl ?_) | (with_reducible refine k_condP (by simp only [GA, simprocAttr]; rfl) (by first | (simp only [BO]; rfl) | rfl) (fun ht => ?_) (fun ht => ?_) <;> try (first | exact False.elim ht | exact absurd rfl ht | exact absurd trivial ht | exact Bool.noConfusion ht)) | (with_reducible refine k_ret ?_; repeat with_reducible (first | refine ret_thru ?_ | refine ret_blk ?_ | refine fin ?_)) | (with_reducible refine k_exit ?_; repeat with_reducible (first | refine thru ?_ | refine out_blk ?_ | refine pass (by decide) ?_)) | ((first | refine post1 ?_ | refine post2 ?_ | refine post3 ?_); simp only [GA, simprocAttr]) | refine post0 ?_
    all_goals first | exact ends_of | exact ends_eq rfl
 ·obtain rfl : k = a.length := by omega
  have klt' : ¬ (a.length : Int) < a.length := by omega
  rw [List.drop_length] at e
  by_cases c1 : a.length < b.length
  ·have c1' := eq_true (show (a.length : Int) < b.length by omega)
   rw [drop_cons c1, cmpL] at e
   rw [e]
   repeat' first | (with_reducible first | refine k_seq ?_ | refine k_skip ?_ | refine k_blkS ?_ | refine k_blkR ?_ | refine k_blkC ?_ | refine k_blkH ?_ | refine k_blkB ?_ | refine k_blkK ?_ | refine k_blkE ?_ | refine k_reg ?_) | with_reducible refine r_done ?_ | with_reducible refine s_go (by simp (disch := omega) only [klt', c1', RG50, EVA, plug, eq_self, simprocAttr]; with_reducible rfl) ?_ | ((with_reducible refine chk_r ?_); refine r_callF (by simp only [CA, simprocAttr]; rfl) (by exact rfl) (by simp only [CA, simprocAttr]; rfl) rfl ?_) | (with_reducible refine k_condP (by simp only [GA, simprocAttr]; rfl) (by first | (simp only [BO]; rfl) | rfl) (fun ht => ?_) (fun ht => ?_) <;> try (first | exact False.elim ht | exact absurd rfl ht | exact absurd trivial ht | exact Bool.noConfusion ht)) | (with_reducible refine k_ret ?_; repeat with_reducible (first | refine ret_thru ?_ | refine ret_blk ?_ | refine fin ?_)) | (with_reducible refine k_exit ?_; repeat with_reducible (first | refine thru ?_ | refine out_blk ?_ | refine pass (by decide) ?_)) | ((first | refine post1 ?_ | refine post2 ?_ | refine post3 ?_); simp only [GA, simprocAttr]) | refine post0 ?_
   all_goals first | exact ends_of | exact ends_eq rfl
  ·have c1' := eq_false (show ¬ (a.length : Int) < b.length by omega)
   rw [List.drop_of_length_le (by omega), cmpL] at e
   rw [e]
   repeat' first | (with_reducible first | refine k_seq ?_ | refine k_skip ?_ | refine k_blkS ?_ | refine k_blkR ?_ | refine k_blkC ?_ | refine k_blkH ?_ | refine k_blkB ?_ | refine k_blkK ?_ | refine k_blkE ?_ | refine k_reg ?_) | with_reducible refine r_done ?_ | with_reducible refine s_go (by simp (disch := omega) only [klt', c1', RG50, EVA, plug, eq_self, simprocAttr]; with_reducible rfl) ?_ | ((with_reducible refine chk_r ?_); refine r_callF (by simp only [CA, simprocAttr]; rfl) (by exact rfl) (by simp only [CA, simprocAttr]; rfl) rfl ?_) | (with_reducible refine k_condP (by simp only [GA, simprocAttr]; rfl) (by first | (simp only [BO]; rfl) | rfl) (fun ht => ?_) (fun ht => ?_) <;> try (first | exact False.elim ht | exact absurd rfl ht | exact absurd trivial ht | exact Bool.noConfusion ht)) | (with_reducible refine k_ret ?_; repeat with_reducible (first | refine ret_thru ?_ | refine ret_blk ?_ | refine fin ?_)) | (with_reducible refine k_exit ?_; repeat with_reducible (first | refine thru ?_ | refine out_blk ?_ | refine pass (by decide) ?_)) | ((first | refine post1 ?_ | refine post2 ?_ | refine post3 ?_); simp only [GA, simprocAttr]) | refine post0 ?_
   all_goals first | exact ends_of | exact ends_eq rfl
theorem pk_of_asc {n : Nat} {li : List Int} (ha : asc li) (hb : inB n li) : pkOk li n = true := by
 rw [pkOk_iff]
 intro j hj
 have ej : lN li j = li[j] := by
  unfold lN
  rw [List.getD_eq_getElem?_getD, List.getElem?_eq_getElem hj]; rfl
 refine ⟨by rw [ej]; exact hb _ (List.getElem_mem hj), fun i hi => ?_⟩
 have ei : lN li i = li[i] := by
  unfold lN
  rw [List.getD_eq_getElem?_getD, List.getElem?_eq_getElem (by omega)]; rfl
 have := List.pairwise_iff_getElem.1 ha i j (by omega) hj hi
 rw [ej, ei]
 omega
theorem whole_eq {l : List Sz} {m : List Hd} {li : List Int} (hp : pkOk li l.length = true) : orS (fitL l m) li li.length = 2 ^ m.length - 1 ↔ cvsB l m li = true := by
 have P := pkOk_iff.1 hp
 unfold cvsB
 rw [decide_eq_true_eq]
 constructor
 ·intro e k hk
  have b : (orS (fitL l m) li li.length).testBit k = true := by rw [e, Nat.testBit_two_pow_sub_one]; exact decide_eq_true hk
  obtain ⟨j, hj, q⟩ := orS_bit.1 b
  have p := (P j hj).1
  rw [fitL_get (by omega)] at q
  exact anyZ_at.2 ⟨j, hj, (fitS_bit.1 q).2⟩
 ·intro h
  refine Nat.eq_of_testBit_eq fun i => ?_
  rw [Nat.testBit_two_pow_sub_one]
  by_cases hi : i < m.length
  ·rw [decide_eq_true hi]
   obtain ⟨j, hj, q⟩ := anyZ_at.1 (h i hi)
   have p := (P j hj).1
   refine orS_bit.2 ⟨j, hj, ?_⟩
   rw [fitL_get (by omega)]
   exact fitS_bit.2 ⟨hi, q⟩
  ·rw [decide_eq_false hi]
   exact Nat.testBit_lt_two_pow (Nat.lt_of_lt_of_le (orS_lt (m := m) hp (Nat.le_refl _)) (Nat.pow_le_pow_right (by omega) (by omega)))
def cvrR (l : List Sz) (m : List Hd) : List Int × Int := if chk l m ≠ 0 then ([], chk l m) else if 12 < l.length then ([], 4) else if (cvN (cvsB l m) (2 ^ l.length)).1 = true then ((cvN (cvsB l m) (2 ^ l.length)).2, 0) else ([], 32)
theorem cvN_len (p : List Int → Bool) : ∀ k, (cvN p k).2.length ≤ 64
 | 0 => Nat.zero_le _
 | k + 1 => by
   rw [cvN]; unfold cvF
   split
   ·exact bts_len k
   ·exact cvN_len p k
theorem RG18 : (type_of% @c18r0.eq_1) ∧ (type_of% @c18r1.eq_1) ∧ (type_of% @c18r2.eq_1) ∧ (type_of% @c18r3.eq_1) ∧ (type_of% @c18r4.eq_1) ∧ (type_of% @c18r5.eq_1) ∧ (type_of% @c18r6.eq_1) ∧ (type_of% @c18r7.eq_1) ∧ (type_of% @c18r8.eq_1) ∧ (type_of% @c18r9.eq_1) ∧ (type_of% @c18r10.eq_1) ∧ (type_of% @c18r11.eq_1) ∧ (type_of% @c18r12.eq_1) ∧ (type_of% @c18r13.eq_1) ∧ (type_of% @c18r14.eq_1) ∧ (type_of% @c18r15.eq_1) ∧ (type_of% @c18r16.eq_1) ∧ (type_of% @c18r17.eq_1) ∧ (type_of% @c18r18.eq_1) ∧ (type_of% @c18r19.eq_1) ∧ (type_of% @c18r21.eq_1) ∧ (type_of% @c18r22.eq_1) ∧ (type_of% @c18r23.eq_1) ∧ (type_of% @c18r25.eq_1) ∧ (type_of% @c18r26.eq_1) ∧ (type_of% @c18r27.eq_1) := ⟨@c18r0.eq_1, @c18r1.eq_1, @c18r2.eq_1, @c18r3.eq_1, @c18r4.eq_1, @c18r5.eq_1, @c18r6.eq_1, @c18r7.eq_1, @c18r8.eq_1, @c18r9.eq_1, @c18r10.eq_1, @c18r11.eq_1, @c18r12.eq_1, @c18r13.eq_1, @c18r14.eq_1, @c18r15.eq_1, @c18r16.eq_1, @c18r17.eq_1, @c18r18.eq_1, @c18r19.eq_1, @c18r21.eq_1, @c18r22.eq_1, @c18r23.eq_1, @c18r25.eq_1, @c18r26.eq_1, @c18r27.eq_1⟩
set_option maxHeartbeats 2000000 in
theorem d18 (l : List Sz) (m : List Hd) (hl : l.length ≤ 9223372036854775807) (hm : m.length ≤ 9223372036854775807) : PC Tryd.prog 18 [vZ l, vH m] (.tu [vi (cvrR l m).1, .i .i64 (cvrR l m).2]) := by
 have q1 := pc41 l m hl hm
 unfold cvrR
 refine pc_fn fn18 (by simp only [AV.plains, AV.plain, il_plain, bl_plain, Bool.and_true, Bool.true_and, Bool.and_self, fleZ_plain, fleH_plain, il_plain]) (by simp only [AV.plains, AV.plain, il_plain, bl_plain, Bool.and_true, Bool.true_and, Bool.and_self, fleZ_plain, fleH_plain, il_plain]) (Nat.le_of_ble_eq_true rfl) ?_
 rw [initSt2]
 by_cases c : chk l m = 0
 ·rw [if_neg (by simp [c])]
  rw [c] at q1
  by_cases c12 : 12 < l.length
  ·rw [if_pos c12]
   have c12' := eq_true (show (12 : Int) < l.length by omega)
   repeat' first | (with_reducible first | refine k_seq ?_ | refine k_skip ?_ | refine k_blkS ?_ | refine k_blkR ?_ | refine k_blkC ?_ | refine k_blkH ?_ | refine k_blkB ?_ | refine k_blkK ?_ | refine k_blkE ?_ | refine k_reg ?_) | with_reducible refine r_done ?_ | with_reducible refine s_go (by simp (disch := omega) only [c12', RG18, EVA, plug, eq_self, simprocAttr]; with_reducible rfl) ?_ | ((with_reducible refine chk_r ?_); refine r_callF (by simp only [CA, simprocAttr]; rfl) (by exact rfl) (by simp only [CA, simprocAttr]; rfl) rfl ?_) | ((with_reducible refine chk_r ?_); refine r_callP (by simp only [CA, simprocAttr]; rfl) (by simp only [CA, simprocAttr]; rfl) (by first | exact q1 _) rfl ?_) | ((with_reducible refine chk_r ?_); refine r_callG (by simp only [CA, simprocAttr]; rfl) (by simp only [CA, simprocAttr]; rfl) (by simp only [CA, simprocAttr]; rfl) (by intro hg; (try simp only [BO] at hg); first | exact q1 _) rfl ?_) | (with_reducible refine k_condP (by simp only [GA, simprocAttr]; rfl) (by first | (simp only [BO]; rfl) | rfl) (fun ht => ?_) (fun ht => ?_) <;> try (first | exact False.elim ht | exact absurd rfl ht | exact absurd trivial ht | exact Bool.noConfusion ht)) | (with_reducible refine k_ret ?_; repeat with_reducible (first | refine ret_thru ?_ | refine ret_blk ?_ | refine fin ?_)) | (with_reducible refine k_exit ?_; repeat with_reducible (first | refine thru ?_ | refine out_blk ?_ | refine pass (by decide) ?_)) | ((first | refine post1 ?_ | refine post2 ?_ | refine post3 ?_); simp only [GA, simprocAttr]) | refine post0 ?_
   exact ends_nil2
  ·rw [if_neg c12]
   have c12' := eq_false (show ¬ (12 : Int) < l.length by omega)
   have q3 := pc48 l m (chk_ok c).1 (chk_ok c).2
   have M := (hdsOk_iff.1 (chk_ok c).2).1
   have sh1 := shl_64 (k := m.length) (by omega)
   have p1 : 0 < 2 ^ m.length := Nat.two_pow_pos _
   have p2 : 2 ^ m.length ≤ 2 ^ 40 := Nat.pow_le_pow_right (by omega) M
   have w1 : IntKind.u64.wrap (((2 ^ m.length : Nat) : Int) - 1) = ((2 ^ m.length - 1 : Nat) : Int) := by rw [wrapU]; omega
   have p3 : 2 ^ l.length ≤ 2 ^ 12 := Nat.pow_le_pow_right (by omega) (by omega)
   have sh2 : IntKind.i64.wrap (1 * 2 ^ (min l.length IntKind.i64.bits)) = ((2 ^ l.length : Nat) : Int) := by
    have e : min l.length IntKind.i64.bits = l.length := Nat.min_eq_left (by show l.length ≤ 64; omega)
    rw [e, Int.one_mul]
    have w : ∀ N : Nat, N ≤ 4096 → IntKind.i64.wrap (N : Int) = N := fun N h => wrap64 (by omega) (by omega)
    have := w _ (show 2 ^ l.length ≤ 4096 from p3)
    rw [Int.natCast_pow] at this ⊢
    exact this
   have WE := fun {li : List Int} (hp : pkOk li l.length = true) => whole_eq (m := m) hp
   repeat' first | (with_reducible first | refine k_seq ?_ | refine k_skip ?_ | refine k_blkS ?_ | refine k_blkR ?_ | refine k_blkC ?_ | refine k_blkH ?_ | refine k_blkB ?_ | refine k_blkK ?_ | refine k_blkE ?_ | refine k_reg ?_) | with_reducible refine r_done ?_ | with_reducible refine s_go (by simp (disch := omega) only [c12', sh1, w1, sh2, RG18, EVA, plug, eq_self, simprocAttr]; with_reducible rfl) ?_ | ((with_reducible refine chk_r ?_); refine r_callF (by simp only [CA, simprocAttr]; rfl) (by exact rfl) (by simp only [CA, simprocAttr]; rfl) rfl ?_) | ((with_reducible refine chk_r ?_); refine r_callP (by simp only [CA, simprocAttr]; rfl) (by simp only [CA, simprocAttr]; rfl) (by first | exact q1 _ | exact q3 _) rfl ?_) | ((with_reducible refine chk_r ?_); refine r_callG (by simp only [CA, simprocAttr]; rfl) (by simp only [CA, simprocAttr]; rfl) (by simp only [CA, simprocAttr]; rfl) (by intro hg; (try simp only [BO] at hg); first | exact q1 _ | exact q3 _) rfl ?_) | (with_reducible refine k_condP (by simp only [GA, simprocAttr]; rfl) (by first | (simp only [BO]; rfl) | rfl) (fun ht => ?_) (fun ht => ?_) <;> try (first | exact False.elim ht | exact absurd rfl ht | exact absurd trivial ht | exact Bool.noConfusion ht)) | (with_reducible refine k_ret ?_; repeat with_reducible (first | refine ret_thru ?_ | refine ret_blk ?_ | refine fin ?_)) | (with_reducible refine k_exit ?_; repeat with_reducible (first | refine thru ?_ | refine out_blk ?_ | refine pass (by decide) ?_)) | ((first | refine post1 ?_ | refine post2 ?_ | refine post3 ?_); simp only [GA, simprocAttr]) | refine post0 ?_
   refine w_nilS 9 rfl ?_
   generalize hW : 2 ^ m.length - 1 = wh at *
   refine k_blk (k_loopS (X := Unit) [7, 8, 9, 10, 34, 35] (2 ^ l.length) (fun k _ => [(7, .vs l.length (nu (fitL l m))), (8, .i .u64 (wh : Int)), (9, vi (cvN (cvsB l m) k).2), (10, .b (cvN (cvsB l m) k).1), (34, .i .i64 ((2 ^ l.length : Nat) : Int)), (35, .i .i64 (k : Int))]) (fun k _ h => True) () (by simp only [Am.keep, List.map_cons, List.map_nil, GA, simprocAttr]; try rfl) trivial ?_)
   rintro k _ h hk - ok pos
   by_cases klt : k < 2 ^ l.length
   ·have klt' : (k : Int) < ((2 ^ l.length : Nat) : Int) := by omega
    have cv : IntKind.u64.wrap (k : Int) = k := wrapN (by omega)
    have s64 : k < 2 ^ 64 := by omega
    have la := asc_bts k
    have lb := bts_in klt
    have ll := bts_len k
    have bl := cvN_len (cvsB l m) k
    have eT : cvsB l m (bts k) = true → ((cvN (cvsB l m) k).1 = false ∨ bet (bts k) (cvN (cvsB l m) k).2) → cvN (cvsB l m) (k + 1) = (true, bts k) := fun h1 h2 => if_pos ⟨h1, h2⟩
    have eF : (cvsB l m (bts k) = true → ¬ ((cvN (cvsB l m) k).1 = false ∨ bet (bts k) (cvN (cvsB l m) k).2)) → cvN (cvsB l m) (k + 1) = cvN (cvsB l m) k := fun h => if_neg fun q => h q.1 q.2
    have eB : ∀ a b : List Int, bet a b ↔ a.length < b.length ∨ a.length = b.length ∧ cmpL a b < 0 := fun a b => Iff.rfl
    rw [eB] at eT eF
    repeat' first | (with_reducible first | refine k_seq ?_ | refine k_skip ?_ | refine k_blkS ?_ | refine k_blkR ?_ | refine k_blkC ?_ | refine k_blkH ?_ | refine k_blkB ?_ | refine k_blkK ?_ | refine k_blkE ?_ | refine k_reg ?_) | with_reducible refine r_done ?_ | with_reducible refine s_go (by simp (disch := omega) only [klt', cv, RG18, EVA, plug, eq_self, simprocAttr]; with_reducible rfl) ?_ | ((with_reducible refine chk_r ?_); refine r_callF (by simp only [CA, simprocAttr]; rfl) (by exact rfl) (by simp only [CA, simprocAttr]; rfl) rfl ?_) | ((with_reducible refine chk_r ?_); refine r_callX (by simp only [CA, simprocAttr]; rfl) (by simp only [CA, simprocAttr]; rfl) (by first | exact a43 _ _) rfl ?_) | ((with_reducible refine chk_r ?_); refine r_callTX (by first | (simp only [CA, simprocAttr]; rfl) | simp only [CA, simprocAttr]) (by simp only [CA, simprocAttr]; rfl) (by simp only [CA, simprocAttr]; rfl) (by first | exact a43 _ _) rfl ?_) | (with_reducible refine k_condP (by simp only [GA, simprocAttr]; rfl) (by first | (simp only [BO]; rfl) | rfl) (fun ht => ?_) (fun ht => ?_) <;> try (first | exact False.elim ht | exact absurd rfl ht | exact absurd trivial ht | exact Bool.noConfusion ht)) | (with_reducible refine k_ret ?_; repeat with_reducible (first | refine ret_thru ?_ | refine ret_blk ?_ | refine fin ?_)) | (with_reducible refine k_exit ?_; repeat with_reducible (first | refine thru ?_ | refine out_blk ?_ | refine pass (by decide) ?_)) | ((first | refine post1 ?_ | refine post2 ?_ | refine post3 ?_); simp only [GA, simprocAttr]) | refine post0 ?_
    rintro r h2 ⟨t, rfl, t1, t2, t3, t4⟩
    repeat' first | (with_reducible first | refine k_seq ?_ | refine k_skip ?_ | refine k_blkS ?_ | refine k_blkR ?_ | refine k_blkC ?_ | refine k_blkH ?_ | refine k_blkB ?_ | refine k_blkK ?_ | refine k_blkE ?_ | refine k_reg ?_) | with_reducible refine r_done ?_ | with_reducible refine s_go (by simp (disch := omega) only [RG18, EVA, plug, eq_self, simprocAttr]; with_reducible rfl) ?_ | ((with_reducible refine chk_r ?_); refine r_callF (by simp only [CA, simprocAttr]; rfl) (by exact rfl) (by simp only [CA, simprocAttr]; rfl) rfl ?_) | ((with_reducible refine chk_r ?_); refine r_callX (by simp only [CA, simprocAttr]; rfl) (by simp only [CA, simprocAttr]; rfl) (by first | exact n42 t k s64 _ (by simp (disch := omega) only [t2, RG18, EVA, plug, eq_self, simprocAttr])) rfl ?_) | ((with_reducible refine chk_r ?_); refine r_callTX (by first | (simp only [CA, simprocAttr]; rfl) | simp only [CA, simprocAttr]) (by simp only [CA, simprocAttr]; rfl) (by simp only [CA, simprocAttr]; rfl) (by first | exact n42 t k s64 _ (by simp (disch := omega) only [t2, RG18, EVA, plug, eq_self, simprocAttr])) rfl ?_) | (with_reducible refine k_condP (by simp only [GA, simprocAttr]; rfl) (by first | (simp only [BO]; rfl) | rfl) (fun ht => ?_) (fun ht => ?_) <;> try (first | exact False.elim ht | exact absurd rfl ht | exact absurd trivial ht | exact Bool.noConfusion ht)) | (with_reducible refine k_ret ?_; repeat with_reducible (first | refine ret_thru ?_ | refine ret_blk ?_ | refine fin ?_)) | (with_reducible refine k_exit ?_; repeat with_reducible (first | refine thru ?_ | refine out_blk ?_ | refine pass (by decide) ?_)) | ((first | refine post1 ?_ | refine post2 ?_ | refine post3 ?_); simp only [GA, simprocAttr]) | refine post0 ?_
    rintro r h3 ⟨rfl, U⟩
    have hp := pk_of_asc la lb
    have P := pkOk_iff.1 hp
    have we := WE hp
    generalize bts k = li at *
    have pr : cvN (cvsB l m) k = ((cvN (cvsB l m) k).1, (cvN (cvsB l m) k).2) := rfl
    generalize hF : (cvN (cvsB l m) k).1 = F at *
    generalize hB : (cvN (cvsB l m) k).2 = B at *
    repeat' first | (with_reducible first | refine k_seq ?_ | refine k_skip ?_ | refine k_blkS ?_ | refine k_blkR ?_ | refine k_blkC ?_ | refine k_blkH ?_ | refine k_blkB ?_ | refine k_blkK ?_ | refine k_blkE ?_ | refine k_reg ?_) | with_reducible refine r_done ?_ | with_reducible refine s_go (by simp (disch := omega) only [RG18, EVA, plug, eq_self, simprocAttr]; with_reducible rfl) ?_ | ((with_reducible refine chk_r ?_); refine r_callF (by simp only [CA, simprocAttr]; rfl) (by exact rfl) (by simp only [CA, simprocAttr]; rfl) rfl ?_) | (with_reducible refine k_condP (by simp only [GA, simprocAttr]; rfl) (by first | (simp only [BO]; rfl) | rfl) (fun ht => ?_) (fun ht => ?_) <;> try (first | exact False.elim ht | exact absurd rfl ht | exact absurd trivial ht | exact Bool.noConfusion ht)) | (with_reducible refine k_ret ?_; repeat with_reducible (first | refine ret_thru ?_ | refine ret_blk ?_ | refine fin ?_)) | (with_reducible refine k_exit ?_; repeat with_reducible (first | refine thru ?_ | refine out_blk ?_ | refine pass (by decide) ?_)) | ((first | refine post1 ?_ | refine post2 ?_ | refine post3 ?_); simp only [GA, simprocAttr]) | refine post0 ?_
    refine k_blk (k_loopS (X := Unit) [7, 8, 9, 10, 12, 13, 34, 35, 42, 43, 44] li.length (fun j _ => [(7, .vs l.length (nu (fitL l m))), (8, .i .u64 (wh : Int)), (9, vi B), (10, .b F), (12, .i .u64 ((orS (fitL l m) li j : Nat) : Int)), (13, vi li), (34, .i .i64 ((2 ^ l.length : Nat) : Int)), (35, .i .i64 (k : Int)), (42, vi li), (43, .i .i64 li.length), (44, .i .i64 (j : Int))]) (fun j _ h => True) () (by simp only [Am.keep, List.map_cons, List.map_nil, GA, simprocAttr]; try rfl) trivial ?_)
    rintro j _ h' hj - ok' pos'
    have lk := lt_64 (orS_lt (m := m) hp hj) M
    by_cases jlt : j < li.length
    ·have jlt' : (j : Int) < li.length := by omega
     have g : (il li)[j]? = some (.i .i64 (lN li j)) := il_get jlt
     have pk := (P j jlt).1
     obtain ⟨a, ha⟩ : ∃ a : Nat, lN li j = (a : Int) := ⟨(lN li j).toNat, by omega⟩
     have e1 : orS (fitL l m) li (j + 1) = orS (fitL l m) li j ||| fitS m (zD l a) := by
      rw [orS, ha, Int.toNat_natCast, fitL_get (by omega)]
     rw [ha] at g pk
     have al : (a : Int) < l.length := pk.2
     have g2 := nu_get (l := fitL l m) (j := a) (by simp [fitL]; omega)
     rw [fitL_get (by omega)] at g2
     have o1 := or_64 lk (lt_64 (fitS_lt (m := m) (s := zD l a)) M)
     rw [← e1] at o1
     repeat' first | (with_reducible first | refine k_seq ?_ | refine k_skip ?_ | refine k_blkS ?_ | refine k_blkR ?_ | refine k_blkC ?_ | refine k_blkH ?_ | refine k_blkB ?_ | refine k_blkK ?_ | refine k_blkE ?_ | refine k_reg ?_) | with_reducible refine r_done ?_ | with_reducible refine s_go (by simp (disch := omega) only [jlt', g, al, g2, o1, RG18, EVA, plug, eq_self, simprocAttr]; with_reducible rfl) ?_ | ((with_reducible refine chk_r ?_); refine r_callF (by simp only [CA, simprocAttr]; rfl) (by exact rfl) (by simp only [CA, simprocAttr]; rfl) rfl ?_) | (with_reducible refine k_condP (by simp only [GA, simprocAttr]; rfl) (by first | (simp only [BO]; rfl) | rfl) (fun ht => ?_) (fun ht => ?_) <;> try (first | exact False.elim ht | exact absurd rfl ht | exact absurd trivial ht | exact Bool.noConfusion ht)) | (with_reducible refine k_ret ?_; repeat with_reducible (first | refine ret_thru ?_ | refine ret_blk ?_ | refine fin ?_)) | (with_reducible refine k_exit ?_; repeat with_reducible (first | refine thru ?_ | refine out_blk ?_ | refine pass (by decide) ?_)) | ((first | refine post1 ?_ | refine post2 ?_ | refine post3 ?_); simp only [GA, simprocAttr]) | refine post0 ?_
     exact ⟨jlt, (), (by simp only [Am.keep, List.map_cons, List.map_nil, GA, simprocAttr]; try rfl), trivial⟩
    ·obtain rfl : j = li.length := by omega
     have jlt' : ¬ (li.length : Int) < li.length := by omega
     have q50 := d50 li B (by omega) (by omega)
     generalize orS (fitL l m) li li.length = o at *
     by_cases w : o = wh
     ·have w' := eq_true (show (o : Int) = wh by omega)
      have cv1 := we.1 w
      cases F with
      | false =>
        have es := eT cv1 (.inl rfl)
        repeat' first | (with_reducible first | refine k_seq ?_ | refine k_skip ?_ | refine k_blkS ?_ | refine k_blkR ?_ | refine k_blkC ?_ | refine k_blkH ?_ | refine k_blkB ?_ | refine k_blkK ?_ | refine k_blkE ?_ | refine k_reg ?_) | with_reducible refine r_done ?_ | with_reducible refine s_go (by simp (disch := omega) only [jlt', w', RG18, EVA, plug, eq_self, simprocAttr]; with_reducible rfl) ?_ | ((with_reducible refine chk_r ?_); refine r_callF (by simp only [CA, simprocAttr]; rfl) (by exact rfl) (by simp only [CA, simprocAttr]; rfl) rfl ?_) | ((with_reducible refine chk_r ?_); refine r_callP (by simp only [CA, simprocAttr]; rfl) (by simp only [CA, simprocAttr]; rfl) (by first | exact q50 _) rfl ?_) | ((with_reducible refine chk_r ?_); refine r_callG (by simp only [CA, simprocAttr]; rfl) (by simp only [CA, simprocAttr]; rfl) (by simp only [CA, simprocAttr]; rfl) (by intro hg; (try simp only [BO] at hg); first | exact q50 _) rfl ?_) | (with_reducible refine k_condP (by simp only [GA, simprocAttr]; rfl) (by first | (simp only [BO]; rfl) | rfl) (fun ht => ?_) (fun ht => ?_) <;> try (first | exact False.elim ht | exact absurd rfl ht | exact absurd trivial ht | exact Bool.noConfusion ht)) | (with_reducible refine k_ret ?_; repeat with_reducible (first | refine ret_thru ?_ | refine ret_blk ?_ | refine fin ?_)) | (with_reducible refine k_exit ?_; repeat with_reducible (first | refine thru ?_ | refine out_blk ?_ | refine pass (by decide) ?_)) | ((first | refine post1 ?_ | refine post2 ?_ | refine post3 ?_); simp only [GA, simprocAttr]) | refine post0 ?_
        exact ⟨klt, (), (by rw [es]; exact (by simp only [Am.keep, List.map_cons, List.map_nil, GA, simprocAttr]; try rfl)), trivial⟩
      | true =>
        by_cases c1 : li.length < B.length
        ·have c1' := eq_true (show (li.length : Int) < B.length by omega)
         have es := eT cv1 (.inr (.inl c1))
         repeat' first | (with_reducible first | refine k_seq ?_ | refine k_skip ?_ | refine k_blkS ?_ | refine k_blkR ?_ | refine k_blkC ?_ | refine k_blkH ?_ | refine k_blkB ?_ | refine k_blkK ?_ | refine k_blkE ?_ | refine k_reg ?_) | with_reducible refine r_done ?_ | with_reducible refine s_go (by simp (disch := omega) only [jlt', w', c1', RG18, EVA, plug, eq_self, simprocAttr]; with_reducible rfl) ?_ | ((with_reducible refine chk_r ?_); refine r_callF (by simp only [CA, simprocAttr]; rfl) (by exact rfl) (by simp only [CA, simprocAttr]; rfl) rfl ?_) | ((with_reducible refine chk_r ?_); refine r_callP (by simp only [CA, simprocAttr]; rfl) (by simp only [CA, simprocAttr]; rfl) (by first | exact q50 _) rfl ?_) | ((with_reducible refine chk_r ?_); refine r_callG (by simp only [CA, simprocAttr]; rfl) (by simp only [CA, simprocAttr]; rfl) (by simp only [CA, simprocAttr]; rfl) (by intro hg; (try simp only [BO] at hg); first | exact q50 _) rfl ?_) | (with_reducible refine k_condP (by simp only [GA, simprocAttr]; rfl) (by first | (simp only [BO]; rfl) | rfl) (fun ht => ?_) (fun ht => ?_) <;> try (first | exact False.elim ht | exact absurd rfl ht | exact absurd trivial ht | exact Bool.noConfusion ht)) | (with_reducible refine k_ret ?_; repeat with_reducible (first | refine ret_thru ?_ | refine ret_blk ?_ | refine fin ?_)) | (with_reducible refine k_exit ?_; repeat with_reducible (first | refine thru ?_ | refine out_blk ?_ | refine pass (by decide) ?_)) | ((first | refine post1 ?_ | refine post2 ?_ | refine post3 ?_); simp only [GA, simprocAttr]) | refine post0 ?_
         exact ⟨klt, (), (by rw [es]; exact (by simp only [Am.keep, List.map_cons, List.map_nil, GA, simprocAttr]; try rfl)), trivial⟩
        ·have c1' := eq_false (show ¬ (li.length : Int) < B.length by omega)
         by_cases c2 : li.length = B.length
         ·have c2' := eq_true (show (li.length : Int) = B.length by omega)
          by_cases c3 : cmpL li B < 0
          ·have c3' := eq_true c3
           have es := eT cv1 (.inr (.inr ⟨c2, c3⟩))
           repeat' first | (with_reducible first | refine k_seq ?_ | refine k_skip ?_ | refine k_blkS ?_ | refine k_blkR ?_ | refine k_blkC ?_ | refine k_blkH ?_ | refine k_blkB ?_ | refine k_blkK ?_ | refine k_blkE ?_ | refine k_reg ?_) | with_reducible refine r_done ?_ | with_reducible refine s_go (by simp (disch := omega) only [jlt', w', c1', c2', c3', RG18, EVA, plug, eq_self, simprocAttr]; with_reducible rfl) ?_ | ((with_reducible refine chk_r ?_); refine r_callF (by simp only [CA, simprocAttr]; rfl) (by exact rfl) (by simp only [CA, simprocAttr]; rfl) rfl ?_) | ((with_reducible refine chk_r ?_); refine r_callP (by simp only [CA, simprocAttr]; rfl) (by simp only [CA, simprocAttr]; rfl) (by first | exact q50 _) rfl ?_) | ((with_reducible refine chk_r ?_); refine r_callG (by simp only [CA, simprocAttr]; rfl) (by simp only [CA, simprocAttr]; rfl) (by simp only [CA, simprocAttr]; rfl) (by intro hg; (try simp only [BO] at hg); first | exact q50 _) rfl ?_) | (with_reducible refine k_condP (by simp only [GA, simprocAttr]; rfl) (by first | (simp only [BO]; rfl) | rfl) (fun ht => ?_) (fun ht => ?_) <;> try (first | exact False.elim ht | exact absurd rfl ht | exact absurd trivial ht | exact Bool.noConfusion ht)) | (with_reducible refine k_ret ?_; repeat with_reducible (first | refine ret_thru ?_ | refine ret_blk ?_ | refine fin ?_)) | (with_reducible refine k_exit ?_; repeat with_reducible (first | refine thru ?_ | refine out_blk ?_ | refine pass (by decide) ?_)) | ((first | refine post1 ?_ | refine post2 ?_ | refine post3 ?_); simp only [GA, simprocAttr]) | refine post0 ?_
           exact ⟨klt, (), (by rw [es]; exact (by simp only [Am.keep, List.map_cons, List.map_nil, GA, simprocAttr]; try rfl)), trivial⟩
          ·have c3' := eq_false c3
           have es := eF fun _ => by simp [c1, c3]
           repeat' first | (with_reducible first | refine k_seq ?_ | refine k_skip ?_ | refine k_blkS ?_ | refine k_blkR ?_ | refine k_blkC ?_ | refine k_blkH ?_ | refine k_blkB ?_ | refine k_blkK ?_ | refine k_blkE ?_ | refine k_reg ?_) | with_reducible refine r_done ?_ | with_reducible refine s_go (by simp (disch := omega) only [jlt', w', c1', c2', c3', RG18, EVA, plug, eq_self, simprocAttr]; with_reducible rfl) ?_ | ((with_reducible refine chk_r ?_); refine r_callF (by simp only [CA, simprocAttr]; rfl) (by exact rfl) (by simp only [CA, simprocAttr]; rfl) rfl ?_) | ((with_reducible refine chk_r ?_); refine r_callP (by simp only [CA, simprocAttr]; rfl) (by simp only [CA, simprocAttr]; rfl) (by first | exact q50 _) rfl ?_) | ((with_reducible refine chk_r ?_); refine r_callG (by simp only [CA, simprocAttr]; rfl) (by simp only [CA, simprocAttr]; rfl) (by simp only [CA, simprocAttr]; rfl) (by intro hg; (try simp only [BO] at hg); first | exact q50 _) rfl ?_) | (with_reducible refine k_condP (by simp only [GA, simprocAttr]; rfl) (by first | (simp only [BO]; rfl) | rfl) (fun ht => ?_) (fun ht => ?_) <;> try (first | exact False.elim ht | exact absurd rfl ht | exact absurd trivial ht | exact Bool.noConfusion ht)) | (with_reducible refine k_ret ?_; repeat with_reducible (first | refine ret_thru ?_ | refine ret_blk ?_ | refine fin ?_)) | (with_reducible refine k_exit ?_; repeat with_reducible (first | refine thru ?_ | refine out_blk ?_ | refine pass (by decide) ?_)) | ((first | refine post1 ?_ | refine post2 ?_ | refine post3 ?_); simp only [GA, simprocAttr]) | refine post0 ?_
           exact ⟨klt, (), (by rw [es, pr]; exact (by simp only [Am.keep, List.map_cons, List.map_nil, GA, simprocAttr]; try rfl)), trivial⟩
         ·have c2' := eq_false (show ¬ (li.length : Int) = B.length by omega)
          have es := eF fun _ => by simp [c1, c2]
          repeat' first | (with_reducible first | refine k_seq ?_ | refine k_skip ?_ | refine k_blkS ?_ | refine k_blkR ?_ | refine k_blkC ?_ | refine k_blkH ?_ | refine k_blkB ?_ | refine k_blkK ?_ | refine k_blkE ?_ | refine k_reg ?_) | with_reducible refine r_done ?_ | with_reducible refine s_go (by simp (disch := omega) only [jlt', w', c1', c2', RG18, EVA, plug, eq_self, simprocAttr]; with_reducible rfl) ?_ | ((with_reducible refine chk_r ?_); refine r_callF (by simp only [CA, simprocAttr]; rfl) (by exact rfl) (by simp only [CA, simprocAttr]; rfl) rfl ?_) | ((with_reducible refine chk_r ?_); refine r_callP (by simp only [CA, simprocAttr]; rfl) (by simp only [CA, simprocAttr]; rfl) (by first | exact q50 _) rfl ?_) | ((with_reducible refine chk_r ?_); refine r_callG (by simp only [CA, simprocAttr]; rfl) (by simp only [CA, simprocAttr]; rfl) (by simp only [CA, simprocAttr]; rfl) (by intro hg; (try simp only [BO] at hg); first | exact q50 _) rfl ?_) | (with_reducible refine k_condP (by simp only [GA, simprocAttr]; rfl) (by first | (simp only [BO]; rfl) | rfl) (fun ht => ?_) (fun ht => ?_) <;> try (first | exact False.elim ht | exact absurd rfl ht | exact absurd trivial ht | exact Bool.noConfusion ht)) | (with_reducible refine k_ret ?_; repeat with_reducible (first | refine ret_thru ?_ | refine ret_blk ?_ | refine fin ?_)) | (with_reducible refine k_exit ?_; repeat with_reducible (first | refine thru ?_ | refine out_blk ?_ | refine pass (by decide) ?_)) | ((first | refine post1 ?_ | refine post2 ?_ | refine post3 ?_); simp only [GA, simprocAttr]) | refine post0 ?_
          exact ⟨klt, (), (by rw [es, pr]; exact (by simp only [Am.keep, List.map_cons, List.map_nil, GA, simprocAttr]; try rfl)), trivial⟩
     ·have w' := eq_false (show ¬ (o : Int) = wh by omega)
      have es := eF fun q => absurd (we.2 q) w
      repeat' first | (with_reducible first | refine k_seq ?_ | refine k_skip ?_ | refine k_blkS ?_ | refine k_blkR ?_ | refine k_blkC ?_ | refine k_blkH ?_ | refine k_blkB ?_ | refine k_blkK ?_ | refine k_blkE ?_ | refine k_reg ?_) | with_reducible refine r_done ?_ | with_reducible refine s_go (by simp (disch := omega) only [jlt', w', RG18, EVA, plug, eq_self, simprocAttr]; with_reducible rfl) ?_ | ((with_reducible refine chk_r ?_); refine r_callF (by simp only [CA, simprocAttr]; rfl) (by exact rfl) (by simp only [CA, simprocAttr]; rfl) rfl ?_) | ((with_reducible refine chk_r ?_); refine r_callP (by simp only [CA, simprocAttr]; rfl) (by simp only [CA, simprocAttr]; rfl) (by first | exact q50 _) rfl ?_) | ((with_reducible refine chk_r ?_); refine r_callG (by simp only [CA, simprocAttr]; rfl) (by simp only [CA, simprocAttr]; rfl) (by simp only [CA, simprocAttr]; rfl) (by intro hg; (try simp only [BO] at hg); first | exact q50 _) rfl ?_) | (with_reducible refine k_condP (by simp only [GA, simprocAttr]; rfl) (by first | (simp only [BO]; rfl) | rfl) (fun ht => ?_) (fun ht => ?_) <;> try (first | exact False.elim ht | exact absurd rfl ht | exact absurd trivial ht | exact Bool.noConfusion ht)) | (with_reducible refine k_ret ?_; repeat with_reducible (first | refine ret_thru ?_ | refine ret_blk ?_ | refine fin ?_)) | (with_reducible refine k_exit ?_; repeat with_reducible (first | refine thru ?_ | refine out_blk ?_ | refine pass (by decide) ?_)) | ((first | refine post1 ?_ | refine post2 ?_ | refine post3 ?_); simp only [GA, simprocAttr]) | refine post0 ?_
      exact ⟨klt, (), (by rw [es, pr]; exact (by simp only [Am.keep, List.map_cons, List.map_nil, GA, simprocAttr]; try rfl)), trivial⟩
   ·obtain rfl : k = 2 ^ l.length := by omega
    have klt' : ¬ ((2 ^ l.length : Nat) : Int) < ((2 ^ l.length : Nat) : Int) := by omega
    cases d : (cvN (cvsB l m) (2 ^ l.length)).1 with
    | true =>
      rw [if_pos rfl]
      repeat' first | (with_reducible first | refine k_seq ?_ | refine k_skip ?_ | refine k_blkS ?_ | refine k_blkR ?_ | refine k_blkC ?_ | refine k_blkH ?_ | refine k_blkB ?_ | refine k_blkK ?_ | refine k_blkE ?_ | refine k_reg ?_) | with_reducible refine r_done ?_ | with_reducible refine s_go (by simp (disch := omega) only [klt', d, RG18, EVA, plug, eq_self, simprocAttr]; with_reducible rfl) ?_ | ((with_reducible refine chk_r ?_); refine r_callF (by simp only [CA, simprocAttr]; rfl) (by exact rfl) (by simp only [CA, simprocAttr]; rfl) rfl ?_) | (with_reducible refine k_condP (by simp only [GA, simprocAttr]; rfl) (by first | (simp only [BO]; rfl) | rfl) (fun ht => ?_) (fun ht => ?_) <;> try (first | exact False.elim ht | exact absurd rfl ht | exact absurd trivial ht | exact Bool.noConfusion ht)) | (with_reducible refine k_ret ?_; repeat with_reducible (first | refine ret_thru ?_ | refine ret_blk ?_ | refine fin ?_)) | (with_reducible refine k_exit ?_; repeat with_reducible (first | refine thru ?_ | refine out_blk ?_ | refine pass (by decide) ?_)) | ((first | refine post1 ?_ | refine post2 ?_ | refine post3 ?_); simp only [GA, simprocAttr]) | refine post0 ?_
      all_goals first | exact ends_of | exact ends_eq rfl
    | false =>
      rw [if_neg (by simp)]
      repeat' first | (with_reducible first | refine k_seq ?_ | refine k_skip ?_ | refine k_blkS ?_ | refine k_blkR ?_ | refine k_blkC ?_ | refine k_blkH ?_ | refine k_blkB ?_ | refine k_blkK ?_ | refine k_blkE ?_ | refine k_reg ?_) | with_reducible refine r_done ?_ | with_reducible refine s_go (by simp (disch := omega) only [klt', d, RG18, EVA, plug, eq_self, simprocAttr]; with_reducible rfl) ?_ | ((with_reducible refine chk_r ?_); refine r_callF (by simp only [CA, simprocAttr]; rfl) (by exact rfl) (by simp only [CA, simprocAttr]; rfl) rfl ?_) | (with_reducible refine k_condP (by simp only [GA, simprocAttr]; rfl) (by first | (simp only [BO]; rfl) | rfl) (fun ht => ?_) (fun ht => ?_) <;> try (first | exact False.elim ht | exact absurd rfl ht | exact absurd trivial ht | exact Bool.noConfusion ht)) | (with_reducible refine k_ret ?_; repeat with_reducible (first | refine ret_thru ?_ | refine ret_blk ?_ | refine fin ?_)) | (with_reducible refine k_exit ?_; repeat with_reducible (first | refine thru ?_ | refine out_blk ?_ | refine pass (by decide) ?_)) | ((first | refine post1 ?_ | refine post2 ?_ | refine post3 ?_); simp only [GA, simprocAttr]) | refine post0 ?_
      exact ends_nil2
 ·have c' := eq_false c
  rw [if_pos c]
  repeat' first | (with_reducible first | refine k_seq ?_ | refine k_skip ?_ | refine k_blkS ?_ | refine k_blkR ?_ | refine k_blkC ?_ | refine k_blkH ?_ | refine k_blkB ?_ | refine k_blkK ?_ | refine k_blkE ?_ | refine k_reg ?_) | with_reducible refine r_done ?_ | with_reducible refine s_go (by simp (disch := omega) only [c', RG18, EVA, plug, eq_self, simprocAttr]; with_reducible rfl) ?_ | ((with_reducible refine chk_r ?_); refine r_callF (by simp only [CA, simprocAttr]; rfl) (by exact rfl) (by simp only [CA, simprocAttr]; rfl) rfl ?_) | ((with_reducible refine chk_r ?_); refine r_callP (by simp only [CA, simprocAttr]; rfl) (by simp only [CA, simprocAttr]; rfl) (by first | exact q1 _) rfl ?_) | ((with_reducible refine chk_r ?_); refine r_callG (by simp only [CA, simprocAttr]; rfl) (by simp only [CA, simprocAttr]; rfl) (by simp only [CA, simprocAttr]; rfl) (by intro hg; (try simp only [BO] at hg); first | exact q1 _) rfl ?_) | (with_reducible refine k_condP (by simp only [GA, simprocAttr]; rfl) (by first | (simp only [BO]; rfl) | rfl) (fun ht => ?_) (fun ht => ?_) <;> try (first | exact False.elim ht | exact absurd rfl ht | exact absurd trivial ht | exact Bool.noConfusion ht)) | (with_reducible refine k_ret ?_; repeat with_reducible (first | refine ret_thru ?_ | refine ret_blk ?_ | refine fin ?_)) | (with_reducible refine k_exit ?_; repeat with_reducible (first | refine thru ?_ | refine out_blk ?_ | refine pass (by decide) ?_)) | ((first | refine post1 ?_ | refine post2 ?_ | refine post3 ?_); simp only [GA, simprocAttr]) | refine post0 ?_
  exact ends_nil2
end Go.Proofs.YtjaihaccehaicaaDoor
set_option linter.unusedVariables false
set_option linter.unusedSimpArgs false
namespace Go.Proofs.YtjaihaccehaicaaDoor
open Go Go.Am Go.Proofs
def an (x y : Nat) : Nat := x ^^^ (x &&& y)
theorem an_bit {x y i : Nat} : (an x y).testBit i = (x.testBit i && !y.testBit i) := by
 unfold an
 rw [Nat.testBit_xor, Nat.testBit_and]
 cases x.testBit i <;> cases y.testBit i <;> rfl
theorem an_lt {x y n : Nat} (h : x < 2 ^ n) : an x y < 2 ^ n := Nat.lt_pow_two_of_testBit _ fun i hi => by
 rw [an_bit, Nat.testBit_lt_two_pow (Nat.lt_of_lt_of_le h (Nat.pow_le_pow_right (by omega) hi))]; rfl
section
variable (l : List Sz) (m : List Hd)
def cnt (left i : Nat) : Nat := popA 64 (fitS m (zD l i) &&& left)
end
structure GI (l : List Sz) (m : List Hd) (left : Nat) (out : List Int) : Prop where
 lt : left < 2 ^ m.length
 bit : ∀ j, j < m.length → (left.testBit j = true ↔ cvdB l (hD m j) out = false)
 pk : pkOk out l.length = true
theorem cvd_iff {l : List Sz} {x : Hd} {li : List Int} : cvdB l x li = true ↔ ∃ i ∈ li, fitB (zD l i.toNat) x = true := anyZ_iff
theorem GI.start (l : List Sz) (m : List Hd) : GI l m (2 ^ m.length - 1) [] where
 lt := by have := Nat.two_pow_pos m.length; omega
 bit j hj := by
  rw [Nat.testBit_two_pow_sub_one, decide_eq_true hj]
  exact ⟨fun _ => by rw [Bool.eq_false_iff]; intro q; obtain ⟨i, hi, _⟩ := cvd_iff.1 q; simp at hi, fun _ => rfl⟩
 pk := pkOk_iff.2 fun j hj => by simp at hj
theorem GI.zero {l : List Sz} {m : List Hd} {left : Nat} {out : List Int} (h : GI l m left out) : cvsB l m out = true ↔ left = 0 := by
 unfold cvsB
 rw [decide_eq_true_eq]
 constructor
 ·intro c
  refine Nat.eq_of_testBit_eq fun i => ?_
  rw [Nat.zero_testBit]
  by_cases hi : i < m.length
  ·rw [Bool.eq_false_iff]
   intro q
   have := (h.bit i hi).1 q
   rw [c i hi] at this; cases this
  ·exact Nat.testBit_lt_two_pow (Nat.lt_of_lt_of_le h.lt (Nat.pow_le_pow_right (by omega) (by omega)))
 ·rintro rfl k hk
  cases q : cvdB l (hD m k) out with
  | true => rfl
  | false => have := (h.bit k hk).2 q; simp at this
theorem lN_snoc {out : List Int} {b : Int} {j : Nat} : lN (out ++ [b]) j = if j < out.length then lN out j else if j = out.length then b else 0 := by
 unfold lN
 rw [List.getD_eq_getElem?_getD, List.getD_eq_getElem?_getD, List.getElem?_append]
 split
 ·rfl
 ·split
  ·rename_i h; subst h; simp
  ·rw [List.getElem?_eq_none (by simp; omega)]; rfl
theorem GI.step {l : List Sz} {m : List Hd} {left : Nat} {out : List Int} (h : GI l m left out) {b : Nat} (hb : b < l.length) (hc : 0 < cnt l m left b) : GI l m (an left (fitS m (zD l b))) (out ++ [(b : Int)]) where
 lt := an_lt h.lt
 bit j hj := by
  rw [an_bit, Bool.and_eq_true, h.bit j hj, Bool.not_eq_true', ← Bool.not_eq_true (Nat.testBit _ _), fitS_bit]
  rw [← Bool.not_eq_true, ← Bool.not_eq_true, cvd_iff, cvd_iff]
  simp only [List.mem_append, List.mem_singleton]
  constructor
  ·rintro ⟨h1, h2⟩ ⟨i, hi | rfl, q⟩
   ·exact h1 ⟨i, hi, q⟩
   ·exact h2 ⟨hj, by rw [Int.toNat_natCast] at q; exact q⟩
  ·intro q
   exact ⟨fun ⟨i, hi, r⟩ => q ⟨i, .inl hi, r⟩, fun ⟨_, r⟩ => q ⟨b, .inr rfl, by rw [Int.toNat_natCast]; exact r⟩⟩
 pk := by
  have P := pkOk_iff.1 h.pk
  obtain ⟨j, hj, q⟩ := pop_one.1 hc
  rw [Nat.testBit_and, Bool.and_eq_true, fitS_bit] at q
  have nc := (h.bit j q.1.1).1 q.2
  rw [← Bool.not_eq_true, cvd_iff] at nc
  have ne : ∀ i, i < out.length → lN out i ≠ b := fun i hi e => nc ⟨lN out i, by
   unfold lN
   rw [List.getD_eq_getElem?_getD, List.getElem?_eq_getElem hi]; exact List.getElem_mem hi, by rw [e, Int.toNat_natCast]; exact q.1.2⟩
  rw [pkOk_iff]
  intro k hk
  rw [List.length_append, List.length_singleton] at hk
  rw [lN_snoc]
  by_cases e : k < out.length
  ·rw [if_pos e]
   refine ⟨(P k e).1, fun i hi => ?_⟩
   rw [lN_snoc, if_pos (by omega)]
   exact (P k e).2 i hi
  ·obtain rfl : k = out.length := by omega
   rw [if_neg e, if_pos rfl]
   refine ⟨by omega, fun i hi => ?_⟩
   rw [lN_snoc, if_pos hi]
   exact ne i hi
end Go.Proofs.YtjaihaccehaicaaDoor
set_option linter.unusedVariables false
set_option linter.unusedSimpArgs false
namespace Go.Proofs.YtjaihaccehaicaaDoor
open Go Go.Am Go.Proofs
theorem mem_lN {l : List Int} {x : Int} (h : x ∈ l) : ∃ j, j < l.length ∧ lN l j = x := by
 obtain ⟨j, hj, e⟩ := List.getElem_of_mem h
 refine ⟨j, hj, ?_⟩
 unfold lN
 rw [List.getD_eq_getElem?_getD, List.getElem?_eq_getElem hj]
 exact e
theorem pk_in {l : List Int} {n : Nat} (h : pkOk l n = true) : inB n l := fun x hx => by
 obtain ⟨j, hj, rfl⟩ := mem_lN hx
 exact ((pkOk_iff.1 h) j hj).1
theorem cvs_iff {l : List Sz} {m : List Hd} {li : List Int} : cvsB l m li = true ↔ ∀ k, k < m.length → ∃ i ∈ li, fitB (zD l i.toNat) (hD m k) = true := by
 unfold cvsB
 rw [decide_eq_true_eq]
 exact forall_congr' fun k => forall_congr' fun _ => cvd_iff
theorem cvs_asc {l : List Sz} {m : List Hd} {li : List Int} (hl : l.length ≤ 64) (hp : pkOk li l.length = true) (hc : cvsB l m li = true) : ∃ r, cand (cvsB l m) l.length r ∧ r.length ≤ li.length := by
 have b := pk_in hp
 have M : ∀ {x : Int}, x ∈ bts (shS li li.length) ↔ x ∈ li := fun {x} => bts_mem hl b
 refine ⟨bts (shS li li.length), ⟨asc_bts _, bts_in (shS_lt2 b), cvs_iff.2 fun k hk => ?_⟩, pig (R := fun s v => s = v) (asc_nodup (asc_bts _)) (fun v hv => ⟨v, M.1 hv, rfl⟩) fun s u v _ _ h1 h2 => h1.symm.trans h2⟩
 obtain ⟨i, hi, q⟩ := cvs_iff.1 hc k hk
 exact ⟨i, M.2 hi, q⟩
theorem cvr_ok {l : List Sz} {m : List Hd} (h : (cvrR l m).2 = 0) : chk l m = 0 ∧ l.length ≤ 12 ∧ Least (cvsB l m) l.length (cvrR l m).1 := by
 unfold cvrR at h ⊢
 by_cases c : chk l m = 0
 ·rw [if_neg (by simp [c])] at h ⊢
  by_cases c12 : 12 < l.length
  ·rw [if_pos c12] at h; cases h
  ·rw [if_neg c12] at h ⊢
   by_cases d : (cvN (cvsB l m) (2 ^ l.length)).1 = true
   ·rw [if_pos d] at h ⊢
    exact ⟨c, by omega, (cvN_least (by omega)).1 d⟩
   ·rw [if_neg d] at h; cases h
 ·rw [if_pos c] at h; exact absurd h c
theorem least_le {l : List Sz} {m : List Hd} (h : (cvrR l m).2 = 0) {li : List Int} (hp : pkOk li l.length = true) (hc : cvsB l m li = true) : (cvrR l m).1.length ≤ li.length := by
 obtain ⟨h1, h2, h3⟩ := cvr_ok h
 obtain ⟨r, hr, hle⟩ := cvs_asc (by omega) hp hc
 have := h3.2 r hr
 have : ¬ r.length < (cvrR l m).1.length := fun q => this (.inl q)
 omega
end Go.Proofs.YtjaihaccehaicaaDoor
set_option linter.unusedVariables false
set_option linter.unusedSimpArgs false
namespace Go.Am
variable {dfs : List Deferred}
def litV (k : Nat) (zero cs : List AV) : AV := if zero.length = 0 then .sl 0 0 0 k else .vs (zero.length / k) cs
def ordB (P : Program) (tok : Nat) (o : AOp) (st : St) (h : AH) (v : AV) (h' : AH) : Prop :=
 (∃ k b x y, o = .app k b x y ∧ h.app k b tok (x.val st) (y.val st) = some (v, h')) ∨
 (∃ f args fid fst caps, o = .call f args ∧ f.val st = .fn fid fst caps ∧ CallsA P tok fid (fst ++ args.map (AX.val st) ++ caps) h fun r h1 => r = v ∧ h1 = h')
def litB (o : AOp) (st : St) (v : AV) : Prop := ∃ k zero parts cs, o = .bsl k zero parts ∧ afill (AX.val st) zero parts = some cs ∧ k ≠ 0 ∧ (zero.length / k) * k = cs.length ∧ v = litV k zero cs
def evLp (P : Program) (hT : AH) (base : Nat) (O E : List Nat) : List AOper → Nat → St → AH → (St → AH → Prop) → Prop
 | [], _, st, h, K => K st h
 | o :: os, i, st, h, K =>
   (o.op.isVal = true ∧ O.contains i = false ∧ ∃ v, okG P 0 hT o st hT v none ∧ evLp P hT base O E os (i + 1) (put o.d v st) h K) ∨
   (o.g = none ∧ O.contains i = true ∧ ∃ v h', ordB P (base + i) o.op st h v h' ∧ (∀ t c, hT.m t = some c → h'.m t = some c) ∧ (∀ e ∈ E, h'.m (base + e) = none) ∧ evLp P hT base O E os (i + 1) (put o.d v st) h' K) ∨
   (o.g = none ∧ O.contains i = false ∧ i ∈ E ∧ ∃ v, litB o.op st v ∧ evLp P hT base O E os (i + 1) (put o.d v st) h K)
section
variable {P : Program} {N : Nat} {Q : Exit → St → AH → Prop} {st0 : St} {h0 hT : AH} {w0 : World} {ι0 : Inj} {base : Nat} {ops : Array Oper} {aops : List AOper} {dep : Nat → Nat → Prop} {m : Nat} {O E : List Nat}
def LpS (P : Program) (hT : AH) (base : Nat) (O E : List Nat) (aops : List AOper) (st0 : St) (ρ : Nat → AV) (η : Nat → AH) (j : Nat) (ao : AOper) : Prop :=
 (ao.op.isVal = true ∧ O.contains j = false ∧ η (j + 1) = η j ∧ okG P 0 hT ao (stD aops ρ st0 full j) hT (ρ j) none) ∨
 (ao.g = none ∧ O.contains j = true ∧ ordB P (base + j) ao.op (stD aops ρ st0 full j) (η j) (ρ j) (η (j + 1))) ∨
 (ao.g = none ∧ O.contains j = false ∧ j ∈ E ∧ η (j + 1) = η j ∧ litB ao.op (stD aops ρ st0 full j) (ρ j))
theorem lp_ok (hm : m ≤ aops.length) {K : St → AH → Prop} : ∀ (k i : Nat), i + k = m → ∀ (ρ0 : Nat → AV) (η0 : Nat → AH), (∀ t c, hT.m t = some c → (η0 i).m t = some c) → (∀ e ∈ E, (η0 i).m (base + e) = none) →
 evLp P hT base O E ((aops.drop i).take k) i (stD aops ρ0 st0 full i) (η0 i) K →
 ∃ ρ η, (∀ j, j < i → ρ j = ρ0 j) ∧ (∀ j, j ≤ i → η j = η0 j) ∧ (∀ j ao, i ≤ j → j < m → aops[j]? = some ao → LpS P hT base O E aops st0 ρ η j ao) ∧
   (∀ j, i ≤ j → j ≤ m → (∀ t c, hT.m t = some c → (η j).m t = some c) ∧ ∀ e ∈ E, (η j).m (base + e) = none) ∧ K (stD aops ρ st0 full m) (η m)
 | 0, i, hi, ρ0, η0, hs, hf, e => by
   simp only [List.take_zero, evLp] at e
   have : i = m := by omega
   subst this
   exact ⟨ρ0, η0, fun _ _ => rfl, fun _ _ => rfl, fun j ao h1 h2 => by omega, fun j h1 h2 => by (obtain rfl : j = i := (by omega)); exact ⟨hs, hf⟩, e⟩
 | k + 1, i, hi, ρ0, η0, hs, hf, e => by
   have hlt : i < aops.length := by omega
   rw [List.drop_eq_getElem_cons hlt, List.take_succ_cons] at e
   have step : ∀ (v : AV) (h1 : AH), (∀ t c, hT.m t = some c → h1.m t = some c) → (∀ e ∈ E, h1.m (base + e) = none) → evLp P hT base O E ((aops.drop (i + 1)).take k) (i + 1) (put aops[i].d v (stD aops ρ0 st0 full i)) h1 K →
    LpS P hT base O E aops st0 (fun j => if j = i then v else ρ0 j) (fun j => if j = i + 1 then h1 else η0 j) i aops[i] →
    ∃ ρ η, (∀ j, j < i → ρ j = ρ0 j) ∧ (∀ j, j ≤ i → η j = η0 j) ∧ (∀ j ao, i ≤ j → j < m → aops[j]? = some ao → LpS P hT base O E aops st0 ρ η j ao) ∧
      (∀ j, i ≤ j → j ≤ m → (∀ t c, hT.m t = some c → (η j).m t = some c) ∧ ∀ e ∈ E, (η j).m (base + e) = none) ∧ K (stD aops ρ st0 full m) (η m) := by
    intro v h1 hs1 hf1 e1 hone
    let ρ1 : Nat → AV := fun j => if j = i then v else ρ0 j
    let η1 : Nat → AH := fun j => if j = i + 1 then h1 else η0 j
    have low1 : ∀ j, j < i → ρ1 j = ρ0 j := fun j hj => by (have : j ≠ i := (by omega)); simp [ρ1, this]
    have e2 : stD aops ρ1 st0 full (i + 1) = put aops[i].d v (stD aops ρ0 st0 full i) := by
     simp only [stD, full, if_true, List.getElem?_eq_getElem hlt, Option.bind_some]
     rw [stD_congr (ρ := ρ1) (ρ' := ρ0) (D := full) (D' := full) fun j hj => ⟨low1 j hj, rfl⟩]
     simp [ρ1]
    obtain ⟨ρ, η, q1, q2, q3, q4, q5⟩ := lp_ok hm k (i + 1) (by omega) ρ1 η1 (by simpa [η1] using hs1) (by simpa [η1] using hf1) (by rw [e2]; simpa [η1] using e1)
    have hρi : ρ i = v := by rw [q1 i (by omega)]; simp [ρ1]
    have hst : stD aops ρ st0 full i = stD aops (fun j => if j = i then v else ρ0 j) st0 full i := stD_congr fun j hj => ⟨q1 j (by omega), rfl⟩
    have hG : η (i + 1) = h1 := by rw [q2 (i + 1) (Nat.le_refl _)]; simp [η1]
    have hGi : η i = η0 i := by rw [q2 i (by omega)]; simp [η1]
    refine ⟨ρ, η, fun j hj => (q1 j (by omega)).trans (low1 j hj), fun j hj => by rw [q2 j (by omega)]; (have : j ≠ i + 1 := (by omega)); simp [η1, this], fun j ao hij hjm hao => ?_, fun j hij hjm => ?_, q5⟩
    ·by_cases hji : j = i
     ·subst hji
      have hao' : aops[j] = ao := by rw [List.getElem?_eq_getElem hlt] at hao; simpa using hao
      rw [hao'] at hone
      unfold LpS at hone ⊢
      rw [hst, hρi, hG, hGi]
      simpa using hone
     ·exact q3 j ao (by omega) hjm hao
    ·by_cases hji : j = i
     ·subst hji; rw [hGi]; exact ⟨hs, hf⟩
     ·exact q4 j (by omega) hjm
   have hst0 : ∀ v, stD aops (fun j => if j = i then v else ρ0 j) st0 full i = stD aops ρ0 st0 full i := fun v => stD_congr fun l hl => ⟨if_neg (by omega), rfl⟩
   simp only [evLp] at e
   rcases e with ⟨hv, hO, v, hok, e⟩ | ⟨hg, hO, v, h', hor, hs', hf', e⟩ | ⟨hg, hO, hE, v, hl, e⟩
   ·refine step v (η0 i) hs hf e (.inl ⟨hv, hO, by simp, ?_⟩)
    rw [hst0]; simpa using hok
   ·refine step v h' hs' hf' e (.inr (.inl ⟨hg, hO, ?_⟩))
    rw [hst0]; simpa using hor
   ·refine step v (η0 i) hs hf e (.inr (.inr ⟨hg, hO, hE, by simp, ?_⟩))
    rw [hst0]; simpa using hl
theorem put_VRel {st : St} {d : Option Nat} {v v' : AV} {ι ι' : Inj} {a : Act} (le : ι.le ι') (ar : ARel N dfs ι (put d v st) a) (hv : ∀ u, VRel ι v u → VRel ι' v' u) : ARel N dfs ι' (put d v' st) a :=
 ⟨ar.size, ar.defs, ar.tab.mono le, fun x => by
  have := ar.slot x
  rw [put_get] at this ⊢
  by_cases e : d = some x
  ·rw [if_pos e] at this ⊢; exact hv _ this
  ·rw [if_neg e] at this ⊢; exact this.mono le⟩
theorem lit_inv {F : Nat → Prop} {n tok : Nat} {h : AH} {a : Act} {w : World} {ι : Inj} {st : St} {d : Option Nat} {k : Nat} {zero cs : List AV} (hf : h.m tok = none) (hk : k ≠ 0) (hl : (zero.length / k) * k = cs.length)
 (I : Inv N dfs ι0 h0 w0 base n F (put d (if zero.length = 0 then .sl 0 0 0 k else .sl tok 0 (if k = 0 then 0 else zero.length / k) k) st) (h.set tok (.cells true cs)) a w ι) :
 ∃ ι', Inv N dfs ι0 h0 w0 base n F (put d (litV k zero cs) st) h a w ι' := by
 have hle : h.le (h.set tok (.cells true cs)) := ⟨fun t c ht => by
  have : t ≠ tok := fun e => by subst e; rw [hf] at ht; cases ht
  simp [AH.set, this, ht], Nat.le_refl _⟩
 by_cases z : zero.length = 0
 ·refine ⟨ι, ?_, I.wr.drop hle, I.ex.drop hle, I.fr, I.nx, I.b0, I.b1⟩
  have := I.ar
  unfold litV
  rw [if_pos z] at this ⊢
  exact this
 ·have hm : (h.set tok (.cells true cs)).m tok = some (.cells true cs) := by simp [AH.set]
  have eh : (h.set tok (.cells true cs)).kill tok = h := by
   have : ((h.set tok (.cells true cs)).kill tok).m = h.m := by
    funext t
    simp only [AH.kill, AH.set]
    by_cases e : t = tok
    ·subst e; simp [hf]
    ·simp [e]
   cases h
   simp only [AH.kill, AH.set] at this ⊢
   rw [this]
  obtain ⟨ι', le, hfn, FA, wr', ex'⟩ : ∃ ι' : Inj, ι.le ι' ∧ (∀ t, ι' t = ι t) ∧ FrzAt ι ι' tok cs ∧ WRel ι' h w ∧ Ext ι0 h0 w0 ι' h w := by
   cases hlo : ι tok with
   | none =>
     have hb := (I.wr.blk tok _ hm).2
     simp only [BRel] at hb
     rcases hb with ⟨rfl, _⟩ | ⟨l, _, _, _, h1, _⟩
     ·exact ⟨ι, Inj.le_refl _, fun _ => rfl, ⟨I.wr.nil, .inl ⟨hlo, rfl⟩⟩, I.wr.drop hle, I.ex.drop hle⟩
     ·rw [hlo] at h1; cases h1
   | some l =>
     obtain ⟨xs, hp, _, hr, _, h2, h3⟩ := I.wr.freeze hm hlo
     rw [eh] at h2 h3
     exact ⟨ι.fr l.b xs, Inj.le_fr hp, fun _ => rfl, ⟨I.wr.nil, .inr ⟨l, xs, hlo, by simp [Inj.fr], hr⟩⟩, h2, h3 I.ex⟩
  refine ⟨ι', put_VRel le I.ar fun u hu => ?_, wr', ex', fun j hj hF => by rw [hfn]; exact I.fr j hj hF, I.nx, I.b0, I.b1⟩
  unfold litV
  rw [if_neg z] at hu ⊢
  rw [if_neg hk] at hu
  have fv := @FrzV.sl tok cs 0 (zero.length / k) k k (by omega)
  rw [List.drop_zero, hl, List.take_length] at fv
  exact FrzV.rel le FA fv hu
variable {QQ : Exit → Act → World → Prop} {K : St → AH → Prop}
theorem lp_wpAny (H : HeadOK ops aops dep m) (hof : opersOf P N ops = some aops) (hmn : m ≤ ops.size) (hna : ∀ b, aops[m]? = some b → b.app1 = false)
 (hK : ∀ st h ι a w, K st h → ARel N dfs ι st a → WRel ι h w → Ext ι0 h0 w0 ι h w → QQ .normal a w) {ρ : Nat → AV} {η : Nat → AH}
 (hok : ∀ j ao, j < m → aops[j]? = some ao → LpS P hT base O E aops st0 ρ η j ao)
 (hsub : ∀ j, j ≤ m → (∀ t c, hT.m t = some c → (η j).m t = some c) ∧ ∀ e ∈ E, (η j).m (base + e) = none)
 (hch : ∀ p i, p < i → i < m → O.contains p = true → O.contains i = true → (∀ q, p < q → q < i → O.contains q = false) → dep p i)
 (htail : evOps P base (aops.drop m) m (stD aops ρ st0 full m) (η m) K) :
 ∀ (fuel : Nat) (listed : Array Bool) (a : Act) (w : World) (ι : Inj) (h : AH) (n : Nat), cnt (lst listed) ops.size + fuel = ops.size → listed.size = ops.size → Closed ops (lst listed) → (∀ j, lst listed j = true → j < m) →
   n ≤ m → (∀ j, j < m → O.contains j = true → (lst listed j = true ↔ j < n)) → h = η n →
   Inv N dfs ι0 h0 w0 base ops.size (fun j => lst listed j = false) (stD aops ρ st0 (lst listed) m) h a w ι → wpAny P .any ops QQ fuel listed a w := by
 obtain ⟨hlen, hget⟩ := opersOf_spec hof
 have hcal : ∀ {j : Nat}, j < m → O.contains j = false → η (j + 1) = η j := fun {j} hj hc => by
  rcases hok j _ hj (List.getElem?_eq_getElem (by omega)) with q | q | q
  ·exact q.2.2.1
  ·rw [q.2.1] at hc; cases hc
  ·exact q.2.2.2.1
 -- nothing in order from n up to i
 have same : ∀ (n i : Nat), n ≤ i → i ≤ m → (∀ j, n ≤ j → j < i → O.contains j = false) → η i = η n := by
  intro n i hni
  induction i with
  | zero => intro _ _; have : n = 0 := by omega
            subst this; rfl
  | succ i ih =>
    intro him hc
    by_cases e : n = i + 1
    ·subst e; rfl
    ·rw [hcal (by omega) (hc i (by omega) (by omega))]
     exact ih (by omega) (by omega) fun j h1 h2 => hc j h1 (by omega)
 have finish : ∀ (fuel : Nat) (listed : Array Bool) (a : Act) (w : World) (ι : Inj) (h : AH) (n : Nat), cnt (lst listed) ops.size + fuel = ops.size → listed.size = ops.size → (∀ j, lst listed j = true → j < m) → n ≤ m →
  (∀ j, j < m → O.contains j = true → (lst listed j = true ↔ j < n)) → h = η n → Inv N dfs ι0 h0 w0 base ops.size (fun j => lst listed j = false) (stD aops ρ st0 (lst listed) m) h a w ι →
  (∀ k, k < m → lst listed k = true) → wpAny P .any ops QQ fuel listed a w := by
  intro fuel listed a w ι h n hc hs hlm hn hcl hh I hbelow
  have e1 : stD aops ρ st0 (lst listed) m = stD aops ρ st0 full m := stD_congr fun j hj => ⟨rfl, hbelow j hj⟩
  rw [e1] at I
  have hcnt : cnt (lst listed) ops.size = m := by
   have : ∀ k, k ≤ ops.size → cnt (lst listed) k = min k m := by
    intro k
    induction k with
    | zero => intro _; simp [cnt]
    | succ k ihk =>
      intro hk
      simp only [cnt, ihk (by omega)]
      by_cases hki : k < m
      ·rw [if_pos (hbelow k hki)]; omega
      ·rw [if_neg (fun hq => hki (hlm k hq))]; omega
   have := this ops.size (Nat.le_refl _)
   omega
  have hm : h = η m := by
   rw [same n m hn (Nat.le_refl _) fun j h1 h2 => by
    cases q : O.contains j with
    | false => rfl
    | true => have := (hcl j h2 q).1 (hbelow j h2); omega]
   exact hh
  subst hm
  exact tail_wpAny H hof hK fuel listed a w m _ _ ι (by omega) (Nat.le_refl _) hs (fun j => ⟨hlm j, hbelow j⟩)
   ⟨I.ar, I.wr, I.ex, fun j hj hf => I.fr j hj (by cases hq : lst listed j with | false => rfl | true => have := hlm j hq; omega), I.nx, I.b0, I.b1⟩ htail
 intro fuel
 induction fuel with
 | zero =>
   intro listed a w ι h n hc hs hcl hlm hn hcc hh I
   have hall := cnt_all (D := lst listed) (k := ops.size) (by omega)
   exact finish 0 listed a w ι h n hc hs hlm hn hcc hh I fun k hk => hall k (by omega)
 | succ fuel ih =>
   intro listed a w ι h n hc hs hcl hlm hn hcc hh I
   have hin : ∀ j, lst listed j = true → j < ops.size := fun j hj => lst_lt hs hj
   by_cases hbelow : ∀ k, k < m → lst listed k = true
   ·exact finish (fuel + 1) listed a w ι h n hc hs hlm hn hcc hh I hbelow
   refine ⟨fun hr => ?_, fun i hi => ?_⟩
   ·exact absurd (fun k hk => ready_nil H hs hr k (by omega)) hbelow
   ·obtain ⟨h1, h2, h3⟩ := ready_spec hs hi
    have hdeps : ∀ k, dep k i → lst listed k = true := by
     intro k hk
     obtain ⟨e', he', hb', hor⟩ := H.c2 i ops[i] k (by simp [h1]) hk
     have hle := h3 _ e' (by simp [h1]) he' hb'
     rcases hor with hor | hor
     ·rw [← hor]; exact hle
     ·exact closed_dep H hcl hin _ _ hle hor
    have him : i < m := by
     refine Classical.byContradiction fun him => hbelow fun k hk => ?_
     rcases H.c4 k i (by omega) h1 (by omega) with q | ⟨q, _, b, hb, hb1⟩
     ·exact hdeps k q
     ·subst q; rw [hna b hb] at hb1; cases hb1
    obtain ⟨ao, hao, hofo, hd, hdN, hgN⟩ := hget i ops[i] (by simp [h1])
    have hset := lst_set (listed := listed) (i := i) (by omega)
    have slots : ∀ x ∈ ao.reads, (stD aops ρ st0 full i).get x = (stD aops ρ st0 (lst listed) m).get x := fun x hx => (slots_same H hlen hcl hin hao him h2 hdeps hx).symm
    have next : ∀ (n' : Nat) (h' : AH) (a' : Act) (w' : World) (ι' : Inj), n' ≤ m → (∀ j, j < m → O.contains j = true → ((lst listed j || j == i) = true ↔ j < n')) → h' = η n' →
     Inv N dfs ι0 h0 w0 base ops.size (fun j => lst listed j = false ∧ ¬ j = i) (put ao.d (ρ i) (stD aops ρ st0 (lst listed) m)) h' a' w' ι' → wpAny P .any ops QQ fuel (listed.setIfInBounds i true) a' w' := by
     intro n' h' a' w' ι' hn' hcc' hh' I'
     refine ih (listed.setIfInBounds i true) a' w' ι' h' n' ?_ (by simpa using hs) ?_ ?_ hn' (fun j hj hca => by rw [hset]; exact hcc' j hj hca) hh' ?_
     ·rw [hset, cnt_insert h2 h1]; omega
     ·rw [hset]
      intro j o e hj ho he hb'
      simp only [Bool.or_eq_true, beq_iff_eq] at hj ⊢
      rcases hj with hj | rfl
      ·exact .inl (hcl j o e hj ho he hb')
      ·exact .inl (h3 o e ho he hb')
     ·rw [hset]
      intro j hj
      simp only [Bool.or_eq_true, beq_iff_eq] at hj
      rcases hj with hj | rfl
      ·exact hlm j hj
      ·exact him
     ·rw [hset]
      refine ⟨⟨I'.ar.size, I'.ar.defs, I'.ar.tab, fun x => ?_⟩, I'.wr, I'.ex, fun j hj hf => ?_, I'.nx, I'.b0, I'.b1⟩
      ·rw [stD_insert H hcl hin hao him h2]
       exact I'.ar.slot x
      ·simp only [Bool.or_eq_false_iff, beq_eq_false_iff_ne] at hf
       exact I'.fr j hj ⟨hf.1, hf.2⟩
    have vals : ∀ x ∈ ao.op.xs, x.val (stD aops ρ st0 full i) = x.val (stD aops ρ st0 (lst listed) m) := fun x hx => by
     cases x with
     | c v => rfl
     | t k => exact slots k (by unfold AOper.reads; exact List.mem_append_left _ (List.mem_filterMap.2 ⟨.t k, hx, rfl⟩))
    have pure : O.contains i = false → ∀ j, j < m → O.contains j = true → ((lst listed j || j == i) = true ↔ j < n) := fun hO j hj hca => by
     have : j ≠ i := fun e => by subst e; rw [hO] at hca; cases hca
     rw [Bool.or_eq_true, beq_iff_eq, hcc j hj hca]
     exact ⟨fun z => z.resolve_right this, .inl⟩
    rcases hok i ao him hao with ⟨q1, q0, q2, q3⟩ | ⟨qg, q0, q⟩ | ⟨qg, q0, qE, q2, k, zero, parts, cs, c1, c2, c3, c4, c5⟩
    ·have hmove : okG P (base + i) h ao (stD aops ρ st0 (lst listed) m) h (ρ i) none := okG_move slots (fun _ x t _ _ c hr => by rw [hh]; exact (hsub n hn).1 t c hr) (okG_hb q1 q3)
     have hev := okG_ev (fun hc => by rw [val_cal q1] at hc; cases hc) rfl hmove
     refine wpOp_mono ?_ (evG_wpOp (o := ops[i]) (by simp [h1]) hofo hdN hgN h1 h2 I hev)
     rintro a' w' ⟨st', h', ι', ⟨rfl, rfl⟩, I'⟩
     exact next n _ a' w' ι' hn (pure q0) hh I'
    ·have hni : n ≤ i := by
      refine Classical.byContradiction fun z => ?_
      rw [(hcc i him q0).2 (by omega)] at h2; cases h2
     have hcb : ∀ j, j < i → O.contains j = true → lst listed j = true := by
      intro j hj hO
      -- the last one ahead of i
      have : ∀ g, j + g < i → (∀ q, j + g < q → q < i → O.contains q = false) → O.contains (j + g) = true → lst listed j = true := fun g hg hb hOg => by
       have l1 := hdeps _ (hch (j + g) i hg him hOg q0 hb)
       have l2 := (hcc (j + g) (by omega) hOg).1 l1
       exact (hcc j (by omega) hO).2 (by omega)
      have : ∃ p, j ≤ p ∧ p < i ∧ O.contains p = true ∧ ∀ q, p < q → q < i → O.contains q = false := by
       have key : ∀ g, g ≤ i - j → (∃ p, j ≤ p ∧ p < i ∧ O.contains p = true ∧ ∀ q, p < q → q < i → O.contains q = false) ∨ ∀ q, i - g ≤ q → q < i → O.contains q = false := by
        intro g
        induction g with
        | zero => intro _; exact .inr fun q h1 h2 => by omega
        | succ g ihg =>
          intro hg
          rcases ihg (by omega) with r | r
          ·exact .inl r
          ·cases ho : O.contains (i - (g + 1)) with
           | true => exact .inl ⟨i - (g + 1), by omega, by omega, ho, fun q h1 h2 => r q (by omega) h2⟩
           | false =>
             refine .inr fun q h1 h2 => ?_
             by_cases e : q = i - (g + 1)
             ·rw [e]; exact ho
             ·exact r q (by omega) h2
       rcases key (i - j) (Nat.le_refl _) with r | r
       ·exact r
       ·have := r j (by omega) hj; rw [hO] at this; cases this
      obtain ⟨p, p1, p2, p3, p4⟩ := this
      have l1 := hdeps p (hch p i p2 him p3 q0 p4)
      have l2 := (hcc p (by omega) p3).1 l1
      exact (hcc j (by omega) hO).2 (by omega)
     have hHi : h = η i := by
      rw [same n i hni (by omega) fun j hj1 hj2 => by
       cases z : O.contains j with
       | false => rfl
       | true => have := (hcc j (by omega) z).1 (hcb j hj2 z); omega]
      exact hh
     have hev : evG P (base + i) ao (stD aops ρ st0 (lst listed) m) h fun st' h' => st' = put ao.d (ρ i) (stD aops ρ st0 (lst listed) m) ∧ h' = η (i + 1) := by
      unfold evG
      rw [qg]
      simp only []
      rcases q with ⟨k, b, x, y, e1, e2⟩ | ⟨f, args, fid, fst, caps, e1, e2, e3⟩
      ·rw [e1] at vals ⊢
       simp only [evA]
       rw [← vals x (by simp [AOp.xs]), ← vals y (by simp [AOp.xs]), hHi, e2]
       exact ⟨rfl, rfl⟩
      ·rw [e1] at vals ⊢
       simp only [evA]
       rw [← vals f (by simp [AOp.xs]), e2]
       simp only []
       rw [← List.map_congr_left (f := AX.val (stD aops ρ st0 full i)) fun y hy => vals y (by simp [AOp.xs, hy]), hHi]
       exact e3.mono fun r h' ⟨hr, hh'⟩ => ⟨by rw [hr], hh'⟩
     refine wpOp_mono ?_ (evG_wpOp (o := ops[i]) (by simp [h1]) hofo hdN hgN h1 h2 I hev)
     rintro a' w' ⟨st', h', ι', ⟨rfl, hh'⟩, I'⟩
     refine next (i + 1) h' a' w' ι' (by omega) (fun j hj hc' => ?_) hh' I'
     rw [Bool.or_eq_true, beq_iff_eq]
     constructor
     ·rintro (z | z)
      ·have := (hcc j hj hc').1 z; omega
      ·omega
     ·intro z
      by_cases e : j = i
      ·exact .inr e
      ·exact .inl (hcb j (by omega) hc')
    ·have hfr : h.m (base + i) = none := by rw [hh]; exact (hsub n hn).2 i qE
     have af : afill (AX.val (stD aops ρ st0 (lst listed) m)) zero parts = some cs := by
      rw [← c2]
      refine (afill_congr fun y hy => ?_).symm
      refine vals y ?_
      rw [c1]
      exact hy
     have hev : evG P (base + i) ao (stD aops ρ st0 (lst listed) m) h fun st' h' => st' = put ao.d (if zero.length = 0 then .sl 0 0 0 k else .sl (base + i) 0 (if k = 0 then 0 else zero.length / k) k) (stD aops ρ st0 (lst listed) m) ∧ h' = h.set (base + i) (.cells true cs) := by
      unfold evG
      rw [qg, c1]
      simp only [evA, AOp.isAl, if_true, AOp.al, af, Option.map_some]
      exact ⟨trivial, trivial⟩
     refine wpOp_mono ?_ (evG_wpOp (o := ops[i]) (by simp [h1]) hofo hdN hgN h1 h2 I hev)
     rintro a' w' ⟨st', h', ι', ⟨rfl, rfl⟩, I'⟩
     obtain ⟨ι2, I2⟩ := lit_inv hfr c3 c4 I'
     rw [← c5] at I2
     exact next n h a' w' ι2 hn (pure q0) hh I2
theorem awp_lp {id : Nat} {st : St} {h : AH} (O E : List Nat) (hmix : P.follows .mixedOrders = true) (hof : opersOf P N ops = some aops) (H : HeadOK ops aops dep m) (hmn : m ≤ ops.size) (hna : ∀ b, aops[m]? = some b → b.app1 = false)
 (hch : ∀ p i, p < i → i < m → O.contains p = true → O.contains i = true → (∀ q, p < q → q < i → O.contains q = false) → ∃ a b, aops[p]? = some a ∧ aops[i]? = some b ∧ a.clash b = true)
 (e : evLp P h h.nx O E (aops.take m) 0 st { h with nx := h.nx + aops.length } fun st' h' => evOps P h.nx (aops.drop m) m st' h' fun st h => Q .normal st h) :
 Awp P N (.region id ops true) Q st h := fun dfs ι a w ar wr => by
 obtain ⟨hlen, _⟩ := opersOf_spec hof
 refine wp_mono (wp_region_any (opersOf_nd hof) (nrm_lets (Q := Q)) hmix ?_) nrm_lift
 obtain ⟨ρ, η, _, hH0, hok, hsub, htail⟩ := lp_ok (P := P) (aops := aops) (st0 := st) (hT := h) (m := m) (O := O) (E := E) (base := h.nx) (by omega) m 0 (by omega) (fun _ => .un) (fun _ => { h with nx := h.nx + aops.length }) (fun t c q => q)
  (fun e _ => by
   cases q : h.m (h.nx + e) with
   | none => rfl
   | some c => have := (wr.blk _ c q).1; omega) (by simpa [stD] using e)
 have hfalse : lst (Array.replicate ops.size false) = fun _ => false := by
  funext j
  unfold lst
  rw [Array.getD_eq_getD_getElem?]
  by_cases hj : j < ops.size
  ·simp [hj]
  ·rw [Array.getElem?_eq_none (by simp; omega)]; rfl
 have hst : stD aops ρ st (fun _ => false) m = st := by
  have : ∀ k, stD aops ρ st (fun _ => false) k = st := by
   intro k; induction k with
   | zero => rfl
   | succ k ih => simp [stD, ih]
  exact this m
 refine lp_wpAny (ι0 := ι) (h0 := h) (w0 := w) (base := h.nx) (st0 := st) (hT := h) (O := O) (E := E) (K := fun st h => Q .normal st h) H hof hmn hna (fun st' h' ι' a' w' k ar' wr' x => ⟨st', h', ι', ⟨rfl, k⟩, ar', wr', x⟩) (ρ := ρ) (η := η)
  (fun j ao hj hao => hok j ao (Nat.zero_le _) hj hao) (fun j hj => hsub j (Nat.zero_le _) hj)
  (fun p i h1 h2 h3 h4 h5 => let ⟨a, b, q1, q2, q3⟩ := hch p i h1 h2 h3 h4 h5; H.c3 p i a b h1 q1 q2 q3) htail ops.size _ a _ ι { h with nx := h.nx + aops.length } 0 ?_ (by simp) ?_ ?_ (Nat.zero_le _) (fun j hj hc => ?_) ?_ ?_
 ·rw [hfalse]
  have : ∀ k, cnt (fun _ => false) k = 0 := by
   intro k; induction k with
   | zero => rfl
   | succ k ih => simp [cnt, ih]
  rw [this]; omega
 ·rw [hfalse]; intro j o e' hj; cases hj
 ·rw [hfalse]; intro j hj; cases hj
 ·rw [hfalse]; simp
 ·rw [hH0 0 (Nat.le_refl _)]
 ·rw [hfalse, hst]
  refine ⟨ar, (wr.bump _).drew, ((Ext.refl ι h w).bump _).drew, fun j hj hf => ?_, by simp [hlen], Nat.le_refl _, wr.pos⟩
  cases hq : ι (h.nx + j) with
  | none => rfl
  | some l => have := (wr.lt _ l hq).1; omega
end
section
variable {P : Program} {N : Nat} {Q : Exit → St → AH → Prop} {K : St → AH → Prop} {st : St} {h hT : AH} {base : Nat} {O E : List Nat}
theorem k_headP {m : Nat} {ops : List AOper} (O E : List Nat) (hna : (match ops[m]? with | some b => b.app1 | none => false) = false)
 (hch : ∀ p i, p < i → i < m → O.contains p = true → O.contains i = true → (∀ q, p < q → q < i → O.contains q = false) → ∃ a b, ops[p]? = some a ∧ ops[i]? = some b ∧ a.clash b = true)
 (e : evLp P h h.nx O E (ops.take m) 0 st (h.bump ops.length) fun st' h' => evOps P h.nx (ops.drop m) m st' h' K) : W P N (.head m ops) (athen K Q) st h := fun c hc => by
 cases hc with
 | head hl hm hh =>
   obtain ⟨H, hmn⟩ := headB_spec hh
   exact awp_lp O E hm hl H hmn (fun b hb => by rw [hb] at hna; exact hna) hch e
theorem lp_val {o : AOper} {os : List AOper} {i : Nat} {st1 : St} {K : St → AH → Prop} (hv : o.op.isVal = true) (hO : O.contains i = false) (e : runS true 0 [o] i (some (st, hT)) = .done st1 hT) (k : evLp P hT base O E os (i + 1) st1 h K) : evLp P hT base O E (o :: os) i st h K := by
 simp only [runS] at e
 split at e
 ·cases e
 ·cases hs : stepU (0 + i) o st hT with
  | none => rw [hs, runS_none] at e; cases e
  | some p =>
    obtain ⟨st2, h2⟩ := p
    rw [hs] at e
    obtain ⟨v, rfl, rfl, hok⟩ := okG_stepU (P := P) (tok' := 0) (hb := hT) hv hs
    simp only [runS] at e
    cases e
    simp only [evLp]
    exact .inl ⟨hv, hO, v, hok, k⟩
theorem lp_app {d : Option Nat} {kk b : Nat} {x y : AX} {os : List AOper} {i : Nat} {v : AV} {h' : AH} {K : St → AH → Prop} (hO : O.contains i = true) (e : h.app kk b (base + i) (x.val st) (y.val st) = some (v, h')) (hs : ∀ t c, hT.m t = some c → h'.m t = some c) (hf : ∀ e ∈ E, h'.m (base + e) = none)
 (k : evLp P hT base O E os (i + 1) (put d v st) h' K) : evLp P hT base O E (⟨d, none, .app kk b x y⟩ :: os) i st h K :=
 .inr (.inl ⟨rfl, hO, v, h', .inl ⟨_, _, _, _, rfl, e⟩, hs, hf, k⟩)
theorem lp_new {d : Option Nat} {f : AX} {args : List AX} {os : List AOper} {i fid : Nat} {fst caps az : List AV} {p : Option (List AV × List AV)} {n kk : Nat} {cs : List AV} {K : St → AH → Prop} (hO : O.contains i = true) (hf1 : f.val st = .fn fid fst caps) (ha : fst ++ args.map (AX.val st) ++ caps = az)
 (c : FCalls P fid az h p n kk cs) (hs : ∀ t c, hT.m t = some c → (h.set (base + i) (.cells true cs)).m t = some c) (hf : ∀ e ∈ E, (h.set (base + i) (.cells true cs)).m (base + e) = none)
 (k : evLp P hT base O E os (i + 1) (put d (plug p (.sl (base + i) 0 n kk)) st) (h.set (base + i) (.cells true cs)) K) : evLp P hT base O E (⟨d, none, .call f args⟩ :: os) i st h K := by
 subst ha
 exact .inr (.inl ⟨rfl, hO, _, _, .inr ⟨_, _, _, _, _, rfl, hf1, .inr ⟨p, n, kk, cs, c, rfl, rfl⟩⟩, hs, hf, k⟩)
theorem lp_lit {d : Option Nat} {kk : Nat} {zero cs : List AV} {parts : List (Nat × Nat × AX)} {os : List AOper} {i : Nat} {v : AV} {K : St → AH → Prop} (hO : O.contains i = false) (hE : i ∈ E) (e : afill (AX.val st) zero parts = some cs) (hk : kk ≠ 0) (hl : (zero.length / kk) * kk = cs.length) (hv : litV kk zero cs = v)
 (k : evLp P hT base O E os (i + 1) (put d v st) h K) : evLp P hT base O E (⟨d, none, .bsl kk zero parts⟩ :: os) i st h K :=
 .inr (.inr ⟨rfl, hO, hE, v, ⟨_, _, _, cs, rfl, e, hk, hl, hv.symm⟩, k⟩)
theorem w_hp {c : AC} (F : AH → Prop) (hF : F h) (k : ∀ h', F h' → h'.ok → 0 < h'.nx → W P N c Q st h') : W P N c Q st h := w_ok fun ok pos => k h hF ok pos
theorem lp_done {i : Nat} {K : St → AH → Prop} (k : K st h) : evLp P hT base O E [] i st h K := k
end
end Go.Am
