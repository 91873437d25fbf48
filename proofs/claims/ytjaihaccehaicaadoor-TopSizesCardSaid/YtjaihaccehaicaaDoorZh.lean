/- What the proof of the law needs: the abstract machine, the functions as it reads them, their contracts, part 8. -/
import Derived.Test.YtjaihaccehaicaaDoorZg
set_option linter.unusedVariables false
set_option linter.unusedSimpArgs false
namespace Go.Proofs.YtjaihaccehaicaaDoor
open Go Go.Am Go.Proofs
theorem d87 (x : Int) : PC Tryd.prog 87 [.i .i64 x] (.b false) := by
 refine pc_fn fn87 (by simp only [AV.plains, AV.plain, il_plain, bl_plain, Bool.and_true, Bool.true_and, Bool.and_self]) (by simp only [AV.plains, AV.plain, il_plain, bl_plain, Bool.and_true, Bool.true_and, Bool.and_self]) (Nat.le_of_ble_eq_true rfl) ?_
 rw [initSt1]
 repeat' first | (with_reducible first | refine kzq ?_ | refine kzs ?_ | refine kzS ?_ | refine kzR ?_ | refine kzC ?_ | refine kzH ?_ | refine kzB ?_ | refine kzK ?_ | refine kzE ?_ | refine kzg ?_) | with_reducible refine r_done ?_ | with_reducible refine s_go (by simp (disch := omega) only [c87r0, c87r1, EVA, plug, eq_self, simprocAttr]; with_reducible rfl) ?_ | ((with_reducible refine kzr ?_); refine zrF ?_) | (with_reducible refine zkP (fun ht => ?_) (fun ht => ?_) <;> try first | exact False.elim ht | exact absurd rfl ht | exact absurd trivial ht | exact Bool.noConfusion ht) | (with_reducible (refine k_ret ?_; repeat first | refine kzt ?_ | refine kzb ?_ | refine fin ?_)) | (with_reducible (refine kzx ?_; repeat first | refine thru ?_ | refine kzo ?_ | refine pass (by decide) ?_)) | ((first | refine post1 ?_ | refine post2 ?_ | refine post3 ?_); simp only [GA, simprocAttr]) | refine post0 ?_
 first | exact ends_of | exact ends_eq rfl | (refine ends_eq (b_eq ?_); simp)
theorem RG75 : (type_of% @c75r0.eq_1) ∧ (type_of% @c75r1.eq_1) ∧ (type_of% @c75r2.eq_1) ∧ (type_of% @c75r3.eq_1) ∧ (type_of% @c75r4.eq_1) ∧ (type_of% @c75r5.eq_1) ∧ (type_of% @c75r6.eq_1) ∧ (type_of% @c75r7.eq_1) ∧ (type_of% @c75r8.eq_1) ∧ (type_of% @c75r9.eq_1) ∧ (type_of% @c75r10.eq_1) ∧ (type_of% @c75r11.eq_1) ∧ (type_of% @c75r12.eq_1) ∧ (type_of% @c75r13.eq_1) := ⟨@c75r0.eq_1, @c75r1.eq_1, @c75r2.eq_1, @c75r3.eq_1, @c75r4.eq_1, @c75r5.eq_1, @c75r6.eq_1, @c75r7.eq_1, @c75r8.eq_1, @c75r9.eq_1, @c75r10.eq_1, @c75r11.eq_1, @c75r12.eq_1, @c75r13.eq_1⟩
theorem d75 (x y : Int) : PC Tryd.prog 75 [.i .i64 x, .i .i64 y] (.i .i64 (cmpZ x y)) := by
 unfold cmpZ
 refine pc_fn fn75 (by simp only [AV.plains, AV.plain, il_plain, bl_plain, Bool.and_true, Bool.true_and, Bool.and_self]) (by simp only [AV.plains, AV.plain, il_plain, bl_plain, Bool.and_true, Bool.true_and, Bool.and_self]) (Nat.le_of_ble_eq_true rfl) ?_
 rw [initSt2]
 by_cases h1 : x < y
 ·have h1' := eq_true h1
  rw [if_pos h1]
  repeat' first | (with_reducible first | refine kzq ?_ | refine kzs ?_ | refine kzS ?_ | refine kzR ?_ | refine kzC ?_ | refine kzH ?_ | refine kzB ?_ | refine kzK ?_ | refine kzE ?_ | refine kzg ?_) | with_reducible refine r_done ?_ | with_reducible refine s_go (by simp (disch := omega) only [h1', RG75, EVA, plug, eq_self, simprocAttr]; with_reducible rfl) ?_ | ((with_reducible refine kzr ?_); refine zrF ?_) | ((with_reducible refine kzr ?_); refine zrP (c := by first | exact d87 _ _) (k := ?_)) | (with_reducible refine zkP (fun ht => ?_) (fun ht => ?_) <;> try first | exact False.elim ht | exact absurd rfl ht | exact absurd trivial ht | exact Bool.noConfusion ht) | (with_reducible (refine k_ret ?_; repeat first | refine kzt ?_ | refine kzb ?_ | refine fin ?_)) | (with_reducible (refine kzx ?_; repeat first | refine thru ?_ | refine kzo ?_ | refine pass (by decide) ?_)) | ((first | refine post1 ?_ | refine post2 ?_ | refine post3 ?_); simp only [GA, simprocAttr]) | refine post0 ?_
  all_goals first | exact ends_of | exact ends_eq rfl
 ·have h1' := eq_false h1
  rw [if_neg h1]
  by_cases h2 : y < x
  ·have h2' := eq_true h2
   rw [if_pos h2]
   repeat' first | (with_reducible first | refine kzq ?_ | refine kzs ?_ | refine kzS ?_ | refine kzR ?_ | refine kzC ?_ | refine kzH ?_ | refine kzB ?_ | refine kzK ?_ | refine kzE ?_ | refine kzg ?_) | with_reducible refine r_done ?_ | with_reducible refine s_go (by simp (disch := omega) only [h1', h2', RG75, EVA, plug, eq_self, simprocAttr]; with_reducible rfl) ?_ | ((with_reducible refine kzr ?_); refine zrF ?_) | ((with_reducible refine kzr ?_); refine zrP (c := by first | exact d87 _ _) (k := ?_)) | (with_reducible refine zkP (fun ht => ?_) (fun ht => ?_) <;> try first | exact False.elim ht | exact absurd rfl ht | exact absurd trivial ht | exact Bool.noConfusion ht) | (with_reducible (refine k_ret ?_; repeat first | refine kzt ?_ | refine kzb ?_ | refine fin ?_)) | (with_reducible (refine kzx ?_; repeat first | refine thru ?_ | refine kzo ?_ | refine pass (by decide) ?_)) | ((first | refine post1 ?_ | refine post2 ?_ | refine post3 ?_); simp only [GA, simprocAttr]) | refine post0 ?_
   all_goals first | exact ends_of | exact ends_eq rfl
  ·have h2' := eq_false h2
   rw [if_neg h2]
   repeat' first | (with_reducible first | refine kzq ?_ | refine kzs ?_ | refine kzS ?_ | refine kzR ?_ | refine kzC ?_ | refine kzH ?_ | refine kzB ?_ | refine kzK ?_ | refine kzE ?_ | refine kzg ?_) | with_reducible refine r_done ?_ | with_reducible refine s_go (by simp (disch := omega) only [h1', h2', RG75, EVA, plug, eq_self, simprocAttr]; with_reducible rfl) ?_ | ((with_reducible refine kzr ?_); refine zrF ?_) | ((with_reducible refine kzr ?_); refine zrP (c := by first | exact d87 _ _) (k := ?_)) | (with_reducible refine zkP (fun ht => ?_) (fun ht => ?_) <;> try first | exact False.elim ht | exact absurd rfl ht | exact absurd trivial ht | exact Bool.noConfusion ht) | (with_reducible (refine k_ret ?_; repeat first | refine kzt ?_ | refine kzb ?_ | refine fin ?_)) | (with_reducible (refine kzx ?_; repeat first | refine thru ?_ | refine kzo ?_ | refine pass (by decide) ?_)) | ((first | refine post1 ?_ | refine post2 ?_ | refine post3 ?_); simp only [GA, simprocAttr]) | refine post0 ?_
   all_goals first | exact ends_of | exact ends_eq rfl
theorem drop_cons {l : List Int} {k : Nat} (h : k < l.length) : l.drop k = l.getD k 0 :: l.drop (k + 1) := by
 rw [List.drop_eq_getElem_cons h, List.getD_eq_getElem?_getD, List.getElem?_eq_getElem h]
 rfl
theorem RG50 : (type_of% @c50r0.eq_1) ∧ (type_of% @c50r1.eq_1) ∧ (type_of% @c50r2.eq_1) ∧ (type_of% @c50r3.eq_1) ∧ (type_of% @c50r4.eq_1) ∧ (type_of% @c50r5.eq_1) ∧ (type_of% @c50r6.eq_1) ∧ (type_of% @c50r7.eq_1) ∧ (type_of% @c50r8.eq_1) ∧ (type_of% @c50r9.eq_1) ∧ (type_of% @c50r10.eq_1) ∧ (type_of% @c50r12.eq_1) ∧ (type_of% @c50r13.eq_1) ∧ (type_of% @c50r14.eq_1) := ⟨@c50r0.eq_1, @c50r1.eq_1, @c50r2.eq_1, @c50r3.eq_1, @c50r4.eq_1, @c50r5.eq_1, @c50r6.eq_1, @c50r7.eq_1, @c50r8.eq_1, @c50r9.eq_1, @c50r10.eq_1, @c50r12.eq_1, @c50r13.eq_1, @c50r14.eq_1⟩
theorem d50 (a b : List Int) (ha : a.length ≤ 9223372036854775807) (hb : b.length ≤ 9223372036854775807) : PC Tryd.prog 50 [vi a, vi b] (.i .i64 (cmpL a b)) := by
 refine pc_fn fn50 (by simp only [AV.plains, AV.plain, il_plain, bl_plain, Bool.and_true, Bool.true_and, Bool.and_self, il_plain]) (by simp only [AV.plains, AV.plain, il_plain, bl_plain, Bool.and_true, Bool.true_and, Bool.and_self, il_plain]) (Nat.le_of_ble_eq_true rfl) ?_
 rw [initSt2]
 repeat' first | (with_reducible first | refine kzq ?_ | refine kzs ?_ | refine kzS ?_ | refine kzR ?_ | refine kzC ?_ | refine kzH ?_ | refine kzB ?_ | refine kzK ?_ | refine kzE ?_ | refine kzg ?_) | with_reducible refine r_done ?_ | with_reducible refine s_go (by simp (disch := omega) only [RG50, EVA, plug, eq_self, simprocAttr]; with_reducible rfl) ?_ | ((with_reducible refine kzr ?_); refine zrF ?_) | (with_reducible refine zkP (fun ht => ?_) (fun ht => ?_) <;> try first | exact False.elim ht | exact absurd rfl ht | exact absurd trivial ht | exact Bool.noConfusion ht) | (with_reducible (refine k_ret ?_; repeat first | refine kzt ?_ | refine kzb ?_ | refine fin ?_)) | (with_reducible (refine kzx ?_; repeat first | refine thru ?_ | refine kzo ?_ | refine pass (by decide) ?_)) | ((first | refine post1 ?_ | refine post2 ?_ | refine post3 ?_); simp only [GA, simprocAttr]) | refine post0 ?_
 refine k_blk (k_loopS (X := Unit) [0, 1, 9, 10, 11] a.length (fun k _ => [(0, vi a), (1, vi b), (9, vi a), (10, .i .i64 a.length), (11, .i .i64 (k : Int))]) (fun k _ h => k ≤ b.length ∧ cmpL a b = cmpL (a.drop k) (b.drop k)) () (by simp only [Am.keep, ZK, simprocAttr]; try rfl) ⟨Nat.zero_le _, rfl⟩ ?_)
 rintro k _ h hk ⟨kb, e⟩ ok pos
 by_cases klt : k < a.length
 ·have klt' : (k : Int) < a.length := by omega
  have g := il_get klt
  rw [drop_cons klt] at e
  by_cases c1 : b.length ≤ k
  ·have c1' := eq_true (show (b.length : Int) ≤ k by omega)
   rw [List.drop_of_length_le c1, cmpL] at e
   rw [e]
   repeat' first | (with_reducible first | refine kzq ?_ | refine kzs ?_ | refine kzS ?_ | refine kzR ?_ | refine kzC ?_ | refine kzH ?_ | refine kzB ?_ | refine kzK ?_ | refine kzE ?_ | refine kzg ?_) | with_reducible refine r_done ?_ | with_reducible refine s_go (by simp (disch := omega) only [klt', g, c1', RG50, EVA, plug, eq_self, simprocAttr]; with_reducible rfl) ?_ | ((with_reducible refine kzr ?_); refine zrF ?_) | (with_reducible refine zkP (fun ht => ?_) (fun ht => ?_) <;> try first | exact False.elim ht | exact absurd rfl ht | exact absurd trivial ht | exact Bool.noConfusion ht) | (with_reducible (refine k_ret ?_; repeat first | refine kzt ?_ | refine kzb ?_ | refine fin ?_)) | (with_reducible (refine kzx ?_; repeat first | refine thru ?_ | refine kzo ?_ | refine pass (by decide) ?_)) | ((first | refine post1 ?_ | refine post2 ?_ | refine post3 ?_); simp only [GA, simprocAttr]) | refine post0 ?_
   all_goals first | exact ends_of | exact ends_eq rfl
  ·have c1' := eq_false (show ¬ (b.length : Int) ≤ k by omega)
   have c2 : (k : Int) < b.length := by omega
   have g2 := il_get (l := b) (j := k) (by omega)
   rw [drop_cons (l := b) (by omega), cmpL] at e
   have q := d75 (a.getD k 0) (b.getD k 0)
   generalize a.getD k 0 = x at *
   generalize b.getD k 0 = y at *
   by_cases z : cmpZ x y = 0
   ·have z' := eq_true z
    rw [if_neg (by simp [z])] at e
    repeat' first | (with_reducible first | refine kzq ?_ | refine kzs ?_ | refine kzS ?_ | refine kzR ?_ | refine kzC ?_ | refine kzH ?_ | refine kzB ?_ | refine kzK ?_ | refine kzE ?_ | refine kzg ?_) | with_reducible refine r_done ?_ | with_reducible refine s_go (by simp (disch := omega) only [klt', g, c1', c2, g2, z', RG50, EVA, plug, eq_self, simprocAttr]; with_reducible rfl) ?_ | ((with_reducible refine kzr ?_); refine zrF ?_) | ((with_reducible refine kzr ?_); refine zrP (c := by first | exact q _) (k := ?_)) | (with_reducible refine zkP (fun ht => ?_) (fun ht => ?_) <;> try first | exact False.elim ht | exact absurd rfl ht | exact absurd trivial ht | exact Bool.noConfusion ht) | (with_reducible (refine k_ret ?_; repeat first | refine kzt ?_ | refine kzb ?_ | refine fin ?_)) | (with_reducible (refine kzx ?_; repeat first | refine thru ?_ | refine kzo ?_ | refine pass (by decide) ?_)) | ((first | refine post1 ?_ | refine post2 ?_ | refine post3 ?_); simp only [GA, simprocAttr]) | refine post0 ?_
    exact ⟨klt, (), (by simp only [Am.keep, ZK, simprocAttr]; try rfl), by omega, e⟩
   ·have z' := eq_false z
    rw [if_pos z] at e
    rw [e]
    repeat' first | (with_reducible first | refine kzq ?_ | refine kzs ?_ | refine kzS ?_ | refine kzR ?_ | refine kzC ?_ | refine kzH ?_ | refine kzB ?_ | refine kzK ?_ | refine kzE ?_ | refine kzg ?_) | with_reducible refine r_done ?_ | with_reducible refine s_go (by simp (disch := omega) only [klt', g, c1', c2, g2, z', RG50, EVA, plug, eq_self, simprocAttr]; with_reducible rfl) ?_ | ((with_reducible refine kzr ?_); refine zrF ?_) | ((with_reducible refine kzr ?_); refine zrP (c := by first | exact q _) (k := ?_)) | (with_reducible refine zkP (fun ht => ?_) (fun ht => ?_) <;> try first | exact False.elim ht | exact absurd rfl ht | exact absurd trivial ht | exact Bool.noConfusion ht) | (with_reducible (refine k_ret ?_; repeat first | refine kzt ?_ | refine kzb ?_ | refine fin ?_)) | (with_reducible (refine kzx ?_; repeat first | refine thru ?_ | refine kzo ?_ | refine pass (by decide) ?_)) | ((first | refine post1 ?_ | refine post2 ?_ | refine post3 ?_); simp only [GA, simprocAttr]) | refine post0 ?_
    all_goals first | exact ends_of | exact ends_eq rfl
 ·obtain rfl : k = a.length := by omega
  have klt' : ¬ (a.length : Int) < a.length := by omega
  rw [List.drop_length] at e
  by_cases c1 : a.length < b.length
  ·have c1' := eq_true (show (a.length : Int) < b.length by omega)
   rw [drop_cons c1, cmpL] at e
   rw [e]
   repeat' first | (with_reducible first | refine kzq ?_ | refine kzs ?_ | refine kzS ?_ | refine kzR ?_ | refine kzC ?_ | refine kzH ?_ | refine kzB ?_ | refine kzK ?_ | refine kzE ?_ | refine kzg ?_) | with_reducible refine r_done ?_ | with_reducible refine s_go (by simp (disch := omega) only [klt', c1', RG50, EVA, plug, eq_self, simprocAttr]; with_reducible rfl) ?_ | ((with_reducible refine kzr ?_); refine zrF ?_) | (with_reducible refine zkP (fun ht => ?_) (fun ht => ?_) <;> try first | exact False.elim ht | exact absurd rfl ht | exact absurd trivial ht | exact Bool.noConfusion ht) | (with_reducible (refine k_ret ?_; repeat first | refine kzt ?_ | refine kzb ?_ | refine fin ?_)) | (with_reducible (refine kzx ?_; repeat first | refine thru ?_ | refine kzo ?_ | refine pass (by decide) ?_)) | ((first | refine post1 ?_ | refine post2 ?_ | refine post3 ?_); simp only [GA, simprocAttr]) | refine post0 ?_
   all_goals first | exact ends_of | exact ends_eq rfl
  ·have c1' := eq_false (show ¬ (a.length : Int) < b.length by omega)
   rw [List.drop_of_length_le (by omega), cmpL] at e
   rw [e]
   repeat' first | (with_reducible first | refine kzq ?_ | refine kzs ?_ | refine kzS ?_ | refine kzR ?_ | refine kzC ?_ | refine kzH ?_ | refine kzB ?_ | refine kzK ?_ | refine kzE ?_ | refine kzg ?_) | with_reducible refine r_done ?_ | with_reducible refine s_go (by simp (disch := omega) only [klt', c1', RG50, EVA, plug, eq_self, simprocAttr]; with_reducible rfl) ?_ | ((with_reducible refine kzr ?_); refine zrF ?_) | (with_reducible refine zkP (fun ht => ?_) (fun ht => ?_) <;> try first | exact False.elim ht | exact absurd rfl ht | exact absurd trivial ht | exact Bool.noConfusion ht) | (with_reducible (refine k_ret ?_; repeat first | refine kzt ?_ | refine kzb ?_ | refine fin ?_)) | (with_reducible (refine kzx ?_; repeat first | refine thru ?_ | refine kzo ?_ | refine pass (by decide) ?_)) | ((first | refine post1 ?_ | refine post2 ?_ | refine post3 ?_); simp only [GA, simprocAttr]) | refine post0 ?_
   all_goals first | exact ends_of | exact ends_eq rfl
theorem pk_of_asc {n : Nat} {li : List Int} (ha : asc li) (hb : inB n li) : pkOk li n = true := by
 rw [pkOk_iff]
 intro j hj
 have ej : lN li j = li[j] := by
  unfold lN
  rw [List.getD_eq_getElem?_getD, List.getElem?_eq_getElem hj]; rfl
 refine ⟨by rw [ej]; exact hb _ (List.getElem_mem hj), fun i hi => ?_⟩
 have ei : lN li i = li[i] := by
  unfold lN
  rw [List.getD_eq_getElem?_getD, List.getElem?_eq_getElem (by omega)]; rfl
 have := List.pairwise_iff_getElem.1 ha i j (by omega) hj hi
 rw [ej, ei]
 omega
theorem whole_eq {l : List Sz} {m : List Hd} {li : List Int} (hp : pkOk li l.length = true) : orS (fitL l m) li li.length = 2 ^ m.length - 1 ↔ cvsB l m li = true := by
 have P := pkOk_iff.1 hp
 unfold cvsB
 rw [decide_eq_true_eq]
 constructor
 ·intro e k hk
  have b : (orS (fitL l m) li li.length).testBit k = true := by rw [e, Nat.testBit_two_pow_sub_one]; exact decide_eq_true hk
  obtain ⟨j, hj, q⟩ := orS_bit.1 b
  have p := (P j hj).1
  rw [fitL_get (by omega)] at q
  exact anyZ_at.2 ⟨j, hj, (fitS_bit.1 q).2⟩
 ·intro h
  refine Nat.eq_of_testBit_eq fun i => ?_
  rw [Nat.testBit_two_pow_sub_one]
  by_cases hi : i < m.length
  ·rw [decide_eq_true hi]
   obtain ⟨j, hj, q⟩ := anyZ_at.1 (h i hi)
   have p := (P j hj).1
   refine orS_bit.2 ⟨j, hj, ?_⟩
   rw [fitL_get (by omega)]
   exact fitS_bit.2 ⟨hi, q⟩
  ·rw [decide_eq_false hi]
   exact Nat.testBit_lt_two_pow (Nat.lt_of_lt_of_le (orS_lt (m := m) hp (Nat.le_refl _)) (Nat.pow_le_pow_right (by omega) (by omega)))
def cvrR (l : List Sz) (m : List Hd) : List Int × Int := if chk l m ≠ 0 then ([], chk l m) else if 12 < l.length then ([], 4) else if (cvN (cvsB l m) (2 ^ l.length)).1 = true then ((cvN (cvsB l m) (2 ^ l.length)).2, 0) else ([], 32)
theorem cvN_len (p : List Int → Bool) : ∀ k, (cvN p k).2.length ≤ 64
 | 0 => Nat.zero_le _
 | k + 1 => by
   rw [cvN]; unfold cvF
   split
   ·exact bts_len k
   ·exact cvN_len p k
theorem RG18 : (type_of% @c18r0.eq_1) ∧ (type_of% @c18r1.eq_1) ∧ (type_of% @c18r2.eq_1) ∧ (type_of% @c18r3.eq_1) ∧ (type_of% @c18r4.eq_1) ∧ (type_of% @c18r5.eq_1) ∧ (type_of% @c18r6.eq_1) ∧ (type_of% @c18r7.eq_1) ∧ (type_of% @c18r8.eq_1) ∧ (type_of% @c18r9.eq_1) ∧ (type_of% @c18r10.eq_1) ∧ (type_of% @c18r11.eq_1) ∧ (type_of% @c18r12.eq_1) ∧ (type_of% @c18r13.eq_1) ∧ (type_of% @c18r14.eq_1) ∧ (type_of% @c18r15.eq_1) ∧ (type_of% @c18r16.eq_1) ∧ (type_of% @c18r17.eq_1) ∧ (type_of% @c18r18.eq_1) ∧ (type_of% @c18r19.eq_1) ∧ (type_of% @c18r21.eq_1) ∧ (type_of% @c18r22.eq_1) ∧ (type_of% @c18r23.eq_1) ∧ (type_of% @c18r25.eq_1) ∧ (type_of% @c18r26.eq_1) ∧ (type_of% @c18r27.eq_1) := ⟨@c18r0.eq_1, @c18r1.eq_1, @c18r2.eq_1, @c18r3.eq_1, @c18r4.eq_1, @c18r5.eq_1, @c18r6.eq_1, @c18r7.eq_1, @c18r8.eq_1, @c18r9.eq_1, @c18r10.eq_1, @c18r11.eq_1, @c18r12.eq_1, @c18r13.eq_1, @c18r14.eq_1, @c18r15.eq_1, @c18r16.eq_1, @c18r17.eq_1, @c18r18.eq_1, @c18r19.eq_1, @c18r21.eq_1, @c18r22.eq_1, @c18r23.eq_1, @c18r25.eq_1, @c18r26.eq_1, @c18r27.eq_1⟩
set_option maxHeartbeats 2000000 in
theorem d18 (l : List Sz) (m : List Hd) (hl : l.length ≤ 9223372036854775807) (hm : m.length ≤ 9223372036854775807) : PC Tryd.prog 18 [vZ l, vH m] (.tu [vi (cvrR l m).1, .i .i64 (cvrR l m).2]) := by
 have q1 := pc41 l m hl hm
 unfold cvrR
 refine pc_fn fn18 (by simp only [AV.plains, AV.plain, il_plain, bl_plain, Bool.and_true, Bool.true_and, Bool.and_self, fleZ_plain, fleH_plain, il_plain]) (by simp only [AV.plains, AV.plain, il_plain, bl_plain, Bool.and_true, Bool.true_and, Bool.and_self, fleZ_plain, fleH_plain, il_plain]) (Nat.le_of_ble_eq_true rfl) ?_
 rw [initSt2]
 by_cases c : chk l m = 0
 ·rw [if_neg (by simp [c])]
  rw [c] at q1
  by_cases c12 : 12 < l.length
  ·rw [if_pos c12]
   have c12' := eq_true (show (12 : Int) < l.length by omega)
   repeat' first | (with_reducible first | refine kzq ?_ | refine kzs ?_ | refine kzS ?_ | refine kzR ?_ | refine kzC ?_ | refine kzH ?_ | refine kzB ?_ | refine kzK ?_ | refine kzE ?_ | refine kzg ?_) | with_reducible refine r_done ?_ | with_reducible refine s_go (by simp (disch := omega) only [c12', RG18, EVA, plug, eq_self, simprocAttr]; with_reducible rfl) ?_ | ((with_reducible refine kzr ?_); refine zrF ?_) | ((with_reducible refine kzr ?_); refine zrP (c := by first | exact q1 _) (k := ?_)) | ((with_reducible refine kzr ?_); refine zrG (c := by intro hg; (try simp only [BO] at hg); first | exact q1 _) (k := ?_)) | (with_reducible refine zkP (fun ht => ?_) (fun ht => ?_) <;> try first | exact False.elim ht | exact absurd rfl ht | exact absurd trivial ht | exact Bool.noConfusion ht) | (with_reducible (refine k_ret ?_; repeat first | refine kzt ?_ | refine kzb ?_ | refine fin ?_)) | (with_reducible (refine kzx ?_; repeat first | refine thru ?_ | refine kzo ?_ | refine pass (by decide) ?_)) | ((first | refine post1 ?_ | refine post2 ?_ | refine post3 ?_); simp only [GA, simprocAttr]) | refine post0 ?_
   exact ends_nil2
  ·rw [if_neg c12]
   have c12' := eq_false (show ¬ (12 : Int) < l.length by omega)
   have q3 := pc48 l m (chk_ok c).1 (chk_ok c).2
   have M := (hdsOk_iff.1 (chk_ok c).2).1
   have sh1 := shl_64 (k := m.length) (by omega)
   have p1 : 0 < 2 ^ m.length := Nat.two_pow_pos _
   have p2 : 2 ^ m.length ≤ 2 ^ 40 := Nat.pow_le_pow_right (by omega) M
   have w1 : IntKind.u64.wrap (((2 ^ m.length : Nat) : Int) - 1) = ((2 ^ m.length - 1 : Nat) : Int) := by rw [wrapU]; omega
   have p3 : 2 ^ l.length ≤ 2 ^ 12 := Nat.pow_le_pow_right (by omega) (by omega)
   have sh2 : IntKind.i64.wrap (1 * 2 ^ (min l.length IntKind.i64.bits)) = ((2 ^ l.length : Nat) : Int) := by
    have e : min l.length IntKind.i64.bits = l.length := Nat.min_eq_left (by show l.length ≤ 64; omega)
    rw [e, Int.one_mul]
    have w : ∀ N : Nat, N ≤ 4096 → IntKind.i64.wrap (N : Int) = N := fun N h => wrap64 (by omega) (by omega)
    have := w _ (show 2 ^ l.length ≤ 4096 from p3)
    rw [Int.natCast_pow] at this ⊢
    exact this
   have WE := fun {li : List Int} (hp : pkOk li l.length = true) => whole_eq (m := m) hp
   repeat' first | (with_reducible first | refine kzq ?_ | refine kzs ?_ | refine kzS ?_ | refine kzR ?_ | refine kzC ?_ | refine kzH ?_ | refine kzB ?_ | refine kzK ?_ | refine kzE ?_ | refine kzg ?_) | with_reducible refine r_done ?_ | with_reducible refine s_go (by simp (disch := omega) only [c12', sh1, w1, sh2, RG18, EVA, plug, eq_self, simprocAttr]; with_reducible rfl) ?_ | ((with_reducible refine kzr ?_); refine zrF ?_) | ((with_reducible refine kzr ?_); refine zrP (c := by first | exact q1 _ | exact q3 _) (k := ?_)) | ((with_reducible refine kzr ?_); refine zrG (c := by intro hg; (try simp only [BO] at hg); first | exact q1 _ | exact q3 _) (k := ?_)) | (with_reducible refine zkP (fun ht => ?_) (fun ht => ?_) <;> try first | exact False.elim ht | exact absurd rfl ht | exact absurd trivial ht | exact Bool.noConfusion ht) | (with_reducible (refine k_ret ?_; repeat first | refine kzt ?_ | refine kzb ?_ | refine fin ?_)) | (with_reducible (refine kzx ?_; repeat first | refine thru ?_ | refine kzo ?_ | refine pass (by decide) ?_)) | ((first | refine post1 ?_ | refine post2 ?_ | refine post3 ?_); simp only [GA, simprocAttr]) | refine post0 ?_
   refine w_nilS 9 rfl ?_
   generalize hW : 2 ^ m.length - 1 = wh at *
   refine k_blk (k_loopS (X := Unit) [7, 8, 9, 10, 34, 35] (2 ^ l.length) (fun k _ => [(7, .vs l.length (nu (fitL l m))), (8, .i .u64 (wh : Int)), (9, vi (cvN (cvsB l m) k).2), (10, .b (cvN (cvsB l m) k).1), (34, .i .i64 ((2 ^ l.length : Nat) : Int)), (35, .i .i64 (k : Int))]) (fun k _ h => True) () (by simp only [Am.keep, ZK, simprocAttr]; try rfl) trivial ?_)
   rintro k _ h hk - ok pos
   by_cases klt : k < 2 ^ l.length
   ·have klt' : (k : Int) < ((2 ^ l.length : Nat) : Int) := by omega
    have cv : IntKind.u64.wrap (k : Int) = k := wrapN (by omega)
    have s64 : k < 2 ^ 64 := by omega
    have la := asc_bts k
    have lb := bts_in klt
    have ll := bts_len k
    have bl := cvN_len (cvsB l m) k
    have eT : cvsB l m (bts k) = true → ((cvN (cvsB l m) k).1 = false ∨ bet (bts k) (cvN (cvsB l m) k).2) → cvN (cvsB l m) (k + 1) = (true, bts k) := fun h1 h2 => if_pos ⟨h1, h2⟩
    have eF : (cvsB l m (bts k) = true → ¬ ((cvN (cvsB l m) k).1 = false ∨ bet (bts k) (cvN (cvsB l m) k).2)) → cvN (cvsB l m) (k + 1) = cvN (cvsB l m) k := fun h => if_neg fun q => h q.1 q.2
    have eB : ∀ a b : List Int, bet a b ↔ a.length < b.length ∨ a.length = b.length ∧ cmpL a b < 0 := fun a b => Iff.rfl
    rw [eB] at eT eF
    repeat' first | (with_reducible first | refine kzq ?_ | refine kzs ?_ | refine kzS ?_ | refine kzR ?_ | refine kzC ?_ | refine kzH ?_ | refine kzB ?_ | refine kzK ?_ | refine kzE ?_ | refine kzg ?_) | with_reducible refine r_done ?_ | with_reducible refine s_go (by simp (disch := omega) only [klt', cv, RG18, EVA, plug, eq_self, simprocAttr]; with_reducible rfl) ?_ | ((with_reducible refine kzr ?_); refine zrF ?_) | ((with_reducible refine kzr ?_); refine r_callX (by simp only [CA, simprocAttr]; rfl) (by simp only [CA, simprocAttr]; rfl) (by first | exact a43 _ _) rfl ?_) | ((with_reducible refine kzr ?_); refine r_callTX (by first | (simp only [CA, simprocAttr]; rfl) | simp only [CA, simprocAttr]) (by simp only [CA, simprocAttr]; rfl) (by simp only [CA, simprocAttr]; rfl) (by first | exact a43 _ _) rfl ?_) | (with_reducible refine zkP (fun ht => ?_) (fun ht => ?_) <;> try first | exact False.elim ht | exact absurd rfl ht | exact absurd trivial ht | exact Bool.noConfusion ht) | (with_reducible (refine k_ret ?_; repeat first | refine kzt ?_ | refine kzb ?_ | refine fin ?_)) | (with_reducible (refine kzx ?_; repeat first | refine thru ?_ | refine kzo ?_ | refine pass (by decide) ?_)) | ((first | refine post1 ?_ | refine post2 ?_ | refine post3 ?_); simp only [GA, simprocAttr]) | refine post0 ?_
    rintro r h2 ⟨t, rfl, t1, t2, t3, t4⟩
    repeat' first | (with_reducible first | refine kzq ?_ | refine kzs ?_ | refine kzS ?_ | refine kzR ?_ | refine kzC ?_ | refine kzH ?_ | refine kzB ?_ | refine kzK ?_ | refine kzE ?_ | refine kzg ?_) | with_reducible refine r_done ?_ | with_reducible refine s_go (by simp (disch := omega) only [RG18, EVA, plug, eq_self, simprocAttr]; with_reducible rfl) ?_ | ((with_reducible refine kzr ?_); refine zrF ?_) | ((with_reducible refine kzr ?_); refine r_callX (by simp only [CA, simprocAttr]; rfl) (by simp only [CA, simprocAttr]; rfl) (by first | exact n42 t k s64 _ (by simp (disch := omega) only [t2, RG18, EVA, plug, eq_self, simprocAttr])) rfl ?_) | ((with_reducible refine kzr ?_); refine r_callTX (by first | (simp only [CA, simprocAttr]; rfl) | simp only [CA, simprocAttr]) (by simp only [CA, simprocAttr]; rfl) (by simp only [CA, simprocAttr]; rfl) (by first | exact n42 t k s64 _ (by simp (disch := omega) only [t2, RG18, EVA, plug, eq_self, simprocAttr])) rfl ?_) | (with_reducible refine zkP (fun ht => ?_) (fun ht => ?_) <;> try first | exact False.elim ht | exact absurd rfl ht | exact absurd trivial ht | exact Bool.noConfusion ht) | (with_reducible (refine k_ret ?_; repeat first | refine kzt ?_ | refine kzb ?_ | refine fin ?_)) | (with_reducible (refine kzx ?_; repeat first | refine thru ?_ | refine kzo ?_ | refine pass (by decide) ?_)) | ((first | refine post1 ?_ | refine post2 ?_ | refine post3 ?_); simp only [GA, simprocAttr]) | refine post0 ?_
    rintro r h3 ⟨rfl, U⟩
    have hp := pk_of_asc la lb
    have P := pkOk_iff.1 hp
    have we := WE hp
    generalize bts k = li at *
    have pr : cvN (cvsB l m) k = ((cvN (cvsB l m) k).1, (cvN (cvsB l m) k).2) := rfl
    generalize hF : (cvN (cvsB l m) k).1 = F at *
    generalize hB : (cvN (cvsB l m) k).2 = B at *
    repeat' first | (with_reducible first | refine kzq ?_ | refine kzs ?_ | refine kzS ?_ | refine kzR ?_ | refine kzC ?_ | refine kzH ?_ | refine kzB ?_ | refine kzK ?_ | refine kzE ?_ | refine kzg ?_) | with_reducible refine r_done ?_ | with_reducible refine s_go (by simp (disch := omega) only [RG18, EVA, plug, eq_self, simprocAttr]; with_reducible rfl) ?_ | ((with_reducible refine kzr ?_); refine zrF ?_) | (with_reducible refine zkP (fun ht => ?_) (fun ht => ?_) <;> try first | exact False.elim ht | exact absurd rfl ht | exact absurd trivial ht | exact Bool.noConfusion ht) | (with_reducible (refine k_ret ?_; repeat first | refine kzt ?_ | refine kzb ?_ | refine fin ?_)) | (with_reducible (refine kzx ?_; repeat first | refine thru ?_ | refine kzo ?_ | refine pass (by decide) ?_)) | ((first | refine post1 ?_ | refine post2 ?_ | refine post3 ?_); simp only [GA, simprocAttr]) | refine post0 ?_
    refine k_blk (k_loopS (X := Unit) [7, 8, 9, 10, 12, 13, 34, 35, 42, 43, 44] li.length (fun j _ => [(7, .vs l.length (nu (fitL l m))), (8, .i .u64 (wh : Int)), (9, vi B), (10, .b F), (12, .i .u64 ((orS (fitL l m) li j : Nat) : Int)), (13, vi li), (34, .i .i64 ((2 ^ l.length : Nat) : Int)), (35, .i .i64 (k : Int)), (42, vi li), (43, .i .i64 li.length), (44, .i .i64 (j : Int))]) (fun j _ h => True) () (by simp only [Am.keep, ZK, simprocAttr]; try rfl) trivial ?_)
    rintro j _ h' hj - ok' pos'
    have lk := lt_64 (orS_lt (m := m) hp hj) M
    by_cases jlt : j < li.length
    ·have jlt' : (j : Int) < li.length := by omega
     have g : (il li)[j]? = some (.i .i64 (lN li j)) := il_get jlt
     have pk := (P j jlt).1
     obtain ⟨a, ha⟩ : ∃ a : Nat, lN li j = (a : Int) := ⟨(lN li j).toNat, by omega⟩
     have e1 : orS (fitL l m) li (j + 1) = orS (fitL l m) li j ||| fitS m (zD l a) := by
      rw [orS, ha, Int.toNat_natCast, fitL_get (by omega)]
     rw [ha] at g pk
     have al : (a : Int) < l.length := pk.2
     have g2 := nu_get (l := fitL l m) (j := a) (by simp [fitL]; omega)
     rw [fitL_get (by omega)] at g2
     have o1 := or_64 lk (lt_64 (fitS_lt (m := m) (s := zD l a)) M)
     rw [← e1] at o1
     repeat' first | (with_reducible first | refine kzq ?_ | refine kzs ?_ | refine kzS ?_ | refine kzR ?_ | refine kzC ?_ | refine kzH ?_ | refine kzB ?_ | refine kzK ?_ | refine kzE ?_ | refine kzg ?_) | with_reducible refine r_done ?_ | with_reducible refine s_go (by simp (disch := omega) only [jlt', g, al, g2, o1, RG18, EVA, plug, eq_self, simprocAttr]; with_reducible rfl) ?_ | ((with_reducible refine kzr ?_); refine zrF ?_) | (with_reducible refine zkP (fun ht => ?_) (fun ht => ?_) <;> try first | exact False.elim ht | exact absurd rfl ht | exact absurd trivial ht | exact Bool.noConfusion ht) | (with_reducible (refine k_ret ?_; repeat first | refine kzt ?_ | refine kzb ?_ | refine fin ?_)) | (with_reducible (refine kzx ?_; repeat first | refine thru ?_ | refine kzo ?_ | refine pass (by decide) ?_)) | ((first | refine post1 ?_ | refine post2 ?_ | refine post3 ?_); simp only [GA, simprocAttr]) | refine post0 ?_
     exact ⟨jlt, (), (by simp only [Am.keep, ZK, simprocAttr]; try rfl), trivial⟩
    ·obtain rfl : j = li.length := by omega
     have jlt' : ¬ (li.length : Int) < li.length := by omega
     have q50 := d50 li B (by omega) (by omega)
     generalize orS (fitL l m) li li.length = o at *
     by_cases w : o = wh
     ·have w' := eq_true (show (o : Int) = wh by omega)
      have cv1 := we.1 w
      cases F with
      | false =>
        have es := eT cv1 (.inl rfl)
        repeat' first | (with_reducible first | refine kzq ?_ | refine kzs ?_ | refine kzS ?_ | refine kzR ?_ | refine kzC ?_ | refine kzH ?_ | refine kzB ?_ | refine kzK ?_ | refine kzE ?_ | refine kzg ?_) | with_reducible refine r_done ?_ | with_reducible refine s_go (by simp (disch := omega) only [jlt', w', RG18, EVA, plug, eq_self, simprocAttr]; with_reducible rfl) ?_ | ((with_reducible refine kzr ?_); refine zrF ?_) | ((with_reducible refine kzr ?_); refine zrP (c := by first | exact q50 _) (k := ?_)) | ((with_reducible refine kzr ?_); refine zrG (c := by intro hg; (try simp only [BO] at hg); first | exact q50 _) (k := ?_)) | (with_reducible refine zkP (fun ht => ?_) (fun ht => ?_) <;> try first | exact False.elim ht | exact absurd rfl ht | exact absurd trivial ht | exact Bool.noConfusion ht) | (with_reducible (refine k_ret ?_; repeat first | refine kzt ?_ | refine kzb ?_ | refine fin ?_)) | (with_reducible (refine kzx ?_; repeat first | refine thru ?_ | refine kzo ?_ | refine pass (by decide) ?_)) | ((first | refine post1 ?_ | refine post2 ?_ | refine post3 ?_); simp only [GA, simprocAttr]) | refine post0 ?_
        exact ⟨klt, (), (by rw [es]; exact (by simp only [Am.keep, ZK, simprocAttr]; try rfl)), trivial⟩
      | true =>
        by_cases c1 : li.length < B.length
        ·have c1' := eq_true (show (li.length : Int) < B.length by omega)
         have es := eT cv1 (.inr (.inl c1))
         repeat' first | (with_reducible first | refine kzq ?_ | refine kzs ?_ | refine kzS ?_ | refine kzR ?_ | refine kzC ?_ | refine kzH ?_ | refine kzB ?_ | refine kzK ?_ | refine kzE ?_ | refine kzg ?_) | with_reducible refine r_done ?_ | with_reducible refine s_go (by simp (disch := omega) only [jlt', w', c1', RG18, EVA, plug, eq_self, simprocAttr]; with_reducible rfl) ?_ | ((with_reducible refine kzr ?_); refine zrF ?_) | ((with_reducible refine kzr ?_); refine zrP (c := by first | exact q50 _) (k := ?_)) | ((with_reducible refine kzr ?_); refine zrG (c := by intro hg; (try simp only [BO] at hg); first | exact q50 _) (k := ?_)) | (with_reducible refine zkP (fun ht => ?_) (fun ht => ?_) <;> try first | exact False.elim ht | exact absurd rfl ht | exact absurd trivial ht | exact Bool.noConfusion ht) | (with_reducible (refine k_ret ?_; repeat first | refine kzt ?_ | refine kzb ?_ | refine fin ?_)) | (with_reducible (refine kzx ?_; repeat first | refine thru ?_ | refine kzo ?_ | refine pass (by decide) ?_)) | ((first | refine post1 ?_ | refine post2 ?_ | refine post3 ?_); simp only [GA, simprocAttr]) | refine post0 ?_
         exact ⟨klt, (), (by rw [es]; exact (by simp only [Am.keep, ZK, simprocAttr]; try rfl)), trivial⟩
        ·have c1' := eq_false (show ¬ (li.length : Int) < B.length by omega)
         by_cases c2 : li.length = B.length
         ·have c2' := eq_true (show (li.length : Int) = B.length by omega)
          by_cases c3 : cmpL li B < 0
          ·have c3' := eq_true c3
           have es := eT cv1 (.inr (.inr ⟨c2, c3⟩))
           repeat' first | (with_reducible first | refine kzq ?_ | refine kzs ?_ | refine kzS ?_ | refine kzR ?_ | refine kzC ?_ | refine kzH ?_ | refine kzB ?_ | refine kzK ?_ | refine kzE ?_ | refine kzg ?_) | with_reducible refine r_done ?_ | with_reducible refine s_go (by simp (disch := omega) only [jlt', w', c1', c2', c3', RG18, EVA, plug, eq_self, simprocAttr]; with_reducible rfl) ?_ | ((with_reducible refine kzr ?_); refine zrF ?_) | ((with_reducible refine kzr ?_); refine zrP (c := by first | exact q50 _) (k := ?_)) | ((with_reducible refine kzr ?_); refine zrG (c := by intro hg; (try simp only [BO] at hg); first | exact q50 _) (k := ?_)) | (with_reducible refine zkP (fun ht => ?_) (fun ht => ?_) <;> try first | exact False.elim ht | exact absurd rfl ht | exact absurd trivial ht | exact Bool.noConfusion ht) | (with_reducible (refine k_ret ?_; repeat first | refine kzt ?_ | refine kzb ?_ | refine fin ?_)) | (with_reducible (refine kzx ?_; repeat first | refine thru ?_ | refine kzo ?_ | refine pass (by decide) ?_)) | ((first | refine post1 ?_ | refine post2 ?_ | refine post3 ?_); simp only [GA, simprocAttr]) | refine post0 ?_
           exact ⟨klt, (), (by rw [es]; exact (by simp only [Am.keep, ZK, simprocAttr]; try rfl)), trivial⟩
          ·have c3' := eq_false c3
           have es := eF fun _ => by simp [c1, c3]
           repeat' first | (with_reducible first | refine kzq ?_ | refine kzs ?_ | refine kzS ?_ | refine kzR ?_ | refine kzC ?_ | refine kzH ?_ | refine kzB ?_ | refine kzK ?_ | refine kzE ?_ | refine kzg ?_) | with_reducible refine r_done ?_ | with_reducible refine s_go (by simp (disch := omega) only [jlt', w', c1', c2', c3', RG18, EVA, plug, eq_self, simprocAttr]; with_reducible rfl) ?_ | ((with_reducible refine kzr ?_); refine zrF ?_) | ((with_reducible refine kzr ?_); refine zrP (c := by first | exact q50 _) (k := ?_)) | ((with_reducible refine kzr ?_); refine zrG (c := by intro hg; (try simp only [BO] at hg); first | exact q50 _) (k := ?_)) | (with_reducible refine zkP (fun ht => ?_) (fun ht => ?_) <;> try first | exact False.elim ht | exact absurd rfl ht | exact absurd trivial ht | exact Bool.noConfusion ht) | (with_reducible (refine k_ret ?_; repeat first | refine kzt ?_ | refine kzb ?_ | refine fin ?_)) | (with_reducible (refine kzx ?_; repeat first | refine thru ?_ | refine kzo ?_ | refine pass (by decide) ?_)) | ((first | refine post1 ?_ | refine post2 ?_ | refine post3 ?_); simp only [GA, simprocAttr]) | refine post0 ?_
           exact ⟨klt, (), (by rw [es, pr]; exact (by simp only [Am.keep, ZK, simprocAttr]; try rfl)), trivial⟩
         ·have c2' := eq_false (show ¬ (li.length : Int) = B.length by omega)
          have es := eF fun _ => by simp [c1, c2]
          repeat' first | (with_reducible first | refine kzq ?_ | refine kzs ?_ | refine kzS ?_ | refine kzR ?_ | refine kzC ?_ | refine kzH ?_ | refine kzB ?_ | refine kzK ?_ | refine kzE ?_ | refine kzg ?_) | with_reducible refine r_done ?_ | with_reducible refine s_go (by simp (disch := omega) only [jlt', w', c1', c2', RG18, EVA, plug, eq_self, simprocAttr]; with_reducible rfl) ?_ | ((with_reducible refine kzr ?_); refine zrF ?_) | ((with_reducible refine kzr ?_); refine zrP (c := by first | exact q50 _) (k := ?_)) | ((with_reducible refine kzr ?_); refine zrG (c := by intro hg; (try simp only [BO] at hg); first | exact q50 _) (k := ?_)) | (with_reducible refine zkP (fun ht => ?_) (fun ht => ?_) <;> try first | exact False.elim ht | exact absurd rfl ht | exact absurd trivial ht | exact Bool.noConfusion ht) | (with_reducible (refine k_ret ?_; repeat first | refine kzt ?_ | refine kzb ?_ | refine fin ?_)) | (with_reducible (refine kzx ?_; repeat first | refine thru ?_ | refine kzo ?_ | refine pass (by decide) ?_)) | ((first | refine post1 ?_ | refine post2 ?_ | refine post3 ?_); simp only [GA, simprocAttr]) | refine post0 ?_
          exact ⟨klt, (), (by rw [es, pr]; exact (by simp only [Am.keep, ZK, simprocAttr]; try rfl)), trivial⟩
     ·have w' := eq_false (show ¬ (o : Int) = wh by omega)
      have es := eF fun q => absurd (we.2 q) w
      repeat' first | (with_reducible first | refine kzq ?_ | refine kzs ?_ | refine kzS ?_ | refine kzR ?_ | refine kzC ?_ | refine kzH ?_ | refine kzB ?_ | refine kzK ?_ | refine kzE ?_ | refine kzg ?_) | with_reducible refine r_done ?_ | with_reducible refine s_go (by simp (disch := omega) only [jlt', w', RG18, EVA, plug, eq_self, simprocAttr]; with_reducible rfl) ?_ | ((with_reducible refine kzr ?_); refine zrF ?_) | ((with_reducible refine kzr ?_); refine zrP (c := by first | exact q50 _) (k := ?_)) | ((with_reducible refine kzr ?_); refine zrG (c := by intro hg; (try simp only [BO] at hg); first | exact q50 _) (k := ?_)) | (with_reducible refine zkP (fun ht => ?_) (fun ht => ?_) <;> try first | exact False.elim ht | exact absurd rfl ht | exact absurd trivial ht | exact Bool.noConfusion ht) | (with_reducible (refine k_ret ?_; repeat first | refine kzt ?_ | refine kzb ?_ | refine fin ?_)) | (with_reducible (refine kzx ?_; repeat first | refine thru ?_ | refine kzo ?_ | refine pass (by decide) ?_)) | ((first | refine post1 ?_ | refine post2 ?_ | refine post3 ?_); simp only [GA, simprocAttr]) | refine post0 ?_
      exact ⟨klt, (), (by rw [es, pr]; exact (by simp only [Am.keep, ZK, simprocAttr]; try rfl)), trivial⟩
   ·obtain rfl : k = 2 ^ l.length := by omega
    have klt' : ¬ ((2 ^ l.length : Nat) : Int) < ((2 ^ l.length : Nat) : Int) := by omega
    cases d : (cvN (cvsB l m) (2 ^ l.length)).1 with
    | true =>
      rw [if_pos rfl]
      repeat' first | (with_reducible first | refine kzq ?_ | refine kzs ?_ | refine kzS ?_ | refine kzR ?_ | refine kzC ?_ | refine kzH ?_ | refine kzB ?_ | refine kzK ?_ | refine kzE ?_ | refine kzg ?_) | with_reducible refine r_done ?_ | with_reducible refine s_go (by simp (disch := omega) only [klt', d, RG18, EVA, plug, eq_self, simprocAttr]; with_reducible rfl) ?_ | ((with_reducible refine kzr ?_); refine zrF ?_) | (with_reducible refine zkP (fun ht => ?_) (fun ht => ?_) <;> try first | exact False.elim ht | exact absurd rfl ht | exact absurd trivial ht | exact Bool.noConfusion ht) | (with_reducible (refine k_ret ?_; repeat first | refine kzt ?_ | refine kzb ?_ | refine fin ?_)) | (with_reducible (refine kzx ?_; repeat first | refine thru ?_ | refine kzo ?_ | refine pass (by decide) ?_)) | ((first | refine post1 ?_ | refine post2 ?_ | refine post3 ?_); simp only [GA, simprocAttr]) | refine post0 ?_
      all_goals first | exact ends_of | exact ends_eq rfl
    | false =>
      rw [if_neg (by simp)]
      repeat' first | (with_reducible first | refine kzq ?_ | refine kzs ?_ | refine kzS ?_ | refine kzR ?_ | refine kzC ?_ | refine kzH ?_ | refine kzB ?_ | refine kzK ?_ | refine kzE ?_ | refine kzg ?_) | with_reducible refine r_done ?_ | with_reducible refine s_go (by simp (disch := omega) only [klt', d, RG18, EVA, plug, eq_self, simprocAttr]; with_reducible rfl) ?_ | ((with_reducible refine kzr ?_); refine zrF ?_) | (with_reducible refine zkP (fun ht => ?_) (fun ht => ?_) <;> try first | exact False.elim ht | exact absurd rfl ht | exact absurd trivial ht | exact Bool.noConfusion ht) | (with_reducible (refine k_ret ?_; repeat first | refine kzt ?_ | refine kzb ?_ | refine fin ?_)) | (with_reducible (refine kzx ?_; repeat first | refine thru ?_ | refine kzo ?_ | refine pass (by decide) ?_)) | ((first | refine post1 ?_ | refine post2 ?_ | refine post3 ?_); simp only [GA, simprocAttr]) | refine post0 ?_
      exact ends_nil2
 ·have c' := eq_false c
  rw [if_pos c]
  repeat' first | (with_reducible first | refine kzq ?_ | refine kzs ?_ | refine kzS ?_ | refine kzR ?_ | refine kzC ?_ | refine kzH ?_ | refine kzB ?_ | refine kzK ?_ | refine kzE ?_ | refine kzg ?_) | with_reducible refine r_done ?_ | with_reducible refine s_go (by simp (disch := omega) only [c', RG18, EVA, plug, eq_self, simprocAttr]; with_reducible rfl) ?_ | ((with_reducible refine kzr ?_); refine zrF ?_) | ((with_reducible refine kzr ?_); refine zrP (c := by first | exact q1 _) (k := ?_)) | ((with_reducible refine kzr ?_); refine zrG (c := by intro hg; (try simp only [BO] at hg); first | exact q1 _) (k := ?_)) | (with_reducible refine zkP (fun ht => ?_) (fun ht => ?_) <;> try first | exact False.elim ht | exact absurd rfl ht | exact absurd trivial ht | exact Bool.noConfusion ht) | (with_reducible (refine k_ret ?_; repeat first | refine kzt ?_ | refine kzb ?_ | refine fin ?_)) | (with_reducible (refine kzx ?_; repeat first | refine thru ?_ | refine kzo ?_ | refine pass (by decide) ?_)) | ((first | refine post1 ?_ | refine post2 ?_ | refine post3 ?_); simp only [GA, simprocAttr]) | refine post0 ?_
  exact ends_nil2
end Go.Proofs.YtjaihaccehaicaaDoor
set_option linter.unusedVariables false
set_option linter.unusedSimpArgs false
namespace Go.Proofs.YtjaihaccehaicaaDoor
open Go Go.Am Go.Proofs
def an (x y : Nat) : Nat := x ^^^ (x &&& y)
theorem an_bit {x y i : Nat} : (an x y).testBit i = (x.testBit i && !y.testBit i) := by
 unfold an
 rw [Nat.testBit_xor, Nat.testBit_and]
 cases x.testBit i <;> cases y.testBit i <;> rfl
theorem an_lt {x y n : Nat} (h : x < 2 ^ n) : an x y < 2 ^ n := Nat.lt_pow_two_of_testBit _ fun i hi => by
 rw [an_bit, Nat.testBit_lt_two_pow (Nat.lt_of_lt_of_le h (Nat.pow_le_pow_right (by omega) hi))]; rfl
section
variable (l : List Sz) (m : List Hd)
def cnt (left i : Nat) : Nat := popA 64 (fitS m (zD l i) &&& left)
end
structure GI (l : List Sz) (m : List Hd) (left : Nat) (out : List Int) : Prop where
 lt : left < 2 ^ m.length
 bit : ∀ j, j < m.length → (left.testBit j = true ↔ cvdB l (hD m j) out = false)
 pk : pkOk out l.length = true
theorem cvd_iff {l : List Sz} {x : Hd} {li : List Int} : cvdB l x li = true ↔ ∃ i ∈ li, fitB (zD l i.toNat) x = true := anyZ_iff
theorem GI.zero {l : List Sz} {m : List Hd} {left : Nat} {out : List Int} (h : GI l m left out) : cvsB l m out = true ↔ left = 0 := by
 unfold cvsB
 rw [decide_eq_true_eq]
 constructor
 ·intro c
  refine Nat.eq_of_testBit_eq fun i => ?_
  rw [Nat.zero_testBit]
  by_cases hi : i < m.length
  ·rw [Bool.eq_false_iff]
   intro q
   have := (h.bit i hi).1 q
   rw [c i hi] at this; cases this
  ·exact Nat.testBit_lt_two_pow (Nat.lt_of_lt_of_le h.lt (Nat.pow_le_pow_right (by omega) (by omega)))
 ·rintro rfl k hk
  cases q : cvdB l (hD m k) out with
  | true => rfl
  | false => have := (h.bit k hk).2 q; simp at this
theorem lN_snoc {out : List Int} {b : Int} {j : Nat} : lN (out ++ [b]) j = if j < out.length then lN out j else if j = out.length then b else 0 := by
 unfold lN
 rw [List.getD_eq_getElem?_getD, List.getD_eq_getElem?_getD, List.getElem?_append]
 split
 ·rfl
 ·split
  ·rename_i h; subst h; simp
  ·rw [List.getElem?_eq_none (by simp; omega)]; rfl
theorem GI.step {l : List Sz} {m : List Hd} {left : Nat} {out : List Int} (h : GI l m left out) {b : Nat} (hb : b < l.length) (hc : 0 < cnt l m left b) : GI l m (an left (fitS m (zD l b))) (out ++ [(b : Int)]) where
 lt := an_lt h.lt
 bit j hj := by
  rw [an_bit, Bool.and_eq_true, h.bit j hj, Bool.not_eq_true', ← Bool.not_eq_true (Nat.testBit _ _), fitS_bit]
  rw [← Bool.not_eq_true, ← Bool.not_eq_true, cvd_iff, cvd_iff]
  simp only [List.mem_append, List.mem_singleton]
  constructor
  ·rintro ⟨h1, h2⟩ ⟨i, hi | rfl, q⟩
   ·exact h1 ⟨i, hi, q⟩
   ·exact h2 ⟨hj, by rw [Int.toNat_natCast] at q; exact q⟩
  ·intro q
   exact ⟨fun ⟨i, hi, r⟩ => q ⟨i, .inl hi, r⟩, fun ⟨_, r⟩ => q ⟨b, .inr rfl, by rw [Int.toNat_natCast]; exact r⟩⟩
 pk := by
  have P := pkOk_iff.1 h.pk
  obtain ⟨j, hj, q⟩ := pop_one.1 hc
  rw [Nat.testBit_and, Bool.and_eq_true, fitS_bit] at q
  have nc := (h.bit j q.1.1).1 q.2
  rw [← Bool.not_eq_true, cvd_iff] at nc
  have ne : ∀ i, i < out.length → lN out i ≠ b := fun i hi e => nc ⟨lN out i, by
   unfold lN
   rw [List.getD_eq_getElem?_getD, List.getElem?_eq_getElem hi]; exact List.getElem_mem hi, by rw [e, Int.toNat_natCast]; exact q.1.2⟩
  rw [pkOk_iff]
  intro k hk
  rw [List.length_append, List.length_singleton] at hk
  rw [lN_snoc]
  by_cases e : k < out.length
  ·rw [if_pos e]
   refine ⟨(P k e).1, fun i hi => ?_⟩
   rw [lN_snoc, if_pos (by omega)]
   exact (P k e).2 i hi
  ·obtain rfl : k = out.length := by omega
   rw [if_neg e, if_pos rfl]
   refine ⟨by omega, fun i hi => ?_⟩
   rw [lN_snoc, if_pos hi]
   exact ne i hi
def rngI (n : Nat) : List Int := (List.range n).map fun i : Nat => (i : Int)
theorem rngI_asc (n : Nat) : asc (rngI n) ∧ inB n (rngI n) := by
 refine ⟨?_, fun x hx => ?_⟩
 ·unfold asc rngI
  rw [List.pairwise_map]
  exact List.pairwise_lt_range.imp fun q => by omega
 ·obtain ⟨i, hi, rfl⟩ := List.mem_map.1 hx
  have := List.mem_range.1 hi
  omega
theorem rngI_succ (n : Nat) : rngI (n + 1) = rngI n ++ [(n : Int)] := by simp [rngI, List.range_succ]
theorem rngI_len (n : Nat) : (rngI n).length = n := by simp [rngI]
end Go.Proofs.YtjaihaccehaicaaDoor
set_option linter.unusedVariables false
set_option linter.unusedSimpArgs false
namespace Go.Proofs.YtjaihaccehaicaaDoor
open Go Go.Am Go.Proofs
theorem cvrR_len (l : List Sz) (m : List Hd) : (cvrR l m).1.length ≤ 64 := by
 unfold cvrR
 split
 ·exact Nat.zero_le _
 ·split
  ·exact Nat.zero_le _
  ·split
   ·exact cvN_len _ _
   ·exact Nat.zero_le _
end Go.Proofs.YtjaihaccehaicaaDoor
set_option linter.unusedVariables false
set_option linter.unusedSimpArgs false
namespace Go.Proofs.YtjaihaccehaicaaDoor
open Go Go.Am Go.Proofs
theorem lN_mem {l : List Int} {j : Nat} (h : j < l.length) : lN l j ∈ l := by
 unfold lN
 rw [List.getD_eq_getElem?_getD, List.getElem?_eq_getElem h]
 exact List.getElem_mem h
theorem mem_lN {l : List Int} {x : Int} (h : x ∈ l) : ∃ j, j < l.length ∧ lN l j = x := by
 obtain ⟨j, hj, e⟩ := List.getElem_of_mem h
 refine ⟨j, hj, ?_⟩
 unfold lN
 rw [List.getD_eq_getElem?_getD, List.getElem?_eq_getElem hj]
 exact e
theorem pk_in {l : List Int} {n : Nat} (h : pkOk l n = true) : inB n l := fun x hx => by
 obtain ⟨j, hj, rfl⟩ := mem_lN hx
 exact ((pkOk_iff.1 h) j hj).1
theorem pk_nodup {l : List Int} {n : Int} (h : pkOk l n = true) : l.Nodup := by
 have P := pkOk_iff.1 h
 refine List.pairwise_iff_getElem.2 fun i j hi hj hij e => (P j hj).2 i hij ?_
 unfold lN
 rw [List.getD_eq_getElem?_getD, List.getD_eq_getElem?_getD, List.getElem?_eq_getElem hi, List.getElem?_eq_getElem hj]
 exact e
theorem cvs_iff {l : List Sz} {m : List Hd} {li : List Int} : cvsB l m li = true ↔ ∀ k, k < m.length → ∃ i ∈ li, fitB (zD l i.toNat) (hD m k) = true := by
 unfold cvsB
 rw [decide_eq_true_eq]
 exact forall_congr' fun k => forall_congr' fun _ => cvd_iff
theorem cvs_apart {l : List Sz} {m : List Hd} {li ap : List Int} (hp : pkOk li l.length = true) (ha : pkOk ap m.length = true) (hc : cvsB l m li = true) (hy : aptB l m ap = true) : ap.length ≤ li.length := by
 have A : ∀ i, i < ap.length → ∀ j, j < i → ∀ s, s < l.length → ¬ apP l m ap i j s := of_decide_eq_true hy
 refine pig (R := fun s v => s.toNat < l.length ∧ fitB (zD l s.toNat) (hD m v.toNat) = true) (pk_nodup ha) (fun v hv => ?_) fun s u v hu hv ⟨sn, h1⟩ ⟨_, h2⟩ => ?_
 ·have b := pk_in ha v hv
  obtain ⟨i, hi, q⟩ := cvs_iff.1 hc v.toNat (by omega)
  have := pk_in hp i hi
  exact ⟨i, hi, by omega, q⟩
 ·obtain ⟨i, hi, rfl⟩ := mem_lN hu
  obtain ⟨j, hj, rfl⟩ := mem_lN hv
  rcases Nat.lt_trichotomy i j with q | q | q
  ·exact absurd ⟨h2, h1⟩ (A j hj i q s.toNat sn)
  ·rw [q]
  ·exact absurd ⟨h1, h2⟩ (A i hi j q s.toNat sn)
theorem cvs_asc {l : List Sz} {m : List Hd} {li : List Int} (hl : l.length ≤ 64) (hp : pkOk li l.length = true) (hc : cvsB l m li = true) : ∃ r, cand (cvsB l m) l.length r ∧ r.length ≤ li.length := by
 have b := pk_in hp
 have M : ∀ {x : Int}, x ∈ bts (shS li li.length) ↔ x ∈ li := fun {x} => bts_mem hl b
 refine ⟨bts (shS li li.length), ⟨asc_bts _, bts_in (shS_lt2 b), cvs_iff.2 fun k hk => ?_⟩, pig (R := fun s v => s = v) (asc_nodup (asc_bts _)) (fun v hv => ⟨v, M.1 hv, rfl⟩) fun s u v _ _ h1 h2 => h1.symm.trans h2⟩
 obtain ⟨i, hi, q⟩ := cvs_iff.1 hc k hk
 exact ⟨i, M.2 hi, q⟩
theorem cvr_ok {l : List Sz} {m : List Hd} (h : (cvrR l m).2 = 0) : chk l m = 0 ∧ l.length ≤ 12 ∧ Least (cvsB l m) l.length (cvrR l m).1 := by
 unfold cvrR at h ⊢
 by_cases c : chk l m = 0
 ·rw [if_neg (by simp [c])] at h ⊢
  by_cases c12 : 12 < l.length
  ·rw [if_pos c12] at h; cases h
  ·rw [if_neg c12] at h ⊢
   by_cases d : (cvN (cvsB l m) (2 ^ l.length)).1 = true
   ·rw [if_pos d] at h ⊢
    exact ⟨c, by omega, (cvN_least (by omega)).1 d⟩
   ·rw [if_neg d] at h; cases h
 ·rw [if_pos c] at h; exact absurd h c
theorem cvr_pk {l : List Sz} {m : List Hd} (h : (cvrR l m).2 = 0) : pkOk (cvrR l m).1 l.length = true := pk_of_asc (cvr_ok h).2.2.1.1 (cvr_ok h).2.2.1.2.1
theorem least_le {l : List Sz} {m : List Hd} (h : (cvrR l m).2 = 0) {li : List Int} (hp : pkOk li l.length = true) (hc : cvsB l m li = true) : (cvrR l m).1.length ≤ li.length := by
 obtain ⟨h1, h2, h3⟩ := cvr_ok h
 obtain ⟨r, hr, hle⟩ := cvs_asc (by omega) hp hc
 have := h3.2 r hr
 have : ¬ r.length < (cvrR l m).1.length := fun q => this (.inl q)
 omega
theorem cov_eq {l : List Sz} {m : List Hd} {li : List Int} (c : chk l m = 0) (h : pkOk li l.length = true) : covR l m li = (cvsB l m li, 0) := by
 unfold covR
 rw [if_neg (by simp [c]), if_neg (by simp [h])]
end Go.Proofs.YtjaihaccehaicaaDoor
set_option linter.unusedVariables false
set_option linter.unusedSimpArgs false
namespace Go.Am
variable {dfs : List Deferred}
def litV (k : Nat) (zero cs : List AV) : AV := if zero.length = 0 then .sl 0 0 0 k else .vs (zero.length / k) cs
def ordB (P : Program) (tok : Nat) (o : AOp) (st : St) (h : AH) (v : AV) (h' : AH) : Prop :=
 (∃ k b x y, o = .app k b x y ∧ h.app k b tok (x.val st) (y.val st) = some (v, h')) ∨
 (∃ f args fid fst caps, o = .call f args ∧ f.val st = .fn fid fst caps ∧ CallsA P tok fid (fst ++ args.map (AX.val st) ++ caps) h fun r h1 => r = v ∧ h1 = h')
def litB (o : AOp) (st : St) (v : AV) : Prop := ∃ k zero parts cs, o = .bsl k zero parts ∧ afill (AX.val st) zero parts = some cs ∧ k ≠ 0 ∧ (zero.length / k) * k = cs.length ∧ v = litV k zero cs
def evLp (P : Program) (hT : AH) (base : Nat) (O E : List Nat) : List AOper → Nat → St → AH → (St → AH → Prop) → Prop
 | [], _, st, h, K => K st h
 | o :: os, i, st, h, K =>
   (o.op.isVal = true ∧ O.contains i = false ∧ ∃ v, okG P 0 hT o st hT v none ∧ evLp P hT base O E os (i + 1) (put o.d v st) h K) ∨
   (o.g = none ∧ O.contains i = true ∧ ∃ v h', ordB P (base + i) o.op st h v h' ∧ (∀ t c, hT.m t = some c → h'.m t = some c) ∧ (∀ e ∈ E, h'.m (base + e) = none) ∧ evLp P hT base O E os (i + 1) (put o.d v st) h' K) ∨
   (o.g = none ∧ O.contains i = false ∧ i ∈ E ∧ ∃ v, litB o.op st v ∧ evLp P hT base O E os (i + 1) (put o.d v st) h K)
section
variable {P : Program} {N : Nat} {Q : Exit → St → AH → Prop} {st0 : St} {h0 hT : AH} {w0 : World} {ι0 : Inj} {base : Nat} {ops : Array Oper} {aops : List AOper} {dep : Nat → Nat → Prop} {m : Nat} {O E : List Nat}
def LpS (P : Program) (hT : AH) (base : Nat) (O E : List Nat) (aops : List AOper) (st0 : St) (ρ : Nat → AV) (η : Nat → AH) (j : Nat) (ao : AOper) : Prop :=
 (ao.op.isVal = true ∧ O.contains j = false ∧ η (j + 1) = η j ∧ okG P 0 hT ao (stD aops ρ st0 full j) hT (ρ j) none) ∨
 (ao.g = none ∧ O.contains j = true ∧ ordB P (base + j) ao.op (stD aops ρ st0 full j) (η j) (ρ j) (η (j + 1))) ∨
 (ao.g = none ∧ O.contains j = false ∧ j ∈ E ∧ η (j + 1) = η j ∧ litB ao.op (stD aops ρ st0 full j) (ρ j))
theorem lp_ok (hm : m ≤ aops.length) {K : St → AH → Prop} : ∀ (k i : Nat), i + k = m → ∀ (ρ0 : Nat → AV) (η0 : Nat → AH), (∀ t c, hT.m t = some c → (η0 i).m t = some c) → (∀ e ∈ E, (η0 i).m (base + e) = none) →
 evLp P hT base O E ((aops.drop i).take k) i (stD aops ρ0 st0 full i) (η0 i) K →
 ∃ ρ η, (∀ j, j < i → ρ j = ρ0 j) ∧ (∀ j, j ≤ i → η j = η0 j) ∧ (∀ j ao, i ≤ j → j < m → aops[j]? = some ao → LpS P hT base O E aops st0 ρ η j ao) ∧
   (∀ j, i ≤ j → j ≤ m → (∀ t c, hT.m t = some c → (η j).m t = some c) ∧ ∀ e ∈ E, (η j).m (base + e) = none) ∧ K (stD aops ρ st0 full m) (η m)
 | 0, i, hi, ρ0, η0, hs, hf, e => by
   simp only [List.take_zero, evLp] at e
   have : i = m := by omega
   subst this
   exact ⟨ρ0, η0, fun _ _ => rfl, fun _ _ => rfl, fun j ao h1 h2 => by omega, fun j h1 h2 => by (obtain rfl : j = i := (by omega)); exact ⟨hs, hf⟩, e⟩
 | k + 1, i, hi, ρ0, η0, hs, hf, e => by
   have hlt : i < aops.length := by omega
   rw [List.drop_eq_getElem_cons hlt, List.take_succ_cons] at e
   have step : ∀ (v : AV) (h1 : AH), (∀ t c, hT.m t = some c → h1.m t = some c) → (∀ e ∈ E, h1.m (base + e) = none) → evLp P hT base O E ((aops.drop (i + 1)).take k) (i + 1) (put aops[i].d v (stD aops ρ0 st0 full i)) h1 K →
    LpS P hT base O E aops st0 (fun j => if j = i then v else ρ0 j) (fun j => if j = i + 1 then h1 else η0 j) i aops[i] →
    ∃ ρ η, (∀ j, j < i → ρ j = ρ0 j) ∧ (∀ j, j ≤ i → η j = η0 j) ∧ (∀ j ao, i ≤ j → j < m → aops[j]? = some ao → LpS P hT base O E aops st0 ρ η j ao) ∧
      (∀ j, i ≤ j → j ≤ m → (∀ t c, hT.m t = some c → (η j).m t = some c) ∧ ∀ e ∈ E, (η j).m (base + e) = none) ∧ K (stD aops ρ st0 full m) (η m) := by
    intro v h1 hs1 hf1 e1 hone
    let ρ1 : Nat → AV := fun j => if j = i then v else ρ0 j
    let η1 : Nat → AH := fun j => if j = i + 1 then h1 else η0 j
    have low1 : ∀ j, j < i → ρ1 j = ρ0 j := fun j hj => by (have : j ≠ i := (by omega)); simp [ρ1, this]
    have e2 : stD aops ρ1 st0 full (i + 1) = put aops[i].d v (stD aops ρ0 st0 full i) := by
     simp only [stD, full, if_true, List.getElem?_eq_getElem hlt, Option.bind_some]
     rw [stD_congr (ρ := ρ1) (ρ' := ρ0) (D := full) (D' := full) fun j hj => ⟨low1 j hj, rfl⟩]
     simp [ρ1]
    obtain ⟨ρ, η, q1, q2, q3, q4, q5⟩ := lp_ok hm k (i + 1) (by omega) ρ1 η1 (by simpa [η1] using hs1) (by simpa [η1] using hf1) (by rw [e2]; simpa [η1] using e1)
    have hρi : ρ i = v := by rw [q1 i (by omega)]; simp [ρ1]
    have hst : stD aops ρ st0 full i = stD aops (fun j => if j = i then v else ρ0 j) st0 full i := stD_congr fun j hj => ⟨q1 j (by omega), rfl⟩
    have hG : η (i + 1) = h1 := by rw [q2 (i + 1) (Nat.le_refl _)]; simp [η1]
    have hGi : η i = η0 i := by rw [q2 i (by omega)]; simp [η1]
    refine ⟨ρ, η, fun j hj => (q1 j (by omega)).trans (low1 j hj), fun j hj => by rw [q2 j (by omega)]; (have : j ≠ i + 1 := (by omega)); simp [η1, this], fun j ao hij hjm hao => ?_, fun j hij hjm => ?_, q5⟩
    ·by_cases hji : j = i
     ·subst hji
      have hao' : aops[j] = ao := by rw [List.getElem?_eq_getElem hlt] at hao; simpa using hao
      rw [hao'] at hone
      unfold LpS at hone ⊢
      rw [hst, hρi, hG, hGi]
      simpa using hone
     ·exact q3 j ao (by omega) hjm hao
    ·by_cases hji : j = i
     ·subst hji; rw [hGi]; exact ⟨hs, hf⟩
     ·exact q4 j (by omega) hjm
   have hst0 : ∀ v, stD aops (fun j => if j = i then v else ρ0 j) st0 full i = stD aops ρ0 st0 full i := fun v => stD_congr fun l hl => ⟨if_neg (by omega), rfl⟩
   simp only [evLp] at e
   rcases e with ⟨hv, hO, v, hok, e⟩ | ⟨hg, hO, v, h', hor, hs', hf', e⟩ | ⟨hg, hO, hE, v, hl, e⟩
   ·refine step v (η0 i) hs hf e (.inl ⟨hv, hO, by simp, ?_⟩)
    rw [hst0]; simpa using hok
   ·refine step v h' hs' hf' e (.inr (.inl ⟨hg, hO, ?_⟩))
    rw [hst0]; simpa using hor
   ·refine step v (η0 i) hs hf e (.inr (.inr ⟨hg, hO, hE, by simp, ?_⟩))
    rw [hst0]; simpa using hl
theorem put_VRel {st : St} {d : Option Nat} {v v' : AV} {ι ι' : Inj} {a : Act} (le : ι.le ι') (ar : ARel N dfs ι (put d v st) a) (hv : ∀ u, VRel ι v u → VRel ι' v' u) : ARel N dfs ι' (put d v' st) a :=
 ⟨ar.size, ar.defs, ar.tab.mono le, fun x => by
  have := ar.slot x
  rw [put_get] at this ⊢
  by_cases e : d = some x
  ·rw [if_pos e] at this ⊢; exact hv _ this
  ·rw [if_neg e] at this ⊢; exact this.mono le⟩
theorem lit_inv {F : Nat → Prop} {n tok : Nat} {h : AH} {a : Act} {w : World} {ι : Inj} {st : St} {d : Option Nat} {k : Nat} {zero cs : List AV} (hf : h.m tok = none) (hk : k ≠ 0) (hl : (zero.length / k) * k = cs.length)
 (I : Inv N dfs ι0 h0 w0 base n F (put d (if zero.length = 0 then .sl 0 0 0 k else .sl tok 0 (if k = 0 then 0 else zero.length / k) k) st) (h.set tok (.cells true cs)) a w ι) :
 ∃ ι', Inv N dfs ι0 h0 w0 base n F (put d (litV k zero cs) st) h a w ι' := by
 have hle : h.le (h.set tok (.cells true cs)) := ⟨fun t c ht => by
  have : t ≠ tok := fun e => by subst e; rw [hf] at ht; cases ht
  simp [AH.set, this, ht], Nat.le_refl _⟩
 by_cases z : zero.length = 0
 ·refine ⟨ι, ?_, I.wr.drop hle, I.ex.drop hle, I.fr, I.nx, I.b0, I.b1⟩
  have := I.ar
  unfold litV
  rw [if_pos z] at this ⊢
  exact this
 ·have hm : (h.set tok (.cells true cs)).m tok = some (.cells true cs) := by simp [AH.set]
  have eh : (h.set tok (.cells true cs)).kill tok = h := by
   have : ((h.set tok (.cells true cs)).kill tok).m = h.m := by
    funext t
    simp only [AH.kill, AH.set]
    by_cases e : t = tok
    ·subst e; simp [hf]
    ·simp [e]
   cases h
   simp only [AH.kill, AH.set] at this ⊢
   rw [this]
  obtain ⟨ι', le, hfn, FA, wr', ex'⟩ : ∃ ι' : Inj, ι.le ι' ∧ (∀ t, ι' t = ι t) ∧ FrzAt ι ι' tok cs ∧ WRel ι' h w ∧ Ext ι0 h0 w0 ι' h w := by
   cases hlo : ι tok with
   | none =>
     have hb := (I.wr.blk tok _ hm).2
     simp only [BRel] at hb
     rcases hb with ⟨rfl, _⟩ | ⟨l, _, _, _, h1, _⟩
     ·exact ⟨ι, Inj.le_refl _, fun _ => rfl, ⟨I.wr.nil, .inl ⟨hlo, rfl⟩⟩, I.wr.drop hle, I.ex.drop hle⟩
     ·rw [hlo] at h1; cases h1
   | some l =>
     obtain ⟨xs, hp, _, hr, _, h2, h3⟩ := I.wr.freeze hm hlo
     rw [eh] at h2 h3
     exact ⟨ι.fr l.b xs, Inj.le_fr hp, fun _ => rfl, ⟨I.wr.nil, .inr ⟨l, xs, hlo, by simp [Inj.fr], hr⟩⟩, h2, h3 I.ex⟩
  refine ⟨ι', put_VRel le I.ar fun u hu => ?_, wr', ex', fun j hj hF => by rw [hfn]; exact I.fr j hj hF, I.nx, I.b0, I.b1⟩
  unfold litV
  rw [if_neg z] at hu ⊢
  rw [if_neg hk] at hu
  have fv := @FrzV.sl tok cs 0 (zero.length / k) k k (by omega)
  rw [List.drop_zero, hl, List.take_length] at fv
  exact FrzV.rel le FA fv hu
variable {QQ : Exit → Act → World → Prop} {K : St → AH → Prop}
end
section
variable {P : Program} {N : Nat} {Q : Exit → St → AH → Prop} {K : St → AH → Prop} {st : St} {h hT : AH} {base : Nat} {O E : List Nat}
theorem lp_val {o : AOper} {os : List AOper} {i : Nat} {st1 : St} {K : St → AH → Prop} (hv : o.op.isVal = true) (hO : O.contains i = false) (e : runS true 0 [o] i (some (st, hT)) = .done st1 hT) (k : evLp P hT base O E os (i + 1) st1 h K) : evLp P hT base O E (o :: os) i st h K := by
 simp only [runS] at e
 split at e
 ·cases e
 ·cases hs : stepU (0 + i) o st hT with
  | none => rw [hs, runS_none] at e; cases e
  | some p =>
    obtain ⟨st2, h2⟩ := p
    rw [hs] at e
    obtain ⟨v, rfl, rfl, hok⟩ := okG_stepU (P := P) (tok' := 0) (hb := hT) hv hs
    simp only [runS] at e
    cases e
    simp only [evLp]
    exact .inl ⟨hv, hO, v, hok, k⟩
theorem lp_app {d : Option Nat} {kk b : Nat} {x y : AX} {os : List AOper} {i : Nat} {v : AV} {h' : AH} {K : St → AH → Prop} (hO : O.contains i = true) (e : h.app kk b (base + i) (x.val st) (y.val st) = some (v, h')) (hs : ∀ t c, hT.m t = some c → h'.m t = some c) (hf : ∀ e ∈ E, h'.m (base + e) = none)
 (k : evLp P hT base O E os (i + 1) (put d v st) h' K) : evLp P hT base O E (⟨d, none, .app kk b x y⟩ :: os) i st h K :=
 .inr (.inl ⟨rfl, hO, v, h', .inl ⟨_, _, _, _, rfl, e⟩, hs, hf, k⟩)
theorem lp_lit {d : Option Nat} {kk : Nat} {zero cs : List AV} {parts : List (Nat × Nat × AX)} {os : List AOper} {i : Nat} {v : AV} {K : St → AH → Prop} (hO : O.contains i = false) (hE : i ∈ E) (e : afill (AX.val st) zero parts = some cs) (hk : kk ≠ 0) (hl : (zero.length / kk) * kk = cs.length) (hv : litV kk zero cs = v)
 (k : evLp P hT base O E os (i + 1) (put d v st) h K) : evLp P hT base O E (⟨d, none, .bsl kk zero parts⟩ :: os) i st h K :=
 .inr (.inr ⟨rfl, hO, hE, v, ⟨_, _, _, cs, rfl, e, hk, hl, hv.symm⟩, k⟩)
theorem PC.frz {f : Nat} {args args' : List AV} {v : AV} (c : PC P f args v) {t : Nat} {cs : List AV} (hm : h.m t = some (.cells true cs)) (F : FrzVs t cs args' args) : ACalls P f args' h fun r h' => r = v ∧ h' = h.kill t := by
 refine ⟨(c h).ex, fun ι w vs wr hv => ?_⟩
 obtain ⟨ι', le, FA, wr', ex⟩ := frz_world wr hm (FrzH.kill t cs h)
 refine Calls.mono ((c (h.kill t)).run ι' w vs wr' (FrzVs.rel le FA F hv)) fun e w' he => ?_
 obtain ⟨u, r, h', ι2, rfl, ⟨rfl, rfl⟩, q1, q2, q3⟩ := he
 exact ⟨u, _, _, ι2, rfl, ⟨rfl, rfl⟩, q1, q2, ex.trans q3⟩
theorem w_hp {c : AC} (F : AH → Prop) (hF : F h) (k : ∀ h', F h' → h'.ok → 0 < h'.nx → W P N c Q st h') : W P N c Q st h := w_ok fun ok pos => k h hF ok pos
theorem lp_done {i : Nat} {K : St → AH → Prop} (k : K st h) : evLp P hT base O E [] i st h K := k
end
end Go.Am
set_option linter.unusedVariables false
set_option linter.unusedSimpArgs false
namespace Go.Proofs.YtjaihaccehaicaaDoor
open Go Go.Am Go.Proofs
theorem zD_snoc {l : List Sz} {s : Sz} {i : Nat} (h : i < l.length) : zD (l ++ [s]) i = zD l i := by
 unfold zD
 rw [List.getD_eq_getElem?_getD, List.getD_eq_getElem?_getD, List.getElem?_append, if_pos h]
end Go.Proofs.YtjaihaccehaicaaDoor
set_option linter.unusedVariables false
set_option linter.unusedSimpArgs false
namespace Go.Proofs.YtjaihaccehaicaaDoor
open Go Go.Am Go.Proofs
def sZ (l : List Int) (j : Nat) : Int := (srtZ l).getD j 0
theorem sZ_le {l : List Int} {i j : Nat} (h : i ≤ j) (hj : j < l.length) : sZ l i ≤ sZ l j := by
 have hj' : j < (srtZ l).length := by rw [srtZ_len]; exact hj
 unfold sZ
 rw [List.getD_eq_getElem?_getD, List.getD_eq_getElem?_getD, List.getElem?_eq_getElem hj', List.getElem?_eq_getElem (by omega)]
 simp only [Option.getD_some]
 by_cases e : i = j
 ·subst e; exact Int.le_refl _
 ·exact (List.pairwise_iff_getElem.1 (srtZ_asc l)) i j _ _ (by omega)
theorem sZ_mem {l : List Int} {j : Nat} (hj : j < l.length) : sZ l j ∈ l := by
 have hj' : j < (srtZ l).length := by rw [srtZ_len]; exact hj
 unfold sZ
 rw [List.getD_eq_getElem?_getD, List.getElem?_eq_getElem hj']
 exact srtZ_mem.1 (List.getElem_mem hj')
theorem mem_sZ {l : List Int} {v : Int} (h : v ∈ l) : ∃ j, j < l.length ∧ v = sZ l j := by
 obtain ⟨j, hj, e⟩ := List.getElem_of_mem (srtZ_mem.2 h)
 refine ⟨j, by rw [srtZ_len] at hj; exact hj, ?_⟩
 unfold sZ
 rw [List.getD_eq_getElem?_getD, List.getElem?_eq_getElem hj]
 exact e.symm
structure SprI (l : List Int) (w : Int) (k : Nat) (o : List Int) : Prop where
 p : o.Pairwise fun x y => x + w < y
 m : ∀ x ∈ o, ∃ j, j < k ∧ x = sZ l j
 c : ∀ j, j < k → ∃ b ∈ o, b ≤ sZ l j ∧ sZ l j ≤ b + w
 t : ∀ x ∈ o, x ≤ lastZ o
theorem spr_inv {l : List Int} {w : Int} (hw : 0 ≤ w) : ∀ k, k ≤ l.length → SprI l w k (sprL l w k)
 | 0, _ => ⟨List.Pairwise.nil, (fun x hx => by simp [sprL] at hx), (fun j hj => by omega), fun x hx => by simp [sprL] at hx⟩
 | k + 1, h => by
   have ih := spr_inv (l := l) hw k (by omega)
   rw [sprL_succ (by omega)]
   generalize sprL l w k = o at ih
   have m' : ∀ x ∈ o, ∃ j, j < k + 1 ∧ x = sZ l j := fun x hx => let ⟨j, hj, e⟩ := ih.m x hx; ⟨j, by omega, e⟩
   by_cases c : opP w o ((srtZ l).getD k 0)
   ·rw [sprF_yes c]
    refine ⟨List.pairwise_append.2 ⟨ih.p, List.pairwise_singleton _ _, fun x hx y hy => ?_⟩, fun x hx => ?_, fun j hj => ?_, fun x hx => ?_⟩
    ·rw [List.mem_singleton.1 hy]
     rcases c with c | c
     ·rw [List.length_eq_zero_iff.1 c] at hx; cases hx
     ·have := ih.t x hx; omega
    ·rcases List.mem_append.1 hx with q | q
     ·exact m' x q
     ·exact ⟨k, by omega, List.mem_singleton.1 q⟩
    ·by_cases e : j = k
     ·subst e; exact ⟨sZ l j, List.mem_append_right _ (List.mem_singleton.2 rfl), by omega, by omega⟩
     ·obtain ⟨b, hb, q⟩ := ih.c j (by omega)
      exact ⟨b, List.mem_append_left _ hb, q⟩
    ·rw [lastZ_snoc]
     rcases List.mem_append.1 hx with q | q
     ·obtain ⟨j, hj, rfl⟩ := ih.m x q
      exact sZ_le (by omega) (by omega)
     ·rw [List.mem_singleton.1 q]; exact Int.le_refl _
   ·rw [sprF_no c]
    refine ⟨ih.p, m', fun j hj => ?_, ih.t⟩
    by_cases e : j = k
    ·subst e
     unfold opP at c
     have hm := lastZ_mem (o := o) (by omega)
     obtain ⟨i, hi, ei⟩ := ih.m _ hm
     have := sZ_le (l := l) (i := i) (j := j) (by omega) (by omega)
     refine ⟨lastZ o, hm, by omega, ?_⟩
     show (srtZ l).getD j 0 ≤ _
     omega
    ·exact ih.c j (by omega)
def tZ (l : List Int) (j : Nat) : Int := sZ l (l.length - 1 - j)
theorem tZ_le {l : List Int} {i j : Nat} (h : i ≤ j) (hj : j < l.length) : tZ l j ≤ tZ l i := sZ_le (by omega) (by omega)
theorem tZ_mem {l : List Int} {j : Nat} (hj : j < l.length) : tZ l j ∈ l := sZ_mem (by omega)
theorem mem_tZ {l : List Int} {v : Int} (h : v ∈ l) : ∃ j, j < l.length ∧ v = tZ l j := by
 obtain ⟨j, hj, e⟩ := mem_sZ h
 refine ⟨l.length - 1 - j, by omega, ?_⟩
 unfold tZ
 rw [show l.length - 1 - (l.length - 1 - j) = j by omega]
 exact e
structure StbI (l : List Int) (w : Int) (k : Nat) (o : List Int) : Prop where
 p : o.Pairwise fun x y => y + w < x
 m : ∀ x ∈ o, ∃ j, j < k ∧ x = tZ l j - w
 c : ∀ j, j < k → ∃ b ∈ o, b ≤ tZ l j ∧ tZ l j ≤ b + w
 t : ∀ x ∈ o, lastZ o ≤ x
theorem stb_inv {l : List Int} {w : Int} (hw : 0 ≤ w) : ∀ k, k ≤ l.length → StbI l w k (stabL l w k)
 | 0, _ => ⟨List.Pairwise.nil, (fun x hx => by simp [stabL] at hx), (fun j hj => by omega), fun x hx => by simp [stabL] at hx⟩
 | k + 1, h => by
   have ih := stb_inv (l := l) hw k (by omega)
   rw [stabL_succ (by omega)]
   generalize stabL l w k = o at ih
   have m' : ∀ x ∈ o, ∃ j, j < k + 1 ∧ x = tZ l j - w := fun x hx => let ⟨j, hj, e⟩ := ih.m x hx; ⟨j, by omega, e⟩
   show StbI l w (k + 1) (stabF w o (tZ l k))
   by_cases c : opS o (tZ l k)
   ·rw [stabF_yes c]
    refine ⟨List.pairwise_append.2 ⟨ih.p, List.pairwise_singleton _ _, fun x hx y hy => ?_⟩, fun x hx => ?_, fun j hj => ?_, fun x hx => ?_⟩
    ·rw [List.mem_singleton.1 hy]
     rcases c with c | c
     ·rw [List.length_eq_zero_iff.1 c] at hx; cases hx
     ·have := ih.t x hx; omega
    ·rcases List.mem_append.1 hx with q | q
     ·exact m' x q
     ·exact ⟨k, by omega, List.mem_singleton.1 q⟩
    ·by_cases e : j = k
     ·subst e; exact ⟨tZ l j - w, List.mem_append_right _ (List.mem_singleton.2 rfl), by omega, by omega⟩
     ·obtain ⟨b, hb, q⟩ := ih.c j (by omega)
      exact ⟨b, List.mem_append_left _ hb, q⟩
    ·rw [lastZ_snoc]
     rcases List.mem_append.1 hx with q | q
     ·obtain ⟨j, hj, rfl⟩ := ih.m x q
      have := tZ_le (l := l) (i := j) (j := k) (by omega) (by omega)
      omega
     ·rw [List.mem_singleton.1 q]; exact Int.le_refl _
   ·rw [stabF_no c]
    refine ⟨ih.p, m', fun j hj => ?_, ih.t⟩
    by_cases e : j = k
    ·subst e
     unfold opS at c
     have hm := lastZ_mem (o := o) (by omega)
     obtain ⟨i, hi, ei⟩ := ih.m _ hm
     have := tZ_le (l := l) (i := i) (j := j) (by omega) (by omega)
     exact ⟨lastZ o, hm, by omega, by omega⟩
    ·exact ih.c j (by omega)
theorem spr_nodup {w : Int} (hw : 0 ≤ w) {o : List Int} (h : o.Pairwise fun x y => x + w < y) : o.Nodup := h.imp fun q => by omega
theorem spr_apart {w : Int} {o : List Int} (h : o.Pairwise fun x y => x + w < y) : ∀ {s u v : Int}, u ∈ o → v ∈ o → s ≤ u → u ≤ s + w → s ≤ v → v ≤ s + w → u = v := by
 induction h with
 | nil => intro s u v hu; cases hu
 | @cons a o ha _ ih =>
   intro s u v hu hv h1 h2 h3 h4
   rcases List.mem_cons.1 hu with rfl | hu2
   ·rcases List.mem_cons.1 hv with rfl | hv
    ·rfl
    ·have := ha v hv; omega
   ·rcases List.mem_cons.1 hv with rfl | hv
    ·have := ha u hu2; omega
    ·exact ih hu2 hv h1 h2 h3 h4
theorem cover_ge {l : List Int} {w : Int} (hw : 0 ≤ w) {li : List Int} (h : ∀ v ∈ l, ∃ s ∈ li, s ≤ v ∧ v ≤ s + w) : (sprL l w l.length).length ≤ li.length := by
 have I := spr_inv (l := l) hw l.length (Nat.le_refl _)
 refine pig (R := fun s v => s ≤ v ∧ v ≤ s + w) (spr_nodup hw I.p) (fun v hv => ?_) (fun s u v hu hv h1 h2 => spr_apart I.p hu hv h1.1 h1.2 h2.1 h2.2)
 obtain ⟨j, hj, rfl⟩ := I.m v hv
 exact h _ (sZ_mem hj)
theorem stab_covers {l : List Int} {w : Int} (hw : 0 ≤ w) : ∀ v ∈ l, ∃ s ∈ stabL l w l.length, s ≤ v ∧ v ≤ s + w := fun v hv => by
 have I := stb_inv (l := l) hw l.length (Nat.le_refl _)
 obtain ⟨j, hj, rfl⟩ := mem_tZ hv
 exact I.c j hj
theorem stab_le {l : List Int} {w : Int} (hw : 0 ≤ w) : (stabL l w l.length).length ≤ (sprL l w l.length).length := by
 have I := stb_inv (l := l) hw l.length (Nat.le_refl _)
 have J := spr_inv (l := l) hw l.length (Nat.le_refl _)
 have nd : (stabL l w l.length).Nodup := I.p.imp fun q => by omega
 have ap : ∀ {o : List Int}, o.Pairwise (fun x y => y + w < x) → ∀ {s u v : Int}, u ∈ o → v ∈ o → s ≤ u + w → u ≤ s → s ≤ v + w → v ≤ s → u = v := fun {o} h => by
  induction h with
  | nil => intro s u v hu; cases hu
  | @cons a o ha _ ih =>
    intro s u v hu hv h1 h2 h3 h4
    rcases List.mem_cons.1 hu with rfl | hu2
    ·rcases List.mem_cons.1 hv with rfl | hv
     ·rfl
     ·have := ha v hv; omega
    ·rcases List.mem_cons.1 hv with rfl | hv
     ·have := ha u hu2; omega
     ·exact ih hu2 hv h1 h2 h3 h4
 refine pig (R := fun s v => s ≤ v + w ∧ v ≤ s) nd (fun v hv => ?_) (fun s u v hu hv h1 h2 => ap I.p hu hv h1.1 h1.2 h2.1 h2.2)
 obtain ⟨j, hj, rfl⟩ := I.m v hv
 obtain ⟨i, hi, e⟩ := mem_sZ (tZ_mem (l := l) hj)
 obtain ⟨b, hb, h1, h2⟩ := J.c i hi
 exact ⟨b, hb, by omega, by omega⟩
theorem as_many {l : List Int} {w : Int} (hw : 0 ≤ w) : (stabL l w l.length).length = (sprL l w l.length).length := Nat.le_antisymm (stab_le hw) (cover_ge hw (stab_covers hw))
end Go.Proofs.YtjaihaccehaicaaDoor
set_option linter.unusedVariables false
set_option linter.unusedSimpArgs false
namespace Go.Proofs.YtjaihaccehaicaaDoor
open Go Go.Am Go.Proofs
theorem frz_il {t : Nat} {l : List Int} {n a : Nat} (h : n = l.length) : FrzV t (il l) (.sl t 0 n a) (.vs n (il l)) := by
 have := @FrzV.sl t (il l) 0 n 1 a (by rw [il_len]; omega)
 rwa [List.drop_zero, Nat.mul_one, List.take_of_length_le (by rw [il_len]; omega)] at this
theorem spr_fit : sprR [1, 2, 4, 7, 8] 3 = ([1, 7], 0) := by
 have s : srtZ [1, 2, 4, 7, 8] = [1, 2, 4, 7, 8] := List.mergeSort_of_pairwise (by simp)
 have a : anyZ farZ [1, 2, 4, 7, 8] = false := by decide
 have v : valR [1, 2, 4, 7, 8] 3 = ([1, 2, 4, 7, 8], 0) := by
  unfold valR
  rw [if_neg (by decide), if_neg (by rw [a]; decide), s]
 unfold sprR sprL
 rw [v, s]
 decide
theorem d24 : PC Tryd.prog 24 [] (.b true) := by
 have q := pc13 [1, 2, 4, 7, 8] (by decide) 3
 rw [spr_fit] at q
 have il5 : il [1, 2, 4, 7, 8] = [.i .i64 1, .i .i64 2, .i .i64 4, .i .i64 7, .i .i64 8] := rfl
 have fz := fun t => frz_il (t := t) (l := [1, 2, 4, 7, 8]) (n := 5) (a := 1) rfl
 rw [il5] at fz
 simp only [vi, il5, List.length_cons, List.length_nil, Nat.zero_add, Nat.reduceAdd] at q
 have il2 : il [1, 7] = [.i .i64 1, .i .i64 7] := rfl
 rw [il2] at q
 refine pc_fn fn24 (by simp only [AV.plains, AV.plain, il_plain, bl_plain, Bool.and_true, Bool.true_and, Bool.and_self]) (by simp only [AV.plains, AV.plain, il_plain, bl_plain, Bool.and_true, Bool.true_and, Bool.and_self]) (Nat.le_of_ble_eq_true rfl) ?_
 rw [initSt0]
 repeat' first | (with_reducible first | refine kzq ?_ | refine kzs ?_ | refine kzS ?_ | refine kzR ?_ | refine kzC ?_ | refine kzH ?_ | refine kzB ?_ | refine kzK ?_ | refine kzE ?_ | refine kzg ?_) | with_reducible refine r_done ?_ | with_reducible refine s_go (by simp (disch := omega) only [c24r0, c24r1, c24r2, EVA, plug, eq_self, simprocAttr]; with_reducible rfl) ?_ | ((with_reducible refine kzr ?_); refine zrF ?_) | ((with_reducible refine kzr ?_); refine r_callX (by simp only [CA, simprocAttr]; rfl) (by simp only [CA, simprocAttr]; rfl) (by first | exact q.frz (by simp (disch := omega) only [c24r0, c24r1, c24r2, EVA, plug, eq_self, simprocAttr] <;> rfl) (.cons (fz _) (.cons .same .nil))) rfl ?_) | (with_reducible refine zkP (fun ht => ?_) (fun ht => ?_) <;> try first | exact False.elim ht | exact absurd rfl ht | exact absurd trivial ht | exact Bool.noConfusion ht) | (with_reducible (refine k_ret ?_; repeat first | refine kzt ?_ | refine kzb ?_ | refine fin ?_)) | (with_reducible (refine kzx ?_; repeat first | refine thru ?_ | refine kzo ?_ | refine pass (by decide) ?_)) | ((first | refine post1 ?_ | refine post2 ?_ | refine post3 ?_); simp only [GA, simprocAttr]) | refine post0 ?_
 rintro r h ⟨rfl, rfl⟩
 repeat' first | (with_reducible first | refine kzq ?_ | refine kzs ?_ | refine kzS ?_ | refine kzR ?_ | refine kzC ?_ | refine kzH ?_ | refine kzB ?_ | refine kzK ?_ | refine kzE ?_ | refine kzg ?_) | with_reducible refine r_done ?_ | with_reducible refine s_go (by simp (disch := omega) only [rd_one, c24r0, c24r1, c24r2, EVA, plug, eq_self, simprocAttr]; with_reducible rfl) ?_ | ((with_reducible refine kzr ?_); refine zrF ?_) | (with_reducible refine zkP (fun ht => ?_) (fun ht => ?_) <;> try first | exact False.elim ht | exact absurd rfl ht | exact absurd trivial ht | exact Bool.noConfusion ht) | (with_reducible (refine k_ret ?_; repeat first | refine kzt ?_ | refine kzb ?_ | refine fin ?_)) | (with_reducible (refine kzx ?_; repeat first | refine thru ?_ | refine kzo ?_ | refine pass (by decide) ?_)) | ((first | refine post1 ?_ | refine post2 ?_ | refine post3 ?_); simp only [GA, simprocAttr]) | refine post0 ?_
 all_goals first | exact ends_of | exact ends_eq rfl
theorem RG60 : (type_of% @c60r0.eq_1) ∧ (type_of% @c60r1.eq_1) ∧ (type_of% @c60r2.eq_1) ∧ (type_of% @c60r3.eq_1) ∧ (type_of% @c60r4.eq_1) ∧ (type_of% @c60r5.eq_1) ∧ (type_of% @c60r6.eq_1) ∧ (type_of% @c60r8.eq_1) := ⟨@c60r0.eq_1, @c60r1.eq_1, @c60r2.eq_1, @c60r3.eq_1, @c60r4.eq_1, @c60r5.eq_1, @c60r6.eq_1, @c60r8.eq_1⟩
theorem d60 (n : Nat) (hn : n ≤ 100) : PC Tryd.prog 60 [.i .i64 (n : Int)] (vi (rngI n)) := by
 refine pc_fn fn60 (by simp only [AV.plains, AV.plain, il_plain, bl_plain, Bool.and_true, Bool.true_and, Bool.and_self, il_plain]) (by simp only [AV.plains, AV.plain, il_plain, bl_plain, Bool.and_true, Bool.true_and, Bool.and_self, il_plain]) (Nat.le_of_ble_eq_true rfl) ?_
 rw [initSt1]
 repeat' first | (with_reducible first | refine kzq ?_ | refine kzs ?_ | refine kzS ?_ | refine kzR ?_ | refine kzC ?_ | refine kzH ?_ | refine kzB ?_ | refine kzK ?_ | refine kzE ?_ | refine kzg ?_) | with_reducible refine r_done ?_ | with_reducible refine s_go (by simp (disch := omega) only [RG60, EVA, plug, eq_self, simprocAttr]; with_reducible rfl) ?_ | ((with_reducible refine kzr ?_); refine zrF ?_) | (with_reducible refine zkP (fun ht => ?_) (fun ht => ?_) <;> try first | exact False.elim ht | exact absurd rfl ht | exact absurd trivial ht | exact Bool.noConfusion ht) | (with_reducible (refine k_ret ?_; repeat first | refine kzt ?_ | refine kzb ?_ | refine fin ?_)) | (with_reducible (refine kzx ?_; repeat first | refine thru ?_ | refine kzo ?_ | refine pass (by decide) ?_)) | ((first | refine post1 ?_ | refine post2 ?_ | refine post3 ?_); simp only [GA, simprocAttr]) | refine post0 ?_
 refine w_virt 1 3 rfl ?_
 refine k_blk (k_loopS (X := Nat) [3, 5, 6] n (fun k y => [(3, .sl y 0 k 1), (5, .i .i64 (n : Int)), (6, .i .i64 (k : Int))]) (fun k y h => y ≠ 0 ∧ h.m y = some (.cells true (il (rngI k)))) _ (by simp only [Am.keep, ZK, simprocAttr]; try rfl) ⟨?_, by simp (disch := omega) only [RG60, EVA, plug, eq_self, simprocAttr] <;> rfl⟩ ?_)
 ·simp only [AH.bump_nx]; omega
 rintro k y h hk ⟨hy, hmy⟩ ok pos
 have ly := ok.m hmy
 by_cases klt : k < n
 ·have klt' : (k : Int) < n := by omega
  have rs := rngI_succ k
  have rl := rngI_len k
  repeat' first | (with_reducible first | refine kzq ?_ | refine kzs ?_ | refine kzS ?_ | refine kzR ?_ | refine kzC ?_ | refine kzH ?_ | refine kzB ?_ | refine kzK ?_ | refine kzE ?_ | refine kzg ?_) | with_reducible refine r_done ?_ | with_reducible refine s_go (by simp (disch := omega) only [klt', hmy, row_m hmy, hy, il_len, rl, RG60, EVA, plug, eq_self, simprocAttr]; with_reducible rfl) ?_ | ((with_reducible refine kzr ?_); refine zrF ?_) | (with_reducible refine zkP (fun ht => ?_) (fun ht => ?_) <;> try first | exact False.elim ht | exact absurd rfl ht | exact absurd trivial ht | exact Bool.noConfusion ht) | (with_reducible (refine k_ret ?_; repeat first | refine kzt ?_ | refine kzb ?_ | refine fin ?_)) | (with_reducible (refine kzx ?_; repeat first | refine thru ?_ | refine kzo ?_ | refine pass (by decide) ?_)) | ((first | refine post1 ?_ | refine post2 ?_ | refine post3 ?_); simp only [GA, simprocAttr]) | refine post0 ?_
  refine ⟨klt, _, (by simp only [Am.keep, ZK, simprocAttr]; try rfl), ?_, ?_⟩
  ·first | omega | (simp only [AH.bump_nx, AH.set_nx, AH.kill_nx]; omega)
  ·rw [rs]
   simp (disch := omega) only [RG60, EVA, plug, eq_self, simprocAttr] <;> rfl
 ·obtain rfl : k = n := by omega
  have klt' : ¬ (k : Int) < k := by omega
  repeat' first | (with_reducible first | refine kzq ?_ | refine kzs ?_ | refine kzS ?_ | refine kzR ?_ | refine kzC ?_ | refine kzH ?_ | refine kzB ?_ | refine kzK ?_ | refine kzE ?_ | refine kzg ?_) | with_reducible refine r_done ?_ | with_reducible refine s_go (by simp (disch := omega) only [klt', RG60, EVA, plug, eq_self, simprocAttr]; with_reducible rfl) ?_ | ((with_reducible refine kzr ?_); refine zrF ?_) | (with_reducible refine zkP (fun ht => ?_) (fun ht => ?_) <;> try first | exact False.elim ht | exact absurd rfl ht | exact absurd trivial ht | exact Bool.noConfusion ht) | (with_reducible (refine k_ret ?_; repeat first | refine kzt ?_ | refine kzb ?_ | refine fin ?_)) | (with_reducible (refine kzx ?_; repeat first | refine thru ?_ | refine kzo ?_ | refine pass (by decide) ?_)) | ((first | refine post1 ?_ | refine post2 ?_ | refine post3 ?_); simp only [GA, simprocAttr]) | refine post0 ?_
  have rl := rngI_len k
  have e : vi (rngI k) = .vs k (il (rngI k)) := by rw [vi, rl]
  rw [e]
  exact ends_sl (k := 1) hmy (by rw [il_len, rl, Nat.mul_one])
def wit1 (m : List Hd) (v : Int) : Nat → List Int
 | 0 => []
 | k + 1 => if (wit1 m v k).length ≠ 0 then wit1 m v k else if (hD m k).M 0 = v then [(k : Int)] else []
def witK (m : List Hd) (b : List Int) : Nat → List Int
 | 0 => []
 | k + 1 => witK m b k ++ wit1 m (lN b k) m.length
theorem wit1_none {m : List Hd} {v : Int} : ∀ {k : Nat}, (∀ j, j < k → (hD m j).M 0 ≠ v) → wit1 m v k = []
 | 0, _ => rfl
 | k + 1, h => by
   rw [wit1, wit1_none fun j hj => h j (by omega)]
   rw [if_neg (by simp), if_neg (h k (by omega))]
theorem wit1_at {m : List Hd} {v : Int} {i : Nat} (h : ∀ j, j < i → (hD m j).M 0 ≠ v) (hi : (hD m i).M 0 = v) : ∀ {n : Nat}, i < n → wit1 m v n = [(i : Int)]
 | n + 1, hn => by
   rw [wit1]
   by_cases e : i = n
   ·subst e
    rw [wit1_none h, if_neg (by simp), if_pos hi]
   ·rw [wit1_at h hi (n := n) (by omega), if_pos (by simp)]
theorem wit1_len (m : List Hd) (v : Int) : ∀ k, (wit1 m v k).length ≤ 1
 | 0 => Nat.zero_le _
 | k + 1 => by
   rw [wit1]
   split
   ·exact wit1_len m v k
   ·split <;> simp
theorem witK_len (m : List Hd) (b : List Int) : ∀ k, (witK m b k).length ≤ k
 | 0 => Nat.zero_le _
 | k + 1 => by
   rw [witK, List.length_append]
   have := wit1_len m (lN b k) m.length
   have := witK_len m b k
   omega
theorem RG59 : (type_of% @c59r0.eq_1) ∧ (type_of% @c59r1.eq_1) ∧ (type_of% @c59r2.eq_1) ∧ (type_of% @c59r3.eq_1) ∧ (type_of% @c59r4.eq_1) ∧ (type_of% @c59r5.eq_1) ∧ (type_of% @c59r6.eq_1) ∧ (type_of% @c59r7.eq_1) ∧ (type_of% @c59r8.eq_1) ∧ (type_of% @c59r9.eq_1) ∧ (type_of% @c59r10.eq_1) ∧ (type_of% @c59r12.eq_1) ∧ (type_of% @c59r14.eq_1) := ⟨@c59r0.eq_1, @c59r1.eq_1, @c59r2.eq_1, @c59r3.eq_1, @c59r4.eq_1, @c59r5.eq_1, @c59r6.eq_1, @c59r7.eq_1, @c59r8.eq_1, @c59r9.eq_1, @c59r10.eq_1, @c59r12.eq_1, @c59r14.eq_1⟩
theorem d59 (m : List Hd) (b : List Int) (hm : m.length ≤ 9223372036854775807) (hb : b.length ≤ 1000) : PC Tryd.prog 59 [vH m, vi b] (vi (witK m b b.length)) := by
 refine pc_fn fn59 (by simp only [AV.plains, AV.plain, il_plain, bl_plain, Bool.and_true, Bool.true_and, Bool.and_self, fleH_plain, il_plain]) (by simp only [AV.plains, AV.plain, il_plain, bl_plain, Bool.and_true, Bool.true_and, Bool.and_self, fleH_plain, il_plain]) (Nat.le_of_ble_eq_true rfl) ?_
 rw [initSt2]
 repeat' first | (with_reducible first | refine kzq ?_ | refine kzs ?_ | refine kzS ?_ | refine kzR ?_ | refine kzC ?_ | refine kzH ?_ | refine kzB ?_ | refine kzK ?_ | refine kzE ?_ | refine kzg ?_) | with_reducible refine r_done ?_ | with_reducible refine s_go (by simp (disch := omega) only [RG59, EVA, plug, eq_self, simprocAttr]; with_reducible rfl) ?_ | ((with_reducible refine kzr ?_); refine zrF ?_) | (with_reducible refine zkP (fun ht => ?_) (fun ht => ?_) <;> try first | exact False.elim ht | exact absurd rfl ht | exact absurd trivial ht | exact Bool.noConfusion ht) | (with_reducible (refine k_ret ?_; repeat first | refine kzt ?_ | refine kzb ?_ | refine fin ?_)) | (with_reducible (refine kzx ?_; repeat first | refine thru ?_ | refine kzo ?_ | refine pass (by decide) ?_)) | ((first | refine post1 ?_ | refine post2 ?_ | refine post3 ?_); simp only [GA, simprocAttr]) | refine post0 ?_
 refine w_virt 1 5 rfl ?_
 refine k_blk (k_loopS (X := Nat) [0, 5, 10, 11, 12] b.length (fun k y => [(0, vH m), (5, .sl y 0 (witK m b k).length 1), (10, vi b), (11, .i .i64 b.length), (12, .i .i64 (k : Int))]) (fun k y h => y ≠ 0 ∧ h.m y = some (.cells true (il (witK m b k)))) _ (by simp only [Am.keep, ZK, simprocAttr]; try rfl) ⟨?_, by simp (disch := omega) only [RG59, EVA, plug, eq_self, simprocAttr] <;> rfl⟩ ?_)
 ·simp only [AH.bump_nx]; omega
 rintro k y h hk ⟨hy, hmy⟩ ok pos
 have ly := ok.m hmy
 have wl := witK_len m b k
 by_cases klt : k < b.length
 ·have klt' : (k : Int) < b.length := by omega
  have g : (il b)[k]? = some (.i .i64 (lN b k)) := il_get klt
  have ws : witK m b (k + 1) = witK m b k ++ wit1 m (lN b k) m.length := rfl
  generalize hv : lN b k = v at *
  repeat' first | (with_reducible first | refine kzq ?_ | refine kzs ?_ | refine kzS ?_ | refine kzR ?_ | refine kzC ?_ | refine kzH ?_ | refine kzB ?_ | refine kzK ?_ | refine kzE ?_ | refine kzg ?_) | with_reducible refine r_done ?_ | with_reducible refine s_go (by simp (disch := omega) only [klt', g, RG59, EVA, plug, eq_self, simprocAttr]; with_reducible rfl) ?_ | ((with_reducible refine kzr ?_); refine zrF ?_) | (with_reducible refine zkP (fun ht => ?_) (fun ht => ?_) <;> try first | exact False.elim ht | exact absurd rfl ht | exact absurd trivial ht | exact Bool.noConfusion ht) | (with_reducible (refine k_ret ?_; repeat first | refine kzt ?_ | refine kzb ?_ | refine fin ?_)) | (with_reducible (refine kzx ?_; repeat first | refine thru ?_ | refine kzo ?_ | refine pass (by decide) ?_)) | ((first | refine post1 ?_ | refine post2 ?_ | refine post3 ?_); simp only [GA, simprocAttr]) | refine post0 ?_
  refine k_blk (k_loopS (X := Unit) [0, 5, 7, 10, 11, 12, 16, 17, 18] m.length (fun i _ => [(0, vH m), (5, .sl y 0 (witK m b k).length 1), (7, .i .i64 v), (10, vi b), (11, .i .i64 b.length), (12, .i .i64 (k : Int)), (16, vH m), (17, .i .i64 m.length), (18, .i .i64 (i : Int))])
   (fun i _ h' => h'.m y = some (.cells true (il (witK m b k))) ∧ ∀ j, j < i → (hD m j).M 0 ≠ v) () (by simp only [Am.keep, ZK, simprocAttr]; try rfl) ⟨by simp (disch := omega) only [hmy, RG59, EVA, plug, eq_self, simprocAttr], fun j hj => by omega⟩ ?_)
  rintro i _ h' hi ⟨hmy', hn⟩ ok' pos'
  have ly' := ok'.m hmy'
  by_cases ilt : i < m.length
  ·have ilt' : (i : Int) < m.length := by omega
   have rI := rdH ilt
   have y9 : ¬ y = h'.nx + 1 + 3 := by omega
   have y9' : ¬ h'.nx + 1 + 3 = y := by omega
   by_cases c : (hD m i).M 0 = v
   ·have c' := eq_true c
    have e := wit1_at hn c ilt
    rw [e] at ws
    have el : (witK m b (k + 1)).length = (witK m b k).length + 1 := by rw [ws]; simp
    repeat' first | (with_reducible first | refine kzq ?_ | refine kzs ?_ | refine kzS ?_ | refine kzR ?_ | refine kzC ?_ | refine kzH ?_ | refine kzB ?_ | refine kzK ?_ | refine kzE ?_ | refine kzg ?_) | with_reducible refine r_done ?_ | with_reducible refine s_go (by simp (disch := omega) only [ilt', rI, c', hmy', row_m hmy', hy, il_len, y9, y9', rd_one, RG59, EVA, plug, eq_self, simprocAttr]; with_reducible rfl) ?_ | ((with_reducible refine kzr ?_); refine zrF ?_) | (with_reducible refine zkP (fun ht => ?_) (fun ht => ?_) <;> try first | exact False.elim ht | exact absurd rfl ht | exact absurd trivial ht | exact Bool.noConfusion ht) | (with_reducible (refine k_ret ?_; repeat first | refine kzt ?_ | refine kzb ?_ | refine fin ?_)) | (with_reducible (refine kzx ?_; repeat first | refine thru ?_ | refine kzo ?_ | refine pass (by decide) ?_)) | ((first | refine post1 ?_ | refine post2 ?_ | refine post3 ?_); simp only [GA, simprocAttr]) | refine post0 ?_
    refine ⟨klt, _, (by rw [el]; simp only [Am.keep, List.map_cons, List.map_nil, GA, simprocAttr]; try rfl), ?_, ?_⟩
    ·first | omega | (simp only [AH.bump_nx, AH.set_nx, AH.kill_nx]; omega)
    ·rw [ws]
     simp (disch := omega) only [RG59, EVA, plug, eq_self, simprocAttr] <;> rfl
   ·have c' := eq_false c
    repeat' first | (with_reducible first | refine kzq ?_ | refine kzs ?_ | refine kzS ?_ | refine kzR ?_ | refine kzC ?_ | refine kzH ?_ | refine kzB ?_ | refine kzK ?_ | refine kzE ?_ | refine kzg ?_) | with_reducible refine r_done ?_ | with_reducible refine s_go (by simp (disch := omega) only [ilt', rI, c', rd_one, RG59, EVA, plug, eq_self, simprocAttr]; with_reducible rfl) ?_ | ((with_reducible refine kzr ?_); refine zrF ?_) | (with_reducible refine zkP (fun ht => ?_) (fun ht => ?_) <;> try first | exact False.elim ht | exact absurd rfl ht | exact absurd trivial ht | exact Bool.noConfusion ht) | (with_reducible (refine k_ret ?_; repeat first | refine kzt ?_ | refine kzb ?_ | refine fin ?_)) | (with_reducible (refine kzx ?_; repeat first | refine thru ?_ | refine kzo ?_ | refine pass (by decide) ?_)) | ((first | refine post1 ?_ | refine post2 ?_ | refine post3 ?_); simp only [GA, simprocAttr]) | refine post0 ?_
    refine ⟨ilt, (), (by simp only [Am.keep, ZK, simprocAttr]; try rfl), by simp (disch := omega) only [hmy', y9, RG59, EVA, plug, eq_self, simprocAttr], fun j hj => ?_⟩
    by_cases e : j = i
    ·subst e; exact c
    ·exact hn j (by omega)
  ·obtain rfl : i = m.length := by omega
   have ilt' : ¬ (m.length : Int) < m.length := by omega
   rw [wit1_none hn, List.append_nil] at ws
   repeat' first | (with_reducible first | refine kzq ?_ | refine kzs ?_ | refine kzS ?_ | refine kzR ?_ | refine kzC ?_ | refine kzH ?_ | refine kzB ?_ | refine kzK ?_ | refine kzE ?_ | refine kzg ?_) | with_reducible refine r_done ?_ | with_reducible refine s_go (by simp (disch := omega) only [ilt', RG59, EVA, plug, eq_self, simprocAttr]; with_reducible rfl) ?_ | ((with_reducible refine kzr ?_); refine zrF ?_) | (with_reducible refine zkP (fun ht => ?_) (fun ht => ?_) <;> try first | exact False.elim ht | exact absurd rfl ht | exact absurd trivial ht | exact Bool.noConfusion ht) | (with_reducible (refine k_ret ?_; repeat first | refine kzt ?_ | refine kzb ?_ | refine fin ?_)) | (with_reducible (refine kzx ?_; repeat first | refine thru ?_ | refine kzo ?_ | refine pass (by decide) ?_)) | ((first | refine post1 ?_ | refine post2 ?_ | refine post3 ?_); simp only [GA, simprocAttr]) | refine post0 ?_
   exact ⟨klt, y, (by rw [ws]; exact (by simp only [Am.keep, ZK, simprocAttr]; try rfl)), hy, by rw [ws]; simp (disch := omega) only [hmy', RG59, EVA, plug, eq_self, simprocAttr]⟩
 ·obtain rfl : k = b.length := by omega
  have klt' : ¬ (b.length : Int) < b.length := by omega
  repeat' first | (with_reducible first | refine kzq ?_ | refine kzs ?_ | refine kzS ?_ | refine kzR ?_ | refine kzC ?_ | refine kzH ?_ | refine kzB ?_ | refine kzK ?_ | refine kzE ?_ | refine kzg ?_) | with_reducible refine r_done ?_ | with_reducible refine s_go (by simp (disch := omega) only [klt', RG59, EVA, plug, eq_self, simprocAttr]; with_reducible rfl) ?_ | ((with_reducible refine kzr ?_); refine zrF ?_) | (with_reducible refine zkP (fun ht => ?_) (fun ht => ?_) <;> try first | exact False.elim ht | exact absurd rfl ht | exact absurd trivial ht | exact Bool.noConfusion ht) | (with_reducible (refine k_ret ?_; repeat first | refine kzt ?_ | refine kzb ?_ | refine fin ?_)) | (with_reducible (refine kzx ?_; repeat first | refine thru ?_ | refine kzo ?_ | refine pass (by decide) ?_)) | ((first | refine post1 ?_ | refine post2 ?_ | refine post3 ?_); simp only [GA, simprocAttr]) | refine post0 ?_
  exact ends_sl (k := 1) hmy (by rw [il_len, Nat.mul_one])
def lasZ (i : Nat) (s w : Int) : Sz := ⟨(i : Int) + 1, fun k => if k = 0 then max s 0 else 0, fun k => if k = 0 then s + w else 3000, fun _ => 0, 0⟩
def lasP (i k : Nat) : Sz := ⟨(i : Int) + 1, fun _ => 0, fun j => if j < k then 3000 else 0, fun _ => 0, 0⟩
theorem lasP_set {i k : Nat} (h : k < 5) : (eZ (lasP i k)).set (6 + k) (.i .i64 3000) = eZ (lasP i (k + 1)) := by
 rcases k with _ | _ | _ | _ | _ | k <;> first | rfl | omega
def lasL (a : List Int) (w : Int) : Nat → List Sz
 | 0 => []
 | k + 1 => lasL a w k ++ [lasZ k (lN a k) w]
theorem lasL_len (a : List Int) (w : Int) : ∀ k, (lasL a w k).length = k
 | 0 => rfl
 | k + 1 => by rw [lasL, List.length_append, lasL_len a w k]; rfl
theorem lasL_at {a : List Int} {w : Int} {i : Nat} : ∀ {k : Nat}, i < k → zD (lasL a w k) i = lasZ i (lN a i) w
 | k + 1, h => by
   rw [lasL]
   by_cases e : i = k
   ·subst e
    unfold zD
    rw [List.getD_eq_getElem?_getD, List.getElem?_append_right (by rw [lasL_len]; exact Nat.le_refl _), lasL_len, Nat.sub_self]
    rfl
   ·rw [zD_snoc (by rw [lasL_len]; omega)]
    exact lasL_at (by omega)
theorem RG58 : (type_of% @c58r0.eq_1) ∧ (type_of% @c58r1.eq_1) ∧ (type_of% @c58r2.eq_1) ∧ (type_of% @c58r3.eq_1) ∧ (type_of% @c58r4.eq_1) ∧ (type_of% @c58r5.eq_1) ∧ (type_of% @c58r6.eq_1) ∧ (type_of% @c58r7.eq_1) ∧ (type_of% @c58r8.eq_1) ∧ (type_of% @c58r9.eq_1) ∧ (type_of% @c58r10.eq_1) ∧ (type_of% @c58r12.eq_1) ∧ (type_of% @c58r13.eq_1) ∧ (type_of% @c58r14.eq_1) ∧ (type_of% @c58r16.eq_1) := ⟨@c58r0.eq_1, @c58r1.eq_1, @c58r2.eq_1, @c58r3.eq_1, @c58r4.eq_1, @c58r5.eq_1, @c58r6.eq_1, @c58r7.eq_1, @c58r8.eq_1, @c58r9.eq_1, @c58r10.eq_1, @c58r12.eq_1, @c58r13.eq_1, @c58r14.eq_1, @c58r16.eq_1⟩
set_option maxHeartbeats 1000000 in
theorem d58 (a : List Int) (w : Int) (ha : a.length ≤ 100) (hw : 0 ≤ w ∧ w ≤ 3000) (hs : ∀ s ∈ a, -3000 ≤ s ∧ s ≤ 3000) : PC Tryd.prog 58 [vi a, .i .i64 w] (vZ (lasL a w a.length)) := by
 refine pc_fn fn58 (by simp only [AV.plains, AV.plain, il_plain, bl_plain, Bool.and_true, Bool.true_and, Bool.and_self, fleZ_plain, il_plain]) (by simp only [AV.plains, AV.plain, il_plain, bl_plain, Bool.and_true, Bool.true_and, Bool.and_self, fleZ_plain, il_plain]) (Nat.le_of_ble_eq_true rfl) ?_
 rw [initSt2]
 repeat' first | (with_reducible first | refine kzq ?_ | refine kzs ?_ | refine kzS ?_ | refine kzR ?_ | refine kzC ?_ | refine kzH ?_ | refine kzB ?_ | refine kzK ?_ | refine kzE ?_ | refine kzg ?_) | with_reducible refine r_done ?_ | with_reducible refine s_go (by simp (disch := omega) only [RG58, EVA, plug, eq_self, simprocAttr]; with_reducible rfl) ?_ | ((with_reducible refine kzr ?_); refine zrF ?_) | (with_reducible refine zkP (fun ht => ?_) (fun ht => ?_) <;> try first | exact False.elim ht | exact absurd rfl ht | exact absurd trivial ht | exact Bool.noConfusion ht) | (with_reducible (refine k_ret ?_; repeat first | refine kzt ?_ | refine kzb ?_ | refine fin ?_)) | (with_reducible (refine kzx ?_; repeat first | refine thru ?_ | refine kzo ?_ | refine pass (by decide) ?_)) | ((first | refine post1 ?_ | refine post2 ?_ | refine post3 ?_); simp only [GA, simprocAttr]) | refine post0 ?_
 refine w_virt 17 5 rfl ?_
 refine k_blk (k_loopS (X := Nat) [1, 5, 10, 11, 12] a.length (fun k y => [(1, .i .i64 w), (5, .sl y 0 k 17), (10, vi a), (11, .i .i64 a.length), (12, .i .i64 (k : Int))]) (fun k y h => y ≠ 0 ∧ h.m y = some (.cells true (fl eZ (lasL a w k)))) _ (by simp only [Am.keep, ZK, simprocAttr]; try rfl) ⟨?_, by simp (disch := omega) only [RG58, EVA, plug, eq_self, simprocAttr] <;> rfl⟩ ?_)
 ·simp only [AH.bump_nx]; omega
 rintro k y h hk ⟨hy, hmy⟩ ok pos
 have ly := ok.m hmy
 by_cases klt : k < a.length
 ·have klt' : (k : Int) < a.length := by omega
  have g : (il a)[k]? = some (.i .i64 (lN a k)) := il_get klt
  have bs := hs _ (lN_mem klt)
  have ls : lasL a w (k + 1) = lasL a w k ++ [lasZ k (lN a k) w] := rfl
  have ll := fl_len eZ_len (lasL a w k)
  rw [lasL_len] at ll
  have w1 : IntKind.i64.wrap ((k : Int) + 1) = (k : Int) + 1 := wrap64 (by omega) (by omega)
  generalize lN a k = s at *
  have w2 : IntKind.i64.wrap (s + w) = s + w := wrap64 (by omega) (by omega)
  have y8 : ¬ y = h.nx + 1 + 2 + 3 := by omega
  have y8' : ¬ h.nx + 1 + 2 + 3 = y := by omega
  repeat' first | (with_reducible first | refine kzq ?_ | refine kzs ?_ | refine kzS ?_ | refine kzR ?_ | refine kzC ?_ | refine kzH ?_ | refine kzB ?_ | refine kzK ?_ | refine kzE ?_ | refine kzg ?_) | with_reducible refine r_done ?_ | with_reducible refine s_go (by simp (disch := omega) only [klt', g, w1, RG58, EVA, plug, eq_self, simprocAttr]; with_reducible rfl) ?_ | ((with_reducible refine kzr ?_); refine zrF ?_) | (with_reducible refine zkP (fun ht => ?_) (fun ht => ?_) <;> try first | exact False.elim ht | exact absurd rfl ht | exact absurd trivial ht | exact Bool.noConfusion ht) | (with_reducible (refine k_ret ?_; repeat first | refine kzt ?_ | refine kzb ?_ | refine fin ?_)) | (with_reducible (refine kzx ?_; repeat first | refine thru ?_ | refine kzo ?_ | refine pass (by decide) ?_)) | ((first | refine post1 ?_ | refine post2 ?_ | refine post3 ?_); simp only [GA, simprocAttr]) | refine post0 ?_
  refine k_blk (k_loopS (X := Unit) [1, 5, 7, 8, 10, 11, 12, 20] 5 (fun j _ => [(1, .i .i64 w), (5, .sl y 0 k 17), (7, .i .i64 s), (8, .p (h.nx + 1 + 5 + 3) 0), (10, vi a), (11, .i .i64 a.length), (12, .i .i64 (k : Int)), (20, .i .i64 (j : Int))])
   (fun j _ h' => h'.m y = some (.cells true (fl eZ (lasL a w k))) ∧ h'.m (h.nx + 1 + 5 + 3) = some (.cells true (eZ (lasP k j)))) () (by simp only [Am.keep, ZK, simprocAttr]; try rfl) ⟨by simp (disch := omega) only [hmy, RG58, EVA, plug, eq_self, simprocAttr], by simp (disch := omega) only [RG58, EVA, plug, eq_self, simprocAttr] <;> rfl⟩ ?_)
  rintro j _ h' hj ⟨hmy', h8⟩ ok' pos'
  have ly' := ok'.m hmy'
  have l8 := ok'.m h8
  have z8 : ¬ y = h.nx + 1 + 5 + 3 := by omega
  have z8' : ¬ h.nx + 1 + 5 + 3 = y := by omega
  by_cases jlt : j < 5
  ·have jlt' : (j : Int) < 5 := by omega
   have st := lasP_set (i := k) jlt
   repeat' first | (with_reducible first | refine kzq ?_ | refine kzs ?_ | refine kzS ?_ | refine kzR ?_ | refine kzC ?_ | refine kzH ?_ | refine kzB ?_ | refine kzK ?_ | refine kzE ?_ | refine kzg ?_) | with_reducible refine r_done ?_ | with_reducible refine s_go (by simp (disch := omega) only [jlt', h8, row_m h8, read_row (row_m h8), st, eZ_len, RG58, EVA, plug, eq_self, simprocAttr]; with_reducible rfl) ?_ | ((with_reducible refine kzr ?_); refine zrF ?_) | (with_reducible refine zkP (fun ht => ?_) (fun ht => ?_) <;> try first | exact False.elim ht | exact absurd rfl ht | exact absurd trivial ht | exact Bool.noConfusion ht) | (with_reducible (refine k_ret ?_; repeat first | refine kzt ?_ | refine kzb ?_ | refine fin ?_)) | (with_reducible (refine kzx ?_; repeat first | refine thru ?_ | refine kzo ?_ | refine pass (by decide) ?_)) | ((first | refine post1 ?_ | refine post2 ?_ | refine post3 ?_); simp only [GA, simprocAttr]) | refine post0 ?_
   exact ⟨jlt, (), (by simp only [Am.keep, ZK, simprocAttr]; try rfl), by simp (disch := omega) only [hmy', z8, RG58, EVA, plug, eq_self, simprocAttr], by simp (disch := omega) only [st, RG58, EVA, plug, eq_self, simprocAttr] <;> rfl⟩
  ·obtain rfl : j = 5 := by omega
   have jlt' : ¬ ((5 : Nat) : Int) < 5 := by omega
   have st1 : (eZ (lasP k 5)).set 1 (.i .i64 (max s 0)) = eZ ⟨(k : Int) + 1, fun j => if j = 0 then max s 0 else 0, fun j => if j < 5 then 3000 else 0, fun _ => 0, 0⟩ := rfl
   have st2 : (eZ ⟨(k : Int) + 1, fun j => if j = 0 then max s 0 else 0, fun j => if j < 5 then 3000 else 0, fun _ => 0, 0⟩).set 6 (.i .i64 (s + w)) = eZ (lasZ k s w) := rfl
   generalize hX : (⟨(k : Int) + 1, fun j => if j = 0 then max s 0 else 0, fun j => if j < 5 then 3000 else 0, fun _ => 0, 0⟩ : Sz) = X at *
   generalize hP : lasP k 5 = Pk at *
   generalize hZ : lasZ k s w = Zk at *
   repeat' first | (with_reducible first | refine kzq ?_ | refine kzs ?_ | refine kzS ?_ | refine kzR ?_ | refine kzC ?_ | refine kzH ?_ | refine kzB ?_ | refine kzK ?_ | refine kzE ?_ | refine kzg ?_) | with_reducible refine r_done ?_ | with_reducible refine s_go (by simp (disch := omega) only [jlt', h8, row_m h8, read_row (row_m h8), st1, st2, eZ_len, eZ_rd, w2, hmy', row_m hmy', hy, ll, z8, z8', RG58, EVA, plug, eq_self, simprocAttr]; with_reducible rfl) ?_ | ((with_reducible refine kzr ?_); refine zrF ?_) | (with_reducible refine zkP (fun ht => ?_) (fun ht => ?_) <;> try first | exact False.elim ht | exact absurd rfl ht | exact absurd trivial ht | exact Bool.noConfusion ht) | (with_reducible (refine k_ret ?_; repeat first | refine kzt ?_ | refine kzb ?_ | refine fin ?_)) | (with_reducible (refine kzx ?_; repeat first | refine thru ?_ | refine kzo ?_ | refine pass (by decide) ?_)) | ((first | refine post1 ?_ | refine post2 ?_ | refine post3 ?_); simp only [GA, simprocAttr]) | refine post0 ?_
   refine ⟨klt, _, (by simp only [Am.keep, ZK, simprocAttr]; try rfl), ?_, ?_⟩
   ·first | omega | (simp only [AH.bump_nx, AH.set_nx, AH.kill_nx]; omega)
   ·rw [ls, ← fl_snoc]
    simp (disch := omega) only [RG58, EVA, plug, eq_self, simprocAttr] <;> rfl
 ·obtain rfl : k = a.length := by omega
  have klt' : ¬ (a.length : Int) < a.length := by omega
  repeat' first | (with_reducible first | refine kzq ?_ | refine kzs ?_ | refine kzS ?_ | refine kzR ?_ | refine kzC ?_ | refine kzH ?_ | refine kzB ?_ | refine kzK ?_ | refine kzE ?_ | refine kzg ?_) | with_reducible refine r_done ?_ | with_reducible refine s_go (by simp (disch := omega) only [klt', RG58, EVA, plug, eq_self, simprocAttr]; with_reducible rfl) ?_ | ((with_reducible refine kzr ?_); refine zrF ?_) | (with_reducible refine zkP (fun ht => ?_) (fun ht => ?_) <;> try first | exact False.elim ht | exact absurd rfl ht | exact absurd trivial ht | exact Bool.noConfusion ht) | (with_reducible (refine k_ret ?_; repeat first | refine kzt ?_ | refine kzb ?_ | refine fin ?_)) | (with_reducible (refine kzx ?_; repeat first | refine thru ?_ | refine kzo ?_ | refine pass (by decide) ?_)) | ((first | refine post1 ?_ | refine post2 ?_ | refine post3 ?_); simp only [GA, simprocAttr]) | refine post0 ?_
  have rl := lasL_len a w a.length
  rw [vZ, rl]
  exact ends_sl (k := 17) hmy (by rw [fl_len eZ_len, rl])
end Go.Proofs.YtjaihaccehaicaaDoor
set_option linter.unusedVariables false
set_option linter.unusedSimpArgs false
namespace Go.Proofs.YtjaihaccehaicaaDoor
open Go Go.Am Go.Proofs
theorem flt_nil {s : Sz} {x : Hd} : ∀ {k : Nat}, flt s x k = [] ↔ ∀ j, j < k → nd s x j ≤ s.B j
 | 0 => ⟨fun _ j hj => by omega, fun _ => rfl⟩
 | k + 1 => by
   have ih := flt_nil (s := s) (x := x) (k := k)
   rw [flt]
   by_cases c : s.B k < nd s x k
   ·rw [if_pos c]
    refine ⟨fun q => absurd q (by simp), fun q => ?_⟩
    have := q k (by omega)
    omega
   ·rw [if_neg c, ih]
    refine ⟨fun q j hj => ?_, fun q j hj => q j (by omega)⟩
    by_cases e : j = k
    ·subst e; omega
    ·exact q j (by omega)
theorem fitB_iff {s : Sz} {x : Hd} : fitB s x = true ↔ (∀ j, j < 5 → nd s x j ≤ s.B j) ∧ nS s x 5 ≤ s.t := by
 unfold fitB
 rw [decide_eq_true_eq, ← flt_nil]
 unfold fau
 by_cases c : s.t < nS s x 5
 ·rw [if_pos c]
  constructor
  ·intro q; rw [List.length_append, List.length_singleton] at q; omega
  ·intro q; omega
 ·rw [if_neg c]
  constructor
  ·intro q; exact ⟨List.length_eq_zero_iff.1 (by omega), by omega⟩
  ·intro q; rw [q.1]; rfl
theorem las_fit {i : Nat} {s w : Int} {x : Hd} (hx : hdOk x = true) (hw : 0 ≤ w) : fitB (lasZ i s w) x = true ↔ s ≤ x.M 0 ∧ x.M 0 ≤ s + w := by
 have H := (hdOk_iff.1 hx).2
 rw [fitB_iff]
 have n0 : nd (lasZ i s w) x 0 = max (max (max s 0 - x.M 0) (x.M 0 - (s + w))) 0 := rfl
 have n1 : ∀ j, 0 < j → j < 5 → nd (lasZ i s w) x j = 0 := fun j h1 h2 => by
  have := H j h2
  have e1 : (lasZ i s w).F j = 0 := if_neg (by omega)
  have e2 : (lasZ i s w).T j = 3000 := if_neg (by omega)
  unfold nd
  rw [e1, e2]
  omega
 have h0 := H 0 (by omega)
 have nz : ∀ j, (lasZ i s w).B j = 0 := fun j => rfl
 have tz : (lasZ i s w).t = 0 := rfl
 constructor
 ·rintro ⟨h1, _⟩
  have := h1 0 (by omega)
  rw [n0, nz] at this
  omega
 ·rintro ⟨h1, h2⟩
  have e0 : nd (lasZ i s w) x 0 = 0 := by rw [n0]; omega
  have all : ∀ j, j < 5 → nd (lasZ i s w) x j = 0 := fun j hj => by
   by_cases z : j = 0
   ·subst z; exact e0
   ·exact n1 j (by omega) hj
  have ns : ∀ k, k ≤ 5 → nS (lasZ i s w) x k = 0 := fun k => by
   induction k with
   | zero => intro _; rfl
   | succ k ih => intro hk; rw [nS, ih (by omega), all k (by omega)]; rfl
  exact ⟨fun j hj => by rw [all j hj, nz]; exact Int.le_refl _, by rw [ns 5 (Nat.le_refl _), tz]; exact Int.le_refl _⟩
def valM (m : List Hd) : List Int := m.map fun x => x.M 0
theorem valM_len (m : List Hd) : (valM m).length = m.length := by simp [valM]
theorem valM_mem {m : List Hd} {v : Int} : v ∈ valM m ↔ ∃ k, k < m.length ∧ (hD m k).M 0 = v := by
 unfold valM
 rw [List.mem_map]
 constructor
 ·rintro ⟨x, hx, rfl⟩
  obtain ⟨k, hk, rfl⟩ := List.getElem_of_mem hx
  refine ⟨k, hk, ?_⟩
  unfold hD
  rw [List.getD_eq_getElem?_getD, List.getElem?_eq_getElem hk]; rfl
 ·rintro ⟨k, hk, rfl⟩
  refine ⟨m[k], List.getElem_mem hk, ?_⟩
  unfold hD
  rw [List.getD_eq_getElem?_getD, List.getElem?_eq_getElem hk]; rfl
theorem lN_lt {b : List Int} {w : Int} (h : b.Pairwise fun x y => x + w < y) {i j : Nat} (hij : i < j) (hj : j < b.length) : lN b i + w < lN b j := by
 have := List.pairwise_iff_getElem.1 h i j (by omega) hj hij
 unfold lN
 rw [List.getD_eq_getElem?_getD, List.getD_eq_getElem?_getD, List.getElem?_eq_getElem hj, List.getElem?_eq_getElem (by omega)]
 exact this
theorem wit_some {m : List Hd} {v : Int} (h : v ∈ valM m) : ∃ i : Nat, wit1 m v m.length = [(i : Int)] ∧ i < m.length ∧ (hD m i).M 0 = v := by
 obtain ⟨k, hk, e⟩ := valM_mem.1 h
 have : ∃ i, i ≤ k ∧ (hD m i).M 0 = v ∧ ∀ j, j < i → (hD m j).M 0 ≠ v := by
  have key : ∀ n, n ≤ k + 1 → (∃ i, i ≤ k ∧ (hD m i).M 0 = v ∧ ∀ j, j < i → (hD m j).M 0 ≠ v) ∨ ∀ j, j < n → (hD m j).M 0 ≠ v := fun n => by
   induction n with
   | zero => intro _; exact .inr fun j hj => by omega
   | succ n ih =>
     intro hn
     rcases ih (by omega) with q | q
     ·exact .inl q
     ·by_cases c : (hD m n).M 0 = v
      ·exact .inl ⟨n, by omega, c, q⟩
      ·refine .inr fun j hj => ?_
       by_cases e : j = n
       ·subst e; exact c
       ·exact q j (by omega)
  rcases key (k + 1) (Nat.le_refl _) with q | q
  ·exact q
  ·exact absurd e (q k (by omega))
 obtain ⟨i, h1, h2, h3⟩ := this
 exact ⟨i, wit1_at h3 h2 (by omega), by omega, h2⟩
theorem wit_ok {m : List Hd} {b : List Int} (h : ∀ v ∈ b, v ∈ valM m) : ∀ k, k ≤ b.length → (witK m b k).length = k ∧ ∀ j, j < k → ∃ i : Nat, lN (witK m b k) j = i ∧ i < m.length ∧ (hD m i).M 0 = lN b j
 | 0, _ => ⟨rfl, fun j hj => by omega⟩
 | k + 1, hk => by
   obtain ⟨h1, h2⟩ := wit_ok h k (by omega)
   obtain ⟨i, e, hi, hv⟩ := wit_some (h _ (lN_mem (l := b) (j := k) (by omega)))
   rw [witK, e]
   refine ⟨by rw [List.length_append, h1]; rfl, fun j hj => ?_⟩
   rw [lN_snoc]
   by_cases q : j < k
   ·rw [if_pos (by omega)]; exact h2 j q
   ·obtain rfl : j = k := by omega
    rw [if_neg (by omega), if_pos h1.symm]
    exact ⟨i, rfl, hi, hv⟩
theorem meas {m : List Hd} {w : Int} (hm : hdsOk m = true) (hw : 0 ≤ w ∧ w ≤ 3000) {a b : List Int} (ea : a = (stabL (valM m) w (valM m).length).reverse) (eb : b = sprL (valM m) w (valM m).length) :
 stabR (valM m) w = (a, 0) ∧ sprR (valM m) w = (b, 0) ∧ a.length = b.length ∧ (∀ s ∈ a, -3000 ≤ s ∧ s ≤ 3000) ∧ (a.length ≤ 12 →
  covR (lasL a w a.length) m (rngI a.length) = (true, 0) ∧ aptR (lasL a w a.length) m (witK m b b.length) = (true, 0) ∧ (cvrR (lasL a w a.length) m).2 = 0 ∧ (cvrR (lasL a w a.length) m).1.length = a.length ∧ (witK m b b.length).length = a.length) := by
 have M := hdsOk_iff.1 hm
 have Hv : ∀ v ∈ valM m, 0 ≤ v ∧ v ≤ 3000 := fun v hv => by
  obtain ⟨k, hk, rfl⟩ := valM_mem.1 hv
  exact (hdOk_iff.1 (M.2.1 k hk)).2 0 (by omega)
 have vr : valR (valM m) w = (srtZ (valM m), 0) := by
  unfold valR
  rw [if_neg (by rw [valM_len]; omega), if_neg]
  rintro (q | q)
  ·unfold widOk at q
   rw [Bool.and_eq_false_iff, decide_eq_false_iff_not, decide_eq_false_iff_not] at q
   omega
  ·obtain ⟨v, hv, q⟩ := anyZ_iff.1 q
   have := Hv v hv
   have := farZ_yes q
   omega
 have I := stb_inv (l := valM m) hw.1 _ (Nat.le_refl _)
 have J := spr_inv (l := valM m) hw.1 _ (Nat.le_refl _)
 have am := as_many (l := valM m) hw.1
 have sc := stab_covers (l := valM m) hw.1
 have ha : ∀ s, s ∈ a ↔ s ∈ stabL (valM m) w (valM m).length := fun s => by rw [ea, List.mem_reverse]
 have asv : ∀ s ∈ a, ∃ v ∈ valM m, s = v - w := fun s hs => by
  obtain ⟨j, hj, e⟩ := I.m s ((ha s).1 hs)
  exact ⟨_, tZ_mem hj, e⟩
 have bs : ∀ v ∈ b, v ∈ valM m := fun v hv => by
  rw [eb] at hv
  obtain ⟨j, hj, rfl⟩ := J.m v hv
  exact sZ_mem hj
 have ab : a.length = b.length := by rw [ea, eb, List.length_reverse]; exact am
 refine ⟨?_, ?_, ab, fun s hs => ?_, fun h12 => ?_⟩
 ·unfold stabR; rw [vr, if_neg (by simp), ea]
 ·unfold sprR; rw [vr, if_neg (by simp), eb]
 ·obtain ⟨v, hv, rfl⟩ := asv s hs
  have := Hv v hv
  omega
 ·have ll := lasL_len a w a.length
  have szs : szsOk (lasL a w a.length) = true := by
   rw [szsOk_iff, ll]
   refine ⟨by omega, fun j hj => ?_, fun j hj i hi => ?_⟩
   ·rw [lasL_at hj]
    obtain ⟨v, hv, e⟩ := asv _ (lN_mem hj)
    have := Hv v hv
    rw [szOk_iff]
    refine ⟨⟨by show 1 ≤ (j : Int) + 1; omega, by show (j : Int) + 1 ≤ 1000000000; omega, Int.le_refl _, by show (0 : Int) ≤ 500; omega⟩, fun k hk => ?_⟩
    have nb : (lasZ j (lN a j) w).B k = 0 := rfl
    rw [nb]
    by_cases z : k = 0
    ·subst z
     show 0 ≤ max (lN a j) 0 ∧ max (lN a j) 0 ≤ lN a j + w ∧ lN a j + w ≤ 3000 ∧ _
     omega
    ·have e1 : (lasZ j (lN a j) w).F k = 0 := if_neg z
     have e2 : (lasZ j (lN a j) w).T k = 3000 := if_neg z
     rw [e1, e2]; omega
   ·unfold zN
    rw [lasL_at hj, lasL_at (by omega)]
    show ¬ (i : Int) + 1 = (j : Int) + 1
    omega
  have ck : chk (lasL a w a.length) m = 0 := by unfold chk; rw [szs, hm]; rfl
  have fit : ∀ i, i < a.length → ∀ k, k < m.length → (fitB (zD (lasL a w a.length) i) (hD m k) = true ↔ lN a i ≤ (hD m k).M 0 ∧ (hD m k).M 0 ≤ lN a i + w) := fun i hi k hk => by
   rw [lasL_at hi]; exact las_fit (M.2.1 k hk) hw.1
  have ra := rngI_asc a.length
  have cv : cvsB (lasL a w a.length) m (rngI a.length) = true := by
   rw [cvs_iff]
   intro k hk
   obtain ⟨s, hs, q⟩ := sc _ (valM_mem.2 ⟨k, hk, rfl⟩)
   obtain ⟨i, hi, e⟩ := mem_lN ((ha s).2 hs)
   refine ⟨(i : Int), List.mem_map.2 ⟨i, List.mem_range.2 hi, rfl⟩, ?_⟩
   rw [Int.toNat_natCast, fit i hi k hk, e]
   exact q
  have pr : pkOk (rngI a.length) (lasL a w a.length).length = true := by rw [ll]; exact pk_of_asc ra.1 ra.2
  obtain ⟨wl, wi⟩ := wit_ok bs b.length (Nat.le_refl _)
  have bp : b.Pairwise fun x y => x + w < y := by rw [eb]; exact J.p
  have pw : pkOk (witK m b b.length) m.length = true := by
   rw [pkOk_iff, wl]
   intro j hj
   obtain ⟨i, e, hi, hv⟩ := wi j hj
   refine ⟨by rw [e]; omega, fun j' hj' => ?_⟩
   obtain ⟨i', e', hi', hv'⟩ := wi j' (by omega)
   rw [e, e']
   intro q
   have : i' = i := by omega
   subst this
   have := lN_lt bp hj' hj
   omega
  have ay : aptB (lasL a w a.length) m (witK m b b.length) = true := by
   refine decide_eq_true fun i hi j hj s hs q => ?_
   rw [wl] at hi
   rw [ll] at hs
   obtain ⟨x, e1, x1, x2⟩ := wi i hi
   obtain ⟨y, e2, y1, y2⟩ := wi j (by omega)
   obtain ⟨q1, q2⟩ := q
   rw [e1, Int.toNat_natCast, fit s hs x x1, x2] at q1
   rw [e2, Int.toNat_natCast, fit s hs y y1, y2] at q2
   have := lN_lt bp hj hi
   omega
  have hc : (cvrR (lasL a w a.length) m).2 = 0 := by
   unfold cvrR
   rw [if_neg (by simp [ck]), if_neg (by rw [ll]; omega)]
   cases d : (cvN (cvsB (lasL a w a.length) m) (2 ^ (lasL a w a.length).length)).1 with
   | true => rw [if_pos rfl]
   | false =>
     exfalso
     refine (cvN_least (p := cvsB (lasL a w a.length) m) (n := (lasL a w a.length).length) (by rw [ll]; omega)).2 d (rngI a.length) ⟨ra.1, by rw [ll]; exact ra.2, cv⟩
  refine ⟨by rw [cov_eq ck pr, cv], ?_, hc, ?_, by rw [wl, ab]⟩
  ·unfold aptR
   rw [if_neg (by simp [ck]), if_neg (by rw [pw]; simp), ay]
  ·have u := least_le hc pr cv
   rw [rngI_len] at u
   have v := cvs_apart (cvr_pk hc) pw (cvr_ok hc).2.2.1.2.2 ay
   rw [wl] at v
   omega
end Go.Proofs.YtjaihaccehaicaaDoor
set_option linter.unusedVariables false
set_option linter.unusedSimpArgs false
namespace Go.Proofs.YtjaihaccehaicaaDoor
open Go Go.Am Go.Proofs
theorem valM_succ {m : List Hd} {k : Nat} (h : k < m.length) : valM (m.take (k + 1)) = valM (m.take k) ++ [(hD m k).M 0] := by
 unfold valM hD
 rw [List.take_add_one, List.getElem?_eq_getElem h, List.map_append, List.getD_eq_getElem?_getD, List.getElem?_eq_getElem h]
 rfl
theorem RG25 : (type_of% @c25r0.eq_1) ∧ (type_of% @c25r1.eq_1) ∧ (type_of% @c25r2.eq_1) ∧ (type_of% @c25r3.eq_1) ∧ (type_of% @c25r4.eq_1) ∧ (type_of% @c25r5.eq_1) ∧ (type_of% @c25r6.eq_1) ∧ (type_of% @c25r8.eq_1) ∧ (type_of% @c25r9.eq_1) ∧ (type_of% @c25r10.eq_1) ∧ (type_of% @c25r11.eq_1) ∧ (type_of% @c25r12.eq_1) ∧ (type_of% @c25r13.eq_1) ∧ (type_of% @c25r14.eq_1) ∧ (type_of% @c25r15.eq_1) ∧ (type_of% @c25r16.eq_1) ∧ (type_of% @c25r17.eq_1) ∧ (type_of% @c25r18.eq_1) ∧ (type_of% @c25r19.eq_1) := ⟨@c25r0.eq_1, @c25r1.eq_1, @c25r2.eq_1, @c25r3.eq_1, @c25r4.eq_1, @c25r5.eq_1, @c25r6.eq_1, @c25r8.eq_1, @c25r9.eq_1, @c25r10.eq_1, @c25r11.eq_1, @c25r12.eq_1, @c25r13.eq_1, @c25r14.eq_1, @c25r15.eq_1, @c25r16.eq_1, @c25r17.eq_1, @c25r18.eq_1, @c25r19.eq_1⟩
set_option maxHeartbeats 1000000 in
theorem d25 (m : List Hd) (w : Int) (hm : hdsOk m = true) (hw : 0 ≤ w ∧ w ≤ 3000) : PC Tryd.prog 25 [vH m, .i .i64 w] (.b true) := by
 have M := hdsOk_iff.1 hm
 obtain ⟨m1, m2, m3, m4, m5⟩ := meas hm hw rfl rfl
 have q10 := pc10 (valM m) (by rw [valM_len]; omega) w
 have q13 := pc13 (valM m) (by rw [valM_len]; omega) w
 rw [m1] at q10
 rw [m2] at q13
 have la : (stabL (valM m) w (valM m).length).reverse.length ≤ 40 := by
  rw [List.length_reverse]
  have := stabL_len (valM m) w (valM m).length
  rw [valM_len] at this
  rw [valM_len]; omega
 generalize (stabL (valM m) w (valM m).length).reverse = a at *
 generalize sprL (valM m) w (valM m).length = b at *
 have vm := valM_len m
 simp only [vi, vm] at q10 q13
 refine pc_fn fn25 (by simp only [AV.plains, AV.plain, il_plain, bl_plain, Bool.and_true, Bool.true_and, Bool.and_self, fleH_plain]) (by simp only [AV.plains, AV.plain, il_plain, bl_plain, Bool.and_true, Bool.true_and, Bool.and_self, fleH_plain]) (Nat.le_of_ble_eq_true rfl) ?_
 rw [initSt2]
 repeat' first | (with_reducible first | refine kzq ?_ | refine kzs ?_ | refine kzS ?_ | refine kzR ?_ | refine kzC ?_ | refine kzH ?_ | refine kzB ?_ | refine kzK ?_ | refine kzE ?_ | refine kzg ?_) | with_reducible refine r_done ?_ | with_reducible refine s_go (by simp (disch := omega) only [RG25, EVA, plug, eq_self, simprocAttr]; with_reducible rfl) ?_ | ((with_reducible refine kzr ?_); refine zrF ?_) | (with_reducible refine zkP (fun ht => ?_) (fun ht => ?_) <;> try first | exact False.elim ht | exact absurd rfl ht | exact absurd trivial ht | exact Bool.noConfusion ht) | (with_reducible (refine k_ret ?_; repeat first | refine kzt ?_ | refine kzb ?_ | refine fin ?_)) | (with_reducible (refine kzx ?_; repeat first | refine thru ?_ | refine kzo ?_ | refine pass (by decide) ?_)) | ((first | refine post1 ?_ | refine post2 ?_ | refine post3 ?_); simp only [GA, simprocAttr]) | refine post0 ?_
 refine w_virt 1 5 rfl ?_
 refine k_blk (k_loopS (X := Nat) [0, 1, 5, 18, 19, 20] m.length (fun k y => [(0, vH m), (1, .i .i64 w), (5, .sl y 0 k 1), (18, vH m), (19, .i .i64 m.length), (20, .i .i64 (k : Int))]) (fun k y h => y ≠ 0 ∧ h.m y = some (.cells true (il (valM (m.take k))))) _ (by simp only [Am.keep, ZK, simprocAttr]; try rfl) ⟨?_, by simp (disch := omega) only [RG25, EVA, plug, eq_self, simprocAttr] <;> rfl⟩ ?_)
 ·simp only [AH.bump_nx]; omega
 rintro k y h hk ⟨hy, hmy⟩ ok pos
 have ly := ok.m hmy
 by_cases klt : k < m.length
 ·have klt' : (k : Int) < m.length := by omega
  have rJ := rdH klt
  have vs := valM_succ klt
  have vk : (valM (m.take k)).length = k := by rw [valM_len, List.length_take]; omega
  have y7 : ¬ y = h.nx + 1 + 2 := by omega
  have y7' : ¬ h.nx + 1 + 2 = y := by omega
  repeat' first | (with_reducible first | refine kzq ?_ | refine kzs ?_ | refine kzS ?_ | refine kzR ?_ | refine kzC ?_ | refine kzH ?_ | refine kzB ?_ | refine kzK ?_ | refine kzE ?_ | refine kzg ?_) | with_reducible refine r_done ?_ | with_reducible refine s_go (by simp (disch := omega) only [klt', rJ, hmy, row_m hmy, hy, il_len, vk, y7, y7', rd_one, RG25, EVA, plug, eq_self, simprocAttr]; with_reducible rfl) ?_ | ((with_reducible refine kzr ?_); refine zrF ?_) | (with_reducible refine zkP (fun ht => ?_) (fun ht => ?_) <;> try first | exact False.elim ht | exact absurd rfl ht | exact absurd trivial ht | exact Bool.noConfusion ht) | (with_reducible (refine k_ret ?_; repeat first | refine kzt ?_ | refine kzb ?_ | refine fin ?_)) | (with_reducible (refine kzx ?_; repeat first | refine thru ?_ | refine kzo ?_ | refine pass (by decide) ?_)) | ((first | refine post1 ?_ | refine post2 ?_ | refine post3 ?_); simp only [GA, simprocAttr]) | refine post0 ?_
  refine ⟨klt, _, (by simp only [Am.keep, ZK, simprocAttr]; try rfl), ?_, ?_⟩
  ·first | omega | (simp only [AH.bump_nx, AH.set_nx, AH.kill_nx]; omega)
  ·rw [vs]
   simp (disch := omega) only [RG25, EVA, plug, eq_self, simprocAttr] <;> rfl
 ·obtain rfl : k = m.length := by omega
  have klt' : ¬ (m.length : Int) < m.length := by omega
  rw [List.take_length] at hmy
  repeat' first | with_reducible refine kzq ?_ | with_reducible refine kzs ?_ | with_reducible refine kzS ?_ | with_reducible refine kzR ?_ | with_reducible refine kzC ?_ | with_reducible refine kzH ?_ | with_reducible refine kzB ?_ | with_reducible refine kzK ?_ | with_reducible refine kzE ?_ | (fail_if_success (with_reducible refine kzg (ops := c25r8) ?_)); with_reducible refine kzg ?_ | with_reducible refine r_done ?_ | with_reducible refine s_go (by simp (disch := omega) only [klt', RG25, EVA, plug, eq_self, simprocAttr]; with_reducible rfl) ?_ | ((with_reducible refine kzr ?_); refine zrF ?_) | (with_reducible refine zkP (fun ht => ?_) (fun ht => ?_) <;> try first | exact False.elim ht | exact absurd rfl ht | exact absurd trivial ht | exact Bool.noConfusion ht) | (with_reducible refine k_ret ?_; repeat with_reducible (first | refine kzt ?_ | refine kzb ?_ | refine fin ?_)) | (with_reducible refine kzx ?_; repeat with_reducible (first | refine thru ?_ | refine kzo ?_ | refine pass (by decide) ?_)) | ((first | refine post1 ?_ | refine post2 ?_ | refine post3 ?_); simp only [GA, simprocAttr]) | refine post0 ?_
  refine w_frzS 5 (t := y) (n := m.length) (a := 1) (cs := il (valM m)) 1 (by simp (disch := omega) only [hmy, RG25, EVA, plug, eq_self, simprocAttr]) rfl (by rw [il_len, vm, Nat.mul_one]) ?_
  have eab := eq_true (show (a.length : Int) = b.length by omega)
  by_cases h12 : 12 < a.length
  ·have h12' := eq_true (show (12 : Int) < a.length by omega)
   repeat' first | (with_reducible first | refine kzq ?_ | refine kzs ?_ | refine kzS ?_ | refine kzR ?_ | refine kzC ?_ | refine kzH ?_ | refine kzB ?_ | refine kzK ?_ | refine kzE ?_ | refine kzg ?_) | with_reducible refine r_done ?_ | with_reducible refine s_go (by simp (disch := omega) only [eab, h12', RG25, EVA, plug, eq_self, simprocAttr]; with_reducible rfl) ?_ | ((with_reducible refine kzr ?_); refine zrF ?_) | ((with_reducible refine kzr ?_); refine zrP (c := by first | exact q10 _ | exact q13 _) (k := ?_)) | (with_reducible refine zkP (fun ht => ?_) (fun ht => ?_) <;> try first | exact False.elim ht | exact absurd rfl ht | exact absurd trivial ht | exact Bool.noConfusion ht) | (with_reducible (refine k_ret ?_; repeat first | refine kzt ?_ | refine kzb ?_ | refine fin ?_)) | (with_reducible (refine kzx ?_; repeat first | refine thru ?_ | refine kzo ?_ | refine pass (by decide) ?_)) | ((first | refine post1 ?_ | refine post2 ?_ | refine post3 ?_); simp only [GA, simprocAttr]) | refine post0 ?_
   all_goals first | exact ends_of | exact ends_eq rfl
  ·have h12' := eq_false (show ¬ (12 : Int) < a.length by omega)
   obtain ⟨c1, c2, c3, c4, c5⟩ := m5 (by omega)
   have q58 := d58 a w (by omega) hw m4
   have hL := lasL_len a w a.length
   generalize lasL a w a.length = L at *
   rw [← hL] at c1
   have q59 := d59 m b (by omega) (by omega)
   have q60 := d60 L.length (by omega)
   have qc := pc27 L m (rngI L.length) (by omega) (by omega) (by rw [rngI_len]; omega)
   have qa := pc29 L m (witK m b b.length) (by omega) (by omega) (by omega)
   have qv := d18 L m (by omega) (by omega)
   rw [c1] at qc
   rw [c2] at qa
   rw [c3] at qv
   have e1 := eq_true (show ((witK m b b.length).length : Int) = a.length by omega)
   have e2 := eq_true (show ((cvrR L m).1.length : Int) = a.length by omega)
   generalize witK m b b.length = W at *
   generalize (cvrR L m).1 = best at *
   repeat' first | (with_reducible first | refine kzq ?_ | refine kzs ?_ | refine kzS ?_ | refine kzR ?_ | refine kzC ?_ | refine kzH ?_ | refine kzB ?_ | refine kzK ?_ | refine kzE ?_ | refine kzg ?_) | with_reducible refine r_done ?_ | with_reducible refine s_go (by simp (disch := omega) only [eab, h12', e1, e2, RG25, EVA, plug, eq_self, simprocAttr]; with_reducible rfl) ?_ | ((with_reducible refine kzr ?_); refine zrF ?_) | ((with_reducible refine kzr ?_); refine zrP (c := by first | exact q10 _ | exact q13 _ | exact q58 _ | exact q59 _ | exact q60 _ | exact qc _ | exact qa _ | exact qv _) (k := ?_)) | (with_reducible refine zkP (fun ht => ?_) (fun ht => ?_) <;> try first | exact False.elim ht | exact absurd rfl ht | exact absurd trivial ht | exact Bool.noConfusion ht) | (with_reducible (refine k_ret ?_; repeat first | refine kzt ?_ | refine kzb ?_ | refine fin ?_)) | (with_reducible (refine kzx ?_; repeat first | refine thru ?_ | refine kzo ?_ | refine pass (by decide) ?_)) | ((first | refine post1 ?_ | refine post2 ?_ | refine post3 ?_); simp only [GA, simprocAttr]) | refine post0 ?_
   all_goals first | exact ends_of | exact ends_eq rfl
theorem RG61 : (type_of% @c61r0.eq_1) ∧ (type_of% @c61r1.eq_1) ∧ (type_of% @c61r2.eq_1) ∧ (type_of% @c61r3.eq_1) ∧ (type_of% @c61r4.eq_1) ∧ (type_of% @c61r5.eq_1) ∧ (type_of% @c61r6.eq_1) ∧ (type_of% @c61r7.eq_1) ∧ (type_of% @c61r8.eq_1) ∧ (type_of% @c61r10.eq_1) := ⟨@c61r0.eq_1, @c61r1.eq_1, @c61r2.eq_1, @c61r3.eq_1, @c61r4.eq_1, @c61r5.eq_1, @c61r6.eq_1, @c61r7.eq_1, @c61r8.eq_1, @c61r10.eq_1⟩
theorem d61 (s : Sz) (x : Hd) (hs : szOk s = true) (hx : hdOk x = true) : PC Tryd.prog 61 [.ag (eZ s), .ag (eH x)] (.tu [.i .i64 (nS s x 5), .b (fitB s x)]) := by
 have g : sgl s x = 0 := by unfold sgl; rw [hs, hx]; rfl
 have q80 := pc22 s x
 have q81 := pc21 s x
 rw [show neeR s x = (nd s x, 0) from if_pos g] at q80
 have ef : fitR s x = (fitB s x, 0) := by unfold fitR fitB; rw [g]; rfl
 rw [ef] at q81
 generalize fitB s x = ft at *
 refine pc_fn fn61 (by simp only [AV.plains, AV.plain, il_plain, bl_plain, Bool.and_true, Bool.true_and, Bool.and_self]) (by simp only [AV.plains, AV.plain, il_plain, bl_plain, Bool.and_true, Bool.true_and, Bool.and_self]) (Nat.le_of_ble_eq_true rfl) ?_
 rw [initSt2]
 repeat' first | (with_reducible first | refine kzq ?_ | refine kzs ?_ | refine kzS ?_ | refine kzR ?_ | refine kzC ?_ | refine kzH ?_ | refine kzB ?_ | refine kzK ?_ | refine kzE ?_ | refine kzg ?_) | with_reducible refine r_done ?_ | with_reducible refine s_go (by simp (disch := omega) only [eZ_rd, eH_rd, e5_rd, RG61, EVA, plug, eq_self, simprocAttr]; with_reducible rfl) ?_ | ((with_reducible refine kzr ?_); refine zrF ?_) | ((with_reducible refine kzr ?_); refine zrP (c := by first | exact q80 _ | exact q81 _) (k := ?_)) | (with_reducible refine zkP (fun ht => ?_) (fun ht => ?_) <;> try first | exact False.elim ht | exact absurd rfl ht | exact absurd trivial ht | exact Bool.noConfusion ht) | (with_reducible (refine k_ret ?_; repeat first | refine kzt ?_ | refine kzb ?_ | refine fin ?_)) | (with_reducible (refine kzx ?_; repeat first | refine thru ?_ | refine kzo ?_ | refine pass (by decide) ?_)) | ((first | refine post1 ?_ | refine post2 ?_ | refine post3 ?_); simp only [GA, simprocAttr]) | refine post0 ?_
 refine k_blk (k_loopS (X := Unit) [7, 8, 9, 10, 25, 26] 5 (fun k _ => [(7, .i .i64 0), (8, .b ft), (9, .i .i64 0), (10, .i .i64 (nS s x k)), (25, .ag (e5 (nd s x))), (26, .i .i64 (k : Int))]) (fun k _ h => True) () (by simp only [Am.keep, ZK, simprocAttr]; try rfl) trivial ?_)
 rintro k _ h hk - ok pos
 by_cases klt : k < 5
 ·have klt' : (k : Int) < 5 := by omega
  have g0 := e5_get (F := nd s x) klt
  have b3 := ndB hs hx klt
  have b4 := nSB hs hx (k := k) hk
  have w3 : IntKind.i64.wrap (nS s x k + nd s x k) = nS s x k + nd s x k := wrap64 (by omega) (by omega)
  repeat' first | (with_reducible first | refine kzq ?_ | refine kzs ?_ | refine kzS ?_ | refine kzR ?_ | refine kzC ?_ | refine kzH ?_ | refine kzB ?_ | refine kzK ?_ | refine kzE ?_ | refine kzg ?_) | with_reducible refine r_done ?_ | with_reducible refine s_go (by simp (disch := omega) only [klt', g0, w3, RG61, EVA, plug, eq_self, simprocAttr]; with_reducible rfl) ?_ | ((with_reducible refine kzr ?_); refine zrF ?_) | (with_reducible refine zkP (fun ht => ?_) (fun ht => ?_) <;> try first | exact False.elim ht | exact absurd rfl ht | exact absurd trivial ht | exact Bool.noConfusion ht) | (with_reducible (refine k_ret ?_; repeat first | refine kzt ?_ | refine kzb ?_ | refine fin ?_)) | (with_reducible (refine kzx ?_; repeat first | refine thru ?_ | refine kzo ?_ | refine pass (by decide) ?_)) | ((first | refine post1 ?_ | refine post2 ?_ | refine post3 ?_); simp only [GA, simprocAttr]) | refine post0 ?_
  exact ⟨klt, (), (by simp only [Am.keep, ZK, simprocAttr]; try rfl), trivial⟩
 ·obtain rfl : k = 5 := by omega
  have klt' : ¬ ((5 : Nat) : Int) < 5 := by omega
  cases ft <;>
  repeat' first | (with_reducible first | refine kzq ?_ | refine kzs ?_ | refine kzS ?_ | refine kzR ?_ | refine kzC ?_ | refine kzH ?_ | refine kzB ?_ | refine kzK ?_ | refine kzE ?_ | refine kzg ?_) | with_reducible refine r_done ?_ | with_reducible refine s_go (by simp (disch := omega) only [klt', RG61, EVA, plug, eq_self, simprocAttr]; with_reducible rfl) ?_ | ((with_reducible refine kzr ?_); refine zrF ?_) | (with_reducible refine zkP (fun ht => ?_) (fun ht => ?_) <;> try first | exact False.elim ht | exact absurd rfl ht | exact absurd trivial ht | exact Bool.noConfusion ht) | (with_reducible (refine k_ret ?_; repeat first | refine kzt ?_ | refine kzb ?_ | refine fin ?_)) | (with_reducible (refine kzx ?_; repeat first | refine thru ?_ | refine kzo ?_ | refine pass (by decide) ?_)) | ((first | refine post1 ?_ | refine post2 ?_ | refine post3 ?_); simp only [GA, simprocAttr]) | refine post0 ?_
  all_goals all_goals first | exact ends_of | exact ends_eq rfl
theorem RG26 : (type_of% @c26r0.eq_1) ∧ (type_of% @c26r1.eq_1) ∧ (type_of% @c26r2.eq_1) ∧ (type_of% @c26r3.eq_1) ∧ (type_of% @c26r4.eq_1) ∧ (type_of% @c26r5.eq_1) ∧ (type_of% @c26r6.eq_1) ∧ (type_of% @c26r7.eq_1) ∧ (type_of% @c26r8.eq_1) ∧ (type_of% @c26r10.eq_1) := ⟨@c26r0.eq_1, @c26r1.eq_1, @c26r2.eq_1, @c26r3.eq_1, @c26r4.eq_1, @c26r5.eq_1, @c26r6.eq_1, @c26r7.eq_1, @c26r8.eq_1, @c26r10.eq_1⟩
theorem d26 (l : List Sz) (x : Hd) (k : Nat) (hl : szsOk l = true) (hx : hdOk x = true) (hk : k < l.length) (hf : fitB (zD l k) x = true) (hmin : ∀ i, i < l.length → fitB (zD l i) x = true → nS (zD l k) x 5 ≤ nS (zD l i) x 5) : PC Tryd.prog 26 [vZ l, .ag (eH x), .i .i64 (k : Int)] (.b true) := by
 have L := szsOk_iff.1 hl
 have qk := d61 (zD l k) x (L.2.1 k hk) hx
 rw [hf] at qk
 have hk' : (k : Int) < l.length := by omega
 have rK := rdZ hk
 refine pc_fn fn26 (by simp only [AV.plains, AV.plain, il_plain, bl_plain, Bool.and_true, Bool.true_and, Bool.and_self, fleZ_plain]) (by simp only [AV.plains, AV.plain, il_plain, bl_plain, Bool.and_true, Bool.true_and, Bool.and_self, fleZ_plain]) (Nat.le_of_ble_eq_true rfl) ?_
 rw [initSt3]
 repeat' first | (with_reducible first | refine kzq ?_ | refine kzs ?_ | refine kzS ?_ | refine kzR ?_ | refine kzC ?_ | refine kzH ?_ | refine kzB ?_ | refine kzK ?_ | refine kzE ?_ | refine kzg ?_) | with_reducible refine k_head (by with_unfolding_all rfl) ?_ | with_reducible refine k_headS ?_ | (with_reducible refine SepK.mk ?_ ?_; (refine sepQ_P ?_; simp [sepQ, sepG, AOp.late, AOp.free, AOp.xs, AOp.isAl, tokNe, AV.tok, stS_get, strip, AX.val, RG26, GA]; try omega)) | with_reducible refine r_done ?_ | with_reducible refine hr_done ?_ | with_reducible refine s_go (by simp (disch := omega) only [hk', rK, eZ_rd, eH_rd, RG26, EVA, plug, eq_self, simprocAttr]; with_reducible rfl) ?_ | with_reducible refine h_go (by with_unfolding_all rfl) (by simp (disch := omega) only [hk', rK, eZ_rd, eH_rd, RG26, EVA, plug, eq_self, simprocAttr]; with_reducible rfl) ?_ | ((with_reducible refine kzr ?_); refine zrF ?_) | ((with_reducible refine kzh ?_); refine zhF ?_) | ((with_reducible refine kzr ?_); refine zrP (c := by first | exact qk _) (k := ?_)) | ((with_reducible refine kzh ?_); refine zhP (c := by first | exact qk _) (k := ?_)) | ((with_reducible refine kzh ?_); refine zhQ (c := by first | exact qk _) (k := ?_)) | ((with_reducible refine kzh ?_); refine hr_app (by simp (disch := omega) only [hk', rK, eZ_rd, eH_rd, RG26, EVA, plug, eq_self, simprocAttr]; with_reducible rfl) rfl ?_) | (with_reducible refine zkP (fun ht => ?_) (fun ht => ?_) <;> try first | exact False.elim ht | exact absurd rfl ht | exact absurd trivial ht | exact Bool.noConfusion ht) | (with_reducible (refine k_ret ?_; repeat first | refine kzt ?_ | refine kzb ?_ | refine fin ?_)) | (with_reducible (refine kzx ?_; repeat first | refine thru ?_ | refine kzo ?_ | refine pass (by decide) ?_)) | ((first | refine post1 ?_ | refine post2 ?_ | refine post3 ?_); simp only [GA, simprocAttr]) | refine post0 ?_
 refine k_blk (k_loopS (X := Unit) [4, 7, 8, 22, 23, 24] l.length (fun i _ => [(4, .p 1 0), (7, .i .i64 (nS (zD l k) x 5)), (8, .b true), (22, vZ l), (23, .i .i64 l.length), (24, .i .i64 (i : Int))]) (fun i _ h => h.m 1 = some (.cells true (eH x))) () (by simp only [Am.keep, ZK, simprocAttr]; try rfl) (by simp (disch := omega) only [RG26, EVA, plug, eq_self, simprocAttr] <;> rfl) ?_)
 rintro i _ h hi hm ok pos
 have l1 := ok.m hm
 have m1 : ¬ (1 : Nat) = h.nx + 1 + 2 := by omega
 by_cases ilt : i < l.length
 ·have ilt' : (i : Int) < l.length := by omega
  have rI := rdZ ilt
  have qi := d61 (zD l i) x (L.2.1 i ilt) hx
  have mi := hmin i ilt
  cases c : fitB (zD l i) x with
  | true =>
    rw [c] at qi mi
    have c' := eq_false (show ¬ nS (zD l i) x 5 < nS (zD l k) x 5 by have := mi rfl; omega)
    generalize nS (zD l i) x 5 = u at *
    generalize nS (zD l k) x 5 = v at *
    repeat' first | (with_reducible first | refine kzq ?_ | refine kzs ?_ | refine kzS ?_ | refine kzR ?_ | refine kzC ?_ | refine kzH ?_ | refine kzB ?_ | refine kzK ?_ | refine kzE ?_ | refine kzg ?_) | with_reducible refine k_head (by with_unfolding_all rfl) ?_ | with_reducible refine k_headS ?_ | (with_reducible refine SepK.mk ?_ ?_; (refine sepQ_P ?_; simp [sepQ, sepG, AOp.late, AOp.free, AOp.xs, AOp.isAl, tokNe, AV.tok, stS_get, strip, AX.val, RG26, GA]; try omega)) | with_reducible refine r_done ?_ | with_reducible refine hr_done ?_ | with_reducible refine s_go (by simp (disch := omega) only [ilt', rI, eZ_rd, eH_rd, hm, row_m hm, read_row (row_m hm), m1, c', RG26, EVA, plug, eq_self, simprocAttr]; with_reducible rfl) ?_ | with_reducible refine h_go (by with_unfolding_all rfl) (by simp (disch := omega) only [ilt', rI, eZ_rd, eH_rd, hm, row_m hm, read_row (row_m hm), m1, c', RG26, EVA, plug, eq_self, simprocAttr]; with_reducible rfl) ?_ | ((with_reducible refine kzr ?_); refine zrF ?_) | ((with_reducible refine kzh ?_); refine zhF ?_) | ((with_reducible refine kzr ?_); refine zrP (c := by first | exact qi _) (k := ?_)) | ((with_reducible refine kzh ?_); refine zhP (c := by first | exact qi _) (k := ?_)) | ((with_reducible refine kzh ?_); refine zhQ (c := by first | exact qi _) (k := ?_)) | ((with_reducible refine kzh ?_); refine hr_app (by simp (disch := omega) only [ilt', rI, eZ_rd, eH_rd, hm, row_m hm, read_row (row_m hm), m1, c', RG26, EVA, plug, eq_self, simprocAttr]; with_reducible rfl) rfl ?_) | (with_reducible refine zkP (fun ht => ?_) (fun ht => ?_) <;> try first | exact False.elim ht | exact absurd rfl ht | exact absurd trivial ht | exact Bool.noConfusion ht) | (with_reducible (refine k_ret ?_; repeat first | refine kzt ?_ | refine kzb ?_ | refine fin ?_)) | (with_reducible (refine kzx ?_; repeat first | refine thru ?_ | refine kzo ?_ | refine pass (by decide) ?_)) | ((first | refine post1 ?_ | refine post2 ?_ | refine post3 ?_); simp only [GA, simprocAttr]) | refine post0 ?_
    exact ⟨ilt, (), (by simp only [Am.keep, ZK, simprocAttr]; try rfl), by simp (disch := omega) only [hm, m1, RG26, EVA, plug, eq_self, simprocAttr]⟩
  | false =>
    rw [c] at qi
    repeat' first | (with_reducible first | refine kzq ?_ | refine kzs ?_ | refine kzS ?_ | refine kzR ?_ | refine kzC ?_ | refine kzH ?_ | refine kzB ?_ | refine kzK ?_ | refine kzE ?_ | refine kzg ?_) | with_reducible refine k_head (by with_unfolding_all rfl) ?_ | with_reducible refine k_headS ?_ | (with_reducible refine SepK.mk ?_ ?_; (refine sepQ_P ?_; simp [sepQ, sepG, AOp.late, AOp.free, AOp.xs, AOp.isAl, tokNe, AV.tok, stS_get, strip, AX.val, RG26, GA]; try omega)) | with_reducible refine r_done ?_ | with_reducible refine hr_done ?_ | with_reducible refine s_go (by simp (disch := omega) only [ilt', rI, eZ_rd, eH_rd, hm, row_m hm, read_row (row_m hm), m1, RG26, EVA, plug, eq_self, simprocAttr]; with_reducible rfl) ?_ | with_reducible refine h_go (by with_unfolding_all rfl) (by simp (disch := omega) only [ilt', rI, eZ_rd, eH_rd, hm, row_m hm, read_row (row_m hm), m1, RG26, EVA, plug, eq_self, simprocAttr]; with_reducible rfl) ?_ | ((with_reducible refine kzr ?_); refine zrF ?_) | ((with_reducible refine kzh ?_); refine zhF ?_) | ((with_reducible refine kzr ?_); refine zrP (c := by first | exact qi _) (k := ?_)) | ((with_reducible refine kzh ?_); refine zhP (c := by first | exact qi _) (k := ?_)) | ((with_reducible refine kzh ?_); refine zhQ (c := by first | exact qi _) (k := ?_)) | ((with_reducible refine kzh ?_); refine hr_app (by simp (disch := omega) only [ilt', rI, eZ_rd, eH_rd, hm, row_m hm, read_row (row_m hm), m1, RG26, EVA, plug, eq_self, simprocAttr]; with_reducible rfl) rfl ?_) | (with_reducible refine zkP (fun ht => ?_) (fun ht => ?_) <;> try first | exact False.elim ht | exact absurd rfl ht | exact absurd trivial ht | exact Bool.noConfusion ht) | (with_reducible (refine k_ret ?_; repeat first | refine kzt ?_ | refine kzb ?_ | refine fin ?_)) | (with_reducible (refine kzx ?_; repeat first | refine thru ?_ | refine kzo ?_ | refine pass (by decide) ?_)) | ((first | refine post1 ?_ | refine post2 ?_ | refine post3 ?_); simp only [GA, simprocAttr]) | refine post0 ?_
    exact ⟨ilt, (), (by simp only [Am.keep, ZK, simprocAttr]; try rfl), by simp (disch := omega) only [hm, m1, RG26, EVA, plug, eq_self, simprocAttr]⟩
 ·obtain rfl : i = l.length := by omega
  have ilt' : ¬ (l.length : Int) < l.length := by omega
  repeat' first | (with_reducible first | refine kzq ?_ | refine kzs ?_ | refine kzS ?_ | refine kzR ?_ | refine kzC ?_ | refine kzH ?_ | refine kzB ?_ | refine kzK ?_ | refine kzE ?_ | refine kzg ?_) | with_reducible refine k_head (by with_unfolding_all rfl) ?_ | with_reducible refine k_headS ?_ | (with_reducible refine SepK.mk ?_ ?_; (refine sepQ_P ?_; simp [sepQ, sepG, AOp.late, AOp.free, AOp.xs, AOp.isAl, tokNe, AV.tok, stS_get, strip, AX.val, RG26, GA]; try omega)) | with_reducible refine r_done ?_ | with_reducible refine hr_done ?_ | with_reducible refine s_go (by simp (disch := omega) only [ilt', RG26, EVA, plug, eq_self, simprocAttr]; with_reducible rfl) ?_ | with_reducible refine h_go (by with_unfolding_all rfl) (by simp (disch := omega) only [ilt', RG26, EVA, plug, eq_self, simprocAttr]; with_reducible rfl) ?_ | ((with_reducible refine kzr ?_); refine zrF ?_) | ((with_reducible refine kzh ?_); refine zhF ?_) | ((with_reducible refine kzh ?_); refine hr_app (by simp (disch := omega) only [ilt', RG26, EVA, plug, eq_self, simprocAttr]; with_reducible rfl) rfl ?_) | (with_reducible refine zkP (fun ht => ?_) (fun ht => ?_) <;> try first | exact False.elim ht | exact absurd rfl ht | exact absurd trivial ht | exact Bool.noConfusion ht) | (with_reducible (refine k_ret ?_; repeat first | refine kzt ?_ | refine kzb ?_ | refine fin ?_)) | (with_reducible (refine kzx ?_; repeat first | refine thru ?_ | refine kzo ?_ | refine pass (by decide) ?_)) | ((first | refine post1 ?_ | refine post2 ?_ | refine post3 ?_); simp only [GA, simprocAttr]) | refine post0 ?_
  all_goals first | exact ends_of | exact ends_eq rfl
theorem chS_ok (l : List Sz) (x : Hd) : ∀ k, ((chS l x k).1 < 0 → ∀ i, i < k → fitB (zD l i) x = false) ∧ (0 ≤ (chS l x k).1 → (chS l x k).1.toNat < k ∧ fitB (zD l (chS l x k).1.toNat) x = true ∧ (chS l x k).2 = nS (zD l (chS l x k).1.toNat) x 5 ∧ ∀ i, i < k → fitB (zD l i) x = true → (chS l x k).2 ≤ nS (zD l i) x 5)
 | 0 => ⟨fun _ i hi => by omega, fun h => by simp [chS] at h⟩
 | k + 1 => by
   obtain ⟨ih1, ih2⟩ := chS_ok l x k
   rw [chS]
   by_cases c : chP l x (chS l x k) k
   ·rw [if_pos c]
    refine ⟨fun h => by simp only at h; omega, fun _ => ?_⟩
    simp only [Int.toNat_natCast]
    refine ⟨by omega, c.1, trivial, fun i hi hf => ?_⟩
    by_cases e : i = k
    ·subst e; exact Int.le_refl _
    ·rcases c.2 with q | q | q
     ·have := ih1 q i (by omega)
      rw [hf] at this; cases this
     ·by_cases n0 : (chS l x k).1 < 0
      ·have := ih1 n0 i (by omega)
       rw [hf] at this; cases this
      ·have := (ih2 (by omega)).2.2.2 i (by omega) hf
       omega
     ·by_cases n0 : (chS l x k).1 < 0
      ·have := ih1 n0 i (by omega)
       rw [hf] at this; cases this
      ·have := (ih2 (by omega)).2.2.2 i (by omega) hf
       omega
   ·rw [if_neg c]
    refine ⟨fun h i hi => ?_, fun h => ?_⟩
    ·by_cases e : i = k
     ·subst e
      cases f : fitB (zD l i) x with
      | false => rfl
      | true => exact absurd ⟨f, .inl h⟩ c
     ·exact ih1 h i (by omega)
    ·obtain ⟨h1, h2, h3, h4⟩ := ih2 h
     refine ⟨by omega, h2, h3, fun i hi hf => ?_⟩
     by_cases e : i = k
     ·subst e
      refine Classical.byContradiction fun q => c ⟨hf, .inr (.inl (by omega))⟩
     ·exact h4 i (by omega) hf
end Go.Proofs.YtjaihaccehaicaaDoor
