/- What the proof of the law needs: the abstract machine, the functions as it reads them, their contracts, part 5. -/
import Derived.Test.YtjncfpfgobojpaaZd
set_option linter.unusedVariables false
set_option linter.unusedSimpArgs false
namespace Go.Proofs.Ytjncfpfgobojpaa
open Go Go.Am Go.Proofs
theorem eB_len (b : B) : (eB b).length = 7 := rfl
theorem eB_plain (b : B) : AV.plains (eB b) = true := rfl
theorem flB_plain (l : List B) : AV.plains (fl eB l) = true := fl_plain eB_plain l
theorem flB_len (l : List B) : (fl eB l).length = l.length * 7 := fl_len eB_len l
theorem rdB {l : List B} {j : Nat} (h : j < l.length) : rd (fl eB l) (j * 7) (some 7) = some (.ag (eB (bD l j))) := fl_rd eB_len B0 h
theorem getB {l : List B} {j c : Nat} (h : j < l.length) (hc : c < 7) : (fl eB l)[j * 7 + c]? = (eB (bD l j))[c]? := fl_get eB_len B0 h hc
theorem getB0 {l : List B} {j : Nat} (h : j < l.length) : (fl eB l)[j * 7]? = some (.i .i64 (bD l j).num) := getB (c := 0) h (by omega)
abbrev vB (l : List B) : AV := .vs l.length (fl eB l)
def hB (b : B) : Nat → Int
 | 0 => b.h0
 | 1 => b.h1
 | 2 => b.h2
 | _ => b.h3
abbrev hsB (b : B) : List AV := [.i .i64 b.h0, .i .i64 b.h1, .i .i64 b.h2, .i .i64 b.h3]
theorem hB_get (b : B) {k : Nat} (h : k < 4) : (hsB b)[k]? = some (.i .i64 (hB b k)) := by
 have : k = 0 ∨ k = 1 ∨ k = 2 ∨ k = 3 := by omega
 rcases this with rfl | rfl | rfl | rfl <;> rfl
theorem hB_get7 (b : B) {k : Nat} (h : k < 4) : (eB b)[3 + k]? = some (.i .i64 (hB b k)) := by
 have : k = 0 ∨ k = 1 ∨ k = 2 ∨ k = 3 := by omega
 rcases this with rfl | rfl | rfl | rfl <;> rfl
theorem vb_no {b : B} {k : Nat} (h : k < 4) (hn : ¬ (0 ≤ hB b k ∧ hB b k ≤ 100)) : vb b = false := by
 have : k = 0 ∨ k = 1 ∨ k = 2 ∨ k = 3 := by omega
 unfold vb
 rw [decide_eq_false_iff_not]
 rcases this with rfl | rfl | rfl | rfl <;> simp only [hB] at hn <;> omega
theorem vb_yes {b : B} (h : ∀ k, k < 4 → 0 ≤ hB b k ∧ hB b k ≤ 100) : vb b = decide ((1 ≤ b.num ∧ b.num ≤ 1000000000) ∧ (0 ≤ b.dark ∧ b.dark ≤ 9) ∧ 0 ≤ b.grain ∧ b.grain ≤ 9) := by
 have h0 := h 0 (by omega)
 have h1 := h 1 (by omega)
 have h2 := h 2 (by omega)
 have h3 := h 3 (by omega)
 simp only [hB] at h0 h1 h2 h3
 unfold vb
 rw [decide_eq_decide]
 omega
theorem EVA : (type_of% @EV0) ∧ (type_of% @EV1) ∧ (type_of% @EV2) ∧ (type_of% @EV3) ∧ (type_of% @EV4) ∧ (type_of% @EV5) ∧ (type_of% @EV6) ∧ (type_of% @EV7) ∧ (type_of% @EV8) ∧ (type_of% @VALS) ∧ (type_of% @ite_same) ∧ (type_of% @decide_true) ∧ (type_of% @decide_false) := ⟨@EV0, @EV1, @EV2, @EV3, @EV4, @EV5, @EV6, @EV7, @EV8, @VALS, @ite_same, @decide_true, @decide_false⟩
theorem pc63 (a b c : Int) : PC Try.prog 63 [.i .i64 a, .i .i64 b, .i .i64 c] (.b (decide (a ≤ b) && decide (b ≤ c))) := by
 refine pc_fn fn63 (by simp only [AV.plains, AV.plain, il_plain, bl_plain, Bool.and_true, Bool.true_and, Bool.and_self]) (by simp only [AV.plains, AV.plain, il_plain, bl_plain, Bool.and_true, Bool.true_and, Bool.and_self]) (Nat.le_of_ble_eq_true rfl) ?_
 rw [initSt3]
 repeat' first | (with_reducible first | refine k_seq ?_ | refine k_skip ?_ | refine k_blkS ?_ | refine k_blkR ?_ | refine k_blkC ?_ | refine k_blkH ?_ | refine k_blkB ?_ | refine k_blkK ?_ | refine k_blkE ?_ | refine k_reg ?_) | with_reducible refine r_done ?_ | with_reducible refine s_go (by simp (disch := omega) only [c63r0, c63r1, EVA, plug, eq_self, simprocAttr]; with_reducible rfl) ?_ | ((with_reducible refine chk_r ?_); refine r_callF (by simp only [CA, simprocAttr]; rfl) (by exact rfl) (by simp only [CA, simprocAttr]; rfl) rfl ?_) | (with_reducible refine k_condP (by simp only [GA, simprocAttr]; rfl) (by first | (simp only [BO]; rfl) | rfl) (fun ht => ?_) (fun ht => ?_) <;> try (first | exact False.elim ht | exact absurd rfl ht | exact absurd trivial ht | exact Bool.noConfusion ht)) | (with_reducible refine k_ret ?_; repeat with_reducible (first | refine ret_thru ?_ | refine ret_blk ?_ | refine fin ?_)) | (with_reducible refine k_exit ?_; repeat with_reducible (first | refine thru ?_ | refine out_blk ?_ | refine pass (by decide) ?_)) | ((first | refine post1 ?_ | refine post2 ?_ | refine post3 ?_); simp only [GA, simprocAttr]) | refine post0 ?_
 all_goals first | exact ends_of | exact ends_eq rfl
theorem RG57 : (type_of% @c57r0.eq_1) ∧ (type_of% @c57r1.eq_1) ∧ (type_of% @c57r2.eq_1) ∧ (type_of% @c57r3.eq_1) ∧ (type_of% @c57r4.eq_1) ∧ (type_of% @c57r5.eq_1) ∧ (type_of% @c57r6.eq_1) ∧ (type_of% @c57r8.eq_1) := ⟨@c57r0.eq_1, @c57r1.eq_1, @c57r2.eq_1, @c57r3.eq_1, @c57r4.eq_1, @c57r5.eq_1, @c57r6.eq_1, @c57r8.eq_1⟩
theorem pc57 (b : B) : PC Try.prog 57 [.ag (eB b)] (.b (vb b)) := by
 refine pc_fn fn57 (by simp only [AV.plains, AV.plain, il_plain, bl_plain, Bool.and_true, Bool.true_and, Bool.and_self, eB_plain]) (by simp only [AV.plains, AV.plain, il_plain, bl_plain, Bool.and_true, Bool.true_and, Bool.and_self, eB_plain]) (Nat.le_of_ble_eq_true rfl) ?_
 rw [initSt1]
 simp only [eB]
 repeat' first | (with_reducible first | refine k_seq ?_ | refine k_skip ?_ | refine k_blkS ?_ | refine k_blkR ?_ | refine k_blkC ?_ | refine k_blkH ?_ | refine k_blkB ?_ | refine k_blkK ?_ | refine k_blkE ?_ | refine k_reg ?_) | with_reducible refine r_done ?_ | with_reducible refine s_go (by simp (disch := omega) only [RG57, EV0, EV1, EV2, EV3, EV4, EV5, EV6, EV7, EV8, VALS, plug, ite_same, decide_true, decide_false, eq_self, simprocAttr]; with_reducible rfl) ?_ | ((with_reducible refine chk_r ?_); refine r_callF (by simp only [CA, simprocAttr]; rfl) (by exact rfl) (by simp only [CA, simprocAttr]; rfl) rfl ?_) | (with_reducible refine k_condP (by simp only [GA, simprocAttr]; rfl) (by first | (simp only [BO]; rfl) | rfl) (fun ht => ?_) (fun ht => ?_) <;> try (first | exact False.elim ht | exact absurd rfl ht | exact absurd trivial ht | exact Bool.noConfusion ht)) | (with_reducible refine k_ret ?_; repeat with_reducible (first | refine ret_thru ?_ | refine ret_blk ?_ | refine fin ?_)) | (with_reducible refine k_exit ?_; repeat with_reducible (first | refine thru ?_ | refine out_blk ?_ | refine pass (by decide) ?_)) | ((first | refine post1 ?_ | refine post2 ?_ | refine post3 ?_); simp only [GA, simprocAttr]) | refine post0 ?_
 refine k_blk (k_loopS (X := Unit) [1, 6, 7] 4 (fun k _ => [(1, .p 1 0), (6, .ag (hsB b)), (7, .i .i64 (k : Int))]) (fun k _ h => (∀ j, j < k → 0 ≤ hB b j ∧ hB b j ≤ 100) ∧ h.m 1 = some (.cells true (eB b))) () (by simp only [Am.keep, List.map_cons, List.map_nil, GA, simprocAttr]; try rfl) ⟨fun j hj => by omega, by simp (disch := omega) only [RG57, EV0, EV1, EV2, EV3, EV4, EV5, EV6, EV7, EV8, VALS, plug, ite_same, decide_true, decide_false, eq_self, simprocAttr] <;> rfl⟩ ?_)
 rintro k _ h hk ⟨hh, hm⟩ ok pos
 have lt1 := ok.m hm
 by_cases hlt : k < 4
 ·have hlt' : (k : Int) < 4 := by omega
  have g := hB_get b hlt
  generalize hcs : hsB b = cs at g ⊢
  have cl : cs.length = 4 := by rw [← hcs]; rfl
  clear hcs
  repeat' first | (with_reducible first | refine k_seq ?_ | refine k_skip ?_ | refine k_blkS ?_ | refine k_blkR ?_ | refine k_blkC ?_ | refine k_blkH ?_ | refine k_blkB ?_ | refine k_blkK ?_ | refine k_blkE ?_ | refine k_reg ?_) | with_reducible refine r_done ?_ | with_reducible refine s_go (by simp (disch := omega) only [hlt', g, cl, RG57, EV0, EV1, EV2, EV3, EV4, EV5, EV6, EV7, EV8, VALS, plug, ite_same, decide_true, decide_false, eq_self, simprocAttr]; with_reducible rfl) ?_ | ((with_reducible refine chk_r ?_); refine r_callF (by simp only [CA, simprocAttr]; rfl) (by exact rfl) (by simp only [CA, simprocAttr]; rfl) rfl ?_) | ((with_reducible refine chk_r ?_); refine r_callP (by simp only [CA, simprocAttr]; rfl) (by simp only [CA, simprocAttr]; rfl) (by first | exact pc63 _ _ _ _) rfl ?_) | ((with_reducible refine chk_r ?_); refine r_callG (by simp only [CA, simprocAttr]; rfl) (by simp only [CA, simprocAttr]; rfl) (by simp only [CA, simprocAttr]; rfl) (by intro hg; (try simp only [BO] at hg); first | exact pc63 _ _ _ _) rfl ?_) | (with_reducible refine k_condP (by simp only [GA, simprocAttr]; rfl) (by first | (simp only [BO]; rfl) | rfl) (fun ht => ?_) (fun ht => ?_) <;> try (first | exact False.elim ht | exact absurd rfl ht | exact absurd trivial ht | exact Bool.noConfusion ht)) | (with_reducible refine k_ret ?_; repeat with_reducible (first | refine ret_thru ?_ | refine ret_blk ?_ | refine fin ?_)) | (with_reducible refine k_exit ?_; repeat with_reducible (first | refine thru ?_ | refine out_blk ?_ | refine pass (by decide) ?_)) | ((first | refine post1 ?_ | refine post2 ?_ | refine post3 ?_); simp only [GA, simprocAttr]) | refine post0 ?_
  ·rw [vb_no hlt (by omega)]
   exact ends_of
  ·refine ⟨hlt, (), (by simp only [Am.keep, List.map_cons, List.map_nil, GA, simprocAttr]; try rfl), fun j hj => ?_, by simp (disch := omega) only [hm, RG57, EV0, EV1, EV2, EV3, EV4, EV5, EV6, EV7, EV8, VALS, plug, ite_same, decide_true, decide_false, eq_self, simprocAttr]⟩
   by_cases e : j = k
   ·subst e; omega
   ·exact hh j (by omega)
 ·obtain rfl : k = 4 := by omega
  have hlt' : ¬ ((4 : Nat) : Int) < 4 := by omega
  have hm' := row_m hm
  simp only [eB] at hm hm'
  rw [vb_yes hh]
  repeat' first | (with_reducible first | refine k_seq ?_ | refine k_skip ?_ | refine k_blkS ?_ | refine k_blkR ?_ | refine k_blkC ?_ | refine k_blkH ?_ | refine k_blkB ?_ | refine k_blkK ?_ | refine k_blkE ?_ | refine k_reg ?_) | with_reducible refine r_done ?_ | with_reducible refine s_go (by simp (disch := omega) only [hlt', hm, hm', read_row hm', RG57, EV0, EV1, EV2, EV3, EV4, EV5, EV6, EV7, EV8, VALS, plug, ite_same, decide_true, decide_false, eq_self, simprocAttr]; with_reducible rfl) ?_ | ((with_reducible refine chk_r ?_); refine r_callF (by simp only [CA, simprocAttr]; rfl) (by exact rfl) (by simp only [CA, simprocAttr]; rfl) rfl ?_) | ((with_reducible refine chk_r ?_); refine r_callP (by simp only [CA, simprocAttr]; rfl) (by simp only [CA, simprocAttr]; rfl) (by first | exact pc63 _ _ _ _) rfl ?_) | ((with_reducible refine chk_r ?_); refine r_callG (by simp only [CA, simprocAttr]; rfl) (by simp only [CA, simprocAttr]; rfl) (by simp only [CA, simprocAttr]; rfl) (by intro hg; (try simp only [BO] at hg); first | exact pc63 _ _ _ _) rfl ?_) | (with_reducible refine k_condP (by simp only [GA, simprocAttr]; rfl) (by first | (simp only [BO]; rfl) | rfl) (fun ht => ?_) (fun ht => ?_) <;> try (first | exact False.elim ht | exact absurd rfl ht | exact absurd trivial ht | exact Bool.noConfusion ht)) | (with_reducible refine k_ret ?_; repeat with_reducible (first | refine ret_thru ?_ | refine ret_blk ?_ | refine fin ?_)) | (with_reducible refine k_exit ?_; repeat with_reducible (first | refine thru ?_ | refine out_blk ?_ | refine pass (by decide) ?_)) | ((first | refine post1 ?_ | refine post2 ?_ | refine post3 ?_); simp only [GA, simprocAttr]) | refine post0 ?_
  refine ends_eq (b_eq ?_); rw [Bool.eq_iff_iff]
  simp only [Bool.and_eq_true, decide_eq_true_eq]
  omega
theorem RG56 : (type_of% @c56r0.eq_1) ∧ (type_of% @c56r1.eq_1) ∧ (type_of% @c56r2.eq_1) ∧ (type_of% @c56r3.eq_1) ∧ (type_of% @c56r4.eq_1) ∧ (type_of% @c56r5.eq_1) ∧ (type_of% @c56r7.eq_1) := ⟨@c56r0.eq_1, @c56r1.eq_1, @c56r2.eq_1, @c56r3.eq_1, @c56r4.eq_1, @c56r5.eq_1, @c56r7.eq_1⟩
theorem pc56 (b : B) : PC Try.prog 56 [.ag (eB b)] (.b (vb b)) := by
 refine pc_fn fn56 (by simp only [AV.plains, AV.plain, il_plain, bl_plain, Bool.and_true, Bool.true_and, Bool.and_self, eB_plain]) (by simp only [AV.plains, AV.plain, il_plain, bl_plain, Bool.and_true, Bool.true_and, Bool.and_self, eB_plain]) (Nat.le_of_ble_eq_true rfl) ?_
 rw [initSt1]
 simp only [eB]
 repeat' first | (with_reducible first | refine k_seq ?_ | refine k_skip ?_ | refine k_blkS ?_ | refine k_blkR ?_ | refine k_blkC ?_ | refine k_blkH ?_ | refine k_blkB ?_ | refine k_blkK ?_ | refine k_blkE ?_ | refine k_reg ?_) | with_reducible refine r_done ?_ | with_reducible refine s_go (by simp (disch := omega) only [RG56, EV0, EV1, EV2, EV3, EV4, EV5, EV6, EV7, EV8, VALS, plug, ite_same, decide_true, decide_false, eq_self, simprocAttr]; with_reducible rfl) ?_ | ((with_reducible refine chk_r ?_); refine r_callF (by simp only [CA, simprocAttr]; rfl) (by exact rfl) (by simp only [CA, simprocAttr]; rfl) rfl ?_) | (with_reducible refine k_condP (by simp only [GA, simprocAttr]; rfl) (by first | (simp only [BO]; rfl) | rfl) (fun ht => ?_) (fun ht => ?_) <;> try (first | exact False.elim ht | exact absurd rfl ht | exact absurd trivial ht | exact Bool.noConfusion ht)) | (with_reducible refine k_ret ?_; repeat with_reducible (first | refine ret_thru ?_ | refine ret_blk ?_ | refine fin ?_)) | (with_reducible refine k_exit ?_; repeat with_reducible (first | refine thru ?_ | refine out_blk ?_ | refine pass (by decide) ?_)) | ((first | refine post1 ?_ | refine post2 ?_ | refine post3 ?_); simp only [GA, simprocAttr]) | refine post0 ?_
 refine k_blk (k_loopS (X := Unit) [1, 3] 4 (fun k _ => [(1, .p 1 0), (3, .i .i64 (k : Int))]) (fun k _ h => (∀ j, j < k → 0 ≤ hB b j ∧ hB b j ≤ 100) ∧ h.m 1 = some (.cells true (eB b))) () (by simp only [Am.keep, List.map_cons, List.map_nil, GA, simprocAttr]; try rfl) ⟨fun j hj => by omega, by simp (disch := omega) only [RG56, EV0, EV1, EV2, EV3, EV4, EV5, EV6, EV7, EV8, VALS, plug, ite_same, decide_true, decide_false, eq_self, simprocAttr] <;> rfl⟩ ?_)
 rintro k _ h hk ⟨hh, hm⟩ ok pos
 have lt1 := ok.m hm
 have hm' := row_m hm
 by_cases hlt : k < 4
 ·have hlt' : (k : Int) < 4 := by omega
  have g := hB_get7 b hlt
  generalize hcs : eB b = cs at g hm hm' ⊢
  have cl : cs.length = 7 := by rw [← hcs]; rfl
  by_cases h1 : hB b k < 0
  ·repeat' first
    | with_reducible refine k_seq ?_
    | with_reducible refine k_skip ?_
    | with_reducible refine k_blkS ?_
    | with_reducible refine k_blkR ?_
    | with_reducible refine k_blkC ?_
    | with_reducible refine k_blkH ?_
    | with_reducible refine k_blkB ?_
    | with_reducible refine k_blkK ?_
    | with_reducible refine k_blkE ?_
    | with_reducible refine k_reg ?_
    | with_reducible refine r_done ?_
    | with_reducible refine s_go (by simp (disch := omega) only [hlt', g, cl, hm, hm', read_row hm', h1, RG56, EV0, EV1, EV2, EV3, EV4, EV5, EV6, EV7, EV8, VALS, plug, ite_same, decide_true, decide_false, eq_self, simprocAttr]; with_reducible rfl) ?_
    | ((with_reducible refine chk_r ?_); refine r_callF (by simp only [CA, simprocAttr]; rfl) (by exact rfl) (by simp only [CA, simprocAttr]; rfl) rfl ?_)
    | (with_reducible refine k_condP (by simp only [GA, simprocAttr]; rfl) (by first | (simp only [BO]; rfl) | rfl) (fun ht => ?_) (fun ht => ?_) <;> try (first | exact False.elim ht | exact absurd rfl ht | exact absurd trivial ht | exact Bool.noConfusion ht))
    | (with_reducible refine k_ret ?_; repeat with_reducible (first | refine ret_thru ?_ | refine ret_blk ?_ | refine fin ?_))
    | (with_reducible refine k_exit ?_; repeat with_reducible (first | refine thru ?_ | refine out_blk ?_ | refine pass (by decide) ?_))
    | (refine post1 ?_; simp only [GA, simprocAttr])
    | (refine post2 ?_; simp only [GA, simprocAttr])
    | (refine post3 ?_; simp only [GA, simprocAttr])
    | (refine postc (by simp only [GA, simprocAttr]; rfl) (by simp (disch := omega) only [hlt', g, cl, hm, hm', read_row hm', h1, RG56, EV0, EV1, EV2, EV3, EV4, EV5, EV6, EV7, EV8, VALS, plug, ite_same, decide_true, decide_false, eq_self, simprocAttr]; rfl) ?_)
    | refine post0 ?_
   rw [vb_no hlt (by omega)]
   exact ends_of
  ·by_cases h2 : 100 < hB b k
   ·repeat' first
     | with_reducible refine k_seq ?_
     | with_reducible refine k_skip ?_
     | with_reducible refine k_blkS ?_
     | with_reducible refine k_blkR ?_
     | with_reducible refine k_blkC ?_
     | with_reducible refine k_blkH ?_
     | with_reducible refine k_blkB ?_
     | with_reducible refine k_blkK ?_
     | with_reducible refine k_blkE ?_
     | with_reducible refine k_reg ?_
     | with_reducible refine r_done ?_
     | with_reducible refine s_go (by simp (disch := omega) only [hlt', g, cl, hm, hm', read_row hm', h1, h2, RG56, EV0, EV1, EV2, EV3, EV4, EV5, EV6, EV7, EV8, VALS, plug, ite_same, decide_true, decide_false, eq_self, simprocAttr]; with_reducible rfl) ?_
     | ((with_reducible refine chk_r ?_); refine r_callF (by simp only [CA, simprocAttr]; rfl) (by exact rfl) (by simp only [CA, simprocAttr]; rfl) rfl ?_)
     | (with_reducible refine k_condP (by simp only [GA, simprocAttr]; rfl) (by first | (simp only [BO]; rfl) | rfl) (fun ht => ?_) (fun ht => ?_) <;> try (first | exact False.elim ht | exact absurd rfl ht | exact absurd trivial ht | exact Bool.noConfusion ht))
     | (with_reducible refine k_ret ?_; repeat with_reducible (first | refine ret_thru ?_ | refine ret_blk ?_ | refine fin ?_))
     | (with_reducible refine k_exit ?_; repeat with_reducible (first | refine thru ?_ | refine out_blk ?_ | refine pass (by decide) ?_))
     | (refine post1 ?_; simp only [GA, simprocAttr])
     | (refine post2 ?_; simp only [GA, simprocAttr])
     | (refine post3 ?_; simp only [GA, simprocAttr])
     | (refine postc (by simp only [GA, simprocAttr]; rfl) (by simp (disch := omega) only [hlt', g, cl, hm, hm', read_row hm', h1, h2, RG56, EV0, EV1, EV2, EV3, EV4, EV5, EV6, EV7, EV8, VALS, plug, ite_same, decide_true, decide_false, eq_self, simprocAttr]; rfl) ?_)
     | refine post0 ?_
    rw [vb_no hlt (by omega)]
    exact ends_of
   ·repeat' first
     | with_reducible refine k_seq ?_
     | with_reducible refine k_skip ?_
     | with_reducible refine k_blkS ?_
     | with_reducible refine k_blkR ?_
     | with_reducible refine k_blkC ?_
     | with_reducible refine k_blkH ?_
     | with_reducible refine k_blkB ?_
     | with_reducible refine k_blkK ?_
     | with_reducible refine k_blkE ?_
     | with_reducible refine k_reg ?_
     | with_reducible refine r_done ?_
     | with_reducible refine s_go (by simp (disch := omega) only [hlt', g, cl, hm, hm', read_row hm', h1, h2, RG56, EV0, EV1, EV2, EV3, EV4, EV5, EV6, EV7, EV8, VALS, plug, ite_same, decide_true, decide_false, eq_self, simprocAttr]; with_reducible rfl) ?_
     | ((with_reducible refine chk_r ?_); refine r_callF (by simp only [CA, simprocAttr]; rfl) (by exact rfl) (by simp only [CA, simprocAttr]; rfl) rfl ?_)
     | (with_reducible refine k_condP (by simp only [GA, simprocAttr]; rfl) (by first | (simp only [BO]; rfl) | rfl) (fun ht => ?_) (fun ht => ?_) <;> try (first | exact False.elim ht | exact absurd rfl ht | exact absurd trivial ht | exact Bool.noConfusion ht))
     | (with_reducible refine k_ret ?_; repeat with_reducible (first | refine ret_thru ?_ | refine ret_blk ?_ | refine fin ?_))
     | (with_reducible refine k_exit ?_; repeat with_reducible (first | refine thru ?_ | refine out_blk ?_ | refine pass (by decide) ?_))
     | (refine post1 ?_; simp only [GA, simprocAttr])
     | (refine post2 ?_; simp only [GA, simprocAttr])
     | (refine post3 ?_; simp only [GA, simprocAttr])
     | (refine postc (by simp only [GA, simprocAttr]; rfl) (by simp (disch := omega) only [hlt', g, cl, hm, hm', read_row hm', h1, h2, RG56, EV0, EV1, EV2, EV3, EV4, EV5, EV6, EV7, EV8, VALS, plug, ite_same, decide_true, decide_false, eq_self, simprocAttr]; rfl) ?_)
     | refine post0 ?_
    refine ⟨hlt, (), (by simp only [Am.keep, List.map_cons, List.map_nil, GA, simprocAttr]; try rfl), fun j hj => ?_, by simp (disch := omega) only [hm, RG56, EV0, EV1, EV2, EV3, EV4, EV5, EV6, EV7, EV8, VALS, plug, ite_same, decide_true, decide_false, eq_self, simprocAttr]⟩
    by_cases e : j = k
    ·subst e; omega
    ·exact hh j (by omega)
 ·obtain rfl : k = 4 := by omega
  have hlt' : ¬ ((4 : Nat) : Int) < 4 := by omega
  simp only [eB] at hm hm'
  rw [vb_yes hh]
  repeat' first | (with_reducible first | refine k_seq ?_ | refine k_skip ?_ | refine k_blkS ?_ | refine k_blkR ?_ | refine k_blkC ?_ | refine k_blkH ?_ | refine k_blkB ?_ | refine k_blkK ?_ | refine k_blkE ?_ | refine k_reg ?_) | with_reducible refine r_done ?_ | with_reducible refine s_go (by simp (disch := omega) only [hlt', hm, hm', read_row hm', RG56, EV0, EV1, EV2, EV3, EV4, EV5, EV6, EV7, EV8, VALS, plug, ite_same, decide_true, decide_false, eq_self, simprocAttr]; with_reducible rfl) ?_ | ((with_reducible refine chk_r ?_); refine r_callF (by simp only [CA, simprocAttr]; rfl) (by exact rfl) (by simp only [CA, simprocAttr]; rfl) rfl ?_) | (with_reducible refine k_condP (by simp only [GA, simprocAttr]; rfl) (by first | (simp only [BO]; rfl) | rfl) (fun ht => ?_) (fun ht => ?_) <;> try (first | exact False.elim ht | exact absurd rfl ht | exact absurd trivial ht | exact Bool.noConfusion ht)) | (with_reducible refine k_ret ?_; repeat with_reducible (first | refine ret_thru ?_ | refine ret_blk ?_ | refine fin ?_)) | (with_reducible refine k_exit ?_; repeat with_reducible (first | refine thru ?_ | refine out_blk ?_ | refine pass (by decide) ?_)) | ((first | refine post1 ?_ | refine post2 ?_ | refine post3 ?_); simp only [GA, simprocAttr]) | refine post0 ?_
  refine ends_eq (b_eq ?_); rw [Bool.eq_iff_iff]
  simp only [Bool.and_eq_true, decide_eq_true_eq]
  omega
theorem RG26 : (type_of% @c26r0.eq_1) ∧ (type_of% @c26r1.eq_1) ∧ (type_of% @c26r2.eq_1) ∧ (type_of% @c26r3.eq_1) ∧ (type_of% @c26r4.eq_1) ∧ (type_of% @c26r5.eq_1) ∧ (type_of% @c26r6.eq_1) ∧ (type_of% @c26r7.eq_1) ∧ (type_of% @c26r8.eq_1) ∧ (type_of% @c26r9.eq_1) ∧ (type_of% @c26r10.eq_1) ∧ (type_of% @c26r12.eq_1) := ⟨@c26r0.eq_1, @c26r1.eq_1, @c26r2.eq_1, @c26r3.eq_1, @c26r4.eq_1, @c26r5.eq_1, @c26r6.eq_1, @c26r7.eq_1, @c26r8.eq_1, @c26r9.eq_1, @c26r10.eq_1, @c26r12.eq_1⟩
theorem pc26 (l : List B) (hl : l.length ≤ 9223372036854775807) : PC Try.prog 26 [vB l] (.b (vl l)) := by
 refine pc_fn fn26 (by simp only [AV.plains, AV.plain, il_plain, bl_plain, Bool.and_true, Bool.true_and, Bool.and_self, flB_plain]) (by simp only [AV.plains, AV.plain, il_plain, bl_plain, Bool.and_true, Bool.true_and, Bool.and_self, flB_plain]) (Nat.le_of_ble_eq_true rfl) ?_
 rw [initSt1]
 by_cases h6 : (40 : Int) < l.length
 ·rw [vl_f (fun h => by have := h.1; omega)]
  repeat' first | (with_reducible first | refine k_seq ?_ | refine k_skip ?_ | refine k_blkS ?_ | refine k_blkR ?_ | refine k_blkC ?_ | refine k_blkH ?_ | refine k_blkB ?_ | refine k_blkK ?_ | refine k_blkE ?_ | refine k_reg ?_) | with_reducible refine r_done ?_ | with_reducible refine s_go (by simp (disch := omega) only [h6, RG26, EV0, EV1, EV2, EV3, EV4, EV5, EV6, EV7, EV8, VALS, plug, ite_same, decide_true, decide_false, eq_self, simprocAttr]; with_reducible rfl) ?_ | ((with_reducible refine chk_r ?_); refine r_callF (by simp only [CA, simprocAttr]; rfl) (by exact rfl) (by simp only [CA, simprocAttr]; rfl) rfl ?_) | (with_reducible refine k_condP (by simp only [GA, simprocAttr]; rfl) (by first | (simp only [BO]; rfl) | rfl) (fun ht => ?_) (fun ht => ?_) <;> try (first | exact False.elim ht | exact absurd rfl ht | exact absurd trivial ht | exact Bool.noConfusion ht)) | (with_reducible refine k_ret ?_; repeat with_reducible (first | refine ret_thru ?_ | refine ret_blk ?_ | refine fin ?_)) | (with_reducible refine k_exit ?_; repeat with_reducible (first | refine thru ?_ | refine out_blk ?_ | refine pass (by decide) ?_)) | ((first | refine post1 ?_ | refine post2 ?_ | refine post3 ?_); simp only [GA, simprocAttr]) | refine post0 ?_
  all_goals first | exact ends_of | exact ends_eq rfl
 ·repeat' first
   | with_reducible refine k_seq ?_
   | with_reducible refine k_skip ?_
   | with_reducible refine k_blkS ?_
   | with_reducible refine k_blkR ?_
   | with_reducible refine k_blkC ?_
   | with_reducible refine k_blkH ?_
   | with_reducible refine k_blkB ?_
   | with_reducible refine k_blkK ?_
   | with_reducible refine k_blkE ?_
   | with_reducible refine k_reg ?_
   | with_reducible refine r_done ?_
   | with_reducible refine s_go (by simp (disch := omega) only [h6, RG26, EV0, EV1, EV2, EV3, EV4, EV5, EV6, EV7, EV8, VALS, plug, ite_same, decide_true, decide_false, eq_self, simprocAttr]; with_reducible rfl) ?_
   | ((with_reducible refine chk_r ?_); refine r_callF (by simp only [CA, simprocAttr]; rfl) (by exact rfl) (by simp only [CA, simprocAttr]; rfl) rfl ?_)
   | (with_reducible refine k_condP (by simp only [GA, simprocAttr]; rfl) (by first | (simp only [BO]; rfl) | rfl) (fun ht => ?_) (fun ht => ?_) <;> try (first | exact False.elim ht | exact absurd rfl ht | exact absurd trivial ht | exact Bool.noConfusion ht))
   | (with_reducible refine k_ret ?_; repeat with_reducible (first | refine ret_thru ?_ | refine ret_blk ?_ | refine fin ?_))
   | (with_reducible refine k_exit ?_; repeat with_reducible (first | refine thru ?_ | refine out_blk ?_ | refine pass (by decide) ?_))
   | (refine post1 ?_; simp only [GA, simprocAttr])
   | (refine post2 ?_; simp only [GA, simprocAttr])
   | (refine post3 ?_; simp only [GA, simprocAttr])
   | (refine postc (by simp only [GA, simprocAttr]; rfl) (by simp (disch := omega) only [h6, RG26, EV0, EV1, EV2, EV3, EV4, EV5, EV6, EV7, EV8, VALS, plug, ite_same, decide_true, decide_false, eq_self, simprocAttr]; rfl) ?_)
   | refine post0 ?_
  refine k_blk (k_loopS (X := Nat × List (AV × AV)) [3, 10, 11, 12] l.length (fun k x => [(3, .mp x.1), (10, vB l), (11, .i .i64 l.length), (12, .i .i64 (k : Int))])
   (fun k x h => h.m x.1 = some (.map x.2) ∧ vk l k ∧ MFi x.2 (setOf fun n => ∃ i, i < k ∧ (bD l i).num = n)) (_, _) (by simp only [Am.keep, List.map_cons, List.map_nil, GA, simprocAttr]; try rfl) ⟨by simp (disch := omega) only [RG26, EV0, EV1, EV2, EV3, EV4, EV5, EV6, EV7, EV8, VALS, plug, ite_same, decide_true, decide_false, eq_self, simprocAttr] <;> rfl, ?_, ?_⟩ ?_)
  ·exact ⟨fun i hi => by omega, fun i j _ hj => by omega⟩
  ·exact MFi.set_nil fun a ⟨i, hi, _⟩ => by omega
  rintro k ⟨tk, es⟩ h hk ⟨hm, hv, hf⟩ ok pos
  simp only at hm hf ⊢
  have htk := ok.m hm
  have lk := MFi.set_lk hf
  obtain ⟨u1, u2⟩ := MFi.up hf (bD l k).num (.b true)
  have q := pc57 (bD l k)
  by_cases hlt : k < l.length
  ·have rT := rdB hlt
   have hlt' : (k : Int) < l.length := by omega
   have stop : ¬ vk l (k + 1) → vl l = false := fun hn => vl_f fun h => hn (vk_mono h.2 (by omega))
   simp only [eB] at q rT
   cases hvt : vb (bD l k) with
   | false =>
     rw [hvt] at q
     repeat' first | (with_reducible first | refine k_seq ?_ | refine k_skip ?_ | refine k_blkS ?_ | refine k_blkR ?_ | refine k_blkC ?_ | refine k_blkH ?_ | refine k_blkB ?_ | refine k_blkK ?_ | refine k_blkE ?_ | refine k_reg ?_) | with_reducible refine r_done ?_ | with_reducible refine s_go (by simp (disch := omega) only [hm, rT, hlt', lk, u1, RG26, EV0, EV1, EV2, EV3, EV4, EV5, EV6, EV7, EV8, VALS, plug, ite_same, decide_true, decide_false, eq_self, simprocAttr]; with_reducible rfl) ?_ | ((with_reducible refine chk_r ?_); refine r_callF (by simp only [CA, simprocAttr]; rfl) (by exact rfl) (by simp only [CA, simprocAttr]; rfl) rfl ?_) | ((with_reducible refine chk_r ?_); refine r_callP (by simp only [CA, simprocAttr]; rfl) (by simp only [CA, simprocAttr]; rfl) (by first | exact q _) rfl ?_) | (with_reducible refine k_condP (by simp only [GA, simprocAttr]; rfl) (by first | (simp only [BO]; rfl) | rfl) (fun ht => ?_) (fun ht => ?_) <;> try (first | exact False.elim ht | exact absurd rfl ht | exact absurd trivial ht | exact Bool.noConfusion ht)) | (with_reducible refine k_ret ?_; repeat with_reducible (first | refine ret_thru ?_ | refine ret_blk ?_ | refine fin ?_)) | (with_reducible refine k_exit ?_; repeat with_reducible (first | refine thru ?_ | refine out_blk ?_ | refine pass (by decide) ?_)) | ((first | refine post1 ?_ | refine post2 ?_ | refine post3 ?_); simp only [GA, simprocAttr]) | refine post0 ?_
     all_goals (rw [stop fun h => by rw [(vk_succ.1 h).2.1] at hvt; cases hvt]; exact ends_of)
   | true =>
     rw [hvt] at q
     repeat' first | (with_reducible first | refine k_seq ?_ | refine k_skip ?_ | refine k_blkS ?_ | refine k_blkR ?_ | refine k_blkC ?_ | refine k_blkH ?_ | refine k_blkB ?_ | refine k_blkK ?_ | refine k_blkE ?_ | refine k_reg ?_) | with_reducible refine r_done ?_ | with_reducible refine s_go (by simp (disch := omega) only [hm, rT, hlt', lk, u1, RG26, EV0, EV1, EV2, EV3, EV4, EV5, EV6, EV7, EV8, VALS, plug, ite_same, decide_true, decide_false, eq_self, simprocAttr]; with_reducible rfl) ?_ | ((with_reducible refine chk_r ?_); refine r_callF (by simp only [CA, simprocAttr]; rfl) (by exact rfl) (by simp only [CA, simprocAttr]; rfl) rfl ?_) | ((with_reducible refine chk_r ?_); refine r_callP (by simp only [CA, simprocAttr]; rfl) (by simp only [CA, simprocAttr]; rfl) (by first | exact q _) rfl ?_) | (with_reducible refine k_condP (by simp only [GA, simprocAttr]; rfl) (by first | (simp only [BO]; rfl) | rfl) (fun ht => ?_) (fun ht => ?_) <;> try (first | exact False.elim ht | exact absurd rfl ht | exact absurd trivial ht | exact Bool.noConfusion ht)) | (with_reducible refine k_ret ?_; repeat with_reducible (first | refine ret_thru ?_ | refine ret_blk ?_ | refine fin ?_)) | (with_reducible refine k_exit ?_; repeat with_reducible (first | refine thru ?_ | refine out_blk ?_ | refine pass (by decide) ?_)) | ((first | refine post1 ?_ | refine post2 ?_ | refine post3 ?_); simp only [GA, simprocAttr]) | refine post0 ?_
     ·obtain ⟨i, hi, e⟩ := ht
      rw [stop fun h => (vk_succ.1 h).2.2 i hi e]
      exact ends_of
     ·refine ⟨hlt, ⟨tk, _⟩, (by simp only [Am.keep, List.map_cons, List.map_nil, GA, simprocAttr]; try rfl), by simp (disch := omega) only [RG26, EV0, EV1, EV2, EV3, EV4, EV5, EV6, EV7, EV8, VALS, plug, ite_same, decide_true, decide_false, eq_self, simprocAttr] <;> rfl, vk_succ.2 ⟨hv, hvt, fun i hi e => ht ⟨i, hi, e⟩⟩, MFi.set_up hf _ _ fun b => ⟨fun ⟨i, hi, e⟩ => ?_, fun hb => ?_⟩⟩
      ·by_cases hk : i = k
       ·subst hk; exact .inl e.symm
       ·exact .inr ⟨i, by omega, e⟩
      ·rcases hb with rfl | ⟨i, hi, e⟩
       ·exact ⟨k, by omega, rfl⟩
       ·exact ⟨i, by omega, e⟩
  ·have hlt' : ¬ (k : Int) < l.length := by omega
   obtain rfl : k = l.length := by omega
   repeat' first | (with_reducible first | refine k_seq ?_ | refine k_skip ?_ | refine k_blkS ?_ | refine k_blkR ?_ | refine k_blkC ?_ | refine k_blkH ?_ | refine k_blkB ?_ | refine k_blkK ?_ | refine k_blkE ?_ | refine k_reg ?_) | with_reducible refine r_done ?_ | with_reducible refine s_go (by simp (disch := omega) only [hlt', RG26, EV0, EV1, EV2, EV3, EV4, EV5, EV6, EV7, EV8, VALS, plug, ite_same, decide_true, decide_false, eq_self, simprocAttr]; with_reducible rfl) ?_ | ((with_reducible refine chk_r ?_); refine r_callF (by simp only [CA, simprocAttr]; rfl) (by exact rfl) (by simp only [CA, simprocAttr]; rfl) rfl ?_) | (with_reducible refine k_condP (by simp only [GA, simprocAttr]; rfl) (by first | (simp only [BO]; rfl) | rfl) (fun ht => ?_) (fun ht => ?_) <;> try (first | exact False.elim ht | exact absurd rfl ht | exact absurd trivial ht | exact Bool.noConfusion ht)) | (with_reducible refine k_ret ?_; repeat with_reducible (first | refine ret_thru ?_ | refine ret_blk ?_ | refine fin ?_)) | (with_reducible refine k_exit ?_; repeat with_reducible (first | refine thru ?_ | refine out_blk ?_ | refine pass (by decide) ?_)) | ((first | refine post1 ?_ | refine post2 ?_ | refine post3 ?_); simp only [GA, simprocAttr]) | refine post0 ?_
   rw [vl_t ⟨by omega, hv⟩]
   exact ends_of
theorem RG23 : (type_of% @c23r0.eq_1) ∧ (type_of% @c23r1.eq_1) ∧ (type_of% @c23r2.eq_1) ∧ (type_of% @c23r3.eq_1) ∧ (type_of% @c23r4.eq_1) ∧ (type_of% @c23r5.eq_1) ∧ (type_of% @c23r6.eq_1) ∧ (type_of% @c23r7.eq_1) ∧ (type_of% @c23r8.eq_1) ∧ (type_of% @c23r9.eq_1) ∧ (type_of% @c23r10.eq_1) ∧ (type_of% @c23r11.eq_1) ∧ (type_of% @c23r13.eq_1) ∧ (type_of% @c23r15.eq_1) := ⟨@c23r0.eq_1, @c23r1.eq_1, @c23r2.eq_1, @c23r3.eq_1, @c23r4.eq_1, @c23r5.eq_1, @c23r6.eq_1, @c23r7.eq_1, @c23r8.eq_1, @c23r9.eq_1, @c23r10.eq_1, @c23r11.eq_1, @c23r13.eq_1, @c23r15.eq_1⟩
theorem pc23 (l : List B) (hl : l.length ≤ 9223372036854775807) : PC Try.prog 23 [vB l] (.b (vl l)) := by
 refine pc_fn fn23 (by simp only [AV.plains, AV.plain, il_plain, bl_plain, Bool.and_true, Bool.true_and, Bool.and_self, flB_plain]) (by simp only [AV.plains, AV.plain, il_plain, bl_plain, Bool.and_true, Bool.true_and, Bool.and_self, flB_plain]) (Nat.le_of_ble_eq_true rfl) ?_
 rw [initSt1]
 by_cases h6 : (40 : Int) < l.length
 ·rw [vl_f (fun h => by have := h.1; omega)]
  repeat' first | (with_reducible first | refine k_seq ?_ | refine k_skip ?_ | refine k_blkS ?_ | refine k_blkR ?_ | refine k_blkC ?_ | refine k_blkH ?_ | refine k_blkB ?_ | refine k_blkK ?_ | refine k_blkE ?_ | refine k_reg ?_) | with_reducible refine k_head (by with_unfolding_all rfl) ?_ | with_reducible refine k_headS ?_ | (with_reducible refine SepK.mk ?_ ?_; (refine sepQ_P ?_; simp [sepQ, sepG, AOp.late, AOp.free, AOp.xs, AOp.isAl, tokNe, AV.tok, stS_get, strip, AX.val, RG23, GA]; try omega)) | with_reducible refine r_done ?_ | with_reducible refine hr_done ?_ | with_reducible refine s_go (by simp (disch := omega) only [h6, RG23, EV0, EV1, EV2, EV3, EV4, EV5, EV6, EV7, EV8, VALS, plug, ite_same, decide_true, decide_false, eq_self, simprocAttr]; with_reducible rfl) ?_ | with_reducible refine h_go (by with_unfolding_all rfl) (by simp (disch := omega) only [h6, RG23, EV0, EV1, EV2, EV3, EV4, EV5, EV6, EV7, EV8, VALS, plug, ite_same, decide_true, decide_false, eq_self, simprocAttr]; with_reducible rfl) ?_ | ((with_reducible refine chk_r ?_); refine r_callF (by simp only [CA, simprocAttr]; rfl) (by exact rfl) (by simp only [CA, simprocAttr]; rfl) rfl ?_) | ((with_reducible refine chk_h ?_); refine hr_callF (by simp only [CA, simprocAttr]; rfl) (by exact rfl) (by simp only [CA, simprocAttr]; rfl) rfl ?_) | ((with_reducible refine chk_h ?_); refine hr_app (by simp (disch := omega) only [h6, RG23, EV0, EV1, EV2, EV3, EV4, EV5, EV6, EV7, EV8, VALS, plug, ite_same, decide_true, decide_false, eq_self, simprocAttr]; with_reducible rfl) rfl ?_) | (with_reducible refine k_condP (by simp only [GA, simprocAttr]; rfl) (by first | (simp only [BO]; rfl) | rfl) (fun ht => ?_) (fun ht => ?_) <;> try (first | exact False.elim ht | exact absurd rfl ht | exact absurd trivial ht | exact Bool.noConfusion ht)) | (with_reducible refine k_ret ?_; repeat with_reducible (first | refine ret_thru ?_ | refine ret_blk ?_ | refine fin ?_)) | (with_reducible refine k_exit ?_; repeat with_reducible (first | refine thru ?_ | refine out_blk ?_ | refine pass (by decide) ?_)) | ((first | refine post1 ?_ | refine post2 ?_ | refine post3 ?_); simp only [GA, simprocAttr]) | refine post0 ?_
  all_goals first | exact ends_of | exact ends_eq rfl
 ·repeat' first
   | with_reducible refine k_seq ?_
   | with_reducible refine k_skip ?_
   | with_reducible refine k_blkS ?_
   | with_reducible refine k_blkR ?_
   | with_reducible refine k_blkC ?_
   | with_reducible refine k_blkH ?_
   | with_reducible refine k_blkB ?_
   | with_reducible refine k_blkK ?_
   | with_reducible refine k_blkE ?_
   | with_reducible refine k_reg ?_
   | with_reducible refine k_head (by with_unfolding_all rfl) ?_
   | with_reducible refine k_headS ?_
   | (with_reducible refine SepK.mk ?_ ?_; (refine sepQ_P ?_; simp [sepQ, sepG, AOp.late, AOp.free, AOp.xs, AOp.isAl, tokNe, AV.tok, stS_get, strip, AX.val, RG23, GA]; try omega))
   | with_reducible refine r_done ?_
   | with_reducible refine hr_done ?_
   | with_reducible refine s_go (by simp (disch := omega) only [h6, RG23, EV0, EV1, EV2, EV3, EV4, EV5, EV6, EV7, EV8, VALS, plug, ite_same, decide_true, decide_false, eq_self, simprocAttr]; with_reducible rfl) ?_
   | with_reducible refine h_go (by with_unfolding_all rfl) (by simp (disch := omega) only [h6, RG23, EV0, EV1, EV2, EV3, EV4, EV5, EV6, EV7, EV8, VALS, plug, ite_same, decide_true, decide_false, eq_self, simprocAttr]; with_reducible rfl) ?_
   | ((with_reducible refine chk_r ?_); refine r_callF (by simp only [CA, simprocAttr]; rfl) (by exact rfl) (by simp only [CA, simprocAttr]; rfl) rfl ?_)
   | ((with_reducible refine chk_h ?_); refine hr_callF (by simp only [CA, simprocAttr]; rfl) (by exact rfl) (by simp only [CA, simprocAttr]; rfl) rfl ?_)
   | ((with_reducible refine chk_h ?_); refine hr_app (by simp (disch := omega) only [h6, RG23, EV0, EV1, EV2, EV3, EV4, EV5, EV6, EV7, EV8, VALS, plug, ite_same, decide_true, decide_false, eq_self, simprocAttr]; with_reducible rfl) rfl ?_)
   | (with_reducible refine k_condP (by simp only [GA, simprocAttr]; rfl) (by first | (simp only [BO]; rfl) | rfl) (fun ht => ?_) (fun ht => ?_) <;> try (first | exact False.elim ht | exact absurd rfl ht | exact absurd trivial ht | exact Bool.noConfusion ht))
   | (with_reducible refine k_ret ?_; repeat with_reducible (first | refine ret_thru ?_ | refine ret_blk ?_ | refine fin ?_))
   | (with_reducible refine k_exit ?_; repeat with_reducible (first | refine thru ?_ | refine out_blk ?_ | refine pass (by decide) ?_))
   | (refine post1 ?_; simp only [GA, simprocAttr])
   | (refine post2 ?_; simp only [GA, simprocAttr])
   | (refine post3 ?_; simp only [GA, simprocAttr])
   | (refine postc (by simp only [GA, simprocAttr]; rfl) (by simp (disch := omega) only [h6, RG23, EV0, EV1, EV2, EV3, EV4, EV5, EV6, EV7, EV8, VALS, plug, ite_same, decide_true, decide_false, eq_self, simprocAttr]; rfl) ?_)
   | refine post0 ?_
  refine k_blk (k_loopS (X := Unit) [0, 3] l.length (fun k x => [(0, vB l), (3, .i .i64 (k : Int))]) (fun k x h => vk l k) () (by simp only [Am.keep, List.map_cons, List.map_nil, GA, simprocAttr]; try rfl) ⟨fun i hi => by omega, fun i j _ hj => by omega⟩ ?_)
  rintro k ⟨⟩ h hk hv ok pos
  have q := pc56 (bD l k)
  by_cases hlt : k < l.length
  ·have rT := rdB hlt
   have g0 := getB0 hlt
   have hlt' : (k : Int) < l.length := by omega
   have stop : ¬ vk l (k + 1) → vl l = false := fun hn => vl_f fun h => hn (vk_mono h.2 (by omega))
   simp only [eB] at q rT
   cases hvt : vb (bD l k) with
   | false =>
     rw [hvt] at q
     repeat' first | (with_reducible first | refine k_seq ?_ | refine k_skip ?_ | refine k_blkS ?_ | refine k_blkR ?_ | refine k_blkC ?_ | refine k_blkH ?_ | refine k_blkB ?_ | refine k_blkK ?_ | refine k_blkE ?_ | refine k_reg ?_) | with_reducible refine k_head (by with_unfolding_all rfl) ?_ | with_reducible refine k_headS ?_ | (with_reducible refine SepK.mk ?_ ?_; (refine sepQ_P ?_; simp [sepQ, sepG, AOp.late, AOp.free, AOp.xs, AOp.isAl, tokNe, AV.tok, stS_get, strip, AX.val, RG23, GA]; try omega)) | with_reducible refine r_done ?_ | with_reducible refine hr_done ?_ | with_reducible refine s_go (by simp (disch := omega) only [rT, hlt', RG23, EV0, EV1, EV2, EV3, EV4, EV5, EV6, EV7, EV8, VALS, plug, ite_same, decide_true, decide_false, eq_self, simprocAttr]; with_reducible rfl) ?_ | with_reducible refine h_go (by with_unfolding_all rfl) (by simp (disch := omega) only [rT, hlt', RG23, EV0, EV1, EV2, EV3, EV4, EV5, EV6, EV7, EV8, VALS, plug, ite_same, decide_true, decide_false, eq_self, simprocAttr]; with_reducible rfl) ?_ | ((with_reducible refine chk_r ?_); refine r_callF (by simp only [CA, simprocAttr]; rfl) (by exact rfl) (by simp only [CA, simprocAttr]; rfl) rfl ?_) | ((with_reducible refine chk_h ?_); refine hr_callF (by simp only [CA, simprocAttr]; rfl) (by exact rfl) (by simp only [CA, simprocAttr]; rfl) rfl ?_) | ((with_reducible refine chk_r ?_); refine r_callP (by simp only [CA, simprocAttr]; rfl) (by simp only [CA, simprocAttr]; rfl) (by first | exact q _) rfl ?_) | ((with_reducible refine chk_h ?_); refine hr_callP (by simp only [CA, simprocAttr]; rfl) (by simp only [CA, simprocAttr]; rfl) (by first | exact q _) rfl ?_) | ((with_reducible refine chk_h ?_); refine hr_callP1 (by simp only [CA, simprocAttr]; rfl) (by simp only [CA, simprocAttr]; rfl) (by simp (disch := omega) only [CA, Nat.reduceEqDiff, ↓reduceIte, firstTok_nil, firstTok_sl, firstTok_sl0, firstTok_i, firstTok_b, firstTok_ag, firstTok_p, firstTok_s]; rfl) (by first | exact q _) rfl ?_) | ((with_reducible refine chk_h ?_); refine hr_app (by simp (disch := omega) only [rT, hlt', RG23, EV0, EV1, EV2, EV3, EV4, EV5, EV6, EV7, EV8, VALS, plug, ite_same, decide_true, decide_false, eq_self, simprocAttr]; with_reducible rfl) rfl ?_) | (with_reducible refine k_condP (by simp only [GA, simprocAttr]; rfl) (by first | (simp only [BO]; rfl) | rfl) (fun ht => ?_) (fun ht => ?_) <;> try (first | exact False.elim ht | exact absurd rfl ht | exact absurd trivial ht | exact Bool.noConfusion ht)) | (with_reducible refine k_ret ?_; repeat with_reducible (first | refine ret_thru ?_ | refine ret_blk ?_ | refine fin ?_)) | (with_reducible refine k_exit ?_; repeat with_reducible (first | refine thru ?_ | refine out_blk ?_ | refine pass (by decide) ?_)) | ((first | refine post1 ?_ | refine post2 ?_ | refine post3 ?_); simp only [GA, simprocAttr]) | refine post0 ?_
     all_goals (rw [stop fun h => by rw [(vk_succ.1 h).2.1] at hvt; cases hvt]; exact ends_of)
   | true =>
     rw [hvt] at q
     repeat' first | (with_reducible first | refine k_seq ?_ | refine k_skip ?_ | refine k_blkS ?_ | refine k_blkR ?_ | refine k_blkC ?_ | refine k_blkH ?_ | refine k_blkB ?_ | refine k_blkK ?_ | refine k_blkE ?_ | refine k_reg ?_) | with_reducible refine k_head (by with_unfolding_all rfl) ?_ | with_reducible refine k_headS ?_ | (with_reducible refine SepK.mk ?_ ?_; (refine sepQ_P ?_; simp [sepQ, sepG, AOp.late, AOp.free, AOp.xs, AOp.isAl, tokNe, AV.tok, stS_get, strip, AX.val, RG23, GA]; try omega)) | with_reducible refine r_done ?_ | with_reducible refine hr_done ?_ | with_reducible refine s_go (by simp (disch := omega) only [rT, hlt', RG23, EV0, EV1, EV2, EV3, EV4, EV5, EV6, EV7, EV8, VALS, plug, ite_same, decide_true, decide_false, eq_self, simprocAttr]; with_reducible rfl) ?_ | with_reducible refine h_go (by with_unfolding_all rfl) (by simp (disch := omega) only [rT, hlt', RG23, EV0, EV1, EV2, EV3, EV4, EV5, EV6, EV7, EV8, VALS, plug, ite_same, decide_true, decide_false, eq_self, simprocAttr]; with_reducible rfl) ?_ | ((with_reducible refine chk_r ?_); refine r_callF (by simp only [CA, simprocAttr]; rfl) (by exact rfl) (by simp only [CA, simprocAttr]; rfl) rfl ?_) | ((with_reducible refine chk_h ?_); refine hr_callF (by simp only [CA, simprocAttr]; rfl) (by exact rfl) (by simp only [CA, simprocAttr]; rfl) rfl ?_) | ((with_reducible refine chk_r ?_); refine r_callP (by simp only [CA, simprocAttr]; rfl) (by simp only [CA, simprocAttr]; rfl) (by first | exact q _) rfl ?_) | ((with_reducible refine chk_h ?_); refine hr_callP (by simp only [CA, simprocAttr]; rfl) (by simp only [CA, simprocAttr]; rfl) (by first | exact q _) rfl ?_) | ((with_reducible refine chk_h ?_); refine hr_callP1 (by simp only [CA, simprocAttr]; rfl) (by simp only [CA, simprocAttr]; rfl) (by simp (disch := omega) only [CA, Nat.reduceEqDiff, ↓reduceIte, firstTok_nil, firstTok_sl, firstTok_sl0, firstTok_i, firstTok_b, firstTok_ag, firstTok_p, firstTok_s]; rfl) (by first | exact q _) rfl ?_) | ((with_reducible refine chk_h ?_); refine hr_app (by simp (disch := omega) only [rT, hlt', RG23, EV0, EV1, EV2, EV3, EV4, EV5, EV6, EV7, EV8, VALS, plug, ite_same, decide_true, decide_false, eq_self, simprocAttr]; with_reducible rfl) rfl ?_) | (with_reducible refine k_condP (by simp only [GA, simprocAttr]; rfl) (by first | (simp only [BO]; rfl) | rfl) (fun ht => ?_) (fun ht => ?_) <;> try (first | exact False.elim ht | exact absurd rfl ht | exact absurd trivial ht | exact Bool.noConfusion ht)) | (with_reducible refine k_ret ?_; repeat with_reducible (first | refine ret_thru ?_ | refine ret_blk ?_ | refine fin ?_)) | (with_reducible refine k_exit ?_; repeat with_reducible (first | refine thru ?_ | refine out_blk ?_ | refine pass (by decide) ?_)) | ((first | refine post1 ?_ | refine post2 ?_ | refine post3 ?_); simp only [GA, simprocAttr]) | refine post0 ?_
     refine k_blk (k_loopS (X := Unit) [0, 3, 4] k (fun j x => [(0, vB l), (3, .i .i64 (k : Int)), (4, .i .i64 (j : Int))]) (fun j x h => ∀ i, i < j → (bD l i).num ≠ (bD l k).num) () (by simp only [Am.keep, List.map_cons, List.map_nil, GA, simprocAttr]; try rfl) (fun i hi => by omega) ?_)
     rintro j ⟨⟩ h hj hd ok pos
     have jT := fun hj : j < k => getB0 (l := l) (j := j) (by omega)
     by_cases hjk : j < k
     ·have hjk' : (j : Int) < k := by omega
      have jT := jT hjk
      repeat' first | (with_reducible first | refine k_seq ?_ | refine k_skip ?_ | refine k_blkS ?_ | refine k_blkR ?_ | refine k_blkC ?_ | refine k_blkH ?_ | refine k_blkB ?_ | refine k_blkK ?_ | refine k_blkE ?_ | refine k_reg ?_) | with_reducible refine k_head (by with_unfolding_all rfl) ?_ | with_reducible refine k_headS ?_ | (with_reducible refine SepK.mk ?_ ?_; (refine sepQ_P ?_; simp [sepQ, sepG, AOp.late, AOp.free, AOp.xs, AOp.isAl, tokNe, AV.tok, stS_get, strip, AX.val, RG23, GA]; try omega)) | with_reducible refine r_done ?_ | with_reducible refine hr_done ?_ | with_reducible refine s_go (by simp (disch := omega) only [hjk', jT, g0, RG23, EV0, EV1, EV2, EV3, EV4, EV5, EV6, EV7, EV8, VALS, plug, ite_same, decide_true, decide_false, eq_self, simprocAttr]; with_reducible rfl) ?_ | with_reducible refine h_go (by with_unfolding_all rfl) (by simp (disch := omega) only [hjk', jT, g0, RG23, EV0, EV1, EV2, EV3, EV4, EV5, EV6, EV7, EV8, VALS, plug, ite_same, decide_true, decide_false, eq_self, simprocAttr]; with_reducible rfl) ?_ | ((with_reducible refine chk_r ?_); refine r_callF (by simp only [CA, simprocAttr]; rfl) (by exact rfl) (by simp only [CA, simprocAttr]; rfl) rfl ?_) | ((with_reducible refine chk_h ?_); refine hr_callF (by simp only [CA, simprocAttr]; rfl) (by exact rfl) (by simp only [CA, simprocAttr]; rfl) rfl ?_) | ((with_reducible refine chk_h ?_); refine hr_app (by simp (disch := omega) only [hjk', jT, g0, RG23, EV0, EV1, EV2, EV3, EV4, EV5, EV6, EV7, EV8, VALS, plug, ite_same, decide_true, decide_false, eq_self, simprocAttr]; with_reducible rfl) rfl ?_) | (with_reducible refine k_condP (by simp only [GA, simprocAttr]; rfl) (by first | (simp only [BO]; rfl) | rfl) (fun ht => ?_) (fun ht => ?_) <;> try (first | exact False.elim ht | exact absurd rfl ht | exact absurd trivial ht | exact Bool.noConfusion ht)) | (with_reducible refine k_ret ?_; repeat with_reducible (first | refine ret_thru ?_ | refine ret_blk ?_ | refine fin ?_)) | (with_reducible refine k_exit ?_; repeat with_reducible (first | refine thru ?_ | refine out_blk ?_ | refine pass (by decide) ?_)) | ((first | refine post1 ?_ | refine post2 ?_ | refine post3 ?_); simp only [GA, simprocAttr]) | refine post0 ?_
      ·rw [stop fun h => (vk_succ.1 h).2.2 j hjk ht]
       exact ends_of
      ·refine ⟨hjk, (), (by simp only [Am.keep, List.map_cons, List.map_nil, GA, simprocAttr]; try rfl), fun i hi => ?_⟩
       by_cases e : i = j
       ·subst e; exact ht
       ·exact hd i (by omega)
     ·obtain rfl : j = k := by omega
      have hjk' : ¬ (j : Int) < j := by omega
      repeat' first | (with_reducible first | refine k_seq ?_ | refine k_skip ?_ | refine k_blkS ?_ | refine k_blkR ?_ | refine k_blkC ?_ | refine k_blkH ?_ | refine k_blkB ?_ | refine k_blkK ?_ | refine k_blkE ?_ | refine k_reg ?_) | with_reducible refine k_head (by with_unfolding_all rfl) ?_ | with_reducible refine k_headS ?_ | (with_reducible refine SepK.mk ?_ ?_; (refine sepQ_P ?_; simp [sepQ, sepG, AOp.late, AOp.free, AOp.xs, AOp.isAl, tokNe, AV.tok, stS_get, strip, AX.val, RG23, GA]; try omega)) | with_reducible refine r_done ?_ | with_reducible refine hr_done ?_ | with_reducible refine s_go (by simp (disch := omega) only [hjk', RG23, EV0, EV1, EV2, EV3, EV4, EV5, EV6, EV7, EV8, VALS, plug, ite_same, decide_true, decide_false, eq_self, simprocAttr]; with_reducible rfl) ?_ | with_reducible refine h_go (by with_unfolding_all rfl) (by simp (disch := omega) only [hjk', RG23, EV0, EV1, EV2, EV3, EV4, EV5, EV6, EV7, EV8, VALS, plug, ite_same, decide_true, decide_false, eq_self, simprocAttr]; with_reducible rfl) ?_ | ((with_reducible refine chk_r ?_); refine r_callF (by simp only [CA, simprocAttr]; rfl) (by exact rfl) (by simp only [CA, simprocAttr]; rfl) rfl ?_) | ((with_reducible refine chk_h ?_); refine hr_callF (by simp only [CA, simprocAttr]; rfl) (by exact rfl) (by simp only [CA, simprocAttr]; rfl) rfl ?_) | ((with_reducible refine chk_h ?_); refine hr_app (by simp (disch := omega) only [hjk', RG23, EV0, EV1, EV2, EV3, EV4, EV5, EV6, EV7, EV8, VALS, plug, ite_same, decide_true, decide_false, eq_self, simprocAttr]; with_reducible rfl) rfl ?_) | (with_reducible refine k_condP (by simp only [GA, simprocAttr]; rfl) (by first | (simp only [BO]; rfl) | rfl) (fun ht => ?_) (fun ht => ?_) <;> try (first | exact False.elim ht | exact absurd rfl ht | exact absurd trivial ht | exact Bool.noConfusion ht)) | (with_reducible refine k_ret ?_; repeat with_reducible (first | refine ret_thru ?_ | refine ret_blk ?_ | refine fin ?_)) | (with_reducible refine k_exit ?_; repeat with_reducible (first | refine thru ?_ | refine out_blk ?_ | refine pass (by decide) ?_)) | ((first | refine post1 ?_ | refine post2 ?_ | refine post3 ?_); simp only [GA, simprocAttr]) | refine post0 ?_
      exact ⟨hlt, (), (by simp only [Am.keep, List.map_cons, List.map_nil, GA, simprocAttr]; try rfl), vk_succ.2 ⟨hv, hvt, hd⟩⟩
  ·have hlt' : ¬ (k : Int) < l.length := by omega
   obtain rfl : k = l.length := by omega
   repeat' first | (with_reducible first | refine k_seq ?_ | refine k_skip ?_ | refine k_blkS ?_ | refine k_blkR ?_ | refine k_blkC ?_ | refine k_blkH ?_ | refine k_blkB ?_ | refine k_blkK ?_ | refine k_blkE ?_ | refine k_reg ?_) | with_reducible refine k_head (by with_unfolding_all rfl) ?_ | with_reducible refine k_headS ?_ | (with_reducible refine SepK.mk ?_ ?_; (refine sepQ_P ?_; simp [sepQ, sepG, AOp.late, AOp.free, AOp.xs, AOp.isAl, tokNe, AV.tok, stS_get, strip, AX.val, RG23, GA]; try omega)) | with_reducible refine r_done ?_ | with_reducible refine hr_done ?_ | with_reducible refine s_go (by simp (disch := omega) only [hlt', RG23, EV0, EV1, EV2, EV3, EV4, EV5, EV6, EV7, EV8, VALS, plug, ite_same, decide_true, decide_false, eq_self, simprocAttr]; with_reducible rfl) ?_ | with_reducible refine h_go (by with_unfolding_all rfl) (by simp (disch := omega) only [hlt', RG23, EV0, EV1, EV2, EV3, EV4, EV5, EV6, EV7, EV8, VALS, plug, ite_same, decide_true, decide_false, eq_self, simprocAttr]; with_reducible rfl) ?_ | ((with_reducible refine chk_r ?_); refine r_callF (by simp only [CA, simprocAttr]; rfl) (by exact rfl) (by simp only [CA, simprocAttr]; rfl) rfl ?_) | ((with_reducible refine chk_h ?_); refine hr_callF (by simp only [CA, simprocAttr]; rfl) (by exact rfl) (by simp only [CA, simprocAttr]; rfl) rfl ?_) | ((with_reducible refine chk_h ?_); refine hr_app (by simp (disch := omega) only [hlt', RG23, EV0, EV1, EV2, EV3, EV4, EV5, EV6, EV7, EV8, VALS, plug, ite_same, decide_true, decide_false, eq_self, simprocAttr]; with_reducible rfl) rfl ?_) | (with_reducible refine k_condP (by simp only [GA, simprocAttr]; rfl) (by first | (simp only [BO]; rfl) | rfl) (fun ht => ?_) (fun ht => ?_) <;> try (first | exact False.elim ht | exact absurd rfl ht | exact absurd trivial ht | exact Bool.noConfusion ht)) | (with_reducible refine k_ret ?_; repeat with_reducible (first | refine ret_thru ?_ | refine ret_blk ?_ | refine fin ?_)) | (with_reducible refine k_exit ?_; repeat with_reducible (first | refine thru ?_ | refine out_blk ?_ | refine pass (by decide) ?_)) | ((first | refine post1 ?_ | refine post2 ?_ | refine post3 ?_); simp only [GA, simprocAttr]) | refine post0 ?_
   rw [vl_t ⟨by omega, hv⟩]
   exact ends_of
theorem pc58 (a b : B) : PC Try.prog 58 [.ag (eB a), .ag (eB b)] (.b (mayB a b)) := by
 refine pc_fn fn58 (by simp only [AV.plains, AV.plain, il_plain, bl_plain, Bool.and_true, Bool.true_and, Bool.and_self, eB_plain]) (by simp only [AV.plains, AV.plain, il_plain, bl_plain, Bool.and_true, Bool.true_and, Bool.and_self, eB_plain]) (Nat.le_of_ble_eq_true rfl) ?_
 rw [initSt2]
 repeat' first | (with_reducible first | refine k_seq ?_ | refine k_skip ?_ | refine k_blkS ?_ | refine k_blkR ?_ | refine k_blkC ?_ | refine k_blkH ?_ | refine k_blkB ?_ | refine k_blkK ?_ | refine k_blkE ?_ | refine k_reg ?_) | with_reducible refine r_done ?_ | with_reducible refine s_go (by simp (disch := omega) only [eB, c58r0, c58r1, EV0, EV1, EV2, EV3, EV4, EV5, EV6, EV7, EV8, VALS, plug, ite_same, decide_true, decide_false, eq_self, simprocAttr]; with_reducible rfl) ?_ | ((with_reducible refine chk_r ?_); refine r_callF (by simp only [CA, simprocAttr]; rfl) (by exact rfl) (by simp only [CA, simprocAttr]; rfl) rfl ?_) | (with_reducible refine k_condP (by simp only [GA, simprocAttr]; rfl) (by first | (simp only [BO]; rfl) | rfl) (fun ht => ?_) (fun ht => ?_) <;> try (first | exact False.elim ht | exact absurd rfl ht | exact absurd trivial ht | exact Bool.noConfusion ht)) | (with_reducible refine k_ret ?_; repeat with_reducible (first | refine ret_thru ?_ | refine ret_blk ?_ | refine fin ?_)) | (with_reducible refine k_exit ?_; repeat with_reducible (first | refine thru ?_ | refine out_blk ?_ | refine pass (by decide) ?_)) | ((first | refine post1 ?_ | refine post2 ?_ | refine post3 ?_); simp only [GA, simprocAttr]) | refine post0 ?_
 refine ends_eq (b_eq ?_); rw [Bool.eq_iff_iff]
 simp [mayB]
theorem pc54 (a b : B) : PC Try.prog 54 [.ag (eB a), .ag (eB b)] (.b (mayB a b)) := by
 refine pc_fn fn54 (by simp only [AV.plains, AV.plain, il_plain, bl_plain, Bool.and_true, Bool.true_and, Bool.and_self, eB_plain]) (by simp only [AV.plains, AV.plain, il_plain, bl_plain, Bool.and_true, Bool.true_and, Bool.and_self, eB_plain]) (Nat.le_of_ble_eq_true rfl) ?_
 rw [initSt2]
 repeat' first | (with_reducible first | refine k_seq ?_ | refine k_skip ?_ | refine k_blkS ?_ | refine k_blkR ?_ | refine k_blkC ?_ | refine k_blkH ?_ | refine k_blkB ?_ | refine k_blkK ?_ | refine k_blkE ?_ | refine k_reg ?_) | with_reducible refine r_done ?_ | with_reducible refine s_go (by simp (disch := omega) only [eB, c54r0, c54r1, EV0, EV1, EV2, EV3, EV4, EV5, EV6, EV7, EV8, VALS, plug, ite_same, decide_true, decide_false, eq_self, simprocAttr]; with_reducible rfl) ?_ | ((with_reducible refine chk_r ?_); refine r_callF (by simp only [CA, simprocAttr]; rfl) (by exact rfl) (by simp only [CA, simprocAttr]; rfl) rfl ?_) | (with_reducible refine k_condP (by simp only [GA, simprocAttr]; rfl) (by first | (simp only [BO]; rfl) | rfl) (fun ht => ?_) (fun ht => ?_) <;> try (first | exact False.elim ht | exact absurd rfl ht | exact absurd trivial ht | exact Bool.noConfusion ht)) | (with_reducible refine k_ret ?_; repeat with_reducible (first | refine ret_thru ?_ | refine ret_blk ?_ | refine fin ?_)) | (with_reducible refine k_exit ?_; repeat with_reducible (first | refine thru ?_ | refine out_blk ?_ | refine pass (by decide) ?_)) | ((first | refine post1 ?_ | refine post2 ?_ | refine post3 ?_); simp only [GA, simprocAttr]) | refine post0 ?_
 refine ends_eq (b_eq ?_); rw [Bool.eq_iff_iff]
 simp [mayB]
theorem pc64 (l : List B) (hl : l.length ≤ 9223372036854775807) (i : Int) : PC Try.prog 64 [vB l, .i .i64 i] (.b (decide (0 ≤ i ∧ i < l.length))) := by
 refine pc_fn fn64 (by simp only [AV.plains, AV.plain, il_plain, bl_plain, Bool.and_true, Bool.true_and, Bool.and_self, flB_plain]) (by simp only [AV.plains, AV.plain, il_plain, bl_plain, Bool.and_true, Bool.true_and, Bool.and_self, flB_plain]) (Nat.le_of_ble_eq_true rfl) ?_
 rw [initSt2]
 repeat' first | (with_reducible first | refine k_seq ?_ | refine k_skip ?_ | refine k_blkS ?_ | refine k_blkR ?_ | refine k_blkC ?_ | refine k_blkH ?_ | refine k_blkB ?_ | refine k_blkK ?_ | refine k_blkE ?_ | refine k_reg ?_) | with_reducible refine r_done ?_ | with_reducible refine s_go (by simp (disch := omega) only [c64r0, c64r1, EV0, EV1, EV2, EV3, EV4, EV5, EV6, EV7, EV8, VALS, plug, ite_same, decide_true, decide_false, eq_self, simprocAttr]; with_reducible rfl) ?_ | ((with_reducible refine chk_r ?_); refine r_callF (by simp only [CA, simprocAttr]; rfl) (by exact rfl) (by simp only [CA, simprocAttr]; rfl) rfl ?_) | ((with_reducible refine chk_r ?_); refine r_callP (by simp only [CA, simprocAttr]; rfl) (by simp only [CA, simprocAttr]; rfl) (by first | exact pc63 _ _ _ _) rfl ?_) | (with_reducible refine k_condP (by simp only [GA, simprocAttr]; rfl) (by first | (simp only [BO]; rfl) | rfl) (fun ht => ?_) (fun ht => ?_) <;> try (first | exact False.elim ht | exact absurd rfl ht | exact absurd trivial ht | exact Bool.noConfusion ht)) | (with_reducible refine k_ret ?_; repeat with_reducible (first | refine ret_thru ?_ | refine ret_blk ?_ | refine fin ?_)) | (with_reducible refine k_exit ?_; repeat with_reducible (first | refine thru ?_ | refine out_blk ?_ | refine pass (by decide) ?_)) | ((first | refine post1 ?_ | refine post2 ?_ | refine post3 ?_); simp only [GA, simprocAttr]) | refine post0 ?_
 refine ends_eq (b_eq ?_); rw [Bool.eq_iff_iff]
 simp
 omega
theorem pc67 (l : List B) (hl : l.length ≤ 9223372036854775807) (i : Int) : PC Try.prog 67 [vB l, .i .i64 i] (.b (decide (0 ≤ i ∧ i < l.length))) := by
 refine pc_fn fn67 (by simp only [AV.plains, AV.plain, il_plain, bl_plain, Bool.and_true, Bool.true_and, Bool.and_self, flB_plain]) (by simp only [AV.plains, AV.plain, il_plain, bl_plain, Bool.and_true, Bool.true_and, Bool.and_self, flB_plain]) (Nat.le_of_ble_eq_true rfl) ?_
 rw [initSt2]
 repeat' first | (with_reducible first | refine k_seq ?_ | refine k_skip ?_ | refine k_blkS ?_ | refine k_blkR ?_ | refine k_blkC ?_ | refine k_blkH ?_ | refine k_blkB ?_ | refine k_blkK ?_ | refine k_blkE ?_ | refine k_reg ?_) | with_reducible refine r_done ?_ | with_reducible refine s_go (by simp (disch := omega) only [c67r0, c67r1, EV0, EV1, EV2, EV3, EV4, EV5, EV6, EV7, EV8, VALS, plug, ite_same, decide_true, decide_false, eq_self, simprocAttr]; with_reducible rfl) ?_ | ((with_reducible refine chk_r ?_); refine r_callF (by simp only [CA, simprocAttr]; rfl) (by exact rfl) (by simp only [CA, simprocAttr]; rfl) rfl ?_) | (with_reducible refine k_condP (by simp only [GA, simprocAttr]; rfl) (by first | (simp only [BO]; rfl) | rfl) (fun ht => ?_) (fun ht => ?_) <;> try (first | exact False.elim ht | exact absurd rfl ht | exact absurd trivial ht | exact Bool.noConfusion ht)) | (with_reducible refine k_ret ?_; repeat with_reducible (first | refine ret_thru ?_ | refine ret_blk ?_ | refine fin ?_)) | (with_reducible refine k_exit ?_; repeat with_reducible (first | refine thru ?_ | refine out_blk ?_ | refine pass (by decide) ?_)) | ((first | refine post1 ?_ | refine post2 ?_ | refine post3 ?_); simp only [GA, simprocAttr]) | refine post0 ?_
 refine ends_eq (b_eq ?_); rw [Bool.eq_iff_iff]
 simp
end Go.Proofs.Ytjncfpfgobojpaa
namespace Go.Proofs.Ytjncfpfgobojpaa
open Go Go.Shelf Go.Proofs
def sortL_ren : Go.Shelf.Ren := ⟨fun | 6 => 96 | 15 => 95 | 14 => 112 | 28 => 110 | 29 => 111 | 20 => 119 | 21 => 120 | 22 => 121 | 23 => 122 | 24 => 123 | 25 => 124 | 26 => 125 | 27 => 126 | 46 => 128 | 47 => 115 | 48 => 116 | 49 => 129 | 50 => 130 | 57 => 131 | n => n, fun | 22 => 49 | 24 => 3 | 25 => 119 | 3 => 3 | 39 => 116 | 0 => 0 | 53 => 130 | 55 => 107 | 4 => 4 | 46 => 123 | 45 => 122 | 50 => 127 | 5 => 5 | 9 => 9 | 66 => 133 | 70 => 137 | 76 => 144 | 77 => 145 | n => n, fun | n => n⟩
theorem sortL : Go.Proofs.SlLaysF.n6 Try.prog sortL_ren := {
 mixed := by kernel_rfl
 f6 := ⟨Try.f96.name, by decide, Try.func96.trans (congrArg some (by kernel_rfl))⟩
 f14 := ⟨Try.f112.name, by decide, Try.func112.trans (congrArg some (by kernel_rfl))⟩
 f15 := Try.func95.trans (congrArg some (by kernel_rfl))
 f20 := ⟨Try.f119.name, by decide, Try.func119.trans (congrArg some (by kernel_rfl))⟩
 f21 := ⟨Try.f120.name, by decide, Try.func120.trans (congrArg some (by kernel_rfl))⟩
 f22 := ⟨Try.f121.name, by decide, Try.func121.trans (congrArg some (by kernel_rfl))⟩
 f23 := ⟨Try.f122.name, by decide, Try.func122.trans (congrArg some (by kernel_rfl))⟩
 f24 := ⟨Try.f123.name, by decide, Try.func123.trans (congrArg some (by kernel_rfl))⟩
 f25 := ⟨Try.f124.name, by decide, Try.func124.trans (congrArg some (by kernel_rfl))⟩
 f26 := ⟨Try.f125.name, by decide, Try.func125.trans (congrArg some (by kernel_rfl))⟩
 f27 := ⟨Try.f126.name, by decide, Try.func126.trans (congrArg some (by kernel_rfl))⟩
 f28 := Try.func110.trans (congrArg some (by kernel_rfl))
 f29 := Try.func111.trans (congrArg some (by kernel_rfl))
 f46 := ⟨Try.f128.name, by decide, Try.func128.trans (congrArg some (by kernel_rfl))⟩
 f47 := Try.func115.trans (congrArg some (by kernel_rfl))
 f48 := Try.func116.trans (congrArg some (by kernel_rfl))
 f49 := ⟨Try.f129.name, by decide, Try.func129.trans (congrArg some (by kernel_rfl))⟩
 f50 := ⟨Try.f130.name, by decide, Try.func130.trans (congrArg some (by kernel_rfl))⟩
 f57 := ⟨Try.f131.name, by decide, Try.func131.trans (congrArg some (by kernel_rfl))⟩
 t0 := Try.underlying0
 a0 := Try.isAgg0
 z0 := Try.sizeOf0
 v0 := Try.zeroValue0
 t3 := Try.underlying3
 a3 := Try.isAgg3
 z3 := Try.sizeOf3
 v3 := Try.zeroValue3
 t4 := Try.underlying4
 a4 := Try.isAgg4
 z4 := Try.sizeOf4
 v4 := Try.zeroValue4
 t5 := Try.underlying5
 a5 := Try.isAgg5
 z5 := Try.sizeOf5
 v5 := Try.zeroValue5
 t9 := Try.underlying9
 a9 := Try.isAgg9
 z9 := Try.sizeOf9
 v9 := Try.zeroValue9
 t22 := Try.underlying49
 a22 := Try.isAgg49
 z22 := Try.sizeOf49
 v22 := Try.zeroValue49
 a24 := Try.isAgg3
 z24 := Try.sizeOf3
 t25 := Try.underlying119
 a25 := Try.isAgg119
 z25 := Try.sizeOf119
 v25 := Try.zeroValue119
 t39 := Try.underlying116
 a39 := Try.isAgg116
 z39 := Try.sizeOf116
 v39 := Try.zeroValue116
 t45 := Try.underlying122
 a45 := Try.isAgg122
 z45 := Try.sizeOf122
 v45 := Try.zeroValue122
 t46 := Try.underlying123
 a46 := Try.isAgg123
 z46 := Try.sizeOf123
 v46 := Try.zeroValue123
 t50 := Try.underlying127
 a50 := Try.isAgg127
 z50 := Try.sizeOf127
 v50 := Try.zeroValue127
 t53 := Try.underlying130
 a53 := Try.isAgg130
 z53 := Try.sizeOf130
 v53 := Try.zeroValue130
 t55 := Try.underlying107
 a55 := Try.isAgg107
 z55 := Try.sizeOf107
 v55 := Try.zeroValue107
 t66 := Try.underlying133
 a66 := Try.isAgg133
 z66 := Try.sizeOf133
 v66 := Try.zeroValue133
 t70 := Try.underlying137
 a70 := Try.isAgg137
 z70 := Try.sizeOf137
 v70 := Try.zeroValue137
 t76 := Try.underlying144
 a76 := Try.isAgg144
 z76 := Try.sizeOf144
 v76 := Try.zeroValue144
 t77 := Try.underlying145
 a77 := Try.isAgg145
 z77 := Try.sizeOf145
 v77 := Try.zeroValue145 }
end Go.Proofs.Ytjncfpfgobojpaa
set_option linter.unusedVariables false
set_option linter.unusedSimpArgs false
namespace Go.Proofs.Ytjncfpfgobojpaa
open Go Go.Am Go.Proofs Go.Sort
theorem pc113 (x : Int) : PC Try.prog 113 [.i .i64 x] (.b false) := by
 refine pc_fn fn113 (by simp only [AV.plains, AV.plain, il_plain, bl_plain, Bool.and_true, Bool.true_and, Bool.and_self]) (by simp only [AV.plains, AV.plain, il_plain, bl_plain, Bool.and_true, Bool.true_and, Bool.and_self]) (Nat.le_of_ble_eq_true rfl) ?_
 rw [initSt1]
 repeat' first | (with_reducible first | refine k_seq ?_ | refine k_skip ?_ | refine k_blkS ?_ | refine k_blkR ?_ | refine k_blkC ?_ | refine k_blkH ?_ | refine k_blkB ?_ | refine k_blkK ?_ | refine k_blkE ?_ | refine k_reg ?_) | with_reducible refine r_done ?_ | with_reducible refine s_go (by simp (disch := omega) only [c113r0, c113r1, EV0, EV1, EV2, EV3, EV4, EV5, EV6, EV7, EV8, VALS, plug, ite_same, decide_true, decide_false, eq_self, simprocAttr]; with_reducible rfl) ?_ | ((with_reducible refine chk_r ?_); refine r_callF (by simp only [CA, simprocAttr]; rfl) (by exact rfl) (by simp only [CA, simprocAttr]; rfl) rfl ?_) | (with_reducible refine k_condP (by simp only [GA, simprocAttr]; rfl) (by first | (simp only [BO]; rfl) | rfl) (fun ht => ?_) (fun ht => ?_) <;> try (first | exact False.elim ht | exact absurd rfl ht | exact absurd trivial ht | exact Bool.noConfusion ht)) | (with_reducible refine k_ret ?_; repeat with_reducible (first | refine ret_thru ?_ | refine ret_blk ?_ | refine fin ?_)) | (with_reducible refine k_exit ?_; repeat with_reducible (first | refine thru ?_ | refine out_blk ?_ | refine pass (by decide) ?_)) | ((first | refine post1 ?_ | refine post2 ?_ | refine post3 ?_); simp only [GA, simprocAttr]) | refine post0 ?_
 all_goals refine ends_eq (b_eq (by simp))
def cmpI (x y : Int) : Int := if x < y then -1 else if y < x then 1 else 0
theorem RG99 : (type_of% @c99r0.eq_1) ∧ (type_of% @c99r1.eq_1) ∧ (type_of% @c99r2.eq_1) ∧ (type_of% @c99r3.eq_1) ∧ (type_of% @c99r4.eq_1) ∧ (type_of% @c99r5.eq_1) ∧ (type_of% @c99r6.eq_1) ∧ (type_of% @c99r7.eq_1) ∧ (type_of% @c99r8.eq_1) ∧ (type_of% @c99r9.eq_1) ∧ (type_of% @c99r10.eq_1) ∧ (type_of% @c99r11.eq_1) ∧ (type_of% @c99r12.eq_1) ∧ (type_of% @c99r13.eq_1) := ⟨@c99r0.eq_1, @c99r1.eq_1, @c99r2.eq_1, @c99r3.eq_1, @c99r4.eq_1, @c99r5.eq_1, @c99r6.eq_1, @c99r7.eq_1, @c99r8.eq_1, @c99r9.eq_1, @c99r10.eq_1, @c99r11.eq_1, @c99r12.eq_1, @c99r13.eq_1⟩
theorem pc99 (x y : Int) : PC Try.prog 99 [.i .i64 x, .i .i64 y] (.i .i64 (cmpI x y)) := by
 refine pc_fn fn99 (by simp only [AV.plains, AV.plain, il_plain, bl_plain, Bool.and_true, Bool.true_and, Bool.and_self]) (by simp only [AV.plains, AV.plain, il_plain, bl_plain, Bool.and_true, Bool.true_and, Bool.and_self]) (Nat.le_of_ble_eq_true rfl) ?_
 rw [initSt2]
 repeat' first | (with_reducible first | refine k_seq ?_ | refine k_skip ?_ | refine k_blkS ?_ | refine k_blkR ?_ | refine k_blkC ?_ | refine k_blkH ?_ | refine k_blkB ?_ | refine k_blkK ?_ | refine k_blkE ?_ | refine k_reg ?_) | with_reducible refine r_done ?_ | with_reducible refine s_go (by simp (disch := omega) only [RG99, EV0, EV1, EV2, EV3, EV4, EV5, EV6, EV7, EV8, VALS, plug, ite_same, decide_true, decide_false, eq_self, simprocAttr]; with_reducible rfl) ?_ | ((with_reducible refine chk_r ?_); refine r_callF (by simp only [CA, simprocAttr]; rfl) (by exact rfl) (by simp only [CA, simprocAttr]; rfl) rfl ?_) | ((with_reducible refine chk_r ?_); refine r_callP (by simp only [CA, simprocAttr]; rfl) (by simp only [CA, simprocAttr]; rfl) (by first | exact pc113 _ _) rfl ?_) | (with_reducible refine k_condP (by simp only [GA, simprocAttr]; rfl) (by first | (simp only [BO]; rfl) | rfl) (fun ht => ?_) (fun ht => ?_) <;> try (first | exact False.elim ht | exact absurd rfl ht | exact absurd trivial ht | exact Bool.noConfusion ht)) | (with_reducible refine k_ret ?_; repeat with_reducible (first | refine ret_thru ?_ | refine ret_blk ?_ | refine fin ?_)) | (with_reducible refine k_exit ?_; repeat with_reducible (first | refine thru ?_ | refine out_blk ?_ | refine pass (by decide) ?_)) | ((first | refine post1 ?_ | refine post2 ?_ | refine post3 ?_); simp only [GA, simprocAttr]) | refine post0 ?_
 all_goals (refine ends_eq (i_eq ?_); unfold cmpI)
 ·rw [if_pos (by assumption)]
 ·rw [if_neg (by assumption), if_pos (by assumption)]
 ·rw [if_neg (by assumption), if_neg (by assumption)]
def orI : List Int → Int
 | [] => 0
 | x :: l => if x ≠ 0 then x else orI l
theorem orI_drop {l : List Int} {k : Nat} (h : k < l.length) : orI (l.drop k) = if l.getD k 0 ≠ 0 then l.getD k 0 else orI (l.drop (k + 1)) := by
 rw [List.drop_eq_getElem_cons h]; simp [orI, h]
theorem RG98 : (type_of% @c98r0.eq_1) ∧ (type_of% @c98r1.eq_1) ∧ (type_of% @c98r2.eq_1) ∧ (type_of% @c98r3.eq_1) ∧ (type_of% @c98r4.eq_1) ∧ (type_of% @c98r5.eq_1) ∧ (type_of% @c98r6.eq_1) ∧ (type_of% @c98r7.eq_1) ∧ (type_of% @c98r9.eq_1) := ⟨@c98r0.eq_1, @c98r1.eq_1, @c98r2.eq_1, @c98r3.eq_1, @c98r4.eq_1, @c98r5.eq_1, @c98r6.eq_1, @c98r7.eq_1, @c98r9.eq_1⟩
theorem pc98 (l : List Int) (hl : l.length ≤ 9223372036854775807) : PC Try.prog 98 [vi l] (.i .i64 (orI l)) := by
 refine pc_fn fn98 (by simp only [AV.plains, AV.plain, il_plain, bl_plain, Bool.and_true, Bool.true_and, Bool.and_self]) (by simp only [AV.plains, AV.plain, il_plain, bl_plain, Bool.and_true, Bool.true_and, Bool.and_self]) (Nat.le_of_ble_eq_true rfl) ?_
 rw [initSt1]
 repeat' first | (with_reducible first | refine k_seq ?_ | refine k_skip ?_ | refine k_blkS ?_ | refine k_blkR ?_ | refine k_blkC ?_ | refine k_blkH ?_ | refine k_blkB ?_ | refine k_blkK ?_ | refine k_blkE ?_ | refine k_reg ?_) | with_reducible refine r_done ?_ | with_reducible refine s_go (by simp (disch := omega) only [RG98, EV0, EV1, EV2, EV3, EV4, EV5, EV6, EV7, EV8, VALS, plug, ite_same, decide_true, decide_false, eq_self, simprocAttr]; with_reducible rfl) ?_ | ((with_reducible refine chk_r ?_); refine r_callF (by simp only [CA, simprocAttr]; rfl) (by exact rfl) (by simp only [CA, simprocAttr]; rfl) rfl ?_) | (with_reducible refine k_condP (by simp only [GA, simprocAttr]; rfl) (by first | (simp only [BO]; rfl) | rfl) (fun ht => ?_) (fun ht => ?_) <;> try (first | exact False.elim ht | exact absurd rfl ht | exact absurd trivial ht | exact Bool.noConfusion ht)) | (with_reducible refine k_ret ?_; repeat with_reducible (first | refine ret_thru ?_ | refine ret_blk ?_ | refine fin ?_)) | (with_reducible refine k_exit ?_; repeat with_reducible (first | refine thru ?_ | refine out_blk ?_ | refine pass (by decide) ?_)) | ((first | refine post1 ?_ | refine post2 ?_ | refine post3 ?_); simp only [GA, simprocAttr]) | refine post0 ?_
 refine k_blk (k_loopS (X := Unit) [3, 6, 7, 8] l.length (fun k x => [(3, .i .i64 0), (6, vi l), (7, .i .i64 l.length), (8, .i .i64 (k : Int))]) (fun k x h => orI l = orI (l.drop k)) () (by simp only [Am.keep, List.map_cons, List.map_nil, GA, simprocAttr]; try rfl) (by simp) ?_)
 rintro k ⟨⟩ h hk hv ok pos
 repeat' first | (with_reducible first | refine k_seq ?_ | refine k_skip ?_ | refine k_blkS ?_ | refine k_blkR ?_ | refine k_blkC ?_ | refine k_blkH ?_ | refine k_blkB ?_ | refine k_blkK ?_ | refine k_blkE ?_ | refine k_reg ?_) | with_reducible refine r_done ?_ | with_reducible refine s_go (by simp (disch := omega) only [RG98, EV0, EV1, EV2, EV3, EV4, EV5, EV6, EV7, EV8, VALS, plug, ite_same, decide_true, decide_false, eq_self, simprocAttr]; with_reducible rfl) ?_ | ((with_reducible refine chk_r ?_); refine r_callF (by simp only [CA, simprocAttr]; rfl) (by exact rfl) (by simp only [CA, simprocAttr]; rfl) rfl ?_) | (with_reducible refine k_condP (by simp only [GA, simprocAttr]; rfl) (by first | (simp only [BO]; rfl) | rfl) (fun ht => ?_) (fun ht => ?_) <;> try (first | exact False.elim ht | exact absurd rfl ht | exact absurd trivial ht | exact Bool.noConfusion ht)) | (with_reducible refine k_ret ?_; repeat with_reducible (first | refine ret_thru ?_ | refine ret_blk ?_ | refine fin ?_)) | (with_reducible refine k_exit ?_; repeat with_reducible (first | refine thru ?_ | refine out_blk ?_ | refine pass (by decide) ?_)) | ((first | refine post1 ?_ | refine post2 ?_ | refine post3 ?_); simp only [GA, simprocAttr]) | refine post0 ?_
 ·rw [hv, orI_drop (by omega), if_pos (by assumption)]; exact ends_of
 ·refine ⟨by omega, (), (by simp only [Am.keep, List.map_cons, List.map_nil, GA, simprocAttr]; try rfl), ?_⟩
  rw [hv, orI_drop (by omega), if_neg (by assumption)]
 ·rw [hv, show k = l.length by omega, List.drop_length]; exact ends_of
def cmpB (l : List B) (i k : Nat) : Int := orI [cmpI (bD l i).dark (bD l k).dark, cmpI (bD l i).grain (bD l k).grain, cmpI (bD l i).num (bD l k).num]
theorem pc97 (l : List B) (i k : Nat) (hi : i < l.length) (hk : k < l.length) : PC Try.prog 97 [.i .i64 i, .i .i64 k, .pv [vB l] 0] (.i .i64 (cmpB l i k)) := by
 refine pc_fn fn97 (by simp only [AV.plains, AV.plain, il_plain, bl_plain, Bool.and_true, Bool.true_and, Bool.and_self, flB_plain]) (by simp only [AV.plains, AV.plain, il_plain, bl_plain, Bool.and_true, Bool.true_and, Bool.and_self, flB_plain]) (Nat.le_of_ble_eq_true rfl) ?_
 rw [initSt3]
 have rA := rdB hi
 have rC := rdB hk
 simp only [eB] at rA rC
 have q := fun x y z => (pc98 [x, y, z] (by simp) : PC Try.prog 98 [.vs 3 [.i .i64 x, .i .i64 y, .i .i64 z]] _)
 have hi' : (i : Int) < l.length := by omega
 have hk' : (k : Int) < l.length := by omega
 repeat' first | (with_reducible first | refine k_seq ?_ | refine k_skip ?_ | refine k_blkS ?_ | refine k_blkR ?_ | refine k_blkC ?_ | refine k_blkH ?_ | refine k_blkB ?_ | refine k_blkK ?_ | refine k_blkE ?_ | refine k_reg ?_) | with_reducible refine k_head (by with_unfolding_all rfl) ?_ | with_reducible refine k_headS ?_ | (with_reducible refine SepK.mk ?_ ?_; (refine sepQ_P ?_; simp [sepQ, sepG, AOp.late, AOp.free, AOp.xs, AOp.isAl, tokNe, AV.tok, stS_get, strip, AX.val, c97r0, c97r1, c97r2, GA]; try omega)) | with_reducible refine r_done ?_ | with_reducible refine hr_done ?_ | with_reducible refine s_go (by simp (disch := omega) only [rA, rC, hi', hk', c97r0, c97r1, c97r2, EV0, EV1, EV2, EV3, EV4, EV5, EV6, EV7, EV8, VALS, plug, ite_same, decide_true, decide_false, eq_self, simprocAttr]; with_reducible rfl) ?_ | with_reducible refine h_go (by with_unfolding_all rfl) (by simp (disch := omega) only [rA, rC, hi', hk', c97r0, c97r1, c97r2, EV0, EV1, EV2, EV3, EV4, EV5, EV6, EV7, EV8, VALS, plug, ite_same, decide_true, decide_false, eq_self, simprocAttr]; with_reducible rfl) ?_ | ((with_reducible refine chk_r ?_); refine r_callF (by simp only [CA, simprocAttr]; rfl) (by exact rfl) (by simp only [CA, simprocAttr]; rfl) rfl ?_) | ((with_reducible refine chk_h ?_); refine hr_callF (by simp only [CA, simprocAttr]; rfl) (by exact rfl) (by simp only [CA, simprocAttr]; rfl) rfl ?_) | ((with_reducible refine chk_r ?_); refine r_callP (by simp only [CA, simprocAttr]; rfl) (by simp only [CA, simprocAttr]; rfl) (by first | exact pc99 _ _ _ | ((refine PC.at (q ?x ?y ?z) rfl ?F; case F => (refine .cons (.row (by simp (disch := omega) only [c97r0, c97r1, c97r2, EV0, EV1, EV2, EV3, EV4, EV5, EV6, EV7, EV8, VALS, plug, ite_same, decide_true, decide_false, eq_self, simprocAttr] <;> rfl) rfl) .nil)); all_goals fail)) rfl ?_) | ((with_reducible refine chk_h ?_); refine hr_callP (by simp only [CA, simprocAttr]; rfl) (by simp only [CA, simprocAttr]; rfl) (by first | exact pc99 _ _ _ | ((refine PC.at (q ?x ?y ?z) rfl ?F; case F => (refine .cons (.row (by simp (disch := omega) only [c97r0, c97r1, c97r2, EV0, EV1, EV2, EV3, EV4, EV5, EV6, EV7, EV8, VALS, plug, ite_same, decide_true, decide_false, eq_self, simprocAttr] <;> rfl) rfl) .nil)); all_goals fail)) rfl ?_) | ((with_reducible refine chk_h ?_); refine hr_callP1 (by simp only [CA, simprocAttr]; rfl) (by simp only [CA, simprocAttr]; rfl) (by simp (disch := omega) only [CA, Nat.reduceEqDiff, ↓reduceIte, firstTok_nil, firstTok_sl, firstTok_sl0, firstTok_i, firstTok_b, firstTok_ag, firstTok_p, firstTok_s]; rfl) (by first | exact pc99 _ _ _ | ((refine PC.at (q ?x ?y ?z) rfl ?F; case F => (refine .cons (.row (by simp (disch := omega) only [c97r0, c97r1, c97r2, EV0, EV1, EV2, EV3, EV4, EV5, EV6, EV7, EV8, VALS, plug, ite_same, decide_true, decide_false, eq_self, simprocAttr] <;> rfl) rfl) .nil)); all_goals fail)) rfl ?_) | ((with_reducible refine chk_h ?_); refine hr_app (by simp (disch := omega) only [rA, rC, hi', hk', c97r0, c97r1, c97r2, EV0, EV1, EV2, EV3, EV4, EV5, EV6, EV7, EV8, VALS, plug, ite_same, decide_true, decide_false, eq_self, simprocAttr]; with_reducible rfl) rfl ?_) | (with_reducible refine k_condP (by simp only [GA, simprocAttr]; rfl) (by first | (simp only [BO]; rfl) | rfl) (fun ht => ?_) (fun ht => ?_) <;> try (first | exact False.elim ht | exact absurd rfl ht | exact absurd trivial ht | exact Bool.noConfusion ht)) | (with_reducible refine k_ret ?_; repeat with_reducible (first | refine ret_thru ?_ | refine ret_blk ?_ | refine fin ?_)) | (with_reducible refine k_exit ?_; repeat with_reducible (first | refine thru ?_ | refine out_blk ?_ | refine pass (by decide) ?_)) | ((first | refine post1 ?_ | refine post2 ?_ | refine post3 ?_); simp only [GA, simprocAttr]) | refine post0 ?_
 all_goals first | exact ends_of | exact ends_eq rfl
theorem cmpB_lt (l : List B) (i k : Nat) : decide (cmpB l i k < 0) = ltB l i k := by
 unfold cmpB ltB orI orI orI orI cmpI
 rw [Bool.eq_iff_iff]
 simp only [decide_eq_true_eq]
 repeat' split
 all_goals omega
def nl (l : List Nat) : List AV := l.map fun (n : Nat) => AV.i .i64 (n : Int)
theorem nl_len (l : List Nat) : (nl l).length = l.length := by simp [nl]
theorem nl_snoc (l : List Nat) (x : Nat) : nl l ++ [.i .i64 (x : Int)] = nl (l ++ [x]) := by simp [nl]
theorem nl_plain (l : List Nat) : AV.plains (nl l) = true := plains_all fun x hx => by
 simp only [nl, List.mem_map] at hx
 obtain ⟨y, _, rfl⟩ := hx; rfl
theorem nl_get {l : List Nat} {j : Nat} (h : j < l.length) : (nl l)[j]? = some (.i .i64 (l.getD j 0 : Nat)) := by simp [nl, h]
abbrev Ix (n : Nat) := { i : Nat // i < n }
theorem swoB (l : List B) : SWO (ltOf fun (x y : Ix l.length) => cmpB l x.1 y.1) where
 irrefl x := by simp only [ltOf, cmpB_lt, ltB]; simp
 trans x y z h1 h2 := by
  simp only [ltOf, cmpB_lt, ltB, decide_eq_true_eq] at *; omega
 ntrans x y z h1 h2 := by
  simp only [ltOf, cmpB_lt, ltB, decide_eq_false_iff_not] at *; omega
theorem encIx (n : Nat) : Enc1 (α := Ix n) (fun x => .i .i64 (x.1 : Int)) (fun x => .int .i64 (x.1 : Int)) := ⟨fun ι x v => by simp only [VRel], fun _ => rfl, fun _ => rfl⟩
theorem sortB {l : List B} (hv : VL l) {h : AH} {t a : Nat} {ns : List Nat} (hm : h.m t = some (.cells true (nl ns))) (hn : ∀ i ∈ ns, i < l.length) (hlen : ns.length < 4611686018427387904) :
 ACalls Try.prog 96 [.sl t 0 ns.length a, .fn 97 [] [.pv [vB l] 0]] h fun r h' => r = .tu [] ∧ h' = h.set t (.cells true (nl (ns.mergeSort fun i k => !ltB l k i))) := by
 by_cases h0 : l.length = 0
 ·have : ns = [] := by
   cases ns with
   | nil => rfl
   | cons x r => have := hn x (by simp); omega
  subst this
  refine ACalls.mono (sort_none sortL 97 [.pv [vB l] 0] h t 0 a) fun r h' ⟨e1, e2⟩ => ⟨e1, ?_⟩
  rw [e2, List.mergeSort_nil, set_self hm]
 ·haveI : Inhabited (Ix l.length) := ⟨⟨0, by omega⟩⟩
  let d : List (Ix l.length) := ns.attachWith (· < l.length) hn
  have hd : d.map Subtype.val = ns := List.attachWith_map_subtype_val _
  have hd2 : d.map (fun x => AV.i .i64 (x.1 : Int)) = nl ns := by
   rw [← hd]; simp only [nl, List.map_map]; rfl
  have := sort_one sortL (encIx l.length) (swoB l) (fun x y h1 h2 => ?_) (g := 97) (caps := [.pv [vB l] 0]) (by simp only [AV.plains, AV.plain, il_plain, bl_plain, Bool.and_true, Bool.true_and, Bool.and_self, flB_plain]) (fun x y => pc97 l x.1 y.1 x.2 y.2) (h := h) (t := t) (a := a) (d := d) (by rw [hd2]; exact hm) (by simpa [d] using hlen)
  ·have hl : d.length = ns.length := by rw [← hd]; simp
   rw [hl] at this
   refine ACalls.mono this fun r h' ⟨e1, e2⟩ => ⟨e1, ?_⟩
   rw [e2]
   have e3 : (d.mergeSort fun x y => !(ltOf (fun (x y : Ix l.length) => cmpB l x.1 y.1)) y x).map Subtype.val = ns.mergeSort fun i k => !ltB l k i := by
    rw [← hd]
    exact List.map_mergeSort fun a _ b _ => by simp only [ltOf, cmpB_lt]
   rw [← e3]; simp only [nl, List.map_map]; rfl
  ·simp only [ltOf, cmpB_lt, ltB, decide_eq_false_iff_not] at h1 h2
   by_cases e : x.1 = y.1
   ·exact Subtype.ext e
   ·exfalso
    rcases Nat.lt_or_gt_of_ne e with q | q
    ·have := hv.2.2 x.1 y.1 q y.2; omega
    ·have := hv.2.2 y.1 x.1 q x.2; omega
theorem RG85 : (type_of% @c85r0.eq_1) ∧ (type_of% @c85r1.eq_1) ∧ (type_of% @c85r2.eq_1) ∧ (type_of% @c85r3.eq_1) ∧ (type_of% @c85r4.eq_1) ∧ (type_of% @c85r5.eq_1) ∧ (type_of% @c85r6.eq_1) ∧ (type_of% @c85r8.eq_1) ∧ (type_of% @c85r9.eq_1) := ⟨@c85r0.eq_1, @c85r1.eq_1, @c85r2.eq_1, @c85r3.eq_1, @c85r4.eq_1, @c85r5.eq_1, @c85r6.eq_1, @c85r8.eq_1, @c85r9.eq_1⟩
theorem pc85 (l : List B) (hv : VL l) : PC Try.prog 85 [vB l] (.vs l.length (nl (orderL l))) := by
 refine pc_fn fn85 (by simp only [AV.plains, AV.plain, il_plain, bl_plain, Bool.and_true, Bool.true_and, Bool.and_self, flB_plain, nl_plain]) (by simp only [AV.plains, AV.plain, il_plain, bl_plain, Bool.and_true, Bool.true_and, Bool.and_self, flB_plain, nl_plain]) (Nat.le_of_ble_eq_true rfl) ?_
 rw [initSt1]
 have hl := hv.len
 refine k_seq (k_reg ?_)
 refine s_go (by simp (disch := omega) only [RG85, EV0, EV1, EV2, EV3, EV4, EV5, EV6, EV7, EV8, VALS, plug, ite_same, decide_true, decide_false, eq_self, simprocAttr]; with_reducible rfl) ?_
 refine r_done ?_
 refine w_frz (t := 1) (cs := [vB l]) (st' := (1, .pv [vB l] 0) :: [(2, .sl 0 0 0 0), (1, .p 1 0), (0, vB l)]) (by simp (disch := omega) only [RG85, EV0, EV1, EV2, EV3, EV4, EV5, EV6, EV7, EV8, VALS, plug, ite_same, decide_true, decide_false, eq_self, simprocAttr] <;> rfl) (fun x => by
  simp only [St.get]
  by_cases e : x = 1
  ·subst e; simp only [if_true]; exact .p
  ·simp only [if_neg e]; exact .same) ?_
 repeat' first | (with_reducible first | refine k_seq ?_ | refine k_skip ?_ | refine k_blkS ?_ | refine k_blkR ?_ | refine k_blkC ?_ | refine k_blkH ?_ | refine k_blkB ?_ | refine k_blkK ?_ | refine k_blkE ?_ | refine k_reg ?_) | with_reducible refine r_done ?_ | with_reducible refine s_go (by simp (disch := omega) only [RG85, EV0, EV1, EV2, EV3, EV4, EV5, EV6, EV7, EV8, VALS, plug, ite_same, decide_true, decide_false, eq_self, simprocAttr]; with_reducible rfl) ?_ | ((with_reducible refine chk_r ?_); refine r_callF (by simp only [CA, simprocAttr]; rfl) (by exact rfl) (by simp only [CA, simprocAttr]; rfl) rfl ?_) | (with_reducible refine k_condP (by simp only [GA, simprocAttr]; rfl) (by first | (simp only [BO]; rfl) | rfl) (fun ht => ?_) (fun ht => ?_) <;> try (first | exact False.elim ht | exact absurd rfl ht | exact absurd trivial ht | exact Bool.noConfusion ht)) | (with_reducible refine k_ret ?_; repeat with_reducible (first | refine ret_thru ?_ | refine ret_blk ?_ | refine fin ?_)) | (with_reducible refine k_exit ?_; repeat with_reducible (first | refine thru ?_ | refine out_blk ?_ | refine pass (by decide) ?_)) | ((first | refine post1 ?_ | refine post2 ?_ | refine post3 ?_); simp only [GA, simprocAttr]) | refine post0 ?_
 refine w_virt 1 3 rfl ?_
 refine k_blk (k_loopS (X := Nat) [1, 3, 6, 7] l.length (fun k x => [(1, .pv [vB l] 0), (3, .sl x 0 k 1), (6, .i .i64 l.length), (7, .i .i64 (k : Int))])
  (fun k x h => x ≠ 0 ∧ h.m x = some (.cells true (nl (List.range k)))) _ (by simp only [Am.keep, List.map_cons, List.map_nil, GA, simprocAttr]; try rfl) ⟨?_, by simp (disch := omega) only [RG85, EV0, EV1, EV2, EV3, EV4, EV5, EV6, EV7, EV8, VALS, plug, ite_same, decide_true, decide_false, eq_self, simprocAttr] <;> rfl⟩ ?_)
 ·simp only [AH.bump_nx]; omega
 rintro k x h hk ⟨hx, hm⟩ ok pos
 have hx' := ok.m hm
 by_cases hlt : k < l.length
 ·have hlt' : (k : Int) < l.length := by omega
  repeat' first | (with_reducible first | refine k_seq ?_ | refine k_skip ?_ | refine k_blkS ?_ | refine k_blkR ?_ | refine k_blkC ?_ | refine k_blkH ?_ | refine k_blkB ?_ | refine k_blkK ?_ | refine k_blkE ?_ | refine k_reg ?_) | with_reducible refine r_done ?_ | with_reducible refine s_go (by simp (disch := omega) only [hlt', hm, hx, nl_len, nl_snoc, List.length_range, RG85, EV0, EV1, EV2, EV3, EV4, EV5, EV6, EV7, EV8, VALS, plug, ite_same, decide_true, decide_false, eq_self, simprocAttr]; with_reducible rfl) ?_ | ((with_reducible refine chk_r ?_); refine r_callF (by simp only [CA, simprocAttr]; rfl) (by exact rfl) (by simp only [CA, simprocAttr]; rfl) rfl ?_) | (with_reducible refine k_condP (by simp only [GA, simprocAttr]; rfl) (by first | (simp only [BO]; rfl) | rfl) (fun ht => ?_) (fun ht => ?_) <;> try (first | exact False.elim ht | exact absurd rfl ht | exact absurd trivial ht | exact Bool.noConfusion ht)) | (with_reducible refine k_ret ?_; repeat with_reducible (first | refine ret_thru ?_ | refine ret_blk ?_ | refine fin ?_)) | (with_reducible refine k_exit ?_; repeat with_reducible (first | refine thru ?_ | refine out_blk ?_ | refine pass (by decide) ?_)) | ((first | refine post1 ?_ | refine post2 ?_ | refine post3 ?_); simp only [GA, simprocAttr]) | refine post0 ?_
  refine ⟨hlt, ?tk, ?g1, ?g2, ?g3⟩
  case g1 =>
   simp only [Am.keep, List.map_cons, List.map_nil, GA, simprocAttr]
   rfl
  case g2 => omega
  case g3 =>
   rw [List.range_succ, ← nl_snoc]
   simp (disch := omega) only [RG85, EV0, EV1, EV2, EV3, EV4, EV5, EV6, EV7, EV8, VALS, plug, ite_same, decide_true, decide_false, eq_self, simprocAttr] <;> rfl
 ·obtain rfl : k = l.length := by omega
  have hlt' : ¬ (l.length : Int) < l.length := by omega
  have q96 := fun h hm => sortB hv (h := h) (t := x) (a := 1) (ns := List.range l.length) hm (fun i hi => List.mem_range.1 hi) (by rw [List.length_range]; omega)
  rw [List.length_range] at q96
  repeat' first | (with_reducible first | refine k_seq ?_ | refine k_skip ?_ | refine k_blkS ?_ | refine k_blkR ?_ | refine k_blkC ?_ | refine k_blkH ?_ | refine k_blkB ?_ | refine k_blkK ?_ | refine k_blkE ?_ | refine k_reg ?_) | with_reducible refine r_done ?_ | with_reducible refine s_go (by simp (disch := omega) only [hlt', RG85, EV0, EV1, EV2, EV3, EV4, EV5, EV6, EV7, EV8, VALS, plug, ite_same, decide_true, decide_false, eq_self, simprocAttr]; with_reducible rfl) ?_ | ((with_reducible refine chk_r ?_); refine r_callF (by simp only [CA, simprocAttr]; rfl) (by exact rfl) (by simp only [CA, simprocAttr]; rfl) rfl ?_) | ((with_reducible refine chk_r ?_); refine r_callX (by simp only [CA, simprocAttr]; rfl) (by simp only [CA, simprocAttr]; rfl) (by first | exact q96 _ (by simp (disch := omega) only [hm, RG85, EV0, EV1, EV2, EV3, EV4, EV5, EV6, EV7, EV8, VALS, plug, ite_same, decide_true, decide_false, eq_self, simprocAttr] <;> rfl)) rfl ?_) | (with_reducible refine k_condP (by simp only [GA, simprocAttr]; rfl) (by first | (simp only [BO]; rfl) | rfl) (fun ht => ?_) (fun ht => ?_) <;> try (first | exact False.elim ht | exact absurd rfl ht | exact absurd trivial ht | exact Bool.noConfusion ht)) | (with_reducible refine k_ret ?_; repeat with_reducible (first | refine ret_thru ?_ | refine ret_blk ?_ | refine fin ?_)) | (with_reducible refine k_exit ?_; repeat with_reducible (first | refine thru ?_ | refine out_blk ?_ | refine pass (by decide) ?_)) | ((first | refine post1 ?_ | refine post2 ?_ | refine post3 ?_); simp only [GA, simprocAttr]) | refine post0 ?_
  rintro r h' ⟨rfl, rfl⟩
  repeat' first | (with_reducible first | refine k_seq ?_ | refine k_skip ?_ | refine k_blkS ?_ | refine k_blkR ?_ | refine k_blkC ?_ | refine k_blkH ?_ | refine k_blkB ?_ | refine k_blkK ?_ | refine k_blkE ?_ | refine k_reg ?_) | with_reducible refine r_done ?_ | with_reducible refine s_go (by simp (disch := omega) only [RG85, EV0, EV1, EV2, EV3, EV4, EV5, EV6, EV7, EV8, VALS, plug, ite_same, decide_true, decide_false, eq_self, simprocAttr]; with_reducible rfl) ?_ | ((with_reducible refine chk_r ?_); refine r_callF (by simp only [CA, simprocAttr]; rfl) (by exact rfl) (by simp only [CA, simprocAttr]; rfl) rfl ?_) | (with_reducible refine k_condP (by simp only [GA, simprocAttr]; rfl) (by first | (simp only [BO]; rfl) | rfl) (fun ht => ?_) (fun ht => ?_) <;> try (first | exact False.elim ht | exact absurd rfl ht | exact absurd trivial ht | exact Bool.noConfusion ht)) | (with_reducible refine k_ret ?_; repeat with_reducible (first | refine ret_thru ?_ | refine ret_blk ?_ | refine fin ?_)) | (with_reducible refine k_exit ?_; repeat with_reducible (first | refine thru ?_ | refine out_blk ?_ | refine pass (by decide) ?_)) | ((first | refine post1 ?_ | refine post2 ?_ | refine post3 ?_); simp only [GA, simprocAttr]) | refine post0 ?_
  exact ends_sl (k := 1) (by simp (disch := omega) only [RG85, EV0, EV1, EV2, EV3, EV4, EV5, EV6, EV7, EV8, VALS, plug, ite_same, decide_true, decide_false, eq_self, simprocAttr] <;> rfl) (by rw [nl_len, order_len, Nat.mul_one])
end Go.Proofs.Ytjncfpfgobojpaa
set_option linter.unusedVariables false
set_option linter.unusedSimpArgs false
namespace Go.Proofs.Ytjncfpfgobojpaa
open Go Go.Am Go.Proofs Go.Sort
def rw1 (r : List Nat) : Rw := (r.length, nl r)
def rvN (r : List Nat) : AV := .vs r.length (nl r)
abbrev vRows (rows : List (List Nat)) : AV := .vs rows.length (rows.map rvN)
theorem rows_plain (rows : List (List Nat)) : AV.plains (rows.map rvN) = true := plains_all fun x hx => by
 obtain ⟨r, _, rfl⟩ := List.mem_map.1 hx
 exact nl_plain r
theorem rw_plain {rows : List (List Nat)} : ∀ p ∈ rows.map rw1, AV.plains p.2 = true := fun p hp => by
 obtain ⟨r, _, rfl⟩ := List.mem_map.1 hp
 exact nl_plain r
theorem rv_map (rows : List (List Nat)) : (rows.map rw1).map rV = rows.map rvN := by rw [List.map_map]; rfl
theorem rvN_get {rows : List (List Nat)} {k : Nat} (h : k < rows.length) : (rows.map rvN)[k]? = some (.vs (rows.getD k []).length (nl (rows.getD k []))) := by
 simp [h, rvN]
theorem rD_map {rows : List (List Nat)} {k : Nat} (h : k < rows.length) : rD (rows.map rw1) k = ((rows.getD k []).length, nl (rows.getD k [])) := by
 simp [rD, h, rw1]
theorem last_get {r : List Nat} (h : r ≠ []) : (nl r)[r.length - 1]? = some (.i .i64 (lastN r : Nat)) := by
 have : 0 < r.length := List.length_pos_iff.2 h
 rw [nl_get (by omega)]; rfl
theorem Nest.lt {h : AH} {k r : Nat} {ts : List Nat} {rows : List Rw} (N : Nest h k r ts rows) (ok : h.ok) : ∀ t ∈ ts, t < h.nx := fun t ht => by
 obtain ⟨i, hi, e⟩ := List.getElem_of_mem ht
 have := N.ht i (by have := N.len; omega)
 have e2 : tD ts i = t := by simp [tD, hi, e]
 rw [e2] at this
 exact ok.m this
theorem pc87 (l : List B) (row : List Nat) (i : Nat) (hr : row ≠ []) (hx : lastN row < l.length) (hi : i < l.length) (hl : row.length ≤ 1000) : PC Try.prog 87 [.vs row.length (nl row), .pv [vB l] 0, .pv [.i .i64 (i : Int)] 0] (.b (mayI l (lastN row) i)) := by
 refine pc_fn fn87 (by simp only [AV.plains, AV.plain, il_plain, bl_plain, Bool.and_true, Bool.true_and, Bool.and_self, flB_plain, nl_plain]) (by simp only [AV.plains, AV.plain, il_plain, bl_plain, Bool.and_true, Bool.true_and, Bool.and_self, flB_plain, nl_plain]) (Nat.le_of_ble_eq_true rfl) ?_
 rw [initSt3]
 have rA := rdB hx
 have rC := rdB hi
 have q := pc58 (bD l (lastN row)) (bD l i)
 simp only [eB] at rA rC q
 have hi' : (i : Int) < l.length := by omega
 have hx' : ((lastN row : Nat) : Int) < l.length := by omega
 have hp : 0 < row.length := List.length_pos_iff.2 hr
 have e1 : (row.length : Int) - 1 = ((row.length - 1 : Nat) : Int) := by omega
 have g := last_get hr
 have hlt : row.length - 1 < row.length := by omega
 repeat' first | (with_reducible first | refine k_seq ?_ | refine k_skip ?_ | refine k_blkS ?_ | refine k_blkR ?_ | refine k_blkC ?_ | refine k_blkH ?_ | refine k_blkB ?_ | refine k_blkK ?_ | refine k_blkE ?_ | refine k_reg ?_) | with_reducible refine k_head (by with_unfolding_all rfl) ?_ | with_reducible refine k_headS ?_ | (with_reducible refine SepK.mk ?_ ?_; (refine sepQ_P ?_; simp [sepQ, sepG, AOp.late, AOp.free, AOp.xs, AOp.isAl, tokNe, AV.tok, stS_get, strip, AX.val, c87r0, c87r1, GA]; try omega)) | with_reducible refine r_done ?_ | with_reducible refine hr_done ?_ | with_reducible refine s_go (by simp (disch := omega) only [rA, rC, hi', hx', e1, g, hlt, c87r0, c87r1, EV0, EV1, EV2, EV3, EV4, EV5, EV6, EV7, EV8, VALS, plug, ite_same, decide_true, decide_false, eq_self, simprocAttr]; with_reducible rfl) ?_ | with_reducible refine h_go (by with_unfolding_all rfl) (by simp (disch := omega) only [rA, rC, hi', hx', e1, g, hlt, c87r0, c87r1, EV0, EV1, EV2, EV3, EV4, EV5, EV6, EV7, EV8, VALS, plug, ite_same, decide_true, decide_false, eq_self, simprocAttr]; with_reducible rfl) ?_ | ((with_reducible refine chk_r ?_); refine r_callF (by simp only [CA, simprocAttr]; rfl) (by exact rfl) (by simp only [CA, simprocAttr]; rfl) rfl ?_) | ((with_reducible refine chk_h ?_); refine hr_callF (by simp only [CA, simprocAttr]; rfl) (by exact rfl) (by simp only [CA, simprocAttr]; rfl) rfl ?_) | ((with_reducible refine chk_r ?_); refine r_callP (by simp only [CA, simprocAttr]; rfl) (by simp only [CA, simprocAttr]; rfl) (by first | exact q _) rfl ?_) | ((with_reducible refine chk_h ?_); refine hr_callP (by simp only [CA, simprocAttr]; rfl) (by simp only [CA, simprocAttr]; rfl) (by first | exact q _) rfl ?_) | ((with_reducible refine chk_h ?_); refine hr_callP1 (by simp only [CA, simprocAttr]; rfl) (by simp only [CA, simprocAttr]; rfl) (by simp (disch := omega) only [CA, Nat.reduceEqDiff, ↓reduceIte, firstTok_nil, firstTok_sl, firstTok_sl0, firstTok_i, firstTok_b, firstTok_ag, firstTok_p, firstTok_s]; rfl) (by first | exact q _) rfl ?_) | ((with_reducible refine chk_h ?_); refine hr_app (by simp (disch := omega) only [rA, rC, hi', hx', e1, g, hlt, c87r0, c87r1, EV0, EV1, EV2, EV3, EV4, EV5, EV6, EV7, EV8, VALS, plug, ite_same, decide_true, decide_false, eq_self, simprocAttr]; with_reducible rfl) rfl ?_) | (with_reducible refine k_condP (by simp only [GA, simprocAttr]; rfl) (by first | (simp only [BO]; rfl) | rfl) (fun ht => ?_) (fun ht => ?_) <;> try (first | exact False.elim ht | exact absurd rfl ht | exact absurd trivial ht | exact Bool.noConfusion ht)) | (with_reducible refine k_ret ?_; repeat with_reducible (first | refine ret_thru ?_ | refine ret_blk ?_ | refine fin ?_)) | (with_reducible refine k_exit ?_; repeat with_reducible (first | refine thru ?_ | refine out_blk ?_ | refine pass (by decide) ?_)) | ((first | refine post1 ?_ | refine post2 ?_ | refine post3 ?_); simp only [GA, simprocAttr]) | refine post0 ?_
 all_goals first | exact ends_of | exact ends_eq rfl
def fitI (l : List B) (rows : List (List Nat)) (i : Nat) : Int := if fit l rows i < rows.length then fit l rows i else -1
theorem fit_ge {l : List B} {i : Nat} : ∀ {rows : List (List Nat)} {k : Nat}, (∀ j, j < k → mayI l (lastN (rows.getD j [])) i = false) → k ≤ rows.length → k ≤ fit l rows i
 | [], k, h, hk => by simp at hk; omega
 | r :: rs, k, h, hk => by
   simp only [fit]
   cases k with
   | zero => exact Nat.zero_le _
   | succ k =>
     have h0 := h 0 (by omega)
     simp only [List.getD_cons_zero] at h0
     rw [if_neg (by rw [h0]; simp)]
     have := fit_ge (rows := rs) (k := k) (l := l) (i := i) (fun j hj => by have := h (j + 1) (by omega); simpa using this) (by simpa using hk)
     omega
theorem RG86 : (type_of% @c86r0.eq_1) ∧ (type_of% @c86r1.eq_1) ∧ (type_of% @c86r2.eq_1) ∧ (type_of% @c86r3.eq_1) ∧ (type_of% @c86r4.eq_1) ∧ (type_of% @c86r5.eq_1) ∧ (type_of% @c86r6.eq_1) ∧ (type_of% @c86r8.eq_1) := ⟨@c86r0.eq_1, @c86r1.eq_1, @c86r2.eq_1, @c86r3.eq_1, @c86r4.eq_1, @c86r5.eq_1, @c86r6.eq_1, @c86r8.eq_1⟩
theorem pc86 (l : List B) (rows : List (List Nat)) (i : Nat) (hr : ∀ r ∈ rows, r ≠ [] ∧ lastN r < l.length ∧ r.length ≤ 1000) (hi : i < l.length) (hl : rows.length ≤ 1000) :
 PC Try.prog 86 [vRows rows, .fn 87 [] [.pv [vB l] 0, .pv [.i .i64 (i : Int)] 0]] (.i .i64 (fitI l rows i)) := by
 refine pc_fn fn86 (by simp only [AV.plains, AV.plain, il_plain, bl_plain, Bool.and_true, Bool.true_and, Bool.and_self, flB_plain, rows_plain]) (by simp only [AV.plains, AV.plain, il_plain, bl_plain, Bool.and_true, Bool.true_and, Bool.and_self, flB_plain, rows_plain]) (Nat.le_of_ble_eq_true rfl) ?_
 rw [initSt2]
 repeat' first | (with_reducible first | refine k_seq ?_ | refine k_skip ?_ | refine k_blkS ?_ | refine k_blkR ?_ | refine k_blkC ?_ | refine k_blkH ?_ | refine k_blkB ?_ | refine k_blkK ?_ | refine k_blkE ?_ | refine k_reg ?_) | with_reducible refine r_done ?_ | with_reducible refine s_go (by simp (disch := omega) only [RG86, EV0, EV1, EV2, EV3, EV4, EV5, EV6, EV7, EV8, VALS, plug, ite_same, decide_true, decide_false, eq_self, simprocAttr]; with_reducible rfl) ?_ | ((with_reducible refine chk_r ?_); refine r_callF (by simp only [CA, simprocAttr]; rfl) (by exact rfl) (by simp only [CA, simprocAttr]; rfl) rfl ?_) | (with_reducible refine k_condP (by simp only [GA, simprocAttr]; rfl) (by first | (simp only [BO]; rfl) | rfl) (fun ht => ?_) (fun ht => ?_) <;> try (first | exact False.elim ht | exact absurd rfl ht | exact absurd trivial ht | exact Bool.noConfusion ht)) | (with_reducible refine k_ret ?_; repeat with_reducible (first | refine ret_thru ?_ | refine ret_blk ?_ | refine fin ?_)) | (with_reducible refine k_exit ?_; repeat with_reducible (first | refine thru ?_ | refine out_blk ?_ | refine pass (by decide) ?_)) | ((first | refine post1 ?_ | refine post2 ?_ | refine post3 ?_); simp only [GA, simprocAttr]) | refine post0 ?_
 refine k_blk (k_loopS (X := Unit) [0, 1, 7, 8] rows.length (fun k _ => [(0, vRows rows), (1, .fn 87 [] [.pv [vB l] 0, .pv [.i .i64 (i : Int)] 0]), (7, .i .i64 rows.length), (8, .i .i64 (k : Int))]) (fun k _ h => ∀ j, j < k → mayI l (lastN (rows.getD j [])) i = false) () (by simp only [Am.keep, List.map_cons, List.map_nil, GA, simprocAttr]; try rfl) (fun j hj => by omega) ?_)
 rintro k _ h hk hf ok pos
 by_cases hlt : k < rows.length
 ·have hlt' : (k : Int) < rows.length := by omega
  have g := rvN_get hlt
  obtain ⟨h1, h2, h3⟩ := hr _ (mem_row hlt)
  have q := pc87 l (rows.getD k []) i h1 h2 hi h3
  have ge := fit_ge (l := l) (i := i) (rows := rows) (k := k) hf hk
  cases hm : mayI l (lastN (rows.getD k [])) i with
  | true =>
    rw [hm] at q
    repeat' first | (with_reducible first | refine k_seq ?_ | refine k_skip ?_ | refine k_blkS ?_ | refine k_blkR ?_ | refine k_blkC ?_ | refine k_blkH ?_ | refine k_blkB ?_ | refine k_blkK ?_ | refine k_blkE ?_ | refine k_reg ?_) | with_reducible refine r_done ?_ | with_reducible refine s_go (by simp (disch := omega) only [hlt', g, RG86, EV0, EV1, EV2, EV3, EV4, EV5, EV6, EV7, EV8, VALS, plug, ite_same, decide_true, decide_false, eq_self, simprocAttr]; with_reducible rfl) ?_ | ((with_reducible refine chk_r ?_); refine r_callF (by simp only [CA, simprocAttr]; rfl) (by exact rfl) (by simp only [CA, simprocAttr]; rfl) rfl ?_) | ((with_reducible refine chk_r ?_); refine r_callP (by simp only [CA, simprocAttr]; rfl) (by simp only [CA, simprocAttr]; rfl) (by first | exact q _) rfl ?_) | (with_reducible refine k_condP (by simp only [GA, simprocAttr]; rfl) (by first | (simp only [BO]; rfl) | rfl) (fun ht => ?_) (fun ht => ?_) <;> try (first | exact False.elim ht | exact absurd rfl ht | exact absurd trivial ht | exact Bool.noConfusion ht)) | (with_reducible refine k_ret ?_; repeat with_reducible (first | refine ret_thru ?_ | refine ret_blk ?_ | refine fin ?_)) | (with_reducible refine k_exit ?_; repeat with_reducible (first | refine thru ?_ | refine out_blk ?_ | refine pass (by decide) ?_)) | ((first | refine post1 ?_ | refine post2 ?_ | refine post3 ?_); simp only [GA, simprocAttr]) | refine post0 ?_
    have : fit l rows i = k := by
     refine Nat.le_antisymm (Classical.byContradiction fun h => ?_) ge
     have := fit_no (l := l) (i := i) (rows := rows) (j := k) (by omega)
     rw [hm] at this; cases this
    refine ends_eq (i_eq ?_)
    unfold fitI
    rw [this, if_pos hlt]
  | false =>
    rw [hm] at q
    repeat' first | (with_reducible first | refine k_seq ?_ | refine k_skip ?_ | refine k_blkS ?_ | refine k_blkR ?_ | refine k_blkC ?_ | refine k_blkH ?_ | refine k_blkB ?_ | refine k_blkK ?_ | refine k_blkE ?_ | refine k_reg ?_) | with_reducible refine r_done ?_ | with_reducible refine s_go (by simp (disch := omega) only [hlt', g, RG86, EV0, EV1, EV2, EV3, EV4, EV5, EV6, EV7, EV8, VALS, plug, ite_same, decide_true, decide_false, eq_self, simprocAttr]; with_reducible rfl) ?_ | ((with_reducible refine chk_r ?_); refine r_callF (by simp only [CA, simprocAttr]; rfl) (by exact rfl) (by simp only [CA, simprocAttr]; rfl) rfl ?_) | ((with_reducible refine chk_r ?_); refine r_callP (by simp only [CA, simprocAttr]; rfl) (by simp only [CA, simprocAttr]; rfl) (by first | exact q _) rfl ?_) | (with_reducible refine k_condP (by simp only [GA, simprocAttr]; rfl) (by first | (simp only [BO]; rfl) | rfl) (fun ht => ?_) (fun ht => ?_) <;> try (first | exact False.elim ht | exact absurd rfl ht | exact absurd trivial ht | exact Bool.noConfusion ht)) | (with_reducible refine k_ret ?_; repeat with_reducible (first | refine ret_thru ?_ | refine ret_blk ?_ | refine fin ?_)) | (with_reducible refine k_exit ?_; repeat with_reducible (first | refine thru ?_ | refine out_blk ?_ | refine pass (by decide) ?_)) | ((first | refine post1 ?_ | refine post2 ?_ | refine post3 ?_); simp only [GA, simprocAttr]) | refine post0 ?_
    refine ⟨hlt, (), (by simp only [Am.keep, List.map_cons, List.map_nil, GA, simprocAttr]; try rfl), fun j hj => ?_⟩
    by_cases e : j = k
    ·subst e; exact hm
    ·exact hf j (by omega)
 ·obtain rfl : k = rows.length := by omega
  have hlt' : ¬ (rows.length : Int) < rows.length := by omega
  have ge := fit_ge (l := l) (i := i) (rows := rows) (k := rows.length) hf hk
  repeat' first | (with_reducible first | refine k_seq ?_ | refine k_skip ?_ | refine k_blkS ?_ | refine k_blkR ?_ | refine k_blkC ?_ | refine k_blkH ?_ | refine k_blkB ?_ | refine k_blkK ?_ | refine k_blkE ?_ | refine k_reg ?_) | with_reducible refine r_done ?_ | with_reducible refine s_go (by simp (disch := omega) only [hlt', RG86, EV0, EV1, EV2, EV3, EV4, EV5, EV6, EV7, EV8, VALS, plug, ite_same, decide_true, decide_false, eq_self, simprocAttr]; with_reducible rfl) ?_ | ((with_reducible refine chk_r ?_); refine r_callF (by simp only [CA, simprocAttr]; rfl) (by exact rfl) (by simp only [CA, simprocAttr]; rfl) rfl ?_) | (with_reducible refine k_condP (by simp only [GA, simprocAttr]; rfl) (by first | (simp only [BO]; rfl) | rfl) (fun ht => ?_) (fun ht => ?_) <;> try (first | exact False.elim ht | exact absurd rfl ht | exact absurd trivial ht | exact Bool.noConfusion ht)) | (with_reducible refine k_ret ?_; repeat with_reducible (first | refine ret_thru ?_ | refine ret_blk ?_ | refine fin ?_)) | (with_reducible refine k_exit ?_; repeat with_reducible (first | refine thru ?_ | refine out_blk ?_ | refine pass (by decide) ?_)) | ((first | refine post1 ?_ | refine post2 ?_ | refine post3 ?_); simp only [GA, simprocAttr]) | refine post0 ?_
  refine ends_eq (i_eq ?_)
  unfold fitI
  rw [if_neg (by omega)]
end Go.Proofs.Ytjncfpfgobojpaa
set_option linter.unusedVariables false
set_option linter.unusedSimpArgs false
namespace Go.Proofs.Ytjncfpfgobojpaa
open Go Go.Am Go.Proofs Go.Sort
theorem od_inj {l : List B} {m k : Nat} (hm : m < l.length) (hk : k < l.length) (e : od l m = od l k) : m = k := by
 have h1 : m < (orderL l).length := by rw [order_len]; exact hm
 have h2 : k < (orderL l).length := by rw [order_len]; exact hk
 have : (orderL l)[m] = (orderL l)[k] := by simpa [od, h1, h2] using e
 exact (List.getElem_inj (order_nodup l)).1 this
theorem int_set {us : List Int} {i j : Nat} {v : Int} (hi : i < us.length) : (us.set i v).getD j 0 = if j = i then v else us.getD j 0 := by
 by_cases e : j = i
 ·subst e; simp [List.getD_eq_getElem?_getD, hi]
 ·have : ¬ i = j := fun q => e q.symm
  simp [List.getD_eq_getElem?_getD, List.getElem?_set, this, e]
theorem us_step {l : List B} {us : List Int} {k : Nat} {v : Int} (hu : us.length = l.length) (hk : k < l.length) (H : ∀ m, m < k → us.getD (od l m) 0 = undK l m) (hv : v = undK l k) : ∀ m, m < k + 1 → (us.set (od l k) v).getD (od l m) 0 = undK l m := fun m hm => by
 have hx : od l k < us.length := by rw [hu]; exact order_get hk
 rw [int_set hx]
 by_cases e : m = k
 ·subst e; rw [if_pos rfl]; exact hv
 ·rw [if_neg fun q => e (od_inj (by omega) hk q)]; exact H m (by omega)
def undL (l : List B) : List Int := (List.range l.length).map fun x => undK l ((orderL l).idxOf x)
theorem undL_eq {l : List B} {us : List Int} (hu : us.length = l.length) (H : ∀ m, m < l.length → us.getD (od l m) 0 = undK l m) : us = undL l := by
 apply List.ext_getElem
 ·rw [hu]; simp [undL]
 ·intro x h1 h2
  have hx : x < l.length := by rw [← hu]; exact h1
  have hin := order_mem.2 hx
  have hix : (orderL l).idxOf x < l.length := by rw [← order_len l]; exact List.idxOf_lt_length_iff.2 hin
  have := H _ hix
  have e : od l ((orderL l).idxOf x) = x := by
   have h3 : (orderL l).idxOf x < (orderL l).length := by rw [order_len]; exact hix
   simp only [od, List.getD_eq_getElem?_getD, List.getElem?_eq_getElem h3, Option.getD_some]
   exact List.getElem_idxOf h3
  rw [e] at this
  simp only [undL, List.getElem_map, List.getElem_range]
  rw [← this]; simp [h1]
theorem row_len {l : List B} : ∀ {k : Nat}, k ≤ l.length → ∀ j, ((rowsK l k).getD j []).length ≤ k
 | 0, _, j => by simp [rowsK]
 | k + 1, h, j => by
   have ih := row_len (l := l) (k := k) (by omega) j
   rw [rowsK_get (by omega)]
   split
   ·split
    ·rw [List.length_append]; simp only [List.length_cons, List.length_nil]; omega
    ·simp
   ·omega
theorem set_last {cs : List AV} {y z : AV} {n : Nat} (h : cs.length = n) : (cs ++ [z]).set n y = cs ++ [y] := by subst h; simp
theorem get_last {cs : List AV} {z : AV} {n : Nat} (h : cs.length = n) : (cs ++ [z])[n]? = some z := by subst h; simp
theorem get_low {cs : List AV} {z v : AV} {n : Nat} (h : cs[n]? = some v) : (cs ++ [z])[n]? = some v := by
 have : n < cs.length := (List.getElem?_eq_some_iff.1 h).1
 rw [List.getElem?_append_left this]; exact h
theorem RG52 : (type_of% @c52r0.eq_1) ∧ (type_of% @c52r1.eq_1) ∧ (type_of% @c52r2.eq_1) ∧ (type_of% @c52r3.eq_1) ∧ (type_of% @c52r4.eq_1) ∧ (type_of% @c52r5.eq_1) ∧ (type_of% @c52r6.eq_1) ∧ (type_of% @c52r7.eq_1) ∧ (type_of% @c52r8.eq_1) ∧ (type_of% @c52r9.eq_1) ∧ (type_of% @c52r10.eq_1) ∧ (type_of% @c52r11.eq_1) ∧ (type_of% @c52r12.eq_1) ∧ (type_of% @c52r13.eq_1) ∧ (type_of% @c52r14.eq_1) ∧ (type_of% @c52r16.eq_1) := ⟨@c52r0.eq_1, @c52r1.eq_1, @c52r2.eq_1, @c52r3.eq_1, @c52r4.eq_1, @c52r5.eq_1, @c52r6.eq_1, @c52r7.eq_1, @c52r8.eq_1, @c52r9.eq_1, @c52r10.eq_1, @c52r11.eq_1, @c52r12.eq_1, @c52r13.eq_1, @c52r14.eq_1, @c52r16.eq_1⟩
set_option maxHeartbeats 2000000 in
theorem pc52 (l : List B) (hv : VL l) : PC Try.prog 52 [vB l] (.tu [vRows (rowsL l), .vs l.length (il (undL l))]) := by
 refine pc_fn fn52 (by simp only [AV.plains, AV.plain, il_plain, bl_plain, Bool.and_true, Bool.true_and, Bool.and_self, flB_plain, rows_plain]) (by simp only [AV.plains, AV.plain, il_plain, bl_plain, Bool.and_true, Bool.true_and, Bool.and_self, flB_plain, rows_plain]) (Nat.le_of_ble_eq_true rfl) ?_
 rw [initSt1]
 have hl := hv.len
 have q85 := pc85 l hv
 refine k_seq (k_reg ?_)
 refine s_go (by simp (disch := omega) only [RG52, EV0, EV1, EV2, EV3, EV4, EV5, EV6, EV7, EV8, VALS, plug, ite_same, decide_true, decide_false, eq_self, simprocAttr]; with_reducible rfl) ?_
 refine r_done ?_
 refine w_frz (t := 1) (cs := [vB l]) (st' := (1, .pv [vB l] 0) :: [(3, .sl 0 0 0 0), (2, .sl 0 0 0 0), (1, .p 1 0), (0, vB l)]) (by simp (disch := omega) only [RG52, EV0, EV1, EV2, EV3, EV4, EV5, EV6, EV7, EV8, VALS, plug, ite_same, decide_true, decide_false, eq_self, simprocAttr] <;> rfl) (fun x => by
  simp only [St.get]
  by_cases e : x = 1
  ·subst e; simp only [if_true]; exact .p
  ·simp only [if_neg e]; exact .same) ?_
 repeat' first | (with_reducible first | refine k_seq ?_ | refine k_skip ?_ | refine k_blkS ?_ | refine k_blkR ?_ | refine k_blkC ?_ | refine k_blkH ?_ | refine k_blkB ?_ | refine k_blkK ?_ | refine k_blkE ?_ | refine k_reg ?_) | with_reducible refine k_head (by with_unfolding_all rfl) ?_ | with_reducible refine k_headS ?_ | (with_reducible refine SepK.mk ?_ ?_; (refine sepQ_P ?_; simp [sepQ, sepG, AOp.late, AOp.free, AOp.xs, AOp.isAl, tokNe, AV.tok, stS_get, strip, AX.val, RG52, GA]; try omega)) | with_reducible refine r_done ?_ | with_reducible refine hr_done ?_ | with_reducible refine s_go (by simp (disch := omega) only [RG52, EV0, EV1, EV2, EV3, EV4, EV5, EV6, EV7, EV8, VALS, plug, ite_same, decide_true, decide_false, eq_self, simprocAttr]; with_reducible rfl) ?_ | with_reducible refine h_go (by with_unfolding_all rfl) (by simp (disch := omega) only [RG52, EV0, EV1, EV2, EV3, EV4, EV5, EV6, EV7, EV8, VALS, plug, ite_same, decide_true, decide_false, eq_self, simprocAttr]; with_reducible rfl) ?_ | ((with_reducible refine chk_r ?_); refine r_callF (by simp only [CA, simprocAttr]; rfl) (by exact rfl) (by simp only [CA, simprocAttr]; rfl) rfl ?_) | ((with_reducible refine chk_h ?_); refine hr_callF (by simp only [CA, simprocAttr]; rfl) (by exact rfl) (by simp only [CA, simprocAttr]; rfl) rfl ?_) | ((with_reducible refine chk_r ?_); refine r_callP (by simp only [CA, simprocAttr]; rfl) (by simp only [CA, simprocAttr]; rfl) (by first | exact q85 _) rfl ?_) | ((with_reducible refine chk_h ?_); refine hr_callP (by simp only [CA, simprocAttr]; rfl) (by simp only [CA, simprocAttr]; rfl) (by first | exact q85 _) rfl ?_) | ((with_reducible refine chk_h ?_); refine hr_callP1 (by simp only [CA, simprocAttr]; rfl) (by simp only [CA, simprocAttr]; rfl) (by simp (disch := omega) only [CA, Nat.reduceEqDiff, ↓reduceIte, firstTok_nil, firstTok_sl, firstTok_sl0, firstTok_i, firstTok_b, firstTok_ag, firstTok_p, firstTok_s]; rfl) (by first | exact q85 _) rfl ?_) | ((with_reducible refine chk_h ?_); refine hr_app (by simp (disch := omega) only [RG52, EV0, EV1, EV2, EV3, EV4, EV5, EV6, EV7, EV8, VALS, plug, ite_same, decide_true, decide_false, eq_self, simprocAttr]; with_reducible rfl) rfl ?_) | (with_reducible refine k_condP (by simp only [GA, simprocAttr]; rfl) (by first | (simp only [BO]; rfl) | rfl) (fun ht => ?_) (fun ht => ?_) <;> try (first | exact False.elim ht | exact absurd rfl ht | exact absurd trivial ht | exact Bool.noConfusion ht)) | (with_reducible refine k_ret ?_; repeat with_reducible (first | refine ret_thru ?_ | refine ret_blk ?_ | refine fin ?_)) | (with_reducible refine k_exit ?_; repeat with_reducible (first | refine thru ?_ | refine out_blk ?_ | refine pass (by decide) ?_)) | ((first | refine post1 ?_ | refine post2 ?_ | refine post3 ?_); simp only [GA, simprocAttr]) | refine post0 ?_
 refine w_virt 1 2 rfl ?_
 refine k_blk (k_loopS (X := Nat × List Nat × Nat × List Int) [1, 2, 3, 12, 13, 14] l.length (fun k x => [(1, .pv [vB l] 0), (2, .sl x.1 0 (rowsK l k).length 1), (3, .sl x.2.2.1 0 l.length 1), (12, .vs l.length (nl (orderL l))), (13, .i .i64 l.length), (14, .i .i64 (k : Int))])
  (fun k x h => Nest h 1 x.1 x.2.1 ((rowsK l k).map rw1) ∧ x.2.2.1 ≠ 0 ∧ x.2.2.1 ≠ x.1 ∧ x.2.2.1 ∉ x.2.1 ∧ h.m x.2.2.1 = some (.cells true (il x.2.2.2)) ∧ x.2.2.2.length = l.length ∧ ∀ m, m < k → x.2.2.2.getD (od l m) 0 = undK l m) (_, [], _, List.replicate l.length 0) (by simp only [Am.keep, List.map_cons, List.map_nil, GA, simprocAttr]; try rfl) ⟨.nil (by simp (disch := omega) only [RG52, EV0, EV1, EV2, EV3, EV4, EV5, EV6, EV7, EV8, VALS, plug, ite_same, decide_true, decide_false, eq_self, simprocAttr] <;> rfl) (by simp only [AH.bump_nx]; omega), ?_, ?_, by simp, by simp (disch := omega) only [il_rep, RG52, EV0, EV1, EV2, EV3, EV4, EV5, EV6, EV7, EV8, VALS, plug, ite_same, decide_true, decide_false, eq_self, simprocAttr] <;> rfl, by simp, fun m hm => by omega⟩ ?_)
 ·simp only [AH.bump_nx, AH.set_nx, AH.kill_nx, H1_nx]; omega
 ·simp only [AH.bump_nx, AH.set_nx, AH.kill_nx, H1_nx]; omega
 rintro k ⟨r, ts, u, us⟩ h hk ⟨N, u0, ur, un, hu, hul, hus⟩ ok pos
 simp only at N u0 ur un hu hul hus ⊢
 have hr := N.hr
 have r0 := N.r0
 have lr := ok.m hr
 have lu := ok.m hu
 have tlt := Nest.lt N ok
 have Nl : ((rowsK l k).map rw1).length = (rowsK l k).length := List.length_map _
 have ru : ¬ r = u := fun e => ur e.symm
 by_cases hlt : k < l.length
 ·have hlt' : (k : Int) < l.length := by omega
  have Rk := rk (l := l) (k := k) (by omega)
  have hx : od l k < l.length := order_get hlt
  have gx : (nl (orderL l))[k]? = some (.i .i64 ((od l k : Nat) : Int)) := nl_get (by rw [order_len]; exact hlt)
  have rl := rowsK_len l (k := k) (by omega)
  have rin : ∀ j, j < (rowsK l k).length → ((rowsK l k).getD j []).length ≤ 40 := fun j hj => by
   have := row_len (l := l) (k := k) (by omega) j
   omega
  have q86 := pc86 l (rowsK l k) (od l k) (fun r hr => ⟨Rk.ne r hr, by
   obtain ⟨j, hj, e⟩ := Rk.mem r hr _ (last_mem (Rk.ne r hr))
   rw [← e]; exact order_get (by omega), by
   obtain ⟨j, hj, e⟩ := List.getElem_of_mem hr
   have := rin j hj
   rw [getD_lt hj, e] at this; omega⟩) hx (by omega)
  have hat := rowsK_at hlt
  have hfl := rowAt_le l k
  have hfi : fitI l (rowsK l k) (od l k) = if rowAt l k < (rowsK l k).length then (rowAt l k : Int) else -1 := rfl
  have hund : undK l k = (if rowAt l k = 0 then (-1 : Int) else ((lastN ((rowsK l k).getD (rowAt l k - 1) []) : Nat) : Int)) := rfl
  have now : ∀ h2 : AH, (∀ t b, h.m t = some b → h2.m t = some b) → Now h2 (.sl r 0 (rowsK l k).length 1) (vRows (rowsK l k)) := fun h2 F => by
   have := (N.keep F).now rw_plain 1
   rwa [Nl, rv_map] at this
  rw [hfi] at q86
  generalize hfx : rowAt l k = f at *
  have usl : od l k < us.length := by omega
  by_cases hf : f < (rowsK l k).length
  ·rw [if_pos hf] at q86 hat
   have cf := N.cell (i := f) (by omega)
   rw [rD_map hf] at cf
   have hf' : (f : Int) < (rowsK l k).length := by omega
   have nf : ¬ (f : Int) < 0 := by omega
   have tf := N.row (i := f) (by omega)
   rw [rD_map hf] at tf
   have mf := N.mem (i := f) (by omega)
   have ltf := tlt _ mf
   have nef := N.ne (i := f) (by omega)
   have nefu : ¬ tD ts f = u := fun e => un (e ▸ mf)
   have rlf := rin f hf
   have csl := rC_len (k := 1) N.len
   rw [Nl] at csl
   simp only at cf tf
   generalize hcs : rC 1 ts ((rowsK l k).map rw1) = cs at hr cf csl
   have hlen1 : (rowsK l (k + 1)).length = (rowsK l k).length := by rw [hat, List.length_set]
   have e0 : rw1 ((rowsK l k).getD f [] ++ [od l k]) = (((rowsK l k).getD f []).length + 1, nl ((rowsK l k).getD f [] ++ [od l k])) := by simp [rw1]
   have hn1 : (((rowsK l k).getD f []).length + 1) * 1 = (nl ((rowsK l k).getD f [] ++ [od l k])).length := by simp [nl_len]
   cases f with
   | zero =>
     have h0 : ¬ (0 : Int) < ((0 : Nat) : Int) := by omega
     rw [if_pos rfl] at hund
     repeat' first | (with_reducible first | refine k_seq ?_ | refine k_skip ?_ | refine k_blkS ?_ | refine k_blkR ?_ | refine k_blkC ?_ | refine k_blkH ?_ | refine k_blkB ?_ | refine k_blkK ?_ | refine k_blkE ?_ | refine k_reg ?_) | with_reducible refine k_head (by with_unfolding_all rfl) ?_ | with_reducible refine k_headS ?_ | (with_reducible refine SepK.mk ?_ ?_; (refine sepQ_P ?_; simp [sepQ, sepG, AOp.late, AOp.free, AOp.xs, AOp.isAl, tokNe, AV.tok, stS_get, strip, AX.val, RG52, GA]; try omega)) | with_reducible refine r_done ?_ | with_reducible refine hr_done ?_ | with_reducible refine s_go (by simp (disch := omega) only [hlt', gx, hx, hr, row_m hr, read_row (row_m hr), hu, row_m hu, read_row (row_m hu), csl, hul, usl, nl_len, nl_snoc, tf, row_m tf, read_row (row_m tf), cf, nf, hf', h0, RG52, EV0, EV1, EV2, EV3, EV4, EV5, EV6, EV7, EV8, VALS, plug, ite_same, decide_true, decide_false, eq_self, simprocAttr]; with_reducible rfl) ?_ | with_reducible refine h_go (by with_unfolding_all rfl) (by simp (disch := omega) only [hlt', gx, hx, hr, row_m hr, read_row (row_m hr), hu, row_m hu, read_row (row_m hu), csl, hul, usl, nl_len, nl_snoc, tf, row_m tf, read_row (row_m tf), cf, nf, hf', h0, RG52, EV0, EV1, EV2, EV3, EV4, EV5, EV6, EV7, EV8, VALS, plug, ite_same, decide_true, decide_false, eq_self, simprocAttr]; with_reducible rfl) ?_ | ((with_reducible refine chk_r ?_); refine r_callF (by simp only [CA, simprocAttr]; rfl) (by exact rfl) (by simp only [CA, simprocAttr]; rfl) rfl ?_) | ((with_reducible refine chk_h ?_); refine hr_callF (by simp only [CA, simprocAttr]; rfl) (by exact rfl) (by simp only [CA, simprocAttr]; rfl) rfl ?_) | ((with_reducible refine chk_r ?_); refine r_callP (by simp only [CA, simprocAttr]; rfl) (by simp only [CA, simprocAttr]; rfl) (by first | ((refine PC.at q86 rfl ?_; refine .cons (now _ ?_) (.cons (.fn .nil (.cons (.same (by simp only [AV.plain, AV.plains, flB_plain, Bool.and_true])) (.cons (.p (by simp (disch := omega) only [RG52, EV0, EV1, EV2, EV3, EV4, EV5, EV6, EV7, EV8, VALS, plug, ite_same, decide_true, decide_false, eq_self, simprocAttr] <;> rfl) (Nows.same rfl)) .nil))) .nil); intro t b hb; have := ok.m hb; simp (disch := omega) only [hb, RG52, EV0, EV1, EV2, EV3, EV4, EV5, EV6, EV7, EV8, VALS, plug, ite_same, decide_true, decide_false, eq_self, simprocAttr]); all_goals fail)) rfl ?_) | ((with_reducible refine chk_h ?_); refine hr_callP (by simp only [CA, simprocAttr]; rfl) (by simp only [CA, simprocAttr]; rfl) (by first | ((refine PC.at q86 rfl ?_; refine .cons (now _ ?_) (.cons (.fn .nil (.cons (.same (by simp only [AV.plain, AV.plains, flB_plain, Bool.and_true])) (.cons (.p (by simp (disch := omega) only [RG52, EV0, EV1, EV2, EV3, EV4, EV5, EV6, EV7, EV8, VALS, plug, ite_same, decide_true, decide_false, eq_self, simprocAttr] <;> rfl) (Nows.same rfl)) .nil))) .nil); intro t b hb; have := ok.m hb; simp (disch := omega) only [hb, RG52, EV0, EV1, EV2, EV3, EV4, EV5, EV6, EV7, EV8, VALS, plug, ite_same, decide_true, decide_false, eq_self, simprocAttr]); all_goals fail)) rfl ?_) | ((with_reducible refine chk_h ?_); refine hr_callP1 (by simp only [CA, simprocAttr]; rfl) (by simp only [CA, simprocAttr]; rfl) (by simp (disch := omega) only [CA, Nat.reduceEqDiff, ↓reduceIte, firstTok_nil, firstTok_sl, firstTok_sl0, firstTok_i, firstTok_b, firstTok_ag, firstTok_p, firstTok_s]; rfl) (by first | ((refine PC.at q86 rfl ?_; refine .cons (now _ ?_) (.cons (.fn .nil (.cons (.same (by simp only [AV.plain, AV.plains, flB_plain, Bool.and_true])) (.cons (.p (by simp (disch := omega) only [RG52, EV0, EV1, EV2, EV3, EV4, EV5, EV6, EV7, EV8, VALS, plug, ite_same, decide_true, decide_false, eq_self, simprocAttr] <;> rfl) (Nows.same rfl)) .nil))) .nil); intro t b hb; have := ok.m hb; simp (disch := omega) only [hb, RG52, EV0, EV1, EV2, EV3, EV4, EV5, EV6, EV7, EV8, VALS, plug, ite_same, decide_true, decide_false, eq_self, simprocAttr]); all_goals fail)) rfl ?_) | ((with_reducible refine chk_h ?_); refine hr_app (by simp (disch := omega) only [hlt', gx, hx, hr, row_m hr, read_row (row_m hr), hu, row_m hu, read_row (row_m hu), csl, hul, usl, nl_len, nl_snoc, tf, row_m tf, read_row (row_m tf), cf, nf, hf', h0, RG52, EV0, EV1, EV2, EV3, EV4, EV5, EV6, EV7, EV8, VALS, plug, ite_same, decide_true, decide_false, eq_self, simprocAttr]; with_reducible rfl) rfl ?_) | (with_reducible refine k_condP (by simp only [GA, simprocAttr]; rfl) (by first | (simp only [BO]; rfl) | rfl) (fun ht => ?_) (fun ht => ?_) <;> try (first | exact False.elim ht | exact absurd rfl ht | exact absurd trivial ht | exact Bool.noConfusion ht)) | (with_reducible refine k_ret ?_; repeat with_reducible (first | refine ret_thru ?_ | refine ret_blk ?_ | refine fin ?_)) | (with_reducible refine k_exit ?_; repeat with_reducible (first | refine thru ?_ | refine out_blk ?_ | refine pass (by decide) ?_)) | ((first | refine post1 ?_ | refine post2 ?_ | refine post3 ?_); simp only [GA, simprocAttr]) | refine post0 ?_
     refine ⟨hlt, ⟨r, ts.set 0 (h.nx + 1 + 4 + 4 + 2 + 4 + 2 + 8), u, (us.set (od l k) (-1))⟩, ?g1, ?g2, u0, ur, ?g3, ?g4, ?g5, ?g6⟩
     case g1 =>
      simp only [Am.keep, List.map_cons, List.map_nil, GA, Nat.reduceEqDiff, ↓reduceIte, hlen1]
      rfl
     case g2 =>
      rw [hat, List.map_set, e0]
      refine N.put (by omega) hn1 (by omega) (by omega) (fun hm => by have := tlt _ hm; omega) (by rw [hcs]; simp (disch := omega) only [RG52, EV0, EV1, EV2, EV3, EV4, EV5, EV6, EV7, EV8, VALS, plug, ite_same, decide_true, decide_false, eq_self, simprocAttr] <;> rfl) (by simp (disch := omega) only [RG52, EV0, EV1, EV2, EV3, EV4, EV5, EV6, EV7, EV8, VALS, plug, ite_same, decide_true, decide_false, eq_self, simprocAttr] <;> rfl) fun s b hs hne hb => ?_
      have l1 := tlt s hs
      have n1 := (N.nr s hs).2
      have n2 : ¬ s = u := fun e => un (e ▸ hs)
      simp (disch := omega) only [hb, RG52, EV0, EV1, EV2, EV3, EV4, EV5, EV6, EV7, EV8, VALS, plug, ite_same, decide_true, decide_false, eq_self, simprocAttr]
     case g3 =>
      intro hm
      rcases List.mem_or_eq_of_mem_set hm with q | q
      ·exact un q
      ·simp only [] at q; omega
     case g4 => simp (disch := omega) only [hu, List.set_set, RG52, EV0, EV1, EV2, EV3, EV4, EV5, EV6, EV7, EV8, VALS, plug, ite_same, decide_true, decide_false, eq_self, simprocAttr] <;> rfl
     case g5 => simp only [List.length_set]; exact hul
     case g6 => exact us_step hul hlt hus (by rw [hund]; try rfl)
   | succ f =>
     have h0 : (0 : Int) < ((f + 1 : Nat) : Int) := by omega
     rw [if_neg (by omega), Nat.add_sub_cancel] at hund
     have e1 : ((f + 1 : Nat) : Int) - 1 = (f : Int) := by omega
     have hg : f < (rowsK l k).length := by omega
     have hg' : (f : Int) < (rowsK l k).length := by omega
     have cg := N.cell (i := f) (by omega)
     rw [rD_map hg, hcs] at cg
     have tg := N.row (i := f) (by omega)
     rw [rD_map hg] at tg
     have mg := N.mem (i := f) (by omega)
     have ltg := tlt _ mg
     have neg := N.ne (i := f) (by omega)
     have negu : ¬ tD ts f = u := fun e => un (e ▸ mg)
     have rlg := rin f hg
     have hne := Rk.ne _ (mem_row hg)
     have hp : 0 < ((rowsK l k).getD f []).length := List.length_pos_iff.2 hne
     have e2 : (((rowsK l k).getD f []).length : Int) - 1 = ((((rowsK l k).getD f []).length - 1 : Nat) : Int) := by omega
     have e3 : ((rowsK l k).getD f []).length - 1 < ((rowsK l k).getD f []).length := by omega
     have g := last_get hne
     simp only at cg tg
     repeat' first | (with_reducible first | refine k_seq ?_ | refine k_skip ?_ | refine k_blkS ?_ | refine k_blkR ?_ | refine k_blkC ?_ | refine k_blkH ?_ | refine k_blkB ?_ | refine k_blkK ?_ | refine k_blkE ?_ | refine k_reg ?_) | with_reducible refine k_head (by with_unfolding_all rfl) ?_ | with_reducible refine k_headS ?_ | (with_reducible refine SepK.mk ?_ ?_; (refine sepQ_P ?_; simp [sepQ, sepG, AOp.late, AOp.free, AOp.xs, AOp.isAl, tokNe, AV.tok, stS_get, strip, AX.val, RG52, GA]; try omega)) | with_reducible refine r_done ?_ | with_reducible refine hr_done ?_ | with_reducible refine s_go (by simp (disch := omega) only [hlt', gx, hx, hr, row_m hr, read_row (row_m hr), hu, row_m hu, read_row (row_m hu), csl, hul, usl, nl_len, nl_snoc, tf, row_m tf, read_row (row_m tf), cf, nf, hf', h0, e1, hg', tg, row_m tg, read_row (row_m tg), cg, e2, e3, g, List.set_set, List.length_set, RG52, EV0, EV1, EV2, EV3, EV4, EV5, EV6, EV7, EV8, VALS, plug, ite_same, decide_true, decide_false, eq_self, simprocAttr]; with_reducible rfl) ?_ | with_reducible refine h_go (by with_unfolding_all rfl) (by simp (disch := omega) only [hlt', gx, hx, hr, row_m hr, read_row (row_m hr), hu, row_m hu, read_row (row_m hu), csl, hul, usl, nl_len, nl_snoc, tf, row_m tf, read_row (row_m tf), cf, nf, hf', h0, e1, hg', tg, row_m tg, read_row (row_m tg), cg, e2, e3, g, List.set_set, List.length_set, RG52, EV0, EV1, EV2, EV3, EV4, EV5, EV6, EV7, EV8, VALS, plug, ite_same, decide_true, decide_false, eq_self, simprocAttr]; with_reducible rfl) ?_ | ((with_reducible refine chk_r ?_); refine r_callF (by simp only [CA, simprocAttr]; rfl) (by exact rfl) (by simp only [CA, simprocAttr]; rfl) rfl ?_) | ((with_reducible refine chk_h ?_); refine hr_callF (by simp only [CA, simprocAttr]; rfl) (by exact rfl) (by simp only [CA, simprocAttr]; rfl) rfl ?_) | ((with_reducible refine chk_r ?_); refine r_callP (by simp only [CA, simprocAttr]; rfl) (by simp only [CA, simprocAttr]; rfl) (by first | ((refine PC.at q86 rfl ?_; refine .cons (now _ ?_) (.cons (.fn .nil (.cons (.same (by simp only [AV.plain, AV.plains, flB_plain, Bool.and_true])) (.cons (.p (by simp (disch := omega) only [RG52, EV0, EV1, EV2, EV3, EV4, EV5, EV6, EV7, EV8, VALS, plug, ite_same, decide_true, decide_false, eq_self, simprocAttr] <;> rfl) (Nows.same rfl)) .nil))) .nil); intro t b hb; have := ok.m hb; simp (disch := omega) only [hb, RG52, EV0, EV1, EV2, EV3, EV4, EV5, EV6, EV7, EV8, VALS, plug, ite_same, decide_true, decide_false, eq_self, simprocAttr]); all_goals fail)) rfl ?_) | ((with_reducible refine chk_h ?_); refine hr_callP (by simp only [CA, simprocAttr]; rfl) (by simp only [CA, simprocAttr]; rfl) (by first | ((refine PC.at q86 rfl ?_; refine .cons (now _ ?_) (.cons (.fn .nil (.cons (.same (by simp only [AV.plain, AV.plains, flB_plain, Bool.and_true])) (.cons (.p (by simp (disch := omega) only [RG52, EV0, EV1, EV2, EV3, EV4, EV5, EV6, EV7, EV8, VALS, plug, ite_same, decide_true, decide_false, eq_self, simprocAttr] <;> rfl) (Nows.same rfl)) .nil))) .nil); intro t b hb; have := ok.m hb; simp (disch := omega) only [hb, RG52, EV0, EV1, EV2, EV3, EV4, EV5, EV6, EV7, EV8, VALS, plug, ite_same, decide_true, decide_false, eq_self, simprocAttr]); all_goals fail)) rfl ?_) | ((with_reducible refine chk_h ?_); refine hr_callP1 (by simp only [CA, simprocAttr]; rfl) (by simp only [CA, simprocAttr]; rfl) (by simp (disch := omega) only [CA, Nat.reduceEqDiff, ↓reduceIte, firstTok_nil, firstTok_sl, firstTok_sl0, firstTok_i, firstTok_b, firstTok_ag, firstTok_p, firstTok_s]; rfl) (by first | ((refine PC.at q86 rfl ?_; refine .cons (now _ ?_) (.cons (.fn .nil (.cons (.same (by simp only [AV.plain, AV.plains, flB_plain, Bool.and_true])) (.cons (.p (by simp (disch := omega) only [RG52, EV0, EV1, EV2, EV3, EV4, EV5, EV6, EV7, EV8, VALS, plug, ite_same, decide_true, decide_false, eq_self, simprocAttr] <;> rfl) (Nows.same rfl)) .nil))) .nil); intro t b hb; have := ok.m hb; simp (disch := omega) only [hb, RG52, EV0, EV1, EV2, EV3, EV4, EV5, EV6, EV7, EV8, VALS, plug, ite_same, decide_true, decide_false, eq_self, simprocAttr]); all_goals fail)) rfl ?_) | ((with_reducible refine chk_h ?_); refine hr_app (by simp (disch := omega) only [hlt', gx, hx, hr, row_m hr, read_row (row_m hr), hu, row_m hu, read_row (row_m hu), csl, hul, usl, nl_len, nl_snoc, tf, row_m tf, read_row (row_m tf), cf, nf, hf', h0, e1, hg', tg, row_m tg, read_row (row_m tg), cg, e2, e3, g, List.set_set, List.length_set, RG52, EV0, EV1, EV2, EV3, EV4, EV5, EV6, EV7, EV8, VALS, plug, ite_same, decide_true, decide_false, eq_self, simprocAttr]; with_reducible rfl) rfl ?_) | (with_reducible refine k_condP (by simp only [GA, simprocAttr]; rfl) (by first | (simp only [BO]; rfl) | rfl) (fun ht => ?_) (fun ht => ?_) <;> try (first | exact False.elim ht | exact absurd rfl ht | exact absurd trivial ht | exact Bool.noConfusion ht)) | (with_reducible refine k_ret ?_; repeat with_reducible (first | refine ret_thru ?_ | refine ret_blk ?_ | refine fin ?_)) | (with_reducible refine k_exit ?_; repeat with_reducible (first | refine thru ?_ | refine out_blk ?_ | refine pass (by decide) ?_)) | ((first | refine post1 ?_ | refine post2 ?_ | refine post3 ?_); simp only [GA, simprocAttr]) | refine post0 ?_
     refine ⟨hlt, ⟨r, ts.set (f + 1) (h.nx + 1 + 4 + 4 + 2 + 4 + 2 + 6 + 10 + 8), u, (us.set (od l k) ((lastN ((rowsK l k).getD f []) : Nat) : Int))⟩, ?g1, ?g2, u0, ur, ?g3, ?g4, ?g5, ?g6⟩
     case g1 =>
      simp only [Am.keep, List.map_cons, List.map_nil, GA, Nat.reduceEqDiff, ↓reduceIte, hlen1]
      rfl
     case g2 =>
      rw [hat, List.map_set, e0]
      refine N.put (by omega) hn1 (by omega) (by omega) (fun hm => by have := tlt _ hm; omega) (by rw [hcs]; simp (disch := omega) only [RG52, EV0, EV1, EV2, EV3, EV4, EV5, EV6, EV7, EV8, VALS, plug, ite_same, decide_true, decide_false, eq_self, simprocAttr] <;> rfl) (by simp (disch := omega) only [RG52, EV0, EV1, EV2, EV3, EV4, EV5, EV6, EV7, EV8, VALS, plug, ite_same, decide_true, decide_false, eq_self, simprocAttr] <;> rfl) fun s b hs hne hb => ?_
      have l1 := tlt s hs
      have n1 := (N.nr s hs).2
      have n2 : ¬ s = u := fun e => un (e ▸ hs)
      simp (disch := omega) only [hb, RG52, EV0, EV1, EV2, EV3, EV4, EV5, EV6, EV7, EV8, VALS, plug, ite_same, decide_true, decide_false, eq_self, simprocAttr]
     case g3 =>
      intro hm
      rcases List.mem_or_eq_of_mem_set hm with q | q
      ·exact un q
      ·simp only [] at q; omega
     case g4 => simp (disch := omega) only [hu, List.set_set, RG52, EV0, EV1, EV2, EV3, EV4, EV5, EV6, EV7, EV8, VALS, plug, ite_same, decide_true, decide_false, eq_self, simprocAttr] <;> rfl
     case g5 => simp only [List.length_set]; exact hul
     case g6 => exact us_step hul hlt hus (by rw [hund]; try rfl)
  ·rw [if_neg hf] at q86 hat
   have hfe : f = (rowsK l k).length := by omega
   have csl := rC_len (k := 1) N.len
   rw [Nl] at csl
   have hlen1 : (rowsK l (k + 1)).length = (rowsK l k).length + 1 := by rw [hat]; simp
   have e0 : [[od l k]].map rw1 = [(1, nl [od l k])] := rfl
   have c0 : ∀ cs : List AV, cs.length = (rowsK l k).length → (cs ++ [AV.sl 0 0 0 0])[(rowsK l k).length]? = some (.sl 0 0 0 0) := fun cs h => get_last h
   have lt1 : ((rowsK l k).length : Int) < (((rowsK l k).length + 1 : Nat) : Int) := by omega
   have sx : ∀ x : Nat, ([AV.i .i64 (x : Int)] : List AV) = nl [x] := fun x => rfl
   cases f with
   | zero =>
     have z : (rowsK l k).length = 0 := by omega
     have h0 : ¬ (0 : Int) < ((rowsK l k).length : Int) := by omega
     rw [if_pos rfl] at hund
     generalize hcs : rC 1 ts ((rowsK l k).map rw1) = cs at hr csl
     have c0 := c0 cs csl
     have c2 : (cs ++ [AV.sl 0 0 0 0]).length = (rowsK l k).length + 1 := by rw [List.length_append, csl]; rfl
     repeat' first | (with_reducible first | refine k_seq ?_ | refine k_skip ?_ | refine k_blkS ?_ | refine k_blkR ?_ | refine k_blkC ?_ | refine k_blkH ?_ | refine k_blkB ?_ | refine k_blkK ?_ | refine k_blkE ?_ | refine k_reg ?_) | with_reducible refine k_head (by with_unfolding_all rfl) ?_ | with_reducible refine k_headS ?_ | (with_reducible refine SepK.mk ?_ ?_; (refine sepQ_P ?_; simp [sepQ, sepG, AOp.late, AOp.free, AOp.xs, AOp.isAl, tokNe, AV.tok, stS_get, strip, AX.val, RG52, GA]; try omega)) | with_reducible refine r_done ?_ | with_reducible refine hr_done ?_ | with_reducible refine s_go (by simp (disch := omega) only [hlt', gx, hx, hr, row_m hr, read_row (row_m hr), hu, row_m hu, read_row (row_m hu), csl, hul, usl, nl_len, nl_snoc, h0, c0, c2, lt1, RG52, EV0, EV1, EV2, EV3, EV4, EV5, EV6, EV7, EV8, VALS, plug, ite_same, decide_true, decide_false, eq_self, simprocAttr]; with_reducible rfl) ?_ | with_reducible refine h_go (by with_unfolding_all rfl) (by simp (disch := omega) only [hlt', gx, hx, hr, row_m hr, read_row (row_m hr), hu, row_m hu, read_row (row_m hu), csl, hul, usl, nl_len, nl_snoc, h0, c0, c2, lt1, RG52, EV0, EV1, EV2, EV3, EV4, EV5, EV6, EV7, EV8, VALS, plug, ite_same, decide_true, decide_false, eq_self, simprocAttr]; with_reducible rfl) ?_ | ((with_reducible refine chk_r ?_); refine r_callF (by simp only [CA, simprocAttr]; rfl) (by exact rfl) (by simp only [CA, simprocAttr]; rfl) rfl ?_) | ((with_reducible refine chk_h ?_); refine hr_callF (by simp only [CA, simprocAttr]; rfl) (by exact rfl) (by simp only [CA, simprocAttr]; rfl) rfl ?_) | ((with_reducible refine chk_r ?_); refine r_callP (by simp only [CA, simprocAttr]; rfl) (by simp only [CA, simprocAttr]; rfl) (by first | ((refine PC.at q86 rfl ?_; refine .cons (now _ ?_) (.cons (.fn .nil (.cons (.same (by simp only [AV.plain, AV.plains, flB_plain, Bool.and_true])) (.cons (.p (by simp (disch := omega) only [RG52, EV0, EV1, EV2, EV3, EV4, EV5, EV6, EV7, EV8, VALS, plug, ite_same, decide_true, decide_false, eq_self, simprocAttr] <;> rfl) (Nows.same rfl)) .nil))) .nil); intro t b hb; have := ok.m hb; simp (disch := omega) only [hb, RG52, EV0, EV1, EV2, EV3, EV4, EV5, EV6, EV7, EV8, VALS, plug, ite_same, decide_true, decide_false, eq_self, simprocAttr]); all_goals fail)) rfl ?_) | ((with_reducible refine chk_h ?_); refine hr_callP (by simp only [CA, simprocAttr]; rfl) (by simp only [CA, simprocAttr]; rfl) (by first | ((refine PC.at q86 rfl ?_; refine .cons (now _ ?_) (.cons (.fn .nil (.cons (.same (by simp only [AV.plain, AV.plains, flB_plain, Bool.and_true])) (.cons (.p (by simp (disch := omega) only [RG52, EV0, EV1, EV2, EV3, EV4, EV5, EV6, EV7, EV8, VALS, plug, ite_same, decide_true, decide_false, eq_self, simprocAttr] <;> rfl) (Nows.same rfl)) .nil))) .nil); intro t b hb; have := ok.m hb; simp (disch := omega) only [hb, RG52, EV0, EV1, EV2, EV3, EV4, EV5, EV6, EV7, EV8, VALS, plug, ite_same, decide_true, decide_false, eq_self, simprocAttr]); all_goals fail)) rfl ?_) | ((with_reducible refine chk_h ?_); refine hr_callP1 (by simp only [CA, simprocAttr]; rfl) (by simp only [CA, simprocAttr]; rfl) (by simp (disch := omega) only [CA, Nat.reduceEqDiff, ↓reduceIte, firstTok_nil, firstTok_sl, firstTok_sl0, firstTok_i, firstTok_b, firstTok_ag, firstTok_p, firstTok_s]; rfl) (by first | ((refine PC.at q86 rfl ?_; refine .cons (now _ ?_) (.cons (.fn .nil (.cons (.same (by simp only [AV.plain, AV.plains, flB_plain, Bool.and_true])) (.cons (.p (by simp (disch := omega) only [RG52, EV0, EV1, EV2, EV3, EV4, EV5, EV6, EV7, EV8, VALS, plug, ite_same, decide_true, decide_false, eq_self, simprocAttr] <;> rfl) (Nows.same rfl)) .nil))) .nil); intro t b hb; have := ok.m hb; simp (disch := omega) only [hb, RG52, EV0, EV1, EV2, EV3, EV4, EV5, EV6, EV7, EV8, VALS, plug, ite_same, decide_true, decide_false, eq_self, simprocAttr]); all_goals fail)) rfl ?_) | ((with_reducible refine chk_h ?_); refine hr_app (by simp (disch := omega) only [hlt', gx, hx, hr, row_m hr, read_row (row_m hr), hu, row_m hu, read_row (row_m hu), csl, hul, usl, nl_len, nl_snoc, h0, c0, c2, lt1, RG52, EV0, EV1, EV2, EV3, EV4, EV5, EV6, EV7, EV8, VALS, plug, ite_same, decide_true, decide_false, eq_self, simprocAttr]; with_reducible rfl) rfl ?_) | (with_reducible refine k_condP (by simp only [GA, simprocAttr]; rfl) (by first | (simp only [BO]; rfl) | rfl) (fun ht => ?_) (fun ht => ?_) <;> try (first | exact False.elim ht | exact absurd rfl ht | exact absurd trivial ht | exact Bool.noConfusion ht)) | (with_reducible refine k_ret ?_; repeat with_reducible (first | refine ret_thru ?_ | refine ret_blk ?_ | refine fin ?_)) | (with_reducible refine k_exit ?_; repeat with_reducible (first | refine thru ?_ | refine out_blk ?_ | refine pass (by decide) ?_)) | ((first | refine post1 ?_ | refine post2 ?_ | refine post3 ?_); simp only [GA, simprocAttr]) | refine post0 ?_
     refine ⟨hlt, ⟨(h.nx + 1 + 4 + 4 + 2 + 3 + 2), ts ++ [(h.nx + 1 + 4 + 4 + 2 + 3 + 4 + 4 + 2 + 8)], u, (us.set (od l k) (-1))⟩, ?g1, ?g2, u0, ?g7, ?g3, ?g4, ?g5, ?g6⟩
     case g1 =>
      simp only [Am.keep, List.map_cons, List.map_nil, GA, Nat.reduceEqDiff, ↓reduceIte, hlen1]
      rfl
     case g2 =>
      rw [hat, List.map_append, e0]
      refine N.snoc (n := 1) (cs := nl [od l k]) rfl (by omega) (by omega) (by omega) (fun hm => by have := tlt _ hm; omega) (fun hm => by have := tlt _ hm; omega) (by rw [hcs]; simp (disch := omega) only [set_last csl, RG52, EV0, EV1, EV2, EV3, EV4, EV5, EV6, EV7, EV8, VALS, plug, ite_same, decide_true, decide_false, eq_self, simprocAttr] <;> rfl) (by simp (disch := omega) only [RG52, EV0, EV1, EV2, EV3, EV4, EV5, EV6, EV7, EV8, VALS, plug, ite_same, decide_true, decide_false, eq_self, simprocAttr] <;> rfl) fun s b hs hb => ?_
      have l1 := tlt s hs
      have n1 := (N.nr s hs).2
      have n2 : ¬ s = u := fun e => un (e ▸ hs)
      simp (disch := omega) only [hb, RG52, EV0, EV1, EV2, EV3, EV4, EV5, EV6, EV7, EV8, VALS, plug, ite_same, decide_true, decide_false, eq_self, simprocAttr]
     case g7 => simp only []; omega
     case g3 =>
      intro hm
      rcases List.mem_append.1 hm with q | q
      ·exact un q
      ·rw [List.mem_singleton] at q; simp only [] at q; omega
     case g4 => simp (disch := omega) only [hu, List.set_set, RG52, EV0, EV1, EV2, EV3, EV4, EV5, EV6, EV7, EV8, VALS, plug, ite_same, decide_true, decide_false, eq_self, simprocAttr] <;> rfl
     case g5 => simp only [List.length_set]; exact hul
     case g6 => exact us_step hul hlt hus (by rw [hund]; try rfl)
   | succ f =>
     have h0 : (0 : Int) < ((rowsK l k).length : Int) := by omega
     rw [if_neg (by omega), Nat.add_sub_cancel] at hund
     have e1 : ((rowsK l k).length : Int) - 1 = (f : Int) := by omega
     have hg : f < (rowsK l k).length := by omega
     have hg' : (f : Int) < (((rowsK l k).length + 1 : Nat) : Int) := by omega
     have cg := N.cell (i := f) (by omega)
     rw [rD_map hg] at cg
     have tg := N.row (i := f) (by omega)
     rw [rD_map hg] at tg
     have mg := N.mem (i := f) (by omega)
     have ltg := tlt _ mg
     have neg := N.ne (i := f) (by omega)
     have negu : ¬ tD ts f = u := fun e => un (e ▸ mg)
     have rlg := rin f hg
     have hne := Rk.ne _ (mem_row hg)
     have hp : 0 < ((rowsK l k).getD f []).length := List.length_pos_iff.2 hne
     have e2 : (((rowsK l k).getD f []).length : Int) - 1 = ((((rowsK l k).getD f []).length - 1 : Nat) : Int) := by omega
     have e3 : ((rowsK l k).getD f []).length - 1 < ((rowsK l k).getD f []).length := by omega
     have g := last_get hne
     simp only at cg tg
     generalize hcs : rC 1 ts ((rowsK l k).map rw1) = cs at hr csl cg
     have c0 := c0 cs csl
     have c2 : (cs ++ [AV.sl 0 0 0 0]).length = (rowsK l k).length + 1 := by rw [List.length_append, csl]; rfl
     have c1 := get_low (z := .sl 0 0 0 0) cg
     repeat' first | (with_reducible first | refine k_seq ?_ | refine k_skip ?_ | refine k_blkS ?_ | refine k_blkR ?_ | refine k_blkC ?_ | refine k_blkH ?_ | refine k_blkB ?_ | refine k_blkK ?_ | refine k_blkE ?_ | refine k_reg ?_) | with_reducible refine k_head (by with_unfolding_all rfl) ?_ | with_reducible refine k_headS ?_ | (with_reducible refine SepK.mk ?_ ?_; (refine sepQ_P ?_; simp [sepQ, sepG, AOp.late, AOp.free, AOp.xs, AOp.isAl, tokNe, AV.tok, stS_get, strip, AX.val, RG52, GA]; try omega)) | with_reducible refine r_done ?_ | with_reducible refine hr_done ?_ | with_reducible refine s_go (by simp (disch := omega) only [hlt', gx, hx, hr, row_m hr, read_row (row_m hr), hu, row_m hu, read_row (row_m hu), csl, hul, usl, nl_len, nl_snoc, h0, c0, c2, lt1, e1, hg', tg, row_m tg, read_row (row_m tg), c1, e2, e3, g, List.set_set, List.length_set, RG52, EV0, EV1, EV2, EV3, EV4, EV5, EV6, EV7, EV8, VALS, plug, ite_same, decide_true, decide_false, eq_self, simprocAttr]; with_reducible rfl) ?_ | with_reducible refine h_go (by with_unfolding_all rfl) (by simp (disch := omega) only [hlt', gx, hx, hr, row_m hr, read_row (row_m hr), hu, row_m hu, read_row (row_m hu), csl, hul, usl, nl_len, nl_snoc, h0, c0, c2, lt1, e1, hg', tg, row_m tg, read_row (row_m tg), c1, e2, e3, g, List.set_set, List.length_set, RG52, EV0, EV1, EV2, EV3, EV4, EV5, EV6, EV7, EV8, VALS, plug, ite_same, decide_true, decide_false, eq_self, simprocAttr]; with_reducible rfl) ?_ | ((with_reducible refine chk_r ?_); refine r_callF (by simp only [CA, simprocAttr]; rfl) (by exact rfl) (by simp only [CA, simprocAttr]; rfl) rfl ?_) | ((with_reducible refine chk_h ?_); refine hr_callF (by simp only [CA, simprocAttr]; rfl) (by exact rfl) (by simp only [CA, simprocAttr]; rfl) rfl ?_) | ((with_reducible refine chk_r ?_); refine r_callP (by simp only [CA, simprocAttr]; rfl) (by simp only [CA, simprocAttr]; rfl) (by first | ((refine PC.at q86 rfl ?_; refine .cons (now _ ?_) (.cons (.fn .nil (.cons (.same (by simp only [AV.plain, AV.plains, flB_plain, Bool.and_true])) (.cons (.p (by simp (disch := omega) only [RG52, EV0, EV1, EV2, EV3, EV4, EV5, EV6, EV7, EV8, VALS, plug, ite_same, decide_true, decide_false, eq_self, simprocAttr] <;> rfl) (Nows.same rfl)) .nil))) .nil); intro t b hb; have := ok.m hb; simp (disch := omega) only [hb, RG52, EV0, EV1, EV2, EV3, EV4, EV5, EV6, EV7, EV8, VALS, plug, ite_same, decide_true, decide_false, eq_self, simprocAttr]); all_goals fail)) rfl ?_) | ((with_reducible refine chk_h ?_); refine hr_callP (by simp only [CA, simprocAttr]; rfl) (by simp only [CA, simprocAttr]; rfl) (by first | ((refine PC.at q86 rfl ?_; refine .cons (now _ ?_) (.cons (.fn .nil (.cons (.same (by simp only [AV.plain, AV.plains, flB_plain, Bool.and_true])) (.cons (.p (by simp (disch := omega) only [RG52, EV0, EV1, EV2, EV3, EV4, EV5, EV6, EV7, EV8, VALS, plug, ite_same, decide_true, decide_false, eq_self, simprocAttr] <;> rfl) (Nows.same rfl)) .nil))) .nil); intro t b hb; have := ok.m hb; simp (disch := omega) only [hb, RG52, EV0, EV1, EV2, EV3, EV4, EV5, EV6, EV7, EV8, VALS, plug, ite_same, decide_true, decide_false, eq_self, simprocAttr]); all_goals fail)) rfl ?_) | ((with_reducible refine chk_h ?_); refine hr_callP1 (by simp only [CA, simprocAttr]; rfl) (by simp only [CA, simprocAttr]; rfl) (by simp (disch := omega) only [CA, Nat.reduceEqDiff, ↓reduceIte, firstTok_nil, firstTok_sl, firstTok_sl0, firstTok_i, firstTok_b, firstTok_ag, firstTok_p, firstTok_s]; rfl) (by first | ((refine PC.at q86 rfl ?_; refine .cons (now _ ?_) (.cons (.fn .nil (.cons (.same (by simp only [AV.plain, AV.plains, flB_plain, Bool.and_true])) (.cons (.p (by simp (disch := omega) only [RG52, EV0, EV1, EV2, EV3, EV4, EV5, EV6, EV7, EV8, VALS, plug, ite_same, decide_true, decide_false, eq_self, simprocAttr] <;> rfl) (Nows.same rfl)) .nil))) .nil); intro t b hb; have := ok.m hb; simp (disch := omega) only [hb, RG52, EV0, EV1, EV2, EV3, EV4, EV5, EV6, EV7, EV8, VALS, plug, ite_same, decide_true, decide_false, eq_self, simprocAttr]); all_goals fail)) rfl ?_) | ((with_reducible refine chk_h ?_); refine hr_app (by simp (disch := omega) only [hlt', gx, hx, hr, row_m hr, read_row (row_m hr), hu, row_m hu, read_row (row_m hu), csl, hul, usl, nl_len, nl_snoc, h0, c0, c2, lt1, e1, hg', tg, row_m tg, read_row (row_m tg), c1, e2, e3, g, List.set_set, List.length_set, RG52, EV0, EV1, EV2, EV3, EV4, EV5, EV6, EV7, EV8, VALS, plug, ite_same, decide_true, decide_false, eq_self, simprocAttr]; with_reducible rfl) rfl ?_) | (with_reducible refine k_condP (by simp only [GA, simprocAttr]; rfl) (by first | (simp only [BO]; rfl) | rfl) (fun ht => ?_) (fun ht => ?_) <;> try (first | exact False.elim ht | exact absurd rfl ht | exact absurd trivial ht | exact Bool.noConfusion ht)) | (with_reducible refine k_ret ?_; repeat with_reducible (first | refine ret_thru ?_ | refine ret_blk ?_ | refine fin ?_)) | (with_reducible refine k_exit ?_; repeat with_reducible (first | refine thru ?_ | refine out_blk ?_ | refine pass (by decide) ?_)) | ((first | refine post1 ?_ | refine post2 ?_ | refine post3 ?_); simp only [GA, simprocAttr]) | refine post0 ?_
     refine ⟨hlt, ⟨(h.nx + 1 + 4 + 4 + 2 + 3 + 2), ts ++ [(h.nx + 1 + 4 + 4 + 2 + 3 + 4 + 4 + 2 + 6 + 10 + 8)], u, (us.set (od l k) ((lastN ((rowsK l k).getD f []) : Nat) : Int))⟩, ?g1, ?g2, u0, ?g7, ?g3, ?g4, ?g5, ?g6⟩
     case g1 =>
      simp only [Am.keep, List.map_cons, List.map_nil, GA, Nat.reduceEqDiff, ↓reduceIte, hlen1]
      rfl
     case g2 =>
      rw [hat, List.map_append, e0]
      refine N.snoc (n := 1) (cs := nl [od l k]) rfl (by omega) (by omega) (by omega) (fun hm => by have := tlt _ hm; omega) (fun hm => by have := tlt _ hm; omega) (by rw [hcs]; simp (disch := omega) only [set_last csl, RG52, EV0, EV1, EV2, EV3, EV4, EV5, EV6, EV7, EV8, VALS, plug, ite_same, decide_true, decide_false, eq_self, simprocAttr] <;> rfl) (by simp (disch := omega) only [RG52, EV0, EV1, EV2, EV3, EV4, EV5, EV6, EV7, EV8, VALS, plug, ite_same, decide_true, decide_false, eq_self, simprocAttr] <;> rfl) fun s b hs hb => ?_
      have l1 := tlt s hs
      have n1 := (N.nr s hs).2
      have n2 : ¬ s = u := fun e => un (e ▸ hs)
      simp (disch := omega) only [hb, RG52, EV0, EV1, EV2, EV3, EV4, EV5, EV6, EV7, EV8, VALS, plug, ite_same, decide_true, decide_false, eq_self, simprocAttr]
     case g7 => simp only []; omega
     case g3 =>
      intro hm
      rcases List.mem_append.1 hm with q | q
      ·exact un q
      ·rw [List.mem_singleton] at q; simp only [] at q; omega
     case g4 => simp (disch := omega) only [hu, List.set_set, RG52, EV0, EV1, EV2, EV3, EV4, EV5, EV6, EV7, EV8, VALS, plug, ite_same, decide_true, decide_false, eq_self, simprocAttr] <;> rfl
     case g5 => simp only [List.length_set]; exact hul
     case g6 => exact us_step hul hlt hus (by rw [hund]; try rfl)
 ·obtain rfl : k = l.length := by omega
  have hlt' : ¬ (l.length : Int) < l.length := by omega
  repeat' first | (with_reducible first | refine k_seq ?_ | refine k_skip ?_ | refine k_blkS ?_ | refine k_blkR ?_ | refine k_blkC ?_ | refine k_blkH ?_ | refine k_blkB ?_ | refine k_blkK ?_ | refine k_blkE ?_ | refine k_reg ?_) | with_reducible refine k_head (by with_unfolding_all rfl) ?_ | with_reducible refine k_headS ?_ | (with_reducible refine SepK.mk ?_ ?_; (refine sepQ_P ?_; simp [sepQ, sepG, AOp.late, AOp.free, AOp.xs, AOp.isAl, tokNe, AV.tok, stS_get, strip, AX.val, RG52, GA]; try omega)) | with_reducible refine r_done ?_ | with_reducible refine hr_done ?_ | with_reducible refine s_go (by simp (disch := omega) only [hlt', RG52, EV0, EV1, EV2, EV3, EV4, EV5, EV6, EV7, EV8, VALS, plug, ite_same, decide_true, decide_false, eq_self, simprocAttr]; with_reducible rfl) ?_ | with_reducible refine h_go (by with_unfolding_all rfl) (by simp (disch := omega) only [hlt', RG52, EV0, EV1, EV2, EV3, EV4, EV5, EV6, EV7, EV8, VALS, plug, ite_same, decide_true, decide_false, eq_self, simprocAttr]; with_reducible rfl) ?_ | ((with_reducible refine chk_r ?_); refine r_callF (by simp only [CA, simprocAttr]; rfl) (by exact rfl) (by simp only [CA, simprocAttr]; rfl) rfl ?_) | ((with_reducible refine chk_h ?_); refine hr_callF (by simp only [CA, simprocAttr]; rfl) (by exact rfl) (by simp only [CA, simprocAttr]; rfl) rfl ?_) | ((with_reducible refine chk_h ?_); refine hr_app (by simp (disch := omega) only [hlt', RG52, EV0, EV1, EV2, EV3, EV4, EV5, EV6, EV7, EV8, VALS, plug, ite_same, decide_true, decide_false, eq_self, simprocAttr]; with_reducible rfl) rfl ?_) | (with_reducible refine k_condP (by simp only [GA, simprocAttr]; rfl) (by first | (simp only [BO]; rfl) | rfl) (fun ht => ?_) (fun ht => ?_) <;> try (first | exact False.elim ht | exact absurd rfl ht | exact absurd trivial ht | exact Bool.noConfusion ht)) | (with_reducible refine k_ret ?_; repeat with_reducible (first | refine ret_thru ?_ | refine ret_blk ?_ | refine fin ?_)) | (with_reducible refine k_exit ?_; repeat with_reducible (first | refine thru ?_ | refine out_blk ?_ | refine pass (by decide) ?_)) | ((first | refine post1 ?_ | refine post2 ?_ | refine post3 ?_); simp only [GA, simprocAttr]) | refine post0 ?_
  have eu := undL_eq hul hus
  refine (N.keep (h' := (h.bump 1).bump 4) fun _ _ hb => hb).ends (v2 := .tu [vRows (rowsK l l.length), .sl u 0 l.length 1]) (.tu (.cons ?_ (.cons .same .nil))) fun h2 F => ?_
  ·rw [rv_map]
   have := @FrzV.sl r ((rowsK l l.length).map rvN) 0 (rowsK l l.length).length 1 1 (by simp)
   rwa [List.drop_zero, List.take_of_length_le (by simp)] at this
  ·have hu2 := F u _ ur un hu
   refine ⟨_, .step hu2 (FrzH.kill _ _ _) (.tu (.cons .same (.cons ?_ .nil))) .done⟩
   rw [eu]
   have := @FrzV.sl u (il (undL l)) 0 l.length 1 1 (by simp [il_len, undL])
   rwa [List.drop_zero, List.take_of_length_le (by simp [il_len, undL])] at this
end Go.Proofs.Ytjncfpfgobojpaa
set_option linter.unusedVariables false
set_option linter.unusedSimpArgs false
namespace Go.Proofs.Ytjncfpfgobojpaa
open Go Go.Am Go.Proofs Go.Sort
open Classical in
noncomputable def rowsR (l : List B) : List (List Nat) := if VL l then rowsL l else []
open Classical in
noncomputable def erR (l : List B) : Int := if VL l then 0 else 60
theorem RG18 : (type_of% @c18r0.eq_1) ∧ (type_of% @c18r1.eq_1) ∧ (type_of% @c18r2.eq_1) ∧ (type_of% @c18r3.eq_1) ∧ (type_of% @c18r4.eq_1) := ⟨@c18r0.eq_1, @c18r1.eq_1, @c18r2.eq_1, @c18r3.eq_1, @c18r4.eq_1⟩
theorem pc18 (l : List B) (hl : l.length ≤ 9223372036854775807) : PC Try.prog 18 [vB l] (.tu [vRows (rowsR l), .i .i64 (erR l)]) := by
 refine pc_fn fn18 (by simp only [AV.plains, AV.plain, il_plain, bl_plain, Bool.and_true, Bool.true_and, Bool.and_self, flB_plain, rows_plain]) (by simp only [AV.plains, AV.plain, il_plain, bl_plain, Bool.and_true, Bool.true_and, Bool.and_self, flB_plain, rows_plain]) (Nat.le_of_ble_eq_true rfl) ?_
 rw [initSt1]
 have q := pc26 l hl
 unfold rowsR erR
 by_cases hv : VL l
 ·rw [if_pos hv, if_pos hv]
  rw [vl_t hv] at q
  have q2 := pc52 l hv
  repeat' first | (with_reducible first | refine k_seq ?_ | refine k_skip ?_ | refine k_blkS ?_ | refine k_blkR ?_ | refine k_blkC ?_ | refine k_blkH ?_ | refine k_blkB ?_ | refine k_blkK ?_ | refine k_blkE ?_ | refine k_reg ?_) | with_reducible refine r_done ?_ | with_reducible refine s_go (by simp (disch := omega) only [RG18, EV0, EV1, EV2, EV3, EV4, EV5, EV6, EV7, EV8, VALS, plug, ite_same, decide_true, decide_false, eq_self, simprocAttr]; with_reducible rfl) ?_ | ((with_reducible refine chk_r ?_); refine r_callF (by simp only [CA, simprocAttr]; rfl) (by exact rfl) (by simp only [CA, simprocAttr]; rfl) rfl ?_) | ((with_reducible refine chk_r ?_); refine r_callP (by simp only [CA, simprocAttr]; rfl) (by simp only [CA, simprocAttr]; rfl) (by first | exact q _ | exact q2 _) rfl ?_) | (with_reducible refine k_condP (by simp only [GA, simprocAttr]; rfl) (by first | (simp only [BO]; rfl) | rfl) (fun ht => ?_) (fun ht => ?_) <;> try (first | exact False.elim ht | exact absurd rfl ht | exact absurd trivial ht | exact Bool.noConfusion ht)) | (with_reducible refine k_ret ?_; repeat with_reducible (first | refine ret_thru ?_ | refine ret_blk ?_ | refine fin ?_)) | (with_reducible refine k_exit ?_; repeat with_reducible (first | refine thru ?_ | refine out_blk ?_ | refine pass (by decide) ?_)) | ((first | refine post1 ?_ | refine post2 ?_ | refine post3 ?_); simp only [GA, simprocAttr]) | refine post0 ?_
  all_goals first | exact ends_of | exact ends_eq rfl
 ·rw [if_neg hv, if_neg hv]
  rw [vl_f hv] at q
  repeat' first | (with_reducible first | refine k_seq ?_ | refine k_skip ?_ | refine k_blkS ?_ | refine k_blkR ?_ | refine k_blkC ?_ | refine k_blkH ?_ | refine k_blkB ?_ | refine k_blkK ?_ | refine k_blkE ?_ | refine k_reg ?_) | with_reducible refine r_done ?_ | with_reducible refine s_go (by simp (disch := omega) only [RG18, EV0, EV1, EV2, EV3, EV4, EV5, EV6, EV7, EV8, VALS, plug, ite_same, decide_true, decide_false, eq_self, simprocAttr]; with_reducible rfl) ?_ | ((with_reducible refine chk_r ?_); refine r_callF (by simp only [CA, simprocAttr]; rfl) (by exact rfl) (by simp only [CA, simprocAttr]; rfl) rfl ?_) | ((with_reducible refine chk_r ?_); refine r_callP (by simp only [CA, simprocAttr]; rfl) (by simp only [CA, simprocAttr]; rfl) (by first | exact q _) rfl ?_) | (with_reducible refine k_condP (by simp only [GA, simprocAttr]; rfl) (by first | (simp only [BO]; rfl) | rfl) (fun ht => ?_) (fun ht => ?_) <;> try (first | exact False.elim ht | exact absurd rfl ht | exact absurd trivial ht | exact Bool.noConfusion ht)) | (with_reducible refine k_ret ?_; repeat with_reducible (first | refine ret_thru ?_ | refine ret_blk ?_ | refine fin ?_)) | (with_reducible refine k_exit ?_; repeat with_reducible (first | refine thru ?_ | refine out_blk ?_ | refine pass (by decide) ?_)) | ((first | refine post1 ?_ | refine post2 ?_ | refine post3 ?_); simp only [GA, simprocAttr]) | refine post0 ?_
  exact ends_nil2
theorem rowsR_len (l : List B) : (rowsR l).length ≤ l.length := by
 unfold rowsR
 split
 ·exact rowsK_len l (Nat.le_refl _)
 ·simp
theorem pc20 (l : List B) (hl : l.length ≤ 9223372036854775807) : PC Try.prog 20 [vB l] (.tu [.i .i64 ((rowsR l).length : Int), .i .i64 (erR l)]) := by
 refine pc_fn fn20 (by simp only [AV.plains, AV.plain, il_plain, bl_plain, Bool.and_true, Bool.true_and, Bool.and_self, flB_plain]) (by simp only [AV.plains, AV.plain, il_plain, bl_plain, Bool.and_true, Bool.true_and, Bool.and_self, flB_plain]) (Nat.le_of_ble_eq_true rfl) ?_
 rw [initSt1]
 have q := pc18 l hl
 generalize rowsR l = M at q ⊢
 generalize erR l = A at q ⊢
 repeat' first | (with_reducible first | refine k_seq ?_ | refine k_skip ?_ | refine k_blkS ?_ | refine k_blkR ?_ | refine k_blkC ?_ | refine k_blkH ?_ | refine k_blkB ?_ | refine k_blkK ?_ | refine k_blkE ?_ | refine k_reg ?_) | with_reducible refine r_done ?_ | with_reducible refine s_go (by simp (disch := omega) only [c20r0, c20r1, c20r2, EV0, EV1, EV2, EV3, EV4, EV5, EV6, EV7, EV8, VALS, plug, ite_same, decide_true, decide_false, eq_self, simprocAttr]; with_reducible rfl) ?_ | ((with_reducible refine chk_r ?_); refine r_callF (by simp only [CA, simprocAttr]; rfl) (by exact rfl) (by simp only [CA, simprocAttr]; rfl) rfl ?_) | ((with_reducible refine chk_r ?_); refine r_callP (by simp only [CA, simprocAttr]; rfl) (by simp only [CA, simprocAttr]; rfl) (by first | exact q _) rfl ?_) | (with_reducible refine k_condP (by simp only [GA, simprocAttr]; rfl) (by first | (simp only [BO]; rfl) | rfl) (fun ht => ?_) (fun ht => ?_) <;> try (first | exact False.elim ht | exact absurd rfl ht | exact absurd trivial ht | exact Bool.noConfusion ht)) | (with_reducible refine k_ret ?_; repeat with_reducible (first | refine ret_thru ?_ | refine ret_blk ?_ | refine fin ?_)) | (with_reducible refine k_exit ?_; repeat with_reducible (first | refine thru ?_ | refine out_blk ?_ | refine pass (by decide) ?_)) | ((first | refine post1 ?_ | refine post2 ?_ | refine post3 ?_); simp only [GA, simprocAttr]) | refine post0 ?_
 all_goals first | exact ends_of | exact ends_eq rfl
section
variable {P : Program} {N : Nat} {Q : Exit → St → AH → Prop} {st : St} {h : AH}
theorem w_frzP {c : AC} (d : Nat) {t : Nat} {cs : List AV} (hm : h.m t = some (.cells true cs)) (hd : st.get d = .p t 0) (w : W P N c Q ((d, .pv cs 0) :: st) (h.kill t)) : W P N c Q st h :=
 w_frz hm (fun x => by
  simp only [St.get]
  by_cases e : x = d
  ·subst e; rw [if_pos rfl, hd]; exact .p
  ·rw [if_neg e]; exact .same) w
end
theorem decB (r : List AV) (h : Shps [.i .i64, .i .i64, .i .i64, .i .i64, .i .i64, .i .i64, .i .i64] r) : ∃ x : B, r = eB x ∧ True := by
 obtain ⟨_, _, rfl, t0, h⟩ := shps_cons h
 obtain ⟨_, _, rfl, t1, h⟩ := shps_cons h
 obtain ⟨_, _, rfl, t2, h⟩ := shps_cons h
 obtain ⟨_, _, rfl, t3, h⟩ := shps_cons h
 obtain ⟨_, _, rfl, t4, h⟩ := shps_cons h
 obtain ⟨_, _, rfl, t5, h⟩ := shps_cons h
 obtain ⟨_, _, rfl, t6, h⟩ := shps_cons h
 obtain rfl := shps_nil h
 obtain ⟨a, rfl, _⟩ := shp_i64 t0
 obtain ⟨b, rfl, _⟩ := shp_i64 t1
 obtain ⟨c, rfl, _⟩ := shp_i64 t2
 obtain ⟨d, rfl, _⟩ := shp_i64 t3
 obtain ⟨e, rfl, _⟩ := shp_i64 t4
 obtain ⟨f, rfl, _⟩ := shp_i64 t5
 obtain ⟨g, rfl, _⟩ := shp_i64 t6
 exact ⟨⟨a, b, c, d, e, f, g⟩, rfl, trivial⟩
end Go.Proofs.Ytjncfpfgobojpaa
set_option linter.unusedVariables false
set_option linter.unusedSimpArgs false
namespace Go.Proofs.Ytjncfpfgobojpaa
open Go Go.Am Go.Proofs Go.Sort
structure Rn where
 batch : Int
 fro : Int
 til : Int
 clean : Bool
def eR (r : Rn) : List AV := [.i .i64 r.batch, .i .i64 r.fro, .i .i64 r.til, .b r.clean]
theorem eR_plain (r : Rn) : AV.plains (eR r) = true := rfl
def sumH (b : B) : Nat → Int
 | 0 => 0
 | k + 1 => sumH b k + hB b k
def hrs (b : B) : Int := sumH b 4
theorem hB_rng {b : B} (h : vb b = true) (k : Nat) : 0 ≤ hB b k ∧ hB b k ≤ 100 := by
 have := vb_len h
 match k with
 | 0 => exact this.1
 | 1 => exact this.2.1
 | 2 => exact this.2.2.1
 | k + 3 => exact this.2.2.2.1
theorem sumH_rng {b : B} (h : vb b = true) : ∀ k : Nat, 0 ≤ sumH b k ∧ sumH b k ≤ 100 * k
 | 0 => by simp [sumH]
 | k + 1 => by
   have := sumH_rng h k
   have := hB_rng h k
   simp only [sumH]
   omega
theorem RG60 : (type_of% @c60r0.eq_1) ∧ (type_of% @c60r1.eq_1) ∧ (type_of% @c60r2.eq_1) ∧ (type_of% @c60r3.eq_1) ∧ (type_of% @c60r4.eq_1) ∧ (type_of% @c60r5.eq_1) ∧ (type_of% @c60r6.eq_1) ∧ (type_of% @c60r8.eq_1) := ⟨@c60r0.eq_1, @c60r1.eq_1, @c60r2.eq_1, @c60r3.eq_1, @c60r4.eq_1, @c60r5.eq_1, @c60r6.eq_1, @c60r8.eq_1⟩
theorem pc60 (b : B) (hb : vb b = true) : PC Try.prog 60 [.ag (eB b)] (.i .i64 (hrs b)) := by
 simp only [eB]
 refine pc_fn fn60 (by simp only [AV.plains, AV.plain, il_plain, bl_plain, Bool.and_true, Bool.true_and, Bool.and_self]) (by simp only [AV.plains, AV.plain, il_plain, bl_plain, Bool.and_true, Bool.true_and, Bool.and_self]) (Nat.le_of_ble_eq_true rfl) ?_
 rw [initSt1]
 repeat' first | (with_reducible first | refine k_seq ?_ | refine k_skip ?_ | refine k_blkS ?_ | refine k_blkR ?_ | refine k_blkC ?_ | refine k_blkH ?_ | refine k_blkB ?_ | refine k_blkK ?_ | refine k_blkE ?_ | refine k_reg ?_) | with_reducible refine r_done ?_ | with_reducible refine s_go (by simp (disch := omega) only [RG60, EV0, EV1, EV2, EV3, EV4, EV5, EV6, EV7, EV8, VALS, plug, ite_same, decide_true, decide_false, eq_self, simprocAttr]; with_reducible rfl) ?_ | ((with_reducible refine chk_r ?_); refine r_callF (by simp only [CA, simprocAttr]; rfl) (by exact rfl) (by simp only [CA, simprocAttr]; rfl) rfl ?_) | (with_reducible refine k_condP (by simp only [GA, simprocAttr]; rfl) (by first | (simp only [BO]; rfl) | rfl) (fun ht => ?_) (fun ht => ?_) <;> try (first | exact False.elim ht | exact absurd rfl ht | exact absurd trivial ht | exact Bool.noConfusion ht)) | (with_reducible refine k_ret ?_; repeat with_reducible (first | refine ret_thru ?_ | refine ret_blk ?_ | refine fin ?_)) | (with_reducible refine k_exit ?_; repeat with_reducible (first | refine thru ?_ | refine out_blk ?_ | refine pass (by decide) ?_)) | ((first | refine post1 ?_ | refine post2 ?_ | refine post3 ?_); simp only [GA, simprocAttr]) | refine post0 ?_
 refine k_blk (k_loopS (X := Unit) [3, 7, 8] 4 (fun k _ => [(3, .i .i64 (sumH b k)), (7, .ag (hsB b)), (8, .i .i64 (k : Int))]) (fun k _ h => True) () (by simp only [Am.keep, List.map_cons, List.map_nil, GA, simprocAttr]; try rfl) trivial ?_)
 rintro k _ h hk - ok pos
 have s1 := sumH_rng hb k
 have s2 := hB_rng hb k
 by_cases hlt : k < 4
 ·have hlt' : (k : Int) < 4 := by omega
  have g := hB_get b hlt
  have e : sumH b k + hB b k = sumH b (k + 1) := rfl
  have s3 := sumH_rng hb (k + 1)
  generalize hcs : hsB b = cs at g ⊢
  have cl : cs.length = 4 := by rw [← hcs]; rfl
  repeat' first | (with_reducible first | refine k_seq ?_ | refine k_skip ?_ | refine k_blkS ?_ | refine k_blkR ?_ | refine k_blkC ?_ | refine k_blkH ?_ | refine k_blkB ?_ | refine k_blkK ?_ | refine k_blkE ?_ | refine k_reg ?_) | with_reducible refine r_done ?_ | with_reducible refine s_go (by simp (disch := omega) only [hlt', g, cl, e, RG60, EV0, EV1, EV2, EV3, EV4, EV5, EV6, EV7, EV8, VALS, plug, ite_same, decide_true, decide_false, eq_self, simprocAttr]; with_reducible rfl) ?_ | ((with_reducible refine chk_r ?_); refine r_callF (by simp only [CA, simprocAttr]; rfl) (by exact rfl) (by simp only [CA, simprocAttr]; rfl) rfl ?_) | (with_reducible refine k_condP (by simp only [GA, simprocAttr]; rfl) (by first | (simp only [BO]; rfl) | rfl) (fun ht => ?_) (fun ht => ?_) <;> try (first | exact False.elim ht | exact absurd rfl ht | exact absurd trivial ht | exact Bool.noConfusion ht)) | (with_reducible refine k_ret ?_; repeat with_reducible (first | refine ret_thru ?_ | refine ret_blk ?_ | refine fin ?_)) | (with_reducible refine k_exit ?_; repeat with_reducible (first | refine thru ?_ | refine out_blk ?_ | refine pass (by decide) ?_)) | ((first | refine post1 ?_ | refine post2 ?_ | refine post3 ?_); simp only [GA, simprocAttr]) | refine post0 ?_
  exact ⟨hlt, (), (by simp only [Am.keep, List.map_cons, List.map_nil, GA, simprocAttr]; try rfl), trivial⟩
 ·obtain rfl : k = 4 := by omega
  have hlt' : ¬ ((4 : Nat) : Int) < 4 := by omega
  repeat' first | (with_reducible first | refine k_seq ?_ | refine k_skip ?_ | refine k_blkS ?_ | refine k_blkR ?_ | refine k_blkC ?_ | refine k_blkH ?_ | refine k_blkB ?_ | refine k_blkK ?_ | refine k_blkE ?_ | refine k_reg ?_) | with_reducible refine r_done ?_ | with_reducible refine s_go (by simp (disch := omega) only [hlt', RG60, EV0, EV1, EV2, EV3, EV4, EV5, EV6, EV7, EV8, VALS, plug, ite_same, decide_true, decide_false, eq_self, simprocAttr]; with_reducible rfl) ?_ | ((with_reducible refine chk_r ?_); refine r_callF (by simp only [CA, simprocAttr]; rfl) (by exact rfl) (by simp only [CA, simprocAttr]; rfl) rfl ?_) | (with_reducible refine k_condP (by simp only [GA, simprocAttr]; rfl) (by first | (simp only [BO]; rfl) | rfl) (fun ht => ?_) (fun ht => ?_) <;> try (first | exact False.elim ht | exact absurd rfl ht | exact absurd trivial ht | exact Bool.noConfusion ht)) | (with_reducible refine k_ret ?_; repeat with_reducible (first | refine ret_thru ?_ | refine ret_blk ?_ | refine fin ?_)) | (with_reducible refine k_exit ?_; repeat with_reducible (first | refine thru ?_ | refine out_blk ?_ | refine pass (by decide) ?_)) | ((first | refine post1 ?_ | refine post2 ?_ | refine post3 ?_); simp only [GA, simprocAttr]) | refine post0 ?_
  all_goals first | exact ends_of | exact ends_eq rfl
def cl (r : Rn) (c : Int) : Int := if r.clean = true then c else 0
theorem RG66 : (type_of% @c66r0.eq_1) ∧ (type_of% @c66r1.eq_1) ∧ (type_of% @c66r2.eq_1) ∧ (type_of% @c66r3.eq_1) ∧ (type_of% @c66r4.eq_1) := ⟨@c66r0.eq_1, @c66r1.eq_1, @c66r2.eq_1, @c66r3.eq_1, @c66r4.eq_1⟩
theorem pc66 (b : B) (hb : vb b = true) (r : Rn) (c : Int) (hc : 0 ≤ c ∧ c ≤ 100) : PC Try.prog 66 [.ag (eB b), .ag (eR r), .i .i64 c] (.i .i64 (hrs b + cl r c)) := by
 have q := pc60 b hb
 have s : 0 ≤ hrs b ∧ hrs b ≤ 400 := sumH_rng hb 4
 unfold cl
 simp only [eB, eR] at q ⊢
 refine pc_fn fn66 (by simp only [AV.plains, AV.plain, il_plain, bl_plain, Bool.and_true, Bool.true_and, Bool.and_self]) (by simp only [AV.plains, AV.plain, il_plain, bl_plain, Bool.and_true, Bool.true_and, Bool.and_self]) (Nat.le_of_ble_eq_true rfl) ?_
 rw [initSt3]
 generalize hrs b = H at q s ⊢
 cases hcl : r.clean with
 | true =>
   repeat' first | (with_reducible first | refine k_seq ?_ | refine k_skip ?_ | refine k_blkS ?_ | refine k_blkR ?_ | refine k_blkC ?_ | refine k_blkH ?_ | refine k_blkB ?_ | refine k_blkK ?_ | refine k_blkE ?_ | refine k_reg ?_) | with_reducible refine r_done ?_ | with_reducible refine s_go (by simp (disch := omega) only [RG66, EV0, EV1, EV2, EV3, EV4, EV5, EV6, EV7, EV8, VALS, plug, ite_same, decide_true, decide_false, eq_self, simprocAttr]; with_reducible rfl) ?_ | ((with_reducible refine chk_r ?_); refine r_callF (by simp only [CA, simprocAttr]; rfl) (by exact rfl) (by simp only [CA, simprocAttr]; rfl) rfl ?_) | ((with_reducible refine chk_r ?_); refine r_callP (by simp only [CA, simprocAttr]; rfl) (by simp only [CA, simprocAttr]; rfl) (by first | exact q _) rfl ?_) | (with_reducible refine k_condP (by simp only [GA, simprocAttr]; rfl) (by first | (simp only [BO]; rfl) | rfl) (fun ht => ?_) (fun ht => ?_) <;> try (first | exact False.elim ht | exact absurd rfl ht | exact absurd trivial ht | exact Bool.noConfusion ht)) | (with_reducible refine k_ret ?_; repeat with_reducible (first | refine ret_thru ?_ | refine ret_blk ?_ | refine fin ?_)) | (with_reducible refine k_exit ?_; repeat with_reducible (first | refine thru ?_ | refine out_blk ?_ | refine pass (by decide) ?_)) | ((first | refine post1 ?_ | refine post2 ?_ | refine post3 ?_); simp only [GA, simprocAttr]) | refine post0 ?_
   all_goals first | exact ends_of | exact ends_eq rfl
 | false =>
   repeat' first | (with_reducible first | refine k_seq ?_ | refine k_skip ?_ | refine k_blkS ?_ | refine k_blkR ?_ | refine k_blkC ?_ | refine k_blkH ?_ | refine k_blkB ?_ | refine k_blkK ?_ | refine k_blkE ?_ | refine k_reg ?_) | with_reducible refine r_done ?_ | with_reducible refine s_go (by simp (disch := omega) only [RG66, EV0, EV1, EV2, EV3, EV4, EV5, EV6, EV7, EV8, VALS, plug, ite_same, decide_true, decide_false, eq_self, simprocAttr]; with_reducible rfl) ?_ | ((with_reducible refine chk_r ?_); refine r_callF (by simp only [CA, simprocAttr]; rfl) (by exact rfl) (by simp only [CA, simprocAttr]; rfl) rfl ?_) | ((with_reducible refine chk_r ?_); refine r_callP (by simp only [CA, simprocAttr]; rfl) (by simp only [CA, simprocAttr]; rfl) (by first | exact q _) rfl ?_) | (with_reducible refine k_condP (by simp only [GA, simprocAttr]; rfl) (by first | (simp only [BO]; rfl) | rfl) (fun ht => ?_) (fun ht => ?_) <;> try (first | exact False.elim ht | exact absurd rfl ht | exact absurd trivial ht | exact Bool.noConfusion ht)) | (with_reducible refine k_ret ?_; repeat with_reducible (first | refine ret_thru ?_ | refine ret_blk ?_ | refine fin ?_)) | (with_reducible refine k_exit ?_; repeat with_reducible (first | refine thru ?_ | refine out_blk ?_ | refine pass (by decide) ?_)) | ((first | refine post1 ?_ | refine post2 ?_ | refine post3 ?_); simp only [GA, simprocAttr]) | refine post0 ?_
   all_goals exact ends_eq (i_eq (by simp))
def tm (r : Rn) (n : Int) : Bool := decide (r.fro ≤ r.til ∧ r.til - r.fro = n)
theorem uwrap (n : Int) : IntKind.u64.wrap n = n % 18446744073709551616 := rfl
theorem pc65 (r : Rn) (h1 : i64 r.fro) (h2 : i64 r.til) (n : Int) (hn : 0 ≤ n ∧ n ≤ 1000) : PC Try.prog 65 [.ag (eR r), .i .i64 n] (.b (tm r n)) := by
 simp only [eR]
 refine pc_fn fn65 (by simp only [AV.plains, AV.plain, il_plain, bl_plain, Bool.and_true, Bool.true_and, Bool.and_self]) (by simp only [AV.plains, AV.plain, il_plain, bl_plain, Bool.and_true, Bool.true_and, Bool.and_self]) (Nat.le_of_ble_eq_true rfl) ?_
 rw [initSt2]
 unfold i64 at h1 h2
 by_cases h : r.fro ≤ r.til
 ·have w : IntKind.u64.wrap (IntKind.u64.wrap r.til - IntKind.u64.wrap r.fro) = r.til - r.fro := by
   simp only [uwrap]; omega
  have w2 : IntKind.u64.wrap n = n := by simp only [uwrap]; omega
  repeat' first | (with_reducible first | refine k_seq ?_ | refine k_skip ?_ | refine k_blkS ?_ | refine k_blkR ?_ | refine k_blkC ?_ | refine k_blkH ?_ | refine k_blkB ?_ | refine k_blkK ?_ | refine k_blkE ?_ | refine k_reg ?_) | with_reducible refine r_done ?_ | with_reducible refine s_go (by simp (disch := omega) only [h, w, w2, c65r0, c65r1, EV0, EV1, EV2, EV3, EV4, EV5, EV6, EV7, EV8, VALS, plug, ite_same, decide_true, decide_false, eq_self, simprocAttr]; with_reducible rfl) ?_ | ((with_reducible refine chk_r ?_); refine r_callF (by simp only [CA, simprocAttr]; rfl) (by exact rfl) (by simp only [CA, simprocAttr]; rfl) rfl ?_) | (with_reducible refine k_condP (by simp only [GA, simprocAttr]; rfl) (by first | (simp only [BO]; rfl) | rfl) (fun ht => ?_) (fun ht => ?_) <;> try (first | exact False.elim ht | exact absurd rfl ht | exact absurd trivial ht | exact Bool.noConfusion ht)) | (with_reducible refine k_ret ?_; repeat with_reducible (first | refine ret_thru ?_ | refine ret_blk ?_ | refine fin ?_)) | (with_reducible refine k_exit ?_; repeat with_reducible (first | refine thru ?_ | refine out_blk ?_ | refine pass (by decide) ?_)) | ((first | refine post1 ?_ | refine post2 ?_ | refine post3 ?_); simp only [GA, simprocAttr]) | refine post0 ?_
  refine ends_eq (b_eq ?_); rw [Bool.eq_iff_iff]
  simp [tm, h]
 ·repeat' first
   | with_reducible refine k_seq ?_
   | with_reducible refine k_skip ?_
   | with_reducible refine k_blkS ?_
   | with_reducible refine k_blkR ?_
   | with_reducible refine k_blkC ?_
   | with_reducible refine k_blkH ?_
   | with_reducible refine k_blkB ?_
   | with_reducible refine k_blkK ?_
   | with_reducible refine k_blkE ?_
   | with_reducible refine k_reg ?_
   | with_reducible refine r_done ?_
   | with_reducible refine s_go (by simp (disch := omega) only [h, c65r0, c65r1, EV0, EV1, EV2, EV3, EV4, EV5, EV6, EV7, EV8, VALS, plug, ite_same, decide_true, decide_false, eq_self, simprocAttr]; with_reducible rfl) ?_
   | ((with_reducible refine chk_r ?_); refine r_callF (by simp only [CA, simprocAttr]; rfl) (by exact rfl) (by simp only [CA, simprocAttr]; rfl) rfl ?_)
   | (with_reducible refine k_condP (by simp only [GA, simprocAttr]; rfl) (by first | (simp only [BO]; rfl) | rfl) (fun ht => ?_) (fun ht => ?_) <;> try (first | exact False.elim ht | exact absurd rfl ht | exact absurd trivial ht | exact Bool.noConfusion ht))
   | (with_reducible refine k_ret ?_; repeat with_reducible (first | refine ret_thru ?_ | refine ret_blk ?_ | refine fin ?_))
   | (with_reducible refine k_exit ?_; repeat with_reducible (first | refine thru ?_ | refine out_blk ?_ | refine pass (by decide) ?_))
   | (refine post1 ?_; simp only [GA, simprocAttr])
   | (refine post2 ?_; simp only [GA, simprocAttr])
   | (refine post3 ?_; simp only [GA, simprocAttr])
   | (refine postc (by simp only [GA, simprocAttr]; rfl) (by simp (disch := omega) only [h, c65r0, c65r1, EV0, EV1, EV2, EV3, EV4, EV5, EV6, EV7, EV8, VALS, plug, ite_same, decide_true, decide_false, eq_self, simprocAttr]; rfl) ?_)
   | refine post0 ?_
  refine ends_eq (b_eq ?_); rw [Bool.eq_iff_iff]
  simp [tm, h]
end Go.Proofs.Ytjncfpfgobojpaa
set_option linter.unusedVariables false
set_option linter.unusedSimpArgs false
namespace Go.Proofs.Ytjncfpfgobojpaa
open Go Go.Am Go.Proofs Go.Sort
abbrev rB (l : List B) (r : Rn) : B := bD l r.batch.toNat
end Go.Proofs.Ytjncfpfgobojpaa
