/- What the proof of the law needs: the abstract machine, the functions as it reads them, their contracts, part 8. -/
import Derived.Test.YtjncfpfgobojpaaZg
set_option linter.unusedVariables false
set_option linter.unusedSimpArgs false
namespace Go.Proofs.Ytjncfpfgobojpaa
open Go Go.Am Go.Proofs Go.Sort
theorem RG12 : (type_of% @c12r0.eq_1) ∧ (type_of% @c12r1.eq_1) ∧ (type_of% @c12r2.eq_1) ∧ (type_of% @c12r3.eq_1) ∧ (type_of% @c12r4.eq_1) ∧ (type_of% @c12r5.eq_1) ∧ (type_of% @c12r6.eq_1) ∧ (type_of% @c12r7.eq_1) ∧ (type_of% @c12r8.eq_1) ∧ (type_of% @c12r9.eq_1) := ⟨@c12r0.eq_1, @c12r1.eq_1, @c12r2.eq_1, @c12r3.eq_1, @c12r4.eq_1, @c12r5.eq_1, @c12r6.eq_1, @c12r7.eq_1, @c12r8.eq_1, @c12r9.eq_1⟩
set_option maxHeartbeats 1000000 in
theorem pc12 (l : List B) (hl : l.length ≤ 9223372036854775807) (c : Int) (runs : List (List Rn)) (hn : runs.length ≤ 9223372036854775807) (rw : RW runs) : PC Try.prog 12 [vB l, .i .i64 c, vRR runs] (.b true) := by
  refine pc_fn fn12 (by simp only [AV.plains, AV.plain, il_plain, bl_plain, Bool.and_true, Bool.true_and, Bool.and_self, flB_plain, vRR_plain]) (by simp only [AV.plains, AV.plain, il_plain, bl_plain, Bool.and_true, Bool.true_and, Bool.and_self, flB_plain, vRR_plain]) (Nat.le_of_ble_eq_true rfl) ?_
  rw [initSt3]
  have q16 := pc16 l hl 50
  have q41 := pc41 runs hn
  by_cases c1 : (50 : Int) < l.length
  · repeat' first
      | with_reducible refine k_seq ?_
      | with_reducible refine k_skip ?_
      | with_reducible refine k_blkS ?_
      | with_reducible refine k_blkR ?_
      | with_reducible refine k_blkC ?_
      | with_reducible refine k_blkH ?_
      | with_reducible refine k_blkB ?_
      | with_reducible refine k_blkK ?_
      | with_reducible refine k_blkE ?_
      | with_reducible refine k_reg ?_
      | with_reducible refine r_done ?_
      | with_reducible refine s_go (by simp (disch := omega) only [c1, RG12, EVA, plug, ite_same, decide_true, decide_false, eq_self, ↓reduceIte, reduceCtorEq, Nat.reduceAdd, Nat.reduceEqDiff, Nat.reduceLT, Nat.reduceLeDiff, Nat.reduceMul, Nat.reduceSub, Nat.reduceDiv, Int.reduceToNat, Int.reduceAdd, Int.reduceSub, Int.reduceMul, Int.reduceNeg, Int.reduceEq, Int.reduceLT, Int.reduceLE]; with_reducible rfl) ?_
      | ((with_reducible refine chk_r ?_); refine r_callF (by simp only [CA, Nat.reduceEqDiff, ↓reduceIte]; rfl) (by exact rfl) (by simp only [CA, Nat.reduceEqDiff, ↓reduceIte]; rfl) rfl ?_)
      | ((with_reducible refine chk_r ?_); refine r_callP (by simp only [CA, Nat.reduceEqDiff, ↓reduceIte]; rfl) (by simp only [CA, Nat.reduceEqDiff, ↓reduceIte]; rfl) (by first | exact q16 _ | exact q41 _ | exact pc17 _) rfl ?_)
      | ((with_reducible refine chk_r ?_); refine r_callG (by simp only [CA, Nat.reduceEqDiff, ↓reduceIte]; rfl) (by simp only [CA, Nat.reduceEqDiff, ↓reduceIte]; rfl) (by simp only [CA, Nat.reduceEqDiff, ↓reduceIte]; rfl) (by intro hg; (try simp only [BO] at hg); first | exact q16 _ | exact q41 _ | exact pc17 _) rfl ?_)
      | (with_reducible refine k_condP (by simp only [GA, Nat.reduceEqDiff, ↓reduceIte]; rfl) (by first | (simp only [BO]; rfl) | rfl) (fun ht => ?_) (fun ht => ?_) <;> try (first | exact False.elim ht | exact absurd rfl ht | exact absurd trivial ht | exact Bool.noConfusion ht))
      | (with_reducible refine k_ret ?_; repeat with_reducible (first | refine ret_thru ?_ | refine ret_blk ?_ | refine fin ?_))
      | (with_reducible refine k_exit ?_; repeat with_reducible (first | refine thru ?_ | refine out_blk ?_ | refine pass (by decide) ?_))
      | (refine post1 ?_; simp only [GA, Nat.reduceEqDiff, ↓reduceIte])
      | (refine post2 ?_; simp only [GA, Nat.reduceEqDiff, ↓reduceIte])
      | (refine post3 ?_; simp only [GA, Nat.reduceEqDiff, ↓reduceIte])
      | (refine postc (by simp only [GA, Nat.reduceEqDiff, ↓reduceIte]; rfl) (by simp (disch := omega) only [c1, RG12, EVA, plug, ite_same, decide_true, decide_false, eq_self, ↓reduceIte, reduceCtorEq, Nat.reduceAdd, Nat.reduceEqDiff, Nat.reduceLT, Nat.reduceLeDiff, Nat.reduceMul, Nat.reduceSub, Nat.reduceDiv, Int.reduceToNat, Int.reduceAdd, Int.reduceSub, Int.reduceMul, Int.reduceNeg, Int.reduceEq, Int.reduceLT, Int.reduceLE]; rfl) ?_)
      | refine post0 ?_
    all_goals first | exact ends_of | exact ends_eq rfl
  · by_cases c2 : crw runs
    · rw [crB_t c2] at q41
      repeat' first | with_reducible refine k_seq ?_ | with_reducible refine k_skip ?_ | with_reducible refine k_blkS ?_ | with_reducible refine k_blkR ?_ | with_reducible refine k_blkC ?_ | with_reducible refine k_blkH ?_ | with_reducible refine k_blkB ?_ | with_reducible refine k_blkK ?_ | with_reducible refine k_blkE ?_ | with_reducible refine k_reg ?_ | with_reducible refine r_done ?_ | with_reducible refine s_go (by simp (disch := omega) only [c1, RG12, EVA, plug, ite_same, decide_true, decide_false, eq_self, ↓reduceIte, reduceCtorEq, Nat.reduceAdd, Nat.reduceEqDiff, Nat.reduceLT, Nat.reduceLeDiff, Nat.reduceMul, Nat.reduceSub, Nat.reduceDiv, Int.reduceToNat, Int.reduceAdd, Int.reduceSub, Int.reduceMul, Int.reduceNeg, Int.reduceEq, Int.reduceLT, Int.reduceLE]; with_reducible rfl) ?_ | ((with_reducible refine chk_r ?_); refine r_callF (by simp only [CA, Nat.reduceEqDiff, ↓reduceIte]; rfl) (by exact rfl) (by simp only [CA, Nat.reduceEqDiff, ↓reduceIte]; rfl) rfl ?_) | ((with_reducible refine chk_r ?_); refine r_callP (by simp only [CA, Nat.reduceEqDiff, ↓reduceIte]; rfl) (by simp only [CA, Nat.reduceEqDiff, ↓reduceIte]; rfl) (by first | exact q16 _ | exact q41 _ | exact pc17 _) rfl ?_) | ((with_reducible refine chk_r ?_); refine r_callG (by simp only [CA, Nat.reduceEqDiff, ↓reduceIte]; rfl) (by simp only [CA, Nat.reduceEqDiff, ↓reduceIte]; rfl) (by simp only [CA, Nat.reduceEqDiff, ↓reduceIte]; rfl) (by intro hg; (try simp only [BO] at hg); first | exact q16 _ | exact q41 _ | exact pc17 _) rfl ?_) | (with_reducible refine k_condP (by simp only [GA, Nat.reduceEqDiff, ↓reduceIte]; rfl) (by first | (simp only [BO]; rfl) | rfl) (fun ht => ?_) (fun ht => ?_) <;> try (first | exact False.elim ht | exact absurd rfl ht | exact absurd trivial ht | exact Bool.noConfusion ht)) | (with_reducible refine k_ret ?_; repeat with_reducible (first | refine ret_thru ?_ | refine ret_blk ?_ | refine fin ?_)) | (with_reducible refine k_exit ?_; repeat with_reducible (first | refine thru ?_ | refine out_blk ?_ | refine pass (by decide) ?_)) | ((first | refine post1 ?_ | refine post2 ?_ | refine post3 ?_); simp only [GA, Nat.reduceEqDiff, ↓reduceIte]) | (refine postc (by simp only [GA, Nat.reduceEqDiff, ↓reduceIte]; rfl) (by simp (disch := omega) only [c1, RG12, EVA, plug, ite_same, decide_true, decide_false, eq_self, ↓reduceIte, reduceCtorEq, Nat.reduceAdd, Nat.reduceEqDiff, Nat.reduceLT, Nat.reduceLeDiff, Nat.reduceMul, Nat.reduceSub, Nat.reduceDiv, Int.reduceToNat, Int.reduceAdd, Int.reduceSub, Int.reduceMul, Int.reduceNeg, Int.reduceEq, Int.reduceLT, Int.reduceLE]; rfl) ?_) | refine post0 ?_
      all_goals first | exact ends_of | exact ends_eq rfl
    · rw [crB_f c2] at q41
      have q42 := pc42 l hl c runs hn rw
      have q43 := pc43 l hl c runs hn rw
      have q44 := pc44 runs hn
      have q45 := pc45 runs hn
      have q46 := pc46 runs hn
      have q47 := pc47 runs hn
      generalize jdR l c runs = J at *
      generalize eoR runs = E at *
      generalize coR runs = C at *
      repeat' first | with_reducible refine k_seq ?_ | with_reducible refine k_skip ?_ | with_reducible refine k_blkS ?_ | with_reducible refine k_blkR ?_ | with_reducible refine k_blkC ?_ | with_reducible refine k_blkH ?_ | with_reducible refine k_blkB ?_ | with_reducible refine k_blkK ?_ | with_reducible refine k_blkE ?_ | with_reducible refine k_reg ?_ | with_reducible refine r_done ?_ | with_reducible refine s_go (by simp (disch := omega) only [c1, RG12, EVA, plug, ite_same, decide_true, decide_false, eq_self, ↓reduceIte, reduceCtorEq, Nat.reduceAdd, Nat.reduceEqDiff, Nat.reduceLT, Nat.reduceLeDiff, Nat.reduceMul, Nat.reduceSub, Nat.reduceDiv, Int.reduceToNat, Int.reduceAdd, Int.reduceSub, Int.reduceMul, Int.reduceNeg, Int.reduceEq, Int.reduceLT, Int.reduceLE]; with_reducible rfl) ?_ | ((with_reducible refine chk_r ?_); refine r_callF (by simp only [CA, Nat.reduceEqDiff, ↓reduceIte]; rfl) (by exact rfl) (by simp only [CA, Nat.reduceEqDiff, ↓reduceIte]; rfl) rfl ?_) | ((with_reducible refine chk_r ?_); refine r_callP (by simp only [CA, Nat.reduceEqDiff, ↓reduceIte]; rfl) (by simp only [CA, Nat.reduceEqDiff, ↓reduceIte]; rfl) (by first | exact q16 _ | exact q41 _ | exact pc17 _ | exact q42 _ | exact q43 _ | exact q44 _ | exact q45 _ | exact q46 _ | exact q47 _) rfl ?_) | ((with_reducible refine chk_r ?_); refine r_callG (by simp only [CA, Nat.reduceEqDiff, ↓reduceIte]; rfl) (by simp only [CA, Nat.reduceEqDiff, ↓reduceIte]; rfl) (by simp only [CA, Nat.reduceEqDiff, ↓reduceIte]; rfl) (by intro hg; (try simp only [BO] at hg); first | exact q16 _ | exact q41 _ | exact pc17 _ | exact q42 _ | exact q43 _ | exact q44 _ | exact q45 _ | exact q46 _ | exact q47 _) rfl ?_) | (with_reducible refine k_condP (by simp only [GA, Nat.reduceEqDiff, ↓reduceIte]; rfl) (by first | (simp only [BO]; rfl) | rfl) (fun ht => ?_) (fun ht => ?_) <;> try (first | exact False.elim ht | exact absurd rfl ht | exact absurd trivial ht | exact Bool.noConfusion ht)) | (with_reducible refine k_ret ?_; repeat with_reducible (first | refine ret_thru ?_ | refine ret_blk ?_ | refine fin ?_)) | (with_reducible refine k_exit ?_; repeat with_reducible (first | refine thru ?_ | refine out_blk ?_ | refine pass (by decide) ?_)) | ((first | refine post1 ?_ | refine post2 ?_ | refine post3 ?_); simp only [GA, Nat.reduceEqDiff, ↓reduceIte]) | (refine postc (by simp only [GA, Nat.reduceEqDiff, ↓reduceIte]; rfl) (by simp (disch := omega) only [c1, RG12, EVA, plug, ite_same, decide_true, decide_false, eq_self, ↓reduceIte, reduceCtorEq, Nat.reduceAdd, Nat.reduceEqDiff, Nat.reduceLT, Nat.reduceLeDiff, Nat.reduceMul, Nat.reduceSub, Nat.reduceDiv, Int.reduceToNat, Int.reduceAdd, Int.reduceSub, Int.reduceMul, Int.reduceNeg, Int.reduceEq, Int.reduceLT, Int.reduceLE]; rfl) ?_) | refine post0 ?_
      all_goals first | exact ends_of | exact ends_eq rfl
def eX (r : List Rn) : List AV := [.vs r.length (fl eR r)]
theorem flX (runs : List (List Rn)) : fl eX runs = runs.map rvR := by
  induction runs with
  | nil => rfl
  | cons r rows ih => rw [fl_cons, ih]; rfl
abbrev RWr (row : List Rn) : Prop := ∀ r ∈ row, i64 r.fro ∧ i64 r.til
theorem decR (r : List AV) (h : Shps [.i .i64, .i .i64, .i .i64, .b] r) : ∃ x : Rn, r = eR x ∧ (i64 x.fro ∧ i64 x.til) := by
  obtain ⟨_, _, rfl, t0, h⟩ := shps_cons h
  obtain ⟨_, _, rfl, t1, h⟩ := shps_cons h
  obtain ⟨_, _, rfl, t2, h⟩ := shps_cons h
  obtain ⟨_, _, rfl, t3, h⟩ := shps_cons h
  obtain rfl := shps_nil h
  obtain ⟨a, rfl, _⟩ := shp_i64 t0
  obtain ⟨b, rfl, w1⟩ := shp_i64 t1
  obtain ⟨c, rfl, w2⟩ := shp_i64 t2
  obtain ⟨d, rfl⟩ := shp_b t3
  exact ⟨⟨a, b, c, d⟩, rfl, w1, w2⟩
theorem decX (r : List AV) (h : Shps [.sl [.i .i64, .i .i64, .i .i64, .b]] r) : ∃ x : List Rn, r = eX x ∧ RWr x := by
  obtain ⟨a, r, rfl, h1, h⟩ := shps_cons h
  obtain rfl := shps_nil h
  obtain ⟨x, rfl, hx, m⟩ := sl_dec eR (fun r => i64 r.fro ∧ i64 r.til) decR h1
  exact ⟨x, rfl, m⟩
theorem pc12' (l : List B) (hl : l.length ≤ 9223372036854775807) (c : Int) (runs : List (List Rn)) (hn : runs.length ≤ 9223372036854775807) (rw : RW runs) : PC Try.prog 12 [vB l, .i .i64 c, .vs runs.length (fl eX runs)] (.b true) := by
  rw [flX]; exact pc12 l hl c runs hn rw
end Go.Proofs.Ytjncfpfgobojpaa
