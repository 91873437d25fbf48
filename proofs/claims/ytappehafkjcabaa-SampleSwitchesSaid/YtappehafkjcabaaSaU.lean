import Derived.Test.YtappehafkjcabaaSaT
set_option linter.unusedVariables false
set_option linter.unusedSimpArgs false
namespace Go.Proofs.Ytappehafkjcabaa
open Go Go.Am Go.Proofs

/-- the results behind one more lot -/
def nl (st : Int) (l : List Bool) (b : Bool) : List Bool := if bh st (l ++ [b]) = st then l ++ [b] else []

/-- an inspection that lies in block t, with its results in block tr -/
def Insp (h : AH) (t : Nat) (cs : List AV) (st : Int) (l : List Bool) (tr : Nat) : Prop :=
  ∃ a, h.m t = some (.cells true (cs ++ [.i .i64 st, .sl tr 0 l.length a])) ∧ ((l = [] ∧ tr = 0) ∨ (a = 1 ∧ tr ≠ t ∧ 0 < tr ∧ h.m tr = some (.cells true (bl l))))

theorem ct_true10 (l : List Bool) : ct l 10 true = 10 ↔ (10 ≤ l.length ∧ ct l 10 false = 0) := by
  have key : ∀ k : List Bool, (k.filter (· == true)).length + (k.filter (· == false)).length = k.length := by
    intro k
    induction k with
    | nil => rfl
    | cons x k ih => cases x <;> simp_all <;> omega
  have := key (l.drop (l.length - 10))
  rw [List.length_drop] at this
  unfold ct
  omega
theorem ct_true5 (l : List Bool) : ct l 5 true = 5 ↔ (5 ≤ l.length ∧ ct l 5 false = 0) := by
  have key : ∀ k : List Bool, (k.filter (· == true)).length + (k.filter (· == false)).length = k.length := by
    intro k
    induction k with
    | nil => rfl
    | cons x k ih => cases x <;> simp_all <;> omega
  have := key (l.drop (l.length - 5))
  rw [List.length_drop] at this
  unfold ct
  omega
theorem ct_last (l : List Bool) (b : Bool) : ct (l ++ [b]) 1 false = if b = false then 1 else 0 := by
  unfold ct
  rw [List.length_append, List.length_singleton, Nat.add_sub_cancel, List.drop_left]
  cases b <;> rfl

theorem f55 (t tr : Nat) (c0 c1 c2 c3 c4 c5 : AV) (st : Int) (l : List Bool) (b : Bool) (hl : l.length ≤ 250) (h : AH) (hi : Insp h t [c0, c1, c2, c3, c4, c5] st l tr) :
    ACalls Try.prog 55 [.p t 0, .b b] h fun r h' => ∃ tr', Insp h' t [c0, c1, c2, c3, c4, c5] (bh st (l ++ [b])) (nl st l b) tr' ∧ (∀ u, u < h.nx → u ≠ t → (u ≠ tr ∨ tr = 0) → h'.m u = h.m u) ∧ h.nx ≤ h'.nx ∧ (tr' = 0 ∨ h.nx ≤ tr') := by
  refine a_fn fn55 (by simp) fun ok pos => ?_
  obtain ⟨a, hm, hr⟩ := hi
  simp only [List.cons_append, List.nil_append] at hm
  have ht := ok.m hm
  rw [initSt2]
  have hlen : (l ++ [b]).length = l.length + 1 := by simp
  have first : ∃ st' H T, runS h.nx c55r0 0 (some ([(0, .p t 0), (1, .b b)], h.bump c55r0.length)) = .done st' H ∧ St.get st' 0 = .p t 0 ∧ St.get st' 1 = .b b ∧ H.m t = some (.cells true [c0, c1, c2, c3, c4, c5, .i .i64 st, .sl T 0 (l ++ [b]).length 1]) ∧ H.m T = some (.cells true (bl (l ++ [b]))) ∧
      T ≠ t ∧ 0 < T ∧ h.nx ≤ T ∧ (∀ u, u < h.nx → u ≠ t → (u ≠ tr ∨ tr = 0) → H.m u = h.m u) ∧ h.nx ≤ H.nx := by
    rcases hr with ⟨rfl, rfl⟩ | ⟨rfl, htr, htr0, hrow⟩
    · refine ⟨_, _, h.nx + 7, by simp (disch := omega) only [hm, row_m hm, read_row (row_m hm), c55r0, c55r1, c55r2, c55r3, c55r4, c55r5, c55r6, c55r7, c55r8, c55r9, c55r10, c55r11, c55r12, c55r13, c55r14, EV0, EV1, EV2, EV3, EV4, EV5, EV6, EV7, plug, ite_same, decide_true, decide_false, eq_self, ↓reduceIte, reduceCtorEq, Nat.reduceAdd, Nat.reduceEqDiff, Nat.reduceLT, Nat.reduceLeDiff, Nat.reduceMul, Nat.reduceSub, Nat.reduceDiv, Int.reduceToNat, Int.reduceAdd, Int.reduceSub, Int.reduceMul, Int.reduceNeg, Int.reduceEq, Int.reduceLT, Int.reduceLE]; rfl, ?_, ?_, ?_, ?_, by omega, by omega, by omega, fun u h1 h2 h3 => ?_, ?_⟩
      · simp (disch := omega) only [c55r0, c55r1, c55r2, c55r3, c55r4, c55r5, c55r6, c55r7, c55r8, c55r9, c55r10, c55r11, c55r12, c55r13, c55r14, EV0, EV1, EV2, EV3, EV4, EV5, EV6, EV7, plug, ite_same, decide_true, decide_false, eq_self, ↓reduceIte, reduceCtorEq, Nat.reduceAdd, Nat.reduceEqDiff, Nat.reduceLT, Nat.reduceLeDiff, Nat.reduceMul, Nat.reduceSub, Nat.reduceDiv, Int.reduceToNat, Int.reduceAdd, Int.reduceSub, Int.reduceMul, Int.reduceNeg, Int.reduceEq, Int.reduceLT, Int.reduceLE]
      · simp (disch := omega) only [c55r0, c55r1, c55r2, c55r3, c55r4, c55r5, c55r6, c55r7, c55r8, c55r9, c55r10, c55r11, c55r12, c55r13, c55r14, EV0, EV1, EV2, EV3, EV4, EV5, EV6, EV7, plug, ite_same, decide_true, decide_false, eq_self, ↓reduceIte, reduceCtorEq, Nat.reduceAdd, Nat.reduceEqDiff, Nat.reduceLT, Nat.reduceLeDiff, Nat.reduceMul, Nat.reduceSub, Nat.reduceDiv, Int.reduceToNat, Int.reduceAdd, Int.reduceSub, Int.reduceMul, Int.reduceNeg, Int.reduceEq, Int.reduceLT, Int.reduceLE]
      · simp (disch := omega) only [c55r0, c55r1, c55r2, c55r3, c55r4, c55r5, c55r6, c55r7, c55r8, c55r9, c55r10, c55r11, c55r12, c55r13, c55r14, EV0, EV1, EV2, EV3, EV4, EV5, EV6, EV7, plug, ite_same, decide_true, decide_false, eq_self, ↓reduceIte, reduceCtorEq, Nat.reduceAdd, Nat.reduceEqDiff, Nat.reduceLT, Nat.reduceLeDiff, Nat.reduceMul, Nat.reduceSub, Nat.reduceDiv, Int.reduceToNat, Int.reduceAdd, Int.reduceSub, Int.reduceMul, Int.reduceNeg, Int.reduceEq, Int.reduceLT, Int.reduceLE]
      · simp (disch := omega) only [c55r0, c55r1, c55r2, c55r3, c55r4, c55r5, c55r6, c55r7, c55r8, c55r9, c55r10, c55r11, c55r12, c55r13, c55r14, EV0, EV1, EV2, EV3, EV4, EV5, EV6, EV7, plug, ite_same, decide_true, decide_false, eq_self, ↓reduceIte, reduceCtorEq, Nat.reduceAdd, Nat.reduceEqDiff, Nat.reduceLT, Nat.reduceLeDiff, Nat.reduceMul, Nat.reduceSub, Nat.reduceDiv, Int.reduceToNat, Int.reduceAdd, Int.reduceSub, Int.reduceMul, Int.reduceNeg, Int.reduceEq, Int.reduceLT, Int.reduceLE]
        rfl
      · simp (disch := omega) only [h2, c55r0, c55r1, c55r2, c55r3, c55r4, c55r5, c55r6, c55r7, c55r8, c55r9, c55r10, c55r11, c55r12, c55r13, c55r14, EV0, EV1, EV2, EV3, EV4, EV5, EV6, EV7, plug, ite_same, decide_true, decide_false, eq_self, ↓reduceIte, reduceCtorEq, Nat.reduceAdd, Nat.reduceEqDiff, Nat.reduceLT, Nat.reduceLeDiff, Nat.reduceMul, Nat.reduceSub, Nat.reduceDiv, Int.reduceToNat, Int.reduceAdd, Int.reduceSub, Int.reduceMul, Int.reduceNeg, Int.reduceEq, Int.reduceLT, Int.reduceLE]
      · simp (disch := omega) only [c55r0, c55r1, c55r2, c55r3, c55r4, c55r5, c55r6, c55r7, c55r8, c55r9, c55r10, c55r11, c55r12, c55r13, c55r14, EV0, EV1, EV2, EV3, EV4, EV5, EV6, EV7, plug, ite_same, decide_true, decide_false, eq_self, ↓reduceIte, reduceCtorEq, Nat.reduceAdd, Nat.reduceEqDiff, Nat.reduceLT, Nat.reduceLeDiff, Nat.reduceMul, Nat.reduceSub, Nat.reduceDiv, Int.reduceToNat, Int.reduceAdd, Int.reduceSub, Int.reduceMul, Int.reduceNeg, Int.reduceEq, Int.reduceLT, Int.reduceLE]
        omega
    · have := ok.m hrow
      have hbl := bl_len l
      refine ⟨_, _, h.nx + 7, by simp (disch := omega) only [hm, row_m hm, read_row (row_m hm), hrow, hbl, c55r0, c55r1, c55r2, c55r3, c55r4, c55r5, c55r6, c55r7, c55r8, c55r9, c55r10, c55r11, c55r12, c55r13, c55r14, EV0, EV1, EV2, EV3, EV4, EV5, EV6, EV7, plug, ite_same, decide_true, decide_false, eq_self, ↓reduceIte, reduceCtorEq, Nat.reduceAdd, Nat.reduceEqDiff, Nat.reduceLT, Nat.reduceLeDiff, Nat.reduceMul, Nat.reduceSub, Nat.reduceDiv, Int.reduceToNat, Int.reduceAdd, Int.reduceSub, Int.reduceMul, Int.reduceNeg, Int.reduceEq, Int.reduceLT, Int.reduceLE]; rfl, ?_, ?_, ?_, ?_, by omega, by omega, by omega, fun u h1 h2 h3 => ?_, ?_⟩
      · simp (disch := omega) only [c55r0, c55r1, c55r2, c55r3, c55r4, c55r5, c55r6, c55r7, c55r8, c55r9, c55r10, c55r11, c55r12, c55r13, c55r14, EV0, EV1, EV2, EV3, EV4, EV5, EV6, EV7, plug, ite_same, decide_true, decide_false, eq_self, ↓reduceIte, reduceCtorEq, Nat.reduceAdd, Nat.reduceEqDiff, Nat.reduceLT, Nat.reduceLeDiff, Nat.reduceMul, Nat.reduceSub, Nat.reduceDiv, Int.reduceToNat, Int.reduceAdd, Int.reduceSub, Int.reduceMul, Int.reduceNeg, Int.reduceEq, Int.reduceLT, Int.reduceLE]
      · simp (disch := omega) only [c55r0, c55r1, c55r2, c55r3, c55r4, c55r5, c55r6, c55r7, c55r8, c55r9, c55r10, c55r11, c55r12, c55r13, c55r14, EV0, EV1, EV2, EV3, EV4, EV5, EV6, EV7, plug, ite_same, decide_true, decide_false, eq_self, ↓reduceIte, reduceCtorEq, Nat.reduceAdd, Nat.reduceEqDiff, Nat.reduceLT, Nat.reduceLeDiff, Nat.reduceMul, Nat.reduceSub, Nat.reduceDiv, Int.reduceToNat, Int.reduceAdd, Int.reduceSub, Int.reduceMul, Int.reduceNeg, Int.reduceEq, Int.reduceLT, Int.reduceLE]
      · rw [hlen]
        simp (disch := omega) only [c55r0, c55r1, c55r2, c55r3, c55r4, c55r5, c55r6, c55r7, c55r8, c55r9, c55r10, c55r11, c55r12, c55r13, c55r14, EV0, EV1, EV2, EV3, EV4, EV5, EV6, EV7, plug, ite_same, decide_true, decide_false, eq_self, ↓reduceIte, reduceCtorEq, Nat.reduceAdd, Nat.reduceEqDiff, Nat.reduceLT, Nat.reduceLeDiff, Nat.reduceMul, Nat.reduceSub, Nat.reduceDiv, Int.reduceToNat, Int.reduceAdd, Int.reduceSub, Int.reduceMul, Int.reduceNeg, Int.reduceEq, Int.reduceLT, Int.reduceLE]
      · simp (disch := omega) only [c55r0, c55r1, c55r2, c55r3, c55r4, c55r5, c55r6, c55r7, c55r8, c55r9, c55r10, c55r11, c55r12, c55r13, c55r14, EV0, EV1, EV2, EV3, EV4, EV5, EV6, EV7, plug, ite_same, decide_true, decide_false, eq_self, ↓reduceIte, reduceCtorEq, Nat.reduceAdd, Nat.reduceEqDiff, Nat.reduceLT, Nat.reduceLeDiff, Nat.reduceMul, Nat.reduceSub, Nat.reduceDiv, Int.reduceToNat, Int.reduceAdd, Int.reduceSub, Int.reduceMul, Int.reduceNeg, Int.reduceEq, Int.reduceLT, Int.reduceLE]
        rw [bl_snoc]
      · have h4 : u ≠ tr := by omega
        simp (disch := omega) only [h2, h4, c55r0, c55r1, c55r2, c55r3, c55r4, c55r5, c55r6, c55r7, c55r8, c55r9, c55r10, c55r11, c55r12, c55r13, c55r14, EV0, EV1, EV2, EV3, EV4, EV5, EV6, EV7, plug, ite_same, decide_true, decide_false, eq_self, ↓reduceIte, reduceCtorEq, Nat.reduceAdd, Nat.reduceEqDiff, Nat.reduceLT, Nat.reduceLeDiff, Nat.reduceMul, Nat.reduceSub, Nat.reduceDiv, Int.reduceToNat, Int.reduceAdd, Int.reduceSub, Int.reduceMul, Int.reduceNeg, Int.reduceEq, Int.reduceLT, Int.reduceLE]
      · simp (disch := omega) only [c55r0, c55r1, c55r2, c55r3, c55r4, c55r5, c55r6, c55r7, c55r8, c55r9, c55r10, c55r11, c55r12, c55r13, c55r14, EV0, EV1, EV2, EV3, EV4, EV5, EV6, EV7, plug, ite_same, decide_true, decide_false, eq_self, ↓reduceIte, reduceCtorEq, Nat.reduceAdd, Nat.reduceEqDiff, Nat.reduceLT, Nat.reduceLeDiff, Nat.reduceMul, Nat.reduceSub, Nat.reduceDiv, Int.reduceToNat, Int.reduceAdd, Int.reduceSub, Int.reduceMul, Int.reduceNeg, Int.reduceEq, Int.reduceLT, Int.reduceLE]
        omega
  obtain ⟨st', H, T, e, g0, g1, m1, m2, d1, d2, d3, fr, d4⟩ := first
  refine k_seq (k_reg (s_go e (r_done ?_)))
  refine w_keep [0, 1] ?_
  simp only [Am.keep, List.map_cons, List.map_nil, g0, g1]
  have rT := read_row (row_m m2)
  have q := fun m b' (hm : m ≤ 300) h h1 h2 => f58 t T 1 (l ++ [b]) m b' (by omega) hm h h1 h2
  have rt : H.read t 7 none = some (.sl T 0 (l ++ [b]).length 1) := by rw [read_row (row_m m1)]; rfl
  have rr : ∀ j, j < (l ++ [b]).length → H.read T j none = some (.b ((l ++ [b]).getD j false)) := fun j hj => by rw [rT]; exact bl_get _ hj
  -- what the end owes
  have fin0 : ∀ H' : AH, bh st (l ++ [b]) = st → H'.m t = H.m t → H'.m T = H.m T → (∀ u, u < h.nx → H'.m u = H.m u) → H.nx ≤ H'.nx → ∃ tr', Insp H' t [c0, c1, c2, c3, c4, c5] (bh st (l ++ [b])) (nl st l b) tr' ∧ (∀ u, u < h.nx → u ≠ t → (u ≠ tr ∨ tr = 0) → H'.m u = h.m u) ∧ h.nx ≤ H'.nx ∧ (tr' = 0 ∨ h.nx ≤ tr') := by
    intro H' hb e1 e2 e3 e4
    refine ⟨T, ⟨1, ?_, .inr ⟨rfl, d1, d2, ?_⟩⟩, fun u h1 h2 h3 => (e3 u h1).trans (fr u h1 h2 h3), by omega, .inr d3⟩
    · rw [e1, m1, hb]; unfold nl; rw [if_pos hb]; rfl
    · rw [e2, m2]; unfold nl; rw [if_pos hb]
  have fin1 : ∀ H' H'' : AH, ∀ s : Int, bh st (l ++ [b]) = s → s ≠ st → H''.m t = some (.cells true [c0, c1, c2, c3, c4, c5, .i .i64 s, .sl 0 0 0 0]) → (∀ u, u ≠ t → H''.m u = H'.m u) → (∀ u, u < h.nx → H'.m u = H.m u) → H.nx ≤ H''.nx → ∃ tr', Insp H'' t [c0, c1, c2, c3, c4, c5] (bh st (l ++ [b])) (nl st l b) tr' ∧ (∀ u, u < h.nx → u ≠ t → (u ≠ tr ∨ tr = 0) → H''.m u = h.m u) ∧ h.nx ≤ H''.nx ∧ (tr' = 0 ∨ h.nx ≤ tr') := by
    intro H' H'' s hb hne e1 e2 e3 e4
    refine ⟨0, ⟨0, ?_, .inl ⟨?_, rfl⟩⟩, fun u h1 h2 h3 => (e2 u h2).trans ((e3 u h1).trans (fr u h1 h2 h3)), by omega, .inl rfl⟩
    · rw [e1, hb]; unfold nl; rw [hb, if_neg hne]; rfl
    · unfold nl; rw [hb, if_neg hne]
  have c10 := ct_true10 (l ++ [b])
  have c5 := ct_true5 (l ++ [b])
  have c1 := ct_last l b
  repeat' first
    | with_reducible refine k_seq ?_
    | with_reducible refine k_skip ?_
    | with_reducible refine k_blkS ?_
    | with_reducible refine k_reg ?_
    | with_reducible refine r_done ?_
    | with_reducible refine s_go (by simp (disch := omega) only [read_row (row_m m1), c55r0, c55r1, c55r2, c55r3, c55r4, c55r5, c55r6, c55r7, c55r8, c55r9, c55r10, c55r11, c55r12, c55r13, c55r14, EV0, EV1, EV2, EV3, EV4, EV5, EV6, EV7, plug, ite_same, decide_true, decide_false, eq_self, ↓reduceIte, reduceCtorEq, Nat.reduceAdd, Nat.reduceEqDiff, Nat.reduceLT, Nat.reduceLeDiff, Nat.reduceMul, Nat.reduceSub, Nat.reduceDiv, Int.reduceToNat, Int.reduceAdd, Int.reduceSub, Int.reduceMul, Int.reduceNeg, Int.reduceEq, Int.reduceLT, Int.reduceLE]; with_reducible rfl) ?_
    | ((with_reducible refine chk_r ?_); refine r_callF (by simp only [CA, Nat.reduceEqDiff, ↓reduceIte]; rfl) (by exact rfl) (by simp only [CA, Nat.reduceEqDiff, ↓reduceIte]; rfl) rfl ?_)
    | ((with_reducible refine chk_r ?_); refine r_callP (by simp only [CA, Nat.reduceEqDiff, ↓reduceIte]; rfl) (by simp only [CA, Nat.reduceEqDiff, ↓reduceIte]; rfl) (by first | (refine q 5 false (by omega) _ ?_ ?_ <;> assumption) | (refine q 10 true (by omega) _ ?_ ?_ <;> assumption) | (refine q 5 true (by omega) _ ?_ ?_ <;> assumption) | (refine q (l ++ [b]).length false (by omega) _ ?_ ?_ <;> assumption)) rfl ?_)
    | ((with_reducible refine chk_r ?_); refine r_callX (by simp only [CA, Nat.reduceEqDiff, ↓reduceIte]; rfl) (by simp only [CA, Nat.reduceEqDiff, ↓reduceIte]; rfl) (by first | exact f59 _ _ _ _ _ _ _ _ _ _ _ m1) rfl ?_)
    | (with_reducible refine k_condP (by simp only [GA, Nat.reduceEqDiff, ↓reduceIte]; rfl) (by first | (simp only [BO]; rfl) | rfl) (fun ht => ?_) (fun ht => ?_) <;> try (first | exact False.elim ht | exact absurd rfl ht | exact absurd trivial ht | exact Bool.noConfusion ht))
    | (with_reducible refine k_ret ?_; repeat with_reducible (first | refine ret_thru ?_ | refine ret_blk ?_ | refine fin ?_))
    | (with_reducible refine k_exit ?_; repeat with_reducible (first | refine thru ?_ | refine out_blk ?_ | refine pass (by decide) ?_))
    | (refine post1 ?_; simp only [GA, Nat.reduceEqDiff, ↓reduceIte])
    | (refine post2 ?_; simp only [GA, Nat.reduceEqDiff, ↓reduceIte])
    | (refine post3 ?_; simp only [GA, Nat.reduceEqDiff, ↓reduceIte])
    | (refine postc (by simp only [GA, Nat.reduceEqDiff, ↓reduceIte]; rfl) (by simp (disch := omega) only [read_row (row_m m1), c55r0, c55r1, c55r2, c55r3, c55r4, c55r5, c55r6, c55r7, c55r8, c55r9, c55r10, c55r11, c55r12, c55r13, c55r14, EV0, EV1, EV2, EV3, EV4, EV5, EV6, EV7, plug, ite_same, decide_true, decide_false, eq_self, ↓reduceIte, reduceCtorEq, Nat.reduceAdd, Nat.reduceEqDiff, Nat.reduceLT, Nat.reduceLeDiff, Nat.reduceMul, Nat.reduceSub, Nat.reduceDiv, Int.reduceToNat, Int.reduceAdd, Int.reduceSub, Int.reduceMul, Int.reduceNeg, Int.reduceEq, Int.reduceLT, Int.reduceLE]; rfl) ?_)
    | refine post0 ?_
  all_goals try rintro r H' ⟨e1, e2, e3⟩
  all_goals repeat' first
    | with_reducible refine k_seq ?_
    | with_reducible refine k_skip ?_
    | with_reducible refine k_blkS ?_
    | with_reducible refine k_reg ?_
    | with_reducible refine r_done ?_
    | with_reducible refine s_go (by simp (disch := omega) only [c55r0, c55r1, c55r2, c55r3, c55r4, c55r5, c55r6, c55r7, c55r8, c55r9, c55r10, c55r11, c55r12, c55r13, c55r14, EV0, EV1, EV2, EV3, EV4, EV5, EV6, EV7, plug, ite_same, decide_true, decide_false, eq_self, ↓reduceIte, reduceCtorEq, Nat.reduceAdd, Nat.reduceEqDiff, Nat.reduceLT, Nat.reduceLeDiff, Nat.reduceMul, Nat.reduceSub, Nat.reduceDiv, Int.reduceToNat, Int.reduceAdd, Int.reduceSub, Int.reduceMul, Int.reduceNeg, Int.reduceEq, Int.reduceLT, Int.reduceLE]; with_reducible rfl) ?_
    | ((with_reducible refine chk_r ?_); refine r_callF (by simp only [CA, Nat.reduceEqDiff, ↓reduceIte]; rfl) (by exact rfl) (by simp only [CA, Nat.reduceEqDiff, ↓reduceIte]; rfl) rfl ?_)
    | (with_reducible refine k_condP (by simp only [GA, Nat.reduceEqDiff, ↓reduceIte]; rfl) (by first | (simp only [BO]; rfl) | rfl) (fun ht => ?_) (fun ht => ?_) <;> try (first | exact False.elim ht | exact absurd rfl ht | exact absurd trivial ht | exact Bool.noConfusion ht))
    | (with_reducible refine k_ret ?_; repeat with_reducible (first | refine ret_thru ?_ | refine ret_blk ?_ | refine fin ?_))
    | (with_reducible refine k_exit ?_; repeat with_reducible (first | refine thru ?_ | refine out_blk ?_ | refine pass (by decide) ?_))
    | (refine post1 ?_; simp only [GA, Nat.reduceEqDiff, ↓reduceIte])
    | (refine post2 ?_; simp only [GA, Nat.reduceEqDiff, ↓reduceIte])
    | (refine post3 ?_; simp only [GA, Nat.reduceEqDiff, ↓reduceIte])
    | (refine postc (by simp only [GA, Nat.reduceEqDiff, ↓reduceIte]; rfl) (by simp (disch := omega) only [c55r0, c55r1, c55r2, c55r3, c55r4, c55r5, c55r6, c55r7, c55r8, c55r9, c55r10, c55r11, c55r12, c55r13, c55r14, EV0, EV1, EV2, EV3, EV4, EV5, EV6, EV7, plug, ite_same, decide_true, decide_false, eq_self, ↓reduceIte, reduceCtorEq, Nat.reduceAdd, Nat.reduceEqDiff, Nat.reduceLT, Nat.reduceLeDiff, Nat.reduceMul, Nat.reduceSub, Nat.reduceDiv, Int.reduceToNat, Int.reduceAdd, Int.reduceSub, Int.reduceMul, Int.reduceNeg, Int.reduceEq, Int.reduceLT, Int.reduceLE]; rfl) ?_)
    | refine post0 ?_
  all_goals first
    | refine fin0 _ ?_ rfl rfl (fun _ _ => rfl) ?_
    | refine fin1 _ _ _ ?_ ?_ e1 e2 (fun _ _ => rfl) ?_
  all_goals first
    | (unfold bh; (repeat' split) <;> first | rfl | omega)
    | omega
    | (simp only [AH.bump_nx] at *; omega)
    | (first | rw [if_pos (by assumption)] at c1 | rw [if_neg (by assumption)] at c1
       unfold bh; (repeat' split) <;> first | rfl | omega)

/-! ### An inspection of lots -/
structure Hs where
  err : Int
  st : Int
  l : List Bool
  o : List (Int × Bool)
/-- one more lot -/
def hstep (a b c d e f : Int) (x : Hs) (bad : Int) : Hs :=
  if x.err ≠ 0 then x else if x.st = 4 then { x with err := 51 } else
  let p := pl6 a b c d e f x.st
  let r := av p.1 p.2 bad
  if r.2 ≠ 0 then { x with err := r.2 } else ⟨0, bh x.st (x.l ++ [r.1]), nl x.st x.l r.1, x.o ++ [(x.st, r.1)]⟩
def hk (a b c d e f st0 : Int) (bad : Nat → Int) : Nat → Hs
  | 0 => ⟨0, st0, [], []⟩
  | k + 1 => hstep a b c d e f (hk a b c d e f st0 bad k) (bad k)
theorem hk_err {a b c d e f st0 : Int} {bad : Nat → Int} {k : Nat} (h : (hk a b c d e f st0 bad k).err ≠ 0) : ∀ j, hk a b c d e f st0 bad (k + j) = hk a b c d e f st0 bad k
  | 0 => rfl
  | j + 1 => by
    rw [← Nat.add_assoc]
    show hstep a b c d e f (hk a b c d e f st0 bad (k + j)) _ = _
    rw [hk_err h j]
    unfold hstep
    rw [if_pos h]
theorem nl_len (st : Int) (l : List Bool) (b : Bool) : (nl st l b).length ≤ l.length + 1 := by
  unfold nl; split <;> simp
theorem hk_len (a b c d e f st0 : Int) (bad : Nat → Int) : ∀ k, (hk a b c d e f st0 bad k).l.length ≤ k ∧ (hk a b c d e f st0 bad k).o.length ≤ k ∧ ((hk a b c d e f st0 bad k).err = 0 → (hk a b c d e f st0 bad k).o.length = k)
  | 0 => ⟨Nat.le_refl _, Nat.le_refl _, fun _ => rfl⟩
  | k + 1 => by
    obtain ⟨h1, h2, h3⟩ := hk_len a b c d e f st0 bad k
    show (hstep a b c d e f (hk a b c d e f st0 bad k) (bad k)).l.length ≤ k + 1 ∧ (hstep a b c d e f (hk a b c d e f st0 bad k) (bad k)).o.length ≤ k + 1 ∧ ((hstep a b c d e f (hk a b c d e f st0 bad k) (bad k)).err = 0 → (hstep a b c d e f (hk a b c d e f st0 bad k) (bad k)).o.length = k + 1)
    unfold hstep
    split
    · rename_i he; exact ⟨by omega, by omega, fun h0 => absurd h0 he⟩
    · split
      · exact ⟨by simp; omega, by simp; omega, fun h0 => by simp at h0⟩
      · simp only
        split
        · rename_i he; exact ⟨by simp; omega, by simp; omega, fun h0 => absurd h0 he⟩
        · rename_i he _ _
          have := h3 (by simpa using he)
          have := nl_len (hk a b c d e f st0 bad k).st (hk a b c d e f st0 bad k).l (av (pl6 a b c d e f (hk a b c d e f st0 bad k).st).1 (pl6 a b c d e f (hk a b c d e f st0 bad k).st).2 (bad k)).1
          refine ⟨Nat.le_trans this (by omega), ?_, fun _ => ?_⟩
          · show List.length (_ ++ [_]) ≤ _; rw [List.length_append]; simp; omega
          · show List.length (_ ++ [_]) = _; rw [List.length_append]; simp; omega
/-- the outcome -/
def hres (a b c d e f st0 : Int) (bad : Nat → Int) (n : Nat) : Int × Int × List (Int × Bool) :=
  if sv a b c d e f = true then (if 200 < n then (4, 0, []) else if (hk a b c d e f st0 bad n).err ≠ 0 then ((hk a b c d e f st0 bad n).err, 0, []) else (0, (hk a b c d e f st0 bad n).st, (hk a b c d e f st0 bad n).o)) else (50, 0, [])
def ol (o : List (Int × Bool)) : List AV := (o.map fun p => [AV.i .i64 p.1, AV.b p.2]).flatten
theorem ol_snoc (o : List (Int × Bool)) (s : Int) (b : Bool) : ol o ++ [.i .i64 s, .b b] = ol (o ++ [(s, b)]) := by simp [ol]
theorem ol_len : ∀ (o : List (Int × Bool)), (ol o).length = o.length * 2
  | [] => rfl
  | p :: o => by
    have := ol_len o
    simp only [ol, List.map_cons, List.flatten_cons, List.length_append, List.length_cons, List.length_nil] at this ⊢
    omega
theorem ol_plain : ∀ (o : List (Int × Bool)), AV.plains (ol o) = true
  | [] => rfl
  | p :: o => by
    have := ol_plain o
    simp only [ol] at this
    simp only [ol, List.map_cons, List.flatten_cons, List.cons_append, List.nil_append, AV.plains, AV.plain, Bool.true_and]
    exact this
theorem ol_one (o : List (Int × Bool)) : (ol o).all AV.one = true := by
  simp [ol, AV.one]
theorem read_congr {h h' : AH} {t : Nat} (e : h'.m t = h.m t) (o : Nat) (n : Option Nat) : h'.read t o n = h.read t o n := by unfold AH.read AH.row; rw [e]
/-- what lies in the block of the results: none, or a row of its own -/
def Outs (h : AH) (t a : Nat) (o : List (Int × Bool)) : Prop := (o = [] ∧ t = 0) ∨ (a = 2 ∧ 0 < t ∧ h.m t = some (.cells true (ol o)))

set_option maxHeartbeats 4000000 in
theorem f49 (a b c d e f st0 : Int) (tf of_ n : Nat) (af : Nat) (bad : Nat → Int) (hn : n ≤ 9223372036854775807) (h : AH) (hb : ∀ j, j < n → h.read tf (of_ + j) none = some (.i .i64 (bad j))) :
    FCalls Try.prog 49 [.ag [.i .i64 a, .i .i64 b, .i .i64 c, .i .i64 d, .i .i64 e, .i .i64 f], .i .i64 st0, .sl tf of_ n af] h (some ([], [.i .i64 (hres a b c d e f st0 bad n).2.1, .i .i64 (hres a b c d e f st0 bad n).1])) (hres a b c d e f st0 bad n).2.2.length 2 (ol (hres a b c d e f st0 bad n).2.2) := by
  refine fresh_call rfl (ol_plain _) fun h0 hr _ => ?_
  have hb' : ∀ j, j < n → h0.read tf (of_ + j) none = some (.i .i64 (bad j)) := fun j hj => by unfold AH.read; rw [hr]; exact hb j hj
  clear hb hr
  refine a_fn fn49 (by simp) fun ok pos => ?_
  rw [initSt3]
  have q1 : ∀ j, j < n → tf < h0.nx := fun j hj => ok.read (hb' j hj)
  have q21 := f21 a b c d e f
  cases hv : sv a b c d e f with
  | false =>
    have er : hres a b c d e f st0 bad n = (50, 0, []) := by unfold hres; rw [if_neg (by simp [hv])]
    rw [er]
    rw [hv] at q21
    repeat' first
      | with_reducible refine k_seq ?_
      | with_reducible refine k_skip ?_
      | with_reducible refine k_blkS ?_
      | with_reducible refine k_reg ?_
      | with_reducible refine k_head ?_
      | with_reducible refine r_done ?_
      | with_reducible refine hr_done ?_
      | with_reducible refine s_go (by simp (disch := omega) only [c49r0, c49r1, c49r2, c49r3, c49r4, c49r5, c49r6, c49r7, c49r8, c49r9, c49r10, c49r11, c49r12, c49r13, c49r14, c49r15, c49r16, c49r17, c49r19, EV0, EV1, EV2, EV3, EV4, EV5, EV6, EV7, plug, ite_same, decide_true, decide_false, eq_self, ↓reduceIte, reduceCtorEq, Nat.reduceAdd, Nat.reduceEqDiff, Nat.reduceLT, Nat.reduceLeDiff, Nat.reduceMul, Nat.reduceSub, Nat.reduceDiv, Int.reduceToNat, Int.reduceAdd, Int.reduceSub, Int.reduceMul, Int.reduceNeg, Int.reduceEq, Int.reduceLT, Int.reduceLE]; with_reducible rfl) ?_
      | with_reducible refine h_go (by with_unfolding_all rfl) (by simp (disch := omega) only [c49r0, c49r1, c49r2, c49r3, c49r4, c49r5, c49r6, c49r7, c49r8, c49r9, c49r10, c49r11, c49r12, c49r13, c49r14, c49r15, c49r16, c49r17, c49r19, EV0, EV1, EV2, EV3, EV4, EV5, EV6, EV7, plug, ite_same, decide_true, decide_false, eq_self, ↓reduceIte, reduceCtorEq, Nat.reduceAdd, Nat.reduceEqDiff, Nat.reduceLT, Nat.reduceLeDiff, Nat.reduceMul, Nat.reduceSub, Nat.reduceDiv, Int.reduceToNat, Int.reduceAdd, Int.reduceSub, Int.reduceMul, Int.reduceNeg, Int.reduceEq, Int.reduceLT, Int.reduceLE]; with_reducible rfl) ?_
      | ((with_reducible refine chk_r ?_); refine r_callF (by simp only [CA, Nat.reduceEqDiff, ↓reduceIte]; rfl) (by exact rfl) (by simp only [CA, Nat.reduceEqDiff, ↓reduceIte]; rfl) rfl ?_)
      | ((with_reducible refine chk_h ?_); refine hr_callF (by simp only [CA, Nat.reduceEqDiff, ↓reduceIte]; rfl) (by exact rfl) (by simp only [CA, Nat.reduceEqDiff, ↓reduceIte]; rfl) rfl ?_)
      | ((with_reducible refine chk_r ?_); refine r_callP (by simp only [CA, Nat.reduceEqDiff, ↓reduceIte]; rfl) (by simp only [CA, Nat.reduceEqDiff, ↓reduceIte]; rfl) (by first | exact q21 _) rfl ?_)
      | ((with_reducible refine chk_h ?_); refine hr_callP (by simp only [CA, Nat.reduceEqDiff, ↓reduceIte]; rfl) (by simp only [CA, Nat.reduceEqDiff, ↓reduceIte]; rfl) (by first | exact q21 _) rfl ?_)
      | (with_reducible refine k_condP (by simp only [GA, Nat.reduceEqDiff, ↓reduceIte]; rfl) (by first | (simp only [BO]; rfl) | rfl) (fun ht => ?_) (fun ht => ?_) <;> try (first | exact False.elim ht | exact absurd rfl ht | exact absurd trivial ht | exact Bool.noConfusion ht))
      | (with_reducible refine k_ret ?_; repeat with_reducible (first | refine ret_thru ?_ | refine ret_blk ?_ | refine fin ?_))
      | (with_reducible refine k_exit ?_; repeat with_reducible (first | refine thru ?_ | refine out_blk ?_ | refine pass (by decide) ?_))
      | (refine post1 ?_; simp only [GA, Nat.reduceEqDiff, ↓reduceIte])
      | (refine post2 ?_; simp only [GA, Nat.reduceEqDiff, ↓reduceIte])
      | (refine post3 ?_; simp only [GA, Nat.reduceEqDiff, ↓reduceIte])
      | (refine postc (by simp only [GA, Nat.reduceEqDiff, ↓reduceIte]; rfl) (by simp (disch := omega) only [c49r0, c49r1, c49r2, c49r3, c49r4, c49r5, c49r6, c49r7, c49r8, c49r9, c49r10, c49r11, c49r12, c49r13, c49r14, c49r15, c49r16, c49r17, c49r19, EV0, EV1, EV2, EV3, EV4, EV5, EV6, EV7, plug, ite_same, decide_true, decide_false, eq_self, ↓reduceIte, reduceCtorEq, Nat.reduceAdd, Nat.reduceEqDiff, Nat.reduceLT, Nat.reduceLeDiff, Nat.reduceMul, Nat.reduceSub, Nat.reduceDiv, Int.reduceToNat, Int.reduceAdd, Int.reduceSub, Int.reduceMul, Int.reduceNeg, Int.reduceEq, Int.reduceLT, Int.reduceLE]; rfl) ?_)
      | refine post0 ?_
    exact ⟨.sl 0 0 0 0, rfl, 0, 0, 0, rfl, .inl ⟨rfl, rfl, rfl⟩⟩
  | true =>
    rw [hv] at q21
    by_cases hn2 : (200 : Int) < n
    · have er : hres a b c d e f st0 bad n = (4, 0, []) := by unfold hres; rw [if_pos hv, if_pos (by omega)]
      rw [er]
      repeat' first
        | with_reducible refine k_seq ?_
        | with_reducible refine k_skip ?_
        | with_reducible refine k_blkS ?_
        | with_reducible refine k_reg ?_
        | with_reducible refine k_head ?_
        | with_reducible refine r_done ?_
        | with_reducible refine hr_done ?_
        | with_reducible refine s_go (by simp (disch := omega) only [hn2, c49r0, c49r1, c49r2, c49r3, c49r4, c49r5, c49r6, c49r7, c49r8, c49r9, c49r10, c49r11, c49r12, c49r13, c49r14, c49r15, c49r16, c49r17, c49r19, EV0, EV1, EV2, EV3, EV4, EV5, EV6, EV7, plug, ite_same, decide_true, decide_false, eq_self, ↓reduceIte, reduceCtorEq, Nat.reduceAdd, Nat.reduceEqDiff, Nat.reduceLT, Nat.reduceLeDiff, Nat.reduceMul, Nat.reduceSub, Nat.reduceDiv, Int.reduceToNat, Int.reduceAdd, Int.reduceSub, Int.reduceMul, Int.reduceNeg, Int.reduceEq, Int.reduceLT, Int.reduceLE]; with_reducible rfl) ?_
        | with_reducible refine h_go (by with_unfolding_all rfl) (by simp (disch := omega) only [hn2, c49r0, c49r1, c49r2, c49r3, c49r4, c49r5, c49r6, c49r7, c49r8, c49r9, c49r10, c49r11, c49r12, c49r13, c49r14, c49r15, c49r16, c49r17, c49r19, EV0, EV1, EV2, EV3, EV4, EV5, EV6, EV7, plug, ite_same, decide_true, decide_false, eq_self, ↓reduceIte, reduceCtorEq, Nat.reduceAdd, Nat.reduceEqDiff, Nat.reduceLT, Nat.reduceLeDiff, Nat.reduceMul, Nat.reduceSub, Nat.reduceDiv, Int.reduceToNat, Int.reduceAdd, Int.reduceSub, Int.reduceMul, Int.reduceNeg, Int.reduceEq, Int.reduceLT, Int.reduceLE]; with_reducible rfl) ?_
        | ((with_reducible refine chk_r ?_); refine r_callF (by simp only [CA, Nat.reduceEqDiff, ↓reduceIte]; rfl) (by exact rfl) (by simp only [CA, Nat.reduceEqDiff, ↓reduceIte]; rfl) rfl ?_)
        | ((with_reducible refine chk_h ?_); refine hr_callF (by simp only [CA, Nat.reduceEqDiff, ↓reduceIte]; rfl) (by exact rfl) (by simp only [CA, Nat.reduceEqDiff, ↓reduceIte]; rfl) rfl ?_)
        | ((with_reducible refine chk_r ?_); refine r_callP (by simp only [CA, Nat.reduceEqDiff, ↓reduceIte]; rfl) (by simp only [CA, Nat.reduceEqDiff, ↓reduceIte]; rfl) (by first | exact q21 _) rfl ?_)
        | ((with_reducible refine chk_h ?_); refine hr_callP (by simp only [CA, Nat.reduceEqDiff, ↓reduceIte]; rfl) (by simp only [CA, Nat.reduceEqDiff, ↓reduceIte]; rfl) (by first | exact q21 _) rfl ?_)
        | (with_reducible refine k_condP (by simp only [GA, Nat.reduceEqDiff, ↓reduceIte]; rfl) (by first | (simp only [BO]; rfl) | rfl) (fun ht => ?_) (fun ht => ?_) <;> try (first | exact False.elim ht | exact absurd rfl ht | exact absurd trivial ht | exact Bool.noConfusion ht))
        | (with_reducible refine k_ret ?_; repeat with_reducible (first | refine ret_thru ?_ | refine ret_blk ?_ | refine fin ?_))
        | (with_reducible refine k_exit ?_; repeat with_reducible (first | refine thru ?_ | refine out_blk ?_ | refine pass (by decide) ?_))
        | (refine post1 ?_; simp only [GA, Nat.reduceEqDiff, ↓reduceIte])
        | (refine post2 ?_; simp only [GA, Nat.reduceEqDiff, ↓reduceIte])
        | (refine post3 ?_; simp only [GA, Nat.reduceEqDiff, ↓reduceIte])
        | (refine postc (by simp only [GA, Nat.reduceEqDiff, ↓reduceIte]; rfl) (by simp (disch := omega) only [hn2, c49r0, c49r1, c49r2, c49r3, c49r4, c49r5, c49r6, c49r7, c49r8, c49r9, c49r10, c49r11, c49r12, c49r13, c49r14, c49r15, c49r16, c49r17, c49r19, EV0, EV1, EV2, EV3, EV4, EV5, EV6, EV7, plug, ite_same, decide_true, decide_false, eq_self, ↓reduceIte, reduceCtorEq, Nat.reduceAdd, Nat.reduceEqDiff, Nat.reduceLT, Nat.reduceLeDiff, Nat.reduceMul, Nat.reduceSub, Nat.reduceDiv, Int.reduceToNat, Int.reduceAdd, Int.reduceSub, Int.reduceMul, Int.reduceNeg, Int.reduceEq, Int.reduceLT, Int.reduceLE]; rfl) ?_)
        | refine post0 ?_
      exact ⟨.sl 0 0 0 0, rfl, 0, 0, 0, rfl, .inl ⟨rfl, rfl, rfl⟩⟩
    have eb : ∀ i : Nat, i < n → ∀ e1 : Int, (hk a b c d e f st0 bad (i + 1)).err = e1 → e1 ≠ 0 → hres a b c d e f st0 bad n = (e1, 0, []) := by
      intro i hi e1 h1 h2
      have h3 := hk_err (a := a) (b := b) (c := c) (d := d) (e := e) (f := f) (st0 := st0) (bad := bad) (k := i + 1) (by rw [h1]; exact h2) (n - (i + 1))
      rw [show i + 1 + (n - (i + 1)) = n by omega] at h3
      unfold hres
      rw [if_pos hv, if_neg (by omega), h3, if_pos (by rw [h1]; exact h2), h1]
    have badEnd : ∀ (H : AH) (e1 : Int), hres a b c d e f st0 bad n = (e1, 0, []) → ∃ s, AV.tu [.sl 0 0 0 0, .i .i64 0, .i .i64 e1] = plug (some ([], [.i .i64 (hres a b c d e f st0 bad n).2.1, .i .i64 (hres a b c d e f st0 bad n).1])) s ∧ IsNew 2 (hres a b c d e f st0 bad n).2.2.length (ol (hres a b c d e f st0 bad n).2.2) s H := by
      intro H e1 he
      rw [he]
      exact ⟨.sl 0 0 0 0, rfl, 0, 0, 0, rfl, .inl ⟨rfl, rfl, rfl⟩⟩
    repeat' first
      | with_reducible refine k_seq ?_
      | with_reducible refine k_skip ?_
      | with_reducible refine k_blkS ?_
      | with_reducible refine k_reg ?_
      | with_reducible refine k_head ?_
      | with_reducible refine r_done ?_
      | with_reducible refine hr_done ?_
      | with_reducible refine s_go (by simp (disch := omega) only [hn2, c49r0, c49r1, c49r2, c49r3, c49r4, c49r5, c49r6, c49r7, c49r8, c49r9, c49r10, c49r11, c49r12, c49r13, c49r14, c49r15, c49r16, c49r17, c49r19, EV0, EV1, EV2, EV3, EV4, EV5, EV6, EV7, plug, ite_same, decide_true, decide_false, eq_self, ↓reduceIte, reduceCtorEq, Nat.reduceAdd, Nat.reduceEqDiff, Nat.reduceLT, Nat.reduceLeDiff, Nat.reduceMul, Nat.reduceSub, Nat.reduceDiv, Int.reduceToNat, Int.reduceAdd, Int.reduceSub, Int.reduceMul, Int.reduceNeg, Int.reduceEq, Int.reduceLT, Int.reduceLE]; with_reducible rfl) ?_
      | with_reducible refine h_go (by with_unfolding_all rfl) (by simp (disch := omega) only [hn2, c49r0, c49r1, c49r2, c49r3, c49r4, c49r5, c49r6, c49r7, c49r8, c49r9, c49r10, c49r11, c49r12, c49r13, c49r14, c49r15, c49r16, c49r17, c49r19, EV0, EV1, EV2, EV3, EV4, EV5, EV6, EV7, plug, ite_same, decide_true, decide_false, eq_self, ↓reduceIte, reduceCtorEq, Nat.reduceAdd, Nat.reduceEqDiff, Nat.reduceLT, Nat.reduceLeDiff, Nat.reduceMul, Nat.reduceSub, Nat.reduceDiv, Int.reduceToNat, Int.reduceAdd, Int.reduceSub, Int.reduceMul, Int.reduceNeg, Int.reduceEq, Int.reduceLT, Int.reduceLE]; with_reducible rfl) ?_
      | ((with_reducible refine chk_r ?_); refine r_callF (by simp only [CA, Nat.reduceEqDiff, ↓reduceIte]; rfl) (by exact rfl) (by simp only [CA, Nat.reduceEqDiff, ↓reduceIte]; rfl) rfl ?_)
      | ((with_reducible refine chk_h ?_); refine hr_callF (by simp only [CA, Nat.reduceEqDiff, ↓reduceIte]; rfl) (by exact rfl) (by simp only [CA, Nat.reduceEqDiff, ↓reduceIte]; rfl) rfl ?_)
      | ((with_reducible refine chk_r ?_); refine r_callP (by simp only [CA, Nat.reduceEqDiff, ↓reduceIte]; rfl) (by simp only [CA, Nat.reduceEqDiff, ↓reduceIte]; rfl) (by first | exact q21 _) rfl ?_)
      | ((with_reducible refine chk_h ?_); refine hr_callP (by simp only [CA, Nat.reduceEqDiff, ↓reduceIte]; rfl) (by simp only [CA, Nat.reduceEqDiff, ↓reduceIte]; rfl) (by first | exact q21 _) rfl ?_)
      | (with_reducible refine k_condP (by simp only [GA, Nat.reduceEqDiff, ↓reduceIte]; rfl) (by first | (simp only [BO]; rfl) | rfl) (fun ht => ?_) (fun ht => ?_) <;> try (first | exact False.elim ht | exact absurd rfl ht | exact absurd trivial ht | exact Bool.noConfusion ht))
      | (with_reducible refine k_ret ?_; repeat with_reducible (first | refine ret_thru ?_ | refine ret_blk ?_ | refine fin ?_))
      | (with_reducible refine k_exit ?_; repeat with_reducible (first | refine thru ?_ | refine out_blk ?_ | refine pass (by decide) ?_))
      | (refine post1 ?_; simp only [GA, Nat.reduceEqDiff, ↓reduceIte])
      | (refine post2 ?_; simp only [GA, Nat.reduceEqDiff, ↓reduceIte])
      | (refine post3 ?_; simp only [GA, Nat.reduceEqDiff, ↓reduceIte])
      | (refine postc (by simp only [GA, Nat.reduceEqDiff, ↓reduceIte]; rfl) (by simp (disch := omega) only [hn2, c49r0, c49r1, c49r2, c49r3, c49r4, c49r5, c49r6, c49r7, c49r8, c49r9, c49r10, c49r11, c49r12, c49r13, c49r14, c49r15, c49r16, c49r17, c49r19, EV0, EV1, EV2, EV3, EV4, EV5, EV6, EV7, plug, ite_same, decide_true, decide_false, eq_self, ↓reduceIte, reduceCtorEq, Nat.reduceAdd, Nat.reduceEqDiff, Nat.reduceLT, Nat.reduceLeDiff, Nat.reduceMul, Nat.reduceSub, Nat.reduceDiv, Int.reduceToNat, Int.reduceAdd, Int.reduceSub, Int.reduceMul, Int.reduceNeg, Int.reduceEq, Int.reduceLT, Int.reduceLE]; rfl) ?_)
      | refine post0 ?_
    refine k_blk (k_loop (fun m st h => ∃ i to ao tr T : Nat, ∃ X : Hs, Am.keep [27, 26, 25, 10, 9] st = [(27, .i .i64 i), (26, .i .i64 n), (25, .sl tf of_ n af), (10, .sl to 0 X.o.length ao), (9, .p T 0)] ∧ m = n - i ∧ i ≤ n ∧ hk a b c d e f st0 bad i = X ∧ X.err = 0 ∧
      Insp h T [.i .i64 a, .i .i64 b, .i .i64 c, .i .i64 d, .i .i64 e, .i .i64 f] X.st X.l tr ∧ Outs h to ao X.o ∧ to ≠ T ∧ (to = 0 ∨ to ≠ tr) ∧ h0.nx ≤ T ∧ (tr = 0 ∨ h0.nx ≤ tr) ∧ (to = 0 ∨ h0.nx ≤ to) ∧ (∀ j, j < n → h.read tf (of_ + j) none = some (.i .i64 (bad j)))) n ?_ ?_)
    · refine ⟨0, 0, 0, 0, _, ⟨0, st0, [], []⟩, rfl, by omega, by omega, rfl, rfl, ⟨0, ?_, .inl ⟨rfl, rfl⟩⟩, .inl ⟨rfl, rfl⟩, by omega, .inl rfl, by omega, .inl rfl, .inl rfl, fun j hj => ?_⟩
      · simp (disch := omega) only [c49r0, c49r1, c49r2, c49r3, c49r4, c49r5, c49r6, c49r7, c49r8, c49r9, c49r10, c49r11, c49r12, c49r13, c49r14, c49r15, c49r16, c49r17, c49r19, EV0, EV1, EV2, EV3, EV4, EV5, EV6, EV7, plug, ite_same, decide_true, decide_false, eq_self, ↓reduceIte, reduceCtorEq, Nat.reduceAdd, Nat.reduceEqDiff, Nat.reduceLT, Nat.reduceLeDiff, Nat.reduceMul, Nat.reduceSub, Nat.reduceDiv, Int.reduceToNat, Int.reduceAdd, Int.reduceSub, Int.reduceMul, Int.reduceNeg, Int.reduceEq, Int.reduceLT, Int.reduceLE]
      · have := q1 j hj
        simp (disch := omega) only [hb', c49r0, c49r1, c49r2, c49r3, c49r4, c49r5, c49r6, c49r7, c49r8, c49r9, c49r10, c49r11, c49r12, c49r13, c49r14, c49r15, c49r16, c49r17, c49r19, EV0, EV1, EV2, EV3, EV4, EV5, EV6, EV7, plug, ite_same, decide_true, decide_false, eq_self, ↓reduceIte, reduceCtorEq, Nat.reduceAdd, Nat.reduceEqDiff, Nat.reduceLT, Nat.reduceLeDiff, Nat.reduceMul, Nat.reduceSub, Nat.reduceDiv, Int.reduceToNat, Int.reduceAdd, Int.reduceSub, Int.reduceMul, Int.reduceNeg, Int.reduceEq, Int.reduceLT, Int.reduceLE]
    · rintro m st h ⟨i, to, ao, tr, T, X, hk', rfl, hi, hX, he, ⟨aI, hm, hrow⟩, hO, d1, d2, d3, d4, d5, hrd⟩
      refine k_inv hk' (w_ok fun ok pos => ?_)
      simp only [List.cons_append, List.nil_append] at hm
      have hT := ok.m hm
      have lens := hk_len a b c d e f st0 bad i
      rw [hX] at lens
      by_cases hc : (i : Int) < n
      · have hs : hk a b c d e f st0 bad (i + 1) = hstep a b c d e f X (bad i) := by rw [← hX]; rfl
        by_cases s4 : X.st = 4
        · have he2 : (hk a b c d e f st0 bad (i + 1)).err = 51 := by rw [hs]; simp [hstep, he, s4]
          repeat' first
            | with_reducible refine k_seq ?_
            | with_reducible refine k_skip ?_
            | with_reducible refine k_blkS ?_
            | with_reducible refine k_reg ?_
            | with_reducible refine k_head ?_
            | with_reducible refine r_done ?_
            | with_reducible refine hr_done ?_
            | with_reducible refine s_go (by simp (disch := omega) only [hc, s4, hrd, read_row (row_m hm), c49r0, c49r1, c49r2, c49r3, c49r4, c49r5, c49r6, c49r7, c49r8, c49r9, c49r10, c49r11, c49r12, c49r13, c49r14, c49r15, c49r16, c49r17, c49r19, EV0, EV1, EV2, EV3, EV4, EV5, EV6, EV7, plug, ite_same, decide_true, decide_false, eq_self, ↓reduceIte, reduceCtorEq, Nat.reduceAdd, Nat.reduceEqDiff, Nat.reduceLT, Nat.reduceLeDiff, Nat.reduceMul, Nat.reduceSub, Nat.reduceDiv, Int.reduceToNat, Int.reduceAdd, Int.reduceSub, Int.reduceMul, Int.reduceNeg, Int.reduceEq, Int.reduceLT, Int.reduceLE]; with_reducible rfl) ?_
            | with_reducible refine h_go (by with_unfolding_all rfl) (by simp (disch := omega) only [hc, s4, hrd, read_row (row_m hm), c49r0, c49r1, c49r2, c49r3, c49r4, c49r5, c49r6, c49r7, c49r8, c49r9, c49r10, c49r11, c49r12, c49r13, c49r14, c49r15, c49r16, c49r17, c49r19, EV0, EV1, EV2, EV3, EV4, EV5, EV6, EV7, plug, ite_same, decide_true, decide_false, eq_self, ↓reduceIte, reduceCtorEq, Nat.reduceAdd, Nat.reduceEqDiff, Nat.reduceLT, Nat.reduceLeDiff, Nat.reduceMul, Nat.reduceSub, Nat.reduceDiv, Int.reduceToNat, Int.reduceAdd, Int.reduceSub, Int.reduceMul, Int.reduceNeg, Int.reduceEq, Int.reduceLT, Int.reduceLE]; with_reducible rfl) ?_
            | ((with_reducible refine chk_r ?_); refine r_callF (by simp only [CA, Nat.reduceEqDiff, ↓reduceIte]; rfl) (by exact rfl) (by simp only [CA, Nat.reduceEqDiff, ↓reduceIte]; rfl) rfl ?_)
            | ((with_reducible refine chk_h ?_); refine hr_callF (by simp only [CA, Nat.reduceEqDiff, ↓reduceIte]; rfl) (by exact rfl) (by simp only [CA, Nat.reduceEqDiff, ↓reduceIte]; rfl) rfl ?_)
            | (with_reducible refine k_condP (by simp only [GA, Nat.reduceEqDiff, ↓reduceIte]; rfl) (by first | (simp only [BO]; rfl) | rfl) (fun ht => ?_) (fun ht => ?_) <;> try (first | exact False.elim ht | exact absurd rfl ht | exact absurd trivial ht | exact Bool.noConfusion ht))
            | (with_reducible refine k_ret ?_; repeat with_reducible (first | refine ret_thru ?_ | refine ret_blk ?_ | refine fin ?_))
            | (with_reducible refine k_exit ?_; repeat with_reducible (first | refine thru ?_ | refine out_blk ?_ | refine pass (by decide) ?_))
            | (refine post1 ?_; simp only [GA, Nat.reduceEqDiff, ↓reduceIte])
            | (refine post2 ?_; simp only [GA, Nat.reduceEqDiff, ↓reduceIte])
            | (refine post3 ?_; simp only [GA, Nat.reduceEqDiff, ↓reduceIte])
            | (refine postc (by simp only [GA, Nat.reduceEqDiff, ↓reduceIte]; rfl) (by simp (disch := omega) only [hc, s4, hrd, read_row (row_m hm), c49r0, c49r1, c49r2, c49r3, c49r4, c49r5, c49r6, c49r7, c49r8, c49r9, c49r10, c49r11, c49r12, c49r13, c49r14, c49r15, c49r16, c49r17, c49r19, EV0, EV1, EV2, EV3, EV4, EV5, EV6, EV7, plug, ite_same, decide_true, decide_false, eq_self, ↓reduceIte, reduceCtorEq, Nat.reduceAdd, Nat.reduceEqDiff, Nat.reduceLT, Nat.reduceLeDiff, Nat.reduceMul, Nat.reduceSub, Nat.reduceDiv, Int.reduceToNat, Int.reduceAdd, Int.reduceSub, Int.reduceMul, Int.reduceNeg, Int.reduceEq, Int.reduceLT, Int.reduceLE]; rfl) ?_)
            | refine post0 ?_
          exact badEnd _ 51 (eb i (by omega) 51 he2 (by omega))
        · obtain ⟨p1, hp1⟩ : ∃ p, (pl6 a b c d e f X.st).1 = p := ⟨_, rfl⟩
          obtain ⟨p2, hp2⟩ : ∃ p, (pl6 a b c d e f X.st).2 = p := ⟨_, rfl⟩
          have q54 := fun h hh => f54 T a b c d e f X.st (.sl tr 0 X.l.length aI) h hh
          rw [hp1, hp2] at q54
          have q17 := f17 p1 p2 (bad i)
          have hs2 : hstep a b c d e f X (bad i) = if (av p1 p2 (bad i)).2 ≠ 0 then { X with err := (av p1 p2 (bad i)).2 } else ⟨0, bh X.st (X.l ++ [(av p1 p2 (bad i)).1]), nl X.st X.l (av p1 p2 (bad i)).1, X.o ++ [(X.st, (av p1 p2 (bad i)).1)]⟩ := by
            unfold hstep
            rw [if_neg (by simp [he]), if_neg s4]
            simp only [hp1, hp2]
          generalize (av p1 p2 (bad i)).1 = okv at q17 hs2
          generalize (av p1 p2 (bad i)).2 = ev at q17 hs2
          have rT := row_m hm
          have hl1 : (X.o ++ [(X.st, okv)]).length = X.o.length + 1 := by simp
          have hso := ol_snoc X.o X.st okv
          have hol := ol_len X.o
          have h1o := ol_one X.o
          have htr : tr < h.nx := by
            rcases hrow with ⟨_, rfl⟩ | ⟨_, _, _, r4⟩
            · exact pos
            · exact ok.m r4
          by_cases e0 : ev = 0
          · subst e0
            have hsn : hk a b c d e f st0 bad (i + 1) = ⟨0, bh X.st (X.l ++ [okv]), nl X.st X.l okv, X.o ++ [(X.st, okv)]⟩ := by rw [hs, hs2, if_neg (by simp)]
            rcases hO with ⟨hO, rfl⟩ | ⟨rfl, hto, hOm⟩
            · have hl0 : X.o.length = 0 := by rw [hO]; rfl
              repeat' first
                | with_reducible refine k_seq ?_
                | with_reducible refine k_skip ?_
                | with_reducible refine k_blkS ?_
                | with_reducible refine k_reg ?_
                | with_reducible refine k_head ?_
                | with_reducible refine r_done ?_
                | with_reducible refine hr_done ?_
                | with_reducible refine s_go (by simp (disch := omega) only [hc, s4, hl0, hrd, read_row (row_m hm), c49r0, c49r1, c49r2, c49r3, c49r4, c49r5, c49r6, c49r7, c49r8, c49r9, c49r10, c49r11, c49r12, c49r13, c49r14, c49r15, c49r16, c49r17, c49r19, EV0, EV1, EV2, EV3, EV4, EV5, EV6, EV7, plug, ite_same, decide_true, decide_false, eq_self, ↓reduceIte, reduceCtorEq, Nat.reduceAdd, Nat.reduceEqDiff, Nat.reduceLT, Nat.reduceLeDiff, Nat.reduceMul, Nat.reduceSub, Nat.reduceDiv, Int.reduceToNat, Int.reduceAdd, Int.reduceSub, Int.reduceMul, Int.reduceNeg, Int.reduceEq, Int.reduceLT, Int.reduceLE]; with_reducible rfl) ?_
                | with_reducible refine h_go (by with_unfolding_all rfl) (by simp (disch := omega) only [hc, s4, hl0, hrd, read_row (row_m hm), c49r0, c49r1, c49r2, c49r3, c49r4, c49r5, c49r6, c49r7, c49r8, c49r9, c49r10, c49r11, c49r12, c49r13, c49r14, c49r15, c49r16, c49r17, c49r19, EV0, EV1, EV2, EV3, EV4, EV5, EV6, EV7, plug, ite_same, decide_true, decide_false, eq_self, ↓reduceIte, reduceCtorEq, Nat.reduceAdd, Nat.reduceEqDiff, Nat.reduceLT, Nat.reduceLeDiff, Nat.reduceMul, Nat.reduceSub, Nat.reduceDiv, Int.reduceToNat, Int.reduceAdd, Int.reduceSub, Int.reduceMul, Int.reduceNeg, Int.reduceEq, Int.reduceLT, Int.reduceLE]; with_reducible rfl) ?_
                | ((with_reducible refine chk_r ?_); refine r_callF (by simp only [CA, Nat.reduceEqDiff, ↓reduceIte]; rfl) (by exact rfl) (by simp only [CA, Nat.reduceEqDiff, ↓reduceIte]; rfl) rfl ?_)
                | ((with_reducible refine chk_h ?_); refine hr_callF (by simp only [CA, Nat.reduceEqDiff, ↓reduceIte]; rfl) (by exact rfl) (by simp only [CA, Nat.reduceEqDiff, ↓reduceIte]; rfl) rfl ?_)
                | ((with_reducible refine chk_r ?_); refine r_callP (by simp only [CA, Nat.reduceEqDiff, ↓reduceIte]; rfl) (by simp only [CA, Nat.reduceEqDiff, ↓reduceIte]; rfl) (by first | (refine q54 _ ?_ <;> assumption) | exact q17 _) rfl ?_)
                | ((with_reducible refine chk_h ?_); refine hr_callP (by simp only [CA, Nat.reduceEqDiff, ↓reduceIte]; rfl) (by simp only [CA, Nat.reduceEqDiff, ↓reduceIte]; rfl) (by first | (refine q54 _ ?_ <;> assumption) | exact q17 _) rfl ?_)
                | (with_reducible refine k_condP (by simp only [GA, Nat.reduceEqDiff, ↓reduceIte]; rfl) (by first | (simp only [BO]; rfl) | rfl) (fun ht => ?_) (fun ht => ?_) <;> try (first | exact False.elim ht | exact absurd rfl ht | exact absurd trivial ht | exact Bool.noConfusion ht))
                | (with_reducible refine k_ret ?_; repeat with_reducible (first | refine ret_thru ?_ | refine ret_blk ?_ | refine fin ?_))
                | (with_reducible refine k_exit ?_; repeat with_reducible (first | refine thru ?_ | refine out_blk ?_ | refine pass (by decide) ?_))
                | (refine post1 ?_; simp only [GA, Nat.reduceEqDiff, ↓reduceIte])
                | (refine post2 ?_; simp only [GA, Nat.reduceEqDiff, ↓reduceIte])
                | (refine post3 ?_; simp only [GA, Nat.reduceEqDiff, ↓reduceIte])
                | (refine postc (by simp only [GA, Nat.reduceEqDiff, ↓reduceIte]; rfl) (by simp (disch := omega) only [hc, s4, hl0, hrd, read_row (row_m hm), c49r0, c49r1, c49r2, c49r3, c49r4, c49r5, c49r6, c49r7, c49r8, c49r9, c49r10, c49r11, c49r12, c49r13, c49r14, c49r15, c49r16, c49r17, c49r19, EV0, EV1, EV2, EV3, EV4, EV5, EV6, EV7, plug, ite_same, decide_true, decide_false, eq_self, ↓reduceIte, reduceCtorEq, Nat.reduceAdd, Nat.reduceEqDiff, Nat.reduceLT, Nat.reduceLeDiff, Nat.reduceMul, Nat.reduceSub, Nat.reduceDiv, Int.reduceToNat, Int.reduceAdd, Int.reduceSub, Int.reduceMul, Int.reduceNeg, Int.reduceEq, Int.reduceLT, Int.reduceLE]; rfl) ?_)
                | refine post0 ?_
              refine r_callX rfl (by simp only [CA, Nat.reduceEqDiff, ↓reduceIte]) (f55 T tr (.i .i64 a) (.i .i64 b) (.i .i64 c) (.i .i64 d) (.i .i64 e) (.i .i64 f) X.st X.l okv (by omega) _ ⟨aI, ?_, ?_⟩) rfl ?_
              · simp (disch := omega) only [hm, c49r0, c49r1, c49r2, c49r3, c49r4, c49r5, c49r6, c49r7, c49r8, c49r9, c49r10, c49r11, c49r12, c49r13, c49r14, c49r15, c49r16, c49r17, c49r19, EV0, EV1, EV2, EV3, EV4, EV5, EV6, EV7, plug, ite_same, decide_true, decide_false, eq_self, ↓reduceIte, reduceCtorEq, Nat.reduceAdd, Nat.reduceEqDiff, Nat.reduceLT, Nat.reduceLeDiff, Nat.reduceMul, Nat.reduceSub, Nat.reduceDiv, Int.reduceToNat, Int.reduceAdd, Int.reduceSub, Int.reduceMul, Int.reduceNeg, Int.reduceEq, Int.reduceLT, Int.reduceLE]
              · rcases hrow with hrow | ⟨r1, r2, r3, r4⟩
                · exact .inl hrow
                · have := ok.m r4
                  exact .inr ⟨r1, r2, r3, by simp (disch := omega) only [r4, c49r0, c49r1, c49r2, c49r3, c49r4, c49r5, c49r6, c49r7, c49r8, c49r9, c49r10, c49r11, c49r12, c49r13, c49r14, c49r15, c49r16, c49r17, c49r19, EV0, EV1, EV2, EV3, EV4, EV5, EV6, EV7, plug, ite_same, decide_true, decide_false, eq_self, ↓reduceIte, reduceCtorEq, Nat.reduceAdd, Nat.reduceEqDiff, Nat.reduceLT, Nat.reduceLeDiff, Nat.reduceMul, Nat.reduceSub, Nat.reduceDiv, Int.reduceToNat, Int.reduceAdd, Int.reduceSub, Int.reduceMul, Int.reduceNeg, Int.reduceEq, Int.reduceLT, Int.reduceLE]⟩
              · rintro r H' ⟨tr', hI2, fr, nx, htr'⟩
                simp only [AH.bump_nx, AH.set_nx, AH.kill_nx] at nx htr' fr
                repeat' first
                  | with_reducible refine k_seq ?_
                  | with_reducible refine k_skip ?_
                  | with_reducible refine k_blkS ?_
                  | with_reducible refine k_reg ?_
                  | with_reducible refine k_head ?_
                  | with_reducible refine r_done ?_
                  | with_reducible refine hr_done ?_
                  | with_reducible refine s_go (by simp (disch := omega) only [c49r0, c49r1, c49r2, c49r3, c49r4, c49r5, c49r6, c49r7, c49r8, c49r9, c49r10, c49r11, c49r12, c49r13, c49r14, c49r15, c49r16, c49r17, c49r19, EV0, EV1, EV2, EV3, EV4, EV5, EV6, EV7, plug, ite_same, decide_true, decide_false, eq_self, ↓reduceIte, reduceCtorEq, Nat.reduceAdd, Nat.reduceEqDiff, Nat.reduceLT, Nat.reduceLeDiff, Nat.reduceMul, Nat.reduceSub, Nat.reduceDiv, Int.reduceToNat, Int.reduceAdd, Int.reduceSub, Int.reduceMul, Int.reduceNeg, Int.reduceEq, Int.reduceLT, Int.reduceLE]; with_reducible rfl) ?_
                  | with_reducible refine h_go (by with_unfolding_all rfl) (by simp (disch := omega) only [c49r0, c49r1, c49r2, c49r3, c49r4, c49r5, c49r6, c49r7, c49r8, c49r9, c49r10, c49r11, c49r12, c49r13, c49r14, c49r15, c49r16, c49r17, c49r19, EV0, EV1, EV2, EV3, EV4, EV5, EV6, EV7, plug, ite_same, decide_true, decide_false, eq_self, ↓reduceIte, reduceCtorEq, Nat.reduceAdd, Nat.reduceEqDiff, Nat.reduceLT, Nat.reduceLeDiff, Nat.reduceMul, Nat.reduceSub, Nat.reduceDiv, Int.reduceToNat, Int.reduceAdd, Int.reduceSub, Int.reduceMul, Int.reduceNeg, Int.reduceEq, Int.reduceLT, Int.reduceLE]; with_reducible rfl) ?_
                  | ((with_reducible refine chk_r ?_); refine r_callF (by simp only [CA, Nat.reduceEqDiff, ↓reduceIte]; rfl) (by exact rfl) (by simp only [CA, Nat.reduceEqDiff, ↓reduceIte]; rfl) rfl ?_)
                  | ((with_reducible refine chk_h ?_); refine hr_callF (by simp only [CA, Nat.reduceEqDiff, ↓reduceIte]; rfl) (by exact rfl) (by simp only [CA, Nat.reduceEqDiff, ↓reduceIte]; rfl) rfl ?_)
                  | (with_reducible refine k_condP (by simp only [GA, Nat.reduceEqDiff, ↓reduceIte]; rfl) (by first | (simp only [BO]; rfl) | rfl) (fun ht => ?_) (fun ht => ?_) <;> try (first | exact False.elim ht | exact absurd rfl ht | exact absurd trivial ht | exact Bool.noConfusion ht))
                  | (with_reducible refine k_ret ?_; repeat with_reducible (first | refine ret_thru ?_ | refine ret_blk ?_ | refine fin ?_))
                  | (with_reducible refine k_exit ?_; repeat with_reducible (first | refine thru ?_ | refine out_blk ?_ | refine pass (by decide) ?_))
                  | (refine post1 ?_; simp only [GA, Nat.reduceEqDiff, ↓reduceIte])
                  | (refine post2 ?_; simp only [GA, Nat.reduceEqDiff, ↓reduceIte])
                  | (refine post3 ?_; simp only [GA, Nat.reduceEqDiff, ↓reduceIte])
                  | (refine postc (by simp only [GA, Nat.reduceEqDiff, ↓reduceIte]; rfl) (by simp (disch := omega) only [c49r0, c49r1, c49r2, c49r3, c49r4, c49r5, c49r6, c49r7, c49r8, c49r9, c49r10, c49r11, c49r12, c49r13, c49r14, c49r15, c49r16, c49r17, c49r19, EV0, EV1, EV2, EV3, EV4, EV5, EV6, EV7, plug, ite_same, decide_true, decide_false, eq_self, ↓reduceIte, reduceCtorEq, Nat.reduceAdd, Nat.reduceEqDiff, Nat.reduceLT, Nat.reduceLeDiff, Nat.reduceMul, Nat.reduceSub, Nat.reduceDiv, Int.reduceToNat, Int.reduceAdd, Int.reduceSub, Int.reduceMul, Int.reduceNeg, Int.reduceEq, Int.reduceLT, Int.reduceLE]; rfl) ?_)
                  | refine post0 ?_
                refine ⟨_, ?_, i + 1, _, 2, tr', T, ⟨0, bh X.st (X.l ++ [okv]), nl X.st X.l okv, X.o ++ [(X.st, okv)]⟩, by simp only [hl1, hl0]; rfl, rfl, by omega, hsn, rfl, hI2, .inr ⟨rfl, ?_, ?_⟩, ?_, ?_, d3, ?_, ?_, ?_⟩
                · omega
                · omega
                · rw [AH.bump_m, fr _ (by omega) (by omega) (.inl (by omega))]
                  simp (disch := omega) only [c49r0, c49r1, c49r2, c49r3, c49r4, c49r5, c49r6, c49r7, c49r8, c49r9, c49r10, c49r11, c49r12, c49r13, c49r14, c49r15, c49r16, c49r17, c49r19, EV0, EV1, EV2, EV3, EV4, EV5, EV6, EV7, plug, ite_same, decide_true, decide_false, eq_self, ↓reduceIte, reduceCtorEq, Nat.reduceAdd, Nat.reduceEqDiff, Nat.reduceLT, Nat.reduceLeDiff, Nat.reduceMul, Nat.reduceSub, Nat.reduceDiv, Int.reduceToNat, Int.reduceAdd, Int.reduceSub, Int.reduceMul, Int.reduceNeg, Int.reduceEq, Int.reduceLT, Int.reduceLE]
                  rw [← hso]
                  rw [hO]; rfl
                · omega
                · omega
                · omega
                · omega
                · intro j hj
                  have := q1 j hj
                  rw [read_bump, read_congr (fr tf (by omega) (by omega) (by omega))]
                  simp (disch := omega) only [hrd, c49r0, c49r1, c49r2, c49r3, c49r4, c49r5, c49r6, c49r7, c49r8, c49r9, c49r10, c49r11, c49r12, c49r13, c49r14, c49r15, c49r16, c49r17, c49r19, EV0, EV1, EV2, EV3, EV4, EV5, EV6, EV7, plug, ite_same, decide_true, decide_false, eq_self, ↓reduceIte, reduceCtorEq, Nat.reduceAdd, Nat.reduceEqDiff, Nat.reduceLT, Nat.reduceLeDiff, Nat.reduceMul, Nat.reduceSub, Nat.reduceDiv, Int.reduceToNat, Int.reduceAdd, Int.reduceSub, Int.reduceMul, Int.reduceNeg, Int.reduceEq, Int.reduceLT, Int.reduceLE]
            · have hto2 := ok.m hOm
              repeat' first
                | with_reducible refine k_seq ?_
                | with_reducible refine k_skip ?_
                | with_reducible refine k_blkS ?_
                | with_reducible refine k_reg ?_
                | with_reducible refine k_head ?_
                | with_reducible refine r_done ?_
                | with_reducible refine hr_done ?_
                | with_reducible refine s_go (by simp (disch := omega) only [hc, s4, hOm, hol, hrd, read_row (row_m hm), c49r0, c49r1, c49r2, c49r3, c49r4, c49r5, c49r6, c49r7, c49r8, c49r9, c49r10, c49r11, c49r12, c49r13, c49r14, c49r15, c49r16, c49r17, c49r19, EV0, EV1, EV2, EV3, EV4, EV5, EV6, EV7, plug, ite_same, decide_true, decide_false, eq_self, ↓reduceIte, reduceCtorEq, Nat.reduceAdd, Nat.reduceEqDiff, Nat.reduceLT, Nat.reduceLeDiff, Nat.reduceMul, Nat.reduceSub, Nat.reduceDiv, Int.reduceToNat, Int.reduceAdd, Int.reduceSub, Int.reduceMul, Int.reduceNeg, Int.reduceEq, Int.reduceLT, Int.reduceLE]; with_reducible rfl) ?_
                | with_reducible refine h_go (by with_unfolding_all rfl) (by simp (disch := omega) only [hc, s4, hOm, hol, hrd, read_row (row_m hm), c49r0, c49r1, c49r2, c49r3, c49r4, c49r5, c49r6, c49r7, c49r8, c49r9, c49r10, c49r11, c49r12, c49r13, c49r14, c49r15, c49r16, c49r17, c49r19, EV0, EV1, EV2, EV3, EV4, EV5, EV6, EV7, plug, ite_same, decide_true, decide_false, eq_self, ↓reduceIte, reduceCtorEq, Nat.reduceAdd, Nat.reduceEqDiff, Nat.reduceLT, Nat.reduceLeDiff, Nat.reduceMul, Nat.reduceSub, Nat.reduceDiv, Int.reduceToNat, Int.reduceAdd, Int.reduceSub, Int.reduceMul, Int.reduceNeg, Int.reduceEq, Int.reduceLT, Int.reduceLE]; with_reducible rfl) ?_
                | ((with_reducible refine chk_r ?_); refine r_callF (by simp only [CA, Nat.reduceEqDiff, ↓reduceIte]; rfl) (by exact rfl) (by simp only [CA, Nat.reduceEqDiff, ↓reduceIte]; rfl) rfl ?_)
                | ((with_reducible refine chk_h ?_); refine hr_callF (by simp only [CA, Nat.reduceEqDiff, ↓reduceIte]; rfl) (by exact rfl) (by simp only [CA, Nat.reduceEqDiff, ↓reduceIte]; rfl) rfl ?_)
                | ((with_reducible refine chk_r ?_); refine r_callP (by simp only [CA, Nat.reduceEqDiff, ↓reduceIte]; rfl) (by simp only [CA, Nat.reduceEqDiff, ↓reduceIte]; rfl) (by first | (refine q54 _ ?_ <;> assumption) | exact q17 _) rfl ?_)
                | ((with_reducible refine chk_h ?_); refine hr_callP (by simp only [CA, Nat.reduceEqDiff, ↓reduceIte]; rfl) (by simp only [CA, Nat.reduceEqDiff, ↓reduceIte]; rfl) (by first | (refine q54 _ ?_ <;> assumption) | exact q17 _) rfl ?_)
                | (with_reducible refine k_condP (by simp only [GA, Nat.reduceEqDiff, ↓reduceIte]; rfl) (by first | (simp only [BO]; rfl) | rfl) (fun ht => ?_) (fun ht => ?_) <;> try (first | exact False.elim ht | exact absurd rfl ht | exact absurd trivial ht | exact Bool.noConfusion ht))
                | (with_reducible refine k_ret ?_; repeat with_reducible (first | refine ret_thru ?_ | refine ret_blk ?_ | refine fin ?_))
                | (with_reducible refine k_exit ?_; repeat with_reducible (first | refine thru ?_ | refine out_blk ?_ | refine pass (by decide) ?_))
                | (refine post1 ?_; simp only [GA, Nat.reduceEqDiff, ↓reduceIte])
                | (refine post2 ?_; simp only [GA, Nat.reduceEqDiff, ↓reduceIte])
                | (refine post3 ?_; simp only [GA, Nat.reduceEqDiff, ↓reduceIte])
                | (refine postc (by simp only [GA, Nat.reduceEqDiff, ↓reduceIte]; rfl) (by simp (disch := omega) only [hc, s4, hOm, hol, hrd, read_row (row_m hm), c49r0, c49r1, c49r2, c49r3, c49r4, c49r5, c49r6, c49r7, c49r8, c49r9, c49r10, c49r11, c49r12, c49r13, c49r14, c49r15, c49r16, c49r17, c49r19, EV0, EV1, EV2, EV3, EV4, EV5, EV6, EV7, plug, ite_same, decide_true, decide_false, eq_self, ↓reduceIte, reduceCtorEq, Nat.reduceAdd, Nat.reduceEqDiff, Nat.reduceLT, Nat.reduceLeDiff, Nat.reduceMul, Nat.reduceSub, Nat.reduceDiv, Int.reduceToNat, Int.reduceAdd, Int.reduceSub, Int.reduceMul, Int.reduceNeg, Int.reduceEq, Int.reduceLT, Int.reduceLE]; rfl) ?_)
                | refine post0 ?_
              refine r_callX rfl (by simp only [CA, Nat.reduceEqDiff, ↓reduceIte]) (f55 T tr (.i .i64 a) (.i .i64 b) (.i .i64 c) (.i .i64 d) (.i .i64 e) (.i .i64 f) X.st X.l okv (by omega) _ ⟨aI, ?_, ?_⟩) rfl ?_
              · simp (disch := omega) only [hm, c49r0, c49r1, c49r2, c49r3, c49r4, c49r5, c49r6, c49r7, c49r8, c49r9, c49r10, c49r11, c49r12, c49r13, c49r14, c49r15, c49r16, c49r17, c49r19, EV0, EV1, EV2, EV3, EV4, EV5, EV6, EV7, plug, ite_same, decide_true, decide_false, eq_self, ↓reduceIte, reduceCtorEq, Nat.reduceAdd, Nat.reduceEqDiff, Nat.reduceLT, Nat.reduceLeDiff, Nat.reduceMul, Nat.reduceSub, Nat.reduceDiv, Int.reduceToNat, Int.reduceAdd, Int.reduceSub, Int.reduceMul, Int.reduceNeg, Int.reduceEq, Int.reduceLT, Int.reduceLE]
              · rcases hrow with hrow | ⟨r1, r2, r3, r4⟩
                · exact .inl hrow
                · have := ok.m r4
                  exact .inr ⟨r1, r2, r3, by simp (disch := omega) only [r4, c49r0, c49r1, c49r2, c49r3, c49r4, c49r5, c49r6, c49r7, c49r8, c49r9, c49r10, c49r11, c49r12, c49r13, c49r14, c49r15, c49r16, c49r17, c49r19, EV0, EV1, EV2, EV3, EV4, EV5, EV6, EV7, plug, ite_same, decide_true, decide_false, eq_self, ↓reduceIte, reduceCtorEq, Nat.reduceAdd, Nat.reduceEqDiff, Nat.reduceLT, Nat.reduceLeDiff, Nat.reduceMul, Nat.reduceSub, Nat.reduceDiv, Int.reduceToNat, Int.reduceAdd, Int.reduceSub, Int.reduceMul, Int.reduceNeg, Int.reduceEq, Int.reduceLT, Int.reduceLE]⟩
              · rintro r H' ⟨tr', hI2, fr, nx, htr'⟩
                simp only [AH.bump_nx, AH.set_nx, AH.kill_nx] at nx htr' fr
                repeat' first
                  | with_reducible refine k_seq ?_
                  | with_reducible refine k_skip ?_
                  | with_reducible refine k_blkS ?_
                  | with_reducible refine k_reg ?_
                  | with_reducible refine k_head ?_
                  | with_reducible refine r_done ?_
                  | with_reducible refine hr_done ?_
                  | with_reducible refine s_go (by simp (disch := omega) only [c49r0, c49r1, c49r2, c49r3, c49r4, c49r5, c49r6, c49r7, c49r8, c49r9, c49r10, c49r11, c49r12, c49r13, c49r14, c49r15, c49r16, c49r17, c49r19, EV0, EV1, EV2, EV3, EV4, EV5, EV6, EV7, plug, ite_same, decide_true, decide_false, eq_self, ↓reduceIte, reduceCtorEq, Nat.reduceAdd, Nat.reduceEqDiff, Nat.reduceLT, Nat.reduceLeDiff, Nat.reduceMul, Nat.reduceSub, Nat.reduceDiv, Int.reduceToNat, Int.reduceAdd, Int.reduceSub, Int.reduceMul, Int.reduceNeg, Int.reduceEq, Int.reduceLT, Int.reduceLE]; with_reducible rfl) ?_
                  | with_reducible refine h_go (by with_unfolding_all rfl) (by simp (disch := omega) only [c49r0, c49r1, c49r2, c49r3, c49r4, c49r5, c49r6, c49r7, c49r8, c49r9, c49r10, c49r11, c49r12, c49r13, c49r14, c49r15, c49r16, c49r17, c49r19, EV0, EV1, EV2, EV3, EV4, EV5, EV6, EV7, plug, ite_same, decide_true, decide_false, eq_self, ↓reduceIte, reduceCtorEq, Nat.reduceAdd, Nat.reduceEqDiff, Nat.reduceLT, Nat.reduceLeDiff, Nat.reduceMul, Nat.reduceSub, Nat.reduceDiv, Int.reduceToNat, Int.reduceAdd, Int.reduceSub, Int.reduceMul, Int.reduceNeg, Int.reduceEq, Int.reduceLT, Int.reduceLE]; with_reducible rfl) ?_
                  | ((with_reducible refine chk_r ?_); refine r_callF (by simp only [CA, Nat.reduceEqDiff, ↓reduceIte]; rfl) (by exact rfl) (by simp only [CA, Nat.reduceEqDiff, ↓reduceIte]; rfl) rfl ?_)
                  | ((with_reducible refine chk_h ?_); refine hr_callF (by simp only [CA, Nat.reduceEqDiff, ↓reduceIte]; rfl) (by exact rfl) (by simp only [CA, Nat.reduceEqDiff, ↓reduceIte]; rfl) rfl ?_)
                  | (with_reducible refine k_condP (by simp only [GA, Nat.reduceEqDiff, ↓reduceIte]; rfl) (by first | (simp only [BO]; rfl) | rfl) (fun ht => ?_) (fun ht => ?_) <;> try (first | exact False.elim ht | exact absurd rfl ht | exact absurd trivial ht | exact Bool.noConfusion ht))
                  | (with_reducible refine k_ret ?_; repeat with_reducible (first | refine ret_thru ?_ | refine ret_blk ?_ | refine fin ?_))
                  | (with_reducible refine k_exit ?_; repeat with_reducible (first | refine thru ?_ | refine out_blk ?_ | refine pass (by decide) ?_))
                  | (refine post1 ?_; simp only [GA, Nat.reduceEqDiff, ↓reduceIte])
                  | (refine post2 ?_; simp only [GA, Nat.reduceEqDiff, ↓reduceIte])
                  | (refine post3 ?_; simp only [GA, Nat.reduceEqDiff, ↓reduceIte])
                  | (refine postc (by simp only [GA, Nat.reduceEqDiff, ↓reduceIte]; rfl) (by simp (disch := omega) only [c49r0, c49r1, c49r2, c49r3, c49r4, c49r5, c49r6, c49r7, c49r8, c49r9, c49r10, c49r11, c49r12, c49r13, c49r14, c49r15, c49r16, c49r17, c49r19, EV0, EV1, EV2, EV3, EV4, EV5, EV6, EV7, plug, ite_same, decide_true, decide_false, eq_self, ↓reduceIte, reduceCtorEq, Nat.reduceAdd, Nat.reduceEqDiff, Nat.reduceLT, Nat.reduceLeDiff, Nat.reduceMul, Nat.reduceSub, Nat.reduceDiv, Int.reduceToNat, Int.reduceAdd, Int.reduceSub, Int.reduceMul, Int.reduceNeg, Int.reduceEq, Int.reduceLT, Int.reduceLE]; rfl) ?_)
                  | refine post0 ?_
                refine ⟨_, ?_, i + 1, _, 2, tr', T, ⟨0, bh X.st (X.l ++ [okv]), nl X.st X.l okv, X.o ++ [(X.st, okv)]⟩, by simp only [hl1]; rfl, rfl, by omega, hsn, rfl, hI2, .inr ⟨rfl, ?_, ?_⟩, ?_, ?_, d3, ?_, ?_, ?_⟩
                · omega
                · omega
                · rw [AH.bump_m, fr _ (by omega) (by omega) (.inl (by omega))]
                  simp (disch := omega) only [c49r0, c49r1, c49r2, c49r3, c49r4, c49r5, c49r6, c49r7, c49r8, c49r9, c49r10, c49r11, c49r12, c49r13, c49r14, c49r15, c49r16, c49r17, c49r19, EV0, EV1, EV2, EV3, EV4, EV5, EV6, EV7, plug, ite_same, decide_true, decide_false, eq_self, ↓reduceIte, reduceCtorEq, Nat.reduceAdd, Nat.reduceEqDiff, Nat.reduceLT, Nat.reduceLeDiff, Nat.reduceMul, Nat.reduceSub, Nat.reduceDiv, Int.reduceToNat, Int.reduceAdd, Int.reduceSub, Int.reduceMul, Int.reduceNeg, Int.reduceEq, Int.reduceLT, Int.reduceLE]
                  rw [← hso]
                · omega
                · omega
                · omega
                · omega
                · intro j hj
                  have := q1 j hj
                  rw [read_bump, read_congr (fr tf (by omega) (by omega) (by omega))]
                  simp (disch := omega) only [hrd, c49r0, c49r1, c49r2, c49r3, c49r4, c49r5, c49r6, c49r7, c49r8, c49r9, c49r10, c49r11, c49r12, c49r13, c49r14, c49r15, c49r16, c49r17, c49r19, EV0, EV1, EV2, EV3, EV4, EV5, EV6, EV7, plug, ite_same, decide_true, decide_false, eq_self, ↓reduceIte, reduceCtorEq, Nat.reduceAdd, Nat.reduceEqDiff, Nat.reduceLT, Nat.reduceLeDiff, Nat.reduceMul, Nat.reduceSub, Nat.reduceDiv, Int.reduceToNat, Int.reduceAdd, Int.reduceSub, Int.reduceMul, Int.reduceNeg, Int.reduceEq, Int.reduceLT, Int.reduceLE]
          · have he2 : (hk a b c d e f st0 bad (i + 1)).err = ev := by rw [hs, hs2, if_pos e0]
            repeat' first
              | with_reducible refine k_seq ?_
              | with_reducible refine k_skip ?_
              | with_reducible refine k_blkS ?_
              | with_reducible refine k_reg ?_
              | with_reducible refine k_head ?_
              | with_reducible refine r_done ?_
              | with_reducible refine hr_done ?_
              | with_reducible refine s_go (by simp (disch := omega) only [hc, s4, e0, hrd, read_row (row_m hm), c49r0, c49r1, c49r2, c49r3, c49r4, c49r5, c49r6, c49r7, c49r8, c49r9, c49r10, c49r11, c49r12, c49r13, c49r14, c49r15, c49r16, c49r17, c49r19, EV0, EV1, EV2, EV3, EV4, EV5, EV6, EV7, plug, ite_same, decide_true, decide_false, eq_self, ↓reduceIte, reduceCtorEq, Nat.reduceAdd, Nat.reduceEqDiff, Nat.reduceLT, Nat.reduceLeDiff, Nat.reduceMul, Nat.reduceSub, Nat.reduceDiv, Int.reduceToNat, Int.reduceAdd, Int.reduceSub, Int.reduceMul, Int.reduceNeg, Int.reduceEq, Int.reduceLT, Int.reduceLE]; with_reducible rfl) ?_
              | with_reducible refine h_go (by with_unfolding_all rfl) (by simp (disch := omega) only [hc, s4, e0, hrd, read_row (row_m hm), c49r0, c49r1, c49r2, c49r3, c49r4, c49r5, c49r6, c49r7, c49r8, c49r9, c49r10, c49r11, c49r12, c49r13, c49r14, c49r15, c49r16, c49r17, c49r19, EV0, EV1, EV2, EV3, EV4, EV5, EV6, EV7, plug, ite_same, decide_true, decide_false, eq_self, ↓reduceIte, reduceCtorEq, Nat.reduceAdd, Nat.reduceEqDiff, Nat.reduceLT, Nat.reduceLeDiff, Nat.reduceMul, Nat.reduceSub, Nat.reduceDiv, Int.reduceToNat, Int.reduceAdd, Int.reduceSub, Int.reduceMul, Int.reduceNeg, Int.reduceEq, Int.reduceLT, Int.reduceLE]; with_reducible rfl) ?_
              | ((with_reducible refine chk_r ?_); refine r_callF (by simp only [CA, Nat.reduceEqDiff, ↓reduceIte]; rfl) (by exact rfl) (by simp only [CA, Nat.reduceEqDiff, ↓reduceIte]; rfl) rfl ?_)
              | ((with_reducible refine chk_h ?_); refine hr_callF (by simp only [CA, Nat.reduceEqDiff, ↓reduceIte]; rfl) (by exact rfl) (by simp only [CA, Nat.reduceEqDiff, ↓reduceIte]; rfl) rfl ?_)
              | ((with_reducible refine chk_r ?_); refine r_callP (by simp only [CA, Nat.reduceEqDiff, ↓reduceIte]; rfl) (by simp only [CA, Nat.reduceEqDiff, ↓reduceIte]; rfl) (by first | (refine q54 _ ?_ <;> assumption) | exact q17 _) rfl ?_)
              | ((with_reducible refine chk_h ?_); refine hr_callP (by simp only [CA, Nat.reduceEqDiff, ↓reduceIte]; rfl) (by simp only [CA, Nat.reduceEqDiff, ↓reduceIte]; rfl) (by first | (refine q54 _ ?_ <;> assumption) | exact q17 _) rfl ?_)
              | (with_reducible refine k_condP (by simp only [GA, Nat.reduceEqDiff, ↓reduceIte]; rfl) (by first | (simp only [BO]; rfl) | rfl) (fun ht => ?_) (fun ht => ?_) <;> try (first | exact False.elim ht | exact absurd rfl ht | exact absurd trivial ht | exact Bool.noConfusion ht))
              | (with_reducible refine k_ret ?_; repeat with_reducible (first | refine ret_thru ?_ | refine ret_blk ?_ | refine fin ?_))
              | (with_reducible refine k_exit ?_; repeat with_reducible (first | refine thru ?_ | refine out_blk ?_ | refine pass (by decide) ?_))
              | (refine post1 ?_; simp only [GA, Nat.reduceEqDiff, ↓reduceIte])
              | (refine post2 ?_; simp only [GA, Nat.reduceEqDiff, ↓reduceIte])
              | (refine post3 ?_; simp only [GA, Nat.reduceEqDiff, ↓reduceIte])
              | (refine postc (by simp only [GA, Nat.reduceEqDiff, ↓reduceIte]; rfl) (by simp (disch := omega) only [hc, s4, e0, hrd, read_row (row_m hm), c49r0, c49r1, c49r2, c49r3, c49r4, c49r5, c49r6, c49r7, c49r8, c49r9, c49r10, c49r11, c49r12, c49r13, c49r14, c49r15, c49r16, c49r17, c49r19, EV0, EV1, EV2, EV3, EV4, EV5, EV6, EV7, plug, ite_same, decide_true, decide_false, eq_self, ↓reduceIte, reduceCtorEq, Nat.reduceAdd, Nat.reduceEqDiff, Nat.reduceLT, Nat.reduceLeDiff, Nat.reduceMul, Nat.reduceSub, Nat.reduceDiv, Int.reduceToNat, Int.reduceAdd, Int.reduceSub, Int.reduceMul, Int.reduceNeg, Int.reduceEq, Int.reduceLT, Int.reduceLE]; rfl) ?_)
              | refine post0 ?_
            exact badEnd _ ev (eb i (by omega) ev he2 e0)
      · repeat' first
          | with_reducible refine k_seq ?_
          | with_reducible refine k_skip ?_
          | with_reducible refine k_blkS ?_
          | with_reducible refine k_reg ?_
          | with_reducible refine k_head ?_
          | with_reducible refine r_done ?_
          | with_reducible refine hr_done ?_
          | with_reducible refine s_go (by simp (disch := omega) only [hc, read_row (row_m hm), c49r0, c49r1, c49r2, c49r3, c49r4, c49r5, c49r6, c49r7, c49r8, c49r9, c49r10, c49r11, c49r12, c49r13, c49r14, c49r15, c49r16, c49r17, c49r19, EV0, EV1, EV2, EV3, EV4, EV5, EV6, EV7, plug, ite_same, decide_true, decide_false, eq_self, ↓reduceIte, reduceCtorEq, Nat.reduceAdd, Nat.reduceEqDiff, Nat.reduceLT, Nat.reduceLeDiff, Nat.reduceMul, Nat.reduceSub, Nat.reduceDiv, Int.reduceToNat, Int.reduceAdd, Int.reduceSub, Int.reduceMul, Int.reduceNeg, Int.reduceEq, Int.reduceLT, Int.reduceLE]; with_reducible rfl) ?_
          | with_reducible refine h_go (by with_unfolding_all rfl) (by simp (disch := omega) only [hc, read_row (row_m hm), c49r0, c49r1, c49r2, c49r3, c49r4, c49r5, c49r6, c49r7, c49r8, c49r9, c49r10, c49r11, c49r12, c49r13, c49r14, c49r15, c49r16, c49r17, c49r19, EV0, EV1, EV2, EV3, EV4, EV5, EV6, EV7, plug, ite_same, decide_true, decide_false, eq_self, ↓reduceIte, reduceCtorEq, Nat.reduceAdd, Nat.reduceEqDiff, Nat.reduceLT, Nat.reduceLeDiff, Nat.reduceMul, Nat.reduceSub, Nat.reduceDiv, Int.reduceToNat, Int.reduceAdd, Int.reduceSub, Int.reduceMul, Int.reduceNeg, Int.reduceEq, Int.reduceLT, Int.reduceLE]; with_reducible rfl) ?_
          | ((with_reducible refine chk_r ?_); refine r_callF (by simp only [CA, Nat.reduceEqDiff, ↓reduceIte]; rfl) (by exact rfl) (by simp only [CA, Nat.reduceEqDiff, ↓reduceIte]; rfl) rfl ?_)
          | ((with_reducible refine chk_h ?_); refine hr_callF (by simp only [CA, Nat.reduceEqDiff, ↓reduceIte]; rfl) (by exact rfl) (by simp only [CA, Nat.reduceEqDiff, ↓reduceIte]; rfl) rfl ?_)
          | (with_reducible refine k_condP (by simp only [GA, Nat.reduceEqDiff, ↓reduceIte]; rfl) (by first | (simp only [BO]; rfl) | rfl) (fun ht => ?_) (fun ht => ?_) <;> try (first | exact False.elim ht | exact absurd rfl ht | exact absurd trivial ht | exact Bool.noConfusion ht))
          | (with_reducible refine k_ret ?_; repeat with_reducible (first | refine ret_thru ?_ | refine ret_blk ?_ | refine fin ?_))
          | (with_reducible refine k_exit ?_; repeat with_reducible (first | refine thru ?_ | refine out_blk ?_ | refine pass (by decide) ?_))
          | (refine post1 ?_; simp only [GA, Nat.reduceEqDiff, ↓reduceIte])
          | (refine post2 ?_; simp only [GA, Nat.reduceEqDiff, ↓reduceIte])
          | (refine post3 ?_; simp only [GA, Nat.reduceEqDiff, ↓reduceIte])
          | (refine postc (by simp only [GA, Nat.reduceEqDiff, ↓reduceIte]; rfl) (by simp (disch := omega) only [hc, read_row (row_m hm), c49r0, c49r1, c49r2, c49r3, c49r4, c49r5, c49r6, c49r7, c49r8, c49r9, c49r10, c49r11, c49r12, c49r13, c49r14, c49r15, c49r16, c49r17, c49r19, EV0, EV1, EV2, EV3, EV4, EV5, EV6, EV7, plug, ite_same, decide_true, decide_false, eq_self, ↓reduceIte, reduceCtorEq, Nat.reduceAdd, Nat.reduceEqDiff, Nat.reduceLT, Nat.reduceLeDiff, Nat.reduceMul, Nat.reduceSub, Nat.reduceDiv, Int.reduceToNat, Int.reduceAdd, Int.reduceSub, Int.reduceMul, Int.reduceNeg, Int.reduceEq, Int.reduceLT, Int.reduceLE]; rfl) ?_)
          | refine post0 ?_
        obtain rfl : i = n := by omega
        have er : hres a b c d e f st0 bad i = (0, X.st, X.o) := by unfold hres; rw [if_pos hv, if_neg (by omega), hX, if_neg (by simp [he])]
        rw [er]
        refine ⟨.sl to 0 X.o.length ao, rfl, to, 0, ao, rfl, ?_⟩
        rcases hO with ⟨hO, rfl⟩ | ⟨rfl, hto, hOm⟩
        · exact .inl ⟨rfl, by rw [hO]; rfl, by rw [hO]; rfl⟩
        · refine .inr ⟨ol X.o, rfl, hOm, by rw [ol_len]; exact Nat.le_of_eq (Nat.zero_add _), ?_⟩
          rw [List.drop_zero, List.take_of_length_le (Nat.le_of_eq (ol_len _))]
end Go.Proofs.Ytappehafkjcabaa
