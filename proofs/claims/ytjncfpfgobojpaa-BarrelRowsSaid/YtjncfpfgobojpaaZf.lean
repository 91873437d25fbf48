/- What the proof of the law needs: the abstract machine, the functions as it reads them, their contracts, part 6. -/
import Derived.Test.YtjncfpfgobojpaaZe
set_option linter.unusedVariables false
set_option linter.unusedSimpArgs false
namespace Go.Proofs.Ytjncfpfgobojpaa
open Go Go.Am Go.Proofs Go.Sort
/-! ### The document's Rows -/
/-- done so far -/
def dnK (l : List B) (k i : Nat) : Prop := ∃ m, m < k ∧ od l m = i
/-- the next one of the first j -/
def NX (l : List B) (us : List Bool) (j : Nat) (x : Int) : Prop :=
  (x = -1 ∧ ∀ i, i < j → us.getD i false = true) ∨ ∃ i : Nat, x = i ∧ i < j ∧ us.getD i false = false ∧ ∀ i', i' < j → us.getD i' false = false → ltB l i' i = false
theorem ltB_irr (l : List B) (i : Nat) : ltB l i i = false := by simp only [ltB, decide_eq_false_iff_not]; omega
theorem ltB_asym {l : List B} {i k : Nat} (h : ltB l i k = true) : ltB l k i = false := by
  simp only [ltB, decide_eq_false_iff_not, decide_eq_true_eq] at *; omega
theorem NX.skip {l : List B} {us : List Bool} {j : Nat} {x : Int} (N : NX l us j x) (h : us.getD j false = true) : NX l us (j + 1) x := by
  rcases N with ⟨e, a⟩ | ⟨i, e, hi, a, b⟩
  · refine .inl ⟨e, fun i hi => ?_⟩
    by_cases q : i = j
    · subst q; exact h
    · exact a i (by omega)
  · refine .inr ⟨i, e, by omega, a, fun i' hi' h' => ?_⟩
    by_cases q : i' = j
    · subst q; rw [h] at h'; cases h'
    · exact b i' (by omega) h'
theorem NX.first {l : List B} {us : List Bool} {j : Nat} (N : NX l us j (-1)) (h : us.getD j false = false) : NX l us (j + 1) j := by
  rcases N with ⟨e, a⟩ | ⟨i, e, hi, a, b⟩
  · refine .inr ⟨j, rfl, by omega, h, fun i' hi' h' => ?_⟩
    by_cases q : i' = j
    · subst q; exact ltB_irr l _
    · rw [a i' (by omega)] at h'; cases h'
  · omega
theorem NX.take {l : List B} {us : List Bool} {j i : Nat} (N : NX l us j (i : Nat)) (h : us.getD j false = false) (hl : ltB l j i = true) : NX l us (j + 1) j := by
  rcases N with ⟨e, a⟩ | ⟨i2, e, hi, a, b⟩
  · omega
  · obtain rfl : i = i2 := by omega
    refine .inr ⟨j, rfl, by omega, h, fun i' hi' h' => ?_⟩
    by_cases q : i' = j
    · subst q; exact ltB_irr l _
    · exact ltB_trans (b i' (by omega) h') (ltB_asym hl)
theorem NX.stay {l : List B} {us : List Bool} {j i : Nat} (N : NX l us j (i : Nat)) (hl : ltB l j i = false) : NX l us (j + 1) (i : Nat) := by
  rcases N with ⟨e, a⟩ | ⟨i2, e, hi, a, b⟩
  · omega
  · obtain rfl : i = i2 := by omega
    refine .inr ⟨i, rfl, by omega, a, fun i' hi' h' => ?_⟩
    by_cases q : i' = j
    · subst q; exact hl
    · exact b i' (by omega) h'
theorem NX.is {l : List B} (hv : VL l) {us : List Bool} {k : Nat} (hk : k < l.length) (hus : ∀ i, i < l.length → (us.getD i false = true ↔ dnK l k i)) {x : Int} (N : NX l us l.length x) : x = (od l k : Nat) := by
  have hx : od l k < l.length := order_get hk
  have nd : us.getD (od l k) false = false := by
    cases h : us.getD (od l k) false with
    | false => rfl
    | true =>
      obtain ⟨m, hm, e⟩ := (hus _ hx).1 h
      have := od_inj (by omega) hk e
      omega
  rcases N with ⟨e, a⟩ | ⟨i, e, hi, a, b⟩
  · rw [a _ hx] at nd; cases nd
  · obtain ⟨m, hm, em⟩ := od_ex hi
    by_cases q : m = k
    · subst q; rw [e, em]
    · exfalso
      have hmk : k < m := by
        refine Classical.byContradiction fun hn => ?_
        have : us.getD i false = true := (hus i hi).2 ⟨m, by omega, em⟩
        rw [this] at a; cases a
      have h1 := order_le hmk hm
      have h2 := b _ hx nd
      have ne : i ≠ od l k := fun e2 => by
        rw [← em] at e2
        exact q (od_inj hm hk e2)
      rcases ltB_total hv hi hx ne with h | h
      · rw [← em] at h; simp only [od] at h; rw [h1] at h; cases h
      · rw [h2] at h; cases h
theorem nest_keepU {h h' : AH} {k r : Nat} {ts : List Nat} {rows : List Rw} (N : Nest h k r ts rows) (F : ∀ t b, (t = r ∨ t ∈ ts) → h.m t = some b → h'.m t = some b) : Nest h' k r ts rows :=
  ⟨N.ok, N.len, N.nd, N.nr, N.r0, F _ _ (.inl rfl) N.hr, fun i hi => F _ _ (.inr (N.mem hi)) (N.ht i hi)⟩
theorem dn_step {l : List B} {us : List Bool} {k : Nat} (hu : us.length = l.length) (hk : k < l.length) (hus : ∀ i, i < l.length → (us.getD i false = true ↔ dnK l k i)) : ∀ i, i < l.length → ((us.set (od l k) true).getD i false = true ↔ dnK l (k + 1) i) := fun i hi => by
  have hx : od l k < l.length := order_get hk
  rw [getD_setb (by omega)]
  by_cases e : i = od l k
  · rw [if_pos e]
    exact ⟨fun _ => ⟨k, by omega, e.symm⟩, fun _ => rfl⟩
  · rw [if_neg e, hus i hi]
    constructor
    · rintro ⟨m, hm, q⟩; exact ⟨m, by omega, q⟩
    · rintro ⟨m, hm, q⟩
      by_cases e2 : m = k
      · subst e2; exact absurd q.symm e
      · exact ⟨m, by omega, q⟩
set_option maxHeartbeats 4000000 in
theorem pc19 (l : List B) (hl : l.length ≤ 9223372036854775807) : PC Try.prog 19 [vB l] (.tu [vRows (rowsR l), .i .i64 (erR l)]) := by
  refine pc_fn fn19 (by simp only [AV.plains, AV.plain, il_plain, bl_plain, Bool.and_true, Bool.true_and, Bool.and_self, flB_plain, rows_plain]) (by simp only [AV.plains, AV.plain, il_plain, bl_plain, Bool.and_true, Bool.true_and, Bool.and_self, flB_plain, rows_plain]) (Nat.le_of_ble_eq_true rfl) ?_
  rw [initSt1]
  have q23 := pc23 l hl
  unfold rowsR erR
  by_cases hv : VL l
  · rw [if_pos hv, if_pos hv]
    rw [vl_t hv] at q23
    have hl6 := hv.len
    repeat' first
      | with_reducible refine k_seq ?_
      | with_reducible refine k_skip ?_
      | with_reducible refine k_blkS ?_
      | with_reducible refine k_blkR ?_
      | with_reducible refine k_blkC ?_
      | with_reducible refine k_blkH ?_
      | with_reducible refine k_blkB ?_
      | with_reducible refine k_blkK ?_
      | with_reducible refine k_blkE ?_
      | with_reducible refine k_reg ?_
      | with_reducible refine k_head (by with_unfolding_all rfl) ?_
      | with_reducible refine k_headS ?_
      | (with_reducible refine SepK.mk ?_ ?_; (refine sepQ_P ?_; simp [sepQ, sepG, AOp.late, AOp.free, AOp.xs, AOp.isAl, tokNe, AV.tok, stS_get, strip, AX.val, c19r0, c19r1, c19r2, c19r3, c19r4, c19r5, c19r6, c19r7, c19r8, c19r9, c19r10, c19r11, c19r12, c19r14, c19r15, c19r16, c19r17, c19r18, c19r19, c19r20, c19r21, c19r23, c19r24, c19r25, c19r26, c19r28, GA]; try omega))
      | with_reducible refine r_done ?_
      | with_reducible refine hr_done ?_
      | with_reducible refine s_go (by simp (disch := omega) only [c19r0, c19r1, c19r2, c19r3, c19r4, c19r5, c19r6, c19r7, c19r8, c19r9, c19r10, c19r11, c19r12, c19r14, c19r15, c19r16, c19r17, c19r18, c19r19, c19r20, c19r21, c19r23, c19r24, c19r25, c19r26, c19r28, EV0, EV1, EV2, EV3, EV4, EV5, EV6, EV7, EV8, VALS, plug, ite_same, decide_true, decide_false, eq_self, ↓reduceIte, reduceCtorEq, Nat.reduceAdd, Nat.reduceEqDiff, Nat.reduceLT, Nat.reduceLeDiff, Nat.reduceMul, Nat.reduceSub, Nat.reduceDiv, Int.reduceToNat, Int.reduceAdd, Int.reduceSub, Int.reduceMul, Int.reduceNeg, Int.reduceEq, Int.reduceLT, Int.reduceLE]; with_reducible rfl) ?_
      | with_reducible refine h_go (by with_unfolding_all rfl) (by simp (disch := omega) only [c19r0, c19r1, c19r2, c19r3, c19r4, c19r5, c19r6, c19r7, c19r8, c19r9, c19r10, c19r11, c19r12, c19r14, c19r15, c19r16, c19r17, c19r18, c19r19, c19r20, c19r21, c19r23, c19r24, c19r25, c19r26, c19r28, EV0, EV1, EV2, EV3, EV4, EV5, EV6, EV7, EV8, VALS, plug, ite_same, decide_true, decide_false, eq_self, ↓reduceIte, reduceCtorEq, Nat.reduceAdd, Nat.reduceEqDiff, Nat.reduceLT, Nat.reduceLeDiff, Nat.reduceMul, Nat.reduceSub, Nat.reduceDiv, Int.reduceToNat, Int.reduceAdd, Int.reduceSub, Int.reduceMul, Int.reduceNeg, Int.reduceEq, Int.reduceLT, Int.reduceLE]; with_reducible rfl) ?_
      | ((with_reducible refine chk_r ?_); refine r_callF (by simp only [CA, Nat.reduceEqDiff, ↓reduceIte]; rfl) (by exact rfl) (by simp only [CA, Nat.reduceEqDiff, ↓reduceIte]; rfl) rfl ?_)
      | ((with_reducible refine chk_h ?_); refine hr_callF (by simp only [CA, Nat.reduceEqDiff, ↓reduceIte]; rfl) (by exact rfl) (by simp only [CA, Nat.reduceEqDiff, ↓reduceIte]; rfl) rfl ?_)
      | ((with_reducible refine chk_r ?_); refine r_callP (by simp only [CA, Nat.reduceEqDiff, ↓reduceIte]; rfl) (by simp only [CA, Nat.reduceEqDiff, ↓reduceIte]; rfl) (by first | exact q23 _) rfl ?_)
      | ((with_reducible refine chk_h ?_); refine hr_callP (by simp only [CA, Nat.reduceEqDiff, ↓reduceIte]; rfl) (by simp only [CA, Nat.reduceEqDiff, ↓reduceIte]; rfl) (by first | exact q23 _) rfl ?_)
      | ((with_reducible refine chk_h ?_); refine hr_callP1 (by simp only [CA, Nat.reduceEqDiff, ↓reduceIte]; rfl) (by simp only [CA, Nat.reduceEqDiff, ↓reduceIte]; rfl) (by simp (disch := omega) only [CA, Nat.reduceEqDiff, ↓reduceIte, firstTok_nil, firstTok_sl, firstTok_sl0, firstTok_i, firstTok_b, firstTok_ag, firstTok_p, firstTok_s]; rfl) (by first | exact q23 _) rfl ?_)
      | ((with_reducible refine chk_r ?_); refine r_callG (by simp only [CA, Nat.reduceEqDiff, ↓reduceIte]; rfl) (by simp only [CA, Nat.reduceEqDiff, ↓reduceIte]; rfl) (by simp only [CA, Nat.reduceEqDiff, ↓reduceIte]; rfl) (by intro hg; (try simp only [BO] at hg); first | exact q23 _) rfl ?_)
      | ((with_reducible refine chk_h ?_); refine hr_callG (by simp only [CA, Nat.reduceEqDiff, ↓reduceIte]; rfl) (by simp only [CA, Nat.reduceEqDiff, ↓reduceIte]; rfl) (by simp only [CA, Nat.reduceEqDiff, ↓reduceIte]; rfl) (by intro hg; (try simp only [BO] at hg); first | exact q23 _) rfl ?_)
      | ((with_reducible refine chk_h ?_); refine hr_app (by simp (disch := omega) only [c19r0, c19r1, c19r2, c19r3, c19r4, c19r5, c19r6, c19r7, c19r8, c19r9, c19r10, c19r11, c19r12, c19r14, c19r15, c19r16, c19r17, c19r18, c19r19, c19r20, c19r21, c19r23, c19r24, c19r25, c19r26, c19r28, EV0, EV1, EV2, EV3, EV4, EV5, EV6, EV7, EV8, VALS, plug, ite_same, decide_true, decide_false, eq_self, ↓reduceIte, reduceCtorEq, Nat.reduceAdd, Nat.reduceEqDiff, Nat.reduceLT, Nat.reduceLeDiff, Nat.reduceMul, Nat.reduceSub, Nat.reduceDiv, Int.reduceToNat, Int.reduceAdd, Int.reduceSub, Int.reduceMul, Int.reduceNeg, Int.reduceEq, Int.reduceLT, Int.reduceLE]; with_reducible rfl) rfl ?_)
      | (with_reducible refine k_condP (by simp only [GA, Nat.reduceEqDiff, ↓reduceIte]; rfl) (by first | (simp only [BO]; rfl) | rfl) (fun ht => ?_) (fun ht => ?_) <;> try (first | exact False.elim ht | exact absurd rfl ht | exact absurd trivial ht | exact Bool.noConfusion ht))
      | (with_reducible refine k_ret ?_; repeat with_reducible (first | refine ret_thru ?_ | refine ret_blk ?_ | refine fin ?_))
      | (with_reducible refine k_exit ?_; repeat with_reducible (first | refine thru ?_ | refine out_blk ?_ | refine pass (by decide) ?_))
      | (refine post1 ?_; simp only [GA, Nat.reduceEqDiff, ↓reduceIte])
      | (refine post2 ?_; simp only [GA, Nat.reduceEqDiff, ↓reduceIte])
      | (refine post3 ?_; simp only [GA, Nat.reduceEqDiff, ↓reduceIte])
      | (refine postc (by simp only [GA, Nat.reduceEqDiff, ↓reduceIte]; rfl) (by simp (disch := omega) only [c19r0, c19r1, c19r2, c19r3, c19r4, c19r5, c19r6, c19r7, c19r8, c19r9, c19r10, c19r11, c19r12, c19r14, c19r15, c19r16, c19r17, c19r18, c19r19, c19r20, c19r21, c19r23, c19r24, c19r25, c19r26, c19r28, EV0, EV1, EV2, EV3, EV4, EV5, EV6, EV7, EV8, VALS, plug, ite_same, decide_true, decide_false, eq_self, ↓reduceIte, reduceCtorEq, Nat.reduceAdd, Nat.reduceEqDiff, Nat.reduceLT, Nat.reduceLeDiff, Nat.reduceMul, Nat.reduceSub, Nat.reduceDiv, Int.reduceToNat, Int.reduceAdd, Int.reduceSub, Int.reduceMul, Int.reduceNeg, Int.reduceEq, Int.reduceLT, Int.reduceLE]; rfl) ?_)
      | refine post0 ?_
    refine w_virt 1 4 rfl ?_
    refine k_blk (k_loopS (X := Nat × List Nat × Nat × List Bool) [0, 4, 5, 18, 19] l.length (fun k x => [(0, vB l), (4, .sl x.1 0 (rowsK l k).length 1), (5, .sl x.2.2.1 0 l.length 1), (18, .i .i64 l.length), (19, .i .i64 (k : Int))])
      (fun k x h => Nest h 1 x.1 x.2.1 ((rowsK l k).map rw1) ∧ x.2.2.1 ≠ 0 ∧ x.2.2.1 ≠ x.1 ∧ x.2.2.1 ∉ x.2.1 ∧ h.m x.2.2.1 = some (.cells true (bl x.2.2.2)) ∧ x.2.2.2.length = l.length ∧ ∀ i, i < l.length → (x.2.2.2.getD i false = true ↔ dnK l k i)) (_, [], _, List.replicate l.length false) (by simp only [Am.keep, List.map_cons, List.map_nil, GA, Nat.reduceEqDiff, ↓reduceIte]; try rfl) ⟨.nil (by simp (disch := omega) only [c19r0, c19r1, c19r2, c19r3, c19r4, c19r5, c19r6, c19r7, c19r8, c19r9, c19r10, c19r11, c19r12, c19r14, c19r15, c19r16, c19r17, c19r18, c19r19, c19r20, c19r21, c19r23, c19r24, c19r25, c19r26, c19r28, EV0, EV1, EV2, EV3, EV4, EV5, EV6, EV7, EV8, VALS, plug, ite_same, decide_true, decide_false, eq_self, ↓reduceIte, reduceCtorEq, Nat.reduceAdd, Nat.reduceEqDiff, Nat.reduceLT, Nat.reduceLeDiff, Nat.reduceMul, Nat.reduceSub, Nat.reduceDiv, Int.reduceToNat, Int.reduceAdd, Int.reduceSub, Int.reduceMul, Int.reduceNeg, Int.reduceEq, Int.reduceLT, Int.reduceLE] <;> rfl) (by simp only [AH.bump_nx, AH.set_nx]; omega), ?_, ?_, by simp, by simp (disch := omega) only [bl_rep, c19r0, c19r1, c19r2, c19r3, c19r4, c19r5, c19r6, c19r7, c19r8, c19r9, c19r10, c19r11, c19r12, c19r14, c19r15, c19r16, c19r17, c19r18, c19r19, c19r20, c19r21, c19r23, c19r24, c19r25, c19r26, c19r28, EV0, EV1, EV2, EV3, EV4, EV5, EV6, EV7, EV8, VALS, plug, ite_same, decide_true, decide_false, eq_self, ↓reduceIte, reduceCtorEq, Nat.reduceAdd, Nat.reduceEqDiff, Nat.reduceLT, Nat.reduceLeDiff, Nat.reduceMul, Nat.reduceSub, Nat.reduceDiv, Int.reduceToNat, Int.reduceAdd, Int.reduceSub, Int.reduceMul, Int.reduceNeg, Int.reduceEq, Int.reduceLT, Int.reduceLE] <;> rfl, by simp, fun i hi => ?_⟩ ?_)
    · simp only [AH.bump_nx, AH.set_nx, AH.kill_nx, H1_nx]; omega
    · simp only [AH.bump_nx, AH.set_nx, AH.kill_nx, H1_nx]; omega
    · constructor
      · intro h; simp [List.getD_eq_getElem?_getD, List.getElem?_replicate, hi] at h
      · rintro ⟨m, hm, _⟩; omega
    rintro k ⟨r, ts, u, us⟩ h hk ⟨N, u0, ur, un, hu, hul, hus⟩ ok pos
    simp only at N u0 ur un hu hul hus ⊢
    have hr := N.hr
    have r0 := N.r0
    have lr := ok.m hr
    have lu := ok.m hu
    have tlt := Nest.lt N ok
    have Nl : ((rowsK l k).map rw1).length = (rowsK l k).length := List.length_map _
    have ru : ¬ r = u := fun e => ur e.symm
    by_cases hlt : k < l.length
    · have hlt' : (k : Int) < l.length := by omega
      repeat' first
        | with_reducible refine k_seq ?_
        | with_reducible refine k_skip ?_
        | with_reducible refine k_blkS ?_
        | with_reducible refine k_blkR ?_
        | with_reducible refine k_blkC ?_
        | with_reducible refine k_blkH ?_
        | with_reducible refine k_blkB ?_
        | with_reducible refine k_blkK ?_
        | with_reducible refine k_blkE ?_
        | with_reducible refine k_reg ?_
        | with_reducible refine k_head (by with_unfolding_all rfl) ?_
        | with_reducible refine k_headS ?_
        | (with_reducible refine SepK.mk ?_ ?_; (refine sepQ_P ?_; simp [sepQ, sepG, AOp.late, AOp.free, AOp.xs, AOp.isAl, tokNe, AV.tok, stS_get, strip, AX.val, c19r0, c19r1, c19r2, c19r3, c19r4, c19r5, c19r6, c19r7, c19r8, c19r9, c19r10, c19r11, c19r12, c19r14, c19r15, c19r16, c19r17, c19r18, c19r19, c19r20, c19r21, c19r23, c19r24, c19r25, c19r26, c19r28, GA]; try omega))
        | with_reducible refine r_done ?_
        | with_reducible refine hr_done ?_
        | with_reducible refine s_go (by simp (disch := omega) only [hlt', c19r0, c19r1, c19r2, c19r3, c19r4, c19r5, c19r6, c19r7, c19r8, c19r9, c19r10, c19r11, c19r12, c19r14, c19r15, c19r16, c19r17, c19r18, c19r19, c19r20, c19r21, c19r23, c19r24, c19r25, c19r26, c19r28, EV0, EV1, EV2, EV3, EV4, EV5, EV6, EV7, EV8, VALS, plug, ite_same, decide_true, decide_false, eq_self, ↓reduceIte, reduceCtorEq, Nat.reduceAdd, Nat.reduceEqDiff, Nat.reduceLT, Nat.reduceLeDiff, Nat.reduceMul, Nat.reduceSub, Nat.reduceDiv, Int.reduceToNat, Int.reduceAdd, Int.reduceSub, Int.reduceMul, Int.reduceNeg, Int.reduceEq, Int.reduceLT, Int.reduceLE]; with_reducible rfl) ?_
        | with_reducible refine h_go (by with_unfolding_all rfl) (by simp (disch := omega) only [hlt', c19r0, c19r1, c19r2, c19r3, c19r4, c19r5, c19r6, c19r7, c19r8, c19r9, c19r10, c19r11, c19r12, c19r14, c19r15, c19r16, c19r17, c19r18, c19r19, c19r20, c19r21, c19r23, c19r24, c19r25, c19r26, c19r28, EV0, EV1, EV2, EV3, EV4, EV5, EV6, EV7, EV8, VALS, plug, ite_same, decide_true, decide_false, eq_self, ↓reduceIte, reduceCtorEq, Nat.reduceAdd, Nat.reduceEqDiff, Nat.reduceLT, Nat.reduceLeDiff, Nat.reduceMul, Nat.reduceSub, Nat.reduceDiv, Int.reduceToNat, Int.reduceAdd, Int.reduceSub, Int.reduceMul, Int.reduceNeg, Int.reduceEq, Int.reduceLT, Int.reduceLE]; with_reducible rfl) ?_
        | ((with_reducible refine chk_r ?_); refine r_callF (by simp only [CA, Nat.reduceEqDiff, ↓reduceIte]; rfl) (by exact rfl) (by simp only [CA, Nat.reduceEqDiff, ↓reduceIte]; rfl) rfl ?_)
        | ((with_reducible refine chk_h ?_); refine hr_callF (by simp only [CA, Nat.reduceEqDiff, ↓reduceIte]; rfl) (by exact rfl) (by simp only [CA, Nat.reduceEqDiff, ↓reduceIte]; rfl) rfl ?_)
        | ((with_reducible refine chk_h ?_); refine hr_app (by simp (disch := omega) only [hlt', c19r0, c19r1, c19r2, c19r3, c19r4, c19r5, c19r6, c19r7, c19r8, c19r9, c19r10, c19r11, c19r12, c19r14, c19r15, c19r16, c19r17, c19r18, c19r19, c19r20, c19r21, c19r23, c19r24, c19r25, c19r26, c19r28, EV0, EV1, EV2, EV3, EV4, EV5, EV6, EV7, EV8, VALS, plug, ite_same, decide_true, decide_false, eq_self, ↓reduceIte, reduceCtorEq, Nat.reduceAdd, Nat.reduceEqDiff, Nat.reduceLT, Nat.reduceLeDiff, Nat.reduceMul, Nat.reduceSub, Nat.reduceDiv, Int.reduceToNat, Int.reduceAdd, Int.reduceSub, Int.reduceMul, Int.reduceNeg, Int.reduceEq, Int.reduceLT, Int.reduceLE]; with_reducible rfl) rfl ?_)
        | (with_reducible refine k_condP (by simp only [GA, Nat.reduceEqDiff, ↓reduceIte]; rfl) (by first | (simp only [BO]; rfl) | rfl) (fun ht => ?_) (fun ht => ?_) <;> try (first | exact False.elim ht | exact absurd rfl ht | exact absurd trivial ht | exact Bool.noConfusion ht))
        | (with_reducible refine k_ret ?_; repeat with_reducible (first | refine ret_thru ?_ | refine ret_blk ?_ | refine fin ?_))
        | (with_reducible refine k_exit ?_; repeat with_reducible (first | refine thru ?_ | refine out_blk ?_ | refine pass (by decide) ?_))
        | (refine post1 ?_; simp only [GA, Nat.reduceEqDiff, ↓reduceIte])
        | (refine post2 ?_; simp only [GA, Nat.reduceEqDiff, ↓reduceIte])
        | (refine post3 ?_; simp only [GA, Nat.reduceEqDiff, ↓reduceIte])
        | (refine postc (by simp only [GA, Nat.reduceEqDiff, ↓reduceIte]; rfl) (by simp (disch := omega) only [hlt', c19r0, c19r1, c19r2, c19r3, c19r4, c19r5, c19r6, c19r7, c19r8, c19r9, c19r10, c19r11, c19r12, c19r14, c19r15, c19r16, c19r17, c19r18, c19r19, c19r20, c19r21, c19r23, c19r24, c19r25, c19r26, c19r28, EV0, EV1, EV2, EV3, EV4, EV5, EV6, EV7, EV8, VALS, plug, ite_same, decide_true, decide_false, eq_self, ↓reduceIte, reduceCtorEq, Nat.reduceAdd, Nat.reduceEqDiff, Nat.reduceLT, Nat.reduceLeDiff, Nat.reduceMul, Nat.reduceSub, Nat.reduceDiv, Int.reduceToNat, Int.reduceAdd, Int.reduceSub, Int.reduceMul, Int.reduceNeg, Int.reduceEq, Int.reduceLT, Int.reduceLE]; rfl) ?_)
        | refine post0 ?_
      refine k_blk (k_loopS (X := Int) [0, 4, 5, 6, 7, 18, 19] l.length (fun j x => [(0, vB l), (4, .sl r 0 (rowsK l k).length 1), (5, .sl u 0 l.length 1), (6, .i .i64 x), (7, .i .i64 (j : Int)), (18, .i .i64 l.length), (19, .i .i64 (k : Int))])
        (fun j x h' => (∀ t b, h.m t = some b → h'.m t = some b) ∧ h.nx ≤ h'.nx ∧ NX l us j x) (-1) (by simp only [Am.keep, List.map_cons, List.map_nil, GA, Nat.reduceEqDiff, ↓reduceIte]; try rfl) ⟨fun t b hb => by have := ok.m hb; simp (disch := omega) only [hb, c19r0, c19r1, c19r2, c19r3, c19r4, c19r5, c19r6, c19r7, c19r8, c19r9, c19r10, c19r11, c19r12, c19r14, c19r15, c19r16, c19r17, c19r18, c19r19, c19r20, c19r21, c19r23, c19r24, c19r25, c19r26, c19r28, EV0, EV1, EV2, EV3, EV4, EV5, EV6, EV7, EV8, VALS, plug, ite_same, decide_true, decide_false, eq_self, ↓reduceIte, reduceCtorEq, Nat.reduceAdd, Nat.reduceEqDiff, Nat.reduceLT, Nat.reduceLeDiff, Nat.reduceMul, Nat.reduceSub, Nat.reduceDiv, Int.reduceToNat, Int.reduceAdd, Int.reduceSub, Int.reduceMul, Int.reduceNeg, Int.reduceEq, Int.reduceLT, Int.reduceLE], by simp only [AH.bump_nx]; omega, .inl ⟨rfl, fun i hi => by omega⟩⟩ ?_)
      rintro j x h1 hj ⟨F1, nx1, X⟩ ok1 pos1
      have hu1 := F1 _ _ hu
      by_cases jlt : j < l.length
      · have jlt' : (j : Int) < l.length := by omega
        have ba := bl_get (l := us) (j := j) (by omega)
        have rA := rdB jlt
        cases hb : us.getD j false with
        | true =>
          rw [hb] at ba
          repeat' first
            | with_reducible refine k_seq ?_
            | with_reducible refine k_skip ?_
            | with_reducible refine k_blkS ?_
            | with_reducible refine k_blkR ?_
            | with_reducible refine k_blkC ?_
            | with_reducible refine k_blkH ?_
            | with_reducible refine k_blkB ?_
            | with_reducible refine k_blkK ?_
            | with_reducible refine k_blkE ?_
            | with_reducible refine k_reg ?_
            | with_reducible refine k_head (by with_unfolding_all rfl) ?_
            | with_reducible refine k_headS ?_
            | (with_reducible refine SepK.mk ?_ ?_; (refine sepQ_P ?_; simp [sepQ, sepG, AOp.late, AOp.free, AOp.xs, AOp.isAl, tokNe, AV.tok, stS_get, strip, AX.val, c19r0, c19r1, c19r2, c19r3, c19r4, c19r5, c19r6, c19r7, c19r8, c19r9, c19r10, c19r11, c19r12, c19r14, c19r15, c19r16, c19r17, c19r18, c19r19, c19r20, c19r21, c19r23, c19r24, c19r25, c19r26, c19r28, GA]; try omega))
            | with_reducible refine r_done ?_
            | with_reducible refine hr_done ?_
            | with_reducible refine s_go (by simp (disch := omega) only [jlt', hu1, row_m hu1, read_row (row_m hu1), ba, hul, c19r0, c19r1, c19r2, c19r3, c19r4, c19r5, c19r6, c19r7, c19r8, c19r9, c19r10, c19r11, c19r12, c19r14, c19r15, c19r16, c19r17, c19r18, c19r19, c19r20, c19r21, c19r23, c19r24, c19r25, c19r26, c19r28, EV0, EV1, EV2, EV3, EV4, EV5, EV6, EV7, EV8, VALS, plug, ite_same, decide_true, decide_false, eq_self, ↓reduceIte, reduceCtorEq, Nat.reduceAdd, Nat.reduceEqDiff, Nat.reduceLT, Nat.reduceLeDiff, Nat.reduceMul, Nat.reduceSub, Nat.reduceDiv, Int.reduceToNat, Int.reduceAdd, Int.reduceSub, Int.reduceMul, Int.reduceNeg, Int.reduceEq, Int.reduceLT, Int.reduceLE]; with_reducible rfl) ?_
            | with_reducible refine h_go (by with_unfolding_all rfl) (by simp (disch := omega) only [jlt', hu1, row_m hu1, read_row (row_m hu1), ba, hul, c19r0, c19r1, c19r2, c19r3, c19r4, c19r5, c19r6, c19r7, c19r8, c19r9, c19r10, c19r11, c19r12, c19r14, c19r15, c19r16, c19r17, c19r18, c19r19, c19r20, c19r21, c19r23, c19r24, c19r25, c19r26, c19r28, EV0, EV1, EV2, EV3, EV4, EV5, EV6, EV7, EV8, VALS, plug, ite_same, decide_true, decide_false, eq_self, ↓reduceIte, reduceCtorEq, Nat.reduceAdd, Nat.reduceEqDiff, Nat.reduceLT, Nat.reduceLeDiff, Nat.reduceMul, Nat.reduceSub, Nat.reduceDiv, Int.reduceToNat, Int.reduceAdd, Int.reduceSub, Int.reduceMul, Int.reduceNeg, Int.reduceEq, Int.reduceLT, Int.reduceLE]; with_reducible rfl) ?_
            | ((with_reducible refine chk_r ?_); refine r_callF (by simp only [CA, Nat.reduceEqDiff, ↓reduceIte]; rfl) (by exact rfl) (by simp only [CA, Nat.reduceEqDiff, ↓reduceIte]; rfl) rfl ?_)
            | ((with_reducible refine chk_h ?_); refine hr_callF (by simp only [CA, Nat.reduceEqDiff, ↓reduceIte]; rfl) (by exact rfl) (by simp only [CA, Nat.reduceEqDiff, ↓reduceIte]; rfl) rfl ?_)
            | ((with_reducible refine chk_h ?_); refine hr_app (by simp (disch := omega) only [jlt', hu1, row_m hu1, read_row (row_m hu1), ba, hul, c19r0, c19r1, c19r2, c19r3, c19r4, c19r5, c19r6, c19r7, c19r8, c19r9, c19r10, c19r11, c19r12, c19r14, c19r15, c19r16, c19r17, c19r18, c19r19, c19r20, c19r21, c19r23, c19r24, c19r25, c19r26, c19r28, EV0, EV1, EV2, EV3, EV4, EV5, EV6, EV7, EV8, VALS, plug, ite_same, decide_true, decide_false, eq_self, ↓reduceIte, reduceCtorEq, Nat.reduceAdd, Nat.reduceEqDiff, Nat.reduceLT, Nat.reduceLeDiff, Nat.reduceMul, Nat.reduceSub, Nat.reduceDiv, Int.reduceToNat, Int.reduceAdd, Int.reduceSub, Int.reduceMul, Int.reduceNeg, Int.reduceEq, Int.reduceLT, Int.reduceLE]; with_reducible rfl) rfl ?_)
            | (with_reducible refine k_condP (by simp only [GA, Nat.reduceEqDiff, ↓reduceIte]; rfl) (by first | (simp only [BO]; rfl) | rfl) (fun ht => ?_) (fun ht => ?_) <;> try (first | exact False.elim ht | exact absurd rfl ht | exact absurd trivial ht | exact Bool.noConfusion ht))
            | (with_reducible refine k_ret ?_; repeat with_reducible (first | refine ret_thru ?_ | refine ret_blk ?_ | refine fin ?_))
            | (with_reducible refine k_exit ?_; repeat with_reducible (first | refine thru ?_ | refine out_blk ?_ | refine pass (by decide) ?_))
            | (refine post1 ?_; simp only [GA, Nat.reduceEqDiff, ↓reduceIte])
            | (refine post2 ?_; simp only [GA, Nat.reduceEqDiff, ↓reduceIte])
            | (refine post3 ?_; simp only [GA, Nat.reduceEqDiff, ↓reduceIte])
            | (refine postc (by simp only [GA, Nat.reduceEqDiff, ↓reduceIte]; rfl) (by simp (disch := omega) only [jlt', hu1, row_m hu1, read_row (row_m hu1), ba, hul, c19r0, c19r1, c19r2, c19r3, c19r4, c19r5, c19r6, c19r7, c19r8, c19r9, c19r10, c19r11, c19r12, c19r14, c19r15, c19r16, c19r17, c19r18, c19r19, c19r20, c19r21, c19r23, c19r24, c19r25, c19r26, c19r28, EV0, EV1, EV2, EV3, EV4, EV5, EV6, EV7, EV8, VALS, plug, ite_same, decide_true, decide_false, eq_self, ↓reduceIte, reduceCtorEq, Nat.reduceAdd, Nat.reduceEqDiff, Nat.reduceLT, Nat.reduceLeDiff, Nat.reduceMul, Nat.reduceSub, Nat.reduceDiv, Int.reduceToNat, Int.reduceAdd, Int.reduceSub, Int.reduceMul, Int.reduceNeg, Int.reduceEq, Int.reduceLT, Int.reduceLE]; rfl) ?_)
            | refine post0 ?_
          exact ⟨jlt, x, (by simp only [Am.keep, List.map_cons, List.map_nil, GA, Nat.reduceEqDiff, ↓reduceIte]; try rfl), fun t b hb => by have := ok1.m (F1 _ _ hb); simp (disch := omega) only [F1 _ _ hb, c19r0, c19r1, c19r2, c19r3, c19r4, c19r5, c19r6, c19r7, c19r8, c19r9, c19r10, c19r11, c19r12, c19r14, c19r15, c19r16, c19r17, c19r18, c19r19, c19r20, c19r21, c19r23, c19r24, c19r25, c19r26, c19r28, EV0, EV1, EV2, EV3, EV4, EV5, EV6, EV7, EV8, VALS, plug, ite_same, decide_true, decide_false, eq_self, ↓reduceIte, reduceCtorEq, Nat.reduceAdd, Nat.reduceEqDiff, Nat.reduceLT, Nat.reduceLeDiff, Nat.reduceMul, Nat.reduceSub, Nat.reduceDiv, Int.reduceToNat, Int.reduceAdd, Int.reduceSub, Int.reduceMul, Int.reduceNeg, Int.reduceEq, Int.reduceLT, Int.reduceLE], by simp only [AH.bump_nx]; omega, X.skip hb⟩
        | false =>
          rw [hb] at ba
          have X' := X
          rcases X' with ⟨rfl, a⟩ | ⟨i, rfl, hi, a, b⟩
          · repeat' first
              | with_reducible refine k_seq ?_
              | with_reducible refine k_skip ?_
              | with_reducible refine k_blkS ?_
              | with_reducible refine k_blkR ?_
              | with_reducible refine k_blkC ?_
              | with_reducible refine k_blkH ?_
              | with_reducible refine k_blkB ?_
              | with_reducible refine k_blkK ?_
              | with_reducible refine k_blkE ?_
              | with_reducible refine k_reg ?_
              | with_reducible refine k_head (by with_unfolding_all rfl) ?_
              | with_reducible refine k_headS ?_
              | (with_reducible refine SepK.mk ?_ ?_; (refine sepQ_P ?_; simp [sepQ, sepG, AOp.late, AOp.free, AOp.xs, AOp.isAl, tokNe, AV.tok, stS_get, strip, AX.val, c19r0, c19r1, c19r2, c19r3, c19r4, c19r5, c19r6, c19r7, c19r8, c19r9, c19r10, c19r11, c19r12, c19r14, c19r15, c19r16, c19r17, c19r18, c19r19, c19r20, c19r21, c19r23, c19r24, c19r25, c19r26, c19r28, GA]; try omega))
              | with_reducible refine r_done ?_
              | with_reducible refine hr_done ?_
              | with_reducible refine s_go (by simp (disch := omega) only [jlt', hu1, row_m hu1, read_row (row_m hu1), ba, hul, c19r0, c19r1, c19r2, c19r3, c19r4, c19r5, c19r6, c19r7, c19r8, c19r9, c19r10, c19r11, c19r12, c19r14, c19r15, c19r16, c19r17, c19r18, c19r19, c19r20, c19r21, c19r23, c19r24, c19r25, c19r26, c19r28, EV0, EV1, EV2, EV3, EV4, EV5, EV6, EV7, EV8, VALS, plug, ite_same, decide_true, decide_false, eq_self, ↓reduceIte, reduceCtorEq, Nat.reduceAdd, Nat.reduceEqDiff, Nat.reduceLT, Nat.reduceLeDiff, Nat.reduceMul, Nat.reduceSub, Nat.reduceDiv, Int.reduceToNat, Int.reduceAdd, Int.reduceSub, Int.reduceMul, Int.reduceNeg, Int.reduceEq, Int.reduceLT, Int.reduceLE]; with_reducible rfl) ?_
              | with_reducible refine h_go (by with_unfolding_all rfl) (by simp (disch := omega) only [jlt', hu1, row_m hu1, read_row (row_m hu1), ba, hul, c19r0, c19r1, c19r2, c19r3, c19r4, c19r5, c19r6, c19r7, c19r8, c19r9, c19r10, c19r11, c19r12, c19r14, c19r15, c19r16, c19r17, c19r18, c19r19, c19r20, c19r21, c19r23, c19r24, c19r25, c19r26, c19r28, EV0, EV1, EV2, EV3, EV4, EV5, EV6, EV7, EV8, VALS, plug, ite_same, decide_true, decide_false, eq_self, ↓reduceIte, reduceCtorEq, Nat.reduceAdd, Nat.reduceEqDiff, Nat.reduceLT, Nat.reduceLeDiff, Nat.reduceMul, Nat.reduceSub, Nat.reduceDiv, Int.reduceToNat, Int.reduceAdd, Int.reduceSub, Int.reduceMul, Int.reduceNeg, Int.reduceEq, Int.reduceLT, Int.reduceLE]; with_reducible rfl) ?_
              | ((with_reducible refine chk_r ?_); refine r_callF (by simp only [CA, Nat.reduceEqDiff, ↓reduceIte]; rfl) (by exact rfl) (by simp only [CA, Nat.reduceEqDiff, ↓reduceIte]; rfl) rfl ?_)
              | ((with_reducible refine chk_h ?_); refine hr_callF (by simp only [CA, Nat.reduceEqDiff, ↓reduceIte]; rfl) (by exact rfl) (by simp only [CA, Nat.reduceEqDiff, ↓reduceIte]; rfl) rfl ?_)
              | ((with_reducible refine chk_h ?_); refine hr_app (by simp (disch := omega) only [jlt', hu1, row_m hu1, read_row (row_m hu1), ba, hul, c19r0, c19r1, c19r2, c19r3, c19r4, c19r5, c19r6, c19r7, c19r8, c19r9, c19r10, c19r11, c19r12, c19r14, c19r15, c19r16, c19r17, c19r18, c19r19, c19r20, c19r21, c19r23, c19r24, c19r25, c19r26, c19r28, EV0, EV1, EV2, EV3, EV4, EV5, EV6, EV7, EV8, VALS, plug, ite_same, decide_true, decide_false, eq_self, ↓reduceIte, reduceCtorEq, Nat.reduceAdd, Nat.reduceEqDiff, Nat.reduceLT, Nat.reduceLeDiff, Nat.reduceMul, Nat.reduceSub, Nat.reduceDiv, Int.reduceToNat, Int.reduceAdd, Int.reduceSub, Int.reduceMul, Int.reduceNeg, Int.reduceEq, Int.reduceLT, Int.reduceLE]; with_reducible rfl) rfl ?_)
              | (with_reducible refine k_condP (by simp only [GA, Nat.reduceEqDiff, ↓reduceIte]; rfl) (by first | (simp only [BO]; rfl) | rfl) (fun ht => ?_) (fun ht => ?_) <;> try (first | exact False.elim ht | exact absurd rfl ht | exact absurd trivial ht | exact Bool.noConfusion ht))
              | (with_reducible refine k_ret ?_; repeat with_reducible (first | refine ret_thru ?_ | refine ret_blk ?_ | refine fin ?_))
              | (with_reducible refine k_exit ?_; repeat with_reducible (first | refine thru ?_ | refine out_blk ?_ | refine pass (by decide) ?_))
              | (refine post1 ?_; simp only [GA, Nat.reduceEqDiff, ↓reduceIte])
              | (refine post2 ?_; simp only [GA, Nat.reduceEqDiff, ↓reduceIte])
              | (refine post3 ?_; simp only [GA, Nat.reduceEqDiff, ↓reduceIte])
              | (refine postc (by simp only [GA, Nat.reduceEqDiff, ↓reduceIte]; rfl) (by simp (disch := omega) only [jlt', hu1, row_m hu1, read_row (row_m hu1), ba, hul, c19r0, c19r1, c19r2, c19r3, c19r4, c19r5, c19r6, c19r7, c19r8, c19r9, c19r10, c19r11, c19r12, c19r14, c19r15, c19r16, c19r17, c19r18, c19r19, c19r20, c19r21, c19r23, c19r24, c19r25, c19r26, c19r28, EV0, EV1, EV2, EV3, EV4, EV5, EV6, EV7, EV8, VALS, plug, ite_same, decide_true, decide_false, eq_self, ↓reduceIte, reduceCtorEq, Nat.reduceAdd, Nat.reduceEqDiff, Nat.reduceLT, Nat.reduceLeDiff, Nat.reduceMul, Nat.reduceSub, Nat.reduceDiv, Int.reduceToNat, Int.reduceAdd, Int.reduceSub, Int.reduceMul, Int.reduceNeg, Int.reduceEq, Int.reduceLT, Int.reduceLE]; rfl) ?_)
              | refine post0 ?_
            exact ⟨jlt, (j : Int), (by simp only [Am.keep, List.map_cons, List.map_nil, GA, Nat.reduceEqDiff, ↓reduceIte]; try rfl), fun t b hb => by have := ok1.m (F1 _ _ hb); simp (disch := omega) only [F1 _ _ hb, c19r0, c19r1, c19r2, c19r3, c19r4, c19r5, c19r6, c19r7, c19r8, c19r9, c19r10, c19r11, c19r12, c19r14, c19r15, c19r16, c19r17, c19r18, c19r19, c19r20, c19r21, c19r23, c19r24, c19r25, c19r26, c19r28, EV0, EV1, EV2, EV3, EV4, EV5, EV6, EV7, EV8, VALS, plug, ite_same, decide_true, decide_false, eq_self, ↓reduceIte, reduceCtorEq, Nat.reduceAdd, Nat.reduceEqDiff, Nat.reduceLT, Nat.reduceLeDiff, Nat.reduceMul, Nat.reduceSub, Nat.reduceDiv, Int.reduceToNat, Int.reduceAdd, Int.reduceSub, Int.reduceMul, Int.reduceNeg, Int.reduceEq, Int.reduceLT, Int.reduceLE], by simp only [AH.bump_nx]; omega, X.first hb⟩
          · have hil : i < l.length := by omega
            have rB := rdB hil
            have q53 : PC Try.prog 53 [.ag (eB (bD l j)), .ag (eB (bD l i))] (.b (ltB l j i)) := pc53 (bD l j) (bD l i)
            have ni0 : ¬ (i : Int) < 0 := by omega
            simp only [eB] at rA rB q53
            cases hlt2 : ltB l j i with
            | true =>
              rw [hlt2] at q53
              repeat' first
                | with_reducible refine k_seq ?_
                | with_reducible refine k_skip ?_
                | with_reducible refine k_blkS ?_
                | with_reducible refine k_blkR ?_
                | with_reducible refine k_blkC ?_
                | with_reducible refine k_blkH ?_
                | with_reducible refine k_blkB ?_
                | with_reducible refine k_blkK ?_
                | with_reducible refine k_blkE ?_
                | with_reducible refine k_reg ?_
                | with_reducible refine k_head (by with_unfolding_all rfl) ?_
                | with_reducible refine k_headS ?_
                | (with_reducible refine SepK.mk ?_ ?_; (refine sepQ_P ?_; simp [sepQ, sepG, AOp.late, AOp.free, AOp.xs, AOp.isAl, tokNe, AV.tok, stS_get, strip, AX.val, c19r0, c19r1, c19r2, c19r3, c19r4, c19r5, c19r6, c19r7, c19r8, c19r9, c19r10, c19r11, c19r12, c19r14, c19r15, c19r16, c19r17, c19r18, c19r19, c19r20, c19r21, c19r23, c19r24, c19r25, c19r26, c19r28, GA]; try omega))
                | with_reducible refine r_done ?_
                | with_reducible refine hr_done ?_
                | with_reducible refine s_go (by simp (disch := omega) only [jlt', hu1, row_m hu1, read_row (row_m hu1), ba, hul, hil, rA, rB, ni0, c19r0, c19r1, c19r2, c19r3, c19r4, c19r5, c19r6, c19r7, c19r8, c19r9, c19r10, c19r11, c19r12, c19r14, c19r15, c19r16, c19r17, c19r18, c19r19, c19r20, c19r21, c19r23, c19r24, c19r25, c19r26, c19r28, EV0, EV1, EV2, EV3, EV4, EV5, EV6, EV7, EV8, VALS, plug, ite_same, decide_true, decide_false, eq_self, ↓reduceIte, reduceCtorEq, Nat.reduceAdd, Nat.reduceEqDiff, Nat.reduceLT, Nat.reduceLeDiff, Nat.reduceMul, Nat.reduceSub, Nat.reduceDiv, Int.reduceToNat, Int.reduceAdd, Int.reduceSub, Int.reduceMul, Int.reduceNeg, Int.reduceEq, Int.reduceLT, Int.reduceLE]; with_reducible rfl) ?_
                | with_reducible refine h_go (by with_unfolding_all rfl) (by simp (disch := omega) only [jlt', hu1, row_m hu1, read_row (row_m hu1), ba, hul, hil, rA, rB, ni0, c19r0, c19r1, c19r2, c19r3, c19r4, c19r5, c19r6, c19r7, c19r8, c19r9, c19r10, c19r11, c19r12, c19r14, c19r15, c19r16, c19r17, c19r18, c19r19, c19r20, c19r21, c19r23, c19r24, c19r25, c19r26, c19r28, EV0, EV1, EV2, EV3, EV4, EV5, EV6, EV7, EV8, VALS, plug, ite_same, decide_true, decide_false, eq_self, ↓reduceIte, reduceCtorEq, Nat.reduceAdd, Nat.reduceEqDiff, Nat.reduceLT, Nat.reduceLeDiff, Nat.reduceMul, Nat.reduceSub, Nat.reduceDiv, Int.reduceToNat, Int.reduceAdd, Int.reduceSub, Int.reduceMul, Int.reduceNeg, Int.reduceEq, Int.reduceLT, Int.reduceLE]; with_reducible rfl) ?_
                | ((with_reducible refine chk_r ?_); refine r_callF (by simp only [CA, Nat.reduceEqDiff, ↓reduceIte]; rfl) (by exact rfl) (by simp only [CA, Nat.reduceEqDiff, ↓reduceIte]; rfl) rfl ?_)
                | ((with_reducible refine chk_h ?_); refine hr_callF (by simp only [CA, Nat.reduceEqDiff, ↓reduceIte]; rfl) (by exact rfl) (by simp only [CA, Nat.reduceEqDiff, ↓reduceIte]; rfl) rfl ?_)
                | ((with_reducible refine chk_r ?_); refine r_callP (by simp only [CA, Nat.reduceEqDiff, ↓reduceIte]; rfl) (by simp only [CA, Nat.reduceEqDiff, ↓reduceIte]; rfl) (by first | exact q53 _) rfl ?_)
                | ((with_reducible refine chk_h ?_); refine hr_callP (by simp only [CA, Nat.reduceEqDiff, ↓reduceIte]; rfl) (by simp only [CA, Nat.reduceEqDiff, ↓reduceIte]; rfl) (by first | exact q53 _) rfl ?_)
                | ((with_reducible refine chk_h ?_); refine hr_callP1 (by simp only [CA, Nat.reduceEqDiff, ↓reduceIte]; rfl) (by simp only [CA, Nat.reduceEqDiff, ↓reduceIte]; rfl) (by simp (disch := omega) only [CA, Nat.reduceEqDiff, ↓reduceIte, firstTok_nil, firstTok_sl, firstTok_sl0, firstTok_i, firstTok_b, firstTok_ag, firstTok_p, firstTok_s]; rfl) (by first | exact q53 _) rfl ?_)
                | ((with_reducible refine chk_r ?_); refine r_callG (by simp only [CA, Nat.reduceEqDiff, ↓reduceIte]; rfl) (by simp only [CA, Nat.reduceEqDiff, ↓reduceIte]; rfl) (by simp only [CA, Nat.reduceEqDiff, ↓reduceIte]; rfl) (by intro hg; (try simp only [BO] at hg); first | exact q53 _) rfl ?_)
                | ((with_reducible refine chk_h ?_); refine hr_callG (by simp only [CA, Nat.reduceEqDiff, ↓reduceIte]; rfl) (by simp only [CA, Nat.reduceEqDiff, ↓reduceIte]; rfl) (by simp only [CA, Nat.reduceEqDiff, ↓reduceIte]; rfl) (by intro hg; (try simp only [BO] at hg); first | exact q53 _) rfl ?_)
                | ((with_reducible refine chk_h ?_); refine hr_app (by simp (disch := omega) only [jlt', hu1, row_m hu1, read_row (row_m hu1), ba, hul, hil, rA, rB, ni0, c19r0, c19r1, c19r2, c19r3, c19r4, c19r5, c19r6, c19r7, c19r8, c19r9, c19r10, c19r11, c19r12, c19r14, c19r15, c19r16, c19r17, c19r18, c19r19, c19r20, c19r21, c19r23, c19r24, c19r25, c19r26, c19r28, EV0, EV1, EV2, EV3, EV4, EV5, EV6, EV7, EV8, VALS, plug, ite_same, decide_true, decide_false, eq_self, ↓reduceIte, reduceCtorEq, Nat.reduceAdd, Nat.reduceEqDiff, Nat.reduceLT, Nat.reduceLeDiff, Nat.reduceMul, Nat.reduceSub, Nat.reduceDiv, Int.reduceToNat, Int.reduceAdd, Int.reduceSub, Int.reduceMul, Int.reduceNeg, Int.reduceEq, Int.reduceLT, Int.reduceLE]; with_reducible rfl) rfl ?_)
                | (with_reducible refine k_condP (by simp only [GA, Nat.reduceEqDiff, ↓reduceIte]; rfl) (by first | (simp only [BO]; rfl) | rfl) (fun ht => ?_) (fun ht => ?_) <;> try (first | exact False.elim ht | exact absurd rfl ht | exact absurd trivial ht | exact Bool.noConfusion ht))
                | (with_reducible refine k_ret ?_; repeat with_reducible (first | refine ret_thru ?_ | refine ret_blk ?_ | refine fin ?_))
                | (with_reducible refine k_exit ?_; repeat with_reducible (first | refine thru ?_ | refine out_blk ?_ | refine pass (by decide) ?_))
                | (refine post1 ?_; simp only [GA, Nat.reduceEqDiff, ↓reduceIte])
                | (refine post2 ?_; simp only [GA, Nat.reduceEqDiff, ↓reduceIte])
                | (refine post3 ?_; simp only [GA, Nat.reduceEqDiff, ↓reduceIte])
                | (refine postc (by simp only [GA, Nat.reduceEqDiff, ↓reduceIte]; rfl) (by simp (disch := omega) only [jlt', hu1, row_m hu1, read_row (row_m hu1), ba, hul, hil, rA, rB, ni0, c19r0, c19r1, c19r2, c19r3, c19r4, c19r5, c19r6, c19r7, c19r8, c19r9, c19r10, c19r11, c19r12, c19r14, c19r15, c19r16, c19r17, c19r18, c19r19, c19r20, c19r21, c19r23, c19r24, c19r25, c19r26, c19r28, EV0, EV1, EV2, EV3, EV4, EV5, EV6, EV7, EV8, VALS, plug, ite_same, decide_true, decide_false, eq_self, ↓reduceIte, reduceCtorEq, Nat.reduceAdd, Nat.reduceEqDiff, Nat.reduceLT, Nat.reduceLeDiff, Nat.reduceMul, Nat.reduceSub, Nat.reduceDiv, Int.reduceToNat, Int.reduceAdd, Int.reduceSub, Int.reduceMul, Int.reduceNeg, Int.reduceEq, Int.reduceLT, Int.reduceLE]; rfl) ?_)
                | refine post0 ?_
              exact ⟨jlt, (j : Int), (by simp only [Am.keep, List.map_cons, List.map_nil, GA, Nat.reduceEqDiff, ↓reduceIte]; try rfl), fun t b hb => by have := ok1.m (F1 _ _ hb); simp (disch := omega) only [F1 _ _ hb, c19r0, c19r1, c19r2, c19r3, c19r4, c19r5, c19r6, c19r7, c19r8, c19r9, c19r10, c19r11, c19r12, c19r14, c19r15, c19r16, c19r17, c19r18, c19r19, c19r20, c19r21, c19r23, c19r24, c19r25, c19r26, c19r28, EV0, EV1, EV2, EV3, EV4, EV5, EV6, EV7, EV8, VALS, plug, ite_same, decide_true, decide_false, eq_self, ↓reduceIte, reduceCtorEq, Nat.reduceAdd, Nat.reduceEqDiff, Nat.reduceLT, Nat.reduceLeDiff, Nat.reduceMul, Nat.reduceSub, Nat.reduceDiv, Int.reduceToNat, Int.reduceAdd, Int.reduceSub, Int.reduceMul, Int.reduceNeg, Int.reduceEq, Int.reduceLT, Int.reduceLE], by simp only [AH.bump_nx]; omega, X.take hb hlt2⟩
            | false =>
              rw [hlt2] at q53
              repeat' first
                | with_reducible refine k_seq ?_
                | with_reducible refine k_skip ?_
                | with_reducible refine k_blkS ?_
                | with_reducible refine k_blkR ?_
                | with_reducible refine k_blkC ?_
                | with_reducible refine k_blkH ?_
                | with_reducible refine k_blkB ?_
                | with_reducible refine k_blkK ?_
                | with_reducible refine k_blkE ?_
                | with_reducible refine k_reg ?_
                | with_reducible refine k_head (by with_unfolding_all rfl) ?_
                | with_reducible refine k_headS ?_
                | (with_reducible refine SepK.mk ?_ ?_; (refine sepQ_P ?_; simp [sepQ, sepG, AOp.late, AOp.free, AOp.xs, AOp.isAl, tokNe, AV.tok, stS_get, strip, AX.val, c19r0, c19r1, c19r2, c19r3, c19r4, c19r5, c19r6, c19r7, c19r8, c19r9, c19r10, c19r11, c19r12, c19r14, c19r15, c19r16, c19r17, c19r18, c19r19, c19r20, c19r21, c19r23, c19r24, c19r25, c19r26, c19r28, GA]; try omega))
                | with_reducible refine r_done ?_
                | with_reducible refine hr_done ?_
                | with_reducible refine s_go (by simp (disch := omega) only [jlt', hu1, row_m hu1, read_row (row_m hu1), ba, hul, hil, rA, rB, ni0, c19r0, c19r1, c19r2, c19r3, c19r4, c19r5, c19r6, c19r7, c19r8, c19r9, c19r10, c19r11, c19r12, c19r14, c19r15, c19r16, c19r17, c19r18, c19r19, c19r20, c19r21, c19r23, c19r24, c19r25, c19r26, c19r28, EV0, EV1, EV2, EV3, EV4, EV5, EV6, EV7, EV8, VALS, plug, ite_same, decide_true, decide_false, eq_self, ↓reduceIte, reduceCtorEq, Nat.reduceAdd, Nat.reduceEqDiff, Nat.reduceLT, Nat.reduceLeDiff, Nat.reduceMul, Nat.reduceSub, Nat.reduceDiv, Int.reduceToNat, Int.reduceAdd, Int.reduceSub, Int.reduceMul, Int.reduceNeg, Int.reduceEq, Int.reduceLT, Int.reduceLE]; with_reducible rfl) ?_
                | with_reducible refine h_go (by with_unfolding_all rfl) (by simp (disch := omega) only [jlt', hu1, row_m hu1, read_row (row_m hu1), ba, hul, hil, rA, rB, ni0, c19r0, c19r1, c19r2, c19r3, c19r4, c19r5, c19r6, c19r7, c19r8, c19r9, c19r10, c19r11, c19r12, c19r14, c19r15, c19r16, c19r17, c19r18, c19r19, c19r20, c19r21, c19r23, c19r24, c19r25, c19r26, c19r28, EV0, EV1, EV2, EV3, EV4, EV5, EV6, EV7, EV8, VALS, plug, ite_same, decide_true, decide_false, eq_self, ↓reduceIte, reduceCtorEq, Nat.reduceAdd, Nat.reduceEqDiff, Nat.reduceLT, Nat.reduceLeDiff, Nat.reduceMul, Nat.reduceSub, Nat.reduceDiv, Int.reduceToNat, Int.reduceAdd, Int.reduceSub, Int.reduceMul, Int.reduceNeg, Int.reduceEq, Int.reduceLT, Int.reduceLE]; with_reducible rfl) ?_
                | ((with_reducible refine chk_r ?_); refine r_callF (by simp only [CA, Nat.reduceEqDiff, ↓reduceIte]; rfl) (by exact rfl) (by simp only [CA, Nat.reduceEqDiff, ↓reduceIte]; rfl) rfl ?_)
                | ((with_reducible refine chk_h ?_); refine hr_callF (by simp only [CA, Nat.reduceEqDiff, ↓reduceIte]; rfl) (by exact rfl) (by simp only [CA, Nat.reduceEqDiff, ↓reduceIte]; rfl) rfl ?_)
                | ((with_reducible refine chk_r ?_); refine r_callP (by simp only [CA, Nat.reduceEqDiff, ↓reduceIte]; rfl) (by simp only [CA, Nat.reduceEqDiff, ↓reduceIte]; rfl) (by first | exact q53 _) rfl ?_)
                | ((with_reducible refine chk_h ?_); refine hr_callP (by simp only [CA, Nat.reduceEqDiff, ↓reduceIte]; rfl) (by simp only [CA, Nat.reduceEqDiff, ↓reduceIte]; rfl) (by first | exact q53 _) rfl ?_)
                | ((with_reducible refine chk_h ?_); refine hr_callP1 (by simp only [CA, Nat.reduceEqDiff, ↓reduceIte]; rfl) (by simp only [CA, Nat.reduceEqDiff, ↓reduceIte]; rfl) (by simp (disch := omega) only [CA, Nat.reduceEqDiff, ↓reduceIte, firstTok_nil, firstTok_sl, firstTok_sl0, firstTok_i, firstTok_b, firstTok_ag, firstTok_p, firstTok_s]; rfl) (by first | exact q53 _) rfl ?_)
                | ((with_reducible refine chk_r ?_); refine r_callG (by simp only [CA, Nat.reduceEqDiff, ↓reduceIte]; rfl) (by simp only [CA, Nat.reduceEqDiff, ↓reduceIte]; rfl) (by simp only [CA, Nat.reduceEqDiff, ↓reduceIte]; rfl) (by intro hg; (try simp only [BO] at hg); first | exact q53 _) rfl ?_)
                | ((with_reducible refine chk_h ?_); refine hr_callG (by simp only [CA, Nat.reduceEqDiff, ↓reduceIte]; rfl) (by simp only [CA, Nat.reduceEqDiff, ↓reduceIte]; rfl) (by simp only [CA, Nat.reduceEqDiff, ↓reduceIte]; rfl) (by intro hg; (try simp only [BO] at hg); first | exact q53 _) rfl ?_)
                | ((with_reducible refine chk_h ?_); refine hr_app (by simp (disch := omega) only [jlt', hu1, row_m hu1, read_row (row_m hu1), ba, hul, hil, rA, rB, ni0, c19r0, c19r1, c19r2, c19r3, c19r4, c19r5, c19r6, c19r7, c19r8, c19r9, c19r10, c19r11, c19r12, c19r14, c19r15, c19r16, c19r17, c19r18, c19r19, c19r20, c19r21, c19r23, c19r24, c19r25, c19r26, c19r28, EV0, EV1, EV2, EV3, EV4, EV5, EV6, EV7, EV8, VALS, plug, ite_same, decide_true, decide_false, eq_self, ↓reduceIte, reduceCtorEq, Nat.reduceAdd, Nat.reduceEqDiff, Nat.reduceLT, Nat.reduceLeDiff, Nat.reduceMul, Nat.reduceSub, Nat.reduceDiv, Int.reduceToNat, Int.reduceAdd, Int.reduceSub, Int.reduceMul, Int.reduceNeg, Int.reduceEq, Int.reduceLT, Int.reduceLE]; with_reducible rfl) rfl ?_)
                | (with_reducible refine k_condP (by simp only [GA, Nat.reduceEqDiff, ↓reduceIte]; rfl) (by first | (simp only [BO]; rfl) | rfl) (fun ht => ?_) (fun ht => ?_) <;> try (first | exact False.elim ht | exact absurd rfl ht | exact absurd trivial ht | exact Bool.noConfusion ht))
                | (with_reducible refine k_ret ?_; repeat with_reducible (first | refine ret_thru ?_ | refine ret_blk ?_ | refine fin ?_))
                | (with_reducible refine k_exit ?_; repeat with_reducible (first | refine thru ?_ | refine out_blk ?_ | refine pass (by decide) ?_))
                | (refine post1 ?_; simp only [GA, Nat.reduceEqDiff, ↓reduceIte])
                | (refine post2 ?_; simp only [GA, Nat.reduceEqDiff, ↓reduceIte])
                | (refine post3 ?_; simp only [GA, Nat.reduceEqDiff, ↓reduceIte])
                | (refine postc (by simp only [GA, Nat.reduceEqDiff, ↓reduceIte]; rfl) (by simp (disch := omega) only [jlt', hu1, row_m hu1, read_row (row_m hu1), ba, hul, hil, rA, rB, ni0, c19r0, c19r1, c19r2, c19r3, c19r4, c19r5, c19r6, c19r7, c19r8, c19r9, c19r10, c19r11, c19r12, c19r14, c19r15, c19r16, c19r17, c19r18, c19r19, c19r20, c19r21, c19r23, c19r24, c19r25, c19r26, c19r28, EV0, EV1, EV2, EV3, EV4, EV5, EV6, EV7, EV8, VALS, plug, ite_same, decide_true, decide_false, eq_self, ↓reduceIte, reduceCtorEq, Nat.reduceAdd, Nat.reduceEqDiff, Nat.reduceLT, Nat.reduceLeDiff, Nat.reduceMul, Nat.reduceSub, Nat.reduceDiv, Int.reduceToNat, Int.reduceAdd, Int.reduceSub, Int.reduceMul, Int.reduceNeg, Int.reduceEq, Int.reduceLT, Int.reduceLE]; rfl) ?_)
                | refine post0 ?_
              exact ⟨jlt, (i : Int), (by simp only [Am.keep, List.map_cons, List.map_nil, GA, Nat.reduceEqDiff, ↓reduceIte]; try rfl), fun t b hb => by have := ok1.m (F1 _ _ hb); simp (disch := omega) only [F1 _ _ hb, c19r0, c19r1, c19r2, c19r3, c19r4, c19r5, c19r6, c19r7, c19r8, c19r9, c19r10, c19r11, c19r12, c19r14, c19r15, c19r16, c19r17, c19r18, c19r19, c19r20, c19r21, c19r23, c19r24, c19r25, c19r26, c19r28, EV0, EV1, EV2, EV3, EV4, EV5, EV6, EV7, EV8, VALS, plug, ite_same, decide_true, decide_false, eq_self, ↓reduceIte, reduceCtorEq, Nat.reduceAdd, Nat.reduceEqDiff, Nat.reduceLT, Nat.reduceLeDiff, Nat.reduceMul, Nat.reduceSub, Nat.reduceDiv, Int.reduceToNat, Int.reduceAdd, Int.reduceSub, Int.reduceMul, Int.reduceNeg, Int.reduceEq, Int.reduceLT, Int.reduceLE], by simp only [AH.bump_nx]; omega, X.stay hlt2⟩
      · obtain rfl : j = l.length := by omega
        have jlt' : ¬ (l.length : Int) < l.length := by omega
        obtain rfl := X.is hv hlt hus
        have hx : od l k < l.length := order_get hlt
        have N1 := N.keep F1
        have hr1 := F1 _ _ hr
        have lr1 := ok1.m hr1
        have lu1 := ok1.m hu1
        repeat' first
          | with_reducible refine k_seq ?_
          | with_reducible refine k_skip ?_
          | with_reducible refine k_blkS ?_
          | with_reducible refine k_blkR ?_
          | with_reducible refine k_blkC ?_
          | with_reducible refine k_blkH ?_
          | with_reducible refine k_blkB ?_
          | with_reducible refine k_blkK ?_
          | with_reducible refine k_blkE ?_
          | with_reducible refine k_reg ?_
          | with_reducible refine k_head (by with_unfolding_all rfl) ?_
          | with_reducible refine k_headS ?_
          | (with_reducible refine SepK.mk ?_ ?_; (refine sepQ_P ?_; simp [sepQ, sepG, AOp.late, AOp.free, AOp.xs, AOp.isAl, tokNe, AV.tok, stS_get, strip, AX.val, c19r0, c19r1, c19r2, c19r3, c19r4, c19r5, c19r6, c19r7, c19r8, c19r9, c19r10, c19r11, c19r12, c19r14, c19r15, c19r16, c19r17, c19r18, c19r19, c19r20, c19r21, c19r23, c19r24, c19r25, c19r26, c19r28, GA]; try omega))
          | with_reducible refine r_done ?_
          | with_reducible refine hr_done ?_
          | with_reducible refine s_go (by simp (disch := omega) only [jlt', hu1, row_m hu1, read_row (row_m hu1), hul, hx, c19r0, c19r1, c19r2, c19r3, c19r4, c19r5, c19r6, c19r7, c19r8, c19r9, c19r10, c19r11, c19r12, c19r14, c19r15, c19r16, c19r17, c19r18, c19r19, c19r20, c19r21, c19r23, c19r24, c19r25, c19r26, c19r28, EV0, EV1, EV2, EV3, EV4, EV5, EV6, EV7, EV8, VALS, plug, ite_same, decide_true, decide_false, eq_self, ↓reduceIte, reduceCtorEq, Nat.reduceAdd, Nat.reduceEqDiff, Nat.reduceLT, Nat.reduceLeDiff, Nat.reduceMul, Nat.reduceSub, Nat.reduceDiv, Int.reduceToNat, Int.reduceAdd, Int.reduceSub, Int.reduceMul, Int.reduceNeg, Int.reduceEq, Int.reduceLT, Int.reduceLE]; with_reducible rfl) ?_
          | with_reducible refine h_go (by with_unfolding_all rfl) (by simp (disch := omega) only [jlt', hu1, row_m hu1, read_row (row_m hu1), hul, hx, c19r0, c19r1, c19r2, c19r3, c19r4, c19r5, c19r6, c19r7, c19r8, c19r9, c19r10, c19r11, c19r12, c19r14, c19r15, c19r16, c19r17, c19r18, c19r19, c19r20, c19r21, c19r23, c19r24, c19r25, c19r26, c19r28, EV0, EV1, EV2, EV3, EV4, EV5, EV6, EV7, EV8, VALS, plug, ite_same, decide_true, decide_false, eq_self, ↓reduceIte, reduceCtorEq, Nat.reduceAdd, Nat.reduceEqDiff, Nat.reduceLT, Nat.reduceLeDiff, Nat.reduceMul, Nat.reduceSub, Nat.reduceDiv, Int.reduceToNat, Int.reduceAdd, Int.reduceSub, Int.reduceMul, Int.reduceNeg, Int.reduceEq, Int.reduceLT, Int.reduceLE]; with_reducible rfl) ?_
          | ((with_reducible refine chk_r ?_); refine r_callF (by simp only [CA, Nat.reduceEqDiff, ↓reduceIte]; rfl) (by exact rfl) (by simp only [CA, Nat.reduceEqDiff, ↓reduceIte]; rfl) rfl ?_)
          | ((with_reducible refine chk_h ?_); refine hr_callF (by simp only [CA, Nat.reduceEqDiff, ↓reduceIte]; rfl) (by exact rfl) (by simp only [CA, Nat.reduceEqDiff, ↓reduceIte]; rfl) rfl ?_)
          | ((with_reducible refine chk_h ?_); refine hr_app (by simp (disch := omega) only [jlt', hu1, row_m hu1, read_row (row_m hu1), hul, hx, c19r0, c19r1, c19r2, c19r3, c19r4, c19r5, c19r6, c19r7, c19r8, c19r9, c19r10, c19r11, c19r12, c19r14, c19r15, c19r16, c19r17, c19r18, c19r19, c19r20, c19r21, c19r23, c19r24, c19r25, c19r26, c19r28, EV0, EV1, EV2, EV3, EV4, EV5, EV6, EV7, EV8, VALS, plug, ite_same, decide_true, decide_false, eq_self, ↓reduceIte, reduceCtorEq, Nat.reduceAdd, Nat.reduceEqDiff, Nat.reduceLT, Nat.reduceLeDiff, Nat.reduceMul, Nat.reduceSub, Nat.reduceDiv, Int.reduceToNat, Int.reduceAdd, Int.reduceSub, Int.reduceMul, Int.reduceNeg, Int.reduceEq, Int.reduceLT, Int.reduceLE]; with_reducible rfl) rfl ?_)
          | (with_reducible refine k_condP (by simp only [GA, Nat.reduceEqDiff, ↓reduceIte]; rfl) (by first | (simp only [BO]; rfl) | rfl) (fun ht => ?_) (fun ht => ?_) <;> try (first | exact False.elim ht | exact absurd rfl ht | exact absurd trivial ht | exact Bool.noConfusion ht))
          | (with_reducible refine k_ret ?_; repeat with_reducible (first | refine ret_thru ?_ | refine ret_blk ?_ | refine fin ?_))
          | (with_reducible refine k_exit ?_; repeat with_reducible (first | refine thru ?_ | refine out_blk ?_ | refine pass (by decide) ?_))
          | (refine post1 ?_; simp only [GA, Nat.reduceEqDiff, ↓reduceIte])
          | (refine post2 ?_; simp only [GA, Nat.reduceEqDiff, ↓reduceIte])
          | (refine post3 ?_; simp only [GA, Nat.reduceEqDiff, ↓reduceIte])
          | (refine postc (by simp only [GA, Nat.reduceEqDiff, ↓reduceIte]; rfl) (by simp (disch := omega) only [jlt', hu1, row_m hu1, read_row (row_m hu1), hul, hx, c19r0, c19r1, c19r2, c19r3, c19r4, c19r5, c19r6, c19r7, c19r8, c19r9, c19r10, c19r11, c19r12, c19r14, c19r15, c19r16, c19r17, c19r18, c19r19, c19r20, c19r21, c19r23, c19r24, c19r25, c19r26, c19r28, EV0, EV1, EV2, EV3, EV4, EV5, EV6, EV7, EV8, VALS, plug, ite_same, decide_true, decide_false, eq_self, ↓reduceIte, reduceCtorEq, Nat.reduceAdd, Nat.reduceEqDiff, Nat.reduceLT, Nat.reduceLeDiff, Nat.reduceMul, Nat.reduceSub, Nat.reduceDiv, Int.reduceToNat, Int.reduceAdd, Int.reduceSub, Int.reduceMul, Int.reduceNeg, Int.reduceEq, Int.reduceLT, Int.reduceLE]; rfl) ?_)
          | refine post0 ?_
        have us1 := dn_step hul hlt hus
        have usl : (us.set (od l k) true).length = l.length := by rw [List.length_set]; exact hul
        have Rk := rk (l := l) (k := k) (by omega)
        have rl := rowsK_len l (k := k) (by omega)
        have rin : ∀ j, j < (rowsK l k).length → ((rowsK l k).getD j []).length ≤ 40 := fun j hj => by
          have := row_len (l := l) (k := k) (by omega) j
          omega
        have hat := rowsK_at hlt
        have hfl := rowAt_le l k
        have fy : rowAt l k < (rowsK l k).length → mayI l (lastN ((rowsK l k).getD (rowAt l k) [])) (od l k) = true := fun h => fit_yes h
        have fno : ∀ j, j < rowAt l k → mayI l (lastN ((rowsK l k).getD j [])) (od l k) = false := fun j h => fit_no h
        generalize hfx : rowAt l k = f at *
        refine k_blk (k_loopS (X := Unit) [0, 4, 5, 6, 8, 9, 18, 19] (rowsK l k).length (fun j _ => [(0, vB l), (4, .sl r 0 (rowsK l k).length 1), (5, .sl u 0 l.length 1), (6, .i .i64 ((od l k : Nat) : Int)), (8, .i .i64 (if f < j then (f : Int) else -1)), (9, .i .i64 (j : Int)), (18, .i .i64 l.length), (19, .i .i64 (k : Int))])
          (fun j _ h' => Nest h' 1 r ts ((rowsK l k).map rw1) ∧ h'.m u = some (.cells true (bl (us.set (od l k) true)))) () (by simp only [Am.keep, List.map_cons, List.map_nil, GA, Nat.reduceEqDiff, ↓reduceIte]; try rfl) ⟨nest_keepU N1 fun t b ht hb => ?_, by simp (disch := omega) only [c19r0, c19r1, c19r2, c19r3, c19r4, c19r5, c19r6, c19r7, c19r8, c19r9, c19r10, c19r11, c19r12, c19r14, c19r15, c19r16, c19r17, c19r18, c19r19, c19r20, c19r21, c19r23, c19r24, c19r25, c19r26, c19r28, EV0, EV1, EV2, EV3, EV4, EV5, EV6, EV7, EV8, VALS, plug, ite_same, decide_true, decide_false, eq_self, ↓reduceIte, reduceCtorEq, Nat.reduceAdd, Nat.reduceEqDiff, Nat.reduceLT, Nat.reduceLeDiff, Nat.reduceMul, Nat.reduceSub, Nat.reduceDiv, Int.reduceToNat, Int.reduceAdd, Int.reduceSub, Int.reduceMul, Int.reduceNeg, Int.reduceEq, Int.reduceLT, Int.reduceLE] <;> rfl⟩ ?_)
        · have n2 : ¬ t = u := fun e => by
            rcases ht with q | q
            · exact ru (by omega)
            · exact un (e ▸ q)
          simp (disch := omega) only [hb, c19r0, c19r1, c19r2, c19r3, c19r4, c19r5, c19r6, c19r7, c19r8, c19r9, c19r10, c19r11, c19r12, c19r14, c19r15, c19r16, c19r17, c19r18, c19r19, c19r20, c19r21, c19r23, c19r24, c19r25, c19r26, c19r28, EV0, EV1, EV2, EV3, EV4, EV5, EV6, EV7, EV8, VALS, plug, ite_same, decide_true, decide_false, eq_self, ↓reduceIte, reduceCtorEq, Nat.reduceAdd, Nat.reduceEqDiff, Nat.reduceLT, Nat.reduceLeDiff, Nat.reduceMul, Nat.reduceSub, Nat.reduceDiv, Int.reduceToNat, Int.reduceAdd, Int.reduceSub, Int.reduceMul, Int.reduceNeg, Int.reduceEq, Int.reduceLT, Int.reduceLE]
        rintro j _ h2 hj ⟨N2, hu2⟩ ok2 pos2
        have hr2 := N2.hr
        have lr2 := ok2.m hr2
        have lu2 := ok2.m hu2
        have tl2 := Nest.lt N2 ok2
        have csl := rC_len (k := 1) N2.len
        rw [Nl] at csl
        by_cases jlt : j < (rowsK l k).length
        · have jlt' : (j : Int) < (rowsK l k).length := by omega
          have cj := N2.cell (i := j) (by omega)
          rw [rD_map jlt] at cj
          have tj := N2.row (i := j) (by omega)
          rw [rD_map jlt] at tj
          have ltj := tl2 _ (N2.mem (i := j) (by omega))
          have rij := rin j jlt
          have hne := Rk.ne _ (mem_row jlt)
          have hp : 0 < ((rowsK l k).getD j []).length := List.length_pos_iff.2 hne
          have e2 : (((rowsK l k).getD j []).length : Int) - 1 = ((((rowsK l k).getD j []).length - 1 : Nat) : Int) := by omega
          have e3 : ((rowsK l k).getD j []).length - 1 < ((rowsK l k).getD j []).length := by omega
          have g := last_get hne
          have ll := (Rk.dark hlt jlt).2
          have rA := rdB ll
          have rB := rdB hx
          have q54 : PC Try.prog 54 [.ag (eB (bD l (lastN ((rowsK l k).getD j [])))), .ag (eB (bD l (od l k)))] (.b (mayI l (lastN ((rowsK l k).getD j [])) (od l k))) := pc54 _ _
          simp only [eB] at rA rB q54
          simp only at cj tj
          by_cases c1 : f < j
          · have flt : f < (rowsK l k).length := by omega
            have cf := N2.cell (i := f) (by omega)
            rw [rD_map flt] at cf
            have tf := N2.row (i := f) (by omega)
            rw [rD_map flt] at tf
            have ltf := tl2 _ (N2.mem (i := f) (by omega))
            have rif := rin f flt
            have hnef := Rk.ne _ (mem_row flt)
            have hpf : 0 < ((rowsK l k).getD f []).length := List.length_pos_iff.2 hnef
            have e2f : (((rowsK l k).getD f []).length : Int) - 1 = ((((rowsK l k).getD f []).length - 1 : Nat) : Int) := by omega
            have e3f : ((rowsK l k).getD f []).length - 1 < ((rowsK l k).getD f []).length := by omega
            have gf := last_get hnef
            have llf := (Rk.dark hlt flt).2
            have gg := getB2 llf
            have dec := Rk.dec f j c1 jlt
            have ng : ¬ (bD l (lastN ((rowsK l k).getD f []))).grain < (bD l (lastN ((rowsK l k).getD j []))).grain := by omega
            have nf0 : ¬ (f : Int) < 0 := by omega
            have flt' : (f : Int) < (rowsK l k).length := by omega
            have c1' : f < j + 1 := by omega
            simp only at cf tf
            generalize hcs : rC 1 ts ((rowsK l k).map rw1) = cs at hr2 cj cf csl
            rw [if_pos c1]
            cases hX : mayI l (lastN ((rowsK l k).getD j [])) (od l k) with
            | true =>
              rw [hX] at q54
              repeat' first
                | with_reducible refine k_seq ?_
                | with_reducible refine k_skip ?_
                | with_reducible refine k_blkS ?_
                | with_reducible refine k_blkR ?_
                | with_reducible refine k_blkC ?_
                | with_reducible refine k_blkH ?_
                | with_reducible refine k_blkB ?_
                | with_reducible refine k_blkK ?_
                | with_reducible refine k_blkE ?_
                | with_reducible refine k_reg ?_
                | with_reducible refine k_head (by with_unfolding_all rfl) ?_
                | with_reducible refine k_headS ?_
                | (with_reducible refine SepK.mk ?_ ?_; (refine sepQ_P ?_; simp [sepQ, sepG, AOp.late, AOp.free, AOp.xs, AOp.isAl, tokNe, AV.tok, stS_get, strip, AX.val, c19r0, c19r1, c19r2, c19r3, c19r4, c19r5, c19r6, c19r7, c19r8, c19r9, c19r10, c19r11, c19r12, c19r14, c19r15, c19r16, c19r17, c19r18, c19r19, c19r20, c19r21, c19r23, c19r24, c19r25, c19r26, c19r28, GA]; try omega))
                | with_reducible refine r_done ?_
                | with_reducible refine hr_done ?_
                | with_reducible refine s_go (by simp (disch := omega) only [jlt', hr2, row_m hr2, read_row (row_m hr2), csl, cj, tj, row_m tj, read_row (row_m tj), nl_len, e2, e3, g, ll, hx, rA, rB, cf, tf, row_m tf, read_row (row_m tf), e2f, e3f, gf, llf, gg, ng, nf0, flt', c19r0, c19r1, c19r2, c19r3, c19r4, c19r5, c19r6, c19r7, c19r8, c19r9, c19r10, c19r11, c19r12, c19r14, c19r15, c19r16, c19r17, c19r18, c19r19, c19r20, c19r21, c19r23, c19r24, c19r25, c19r26, c19r28, EV0, EV1, EV2, EV3, EV4, EV5, EV6, EV7, EV8, VALS, plug, ite_same, decide_true, decide_false, eq_self, ↓reduceIte, reduceCtorEq, Nat.reduceAdd, Nat.reduceEqDiff, Nat.reduceLT, Nat.reduceLeDiff, Nat.reduceMul, Nat.reduceSub, Nat.reduceDiv, Int.reduceToNat, Int.reduceAdd, Int.reduceSub, Int.reduceMul, Int.reduceNeg, Int.reduceEq, Int.reduceLT, Int.reduceLE]; with_reducible rfl) ?_
                | with_reducible refine h_go (by with_unfolding_all rfl) (by simp (disch := omega) only [jlt', hr2, row_m hr2, read_row (row_m hr2), csl, cj, tj, row_m tj, read_row (row_m tj), nl_len, e2, e3, g, ll, hx, rA, rB, cf, tf, row_m tf, read_row (row_m tf), e2f, e3f, gf, llf, gg, ng, nf0, flt', c19r0, c19r1, c19r2, c19r3, c19r4, c19r5, c19r6, c19r7, c19r8, c19r9, c19r10, c19r11, c19r12, c19r14, c19r15, c19r16, c19r17, c19r18, c19r19, c19r20, c19r21, c19r23, c19r24, c19r25, c19r26, c19r28, EV0, EV1, EV2, EV3, EV4, EV5, EV6, EV7, EV8, VALS, plug, ite_same, decide_true, decide_false, eq_self, ↓reduceIte, reduceCtorEq, Nat.reduceAdd, Nat.reduceEqDiff, Nat.reduceLT, Nat.reduceLeDiff, Nat.reduceMul, Nat.reduceSub, Nat.reduceDiv, Int.reduceToNat, Int.reduceAdd, Int.reduceSub, Int.reduceMul, Int.reduceNeg, Int.reduceEq, Int.reduceLT, Int.reduceLE]; with_reducible rfl) ?_
                | ((with_reducible refine chk_r ?_); refine r_callF (by simp only [CA, Nat.reduceEqDiff, ↓reduceIte]; rfl) (by exact rfl) (by simp only [CA, Nat.reduceEqDiff, ↓reduceIte]; rfl) rfl ?_)
                | ((with_reducible refine chk_h ?_); refine hr_callF (by simp only [CA, Nat.reduceEqDiff, ↓reduceIte]; rfl) (by exact rfl) (by simp only [CA, Nat.reduceEqDiff, ↓reduceIte]; rfl) rfl ?_)
                | ((with_reducible refine chk_r ?_); refine r_callP (by simp only [CA, Nat.reduceEqDiff, ↓reduceIte]; rfl) (by simp only [CA, Nat.reduceEqDiff, ↓reduceIte]; rfl) (by first | exact q54 _) rfl ?_)
                | ((with_reducible refine chk_h ?_); refine hr_callP (by simp only [CA, Nat.reduceEqDiff, ↓reduceIte]; rfl) (by simp only [CA, Nat.reduceEqDiff, ↓reduceIte]; rfl) (by first | exact q54 _) rfl ?_)
                | ((with_reducible refine chk_h ?_); refine hr_callP1 (by simp only [CA, Nat.reduceEqDiff, ↓reduceIte]; rfl) (by simp only [CA, Nat.reduceEqDiff, ↓reduceIte]; rfl) (by simp (disch := omega) only [CA, Nat.reduceEqDiff, ↓reduceIte, firstTok_nil, firstTok_sl, firstTok_sl0, firstTok_i, firstTok_b, firstTok_ag, firstTok_p, firstTok_s]; rfl) (by first | exact q54 _) rfl ?_)
                | ((with_reducible refine chk_r ?_); refine r_callG (by simp only [CA, Nat.reduceEqDiff, ↓reduceIte]; rfl) (by simp only [CA, Nat.reduceEqDiff, ↓reduceIte]; rfl) (by simp only [CA, Nat.reduceEqDiff, ↓reduceIte]; rfl) (by intro hg; (try simp only [BO] at hg); first | exact q54 _) rfl ?_)
                | ((with_reducible refine chk_h ?_); refine hr_callG (by simp only [CA, Nat.reduceEqDiff, ↓reduceIte]; rfl) (by simp only [CA, Nat.reduceEqDiff, ↓reduceIte]; rfl) (by simp only [CA, Nat.reduceEqDiff, ↓reduceIte]; rfl) (by intro hg; (try simp only [BO] at hg); first | exact q54 _) rfl ?_)
                | ((with_reducible refine chk_h ?_); refine hr_app (by simp (disch := omega) only [jlt', hr2, row_m hr2, read_row (row_m hr2), csl, cj, tj, row_m tj, read_row (row_m tj), nl_len, e2, e3, g, ll, hx, rA, rB, cf, tf, row_m tf, read_row (row_m tf), e2f, e3f, gf, llf, gg, ng, nf0, flt', c19r0, c19r1, c19r2, c19r3, c19r4, c19r5, c19r6, c19r7, c19r8, c19r9, c19r10, c19r11, c19r12, c19r14, c19r15, c19r16, c19r17, c19r18, c19r19, c19r20, c19r21, c19r23, c19r24, c19r25, c19r26, c19r28, EV0, EV1, EV2, EV3, EV4, EV5, EV6, EV7, EV8, VALS, plug, ite_same, decide_true, decide_false, eq_self, ↓reduceIte, reduceCtorEq, Nat.reduceAdd, Nat.reduceEqDiff, Nat.reduceLT, Nat.reduceLeDiff, Nat.reduceMul, Nat.reduceSub, Nat.reduceDiv, Int.reduceToNat, Int.reduceAdd, Int.reduceSub, Int.reduceMul, Int.reduceNeg, Int.reduceEq, Int.reduceLT, Int.reduceLE]; with_reducible rfl) rfl ?_)
                | (with_reducible refine k_condP (by simp only [GA, Nat.reduceEqDiff, ↓reduceIte]; rfl) (by first | (simp only [BO]; rfl) | rfl) (fun ht => ?_) (fun ht => ?_) <;> try (first | exact False.elim ht | exact absurd rfl ht | exact absurd trivial ht | exact Bool.noConfusion ht))
                | (with_reducible refine k_ret ?_; repeat with_reducible (first | refine ret_thru ?_ | refine ret_blk ?_ | refine fin ?_))
                | (with_reducible refine k_exit ?_; repeat with_reducible (first | refine thru ?_ | refine out_blk ?_ | refine pass (by decide) ?_))
                | (refine post1 ?_; simp only [GA, Nat.reduceEqDiff, ↓reduceIte])
                | (refine post2 ?_; simp only [GA, Nat.reduceEqDiff, ↓reduceIte])
                | (refine post3 ?_; simp only [GA, Nat.reduceEqDiff, ↓reduceIte])
                | (refine postc (by simp only [GA, Nat.reduceEqDiff, ↓reduceIte]; rfl) (by simp (disch := omega) only [jlt', hr2, row_m hr2, read_row (row_m hr2), csl, cj, tj, row_m tj, read_row (row_m tj), nl_len, e2, e3, g, ll, hx, rA, rB, cf, tf, row_m tf, read_row (row_m tf), e2f, e3f, gf, llf, gg, ng, nf0, flt', c19r0, c19r1, c19r2, c19r3, c19r4, c19r5, c19r6, c19r7, c19r8, c19r9, c19r10, c19r11, c19r12, c19r14, c19r15, c19r16, c19r17, c19r18, c19r19, c19r20, c19r21, c19r23, c19r24, c19r25, c19r26, c19r28, EV0, EV1, EV2, EV3, EV4, EV5, EV6, EV7, EV8, VALS, plug, ite_same, decide_true, decide_false, eq_self, ↓reduceIte, reduceCtorEq, Nat.reduceAdd, Nat.reduceEqDiff, Nat.reduceLT, Nat.reduceLeDiff, Nat.reduceMul, Nat.reduceSub, Nat.reduceDiv, Int.reduceToNat, Int.reduceAdd, Int.reduceSub, Int.reduceMul, Int.reduceNeg, Int.reduceEq, Int.reduceLT, Int.reduceLE]; rfl) ?_)
                | refine post0 ?_
              exact ⟨jlt, (), (by simp only [Am.keep, List.map_cons, List.map_nil, GA, Nat.reduceEqDiff, ↓reduceIte, if_pos c1']; try rfl), N2.keep fun t b hb => by have := ok2.m hb; simp (disch := omega) only [hb, c19r0, c19r1, c19r2, c19r3, c19r4, c19r5, c19r6, c19r7, c19r8, c19r9, c19r10, c19r11, c19r12, c19r14, c19r15, c19r16, c19r17, c19r18, c19r19, c19r20, c19r21, c19r23, c19r24, c19r25, c19r26, c19r28, EV0, EV1, EV2, EV3, EV4, EV5, EV6, EV7, EV8, VALS, plug, ite_same, decide_true, decide_false, eq_self, ↓reduceIte, reduceCtorEq, Nat.reduceAdd, Nat.reduceEqDiff, Nat.reduceLT, Nat.reduceLeDiff, Nat.reduceMul, Nat.reduceSub, Nat.reduceDiv, Int.reduceToNat, Int.reduceAdd, Int.reduceSub, Int.reduceMul, Int.reduceNeg, Int.reduceEq, Int.reduceLT, Int.reduceLE], by simp (disch := omega) only [hu2, c19r0, c19r1, c19r2, c19r3, c19r4, c19r5, c19r6, c19r7, c19r8, c19r9, c19r10, c19r11, c19r12, c19r14, c19r15, c19r16, c19r17, c19r18, c19r19, c19r20, c19r21, c19r23, c19r24, c19r25, c19r26, c19r28, EV0, EV1, EV2, EV3, EV4, EV5, EV6, EV7, EV8, VALS, plug, ite_same, decide_true, decide_false, eq_self, ↓reduceIte, reduceCtorEq, Nat.reduceAdd, Nat.reduceEqDiff, Nat.reduceLT, Nat.reduceLeDiff, Nat.reduceMul, Nat.reduceSub, Nat.reduceDiv, Int.reduceToNat, Int.reduceAdd, Int.reduceSub, Int.reduceMul, Int.reduceNeg, Int.reduceEq, Int.reduceLT, Int.reduceLE]⟩
            | false =>
              rw [hX] at q54
              repeat' first
                | with_reducible refine k_seq ?_
                | with_reducible refine k_skip ?_
                | with_reducible refine k_blkS ?_
                | with_reducible refine k_blkR ?_
                | with_reducible refine k_blkC ?_
                | with_reducible refine k_blkH ?_
                | with_reducible refine k_blkB ?_
                | with_reducible refine k_blkK ?_
                | with_reducible refine k_blkE ?_
                | with_reducible refine k_reg ?_
                | with_reducible refine k_head (by with_unfolding_all rfl) ?_
                | with_reducible refine k_headS ?_
                | (with_reducible refine SepK.mk ?_ ?_; (refine sepQ_P ?_; simp [sepQ, sepG, AOp.late, AOp.free, AOp.xs, AOp.isAl, tokNe, AV.tok, stS_get, strip, AX.val, c19r0, c19r1, c19r2, c19r3, c19r4, c19r5, c19r6, c19r7, c19r8, c19r9, c19r10, c19r11, c19r12, c19r14, c19r15, c19r16, c19r17, c19r18, c19r19, c19r20, c19r21, c19r23, c19r24, c19r25, c19r26, c19r28, GA]; try omega))
                | with_reducible refine r_done ?_
                | with_reducible refine hr_done ?_
                | with_reducible refine s_go (by simp (disch := omega) only [jlt', hr2, row_m hr2, read_row (row_m hr2), csl, cj, tj, row_m tj, read_row (row_m tj), nl_len, e2, e3, g, ll, hx, rA, rB, cf, tf, row_m tf, read_row (row_m tf), e2f, e3f, gf, llf, gg, ng, nf0, flt', c19r0, c19r1, c19r2, c19r3, c19r4, c19r5, c19r6, c19r7, c19r8, c19r9, c19r10, c19r11, c19r12, c19r14, c19r15, c19r16, c19r17, c19r18, c19r19, c19r20, c19r21, c19r23, c19r24, c19r25, c19r26, c19r28, EV0, EV1, EV2, EV3, EV4, EV5, EV6, EV7, EV8, VALS, plug, ite_same, decide_true, decide_false, eq_self, ↓reduceIte, reduceCtorEq, Nat.reduceAdd, Nat.reduceEqDiff, Nat.reduceLT, Nat.reduceLeDiff, Nat.reduceMul, Nat.reduceSub, Nat.reduceDiv, Int.reduceToNat, Int.reduceAdd, Int.reduceSub, Int.reduceMul, Int.reduceNeg, Int.reduceEq, Int.reduceLT, Int.reduceLE]; with_reducible rfl) ?_
                | with_reducible refine h_go (by with_unfolding_all rfl) (by simp (disch := omega) only [jlt', hr2, row_m hr2, read_row (row_m hr2), csl, cj, tj, row_m tj, read_row (row_m tj), nl_len, e2, e3, g, ll, hx, rA, rB, cf, tf, row_m tf, read_row (row_m tf), e2f, e3f, gf, llf, gg, ng, nf0, flt', c19r0, c19r1, c19r2, c19r3, c19r4, c19r5, c19r6, c19r7, c19r8, c19r9, c19r10, c19r11, c19r12, c19r14, c19r15, c19r16, c19r17, c19r18, c19r19, c19r20, c19r21, c19r23, c19r24, c19r25, c19r26, c19r28, EV0, EV1, EV2, EV3, EV4, EV5, EV6, EV7, EV8, VALS, plug, ite_same, decide_true, decide_false, eq_self, ↓reduceIte, reduceCtorEq, Nat.reduceAdd, Nat.reduceEqDiff, Nat.reduceLT, Nat.reduceLeDiff, Nat.reduceMul, Nat.reduceSub, Nat.reduceDiv, Int.reduceToNat, Int.reduceAdd, Int.reduceSub, Int.reduceMul, Int.reduceNeg, Int.reduceEq, Int.reduceLT, Int.reduceLE]; with_reducible rfl) ?_
                | ((with_reducible refine chk_r ?_); refine r_callF (by simp only [CA, Nat.reduceEqDiff, ↓reduceIte]; rfl) (by exact rfl) (by simp only [CA, Nat.reduceEqDiff, ↓reduceIte]; rfl) rfl ?_)
                | ((with_reducible refine chk_h ?_); refine hr_callF (by simp only [CA, Nat.reduceEqDiff, ↓reduceIte]; rfl) (by exact rfl) (by simp only [CA, Nat.reduceEqDiff, ↓reduceIte]; rfl) rfl ?_)
                | ((with_reducible refine chk_r ?_); refine r_callP (by simp only [CA, Nat.reduceEqDiff, ↓reduceIte]; rfl) (by simp only [CA, Nat.reduceEqDiff, ↓reduceIte]; rfl) (by first | exact q54 _) rfl ?_)
                | ((with_reducible refine chk_h ?_); refine hr_callP (by simp only [CA, Nat.reduceEqDiff, ↓reduceIte]; rfl) (by simp only [CA, Nat.reduceEqDiff, ↓reduceIte]; rfl) (by first | exact q54 _) rfl ?_)
                | ((with_reducible refine chk_h ?_); refine hr_callP1 (by simp only [CA, Nat.reduceEqDiff, ↓reduceIte]; rfl) (by simp only [CA, Nat.reduceEqDiff, ↓reduceIte]; rfl) (by simp (disch := omega) only [CA, Nat.reduceEqDiff, ↓reduceIte, firstTok_nil, firstTok_sl, firstTok_sl0, firstTok_i, firstTok_b, firstTok_ag, firstTok_p, firstTok_s]; rfl) (by first | exact q54 _) rfl ?_)
                | ((with_reducible refine chk_r ?_); refine r_callG (by simp only [CA, Nat.reduceEqDiff, ↓reduceIte]; rfl) (by simp only [CA, Nat.reduceEqDiff, ↓reduceIte]; rfl) (by simp only [CA, Nat.reduceEqDiff, ↓reduceIte]; rfl) (by intro hg; (try simp only [BO] at hg); first | exact q54 _) rfl ?_)
                | ((with_reducible refine chk_h ?_); refine hr_callG (by simp only [CA, Nat.reduceEqDiff, ↓reduceIte]; rfl) (by simp only [CA, Nat.reduceEqDiff, ↓reduceIte]; rfl) (by simp only [CA, Nat.reduceEqDiff, ↓reduceIte]; rfl) (by intro hg; (try simp only [BO] at hg); first | exact q54 _) rfl ?_)
                | ((with_reducible refine chk_h ?_); refine hr_app (by simp (disch := omega) only [jlt', hr2, row_m hr2, read_row (row_m hr2), csl, cj, tj, row_m tj, read_row (row_m tj), nl_len, e2, e3, g, ll, hx, rA, rB, cf, tf, row_m tf, read_row (row_m tf), e2f, e3f, gf, llf, gg, ng, nf0, flt', c19r0, c19r1, c19r2, c19r3, c19r4, c19r5, c19r6, c19r7, c19r8, c19r9, c19r10, c19r11, c19r12, c19r14, c19r15, c19r16, c19r17, c19r18, c19r19, c19r20, c19r21, c19r23, c19r24, c19r25, c19r26, c19r28, EV0, EV1, EV2, EV3, EV4, EV5, EV6, EV7, EV8, VALS, plug, ite_same, decide_true, decide_false, eq_self, ↓reduceIte, reduceCtorEq, Nat.reduceAdd, Nat.reduceEqDiff, Nat.reduceLT, Nat.reduceLeDiff, Nat.reduceMul, Nat.reduceSub, Nat.reduceDiv, Int.reduceToNat, Int.reduceAdd, Int.reduceSub, Int.reduceMul, Int.reduceNeg, Int.reduceEq, Int.reduceLT, Int.reduceLE]; with_reducible rfl) rfl ?_)
                | (with_reducible refine k_condP (by simp only [GA, Nat.reduceEqDiff, ↓reduceIte]; rfl) (by first | (simp only [BO]; rfl) | rfl) (fun ht => ?_) (fun ht => ?_) <;> try (first | exact False.elim ht | exact absurd rfl ht | exact absurd trivial ht | exact Bool.noConfusion ht))
                | (with_reducible refine k_ret ?_; repeat with_reducible (first | refine ret_thru ?_ | refine ret_blk ?_ | refine fin ?_))
                | (with_reducible refine k_exit ?_; repeat with_reducible (first | refine thru ?_ | refine out_blk ?_ | refine pass (by decide) ?_))
                | (refine post1 ?_; simp only [GA, Nat.reduceEqDiff, ↓reduceIte])
                | (refine post2 ?_; simp only [GA, Nat.reduceEqDiff, ↓reduceIte])
                | (refine post3 ?_; simp only [GA, Nat.reduceEqDiff, ↓reduceIte])
                | (refine postc (by simp only [GA, Nat.reduceEqDiff, ↓reduceIte]; rfl) (by simp (disch := omega) only [jlt', hr2, row_m hr2, read_row (row_m hr2), csl, cj, tj, row_m tj, read_row (row_m tj), nl_len, e2, e3, g, ll, hx, rA, rB, cf, tf, row_m tf, read_row (row_m tf), e2f, e3f, gf, llf, gg, ng, nf0, flt', c19r0, c19r1, c19r2, c19r3, c19r4, c19r5, c19r6, c19r7, c19r8, c19r9, c19r10, c19r11, c19r12, c19r14, c19r15, c19r16, c19r17, c19r18, c19r19, c19r20, c19r21, c19r23, c19r24, c19r25, c19r26, c19r28, EV0, EV1, EV2, EV3, EV4, EV5, EV6, EV7, EV8, VALS, plug, ite_same, decide_true, decide_false, eq_self, ↓reduceIte, reduceCtorEq, Nat.reduceAdd, Nat.reduceEqDiff, Nat.reduceLT, Nat.reduceLeDiff, Nat.reduceMul, Nat.reduceSub, Nat.reduceDiv, Int.reduceToNat, Int.reduceAdd, Int.reduceSub, Int.reduceMul, Int.reduceNeg, Int.reduceEq, Int.reduceLT, Int.reduceLE]; rfl) ?_)
                | refine post0 ?_
              exact ⟨jlt, (), (by simp only [Am.keep, List.map_cons, List.map_nil, GA, Nat.reduceEqDiff, ↓reduceIte, if_pos c1']; try rfl), N2.keep fun t b hb => by have := ok2.m hb; simp (disch := omega) only [hb, c19r0, c19r1, c19r2, c19r3, c19r4, c19r5, c19r6, c19r7, c19r8, c19r9, c19r10, c19r11, c19r12, c19r14, c19r15, c19r16, c19r17, c19r18, c19r19, c19r20, c19r21, c19r23, c19r24, c19r25, c19r26, c19r28, EV0, EV1, EV2, EV3, EV4, EV5, EV6, EV7, EV8, VALS, plug, ite_same, decide_true, decide_false, eq_self, ↓reduceIte, reduceCtorEq, Nat.reduceAdd, Nat.reduceEqDiff, Nat.reduceLT, Nat.reduceLeDiff, Nat.reduceMul, Nat.reduceSub, Nat.reduceDiv, Int.reduceToNat, Int.reduceAdd, Int.reduceSub, Int.reduceMul, Int.reduceNeg, Int.reduceEq, Int.reduceLT, Int.reduceLE], by simp (disch := omega) only [hu2, c19r0, c19r1, c19r2, c19r3, c19r4, c19r5, c19r6, c19r7, c19r8, c19r9, c19r10, c19r11, c19r12, c19r14, c19r15, c19r16, c19r17, c19r18, c19r19, c19r20, c19r21, c19r23, c19r24, c19r25, c19r26, c19r28, EV0, EV1, EV2, EV3, EV4, EV5, EV6, EV7, EV8, VALS, plug, ite_same, decide_true, decide_false, eq_self, ↓reduceIte, reduceCtorEq, Nat.reduceAdd, Nat.reduceEqDiff, Nat.reduceLT, Nat.reduceLeDiff, Nat.reduceMul, Nat.reduceSub, Nat.reduceDiv, Int.reduceToNat, Int.reduceAdd, Int.reduceSub, Int.reduceMul, Int.reduceNeg, Int.reduceEq, Int.reduceLT, Int.reduceLE]⟩
          · rw [if_neg c1]
            generalize hcs : rC 1 ts ((rowsK l k).map rw1) = cs at hr2 cj csl
            by_cases c2 : f = j
            · have c1' : j < j + 1 := by omega
              have hX := fy (by omega)
              rw [c2] at hX
              rw [hX] at q54
              repeat' first
                | with_reducible refine k_seq ?_
                | with_reducible refine k_skip ?_
                | with_reducible refine k_blkS ?_
                | with_reducible refine k_blkR ?_
                | with_reducible refine k_blkC ?_
                | with_reducible refine k_blkH ?_
                | with_reducible refine k_blkB ?_
                | with_reducible refine k_blkK ?_
                | with_reducible refine k_blkE ?_
                | with_reducible refine k_reg ?_
                | with_reducible refine k_head (by with_unfolding_all rfl) ?_
                | with_reducible refine k_headS ?_
                | (with_reducible refine SepK.mk ?_ ?_; (refine sepQ_P ?_; simp [sepQ, sepG, AOp.late, AOp.free, AOp.xs, AOp.isAl, tokNe, AV.tok, stS_get, strip, AX.val, c19r0, c19r1, c19r2, c19r3, c19r4, c19r5, c19r6, c19r7, c19r8, c19r9, c19r10, c19r11, c19r12, c19r14, c19r15, c19r16, c19r17, c19r18, c19r19, c19r20, c19r21, c19r23, c19r24, c19r25, c19r26, c19r28, GA]; try omega))
                | with_reducible refine r_done ?_
                | with_reducible refine hr_done ?_
                | with_reducible refine s_go (by simp (disch := omega) only [jlt', hr2, row_m hr2, read_row (row_m hr2), csl, cj, tj, row_m tj, read_row (row_m tj), nl_len, e2, e3, g, ll, hx, rA, rB, c19r0, c19r1, c19r2, c19r3, c19r4, c19r5, c19r6, c19r7, c19r8, c19r9, c19r10, c19r11, c19r12, c19r14, c19r15, c19r16, c19r17, c19r18, c19r19, c19r20, c19r21, c19r23, c19r24, c19r25, c19r26, c19r28, EV0, EV1, EV2, EV3, EV4, EV5, EV6, EV7, EV8, VALS, plug, ite_same, decide_true, decide_false, eq_self, ↓reduceIte, reduceCtorEq, Nat.reduceAdd, Nat.reduceEqDiff, Nat.reduceLT, Nat.reduceLeDiff, Nat.reduceMul, Nat.reduceSub, Nat.reduceDiv, Int.reduceToNat, Int.reduceAdd, Int.reduceSub, Int.reduceMul, Int.reduceNeg, Int.reduceEq, Int.reduceLT, Int.reduceLE]; with_reducible rfl) ?_
                | with_reducible refine h_go (by with_unfolding_all rfl) (by simp (disch := omega) only [jlt', hr2, row_m hr2, read_row (row_m hr2), csl, cj, tj, row_m tj, read_row (row_m tj), nl_len, e2, e3, g, ll, hx, rA, rB, c19r0, c19r1, c19r2, c19r3, c19r4, c19r5, c19r6, c19r7, c19r8, c19r9, c19r10, c19r11, c19r12, c19r14, c19r15, c19r16, c19r17, c19r18, c19r19, c19r20, c19r21, c19r23, c19r24, c19r25, c19r26, c19r28, EV0, EV1, EV2, EV3, EV4, EV5, EV6, EV7, EV8, VALS, plug, ite_same, decide_true, decide_false, eq_self, ↓reduceIte, reduceCtorEq, Nat.reduceAdd, Nat.reduceEqDiff, Nat.reduceLT, Nat.reduceLeDiff, Nat.reduceMul, Nat.reduceSub, Nat.reduceDiv, Int.reduceToNat, Int.reduceAdd, Int.reduceSub, Int.reduceMul, Int.reduceNeg, Int.reduceEq, Int.reduceLT, Int.reduceLE]; with_reducible rfl) ?_
                | ((with_reducible refine chk_r ?_); refine r_callF (by simp only [CA, Nat.reduceEqDiff, ↓reduceIte]; rfl) (by exact rfl) (by simp only [CA, Nat.reduceEqDiff, ↓reduceIte]; rfl) rfl ?_)
                | ((with_reducible refine chk_h ?_); refine hr_callF (by simp only [CA, Nat.reduceEqDiff, ↓reduceIte]; rfl) (by exact rfl) (by simp only [CA, Nat.reduceEqDiff, ↓reduceIte]; rfl) rfl ?_)
                | ((with_reducible refine chk_r ?_); refine r_callP (by simp only [CA, Nat.reduceEqDiff, ↓reduceIte]; rfl) (by simp only [CA, Nat.reduceEqDiff, ↓reduceIte]; rfl) (by first | exact q54 _) rfl ?_)
                | ((with_reducible refine chk_h ?_); refine hr_callP (by simp only [CA, Nat.reduceEqDiff, ↓reduceIte]; rfl) (by simp only [CA, Nat.reduceEqDiff, ↓reduceIte]; rfl) (by first | exact q54 _) rfl ?_)
                | ((with_reducible refine chk_h ?_); refine hr_callP1 (by simp only [CA, Nat.reduceEqDiff, ↓reduceIte]; rfl) (by simp only [CA, Nat.reduceEqDiff, ↓reduceIte]; rfl) (by simp (disch := omega) only [CA, Nat.reduceEqDiff, ↓reduceIte, firstTok_nil, firstTok_sl, firstTok_sl0, firstTok_i, firstTok_b, firstTok_ag, firstTok_p, firstTok_s]; rfl) (by first | exact q54 _) rfl ?_)
                | ((with_reducible refine chk_r ?_); refine r_callG (by simp only [CA, Nat.reduceEqDiff, ↓reduceIte]; rfl) (by simp only [CA, Nat.reduceEqDiff, ↓reduceIte]; rfl) (by simp only [CA, Nat.reduceEqDiff, ↓reduceIte]; rfl) (by intro hg; (try simp only [BO] at hg); first | exact q54 _) rfl ?_)
                | ((with_reducible refine chk_h ?_); refine hr_callG (by simp only [CA, Nat.reduceEqDiff, ↓reduceIte]; rfl) (by simp only [CA, Nat.reduceEqDiff, ↓reduceIte]; rfl) (by simp only [CA, Nat.reduceEqDiff, ↓reduceIte]; rfl) (by intro hg; (try simp only [BO] at hg); first | exact q54 _) rfl ?_)
                | ((with_reducible refine chk_h ?_); refine hr_app (by simp (disch := omega) only [jlt', hr2, row_m hr2, read_row (row_m hr2), csl, cj, tj, row_m tj, read_row (row_m tj), nl_len, e2, e3, g, ll, hx, rA, rB, c19r0, c19r1, c19r2, c19r3, c19r4, c19r5, c19r6, c19r7, c19r8, c19r9, c19r10, c19r11, c19r12, c19r14, c19r15, c19r16, c19r17, c19r18, c19r19, c19r20, c19r21, c19r23, c19r24, c19r25, c19r26, c19r28, EV0, EV1, EV2, EV3, EV4, EV5, EV6, EV7, EV8, VALS, plug, ite_same, decide_true, decide_false, eq_self, ↓reduceIte, reduceCtorEq, Nat.reduceAdd, Nat.reduceEqDiff, Nat.reduceLT, Nat.reduceLeDiff, Nat.reduceMul, Nat.reduceSub, Nat.reduceDiv, Int.reduceToNat, Int.reduceAdd, Int.reduceSub, Int.reduceMul, Int.reduceNeg, Int.reduceEq, Int.reduceLT, Int.reduceLE]; with_reducible rfl) rfl ?_)
                | (with_reducible refine k_condP (by simp only [GA, Nat.reduceEqDiff, ↓reduceIte]; rfl) (by first | (simp only [BO]; rfl) | rfl) (fun ht => ?_) (fun ht => ?_) <;> try (first | exact False.elim ht | exact absurd rfl ht | exact absurd trivial ht | exact Bool.noConfusion ht))
                | (with_reducible refine k_ret ?_; repeat with_reducible (first | refine ret_thru ?_ | refine ret_blk ?_ | refine fin ?_))
                | (with_reducible refine k_exit ?_; repeat with_reducible (first | refine thru ?_ | refine out_blk ?_ | refine pass (by decide) ?_))
                | (refine post1 ?_; simp only [GA, Nat.reduceEqDiff, ↓reduceIte])
                | (refine post2 ?_; simp only [GA, Nat.reduceEqDiff, ↓reduceIte])
                | (refine post3 ?_; simp only [GA, Nat.reduceEqDiff, ↓reduceIte])
                | (refine postc (by simp only [GA, Nat.reduceEqDiff, ↓reduceIte]; rfl) (by simp (disch := omega) only [jlt', hr2, row_m hr2, read_row (row_m hr2), csl, cj, tj, row_m tj, read_row (row_m tj), nl_len, e2, e3, g, ll, hx, rA, rB, c19r0, c19r1, c19r2, c19r3, c19r4, c19r5, c19r6, c19r7, c19r8, c19r9, c19r10, c19r11, c19r12, c19r14, c19r15, c19r16, c19r17, c19r18, c19r19, c19r20, c19r21, c19r23, c19r24, c19r25, c19r26, c19r28, EV0, EV1, EV2, EV3, EV4, EV5, EV6, EV7, EV8, VALS, plug, ite_same, decide_true, decide_false, eq_self, ↓reduceIte, reduceCtorEq, Nat.reduceAdd, Nat.reduceEqDiff, Nat.reduceLT, Nat.reduceLeDiff, Nat.reduceMul, Nat.reduceSub, Nat.reduceDiv, Int.reduceToNat, Int.reduceAdd, Int.reduceSub, Int.reduceMul, Int.reduceNeg, Int.reduceEq, Int.reduceLT, Int.reduceLE]; rfl) ?_)
                | refine post0 ?_
              exact ⟨jlt, (), (by simp only [Am.keep, List.map_cons, List.map_nil, GA, Nat.reduceEqDiff, ↓reduceIte, c2, if_pos c1']; try rfl), N2.keep fun t b hb => by have := ok2.m hb; simp (disch := omega) only [hb, c19r0, c19r1, c19r2, c19r3, c19r4, c19r5, c19r6, c19r7, c19r8, c19r9, c19r10, c19r11, c19r12, c19r14, c19r15, c19r16, c19r17, c19r18, c19r19, c19r20, c19r21, c19r23, c19r24, c19r25, c19r26, c19r28, EV0, EV1, EV2, EV3, EV4, EV5, EV6, EV7, EV8, VALS, plug, ite_same, decide_true, decide_false, eq_self, ↓reduceIte, reduceCtorEq, Nat.reduceAdd, Nat.reduceEqDiff, Nat.reduceLT, Nat.reduceLeDiff, Nat.reduceMul, Nat.reduceSub, Nat.reduceDiv, Int.reduceToNat, Int.reduceAdd, Int.reduceSub, Int.reduceMul, Int.reduceNeg, Int.reduceEq, Int.reduceLT, Int.reduceLE], by simp (disch := omega) only [hu2, c19r0, c19r1, c19r2, c19r3, c19r4, c19r5, c19r6, c19r7, c19r8, c19r9, c19r10, c19r11, c19r12, c19r14, c19r15, c19r16, c19r17, c19r18, c19r19, c19r20, c19r21, c19r23, c19r24, c19r25, c19r26, c19r28, EV0, EV1, EV2, EV3, EV4, EV5, EV6, EV7, EV8, VALS, plug, ite_same, decide_true, decide_false, eq_self, ↓reduceIte, reduceCtorEq, Nat.reduceAdd, Nat.reduceEqDiff, Nat.reduceLT, Nat.reduceLeDiff, Nat.reduceMul, Nat.reduceSub, Nat.reduceDiv, Int.reduceToNat, Int.reduceAdd, Int.reduceSub, Int.reduceMul, Int.reduceNeg, Int.reduceEq, Int.reduceLT, Int.reduceLE]⟩
            · have c1' : ¬ f < j + 1 := by omega
              have hX := fno j (by omega)
              rw [hX] at q54
              repeat' first
                | with_reducible refine k_seq ?_
                | with_reducible refine k_skip ?_
                | with_reducible refine k_blkS ?_
                | with_reducible refine k_blkR ?_
                | with_reducible refine k_blkC ?_
                | with_reducible refine k_blkH ?_
                | with_reducible refine k_blkB ?_
                | with_reducible refine k_blkK ?_
                | with_reducible refine k_blkE ?_
                | with_reducible refine k_reg ?_
                | with_reducible refine k_head (by with_unfolding_all rfl) ?_
                | with_reducible refine k_headS ?_
                | (with_reducible refine SepK.mk ?_ ?_; (refine sepQ_P ?_; simp [sepQ, sepG, AOp.late, AOp.free, AOp.xs, AOp.isAl, tokNe, AV.tok, stS_get, strip, AX.val, c19r0, c19r1, c19r2, c19r3, c19r4, c19r5, c19r6, c19r7, c19r8, c19r9, c19r10, c19r11, c19r12, c19r14, c19r15, c19r16, c19r17, c19r18, c19r19, c19r20, c19r21, c19r23, c19r24, c19r25, c19r26, c19r28, GA]; try omega))
                | with_reducible refine r_done ?_
                | with_reducible refine hr_done ?_
                | with_reducible refine s_go (by simp (disch := omega) only [jlt', hr2, row_m hr2, read_row (row_m hr2), csl, cj, tj, row_m tj, read_row (row_m tj), nl_len, e2, e3, g, ll, hx, rA, rB, c19r0, c19r1, c19r2, c19r3, c19r4, c19r5, c19r6, c19r7, c19r8, c19r9, c19r10, c19r11, c19r12, c19r14, c19r15, c19r16, c19r17, c19r18, c19r19, c19r20, c19r21, c19r23, c19r24, c19r25, c19r26, c19r28, EV0, EV1, EV2, EV3, EV4, EV5, EV6, EV7, EV8, VALS, plug, ite_same, decide_true, decide_false, eq_self, ↓reduceIte, reduceCtorEq, Nat.reduceAdd, Nat.reduceEqDiff, Nat.reduceLT, Nat.reduceLeDiff, Nat.reduceMul, Nat.reduceSub, Nat.reduceDiv, Int.reduceToNat, Int.reduceAdd, Int.reduceSub, Int.reduceMul, Int.reduceNeg, Int.reduceEq, Int.reduceLT, Int.reduceLE]; with_reducible rfl) ?_
                | with_reducible refine h_go (by with_unfolding_all rfl) (by simp (disch := omega) only [jlt', hr2, row_m hr2, read_row (row_m hr2), csl, cj, tj, row_m tj, read_row (row_m tj), nl_len, e2, e3, g, ll, hx, rA, rB, c19r0, c19r1, c19r2, c19r3, c19r4, c19r5, c19r6, c19r7, c19r8, c19r9, c19r10, c19r11, c19r12, c19r14, c19r15, c19r16, c19r17, c19r18, c19r19, c19r20, c19r21, c19r23, c19r24, c19r25, c19r26, c19r28, EV0, EV1, EV2, EV3, EV4, EV5, EV6, EV7, EV8, VALS, plug, ite_same, decide_true, decide_false, eq_self, ↓reduceIte, reduceCtorEq, Nat.reduceAdd, Nat.reduceEqDiff, Nat.reduceLT, Nat.reduceLeDiff, Nat.reduceMul, Nat.reduceSub, Nat.reduceDiv, Int.reduceToNat, Int.reduceAdd, Int.reduceSub, Int.reduceMul, Int.reduceNeg, Int.reduceEq, Int.reduceLT, Int.reduceLE]; with_reducible rfl) ?_
                | ((with_reducible refine chk_r ?_); refine r_callF (by simp only [CA, Nat.reduceEqDiff, ↓reduceIte]; rfl) (by exact rfl) (by simp only [CA, Nat.reduceEqDiff, ↓reduceIte]; rfl) rfl ?_)
                | ((with_reducible refine chk_h ?_); refine hr_callF (by simp only [CA, Nat.reduceEqDiff, ↓reduceIte]; rfl) (by exact rfl) (by simp only [CA, Nat.reduceEqDiff, ↓reduceIte]; rfl) rfl ?_)
                | ((with_reducible refine chk_r ?_); refine r_callP (by simp only [CA, Nat.reduceEqDiff, ↓reduceIte]; rfl) (by simp only [CA, Nat.reduceEqDiff, ↓reduceIte]; rfl) (by first | exact q54 _) rfl ?_)
                | ((with_reducible refine chk_h ?_); refine hr_callP (by simp only [CA, Nat.reduceEqDiff, ↓reduceIte]; rfl) (by simp only [CA, Nat.reduceEqDiff, ↓reduceIte]; rfl) (by first | exact q54 _) rfl ?_)
                | ((with_reducible refine chk_h ?_); refine hr_callP1 (by simp only [CA, Nat.reduceEqDiff, ↓reduceIte]; rfl) (by simp only [CA, Nat.reduceEqDiff, ↓reduceIte]; rfl) (by simp (disch := omega) only [CA, Nat.reduceEqDiff, ↓reduceIte, firstTok_nil, firstTok_sl, firstTok_sl0, firstTok_i, firstTok_b, firstTok_ag, firstTok_p, firstTok_s]; rfl) (by first | exact q54 _) rfl ?_)
                | ((with_reducible refine chk_r ?_); refine r_callG (by simp only [CA, Nat.reduceEqDiff, ↓reduceIte]; rfl) (by simp only [CA, Nat.reduceEqDiff, ↓reduceIte]; rfl) (by simp only [CA, Nat.reduceEqDiff, ↓reduceIte]; rfl) (by intro hg; (try simp only [BO] at hg); first | exact q54 _) rfl ?_)
                | ((with_reducible refine chk_h ?_); refine hr_callG (by simp only [CA, Nat.reduceEqDiff, ↓reduceIte]; rfl) (by simp only [CA, Nat.reduceEqDiff, ↓reduceIte]; rfl) (by simp only [CA, Nat.reduceEqDiff, ↓reduceIte]; rfl) (by intro hg; (try simp only [BO] at hg); first | exact q54 _) rfl ?_)
                | ((with_reducible refine chk_h ?_); refine hr_app (by simp (disch := omega) only [jlt', hr2, row_m hr2, read_row (row_m hr2), csl, cj, tj, row_m tj, read_row (row_m tj), nl_len, e2, e3, g, ll, hx, rA, rB, c19r0, c19r1, c19r2, c19r3, c19r4, c19r5, c19r6, c19r7, c19r8, c19r9, c19r10, c19r11, c19r12, c19r14, c19r15, c19r16, c19r17, c19r18, c19r19, c19r20, c19r21, c19r23, c19r24, c19r25, c19r26, c19r28, EV0, EV1, EV2, EV3, EV4, EV5, EV6, EV7, EV8, VALS, plug, ite_same, decide_true, decide_false, eq_self, ↓reduceIte, reduceCtorEq, Nat.reduceAdd, Nat.reduceEqDiff, Nat.reduceLT, Nat.reduceLeDiff, Nat.reduceMul, Nat.reduceSub, Nat.reduceDiv, Int.reduceToNat, Int.reduceAdd, Int.reduceSub, Int.reduceMul, Int.reduceNeg, Int.reduceEq, Int.reduceLT, Int.reduceLE]; with_reducible rfl) rfl ?_)
                | (with_reducible refine k_condP (by simp only [GA, Nat.reduceEqDiff, ↓reduceIte]; rfl) (by first | (simp only [BO]; rfl) | rfl) (fun ht => ?_) (fun ht => ?_) <;> try (first | exact False.elim ht | exact absurd rfl ht | exact absurd trivial ht | exact Bool.noConfusion ht))
                | (with_reducible refine k_ret ?_; repeat with_reducible (first | refine ret_thru ?_ | refine ret_blk ?_ | refine fin ?_))
                | (with_reducible refine k_exit ?_; repeat with_reducible (first | refine thru ?_ | refine out_blk ?_ | refine pass (by decide) ?_))
                | (refine post1 ?_; simp only [GA, Nat.reduceEqDiff, ↓reduceIte])
                | (refine post2 ?_; simp only [GA, Nat.reduceEqDiff, ↓reduceIte])
                | (refine post3 ?_; simp only [GA, Nat.reduceEqDiff, ↓reduceIte])
                | (refine postc (by simp only [GA, Nat.reduceEqDiff, ↓reduceIte]; rfl) (by simp (disch := omega) only [jlt', hr2, row_m hr2, read_row (row_m hr2), csl, cj, tj, row_m tj, read_row (row_m tj), nl_len, e2, e3, g, ll, hx, rA, rB, c19r0, c19r1, c19r2, c19r3, c19r4, c19r5, c19r6, c19r7, c19r8, c19r9, c19r10, c19r11, c19r12, c19r14, c19r15, c19r16, c19r17, c19r18, c19r19, c19r20, c19r21, c19r23, c19r24, c19r25, c19r26, c19r28, EV0, EV1, EV2, EV3, EV4, EV5, EV6, EV7, EV8, VALS, plug, ite_same, decide_true, decide_false, eq_self, ↓reduceIte, reduceCtorEq, Nat.reduceAdd, Nat.reduceEqDiff, Nat.reduceLT, Nat.reduceLeDiff, Nat.reduceMul, Nat.reduceSub, Nat.reduceDiv, Int.reduceToNat, Int.reduceAdd, Int.reduceSub, Int.reduceMul, Int.reduceNeg, Int.reduceEq, Int.reduceLT, Int.reduceLE]; rfl) ?_)
                | refine post0 ?_
              exact ⟨jlt, (), (by simp only [Am.keep, List.map_cons, List.map_nil, GA, Nat.reduceEqDiff, ↓reduceIte, if_neg c1']; try rfl), N2.keep fun t b hb => by have := ok2.m hb; simp (disch := omega) only [hb, c19r0, c19r1, c19r2, c19r3, c19r4, c19r5, c19r6, c19r7, c19r8, c19r9, c19r10, c19r11, c19r12, c19r14, c19r15, c19r16, c19r17, c19r18, c19r19, c19r20, c19r21, c19r23, c19r24, c19r25, c19r26, c19r28, EV0, EV1, EV2, EV3, EV4, EV5, EV6, EV7, EV8, VALS, plug, ite_same, decide_true, decide_false, eq_self, ↓reduceIte, reduceCtorEq, Nat.reduceAdd, Nat.reduceEqDiff, Nat.reduceLT, Nat.reduceLeDiff, Nat.reduceMul, Nat.reduceSub, Nat.reduceDiv, Int.reduceToNat, Int.reduceAdd, Int.reduceSub, Int.reduceMul, Int.reduceNeg, Int.reduceEq, Int.reduceLT, Int.reduceLE], by simp (disch := omega) only [hu2, c19r0, c19r1, c19r2, c19r3, c19r4, c19r5, c19r6, c19r7, c19r8, c19r9, c19r10, c19r11, c19r12, c19r14, c19r15, c19r16, c19r17, c19r18, c19r19, c19r20, c19r21, c19r23, c19r24, c19r25, c19r26, c19r28, EV0, EV1, EV2, EV3, EV4, EV5, EV6, EV7, EV8, VALS, plug, ite_same, decide_true, decide_false, eq_self, ↓reduceIte, reduceCtorEq, Nat.reduceAdd, Nat.reduceEqDiff, Nat.reduceLT, Nat.reduceLeDiff, Nat.reduceMul, Nat.reduceSub, Nat.reduceDiv, Int.reduceToNat, Int.reduceAdd, Int.reduceSub, Int.reduceMul, Int.reduceNeg, Int.reduceEq, Int.reduceLT, Int.reduceLE]⟩
        · obtain rfl : j = (rowsK l k).length := by omega
          have jlt' : ¬ ((rowsK l k).length : Int) < (rowsK l k).length := by omega
          by_cases hf : f < (rowsK l k).length
          · rw [if_pos hf] at hat ⊢
            have cf := N2.cell (i := f) (by omega)
            rw [rD_map hf] at cf
            have hf' : (f : Int) < (rowsK l k).length := by omega
            have nf : ¬ (f : Int) < 0 := by omega
            have tf := N2.row (i := f) (by omega)
            rw [rD_map hf] at tf
            have mf := N2.mem (i := f) (by omega)
            have ltf := tl2 _ mf
            have nef := N2.ne (i := f) (by omega)
            have nefu : ¬ tD ts f = u := fun e => un (e ▸ mf)
            have rlf := rin f hf
            have hlen1 : (rowsK l (k + 1)).length = (rowsK l k).length := by rw [hat, List.length_set]
            have e0 : rw1 ((rowsK l k).getD f [] ++ [od l k]) = (((rowsK l k).getD f []).length + 1, nl ((rowsK l k).getD f [] ++ [od l k])) := by simp [rw1]
            have hn1 : (((rowsK l k).getD f []).length + 1) * 1 = (nl ((rowsK l k).getD f [] ++ [od l k])).length := by simp [nl_len]
            simp only at cf tf
            generalize hcs : rC 1 ts ((rowsK l k).map rw1) = cs at hr2 cf csl
            repeat' first
              | with_reducible refine k_seq ?_
              | with_reducible refine k_skip ?_
              | with_reducible refine k_blkS ?_
              | with_reducible refine k_blkR ?_
              | with_reducible refine k_blkC ?_
              | with_reducible refine k_blkH ?_
              | with_reducible refine k_blkB ?_
              | with_reducible refine k_blkK ?_
              | with_reducible refine k_blkE ?_
              | with_reducible refine k_reg ?_
              | with_reducible refine k_head (by with_unfolding_all rfl) ?_
              | with_reducible refine k_headS ?_
              | (with_reducible refine SepK.mk ?_ ?_; (refine sepQ_P ?_; simp [sepQ, sepG, AOp.late, AOp.free, AOp.xs, AOp.isAl, tokNe, AV.tok, stS_get, strip, AX.val, c19r0, c19r1, c19r2, c19r3, c19r4, c19r5, c19r6, c19r7, c19r8, c19r9, c19r10, c19r11, c19r12, c19r14, c19r15, c19r16, c19r17, c19r18, c19r19, c19r20, c19r21, c19r23, c19r24, c19r25, c19r26, c19r28, GA]; try omega))
              | with_reducible refine r_done ?_
              | with_reducible refine hr_done ?_
              | with_reducible refine s_go (by simp (disch := omega) only [jlt', hr2, row_m hr2, read_row (row_m hr2), csl, nl_len, nl_snoc, tf, row_m tf, read_row (row_m tf), cf, nf, hf', c19r0, c19r1, c19r2, c19r3, c19r4, c19r5, c19r6, c19r7, c19r8, c19r9, c19r10, c19r11, c19r12, c19r14, c19r15, c19r16, c19r17, c19r18, c19r19, c19r20, c19r21, c19r23, c19r24, c19r25, c19r26, c19r28, EV0, EV1, EV2, EV3, EV4, EV5, EV6, EV7, EV8, VALS, plug, ite_same, decide_true, decide_false, eq_self, ↓reduceIte, reduceCtorEq, Nat.reduceAdd, Nat.reduceEqDiff, Nat.reduceLT, Nat.reduceLeDiff, Nat.reduceMul, Nat.reduceSub, Nat.reduceDiv, Int.reduceToNat, Int.reduceAdd, Int.reduceSub, Int.reduceMul, Int.reduceNeg, Int.reduceEq, Int.reduceLT, Int.reduceLE]; with_reducible rfl) ?_
              | with_reducible refine h_go (by with_unfolding_all rfl) (by simp (disch := omega) only [jlt', hr2, row_m hr2, read_row (row_m hr2), csl, nl_len, nl_snoc, tf, row_m tf, read_row (row_m tf), cf, nf, hf', c19r0, c19r1, c19r2, c19r3, c19r4, c19r5, c19r6, c19r7, c19r8, c19r9, c19r10, c19r11, c19r12, c19r14, c19r15, c19r16, c19r17, c19r18, c19r19, c19r20, c19r21, c19r23, c19r24, c19r25, c19r26, c19r28, EV0, EV1, EV2, EV3, EV4, EV5, EV6, EV7, EV8, VALS, plug, ite_same, decide_true, decide_false, eq_self, ↓reduceIte, reduceCtorEq, Nat.reduceAdd, Nat.reduceEqDiff, Nat.reduceLT, Nat.reduceLeDiff, Nat.reduceMul, Nat.reduceSub, Nat.reduceDiv, Int.reduceToNat, Int.reduceAdd, Int.reduceSub, Int.reduceMul, Int.reduceNeg, Int.reduceEq, Int.reduceLT, Int.reduceLE]; with_reducible rfl) ?_
              | ((with_reducible refine chk_r ?_); refine r_callF (by simp only [CA, Nat.reduceEqDiff, ↓reduceIte]; rfl) (by exact rfl) (by simp only [CA, Nat.reduceEqDiff, ↓reduceIte]; rfl) rfl ?_)
              | ((with_reducible refine chk_h ?_); refine hr_callF (by simp only [CA, Nat.reduceEqDiff, ↓reduceIte]; rfl) (by exact rfl) (by simp only [CA, Nat.reduceEqDiff, ↓reduceIte]; rfl) rfl ?_)
              | ((with_reducible refine chk_h ?_); refine hr_app (by simp (disch := omega) only [jlt', hr2, row_m hr2, read_row (row_m hr2), csl, nl_len, nl_snoc, tf, row_m tf, read_row (row_m tf), cf, nf, hf', c19r0, c19r1, c19r2, c19r3, c19r4, c19r5, c19r6, c19r7, c19r8, c19r9, c19r10, c19r11, c19r12, c19r14, c19r15, c19r16, c19r17, c19r18, c19r19, c19r20, c19r21, c19r23, c19r24, c19r25, c19r26, c19r28, EV0, EV1, EV2, EV3, EV4, EV5, EV6, EV7, EV8, VALS, plug, ite_same, decide_true, decide_false, eq_self, ↓reduceIte, reduceCtorEq, Nat.reduceAdd, Nat.reduceEqDiff, Nat.reduceLT, Nat.reduceLeDiff, Nat.reduceMul, Nat.reduceSub, Nat.reduceDiv, Int.reduceToNat, Int.reduceAdd, Int.reduceSub, Int.reduceMul, Int.reduceNeg, Int.reduceEq, Int.reduceLT, Int.reduceLE]; with_reducible rfl) rfl ?_)
              | (with_reducible refine k_condP (by simp only [GA, Nat.reduceEqDiff, ↓reduceIte]; rfl) (by first | (simp only [BO]; rfl) | rfl) (fun ht => ?_) (fun ht => ?_) <;> try (first | exact False.elim ht | exact absurd rfl ht | exact absurd trivial ht | exact Bool.noConfusion ht))
              | (with_reducible refine k_ret ?_; repeat with_reducible (first | refine ret_thru ?_ | refine ret_blk ?_ | refine fin ?_))
              | (with_reducible refine k_exit ?_; repeat with_reducible (first | refine thru ?_ | refine out_blk ?_ | refine pass (by decide) ?_))
              | (refine post1 ?_; simp only [GA, Nat.reduceEqDiff, ↓reduceIte])
              | (refine post2 ?_; simp only [GA, Nat.reduceEqDiff, ↓reduceIte])
              | (refine post3 ?_; simp only [GA, Nat.reduceEqDiff, ↓reduceIte])
              | (refine postc (by simp only [GA, Nat.reduceEqDiff, ↓reduceIte]; rfl) (by simp (disch := omega) only [jlt', hr2, row_m hr2, read_row (row_m hr2), csl, nl_len, nl_snoc, tf, row_m tf, read_row (row_m tf), cf, nf, hf', c19r0, c19r1, c19r2, c19r3, c19r4, c19r5, c19r6, c19r7, c19r8, c19r9, c19r10, c19r11, c19r12, c19r14, c19r15, c19r16, c19r17, c19r18, c19r19, c19r20, c19r21, c19r23, c19r24, c19r25, c19r26, c19r28, EV0, EV1, EV2, EV3, EV4, EV5, EV6, EV7, EV8, VALS, plug, ite_same, decide_true, decide_false, eq_self, ↓reduceIte, reduceCtorEq, Nat.reduceAdd, Nat.reduceEqDiff, Nat.reduceLT, Nat.reduceLeDiff, Nat.reduceMul, Nat.reduceSub, Nat.reduceDiv, Int.reduceToNat, Int.reduceAdd, Int.reduceSub, Int.reduceMul, Int.reduceNeg, Int.reduceEq, Int.reduceLT, Int.reduceLE]; rfl) ?_)
              | refine post0 ?_
            refine ⟨hlt, ⟨r, ts.set f (h2.nx + 4 + 2 + 8), u, us.set (od l k) true⟩, ?g1, ?g2, u0, ur, ?g3, ?g4, usl, us1⟩
            case g1 =>
              simp only [Am.keep, List.map_cons, List.map_nil, GA, Nat.reduceEqDiff, ↓reduceIte, hlen1]
              rfl
            case g2 =>
              rw [hat, List.map_set, e0]
              refine N2.put (by omega) hn1 (by omega) (by omega) (fun hm => by have := tl2 _ hm; omega) (by rw [hcs]; simp (disch := omega) only [c19r0, c19r1, c19r2, c19r3, c19r4, c19r5, c19r6, c19r7, c19r8, c19r9, c19r10, c19r11, c19r12, c19r14, c19r15, c19r16, c19r17, c19r18, c19r19, c19r20, c19r21, c19r23, c19r24, c19r25, c19r26, c19r28, EV0, EV1, EV2, EV3, EV4, EV5, EV6, EV7, EV8, VALS, plug, ite_same, decide_true, decide_false, eq_self, ↓reduceIte, reduceCtorEq, Nat.reduceAdd, Nat.reduceEqDiff, Nat.reduceLT, Nat.reduceLeDiff, Nat.reduceMul, Nat.reduceSub, Nat.reduceDiv, Int.reduceToNat, Int.reduceAdd, Int.reduceSub, Int.reduceMul, Int.reduceNeg, Int.reduceEq, Int.reduceLT, Int.reduceLE] <;> rfl) (by simp (disch := omega) only [c19r0, c19r1, c19r2, c19r3, c19r4, c19r5, c19r6, c19r7, c19r8, c19r9, c19r10, c19r11, c19r12, c19r14, c19r15, c19r16, c19r17, c19r18, c19r19, c19r20, c19r21, c19r23, c19r24, c19r25, c19r26, c19r28, EV0, EV1, EV2, EV3, EV4, EV5, EV6, EV7, EV8, VALS, plug, ite_same, decide_true, decide_false, eq_self, ↓reduceIte, reduceCtorEq, Nat.reduceAdd, Nat.reduceEqDiff, Nat.reduceLT, Nat.reduceLeDiff, Nat.reduceMul, Nat.reduceSub, Nat.reduceDiv, Int.reduceToNat, Int.reduceAdd, Int.reduceSub, Int.reduceMul, Int.reduceNeg, Int.reduceEq, Int.reduceLT, Int.reduceLE] <;> rfl) fun s b hs hne hb => ?_
              have l1 := tl2 s hs
              have n1 := (N2.nr s hs).2
              simp (disch := omega) only [hb, c19r0, c19r1, c19r2, c19r3, c19r4, c19r5, c19r6, c19r7, c19r8, c19r9, c19r10, c19r11, c19r12, c19r14, c19r15, c19r16, c19r17, c19r18, c19r19, c19r20, c19r21, c19r23, c19r24, c19r25, c19r26, c19r28, EV0, EV1, EV2, EV3, EV4, EV5, EV6, EV7, EV8, VALS, plug, ite_same, decide_true, decide_false, eq_self, ↓reduceIte, reduceCtorEq, Nat.reduceAdd, Nat.reduceEqDiff, Nat.reduceLT, Nat.reduceLeDiff, Nat.reduceMul, Nat.reduceSub, Nat.reduceDiv, Int.reduceToNat, Int.reduceAdd, Int.reduceSub, Int.reduceMul, Int.reduceNeg, Int.reduceEq, Int.reduceLT, Int.reduceLE]
            case g3 =>
              intro hm
              rcases List.mem_or_eq_of_mem_set hm with q | q
              · exact un q
              · simp only [] at q; omega
            case g4 => simp (disch := omega) only [hu2, c19r0, c19r1, c19r2, c19r3, c19r4, c19r5, c19r6, c19r7, c19r8, c19r9, c19r10, c19r11, c19r12, c19r14, c19r15, c19r16, c19r17, c19r18, c19r19, c19r20, c19r21, c19r23, c19r24, c19r25, c19r26, c19r28, EV0, EV1, EV2, EV3, EV4, EV5, EV6, EV7, EV8, VALS, plug, ite_same, decide_true, decide_false, eq_self, ↓reduceIte, reduceCtorEq, Nat.reduceAdd, Nat.reduceEqDiff, Nat.reduceLT, Nat.reduceLeDiff, Nat.reduceMul, Nat.reduceSub, Nat.reduceDiv, Int.reduceToNat, Int.reduceAdd, Int.reduceSub, Int.reduceMul, Int.reduceNeg, Int.reduceEq, Int.reduceLT, Int.reduceLE]
          · rw [if_neg hf] at hat ⊢
            have hlen1 : (rowsK l (k + 1)).length = (rowsK l k).length + 1 := by rw [hat]; simp
            have e0 : [[od l k]].map rw1 = [(1, nl [od l k])] := rfl
            generalize hcs : rC 1 ts ((rowsK l k).map rw1) = cs at hr2 csl
            repeat' first
              | with_reducible refine k_seq ?_
              | with_reducible refine k_skip ?_
              | with_reducible refine k_blkS ?_
              | with_reducible refine k_blkR ?_
              | with_reducible refine k_blkC ?_
              | with_reducible refine k_blkH ?_
              | with_reducible refine k_blkB ?_
              | with_reducible refine k_blkK ?_
              | with_reducible refine k_blkE ?_
              | with_reducible refine k_reg ?_
              | with_reducible refine k_head (by with_unfolding_all rfl) ?_
              | with_reducible refine k_headS ?_
              | (with_reducible refine SepK.mk ?_ ?_; (refine sepQ_P ?_; simp [sepQ, sepG, AOp.late, AOp.free, AOp.xs, AOp.isAl, tokNe, AV.tok, stS_get, strip, AX.val, c19r0, c19r1, c19r2, c19r3, c19r4, c19r5, c19r6, c19r7, c19r8, c19r9, c19r10, c19r11, c19r12, c19r14, c19r15, c19r16, c19r17, c19r18, c19r19, c19r20, c19r21, c19r23, c19r24, c19r25, c19r26, c19r28, GA]; try omega))
              | with_reducible refine r_done ?_
              | with_reducible refine hr_done ?_
              | with_reducible refine s_go (by simp (disch := omega) only [jlt', hr2, row_m hr2, read_row (row_m hr2), csl, nl_len, nl_snoc, c19r0, c19r1, c19r2, c19r3, c19r4, c19r5, c19r6, c19r7, c19r8, c19r9, c19r10, c19r11, c19r12, c19r14, c19r15, c19r16, c19r17, c19r18, c19r19, c19r20, c19r21, c19r23, c19r24, c19r25, c19r26, c19r28, EV0, EV1, EV2, EV3, EV4, EV5, EV6, EV7, EV8, VALS, plug, ite_same, decide_true, decide_false, eq_self, ↓reduceIte, reduceCtorEq, Nat.reduceAdd, Nat.reduceEqDiff, Nat.reduceLT, Nat.reduceLeDiff, Nat.reduceMul, Nat.reduceSub, Nat.reduceDiv, Int.reduceToNat, Int.reduceAdd, Int.reduceSub, Int.reduceMul, Int.reduceNeg, Int.reduceEq, Int.reduceLT, Int.reduceLE]; with_reducible rfl) ?_
              | with_reducible refine h_go (by with_unfolding_all rfl) (by simp (disch := omega) only [jlt', hr2, row_m hr2, read_row (row_m hr2), csl, nl_len, nl_snoc, c19r0, c19r1, c19r2, c19r3, c19r4, c19r5, c19r6, c19r7, c19r8, c19r9, c19r10, c19r11, c19r12, c19r14, c19r15, c19r16, c19r17, c19r18, c19r19, c19r20, c19r21, c19r23, c19r24, c19r25, c19r26, c19r28, EV0, EV1, EV2, EV3, EV4, EV5, EV6, EV7, EV8, VALS, plug, ite_same, decide_true, decide_false, eq_self, ↓reduceIte, reduceCtorEq, Nat.reduceAdd, Nat.reduceEqDiff, Nat.reduceLT, Nat.reduceLeDiff, Nat.reduceMul, Nat.reduceSub, Nat.reduceDiv, Int.reduceToNat, Int.reduceAdd, Int.reduceSub, Int.reduceMul, Int.reduceNeg, Int.reduceEq, Int.reduceLT, Int.reduceLE]; with_reducible rfl) ?_
              | ((with_reducible refine chk_r ?_); refine r_callF (by simp only [CA, Nat.reduceEqDiff, ↓reduceIte]; rfl) (by exact rfl) (by simp only [CA, Nat.reduceEqDiff, ↓reduceIte]; rfl) rfl ?_)
              | ((with_reducible refine chk_h ?_); refine hr_callF (by simp only [CA, Nat.reduceEqDiff, ↓reduceIte]; rfl) (by exact rfl) (by simp only [CA, Nat.reduceEqDiff, ↓reduceIte]; rfl) rfl ?_)
              | ((with_reducible refine chk_h ?_); refine hr_app (by simp (disch := omega) only [jlt', hr2, row_m hr2, read_row (row_m hr2), csl, nl_len, nl_snoc, c19r0, c19r1, c19r2, c19r3, c19r4, c19r5, c19r6, c19r7, c19r8, c19r9, c19r10, c19r11, c19r12, c19r14, c19r15, c19r16, c19r17, c19r18, c19r19, c19r20, c19r21, c19r23, c19r24, c19r25, c19r26, c19r28, EV0, EV1, EV2, EV3, EV4, EV5, EV6, EV7, EV8, VALS, plug, ite_same, decide_true, decide_false, eq_self, ↓reduceIte, reduceCtorEq, Nat.reduceAdd, Nat.reduceEqDiff, Nat.reduceLT, Nat.reduceLeDiff, Nat.reduceMul, Nat.reduceSub, Nat.reduceDiv, Int.reduceToNat, Int.reduceAdd, Int.reduceSub, Int.reduceMul, Int.reduceNeg, Int.reduceEq, Int.reduceLT, Int.reduceLE]; with_reducible rfl) rfl ?_)
              | (with_reducible refine k_condP (by simp only [GA, Nat.reduceEqDiff, ↓reduceIte]; rfl) (by first | (simp only [BO]; rfl) | rfl) (fun ht => ?_) (fun ht => ?_) <;> try (first | exact False.elim ht | exact absurd rfl ht | exact absurd trivial ht | exact Bool.noConfusion ht))
              | (with_reducible refine k_ret ?_; repeat with_reducible (first | refine ret_thru ?_ | refine ret_blk ?_ | refine fin ?_))
              | (with_reducible refine k_exit ?_; repeat with_reducible (first | refine thru ?_ | refine out_blk ?_ | refine pass (by decide) ?_))
              | (refine post1 ?_; simp only [GA, Nat.reduceEqDiff, ↓reduceIte])
              | (refine post2 ?_; simp only [GA, Nat.reduceEqDiff, ↓reduceIte])
              | (refine post3 ?_; simp only [GA, Nat.reduceEqDiff, ↓reduceIte])
              | (refine postc (by simp only [GA, Nat.reduceEqDiff, ↓reduceIte]; rfl) (by simp (disch := omega) only [jlt', hr2, row_m hr2, read_row (row_m hr2), csl, nl_len, nl_snoc, c19r0, c19r1, c19r2, c19r3, c19r4, c19r5, c19r6, c19r7, c19r8, c19r9, c19r10, c19r11, c19r12, c19r14, c19r15, c19r16, c19r17, c19r18, c19r19, c19r20, c19r21, c19r23, c19r24, c19r25, c19r26, c19r28, EV0, EV1, EV2, EV3, EV4, EV5, EV6, EV7, EV8, VALS, plug, ite_same, decide_true, decide_false, eq_self, ↓reduceIte, reduceCtorEq, Nat.reduceAdd, Nat.reduceEqDiff, Nat.reduceLT, Nat.reduceLeDiff, Nat.reduceMul, Nat.reduceSub, Nat.reduceDiv, Int.reduceToNat, Int.reduceAdd, Int.reduceSub, Int.reduceMul, Int.reduceNeg, Int.reduceEq, Int.reduceLT, Int.reduceLE]; rfl) ?_)
              | refine post0 ?_
            refine ⟨hlt, ⟨(h2.nx + 4 + 2 + 4), ts ++ [(h2.nx + 4 + 2 + 2)], u, us.set (od l k) true⟩, ?g1, ?g2, u0, ?g7, ?g3, ?g4, usl, us1⟩
            case g1 =>
              simp only [Am.keep, List.map_cons, List.map_nil, GA, Nat.reduceEqDiff, ↓reduceIte, hlen1]
              rfl
            case g2 =>
              rw [hat, List.map_append, e0]
              refine N2.snoc (n := 1) (cs := nl [od l k]) rfl (by omega) (by omega) (by omega) (fun hm => by have := tl2 _ hm; omega) (fun hm => by have := tl2 _ hm; omega) (by rw [hcs]; simp (disch := omega) only [c19r0, c19r1, c19r2, c19r3, c19r4, c19r5, c19r6, c19r7, c19r8, c19r9, c19r10, c19r11, c19r12, c19r14, c19r15, c19r16, c19r17, c19r18, c19r19, c19r20, c19r21, c19r23, c19r24, c19r25, c19r26, c19r28, EV0, EV1, EV2, EV3, EV4, EV5, EV6, EV7, EV8, VALS, plug, ite_same, decide_true, decide_false, eq_self, ↓reduceIte, reduceCtorEq, Nat.reduceAdd, Nat.reduceEqDiff, Nat.reduceLT, Nat.reduceLeDiff, Nat.reduceMul, Nat.reduceSub, Nat.reduceDiv, Int.reduceToNat, Int.reduceAdd, Int.reduceSub, Int.reduceMul, Int.reduceNeg, Int.reduceEq, Int.reduceLT, Int.reduceLE] <;> rfl) (by simp (disch := omega) only [c19r0, c19r1, c19r2, c19r3, c19r4, c19r5, c19r6, c19r7, c19r8, c19r9, c19r10, c19r11, c19r12, c19r14, c19r15, c19r16, c19r17, c19r18, c19r19, c19r20, c19r21, c19r23, c19r24, c19r25, c19r26, c19r28, EV0, EV1, EV2, EV3, EV4, EV5, EV6, EV7, EV8, VALS, plug, ite_same, decide_true, decide_false, eq_self, ↓reduceIte, reduceCtorEq, Nat.reduceAdd, Nat.reduceEqDiff, Nat.reduceLT, Nat.reduceLeDiff, Nat.reduceMul, Nat.reduceSub, Nat.reduceDiv, Int.reduceToNat, Int.reduceAdd, Int.reduceSub, Int.reduceMul, Int.reduceNeg, Int.reduceEq, Int.reduceLT, Int.reduceLE] <;> rfl) fun s b hs hb => ?_
              have l1 := tl2 s hs
              have n1 := (N2.nr s hs).2
              simp (disch := omega) only [hb, c19r0, c19r1, c19r2, c19r3, c19r4, c19r5, c19r6, c19r7, c19r8, c19r9, c19r10, c19r11, c19r12, c19r14, c19r15, c19r16, c19r17, c19r18, c19r19, c19r20, c19r21, c19r23, c19r24, c19r25, c19r26, c19r28, EV0, EV1, EV2, EV3, EV4, EV5, EV6, EV7, EV8, VALS, plug, ite_same, decide_true, decide_false, eq_self, ↓reduceIte, reduceCtorEq, Nat.reduceAdd, Nat.reduceEqDiff, Nat.reduceLT, Nat.reduceLeDiff, Nat.reduceMul, Nat.reduceSub, Nat.reduceDiv, Int.reduceToNat, Int.reduceAdd, Int.reduceSub, Int.reduceMul, Int.reduceNeg, Int.reduceEq, Int.reduceLT, Int.reduceLE]
            case g7 => simp only []; omega
            case g3 =>
              intro hm
              rcases List.mem_append.1 hm with q | q
              · exact un q
              · rw [List.mem_singleton] at q; simp only [] at q; omega
            case g4 => simp (disch := omega) only [hu2, c19r0, c19r1, c19r2, c19r3, c19r4, c19r5, c19r6, c19r7, c19r8, c19r9, c19r10, c19r11, c19r12, c19r14, c19r15, c19r16, c19r17, c19r18, c19r19, c19r20, c19r21, c19r23, c19r24, c19r25, c19r26, c19r28, EV0, EV1, EV2, EV3, EV4, EV5, EV6, EV7, EV8, VALS, plug, ite_same, decide_true, decide_false, eq_self, ↓reduceIte, reduceCtorEq, Nat.reduceAdd, Nat.reduceEqDiff, Nat.reduceLT, Nat.reduceLeDiff, Nat.reduceMul, Nat.reduceSub, Nat.reduceDiv, Int.reduceToNat, Int.reduceAdd, Int.reduceSub, Int.reduceMul, Int.reduceNeg, Int.reduceEq, Int.reduceLT, Int.reduceLE]
    · obtain rfl : k = l.length := by omega
      have hlt' : ¬ (l.length : Int) < l.length := by omega
      repeat' first
        | with_reducible refine k_seq ?_
        | with_reducible refine k_skip ?_
        | with_reducible refine k_blkS ?_
        | with_reducible refine k_blkR ?_
        | with_reducible refine k_blkC ?_
        | with_reducible refine k_blkH ?_
        | with_reducible refine k_blkB ?_
        | with_reducible refine k_blkK ?_
        | with_reducible refine k_blkE ?_
        | with_reducible refine k_reg ?_
        | with_reducible refine k_head (by with_unfolding_all rfl) ?_
        | with_reducible refine k_headS ?_
        | (with_reducible refine SepK.mk ?_ ?_; (refine sepQ_P ?_; simp [sepQ, sepG, AOp.late, AOp.free, AOp.xs, AOp.isAl, tokNe, AV.tok, stS_get, strip, AX.val, c19r0, c19r1, c19r2, c19r3, c19r4, c19r5, c19r6, c19r7, c19r8, c19r9, c19r10, c19r11, c19r12, c19r14, c19r15, c19r16, c19r17, c19r18, c19r19, c19r20, c19r21, c19r23, c19r24, c19r25, c19r26, c19r28, GA]; try omega))
        | with_reducible refine r_done ?_
        | with_reducible refine hr_done ?_
        | with_reducible refine s_go (by simp (disch := omega) only [hlt', c19r0, c19r1, c19r2, c19r3, c19r4, c19r5, c19r6, c19r7, c19r8, c19r9, c19r10, c19r11, c19r12, c19r14, c19r15, c19r16, c19r17, c19r18, c19r19, c19r20, c19r21, c19r23, c19r24, c19r25, c19r26, c19r28, EV0, EV1, EV2, EV3, EV4, EV5, EV6, EV7, EV8, VALS, plug, ite_same, decide_true, decide_false, eq_self, ↓reduceIte, reduceCtorEq, Nat.reduceAdd, Nat.reduceEqDiff, Nat.reduceLT, Nat.reduceLeDiff, Nat.reduceMul, Nat.reduceSub, Nat.reduceDiv, Int.reduceToNat, Int.reduceAdd, Int.reduceSub, Int.reduceMul, Int.reduceNeg, Int.reduceEq, Int.reduceLT, Int.reduceLE]; with_reducible rfl) ?_
        | with_reducible refine h_go (by with_unfolding_all rfl) (by simp (disch := omega) only [hlt', c19r0, c19r1, c19r2, c19r3, c19r4, c19r5, c19r6, c19r7, c19r8, c19r9, c19r10, c19r11, c19r12, c19r14, c19r15, c19r16, c19r17, c19r18, c19r19, c19r20, c19r21, c19r23, c19r24, c19r25, c19r26, c19r28, EV0, EV1, EV2, EV3, EV4, EV5, EV6, EV7, EV8, VALS, plug, ite_same, decide_true, decide_false, eq_self, ↓reduceIte, reduceCtorEq, Nat.reduceAdd, Nat.reduceEqDiff, Nat.reduceLT, Nat.reduceLeDiff, Nat.reduceMul, Nat.reduceSub, Nat.reduceDiv, Int.reduceToNat, Int.reduceAdd, Int.reduceSub, Int.reduceMul, Int.reduceNeg, Int.reduceEq, Int.reduceLT, Int.reduceLE]; with_reducible rfl) ?_
        | ((with_reducible refine chk_r ?_); refine r_callF (by simp only [CA, Nat.reduceEqDiff, ↓reduceIte]; rfl) (by exact rfl) (by simp only [CA, Nat.reduceEqDiff, ↓reduceIte]; rfl) rfl ?_)
        | ((with_reducible refine chk_h ?_); refine hr_callF (by simp only [CA, Nat.reduceEqDiff, ↓reduceIte]; rfl) (by exact rfl) (by simp only [CA, Nat.reduceEqDiff, ↓reduceIte]; rfl) rfl ?_)
        | ((with_reducible refine chk_h ?_); refine hr_app (by simp (disch := omega) only [hlt', c19r0, c19r1, c19r2, c19r3, c19r4, c19r5, c19r6, c19r7, c19r8, c19r9, c19r10, c19r11, c19r12, c19r14, c19r15, c19r16, c19r17, c19r18, c19r19, c19r20, c19r21, c19r23, c19r24, c19r25, c19r26, c19r28, EV0, EV1, EV2, EV3, EV4, EV5, EV6, EV7, EV8, VALS, plug, ite_same, decide_true, decide_false, eq_self, ↓reduceIte, reduceCtorEq, Nat.reduceAdd, Nat.reduceEqDiff, Nat.reduceLT, Nat.reduceLeDiff, Nat.reduceMul, Nat.reduceSub, Nat.reduceDiv, Int.reduceToNat, Int.reduceAdd, Int.reduceSub, Int.reduceMul, Int.reduceNeg, Int.reduceEq, Int.reduceLT, Int.reduceLE]; with_reducible rfl) rfl ?_)
        | (with_reducible refine k_condP (by simp only [GA, Nat.reduceEqDiff, ↓reduceIte]; rfl) (by first | (simp only [BO]; rfl) | rfl) (fun ht => ?_) (fun ht => ?_) <;> try (first | exact False.elim ht | exact absurd rfl ht | exact absurd trivial ht | exact Bool.noConfusion ht))
        | (with_reducible refine k_ret ?_; repeat with_reducible (first | refine ret_thru ?_ | refine ret_blk ?_ | refine fin ?_))
        | (with_reducible refine k_exit ?_; repeat with_reducible (first | refine thru ?_ | refine out_blk ?_ | refine pass (by decide) ?_))
        | (refine post1 ?_; simp only [GA, Nat.reduceEqDiff, ↓reduceIte])
        | (refine post2 ?_; simp only [GA, Nat.reduceEqDiff, ↓reduceIte])
        | (refine post3 ?_; simp only [GA, Nat.reduceEqDiff, ↓reduceIte])
        | (refine postc (by simp only [GA, Nat.reduceEqDiff, ↓reduceIte]; rfl) (by simp (disch := omega) only [hlt', c19r0, c19r1, c19r2, c19r3, c19r4, c19r5, c19r6, c19r7, c19r8, c19r9, c19r10, c19r11, c19r12, c19r14, c19r15, c19r16, c19r17, c19r18, c19r19, c19r20, c19r21, c19r23, c19r24, c19r25, c19r26, c19r28, EV0, EV1, EV2, EV3, EV4, EV5, EV6, EV7, EV8, VALS, plug, ite_same, decide_true, decide_false, eq_self, ↓reduceIte, reduceCtorEq, Nat.reduceAdd, Nat.reduceEqDiff, Nat.reduceLT, Nat.reduceLeDiff, Nat.reduceMul, Nat.reduceSub, Nat.reduceDiv, Int.reduceToNat, Int.reduceAdd, Int.reduceSub, Int.reduceMul, Int.reduceNeg, Int.reduceEq, Int.reduceLT, Int.reduceLE]; rfl) ?_)
        | refine post0 ?_
      refine (N.keep (h' := (h.bump 1).bump 3) fun _ _ hb => hb).ends (v2 := .tu [vRows (rowsK l l.length), .i .i64 0]) (.tu (.cons ?_ (.cons .same .nil))) fun h2 F => ?_
      · rw [rv_map]
        have := @FrzV.sl r ((rowsK l l.length).map rvN) 0 (rowsK l l.length).length 1 1 (by simp)
        rwa [List.drop_zero, List.take_of_length_le (by simp)] at this
      · exact ⟨_, .done⟩
  · rw [if_neg hv, if_neg hv]
    rw [vl_f hv] at q23
    repeat' first
      | with_reducible refine k_seq ?_
      | with_reducible refine k_skip ?_
      | with_reducible refine k_blkS ?_
      | with_reducible refine k_blkR ?_
      | with_reducible refine k_blkC ?_
      | with_reducible refine k_blkH ?_
      | with_reducible refine k_blkB ?_
      | with_reducible refine k_blkK ?_
      | with_reducible refine k_blkE ?_
      | with_reducible refine k_reg ?_
      | with_reducible refine k_head (by with_unfolding_all rfl) ?_
      | with_reducible refine k_headS ?_
      | (with_reducible refine SepK.mk ?_ ?_; (refine sepQ_P ?_; simp [sepQ, sepG, AOp.late, AOp.free, AOp.xs, AOp.isAl, tokNe, AV.tok, stS_get, strip, AX.val, c19r0, c19r1, c19r2, c19r3, c19r4, c19r5, c19r6, c19r7, c19r8, c19r9, c19r10, c19r11, c19r12, c19r14, c19r15, c19r16, c19r17, c19r18, c19r19, c19r20, c19r21, c19r23, c19r24, c19r25, c19r26, c19r28, GA]; try omega))
      | with_reducible refine r_done ?_
      | with_reducible refine hr_done ?_
      | with_reducible refine s_go (by simp (disch := omega) only [c19r0, c19r1, c19r2, c19r3, c19r4, c19r5, c19r6, c19r7, c19r8, c19r9, c19r10, c19r11, c19r12, c19r14, c19r15, c19r16, c19r17, c19r18, c19r19, c19r20, c19r21, c19r23, c19r24, c19r25, c19r26, c19r28, EV0, EV1, EV2, EV3, EV4, EV5, EV6, EV7, EV8, VALS, plug, ite_same, decide_true, decide_false, eq_self, ↓reduceIte, reduceCtorEq, Nat.reduceAdd, Nat.reduceEqDiff, Nat.reduceLT, Nat.reduceLeDiff, Nat.reduceMul, Nat.reduceSub, Nat.reduceDiv, Int.reduceToNat, Int.reduceAdd, Int.reduceSub, Int.reduceMul, Int.reduceNeg, Int.reduceEq, Int.reduceLT, Int.reduceLE]; with_reducible rfl) ?_
      | with_reducible refine h_go (by with_unfolding_all rfl) (by simp (disch := omega) only [c19r0, c19r1, c19r2, c19r3, c19r4, c19r5, c19r6, c19r7, c19r8, c19r9, c19r10, c19r11, c19r12, c19r14, c19r15, c19r16, c19r17, c19r18, c19r19, c19r20, c19r21, c19r23, c19r24, c19r25, c19r26, c19r28, EV0, EV1, EV2, EV3, EV4, EV5, EV6, EV7, EV8, VALS, plug, ite_same, decide_true, decide_false, eq_self, ↓reduceIte, reduceCtorEq, Nat.reduceAdd, Nat.reduceEqDiff, Nat.reduceLT, Nat.reduceLeDiff, Nat.reduceMul, Nat.reduceSub, Nat.reduceDiv, Int.reduceToNat, Int.reduceAdd, Int.reduceSub, Int.reduceMul, Int.reduceNeg, Int.reduceEq, Int.reduceLT, Int.reduceLE]; with_reducible rfl) ?_
      | ((with_reducible refine chk_r ?_); refine r_callF (by simp only [CA, Nat.reduceEqDiff, ↓reduceIte]; rfl) (by exact rfl) (by simp only [CA, Nat.reduceEqDiff, ↓reduceIte]; rfl) rfl ?_)
      | ((with_reducible refine chk_h ?_); refine hr_callF (by simp only [CA, Nat.reduceEqDiff, ↓reduceIte]; rfl) (by exact rfl) (by simp only [CA, Nat.reduceEqDiff, ↓reduceIte]; rfl) rfl ?_)
      | ((with_reducible refine chk_r ?_); refine r_callP (by simp only [CA, Nat.reduceEqDiff, ↓reduceIte]; rfl) (by simp only [CA, Nat.reduceEqDiff, ↓reduceIte]; rfl) (by first | exact q23 _) rfl ?_)
      | ((with_reducible refine chk_h ?_); refine hr_callP (by simp only [CA, Nat.reduceEqDiff, ↓reduceIte]; rfl) (by simp only [CA, Nat.reduceEqDiff, ↓reduceIte]; rfl) (by first | exact q23 _) rfl ?_)
      | ((with_reducible refine chk_h ?_); refine hr_callP1 (by simp only [CA, Nat.reduceEqDiff, ↓reduceIte]; rfl) (by simp only [CA, Nat.reduceEqDiff, ↓reduceIte]; rfl) (by simp (disch := omega) only [CA, Nat.reduceEqDiff, ↓reduceIte, firstTok_nil, firstTok_sl, firstTok_sl0, firstTok_i, firstTok_b, firstTok_ag, firstTok_p, firstTok_s]; rfl) (by first | exact q23 _) rfl ?_)
      | ((with_reducible refine chk_r ?_); refine r_callG (by simp only [CA, Nat.reduceEqDiff, ↓reduceIte]; rfl) (by simp only [CA, Nat.reduceEqDiff, ↓reduceIte]; rfl) (by simp only [CA, Nat.reduceEqDiff, ↓reduceIte]; rfl) (by intro hg; (try simp only [BO] at hg); first | exact q23 _) rfl ?_)
      | ((with_reducible refine chk_h ?_); refine hr_callG (by simp only [CA, Nat.reduceEqDiff, ↓reduceIte]; rfl) (by simp only [CA, Nat.reduceEqDiff, ↓reduceIte]; rfl) (by simp only [CA, Nat.reduceEqDiff, ↓reduceIte]; rfl) (by intro hg; (try simp only [BO] at hg); first | exact q23 _) rfl ?_)
      | ((with_reducible refine chk_h ?_); refine hr_app (by simp (disch := omega) only [c19r0, c19r1, c19r2, c19r3, c19r4, c19r5, c19r6, c19r7, c19r8, c19r9, c19r10, c19r11, c19r12, c19r14, c19r15, c19r16, c19r17, c19r18, c19r19, c19r20, c19r21, c19r23, c19r24, c19r25, c19r26, c19r28, EV0, EV1, EV2, EV3, EV4, EV5, EV6, EV7, EV8, VALS, plug, ite_same, decide_true, decide_false, eq_self, ↓reduceIte, reduceCtorEq, Nat.reduceAdd, Nat.reduceEqDiff, Nat.reduceLT, Nat.reduceLeDiff, Nat.reduceMul, Nat.reduceSub, Nat.reduceDiv, Int.reduceToNat, Int.reduceAdd, Int.reduceSub, Int.reduceMul, Int.reduceNeg, Int.reduceEq, Int.reduceLT, Int.reduceLE]; with_reducible rfl) rfl ?_)
      | (with_reducible refine k_condP (by simp only [GA, Nat.reduceEqDiff, ↓reduceIte]; rfl) (by first | (simp only [BO]; rfl) | rfl) (fun ht => ?_) (fun ht => ?_) <;> try (first | exact False.elim ht | exact absurd rfl ht | exact absurd trivial ht | exact Bool.noConfusion ht))
      | (with_reducible refine k_ret ?_; repeat with_reducible (first | refine ret_thru ?_ | refine ret_blk ?_ | refine fin ?_))
      | (with_reducible refine k_exit ?_; repeat with_reducible (first | refine thru ?_ | refine out_blk ?_ | refine pass (by decide) ?_))
      | (refine post1 ?_; simp only [GA, Nat.reduceEqDiff, ↓reduceIte])
      | (refine post2 ?_; simp only [GA, Nat.reduceEqDiff, ↓reduceIte])
      | (refine post3 ?_; simp only [GA, Nat.reduceEqDiff, ↓reduceIte])
      | (refine postc (by simp only [GA, Nat.reduceEqDiff, ↓reduceIte]; rfl) (by simp (disch := omega) only [c19r0, c19r1, c19r2, c19r3, c19r4, c19r5, c19r6, c19r7, c19r8, c19r9, c19r10, c19r11, c19r12, c19r14, c19r15, c19r16, c19r17, c19r18, c19r19, c19r20, c19r21, c19r23, c19r24, c19r25, c19r26, c19r28, EV0, EV1, EV2, EV3, EV4, EV5, EV6, EV7, EV8, VALS, plug, ite_same, decide_true, decide_false, eq_self, ↓reduceIte, reduceCtorEq, Nat.reduceAdd, Nat.reduceEqDiff, Nat.reduceLT, Nat.reduceLeDiff, Nat.reduceMul, Nat.reduceSub, Nat.reduceDiv, Int.reduceToNat, Int.reduceAdd, Int.reduceSub, Int.reduceMul, Int.reduceNeg, Int.reduceEq, Int.reduceLT, Int.reduceLE]; rfl) ?_)
      | refine post0 ?_
    exact ends_nil2
end Go.Proofs.Ytjncfpfgobojpaa
set_option linter.unusedVariables false
set_option linter.unusedSimpArgs false
namespace Go.Proofs.Ytjncfpfgobojpaa
open Go Go.Am Go.Proofs Go.Sort
theorem pc3 (l : List B) (hl : l.length ≤ 9223372036854775807) : PC Try.prog 3 [vB l] (.b true) := by
  refine pc_fn fn3 (by simp only [AV.plains, AV.plain, il_plain, bl_plain, Bool.and_true, Bool.true_and, Bool.and_self, flB_plain]) (by simp only [AV.plains, AV.plain, il_plain, bl_plain, Bool.and_true, Bool.true_and, Bool.and_self, flB_plain]) (Nat.le_of_ble_eq_true rfl) ?_
  rw [initSt1]
  have q16 := pc16 l hl 50
  have q18 := pc18 l hl
  have q19 := pc19 l hl
  have q20 := pc20 l hl
  have q21 := pc21 l hl
  have rl := rowsR_len l
  have q22 := pc22 (rowsR l) (by omega) (fun i hi => by
    unfold rowsR at hi ⊢
    by_cases hv : VL l
    · rw [if_pos hv] at hi ⊢
      have := row_len (l := l) (k := l.length) (Nat.le_refl _) i
      simp only [rowsL] at hi ⊢
      omega
    · rw [if_neg hv] at hi; simp at hi)
  generalize erR l = E at *
  generalize rowsR l = R at *
  by_cases c1 : (50 : Int) < l.length
  · repeat' first
      | with_reducible refine k_seq ?_
      | with_reducible refine k_skip ?_
      | with_reducible refine k_blkS ?_
      | with_reducible refine k_blkR ?_
      | with_reducible refine k_blkC ?_
      | with_reducible refine k_blkH ?_
      | with_reducible refine k_blkB ?_
      | with_reducible refine k_blkK ?_
      | with_reducible refine k_blkE ?_
      | with_reducible refine k_reg ?_
      | with_reducible refine r_done ?_
      | with_reducible refine s_go (by simp (disch := omega) only [c1, c3r0, c3r1, c3r2, c3r3, c3r4, c3r5, c3r6, c3r7, EV0, EV1, EV2, EV3, EV4, EV5, EV6, EV7, EV8, VALS, plug, ite_same, decide_true, decide_false, eq_self, ↓reduceIte, reduceCtorEq, Nat.reduceAdd, Nat.reduceEqDiff, Nat.reduceLT, Nat.reduceLeDiff, Nat.reduceMul, Nat.reduceSub, Nat.reduceDiv, Int.reduceToNat, Int.reduceAdd, Int.reduceSub, Int.reduceMul, Int.reduceNeg, Int.reduceEq, Int.reduceLT, Int.reduceLE]; with_reducible rfl) ?_
      | ((with_reducible refine chk_r ?_); refine r_callF (by simp only [CA, Nat.reduceEqDiff, ↓reduceIte]; rfl) (by exact rfl) (by simp only [CA, Nat.reduceEqDiff, ↓reduceIte]; rfl) rfl ?_)
      | ((with_reducible refine chk_r ?_); refine r_callP (by simp only [CA, Nat.reduceEqDiff, ↓reduceIte]; rfl) (by simp only [CA, Nat.reduceEqDiff, ↓reduceIte]; rfl) (by first | exact q16 _ | exact pc17 _) rfl ?_)
      | ((with_reducible refine chk_r ?_); refine r_callG (by simp only [CA, Nat.reduceEqDiff, ↓reduceIte]; rfl) (by simp only [CA, Nat.reduceEqDiff, ↓reduceIte]; rfl) (by simp only [CA, Nat.reduceEqDiff, ↓reduceIte]; rfl) (by intro hg; (try simp only [BO] at hg); first | exact q16 _ | exact pc17 _) rfl ?_)
      | (with_reducible refine k_condP (by simp only [GA, Nat.reduceEqDiff, ↓reduceIte]; rfl) (by first | (simp only [BO]; rfl) | rfl) (fun ht => ?_) (fun ht => ?_) <;> try (first | exact False.elim ht | exact absurd rfl ht | exact absurd trivial ht | exact Bool.noConfusion ht))
      | (with_reducible refine k_ret ?_; repeat with_reducible (first | refine ret_thru ?_ | refine ret_blk ?_ | refine fin ?_))
      | (with_reducible refine k_exit ?_; repeat with_reducible (first | refine thru ?_ | refine out_blk ?_ | refine pass (by decide) ?_))
      | (refine post1 ?_; simp only [GA, Nat.reduceEqDiff, ↓reduceIte])
      | (refine post2 ?_; simp only [GA, Nat.reduceEqDiff, ↓reduceIte])
      | (refine post3 ?_; simp only [GA, Nat.reduceEqDiff, ↓reduceIte])
      | (refine postc (by simp only [GA, Nat.reduceEqDiff, ↓reduceIte]; rfl) (by simp (disch := omega) only [c1, c3r0, c3r1, c3r2, c3r3, c3r4, c3r5, c3r6, c3r7, EV0, EV1, EV2, EV3, EV4, EV5, EV6, EV7, EV8, VALS, plug, ite_same, decide_true, decide_false, eq_self, ↓reduceIte, reduceCtorEq, Nat.reduceAdd, Nat.reduceEqDiff, Nat.reduceLT, Nat.reduceLeDiff, Nat.reduceMul, Nat.reduceSub, Nat.reduceDiv, Int.reduceToNat, Int.reduceAdd, Int.reduceSub, Int.reduceMul, Int.reduceNeg, Int.reduceEq, Int.reduceLT, Int.reduceLE]; rfl) ?_)
      | refine post0 ?_
    all_goals first | exact ends_of | exact ends_eq rfl
  · repeat' first
      | with_reducible refine k_seq ?_
      | with_reducible refine k_skip ?_
      | with_reducible refine k_blkS ?_
      | with_reducible refine k_blkR ?_
      | with_reducible refine k_blkC ?_
      | with_reducible refine k_blkH ?_
      | with_reducible refine k_blkB ?_
      | with_reducible refine k_blkK ?_
      | with_reducible refine k_blkE ?_
      | with_reducible refine k_reg ?_
      | with_reducible refine r_done ?_
      | with_reducible refine s_go (by simp (disch := omega) only [c1, c3r0, c3r1, c3r2, c3r3, c3r4, c3r5, c3r6, c3r7, EV0, EV1, EV2, EV3, EV4, EV5, EV6, EV7, EV8, VALS, plug, ite_same, decide_true, decide_false, eq_self, ↓reduceIte, reduceCtorEq, Nat.reduceAdd, Nat.reduceEqDiff, Nat.reduceLT, Nat.reduceLeDiff, Nat.reduceMul, Nat.reduceSub, Nat.reduceDiv, Int.reduceToNat, Int.reduceAdd, Int.reduceSub, Int.reduceMul, Int.reduceNeg, Int.reduceEq, Int.reduceLT, Int.reduceLE]; with_reducible rfl) ?_
      | ((with_reducible refine chk_r ?_); refine r_callF (by simp only [CA, Nat.reduceEqDiff, ↓reduceIte]; rfl) (by exact rfl) (by simp only [CA, Nat.reduceEqDiff, ↓reduceIte]; rfl) rfl ?_)
      | ((with_reducible refine chk_r ?_); refine r_callP (by simp only [CA, Nat.reduceEqDiff, ↓reduceIte]; rfl) (by simp only [CA, Nat.reduceEqDiff, ↓reduceIte]; rfl) (by first | exact q16 _ | exact pc17 _ | exact q18 _ | exact q19 _ | exact q20 _ | exact q21 _ | exact q22 _) rfl ?_)
      | ((with_reducible refine chk_r ?_); refine r_callG (by simp only [CA, Nat.reduceEqDiff, ↓reduceIte]; rfl) (by simp only [CA, Nat.reduceEqDiff, ↓reduceIte]; rfl) (by simp only [CA, Nat.reduceEqDiff, ↓reduceIte]; rfl) (by intro hg; (try simp only [BO] at hg); first | exact q16 _ | exact pc17 _ | exact q18 _ | exact q19 _ | exact q20 _ | exact q21 _ | exact q22 _) rfl ?_)
      | (with_reducible refine k_condP (by simp only [GA, Nat.reduceEqDiff, ↓reduceIte]; rfl) (by first | (simp only [BO]; rfl) | rfl) (fun ht => ?_) (fun ht => ?_) <;> try (first | exact False.elim ht | exact absurd rfl ht | exact absurd trivial ht | exact Bool.noConfusion ht))
      | (with_reducible refine k_ret ?_; repeat with_reducible (first | refine ret_thru ?_ | refine ret_blk ?_ | refine fin ?_))
      | (with_reducible refine k_exit ?_; repeat with_reducible (first | refine thru ?_ | refine out_blk ?_ | refine pass (by decide) ?_))
      | (refine post1 ?_; simp only [GA, Nat.reduceEqDiff, ↓reduceIte])
      | (refine post2 ?_; simp only [GA, Nat.reduceEqDiff, ↓reduceIte])
      | (refine post3 ?_; simp only [GA, Nat.reduceEqDiff, ↓reduceIte])
      | (refine postc (by simp only [GA, Nat.reduceEqDiff, ↓reduceIte]; rfl) (by simp (disch := omega) only [c1, c3r0, c3r1, c3r2, c3r3, c3r4, c3r5, c3r6, c3r7, EV0, EV1, EV2, EV3, EV4, EV5, EV6, EV7, EV8, VALS, plug, ite_same, decide_true, decide_false, eq_self, ↓reduceIte, reduceCtorEq, Nat.reduceAdd, Nat.reduceEqDiff, Nat.reduceLT, Nat.reduceLeDiff, Nat.reduceMul, Nat.reduceSub, Nat.reduceDiv, Int.reduceToNat, Int.reduceAdd, Int.reduceSub, Int.reduceMul, Int.reduceNeg, Int.reduceEq, Int.reduceLT, Int.reduceLE]; rfl) ?_)
      | refine post0 ?_
    all_goals first | exact ends_of | exact ends_eq rfl
end Go.Proofs.Ytjncfpfgobojpaa
