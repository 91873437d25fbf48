/- What the proof of the law needs: the abstract machine, the functions as it reads them, their contracts, part 7. -/
import Derived.Test.YtbhkbaapfioijaaZf
set_option linter.unusedVariables false
set_option linter.unusedSimpArgs false
namespace Go.Proofs.Ytbhkbaapfioijaa
open Go Go.Am Go.Proofs Go.Sort
/-! ### Guard -/
theorem nl_il (ns : List Nat) : nl ns = il (ns.map fun (n : Nat) => (n : Int)) := by simp [nl, il]
/-- a guard with az few temples az pairs -/
structure GOK (l : List T) (tol : Int) (g : List Nat) : Prop where
  len : g.length = (matchL l tol).length
  inc : g.Pairwise (· < ·)
  lt : ∀ i ∈ g, i < l.length
  cov : ∀ i k, i < l.length → k < l.length → ed l tol i k = true → i ∈ g ∨ k ∈ g
theorem GOK.le {l : List T} {tol : Int} {g : List Nat} (h : GOK l tol g) : g.length ≤ l.length := by
  have := nodup_len (A := g) (B := List.range l.length) (h.inc.imp fun h => by omega) fun x hx => List.mem_range.2 (h.lt x hx)
  simpa using this
theorem GOK.is {l : List T} {tol : Int} {g : List Nat} (h0 : asked l tol = 0) (h : GOK l tol g) : isG l tol (g.map fun (n : Nat) => (n : Int)) = (true, 0) := by
  have get : ∀ i (hi : i < g.length), ni (g.map fun (n : Nat) => (n : Int)) i = (g[i] : Nat) := fun i hi => by simp [ni, hi]
  have mem : ∀ x, x ∈ g → hasI (g.map fun (n : Nat) => (n : Int)) g.length x := fun x hx => by
    obtain ⟨i, hi, e⟩ := List.getElem_of_mem hx
    exact ⟨i, hi, by rw [get i hi, e]⟩
  refine isG_yes h0 (fun i hi => ?_) fun i hi k hk e => ?_
  · rw [List.length_map] at hi
    rw [get i hi]
    refine ⟨by omega, by have := h.lt _ (List.getElem_mem hi); omega, ?_⟩
    rintro ⟨j, hj, e⟩
    rw [get j (by omega)] at e
    have := List.pairwise_iff_getElem.1 h.inc j i (by omega) hi hj
    omega
  · rw [List.length_map]
    rcases h.cov i k hi (by omega) e with q | q
    · exact .inl (mem i q)
    · exact .inr (mem k q)
/-- what Guard returns -/
def GR (l : List T) (tol : Int) (v : AV) : Prop := (asked l tol = 0 ∧ ∃ g : List Nat, GOK l tol g ∧ v = .tu [.vs g.length (nl g), .i .i64 0]) ∨ (asked l tol ≠ 0 ∧ v = .tu [.vs 0 [], .i .i64 (asked l tol)])
theorem GR.plain {l : List T} {tol : Int} {v : AV} (h : GR l tol v) : v.plain = true := by
  rcases h with ⟨_, g, _, rfl⟩ | ⟨_, rfl⟩
  · simp [AV.plain, AV.plains, nl_plain]
  · rfl
set_option maxHeartbeats 2000000 in
theorem pc18 (l : List T) (hl : l.length ≤ 9223372036854775807) (tol : Int) : PCR Try.prog 18 [vT l, .i .i64 tol] (GR l tol) := by
  refine pcr_fn fn18 (by simp only [AV.plains, AV.plain, il_plain, bl_plain, Bool.and_true, Bool.true_and, Bool.and_self, flT_plain]) (fun v => GR.plain) (Nat.le_of_ble_eq_true rfl) ?_
  rw [initSt2]
  have q := pc17 l hl tol
  refine k_seq (k_reg ?_)
  refine s_go (by simp (disch := omega) only [c18r0, c18r1, c18r2, c18r3, c18r4, c18r5, c18r6, c18r7, c18r8, c18r9, c18r10, c18r11, c18r13, c18r14, c18r15, c18r16, c18r17, c18r18, c18r19, c18r20, c18r21, c18r23, c18r24, c18r25, c18r26, c18r27, c18r28, c18r29, c18r31, EV0, EV1, EV2, EV3, EV4, EV5, EV6, EV7, EV8, VALS, plug, ite_same, decide_true, decide_false, eq_self, ↓reduceIte, reduceCtorEq, Nat.reduceAdd, Nat.reduceEqDiff, Nat.reduceLT, Nat.reduceLeDiff, Nat.reduceMul, Nat.reduceSub, Nat.reduceDiv, Int.reduceToNat, Int.reduceAdd, Int.reduceSub, Int.reduceMul, Int.reduceNeg, Int.reduceEq, Int.reduceLT, Int.reduceLE]; with_reducible rfl) ?_
  refine r_done ?_
  refine w_frzP (t := 1) (cs := [vT l]) 2 (by simp (disch := omega) only [c18r0, c18r1, c18r2, c18r3, c18r4, c18r5, c18r6, c18r7, c18r8, c18r9, c18r10, c18r11, c18r13, c18r14, c18r15, c18r16, c18r17, c18r18, c18r19, c18r20, c18r21, c18r23, c18r24, c18r25, c18r26, c18r27, c18r28, c18r29, c18r31, EV0, EV1, EV2, EV3, EV4, EV5, EV6, EV7, EV8, VALS, plug, ite_same, decide_true, decide_false, eq_self, ↓reduceIte, reduceCtorEq, Nat.reduceAdd, Nat.reduceEqDiff, Nat.reduceLT, Nat.reduceLeDiff, Nat.reduceMul, Nat.reduceSub, Nat.reduceDiv, Int.reduceToNat, Int.reduceAdd, Int.reduceSub, Int.reduceMul, Int.reduceNeg, Int.reduceEq, Int.reduceLT, Int.reduceLE] <;> rfl) rfl ?_
  refine w_frzP (t := 2) (cs := [.i .i64 tol]) 3 (by simp (disch := omega) only [c18r0, c18r1, c18r2, c18r3, c18r4, c18r5, c18r6, c18r7, c18r8, c18r9, c18r10, c18r11, c18r13, c18r14, c18r15, c18r16, c18r17, c18r18, c18r19, c18r20, c18r21, c18r23, c18r24, c18r25, c18r26, c18r27, c18r28, c18r29, c18r31, EV0, EV1, EV2, EV3, EV4, EV5, EV6, EV7, EV8, VALS, plug, ite_same, decide_true, decide_false, eq_self, ↓reduceIte, reduceCtorEq, Nat.reduceAdd, Nat.reduceEqDiff, Nat.reduceLT, Nat.reduceLeDiff, Nat.reduceMul, Nat.reduceSub, Nat.reduceDiv, Int.reduceToNat, Int.reduceAdd, Int.reduceSub, Int.reduceMul, Int.reduceNeg, Int.reduceEq, Int.reduceLT, Int.reduceLE] <;> rfl) rfl ?_
  unfold matR at q
  by_cases h0 : asked l tol = 0
  · have hv := (asked_ok h0).1
    have hl6 := hv.len
    rw [if_pos h0] at q
    have hA : (matchL l tol).length ≤ 9 * l.length := mc_len l tol 9
    have ok3 := (match_ok l tol).2.2
    rw [h0] at q
    obtain ⟨M, hM⟩ : ∃ M, M = matchL l tol := ⟨_, rfl⟩
    rw [← hM] at q hA ok3
    have stop : ∀ rs, Rch l tol M rs l.length → ∀ v h, Am.Ends (.tu [.vs (grd l rs l.length).length (nl (grd l rs l.length)), .i .i64 0]) v h → ∃ v', GR l tol v' ∧ Am.Ends v' v h := fun rs g v h e =>
      ⟨_, .inl ⟨h0, _, ⟨by rw [g.size hv hM, hM], grd_inc, fun i hi => (grd_mem.1 hi).1, g.cover hv⟩, rfl⟩, e⟩
    repeat' first
      | with_reducible refine k_seq ?_
      | with_reducible refine k_skip ?_
      | with_reducible refine k_blkS ?_
      | with_reducible refine k_blkR ?_
      | with_reducible refine k_blkC ?_
      | with_reducible refine k_blkH ?_
      | with_reducible refine k_blkB ?_
      | with_reducible refine k_blkK ?_
      | with_reducible refine k_blkE ?_
      | with_reducible refine k_reg ?_
      | with_reducible refine k_head (by with_unfolding_all rfl) ?_
      | with_reducible refine k_headS ?_
      | (with_reducible refine SepK.mk ?_ ?_; (refine sepQ_P ?_; simp [sepQ, sepG, AOp.late, AOp.free, AOp.xs, AOp.isAl, tokNe, AV.tok, stS_get, strip, AX.val, c18r0, c18r1, c18r2, c18r3, c18r4, c18r5, c18r6, c18r7, c18r8, c18r9, c18r10, c18r11, c18r13, c18r14, c18r15, c18r16, c18r17, c18r18, c18r19, c18r20, c18r21, c18r23, c18r24, c18r25, c18r26, c18r27, c18r28, c18r29, c18r31, GA]; try omega))
      | with_reducible refine r_done ?_
      | with_reducible refine hr_done ?_
      | with_reducible refine s_go (by simp (disch := omega) only [c18r0, c18r1, c18r2, c18r3, c18r4, c18r5, c18r6, c18r7, c18r8, c18r9, c18r10, c18r11, c18r13, c18r14, c18r15, c18r16, c18r17, c18r18, c18r19, c18r20, c18r21, c18r23, c18r24, c18r25, c18r26, c18r27, c18r28, c18r29, c18r31, EV0, EV1, EV2, EV3, EV4, EV5, EV6, EV7, EV8, VALS, plug, ite_same, decide_true, decide_false, eq_self, ↓reduceIte, reduceCtorEq, Nat.reduceAdd, Nat.reduceEqDiff, Nat.reduceLT, Nat.reduceLeDiff, Nat.reduceMul, Nat.reduceSub, Nat.reduceDiv, Int.reduceToNat, Int.reduceAdd, Int.reduceSub, Int.reduceMul, Int.reduceNeg, Int.reduceEq, Int.reduceLT, Int.reduceLE]; with_reducible rfl) ?_
      | with_reducible refine h_go (by with_unfolding_all rfl) (by simp (disch := omega) only [c18r0, c18r1, c18r2, c18r3, c18r4, c18r5, c18r6, c18r7, c18r8, c18r9, c18r10, c18r11, c18r13, c18r14, c18r15, c18r16, c18r17, c18r18, c18r19, c18r20, c18r21, c18r23, c18r24, c18r25, c18r26, c18r27, c18r28, c18r29, c18r31, EV0, EV1, EV2, EV3, EV4, EV5, EV6, EV7, EV8, VALS, plug, ite_same, decide_true, decide_false, eq_self, ↓reduceIte, reduceCtorEq, Nat.reduceAdd, Nat.reduceEqDiff, Nat.reduceLT, Nat.reduceLeDiff, Nat.reduceMul, Nat.reduceSub, Nat.reduceDiv, Int.reduceToNat, Int.reduceAdd, Int.reduceSub, Int.reduceMul, Int.reduceNeg, Int.reduceEq, Int.reduceLT, Int.reduceLE]; with_reducible rfl) ?_
      | ((with_reducible refine chk_r ?_); refine r_callF (by simp only [CA, Nat.reduceEqDiff, ↓reduceIte]; rfl) (by exact rfl) (by simp only [CA, Nat.reduceEqDiff, ↓reduceIte]; rfl) rfl ?_)
      | ((with_reducible refine chk_h ?_); refine hr_callF (by simp only [CA, Nat.reduceEqDiff, ↓reduceIte]; rfl) (by exact rfl) (by simp only [CA, Nat.reduceEqDiff, ↓reduceIte]; rfl) rfl ?_)
      | ((with_reducible refine chk_r ?_); refine r_callP (by simp only [CA, Nat.reduceEqDiff, ↓reduceIte]; rfl) (by simp only [CA, Nat.reduceEqDiff, ↓reduceIte]; rfl) (by first | exact q _) rfl ?_)
      | ((with_reducible refine chk_h ?_); refine hr_callP (by simp only [CA, Nat.reduceEqDiff, ↓reduceIte]; rfl) (by simp only [CA, Nat.reduceEqDiff, ↓reduceIte]; rfl) (by first | exact q _) rfl ?_)
      | ((with_reducible refine chk_h ?_); refine hr_callP1 (by simp only [CA, Nat.reduceEqDiff, ↓reduceIte]; rfl) (by simp only [CA, Nat.reduceEqDiff, ↓reduceIte]; rfl) (by simp (disch := omega) only [CA, Nat.reduceEqDiff, ↓reduceIte, firstTok_nil, firstTok_sl, firstTok_sl0, firstTok_i, firstTok_b, firstTok_ag, firstTok_p, firstTok_s]; rfl) (by first | exact q _) rfl ?_)
      | ((with_reducible refine chk_h ?_); refine hr_app (by simp (disch := omega) only [c18r0, c18r1, c18r2, c18r3, c18r4, c18r5, c18r6, c18r7, c18r8, c18r9, c18r10, c18r11, c18r13, c18r14, c18r15, c18r16, c18r17, c18r18, c18r19, c18r20, c18r21, c18r23, c18r24, c18r25, c18r26, c18r27, c18r28, c18r29, c18r31, EV0, EV1, EV2, EV3, EV4, EV5, EV6, EV7, EV8, VALS, plug, ite_same, decide_true, decide_false, eq_self, ↓reduceIte, reduceCtorEq, Nat.reduceAdd, Nat.reduceEqDiff, Nat.reduceLT, Nat.reduceLeDiff, Nat.reduceMul, Nat.reduceSub, Nat.reduceDiv, Int.reduceToNat, Int.reduceAdd, Int.reduceSub, Int.reduceMul, Int.reduceNeg, Int.reduceEq, Int.reduceLT, Int.reduceLE]; with_reducible rfl) rfl ?_)
      | (with_reducible refine k_condP (by simp only [GA, Nat.reduceEqDiff, ↓reduceIte]; rfl) (by first | (simp only [BO]; rfl) | rfl) (fun ht => ?_) (fun ht => ?_) <;> try (first | exact False.elim ht | exact absurd rfl ht | exact absurd trivial ht | exact Bool.noConfusion ht))
      | (with_reducible refine k_ret ?_; repeat with_reducible (first | refine ret_thru ?_ | refine ret_blk ?_ | refine fin ?_))
      | (with_reducible refine k_exit ?_; repeat with_reducible (first | refine thru ?_ | refine out_blk ?_ | refine pass (by decide) ?_))
      | (refine post1 ?_; simp only [GA, Nat.reduceEqDiff, ↓reduceIte])
      | (refine post2 ?_; simp only [GA, Nat.reduceEqDiff, ↓reduceIte])
      | (refine post3 ?_; simp only [GA, Nat.reduceEqDiff, ↓reduceIte])
      | (refine postc (by simp only [GA, Nat.reduceEqDiff, ↓reduceIte]; rfl) (by simp (disch := omega) only [c18r0, c18r1, c18r2, c18r3, c18r4, c18r5, c18r6, c18r7, c18r8, c18r9, c18r10, c18r11, c18r13, c18r14, c18r15, c18r16, c18r17, c18r18, c18r19, c18r20, c18r21, c18r23, c18r24, c18r25, c18r26, c18r27, c18r28, c18r29, c18r31, EV0, EV1, EV2, EV3, EV4, EV5, EV6, EV7, EV8, VALS, plug, ite_same, decide_true, decide_false, eq_self, ↓reduceIte, reduceCtorEq, Nat.reduceAdd, Nat.reduceEqDiff, Nat.reduceLT, Nat.reduceLeDiff, Nat.reduceMul, Nat.reduceSub, Nat.reduceDiv, Int.reduceToNat, Int.reduceAdd, Int.reduceSub, Int.reduceMul, Int.reduceNeg, Int.reduceEq, Int.reduceLT, Int.reduceLE]; rfl) ?_)
      | refine post0 ?_
    refine k_blk (k_loopS (X := Nat × Nat × Nat × List (AV × AV) × List (AV × AV)) [2, 3, 8, 9, 30, 31, 32] M.length (fun k x => [(2, .pv [vT l] 0), (3, .pv [.i .i64 tol] 0), (8, .p x.1 0), (9, .mp x.2.2.1), (30, vP M), (31, .i .i64 M.length), (32, .i .i64 (k : Int))])
      (fun k x h => x.1 ≠ x.2.1 ∧ x.1 ≠ x.2.2.1 ∧ x.2.1 ≠ x.2.2.1 ∧ h.m x.1 = some (.cells true [.mp x.2.1]) ∧ h.m x.2.1 = some (.map x.2.2.2.1) ∧ MFi x.2.2.2.1 (prF M k) ∧ h.m x.2.2.1 = some (.map x.2.2.2.2) ∧ MFi x.2.2.2.2 (setOf (fstP M k))) (_, _, _, _, _) (by simp only [Am.keep, List.map_cons, List.map_nil, GA, Nat.reduceEqDiff, ↓reduceIte]; try rfl) ⟨?_, ?_, ?_, by simp (disch := omega) only [c18r0, c18r1, c18r2, c18r3, c18r4, c18r5, c18r6, c18r7, c18r8, c18r9, c18r10, c18r11, c18r13, c18r14, c18r15, c18r16, c18r17, c18r18, c18r19, c18r20, c18r21, c18r23, c18r24, c18r25, c18r26, c18r27, c18r28, c18r29, c18r31, EV0, EV1, EV2, EV3, EV4, EV5, EV6, EV7, EV8, VALS, plug, ite_same, decide_true, decide_false, eq_self, ↓reduceIte, reduceCtorEq, Nat.reduceAdd, Nat.reduceEqDiff, Nat.reduceLT, Nat.reduceLeDiff, Nat.reduceMul, Nat.reduceSub, Nat.reduceDiv, Int.reduceToNat, Int.reduceAdd, Int.reduceSub, Int.reduceMul, Int.reduceNeg, Int.reduceEq, Int.reduceLT, Int.reduceLE] <;> rfl, by simp (disch := omega) only [c18r0, c18r1, c18r2, c18r3, c18r4, c18r5, c18r6, c18r7, c18r8, c18r9, c18r10, c18r11, c18r13, c18r14, c18r15, c18r16, c18r17, c18r18, c18r19, c18r20, c18r21, c18r23, c18r24, c18r25, c18r26, c18r27, c18r28, c18r29, c18r31, EV0, EV1, EV2, EV3, EV4, EV5, EV6, EV7, EV8, VALS, plug, ite_same, decide_true, decide_false, eq_self, ↓reduceIte, reduceCtorEq, Nat.reduceAdd, Nat.reduceEqDiff, Nat.reduceLT, Nat.reduceLeDiff, Nat.reduceMul, Nat.reduceSub, Nat.reduceDiv, Int.reduceToNat, Int.reduceAdd, Int.reduceSub, Int.reduceMul, Int.reduceNeg, Int.reduceEq, Int.reduceLT, Int.reduceLE] <;> rfl, MFi.eq MF.nil fun x => rfl, by simp (disch := omega) only [c18r0, c18r1, c18r2, c18r3, c18r4, c18r5, c18r6, c18r7, c18r8, c18r9, c18r10, c18r11, c18r13, c18r14, c18r15, c18r16, c18r17, c18r18, c18r19, c18r20, c18r21, c18r23, c18r24, c18r25, c18r26, c18r27, c18r28, c18r29, c18r31, EV0, EV1, EV2, EV3, EV4, EV5, EV6, EV7, EV8, VALS, plug, ite_same, decide_true, decide_false, eq_self, ↓reduceIte, reduceCtorEq, Nat.reduceAdd, Nat.reduceEqDiff, Nat.reduceLT, Nat.reduceLeDiff, Nat.reduceMul, Nat.reduceSub, Nat.reduceDiv, Int.reduceToNat, Int.reduceAdd, Int.reduceSub, Int.reduceMul, Int.reduceNeg, Int.reduceEq, Int.reduceLT, Int.reduceLE] <;> rfl, MFi.set_nil fun a ⟨i, hi, _⟩ => by omega⟩ ?_)
    · simp only [AH.bump_nx, AH.set_nx, AH.kill_nx, H1_nx]; omega
    · simp only [AH.bump_nx, AH.set_nx, AH.kill_nx, H1_nx]; omega
    · simp only [AH.bump_nx, AH.set_nx, AH.kill_nx, H1_nx]; omega
    rintro k ⟨pb, m, q, e1, e2⟩ h hk ⟨n1, n2, n3, hp, hm, f1, hq, f2⟩ ok pos
    simp only at n1 n2 n3 hp hm f1 hq f2 ⊢
    have lp := ok.m hp
    have lm := ok.m hm
    have lq := ok.m hq
    by_cases hlt : k < M.length
    · have hlt' : (k : Int) < M.length := by omega
      have rP := rdP hlt
      obtain ⟨u1, u2⟩ := MFi.up f1 ((M.getD k (0, 0)).2 : Int) (.i .i64 ((M.getD k (0, 0)).1 : Int))
      obtain ⟨u3, u4⟩ := MFi.up f2 ((M.getD k (0, 0)).1 : Int) (.b true)
      simp only [eP] at rP
      repeat' first
        | with_reducible refine k_seq ?_
        | with_reducible refine k_skip ?_
        | with_reducible refine k_blkS ?_
        | with_reducible refine k_blkR ?_
        | with_reducible refine k_blkC ?_
        | with_reducible refine k_blkH ?_
        | with_reducible refine k_blkB ?_
        | with_reducible refine k_blkK ?_
        | with_reducible refine k_blkE ?_
        | with_reducible refine k_reg ?_
        | with_reducible refine k_head (by with_unfolding_all rfl) ?_
        | with_reducible refine k_headS ?_
        | (with_reducible refine SepK.mk ?_ ?_; (refine sepQ_P ?_; simp [sepQ, sepG, AOp.late, AOp.free, AOp.xs, AOp.isAl, tokNe, AV.tok, stS_get, strip, AX.val, c18r0, c18r1, c18r2, c18r3, c18r4, c18r5, c18r6, c18r7, c18r8, c18r9, c18r10, c18r11, c18r13, c18r14, c18r15, c18r16, c18r17, c18r18, c18r19, c18r20, c18r21, c18r23, c18r24, c18r25, c18r26, c18r27, c18r28, c18r29, c18r31, GA]; try omega))
        | with_reducible refine r_done ?_
        | with_reducible refine hr_done ?_
        | with_reducible refine s_go (by simp (disch := omega) only [hlt', rP, hp, row_m hp, read_row (row_m hp), hm, hq, u1, u3, c18r0, c18r1, c18r2, c18r3, c18r4, c18r5, c18r6, c18r7, c18r8, c18r9, c18r10, c18r11, c18r13, c18r14, c18r15, c18r16, c18r17, c18r18, c18r19, c18r20, c18r21, c18r23, c18r24, c18r25, c18r26, c18r27, c18r28, c18r29, c18r31, EV0, EV1, EV2, EV3, EV4, EV5, EV6, EV7, EV8, VALS, plug, ite_same, decide_true, decide_false, eq_self, ↓reduceIte, reduceCtorEq, Nat.reduceAdd, Nat.reduceEqDiff, Nat.reduceLT, Nat.reduceLeDiff, Nat.reduceMul, Nat.reduceSub, Nat.reduceDiv, Int.reduceToNat, Int.reduceAdd, Int.reduceSub, Int.reduceMul, Int.reduceNeg, Int.reduceEq, Int.reduceLT, Int.reduceLE]; with_reducible rfl) ?_
        | with_reducible refine h_go (by with_unfolding_all rfl) (by simp (disch := omega) only [hlt', rP, hp, row_m hp, read_row (row_m hp), hm, hq, u1, u3, c18r0, c18r1, c18r2, c18r3, c18r4, c18r5, c18r6, c18r7, c18r8, c18r9, c18r10, c18r11, c18r13, c18r14, c18r15, c18r16, c18r17, c18r18, c18r19, c18r20, c18r21, c18r23, c18r24, c18r25, c18r26, c18r27, c18r28, c18r29, c18r31, EV0, EV1, EV2, EV3, EV4, EV5, EV6, EV7, EV8, VALS, plug, ite_same, decide_true, decide_false, eq_self, ↓reduceIte, reduceCtorEq, Nat.reduceAdd, Nat.reduceEqDiff, Nat.reduceLT, Nat.reduceLeDiff, Nat.reduceMul, Nat.reduceSub, Nat.reduceDiv, Int.reduceToNat, Int.reduceAdd, Int.reduceSub, Int.reduceMul, Int.reduceNeg, Int.reduceEq, Int.reduceLT, Int.reduceLE]; with_reducible rfl) ?_
        | ((with_reducible refine chk_r ?_); refine r_callF (by simp only [CA, Nat.reduceEqDiff, ↓reduceIte]; rfl) (by exact rfl) (by simp only [CA, Nat.reduceEqDiff, ↓reduceIte]; rfl) rfl ?_)
        | ((with_reducible refine chk_h ?_); refine hr_callF (by simp only [CA, Nat.reduceEqDiff, ↓reduceIte]; rfl) (by exact rfl) (by simp only [CA, Nat.reduceEqDiff, ↓reduceIte]; rfl) rfl ?_)
        | ((with_reducible refine chk_h ?_); refine hr_app (by simp (disch := omega) only [hlt', rP, hp, row_m hp, read_row (row_m hp), hm, hq, u1, u3, c18r0, c18r1, c18r2, c18r3, c18r4, c18r5, c18r6, c18r7, c18r8, c18r9, c18r10, c18r11, c18r13, c18r14, c18r15, c18r16, c18r17, c18r18, c18r19, c18r20, c18r21, c18r23, c18r24, c18r25, c18r26, c18r27, c18r28, c18r29, c18r31, EV0, EV1, EV2, EV3, EV4, EV5, EV6, EV7, EV8, VALS, plug, ite_same, decide_true, decide_false, eq_self, ↓reduceIte, reduceCtorEq, Nat.reduceAdd, Nat.reduceEqDiff, Nat.reduceLT, Nat.reduceLeDiff, Nat.reduceMul, Nat.reduceSub, Nat.reduceDiv, Int.reduceToNat, Int.reduceAdd, Int.reduceSub, Int.reduceMul, Int.reduceNeg, Int.reduceEq, Int.reduceLT, Int.reduceLE]; with_reducible rfl) rfl ?_)
        | (with_reducible refine k_condP (by simp only [GA, Nat.reduceEqDiff, ↓reduceIte]; rfl) (by first | (simp only [BO]; rfl) | rfl) (fun ht => ?_) (fun ht => ?_) <;> try (first | exact False.elim ht | exact absurd rfl ht | exact absurd trivial ht | exact Bool.noConfusion ht))
        | (with_reducible refine k_ret ?_; repeat with_reducible (first | refine ret_thru ?_ | refine ret_blk ?_ | refine fin ?_))
        | (with_reducible refine k_exit ?_; repeat with_reducible (first | refine thru ?_ | refine out_blk ?_ | refine pass (by decide) ?_))
        | (refine post1 ?_; simp only [GA, Nat.reduceEqDiff, ↓reduceIte])
        | (refine post2 ?_; simp only [GA, Nat.reduceEqDiff, ↓reduceIte])
        | (refine post3 ?_; simp only [GA, Nat.reduceEqDiff, ↓reduceIte])
        | (refine postc (by simp only [GA, Nat.reduceEqDiff, ↓reduceIte]; rfl) (by simp (disch := omega) only [hlt', rP, hp, row_m hp, read_row (row_m hp), hm, hq, u1, u3, c18r0, c18r1, c18r2, c18r3, c18r4, c18r5, c18r6, c18r7, c18r8, c18r9, c18r10, c18r11, c18r13, c18r14, c18r15, c18r16, c18r17, c18r18, c18r19, c18r20, c18r21, c18r23, c18r24, c18r25, c18r26, c18r27, c18r28, c18r29, c18r31, EV0, EV1, EV2, EV3, EV4, EV5, EV6, EV7, EV8, VALS, plug, ite_same, decide_true, decide_false, eq_self, ↓reduceIte, reduceCtorEq, Nat.reduceAdd, Nat.reduceEqDiff, Nat.reduceLT, Nat.reduceLeDiff, Nat.reduceMul, Nat.reduceSub, Nat.reduceDiv, Int.reduceToNat, Int.reduceAdd, Int.reduceSub, Int.reduceMul, Int.reduceNeg, Int.reduceEq, Int.reduceLT, Int.reduceLE]; rfl) ?_)
        | refine post0 ?_
      refine ⟨hlt, ⟨pb, m, q, _, _⟩, (by simp only [Am.keep, List.map_cons, List.map_nil, GA, Nat.reduceEqDiff, ↓reduceIte]; try rfl), n1, n2, n3, by simp (disch := omega) only [hp, c18r0, c18r1, c18r2, c18r3, c18r4, c18r5, c18r6, c18r7, c18r8, c18r9, c18r10, c18r11, c18r13, c18r14, c18r15, c18r16, c18r17, c18r18, c18r19, c18r20, c18r21, c18r23, c18r24, c18r25, c18r26, c18r27, c18r28, c18r29, c18r31, EV0, EV1, EV2, EV3, EV4, EV5, EV6, EV7, EV8, VALS, plug, ite_same, decide_true, decide_false, eq_self, ↓reduceIte, reduceCtorEq, Nat.reduceAdd, Nat.reduceEqDiff, Nat.reduceLT, Nat.reduceLeDiff, Nat.reduceMul, Nat.reduceSub, Nat.reduceDiv, Int.reduceToNat, Int.reduceAdd, Int.reduceSub, Int.reduceMul, Int.reduceNeg, Int.reduceEq, Int.reduceLT, Int.reduceLE], by simp (disch := omega) only [hm, u1, c18r0, c18r1, c18r2, c18r3, c18r4, c18r5, c18r6, c18r7, c18r8, c18r9, c18r10, c18r11, c18r13, c18r14, c18r15, c18r16, c18r17, c18r18, c18r19, c18r20, c18r21, c18r23, c18r24, c18r25, c18r26, c18r27, c18r28, c18r29, c18r31, EV0, EV1, EV2, EV3, EV4, EV5, EV6, EV7, EV8, VALS, plug, ite_same, decide_true, decide_false, eq_self, ↓reduceIte, reduceCtorEq, Nat.reduceAdd, Nat.reduceEqDiff, Nat.reduceLT, Nat.reduceLeDiff, Nat.reduceMul, Nat.reduceSub, Nat.reduceDiv, Int.reduceToNat, Int.reduceAdd, Int.reduceSub, Int.reduceMul, Int.reduceNeg, Int.reduceEq, Int.reduceLT, Int.reduceLE] <;> rfl, MFi.eq u2 fun x => ?_, by simp (disch := omega) only [hq, u3, c18r0, c18r1, c18r2, c18r3, c18r4, c18r5, c18r6, c18r7, c18r8, c18r9, c18r10, c18r11, c18r13, c18r14, c18r15, c18r16, c18r17, c18r18, c18r19, c18r20, c18r21, c18r23, c18r24, c18r25, c18r26, c18r27, c18r28, c18r29, c18r31, EV0, EV1, EV2, EV3, EV4, EV5, EV6, EV7, EV8, VALS, plug, ite_same, decide_true, decide_false, eq_self, ↓reduceIte, reduceCtorEq, Nat.reduceAdd, Nat.reduceEqDiff, Nat.reduceLT, Nat.reduceLeDiff, Nat.reduceMul, Nat.reduceSub, Nat.reduceDiv, Int.reduceToNat, Int.reduceAdd, Int.reduceSub, Int.reduceMul, Int.reduceNeg, Int.reduceEq, Int.reduceLT, Int.reduceLE] <;> rfl, MFi.set_up f2 _ _ fun x => ⟨?_, ?_⟩⟩
      · simp only [prF, prt]
        split <;> rfl
      · rintro ⟨i, hi, e⟩
        by_cases h : i = k
        · subst h; exact .inl e.symm
        · exact .inr ⟨i, by omega, e⟩
      · rintro (e | ⟨i, hi, e⟩)
        · exact ⟨k, by omega, e.symm⟩
        · exact ⟨i, by omega, e⟩
    · obtain rfl : k = M.length := by omega
      have hlt' : ¬ (M.length : Int) < M.length := by omega
      have pair : ∀ x : Nat, fstP M M.length x ↔ ∃ p ∈ M, p.1 = x := fun x => by
        constructor
        · rintro ⟨i, hi, e⟩
          exact ⟨M.getD i (0, 0), by simp [List.getD_eq_getElem?_getD, hi], by omega⟩
        · rintro ⟨p, hp, e⟩
          obtain ⟨i, hi, e2⟩ := mem_getD hp
          exact ⟨i, hi, by rw [e2]; omega⟩
      have lk2 := MFi.set_lk f2
      repeat' first
        | with_reducible refine k_seq ?_
        | with_reducible refine k_skip ?_
        | with_reducible refine k_blkS ?_
        | with_reducible refine k_blkR ?_
        | with_reducible refine k_blkC ?_
        | with_reducible refine k_blkH ?_
        | with_reducible refine k_blkB ?_
        | with_reducible refine k_blkK ?_
        | with_reducible refine k_blkE ?_
        | with_reducible refine k_reg ?_
        | with_reducible refine k_head (by with_unfolding_all rfl) ?_
        | with_reducible refine k_headS ?_
        | (with_reducible refine SepK.mk ?_ ?_; (refine sepQ_P ?_; simp [sepQ, sepG, AOp.late, AOp.free, AOp.xs, AOp.isAl, tokNe, AV.tok, stS_get, strip, AX.val, c18r0, c18r1, c18r2, c18r3, c18r4, c18r5, c18r6, c18r7, c18r8, c18r9, c18r10, c18r11, c18r13, c18r14, c18r15, c18r16, c18r17, c18r18, c18r19, c18r20, c18r21, c18r23, c18r24, c18r25, c18r26, c18r27, c18r28, c18r29, c18r31, GA]; try omega))
        | with_reducible refine r_done ?_
        | with_reducible refine hr_done ?_
        | with_reducible refine s_go (by simp (disch := omega) only [hlt', c18r0, c18r1, c18r2, c18r3, c18r4, c18r5, c18r6, c18r7, c18r8, c18r9, c18r10, c18r11, c18r13, c18r14, c18r15, c18r16, c18r17, c18r18, c18r19, c18r20, c18r21, c18r23, c18r24, c18r25, c18r26, c18r27, c18r28, c18r29, c18r31, EV0, EV1, EV2, EV3, EV4, EV5, EV6, EV7, EV8, VALS, plug, ite_same, decide_true, decide_false, eq_self, ↓reduceIte, reduceCtorEq, Nat.reduceAdd, Nat.reduceEqDiff, Nat.reduceLT, Nat.reduceLeDiff, Nat.reduceMul, Nat.reduceSub, Nat.reduceDiv, Int.reduceToNat, Int.reduceAdd, Int.reduceSub, Int.reduceMul, Int.reduceNeg, Int.reduceEq, Int.reduceLT, Int.reduceLE]; with_reducible rfl) ?_
        | with_reducible refine h_go (by with_unfolding_all rfl) (by simp (disch := omega) only [hlt', c18r0, c18r1, c18r2, c18r3, c18r4, c18r5, c18r6, c18r7, c18r8, c18r9, c18r10, c18r11, c18r13, c18r14, c18r15, c18r16, c18r17, c18r18, c18r19, c18r20, c18r21, c18r23, c18r24, c18r25, c18r26, c18r27, c18r28, c18r29, c18r31, EV0, EV1, EV2, EV3, EV4, EV5, EV6, EV7, EV8, VALS, plug, ite_same, decide_true, decide_false, eq_self, ↓reduceIte, reduceCtorEq, Nat.reduceAdd, Nat.reduceEqDiff, Nat.reduceLT, Nat.reduceLeDiff, Nat.reduceMul, Nat.reduceSub, Nat.reduceDiv, Int.reduceToNat, Int.reduceAdd, Int.reduceSub, Int.reduceMul, Int.reduceNeg, Int.reduceEq, Int.reduceLT, Int.reduceLE]; with_reducible rfl) ?_
        | ((with_reducible refine chk_r ?_); refine r_callF (by simp only [CA, Nat.reduceEqDiff, ↓reduceIte]; rfl) (by exact rfl) (by simp only [CA, Nat.reduceEqDiff, ↓reduceIte]; rfl) rfl ?_)
        | ((with_reducible refine chk_h ?_); refine hr_callF (by simp only [CA, Nat.reduceEqDiff, ↓reduceIte]; rfl) (by exact rfl) (by simp only [CA, Nat.reduceEqDiff, ↓reduceIte]; rfl) rfl ?_)
        | ((with_reducible refine chk_h ?_); refine hr_app (by simp (disch := omega) only [hlt', c18r0, c18r1, c18r2, c18r3, c18r4, c18r5, c18r6, c18r7, c18r8, c18r9, c18r10, c18r11, c18r13, c18r14, c18r15, c18r16, c18r17, c18r18, c18r19, c18r20, c18r21, c18r23, c18r24, c18r25, c18r26, c18r27, c18r28, c18r29, c18r31, EV0, EV1, EV2, EV3, EV4, EV5, EV6, EV7, EV8, VALS, plug, ite_same, decide_true, decide_false, eq_self, ↓reduceIte, reduceCtorEq, Nat.reduceAdd, Nat.reduceEqDiff, Nat.reduceLT, Nat.reduceLeDiff, Nat.reduceMul, Nat.reduceSub, Nat.reduceDiv, Int.reduceToNat, Int.reduceAdd, Int.reduceSub, Int.reduceMul, Int.reduceNeg, Int.reduceEq, Int.reduceLT, Int.reduceLE]; with_reducible rfl) rfl ?_)
        | (with_reducible refine k_condP (by simp only [GA, Nat.reduceEqDiff, ↓reduceIte]; rfl) (by first | (simp only [BO]; rfl) | rfl) (fun ht => ?_) (fun ht => ?_) <;> try (first | exact False.elim ht | exact absurd rfl ht | exact absurd trivial ht | exact Bool.noConfusion ht))
        | (with_reducible refine k_ret ?_; repeat with_reducible (first | refine ret_thru ?_ | refine ret_blk ?_ | refine fin ?_))
        | (with_reducible refine k_exit ?_; repeat with_reducible (first | refine thru ?_ | refine out_blk ?_ | refine pass (by decide) ?_))
        | (refine post1 ?_; simp only [GA, Nat.reduceEqDiff, ↓reduceIte])
        | (refine post2 ?_; simp only [GA, Nat.reduceEqDiff, ↓reduceIte])
        | (refine post3 ?_; simp only [GA, Nat.reduceEqDiff, ↓reduceIte])
        | (refine postc (by simp only [GA, Nat.reduceEqDiff, ↓reduceIte]; rfl) (by simp (disch := omega) only [hlt', c18r0, c18r1, c18r2, c18r3, c18r4, c18r5, c18r6, c18r7, c18r8, c18r9, c18r10, c18r11, c18r13, c18r14, c18r15, c18r16, c18r17, c18r18, c18r19, c18r20, c18r21, c18r23, c18r24, c18r25, c18r26, c18r27, c18r28, c18r29, c18r31, EV0, EV1, EV2, EV3, EV4, EV5, EV6, EV7, EV8, VALS, plug, ite_same, decide_true, decide_false, eq_self, ↓reduceIte, reduceCtorEq, Nat.reduceAdd, Nat.reduceEqDiff, Nat.reduceLT, Nat.reduceLeDiff, Nat.reduceMul, Nat.reduceSub, Nat.reduceDiv, Int.reduceToNat, Int.reduceAdd, Int.reduceSub, Int.reduceMul, Int.reduceNeg, Int.reduceEq, Int.reduceLT, Int.reduceLE]; rfl) ?_)
        | refine post0 ?_
      refine k_blk (k_loopS (X := Nat × Nat × Nat × List Bool) [2, 9, 12, 13, 49, 50, 51] l.length (fun k x => [(2, .pv [vT l] 0), (9, .mp q), (12, .p x.2.1 0), (13, .p x.2.2.1 0), (49, vT l), (50, .i .i64 l.length), (51, .i .i64 (k : Int))])
        (fun k x h => x.1 ≠ 0 ∧ x.2.1 ≠ x.1 ∧ pb ≠ x.1 ∧ m ≠ x.1 ∧ x.2.2.1 ≠ x.1 ∧ q ≠ x.1 ∧ h.m x.2.1 = some (.cells true [.sl x.1 0 l.length 1]) ∧ h.m x.1 = some (.cells true (bl x.2.2.2)) ∧ h.m pb = some (.cells true [.mp m]) ∧ h.m m = some (.map e1) ∧ h.m x.2.2.1 = some (.cells true [.fn 51 [] (caps51 l tol x.2.1 pb x.2.2.1)]) ∧ h.m q = some (.map e2) ∧ Rch l tol M x.2.2.2 k) (_, _, _, List.replicate l.length false) (by simp only [Am.keep, List.map_cons, List.map_nil, GA, Nat.reduceEqDiff, ↓reduceIte]; try rfl) ⟨?_, ?_, ?_, ?_, ?_, ?_, by simp (disch := omega) only [c18r0, c18r1, c18r2, c18r3, c18r4, c18r5, c18r6, c18r7, c18r8, c18r9, c18r10, c18r11, c18r13, c18r14, c18r15, c18r16, c18r17, c18r18, c18r19, c18r20, c18r21, c18r23, c18r24, c18r25, c18r26, c18r27, c18r28, c18r29, c18r31, EV0, EV1, EV2, EV3, EV4, EV5, EV6, EV7, EV8, VALS, plug, ite_same, decide_true, decide_false, eq_self, ↓reduceIte, reduceCtorEq, Nat.reduceAdd, Nat.reduceEqDiff, Nat.reduceLT, Nat.reduceLeDiff, Nat.reduceMul, Nat.reduceSub, Nat.reduceDiv, Int.reduceToNat, Int.reduceAdd, Int.reduceSub, Int.reduceMul, Int.reduceNeg, Int.reduceEq, Int.reduceLT, Int.reduceLE] <;> rfl, by simp (disch := omega) only [bl_rep, c18r0, c18r1, c18r2, c18r3, c18r4, c18r5, c18r6, c18r7, c18r8, c18r9, c18r10, c18r11, c18r13, c18r14, c18r15, c18r16, c18r17, c18r18, c18r19, c18r20, c18r21, c18r23, c18r24, c18r25, c18r26, c18r27, c18r28, c18r29, c18r31, EV0, EV1, EV2, EV3, EV4, EV5, EV6, EV7, EV8, VALS, plug, ite_same, decide_true, decide_false, eq_self, ↓reduceIte, reduceCtorEq, Nat.reduceAdd, Nat.reduceEqDiff, Nat.reduceLT, Nat.reduceLeDiff, Nat.reduceMul, Nat.reduceSub, Nat.reduceDiv, Int.reduceToNat, Int.reduceAdd, Int.reduceSub, Int.reduceMul, Int.reduceNeg, Int.reduceEq, Int.reduceLT, Int.reduceLE] <;> rfl, by simp (disch := omega) only [hp, c18r0, c18r1, c18r2, c18r3, c18r4, c18r5, c18r6, c18r7, c18r8, c18r9, c18r10, c18r11, c18r13, c18r14, c18r15, c18r16, c18r17, c18r18, c18r19, c18r20, c18r21, c18r23, c18r24, c18r25, c18r26, c18r27, c18r28, c18r29, c18r31, EV0, EV1, EV2, EV3, EV4, EV5, EV6, EV7, EV8, VALS, plug, ite_same, decide_true, decide_false, eq_self, ↓reduceIte, reduceCtorEq, Nat.reduceAdd, Nat.reduceEqDiff, Nat.reduceLT, Nat.reduceLeDiff, Nat.reduceMul, Nat.reduceSub, Nat.reduceDiv, Int.reduceToNat, Int.reduceAdd, Int.reduceSub, Int.reduceMul, Int.reduceNeg, Int.reduceEq, Int.reduceLT, Int.reduceLE], by simp (disch := omega) only [hm, c18r0, c18r1, c18r2, c18r3, c18r4, c18r5, c18r6, c18r7, c18r8, c18r9, c18r10, c18r11, c18r13, c18r14, c18r15, c18r16, c18r17, c18r18, c18r19, c18r20, c18r21, c18r23, c18r24, c18r25, c18r26, c18r27, c18r28, c18r29, c18r31, EV0, EV1, EV2, EV3, EV4, EV5, EV6, EV7, EV8, VALS, plug, ite_same, decide_true, decide_false, eq_self, ↓reduceIte, reduceCtorEq, Nat.reduceAdd, Nat.reduceEqDiff, Nat.reduceLT, Nat.reduceLeDiff, Nat.reduceMul, Nat.reduceSub, Nat.reduceDiv, Int.reduceToNat, Int.reduceAdd, Int.reduceSub, Int.reduceMul, Int.reduceNeg, Int.reduceEq, Int.reduceLT, Int.reduceLE], by simp (disch := omega) only [c18r0, c18r1, c18r2, c18r3, c18r4, c18r5, c18r6, c18r7, c18r8, c18r9, c18r10, c18r11, c18r13, c18r14, c18r15, c18r16, c18r17, c18r18, c18r19, c18r20, c18r21, c18r23, c18r24, c18r25, c18r26, c18r27, c18r28, c18r29, c18r31, EV0, EV1, EV2, EV3, EV4, EV5, EV6, EV7, EV8, VALS, plug, ite_same, decide_true, decide_false, eq_self, ↓reduceIte, reduceCtorEq, Nat.reduceAdd, Nat.reduceEqDiff, Nat.reduceLT, Nat.reduceLeDiff, Nat.reduceMul, Nat.reduceSub, Nat.reduceDiv, Int.reduceToNat, Int.reduceAdd, Int.reduceSub, Int.reduceMul, Int.reduceNeg, Int.reduceEq, Int.reduceLT, Int.reduceLE] <;> rfl, by simp (disch := omega) only [hq, c18r0, c18r1, c18r2, c18r3, c18r4, c18r5, c18r6, c18r7, c18r8, c18r9, c18r10, c18r11, c18r13, c18r14, c18r15, c18r16, c18r17, c18r18, c18r19, c18r20, c18r21, c18r23, c18r24, c18r25, c18r26, c18r27, c18r28, c18r29, c18r31, EV0, EV1, EV2, EV3, EV4, EV5, EV6, EV7, EV8, VALS, plug, ite_same, decide_true, decide_false, eq_self, ↓reduceIte, reduceCtorEq, Nat.reduceAdd, Nat.reduceEqDiff, Nat.reduceLT, Nat.reduceLeDiff, Nat.reduceMul, Nat.reduceSub, Nat.reduceDiv, Int.reduceToNat, Int.reduceAdd, Int.reduceSub, Int.reduceMul, Int.reduceNeg, Int.reduceEq, Int.reduceLT, Int.reduceLE], .init⟩ ?_)
      · simp only [AH.bump_nx, AH.set_nx]; omega
      · simp only [AH.bump_nx, AH.set_nx]; omega
      · simp only [AH.bump_nx, AH.set_nx]; omega
      · simp only [AH.bump_nx, AH.set_nx]; omega
      · simp only [AH.bump_nx, AH.set_nx]; omega
      · simp only [AH.bump_nx, AH.set_nx]; omega
      clear hp hm hq lp lm lq ok pos
      rintro k ⟨r, rb, vb, rs⟩ h hk ⟨m1, m2, m3, m4, m5, m6, hb, hr, hp, hm, hc, hq, g⟩ ok pos
      simp only at m1 m2 m3 m4 m5 m6 hb hr hp hm hc hq g ⊢
      have l1 := ok.m hb
      have l2 := ok.m hr
      have l3 := ok.m hp
      have l4 := ok.m hm
      have l5 := ok.m hc
      have l6 := ok.m hq
      have rl := g.rl
      by_cases hlt : k < l.length
      · have hlt' : (k : Int) < l.length := by omega
        have rA := rdT hlt
        have lkk := lk2 (k : Int)
        have gs := sf_get (S := rs) (k := k) (by omega)
        simp only [eT] at rA
        by_cases hs : (l.getD k T0).side = 1
        · by_cases hp1 : fstP M M.length k
          · rw [decide_eq_true hp1] at lkk
            repeat' first
              | with_reducible refine k_seq ?_
              | with_reducible refine k_skip ?_
              | with_reducible refine k_blkS ?_
              | with_reducible refine k_blkR ?_
              | with_reducible refine k_blkC ?_
              | with_reducible refine k_blkH ?_
              | with_reducible refine k_blkB ?_
              | with_reducible refine k_blkK ?_
              | with_reducible refine k_blkE ?_
              | with_reducible refine k_reg ?_
              | with_reducible refine k_head (by with_unfolding_all rfl) ?_
              | with_reducible refine k_headS ?_
              | (with_reducible refine SepK.mk ?_ ?_; (refine sepQ_P ?_; simp [sepQ, sepG, AOp.late, AOp.free, AOp.xs, AOp.isAl, tokNe, AV.tok, stS_get, strip, AX.val, c18r0, c18r1, c18r2, c18r3, c18r4, c18r5, c18r6, c18r7, c18r8, c18r9, c18r10, c18r11, c18r13, c18r14, c18r15, c18r16, c18r17, c18r18, c18r19, c18r20, c18r21, c18r23, c18r24, c18r25, c18r26, c18r27, c18r28, c18r29, c18r31, GA]; try omega))
              | with_reducible refine r_done ?_
              | with_reducible refine hr_done ?_
              | with_reducible refine s_go (by simp (disch := omega) only [hlt', rA, hs, hq, lkk, hb, row_m hb, read_row (row_m hb), hr, row_m hr, read_row (row_m hr), gs, rl, c18r0, c18r1, c18r2, c18r3, c18r4, c18r5, c18r6, c18r7, c18r8, c18r9, c18r10, c18r11, c18r13, c18r14, c18r15, c18r16, c18r17, c18r18, c18r19, c18r20, c18r21, c18r23, c18r24, c18r25, c18r26, c18r27, c18r28, c18r29, c18r31, EV0, EV1, EV2, EV3, EV4, EV5, EV6, EV7, EV8, VALS, plug, ite_same, decide_true, decide_false, eq_self, ↓reduceIte, reduceCtorEq, Nat.reduceAdd, Nat.reduceEqDiff, Nat.reduceLT, Nat.reduceLeDiff, Nat.reduceMul, Nat.reduceSub, Nat.reduceDiv, Int.reduceToNat, Int.reduceAdd, Int.reduceSub, Int.reduceMul, Int.reduceNeg, Int.reduceEq, Int.reduceLT, Int.reduceLE]; with_reducible rfl) ?_
              | with_reducible refine h_go (by with_unfolding_all rfl) (by simp (disch := omega) only [hlt', rA, hs, hq, lkk, hb, row_m hb, read_row (row_m hb), hr, row_m hr, read_row (row_m hr), gs, rl, c18r0, c18r1, c18r2, c18r3, c18r4, c18r5, c18r6, c18r7, c18r8, c18r9, c18r10, c18r11, c18r13, c18r14, c18r15, c18r16, c18r17, c18r18, c18r19, c18r20, c18r21, c18r23, c18r24, c18r25, c18r26, c18r27, c18r28, c18r29, c18r31, EV0, EV1, EV2, EV3, EV4, EV5, EV6, EV7, EV8, VALS, plug, ite_same, decide_true, decide_false, eq_self, ↓reduceIte, reduceCtorEq, Nat.reduceAdd, Nat.reduceEqDiff, Nat.reduceLT, Nat.reduceLeDiff, Nat.reduceMul, Nat.reduceSub, Nat.reduceDiv, Int.reduceToNat, Int.reduceAdd, Int.reduceSub, Int.reduceMul, Int.reduceNeg, Int.reduceEq, Int.reduceLT, Int.reduceLE]; with_reducible rfl) ?_
              | ((with_reducible refine chk_r ?_); refine r_callF (by simp only [CA, Nat.reduceEqDiff, ↓reduceIte]; rfl) (by exact rfl) (by simp only [CA, Nat.reduceEqDiff, ↓reduceIte]; rfl) rfl ?_)
              | ((with_reducible refine chk_h ?_); refine hr_callF (by simp only [CA, Nat.reduceEqDiff, ↓reduceIte]; rfl) (by exact rfl) (by simp only [CA, Nat.reduceEqDiff, ↓reduceIte]; rfl) rfl ?_)
              | ((with_reducible refine chk_h ?_); refine hr_app (by simp (disch := omega) only [hlt', rA, hs, hq, lkk, hb, row_m hb, read_row (row_m hb), hr, row_m hr, read_row (row_m hr), gs, rl, c18r0, c18r1, c18r2, c18r3, c18r4, c18r5, c18r6, c18r7, c18r8, c18r9, c18r10, c18r11, c18r13, c18r14, c18r15, c18r16, c18r17, c18r18, c18r19, c18r20, c18r21, c18r23, c18r24, c18r25, c18r26, c18r27, c18r28, c18r29, c18r31, EV0, EV1, EV2, EV3, EV4, EV5, EV6, EV7, EV8, VALS, plug, ite_same, decide_true, decide_false, eq_self, ↓reduceIte, reduceCtorEq, Nat.reduceAdd, Nat.reduceEqDiff, Nat.reduceLT, Nat.reduceLeDiff, Nat.reduceMul, Nat.reduceSub, Nat.reduceDiv, Int.reduceToNat, Int.reduceAdd, Int.reduceSub, Int.reduceMul, Int.reduceNeg, Int.reduceEq, Int.reduceLT, Int.reduceLE]; with_reducible rfl) rfl ?_)
              | (with_reducible refine k_condP (by simp only [GA, Nat.reduceEqDiff, ↓reduceIte]; rfl) (by first | (simp only [BO]; rfl) | rfl) (fun ht => ?_) (fun ht => ?_) <;> try (first | exact False.elim ht | exact absurd rfl ht | exact absurd trivial ht | exact Bool.noConfusion ht))
              | (with_reducible refine k_ret ?_; repeat with_reducible (first | refine ret_thru ?_ | refine ret_blk ?_ | refine fin ?_))
              | (with_reducible refine k_exit ?_; repeat with_reducible (first | refine thru ?_ | refine out_blk ?_ | refine pass (by decide) ?_))
              | (refine post1 ?_; simp only [GA, Nat.reduceEqDiff, ↓reduceIte])
              | (refine post2 ?_; simp only [GA, Nat.reduceEqDiff, ↓reduceIte])
              | (refine post3 ?_; simp only [GA, Nat.reduceEqDiff, ↓reduceIte])
              | (refine postc (by simp only [GA, Nat.reduceEqDiff, ↓reduceIte]; rfl) (by simp (disch := omega) only [hlt', rA, hs, hq, lkk, hb, row_m hb, read_row (row_m hb), hr, row_m hr, read_row (row_m hr), gs, rl, c18r0, c18r1, c18r2, c18r3, c18r4, c18r5, c18r6, c18r7, c18r8, c18r9, c18r10, c18r11, c18r13, c18r14, c18r15, c18r16, c18r17, c18r18, c18r19, c18r20, c18r21, c18r23, c18r24, c18r25, c18r26, c18r27, c18r28, c18r29, c18r31, EV0, EV1, EV2, EV3, EV4, EV5, EV6, EV7, EV8, VALS, plug, ite_same, decide_true, decide_false, eq_self, ↓reduceIte, reduceCtorEq, Nat.reduceAdd, Nat.reduceEqDiff, Nat.reduceLT, Nat.reduceLeDiff, Nat.reduceMul, Nat.reduceSub, Nat.reduceDiv, Int.reduceToNat, Int.reduceAdd, Int.reduceSub, Int.reduceMul, Int.reduceNeg, Int.reduceEq, Int.reduceLT, Int.reduceLE]; rfl) ?_)
              | refine post0 ?_
            exact ⟨hlt, ⟨r, rb, vb, rs⟩, (by simp only [Am.keep, List.map_cons, List.map_nil, GA, Nat.reduceEqDiff, ↓reduceIte]; try rfl), m1, m2, m3, m4, m5, m6, by simp (disch := omega) only [hb, c18r0, c18r1, c18r2, c18r3, c18r4, c18r5, c18r6, c18r7, c18r8, c18r9, c18r10, c18r11, c18r13, c18r14, c18r15, c18r16, c18r17, c18r18, c18r19, c18r20, c18r21, c18r23, c18r24, c18r25, c18r26, c18r27, c18r28, c18r29, c18r31, EV0, EV1, EV2, EV3, EV4, EV5, EV6, EV7, EV8, VALS, plug, ite_same, decide_true, decide_false, eq_self, ↓reduceIte, reduceCtorEq, Nat.reduceAdd, Nat.reduceEqDiff, Nat.reduceLT, Nat.reduceLeDiff, Nat.reduceMul, Nat.reduceSub, Nat.reduceDiv, Int.reduceToNat, Int.reduceAdd, Int.reduceSub, Int.reduceMul, Int.reduceNeg, Int.reduceEq, Int.reduceLT, Int.reduceLE], by simp (disch := omega) only [hr, c18r0, c18r1, c18r2, c18r3, c18r4, c18r5, c18r6, c18r7, c18r8, c18r9, c18r10, c18r11, c18r13, c18r14, c18r15, c18r16, c18r17, c18r18, c18r19, c18r20, c18r21, c18r23, c18r24, c18r25, c18r26, c18r27, c18r28, c18r29, c18r31, EV0, EV1, EV2, EV3, EV4, EV5, EV6, EV7, EV8, VALS, plug, ite_same, decide_true, decide_false, eq_self, ↓reduceIte, reduceCtorEq, Nat.reduceAdd, Nat.reduceEqDiff, Nat.reduceLT, Nat.reduceLeDiff, Nat.reduceMul, Nat.reduceSub, Nat.reduceDiv, Int.reduceToNat, Int.reduceAdd, Int.reduceSub, Int.reduceMul, Int.reduceNeg, Int.reduceEq, Int.reduceLT, Int.reduceLE], by simp (disch := omega) only [hp, c18r0, c18r1, c18r2, c18r3, c18r4, c18r5, c18r6, c18r7, c18r8, c18r9, c18r10, c18r11, c18r13, c18r14, c18r15, c18r16, c18r17, c18r18, c18r19, c18r20, c18r21, c18r23, c18r24, c18r25, c18r26, c18r27, c18r28, c18r29, c18r31, EV0, EV1, EV2, EV3, EV4, EV5, EV6, EV7, EV8, VALS, plug, ite_same, decide_true, decide_false, eq_self, ↓reduceIte, reduceCtorEq, Nat.reduceAdd, Nat.reduceEqDiff, Nat.reduceLT, Nat.reduceLeDiff, Nat.reduceMul, Nat.reduceSub, Nat.reduceDiv, Int.reduceToNat, Int.reduceAdd, Int.reduceSub, Int.reduceMul, Int.reduceNeg, Int.reduceEq, Int.reduceLT, Int.reduceLE], by simp (disch := omega) only [hm, c18r0, c18r1, c18r2, c18r3, c18r4, c18r5, c18r6, c18r7, c18r8, c18r9, c18r10, c18r11, c18r13, c18r14, c18r15, c18r16, c18r17, c18r18, c18r19, c18r20, c18r21, c18r23, c18r24, c18r25, c18r26, c18r27, c18r28, c18r29, c18r31, EV0, EV1, EV2, EV3, EV4, EV5, EV6, EV7, EV8, VALS, plug, ite_same, decide_true, decide_false, eq_self, ↓reduceIte, reduceCtorEq, Nat.reduceAdd, Nat.reduceEqDiff, Nat.reduceLT, Nat.reduceLeDiff, Nat.reduceMul, Nat.reduceSub, Nat.reduceDiv, Int.reduceToNat, Int.reduceAdd, Int.reduceSub, Int.reduceMul, Int.reduceNeg, Int.reduceEq, Int.reduceLT, Int.reduceLE], by simp (disch := omega) only [hc, c18r0, c18r1, c18r2, c18r3, c18r4, c18r5, c18r6, c18r7, c18r8, c18r9, c18r10, c18r11, c18r13, c18r14, c18r15, c18r16, c18r17, c18r18, c18r19, c18r20, c18r21, c18r23, c18r24, c18r25, c18r26, c18r27, c18r28, c18r29, c18r31, EV0, EV1, EV2, EV3, EV4, EV5, EV6, EV7, EV8, VALS, plug, ite_same, decide_true, decide_false, eq_self, ↓reduceIte, reduceCtorEq, Nat.reduceAdd, Nat.reduceEqDiff, Nat.reduceLT, Nat.reduceLeDiff, Nat.reduceMul, Nat.reduceSub, Nat.reduceDiv, Int.reduceToNat, Int.reduceAdd, Int.reduceSub, Int.reduceMul, Int.reduceNeg, Int.reduceEq, Int.reduceLT, Int.reduceLE], by simp (disch := omega) only [hq, c18r0, c18r1, c18r2, c18r3, c18r4, c18r5, c18r6, c18r7, c18r8, c18r9, c18r10, c18r11, c18r13, c18r14, c18r15, c18r16, c18r17, c18r18, c18r19, c18r20, c18r21, c18r23, c18r24, c18r25, c18r26, c18r27, c18r28, c18r29, c18r31, EV0, EV1, EV2, EV3, EV4, EV5, EV6, EV7, EV8, VALS, plug, ite_same, decide_true, decide_false, eq_self, ↓reduceIte, reduceCtorEq, Nat.reduceAdd, Nat.reduceEqDiff, Nat.reduceLT, Nat.reduceLeDiff, Nat.reduceMul, Nat.reduceSub, Nat.reduceDiv, Int.reduceToNat, Int.reduceAdd, Int.reduceSub, Int.reduceMul, Int.reduceNeg, Int.reduceEq, Int.reduceLT, Int.reduceLE], g.skip (.inr (.inl ((pair k).1 hp1)))⟩
          · rw [decide_eq_false hp1] at lkk
            have np : ∀ p ∈ M, p.1 ≠ k := fun p hp e => hp1 ((pair k).2 ⟨p, hp, e⟩)
            cases hrs : sf rs k with
            | true =>
              rw [hrs] at gs
              repeat' first
                | with_reducible refine k_seq ?_
                | with_reducible refine k_skip ?_
                | with_reducible refine k_blkS ?_
                | with_reducible refine k_blkR ?_
                | with_reducible refine k_blkC ?_
                | with_reducible refine k_blkH ?_
                | with_reducible refine k_blkB ?_
                | with_reducible refine k_blkK ?_
                | with_reducible refine k_blkE ?_
                | with_reducible refine k_reg ?_
                | with_reducible refine k_head (by with_unfolding_all rfl) ?_
                | with_reducible refine k_headS ?_
                | (with_reducible refine SepK.mk ?_ ?_; (refine sepQ_P ?_; simp [sepQ, sepG, AOp.late, AOp.free, AOp.xs, AOp.isAl, tokNe, AV.tok, stS_get, strip, AX.val, c18r0, c18r1, c18r2, c18r3, c18r4, c18r5, c18r6, c18r7, c18r8, c18r9, c18r10, c18r11, c18r13, c18r14, c18r15, c18r16, c18r17, c18r18, c18r19, c18r20, c18r21, c18r23, c18r24, c18r25, c18r26, c18r27, c18r28, c18r29, c18r31, GA]; try omega))
                | with_reducible refine r_done ?_
                | with_reducible refine hr_done ?_
                | with_reducible refine s_go (by simp (disch := omega) only [hlt', rA, hs, hq, lkk, hb, row_m hb, read_row (row_m hb), hr, row_m hr, read_row (row_m hr), gs, rl, c18r0, c18r1, c18r2, c18r3, c18r4, c18r5, c18r6, c18r7, c18r8, c18r9, c18r10, c18r11, c18r13, c18r14, c18r15, c18r16, c18r17, c18r18, c18r19, c18r20, c18r21, c18r23, c18r24, c18r25, c18r26, c18r27, c18r28, c18r29, c18r31, EV0, EV1, EV2, EV3, EV4, EV5, EV6, EV7, EV8, VALS, plug, ite_same, decide_true, decide_false, eq_self, ↓reduceIte, reduceCtorEq, Nat.reduceAdd, Nat.reduceEqDiff, Nat.reduceLT, Nat.reduceLeDiff, Nat.reduceMul, Nat.reduceSub, Nat.reduceDiv, Int.reduceToNat, Int.reduceAdd, Int.reduceSub, Int.reduceMul, Int.reduceNeg, Int.reduceEq, Int.reduceLT, Int.reduceLE]; with_reducible rfl) ?_
                | with_reducible refine h_go (by with_unfolding_all rfl) (by simp (disch := omega) only [hlt', rA, hs, hq, lkk, hb, row_m hb, read_row (row_m hb), hr, row_m hr, read_row (row_m hr), gs, rl, c18r0, c18r1, c18r2, c18r3, c18r4, c18r5, c18r6, c18r7, c18r8, c18r9, c18r10, c18r11, c18r13, c18r14, c18r15, c18r16, c18r17, c18r18, c18r19, c18r20, c18r21, c18r23, c18r24, c18r25, c18r26, c18r27, c18r28, c18r29, c18r31, EV0, EV1, EV2, EV3, EV4, EV5, EV6, EV7, EV8, VALS, plug, ite_same, decide_true, decide_false, eq_self, ↓reduceIte, reduceCtorEq, Nat.reduceAdd, Nat.reduceEqDiff, Nat.reduceLT, Nat.reduceLeDiff, Nat.reduceMul, Nat.reduceSub, Nat.reduceDiv, Int.reduceToNat, Int.reduceAdd, Int.reduceSub, Int.reduceMul, Int.reduceNeg, Int.reduceEq, Int.reduceLT, Int.reduceLE]; with_reducible rfl) ?_
                | ((with_reducible refine chk_r ?_); refine r_callF (by simp only [CA, Nat.reduceEqDiff, ↓reduceIte]; rfl) (by exact rfl) (by simp only [CA, Nat.reduceEqDiff, ↓reduceIte]; rfl) rfl ?_)
                | ((with_reducible refine chk_h ?_); refine hr_callF (by simp only [CA, Nat.reduceEqDiff, ↓reduceIte]; rfl) (by exact rfl) (by simp only [CA, Nat.reduceEqDiff, ↓reduceIte]; rfl) rfl ?_)
                | ((with_reducible refine chk_h ?_); refine hr_app (by simp (disch := omega) only [hlt', rA, hs, hq, lkk, hb, row_m hb, read_row (row_m hb), hr, row_m hr, read_row (row_m hr), gs, rl, c18r0, c18r1, c18r2, c18r3, c18r4, c18r5, c18r6, c18r7, c18r8, c18r9, c18r10, c18r11, c18r13, c18r14, c18r15, c18r16, c18r17, c18r18, c18r19, c18r20, c18r21, c18r23, c18r24, c18r25, c18r26, c18r27, c18r28, c18r29, c18r31, EV0, EV1, EV2, EV3, EV4, EV5, EV6, EV7, EV8, VALS, plug, ite_same, decide_true, decide_false, eq_self, ↓reduceIte, reduceCtorEq, Nat.reduceAdd, Nat.reduceEqDiff, Nat.reduceLT, Nat.reduceLeDiff, Nat.reduceMul, Nat.reduceSub, Nat.reduceDiv, Int.reduceToNat, Int.reduceAdd, Int.reduceSub, Int.reduceMul, Int.reduceNeg, Int.reduceEq, Int.reduceLT, Int.reduceLE]; with_reducible rfl) rfl ?_)
                | (with_reducible refine k_condP (by simp only [GA, Nat.reduceEqDiff, ↓reduceIte]; rfl) (by first | (simp only [BO]; rfl) | rfl) (fun ht => ?_) (fun ht => ?_) <;> try (first | exact False.elim ht | exact absurd rfl ht | exact absurd trivial ht | exact Bool.noConfusion ht))
                | (with_reducible refine k_ret ?_; repeat with_reducible (first | refine ret_thru ?_ | refine ret_blk ?_ | refine fin ?_))
                | (with_reducible refine k_exit ?_; repeat with_reducible (first | refine thru ?_ | refine out_blk ?_ | refine pass (by decide) ?_))
                | (refine post1 ?_; simp only [GA, Nat.reduceEqDiff, ↓reduceIte])
                | (refine post2 ?_; simp only [GA, Nat.reduceEqDiff, ↓reduceIte])
                | (refine post3 ?_; simp only [GA, Nat.reduceEqDiff, ↓reduceIte])
                | (refine postc (by simp only [GA, Nat.reduceEqDiff, ↓reduceIte]; rfl) (by simp (disch := omega) only [hlt', rA, hs, hq, lkk, hb, row_m hb, read_row (row_m hb), hr, row_m hr, read_row (row_m hr), gs, rl, c18r0, c18r1, c18r2, c18r3, c18r4, c18r5, c18r6, c18r7, c18r8, c18r9, c18r10, c18r11, c18r13, c18r14, c18r15, c18r16, c18r17, c18r18, c18r19, c18r20, c18r21, c18r23, c18r24, c18r25, c18r26, c18r27, c18r28, c18r29, c18r31, EV0, EV1, EV2, EV3, EV4, EV5, EV6, EV7, EV8, VALS, plug, ite_same, decide_true, decide_false, eq_self, ↓reduceIte, reduceCtorEq, Nat.reduceAdd, Nat.reduceEqDiff, Nat.reduceLT, Nat.reduceLeDiff, Nat.reduceMul, Nat.reduceSub, Nat.reduceDiv, Int.reduceToNat, Int.reduceAdd, Int.reduceSub, Int.reduceMul, Int.reduceNeg, Int.reduceEq, Int.reduceLT, Int.reduceLE]; rfl) ?_)
                | refine post0 ?_
              exact ⟨hlt, ⟨r, rb, vb, rs⟩, (by simp only [Am.keep, List.map_cons, List.map_nil, GA, Nat.reduceEqDiff, ↓reduceIte]; try rfl), m1, m2, m3, m4, m5, m6, by simp (disch := omega) only [hb, c18r0, c18r1, c18r2, c18r3, c18r4, c18r5, c18r6, c18r7, c18r8, c18r9, c18r10, c18r11, c18r13, c18r14, c18r15, c18r16, c18r17, c18r18, c18r19, c18r20, c18r21, c18r23, c18r24, c18r25, c18r26, c18r27, c18r28, c18r29, c18r31, EV0, EV1, EV2, EV3, EV4, EV5, EV6, EV7, EV8, VALS, plug, ite_same, decide_true, decide_false, eq_self, ↓reduceIte, reduceCtorEq, Nat.reduceAdd, Nat.reduceEqDiff, Nat.reduceLT, Nat.reduceLeDiff, Nat.reduceMul, Nat.reduceSub, Nat.reduceDiv, Int.reduceToNat, Int.reduceAdd, Int.reduceSub, Int.reduceMul, Int.reduceNeg, Int.reduceEq, Int.reduceLT, Int.reduceLE], by simp (disch := omega) only [hr, c18r0, c18r1, c18r2, c18r3, c18r4, c18r5, c18r6, c18r7, c18r8, c18r9, c18r10, c18r11, c18r13, c18r14, c18r15, c18r16, c18r17, c18r18, c18r19, c18r20, c18r21, c18r23, c18r24, c18r25, c18r26, c18r27, c18r28, c18r29, c18r31, EV0, EV1, EV2, EV3, EV4, EV5, EV6, EV7, EV8, VALS, plug, ite_same, decide_true, decide_false, eq_self, ↓reduceIte, reduceCtorEq, Nat.reduceAdd, Nat.reduceEqDiff, Nat.reduceLT, Nat.reduceLeDiff, Nat.reduceMul, Nat.reduceSub, Nat.reduceDiv, Int.reduceToNat, Int.reduceAdd, Int.reduceSub, Int.reduceMul, Int.reduceNeg, Int.reduceEq, Int.reduceLT, Int.reduceLE], by simp (disch := omega) only [hp, c18r0, c18r1, c18r2, c18r3, c18r4, c18r5, c18r6, c18r7, c18r8, c18r9, c18r10, c18r11, c18r13, c18r14, c18r15, c18r16, c18r17, c18r18, c18r19, c18r20, c18r21, c18r23, c18r24, c18r25, c18r26, c18r27, c18r28, c18r29, c18r31, EV0, EV1, EV2, EV3, EV4, EV5, EV6, EV7, EV8, VALS, plug, ite_same, decide_true, decide_false, eq_self, ↓reduceIte, reduceCtorEq, Nat.reduceAdd, Nat.reduceEqDiff, Nat.reduceLT, Nat.reduceLeDiff, Nat.reduceMul, Nat.reduceSub, Nat.reduceDiv, Int.reduceToNat, Int.reduceAdd, Int.reduceSub, Int.reduceMul, Int.reduceNeg, Int.reduceEq, Int.reduceLT, Int.reduceLE], by simp (disch := omega) only [hm, c18r0, c18r1, c18r2, c18r3, c18r4, c18r5, c18r6, c18r7, c18r8, c18r9, c18r10, c18r11, c18r13, c18r14, c18r15, c18r16, c18r17, c18r18, c18r19, c18r20, c18r21, c18r23, c18r24, c18r25, c18r26, c18r27, c18r28, c18r29, c18r31, EV0, EV1, EV2, EV3, EV4, EV5, EV6, EV7, EV8, VALS, plug, ite_same, decide_true, decide_false, eq_self, ↓reduceIte, reduceCtorEq, Nat.reduceAdd, Nat.reduceEqDiff, Nat.reduceLT, Nat.reduceLeDiff, Nat.reduceMul, Nat.reduceSub, Nat.reduceDiv, Int.reduceToNat, Int.reduceAdd, Int.reduceSub, Int.reduceMul, Int.reduceNeg, Int.reduceEq, Int.reduceLT, Int.reduceLE], by simp (disch := omega) only [hc, c18r0, c18r1, c18r2, c18r3, c18r4, c18r5, c18r6, c18r7, c18r8, c18r9, c18r10, c18r11, c18r13, c18r14, c18r15, c18r16, c18r17, c18r18, c18r19, c18r20, c18r21, c18r23, c18r24, c18r25, c18r26, c18r27, c18r28, c18r29, c18r31, EV0, EV1, EV2, EV3, EV4, EV5, EV6, EV7, EV8, VALS, plug, ite_same, decide_true, decide_false, eq_self, ↓reduceIte, reduceCtorEq, Nat.reduceAdd, Nat.reduceEqDiff, Nat.reduceLT, Nat.reduceLeDiff, Nat.reduceMul, Nat.reduceSub, Nat.reduceDiv, Int.reduceToNat, Int.reduceAdd, Int.reduceSub, Int.reduceMul, Int.reduceNeg, Int.reduceEq, Int.reduceLT, Int.reduceLE], by simp (disch := omega) only [hq, c18r0, c18r1, c18r2, c18r3, c18r4, c18r5, c18r6, c18r7, c18r8, c18r9, c18r10, c18r11, c18r13, c18r14, c18r15, c18r16, c18r17, c18r18, c18r19, c18r20, c18r21, c18r23, c18r24, c18r25, c18r26, c18r27, c18r28, c18r29, c18r31, EV0, EV1, EV2, EV3, EV4, EV5, EV6, EV7, EV8, VALS, plug, ite_same, decide_true, decide_false, eq_self, ↓reduceIte, reduceCtorEq, Nat.reduceAdd, Nat.reduceEqDiff, Nat.reduceLT, Nat.reduceLeDiff, Nat.reduceMul, Nat.reduceSub, Nat.reduceDiv, Int.reduceToNat, Int.reduceAdd, Int.reduceSub, Int.reduceMul, Int.reduceNeg, Int.reduceEq, Int.reduceLT, Int.reduceLE], g.skip (.inr (.inr hrs))⟩
            | false =>
              rw [hrs] at gs
              have q51 := fun h => ac51 l hv tol M hM rb r pb m vb e1 f1 m1 m2 m3 m4 m5 _ rs k h rfl (g.free hM hlt hs np hrs)
              repeat' first
                | with_reducible refine k_seq ?_
                | with_reducible refine k_skip ?_
                | with_reducible refine k_blkS ?_
                | with_reducible refine k_blkR ?_
                | with_reducible refine k_blkC ?_
                | with_reducible refine k_blkH ?_
                | with_reducible refine k_blkB ?_
                | with_reducible refine k_blkK ?_
                | with_reducible refine k_blkE ?_
                | with_reducible refine k_reg ?_
                | with_reducible refine k_head (by with_unfolding_all rfl) ?_
                | with_reducible refine k_headS ?_
                | (with_reducible refine SepK.mk ?_ ?_; (refine sepQ_P ?_; simp [sepQ, sepG, AOp.late, AOp.free, AOp.xs, AOp.isAl, tokNe, AV.tok, stS_get, strip, AX.val, c18r0, c18r1, c18r2, c18r3, c18r4, c18r5, c18r6, c18r7, c18r8, c18r9, c18r10, c18r11, c18r13, c18r14, c18r15, c18r16, c18r17, c18r18, c18r19, c18r20, c18r21, c18r23, c18r24, c18r25, c18r26, c18r27, c18r28, c18r29, c18r31, GA]; try omega))
                | with_reducible refine r_done ?_
                | with_reducible refine hr_done ?_
                | with_reducible refine s_go (by simp (disch := omega) only [hlt', rA, hs, hq, lkk, hb, row_m hb, read_row (row_m hb), hr, row_m hr, read_row (row_m hr), hc, row_m hc, read_row (row_m hc), gs, rl, c18r0, c18r1, c18r2, c18r3, c18r4, c18r5, c18r6, c18r7, c18r8, c18r9, c18r10, c18r11, c18r13, c18r14, c18r15, c18r16, c18r17, c18r18, c18r19, c18r20, c18r21, c18r23, c18r24, c18r25, c18r26, c18r27, c18r28, c18r29, c18r31, EV0, EV1, EV2, EV3, EV4, EV5, EV6, EV7, EV8, VALS, plug, ite_same, decide_true, decide_false, eq_self, ↓reduceIte, reduceCtorEq, Nat.reduceAdd, Nat.reduceEqDiff, Nat.reduceLT, Nat.reduceLeDiff, Nat.reduceMul, Nat.reduceSub, Nat.reduceDiv, Int.reduceToNat, Int.reduceAdd, Int.reduceSub, Int.reduceMul, Int.reduceNeg, Int.reduceEq, Int.reduceLT, Int.reduceLE]; with_reducible rfl) ?_
                | with_reducible refine h_go (by with_unfolding_all rfl) (by simp (disch := omega) only [hlt', rA, hs, hq, lkk, hb, row_m hb, read_row (row_m hb), hr, row_m hr, read_row (row_m hr), hc, row_m hc, read_row (row_m hc), gs, rl, c18r0, c18r1, c18r2, c18r3, c18r4, c18r5, c18r6, c18r7, c18r8, c18r9, c18r10, c18r11, c18r13, c18r14, c18r15, c18r16, c18r17, c18r18, c18r19, c18r20, c18r21, c18r23, c18r24, c18r25, c18r26, c18r27, c18r28, c18r29, c18r31, EV0, EV1, EV2, EV3, EV4, EV5, EV6, EV7, EV8, VALS, plug, ite_same, decide_true, decide_false, eq_self, ↓reduceIte, reduceCtorEq, Nat.reduceAdd, Nat.reduceEqDiff, Nat.reduceLT, Nat.reduceLeDiff, Nat.reduceMul, Nat.reduceSub, Nat.reduceDiv, Int.reduceToNat, Int.reduceAdd, Int.reduceSub, Int.reduceMul, Int.reduceNeg, Int.reduceEq, Int.reduceLT, Int.reduceLE]; with_reducible rfl) ?_
                | ((with_reducible refine chk_r ?_); refine r_callF (by simp only [CA, Nat.reduceEqDiff, ↓reduceIte]; rfl) (by exact rfl) (by simp only [CA, Nat.reduceEqDiff, ↓reduceIte]; rfl) rfl ?_)
                | ((with_reducible refine chk_h ?_); refine hr_callF (by simp only [CA, Nat.reduceEqDiff, ↓reduceIte]; rfl) (by exact rfl) (by simp only [CA, Nat.reduceEqDiff, ↓reduceIte]; rfl) rfl ?_)
                | ((with_reducible refine chk_h ?_); refine hr_app (by simp (disch := omega) only [hlt', rA, hs, hq, lkk, hb, row_m hb, read_row (row_m hb), hr, row_m hr, read_row (row_m hr), hc, row_m hc, read_row (row_m hc), gs, rl, c18r0, c18r1, c18r2, c18r3, c18r4, c18r5, c18r6, c18r7, c18r8, c18r9, c18r10, c18r11, c18r13, c18r14, c18r15, c18r16, c18r17, c18r18, c18r19, c18r20, c18r21, c18r23, c18r24, c18r25, c18r26, c18r27, c18r28, c18r29, c18r31, EV0, EV1, EV2, EV3, EV4, EV5, EV6, EV7, EV8, VALS, plug, ite_same, decide_true, decide_false, eq_self, ↓reduceIte, reduceCtorEq, Nat.reduceAdd, Nat.reduceEqDiff, Nat.reduceLT, Nat.reduceLeDiff, Nat.reduceMul, Nat.reduceSub, Nat.reduceDiv, Int.reduceToNat, Int.reduceAdd, Int.reduceSub, Int.reduceMul, Int.reduceNeg, Int.reduceEq, Int.reduceLT, Int.reduceLE]; with_reducible rfl) rfl ?_)
                | ((with_reducible refine chk_r ?_); refine r_callX (by simp only [CA, Nat.reduceEqDiff, ↓reduceIte]; rfl) (by simp only [CA, Nat.reduceEqDiff, ↓reduceIte]; rfl) (by first | exact q51 _ (by simp (disch := omega) only [hb, c18r0, c18r1, c18r2, c18r3, c18r4, c18r5, c18r6, c18r7, c18r8, c18r9, c18r10, c18r11, c18r13, c18r14, c18r15, c18r16, c18r17, c18r18, c18r19, c18r20, c18r21, c18r23, c18r24, c18r25, c18r26, c18r27, c18r28, c18r29, c18r31, EV0, EV1, EV2, EV3, EV4, EV5, EV6, EV7, EV8, VALS, plug, ite_same, decide_true, decide_false, eq_self, ↓reduceIte, reduceCtorEq, Nat.reduceAdd, Nat.reduceEqDiff, Nat.reduceLT, Nat.reduceLeDiff, Nat.reduceMul, Nat.reduceSub, Nat.reduceDiv, Int.reduceToNat, Int.reduceAdd, Int.reduceSub, Int.reduceMul, Int.reduceNeg, Int.reduceEq, Int.reduceLT, Int.reduceLE] <;> rfl) (by simp (disch := omega) only [hr, c18r0, c18r1, c18r2, c18r3, c18r4, c18r5, c18r6, c18r7, c18r8, c18r9, c18r10, c18r11, c18r13, c18r14, c18r15, c18r16, c18r17, c18r18, c18r19, c18r20, c18r21, c18r23, c18r24, c18r25, c18r26, c18r27, c18r28, c18r29, c18r31, EV0, EV1, EV2, EV3, EV4, EV5, EV6, EV7, EV8, VALS, plug, ite_same, decide_true, decide_false, eq_self, ↓reduceIte, reduceCtorEq, Nat.reduceAdd, Nat.reduceEqDiff, Nat.reduceLT, Nat.reduceLeDiff, Nat.reduceMul, Nat.reduceSub, Nat.reduceDiv, Int.reduceToNat, Int.reduceAdd, Int.reduceSub, Int.reduceMul, Int.reduceNeg, Int.reduceEq, Int.reduceLT, Int.reduceLE] <;> rfl) (by simp (disch := omega) only [hp, c18r0, c18r1, c18r2, c18r3, c18r4, c18r5, c18r6, c18r7, c18r8, c18r9, c18r10, c18r11, c18r13, c18r14, c18r15, c18r16, c18r17, c18r18, c18r19, c18r20, c18r21, c18r23, c18r24, c18r25, c18r26, c18r27, c18r28, c18r29, c18r31, EV0, EV1, EV2, EV3, EV4, EV5, EV6, EV7, EV8, VALS, plug, ite_same, decide_true, decide_false, eq_self, ↓reduceIte, reduceCtorEq, Nat.reduceAdd, Nat.reduceEqDiff, Nat.reduceLT, Nat.reduceLeDiff, Nat.reduceMul, Nat.reduceSub, Nat.reduceDiv, Int.reduceToNat, Int.reduceAdd, Int.reduceSub, Int.reduceMul, Int.reduceNeg, Int.reduceEq, Int.reduceLT, Int.reduceLE] <;> rfl) (by simp (disch := omega) only [hm, c18r0, c18r1, c18r2, c18r3, c18r4, c18r5, c18r6, c18r7, c18r8, c18r9, c18r10, c18r11, c18r13, c18r14, c18r15, c18r16, c18r17, c18r18, c18r19, c18r20, c18r21, c18r23, c18r24, c18r25, c18r26, c18r27, c18r28, c18r29, c18r31, EV0, EV1, EV2, EV3, EV4, EV5, EV6, EV7, EV8, VALS, plug, ite_same, decide_true, decide_false, eq_self, ↓reduceIte, reduceCtorEq, Nat.reduceAdd, Nat.reduceEqDiff, Nat.reduceLT, Nat.reduceLeDiff, Nat.reduceMul, Nat.reduceSub, Nat.reduceDiv, Int.reduceToNat, Int.reduceAdd, Int.reduceSub, Int.reduceMul, Int.reduceNeg, Int.reduceEq, Int.reduceLT, Int.reduceLE] <;> rfl) (by simp (disch := omega) only [hc, c18r0, c18r1, c18r2, c18r3, c18r4, c18r5, c18r6, c18r7, c18r8, c18r9, c18r10, c18r11, c18r13, c18r14, c18r15, c18r16, c18r17, c18r18, c18r19, c18r20, c18r21, c18r23, c18r24, c18r25, c18r26, c18r27, c18r28, c18r29, c18r31, EV0, EV1, EV2, EV3, EV4, EV5, EV6, EV7, EV8, VALS, plug, ite_same, decide_true, decide_false, eq_self, ↓reduceIte, reduceCtorEq, Nat.reduceAdd, Nat.reduceEqDiff, Nat.reduceLT, Nat.reduceLeDiff, Nat.reduceMul, Nat.reduceSub, Nat.reduceDiv, Int.reduceToNat, Int.reduceAdd, Int.reduceSub, Int.reduceMul, Int.reduceNeg, Int.reduceEq, Int.reduceLT, Int.reduceLE] <;> rfl)) rfl ?_)
                | (with_reducible refine k_condP (by simp only [GA, Nat.reduceEqDiff, ↓reduceIte]; rfl) (by first | (simp only [BO]; rfl) | rfl) (fun ht => ?_) (fun ht => ?_) <;> try (first | exact False.elim ht | exact absurd rfl ht | exact absurd trivial ht | exact Bool.noConfusion ht))
                | (with_reducible refine k_ret ?_; repeat with_reducible (first | refine ret_thru ?_ | refine ret_blk ?_ | refine fin ?_))
                | (with_reducible refine k_exit ?_; repeat with_reducible (first | refine thru ?_ | refine out_blk ?_ | refine pass (by decide) ?_))
                | (refine post1 ?_; simp only [GA, Nat.reduceEqDiff, ↓reduceIte])
                | (refine post2 ?_; simp only [GA, Nat.reduceEqDiff, ↓reduceIte])
                | (refine post3 ?_; simp only [GA, Nat.reduceEqDiff, ↓reduceIte])
                | (refine postc (by simp only [GA, Nat.reduceEqDiff, ↓reduceIte]; rfl) (by simp (disch := omega) only [hlt', rA, hs, hq, lkk, hb, row_m hb, read_row (row_m hb), hr, row_m hr, read_row (row_m hr), hc, row_m hc, read_row (row_m hc), gs, rl, c18r0, c18r1, c18r2, c18r3, c18r4, c18r5, c18r6, c18r7, c18r8, c18r9, c18r10, c18r11, c18r13, c18r14, c18r15, c18r16, c18r17, c18r18, c18r19, c18r20, c18r21, c18r23, c18r24, c18r25, c18r26, c18r27, c18r28, c18r29, c18r31, EV0, EV1, EV2, EV3, EV4, EV5, EV6, EV7, EV8, VALS, plug, ite_same, decide_true, decide_false, eq_self, ↓reduceIte, reduceCtorEq, Nat.reduceAdd, Nat.reduceEqDiff, Nat.reduceLT, Nat.reduceLeDiff, Nat.reduceMul, Nat.reduceSub, Nat.reduceDiv, Int.reduceToNat, Int.reduceAdd, Int.reduceSub, Int.reduceMul, Int.reduceNeg, Int.reduceEq, Int.reduceLT, Int.reduceLE]; rfl) ?_)
                | refine post0 ?_
              rintro rr h' ⟨rfl, r2, v, h2, F2⟩
              have b1 := F2 rb _ m2 (by simp (disch := omega) only [hb, c18r0, c18r1, c18r2, c18r3, c18r4, c18r5, c18r6, c18r7, c18r8, c18r9, c18r10, c18r11, c18r13, c18r14, c18r15, c18r16, c18r17, c18r18, c18r19, c18r20, c18r21, c18r23, c18r24, c18r25, c18r26, c18r27, c18r28, c18r29, c18r31, EV0, EV1, EV2, EV3, EV4, EV5, EV6, EV7, EV8, VALS, plug, ite_same, decide_true, decide_false, eq_self, ↓reduceIte, reduceCtorEq, Nat.reduceAdd, Nat.reduceEqDiff, Nat.reduceLT, Nat.reduceLeDiff, Nat.reduceMul, Nat.reduceSub, Nat.reduceDiv, Int.reduceToNat, Int.reduceAdd, Int.reduceSub, Int.reduceMul, Int.reduceNeg, Int.reduceEq, Int.reduceLT, Int.reduceLE] <;> rfl)
              have b2 := F2 pb _ m3 (by simp (disch := omega) only [hp, c18r0, c18r1, c18r2, c18r3, c18r4, c18r5, c18r6, c18r7, c18r8, c18r9, c18r10, c18r11, c18r13, c18r14, c18r15, c18r16, c18r17, c18r18, c18r19, c18r20, c18r21, c18r23, c18r24, c18r25, c18r26, c18r27, c18r28, c18r29, c18r31, EV0, EV1, EV2, EV3, EV4, EV5, EV6, EV7, EV8, VALS, plug, ite_same, decide_true, decide_false, eq_self, ↓reduceIte, reduceCtorEq, Nat.reduceAdd, Nat.reduceEqDiff, Nat.reduceLT, Nat.reduceLeDiff, Nat.reduceMul, Nat.reduceSub, Nat.reduceDiv, Int.reduceToNat, Int.reduceAdd, Int.reduceSub, Int.reduceMul, Int.reduceNeg, Int.reduceEq, Int.reduceLT, Int.reduceLE] <;> rfl)
              have b3 := F2 m _ m4 (by simp (disch := omega) only [hm, c18r0, c18r1, c18r2, c18r3, c18r4, c18r5, c18r6, c18r7, c18r8, c18r9, c18r10, c18r11, c18r13, c18r14, c18r15, c18r16, c18r17, c18r18, c18r19, c18r20, c18r21, c18r23, c18r24, c18r25, c18r26, c18r27, c18r28, c18r29, c18r31, EV0, EV1, EV2, EV3, EV4, EV5, EV6, EV7, EV8, VALS, plug, ite_same, decide_true, decide_false, eq_self, ↓reduceIte, reduceCtorEq, Nat.reduceAdd, Nat.reduceEqDiff, Nat.reduceLT, Nat.reduceLeDiff, Nat.reduceMul, Nat.reduceSub, Nat.reduceDiv, Int.reduceToNat, Int.reduceAdd, Int.reduceSub, Int.reduceMul, Int.reduceNeg, Int.reduceEq, Int.reduceLT, Int.reduceLE] <;> rfl)
              have b4 := F2 vb _ m5 (by simp (disch := omega) only [hc, c18r0, c18r1, c18r2, c18r3, c18r4, c18r5, c18r6, c18r7, c18r8, c18r9, c18r10, c18r11, c18r13, c18r14, c18r15, c18r16, c18r17, c18r18, c18r19, c18r20, c18r21, c18r23, c18r24, c18r25, c18r26, c18r27, c18r28, c18r29, c18r31, EV0, EV1, EV2, EV3, EV4, EV5, EV6, EV7, EV8, VALS, plug, ite_same, decide_true, decide_false, eq_self, ↓reduceIte, reduceCtorEq, Nat.reduceAdd, Nat.reduceEqDiff, Nat.reduceLT, Nat.reduceLeDiff, Nat.reduceMul, Nat.reduceSub, Nat.reduceDiv, Int.reduceToNat, Int.reduceAdd, Int.reduceSub, Int.reduceMul, Int.reduceNeg, Int.reduceEq, Int.reduceLT, Int.reduceLE] <;> rfl)
              have b5 := F2 q _ m6 (by simp (disch := omega) only [hq, c18r0, c18r1, c18r2, c18r3, c18r4, c18r5, c18r6, c18r7, c18r8, c18r9, c18r10, c18r11, c18r13, c18r14, c18r15, c18r16, c18r17, c18r18, c18r19, c18r20, c18r21, c18r23, c18r24, c18r25, c18r26, c18r27, c18r28, c18r29, c18r31, EV0, EV1, EV2, EV3, EV4, EV5, EV6, EV7, EV8, VALS, plug, ite_same, decide_true, decide_false, eq_self, ↓reduceIte, reduceCtorEq, Nat.reduceAdd, Nat.reduceEqDiff, Nat.reduceLT, Nat.reduceLeDiff, Nat.reduceMul, Nat.reduceSub, Nat.reduceDiv, Int.reduceToNat, Int.reduceAdd, Int.reduceSub, Int.reduceMul, Int.reduceNeg, Int.reduceEq, Int.reduceLT, Int.reduceLE] <;> rfl)
              repeat' first
                | with_reducible refine k_seq ?_
                | with_reducible refine k_skip ?_
                | with_reducible refine k_blkS ?_
                | with_reducible refine k_blkR ?_
                | with_reducible refine k_blkC ?_
                | with_reducible refine k_blkH ?_
                | with_reducible refine k_blkB ?_
                | with_reducible refine k_blkK ?_
                | with_reducible refine k_blkE ?_
                | with_reducible refine k_reg ?_
                | with_reducible refine k_head (by with_unfolding_all rfl) ?_
                | with_reducible refine k_headS ?_
                | (with_reducible refine SepK.mk ?_ ?_; (refine sepQ_P ?_; simp [sepQ, sepG, AOp.late, AOp.free, AOp.xs, AOp.isAl, tokNe, AV.tok, stS_get, strip, AX.val, c18r0, c18r1, c18r2, c18r3, c18r4, c18r5, c18r6, c18r7, c18r8, c18r9, c18r10, c18r11, c18r13, c18r14, c18r15, c18r16, c18r17, c18r18, c18r19, c18r20, c18r21, c18r23, c18r24, c18r25, c18r26, c18r27, c18r28, c18r29, c18r31, GA]; try omega))
                | with_reducible refine r_done ?_
                | with_reducible refine hr_done ?_
                | with_reducible refine s_go (by simp (disch := omega) only [c18r0, c18r1, c18r2, c18r3, c18r4, c18r5, c18r6, c18r7, c18r8, c18r9, c18r10, c18r11, c18r13, c18r14, c18r15, c18r16, c18r17, c18r18, c18r19, c18r20, c18r21, c18r23, c18r24, c18r25, c18r26, c18r27, c18r28, c18r29, c18r31, EV0, EV1, EV2, EV3, EV4, EV5, EV6, EV7, EV8, VALS, plug, ite_same, decide_true, decide_false, eq_self, ↓reduceIte, reduceCtorEq, Nat.reduceAdd, Nat.reduceEqDiff, Nat.reduceLT, Nat.reduceLeDiff, Nat.reduceMul, Nat.reduceSub, Nat.reduceDiv, Int.reduceToNat, Int.reduceAdd, Int.reduceSub, Int.reduceMul, Int.reduceNeg, Int.reduceEq, Int.reduceLT, Int.reduceLE]; with_reducible rfl) ?_
                | with_reducible refine h_go (by with_unfolding_all rfl) (by simp (disch := omega) only [c18r0, c18r1, c18r2, c18r3, c18r4, c18r5, c18r6, c18r7, c18r8, c18r9, c18r10, c18r11, c18r13, c18r14, c18r15, c18r16, c18r17, c18r18, c18r19, c18r20, c18r21, c18r23, c18r24, c18r25, c18r26, c18r27, c18r28, c18r29, c18r31, EV0, EV1, EV2, EV3, EV4, EV5, EV6, EV7, EV8, VALS, plug, ite_same, decide_true, decide_false, eq_self, ↓reduceIte, reduceCtorEq, Nat.reduceAdd, Nat.reduceEqDiff, Nat.reduceLT, Nat.reduceLeDiff, Nat.reduceMul, Nat.reduceSub, Nat.reduceDiv, Int.reduceToNat, Int.reduceAdd, Int.reduceSub, Int.reduceMul, Int.reduceNeg, Int.reduceEq, Int.reduceLT, Int.reduceLE]; with_reducible rfl) ?_
                | ((with_reducible refine chk_r ?_); refine r_callF (by simp only [CA, Nat.reduceEqDiff, ↓reduceIte]; rfl) (by exact rfl) (by simp only [CA, Nat.reduceEqDiff, ↓reduceIte]; rfl) rfl ?_)
                | ((with_reducible refine chk_h ?_); refine hr_callF (by simp only [CA, Nat.reduceEqDiff, ↓reduceIte]; rfl) (by exact rfl) (by simp only [CA, Nat.reduceEqDiff, ↓reduceIte]; rfl) rfl ?_)
                | ((with_reducible refine chk_h ?_); refine hr_app (by simp (disch := omega) only [c18r0, c18r1, c18r2, c18r3, c18r4, c18r5, c18r6, c18r7, c18r8, c18r9, c18r10, c18r11, c18r13, c18r14, c18r15, c18r16, c18r17, c18r18, c18r19, c18r20, c18r21, c18r23, c18r24, c18r25, c18r26, c18r27, c18r28, c18r29, c18r31, EV0, EV1, EV2, EV3, EV4, EV5, EV6, EV7, EV8, VALS, plug, ite_same, decide_true, decide_false, eq_self, ↓reduceIte, reduceCtorEq, Nat.reduceAdd, Nat.reduceEqDiff, Nat.reduceLT, Nat.reduceLeDiff, Nat.reduceMul, Nat.reduceSub, Nat.reduceDiv, Int.reduceToNat, Int.reduceAdd, Int.reduceSub, Int.reduceMul, Int.reduceNeg, Int.reduceEq, Int.reduceLT, Int.reduceLE]; with_reducible rfl) rfl ?_)
                | (with_reducible refine k_condP (by simp only [GA, Nat.reduceEqDiff, ↓reduceIte]; rfl) (by first | (simp only [BO]; rfl) | rfl) (fun ht => ?_) (fun ht => ?_) <;> try (first | exact False.elim ht | exact absurd rfl ht | exact absurd trivial ht | exact Bool.noConfusion ht))
                | (with_reducible refine k_ret ?_; repeat with_reducible (first | refine ret_thru ?_ | refine ret_blk ?_ | refine fin ?_))
                | (with_reducible refine k_exit ?_; repeat with_reducible (first | refine thru ?_ | refine out_blk ?_ | refine pass (by decide) ?_))
                | (refine post1 ?_; simp only [GA, Nat.reduceEqDiff, ↓reduceIte])
                | (refine post2 ?_; simp only [GA, Nat.reduceEqDiff, ↓reduceIte])
                | (refine post3 ?_; simp only [GA, Nat.reduceEqDiff, ↓reduceIte])
                | (refine postc (by simp only [GA, Nat.reduceEqDiff, ↓reduceIte]; rfl) (by simp (disch := omega) only [c18r0, c18r1, c18r2, c18r3, c18r4, c18r5, c18r6, c18r7, c18r8, c18r9, c18r10, c18r11, c18r13, c18r14, c18r15, c18r16, c18r17, c18r18, c18r19, c18r20, c18r21, c18r23, c18r24, c18r25, c18r26, c18r27, c18r28, c18r29, c18r31, EV0, EV1, EV2, EV3, EV4, EV5, EV6, EV7, EV8, VALS, plug, ite_same, decide_true, decide_false, eq_self, ↓reduceIte, reduceCtorEq, Nat.reduceAdd, Nat.reduceEqDiff, Nat.reduceLT, Nat.reduceLeDiff, Nat.reduceMul, Nat.reduceSub, Nat.reduceDiv, Int.reduceToNat, Int.reduceAdd, Int.reduceSub, Int.reduceMul, Int.reduceNeg, Int.reduceEq, Int.reduceLT, Int.reduceLE]; rfl) ?_)
                | refine post0 ?_
              exact ⟨hlt, ⟨r, rb, vb, r2⟩, (by simp only [Am.keep, List.map_cons, List.map_nil, GA, Nat.reduceEqDiff, ↓reduceIte]; try rfl), m1, m2, m3, m4, m5, m6, by simp (disch := omega) only [b1, c18r0, c18r1, c18r2, c18r3, c18r4, c18r5, c18r6, c18r7, c18r8, c18r9, c18r10, c18r11, c18r13, c18r14, c18r15, c18r16, c18r17, c18r18, c18r19, c18r20, c18r21, c18r23, c18r24, c18r25, c18r26, c18r27, c18r28, c18r29, c18r31, EV0, EV1, EV2, EV3, EV4, EV5, EV6, EV7, EV8, VALS, plug, ite_same, decide_true, decide_false, eq_self, ↓reduceIte, reduceCtorEq, Nat.reduceAdd, Nat.reduceEqDiff, Nat.reduceLT, Nat.reduceLeDiff, Nat.reduceMul, Nat.reduceSub, Nat.reduceDiv, Int.reduceToNat, Int.reduceAdd, Int.reduceSub, Int.reduceMul, Int.reduceNeg, Int.reduceEq, Int.reduceLT, Int.reduceLE], by simp (disch := omega) only [h2, c18r0, c18r1, c18r2, c18r3, c18r4, c18r5, c18r6, c18r7, c18r8, c18r9, c18r10, c18r11, c18r13, c18r14, c18r15, c18r16, c18r17, c18r18, c18r19, c18r20, c18r21, c18r23, c18r24, c18r25, c18r26, c18r27, c18r28, c18r29, c18r31, EV0, EV1, EV2, EV3, EV4, EV5, EV6, EV7, EV8, VALS, plug, ite_same, decide_true, decide_false, eq_self, ↓reduceIte, reduceCtorEq, Nat.reduceAdd, Nat.reduceEqDiff, Nat.reduceLT, Nat.reduceLeDiff, Nat.reduceMul, Nat.reduceSub, Nat.reduceDiv, Int.reduceToNat, Int.reduceAdd, Int.reduceSub, Int.reduceMul, Int.reduceNeg, Int.reduceEq, Int.reduceLT, Int.reduceLE], by simp (disch := omega) only [b2, c18r0, c18r1, c18r2, c18r3, c18r4, c18r5, c18r6, c18r7, c18r8, c18r9, c18r10, c18r11, c18r13, c18r14, c18r15, c18r16, c18r17, c18r18, c18r19, c18r20, c18r21, c18r23, c18r24, c18r25, c18r26, c18r27, c18r28, c18r29, c18r31, EV0, EV1, EV2, EV3, EV4, EV5, EV6, EV7, EV8, VALS, plug, ite_same, decide_true, decide_false, eq_self, ↓reduceIte, reduceCtorEq, Nat.reduceAdd, Nat.reduceEqDiff, Nat.reduceLT, Nat.reduceLeDiff, Nat.reduceMul, Nat.reduceSub, Nat.reduceDiv, Int.reduceToNat, Int.reduceAdd, Int.reduceSub, Int.reduceMul, Int.reduceNeg, Int.reduceEq, Int.reduceLT, Int.reduceLE], by simp (disch := omega) only [b3, c18r0, c18r1, c18r2, c18r3, c18r4, c18r5, c18r6, c18r7, c18r8, c18r9, c18r10, c18r11, c18r13, c18r14, c18r15, c18r16, c18r17, c18r18, c18r19, c18r20, c18r21, c18r23, c18r24, c18r25, c18r26, c18r27, c18r28, c18r29, c18r31, EV0, EV1, EV2, EV3, EV4, EV5, EV6, EV7, EV8, VALS, plug, ite_same, decide_true, decide_false, eq_self, ↓reduceIte, reduceCtorEq, Nat.reduceAdd, Nat.reduceEqDiff, Nat.reduceLT, Nat.reduceLeDiff, Nat.reduceMul, Nat.reduceSub, Nat.reduceDiv, Int.reduceToNat, Int.reduceAdd, Int.reduceSub, Int.reduceMul, Int.reduceNeg, Int.reduceEq, Int.reduceLT, Int.reduceLE], by simp (disch := omega) only [b4, c18r0, c18r1, c18r2, c18r3, c18r4, c18r5, c18r6, c18r7, c18r8, c18r9, c18r10, c18r11, c18r13, c18r14, c18r15, c18r16, c18r17, c18r18, c18r19, c18r20, c18r21, c18r23, c18r24, c18r25, c18r26, c18r27, c18r28, c18r29, c18r31, EV0, EV1, EV2, EV3, EV4, EV5, EV6, EV7, EV8, VALS, plug, ite_same, decide_true, decide_false, eq_self, ↓reduceIte, reduceCtorEq, Nat.reduceAdd, Nat.reduceEqDiff, Nat.reduceLT, Nat.reduceLeDiff, Nat.reduceMul, Nat.reduceSub, Nat.reduceDiv, Int.reduceToNat, Int.reduceAdd, Int.reduceSub, Int.reduceMul, Int.reduceNeg, Int.reduceEq, Int.reduceLT, Int.reduceLE], by simp (disch := omega) only [b5, c18r0, c18r1, c18r2, c18r3, c18r4, c18r5, c18r6, c18r7, c18r8, c18r9, c18r10, c18r11, c18r13, c18r14, c18r15, c18r16, c18r17, c18r18, c18r19, c18r20, c18r21, c18r23, c18r24, c18r25, c18r26, c18r27, c18r28, c18r29, c18r31, EV0, EV1, EV2, EV3, EV4, EV5, EV6, EV7, EV8, VALS, plug, ite_same, decide_true, decide_false, eq_self, ↓reduceIte, reduceCtorEq, Nat.reduceAdd, Nat.reduceEqDiff, Nat.reduceLT, Nat.reduceLeDiff, Nat.reduceMul, Nat.reduceSub, Nat.reduceDiv, Int.reduceToNat, Int.reduceAdd, Int.reduceSub, Int.reduceMul, Int.reduceNeg, Int.reduceEq, Int.reduceLT, Int.reduceLE], g.go np v⟩
        · repeat' first
            | with_reducible refine k_seq ?_
            | with_reducible refine k_skip ?_
            | with_reducible refine k_blkS ?_
            | with_reducible refine k_blkR ?_
            | with_reducible refine k_blkC ?_
            | with_reducible refine k_blkH ?_
            | with_reducible refine k_blkB ?_
            | with_reducible refine k_blkK ?_
            | with_reducible refine k_blkE ?_
            | with_reducible refine k_reg ?_
            | with_reducible refine k_head (by with_unfolding_all rfl) ?_
            | with_reducible refine k_headS ?_
            | (with_reducible refine SepK.mk ?_ ?_; (refine sepQ_P ?_; simp [sepQ, sepG, AOp.late, AOp.free, AOp.xs, AOp.isAl, tokNe, AV.tok, stS_get, strip, AX.val, c18r0, c18r1, c18r2, c18r3, c18r4, c18r5, c18r6, c18r7, c18r8, c18r9, c18r10, c18r11, c18r13, c18r14, c18r15, c18r16, c18r17, c18r18, c18r19, c18r20, c18r21, c18r23, c18r24, c18r25, c18r26, c18r27, c18r28, c18r29, c18r31, GA]; try omega))
            | with_reducible refine r_done ?_
            | with_reducible refine hr_done ?_
            | with_reducible refine s_go (by simp (disch := omega) only [hlt', rA, hs, hq, lkk, hb, row_m hb, read_row (row_m hb), hr, row_m hr, read_row (row_m hr), gs, rl, c18r0, c18r1, c18r2, c18r3, c18r4, c18r5, c18r6, c18r7, c18r8, c18r9, c18r10, c18r11, c18r13, c18r14, c18r15, c18r16, c18r17, c18r18, c18r19, c18r20, c18r21, c18r23, c18r24, c18r25, c18r26, c18r27, c18r28, c18r29, c18r31, EV0, EV1, EV2, EV3, EV4, EV5, EV6, EV7, EV8, VALS, plug, ite_same, decide_true, decide_false, eq_self, ↓reduceIte, reduceCtorEq, Nat.reduceAdd, Nat.reduceEqDiff, Nat.reduceLT, Nat.reduceLeDiff, Nat.reduceMul, Nat.reduceSub, Nat.reduceDiv, Int.reduceToNat, Int.reduceAdd, Int.reduceSub, Int.reduceMul, Int.reduceNeg, Int.reduceEq, Int.reduceLT, Int.reduceLE]; with_reducible rfl) ?_
            | with_reducible refine h_go (by with_unfolding_all rfl) (by simp (disch := omega) only [hlt', rA, hs, hq, lkk, hb, row_m hb, read_row (row_m hb), hr, row_m hr, read_row (row_m hr), gs, rl, c18r0, c18r1, c18r2, c18r3, c18r4, c18r5, c18r6, c18r7, c18r8, c18r9, c18r10, c18r11, c18r13, c18r14, c18r15, c18r16, c18r17, c18r18, c18r19, c18r20, c18r21, c18r23, c18r24, c18r25, c18r26, c18r27, c18r28, c18r29, c18r31, EV0, EV1, EV2, EV3, EV4, EV5, EV6, EV7, EV8, VALS, plug, ite_same, decide_true, decide_false, eq_self, ↓reduceIte, reduceCtorEq, Nat.reduceAdd, Nat.reduceEqDiff, Nat.reduceLT, Nat.reduceLeDiff, Nat.reduceMul, Nat.reduceSub, Nat.reduceDiv, Int.reduceToNat, Int.reduceAdd, Int.reduceSub, Int.reduceMul, Int.reduceNeg, Int.reduceEq, Int.reduceLT, Int.reduceLE]; with_reducible rfl) ?_
            | ((with_reducible refine chk_r ?_); refine r_callF (by simp only [CA, Nat.reduceEqDiff, ↓reduceIte]; rfl) (by exact rfl) (by simp only [CA, Nat.reduceEqDiff, ↓reduceIte]; rfl) rfl ?_)
            | ((with_reducible refine chk_h ?_); refine hr_callF (by simp only [CA, Nat.reduceEqDiff, ↓reduceIte]; rfl) (by exact rfl) (by simp only [CA, Nat.reduceEqDiff, ↓reduceIte]; rfl) rfl ?_)
            | ((with_reducible refine chk_h ?_); refine hr_app (by simp (disch := omega) only [hlt', rA, hs, hq, lkk, hb, row_m hb, read_row (row_m hb), hr, row_m hr, read_row (row_m hr), gs, rl, c18r0, c18r1, c18r2, c18r3, c18r4, c18r5, c18r6, c18r7, c18r8, c18r9, c18r10, c18r11, c18r13, c18r14, c18r15, c18r16, c18r17, c18r18, c18r19, c18r20, c18r21, c18r23, c18r24, c18r25, c18r26, c18r27, c18r28, c18r29, c18r31, EV0, EV1, EV2, EV3, EV4, EV5, EV6, EV7, EV8, VALS, plug, ite_same, decide_true, decide_false, eq_self, ↓reduceIte, reduceCtorEq, Nat.reduceAdd, Nat.reduceEqDiff, Nat.reduceLT, Nat.reduceLeDiff, Nat.reduceMul, Nat.reduceSub, Nat.reduceDiv, Int.reduceToNat, Int.reduceAdd, Int.reduceSub, Int.reduceMul, Int.reduceNeg, Int.reduceEq, Int.reduceLT, Int.reduceLE]; with_reducible rfl) rfl ?_)
            | (with_reducible refine k_condP (by simp only [GA, Nat.reduceEqDiff, ↓reduceIte]; rfl) (by first | (simp only [BO]; rfl) | rfl) (fun ht => ?_) (fun ht => ?_) <;> try (first | exact False.elim ht | exact absurd rfl ht | exact absurd trivial ht | exact Bool.noConfusion ht))
            | (with_reducible refine k_ret ?_; repeat with_reducible (first | refine ret_thru ?_ | refine ret_blk ?_ | refine fin ?_))
            | (with_reducible refine k_exit ?_; repeat with_reducible (first | refine thru ?_ | refine out_blk ?_ | refine pass (by decide) ?_))
            | (refine post1 ?_; simp only [GA, Nat.reduceEqDiff, ↓reduceIte])
            | (refine post2 ?_; simp only [GA, Nat.reduceEqDiff, ↓reduceIte])
            | (refine post3 ?_; simp only [GA, Nat.reduceEqDiff, ↓reduceIte])
            | (refine postc (by simp only [GA, Nat.reduceEqDiff, ↓reduceIte]; rfl) (by simp (disch := omega) only [hlt', rA, hs, hq, lkk, hb, row_m hb, read_row (row_m hb), hr, row_m hr, read_row (row_m hr), gs, rl, c18r0, c18r1, c18r2, c18r3, c18r4, c18r5, c18r6, c18r7, c18r8, c18r9, c18r10, c18r11, c18r13, c18r14, c18r15, c18r16, c18r17, c18r18, c18r19, c18r20, c18r21, c18r23, c18r24, c18r25, c18r26, c18r27, c18r28, c18r29, c18r31, EV0, EV1, EV2, EV3, EV4, EV5, EV6, EV7, EV8, VALS, plug, ite_same, decide_true, decide_false, eq_self, ↓reduceIte, reduceCtorEq, Nat.reduceAdd, Nat.reduceEqDiff, Nat.reduceLT, Nat.reduceLeDiff, Nat.reduceMul, Nat.reduceSub, Nat.reduceDiv, Int.reduceToNat, Int.reduceAdd, Int.reduceSub, Int.reduceMul, Int.reduceNeg, Int.reduceEq, Int.reduceLT, Int.reduceLE]; rfl) ?_)
            | refine post0 ?_
          exact ⟨hlt, ⟨r, rb, vb, rs⟩, (by simp only [Am.keep, List.map_cons, List.map_nil, GA, Nat.reduceEqDiff, ↓reduceIte]; try rfl), m1, m2, m3, m4, m5, m6, by simp (disch := omega) only [hb, c18r0, c18r1, c18r2, c18r3, c18r4, c18r5, c18r6, c18r7, c18r8, c18r9, c18r10, c18r11, c18r13, c18r14, c18r15, c18r16, c18r17, c18r18, c18r19, c18r20, c18r21, c18r23, c18r24, c18r25, c18r26, c18r27, c18r28, c18r29, c18r31, EV0, EV1, EV2, EV3, EV4, EV5, EV6, EV7, EV8, VALS, plug, ite_same, decide_true, decide_false, eq_self, ↓reduceIte, reduceCtorEq, Nat.reduceAdd, Nat.reduceEqDiff, Nat.reduceLT, Nat.reduceLeDiff, Nat.reduceMul, Nat.reduceSub, Nat.reduceDiv, Int.reduceToNat, Int.reduceAdd, Int.reduceSub, Int.reduceMul, Int.reduceNeg, Int.reduceEq, Int.reduceLT, Int.reduceLE], by simp (disch := omega) only [hr, c18r0, c18r1, c18r2, c18r3, c18r4, c18r5, c18r6, c18r7, c18r8, c18r9, c18r10, c18r11, c18r13, c18r14, c18r15, c18r16, c18r17, c18r18, c18r19, c18r20, c18r21, c18r23, c18r24, c18r25, c18r26, c18r27, c18r28, c18r29, c18r31, EV0, EV1, EV2, EV3, EV4, EV5, EV6, EV7, EV8, VALS, plug, ite_same, decide_true, decide_false, eq_self, ↓reduceIte, reduceCtorEq, Nat.reduceAdd, Nat.reduceEqDiff, Nat.reduceLT, Nat.reduceLeDiff, Nat.reduceMul, Nat.reduceSub, Nat.reduceDiv, Int.reduceToNat, Int.reduceAdd, Int.reduceSub, Int.reduceMul, Int.reduceNeg, Int.reduceEq, Int.reduceLT, Int.reduceLE], by simp (disch := omega) only [hp, c18r0, c18r1, c18r2, c18r3, c18r4, c18r5, c18r6, c18r7, c18r8, c18r9, c18r10, c18r11, c18r13, c18r14, c18r15, c18r16, c18r17, c18r18, c18r19, c18r20, c18r21, c18r23, c18r24, c18r25, c18r26, c18r27, c18r28, c18r29, c18r31, EV0, EV1, EV2, EV3, EV4, EV5, EV6, EV7, EV8, VALS, plug, ite_same, decide_true, decide_false, eq_self, ↓reduceIte, reduceCtorEq, Nat.reduceAdd, Nat.reduceEqDiff, Nat.reduceLT, Nat.reduceLeDiff, Nat.reduceMul, Nat.reduceSub, Nat.reduceDiv, Int.reduceToNat, Int.reduceAdd, Int.reduceSub, Int.reduceMul, Int.reduceNeg, Int.reduceEq, Int.reduceLT, Int.reduceLE], by simp (disch := omega) only [hm, c18r0, c18r1, c18r2, c18r3, c18r4, c18r5, c18r6, c18r7, c18r8, c18r9, c18r10, c18r11, c18r13, c18r14, c18r15, c18r16, c18r17, c18r18, c18r19, c18r20, c18r21, c18r23, c18r24, c18r25, c18r26, c18r27, c18r28, c18r29, c18r31, EV0, EV1, EV2, EV3, EV4, EV5, EV6, EV7, EV8, VALS, plug, ite_same, decide_true, decide_false, eq_self, ↓reduceIte, reduceCtorEq, Nat.reduceAdd, Nat.reduceEqDiff, Nat.reduceLT, Nat.reduceLeDiff, Nat.reduceMul, Nat.reduceSub, Nat.reduceDiv, Int.reduceToNat, Int.reduceAdd, Int.reduceSub, Int.reduceMul, Int.reduceNeg, Int.reduceEq, Int.reduceLT, Int.reduceLE], by simp (disch := omega) only [hc, c18r0, c18r1, c18r2, c18r3, c18r4, c18r5, c18r6, c18r7, c18r8, c18r9, c18r10, c18r11, c18r13, c18r14, c18r15, c18r16, c18r17, c18r18, c18r19, c18r20, c18r21, c18r23, c18r24, c18r25, c18r26, c18r27, c18r28, c18r29, c18r31, EV0, EV1, EV2, EV3, EV4, EV5, EV6, EV7, EV8, VALS, plug, ite_same, decide_true, decide_false, eq_self, ↓reduceIte, reduceCtorEq, Nat.reduceAdd, Nat.reduceEqDiff, Nat.reduceLT, Nat.reduceLeDiff, Nat.reduceMul, Nat.reduceSub, Nat.reduceDiv, Int.reduceToNat, Int.reduceAdd, Int.reduceSub, Int.reduceMul, Int.reduceNeg, Int.reduceEq, Int.reduceLT, Int.reduceLE], by simp (disch := omega) only [hq, c18r0, c18r1, c18r2, c18r3, c18r4, c18r5, c18r6, c18r7, c18r8, c18r9, c18r10, c18r11, c18r13, c18r14, c18r15, c18r16, c18r17, c18r18, c18r19, c18r20, c18r21, c18r23, c18r24, c18r25, c18r26, c18r27, c18r28, c18r29, c18r31, EV0, EV1, EV2, EV3, EV4, EV5, EV6, EV7, EV8, VALS, plug, ite_same, decide_true, decide_false, eq_self, ↓reduceIte, reduceCtorEq, Nat.reduceAdd, Nat.reduceEqDiff, Nat.reduceLT, Nat.reduceLeDiff, Nat.reduceMul, Nat.reduceSub, Nat.reduceDiv, Int.reduceToNat, Int.reduceAdd, Int.reduceSub, Int.reduceMul, Int.reduceNeg, Int.reduceEq, Int.reduceLT, Int.reduceLE], g.skip (.inl hs)⟩
      · obtain rfl : k = l.length := by omega
        have hlt' : ¬ (l.length : Int) < l.length := by omega
        repeat' first
          | with_reducible refine k_seq ?_
          | with_reducible refine k_skip ?_
          | with_reducible refine k_blkS ?_
          | with_reducible refine k_blkR ?_
          | with_reducible refine k_blkC ?_
          | with_reducible refine k_blkH ?_
          | with_reducible refine k_blkB ?_
          | with_reducible refine k_blkK ?_
          | with_reducible refine k_blkE ?_
          | with_reducible refine k_reg ?_
          | with_reducible refine k_head (by with_unfolding_all rfl) ?_
          | with_reducible refine k_headS ?_
          | (with_reducible refine SepK.mk ?_ ?_; (refine sepQ_P ?_; simp [sepQ, sepG, AOp.late, AOp.free, AOp.xs, AOp.isAl, tokNe, AV.tok, stS_get, strip, AX.val, c18r0, c18r1, c18r2, c18r3, c18r4, c18r5, c18r6, c18r7, c18r8, c18r9, c18r10, c18r11, c18r13, c18r14, c18r15, c18r16, c18r17, c18r18, c18r19, c18r20, c18r21, c18r23, c18r24, c18r25, c18r26, c18r27, c18r28, c18r29, c18r31, GA]; try omega))
          | with_reducible refine r_done ?_
          | with_reducible refine hr_done ?_
          | with_reducible refine s_go (by simp (disch := omega) only [hlt', c18r0, c18r1, c18r2, c18r3, c18r4, c18r5, c18r6, c18r7, c18r8, c18r9, c18r10, c18r11, c18r13, c18r14, c18r15, c18r16, c18r17, c18r18, c18r19, c18r20, c18r21, c18r23, c18r24, c18r25, c18r26, c18r27, c18r28, c18r29, c18r31, EV0, EV1, EV2, EV3, EV4, EV5, EV6, EV7, EV8, VALS, plug, ite_same, decide_true, decide_false, eq_self, ↓reduceIte, reduceCtorEq, Nat.reduceAdd, Nat.reduceEqDiff, Nat.reduceLT, Nat.reduceLeDiff, Nat.reduceMul, Nat.reduceSub, Nat.reduceDiv, Int.reduceToNat, Int.reduceAdd, Int.reduceSub, Int.reduceMul, Int.reduceNeg, Int.reduceEq, Int.reduceLT, Int.reduceLE]; with_reducible rfl) ?_
          | with_reducible refine h_go (by with_unfolding_all rfl) (by simp (disch := omega) only [hlt', c18r0, c18r1, c18r2, c18r3, c18r4, c18r5, c18r6, c18r7, c18r8, c18r9, c18r10, c18r11, c18r13, c18r14, c18r15, c18r16, c18r17, c18r18, c18r19, c18r20, c18r21, c18r23, c18r24, c18r25, c18r26, c18r27, c18r28, c18r29, c18r31, EV0, EV1, EV2, EV3, EV4, EV5, EV6, EV7, EV8, VALS, plug, ite_same, decide_true, decide_false, eq_self, ↓reduceIte, reduceCtorEq, Nat.reduceAdd, Nat.reduceEqDiff, Nat.reduceLT, Nat.reduceLeDiff, Nat.reduceMul, Nat.reduceSub, Nat.reduceDiv, Int.reduceToNat, Int.reduceAdd, Int.reduceSub, Int.reduceMul, Int.reduceNeg, Int.reduceEq, Int.reduceLT, Int.reduceLE]; with_reducible rfl) ?_
          | ((with_reducible refine chk_r ?_); refine r_callF (by simp only [CA, Nat.reduceEqDiff, ↓reduceIte]; rfl) (by exact rfl) (by simp only [CA, Nat.reduceEqDiff, ↓reduceIte]; rfl) rfl ?_)
          | ((with_reducible refine chk_h ?_); refine hr_callF (by simp only [CA, Nat.reduceEqDiff, ↓reduceIte]; rfl) (by exact rfl) (by simp only [CA, Nat.reduceEqDiff, ↓reduceIte]; rfl) rfl ?_)
          | ((with_reducible refine chk_h ?_); refine hr_app (by simp (disch := omega) only [hlt', c18r0, c18r1, c18r2, c18r3, c18r4, c18r5, c18r6, c18r7, c18r8, c18r9, c18r10, c18r11, c18r13, c18r14, c18r15, c18r16, c18r17, c18r18, c18r19, c18r20, c18r21, c18r23, c18r24, c18r25, c18r26, c18r27, c18r28, c18r29, c18r31, EV0, EV1, EV2, EV3, EV4, EV5, EV6, EV7, EV8, VALS, plug, ite_same, decide_true, decide_false, eq_self, ↓reduceIte, reduceCtorEq, Nat.reduceAdd, Nat.reduceEqDiff, Nat.reduceLT, Nat.reduceLeDiff, Nat.reduceMul, Nat.reduceSub, Nat.reduceDiv, Int.reduceToNat, Int.reduceAdd, Int.reduceSub, Int.reduceMul, Int.reduceNeg, Int.reduceEq, Int.reduceLT, Int.reduceLE]; with_reducible rfl) rfl ?_)
          | (with_reducible refine k_condP (by simp only [GA, Nat.reduceEqDiff, ↓reduceIte]; rfl) (by first | (simp only [BO]; rfl) | rfl) (fun ht => ?_) (fun ht => ?_) <;> try (first | exact False.elim ht | exact absurd rfl ht | exact absurd trivial ht | exact Bool.noConfusion ht))
          | (with_reducible refine k_ret ?_; repeat with_reducible (first | refine ret_thru ?_ | refine ret_blk ?_ | refine fin ?_))
          | (with_reducible refine k_exit ?_; repeat with_reducible (first | refine thru ?_ | refine out_blk ?_ | refine pass (by decide) ?_))
          | (refine post1 ?_; simp only [GA, Nat.reduceEqDiff, ↓reduceIte])
          | (refine post2 ?_; simp only [GA, Nat.reduceEqDiff, ↓reduceIte])
          | (refine post3 ?_; simp only [GA, Nat.reduceEqDiff, ↓reduceIte])
          | (refine postc (by simp only [GA, Nat.reduceEqDiff, ↓reduceIte]; rfl) (by simp (disch := omega) only [hlt', c18r0, c18r1, c18r2, c18r3, c18r4, c18r5, c18r6, c18r7, c18r8, c18r9, c18r10, c18r11, c18r13, c18r14, c18r15, c18r16, c18r17, c18r18, c18r19, c18r20, c18r21, c18r23, c18r24, c18r25, c18r26, c18r27, c18r28, c18r29, c18r31, EV0, EV1, EV2, EV3, EV4, EV5, EV6, EV7, EV8, VALS, plug, ite_same, decide_true, decide_false, eq_self, ↓reduceIte, reduceCtorEq, Nat.reduceAdd, Nat.reduceEqDiff, Nat.reduceLT, Nat.reduceLeDiff, Nat.reduceMul, Nat.reduceSub, Nat.reduceDiv, Int.reduceToNat, Int.reduceAdd, Int.reduceSub, Int.reduceMul, Int.reduceNeg, Int.reduceEq, Int.reduceLT, Int.reduceLE]; rfl) ?_)
          | refine post0 ?_
        refine w_virt 1 16 rfl ?_
        refine k_blk (k_loopS (X := Nat) [12, 16, 76, 77, 78] l.length (fun k y => [(12, .p rb 0), (16, .sl y 0 (grd l rs k).length 1), (76, vT l), (77, .i .i64 l.length), (78, .i .i64 (k : Int))])
          (fun k y h => y ≠ 0 ∧ y ≠ r ∧ y ≠ rb ∧ h.m rb = some (.cells true [.sl r 0 l.length 1]) ∧ h.m r = some (.cells true (bl rs)) ∧ h.m y = some (.cells true (nl (grd l rs k)))) _ (by simp only [Am.keep, List.map_cons, List.map_nil, GA, Nat.reduceEqDiff, ↓reduceIte]; try rfl) ⟨?_, ?_, ?_, by simp (disch := omega) only [hb, c18r0, c18r1, c18r2, c18r3, c18r4, c18r5, c18r6, c18r7, c18r8, c18r9, c18r10, c18r11, c18r13, c18r14, c18r15, c18r16, c18r17, c18r18, c18r19, c18r20, c18r21, c18r23, c18r24, c18r25, c18r26, c18r27, c18r28, c18r29, c18r31, EV0, EV1, EV2, EV3, EV4, EV5, EV6, EV7, EV8, VALS, plug, ite_same, decide_true, decide_false, eq_self, ↓reduceIte, reduceCtorEq, Nat.reduceAdd, Nat.reduceEqDiff, Nat.reduceLT, Nat.reduceLeDiff, Nat.reduceMul, Nat.reduceSub, Nat.reduceDiv, Int.reduceToNat, Int.reduceAdd, Int.reduceSub, Int.reduceMul, Int.reduceNeg, Int.reduceEq, Int.reduceLT, Int.reduceLE], by simp (disch := omega) only [hr, c18r0, c18r1, c18r2, c18r3, c18r4, c18r5, c18r6, c18r7, c18r8, c18r9, c18r10, c18r11, c18r13, c18r14, c18r15, c18r16, c18r17, c18r18, c18r19, c18r20, c18r21, c18r23, c18r24, c18r25, c18r26, c18r27, c18r28, c18r29, c18r31, EV0, EV1, EV2, EV3, EV4, EV5, EV6, EV7, EV8, VALS, plug, ite_same, decide_true, decide_false, eq_self, ↓reduceIte, reduceCtorEq, Nat.reduceAdd, Nat.reduceEqDiff, Nat.reduceLT, Nat.reduceLeDiff, Nat.reduceMul, Nat.reduceSub, Nat.reduceDiv, Int.reduceToNat, Int.reduceAdd, Int.reduceSub, Int.reduceMul, Int.reduceNeg, Int.reduceEq, Int.reduceLT, Int.reduceLE], by simp (disch := omega) only [c18r0, c18r1, c18r2, c18r3, c18r4, c18r5, c18r6, c18r7, c18r8, c18r9, c18r10, c18r11, c18r13, c18r14, c18r15, c18r16, c18r17, c18r18, c18r19, c18r20, c18r21, c18r23, c18r24, c18r25, c18r26, c18r27, c18r28, c18r29, c18r31, EV0, EV1, EV2, EV3, EV4, EV5, EV6, EV7, EV8, VALS, plug, ite_same, decide_true, decide_false, eq_self, ↓reduceIte, reduceCtorEq, Nat.reduceAdd, Nat.reduceEqDiff, Nat.reduceLT, Nat.reduceLeDiff, Nat.reduceMul, Nat.reduceSub, Nat.reduceDiv, Int.reduceToNat, Int.reduceAdd, Int.reduceSub, Int.reduceMul, Int.reduceNeg, Int.reduceEq, Int.reduceLT, Int.reduceLE] <;> rfl⟩ ?_)
        · simp only [AH.bump_nx, AH.set_nx]; omega
        · simp only [AH.bump_nx, AH.set_nx]; omega
        · simp only [AH.bump_nx, AH.set_nx]; omega
        clear hp hm hq hc l1 l2 l3 l4 l5 l6 hb hr ok pos
        rintro k y h hk ⟨o1, o2, o3, hb, hr, hy⟩ ok pos
        have l1 := ok.m hb
        have l2 := ok.m hr
        have l3 := ok.m hy
        have gl := grd_len l rs k
        by_cases hlt : k < l.length
        · have hlt' : (k : Int) < l.length := by omega
          have rA := rdT hlt
          have gs := sf_get (S := rs) (k := k) (by omega)
          have gsu := grd_succ l rs k
          simp only [eT] at rA
          cases hc : (decide ((l.getD k T0).side = 2) == sf rs k) with
          | true =>
            rw [if_pos hc] at gsu
            have hc' : (decide ((l.getD k T0).side = 2)) = sf rs k := by simpa using hc
            repeat' first
              | with_reducible refine k_seq ?_
              | with_reducible refine k_skip ?_
              | with_reducible refine k_blkS ?_
              | with_reducible refine k_blkR ?_
              | with_reducible refine k_blkC ?_
              | with_reducible refine k_blkH ?_
              | with_reducible refine k_blkB ?_
              | with_reducible refine k_blkK ?_
              | with_reducible refine k_blkE ?_
              | with_reducible refine k_reg ?_
              | with_reducible refine k_head (by with_unfolding_all rfl) ?_
              | with_reducible refine k_headS ?_
              | (with_reducible refine SepK.mk ?_ ?_; (refine sepQ_P ?_; simp [sepQ, sepG, AOp.late, AOp.free, AOp.xs, AOp.isAl, tokNe, AV.tok, stS_get, strip, AX.val, c18r0, c18r1, c18r2, c18r3, c18r4, c18r5, c18r6, c18r7, c18r8, c18r9, c18r10, c18r11, c18r13, c18r14, c18r15, c18r16, c18r17, c18r18, c18r19, c18r20, c18r21, c18r23, c18r24, c18r25, c18r26, c18r27, c18r28, c18r29, c18r31, GA]; try omega))
              | with_reducible refine r_done ?_
              | with_reducible refine hr_done ?_
              | with_reducible refine s_go (by simp (disch := omega) only [hlt', rA, hb, row_m hb, read_row (row_m hb), hr, row_m hr, read_row (row_m hr), hy, gs, rl, nl_len, nl_snoc, hc, hc', c18r0, c18r1, c18r2, c18r3, c18r4, c18r5, c18r6, c18r7, c18r8, c18r9, c18r10, c18r11, c18r13, c18r14, c18r15, c18r16, c18r17, c18r18, c18r19, c18r20, c18r21, c18r23, c18r24, c18r25, c18r26, c18r27, c18r28, c18r29, c18r31, EV0, EV1, EV2, EV3, EV4, EV5, EV6, EV7, EV8, VALS, plug, ite_same, decide_true, decide_false, eq_self, ↓reduceIte, reduceCtorEq, Nat.reduceAdd, Nat.reduceEqDiff, Nat.reduceLT, Nat.reduceLeDiff, Nat.reduceMul, Nat.reduceSub, Nat.reduceDiv, Int.reduceToNat, Int.reduceAdd, Int.reduceSub, Int.reduceMul, Int.reduceNeg, Int.reduceEq, Int.reduceLT, Int.reduceLE]; with_reducible rfl) ?_
              | with_reducible refine h_go (by with_unfolding_all rfl) (by simp (disch := omega) only [hlt', rA, hb, row_m hb, read_row (row_m hb), hr, row_m hr, read_row (row_m hr), hy, gs, rl, nl_len, nl_snoc, hc, hc', c18r0, c18r1, c18r2, c18r3, c18r4, c18r5, c18r6, c18r7, c18r8, c18r9, c18r10, c18r11, c18r13, c18r14, c18r15, c18r16, c18r17, c18r18, c18r19, c18r20, c18r21, c18r23, c18r24, c18r25, c18r26, c18r27, c18r28, c18r29, c18r31, EV0, EV1, EV2, EV3, EV4, EV5, EV6, EV7, EV8, VALS, plug, ite_same, decide_true, decide_false, eq_self, ↓reduceIte, reduceCtorEq, Nat.reduceAdd, Nat.reduceEqDiff, Nat.reduceLT, Nat.reduceLeDiff, Nat.reduceMul, Nat.reduceSub, Nat.reduceDiv, Int.reduceToNat, Int.reduceAdd, Int.reduceSub, Int.reduceMul, Int.reduceNeg, Int.reduceEq, Int.reduceLT, Int.reduceLE]; with_reducible rfl) ?_
              | ((with_reducible refine chk_r ?_); refine r_callF (by simp only [CA, Nat.reduceEqDiff, ↓reduceIte]; rfl) (by exact rfl) (by simp only [CA, Nat.reduceEqDiff, ↓reduceIte]; rfl) rfl ?_)
              | ((with_reducible refine chk_h ?_); refine hr_callF (by simp only [CA, Nat.reduceEqDiff, ↓reduceIte]; rfl) (by exact rfl) (by simp only [CA, Nat.reduceEqDiff, ↓reduceIte]; rfl) rfl ?_)
              | ((with_reducible refine chk_h ?_); refine hr_app (by simp (disch := omega) only [hlt', rA, hb, row_m hb, read_row (row_m hb), hr, row_m hr, read_row (row_m hr), hy, gs, rl, nl_len, nl_snoc, hc, hc', c18r0, c18r1, c18r2, c18r3, c18r4, c18r5, c18r6, c18r7, c18r8, c18r9, c18r10, c18r11, c18r13, c18r14, c18r15, c18r16, c18r17, c18r18, c18r19, c18r20, c18r21, c18r23, c18r24, c18r25, c18r26, c18r27, c18r28, c18r29, c18r31, EV0, EV1, EV2, EV3, EV4, EV5, EV6, EV7, EV8, VALS, plug, ite_same, decide_true, decide_false, eq_self, ↓reduceIte, reduceCtorEq, Nat.reduceAdd, Nat.reduceEqDiff, Nat.reduceLT, Nat.reduceLeDiff, Nat.reduceMul, Nat.reduceSub, Nat.reduceDiv, Int.reduceToNat, Int.reduceAdd, Int.reduceSub, Int.reduceMul, Int.reduceNeg, Int.reduceEq, Int.reduceLT, Int.reduceLE]; with_reducible rfl) rfl ?_)
              | (with_reducible refine k_condP (by simp only [GA, Nat.reduceEqDiff, ↓reduceIte]; rfl) (by first | (simp only [BO]; rfl) | rfl) (fun ht => ?_) (fun ht => ?_) <;> try (first | exact False.elim ht | exact absurd rfl ht | exact absurd trivial ht | exact Bool.noConfusion ht))
              | (with_reducible refine k_ret ?_; repeat with_reducible (first | refine ret_thru ?_ | refine ret_blk ?_ | refine fin ?_))
              | (with_reducible refine k_exit ?_; repeat with_reducible (first | refine thru ?_ | refine out_blk ?_ | refine pass (by decide) ?_))
              | (refine post1 ?_; simp only [GA, Nat.reduceEqDiff, ↓reduceIte])
              | (refine post2 ?_; simp only [GA, Nat.reduceEqDiff, ↓reduceIte])
              | (refine post3 ?_; simp only [GA, Nat.reduceEqDiff, ↓reduceIte])
              | (refine postc (by simp only [GA, Nat.reduceEqDiff, ↓reduceIte]; rfl) (by simp (disch := omega) only [hlt', rA, hb, row_m hb, read_row (row_m hb), hr, row_m hr, read_row (row_m hr), hy, gs, rl, nl_len, nl_snoc, hc, hc', c18r0, c18r1, c18r2, c18r3, c18r4, c18r5, c18r6, c18r7, c18r8, c18r9, c18r10, c18r11, c18r13, c18r14, c18r15, c18r16, c18r17, c18r18, c18r19, c18r20, c18r21, c18r23, c18r24, c18r25, c18r26, c18r27, c18r28, c18r29, c18r31, EV0, EV1, EV2, EV3, EV4, EV5, EV6, EV7, EV8, VALS, plug, ite_same, decide_true, decide_false, eq_self, ↓reduceIte, reduceCtorEq, Nat.reduceAdd, Nat.reduceEqDiff, Nat.reduceLT, Nat.reduceLeDiff, Nat.reduceMul, Nat.reduceSub, Nat.reduceDiv, Int.reduceToNat, Int.reduceAdd, Int.reduceSub, Int.reduceMul, Int.reduceNeg, Int.reduceEq, Int.reduceLT, Int.reduceLE]; rfl) ?_)
              | refine post0 ?_
            · rw [gsu]
              refine ⟨hlt, ?tk, ?g1, ?g2, ?g3, ?g4, ?g5, ?g6, ?g7⟩
              case g1 =>
                simp only [Am.keep, List.map_cons, List.map_nil, GA, Nat.reduceEqDiff, ↓reduceIte, List.length_append, List.length_cons, List.length_nil, Nat.zero_add]
                rfl
              case g2 => omega
              case g3 => omega
              case g4 => omega
              case g5 => simp (disch := omega) only [hb, c18r0, c18r1, c18r2, c18r3, c18r4, c18r5, c18r6, c18r7, c18r8, c18r9, c18r10, c18r11, c18r13, c18r14, c18r15, c18r16, c18r17, c18r18, c18r19, c18r20, c18r21, c18r23, c18r24, c18r25, c18r26, c18r27, c18r28, c18r29, c18r31, EV0, EV1, EV2, EV3, EV4, EV5, EV6, EV7, EV8, VALS, plug, ite_same, decide_true, decide_false, eq_self, ↓reduceIte, reduceCtorEq, Nat.reduceAdd, Nat.reduceEqDiff, Nat.reduceLT, Nat.reduceLeDiff, Nat.reduceMul, Nat.reduceSub, Nat.reduceDiv, Int.reduceToNat, Int.reduceAdd, Int.reduceSub, Int.reduceMul, Int.reduceNeg, Int.reduceEq, Int.reduceLT, Int.reduceLE]
              case g6 => simp (disch := omega) only [hr, c18r0, c18r1, c18r2, c18r3, c18r4, c18r5, c18r6, c18r7, c18r8, c18r9, c18r10, c18r11, c18r13, c18r14, c18r15, c18r16, c18r17, c18r18, c18r19, c18r20, c18r21, c18r23, c18r24, c18r25, c18r26, c18r27, c18r28, c18r29, c18r31, EV0, EV1, EV2, EV3, EV4, EV5, EV6, EV7, EV8, VALS, plug, ite_same, decide_true, decide_false, eq_self, ↓reduceIte, reduceCtorEq, Nat.reduceAdd, Nat.reduceEqDiff, Nat.reduceLT, Nat.reduceLeDiff, Nat.reduceMul, Nat.reduceSub, Nat.reduceDiv, Int.reduceToNat, Int.reduceAdd, Int.reduceSub, Int.reduceMul, Int.reduceNeg, Int.reduceEq, Int.reduceLT, Int.reduceLE]
              case g7 => simp (disch := omega) only [nl_snoc, c18r0, c18r1, c18r2, c18r3, c18r4, c18r5, c18r6, c18r7, c18r8, c18r9, c18r10, c18r11, c18r13, c18r14, c18r15, c18r16, c18r17, c18r18, c18r19, c18r20, c18r21, c18r23, c18r24, c18r25, c18r26, c18r27, c18r28, c18r29, c18r31, EV0, EV1, EV2, EV3, EV4, EV5, EV6, EV7, EV8, VALS, plug, ite_same, decide_true, decide_false, eq_self, ↓reduceIte, reduceCtorEq, Nat.reduceAdd, Nat.reduceEqDiff, Nat.reduceLT, Nat.reduceLeDiff, Nat.reduceMul, Nat.reduceSub, Nat.reduceDiv, Int.reduceToNat, Int.reduceAdd, Int.reduceSub, Int.reduceMul, Int.reduceNeg, Int.reduceEq, Int.reduceLT, Int.reduceLE] <;> rfl
          | false =>
            rw [if_neg (by rw [hc]; decide)] at gsu
            have hc' : ¬ (decide ((l.getD k T0).side = 2)) = sf rs k := by simpa using hc
            repeat' first
              | with_reducible refine k_seq ?_
              | with_reducible refine k_skip ?_
              | with_reducible refine k_blkS ?_
              | with_reducible refine k_blkR ?_
              | with_reducible refine k_blkC ?_
              | with_reducible refine k_blkH ?_
              | with_reducible refine k_blkB ?_
              | with_reducible refine k_blkK ?_
              | with_reducible refine k_blkE ?_
              | with_reducible refine k_reg ?_
              | with_reducible refine k_head (by with_unfolding_all rfl) ?_
              | with_reducible refine k_headS ?_
              | (with_reducible refine SepK.mk ?_ ?_; (refine sepQ_P ?_; simp [sepQ, sepG, AOp.late, AOp.free, AOp.xs, AOp.isAl, tokNe, AV.tok, stS_get, strip, AX.val, c18r0, c18r1, c18r2, c18r3, c18r4, c18r5, c18r6, c18r7, c18r8, c18r9, c18r10, c18r11, c18r13, c18r14, c18r15, c18r16, c18r17, c18r18, c18r19, c18r20, c18r21, c18r23, c18r24, c18r25, c18r26, c18r27, c18r28, c18r29, c18r31, GA]; try omega))
              | with_reducible refine r_done ?_
              | with_reducible refine hr_done ?_
              | with_reducible refine s_go (by simp (disch := omega) only [hlt', rA, hb, row_m hb, read_row (row_m hb), hr, row_m hr, read_row (row_m hr), hy, gs, rl, nl_len, nl_snoc, hc, hc', c18r0, c18r1, c18r2, c18r3, c18r4, c18r5, c18r6, c18r7, c18r8, c18r9, c18r10, c18r11, c18r13, c18r14, c18r15, c18r16, c18r17, c18r18, c18r19, c18r20, c18r21, c18r23, c18r24, c18r25, c18r26, c18r27, c18r28, c18r29, c18r31, EV0, EV1, EV2, EV3, EV4, EV5, EV6, EV7, EV8, VALS, plug, ite_same, decide_true, decide_false, eq_self, ↓reduceIte, reduceCtorEq, Nat.reduceAdd, Nat.reduceEqDiff, Nat.reduceLT, Nat.reduceLeDiff, Nat.reduceMul, Nat.reduceSub, Nat.reduceDiv, Int.reduceToNat, Int.reduceAdd, Int.reduceSub, Int.reduceMul, Int.reduceNeg, Int.reduceEq, Int.reduceLT, Int.reduceLE]; with_reducible rfl) ?_
              | with_reducible refine h_go (by with_unfolding_all rfl) (by simp (disch := omega) only [hlt', rA, hb, row_m hb, read_row (row_m hb), hr, row_m hr, read_row (row_m hr), hy, gs, rl, nl_len, nl_snoc, hc, hc', c18r0, c18r1, c18r2, c18r3, c18r4, c18r5, c18r6, c18r7, c18r8, c18r9, c18r10, c18r11, c18r13, c18r14, c18r15, c18r16, c18r17, c18r18, c18r19, c18r20, c18r21, c18r23, c18r24, c18r25, c18r26, c18r27, c18r28, c18r29, c18r31, EV0, EV1, EV2, EV3, EV4, EV5, EV6, EV7, EV8, VALS, plug, ite_same, decide_true, decide_false, eq_self, ↓reduceIte, reduceCtorEq, Nat.reduceAdd, Nat.reduceEqDiff, Nat.reduceLT, Nat.reduceLeDiff, Nat.reduceMul, Nat.reduceSub, Nat.reduceDiv, Int.reduceToNat, Int.reduceAdd, Int.reduceSub, Int.reduceMul, Int.reduceNeg, Int.reduceEq, Int.reduceLT, Int.reduceLE]; with_reducible rfl) ?_
              | ((with_reducible refine chk_r ?_); refine r_callF (by simp only [CA, Nat.reduceEqDiff, ↓reduceIte]; rfl) (by exact rfl) (by simp only [CA, Nat.reduceEqDiff, ↓reduceIte]; rfl) rfl ?_)
              | ((with_reducible refine chk_h ?_); refine hr_callF (by simp only [CA, Nat.reduceEqDiff, ↓reduceIte]; rfl) (by exact rfl) (by simp only [CA, Nat.reduceEqDiff, ↓reduceIte]; rfl) rfl ?_)
              | ((with_reducible refine chk_h ?_); refine hr_app (by simp (disch := omega) only [hlt', rA, hb, row_m hb, read_row (row_m hb), hr, row_m hr, read_row (row_m hr), hy, gs, rl, nl_len, nl_snoc, hc, hc', c18r0, c18r1, c18r2, c18r3, c18r4, c18r5, c18r6, c18r7, c18r8, c18r9, c18r10, c18r11, c18r13, c18r14, c18r15, c18r16, c18r17, c18r18, c18r19, c18r20, c18r21, c18r23, c18r24, c18r25, c18r26, c18r27, c18r28, c18r29, c18r31, EV0, EV1, EV2, EV3, EV4, EV5, EV6, EV7, EV8, VALS, plug, ite_same, decide_true, decide_false, eq_self, ↓reduceIte, reduceCtorEq, Nat.reduceAdd, Nat.reduceEqDiff, Nat.reduceLT, Nat.reduceLeDiff, Nat.reduceMul, Nat.reduceSub, Nat.reduceDiv, Int.reduceToNat, Int.reduceAdd, Int.reduceSub, Int.reduceMul, Int.reduceNeg, Int.reduceEq, Int.reduceLT, Int.reduceLE]; with_reducible rfl) rfl ?_)
              | (with_reducible refine k_condP (by simp only [GA, Nat.reduceEqDiff, ↓reduceIte]; rfl) (by first | (simp only [BO]; rfl) | rfl) (fun ht => ?_) (fun ht => ?_) <;> try (first | exact False.elim ht | exact absurd rfl ht | exact absurd trivial ht | exact Bool.noConfusion ht))
              | (with_reducible refine k_ret ?_; repeat with_reducible (first | refine ret_thru ?_ | refine ret_blk ?_ | refine fin ?_))
              | (with_reducible refine k_exit ?_; repeat with_reducible (first | refine thru ?_ | refine out_blk ?_ | refine pass (by decide) ?_))
              | (refine post1 ?_; simp only [GA, Nat.reduceEqDiff, ↓reduceIte])
              | (refine post2 ?_; simp only [GA, Nat.reduceEqDiff, ↓reduceIte])
              | (refine post3 ?_; simp only [GA, Nat.reduceEqDiff, ↓reduceIte])
              | (refine postc (by simp only [GA, Nat.reduceEqDiff, ↓reduceIte]; rfl) (by simp (disch := omega) only [hlt', rA, hb, row_m hb, read_row (row_m hb), hr, row_m hr, read_row (row_m hr), hy, gs, rl, nl_len, nl_snoc, hc, hc', c18r0, c18r1, c18r2, c18r3, c18r4, c18r5, c18r6, c18r7, c18r8, c18r9, c18r10, c18r11, c18r13, c18r14, c18r15, c18r16, c18r17, c18r18, c18r19, c18r20, c18r21, c18r23, c18r24, c18r25, c18r26, c18r27, c18r28, c18r29, c18r31, EV0, EV1, EV2, EV3, EV4, EV5, EV6, EV7, EV8, VALS, plug, ite_same, decide_true, decide_false, eq_self, ↓reduceIte, reduceCtorEq, Nat.reduceAdd, Nat.reduceEqDiff, Nat.reduceLT, Nat.reduceLeDiff, Nat.reduceMul, Nat.reduceSub, Nat.reduceDiv, Int.reduceToNat, Int.reduceAdd, Int.reduceSub, Int.reduceMul, Int.reduceNeg, Int.reduceEq, Int.reduceLT, Int.reduceLE]; rfl) ?_)
              | refine post0 ?_
            · rw [gsu]
              exact ⟨hlt, y, (by simp only [Am.keep, List.map_cons, List.map_nil, GA, Nat.reduceEqDiff, ↓reduceIte]; try rfl), o1, o2, o3, by simp (disch := omega) only [hb, c18r0, c18r1, c18r2, c18r3, c18r4, c18r5, c18r6, c18r7, c18r8, c18r9, c18r10, c18r11, c18r13, c18r14, c18r15, c18r16, c18r17, c18r18, c18r19, c18r20, c18r21, c18r23, c18r24, c18r25, c18r26, c18r27, c18r28, c18r29, c18r31, EV0, EV1, EV2, EV3, EV4, EV5, EV6, EV7, EV8, VALS, plug, ite_same, decide_true, decide_false, eq_self, ↓reduceIte, reduceCtorEq, Nat.reduceAdd, Nat.reduceEqDiff, Nat.reduceLT, Nat.reduceLeDiff, Nat.reduceMul, Nat.reduceSub, Nat.reduceDiv, Int.reduceToNat, Int.reduceAdd, Int.reduceSub, Int.reduceMul, Int.reduceNeg, Int.reduceEq, Int.reduceLT, Int.reduceLE], by simp (disch := omega) only [hr, c18r0, c18r1, c18r2, c18r3, c18r4, c18r5, c18r6, c18r7, c18r8, c18r9, c18r10, c18r11, c18r13, c18r14, c18r15, c18r16, c18r17, c18r18, c18r19, c18r20, c18r21, c18r23, c18r24, c18r25, c18r26, c18r27, c18r28, c18r29, c18r31, EV0, EV1, EV2, EV3, EV4, EV5, EV6, EV7, EV8, VALS, plug, ite_same, decide_true, decide_false, eq_self, ↓reduceIte, reduceCtorEq, Nat.reduceAdd, Nat.reduceEqDiff, Nat.reduceLT, Nat.reduceLeDiff, Nat.reduceMul, Nat.reduceSub, Nat.reduceDiv, Int.reduceToNat, Int.reduceAdd, Int.reduceSub, Int.reduceMul, Int.reduceNeg, Int.reduceEq, Int.reduceLT, Int.reduceLE], by simp (disch := omega) only [hy, c18r0, c18r1, c18r2, c18r3, c18r4, c18r5, c18r6, c18r7, c18r8, c18r9, c18r10, c18r11, c18r13, c18r14, c18r15, c18r16, c18r17, c18r18, c18r19, c18r20, c18r21, c18r23, c18r24, c18r25, c18r26, c18r27, c18r28, c18r29, c18r31, EV0, EV1, EV2, EV3, EV4, EV5, EV6, EV7, EV8, VALS, plug, ite_same, decide_true, decide_false, eq_self, ↓reduceIte, reduceCtorEq, Nat.reduceAdd, Nat.reduceEqDiff, Nat.reduceLT, Nat.reduceLeDiff, Nat.reduceMul, Nat.reduceSub, Nat.reduceDiv, Int.reduceToNat, Int.reduceAdd, Int.reduceSub, Int.reduceMul, Int.reduceNeg, Int.reduceEq, Int.reduceLT, Int.reduceLE]⟩
        · obtain rfl : k = l.length := by omega
          have hlt' : ¬ (l.length : Int) < l.length := by omega
          repeat' first
            | with_reducible refine k_seq ?_
            | with_reducible refine k_skip ?_
            | with_reducible refine k_blkS ?_
            | with_reducible refine k_blkR ?_
            | with_reducible refine k_blkC ?_
            | with_reducible refine k_blkH ?_
            | with_reducible refine k_blkB ?_
            | with_reducible refine k_blkK ?_
            | with_reducible refine k_blkE ?_
            | with_reducible refine k_reg ?_
            | with_reducible refine k_head (by with_unfolding_all rfl) ?_
            | with_reducible refine k_headS ?_
            | (with_reducible refine SepK.mk ?_ ?_; (refine sepQ_P ?_; simp [sepQ, sepG, AOp.late, AOp.free, AOp.xs, AOp.isAl, tokNe, AV.tok, stS_get, strip, AX.val, c18r0, c18r1, c18r2, c18r3, c18r4, c18r5, c18r6, c18r7, c18r8, c18r9, c18r10, c18r11, c18r13, c18r14, c18r15, c18r16, c18r17, c18r18, c18r19, c18r20, c18r21, c18r23, c18r24, c18r25, c18r26, c18r27, c18r28, c18r29, c18r31, GA]; try omega))
            | with_reducible refine r_done ?_
            | with_reducible refine hr_done ?_
            | with_reducible refine s_go (by simp (disch := omega) only [hlt', c18r0, c18r1, c18r2, c18r3, c18r4, c18r5, c18r6, c18r7, c18r8, c18r9, c18r10, c18r11, c18r13, c18r14, c18r15, c18r16, c18r17, c18r18, c18r19, c18r20, c18r21, c18r23, c18r24, c18r25, c18r26, c18r27, c18r28, c18r29, c18r31, EV0, EV1, EV2, EV3, EV4, EV5, EV6, EV7, EV8, VALS, plug, ite_same, decide_true, decide_false, eq_self, ↓reduceIte, reduceCtorEq, Nat.reduceAdd, Nat.reduceEqDiff, Nat.reduceLT, Nat.reduceLeDiff, Nat.reduceMul, Nat.reduceSub, Nat.reduceDiv, Int.reduceToNat, Int.reduceAdd, Int.reduceSub, Int.reduceMul, Int.reduceNeg, Int.reduceEq, Int.reduceLT, Int.reduceLE]; with_reducible rfl) ?_
            | with_reducible refine h_go (by with_unfolding_all rfl) (by simp (disch := omega) only [hlt', c18r0, c18r1, c18r2, c18r3, c18r4, c18r5, c18r6, c18r7, c18r8, c18r9, c18r10, c18r11, c18r13, c18r14, c18r15, c18r16, c18r17, c18r18, c18r19, c18r20, c18r21, c18r23, c18r24, c18r25, c18r26, c18r27, c18r28, c18r29, c18r31, EV0, EV1, EV2, EV3, EV4, EV5, EV6, EV7, EV8, VALS, plug, ite_same, decide_true, decide_false, eq_self, ↓reduceIte, reduceCtorEq, Nat.reduceAdd, Nat.reduceEqDiff, Nat.reduceLT, Nat.reduceLeDiff, Nat.reduceMul, Nat.reduceSub, Nat.reduceDiv, Int.reduceToNat, Int.reduceAdd, Int.reduceSub, Int.reduceMul, Int.reduceNeg, Int.reduceEq, Int.reduceLT, Int.reduceLE]; with_reducible rfl) ?_
            | ((with_reducible refine chk_r ?_); refine r_callF (by simp only [CA, Nat.reduceEqDiff, ↓reduceIte]; rfl) (by exact rfl) (by simp only [CA, Nat.reduceEqDiff, ↓reduceIte]; rfl) rfl ?_)
            | ((with_reducible refine chk_h ?_); refine hr_callF (by simp only [CA, Nat.reduceEqDiff, ↓reduceIte]; rfl) (by exact rfl) (by simp only [CA, Nat.reduceEqDiff, ↓reduceIte]; rfl) rfl ?_)
            | ((with_reducible refine chk_h ?_); refine hr_app (by simp (disch := omega) only [hlt', c18r0, c18r1, c18r2, c18r3, c18r4, c18r5, c18r6, c18r7, c18r8, c18r9, c18r10, c18r11, c18r13, c18r14, c18r15, c18r16, c18r17, c18r18, c18r19, c18r20, c18r21, c18r23, c18r24, c18r25, c18r26, c18r27, c18r28, c18r29, c18r31, EV0, EV1, EV2, EV3, EV4, EV5, EV6, EV7, EV8, VALS, plug, ite_same, decide_true, decide_false, eq_self, ↓reduceIte, reduceCtorEq, Nat.reduceAdd, Nat.reduceEqDiff, Nat.reduceLT, Nat.reduceLeDiff, Nat.reduceMul, Nat.reduceSub, Nat.reduceDiv, Int.reduceToNat, Int.reduceAdd, Int.reduceSub, Int.reduceMul, Int.reduceNeg, Int.reduceEq, Int.reduceLT, Int.reduceLE]; with_reducible rfl) rfl ?_)
            | (with_reducible refine k_condP (by simp only [GA, Nat.reduceEqDiff, ↓reduceIte]; rfl) (by first | (simp only [BO]; rfl) | rfl) (fun ht => ?_) (fun ht => ?_) <;> try (first | exact False.elim ht | exact absurd rfl ht | exact absurd trivial ht | exact Bool.noConfusion ht))
            | (with_reducible refine k_ret ?_; repeat with_reducible (first | refine ret_thru ?_ | refine ret_blk ?_ | refine fin ?_))
            | (with_reducible refine k_exit ?_; repeat with_reducible (first | refine thru ?_ | refine out_blk ?_ | refine pass (by decide) ?_))
            | (refine post1 ?_; simp only [GA, Nat.reduceEqDiff, ↓reduceIte])
            | (refine post2 ?_; simp only [GA, Nat.reduceEqDiff, ↓reduceIte])
            | (refine post3 ?_; simp only [GA, Nat.reduceEqDiff, ↓reduceIte])
            | (refine postc (by simp only [GA, Nat.reduceEqDiff, ↓reduceIte]; rfl) (by simp (disch := omega) only [hlt', c18r0, c18r1, c18r2, c18r3, c18r4, c18r5, c18r6, c18r7, c18r8, c18r9, c18r10, c18r11, c18r13, c18r14, c18r15, c18r16, c18r17, c18r18, c18r19, c18r20, c18r21, c18r23, c18r24, c18r25, c18r26, c18r27, c18r28, c18r29, c18r31, EV0, EV1, EV2, EV3, EV4, EV5, EV6, EV7, EV8, VALS, plug, ite_same, decide_true, decide_false, eq_self, ↓reduceIte, reduceCtorEq, Nat.reduceAdd, Nat.reduceEqDiff, Nat.reduceLT, Nat.reduceLeDiff, Nat.reduceMul, Nat.reduceSub, Nat.reduceDiv, Int.reduceToNat, Int.reduceAdd, Int.reduceSub, Int.reduceMul, Int.reduceNeg, Int.reduceEq, Int.reduceLT, Int.reduceLE]; rfl) ?_)
            | refine post0 ?_
          exact stop rs g _ _ (ends_sl2 (k := 1) hy (by rw [nl_len, Nat.mul_one]))
  · rw [if_neg h0] at q
    have stop : ∀ v h, Am.Ends (.tu [.vs 0 [], .i .i64 (asked l tol)]) v h → ∃ v', GR l tol v' ∧ Am.Ends v' v h := fun v h e => ⟨_, .inr ⟨h0, rfl⟩, e⟩
    generalize asked l tol = A at q h0 stop ⊢
    repeat' first
      | with_reducible refine k_seq ?_
      | with_reducible refine k_skip ?_
      | with_reducible refine k_blkS ?_
      | with_reducible refine k_blkR ?_
      | with_reducible refine k_blkC ?_
      | with_reducible refine k_blkH ?_
      | with_reducible refine k_blkB ?_
      | with_reducible refine k_blkK ?_
      | with_reducible refine k_blkE ?_
      | with_reducible refine k_reg ?_
      | with_reducible refine k_head (by with_unfolding_all rfl) ?_
      | with_reducible refine k_headS ?_
      | (with_reducible refine SepK.mk ?_ ?_; (refine sepQ_P ?_; simp [sepQ, sepG, AOp.late, AOp.free, AOp.xs, AOp.isAl, tokNe, AV.tok, stS_get, strip, AX.val, c18r0, c18r1, c18r2, c18r3, c18r4, c18r5, c18r6, c18r7, c18r8, c18r9, c18r10, c18r11, c18r13, c18r14, c18r15, c18r16, c18r17, c18r18, c18r19, c18r20, c18r21, c18r23, c18r24, c18r25, c18r26, c18r27, c18r28, c18r29, c18r31, GA]; try omega))
      | with_reducible refine r_done ?_
      | with_reducible refine hr_done ?_
      | with_reducible refine s_go (by simp (disch := omega) only [h0, c18r0, c18r1, c18r2, c18r3, c18r4, c18r5, c18r6, c18r7, c18r8, c18r9, c18r10, c18r11, c18r13, c18r14, c18r15, c18r16, c18r17, c18r18, c18r19, c18r20, c18r21, c18r23, c18r24, c18r25, c18r26, c18r27, c18r28, c18r29, c18r31, EV0, EV1, EV2, EV3, EV4, EV5, EV6, EV7, EV8, VALS, plug, ite_same, decide_true, decide_false, eq_self, ↓reduceIte, reduceCtorEq, Nat.reduceAdd, Nat.reduceEqDiff, Nat.reduceLT, Nat.reduceLeDiff, Nat.reduceMul, Nat.reduceSub, Nat.reduceDiv, Int.reduceToNat, Int.reduceAdd, Int.reduceSub, Int.reduceMul, Int.reduceNeg, Int.reduceEq, Int.reduceLT, Int.reduceLE]; with_reducible rfl) ?_
      | with_reducible refine h_go (by with_unfolding_all rfl) (by simp (disch := omega) only [h0, c18r0, c18r1, c18r2, c18r3, c18r4, c18r5, c18r6, c18r7, c18r8, c18r9, c18r10, c18r11, c18r13, c18r14, c18r15, c18r16, c18r17, c18r18, c18r19, c18r20, c18r21, c18r23, c18r24, c18r25, c18r26, c18r27, c18r28, c18r29, c18r31, EV0, EV1, EV2, EV3, EV4, EV5, EV6, EV7, EV8, VALS, plug, ite_same, decide_true, decide_false, eq_self, ↓reduceIte, reduceCtorEq, Nat.reduceAdd, Nat.reduceEqDiff, Nat.reduceLT, Nat.reduceLeDiff, Nat.reduceMul, Nat.reduceSub, Nat.reduceDiv, Int.reduceToNat, Int.reduceAdd, Int.reduceSub, Int.reduceMul, Int.reduceNeg, Int.reduceEq, Int.reduceLT, Int.reduceLE]; with_reducible rfl) ?_
      | ((with_reducible refine chk_r ?_); refine r_callF (by simp only [CA, Nat.reduceEqDiff, ↓reduceIte]; rfl) (by exact rfl) (by simp only [CA, Nat.reduceEqDiff, ↓reduceIte]; rfl) rfl ?_)
      | ((with_reducible refine chk_h ?_); refine hr_callF (by simp only [CA, Nat.reduceEqDiff, ↓reduceIte]; rfl) (by exact rfl) (by simp only [CA, Nat.reduceEqDiff, ↓reduceIte]; rfl) rfl ?_)
      | ((with_reducible refine chk_r ?_); refine r_callP (by simp only [CA, Nat.reduceEqDiff, ↓reduceIte]; rfl) (by simp only [CA, Nat.reduceEqDiff, ↓reduceIte]; rfl) (by first | exact q _) rfl ?_)
      | ((with_reducible refine chk_h ?_); refine hr_callP (by simp only [CA, Nat.reduceEqDiff, ↓reduceIte]; rfl) (by simp only [CA, Nat.reduceEqDiff, ↓reduceIte]; rfl) (by first | exact q _) rfl ?_)
      | ((with_reducible refine chk_h ?_); refine hr_callP1 (by simp only [CA, Nat.reduceEqDiff, ↓reduceIte]; rfl) (by simp only [CA, Nat.reduceEqDiff, ↓reduceIte]; rfl) (by simp (disch := omega) only [CA, Nat.reduceEqDiff, ↓reduceIte, firstTok_nil, firstTok_sl, firstTok_sl0, firstTok_i, firstTok_b, firstTok_ag, firstTok_p, firstTok_s]; rfl) (by first | exact q _) rfl ?_)
      | ((with_reducible refine chk_h ?_); refine hr_app (by simp (disch := omega) only [h0, c18r0, c18r1, c18r2, c18r3, c18r4, c18r5, c18r6, c18r7, c18r8, c18r9, c18r10, c18r11, c18r13, c18r14, c18r15, c18r16, c18r17, c18r18, c18r19, c18r20, c18r21, c18r23, c18r24, c18r25, c18r26, c18r27, c18r28, c18r29, c18r31, EV0, EV1, EV2, EV3, EV4, EV5, EV6, EV7, EV8, VALS, plug, ite_same, decide_true, decide_false, eq_self, ↓reduceIte, reduceCtorEq, Nat.reduceAdd, Nat.reduceEqDiff, Nat.reduceLT, Nat.reduceLeDiff, Nat.reduceMul, Nat.reduceSub, Nat.reduceDiv, Int.reduceToNat, Int.reduceAdd, Int.reduceSub, Int.reduceMul, Int.reduceNeg, Int.reduceEq, Int.reduceLT, Int.reduceLE]; with_reducible rfl) rfl ?_)
      | (with_reducible refine k_condP (by simp only [GA, Nat.reduceEqDiff, ↓reduceIte]; rfl) (by first | (simp only [BO]; rfl) | rfl) (fun ht => ?_) (fun ht => ?_) <;> try (first | exact False.elim ht | exact absurd rfl ht | exact absurd trivial ht | exact Bool.noConfusion ht))
      | (with_reducible refine k_ret ?_; repeat with_reducible (first | refine ret_thru ?_ | refine ret_blk ?_ | refine fin ?_))
      | (with_reducible refine k_exit ?_; repeat with_reducible (first | refine thru ?_ | refine out_blk ?_ | refine pass (by decide) ?_))
      | (refine post1 ?_; simp only [GA, Nat.reduceEqDiff, ↓reduceIte])
      | (refine post2 ?_; simp only [GA, Nat.reduceEqDiff, ↓reduceIte])
      | (refine post3 ?_; simp only [GA, Nat.reduceEqDiff, ↓reduceIte])
      | (refine postc (by simp only [GA, Nat.reduceEqDiff, ↓reduceIte]; rfl) (by simp (disch := omega) only [h0, c18r0, c18r1, c18r2, c18r3, c18r4, c18r5, c18r6, c18r7, c18r8, c18r9, c18r10, c18r11, c18r13, c18r14, c18r15, c18r16, c18r17, c18r18, c18r19, c18r20, c18r21, c18r23, c18r24, c18r25, c18r26, c18r27, c18r28, c18r29, c18r31, EV0, EV1, EV2, EV3, EV4, EV5, EV6, EV7, EV8, VALS, plug, ite_same, decide_true, decide_false, eq_self, ↓reduceIte, reduceCtorEq, Nat.reduceAdd, Nat.reduceEqDiff, Nat.reduceLT, Nat.reduceLeDiff, Nat.reduceMul, Nat.reduceSub, Nat.reduceDiv, Int.reduceToNat, Int.reduceAdd, Int.reduceSub, Int.reduceMul, Int.reduceNeg, Int.reduceEq, Int.reduceLT, Int.reduceLE]; rfl) ?_)
      | refine post0 ?_
    exact stop _ _ ends_nil2
end Go.Proofs.Ytbhkbaapfioijaa
set_option linter.unusedVariables false
set_option linter.unusedSimpArgs false
namespace Go.Proofs.Ytbhkbaapfioijaa
open Go Go.Am Go.Proofs Go.Sort
/-! ### TempleGuards -/
theorem vi_nat (g : List Nat) : vi (g.map fun (n : Nat) => (n : Int)) = .vs g.length (nl g) := by rw [vi, List.length_map, ← nl_il]
/-- a number, az an argument's cell -/
def eI (n : Int) : List AV := [.i .i64 n]
theorem flI (l : List Int) : fl eI l = il l := by
  induction l with
  | nil => rfl
  | cons n l ih => rw [fl_cons, ih]; rfl
theorem decI (r : List AV) (h : Shps [.i .i64] r) : ∃ x : Int, r = eI x ∧ True := by
  obtain ⟨a, r, rfl, h1, h⟩ := shps_cons h
  obtain rfl := shps_nil h
  obtain ⟨n, rfl, _⟩ := shp_i64 h1
  exact ⟨n, rfl, trivial⟩
end Go.Proofs.Ytbhkbaapfioijaa
set_option linter.unusedVariables false
set_option linter.unusedSimpArgs false
namespace Go.Proofs.Ytbhkbaapfioijaa
open Go Go.Am Go.Proofs Go.Sort
/-! ### TempleProofs: plain -/
theorem PairsOK.apart {l : List T} {tol : Int} {M : List (Nat × Nat)} (h : PairsOK l tol M) {p q : Nat × Nat} (hp : p ∈ M) (hq : q ∈ M) : p.1 ≠ q.2 := fun e => by
  have a := (h.2.2 p hp).2.2.1
  have b := (h.2.2 q hq).2.2.2.1
  rw [e] at a; omega
theorem inP_all {M : List (Nat × Nat)} {i : Nat} : inP M M.length i = true ↔ i ∈ M.map Prod.fst ++ M.map Prod.snd := by
  simp only [inP, List.take_length, List.any_eq_true, Bool.or_eq_true, beq_iff_eq, List.mem_append, List.mem_map]
  constructor
  · rintro ⟨p, hp, e | e⟩
    · exact .inl ⟨p, hp, e⟩
    · exact .inr ⟨p, hp, e⟩
  · rintro (⟨p, hp, e⟩ | ⟨p, hp, e⟩)
    · exact ⟨p, hp, .inl e⟩
    · exact ⟨p, hp, .inr e⟩
theorem rest_count {l : List T} {tol : Int} {M : List (Nat × Nat)} (h : PairsOK l tol M) : (rst l M l.length).length + 2 * M.length = l.length := by
  have nd : (M.map Prod.fst ++ M.map Prod.snd).Nodup := by
    rw [List.nodup_append]
    refine ⟨h.1, h.2.1, fun a ha b hb e => ?_⟩
    obtain ⟨p, hp, rfl⟩ := List.mem_map.1 ha
    obtain ⟨q, hq, rfl⟩ := List.mem_map.1 hb
    exact h.apart hp hq e
  have e1 : ((List.range l.length).filter fun i => inP M M.length i).length = 2 * M.length := by
    refine Nat.le_antisymm ?_ ?_
    · have := nodup_len (A := (List.range l.length).filter fun i => inP M M.length i) (B := M.map Prod.fst ++ M.map Prod.snd) (List.nodup_range.filter _) fun x hx => inP_all.1 (List.mem_filter.1 hx).2
      simp only [List.length_append, List.length_map] at this
      omega
    · have := nodup_len (B := (List.range l.length).filter fun i => inP M M.length i) nd fun x hx => List.mem_filter.2 ⟨?_, inP_all.2 hx⟩
      · simp only [List.length_append, List.length_map] at this
        omega
      · rw [List.mem_range]
        rcases List.mem_append.1 hx with hx | hx
        · obtain ⟨p, hp, rfl⟩ := List.mem_map.1 hx; exact (h.2.2 p hp).1
        · obtain ⟨p, hp, rfl⟩ := List.mem_map.1 hx; exact (h.2.2 p hp).2.1
  have e2 : (List.range l.length).length = ((List.range l.length).filter fun i => inP M M.length i).length + ((List.range l.length).filter fun i => !inP M M.length i).length := by
    rw [List.length_eq_countP_add_countP (fun i => inP M M.length i), List.countP_eq_length_filter, List.countP_eq_length_filter]
    congr 2
    exact List.filter_congr fun p _ => by simp
  rw [List.length_range, e1] at e2
  unfold rst
  omega
/-- pairs of indexes az pairs of numbers -/
def pI (M : List (Nat × Nat)) : List (Int × Int) := M.map fun p => ((p.1 : Int), (p.2 : Int))
theorem vP_vQ (M : List (Nat × Nat)) : vP M = vQ (pI M) := by
  have : fl eP M = fl eQ (pI M) := by
    induction M with
    | nil => rfl
    | cons p M ih => simp only [pI, List.map_cons, fl_cons] at ih ⊢; rw [ih]; rfl
  rw [vP, vQ, this]; simp [pI]
theorem jg_zero {l : List T} {good : T → T → Bool} {ps : List (Int × Int)} : ∀ {n k : Nat}, jg l good ps n k = 0 ↔ ∀ i, k ≤ i → i < k + n → er l good ps i = 0
  | 0, k => ⟨fun _ i h1 h2 => by omega, fun _ => rfl⟩
  | n + 1, k => by
    simp only [jg]
    constructor
    · intro h i h1 h2
      by_cases e : er l good ps k = 0
      · rw [if_pos e] at h
        by_cases q : i = k
        · subst q; exact e
        · exact jg_zero.1 h i (by omega) (by omega)
      · rw [if_neg e] at h; exact absurd h e
    · intro h
      rw [if_pos (h k (by omega) (by omega))]
      exact jg_zero.2 fun i h1 h2 => h i (by omega) (by omega)
theorem er_zero {l : List T} {good : T → T → Bool} {ps : List (Int × Int)} {k : Nat} : er l good ps k = 0 ↔ (¬ hadP ps k (prs ps k).1 ∧ ¬ hadP ps k (prs ps k).2) ∧ (prs ps k).1 ≠ (prs ps k).2 ∧ (l.getD (prs ps k).1.toNat T0).side = 1 ∧ good (l.getD (prs ps k).1.toNat T0) (l.getD (prs ps k).2.toNat T0) = true := by
  unfold er
  split
  · rename_i h
    constructor
    · intro h; cases h
    · rintro ⟨⟨a, b⟩, c, _⟩
      rcases h with (h | h) | h
      · exact absurd h a
      · exact absurd h b
      · exact absurd h c
  · rename_i h
    simp only [not_or] at h
    split
    · rename_i h2
      constructor
      · intro h; cases h
      · rintro ⟨_, _, a, b⟩
        rcases h2 with h2 | h2
        · exact absurd a h2
        · rw [b] at h2; cases h2
    · rename_i h2
      simp only [not_or, Decidable.not_not, Bool.not_eq_false] at h2
      exact ⟨fun _ => ⟨h.1, h.2, h2.1, h2.2⟩, fun _ => rfl⟩
theorem chk_ok {l : List T} {tol : Int} {M : List (Nat × Nat)} (h0 : asked l tol = 0) (h : PairsOK l tol M) : chk l tol (pI M) = 0 := by
  have get : ∀ i (hi : i < M.length), prs (pI M) i = (((M[i]).1 : Int), ((M[i]).2 : Int)) := fun i hi => by simp [prs, pI, hi]
  have len : (pI M).length = M.length := by simp [pI]
  unfold chk
  rw [if_pos h0, jd_ok, jg_zero]
  · intro k _ hk
    rw [len] at hk
    have hk : k < M.length := by omega
    have ok := h.2.2 _ (List.getElem_mem hk)
    rw [er_zero, get k hk]
    refine ⟨⟨?_, ?_⟩, ?_, ?_⟩
    · rintro ⟨i, hi, e⟩
      rw [get i (by omega)] at e
      rcases e with e | e
      · have := inj_fst h.1 (List.getElem_mem (show i < M.length by omega)) (List.getElem_mem hk) (by simp only at e; omega)
        have := (List.getElem_inj (nodup_fst h.1)).1 this
        omega
      · exact h.apart (List.getElem_mem hk) (List.getElem_mem (show i < M.length by omega)) (by simp only at e; omega)
    · rintro ⟨i, hi, e⟩
      rw [get i (by omega)] at e
      rcases e with e | e
      · exact h.apart (List.getElem_mem (show i < M.length by omega)) (List.getElem_mem hk) (by simp only at e; omega)
      · have := inj_snd h.2.1 (List.getElem_mem (show i < M.length by omega)) (List.getElem_mem hk) (by simp only at e; omega)
        have := (List.getElem_inj (nodup_fst h.1)).1 this
        omega
    · exact fun e => h.apart (List.getElem_mem hk) (List.getElem_mem hk) (by simp only at e; omega)
    · simp only [Int.toNat_natCast]
      refine ⟨ok.2.2.1, ?_⟩
      have : ed l tol (M[k]).1 (M[k]).2 = true := ed_iff.2 ⟨by rw [ok.2.2.1, ok.2.2.2.1]; decide, ok.2.2.2.2.1, ok.2.2.2.2.2⟩
      exact this
  · intro i hi
    rw [len] at hi
    have ok := h.2.2 _ (List.getElem_mem hi)
    rw [get i hi]
    unfold rng
    simp only
    omega
theorem nodup_get {α : Type} {A : List α} (h : ∀ (i j : Nat) (hi : i < A.length) (hj : j < A.length), i < j → A[i] ≠ A[j]) : A.Nodup := List.pairwise_iff_getElem.2 h
/-- a pairing that is right is never longer -/
theorem chk_le {l : List T} {tol : Int} {ps : List (Int × Int)} (h0 : asked l tol = 0) (h : chk l tol ps = 0) : ps.length ≤ (matchL l tol).length := by
  have hv := (asked_ok h0).1
  unfold chk at h
  rw [if_pos h0] at h
  have hr := jd_rng h
  rw [jd_ok hr, jg_zero] at h
  have er0 : ∀ k, k < ps.length → _ := fun k hk => er_zero.1 (h k (by omega) (by omega))
  have get : ∀ i (hi : i < ps.length), prs ps i = ps[i] := fun i hi => by simp [prs, hi]
  have := match_max hv (tol := tol) (M := ps.map fun p => (p.1.toNat, p.2.toNat)) ⟨?_, ?_, ?_⟩
  · simpa using this
  · rw [List.map_map]
    refine nodup_get fun i j hi hj hij => ?_
    simp only [List.length_map] at hi hj
    simp only [List.getElem_map, Function.comp_apply]
    intro e
    have a := hr i hi
    have b := hr j hj
    have c := (er0 j hj).1.1
    rw [get i hi] at a
    rw [get j hj] at b c
    unfold rng at a b
    exact c ⟨i, hij, .inl (by rw [get i hi]; omega)⟩
  · rw [List.map_map]
    refine nodup_get fun i j hi hj hij => ?_
    simp only [List.length_map] at hi hj
    simp only [List.getElem_map, Function.comp_apply]
    intro e
    have a := hr i hi
    have b := hr j hj
    have c := (er0 j hj).1.2
    rw [get i hi] at a
    rw [get j hj] at b c
    unfold rng at a b
    exact c ⟨i, hij, .inr (by rw [get i hi]; omega)⟩
  · intro p hp
    obtain ⟨q, hq, rfl⟩ := List.mem_map.1 hp
    obtain ⟨i, hi, rfl⟩ := List.getElem_of_mem hq
    have a := hr i hi
    obtain ⟨_, _, s1, g⟩ := er0 i hi
    rw [get i hi] at a s1 g
    unfold rng at a
    have e : ed l tol (ps[i]).1.toNat (ps[i]).2.toNat = true := g
    have e' := ed_iff.1 e
    exact ⟨by simp only []; omega, by simp only []; omega, s1, side2 hv (by omega) s1 e'.1, e'.2.1, e'.2.2⟩
/-- a guard is never shorter -/
theorem isG_le {l : List T} {tol : Int} {ns : List Int} (h : isG l tol ns = (true, 0)) : (matchL l tol).length ≤ ns.length := by
  have h0 : asked l tol = 0 := by
    by_cases h0 : asked l tol = 0
    · exact h0
    · rw [isG_err h0] at h; cases h
  have hv := (asked_ok h0).1
  obtain ⟨g, c⟩ : GK l ns ns.length ∧ CV l tol (hasI ns ns.length) l.length := by
    unfold isG at h
    rw [if_pos h0] at h
    split at h
    · rename_i g
      refine ⟨g, ?_⟩
      have := congrArg Prod.fst h
      simpa using this
    · cases h
  have ok := match_ok l tol
  generalize matchL l tol = M at ok
  let f : Nat × Nat → Int := fun p => if hasI ns ns.length p.1 then p.1 else p.2
  have nd : (M.map f).Nodup := by
    refine nodup_get fun i j hi hj hij => ?_
    simp only [List.length_map] at hi hj
    simp only [List.getElem_map]
    intro e
    have pi := List.getElem_mem hi
    have pj := List.getElem_mem hj
    have ne : M[i] ≠ M[j] := fun q => by have := (List.getElem_inj (nodup_fst ok.1)).1 q; omega
    simp only [f] at e
    split at e <;> split at e
    · exact ne (inj_fst ok.1 pi pj (by omega))
    · exact ok.apart pi pj (by omega)
    · exact ok.apart pj pi (by omega)
    · exact ne (inj_snd ok.2.1 pi pj (by omega))
  have len : ∀ {A B : List Int}, A.Nodup → (∀ x ∈ A, x ∈ B) → A.length ≤ B.length := by
    intro A
    induction A with
    | nil => intro B _ _; exact Nat.zero_le _
    | cons a A ih =>
      intro B h s
      have h' := List.nodup_cons.1 h
      have ha := s a (by simp)
      have := ih (B := B.erase a) h'.2 fun x hx => (List.mem_erase_of_ne (by rintro rfl; exact h'.1 hx)).2 (s x (by simp [hx]))
      rw [List.length_erase_of_mem ha] at this
      have := List.length_pos_of_mem ha
      simp only [List.length_cons]
      omega
  have := len nd (B := ns) fun x hx => ?_
  · simpa using this
  · obtain ⟨p, hp, rfl⟩ := List.mem_map.1 hx
    have a := ok.2.2 p hp
    have mem : ∀ x, hasI ns ns.length x → x ∈ ns := fun x ⟨i, hi, e⟩ => by
      unfold ni at e
      rw [getD_lt hi] at e
      rw [← e]; exact List.getElem_mem hi
    have cov : hasI ns ns.length p.1 ∨ hasI ns ns.length p.2 := by
      have e : ed l tol p.1 p.2 = true := ed_iff.2 ⟨by rw [a.2.2.1, a.2.2.2.1]; decide, a.2.2.2.2.1, a.2.2.2.2.2⟩
      have e' : ed l tol p.2 p.1 = true := by
        rw [ed_iff] at e ⊢
        refine ⟨fun q => e.1 q.symm, e.2.1.symm, ?_⟩
        have := e.2.2
        unfold Proofs.Ytbhkbaapfioijaa.apart at this ⊢
        omega
      rcases Nat.lt_trichotomy p.1 p.2 with q | q | q
      · exact (c p.2 a.2.1 p.1 q e').symm
      · exact absurd q (ok.apart hp hp)
      · exact c p.1 a.1 p.2 q e
    simp only [f]
    split
    · rename_i q; exact mem _ q
    · rename_i q; exact mem _ (cov.resolve_left q)
end Go.Proofs.Ytbhkbaapfioijaa
set_option linter.unusedVariables false
set_option linter.unusedSimpArgs false
namespace Go.Proofs.Ytbhkbaapfioijaa
open Go Go.Am Go.Proofs Go.Sort
/-! ### TempleProofs -/
set_option maxHeartbeats 1000000 in
theorem pc13 (l : List T) (hl : l.length ≤ 9223372036854775807) (tol : Int) (ps : List (Int × Int)) (hp : ps.length ≤ 9223372036854775807) (ns : List Int) (hn : ns.length ≤ 9223372036854775807) : PC Try.prog 13 [vT l, .i .i64 tol, .ag [vQ ps, vi ns]] (.b true) := by
  refine pc_fn fn13 (by simp only [AV.plains, AV.plain, il_plain, bl_plain, Bool.and_true, Bool.true_and, Bool.and_self, flT_plain, flQ_plain]) (by simp only [AV.plains, AV.plain, il_plain, bl_plain, Bool.and_true, Bool.true_and, Bool.and_self, flT_plain, flQ_plain]) (Nat.le_of_ble_eq_true rfl) ?_
  rw [initSt3]
  have q23 := pc23 l hl 60
  have q14 := pc14 l hl
  by_cases hv : VL l
  · rw [vl_t hv] at q14
    by_cases C : l.length ≤ 60 ∧ ps.length ≤ 60 ∧ ns.length ≤ 60 ∧ 0 ≤ tol ∧ tol ≤ 1000
    · obtain ⟨c1, c2, c3, c4, c5⟩ := C
      have h0 : asked l tol = 0 := asked_yes hv ⟨c4, c5⟩
      have a17 := pc17 l hl tol
      have a16 := mostR hv ⟨c4, c5⟩
      have a18 := pc18 l hl tol
      have a30 := pc30 l hl tol
      have rc := rest_count (match_ok l tol)
      have a19 := pc19 l hl tol (pI (matchL l tol)) (by have := mc_len l tol 9; simp only [pI, List.length_map]; unfold matchL; omega)
      rw [chk_ok h0 (match_ok l tol), ← vP_vQ] at a19
      have a38 := pc38 l hl tol ps hp
      have a41 := pc41 l hl tol ns hn
      unfold matR at a17
      unfold resR at a30
      rw [h0, if_pos rfl] at a17
      rw [h0, if_pos rfl] at a30
      have b1 : chk l tol ps = 0 → ps.length ≤ (matchL l tol).length := chk_le h0
      have b2 : isG l tol ns = (true, 0) → (matchL l tol).length ≤ ns.length := isG_le
      have a20 : ∀ g, GOK l tol g → PC Try.prog 20 [vT l, .i .i64 tol, .vs g.length (nl g)] (.tu [.b true, .i .i64 0]) := fun g hg => by
        have := pc20 l hl tol (g.map fun (n : Nat) => (n : Int)) (by have := hg.le; rw [List.length_map]; omega)
        rwa [hg.is h0, vi_nat] at this
      have hA : (matchL l tol).length ≤ 9 * l.length := mc_len l tol 9
      have gR : ∀ r, GR l tol r → ∃ g : List Nat, GOK l tol g ∧ r = .tu [.vs g.length (nl g), .i .i64 0] := fun r hR => by
        rcases hR with ⟨_, hg⟩ | ⟨hn, _⟩
        · exact hg
        · exact absurd h0 hn
      have rl := rst_len l (matchL l tol) l.length
      obtain ⟨x, e, hx⟩ : ∃ x e, isG l tol ns = (x, e) := ⟨_, _, rfl⟩
      rw [hx] at a41 b2
      repeat' first
        | with_reducible refine k_seq ?_
        | with_reducible refine k_skip ?_
        | with_reducible refine k_blkS ?_
        | with_reducible refine k_blkR ?_
        | with_reducible refine k_blkC ?_
        | with_reducible refine k_blkH ?_
        | with_reducible refine k_blkB ?_
        | with_reducible refine k_blkK ?_
        | with_reducible refine k_blkE ?_
        | with_reducible refine k_reg ?_
        | with_reducible refine k_head (by with_unfolding_all rfl) ?_
        | with_reducible refine k_headS ?_
        | (with_reducible refine SepK.mk ?_ ?_; (refine sepQ_P ?_; simp [sepQ, sepG, AOp.late, AOp.free, AOp.xs, AOp.isAl, tokNe, AV.tok, stS_get, strip, AX.val, c13r0, c13r1, c13r2, c13r3, c13r4, c13r5, c13r6, c13r7, c13r8, c13r9, c13r10, c13r11, c13r12, c13r13, c13r14, c13r15, c13r16, c13r17, c13r18, GA]; try omega))
        | with_reducible refine r_done ?_
        | with_reducible refine hr_done ?_
        | with_reducible refine s_go (by simp (disch := omega) only [c13r0, c13r1, c13r2, c13r3, c13r4, c13r5, c13r6, c13r7, c13r8, c13r9, c13r10, c13r11, c13r12, c13r13, c13r14, c13r15, c13r16, c13r17, c13r18, EV0, EV1, EV2, EV3, EV4, EV5, EV6, EV7, EV8, VALS, plug, ite_same, decide_true, decide_false, eq_self, ↓reduceIte, reduceCtorEq, Nat.reduceAdd, Nat.reduceEqDiff, Nat.reduceLT, Nat.reduceLeDiff, Nat.reduceMul, Nat.reduceSub, Nat.reduceDiv, Int.reduceToNat, Int.reduceAdd, Int.reduceSub, Int.reduceMul, Int.reduceNeg, Int.reduceEq, Int.reduceLT, Int.reduceLE]; with_reducible rfl) ?_
        | with_reducible refine h_go (by with_unfolding_all rfl) (by simp (disch := omega) only [c13r0, c13r1, c13r2, c13r3, c13r4, c13r5, c13r6, c13r7, c13r8, c13r9, c13r10, c13r11, c13r12, c13r13, c13r14, c13r15, c13r16, c13r17, c13r18, EV0, EV1, EV2, EV3, EV4, EV5, EV6, EV7, EV8, VALS, plug, ite_same, decide_true, decide_false, eq_self, ↓reduceIte, reduceCtorEq, Nat.reduceAdd, Nat.reduceEqDiff, Nat.reduceLT, Nat.reduceLeDiff, Nat.reduceMul, Nat.reduceSub, Nat.reduceDiv, Int.reduceToNat, Int.reduceAdd, Int.reduceSub, Int.reduceMul, Int.reduceNeg, Int.reduceEq, Int.reduceLT, Int.reduceLE]; with_reducible rfl) ?_
        | ((with_reducible refine chk_r ?_); refine r_callF (by simp only [CA, Nat.reduceEqDiff, ↓reduceIte]; rfl) (by exact rfl) (by simp only [CA, Nat.reduceEqDiff, ↓reduceIte]; rfl) rfl ?_)
        | ((with_reducible refine chk_h ?_); refine hr_callF (by simp only [CA, Nat.reduceEqDiff, ↓reduceIte]; rfl) (by exact rfl) (by simp only [CA, Nat.reduceEqDiff, ↓reduceIte]; rfl) rfl ?_)
        | ((with_reducible refine chk_r ?_); refine r_callP (by simp only [CA, Nat.reduceEqDiff, ↓reduceIte]; rfl) (by simp only [CA, Nat.reduceEqDiff, ↓reduceIte]; rfl) (by first | exact q23 _ | exact q14 _ | exact pc24 _ | exact a17 _ | exact a16 _) rfl ?_)
        | ((with_reducible refine chk_h ?_); refine hr_callP (by simp only [CA, Nat.reduceEqDiff, ↓reduceIte]; rfl) (by simp only [CA, Nat.reduceEqDiff, ↓reduceIte]; rfl) (by first | exact q23 _ | exact q14 _ | exact pc24 _ | exact a17 _ | exact a16 _) rfl ?_)
        | ((with_reducible refine chk_h ?_); refine hr_callP1 (by simp only [CA, Nat.reduceEqDiff, ↓reduceIte]; rfl) (by simp only [CA, Nat.reduceEqDiff, ↓reduceIte]; rfl) (by simp (disch := omega) only [CA, Nat.reduceEqDiff, ↓reduceIte, firstTok_nil, firstTok_sl, firstTok_sl0, firstTok_i, firstTok_b, firstTok_ag, firstTok_p, firstTok_s]; rfl) (by first | exact q23 _ | exact q14 _ | exact pc24 _ | exact a17 _ | exact a16 _) rfl ?_)
        | ((with_reducible refine chk_r ?_); refine r_callG (by simp only [CA, Nat.reduceEqDiff, ↓reduceIte]; rfl) (by simp only [CA, Nat.reduceEqDiff, ↓reduceIte]; rfl) (by simp only [CA, Nat.reduceEqDiff, ↓reduceIte]; rfl) (by intro hg; (try simp only [BO] at hg); first | exact q23 _ | exact q14 _ | exact pc24 _ | exact a17 _ | exact a16 _) rfl ?_)
        | ((with_reducible refine chk_h ?_); refine hr_callG (by simp only [CA, Nat.reduceEqDiff, ↓reduceIte]; rfl) (by simp only [CA, Nat.reduceEqDiff, ↓reduceIte]; rfl) (by simp only [CA, Nat.reduceEqDiff, ↓reduceIte]; rfl) (by intro hg; (try simp only [BO] at hg); first | exact q23 _ | exact q14 _ | exact pc24 _ | exact a17 _ | exact a16 _) rfl ?_)
        | ((with_reducible refine chk_h ?_); refine hr_app (by simp (disch := omega) only [c13r0, c13r1, c13r2, c13r3, c13r4, c13r5, c13r6, c13r7, c13r8, c13r9, c13r10, c13r11, c13r12, c13r13, c13r14, c13r15, c13r16, c13r17, c13r18, EV0, EV1, EV2, EV3, EV4, EV5, EV6, EV7, EV8, VALS, plug, ite_same, decide_true, decide_false, eq_self, ↓reduceIte, reduceCtorEq, Nat.reduceAdd, Nat.reduceEqDiff, Nat.reduceLT, Nat.reduceLeDiff, Nat.reduceMul, Nat.reduceSub, Nat.reduceDiv, Int.reduceToNat, Int.reduceAdd, Int.reduceSub, Int.reduceMul, Int.reduceNeg, Int.reduceEq, Int.reduceLT, Int.reduceLE]; with_reducible rfl) rfl ?_)
        | ((with_reducible refine chk_r ?_); refine r_callX (by simp only [CA, Nat.reduceEqDiff, ↓reduceIte]; rfl) (by simp only [CA, Nat.reduceEqDiff, ↓reduceIte]; rfl) (by first | exact a18 _) rfl ?_)
        | ((with_reducible refine chk_r ?_); refine r_callTX (by first | (simp only [CA, Nat.reduceEqDiff, ↓reduceIte]; rfl) | simp only [CA, Nat.reduceEqDiff, ↓reduceIte]) (by simp only [CA, Nat.reduceEqDiff, ↓reduceIte]; rfl) (by simp only [CA, Nat.reduceEqDiff, ↓reduceIte]; rfl) (by first | exact a18 _) rfl ?_)
        | (with_reducible refine k_condP (by simp only [GA, Nat.reduceEqDiff, ↓reduceIte]; rfl) (by first | (simp only [BO]; rfl) | rfl) (fun ht => ?_) (fun ht => ?_) <;> try (first | exact False.elim ht | exact absurd rfl ht | exact absurd trivial ht | exact Bool.noConfusion ht))
        | (with_reducible refine k_ret ?_; repeat with_reducible (first | refine ret_thru ?_ | refine ret_blk ?_ | refine fin ?_))
        | (with_reducible refine k_exit ?_; repeat with_reducible (first | refine thru ?_ | refine out_blk ?_ | refine pass (by decide) ?_))
        | (refine post1 ?_; simp only [GA, Nat.reduceEqDiff, ↓reduceIte])
        | (refine post2 ?_; simp only [GA, Nat.reduceEqDiff, ↓reduceIte])
        | (refine post3 ?_; simp only [GA, Nat.reduceEqDiff, ↓reduceIte])
        | (refine postc (by simp only [GA, Nat.reduceEqDiff, ↓reduceIte]; rfl) (by simp (disch := omega) only [c13r0, c13r1, c13r2, c13r3, c13r4, c13r5, c13r6, c13r7, c13r8, c13r9, c13r10, c13r11, c13r12, c13r13, c13r14, c13r15, c13r16, c13r17, c13r18, EV0, EV1, EV2, EV3, EV4, EV5, EV6, EV7, EV8, VALS, plug, ite_same, decide_true, decide_false, eq_self, ↓reduceIte, reduceCtorEq, Nat.reduceAdd, Nat.reduceEqDiff, Nat.reduceLT, Nat.reduceLeDiff, Nat.reduceMul, Nat.reduceSub, Nat.reduceDiv, Int.reduceToNat, Int.reduceAdd, Int.reduceSub, Int.reduceMul, Int.reduceNeg, Int.reduceEq, Int.reduceLT, Int.reduceLE]; rfl) ?_)
        | refine post0 ?_
      all_goals try (exfalso; omega)
      rintro r h' ⟨hR, rfl⟩
      obtain ⟨g, hg, rfl⟩ := gR r hR
      have a20 := a20 g hg
      have gl := hg.len
      generalize rst l (matchL l tol) l.length = R at *
      generalize matchL l tol = M at *
      generalize chk l tol ps = V at *
      have f1 : ((g.length : Int) = (M.length : Int)) = True := by simp [gl]
      have f2 : ((R.length : Int) + 2 * (M.length : Int) = (l.length : Int)) = True := by simp; omega
      repeat' first
        | with_reducible refine k_seq ?_
        | with_reducible refine k_skip ?_
        | with_reducible refine k_blkS ?_
        | with_reducible refine k_blkR ?_
        | with_reducible refine k_blkC ?_
        | with_reducible refine k_blkH ?_
        | with_reducible refine k_blkB ?_
        | with_reducible refine k_blkK ?_
        | with_reducible refine k_blkE ?_
        | with_reducible refine k_reg ?_
        | with_reducible refine k_head (by with_unfolding_all rfl) ?_
        | with_reducible refine k_headS ?_
        | (with_reducible refine SepK.mk ?_ ?_; (refine sepQ_P ?_; simp [sepQ, sepG, AOp.late, AOp.free, AOp.xs, AOp.isAl, tokNe, AV.tok, stS_get, strip, AX.val, c13r0, c13r1, c13r2, c13r3, c13r4, c13r5, c13r6, c13r7, c13r8, c13r9, c13r10, c13r11, c13r12, c13r13, c13r14, c13r15, c13r16, c13r17, c13r18, GA]; try omega))
        | with_reducible refine r_done ?_
        | with_reducible refine hr_done ?_
        | with_reducible refine s_go (by simp (disch := omega) only [f1, f2, c13r0, c13r1, c13r2, c13r3, c13r4, c13r5, c13r6, c13r7, c13r8, c13r9, c13r10, c13r11, c13r12, c13r13, c13r14, c13r15, c13r16, c13r17, c13r18, EV0, EV1, EV2, EV3, EV4, EV5, EV6, EV7, EV8, VALS, plug, ite_same, decide_true, decide_false, eq_self, ↓reduceIte, reduceCtorEq, Nat.reduceAdd, Nat.reduceEqDiff, Nat.reduceLT, Nat.reduceLeDiff, Nat.reduceMul, Nat.reduceSub, Nat.reduceDiv, Int.reduceToNat, Int.reduceAdd, Int.reduceSub, Int.reduceMul, Int.reduceNeg, Int.reduceEq, Int.reduceLT, Int.reduceLE]; with_reducible rfl) ?_
        | with_reducible refine h_go (by with_unfolding_all rfl) (by simp (disch := omega) only [f1, f2, c13r0, c13r1, c13r2, c13r3, c13r4, c13r5, c13r6, c13r7, c13r8, c13r9, c13r10, c13r11, c13r12, c13r13, c13r14, c13r15, c13r16, c13r17, c13r18, EV0, EV1, EV2, EV3, EV4, EV5, EV6, EV7, EV8, VALS, plug, ite_same, decide_true, decide_false, eq_self, ↓reduceIte, reduceCtorEq, Nat.reduceAdd, Nat.reduceEqDiff, Nat.reduceLT, Nat.reduceLeDiff, Nat.reduceMul, Nat.reduceSub, Nat.reduceDiv, Int.reduceToNat, Int.reduceAdd, Int.reduceSub, Int.reduceMul, Int.reduceNeg, Int.reduceEq, Int.reduceLT, Int.reduceLE]; with_reducible rfl) ?_
        | ((with_reducible refine chk_r ?_); refine r_callF (by simp only [CA, Nat.reduceEqDiff, ↓reduceIte]; rfl) (by exact rfl) (by simp only [CA, Nat.reduceEqDiff, ↓reduceIte]; rfl) rfl ?_)
        | ((with_reducible refine chk_h ?_); refine hr_callF (by simp only [CA, Nat.reduceEqDiff, ↓reduceIte]; rfl) (by exact rfl) (by simp only [CA, Nat.reduceEqDiff, ↓reduceIte]; rfl) rfl ?_)
        | ((with_reducible refine chk_r ?_); refine r_callP (by simp only [CA, Nat.reduceEqDiff, ↓reduceIte]; rfl) (by simp only [CA, Nat.reduceEqDiff, ↓reduceIte]; rfl) (by first | exact q23 _ | exact q14 _ | exact pc24 _ | exact a30 _ | exact a19 _ | exact a20 _ | exact a38 _ | exact a41 _) rfl ?_)
        | ((with_reducible refine chk_h ?_); refine hr_callP (by simp only [CA, Nat.reduceEqDiff, ↓reduceIte]; rfl) (by simp only [CA, Nat.reduceEqDiff, ↓reduceIte]; rfl) (by first | exact q23 _ | exact q14 _ | exact pc24 _ | exact a30 _ | exact a19 _ | exact a20 _ | exact a38 _ | exact a41 _) rfl ?_)
        | ((with_reducible refine chk_h ?_); refine hr_callP1 (by simp only [CA, Nat.reduceEqDiff, ↓reduceIte]; rfl) (by simp only [CA, Nat.reduceEqDiff, ↓reduceIte]; rfl) (by simp (disch := omega) only [CA, Nat.reduceEqDiff, ↓reduceIte, firstTok_nil, firstTok_sl, firstTok_sl0, firstTok_i, firstTok_b, firstTok_ag, firstTok_p, firstTok_s]; rfl) (by first | exact q23 _ | exact q14 _ | exact pc24 _ | exact a30 _ | exact a19 _ | exact a20 _ | exact a38 _ | exact a41 _) rfl ?_)
        | ((with_reducible refine chk_r ?_); refine r_callG (by simp only [CA, Nat.reduceEqDiff, ↓reduceIte]; rfl) (by simp only [CA, Nat.reduceEqDiff, ↓reduceIte]; rfl) (by simp only [CA, Nat.reduceEqDiff, ↓reduceIte]; rfl) (by intro hg; (try simp only [BO] at hg); first | exact q23 _ | exact q14 _ | exact pc24 _ | exact a30 _ | exact a19 _ | exact a20 _ | exact a38 _ | exact a41 _) rfl ?_)
        | ((with_reducible refine chk_h ?_); refine hr_callG (by simp only [CA, Nat.reduceEqDiff, ↓reduceIte]; rfl) (by simp only [CA, Nat.reduceEqDiff, ↓reduceIte]; rfl) (by simp only [CA, Nat.reduceEqDiff, ↓reduceIte]; rfl) (by intro hg; (try simp only [BO] at hg); first | exact q23 _ | exact q14 _ | exact pc24 _ | exact a30 _ | exact a19 _ | exact a20 _ | exact a38 _ | exact a41 _) rfl ?_)
        | ((with_reducible refine chk_h ?_); refine hr_app (by simp (disch := omega) only [f1, f2, c13r0, c13r1, c13r2, c13r3, c13r4, c13r5, c13r6, c13r7, c13r8, c13r9, c13r10, c13r11, c13r12, c13r13, c13r14, c13r15, c13r16, c13r17, c13r18, EV0, EV1, EV2, EV3, EV4, EV5, EV6, EV7, EV8, VALS, plug, ite_same, decide_true, decide_false, eq_self, ↓reduceIte, reduceCtorEq, Nat.reduceAdd, Nat.reduceEqDiff, Nat.reduceLT, Nat.reduceLeDiff, Nat.reduceMul, Nat.reduceSub, Nat.reduceDiv, Int.reduceToNat, Int.reduceAdd, Int.reduceSub, Int.reduceMul, Int.reduceNeg, Int.reduceEq, Int.reduceLT, Int.reduceLE]; with_reducible rfl) rfl ?_)
        | (with_reducible refine k_condP (by simp only [GA, Nat.reduceEqDiff, ↓reduceIte]; rfl) (by first | (simp only [BO]; rfl) | rfl) (fun ht => ?_) (fun ht => ?_) <;> try (first | exact False.elim ht | exact absurd rfl ht | exact absurd trivial ht | exact Bool.noConfusion ht))
        | (with_reducible refine k_ret ?_; repeat with_reducible (first | refine ret_thru ?_ | refine ret_blk ?_ | refine fin ?_))
        | (with_reducible refine k_exit ?_; repeat with_reducible (first | refine thru ?_ | refine out_blk ?_ | refine pass (by decide) ?_))
        | (refine post1 ?_; simp only [GA, Nat.reduceEqDiff, ↓reduceIte])
        | (refine post2 ?_; simp only [GA, Nat.reduceEqDiff, ↓reduceIte])
        | (refine post3 ?_; simp only [GA, Nat.reduceEqDiff, ↓reduceIte])
        | (refine postc (by simp only [GA, Nat.reduceEqDiff, ↓reduceIte]; rfl) (by simp (disch := omega) only [f1, f2, c13r0, c13r1, c13r2, c13r3, c13r4, c13r5, c13r6, c13r7, c13r8, c13r9, c13r10, c13r11, c13r12, c13r13, c13r14, c13r15, c13r16, c13r17, c13r18, EV0, EV1, EV2, EV3, EV4, EV5, EV6, EV7, EV8, VALS, plug, ite_same, decide_true, decide_false, eq_self, ↓reduceIte, reduceCtorEq, Nat.reduceAdd, Nat.reduceEqDiff, Nat.reduceLT, Nat.reduceLeDiff, Nat.reduceMul, Nat.reduceSub, Nat.reduceDiv, Int.reduceToNat, Int.reduceAdd, Int.reduceSub, Int.reduceMul, Int.reduceNeg, Int.reduceEq, Int.reduceLT, Int.reduceLE]; rfl) ?_)
        | refine post0 ?_
      all_goals first | exact ends_of | (exfalso; omega) | (exfalso; obtain ⟨⟨hx1, hx2⟩, h3⟩ := ht; have := b2 (by rw [hx1, hx2]); omega)
    · repeat' first
        | with_reducible refine k_seq ?_
        | with_reducible refine k_skip ?_
        | with_reducible refine k_blkS ?_
        | with_reducible refine k_blkR ?_
        | with_reducible refine k_blkC ?_
        | with_reducible refine k_blkH ?_
        | with_reducible refine k_blkB ?_
        | with_reducible refine k_blkK ?_
        | with_reducible refine k_blkE ?_
        | with_reducible refine k_reg ?_
        | with_reducible refine k_head (by with_unfolding_all rfl) ?_
        | with_reducible refine k_headS ?_
        | (with_reducible refine SepK.mk ?_ ?_; (refine sepQ_P ?_; simp [sepQ, sepG, AOp.late, AOp.free, AOp.xs, AOp.isAl, tokNe, AV.tok, stS_get, strip, AX.val, c13r0, c13r1, c13r2, c13r3, c13r4, c13r5, c13r6, c13r7, c13r8, c13r9, c13r10, c13r11, c13r12, c13r13, c13r14, c13r15, c13r16, c13r17, c13r18, GA]; try omega))
        | with_reducible refine r_done ?_
        | with_reducible refine hr_done ?_
        | with_reducible refine s_go (by simp (disch := omega) only [c13r0, c13r1, c13r2, c13r3, c13r4, c13r5, c13r6, c13r7, c13r8, c13r9, c13r10, c13r11, c13r12, c13r13, c13r14, c13r15, c13r16, c13r17, c13r18, EV0, EV1, EV2, EV3, EV4, EV5, EV6, EV7, EV8, VALS, plug, ite_same, decide_true, decide_false, eq_self, ↓reduceIte, reduceCtorEq, Nat.reduceAdd, Nat.reduceEqDiff, Nat.reduceLT, Nat.reduceLeDiff, Nat.reduceMul, Nat.reduceSub, Nat.reduceDiv, Int.reduceToNat, Int.reduceAdd, Int.reduceSub, Int.reduceMul, Int.reduceNeg, Int.reduceEq, Int.reduceLT, Int.reduceLE]; with_reducible rfl) ?_
        | with_reducible refine h_go (by with_unfolding_all rfl) (by simp (disch := omega) only [c13r0, c13r1, c13r2, c13r3, c13r4, c13r5, c13r6, c13r7, c13r8, c13r9, c13r10, c13r11, c13r12, c13r13, c13r14, c13r15, c13r16, c13r17, c13r18, EV0, EV1, EV2, EV3, EV4, EV5, EV6, EV7, EV8, VALS, plug, ite_same, decide_true, decide_false, eq_self, ↓reduceIte, reduceCtorEq, Nat.reduceAdd, Nat.reduceEqDiff, Nat.reduceLT, Nat.reduceLeDiff, Nat.reduceMul, Nat.reduceSub, Nat.reduceDiv, Int.reduceToNat, Int.reduceAdd, Int.reduceSub, Int.reduceMul, Int.reduceNeg, Int.reduceEq, Int.reduceLT, Int.reduceLE]; with_reducible rfl) ?_
        | ((with_reducible refine chk_r ?_); refine r_callF (by simp only [CA, Nat.reduceEqDiff, ↓reduceIte]; rfl) (by exact rfl) (by simp only [CA, Nat.reduceEqDiff, ↓reduceIte]; rfl) rfl ?_)
        | ((with_reducible refine chk_h ?_); refine hr_callF (by simp only [CA, Nat.reduceEqDiff, ↓reduceIte]; rfl) (by exact rfl) (by simp only [CA, Nat.reduceEqDiff, ↓reduceIte]; rfl) rfl ?_)
        | ((with_reducible refine chk_r ?_); refine r_callP (by simp only [CA, Nat.reduceEqDiff, ↓reduceIte]; rfl) (by simp only [CA, Nat.reduceEqDiff, ↓reduceIte]; rfl) (by first | exact q23 _ | exact q14 _ | exact pc24 _) rfl ?_)
        | ((with_reducible refine chk_h ?_); refine hr_callP (by simp only [CA, Nat.reduceEqDiff, ↓reduceIte]; rfl) (by simp only [CA, Nat.reduceEqDiff, ↓reduceIte]; rfl) (by first | exact q23 _ | exact q14 _ | exact pc24 _) rfl ?_)
        | ((with_reducible refine chk_h ?_); refine hr_callP1 (by simp only [CA, Nat.reduceEqDiff, ↓reduceIte]; rfl) (by simp only [CA, Nat.reduceEqDiff, ↓reduceIte]; rfl) (by simp (disch := omega) only [CA, Nat.reduceEqDiff, ↓reduceIte, firstTok_nil, firstTok_sl, firstTok_sl0, firstTok_i, firstTok_b, firstTok_ag, firstTok_p, firstTok_s]; rfl) (by first | exact q23 _ | exact q14 _ | exact pc24 _) rfl ?_)
        | ((with_reducible refine chk_r ?_); refine r_callG (by simp only [CA, Nat.reduceEqDiff, ↓reduceIte]; rfl) (by simp only [CA, Nat.reduceEqDiff, ↓reduceIte]; rfl) (by simp only [CA, Nat.reduceEqDiff, ↓reduceIte]; rfl) (by intro hg; (try simp only [BO] at hg); first | exact q23 _ | exact q14 _ | exact pc24 _) rfl ?_)
        | ((with_reducible refine chk_h ?_); refine hr_callG (by simp only [CA, Nat.reduceEqDiff, ↓reduceIte]; rfl) (by simp only [CA, Nat.reduceEqDiff, ↓reduceIte]; rfl) (by simp only [CA, Nat.reduceEqDiff, ↓reduceIte]; rfl) (by intro hg; (try simp only [BO] at hg); first | exact q23 _ | exact q14 _ | exact pc24 _) rfl ?_)
        | ((with_reducible refine chk_h ?_); refine hr_app (by simp (disch := omega) only [c13r0, c13r1, c13r2, c13r3, c13r4, c13r5, c13r6, c13r7, c13r8, c13r9, c13r10, c13r11, c13r12, c13r13, c13r14, c13r15, c13r16, c13r17, c13r18, EV0, EV1, EV2, EV3, EV4, EV5, EV6, EV7, EV8, VALS, plug, ite_same, decide_true, decide_false, eq_self, ↓reduceIte, reduceCtorEq, Nat.reduceAdd, Nat.reduceEqDiff, Nat.reduceLT, Nat.reduceLeDiff, Nat.reduceMul, Nat.reduceSub, Nat.reduceDiv, Int.reduceToNat, Int.reduceAdd, Int.reduceSub, Int.reduceMul, Int.reduceNeg, Int.reduceEq, Int.reduceLT, Int.reduceLE]; with_reducible rfl) rfl ?_)
        | (with_reducible refine k_condP (by simp only [GA, Nat.reduceEqDiff, ↓reduceIte]; rfl) (by first | (simp only [BO]; rfl) | rfl) (fun ht => ?_) (fun ht => ?_) <;> try (first | exact False.elim ht | exact absurd rfl ht | exact absurd trivial ht | exact Bool.noConfusion ht))
        | (with_reducible refine k_ret ?_; repeat with_reducible (first | refine ret_thru ?_ | refine ret_blk ?_ | refine fin ?_))
        | (with_reducible refine k_exit ?_; repeat with_reducible (first | refine thru ?_ | refine out_blk ?_ | refine pass (by decide) ?_))
        | (refine post1 ?_; simp only [GA, Nat.reduceEqDiff, ↓reduceIte])
        | (refine post2 ?_; simp only [GA, Nat.reduceEqDiff, ↓reduceIte])
        | (refine post3 ?_; simp only [GA, Nat.reduceEqDiff, ↓reduceIte])
        | (refine postc (by simp only [GA, Nat.reduceEqDiff, ↓reduceIte]; rfl) (by simp (disch := omega) only [c13r0, c13r1, c13r2, c13r3, c13r4, c13r5, c13r6, c13r7, c13r8, c13r9, c13r10, c13r11, c13r12, c13r13, c13r14, c13r15, c13r16, c13r17, c13r18, EV0, EV1, EV2, EV3, EV4, EV5, EV6, EV7, EV8, VALS, plug, ite_same, decide_true, decide_false, eq_self, ↓reduceIte, reduceCtorEq, Nat.reduceAdd, Nat.reduceEqDiff, Nat.reduceLT, Nat.reduceLeDiff, Nat.reduceMul, Nat.reduceSub, Nat.reduceDiv, Int.reduceToNat, Int.reduceAdd, Int.reduceSub, Int.reduceMul, Int.reduceNeg, Int.reduceEq, Int.reduceLT, Int.reduceLE]; rfl) ?_)
        | refine post0 ?_
      all_goals first | exact ends_of | (exfalso; omega)
  · rw [vl_f hv] at q14
    repeat' first
      | with_reducible refine k_seq ?_
      | with_reducible refine k_skip ?_
      | with_reducible refine k_blkS ?_
      | with_reducible refine k_blkR ?_
      | with_reducible refine k_blkC ?_
      | with_reducible refine k_blkH ?_
      | with_reducible refine k_blkB ?_
      | with_reducible refine k_blkK ?_
      | with_reducible refine k_blkE ?_
      | with_reducible refine k_reg ?_
      | with_reducible refine k_head (by with_unfolding_all rfl) ?_
      | with_reducible refine k_headS ?_
      | (with_reducible refine SepK.mk ?_ ?_; (refine sepQ_P ?_; simp [sepQ, sepG, AOp.late, AOp.free, AOp.xs, AOp.isAl, tokNe, AV.tok, stS_get, strip, AX.val, c13r0, c13r1, c13r2, c13r3, c13r4, c13r5, c13r6, c13r7, c13r8, c13r9, c13r10, c13r11, c13r12, c13r13, c13r14, c13r15, c13r16, c13r17, c13r18, GA]; try omega))
      | with_reducible refine r_done ?_
      | with_reducible refine hr_done ?_
      | with_reducible refine s_go (by simp (disch := omega) only [c13r0, c13r1, c13r2, c13r3, c13r4, c13r5, c13r6, c13r7, c13r8, c13r9, c13r10, c13r11, c13r12, c13r13, c13r14, c13r15, c13r16, c13r17, c13r18, EV0, EV1, EV2, EV3, EV4, EV5, EV6, EV7, EV8, VALS, plug, ite_same, decide_true, decide_false, eq_self, ↓reduceIte, reduceCtorEq, Nat.reduceAdd, Nat.reduceEqDiff, Nat.reduceLT, Nat.reduceLeDiff, Nat.reduceMul, Nat.reduceSub, Nat.reduceDiv, Int.reduceToNat, Int.reduceAdd, Int.reduceSub, Int.reduceMul, Int.reduceNeg, Int.reduceEq, Int.reduceLT, Int.reduceLE]; with_reducible rfl) ?_
      | with_reducible refine h_go (by with_unfolding_all rfl) (by simp (disch := omega) only [c13r0, c13r1, c13r2, c13r3, c13r4, c13r5, c13r6, c13r7, c13r8, c13r9, c13r10, c13r11, c13r12, c13r13, c13r14, c13r15, c13r16, c13r17, c13r18, EV0, EV1, EV2, EV3, EV4, EV5, EV6, EV7, EV8, VALS, plug, ite_same, decide_true, decide_false, eq_self, ↓reduceIte, reduceCtorEq, Nat.reduceAdd, Nat.reduceEqDiff, Nat.reduceLT, Nat.reduceLeDiff, Nat.reduceMul, Nat.reduceSub, Nat.reduceDiv, Int.reduceToNat, Int.reduceAdd, Int.reduceSub, Int.reduceMul, Int.reduceNeg, Int.reduceEq, Int.reduceLT, Int.reduceLE]; with_reducible rfl) ?_
      | ((with_reducible refine chk_r ?_); refine r_callF (by simp only [CA, Nat.reduceEqDiff, ↓reduceIte]; rfl) (by exact rfl) (by simp only [CA, Nat.reduceEqDiff, ↓reduceIte]; rfl) rfl ?_)
      | ((with_reducible refine chk_h ?_); refine hr_callF (by simp only [CA, Nat.reduceEqDiff, ↓reduceIte]; rfl) (by exact rfl) (by simp only [CA, Nat.reduceEqDiff, ↓reduceIte]; rfl) rfl ?_)
      | ((with_reducible refine chk_r ?_); refine r_callP (by simp only [CA, Nat.reduceEqDiff, ↓reduceIte]; rfl) (by simp only [CA, Nat.reduceEqDiff, ↓reduceIte]; rfl) (by first | exact q23 _ | exact q14 _ | exact pc24 _) rfl ?_)
      | ((with_reducible refine chk_h ?_); refine hr_callP (by simp only [CA, Nat.reduceEqDiff, ↓reduceIte]; rfl) (by simp only [CA, Nat.reduceEqDiff, ↓reduceIte]; rfl) (by first | exact q23 _ | exact q14 _ | exact pc24 _) rfl ?_)
      | ((with_reducible refine chk_h ?_); refine hr_callP1 (by simp only [CA, Nat.reduceEqDiff, ↓reduceIte]; rfl) (by simp only [CA, Nat.reduceEqDiff, ↓reduceIte]; rfl) (by simp (disch := omega) only [CA, Nat.reduceEqDiff, ↓reduceIte, firstTok_nil, firstTok_sl, firstTok_sl0, firstTok_i, firstTok_b, firstTok_ag, firstTok_p, firstTok_s]; rfl) (by first | exact q23 _ | exact q14 _ | exact pc24 _) rfl ?_)
      | ((with_reducible refine chk_r ?_); refine r_callG (by simp only [CA, Nat.reduceEqDiff, ↓reduceIte]; rfl) (by simp only [CA, Nat.reduceEqDiff, ↓reduceIte]; rfl) (by simp only [CA, Nat.reduceEqDiff, ↓reduceIte]; rfl) (by intro hg; (try simp only [BO] at hg); first | exact q23 _ | exact q14 _ | exact pc24 _) rfl ?_)
      | ((with_reducible refine chk_h ?_); refine hr_callG (by simp only [CA, Nat.reduceEqDiff, ↓reduceIte]; rfl) (by simp only [CA, Nat.reduceEqDiff, ↓reduceIte]; rfl) (by simp only [CA, Nat.reduceEqDiff, ↓reduceIte]; rfl) (by intro hg; (try simp only [BO] at hg); first | exact q23 _ | exact q14 _ | exact pc24 _) rfl ?_)
      | ((with_reducible refine chk_h ?_); refine hr_app (by simp (disch := omega) only [c13r0, c13r1, c13r2, c13r3, c13r4, c13r5, c13r6, c13r7, c13r8, c13r9, c13r10, c13r11, c13r12, c13r13, c13r14, c13r15, c13r16, c13r17, c13r18, EV0, EV1, EV2, EV3, EV4, EV5, EV6, EV7, EV8, VALS, plug, ite_same, decide_true, decide_false, eq_self, ↓reduceIte, reduceCtorEq, Nat.reduceAdd, Nat.reduceEqDiff, Nat.reduceLT, Nat.reduceLeDiff, Nat.reduceMul, Nat.reduceSub, Nat.reduceDiv, Int.reduceToNat, Int.reduceAdd, Int.reduceSub, Int.reduceMul, Int.reduceNeg, Int.reduceEq, Int.reduceLT, Int.reduceLE]; with_reducible rfl) rfl ?_)
      | (with_reducible refine k_condP (by simp only [GA, Nat.reduceEqDiff, ↓reduceIte]; rfl) (by first | (simp only [BO]; rfl) | rfl) (fun ht => ?_) (fun ht => ?_) <;> try (first | exact False.elim ht | exact absurd rfl ht | exact absurd trivial ht | exact Bool.noConfusion ht))
      | (with_reducible refine k_ret ?_; repeat with_reducible (first | refine ret_thru ?_ | refine ret_blk ?_ | refine fin ?_))
      | (with_reducible refine k_exit ?_; repeat with_reducible (first | refine thru ?_ | refine out_blk ?_ | refine pass (by decide) ?_))
      | (refine post1 ?_; simp only [GA, Nat.reduceEqDiff, ↓reduceIte])
      | (refine post2 ?_; simp only [GA, Nat.reduceEqDiff, ↓reduceIte])
      | (refine post3 ?_; simp only [GA, Nat.reduceEqDiff, ↓reduceIte])
      | (refine postc (by simp only [GA, Nat.reduceEqDiff, ↓reduceIte]; rfl) (by simp (disch := omega) only [c13r0, c13r1, c13r2, c13r3, c13r4, c13r5, c13r6, c13r7, c13r8, c13r9, c13r10, c13r11, c13r12, c13r13, c13r14, c13r15, c13r16, c13r17, c13r18, EV0, EV1, EV2, EV3, EV4, EV5, EV6, EV7, EV8, VALS, plug, ite_same, decide_true, decide_false, eq_self, ↓reduceIte, reduceCtorEq, Nat.reduceAdd, Nat.reduceEqDiff, Nat.reduceLT, Nat.reduceLeDiff, Nat.reduceMul, Nat.reduceSub, Nat.reduceDiv, Int.reduceToNat, Int.reduceAdd, Int.reduceSub, Int.reduceMul, Int.reduceNeg, Int.reduceEq, Int.reduceLT, Int.reduceLE]; rfl) ?_)
      | refine post0 ?_
    all_goals first | exact ends_of | exact ends_eq rfl
theorem pc13' (l : List T) (hl : l.length ≤ 9223372036854775807) (tol : Int) (ps : List (Int × Int)) (hp : ps.length ≤ 9223372036854775807) (ns : List Int) (hn : ns.length ≤ 9223372036854775807) : PC Try.prog 13 [vT l, .i .i64 tol, .ag [vQ ps, .vs ns.length (fl eI ns)]] (.b true) := by
  rw [flI]; exact pc13 l hl tol ps hp ns hn
end Go.Proofs.Ytbhkbaapfioijaa
