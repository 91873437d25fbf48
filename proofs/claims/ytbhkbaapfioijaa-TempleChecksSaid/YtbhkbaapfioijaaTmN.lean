import Derived.Test.YtbhkbaapfioijaaTmL
set_option linter.unusedVariables false
set_option linter.unusedSimpArgs false
namespace Go.Proofs.Ytbhkbaapfioijaa
open Go Go.Am Go.Proofs Go.Sort

/-! ### Pairings that are given -/
def eQ (p : Int × Int) : List AV := [.i .i64 p.1, .i .i64 p.2]
theorem eQ_len (p : Int × Int) : (eQ p).length = 2 := rfl
theorem eQ_plain (p : Int × Int) : AV.plains (eQ p) = true := rfl
theorem flQ_plain (l : List (Int × Int)) : AV.plains (fl eQ l) = true := fl_plain eQ_plain l
theorem rdQ {l : List (Int × Int)} {j : Nat} (h : j < l.length) : rd (fl eQ l) (j * 2) (some 2) = some (.ag (eQ (l.getD j (0, 0)))) := fl_rd eQ_len (0, 0) h
theorem getQ0 {l : List (Int × Int)} {j : Nat} (h : j < l.length) : (fl eQ l)[j * 2]? = some (.i .i64 (l.getD j (0, 0)).1) := fl_get (c := 0) eQ_len (0, 0) h (by omega)
theorem getQ1 {l : List (Int × Int)} {j : Nat} (h : j < l.length) : (fl eQ l)[j * 2 + 1]? = some (.i .i64 (l.getD j (0, 0)).2) := fl_get eQ_len (0, 0) h (by omega)
abbrev vQ (l : List (Int × Int)) : AV := .vs l.length (fl eQ l)
abbrev prs (ps : List (Int × Int)) (k : Nat) : Int × Int := ps.getD k (0, 0)
def rng (n : Nat) (p : Int × Int) : Prop := 0 ≤ p.1 ∧ p.1 < n ∧ 0 ≤ p.2 ∧ p.2 < n
abbrev hadP (ps : List (Int × Int)) (k : Nat) (x : Int) : Prop := ∃ i, i < k ∧ ((prs ps i).1 = x ∨ (prs ps i).2 = x)
def er (l : List T) (good : T → T → Bool) (ps : List (Int × Int)) (k : Nat) : Int :=
  if (hadP ps k (prs ps k).1 ∨ hadP ps k (prs ps k).2) ∨ (prs ps k).1 = (prs ps k).2 then 43
  else if (l.getD (prs ps k).1.toNat T0).side ≠ 1 ∨ good (l.getD (prs ps k).1.toNat T0) (l.getD (prs ps k).2.toNat T0) = false then 42 else 0
def jg (l : List T) (good : T → T → Bool) (ps : List (Int × Int)) : Nat → Nat → Int
  | 0, _ => 0
  | n + 1, k => if er l good ps k = 0 then jg l good ps n (k + 1) else er l good ps k
open Classical in
noncomputable def jd (l : List T) (good : T → T → Bool) (ps : List (Int × Int)) : Int :=
  if ∀ i, i < ps.length → rng l.length (prs ps i) then jg l good ps ps.length 0 else 2
theorem jd_bad {l : List T} {good : T → T → Bool} {ps : List (Int × Int)} {k : Nat} (hk : k < ps.length) (h : ¬ rng l.length (prs ps k)) : jd l good ps = 2 := by
  unfold jd; rw [if_neg]; exact fun hh => h (hh k hk)
theorem jd_ok {l : List T} {good : T → T → Bool} {ps : List (Int × Int)} (h : ∀ i, i < ps.length → rng l.length (prs ps i)) : jd l good ps = jg l good ps ps.length 0 := by
  unfold jd; rw [if_pos h]
theorem jg_err {l : List T} {good : T → T → Bool} {ps : List (Int × Int)} {n k : Nat} {e : Int} (h : er l good ps k = e) (he : e ≠ 0) (hn : 0 < n) : jg l good ps n k = e := by
  obtain ⟨m, rfl⟩ : ∃ m, n = m + 1 := ⟨n - 1, by omega⟩
  simp only [jg, h, if_neg he]
theorem jg_go {l : List T} {good : T → T → Bool} {ps : List (Int × Int)} {n k : Nat} (h : er l good ps k = 0) (hn : 0 < n) : jg l good ps n k = jg l good ps (n - 1) (k + 1) := by
  obtain ⟨m, rfl⟩ : ∃ m, n = m + 1 := ⟨n - 1, by omega⟩
  simp only [jg, h, if_true, Nat.add_sub_cancel]

theorem pc58 (l : List T) (hv : VL l) (ps : List (Int × Int)) (hp : ps.length ≤ 9223372036854775807) (g : Nat) (caps : List AV) (hc : AV.plains caps = true) (good : T → T → Bool)
    (hg : ∀ a b, vt a = true → vt b = true → PC Try.prog g (.ag (eT a) :: .ag (eT b) :: caps) (.b (good a b))) : PC Try.prog 58 [vT l, vQ ps, .fn g [] caps] (.i .i64 (jd l good ps)) := by
  refine pc_fn fn58 (by simp only [AV.plains, AV.plain, il_plain, bl_plain, Bool.and_true, Bool.true_and, Bool.and_self, flT_plain, flQ_plain, hc]) (by simp only [AV.plains, AV.plain, il_plain, bl_plain, Bool.and_true, Bool.true_and, Bool.and_self, flT_plain, flQ_plain, hc]) (Nat.le_of_ble_eq_true rfl) ?_
  rw [initSt3]
  have hl := hv.len
  repeat' first
    | with_reducible refine k_seq ?_
    | with_reducible refine k_skip ?_
    | with_reducible refine k_blkS ?_
    | with_reducible refine k_blkR ?_
    | with_reducible refine k_blkC ?_
    | with_reducible refine k_blkH ?_
    | with_reducible refine k_blkB ?_
    | with_reducible refine k_blkK ?_
    | with_reducible refine k_blkE ?_
    | with_reducible refine k_reg ?_
    | with_reducible refine k_head (by with_unfolding_all rfl) ?_
    | with_reducible refine k_headS ?_
    | (with_reducible refine SepK.mk ?_ ?_; (refine sepQ_P ?_; simp [sepQ, sepG, AOp.late, AOp.free, AOp.xs, AOp.isAl, tokNe, AV.tok, stS_get, strip, AX.val, c58r0, c58r1, c58r2, c58r3, c58r4, c58r5, c58r6, c58r8, c58r9, c58r10, c58r11, c58r12, c58r13, c58r14, c58r15, c58r16, c58r17, c58r18, c58r20, GA]; try omega))
    | with_reducible refine r_done ?_
    | with_reducible refine hr_done ?_
    | with_reducible refine s_go (by simp (disch := omega) only [c58r0, c58r1, c58r2, c58r3, c58r4, c58r5, c58r6, c58r8, c58r9, c58r10, c58r11, c58r12, c58r13, c58r14, c58r15, c58r16, c58r17, c58r18, c58r20, EV0, EV1, EV2, EV3, EV4, EV5, EV6, EV7, EV8, VALS, plug, ite_same, decide_true, decide_false, eq_self, ↓reduceIte, reduceCtorEq, Nat.reduceAdd, Nat.reduceEqDiff, Nat.reduceLT, Nat.reduceLeDiff, Nat.reduceMul, Nat.reduceSub, Nat.reduceDiv, Int.reduceToNat, Int.reduceAdd, Int.reduceSub, Int.reduceMul, Int.reduceNeg, Int.reduceEq, Int.reduceLT, Int.reduceLE]; with_reducible rfl) ?_
    | with_reducible refine h_go (by with_unfolding_all rfl) (by simp (disch := omega) only [c58r0, c58r1, c58r2, c58r3, c58r4, c58r5, c58r6, c58r8, c58r9, c58r10, c58r11, c58r12, c58r13, c58r14, c58r15, c58r16, c58r17, c58r18, c58r20, EV0, EV1, EV2, EV3, EV4, EV5, EV6, EV7, EV8, VALS, plug, ite_same, decide_true, decide_false, eq_self, ↓reduceIte, reduceCtorEq, Nat.reduceAdd, Nat.reduceEqDiff, Nat.reduceLT, Nat.reduceLeDiff, Nat.reduceMul, Nat.reduceSub, Nat.reduceDiv, Int.reduceToNat, Int.reduceAdd, Int.reduceSub, Int.reduceMul, Int.reduceNeg, Int.reduceEq, Int.reduceLT, Int.reduceLE]; with_reducible rfl) ?_
    | ((with_reducible refine chk_r ?_); refine r_callF (by simp only [CA, Nat.reduceEqDiff, ↓reduceIte]; rfl) (by exact rfl) (by simp only [CA, Nat.reduceEqDiff, ↓reduceIte]; rfl) rfl ?_)
    | ((with_reducible refine chk_h ?_); refine hr_callF (by simp only [CA, Nat.reduceEqDiff, ↓reduceIte]; rfl) (by exact rfl) (by simp only [CA, Nat.reduceEqDiff, ↓reduceIte]; rfl) rfl ?_)
    | ((with_reducible refine chk_h ?_); refine hr_app (by simp (disch := omega) only [c58r0, c58r1, c58r2, c58r3, c58r4, c58r5, c58r6, c58r8, c58r9, c58r10, c58r11, c58r12, c58r13, c58r14, c58r15, c58r16, c58r17, c58r18, c58r20, EV0, EV1, EV2, EV3, EV4, EV5, EV6, EV7, EV8, VALS, plug, ite_same, decide_true, decide_false, eq_self, ↓reduceIte, reduceCtorEq, Nat.reduceAdd, Nat.reduceEqDiff, Nat.reduceLT, Nat.reduceLeDiff, Nat.reduceMul, Nat.reduceSub, Nat.reduceDiv, Int.reduceToNat, Int.reduceAdd, Int.reduceSub, Int.reduceMul, Int.reduceNeg, Int.reduceEq, Int.reduceLT, Int.reduceLE]; with_reducible rfl) rfl ?_)
    | (with_reducible refine k_condP (by simp only [GA, Nat.reduceEqDiff, ↓reduceIte]; rfl) (by first | (simp only [BO]; rfl) | rfl) (fun ht => ?_) (fun ht => ?_) <;> try (first | exact False.elim ht | exact absurd rfl ht | exact absurd trivial ht | exact Bool.noConfusion ht))
    | (with_reducible refine k_ret ?_; repeat with_reducible (first | refine ret_thru ?_ | refine ret_blk ?_ | refine fin ?_))
    | (with_reducible refine k_exit ?_; repeat with_reducible (first | refine thru ?_ | refine out_blk ?_ | refine pass (by decide) ?_))
    | (refine post1 ?_; simp only [GA, Nat.reduceEqDiff, ↓reduceIte])
    | (refine post2 ?_; simp only [GA, Nat.reduceEqDiff, ↓reduceIte])
    | (refine post3 ?_; simp only [GA, Nat.reduceEqDiff, ↓reduceIte])
    | (refine postc (by simp only [GA, Nat.reduceEqDiff, ↓reduceIte]; rfl) (by simp (disch := omega) only [c58r0, c58r1, c58r2, c58r3, c58r4, c58r5, c58r6, c58r8, c58r9, c58r10, c58r11, c58r12, c58r13, c58r14, c58r15, c58r16, c58r17, c58r18, c58r20, EV0, EV1, EV2, EV3, EV4, EV5, EV6, EV7, EV8, VALS, plug, ite_same, decide_true, decide_false, eq_self, ↓reduceIte, reduceCtorEq, Nat.reduceAdd, Nat.reduceEqDiff, Nat.reduceLT, Nat.reduceLeDiff, Nat.reduceMul, Nat.reduceSub, Nat.reduceDiv, Int.reduceToNat, Int.reduceAdd, Int.reduceSub, Int.reduceMul, Int.reduceNeg, Int.reduceEq, Int.reduceLT, Int.reduceLE]; rfl) ?_)
    | refine post0 ?_
  refine k_blk (k_loopS (X := Unit) [0, 1, 2, 14, 15, 16] ps.length (fun k _ => [(0, vT l), (1, vQ ps), (2, .fn g [] caps), (14, vQ ps), (15, .i .i64 ps.length), (16, .i .i64 (k : Int))])
    (fun k _ h => ∀ i, i < k → rng l.length (prs ps i)) () (by simp only [Am.keep, List.map_cons, List.map_nil, GA, Nat.reduceEqDiff, ↓reduceIte]; try rfl) (fun i hi => by omega) ?_)
  rintro k _ h hk hr ok pos
  by_cases hlt : k < ps.length
  · have rQ := rdQ hlt
    have hlt' : (k : Int) < ps.length := by omega
    simp only [eQ] at rQ
    repeat' first
      | with_reducible refine k_seq ?_
      | with_reducible refine k_skip ?_
      | with_reducible refine k_blkS ?_
      | with_reducible refine k_blkR ?_
      | with_reducible refine k_blkC ?_
      | with_reducible refine k_blkH ?_
      | with_reducible refine k_blkB ?_
      | with_reducible refine k_blkK ?_
      | with_reducible refine k_blkE ?_
      | with_reducible refine k_reg ?_
      | with_reducible refine k_head (by with_unfolding_all rfl) ?_
      | with_reducible refine k_headS ?_
      | (with_reducible refine SepK.mk ?_ ?_; (refine sepQ_P ?_; simp [sepQ, sepG, AOp.late, AOp.free, AOp.xs, AOp.isAl, tokNe, AV.tok, stS_get, strip, AX.val, c58r0, c58r1, c58r2, c58r3, c58r4, c58r5, c58r6, c58r8, c58r9, c58r10, c58r11, c58r12, c58r13, c58r14, c58r15, c58r16, c58r17, c58r18, c58r20, GA]; try omega))
      | with_reducible refine r_done ?_
      | with_reducible refine hr_done ?_
      | with_reducible refine s_go (by simp (disch := omega) only [rQ, hlt', c58r0, c58r1, c58r2, c58r3, c58r4, c58r5, c58r6, c58r8, c58r9, c58r10, c58r11, c58r12, c58r13, c58r14, c58r15, c58r16, c58r17, c58r18, c58r20, EV0, EV1, EV2, EV3, EV4, EV5, EV6, EV7, EV8, VALS, plug, ite_same, decide_true, decide_false, eq_self, ↓reduceIte, reduceCtorEq, Nat.reduceAdd, Nat.reduceEqDiff, Nat.reduceLT, Nat.reduceLeDiff, Nat.reduceMul, Nat.reduceSub, Nat.reduceDiv, Int.reduceToNat, Int.reduceAdd, Int.reduceSub, Int.reduceMul, Int.reduceNeg, Int.reduceEq, Int.reduceLT, Int.reduceLE]; with_reducible rfl) ?_
      | with_reducible refine h_go (by with_unfolding_all rfl) (by simp (disch := omega) only [rQ, hlt', c58r0, c58r1, c58r2, c58r3, c58r4, c58r5, c58r6, c58r8, c58r9, c58r10, c58r11, c58r12, c58r13, c58r14, c58r15, c58r16, c58r17, c58r18, c58r20, EV0, EV1, EV2, EV3, EV4, EV5, EV6, EV7, EV8, VALS, plug, ite_same, decide_true, decide_false, eq_self, ↓reduceIte, reduceCtorEq, Nat.reduceAdd, Nat.reduceEqDiff, Nat.reduceLT, Nat.reduceLeDiff, Nat.reduceMul, Nat.reduceSub, Nat.reduceDiv, Int.reduceToNat, Int.reduceAdd, Int.reduceSub, Int.reduceMul, Int.reduceNeg, Int.reduceEq, Int.reduceLT, Int.reduceLE]; with_reducible rfl) ?_
      | ((with_reducible refine chk_r ?_); refine r_callF (by simp only [CA, Nat.reduceEqDiff, ↓reduceIte]; rfl) (by exact rfl) (by simp only [CA, Nat.reduceEqDiff, ↓reduceIte]; rfl) rfl ?_)
      | ((with_reducible refine chk_h ?_); refine hr_callF (by simp only [CA, Nat.reduceEqDiff, ↓reduceIte]; rfl) (by exact rfl) (by simp only [CA, Nat.reduceEqDiff, ↓reduceIte]; rfl) rfl ?_)
      | ((with_reducible refine chk_r ?_); refine r_callP (by simp only [CA, Nat.reduceEqDiff, ↓reduceIte]; rfl) (by simp only [CA, Nat.reduceEqDiff, ↓reduceIte]; rfl) (by first | exact pc71 _ _ _ _) rfl ?_)
      | ((with_reducible refine chk_h ?_); refine hr_callP (by simp only [CA, Nat.reduceEqDiff, ↓reduceIte]; rfl) (by simp only [CA, Nat.reduceEqDiff, ↓reduceIte]; rfl) (by first | exact pc71 _ _ _ _) rfl ?_)
      | ((with_reducible refine chk_h ?_); refine hr_callP1 (by simp only [CA, Nat.reduceEqDiff, ↓reduceIte]; rfl) (by simp only [CA, Nat.reduceEqDiff, ↓reduceIte]; rfl) (by simp (disch := omega) only [CA, Nat.reduceEqDiff, ↓reduceIte, firstTok_nil, firstTok_sl, firstTok_sl0, firstTok_i, firstTok_b, firstTok_ag, firstTok_p, firstTok_s]; rfl) (by first | exact pc71 _ _ _ _) rfl ?_)
      | ((with_reducible refine chk_r ?_); refine r_callG (by simp only [CA, Nat.reduceEqDiff, ↓reduceIte]; rfl) (by simp only [CA, Nat.reduceEqDiff, ↓reduceIte]; rfl) (by simp only [CA, Nat.reduceEqDiff, ↓reduceIte]; rfl) (by intro hg; (try simp only [BO] at hg); first | exact pc71 _ _ _ _) rfl ?_)
      | ((with_reducible refine chk_h ?_); refine hr_callG (by simp only [CA, Nat.reduceEqDiff, ↓reduceIte]; rfl) (by simp only [CA, Nat.reduceEqDiff, ↓reduceIte]; rfl) (by simp only [CA, Nat.reduceEqDiff, ↓reduceIte]; rfl) (by intro hg; (try simp only [BO] at hg); first | exact pc71 _ _ _ _) rfl ?_)
      | ((with_reducible refine chk_h ?_); refine hr_app (by simp (disch := omega) only [rQ, hlt', c58r0, c58r1, c58r2, c58r3, c58r4, c58r5, c58r6, c58r8, c58r9, c58r10, c58r11, c58r12, c58r13, c58r14, c58r15, c58r16, c58r17, c58r18, c58r20, EV0, EV1, EV2, EV3, EV4, EV5, EV6, EV7, EV8, VALS, plug, ite_same, decide_true, decide_false, eq_self, ↓reduceIte, reduceCtorEq, Nat.reduceAdd, Nat.reduceEqDiff, Nat.reduceLT, Nat.reduceLeDiff, Nat.reduceMul, Nat.reduceSub, Nat.reduceDiv, Int.reduceToNat, Int.reduceAdd, Int.reduceSub, Int.reduceMul, Int.reduceNeg, Int.reduceEq, Int.reduceLT, Int.reduceLE]; with_reducible rfl) rfl ?_)
      | (with_reducible refine k_condP (by simp only [GA, Nat.reduceEqDiff, ↓reduceIte]; rfl) (by first | (simp only [BO]; rfl) | rfl) (fun ht => ?_) (fun ht => ?_) <;> try (first | exact False.elim ht | exact absurd rfl ht | exact absurd trivial ht | exact Bool.noConfusion ht))
      | (with_reducible refine k_ret ?_; repeat with_reducible (first | refine ret_thru ?_ | refine ret_blk ?_ | refine fin ?_))
      | (with_reducible refine k_exit ?_; repeat with_reducible (first | refine thru ?_ | refine out_blk ?_ | refine pass (by decide) ?_))
      | (refine post1 ?_; simp only [GA, Nat.reduceEqDiff, ↓reduceIte])
      | (refine post2 ?_; simp only [GA, Nat.reduceEqDiff, ↓reduceIte])
      | (refine post3 ?_; simp only [GA, Nat.reduceEqDiff, ↓reduceIte])
      | (refine postc (by simp only [GA, Nat.reduceEqDiff, ↓reduceIte]; rfl) (by simp (disch := omega) only [rQ, hlt', c58r0, c58r1, c58r2, c58r3, c58r4, c58r5, c58r6, c58r8, c58r9, c58r10, c58r11, c58r12, c58r13, c58r14, c58r15, c58r16, c58r17, c58r18, c58r20, EV0, EV1, EV2, EV3, EV4, EV5, EV6, EV7, EV8, VALS, plug, ite_same, decide_true, decide_false, eq_self, ↓reduceIte, reduceCtorEq, Nat.reduceAdd, Nat.reduceEqDiff, Nat.reduceLT, Nat.reduceLeDiff, Nat.reduceMul, Nat.reduceSub, Nat.reduceDiv, Int.reduceToNat, Int.reduceAdd, Int.reduceSub, Int.reduceMul, Int.reduceNeg, Int.reduceEq, Int.reduceLT, Int.reduceLE]; rfl) ?_)
      | refine post0 ?_
    · rw [jd_bad hlt (by unfold rng; simp only [prs] at *; omega)]
      exact ends_of
    · refine ⟨hlt, (), (by simp only [Am.keep, List.map_cons, List.map_nil, GA, Nat.reduceEqDiff, ↓reduceIte]; try rfl), fun i hi => ?_⟩
      by_cases e : i = k
      · subst e; unfold rng; simp only [prs] at *; omega
      · exact hr i (by omega)
  · obtain rfl : k = ps.length := by omega
    have hlt' : ¬ (ps.length : Int) < ps.length := by omega
    rw [jd_ok hr]
    repeat' first
      | with_reducible refine k_seq ?_
      | with_reducible refine k_skip ?_
      | with_reducible refine k_blkS ?_
      | with_reducible refine k_blkR ?_
      | with_reducible refine k_blkC ?_
      | with_reducible refine k_blkH ?_
      | with_reducible refine k_blkB ?_
      | with_reducible refine k_blkK ?_
      | with_reducible refine k_blkE ?_
      | with_reducible refine k_reg ?_
      | with_reducible refine k_head (by with_unfolding_all rfl) ?_
      | with_reducible refine k_headS ?_
      | (with_reducible refine SepK.mk ?_ ?_; (refine sepQ_P ?_; simp [sepQ, sepG, AOp.late, AOp.free, AOp.xs, AOp.isAl, tokNe, AV.tok, stS_get, strip, AX.val, c58r0, c58r1, c58r2, c58r3, c58r4, c58r5, c58r6, c58r8, c58r9, c58r10, c58r11, c58r12, c58r13, c58r14, c58r15, c58r16, c58r17, c58r18, c58r20, GA]; try omega))
      | with_reducible refine r_done ?_
      | with_reducible refine hr_done ?_
      | with_reducible refine s_go (by simp (disch := omega) only [hlt', c58r0, c58r1, c58r2, c58r3, c58r4, c58r5, c58r6, c58r8, c58r9, c58r10, c58r11, c58r12, c58r13, c58r14, c58r15, c58r16, c58r17, c58r18, c58r20, EV0, EV1, EV2, EV3, EV4, EV5, EV6, EV7, EV8, VALS, plug, ite_same, decide_true, decide_false, eq_self, ↓reduceIte, reduceCtorEq, Nat.reduceAdd, Nat.reduceEqDiff, Nat.reduceLT, Nat.reduceLeDiff, Nat.reduceMul, Nat.reduceSub, Nat.reduceDiv, Int.reduceToNat, Int.reduceAdd, Int.reduceSub, Int.reduceMul, Int.reduceNeg, Int.reduceEq, Int.reduceLT, Int.reduceLE]; with_reducible rfl) ?_
      | with_reducible refine h_go (by with_unfolding_all rfl) (by simp (disch := omega) only [hlt', c58r0, c58r1, c58r2, c58r3, c58r4, c58r5, c58r6, c58r8, c58r9, c58r10, c58r11, c58r12, c58r13, c58r14, c58r15, c58r16, c58r17, c58r18, c58r20, EV0, EV1, EV2, EV3, EV4, EV5, EV6, EV7, EV8, VALS, plug, ite_same, decide_true, decide_false, eq_self, ↓reduceIte, reduceCtorEq, Nat.reduceAdd, Nat.reduceEqDiff, Nat.reduceLT, Nat.reduceLeDiff, Nat.reduceMul, Nat.reduceSub, Nat.reduceDiv, Int.reduceToNat, Int.reduceAdd, Int.reduceSub, Int.reduceMul, Int.reduceNeg, Int.reduceEq, Int.reduceLT, Int.reduceLE]; with_reducible rfl) ?_
      | ((with_reducible refine chk_r ?_); refine r_callF (by simp only [CA, Nat.reduceEqDiff, ↓reduceIte]; rfl) (by exact rfl) (by simp only [CA, Nat.reduceEqDiff, ↓reduceIte]; rfl) rfl ?_)
      | ((with_reducible refine chk_h ?_); refine hr_callF (by simp only [CA, Nat.reduceEqDiff, ↓reduceIte]; rfl) (by exact rfl) (by simp only [CA, Nat.reduceEqDiff, ↓reduceIte]; rfl) rfl ?_)
      | ((with_reducible refine chk_h ?_); refine hr_app (by simp (disch := omega) only [hlt', c58r0, c58r1, c58r2, c58r3, c58r4, c58r5, c58r6, c58r8, c58r9, c58r10, c58r11, c58r12, c58r13, c58r14, c58r15, c58r16, c58r17, c58r18, c58r20, EV0, EV1, EV2, EV3, EV4, EV5, EV6, EV7, EV8, VALS, plug, ite_same, decide_true, decide_false, eq_self, ↓reduceIte, reduceCtorEq, Nat.reduceAdd, Nat.reduceEqDiff, Nat.reduceLT, Nat.reduceLeDiff, Nat.reduceMul, Nat.reduceSub, Nat.reduceDiv, Int.reduceToNat, Int.reduceAdd, Int.reduceSub, Int.reduceMul, Int.reduceNeg, Int.reduceEq, Int.reduceLT, Int.reduceLE]; with_reducible rfl) rfl ?_)
      | (with_reducible refine k_condP (by simp only [GA, Nat.reduceEqDiff, ↓reduceIte]; rfl) (by first | (simp only [BO]; rfl) | rfl) (fun ht => ?_) (fun ht => ?_) <;> try (first | exact False.elim ht | exact absurd rfl ht | exact absurd trivial ht | exact Bool.noConfusion ht))
      | (with_reducible refine k_ret ?_; repeat with_reducible (first | refine ret_thru ?_ | refine ret_blk ?_ | refine fin ?_))
      | (with_reducible refine k_exit ?_; repeat with_reducible (first | refine thru ?_ | refine out_blk ?_ | refine pass (by decide) ?_))
      | (refine post1 ?_; simp only [GA, Nat.reduceEqDiff, ↓reduceIte])
      | (refine post2 ?_; simp only [GA, Nat.reduceEqDiff, ↓reduceIte])
      | (refine post3 ?_; simp only [GA, Nat.reduceEqDiff, ↓reduceIte])
      | (refine postc (by simp only [GA, Nat.reduceEqDiff, ↓reduceIte]; rfl) (by simp (disch := omega) only [hlt', c58r0, c58r1, c58r2, c58r3, c58r4, c58r5, c58r6, c58r8, c58r9, c58r10, c58r11, c58r12, c58r13, c58r14, c58r15, c58r16, c58r17, c58r18, c58r20, EV0, EV1, EV2, EV3, EV4, EV5, EV6, EV7, EV8, VALS, plug, ite_same, decide_true, decide_false, eq_self, ↓reduceIte, reduceCtorEq, Nat.reduceAdd, Nat.reduceEqDiff, Nat.reduceLT, Nat.reduceLeDiff, Nat.reduceMul, Nat.reduceSub, Nat.reduceDiv, Int.reduceToNat, Int.reduceAdd, Int.reduceSub, Int.reduceMul, Int.reduceNeg, Int.reduceEq, Int.reduceLT, Int.reduceLE]; rfl) ?_)
      | refine post0 ?_
    refine k_blk (k_loopS (X := Nat × List (AV × AV)) [0, 2, 9, 38, 39, 40] ps.length (fun k x => [(0, vT l), (2, .fn g [] caps), (9, .mp x.1), (38, vQ ps), (39, .i .i64 ps.length), (40, .i .i64 (k : Int))])
      (fun k x h => h.m x.1 = some (.map x.2) ∧ MFi x.2 (setOf (hadP ps k)) ∧ jg l good ps ps.length 0 = jg l good ps (ps.length - k) k) (_, _) (by simp only [Am.keep, List.map_cons, List.map_nil, GA, Nat.reduceEqDiff, ↓reduceIte]; try rfl) ⟨by simp (disch := omega) only [c58r0, c58r1, c58r2, c58r3, c58r4, c58r5, c58r6, c58r8, c58r9, c58r10, c58r11, c58r12, c58r13, c58r14, c58r15, c58r16, c58r17, c58r18, c58r20, EV0, EV1, EV2, EV3, EV4, EV5, EV6, EV7, EV8, VALS, plug, ite_same, decide_true, decide_false, eq_self, ↓reduceIte, reduceCtorEq, Nat.reduceAdd, Nat.reduceEqDiff, Nat.reduceLT, Nat.reduceLeDiff, Nat.reduceMul, Nat.reduceSub, Nat.reduceDiv, Int.reduceToNat, Int.reduceAdd, Int.reduceSub, Int.reduceMul, Int.reduceNeg, Int.reduceEq, Int.reduceLT, Int.reduceLE] <;> rfl, MFi.set_nil fun a ⟨i, hi, _⟩ => by omega, rfl⟩ ?_)
    rintro k ⟨tk, es⟩ h hk ⟨hm, hf, hj⟩ ok pos
    simp only at hm hf hj ⊢
    have htk := ok.m hm
    have lk := MFi.set_lk hf
    by_cases hlt : k < ps.length
    · have rQ := rdQ hlt
      have hlt' : (k : Int) < ps.length := by omega
      have hrk := hr k hlt
      obtain ⟨a, b, hP, ha, hb⟩ : ∃ a b : Nat, ps.getD k (0, 0) = ((a : Int), (b : Int)) ∧ a < l.length ∧ b < l.length :=
        ⟨(ps.getD k (0, 0)).1.toNat, (ps.getD k (0, 0)).2.toNat, by
          unfold rng at hrk; simp only [prs] at hrk
          exact Prod.ext (by simp only; omega) (by simp only; omega), by unfold rng at hrk; simp only [prs] at hrk; omega, by unfold rng at hrk; simp only [prs] at hrk; omega⟩
      simp only [eQ, hP] at rQ
      obtain ⟨u1, u2⟩ := MFi.up hf (a : Int) (.b true)
      obtain ⟨u3, u4⟩ := MFi.up u2 (b : Int) (.b true)
      have rA := rdT ha
      have rB := rdT hb
      have qg := hg (l.getD a T0) (l.getD b T0) (hv.2.1 a ha) (hv.2.1 b hb)
      have e0 : er l good ps k = if (hadP ps k a ∨ hadP ps k b) ∨ (a : Int) = b then 43 else if (l.getD a T0).side ≠ 1 ∨ good (l.getD a T0) (l.getD b T0) = false then 42 else 0 := by
        simp only [er, prs, hP, Int.toNat_natCast]
      rw [hj]
      simp only [eT] at rA rB qg
      repeat' first
        | with_reducible refine k_seq ?_
        | with_reducible refine k_skip ?_
        | with_reducible refine k_blkS ?_
        | with_reducible refine k_blkR ?_
        | with_reducible refine k_blkC ?_
        | with_reducible refine k_blkH ?_
        | with_reducible refine k_blkB ?_
        | with_reducible refine k_blkK ?_
        | with_reducible refine k_blkE ?_
        | with_reducible refine k_reg ?_
        | with_reducible refine k_head (by with_unfolding_all rfl) ?_
        | with_reducible refine k_headS ?_
        | (with_reducible refine SepK.mk ?_ ?_; (refine sepQ_P ?_; simp [sepQ, sepG, AOp.late, AOp.free, AOp.xs, AOp.isAl, tokNe, AV.tok, stS_get, strip, AX.val, c58r0, c58r1, c58r2, c58r3, c58r4, c58r5, c58r6, c58r8, c58r9, c58r10, c58r11, c58r12, c58r13, c58r14, c58r15, c58r16, c58r17, c58r18, c58r20, GA]; try omega))
        | with_reducible refine r_done ?_
        | with_reducible refine hr_done ?_
        | with_reducible refine s_go (by simp (disch := omega) only [rQ, hlt', hm, lk, u1, u3, rA, rB, c58r0, c58r1, c58r2, c58r3, c58r4, c58r5, c58r6, c58r8, c58r9, c58r10, c58r11, c58r12, c58r13, c58r14, c58r15, c58r16, c58r17, c58r18, c58r20, EV0, EV1, EV2, EV3, EV4, EV5, EV6, EV7, EV8, VALS, plug, ite_same, decide_true, decide_false, eq_self, ↓reduceIte, reduceCtorEq, Nat.reduceAdd, Nat.reduceEqDiff, Nat.reduceLT, Nat.reduceLeDiff, Nat.reduceMul, Nat.reduceSub, Nat.reduceDiv, Int.reduceToNat, Int.reduceAdd, Int.reduceSub, Int.reduceMul, Int.reduceNeg, Int.reduceEq, Int.reduceLT, Int.reduceLE]; with_reducible rfl) ?_
        | with_reducible refine h_go (by with_unfolding_all rfl) (by simp (disch := omega) only [rQ, hlt', hm, lk, u1, u3, rA, rB, c58r0, c58r1, c58r2, c58r3, c58r4, c58r5, c58r6, c58r8, c58r9, c58r10, c58r11, c58r12, c58r13, c58r14, c58r15, c58r16, c58r17, c58r18, c58r20, EV0, EV1, EV2, EV3, EV4, EV5, EV6, EV7, EV8, VALS, plug, ite_same, decide_true, decide_false, eq_self, ↓reduceIte, reduceCtorEq, Nat.reduceAdd, Nat.reduceEqDiff, Nat.reduceLT, Nat.reduceLeDiff, Nat.reduceMul, Nat.reduceSub, Nat.reduceDiv, Int.reduceToNat, Int.reduceAdd, Int.reduceSub, Int.reduceMul, Int.reduceNeg, Int.reduceEq, Int.reduceLT, Int.reduceLE]; with_reducible rfl) ?_
        | ((with_reducible refine chk_r ?_); refine r_callF (by simp only [CA, Nat.reduceEqDiff, ↓reduceIte]; rfl) (by exact rfl) (by simp only [CA, Nat.reduceEqDiff, ↓reduceIte]; rfl) rfl ?_)
        | ((with_reducible refine chk_h ?_); refine hr_callF (by simp only [CA, Nat.reduceEqDiff, ↓reduceIte]; rfl) (by exact rfl) (by simp only [CA, Nat.reduceEqDiff, ↓reduceIte]; rfl) rfl ?_)
        | ((with_reducible refine chk_r ?_); refine r_callP (by simp only [CA, Nat.reduceEqDiff, ↓reduceIte]; rfl) (by simp only [CA, Nat.reduceEqDiff, ↓reduceIte]; rfl) (by first | exact qg _) rfl ?_)
        | ((with_reducible refine chk_h ?_); refine hr_callP (by simp only [CA, Nat.reduceEqDiff, ↓reduceIte]; rfl) (by simp only [CA, Nat.reduceEqDiff, ↓reduceIte]; rfl) (by first | exact qg _) rfl ?_)
        | ((with_reducible refine chk_h ?_); refine hr_callP1 (by simp only [CA, Nat.reduceEqDiff, ↓reduceIte]; rfl) (by simp only [CA, Nat.reduceEqDiff, ↓reduceIte]; rfl) (by simp (disch := omega) only [CA, Nat.reduceEqDiff, ↓reduceIte, firstTok_nil, firstTok_sl, firstTok_sl0, firstTok_i, firstTok_b, firstTok_ag, firstTok_p, firstTok_s]; rfl) (by first | exact qg _) rfl ?_)
        | ((with_reducible refine chk_r ?_); refine r_callG (by simp only [CA, Nat.reduceEqDiff, ↓reduceIte]; rfl) (by simp only [CA, Nat.reduceEqDiff, ↓reduceIte]; rfl) (by simp only [CA, Nat.reduceEqDiff, ↓reduceIte]; rfl) (by intro hg; (try simp only [BO] at hg); first | exact qg _) rfl ?_)
        | ((with_reducible refine chk_h ?_); refine hr_callG (by simp only [CA, Nat.reduceEqDiff, ↓reduceIte]; rfl) (by simp only [CA, Nat.reduceEqDiff, ↓reduceIte]; rfl) (by simp only [CA, Nat.reduceEqDiff, ↓reduceIte]; rfl) (by intro hg; (try simp only [BO] at hg); first | exact qg _) rfl ?_)
        | ((with_reducible refine chk_h ?_); refine hr_app (by simp (disch := omega) only [rQ, hlt', hm, lk, u1, u3, rA, rB, c58r0, c58r1, c58r2, c58r3, c58r4, c58r5, c58r6, c58r8, c58r9, c58r10, c58r11, c58r12, c58r13, c58r14, c58r15, c58r16, c58r17, c58r18, c58r20, EV0, EV1, EV2, EV3, EV4, EV5, EV6, EV7, EV8, VALS, plug, ite_same, decide_true, decide_false, eq_self, ↓reduceIte, reduceCtorEq, Nat.reduceAdd, Nat.reduceEqDiff, Nat.reduceLT, Nat.reduceLeDiff, Nat.reduceMul, Nat.reduceSub, Nat.reduceDiv, Int.reduceToNat, Int.reduceAdd, Int.reduceSub, Int.reduceMul, Int.reduceNeg, Int.reduceEq, Int.reduceLT, Int.reduceLE]; with_reducible rfl) rfl ?_)
        | (with_reducible refine k_condP (by simp only [GA, Nat.reduceEqDiff, ↓reduceIte]; rfl) (by first | (simp only [BO]; rfl) | rfl) (fun ht => ?_) (fun ht => ?_) <;> try (first | exact False.elim ht | exact absurd rfl ht | exact absurd trivial ht | exact Bool.noConfusion ht))
        | (with_reducible refine k_ret ?_; repeat with_reducible (first | refine ret_thru ?_ | refine ret_blk ?_ | refine fin ?_))
        | (with_reducible refine k_exit ?_; repeat with_reducible (first | refine thru ?_ | refine out_blk ?_ | refine pass (by decide) ?_))
        | (refine post1 ?_; simp only [GA, Nat.reduceEqDiff, ↓reduceIte])
        | (refine post2 ?_; simp only [GA, Nat.reduceEqDiff, ↓reduceIte])
        | (refine post3 ?_; simp only [GA, Nat.reduceEqDiff, ↓reduceIte])
        | (refine postc (by simp only [GA, Nat.reduceEqDiff, ↓reduceIte]; rfl) (by simp (disch := omega) only [rQ, hlt', hm, lk, u1, u3, rA, rB, c58r0, c58r1, c58r2, c58r3, c58r4, c58r5, c58r6, c58r8, c58r9, c58r10, c58r11, c58r12, c58r13, c58r14, c58r15, c58r16, c58r17, c58r18, c58r20, EV0, EV1, EV2, EV3, EV4, EV5, EV6, EV7, EV8, VALS, plug, ite_same, decide_true, decide_false, eq_self, ↓reduceIte, reduceCtorEq, Nat.reduceAdd, Nat.reduceEqDiff, Nat.reduceLT, Nat.reduceLeDiff, Nat.reduceMul, Nat.reduceSub, Nat.reduceDiv, Int.reduceToNat, Int.reduceAdd, Int.reduceSub, Int.reduceMul, Int.reduceNeg, Int.reduceEq, Int.reduceLT, Int.reduceLE]; rfl) ?_)
        | refine post0 ?_
      · rw [if_pos (by first | assumption | (simp only [Bool.and_eq_true, Bool.or_eq_true, decide_eq_true_eq]; assumption))] at e0
        rw [jg_err e0 (by decide) (by omega)]
        exact ends_of
      · rename_i h43
        rw [if_neg h43, if_pos (by first | assumption | (simp only [Bool.and_eq_true, Bool.or_eq_true, decide_eq_true_eq]; assumption))] at e0
        rw [jg_err e0 (by decide) (by omega)]
        exact ends_of
      · rename_i h43
        rw [if_neg h43, if_neg (by first | assumption | (simp only [Bool.and_eq_true, Bool.or_eq_true, decide_eq_true_eq]; assumption))] at e0
        refine ⟨hlt, ⟨tk, _⟩, (by simp only [Am.keep, List.map_cons, List.map_nil, GA, Nat.reduceEqDiff, ↓reduceIte]; try rfl), by simp (disch := omega) only [u1, u3, hm, c58r0, c58r1, c58r2, c58r3, c58r4, c58r5, c58r6, c58r8, c58r9, c58r10, c58r11, c58r12, c58r13, c58r14, c58r15, c58r16, c58r17, c58r18, c58r20, EV0, EV1, EV2, EV3, EV4, EV5, EV6, EV7, EV8, VALS, plug, ite_same, decide_true, decide_false, eq_self, ↓reduceIte, reduceCtorEq, Nat.reduceAdd, Nat.reduceEqDiff, Nat.reduceLT, Nat.reduceLeDiff, Nat.reduceMul, Nat.reduceSub, Nat.reduceDiv, Int.reduceToNat, Int.reduceAdd, Int.reduceSub, Int.reduceMul, Int.reduceNeg, Int.reduceEq, Int.reduceLT, Int.reduceLE] <;> rfl, MFi.set_up (MFi.set_up hf _ _ fun x => Iff.rfl) _ _ fun x => ⟨fun ⟨i, hi, e⟩ => ?_, fun hx => ?_⟩, by rw [jg_go e0 (by omega), Nat.sub_sub]⟩
        · by_cases hik : i = k
          · subst hik
            simp only [prs, hP] at e
            rcases e with e | e
            · exact .inr (.inl e.symm)
            · exact .inl e.symm
          · exact .inr (.inr ⟨i, by omega, e⟩)
        · rcases hx with rfl | rfl | ⟨i, hi, e⟩
          · exact ⟨k, by omega, .inr (by simp only [prs, hP])⟩
          · exact ⟨k, by omega, .inl (by simp only [prs, hP])⟩
          · exact ⟨i, by omega, e⟩
    · obtain rfl : k = ps.length := by omega
      have hlt' : ¬ (ps.length : Int) < ps.length := by omega
      rw [hj, Nat.sub_self]
      repeat' first
        | with_reducible refine k_seq ?_
        | with_reducible refine k_skip ?_
        | with_reducible refine k_blkS ?_
        | with_reducible refine k_blkR ?_
        | with_reducible refine k_blkC ?_
        | with_reducible refine k_blkH ?_
        | with_reducible refine k_blkB ?_
        | with_reducible refine k_blkK ?_
        | with_reducible refine k_blkE ?_
        | with_reducible refine k_reg ?_
        | with_reducible refine k_head (by with_unfolding_all rfl) ?_
        | with_reducible refine k_headS ?_
        | (with_reducible refine SepK.mk ?_ ?_; (refine sepQ_P ?_; simp [sepQ, sepG, AOp.late, AOp.free, AOp.xs, AOp.isAl, tokNe, AV.tok, stS_get, strip, AX.val, c58r0, c58r1, c58r2, c58r3, c58r4, c58r5, c58r6, c58r8, c58r9, c58r10, c58r11, c58r12, c58r13, c58r14, c58r15, c58r16, c58r17, c58r18, c58r20, GA]; try omega))
        | with_reducible refine r_done ?_
        | with_reducible refine hr_done ?_
        | with_reducible refine s_go (by simp (disch := omega) only [hlt', c58r0, c58r1, c58r2, c58r3, c58r4, c58r5, c58r6, c58r8, c58r9, c58r10, c58r11, c58r12, c58r13, c58r14, c58r15, c58r16, c58r17, c58r18, c58r20, EV0, EV1, EV2, EV3, EV4, EV5, EV6, EV7, EV8, VALS, plug, ite_same, decide_true, decide_false, eq_self, ↓reduceIte, reduceCtorEq, Nat.reduceAdd, Nat.reduceEqDiff, Nat.reduceLT, Nat.reduceLeDiff, Nat.reduceMul, Nat.reduceSub, Nat.reduceDiv, Int.reduceToNat, Int.reduceAdd, Int.reduceSub, Int.reduceMul, Int.reduceNeg, Int.reduceEq, Int.reduceLT, Int.reduceLE]; with_reducible rfl) ?_
        | with_reducible refine h_go (by with_unfolding_all rfl) (by simp (disch := omega) only [hlt', c58r0, c58r1, c58r2, c58r3, c58r4, c58r5, c58r6, c58r8, c58r9, c58r10, c58r11, c58r12, c58r13, c58r14, c58r15, c58r16, c58r17, c58r18, c58r20, EV0, EV1, EV2, EV3, EV4, EV5, EV6, EV7, EV8, VALS, plug, ite_same, decide_true, decide_false, eq_self, ↓reduceIte, reduceCtorEq, Nat.reduceAdd, Nat.reduceEqDiff, Nat.reduceLT, Nat.reduceLeDiff, Nat.reduceMul, Nat.reduceSub, Nat.reduceDiv, Int.reduceToNat, Int.reduceAdd, Int.reduceSub, Int.reduceMul, Int.reduceNeg, Int.reduceEq, Int.reduceLT, Int.reduceLE]; with_reducible rfl) ?_
        | ((with_reducible refine chk_r ?_); refine r_callF (by simp only [CA, Nat.reduceEqDiff, ↓reduceIte]; rfl) (by exact rfl) (by simp only [CA, Nat.reduceEqDiff, ↓reduceIte]; rfl) rfl ?_)
        | ((with_reducible refine chk_h ?_); refine hr_callF (by simp only [CA, Nat.reduceEqDiff, ↓reduceIte]; rfl) (by exact rfl) (by simp only [CA, Nat.reduceEqDiff, ↓reduceIte]; rfl) rfl ?_)
        | ((with_reducible refine chk_h ?_); refine hr_app (by simp (disch := omega) only [hlt', c58r0, c58r1, c58r2, c58r3, c58r4, c58r5, c58r6, c58r8, c58r9, c58r10, c58r11, c58r12, c58r13, c58r14, c58r15, c58r16, c58r17, c58r18, c58r20, EV0, EV1, EV2, EV3, EV4, EV5, EV6, EV7, EV8, VALS, plug, ite_same, decide_true, decide_false, eq_self, ↓reduceIte, reduceCtorEq, Nat.reduceAdd, Nat.reduceEqDiff, Nat.reduceLT, Nat.reduceLeDiff, Nat.reduceMul, Nat.reduceSub, Nat.reduceDiv, Int.reduceToNat, Int.reduceAdd, Int.reduceSub, Int.reduceMul, Int.reduceNeg, Int.reduceEq, Int.reduceLT, Int.reduceLE]; with_reducible rfl) rfl ?_)
        | (with_reducible refine k_condP (by simp only [GA, Nat.reduceEqDiff, ↓reduceIte]; rfl) (by first | (simp only [BO]; rfl) | rfl) (fun ht => ?_) (fun ht => ?_) <;> try (first | exact False.elim ht | exact absurd rfl ht | exact absurd trivial ht | exact Bool.noConfusion ht))
        | (with_reducible refine k_ret ?_; repeat with_reducible (first | refine ret_thru ?_ | refine ret_blk ?_ | refine fin ?_))
        | (with_reducible refine k_exit ?_; repeat with_reducible (first | refine thru ?_ | refine out_blk ?_ | refine pass (by decide) ?_))
        | (refine post1 ?_; simp only [GA, Nat.reduceEqDiff, ↓reduceIte])
        | (refine post2 ?_; simp only [GA, Nat.reduceEqDiff, ↓reduceIte])
        | (refine post3 ?_; simp only [GA, Nat.reduceEqDiff, ↓reduceIte])
        | (refine postc (by simp only [GA, Nat.reduceEqDiff, ↓reduceIte]; rfl) (by simp (disch := omega) only [hlt', c58r0, c58r1, c58r2, c58r3, c58r4, c58r5, c58r6, c58r8, c58r9, c58r10, c58r11, c58r12, c58r13, c58r14, c58r15, c58r16, c58r17, c58r18, c58r20, EV0, EV1, EV2, EV3, EV4, EV5, EV6, EV7, EV8, VALS, plug, ite_same, decide_true, decide_false, eq_self, ↓reduceIte, reduceCtorEq, Nat.reduceAdd, Nat.reduceEqDiff, Nat.reduceLT, Nat.reduceLeDiff, Nat.reduceMul, Nat.reduceSub, Nat.reduceDiv, Int.reduceToNat, Int.reduceAdd, Int.reduceSub, Int.reduceMul, Int.reduceNeg, Int.reduceEq, Int.reduceLT, Int.reduceLE]; rfl) ?_)
        | refine post0 ?_
      all_goals first | exact ends_of | exact ends_eq rfl
end Go.Proofs.Ytbhkbaapfioijaa
