/- What the proof of the law needs: the abstract machine, the functions as it reads them, their contracts, part 6. -/
import Derived.Test.YtjaihaccehaicaaZe
set_option linter.unusedVariables false
set_option linter.unusedSimpArgs false
namespace Go.Proofs.Ytjaihaccehaicaa
open Go Go.Am Go.Proofs
/-! ### LastWider f6 -/
/-- w is az wide az s -/
structure Wdr (s w : Sz) : Prop where
  F : ∀ j, j < 5 → w.F j ≤ s.F j
  T : ∀ j, j < 5 → s.T j ≤ w.T j
  B : ∀ j, j < 5 → s.B j ≤ w.B j
  t : s.t ≤ w.t
theorem flt_nil {s : Sz} {x : Hd} : ∀ {k : Nat}, flt s x k = [] ↔ ∀ j, j < k → nd s x j ≤ s.B j
  | 0 => by simp [flt]
  | k + 1 => by
    have ih := flt_nil (s := s) (x := x) (k := k)
    unfold flt
    by_cases c : s.B k < nd s x k
    · rw [if_pos c]
      constructor
      · intro h; simp at h
      · intro h; have := h k (by omega); omega
    · rw [if_neg c, ih]
      constructor
      · intro h j hj
        by_cases e : j = k
        · subst e; omega
        · exact h j (by omega)
      · intro h j hj; exact h j (by omega)
theorem fau_nil {s : Sz} {x : Hd} : fau s x = [] ↔ (∀ j, j < 5 → nd s x j ≤ s.B j) ∧ nS s x 5 ≤ s.t := by
  unfold fau
  by_cases c : s.t < nS s x 5
  · rw [if_pos c]
    constructor
    · intro h; simp at h
    · intro h; omega
  · rw [if_neg c, flt_nil]
    exact ⟨fun h => ⟨h, by omega⟩, fun h => h.1⟩
theorem nS_mono {s w : Sz} {x y : Hd} : ∀ {k : Nat}, (∀ j, j < k → nd w y j ≤ nd s x j) → nS w y k ≤ nS s x k
  | 0, _ => by simp [nS]
  | k + 1, h => by
    have h1 := nS_mono (k := k) fun j hj => h j (by omega)
    have h2 := h k (by omega)
    unfold nS
    omega
theorem Wdr.ndL {s w : Sz} (W : Wdr s w) {x : Hd} {j : Nat} (hj : j < 5) : nd w x j ≤ nd s x j := by
  have h1 := W.F j hj
  have h2 := W.T j hj
  unfold nd
  omega
theorem Wdr.fauL {s w : Sz} (W : Wdr s w) {x : Hd} (h : fau s x = []) : fau w x = [] := by
  have h1 := fau_nil.1 h
  have h2 := nS_mono (k := 5) fun j hj => W.ndL (x := x) hj
  have h3 := W.t
  refine fau_nil.2 ⟨fun j hj => ?_, by omega⟩
  have h4 := h1.1 j hj
  have h5 := W.ndL (x := x) hj
  have h6 := W.B j hj
  omega
theorem Wdr.fits {s w : Sz} (W : Wdr s w) {x : Hd} (h : sgl s x = 0) (hw : szOk w = true) : (fitR w x).2 = 0 ∧ ((fitR s x).1 = true → (fitR w x).1 = true) := by
  have h0 := (sgl_ok h).2
  have e : sgl w x = 0 := by simp [sgl, hw, h0]
  refine ⟨e, ?_⟩
  simp only [fitR, h, e, decide_true, Bool.true_and, decide_eq_true_eq]
  intro q
  have : fau s x = [] := List.length_eq_zero_iff.1 (by omega)
  rw [W.fauL this]
  rfl
def up (f : Nat → Int) (i : Nat) (v : Int) (j : Nat) : Int := if j = i then v else f j
def wF (s : Sz) (i : Nat) (v : Int) : Sz := { s with F := up s.F i v }
def wT (s : Sz) (i : Nat) (v : Int) : Sz := { s with T := up s.T i v }
def wB (s : Sz) (i : Nat) (v : Int) : Sz := { s with B := up s.B i v }
def wt (s : Sz) (v : Int) : Sz := { s with t := v }
theorem eZ_wF {s : Sz} {i : Nat} {v : Int} (h : i < 5) : (eZ s).set (1 + i) (.i .i64 v) = eZ (wF s i v) := by
  rcases i with _ | _ | _ | _ | _ | i <;> first | rfl | omega
theorem eZ_wT {s : Sz} {i : Nat} {v : Int} (h : i < 5) : (eZ s).set (6 + i) (.i .i64 v) = eZ (wT s i v) := by
  rcases i with _ | _ | _ | _ | _ | i <;> first | rfl | omega
theorem eZ_wB {s : Sz} {i : Nat} {v : Int} (h : i < 5) : (eZ s).set (11 + i) (.i .i64 v) = eZ (wB s i v) := by
  rcases i with _ | _ | _ | _ | _ | i <;> first | rfl | omega
theorem eZ_wt {s : Sz} {v : Int} : (eZ s).set 16 (.i .i64 v) = eZ (wt s v) := rfl
theorem pc6 (s : Sz) (x : Hd) (a b : Int) (ha : 0 ≤ a ∧ a ≤ 255) (hb : 0 ≤ b ∧ b ≤ 255) : PC Try.prog 6 [.ag (eZ s), .ag (eH x), .i .u8 a, .i .u8 b] (.b true) := by
  have q := pc21 s x
  refine pc_fn fn6 (by simp only [AV.plains, AV.plain, il_plain, bl_plain, Bool.and_true, Bool.true_and, Bool.and_self]) (by simp only [AV.plains, AV.plain, il_plain, bl_plain, Bool.and_true, Bool.true_and, Bool.and_self]) (Nat.le_of_ble_eq_true rfl) ?_
  rw [initSt4]
  by_cases c : sgl s x = 0
  · have e2 : (fitR s x).2 = 0 := c
    rw [e2] at q
    have t1 : a.tmod 5 = a % 5 := Int.tmod_eq_emod_of_nonneg (by omega)
    have t2 : a.tdiv 5 = a / 5 := Int.tdiv_eq_ediv_of_nonneg (by omega)
    have t3 : (a / 5).tmod 4 = (a / 5) % 4 := Int.tmod_eq_emod_of_nonneg (by omega)
    obtain ⟨i, ei, hi⟩ : ∃ i : Nat, a.tmod 5 = (i : Int) ∧ i < 5 := ⟨(a % 5).toNat, by omega, by omega⟩
    obtain ⟨m, em, hm⟩ : ∃ m : Int, (a.tdiv 5).tmod 4 = m ∧ 0 ≤ m ∧ m < 4 := ⟨(a / 5) % 4, by rw [t2, t3], by omega, by omega⟩
    have w0 : IntKind.i64.wrap (a.tdiv 5) = a.tdiv 5 := wrap64 (by omega) (by omega)
    have hs := (sgl_ok c).1
    have h1 := szOk_iff.1 hs
    have h2 := h1.2 i hi
    have fitw (w : Sz) (W : Wdr s w) (hw : szOk w = true) : (!(fitR s x).1 || (fitR w x).1) = true := by
      have := (W.fits c hw).2
      cases q : (fitR s x).1 with
      | false => rfl
      | true => rw [this q]; rfl
    generalize hX : (fitR s x).1 = X at q fitw
    have g1 := eZ_F s hi
    have g2 := eZ_T s hi
    have g3 := eZ_B s hi
    have hi' : (i : Int) < 5 := by omega
    have upd0 (f : Nat → Int) (v : Int) (j : Nat) (hj : j ≠ i) : up f i v j = f j := if_neg hj
    have upd1 (f : Nat → Int) (v : Int) : up f i v i = v := if_pos rfl
    rcases (show m = 0 ∨ m = 1 ∨ m = 2 ∨ m = 3 by omega) with rfl | rfl | rfl | rfl
    · have w1 : IntKind.i64.wrap (s.F i - b) = s.F i - b := wrap64 (by omega) (by omega)
      have st := eZ_wF (s := s) (v := max (s.F i - b) 0) hi
      have W : Wdr s (wF s i (max (s.F i - b) 0)) := ⟨fun j hj => by
        show up s.F i _ j ≤ _
        by_cases e : j = i
        · subst e; rw [upd1]; omega
        · rw [upd0 _ _ _ e]; omega, fun j hj => Int.le_refl _, fun j hj => Int.le_refl _, Int.le_refl _⟩
      have hw : szOk (wF s i (max (s.F i - b) 0)) = true := szOk_iff.2 ⟨h1.1, fun j hj => by
        have := h1.2 j hj
        show 0 ≤ up s.F i _ j ∧ up s.F i _ j ≤ s.T j ∧ _
        by_cases e : j = i
        · subst e; rw [upd1]; exact ⟨by omega, by omega, this.2.2⟩
        · rw [upd0 _ _ _ e]; exact this⟩
      have e3 := (W.fits c hw).1
      have e4 := fitw _ W hw
      have q2 := pc21 (wF s i (max (s.F i - b) 0)) x
      rw [e3] at q2
      generalize (fitR (wF s i (max (s.F i - b) 0)) x).1 = Y at q2 e4
      simp only [eZ] at g1 st q2
      repeat' first
        | with_reducible refine k_seq ?_
        | with_reducible refine k_skip ?_
        | with_reducible refine k_blkS ?_
        | with_reducible refine k_blkR ?_
        | with_reducible refine k_blkC ?_
        | with_reducible refine k_blkH ?_
        | with_reducible refine k_blkB ?_
        | with_reducible refine k_blkK ?_
        | with_reducible refine k_blkE ?_
        | with_reducible refine k_reg ?_
        | with_reducible refine r_done ?_
        | with_reducible refine s_go (by simp (disch := omega) only [eZ_rd, eH_rd, ei, w0, em, hi', g1, st, w1, c6r0, c6r1, c6r2, c6r3, c6r4, c6r5, c6r6, c6r7, c6r8, c6r9, c6r10, c6r11, c6r12, c6r13, c6r14, c6r15, EV0, EV1, EV2, EV3, EV4, EV5, EV6, EV7, EV8, VALS, plug, ite_same, decide_true, decide_false, eq_self, ↓reduceIte, reduceCtorEq, Nat.reduceAdd, Nat.reduceEqDiff, Nat.reduceLT, Nat.reduceLeDiff, Nat.reduceMul, Nat.reduceSub, Nat.reduceDiv, Int.reduceToNat, Int.reduceAdd, Int.reduceSub, Int.reduceMul, Int.reduceNeg, Int.reduceEq, Int.reduceLT, Int.reduceLE]; with_reducible rfl) ?_
        | ((with_reducible refine chk_r ?_); refine r_callF (by simp only [CA, Nat.reduceEqDiff, ↓reduceIte]; rfl) (by exact rfl) (by simp only [CA, Nat.reduceEqDiff, ↓reduceIte]; rfl) rfl ?_)
        | ((with_reducible refine chk_r ?_); refine r_callP (by simp only [CA, Nat.reduceEqDiff, ↓reduceIte]; rfl) (by simp only [CA, Nat.reduceEqDiff, ↓reduceIte]; rfl) (by first | exact q _ | exact q2 _ | exact pc17 _) rfl ?_)
        | ((with_reducible refine chk_r ?_); refine r_callG (by simp only [CA, Nat.reduceEqDiff, ↓reduceIte]; rfl) (by simp only [CA, Nat.reduceEqDiff, ↓reduceIte]; rfl) (by simp only [CA, Nat.reduceEqDiff, ↓reduceIte]; rfl) (by intro hg; (try simp only [BO] at hg); first | exact q _ | exact q2 _ | exact pc17 _) rfl ?_)
        | (with_reducible refine k_condP (by simp only [GA, Nat.reduceEqDiff, ↓reduceIte]; rfl) (by first | (simp only [BO]; rfl) | rfl) (fun ht => ?_) (fun ht => ?_) <;> try (first | exact False.elim ht | exact absurd rfl ht | exact absurd trivial ht | exact Bool.noConfusion ht))
        | (with_reducible refine k_ret ?_; repeat with_reducible (first | refine ret_thru ?_ | refine ret_blk ?_ | refine fin ?_))
        | (with_reducible refine k_exit ?_; repeat with_reducible (first | refine thru ?_ | refine out_blk ?_ | refine pass (by decide) ?_))
        | (refine post1 ?_; simp only [GA, Nat.reduceEqDiff, ↓reduceIte])
        | (refine post2 ?_; simp only [GA, Nat.reduceEqDiff, ↓reduceIte])
        | (refine post3 ?_; simp only [GA, Nat.reduceEqDiff, ↓reduceIte])
        | (refine postc (by simp only [GA, Nat.reduceEqDiff, ↓reduceIte]; rfl) (by simp (disch := omega) only [eZ_rd, eH_rd, ei, w0, em, hi', g1, st, w1, c6r0, c6r1, c6r2, c6r3, c6r4, c6r5, c6r6, c6r7, c6r8, c6r9, c6r10, c6r11, c6r12, c6r13, c6r14, c6r15, EV0, EV1, EV2, EV3, EV4, EV5, EV6, EV7, EV8, VALS, plug, ite_same, decide_true, decide_false, eq_self, ↓reduceIte, reduceCtorEq, Nat.reduceAdd, Nat.reduceEqDiff, Nat.reduceLT, Nat.reduceLeDiff, Nat.reduceMul, Nat.reduceSub, Nat.reduceDiv, Int.reduceToNat, Int.reduceAdd, Int.reduceSub, Int.reduceMul, Int.reduceNeg, Int.reduceEq, Int.reduceLT, Int.reduceLE]; rfl) ?_)
        | refine post0 ?_
      exact ends_eq (b_eq e4.symm)
    · have w1 : IntKind.i64.wrap (s.T i + b) = s.T i + b := wrap64 (by omega) (by omega)
      have st := eZ_wT (s := s) (v := min (s.T i + b) 3000) hi
      have W : Wdr s (wT s i (min (s.T i + b) 3000)) := ⟨fun j hj => Int.le_refl _, fun j hj => by
        show _ ≤ up s.T i _ j
        by_cases e : j = i
        · subst e; rw [upd1]; omega
        · rw [upd0 _ _ _ e]; omega, fun j hj => Int.le_refl _, Int.le_refl _⟩
      have hw : szOk (wT s i (min (s.T i + b) 3000)) = true := szOk_iff.2 ⟨h1.1, fun j hj => by
        have := h1.2 j hj
        show 0 ≤ s.F j ∧ s.F j ≤ up s.T i _ j ∧ up s.T i _ j ≤ 3000 ∧ _
        by_cases e : j = i
        · subst e; rw [upd1]; exact ⟨by omega, by omega, by omega, this.2.2.2⟩
        · rw [upd0 _ _ _ e]; exact this⟩
      have e3 := (W.fits c hw).1
      have e4 := fitw _ W hw
      have q2 := pc21 (wT s i (min (s.T i + b) 3000)) x
      rw [e3] at q2
      generalize (fitR (wT s i (min (s.T i + b) 3000)) x).1 = Y at q2 e4
      simp only [eZ] at g2 st q2
      repeat' first
        | with_reducible refine k_seq ?_
        | with_reducible refine k_skip ?_
        | with_reducible refine k_blkS ?_
        | with_reducible refine k_blkR ?_
        | with_reducible refine k_blkC ?_
        | with_reducible refine k_blkH ?_
        | with_reducible refine k_blkB ?_
        | with_reducible refine k_blkK ?_
        | with_reducible refine k_blkE ?_
        | with_reducible refine k_reg ?_
        | with_reducible refine r_done ?_
        | with_reducible refine s_go (by simp (disch := omega) only [eZ_rd, eH_rd, ei, w0, em, hi', g2, st, w1, c6r0, c6r1, c6r2, c6r3, c6r4, c6r5, c6r6, c6r7, c6r8, c6r9, c6r10, c6r11, c6r12, c6r13, c6r14, c6r15, EV0, EV1, EV2, EV3, EV4, EV5, EV6, EV7, EV8, VALS, plug, ite_same, decide_true, decide_false, eq_self, ↓reduceIte, reduceCtorEq, Nat.reduceAdd, Nat.reduceEqDiff, Nat.reduceLT, Nat.reduceLeDiff, Nat.reduceMul, Nat.reduceSub, Nat.reduceDiv, Int.reduceToNat, Int.reduceAdd, Int.reduceSub, Int.reduceMul, Int.reduceNeg, Int.reduceEq, Int.reduceLT, Int.reduceLE]; with_reducible rfl) ?_
        | ((with_reducible refine chk_r ?_); refine r_callF (by simp only [CA, Nat.reduceEqDiff, ↓reduceIte]; rfl) (by exact rfl) (by simp only [CA, Nat.reduceEqDiff, ↓reduceIte]; rfl) rfl ?_)
        | ((with_reducible refine chk_r ?_); refine r_callP (by simp only [CA, Nat.reduceEqDiff, ↓reduceIte]; rfl) (by simp only [CA, Nat.reduceEqDiff, ↓reduceIte]; rfl) (by first | exact q _ | exact q2 _ | exact pc17 _) rfl ?_)
        | ((with_reducible refine chk_r ?_); refine r_callG (by simp only [CA, Nat.reduceEqDiff, ↓reduceIte]; rfl) (by simp only [CA, Nat.reduceEqDiff, ↓reduceIte]; rfl) (by simp only [CA, Nat.reduceEqDiff, ↓reduceIte]; rfl) (by intro hg; (try simp only [BO] at hg); first | exact q _ | exact q2 _ | exact pc17 _) rfl ?_)
        | (with_reducible refine k_condP (by simp only [GA, Nat.reduceEqDiff, ↓reduceIte]; rfl) (by first | (simp only [BO]; rfl) | rfl) (fun ht => ?_) (fun ht => ?_) <;> try (first | exact False.elim ht | exact absurd rfl ht | exact absurd trivial ht | exact Bool.noConfusion ht))
        | (with_reducible refine k_ret ?_; repeat with_reducible (first | refine ret_thru ?_ | refine ret_blk ?_ | refine fin ?_))
        | (with_reducible refine k_exit ?_; repeat with_reducible (first | refine thru ?_ | refine out_blk ?_ | refine pass (by decide) ?_))
        | (refine post1 ?_; simp only [GA, Nat.reduceEqDiff, ↓reduceIte])
        | (refine post2 ?_; simp only [GA, Nat.reduceEqDiff, ↓reduceIte])
        | (refine post3 ?_; simp only [GA, Nat.reduceEqDiff, ↓reduceIte])
        | (refine postc (by simp only [GA, Nat.reduceEqDiff, ↓reduceIte]; rfl) (by simp (disch := omega) only [eZ_rd, eH_rd, ei, w0, em, hi', g2, st, w1, c6r0, c6r1, c6r2, c6r3, c6r4, c6r5, c6r6, c6r7, c6r8, c6r9, c6r10, c6r11, c6r12, c6r13, c6r14, c6r15, EV0, EV1, EV2, EV3, EV4, EV5, EV6, EV7, EV8, VALS, plug, ite_same, decide_true, decide_false, eq_self, ↓reduceIte, reduceCtorEq, Nat.reduceAdd, Nat.reduceEqDiff, Nat.reduceLT, Nat.reduceLeDiff, Nat.reduceMul, Nat.reduceSub, Nat.reduceDiv, Int.reduceToNat, Int.reduceAdd, Int.reduceSub, Int.reduceMul, Int.reduceNeg, Int.reduceEq, Int.reduceLT, Int.reduceLE]; rfl) ?_)
        | refine post0 ?_
      exact ends_eq (b_eq e4.symm)
    · have w1 : IntKind.i64.wrap (s.B i + b) = s.B i + b := wrap64 (by omega) (by omega)
      have st := eZ_wB (s := s) (v := min (s.B i + b) 100) hi
      have W : Wdr s (wB s i (min (s.B i + b) 100)) := ⟨fun j hj => Int.le_refl _, fun j hj => Int.le_refl _, fun j hj => by
        have := h1.2 j hj
        show _ ≤ up s.B i _ j
        by_cases e : j = i
        · subst e; rw [upd1]; omega
        · rw [upd0 _ _ _ e]; omega, Int.le_refl _⟩
      have hw : szOk (wB s i (min (s.B i + b) 100)) = true := szOk_iff.2 ⟨h1.1, fun j hj => by
        have := h1.2 j hj
        show 0 ≤ s.F j ∧ s.F j ≤ s.T j ∧ s.T j ≤ 3000 ∧ 0 ≤ up s.B i _ j ∧ up s.B i _ j ≤ 100
        by_cases e : j = i
        · subst e; rw [upd1]; omega
        · rw [upd0 _ _ _ e]; exact this⟩
      have e3 := (W.fits c hw).1
      have e4 := fitw _ W hw
      have q2 := pc21 (wB s i (min (s.B i + b) 100)) x
      rw [e3] at q2
      generalize (fitR (wB s i (min (s.B i + b) 100)) x).1 = Y at q2 e4
      simp only [eZ] at g3 st q2
      repeat' first
        | with_reducible refine k_seq ?_
        | with_reducible refine k_skip ?_
        | with_reducible refine k_blkS ?_
        | with_reducible refine k_blkR ?_
        | with_reducible refine k_blkC ?_
        | with_reducible refine k_blkH ?_
        | with_reducible refine k_blkB ?_
        | with_reducible refine k_blkK ?_
        | with_reducible refine k_blkE ?_
        | with_reducible refine k_reg ?_
        | with_reducible refine r_done ?_
        | with_reducible refine s_go (by simp (disch := omega) only [eZ_rd, eH_rd, ei, w0, em, hi', g3, st, w1, c6r0, c6r1, c6r2, c6r3, c6r4, c6r5, c6r6, c6r7, c6r8, c6r9, c6r10, c6r11, c6r12, c6r13, c6r14, c6r15, EV0, EV1, EV2, EV3, EV4, EV5, EV6, EV7, EV8, VALS, plug, ite_same, decide_true, decide_false, eq_self, ↓reduceIte, reduceCtorEq, Nat.reduceAdd, Nat.reduceEqDiff, Nat.reduceLT, Nat.reduceLeDiff, Nat.reduceMul, Nat.reduceSub, Nat.reduceDiv, Int.reduceToNat, Int.reduceAdd, Int.reduceSub, Int.reduceMul, Int.reduceNeg, Int.reduceEq, Int.reduceLT, Int.reduceLE]; with_reducible rfl) ?_
        | ((with_reducible refine chk_r ?_); refine r_callF (by simp only [CA, Nat.reduceEqDiff, ↓reduceIte]; rfl) (by exact rfl) (by simp only [CA, Nat.reduceEqDiff, ↓reduceIte]; rfl) rfl ?_)
        | ((with_reducible refine chk_r ?_); refine r_callP (by simp only [CA, Nat.reduceEqDiff, ↓reduceIte]; rfl) (by simp only [CA, Nat.reduceEqDiff, ↓reduceIte]; rfl) (by first | exact q _ | exact q2 _ | exact pc17 _) rfl ?_)
        | ((with_reducible refine chk_r ?_); refine r_callG (by simp only [CA, Nat.reduceEqDiff, ↓reduceIte]; rfl) (by simp only [CA, Nat.reduceEqDiff, ↓reduceIte]; rfl) (by simp only [CA, Nat.reduceEqDiff, ↓reduceIte]; rfl) (by intro hg; (try simp only [BO] at hg); first | exact q _ | exact q2 _ | exact pc17 _) rfl ?_)
        | (with_reducible refine k_condP (by simp only [GA, Nat.reduceEqDiff, ↓reduceIte]; rfl) (by first | (simp only [BO]; rfl) | rfl) (fun ht => ?_) (fun ht => ?_) <;> try (first | exact False.elim ht | exact absurd rfl ht | exact absurd trivial ht | exact Bool.noConfusion ht))
        | (with_reducible refine k_ret ?_; repeat with_reducible (first | refine ret_thru ?_ | refine ret_blk ?_ | refine fin ?_))
        | (with_reducible refine k_exit ?_; repeat with_reducible (first | refine thru ?_ | refine out_blk ?_ | refine pass (by decide) ?_))
        | (refine post1 ?_; simp only [GA, Nat.reduceEqDiff, ↓reduceIte])
        | (refine post2 ?_; simp only [GA, Nat.reduceEqDiff, ↓reduceIte])
        | (refine post3 ?_; simp only [GA, Nat.reduceEqDiff, ↓reduceIte])
        | (refine postc (by simp only [GA, Nat.reduceEqDiff, ↓reduceIte]; rfl) (by simp (disch := omega) only [eZ_rd, eH_rd, ei, w0, em, hi', g3, st, w1, c6r0, c6r1, c6r2, c6r3, c6r4, c6r5, c6r6, c6r7, c6r8, c6r9, c6r10, c6r11, c6r12, c6r13, c6r14, c6r15, EV0, EV1, EV2, EV3, EV4, EV5, EV6, EV7, EV8, VALS, plug, ite_same, decide_true, decide_false, eq_self, ↓reduceIte, reduceCtorEq, Nat.reduceAdd, Nat.reduceEqDiff, Nat.reduceLT, Nat.reduceLeDiff, Nat.reduceMul, Nat.reduceSub, Nat.reduceDiv, Int.reduceToNat, Int.reduceAdd, Int.reduceSub, Int.reduceMul, Int.reduceNeg, Int.reduceEq, Int.reduceLT, Int.reduceLE]; rfl) ?_)
        | refine post0 ?_
      exact ends_eq (b_eq e4.symm)
    · have w1 : IntKind.i64.wrap (s.t + b) = s.t + b := wrap64 (by omega) (by omega)
      have st := eZ_wt (s := s) (v := min (s.t + b) 500)
      have W : Wdr s (wt s (min (s.t + b) 500)) := ⟨fun j hj => Int.le_refl _, fun j hj => Int.le_refl _, fun j hj => Int.le_refl _, by show s.t ≤ min _ _; omega⟩
      have hw : szOk (wt s (min (s.t + b) 500)) = true := szOk_iff.2 ⟨by
        show _ ∧ _ ∧ 0 ≤ min _ _ ∧ min _ _ ≤ (500 : Int)
        exact ⟨h1.1.1, h1.1.2.1, by omega, by omega⟩, h1.2⟩
      have e3 := (W.fits c hw).1
      have e4 := fitw _ W hw
      have q2 := pc21 (wt s (min (s.t + b) 500)) x
      rw [e3] at q2
      generalize (fitR (wt s (min (s.t + b) 500)) x).1 = Y at q2 e4
      simp only [eZ] at st q2
      repeat' first
        | with_reducible refine k_seq ?_
        | with_reducible refine k_skip ?_
        | with_reducible refine k_blkS ?_
        | with_reducible refine k_blkR ?_
        | with_reducible refine k_blkC ?_
        | with_reducible refine k_blkH ?_
        | with_reducible refine k_blkB ?_
        | with_reducible refine k_blkK ?_
        | with_reducible refine k_blkE ?_
        | with_reducible refine k_reg ?_
        | with_reducible refine r_done ?_
        | with_reducible refine s_go (by simp (disch := omega) only [eZ_rd, eH_rd, ei, w0, em, st, w1, c6r0, c6r1, c6r2, c6r3, c6r4, c6r5, c6r6, c6r7, c6r8, c6r9, c6r10, c6r11, c6r12, c6r13, c6r14, c6r15, EV0, EV1, EV2, EV3, EV4, EV5, EV6, EV7, EV8, VALS, plug, ite_same, decide_true, decide_false, eq_self, ↓reduceIte, reduceCtorEq, Nat.reduceAdd, Nat.reduceEqDiff, Nat.reduceLT, Nat.reduceLeDiff, Nat.reduceMul, Nat.reduceSub, Nat.reduceDiv, Int.reduceToNat, Int.reduceAdd, Int.reduceSub, Int.reduceMul, Int.reduceNeg, Int.reduceEq, Int.reduceLT, Int.reduceLE]; with_reducible rfl) ?_
        | ((with_reducible refine chk_r ?_); refine r_callF (by simp only [CA, Nat.reduceEqDiff, ↓reduceIte]; rfl) (by exact rfl) (by simp only [CA, Nat.reduceEqDiff, ↓reduceIte]; rfl) rfl ?_)
        | ((with_reducible refine chk_r ?_); refine r_callP (by simp only [CA, Nat.reduceEqDiff, ↓reduceIte]; rfl) (by simp only [CA, Nat.reduceEqDiff, ↓reduceIte]; rfl) (by first | exact q _ | exact q2 _ | exact pc17 _) rfl ?_)
        | ((with_reducible refine chk_r ?_); refine r_callG (by simp only [CA, Nat.reduceEqDiff, ↓reduceIte]; rfl) (by simp only [CA, Nat.reduceEqDiff, ↓reduceIte]; rfl) (by simp only [CA, Nat.reduceEqDiff, ↓reduceIte]; rfl) (by intro hg; (try simp only [BO] at hg); first | exact q _ | exact q2 _ | exact pc17 _) rfl ?_)
        | (with_reducible refine k_condP (by simp only [GA, Nat.reduceEqDiff, ↓reduceIte]; rfl) (by first | (simp only [BO]; rfl) | rfl) (fun ht => ?_) (fun ht => ?_) <;> try (first | exact False.elim ht | exact absurd rfl ht | exact absurd trivial ht | exact Bool.noConfusion ht))
        | (with_reducible refine k_ret ?_; repeat with_reducible (first | refine ret_thru ?_ | refine ret_blk ?_ | refine fin ?_))
        | (with_reducible refine k_exit ?_; repeat with_reducible (first | refine thru ?_ | refine out_blk ?_ | refine pass (by decide) ?_))
        | (refine post1 ?_; simp only [GA, Nat.reduceEqDiff, ↓reduceIte])
        | (refine post2 ?_; simp only [GA, Nat.reduceEqDiff, ↓reduceIte])
        | (refine post3 ?_; simp only [GA, Nat.reduceEqDiff, ↓reduceIte])
        | (refine postc (by simp only [GA, Nat.reduceEqDiff, ↓reduceIte]; rfl) (by simp (disch := omega) only [eZ_rd, eH_rd, ei, w0, em, st, w1, c6r0, c6r1, c6r2, c6r3, c6r4, c6r5, c6r6, c6r7, c6r8, c6r9, c6r10, c6r11, c6r12, c6r13, c6r14, c6r15, EV0, EV1, EV2, EV3, EV4, EV5, EV6, EV7, EV8, VALS, plug, ite_same, decide_true, decide_false, eq_self, ↓reduceIte, reduceCtorEq, Nat.reduceAdd, Nat.reduceEqDiff, Nat.reduceLT, Nat.reduceLeDiff, Nat.reduceMul, Nat.reduceSub, Nat.reduceDiv, Int.reduceToNat, Int.reduceAdd, Int.reduceSub, Int.reduceMul, Int.reduceNeg, Int.reduceEq, Int.reduceLT, Int.reduceLE]; rfl) ?_)
        | refine post0 ?_
      exact ends_eq (b_eq e4.symm)
  · have c' := eq_false c
    have e1 : (fitR s x).1 = false := by show (decide (sgl s x = 0) && _) = false; rw [decide_eq_false c, Bool.false_and]
    rw [e1, show (fitR s x).2 = sgl s x from rfl] at q
    repeat' first
      | with_reducible refine k_seq ?_
      | with_reducible refine k_skip ?_
      | with_reducible refine k_blkS ?_
      | with_reducible refine k_blkR ?_
      | with_reducible refine k_blkC ?_
      | with_reducible refine k_blkH ?_
      | with_reducible refine k_blkB ?_
      | with_reducible refine k_blkK ?_
      | with_reducible refine k_blkE ?_
      | with_reducible refine k_reg ?_
      | with_reducible refine r_done ?_
      | with_reducible refine s_go (by simp (disch := omega) only [eZ_rd, eH_rd, c', c6r0, c6r1, c6r2, c6r3, c6r4, c6r5, c6r6, c6r7, c6r8, c6r9, c6r10, c6r11, c6r12, c6r13, c6r14, c6r15, EV0, EV1, EV2, EV3, EV4, EV5, EV6, EV7, EV8, VALS, plug, ite_same, decide_true, decide_false, eq_self, ↓reduceIte, reduceCtorEq, Nat.reduceAdd, Nat.reduceEqDiff, Nat.reduceLT, Nat.reduceLeDiff, Nat.reduceMul, Nat.reduceSub, Nat.reduceDiv, Int.reduceToNat, Int.reduceAdd, Int.reduceSub, Int.reduceMul, Int.reduceNeg, Int.reduceEq, Int.reduceLT, Int.reduceLE]; with_reducible rfl) ?_
      | ((with_reducible refine chk_r ?_); refine r_callF (by simp only [CA, Nat.reduceEqDiff, ↓reduceIte]; rfl) (by exact rfl) (by simp only [CA, Nat.reduceEqDiff, ↓reduceIte]; rfl) rfl ?_)
      | ((with_reducible refine chk_r ?_); refine r_callP (by simp only [CA, Nat.reduceEqDiff, ↓reduceIte]; rfl) (by simp only [CA, Nat.reduceEqDiff, ↓reduceIte]; rfl) (by first | exact q _ | exact pc17 _) rfl ?_)
      | ((with_reducible refine chk_r ?_); refine r_callG (by simp only [CA, Nat.reduceEqDiff, ↓reduceIte]; rfl) (by simp only [CA, Nat.reduceEqDiff, ↓reduceIte]; rfl) (by simp only [CA, Nat.reduceEqDiff, ↓reduceIte]; rfl) (by intro hg; (try simp only [BO] at hg); first | exact q _ | exact pc17 _) rfl ?_)
      | (with_reducible refine k_condP (by simp only [GA, Nat.reduceEqDiff, ↓reduceIte]; rfl) (by first | (simp only [BO]; rfl) | rfl) (fun ht => ?_) (fun ht => ?_) <;> try (first | exact False.elim ht | exact absurd rfl ht | exact absurd trivial ht | exact Bool.noConfusion ht))
      | (with_reducible refine k_ret ?_; repeat with_reducible (first | refine ret_thru ?_ | refine ret_blk ?_ | refine fin ?_))
      | (with_reducible refine k_exit ?_; repeat with_reducible (first | refine thru ?_ | refine out_blk ?_ | refine pass (by decide) ?_))
      | (refine post1 ?_; simp only [GA, Nat.reduceEqDiff, ↓reduceIte])
      | (refine post2 ?_; simp only [GA, Nat.reduceEqDiff, ↓reduceIte])
      | (refine post3 ?_; simp only [GA, Nat.reduceEqDiff, ↓reduceIte])
      | (refine postc (by simp only [GA, Nat.reduceEqDiff, ↓reduceIte]; rfl) (by simp (disch := omega) only [eZ_rd, eH_rd, c', c6r0, c6r1, c6r2, c6r3, c6r4, c6r5, c6r6, c6r7, c6r8, c6r9, c6r10, c6r11, c6r12, c6r13, c6r14, c6r15, EV0, EV1, EV2, EV3, EV4, EV5, EV6, EV7, EV8, VALS, plug, ite_same, decide_true, decide_false, eq_self, ↓reduceIte, reduceCtorEq, Nat.reduceAdd, Nat.reduceEqDiff, Nat.reduceLT, Nat.reduceLeDiff, Nat.reduceMul, Nat.reduceSub, Nat.reduceDiv, Int.reduceToNat, Int.reduceAdd, Int.reduceSub, Int.reduceMul, Int.reduceNeg, Int.reduceEq, Int.reduceLT, Int.reduceLE]; rfl) ?_)
      | refine post0 ?_
    all_goals first | exact ends_of | exact ends_eq rfl
end Go.Proofs.Ytjaihaccehaicaa
