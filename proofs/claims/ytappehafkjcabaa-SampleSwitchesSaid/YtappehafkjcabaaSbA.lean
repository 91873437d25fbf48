import Derived.Test.YtappehafkjcabaaSaX
set_option linter.unusedVariables false
set_option linter.unusedSimpArgs false
namespace Go.Proofs.Ytappehafkjcabaa
open Go Go.Am Go.Proofs

/-! ### The trace of an inspection -/
theorem ct_snoc (l : List Bool) (b : Bool) (m : Nat) (c : Bool) : ct (l ++ [b]) (m + 1) c = ct l m c + (if b = c then 1 else 0) := by
  unfold ct
  have e : (l ++ [b]).length - (m + 1) = l.length - m := by rw [List.length_append, List.length_singleton]; omega
  rw [e, List.drop_append_of_le_length (by omega), List.filter_append, List.length_append]
  congr 1
  simp only [List.filter_cons, List.filter_nil]
  cases b <;> cases c <;> rfl
theorem ct_mono (l : List Bool) {m k : Nat} (h : m ≤ k) (c : Bool) : ct l m c ≤ ct l k c := by
  unfold ct
  have e : l.drop (l.length - m) = (l.drop (l.length - k)).drop (l.length - m - (l.length - k)) := by rw [List.drop_drop]; congr 1; omega
  rw [e]
  exact (List.Sublist.filter _ (List.drop_sublist _ _)).length_le
/-- how many are b in all -/
def ca (l : List Bool) (b : Bool) : Nat := (l.filter (· == b)).length
theorem ct_ca (l : List Bool) (m : Nat) (c : Bool) : ct l m c ≤ ca l c := (List.Sublist.filter _ (List.drop_sublist _ _)).length_le
theorem ct_all (l : List Bool) (c : Bool) : ct l l.length c = ca l c := by unfold ct ca; rw [Nat.sub_self, List.drop_zero]
theorem ca_snoc (l : List Bool) (b c : Bool) : ca (l ++ [b]) c = ca l c + (if b = c then 1 else 0) := by
  unfold ca
  rw [List.filter_append, List.length_append]
  congr 1
  cases b <;> cases c <;> rfl

structure Tr (st0 : Int) (n : Nat) (s : Int) (o : List (Int × Bool)) (st : Nat → Int) (l : Nat → List Bool) (b : Nat → Bool) : Prop where
  z : st 0 = st0
  lz : l 0 = []
  s1 : ∀ i, i < n → st (i + 1) = bh (st i) (l i ++ [b i])
  s2 : ∀ i, i < n → l (i + 1) = nl (st i) (l i) (b i)
  s4 : ∀ i, i < n → st i ≠ 4
  fin : st n = s
  len : o.length = n
  get : ∀ i, i < n → o.getD i (0, false) = (st i, b i)

def okb (a b c d e f st0 : Int) (bad : Nat → Int) (i : Nat) : Bool := (av (pl6 a b c d e f (hk a b c d e f st0 bad i).st).1 (pl6 a b c d e f (hk a b c d e f st0 bad i).st).2 (bad i)).1
theorem hk_good (a b c d e f st0 : Int) (bad : Nat → Int) : ∀ {n : Nat}, (hk a b c d e f st0 bad n).err = 0 → ∀ i, i < n → (hk a b c d e f st0 bad i).err = 0 ∧ (hk a b c d e f st0 bad i).st ≠ 4 ∧
    hk a b c d e f st0 bad (i + 1) = ⟨0, bh (hk a b c d e f st0 bad i).st ((hk a b c d e f st0 bad i).l ++ [okb a b c d e f st0 bad i]), nl (hk a b c d e f st0 bad i).st (hk a b c d e f st0 bad i).l (okb a b c d e f st0 bad i), (hk a b c d e f st0 bad i).o ++ [((hk a b c d e f st0 bad i).st, okb a b c d e f st0 bad i)]⟩ := by
  intro n h i hi
  have h0 : (hk a b c d e f st0 bad (i + 1)).err = 0 := by
    refine Classical.byContradiction fun q => ?_
    have := hk_err (k := i + 1) q (n - (i + 1))
    rw [show i + 1 + (n - (i + 1)) = n by omega] at this
    rw [this] at h
    exact q h
  have h1 : (hk a b c d e f st0 bad i).err = 0 := by
    refine Classical.byContradiction fun q => ?_
    have := hk_err (k := i) q 1
    rw [this] at h0
    exact q h0
  have e1 : hk a b c d e f st0 bad (i + 1) = hstep a b c d e f (hk a b c d e f st0 bad i) (bad i) := rfl
  unfold okb
  generalize hk a b c d e f st0 bad i = X at *
  rw [e1] at h0 ⊢
  unfold hstep at h0 ⊢
  rw [if_neg (by simp [h1])] at h0 ⊢
  by_cases h4 : X.st = 4
  · rw [if_pos h4] at h0; simp at h0
  · rw [if_neg h4] at h0 ⊢
    simp only at h0 ⊢
    split at h0
    · rename_i q; simp at h0; exact absurd h0 q
    · rename_i q; rw [if_neg q]; exact ⟨h1, h4, rfl⟩
theorem hk_tr (a b c d e f st0 : Int) (bad : Nat → Int) (n : Nat) (h : (hk a b c d e f st0 bad n).err = 0) : Tr st0 n (hk a b c d e f st0 bad n).st (hk a b c d e f st0 bad n).o (fun i => (hk a b c d e f st0 bad i).st) (fun i => (hk a b c d e f st0 bad i).l) (fun i => okb a b c d e f st0 bad i) := by
  have g := fun i hi => hk_good a b c d e f st0 bad h i hi
  refine ⟨rfl, rfl, fun i hi => by have := (g i hi).2.2; simp only [this], fun i hi => by have := (g i hi).2.2; simp only [this], fun i hi => (g i hi).2.1, rfl, (hk_len a b c d e f st0 bad n).2.2 h, ?_⟩
  have key : ∀ k, k ≤ n → ∀ i, i < k → (hk a b c d e f st0 bad k).o.getD i (0, false) = ((hk a b c d e f st0 bad i).st, okb a b c d e f st0 bad i) := by
    intro k
    induction k with
    | zero => intro _ i hi; omega
    | succ k ih =>
      intro hk' i hi
      have e1 := (g k (by omega)).2.2
      rw [e1]
      show (_ ++ [_]).getD i (0, false) = _
      have hl := (hk_len a b c d e f st0 bad k).2.2 (g k (by omega)).1
      by_cases hik : i < k
      · rw [List.getD_eq_getElem?_getD, List.getElem?_append_left (by omega), ← List.getD_eq_getElem?_getD]
        exact ih (by omega) i hik
      · obtain rfl : i = k := by omega
        rw [List.getD_eq_getElem?_getD, List.getElem?_append_right (by omega), hl, Nat.sub_self]; rfl
  exact fun i hi => key n (Nat.le_refl _) i hi
theorem hres_tr {a b c d e f st0 : Int} {bad : Nat → Int} {n : Nat} (h : (hres a b c d e f st0 bad n).1 = 0) : ∃ st l bb, Tr st0 n (hres a b c d e f st0 bad n).2.1 (hres a b c d e f st0 bad n).2.2 st l bb ∧ n ≤ 200 := by
  unfold hres at *
  by_cases hv : sv a b c d e f = true
  · rw [if_pos hv] at *
    by_cases hn : 200 < n
    · rw [if_pos hn] at h; simp at h
    · rw [if_neg hn] at *
      by_cases he : (hk a b c d e f st0 bad n).err = 0
      · rw [if_neg (by simp [he])]
        exact ⟨_, _, _, hk_tr a b c d e f st0 bad n he, by omega⟩
      · rw [if_pos he] at h; exact absurd h he
  · rw [if_neg hv] at h; simp at h
/-- what holds all along -/
theorem Tr.inv {n : Nat} {s : Int} {o : List (Int × Bool)} {st : Nat → Int} {l : Nat → List Bool} {b : Nat → Bool} (t : Tr 1 n s o st l b) : ∀ i, i ≤ n → (st i = 1 ∨ st i = 2 ∨ st i = 3 ∨ st i = 4) ∧ (st i = 1 → ct (l i) 5 false < 2)
  | 0, _ => by rw [t.z, t.lz]; exact ⟨.inl rfl, fun _ => by decide⟩
  | i + 1, hi => by
    obtain ⟨h1, h2⟩ := t.inv i (by omega)
    rw [t.s1 i (by omega), t.s2 i (by omega)]
    unfold nl
    generalize st i = x at *
    generalize l i ++ [b i] = L at *
    have q : bh x L ≠ x → ct (if bh x L = x then L else []) 5 false < 2 := fun q => by rw [if_neg q]; decide
    constructor
    · unfold bh; (repeat' split) <;> omega
    · intro e
      by_cases hx : x = 1
      · subst hx
        rw [if_pos e]
        unfold bh at e
        rw [if_pos rfl] at e
        split at e <;> omega
      · exact q (by omega)

theorem ol_get2 : ∀ (o : List (Int × Bool)) (j : Nat), j < o.length → (ol o)[j * 2]? = some (.i .i64 (o.getD j (0, false)).1) := by
  intro o j h
  have := ol_take2 o j h
  have e : ((ol o).drop (j * 2)).take 2 = [.i .i64 (o.getD j (0, false)).1, .b (o.getD j (0, false)).2] := this
  have : (((ol o).drop (j * 2)).take 2)[0]? = some (.i .i64 (o.getD j (0, false)).1) := by rw [e]; rfl
  rw [List.getElem?_take_of_lt (by omega), List.getElem?_drop] at this
  simpa using this

theorem Tr.next {n : Nat} {s : Int} {o : List (Int × Bool)} {st : Nat → Int} {l : Nat → List Bool} {b : Nat → Bool} (t : Tr 1 n s o st l b) {i g : Nat} {sm : Bool} (hi : i < n) (h1 : sm = true → st i = 3 → 10 ≤ g) (h2 : st i = 1 → ca (l i) true ≤ g) :
    (st i = 1 → b i = true → st (i + 1) = 1 ∨ st (i + 1) = 3) ∧ (st i = 3 → b i = false → st (i + 1) = 1 ∧ ca (l (i + 1)) true = 0) ∧
    (¬ (st i = 3 ∧ b i = false) → (sm = true → st (i + 1) = 3 → 10 ≤ g + (if b i = true then 1 else 0)) ∧ (st (i + 1) = 1 → ca (l (i + 1)) true ≤ g + (if b i = true then 1 else 0))) := by
  have iv := t.inv i (by omega)
  have s4 := t.s4 i hi
  rw [t.s1 i hi, t.s2 i hi]
  have c5 := ct_snoc (l i) (b i) 4 false
  have m5 := ct_mono (l i) (show 4 ≤ 5 by omega) false
  have c10 := ct_true10 (l i ++ [b i])
  have ca1 := ca_snoc (l i) (b i) true
  have cc := ct_ca (l i ++ [b i]) 10 true
  have c1 := ct_last (l i) (b i)
  unfold nl
  generalize l i ++ [b i] = L at *
  generalize st i = x at *
  refine ⟨fun e1 e2 => ?_, fun e1 e2 => ?_, fun e0 => ⟨fun e1 e2 => ?_, fun e1 => ?_⟩⟩
  · rw [e2] at c5
    simp at c5
    have := iv.2 e1
    unfold bh
    rw [if_pos e1]
    (repeat' split) <;> omega
  · rw [if_pos e2] at c1
    have : bh x L = 1 := by unfold bh; rw [e1]; simp [c1]
    rw [this, e1]
    exact ⟨rfl, rfl⟩
  · rcases iv.1 with q | q | q | q
    · unfold bh at e2
      rw [if_pos q] at e2
      have := h2 q
      split at e2
      · omega
      · split at e2 <;> omega
    · unfold bh at e2
      rw [if_neg (by omega), if_pos q] at e2
      (repeat' split at e2) <;> omega
    · have := h1 e1 q
      omega
    · omega
  · by_cases q : x = 1
    · rw [e1, q, if_pos rfl]
      have := h2 q
      omega
    · rw [e1, if_neg (fun e => q e.symm)]
      exact Nat.zero_le _

set_option maxHeartbeats 4000000 in
theorem f10 (h : AH) (a b c d e f : Int) (_ : -9223372036854775808 ≤ a ∧ a ≤ 9223372036854775807) (_ : -9223372036854775808 ≤ b ∧ b ≤ 9223372036854775807) (_ : -9223372036854775808 ≤ c ∧ c ≤ 9223372036854775807) (_ : -9223372036854775808 ≤ d ∧ d ≤ 9223372036854775807) (_ : -9223372036854775808 ≤ e ∧ e ≤ 9223372036854775807) (_ : -9223372036854775808 ≤ f ∧ f ≤ 9223372036854775807)
    (tf of_ n : Nat) (bad : Nat → Int) (hn : n ≤ 9223372036854775807) (hb : ∀ j, j < n → h.read tf (of_ + j) none = some (.i .i64 (bad j))) (_ : ∀ j, j < n → -9223372036854775808 ≤ bad j ∧ bad j ≤ 9223372036854775807) :
    ACalls Try.prog 10 [.ag [.i .i64 a, .i .i64 b, .i .i64 c, .i .i64 d, .i .i64 e, .i .i64 f], .sl tf of_ n 0] h fun r h' => r = .b true ∧ h' = h := by
  have q34 := fun h hb => f34 a b c d e f tf of_ n 0 bad hn h hb
  refine pure_call (R := fun r => r = .b true) (fun h0 hr _ => ?_) (fun r e => by rw [e]; rfl)
  have hb' : ∀ j, j < n → h0.read tf (of_ + j) none = some (.i .i64 (bad j)) := fun j hj => by unfold AH.read; rw [hr]; exact hb j hj
  clear hb hr
  refine a_fn fn10 (by simp) fun ok pos => ?_
  rw [initSt2]
  have q1 : ∀ j, j < n → tf < h0.nx := fun j hj => ok.read (hb' j hj)
  have hl := hres_len a b c d e f 1 bad n
  have hol := ol_len (hres a b c d e f 1 bad n).2.2
  by_cases he : (hres a b c d e f 1 bad n).1 = 0
  · obtain ⟨sf, l, bb, T, hn2⟩ := hres_tr he
    rw [he] at q34
    generalize hres a b c d e f 1 bad n = R at *
    obtain ⟨R1, sn, o⟩ := R
    simp only at *
    have hlen := T.len
    repeat' first
      | with_reducible refine k_seq ?_
      | with_reducible refine k_skip ?_
      | with_reducible refine k_blkS ?_
      | with_reducible refine k_reg ?_
      | with_reducible refine r_done ?_
      | with_reducible refine s_go (by simp (disch := omega) only [c10r0, c10r1, c10r2, c10r3, c10r4, c10r5, c10r6, c10r7, c10r8, c10r9, c10r10, c10r11, c10r12, c10r13, c10r14, c10r15, c10r16, c10r17, c10r18, c10r19, c10r21, EV0, EV1, EV2, EV3, EV4, EV5, EV6, EV7, plug, ite_same, decide_true, decide_false, eq_self, ↓reduceIte, reduceCtorEq, Nat.reduceAdd, Nat.reduceEqDiff, Nat.reduceLT, Nat.reduceLeDiff, Nat.reduceMul, Nat.reduceSub, Nat.reduceDiv, Int.reduceToNat, Int.reduceAdd, Int.reduceSub, Int.reduceMul, Int.reduceNeg, Int.reduceEq, Int.reduceLT, Int.reduceLE]; with_reducible rfl) ?_
      | ((with_reducible refine chk_r ?_); refine r_callF (by simp only [CA, Nat.reduceEqDiff, ↓reduceIte]; rfl) (by exact rfl) (by simp only [CA, Nat.reduceEqDiff, ↓reduceIte]; rfl) rfl ?_)
      | ((with_reducible refine chk_r ?_); refine r_callN (by simp only [CA, Nat.reduceEqDiff, ↓reduceIte]; rfl) (by simp only [CA, Nat.reduceEqDiff, ↓reduceIte]; rfl) (by first | (refine q34 _ ?_; intro j hj; have := q1 j hj; simp (disch := omega) only [hb', c10r0, c10r1, c10r2, c10r3, c10r4, c10r5, c10r6, c10r7, c10r8, c10r9, c10r10, c10r11, c10r12, c10r13, c10r14, c10r15, c10r16, c10r17, c10r18, c10r19, c10r21, EV0, EV1, EV2, EV3, EV4, EV5, EV6, EV7, plug, ite_same, decide_true, decide_false, eq_self, ↓reduceIte, reduceCtorEq, Nat.reduceAdd, Nat.reduceEqDiff, Nat.reduceLT, Nat.reduceLeDiff, Nat.reduceMul, Nat.reduceSub, Nat.reduceDiv, Int.reduceToNat, Int.reduceAdd, Int.reduceSub, Int.reduceMul, Int.reduceNeg, Int.reduceEq, Int.reduceLT, Int.reduceLE])) rfl ?_)
      | (with_reducible refine k_condP (by simp only [GA, Nat.reduceEqDiff, ↓reduceIte]; rfl) (by first | (simp only [BO]; rfl) | rfl) (fun ht => ?_) (fun ht => ?_) <;> try (first | exact False.elim ht | exact absurd rfl ht | exact absurd trivial ht | exact Bool.noConfusion ht))
      | (with_reducible refine k_ret ?_; repeat with_reducible (first | refine ret_thru ?_ | refine ret_blk ?_ | refine fin ?_))
      | (with_reducible refine k_exit ?_; repeat with_reducible (first | refine thru ?_ | refine out_blk ?_ | refine pass (by decide) ?_))
      | (refine post1 ?_; simp only [GA, Nat.reduceEqDiff, ↓reduceIte])
      | (refine post2 ?_; simp only [GA, Nat.reduceEqDiff, ↓reduceIte])
      | (refine post3 ?_; simp only [GA, Nat.reduceEqDiff, ↓reduceIte])
      | (refine postc (by simp only [GA, Nat.reduceEqDiff, ↓reduceIte]; rfl) (by simp (disch := omega) only [c10r0, c10r1, c10r2, c10r3, c10r4, c10r5, c10r6, c10r7, c10r8, c10r9, c10r10, c10r11, c10r12, c10r13, c10r14, c10r15, c10r16, c10r17, c10r18, c10r19, c10r21, EV0, EV1, EV2, EV3, EV4, EV5, EV6, EV7, plug, ite_same, decide_true, decide_false, eq_self, ↓reduceIte, reduceCtorEq, Nat.reduceAdd, Nat.reduceEqDiff, Nat.reduceLT, Nat.reduceLeDiff, Nat.reduceMul, Nat.reduceSub, Nat.reduceDiv, Int.reduceToNat, Int.reduceAdd, Int.reduceSub, Int.reduceMul, Int.reduceNeg, Int.reduceEq, Int.reduceLT, Int.reduceLE]; rfl) ?_)
      | refine post0 ?_
    refine k_blk (k_loop (fun m st h => ∃ i g T' : Nat, ∃ sm : Bool, Am.keep [25, 24, 23, 9, 8, 6, 5] st = [(25, .i .i64 i), (24, .i .i64 o.length), (23, .sl T' 0 o.length 2), (9, .b sm), (8, .i .i64 g), (6, .i .i64 sn), (5, .sl T' 0 o.length 2)] ∧ m = n - i ∧ i ≤ n ∧ g ≤ i ∧ (sm = true → sf i = 3 → 10 ≤ g) ∧ (sf i = 1 → ca (l i) true ≤ g) ∧ h.m T' = some (.cells true (ol o))) n ?_ ?_)
    · refine ⟨0, 0, _, false, rfl, by omega, by omega, by omega, fun h => by simp at h, fun _ => by rw [T.lz]; exact Nat.le_refl _, ?_⟩
      simp (disch := omega) only [c10r0, c10r1, c10r2, c10r3, c10r4, c10r5, c10r6, c10r7, c10r8, c10r9, c10r10, c10r11, c10r12, c10r13, c10r14, c10r15, c10r16, c10r17, c10r18, c10r19, c10r21, EV0, EV1, EV2, EV3, EV4, EV5, EV6, EV7, plug, ite_same, decide_true, decide_false, eq_self, ↓reduceIte, reduceCtorEq, Nat.reduceAdd, Nat.reduceEqDiff, Nat.reduceLT, Nat.reduceLeDiff, Nat.reduceMul, Nat.reduceSub, Nat.reduceDiv, Int.reduceToNat, Int.reduceAdd, Int.reduceSub, Int.reduceMul, Int.reduceNeg, Int.reduceEq, Int.reduceLT, Int.reduceLE]
    · rintro m st h ⟨i, g, T', sm, hk', rfl, hi, hg, i1, i2, hm⟩
      refine k_inv hk' (w_ok fun ok pos => ?_)
      have hT := ok.m hm
      by_cases hc : (i : Int) < o.length
      · obtain ⟨x1, x2, x3⟩ := T.next (i := i) (g := g) (sm := sm) (by omega) i1 i2
        have e1 := ol_take2 o i (by omega)
        rw [T.get i (by omega)] at e1
        simp only at e1
        have nx : ∀ hc2 : (i : Int) + 1 < o.length, (ol o)[(i + 1) * 2]? = some (.i .i64 (sf (i + 1))) := fun hc2 => by
          rw [ol_get2 o (i + 1) (by omega), T.get (i + 1) (by omega)]
        have nx2 : ¬ (i : Int) + 1 < o.length → sn = sf (i + 1) := fun hc2 => by rw [show i + 1 = n by omega]; exact T.fin.symm
        by_cases hc2 : (i : Int) + 1 < o.length
        · have e2 := nx hc2
          cases hbi : bb i with
          | true =>
            rw [hbi] at e1 x1 x2 x3
            repeat' first
              | with_reducible refine k_seq ?_
              | with_reducible refine k_skip ?_
              | with_reducible refine k_blkS ?_
              | with_reducible refine k_reg ?_
              | with_reducible refine r_done ?_
              | with_reducible refine s_go (by simp (disch := omega) only [hc, hc2, read_row (row_m hm), e1, e2, hol, c10r0, c10r1, c10r2, c10r3, c10r4, c10r5, c10r6, c10r7, c10r8, c10r9, c10r10, c10r11, c10r12, c10r13, c10r14, c10r15, c10r16, c10r17, c10r18, c10r19, c10r21, EV0, EV1, EV2, EV3, EV4, EV5, EV6, EV7, plug, ite_same, decide_true, decide_false, eq_self, ↓reduceIte, reduceCtorEq, Nat.reduceAdd, Nat.reduceEqDiff, Nat.reduceLT, Nat.reduceLeDiff, Nat.reduceMul, Nat.reduceSub, Nat.reduceDiv, Int.reduceToNat, Int.reduceAdd, Int.reduceSub, Int.reduceMul, Int.reduceNeg, Int.reduceEq, Int.reduceLT, Int.reduceLE]; with_reducible rfl) ?_
              | ((with_reducible refine chk_r ?_); refine r_callF (by simp only [CA, Nat.reduceEqDiff, ↓reduceIte]; rfl) (by exact rfl) (by simp only [CA, Nat.reduceEqDiff, ↓reduceIte]; rfl) rfl ?_)
              | (with_reducible refine k_condP (by simp only [GA, Nat.reduceEqDiff, ↓reduceIte]; rfl) (by first | (simp only [BO]; rfl) | rfl) (fun ht => ?_) (fun ht => ?_) <;> try (first | exact False.elim ht | exact absurd rfl ht | exact absurd trivial ht | exact Bool.noConfusion ht))
              | (with_reducible refine k_ret ?_; repeat with_reducible (first | refine ret_thru ?_ | refine ret_blk ?_ | refine fin ?_))
              | (with_reducible refine k_exit ?_; repeat with_reducible (first | refine thru ?_ | refine out_blk ?_ | refine pass (by decide) ?_))
              | (refine post1 ?_; simp only [GA, Nat.reduceEqDiff, ↓reduceIte])
              | (refine post2 ?_; simp only [GA, Nat.reduceEqDiff, ↓reduceIte])
              | (refine post3 ?_; simp only [GA, Nat.reduceEqDiff, ↓reduceIte])
              | (refine postc (by simp only [GA, Nat.reduceEqDiff, ↓reduceIte]; rfl) (by simp (disch := omega) only [hc, hc2, read_row (row_m hm), e1, e2, hol, c10r0, c10r1, c10r2, c10r3, c10r4, c10r5, c10r6, c10r7, c10r8, c10r9, c10r10, c10r11, c10r12, c10r13, c10r14, c10r15, c10r16, c10r17, c10r18, c10r19, c10r21, EV0, EV1, EV2, EV3, EV4, EV5, EV6, EV7, plug, ite_same, decide_true, decide_false, eq_self, ↓reduceIte, reduceCtorEq, Nat.reduceAdd, Nat.reduceEqDiff, Nat.reduceLT, Nat.reduceLeDiff, Nat.reduceMul, Nat.reduceSub, Nat.reduceDiv, Int.reduceToNat, Int.reduceAdd, Int.reduceSub, Int.reduceMul, Int.reduceNeg, Int.reduceEq, Int.reduceLT, Int.reduceLE]; rfl) ?_)
              | refine post0 ?_
            · exact absurd (x1 ht.1.1 rfl) (by omega)
            · simp only [Bool.true_eq_false, and_false, not_false_eq_true, if_true, forall_const] at x3
              refine ⟨_, ?_, i + 1, g + 1, T', sm, rfl, rfl, by omega, by omega, x3.1, x3.2, ?_⟩
              · omega
              · simp (disch := omega) only [hm, c10r0, c10r1, c10r2, c10r3, c10r4, c10r5, c10r6, c10r7, c10r8, c10r9, c10r10, c10r11, c10r12, c10r13, c10r14, c10r15, c10r16, c10r17, c10r18, c10r19, c10r21, EV0, EV1, EV2, EV3, EV4, EV5, EV6, EV7, plug, ite_same, decide_true, decide_false, eq_self, ↓reduceIte, reduceCtorEq, Nat.reduceAdd, Nat.reduceEqDiff, Nat.reduceLT, Nat.reduceLeDiff, Nat.reduceMul, Nat.reduceSub, Nat.reduceDiv, Int.reduceToNat, Int.reduceAdd, Int.reduceSub, Int.reduceMul, Int.reduceNeg, Int.reduceEq, Int.reduceLT, Int.reduceLE]
          | false =>
            rw [hbi] at e1 x1 x2 x3
            repeat' first
              | with_reducible refine k_seq ?_
              | with_reducible refine k_skip ?_
              | with_reducible refine k_blkS ?_
              | with_reducible refine k_reg ?_
              | with_reducible refine r_done ?_
              | with_reducible refine s_go (by simp (disch := omega) only [hc, hc2, read_row (row_m hm), e1, e2, hol, c10r0, c10r1, c10r2, c10r3, c10r4, c10r5, c10r6, c10r7, c10r8, c10r9, c10r10, c10r11, c10r12, c10r13, c10r14, c10r15, c10r16, c10r17, c10r18, c10r19, c10r21, EV0, EV1, EV2, EV3, EV4, EV5, EV6, EV7, plug, ite_same, decide_true, decide_false, eq_self, ↓reduceIte, reduceCtorEq, Nat.reduceAdd, Nat.reduceEqDiff, Nat.reduceLT, Nat.reduceLeDiff, Nat.reduceMul, Nat.reduceSub, Nat.reduceDiv, Int.reduceToNat, Int.reduceAdd, Int.reduceSub, Int.reduceMul, Int.reduceNeg, Int.reduceEq, Int.reduceLT, Int.reduceLE]; with_reducible rfl) ?_
              | ((with_reducible refine chk_r ?_); refine r_callF (by simp only [CA, Nat.reduceEqDiff, ↓reduceIte]; rfl) (by exact rfl) (by simp only [CA, Nat.reduceEqDiff, ↓reduceIte]; rfl) rfl ?_)
              | (with_reducible refine k_condP (by simp only [GA, Nat.reduceEqDiff, ↓reduceIte]; rfl) (by first | (simp only [BO]; rfl) | rfl) (fun ht => ?_) (fun ht => ?_) <;> try (first | exact False.elim ht | exact absurd rfl ht | exact absurd trivial ht | exact Bool.noConfusion ht))
              | (with_reducible refine k_ret ?_; repeat with_reducible (first | refine ret_thru ?_ | refine ret_blk ?_ | refine fin ?_))
              | (with_reducible refine k_exit ?_; repeat with_reducible (first | refine thru ?_ | refine out_blk ?_ | refine pass (by decide) ?_))
              | (refine post1 ?_; simp only [GA, Nat.reduceEqDiff, ↓reduceIte])
              | (refine post2 ?_; simp only [GA, Nat.reduceEqDiff, ↓reduceIte])
              | (refine post3 ?_; simp only [GA, Nat.reduceEqDiff, ↓reduceIte])
              | (refine postc (by simp only [GA, Nat.reduceEqDiff, ↓reduceIte]; rfl) (by simp (disch := omega) only [hc, hc2, read_row (row_m hm), e1, e2, hol, c10r0, c10r1, c10r2, c10r3, c10r4, c10r5, c10r6, c10r7, c10r8, c10r9, c10r10, c10r11, c10r12, c10r13, c10r14, c10r15, c10r16, c10r17, c10r18, c10r19, c10r21, EV0, EV1, EV2, EV3, EV4, EV5, EV6, EV7, plug, ite_same, decide_true, decide_false, eq_self, ↓reduceIte, reduceCtorEq, Nat.reduceAdd, Nat.reduceEqDiff, Nat.reduceLT, Nat.reduceLeDiff, Nat.reduceMul, Nat.reduceSub, Nat.reduceDiv, Int.reduceToNat, Int.reduceAdd, Int.reduceSub, Int.reduceMul, Int.reduceNeg, Int.reduceEq, Int.reduceLT, Int.reduceLE]; rfl) ?_)
              | refine post0 ?_
            · have q : sf i = 3 := by assumption
              have := x2 q rfl
              rcases ht with ht | ⟨h1, h2⟩
              · exact absurd this.1 ht
              · have := i1 h1 q
                omega
            · have q : sf i = 3 := by assumption
              have := x2 q rfl
              refine ⟨_, ?_, i + 1, 0, T', true, rfl, rfl, by omega, by omega, fun _ q2 => by omega, fun _ => by omega, ?_⟩
              · omega
              · simp (disch := omega) only [hm, c10r0, c10r1, c10r2, c10r3, c10r4, c10r5, c10r6, c10r7, c10r8, c10r9, c10r10, c10r11, c10r12, c10r13, c10r14, c10r15, c10r16, c10r17, c10r18, c10r19, c10r21, EV0, EV1, EV2, EV3, EV4, EV5, EV6, EV7, plug, ite_same, decide_true, decide_false, eq_self, ↓reduceIte, reduceCtorEq, Nat.reduceAdd, Nat.reduceEqDiff, Nat.reduceLT, Nat.reduceLeDiff, Nat.reduceMul, Nat.reduceSub, Nat.reduceDiv, Int.reduceToNat, Int.reduceAdd, Int.reduceSub, Int.reduceMul, Int.reduceNeg, Int.reduceEq, Int.reduceLT, Int.reduceLE]
            · have x4 := x3 (fun q => ht q.1)
              simp only [Bool.false_eq_true, if_false, Nat.add_zero] at x4
              refine ⟨_, ?_, i + 1, g, T', sm, rfl, rfl, by omega, by omega, x4.1, x4.2, ?_⟩
              · omega
              · simp (disch := omega) only [hm, c10r0, c10r1, c10r2, c10r3, c10r4, c10r5, c10r6, c10r7, c10r8, c10r9, c10r10, c10r11, c10r12, c10r13, c10r14, c10r15, c10r16, c10r17, c10r18, c10r19, c10r21, EV0, EV1, EV2, EV3, EV4, EV5, EV6, EV7, plug, ite_same, decide_true, decide_false, eq_self, ↓reduceIte, reduceCtorEq, Nat.reduceAdd, Nat.reduceEqDiff, Nat.reduceLT, Nat.reduceLeDiff, Nat.reduceMul, Nat.reduceSub, Nat.reduceDiv, Int.reduceToNat, Int.reduceAdd, Int.reduceSub, Int.reduceMul, Int.reduceNeg, Int.reduceEq, Int.reduceLT, Int.reduceLE]
        · have e2 := nx2 hc2
          subst e2
          cases hbi : bb i with
          | true =>
            rw [hbi] at e1 x1 x2 x3
            repeat' first
              | with_reducible refine k_seq ?_
              | with_reducible refine k_skip ?_
              | with_reducible refine k_blkS ?_
              | with_reducible refine k_reg ?_
              | with_reducible refine r_done ?_
              | with_reducible refine s_go (by simp (disch := omega) only [hc, hc2, read_row (row_m hm), e1, hol, c10r0, c10r1, c10r2, c10r3, c10r4, c10r5, c10r6, c10r7, c10r8, c10r9, c10r10, c10r11, c10r12, c10r13, c10r14, c10r15, c10r16, c10r17, c10r18, c10r19, c10r21, EV0, EV1, EV2, EV3, EV4, EV5, EV6, EV7, plug, ite_same, decide_true, decide_false, eq_self, ↓reduceIte, reduceCtorEq, Nat.reduceAdd, Nat.reduceEqDiff, Nat.reduceLT, Nat.reduceLeDiff, Nat.reduceMul, Nat.reduceSub, Nat.reduceDiv, Int.reduceToNat, Int.reduceAdd, Int.reduceSub, Int.reduceMul, Int.reduceNeg, Int.reduceEq, Int.reduceLT, Int.reduceLE]; with_reducible rfl) ?_
              | ((with_reducible refine chk_r ?_); refine r_callF (by simp only [CA, Nat.reduceEqDiff, ↓reduceIte]; rfl) (by exact rfl) (by simp only [CA, Nat.reduceEqDiff, ↓reduceIte]; rfl) rfl ?_)
              | (with_reducible refine k_condP (by simp only [GA, Nat.reduceEqDiff, ↓reduceIte]; rfl) (by first | (simp only [BO]; rfl) | rfl) (fun ht => ?_) (fun ht => ?_) <;> try (first | exact False.elim ht | exact absurd rfl ht | exact absurd trivial ht | exact Bool.noConfusion ht))
              | (with_reducible refine k_ret ?_; repeat with_reducible (first | refine ret_thru ?_ | refine ret_blk ?_ | refine fin ?_))
              | (with_reducible refine k_exit ?_; repeat with_reducible (first | refine thru ?_ | refine out_blk ?_ | refine pass (by decide) ?_))
              | (refine post1 ?_; simp only [GA, Nat.reduceEqDiff, ↓reduceIte])
              | (refine post2 ?_; simp only [GA, Nat.reduceEqDiff, ↓reduceIte])
              | (refine post3 ?_; simp only [GA, Nat.reduceEqDiff, ↓reduceIte])
              | (refine postc (by simp only [GA, Nat.reduceEqDiff, ↓reduceIte]; rfl) (by simp (disch := omega) only [hc, hc2, read_row (row_m hm), e1, hol, c10r0, c10r1, c10r2, c10r3, c10r4, c10r5, c10r6, c10r7, c10r8, c10r9, c10r10, c10r11, c10r12, c10r13, c10r14, c10r15, c10r16, c10r17, c10r18, c10r19, c10r21, EV0, EV1, EV2, EV3, EV4, EV5, EV6, EV7, plug, ite_same, decide_true, decide_false, eq_self, ↓reduceIte, reduceCtorEq, Nat.reduceAdd, Nat.reduceEqDiff, Nat.reduceLT, Nat.reduceLeDiff, Nat.reduceMul, Nat.reduceSub, Nat.reduceDiv, Int.reduceToNat, Int.reduceAdd, Int.reduceSub, Int.reduceMul, Int.reduceNeg, Int.reduceEq, Int.reduceLT, Int.reduceLE]; rfl) ?_)
              | refine post0 ?_
            · exact absurd (x1 ht.1.1 rfl) (by omega)
            · simp only [Bool.true_eq_false, and_false, not_false_eq_true, if_true, forall_const] at x3
              refine ⟨_, ?_, i + 1, g + 1, T', sm, rfl, rfl, by omega, by omega, x3.1, x3.2, ?_⟩
              · omega
              · simp (disch := omega) only [hm, c10r0, c10r1, c10r2, c10r3, c10r4, c10r5, c10r6, c10r7, c10r8, c10r9, c10r10, c10r11, c10r12, c10r13, c10r14, c10r15, c10r16, c10r17, c10r18, c10r19, c10r21, EV0, EV1, EV2, EV3, EV4, EV5, EV6, EV7, plug, ite_same, decide_true, decide_false, eq_self, ↓reduceIte, reduceCtorEq, Nat.reduceAdd, Nat.reduceEqDiff, Nat.reduceLT, Nat.reduceLeDiff, Nat.reduceMul, Nat.reduceSub, Nat.reduceDiv, Int.reduceToNat, Int.reduceAdd, Int.reduceSub, Int.reduceMul, Int.reduceNeg, Int.reduceEq, Int.reduceLT, Int.reduceLE]
          | false =>
            rw [hbi] at e1 x1 x2 x3
            repeat' first
              | with_reducible refine k_seq ?_
              | with_reducible refine k_skip ?_
              | with_reducible refine k_blkS ?_
              | with_reducible refine k_reg ?_
              | with_reducible refine r_done ?_
              | with_reducible refine s_go (by simp (disch := omega) only [hc, hc2, read_row (row_m hm), e1, hol, c10r0, c10r1, c10r2, c10r3, c10r4, c10r5, c10r6, c10r7, c10r8, c10r9, c10r10, c10r11, c10r12, c10r13, c10r14, c10r15, c10r16, c10r17, c10r18, c10r19, c10r21, EV0, EV1, EV2, EV3, EV4, EV5, EV6, EV7, plug, ite_same, decide_true, decide_false, eq_self, ↓reduceIte, reduceCtorEq, Nat.reduceAdd, Nat.reduceEqDiff, Nat.reduceLT, Nat.reduceLeDiff, Nat.reduceMul, Nat.reduceSub, Nat.reduceDiv, Int.reduceToNat, Int.reduceAdd, Int.reduceSub, Int.reduceMul, Int.reduceNeg, Int.reduceEq, Int.reduceLT, Int.reduceLE]; with_reducible rfl) ?_
              | ((with_reducible refine chk_r ?_); refine r_callF (by simp only [CA, Nat.reduceEqDiff, ↓reduceIte]; rfl) (by exact rfl) (by simp only [CA, Nat.reduceEqDiff, ↓reduceIte]; rfl) rfl ?_)
              | (with_reducible refine k_condP (by simp only [GA, Nat.reduceEqDiff, ↓reduceIte]; rfl) (by first | (simp only [BO]; rfl) | rfl) (fun ht => ?_) (fun ht => ?_) <;> try (first | exact False.elim ht | exact absurd rfl ht | exact absurd trivial ht | exact Bool.noConfusion ht))
              | (with_reducible refine k_ret ?_; repeat with_reducible (first | refine ret_thru ?_ | refine ret_blk ?_ | refine fin ?_))
              | (with_reducible refine k_exit ?_; repeat with_reducible (first | refine thru ?_ | refine out_blk ?_ | refine pass (by decide) ?_))
              | (refine post1 ?_; simp only [GA, Nat.reduceEqDiff, ↓reduceIte])
              | (refine post2 ?_; simp only [GA, Nat.reduceEqDiff, ↓reduceIte])
              | (refine post3 ?_; simp only [GA, Nat.reduceEqDiff, ↓reduceIte])
              | (refine postc (by simp only [GA, Nat.reduceEqDiff, ↓reduceIte]; rfl) (by simp (disch := omega) only [hc, hc2, read_row (row_m hm), e1, hol, c10r0, c10r1, c10r2, c10r3, c10r4, c10r5, c10r6, c10r7, c10r8, c10r9, c10r10, c10r11, c10r12, c10r13, c10r14, c10r15, c10r16, c10r17, c10r18, c10r19, c10r21, EV0, EV1, EV2, EV3, EV4, EV5, EV6, EV7, plug, ite_same, decide_true, decide_false, eq_self, ↓reduceIte, reduceCtorEq, Nat.reduceAdd, Nat.reduceEqDiff, Nat.reduceLT, Nat.reduceLeDiff, Nat.reduceMul, Nat.reduceSub, Nat.reduceDiv, Int.reduceToNat, Int.reduceAdd, Int.reduceSub, Int.reduceMul, Int.reduceNeg, Int.reduceEq, Int.reduceLT, Int.reduceLE]; rfl) ?_)
              | refine post0 ?_
            · have q : sf i = 3 := by assumption
              have := x2 q rfl
              rcases ht with ht | ⟨h1, h2⟩
              · exact absurd this.1 ht
              · have := i1 h1 q
                omega
            · have q : sf i = 3 := by assumption
              have := x2 q rfl
              refine ⟨_, ?_, i + 1, 0, T', true, rfl, rfl, by omega, by omega, fun _ q2 => by omega, fun _ => by omega, ?_⟩
              · omega
              · simp (disch := omega) only [hm, c10r0, c10r1, c10r2, c10r3, c10r4, c10r5, c10r6, c10r7, c10r8, c10r9, c10r10, c10r11, c10r12, c10r13, c10r14, c10r15, c10r16, c10r17, c10r18, c10r19, c10r21, EV0, EV1, EV2, EV3, EV4, EV5, EV6, EV7, plug, ite_same, decide_true, decide_false, eq_self, ↓reduceIte, reduceCtorEq, Nat.reduceAdd, Nat.reduceEqDiff, Nat.reduceLT, Nat.reduceLeDiff, Nat.reduceMul, Nat.reduceSub, Nat.reduceDiv, Int.reduceToNat, Int.reduceAdd, Int.reduceSub, Int.reduceMul, Int.reduceNeg, Int.reduceEq, Int.reduceLT, Int.reduceLE]
            · have x4 := x3 (fun q => ht q.1)
              simp only [Bool.false_eq_true, if_false, Nat.add_zero] at x4
              refine ⟨_, ?_, i + 1, g, T', sm, rfl, rfl, by omega, by omega, x4.1, x4.2, ?_⟩
              · omega
              · simp (disch := omega) only [hm, c10r0, c10r1, c10r2, c10r3, c10r4, c10r5, c10r6, c10r7, c10r8, c10r9, c10r10, c10r11, c10r12, c10r13, c10r14, c10r15, c10r16, c10r17, c10r18, c10r19, c10r21, EV0, EV1, EV2, EV3, EV4, EV5, EV6, EV7, plug, ite_same, decide_true, decide_false, eq_self, ↓reduceIte, reduceCtorEq, Nat.reduceAdd, Nat.reduceEqDiff, Nat.reduceLT, Nat.reduceLeDiff, Nat.reduceMul, Nat.reduceSub, Nat.reduceDiv, Int.reduceToNat, Int.reduceAdd, Int.reduceSub, Int.reduceMul, Int.reduceNeg, Int.reduceEq, Int.reduceLT, Int.reduceLE]
      · repeat' first
          | with_reducible refine k_seq ?_
          | with_reducible refine k_skip ?_
          | with_reducible refine k_blkS ?_
          | with_reducible refine k_reg ?_
          | with_reducible refine r_done ?_
          | with_reducible refine s_go (by simp (disch := omega) only [hc, c10r0, c10r1, c10r2, c10r3, c10r4, c10r5, c10r6, c10r7, c10r8, c10r9, c10r10, c10r11, c10r12, c10r13, c10r14, c10r15, c10r16, c10r17, c10r18, c10r19, c10r21, EV0, EV1, EV2, EV3, EV4, EV5, EV6, EV7, plug, ite_same, decide_true, decide_false, eq_self, ↓reduceIte, reduceCtorEq, Nat.reduceAdd, Nat.reduceEqDiff, Nat.reduceLT, Nat.reduceLeDiff, Nat.reduceMul, Nat.reduceSub, Nat.reduceDiv, Int.reduceToNat, Int.reduceAdd, Int.reduceSub, Int.reduceMul, Int.reduceNeg, Int.reduceEq, Int.reduceLT, Int.reduceLE]; with_reducible rfl) ?_
          | ((with_reducible refine chk_r ?_); refine r_callF (by simp only [CA, Nat.reduceEqDiff, ↓reduceIte]; rfl) (by exact rfl) (by simp only [CA, Nat.reduceEqDiff, ↓reduceIte]; rfl) rfl ?_)
          | ((with_reducible refine chk_r ?_); refine r_callP (by simp only [CA, Nat.reduceEqDiff, ↓reduceIte]; rfl) (by simp only [CA, Nat.reduceEqDiff, ↓reduceIte]; rfl) (by first | exact f16 _) rfl ?_)
          | (with_reducible refine k_condP (by simp only [GA, Nat.reduceEqDiff, ↓reduceIte]; rfl) (by first | (simp only [BO]; rfl) | rfl) (fun ht => ?_) (fun ht => ?_) <;> try (first | exact False.elim ht | exact absurd rfl ht | exact absurd trivial ht | exact Bool.noConfusion ht))
          | (with_reducible refine k_ret ?_; repeat with_reducible (first | refine ret_thru ?_ | refine ret_blk ?_ | refine fin ?_))
          | (with_reducible refine k_exit ?_; repeat with_reducible (first | refine thru ?_ | refine out_blk ?_ | refine pass (by decide) ?_))
          | (refine post1 ?_; simp only [GA, Nat.reduceEqDiff, ↓reduceIte])
          | (refine post2 ?_; simp only [GA, Nat.reduceEqDiff, ↓reduceIte])
          | (refine post3 ?_; simp only [GA, Nat.reduceEqDiff, ↓reduceIte])
          | (refine postc (by simp only [GA, Nat.reduceEqDiff, ↓reduceIte]; rfl) (by simp (disch := omega) only [hc, c10r0, c10r1, c10r2, c10r3, c10r4, c10r5, c10r6, c10r7, c10r8, c10r9, c10r10, c10r11, c10r12, c10r13, c10r14, c10r15, c10r16, c10r17, c10r18, c10r19, c10r21, EV0, EV1, EV2, EV3, EV4, EV5, EV6, EV7, plug, ite_same, decide_true, decide_false, eq_self, ↓reduceIte, reduceCtorEq, Nat.reduceAdd, Nat.reduceEqDiff, Nat.reduceLT, Nat.reduceLeDiff, Nat.reduceMul, Nat.reduceSub, Nat.reduceDiv, Int.reduceToNat, Int.reduceAdd, Int.reduceSub, Int.reduceMul, Int.reduceNeg, Int.reduceEq, Int.reduceLT, Int.reduceLE]; rfl) ?_)
          | refine post0 ?_
  · generalize hres a b c d e f 1 bad n = R at *
    repeat' first
      | with_reducible refine k_seq ?_
      | with_reducible refine k_skip ?_
      | with_reducible refine k_blkS ?_
      | with_reducible refine k_reg ?_
      | with_reducible refine r_done ?_
      | with_reducible refine s_go (by simp (disch := omega) only [he, c10r0, c10r1, c10r2, c10r3, c10r4, c10r5, c10r6, c10r7, c10r8, c10r9, c10r10, c10r11, c10r12, c10r13, c10r14, c10r15, c10r16, c10r17, c10r18, c10r19, c10r21, EV0, EV1, EV2, EV3, EV4, EV5, EV6, EV7, plug, ite_same, decide_true, decide_false, eq_self, ↓reduceIte, reduceCtorEq, Nat.reduceAdd, Nat.reduceEqDiff, Nat.reduceLT, Nat.reduceLeDiff, Nat.reduceMul, Nat.reduceSub, Nat.reduceDiv, Int.reduceToNat, Int.reduceAdd, Int.reduceSub, Int.reduceMul, Int.reduceNeg, Int.reduceEq, Int.reduceLT, Int.reduceLE]; with_reducible rfl) ?_
      | ((with_reducible refine chk_r ?_); refine r_callF (by simp only [CA, Nat.reduceEqDiff, ↓reduceIte]; rfl) (by exact rfl) (by simp only [CA, Nat.reduceEqDiff, ↓reduceIte]; rfl) rfl ?_)
      | ((with_reducible refine chk_r ?_); refine r_callP (by simp only [CA, Nat.reduceEqDiff, ↓reduceIte]; rfl) (by simp only [CA, Nat.reduceEqDiff, ↓reduceIte]; rfl) (by first | exact f16 _) rfl ?_)
      | ((with_reducible refine chk_r ?_); refine r_callN (by simp only [CA, Nat.reduceEqDiff, ↓reduceIte]; rfl) (by simp only [CA, Nat.reduceEqDiff, ↓reduceIte]; rfl) (by first | (refine q34 _ ?_; intro j hj; have := q1 j hj; simp (disch := omega) only [hb', c10r0, c10r1, c10r2, c10r3, c10r4, c10r5, c10r6, c10r7, c10r8, c10r9, c10r10, c10r11, c10r12, c10r13, c10r14, c10r15, c10r16, c10r17, c10r18, c10r19, c10r21, EV0, EV1, EV2, EV3, EV4, EV5, EV6, EV7, plug, ite_same, decide_true, decide_false, eq_self, ↓reduceIte, reduceCtorEq, Nat.reduceAdd, Nat.reduceEqDiff, Nat.reduceLT, Nat.reduceLeDiff, Nat.reduceMul, Nat.reduceSub, Nat.reduceDiv, Int.reduceToNat, Int.reduceAdd, Int.reduceSub, Int.reduceMul, Int.reduceNeg, Int.reduceEq, Int.reduceLT, Int.reduceLE])) rfl ?_)
      | (with_reducible refine k_condP (by simp only [GA, Nat.reduceEqDiff, ↓reduceIte]; rfl) (by first | (simp only [BO]; rfl) | rfl) (fun ht => ?_) (fun ht => ?_) <;> try (first | exact False.elim ht | exact absurd rfl ht | exact absurd trivial ht | exact Bool.noConfusion ht))
      | (with_reducible refine k_ret ?_; repeat with_reducible (first | refine ret_thru ?_ | refine ret_blk ?_ | refine fin ?_))
      | (with_reducible refine k_exit ?_; repeat with_reducible (first | refine thru ?_ | refine out_blk ?_ | refine pass (by decide) ?_))
      | (refine post1 ?_; simp only [GA, Nat.reduceEqDiff, ↓reduceIte])
      | (refine post2 ?_; simp only [GA, Nat.reduceEqDiff, ↓reduceIte])
      | (refine post3 ?_; simp only [GA, Nat.reduceEqDiff, ↓reduceIte])
      | (refine postc (by simp only [GA, Nat.reduceEqDiff, ↓reduceIte]; rfl) (by simp (disch := omega) only [he, c10r0, c10r1, c10r2, c10r3, c10r4, c10r5, c10r6, c10r7, c10r8, c10r9, c10r10, c10r11, c10r12, c10r13, c10r14, c10r15, c10r16, c10r17, c10r18, c10r19, c10r21, EV0, EV1, EV2, EV3, EV4, EV5, EV6, EV7, plug, ite_same, decide_true, decide_false, eq_self, ↓reduceIte, reduceCtorEq, Nat.reduceAdd, Nat.reduceEqDiff, Nat.reduceLT, Nat.reduceLeDiff, Nat.reduceMul, Nat.reduceSub, Nat.reduceDiv, Int.reduceToNat, Int.reduceAdd, Int.reduceSub, Int.reduceMul, Int.reduceNeg, Int.reduceEq, Int.reduceLT, Int.reduceLE]; rfl) ?_)
      | refine post0 ?_
end Go.Proofs.Ytappehafkjcabaa
