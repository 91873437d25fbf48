import Derived.Test.YtbhkbaapfioijaaTmI
set_option linter.unusedVariables false
set_option linter.unusedSimpArgs false
namespace Go.Proofs.Ytbhkbaapfioijaa
open Go Go.Am Go.Proofs Go.Sort

/-! ### TempleWears -/
theorem op_mono {h : H} {f g : Int} (hv : vh h = true) (h1 : f ≤ g) : op h f ≤ op h g := by
  simp only [vh, decide_eq_true_eq] at hv
  unfold op
  have p : 0 < 1000 * h.bar := by omega
  obtain ⟨d, hd⟩ : ∃ d : Nat, g = f + d := ⟨(g - f).toNat, by omega⟩
  subst hd
  have e1 : (f + d) * h.wear = f * h.wear + d * h.wear := Int.add_mul _ _ _
  have w2 : (d : Int) * h.wear ≤ d * (1000 * h.bar) := Int.mul_le_mul_of_nonneg_left (by omega) (by omega)
  have e2 : (f * h.wear + 1000 * h.bar - 1 + d * (1000 * h.bar)) / (1000 * h.bar) = (f * h.wear + 1000 * h.bar - 1) / (1000 * h.bar) + d := Int.add_mul_ediv_right _ _ (by omega)
  have e3 : ((f + d) * h.wear + 1000 * h.bar - 1) / (1000 * h.bar) ≤ (f * h.wear + 1000 * h.bar - 1 + d * (1000 * h.bar)) / (1000 * h.bar) := Int.ediv_le_ediv p (by rw [e1]; omega)
  rw [e2] at e3
  omega
theorem ops_mono {h : H} {f g : Int} (hv : vh h = true) (h1 : f ≤ g) : ∀ n, ops h f n ≤ ops h g n
  | 0 => h1
  | n + 1 => op_mono hv (ops_mono hv h1 n)
theorem ops_add (h : H) (f : Int) (m : Nat) : ∀ n, ops h (ops h f m) n = ops h f (m + n)
  | 0 => rfl
  | n + 1 => by simp only [ops, ops_add h f m n]; rfl
theorem opd_ok {t : H} {f n : Int} (hv : vh t = true) (h0 : 0 ≤ f) (h1 : f ≤ t.st) (h2 : 0 ≤ n) (h3 : n ≤ 100000) : opd t f n = (ops t f n.toNat, 0) := by
  have := vh_st hv
  unfold opd
  rw [if_pos]
  unfold loose
  rw [if_neg (by simp [hv]), if_neg (by omega)]

theorem pc7 (t : H) (f g n m : Int) : PC Try.prog 7 [.ag (eH t), .ag [.i .i64 f, .i .i64 g], .ag [.i .i64 n, .i .i64 m]] (.b true) := by
  refine pc_fn fn7 (by simp only [AV.plains, AV.plain, il_plain, bl_plain, Bool.and_true, Bool.true_and, Bool.and_self, eH_plain]) (by simp only [AV.plains, AV.plain, il_plain, bl_plain, Bool.and_true, Bool.true_and, Bool.and_self, eH_plain]) (Nat.le_of_ble_eq_true rfl) ?_
  rw [initSt3]
  have q34 := pc34 t
  have q1 := pc35 t f n
  have q2 := pc35 t g n
  have q3 := pc35 t (opd t f n).1 m
  have q4 := pc35 t f (n + m)
  by_cases C : vh t = true ∧ 0 ≤ n ∧ 0 ≤ m ∧ n ≤ 2000 ∧ m ≤ 2000 ∧ 0 ≤ f ∧ f ≤ g ∧ g ≤ t.st
  · obtain ⟨hv, c1, c2, c3, c4, c5, c6, c7⟩ := C
    have st := vh_st hv
    have e1 := opd_ok (t := t) (f := f) (n := n) hv (by omega) (by omega) (by omega) (by omega)
    have r1 := ops_range hv c5 n.toNat
    have e2 := opd_ok (t := t) (f := g) (n := n) hv (by omega) (by omega) (by omega) (by omega)
    rw [e1] at q1 q3
    rw [e2] at q2
    have e3 := opd_ok (t := t) (f := ops t f n.toNat) (n := m) hv (by omega) (by omega) (by omega) (by omega)
    have e4 := opd_ok (t := t) (f := f) (n := n + m) hv (by omega) (by omega) (by omega) (by omega)
    simp only at q3
    rw [e3] at q3
    rw [e4] at q4
    rw [hv] at q34
    have l1 := ops_mono hv c6 n.toNat
    have l2 := ops_add t f n.toNat m.toNat
    rw [show n.toNat + m.toNat = (n + m).toNat by omega] at l2
    have l3 := ops_range hv r1.1 m.toNat
    simp only at q1 q2 q3 q4
    generalize ops t f n.toNat = A at *
    generalize ops t g n.toNat = B at *
    generalize ops t A m.toNat = D at *
    generalize ops t f (n + m).toNat = E at *
    unfold eH at q34 q1 q2 q3 q4 ⊢
    repeat' first
      | with_reducible refine k_seq ?_
      | with_reducible refine k_skip ?_
      | with_reducible refine k_blkS ?_
      | with_reducible refine k_blkR ?_
      | with_reducible refine k_blkC ?_
      | with_reducible refine k_blkH ?_
      | with_reducible refine k_blkB ?_
      | with_reducible refine k_blkK ?_
      | with_reducible refine k_blkE ?_
      | with_reducible refine k_reg ?_
      | with_reducible refine r_done ?_
      | with_reducible refine s_go (by simp (disch := omega) only [c7r0, c7r1, c7r2, c7r3, c7r4, c7r5, c7r6, c7r7, EV0, EV1, EV2, EV3, EV4, EV5, EV6, EV7, EV8, VALS, plug, ite_same, decide_true, decide_false, eq_self, ↓reduceIte, reduceCtorEq, Nat.reduceAdd, Nat.reduceEqDiff, Nat.reduceLT, Nat.reduceLeDiff, Nat.reduceMul, Nat.reduceSub, Nat.reduceDiv, Int.reduceToNat, Int.reduceAdd, Int.reduceSub, Int.reduceMul, Int.reduceNeg, Int.reduceEq, Int.reduceLT, Int.reduceLE]; with_reducible rfl) ?_
      | ((with_reducible refine chk_r ?_); refine r_callF (by simp only [CA, Nat.reduceEqDiff, ↓reduceIte]; rfl) (by exact rfl) (by simp only [CA, Nat.reduceEqDiff, ↓reduceIte]; rfl) rfl ?_)
      | ((with_reducible refine chk_r ?_); refine r_callP (by simp only [CA, Nat.reduceEqDiff, ↓reduceIte]; rfl) (by simp only [CA, Nat.reduceEqDiff, ↓reduceIte]; rfl) (by first | exact q34 _ | exact q1 _ | exact q2 _ | exact q3 _ | exact q4 _ | exact pc24 _) rfl ?_)
      | ((with_reducible refine chk_r ?_); refine r_callG (by simp only [CA, Nat.reduceEqDiff, ↓reduceIte]; rfl) (by simp only [CA, Nat.reduceEqDiff, ↓reduceIte]; rfl) (by simp only [CA, Nat.reduceEqDiff, ↓reduceIte]; rfl) (by intro hg; (try simp only [BO] at hg); first | exact q34 _ | exact q1 _ | exact q2 _ | exact q3 _ | exact q4 _ | exact pc24 _) rfl ?_)
      | (with_reducible refine k_condP (by simp only [GA, Nat.reduceEqDiff, ↓reduceIte]; rfl) (by first | (simp only [BO]; rfl) | rfl) (fun ht => ?_) (fun ht => ?_) <;> try (first | exact False.elim ht | exact absurd rfl ht | exact absurd trivial ht | exact Bool.noConfusion ht))
      | (with_reducible refine k_ret ?_; repeat with_reducible (first | refine ret_thru ?_ | refine ret_blk ?_ | refine fin ?_))
      | (with_reducible refine k_exit ?_; repeat with_reducible (first | refine thru ?_ | refine out_blk ?_ | refine pass (by decide) ?_))
      | (refine post1 ?_; simp only [GA, Nat.reduceEqDiff, ↓reduceIte])
      | (refine post2 ?_; simp only [GA, Nat.reduceEqDiff, ↓reduceIte])
      | (refine post3 ?_; simp only [GA, Nat.reduceEqDiff, ↓reduceIte])
      | (refine postc (by simp only [GA, Nat.reduceEqDiff, ↓reduceIte]; rfl) (by simp (disch := omega) only [c7r0, c7r1, c7r2, c7r3, c7r4, c7r5, c7r6, c7r7, EV0, EV1, EV2, EV3, EV4, EV5, EV6, EV7, EV8, VALS, plug, ite_same, decide_true, decide_false, eq_self, ↓reduceIte, reduceCtorEq, Nat.reduceAdd, Nat.reduceEqDiff, Nat.reduceLT, Nat.reduceLeDiff, Nat.reduceMul, Nat.reduceSub, Nat.reduceDiv, Int.reduceToNat, Int.reduceAdd, Int.reduceSub, Int.reduceMul, Int.reduceNeg, Int.reduceEq, Int.reduceLT, Int.reduceLE]; rfl) ?_)
      | refine post0 ?_
    · exact ends_of
    · refine ends_eq (b_eq ?_)
      simp only [Bool.true_eq, Bool.and_eq_true, decide_eq_true_eq]
      omega
  · unfold eH at q34 ⊢
    repeat' first
      | with_reducible refine k_seq ?_
      | with_reducible refine k_skip ?_
      | with_reducible refine k_blkS ?_
      | with_reducible refine k_blkR ?_
      | with_reducible refine k_blkC ?_
      | with_reducible refine k_blkH ?_
      | with_reducible refine k_blkB ?_
      | with_reducible refine k_blkK ?_
      | with_reducible refine k_blkE ?_
      | with_reducible refine k_reg ?_
      | with_reducible refine r_done ?_
      | with_reducible refine s_go (by simp (disch := omega) only [c7r0, c7r1, c7r2, c7r3, c7r4, c7r5, c7r6, c7r7, EV0, EV1, EV2, EV3, EV4, EV5, EV6, EV7, EV8, VALS, plug, ite_same, decide_true, decide_false, eq_self, ↓reduceIte, reduceCtorEq, Nat.reduceAdd, Nat.reduceEqDiff, Nat.reduceLT, Nat.reduceLeDiff, Nat.reduceMul, Nat.reduceSub, Nat.reduceDiv, Int.reduceToNat, Int.reduceAdd, Int.reduceSub, Int.reduceMul, Int.reduceNeg, Int.reduceEq, Int.reduceLT, Int.reduceLE]; with_reducible rfl) ?_
      | ((with_reducible refine chk_r ?_); refine r_callF (by simp only [CA, Nat.reduceEqDiff, ↓reduceIte]; rfl) (by exact rfl) (by simp only [CA, Nat.reduceEqDiff, ↓reduceIte]; rfl) rfl ?_)
      | ((with_reducible refine chk_r ?_); refine r_callP (by simp only [CA, Nat.reduceEqDiff, ↓reduceIte]; rfl) (by simp only [CA, Nat.reduceEqDiff, ↓reduceIte]; rfl) (by first | exact q34 _ | exact pc24 _) rfl ?_)
      | ((with_reducible refine chk_r ?_); refine r_callG (by simp only [CA, Nat.reduceEqDiff, ↓reduceIte]; rfl) (by simp only [CA, Nat.reduceEqDiff, ↓reduceIte]; rfl) (by simp only [CA, Nat.reduceEqDiff, ↓reduceIte]; rfl) (by intro hg; (try simp only [BO] at hg); first | exact q34 _ | exact pc24 _) rfl ?_)
      | (with_reducible refine k_condP (by simp only [GA, Nat.reduceEqDiff, ↓reduceIte]; rfl) (by first | (simp only [BO]; rfl) | rfl) (fun ht => ?_) (fun ht => ?_) <;> try (first | exact False.elim ht | exact absurd rfl ht | exact absurd trivial ht | exact Bool.noConfusion ht))
      | (with_reducible refine k_ret ?_; repeat with_reducible (first | refine ret_thru ?_ | refine ret_blk ?_ | refine fin ?_))
      | (with_reducible refine k_exit ?_; repeat with_reducible (first | refine thru ?_ | refine out_blk ?_ | refine pass (by decide) ?_))
      | (refine post1 ?_; simp only [GA, Nat.reduceEqDiff, ↓reduceIte])
      | (refine post2 ?_; simp only [GA, Nat.reduceEqDiff, ↓reduceIte])
      | (refine post3 ?_; simp only [GA, Nat.reduceEqDiff, ↓reduceIte])
      | (refine postc (by simp only [GA, Nat.reduceEqDiff, ↓reduceIte]; rfl) (by simp (disch := omega) only [c7r0, c7r1, c7r2, c7r3, c7r4, c7r5, c7r6, c7r7, EV0, EV1, EV2, EV3, EV4, EV5, EV6, EV7, EV8, VALS, plug, ite_same, decide_true, decide_false, eq_self, ↓reduceIte, reduceCtorEq, Nat.reduceAdd, Nat.reduceEqDiff, Nat.reduceLT, Nat.reduceLeDiff, Nat.reduceMul, Nat.reduceSub, Nat.reduceDiv, Int.reduceToNat, Int.reduceAdd, Int.reduceSub, Int.reduceMul, Int.reduceNeg, Int.reduceEq, Int.reduceLT, Int.reduceLE]; rfl) ?_)
      | refine post0 ?_
    · exact ends_of
    · exfalso
      simp only [not_or, Bool.not_eq_false] at ht
      exact C ⟨ht.1.1.1.1.1.1.1, by omega⟩

/-! ### TempleLives -/
theorem op_slope {h : H} {f x : Int} (hv : vh h = true) (hx : 0 ≤ x) : op h (f + x) ≤ op h f + x := by
  simp only [vh, decide_eq_true_eq] at hv
  unfold op
  have p : 0 < 1000 * h.bar := by omega
  have e1 : (f + x) * h.wear = f * h.wear + x * h.wear := Int.add_mul _ _ _
  have e2 : 0 ≤ x * h.wear := Int.mul_nonneg hx (by omega)
  have e3 : (f * h.wear + 1000 * h.bar - 1) / (1000 * h.bar) ≤ ((f + x) * h.wear + 1000 * h.bar - 1) / (1000 * h.bar) := Int.ediv_le_ediv p (by rw [e1]; omega)
  omega
theorem svs_two {t : H} {a b : Int} (hv : vh t = true) (hab : a ≤ b) : ∀ {k : Nat} {f c g d : Int}, svs t a k = some (f, c) → svs t b k = some (g, d) → c ≤ d ∧ g ≤ f + (d - c) * t.ti
  | 0, f, c, g, d, h1, h2 => by
    simp only [svs, Option.some.injEq, Prod.mk.injEq] at h1 h2
    obtain ⟨rfl, rfl⟩ := h1
    obtain ⟨rfl, rfl⟩ := h2
    simp
  | k + 1, f, c, g, d, h1, h2 => by
    simp only [svs] at h1 h2
    split at h1
    · cases h1
    · rename_i f0 c0 e1
      split at h2
      · cases h2
      · rename_i g0 d0 e2
        have ih := svs_two hv hab e1 e2
        have r1 := svs_range hv e1
        have r2 := svs_range hv e2
        have st := vh_st hv
        split at h1
        · cases h1
        · split at h2
          · cases h2
          · simp only [Option.some.injEq, Prod.mk.injEq] at h1 h2
            obtain ⟨rfl, rfl⟩ := h1
            obtain ⟨rfl, rfl⟩ := h2
            -- behind the services
            have key : (sv1 t a f0 c0).2 ≤ (sv1 t b g0 d0).2 ∧ (sv1 t b g0 d0).1 ≤ (sv1 t a f0 c0).1 + ((sv1 t b g0 d0).2 - (sv1 t a f0 c0).2) * t.ti := by
              have p1 : (d0 + 1 - c0) * t.ti = (d0 - c0) * t.ti + t.ti := by rw [show d0 + 1 - c0 = (d0 - c0) + 1 by omega, Int.add_mul]; omega
              have p2 : (d0 - c0) * t.ti = (d0 - (c0 + 1)) * t.ti + t.ti := by rw [show d0 - c0 = (d0 - (c0 + 1)) + 1 by omega, Int.add_mul]; omega
              have p3 : (d0 + 1 - (c0 + 1)) * t.ti = (d0 - c0) * t.ti := by rw [show d0 + 1 - (c0 + 1) = d0 - c0 by omega]
              unfold sv1
              by_cases x1 : op t f0 < a
              · by_cases x2 : op t g0 < b
                · rw [if_pos x1, if_pos x2]
                  simp only [p3]
                  have p4 : 0 ≤ (d0 - c0) * t.ti := Int.mul_nonneg (by omega) (by omega)
                  omega
                · rw [if_pos x1, if_neg x2]
                  simp only
                  have hlt : c0 < d0 := by
                    rcases Int.lt_or_eq_of_le ih.1 with h | h
                    · exact h
                    · exfalso
                      subst h
                      rw [Int.sub_self, Int.zero_mul, Int.add_zero] at ih
                      have := op_mono hv ih.2
                      omega
                  have p4 : 0 ≤ (d0 - (c0 + 1)) * t.ti := Int.mul_nonneg (by omega) (by omega)
                  omega
              · by_cases x2 : op t g0 < b
                · rw [if_neg x1, if_pos x2]
                  simp only [p1]
                  omega
                · rw [if_neg x1, if_neg x2]
                  exact ih
            refine ⟨key.1, ?_⟩
            have p5 : 0 ≤ ((sv1 t b g0 d0).2 - (sv1 t a f0 c0).2) * t.ti := Int.mul_nonneg (by omega) (by omega)
            have q1 := op_mono hv key.2
            have q2 := op_slope (f := (sv1 t a f0 c0).1) hv p5
            omega
theorem svs_more {t : H} {a : Int} {k : Nat} {f c g d : Int} (h1 : svs t a k = some (f, c)) (h2 : svs t a (k + 1) = some (g, d)) : c ≤ d := by
  simp only [svs, h1] at h2
  split at h2
  · cases h2
  · simp only [Option.some.injEq, Prod.mk.injEq] at h2
    rw [← h2.2]
    unfold sv1; split <;> simp only <;> omega
theorem fst_some {p : Nat → Bool} : ∀ {n k j : Nat}, fst p n k = some j → p j = true ∧ k ≤ j ∧ j < k + n ∧ ∀ i, k ≤ i → i < j → p i = false
  | 0, k, j, h => by cases h
  | n + 1, k, j, h => by
    cases hp : p k with
    | true => rw [fst_pos hp] at h; cases h; exact ⟨hp, by omega, by omega, fun i _ _ => by omega⟩
    | false =>
      rw [fst_neg hp] at h
      obtain ⟨h1, h2, h3, h4⟩ := fst_some h
      refine ⟨h1, by omega, by omega, fun i hi hj => ?_⟩
      by_cases e : i = k
      · subst e; exact hp
      · exact h4 i (by omega) hj
theorem fst_none {p : Nat → Bool} : ∀ {n k : Nat}, fst p n k = none → ∀ i, k ≤ i → i < k + n → p i = false
  | 0, k, h, i, h1, h2 => by omega
  | n + 1, k, h, i, h1, h2 => by
    cases hp : p k with
    | true => rw [fst_pos hp] at h; cases h
    | false =>
      rw [fst_neg hp] at h
      by_cases e : i = k
      · subst e; exact hp
      · exact fst_none h i (by omega) (by omega)
theorem lif_fact {t : H} {f a : Int} (hv : vh t = true) (h0 : 0 ≤ f) (h1 : f ≤ t.st) (h2 : 0 ≤ a) (h3 : a ≤ t.st) : ∃ (n : Int) (is : Bool), lif t f a = (n, is, 0) ∧ 0 ≤ n ∧ n ≤ 100000 ∧
    (is = true → ops t f n.toNat < a ∧ (0 < n → a ≤ ops t f (n - 1).toNat)) ∧ (is = false → n = 0 ∧ a ≤ ops t f 100000) := by
  have hl : loose t f 0 a = 0 := by unfold loose; rw [if_neg (by simp [hv]), if_neg (by omega)]
  unfold lif
  rw [if_pos hl]
  cases hf : fst (lsp t f a) 100001 0 with
  | none =>
    have := fst_none hf 100000 (by omega) (by omega)
    simp only [lsp, decide_eq_false_iff_not] at this
    exact ⟨0, false, rfl, by omega, by omega, fun h => (by cases h), fun _ => ⟨rfl, by omega⟩⟩
  | some j =>
    obtain ⟨p1, p2, p3, p4⟩ := fst_some hf
    simp only [lsp, decide_eq_true_eq] at p1
    refine ⟨j, true, rfl, by omega, by omega, fun _ => ⟨by rw [Int.toNat_natCast]; exact p1, fun hj => ?_⟩, fun h => (by cases h)⟩
    have := p4 (j - 1) (by omega) (by omega)
    simp only [lsp, decide_eq_false_iff_not] at this
    rw [show ((j : Int) - 1).toNat = j - 1 by omega]
    omega
theorem svc_fact {t : H} {n a : Int} (hv : vh t = true) (h0 : 0 ≤ n) (h1 : n ≤ 3000) (h2 : 0 ≤ a) (h3 : a < t.st) : ∃ s f u g v w : Int, svc t n a = (s, f) ∧ svc t (n + 1) a = (u, g) ∧ svc t n (a + 1) = (v, w) ∧
    (¬ f = 0 → f = 4 ∧ g = 4 ∧ s = 0) ∧ (f = 0 → (g = 0 → s ≤ u) ∧ (w = 0 → s ≤ v)) := by
  have st := vh_st hv
  have l1 : loose t t.st n a = 0 := by unfold loose; rw [if_neg (by simp [hv]), if_neg (by omega)]
  have l2 : loose t t.st (n + 1) a = 0 := by unfold loose; rw [if_neg (by simp [hv]), if_neg (by omega)]
  have l3 : loose t t.st n (a + 1) = 0 := by unfold loose; rw [if_neg (by simp [hv]), if_neg (by omega)]
  unfold svc
  rw [if_pos l1, if_pos l2, if_pos l3]
  rw [show (n + 1).toNat = n.toNat + 1 by omega]
  cases e1 : svs t a n.toNat with
  | none =>
    rw [svs_none e1 1]
    exact ⟨_, _, _, _, _, _, rfl, rfl, rfl, fun _ => ⟨rfl, rfl, rfl⟩, fun h => (by cases h)⟩
  | some p =>
    obtain ⟨f1, c1⟩ := p
    refine ⟨_, _, _, _, _, _, rfl, rfl, rfl, fun h => absurd rfl h, fun _ => ⟨fun hg => ?_, fun hw => ?_⟩⟩
    · cases e2 : svs t a (n.toNat + 1) with
      | none => rw [e2] at hg; cases hg
      | some p => obtain ⟨f2, c2⟩ := p; exact svs_more e1 e2
    · cases e2 : svs t (a + 1) n.toNat with
      | none => rw [e2] at hw; cases hw
      | some p => obtain ⟨f2, c2⟩ := p; exact (svs_two hv (by omega) e1 e2).1

set_option maxHeartbeats 2000000 in
theorem pc10 (t : H) (f n a : Int) : PC Try.prog 10 [.ag [.i .i64 t.bar, .i .i64 t.st, .i .i64 t.wear, .i .i64 t.ti, .i .i64 f, .i .i64 n, .i .i64 a]] (.b true) := by
  refine pc_fn fn10 (by simp only [AV.plains, AV.plain, il_plain, bl_plain, Bool.and_true, Bool.true_and, Bool.and_self]) (by simp only [AV.plains, AV.plain, il_plain, bl_plain, Bool.and_true, Bool.true_and, Bool.and_self]) (Nat.le_of_ble_eq_true rfl) ?_
  rw [initSt1]
  have q34 := pc34 t
  by_cases C : vh t = true ∧ 0 ≤ f ∧ f ≤ t.st ∧ 0 ≤ a ∧ a < t.st ∧ 0 ≤ n ∧ n ≤ 3000
  · obtain ⟨hv, c1, c2, c3, c4, c5, c6⟩ := C
    have st := vh_st hv
    obtain ⟨m, is, e1, m0, m1, m2, m3⟩ := lif_fact hv c1 c2 c3 (Int.le_of_lt c4)
    obtain ⟨s, x, u, g, v, w, e2, e3, e4, k1, k2⟩ := svc_fact (n := n) hv c5 c6 c3 c4
    have q39 := pc39 t f a
    rw [e1] at q39
    have qs := pc40 t n a
    have qu := pc40 t (n + 1) a
    have qv := pc40 t n (a + 1)
    rw [e2] at qs
    rw [e3] at qu
    rw [e4] at qv
    have qa := pc35 t f m
    rw [opd_ok hv c1 c2 m0 m1] at qa
    have qb := pc35 t f (m - 1)
    have qc := pc35 t f 100000
    rw [opd_ok hv c1 c2 (by decide) (by decide)] at qc
    rw [show (100000 : Int).toNat = 100000 from rfl] at qc
    have qb' : 0 < m → _ := fun h => by
      have := qb
      rw [opd_ok hv c1 c2 (show 0 ≤ m - 1 by omega) (by omega)] at this
      exact this
    clear qb
    rw [hv] at q34
    simp only at q39 qs qu qv qa qb' qc
    generalize ops t f m.toNat = A at *
    generalize ops t f (m - 1).toNat = B at *
    generalize ops t f 100000 = D at *
    clear e1 e2 e3 e4
    unfold eH at *
    cases is with
    | true =>
      have m2 := m2 rfl
      clear m3
      repeat' first
        | with_reducible refine k_seq ?_
        | with_reducible refine k_skip ?_
        | with_reducible refine k_blkS ?_
        | with_reducible refine k_blkR ?_
        | with_reducible refine k_blkC ?_
        | with_reducible refine k_blkH ?_
        | with_reducible refine k_blkB ?_
        | with_reducible refine k_blkK ?_
        | with_reducible refine k_blkE ?_
        | with_reducible refine k_reg ?_
        | with_reducible refine r_done ?_
        | with_reducible refine s_go (by simp (disch := omega) only [c10r0, c10r1, c10r2, c10r3, c10r4, c10r5, c10r6, c10r7, c10r8, c10r9, c10r10, c10r11, c10r12, c10r13, c10r14, c10r15, c10r16, c10r17, c10r18, c10r19, c10r20, c10r21, c10r22, EV0, EV1, EV2, EV3, EV4, EV5, EV6, EV7, EV8, VALS, plug, ite_same, decide_true, decide_false, eq_self, ↓reduceIte, reduceCtorEq, Nat.reduceAdd, Nat.reduceEqDiff, Nat.reduceLT, Nat.reduceLeDiff, Nat.reduceMul, Nat.reduceSub, Nat.reduceDiv, Int.reduceToNat, Int.reduceAdd, Int.reduceSub, Int.reduceMul, Int.reduceNeg, Int.reduceEq, Int.reduceLT, Int.reduceLE]; with_reducible rfl) ?_
        | ((with_reducible refine chk_r ?_); refine r_callF (by simp only [CA, Nat.reduceEqDiff, ↓reduceIte]; rfl) (by exact rfl) (by simp only [CA, Nat.reduceEqDiff, ↓reduceIte]; rfl) rfl ?_)
        | ((with_reducible refine chk_r ?_); refine r_callP (by simp only [CA, Nat.reduceEqDiff, ↓reduceIte]; rfl) (by simp only [CA, Nat.reduceEqDiff, ↓reduceIte]; rfl) (by first | exact q34 _ | exact q39 _ | exact qs _ | exact qu _ | exact qv _ | exact qa _ | exact qb' (by omega) _ | exact qc _ | exact pc24 _) rfl ?_)
        | ((with_reducible refine chk_r ?_); refine r_callG (by simp only [CA, Nat.reduceEqDiff, ↓reduceIte]; rfl) (by simp only [CA, Nat.reduceEqDiff, ↓reduceIte]; rfl) (by simp only [CA, Nat.reduceEqDiff, ↓reduceIte]; rfl) (by intro hg; (try simp only [BO] at hg); first | exact q34 _ | exact q39 _ | exact qs _ | exact qu _ | exact qv _ | exact qa _ | exact qb' (by omega) _ | exact qc _ | exact pc24 _) rfl ?_)
        | (with_reducible refine k_condP (by simp only [GA, Nat.reduceEqDiff, ↓reduceIte]; rfl) (by first | (simp only [BO]; rfl) | rfl) (fun ht => ?_) (fun ht => ?_) <;> try (first | exact False.elim ht | exact absurd rfl ht | exact absurd trivial ht | exact Bool.noConfusion ht))
        | (with_reducible refine k_ret ?_; repeat with_reducible (first | refine ret_thru ?_ | refine ret_blk ?_ | refine fin ?_))
        | (with_reducible refine k_exit ?_; repeat with_reducible (first | refine thru ?_ | refine out_blk ?_ | refine pass (by decide) ?_))
        | (refine post1 ?_; simp only [GA, Nat.reduceEqDiff, ↓reduceIte])
        | (refine post2 ?_; simp only [GA, Nat.reduceEqDiff, ↓reduceIte])
        | (refine post3 ?_; simp only [GA, Nat.reduceEqDiff, ↓reduceIte])
        | (refine postc (by simp only [GA, Nat.reduceEqDiff, ↓reduceIte]; rfl) (by simp (disch := omega) only [c10r0, c10r1, c10r2, c10r3, c10r4, c10r5, c10r6, c10r7, c10r8, c10r9, c10r10, c10r11, c10r12, c10r13, c10r14, c10r15, c10r16, c10r17, c10r18, c10r19, c10r20, c10r21, c10r22, EV0, EV1, EV2, EV3, EV4, EV5, EV6, EV7, EV8, VALS, plug, ite_same, decide_true, decide_false, eq_self, ↓reduceIte, reduceCtorEq, Nat.reduceAdd, Nat.reduceEqDiff, Nat.reduceLT, Nat.reduceLeDiff, Nat.reduceMul, Nat.reduceSub, Nat.reduceDiv, Int.reduceToNat, Int.reduceAdd, Int.reduceSub, Int.reduceMul, Int.reduceNeg, Int.reduceEq, Int.reduceLT, Int.reduceLE]; rfl) ?_)
        | refine post0 ?_
      all_goals first
        | exact ends_of
        | (exfalso; omega)
        | (refine ends_eq (b_eq ?_); simp only [Bool.true_eq, Bool.and_eq_true, Bool.or_eq_true, decide_eq_true_eq, Bool.not_eq_true', decide_eq_false_iff_not]; omega)
    | false =>
      have m3 := m3 rfl
      clear m2
      repeat' first
        | with_reducible refine k_seq ?_
        | with_reducible refine k_skip ?_
        | with_reducible refine k_blkS ?_
        | with_reducible refine k_blkR ?_
        | with_reducible refine k_blkC ?_
        | with_reducible refine k_blkH ?_
        | with_reducible refine k_blkB ?_
        | with_reducible refine k_blkK ?_
        | with_reducible refine k_blkE ?_
        | with_reducible refine k_reg ?_
        | with_reducible refine r_done ?_
        | with_reducible refine s_go (by simp (disch := omega) only [c10r0, c10r1, c10r2, c10r3, c10r4, c10r5, c10r6, c10r7, c10r8, c10r9, c10r10, c10r11, c10r12, c10r13, c10r14, c10r15, c10r16, c10r17, c10r18, c10r19, c10r20, c10r21, c10r22, EV0, EV1, EV2, EV3, EV4, EV5, EV6, EV7, EV8, VALS, plug, ite_same, decide_true, decide_false, eq_self, ↓reduceIte, reduceCtorEq, Nat.reduceAdd, Nat.reduceEqDiff, Nat.reduceLT, Nat.reduceLeDiff, Nat.reduceMul, Nat.reduceSub, Nat.reduceDiv, Int.reduceToNat, Int.reduceAdd, Int.reduceSub, Int.reduceMul, Int.reduceNeg, Int.reduceEq, Int.reduceLT, Int.reduceLE]; with_reducible rfl) ?_
        | ((with_reducible refine chk_r ?_); refine r_callF (by simp only [CA, Nat.reduceEqDiff, ↓reduceIte]; rfl) (by exact rfl) (by simp only [CA, Nat.reduceEqDiff, ↓reduceIte]; rfl) rfl ?_)
        | ((with_reducible refine chk_r ?_); refine r_callP (by simp only [CA, Nat.reduceEqDiff, ↓reduceIte]; rfl) (by simp only [CA, Nat.reduceEqDiff, ↓reduceIte]; rfl) (by first | exact q34 _ | exact q39 _ | exact qs _ | exact qu _ | exact qv _ | exact qa _ | exact qb' (by omega) _ | exact qc _ | exact pc24 _) rfl ?_)
        | ((with_reducible refine chk_r ?_); refine r_callG (by simp only [CA, Nat.reduceEqDiff, ↓reduceIte]; rfl) (by simp only [CA, Nat.reduceEqDiff, ↓reduceIte]; rfl) (by simp only [CA, Nat.reduceEqDiff, ↓reduceIte]; rfl) (by intro hg; (try simp only [BO] at hg); first | exact q34 _ | exact q39 _ | exact qs _ | exact qu _ | exact qv _ | exact qa _ | exact qb' (by omega) _ | exact qc _ | exact pc24 _) rfl ?_)
        | (with_reducible refine k_condP (by simp only [GA, Nat.reduceEqDiff, ↓reduceIte]; rfl) (by first | (simp only [BO]; rfl) | rfl) (fun ht => ?_) (fun ht => ?_) <;> try (first | exact False.elim ht | exact absurd rfl ht | exact absurd trivial ht | exact Bool.noConfusion ht))
        | (with_reducible refine k_ret ?_; repeat with_reducible (first | refine ret_thru ?_ | refine ret_blk ?_ | refine fin ?_))
        | (with_reducible refine k_exit ?_; repeat with_reducible (first | refine thru ?_ | refine out_blk ?_ | refine pass (by decide) ?_))
        | (refine post1 ?_; simp only [GA, Nat.reduceEqDiff, ↓reduceIte])
        | (refine post2 ?_; simp only [GA, Nat.reduceEqDiff, ↓reduceIte])
        | (refine post3 ?_; simp only [GA, Nat.reduceEqDiff, ↓reduceIte])
        | (refine postc (by simp only [GA, Nat.reduceEqDiff, ↓reduceIte]; rfl) (by simp (disch := omega) only [c10r0, c10r1, c10r2, c10r3, c10r4, c10r5, c10r6, c10r7, c10r8, c10r9, c10r10, c10r11, c10r12, c10r13, c10r14, c10r15, c10r16, c10r17, c10r18, c10r19, c10r20, c10r21, c10r22, EV0, EV1, EV2, EV3, EV4, EV5, EV6, EV7, EV8, VALS, plug, ite_same, decide_true, decide_false, eq_self, ↓reduceIte, reduceCtorEq, Nat.reduceAdd, Nat.reduceEqDiff, Nat.reduceLT, Nat.reduceLeDiff, Nat.reduceMul, Nat.reduceSub, Nat.reduceDiv, Int.reduceToNat, Int.reduceAdd, Int.reduceSub, Int.reduceMul, Int.reduceNeg, Int.reduceEq, Int.reduceLT, Int.reduceLE]; rfl) ?_)
        | refine post0 ?_
      all_goals first
        | exact ends_of
        | (exfalso; omega)
        | (refine ends_eq (b_eq ?_); simp only [Bool.true_eq, Bool.and_eq_true, Bool.or_eq_true, decide_eq_true_eq, Bool.not_eq_true', decide_eq_false_iff_not]; omega)
  · unfold eH at q34
    repeat' first
      | with_reducible refine k_seq ?_
      | with_reducible refine k_skip ?_
      | with_reducible refine k_blkS ?_
      | with_reducible refine k_blkR ?_
      | with_reducible refine k_blkC ?_
      | with_reducible refine k_blkH ?_
      | with_reducible refine k_blkB ?_
      | with_reducible refine k_blkK ?_
      | with_reducible refine k_blkE ?_
      | with_reducible refine k_reg ?_
      | with_reducible refine r_done ?_
      | with_reducible refine s_go (by simp (disch := omega) only [c10r0, c10r1, c10r2, c10r3, c10r4, c10r5, c10r6, c10r7, c10r8, c10r9, c10r10, c10r11, c10r12, c10r13, c10r14, c10r15, c10r16, c10r17, c10r18, c10r19, c10r20, c10r21, c10r22, EV0, EV1, EV2, EV3, EV4, EV5, EV6, EV7, EV8, VALS, plug, ite_same, decide_true, decide_false, eq_self, ↓reduceIte, reduceCtorEq, Nat.reduceAdd, Nat.reduceEqDiff, Nat.reduceLT, Nat.reduceLeDiff, Nat.reduceMul, Nat.reduceSub, Nat.reduceDiv, Int.reduceToNat, Int.reduceAdd, Int.reduceSub, Int.reduceMul, Int.reduceNeg, Int.reduceEq, Int.reduceLT, Int.reduceLE]; with_reducible rfl) ?_
      | ((with_reducible refine chk_r ?_); refine r_callF (by simp only [CA, Nat.reduceEqDiff, ↓reduceIte]; rfl) (by exact rfl) (by simp only [CA, Nat.reduceEqDiff, ↓reduceIte]; rfl) rfl ?_)
      | ((with_reducible refine chk_r ?_); refine r_callP (by simp only [CA, Nat.reduceEqDiff, ↓reduceIte]; rfl) (by simp only [CA, Nat.reduceEqDiff, ↓reduceIte]; rfl) (by first | exact q34 _ | exact pc24 _) rfl ?_)
      | ((with_reducible refine chk_r ?_); refine r_callG (by simp only [CA, Nat.reduceEqDiff, ↓reduceIte]; rfl) (by simp only [CA, Nat.reduceEqDiff, ↓reduceIte]; rfl) (by simp only [CA, Nat.reduceEqDiff, ↓reduceIte]; rfl) (by intro hg; (try simp only [BO] at hg); first | exact q34 _ | exact pc24 _) rfl ?_)
      | (with_reducible refine k_condP (by simp only [GA, Nat.reduceEqDiff, ↓reduceIte]; rfl) (by first | (simp only [BO]; rfl) | rfl) (fun ht => ?_) (fun ht => ?_) <;> try (first | exact False.elim ht | exact absurd rfl ht | exact absurd trivial ht | exact Bool.noConfusion ht))
      | (with_reducible refine k_ret ?_; repeat with_reducible (first | refine ret_thru ?_ | refine ret_blk ?_ | refine fin ?_))
      | (with_reducible refine k_exit ?_; repeat with_reducible (first | refine thru ?_ | refine out_blk ?_ | refine pass (by decide) ?_))
      | (refine post1 ?_; simp only [GA, Nat.reduceEqDiff, ↓reduceIte])
      | (refine post2 ?_; simp only [GA, Nat.reduceEqDiff, ↓reduceIte])
      | (refine post3 ?_; simp only [GA, Nat.reduceEqDiff, ↓reduceIte])
      | (refine postc (by simp only [GA, Nat.reduceEqDiff, ↓reduceIte]; rfl) (by simp (disch := omega) only [c10r0, c10r1, c10r2, c10r3, c10r4, c10r5, c10r6, c10r7, c10r8, c10r9, c10r10, c10r11, c10r12, c10r13, c10r14, c10r15, c10r16, c10r17, c10r18, c10r19, c10r20, c10r21, c10r22, EV0, EV1, EV2, EV3, EV4, EV5, EV6, EV7, EV8, VALS, plug, ite_same, decide_true, decide_false, eq_self, ↓reduceIte, reduceCtorEq, Nat.reduceAdd, Nat.reduceEqDiff, Nat.reduceLT, Nat.reduceLeDiff, Nat.reduceMul, Nat.reduceSub, Nat.reduceDiv, Int.reduceToNat, Int.reduceAdd, Int.reduceSub, Int.reduceMul, Int.reduceNeg, Int.reduceEq, Int.reduceLT, Int.reduceLE]; rfl) ?_)
      | refine post0 ?_
    · exact ends_of
    · exfalso
      simp only [not_or, Bool.not_eq_false] at ht
      exact C ⟨ht.1.1.1.1.1.1, by omega⟩
end Go.Proofs.Ytbhkbaapfioijaa
