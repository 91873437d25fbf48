import Derived.Test.YtbhkbaapfioijaaTmH
set_option linter.unusedVariables false
set_option linter.unusedSimpArgs false
namespace Go.Proofs.Ytbhkbaapfioijaa
open Go Go.Am Go.Proofs Go.Sort

/-! ### The pairs of match are the most: plain -/
/-- pairs between two lists, with no index twice -/
def Mat (l : List T) (tol : Int) (xs ys : List Nat) (M : List (Nat × Nat)) : Prop :=
  (M.map Prod.fst).Nodup ∧ (M.map Prod.snd).Nodup ∧ ∀ p ∈ M, p.1 ∈ xs ∧ p.2 ∈ ys ∧ apart (l.getD p.1 T0) (l.getD p.2 T0) ≤ tol
theorem inj_fst {M : List (Nat × Nat)} (h : (M.map Prod.fst).Nodup) {p q : Nat × Nat} (hp : p ∈ M) (hq : q ∈ M) (e : p.1 = q.1) : p = q := by
  induction M with
  | nil => cases hp
  | cons x M ih =>
    simp only [List.map_cons, List.nodup_cons, List.mem_map, not_exists, not_and] at h
    rcases List.mem_cons.1 hp with e1 | hp'
    · rcases List.mem_cons.1 hq with e2 | hq'
      · rw [e1, e2]
      · rw [e1] at e; exact absurd e.symm (h.1 q hq')
    · rcases List.mem_cons.1 hq with e2 | hq'
      · rw [e2] at e; exact absurd e (h.1 p hp')
      · exact ih h.2 hp' hq'
theorem inj_snd {M : List (Nat × Nat)} (h : (M.map Prod.snd).Nodup) {p q : Nat × Nat} (hp : p ∈ M) (hq : q ∈ M) (e : p.2 = q.2) : p = q := by
  induction M with
  | nil => cases hp
  | cons x M ih =>
    simp only [List.map_cons, List.nodup_cons, List.mem_map, not_exists, not_and] at h
    rcases List.mem_cons.1 hp with e1 | hp'
    · rcases List.mem_cons.1 hq with e2 | hq'
      · rw [e1, e2]
      · rw [e1] at e; exact absurd e.symm (h.1 q hq')
    · rcases List.mem_cons.1 hq with e2 | hq'
      · rw [e2] at e; exact absurd e (h.1 p hp')
      · exact ih h.2 hp' hq'
theorem nodup_fst {M : List (Nat × Nat)} (h : (M.map Prod.fst).Nodup) : M.Nodup := by
  induction M with
  | nil => exact List.nodup_nil
  | cons x M ih =>
    simp only [List.map_cons, List.nodup_cons, List.mem_map, not_exists, not_and] at h
    exact List.nodup_cons.2 ⟨fun hx => h.1 x hx rfl, ih h.2⟩
/-- one pair less -/
theorem Mat.erase {l : List T} {tol : Int} {xs ys : List Nat} {M : List (Nat × Nat)} (h : Mat l tol xs ys M) {p : Nat × Nat} (hp : p ∈ M) :
    Mat l tol xs ys (M.erase p) ∧ (∀ q ∈ M.erase p, q.1 ≠ p.1 ∧ q.2 ≠ p.2) ∧ (M.erase p).length + 1 = M.length := by
  have nd := nodup_fst h.1
  have sub : (M.erase p).Sublist M := List.erase_sublist
  refine ⟨⟨h.1.sublist (sub.map _), h.2.1.sublist (sub.map _), fun q hq => h.2.2 q (sub.subset hq)⟩, fun q hq => ?_, ?_⟩
  · have hne : q ≠ p := fun e => by subst e; exact nd.not_mem_erase hq
    exact ⟨fun e => hne (inj_fst h.1 (sub.subset hq) hp e), fun e => hne (inj_snd h.2.1 (sub.subset hq) hp e)⟩
  · rw [List.length_erase_of_mem hp]
    have := List.length_pos_of_mem hp
    omega
theorem Mat.small {l : List T} {tol : Int} {a b : Nat} {xs ys : List Nat} {M : List (Nat × Nat)} (h : Mat l tol (a :: xs) (b :: ys) M) (ha : ∀ q ∈ M, q.1 ≠ a) (hb : ∀ q ∈ M, q.2 ≠ b) : Mat l tol xs ys M :=
  ⟨h.1, h.2.1, fun p hp => by
    obtain ⟨h1, h2, h3⟩ := h.2.2 p hp
    exact ⟨(List.mem_cons.1 h1).resolve_left (ha p hp), (List.mem_cons.1 h2).resolve_left (hb p hp), h3⟩⟩
abbrev Inc (l : List T) (xs : List Nat) : Prop := xs.Pairwise fun i j => (l.getD i T0).len ≤ (l.getD j T0).len
theorem mt_max (l : List T) (tol : Int) : ∀ (n : Nat) (xs ys : List Nat) (M : List (Nat × Nat)), xs.length + ys.length ≤ n → Inc l xs → Inc l ys → Mat l tol xs ys M → M.length ≤ (mt l tol xs ys).length
  | n, [], ys, M, h, _, _, hM => by
    cases M with
    | nil => simp
    | cons p M => have := (hM.2.2 p (by simp)).1; cases this
  | n, a :: xs, [], M, h, _, _, hM => by
    cases M with
    | nil => simp
    | cons p M => have := (hM.2.2 p (by simp)).2.1; cases this
  | 0, a :: xs, b :: ys, M, h, _, _, _ => by simp at h
  | n + 1, a :: xs, b :: ys, M, h, hx, hy, hM => by
    rw [mt_cons]
    simp only [List.length_cons] at h
    have hx' := List.pairwise_cons.1 hx
    have hy' := List.pairwise_cons.1 hy
    by_cases hc : apart (l.getD a T0) (l.getD b T0) ≤ tol
    · rw [if_pos hc, List.length_cons]
      have ih := fun M' hM' => mt_max l tol n xs ys M' (by omega) hx'.2 hy'.2 hM'
      by_cases e1 : ∃ y, (a, y) ∈ M
      · obtain ⟨y, hy1⟩ := e1
        obtain ⟨m1, m2, m3⟩ := hM.erase hy1
        by_cases e2 : ∃ x, (x, b) ∈ M.erase (a, y)
        · obtain ⟨x, hx1⟩ := e2
          obtain ⟨k1, k2, k3⟩ := m1.erase hx1
          have r1 := m2 _ hx1
          simp only at r1
          have ax := hM.2.2 _ hy1
          have bx := m1.2.2 _ hx1
          simp only at ax bx
          have xin : x ∈ xs := (List.mem_cons.1 bx.1).resolve_left r1.1
          have yin : y ∈ ys := (List.mem_cons.1 ax.2.1).resolve_left (fun e => r1.2 e.symm)
          have lx := hx'.1 x xin
          have ly := hy'.1 y yin
          have : Mat l tol xs ys ((x, y) :: (M.erase (a, y)).erase (x, b)) := by
            have sm := k1.small (fun q hq => (m2 q (List.mem_of_mem_erase hq)).1) (fun q hq => (k2 q hq).2)
            refine ⟨?_, ?_, fun p hp => ?_⟩
            · simp only [List.map_cons, List.nodup_cons, List.mem_map, not_exists, not_and]
              exact ⟨fun q hq => (k2 q hq).1, k1.1⟩
            · simp only [List.map_cons, List.nodup_cons, List.mem_map, not_exists, not_and]
              exact ⟨fun q hq => (m2 q (List.mem_of_mem_erase hq)).2, k1.2.1⟩
            · rcases List.mem_cons.1 hp with rfl | hp
              · refine ⟨xin, yin, ?_⟩
                have q1 := ax.2.2
                have q2 := bx.2.2
                unfold apart at q1 q2 ⊢
                simp only
                omega
              · exact sm.2.2 p hp
          have := ih _ this
          rw [List.length_cons] at this
          omega
        · have := ih _ (m1.small (fun q hq => (m2 q hq).1) (fun q hq e => e2 ⟨q.1, by rw [← e]; exact hq⟩))
          omega
      · by_cases e2 : ∃ x, (x, b) ∈ M
        · obtain ⟨x, hx1⟩ := e2
          obtain ⟨k1, k2, k3⟩ := hM.erase hx1
          have := ih _ (k1.small (fun q hq e => e1 ⟨q.2, by rw [← e]; exact List.mem_of_mem_erase hq⟩) (fun q hq => (k2 q hq).2))
          omega
        · have := ih _ (hM.small (fun q hq e => e1 ⟨q.2, by rw [← e]; exact hq⟩) (fun q hq e => e2 ⟨q.1, by rw [← e]; exact hq⟩))
          omega
    · rw [if_neg hc]
      by_cases hlt : (l.getD a T0).len < (l.getD b T0).len
      · rw [if_pos hlt]
        refine mt_max l tol n xs (b :: ys) M (by simp only [List.length_cons]; omega) hx'.2 hy ⟨hM.1, hM.2.1, fun p hp => ?_⟩
        obtain ⟨h1, h2, h3⟩ := hM.2.2 p hp
        refine ⟨(List.mem_cons.1 h1).resolve_left fun e => ?_, h2, h3⟩
        rw [e] at h3
        have : (l.getD b T0).len ≤ (l.getD p.2 T0).len := by
          rcases List.mem_cons.1 h2 with e | h2
          · rw [e]; exact Int.le_refl _
          · exact hy'.1 _ h2
        unfold apart at h3 hc
        omega
      · rw [if_neg hlt]
        refine mt_max l tol n (a :: xs) ys M (by simp only [List.length_cons]; omega) hx hy'.2 ⟨hM.1, hM.2.1, fun p hp => ?_⟩
        obtain ⟨h1, h2, h3⟩ := hM.2.2 p hp
        refine ⟨h1, (List.mem_cons.1 h2).resolve_left fun e => ?_, h3⟩
        rw [e] at h3
        have : (l.getD a T0).len ≤ (l.getD p.1 T0).len := by
          rcases List.mem_cons.1 h1 with e | h1
          · rw [e]; exact Int.le_refl _
          · exact hx'.1 _ h1
        unfold apart at h3 hc
        omega

/-! all colours -/
def PairsOK (l : List T) (tol : Int) (M : List (Nat × Nat)) : Prop :=
  (M.map Prod.fst).Nodup ∧ (M.map Prod.snd).Nodup ∧ ∀ p ∈ M, p.1 < l.length ∧ p.2 < l.length ∧ (l.getD p.1 T0).side = 1 ∧ (l.getD p.2 T0).side = 2 ∧ (l.getD p.1 T0).col = (l.getD p.2 T0).col ∧ apart (l.getD p.1 T0) (l.getD p.2 T0) ≤ tol
theorem mem_side {l : List T} {s c : Int} {i : Nat} : i ∈ sideL l s c ↔ i < l.length ∧ (l.getD i T0).side = s ∧ (l.getD i T0).col = c := by
  unfold sideL
  rw [List.mem_mergeSort]
  simp [sfil, List.mem_filter, List.mem_range, onside]
theorem side_inc (l : List T) (s c : Int) : Inc l (sideL l s c) := by
  have := List.pairwise_mergeSort (le := fun i k => !ltT l k i) (by
    intro a b c h1 h2
    simp only [ltT, Bool.not_eq_true', decide_eq_false_iff_not] at *
    omega) (by
    intro a b
    simp only [ltT, Bool.or_eq_true, Bool.not_eq_true', decide_eq_false_iff_not]
    omega) (sfil l s c l.length)
  refine this.imp fun h => ?_
  simp only [ltT, Bool.not_eq_true', decide_eq_false_iff_not] at h
  omega
theorem side_nodup (l : List T) (s c : Int) : (sideL l s c).Nodup := by
  unfold sideL
  refine (List.mergeSort_perm _ _).nodup_iff.2 ?_
  exact List.nodup_range.filter _
theorem mc_max (l : List T) (tol : Int) : ∀ (k : Nat) (M : List (Nat × Nat)), PairsOK l tol M → (∀ p ∈ M, 1 ≤ (l.getD p.1 T0).col ∧ (l.getD p.1 T0).col ≤ k) → M.length ≤ (mc l tol k).length
  | 0, M, h, hc => by
    cases M with
    | nil => simp
    | cons p M => have := hc p (by simp); omega
  | k + 1, M, h, hc => by
    rw [mc_succ, List.length_append]
    let here : Nat × Nat → Bool := fun p => decide ((l.getD p.1 T0).col = ((k + 1 : Nat) : Int))
    have split : M.length = (M.filter here).length + (M.filter fun p => !here p).length := by
      rw [List.length_eq_countP_add_countP here, List.countP_eq_length_filter, List.countP_eq_length_filter]
      congr 2
      exact List.filter_congr fun p _ => by simp
    have h1 : (M.filter fun p => !here p).length ≤ (mc l tol k).length := by
      refine mc_max l tol k _ ⟨h.1.sublist (List.filter_sublist.map _), h.2.1.sublist (List.filter_sublist.map _), fun p hp => h.2.2 p (List.mem_filter.1 hp).1⟩ fun p hp => ?_
      obtain ⟨hp, hn⟩ := List.mem_filter.1 hp
      have := hc p hp
      simp only [here, Bool.not_eq_true', decide_eq_false_iff_not] at hn
      omega
    have h2 : (M.filter here).length ≤ (mt l tol (sideL l 1 (k + 1 : Nat)) (sideL l 2 (k + 1 : Nat))).length := by
      refine mt_max l tol _ _ _ _ (Nat.le_refl _) (side_inc _ _ _) (side_inc _ _ _) ⟨h.1.sublist (List.filter_sublist.map _), h.2.1.sublist (List.filter_sublist.map _), fun p hp => ?_⟩
      obtain ⟨hp, hn⟩ := List.mem_filter.1 hp
      simp only [here, decide_eq_true_eq] at hn
      obtain ⟨a1, a2, a3, a4, a5, a6⟩ := h.2.2 p hp
      exact ⟨mem_side.2 ⟨a1, a3, hn⟩, mem_side.2 ⟨a2, a4, by rw [← a5]; exact hn⟩, a6⟩
    omega
/-- no pairing has more pairs than match makes -/
theorem match_max {l : List T} (hv : VL l) {tol : Int} {M : List (Nat × Nat)} (h : PairsOK l tol M) : M.length ≤ (matchL l tol).length :=
  mc_max l tol 9 M h fun p hp => by
    have := hv.2.1 p.1 (h.2.2 p hp).1
    simp only [vt, decide_eq_true_eq] at this
    omega
theorem mt_mat (l : List T) (tol : Int) : ∀ (n : Nat) (xs ys : List Nat), xs.length + ys.length ≤ n → xs.Nodup → ys.Nodup → Mat l tol xs ys (mt l tol xs ys)
  | n, [], ys, h, _, _ => by rw [mt_nil1]; exact ⟨by simp, by simp, fun p hp => by cases hp⟩
  | n, a :: xs, [], h, _, _ => by rw [mt_nil2]; exact ⟨by simp, by simp, fun p hp => by cases hp⟩
  | 0, a :: xs, b :: ys, h, _, _ => by simp at h
  | n + 1, a :: xs, b :: ys, h, hx, hy => by
    rw [mt_cons]
    simp only [List.length_cons] at h
    have hx' := List.nodup_cons.1 hx
    have hy' := List.nodup_cons.1 hy
    split
    · rename_i hc
      obtain ⟨m1, m2, m3⟩ := mt_mat l tol n xs ys (by omega) hx'.2 hy'.2
      refine ⟨?_, ?_, fun p hp => ?_⟩
      · simp only [List.map_cons, List.nodup_cons, List.mem_map, not_exists, not_and]
        exact ⟨fun q hq e => hx'.1 (e ▸ (m3 q hq).1), m1⟩
      · simp only [List.map_cons, List.nodup_cons, List.mem_map, not_exists, not_and]
        exact ⟨fun q hq e => hy'.1 (e ▸ (m3 q hq).2.1), m2⟩
      · rcases List.mem_cons.1 hp with rfl | hp
        · exact ⟨by simp, by simp, hc⟩
        · obtain ⟨q1, q2, q3⟩ := m3 p hp
          exact ⟨List.mem_cons_of_mem _ q1, List.mem_cons_of_mem _ q2, q3⟩
    · split
      · obtain ⟨m1, m2, m3⟩ := mt_mat l tol n xs (b :: ys) (by simp only [List.length_cons]; omega) hx'.2 hy
        exact ⟨m1, m2, fun p hp => ⟨List.mem_cons_of_mem _ (m3 p hp).1, (m3 p hp).2⟩⟩
      · obtain ⟨m1, m2, m3⟩ := mt_mat l tol n (a :: xs) ys (by simp only [List.length_cons]; omega) hx hy'.2
        exact ⟨m1, m2, fun p hp => ⟨(m3 p hp).1, List.mem_cons_of_mem _ (m3 p hp).2.1, (m3 p hp).2.2⟩⟩
theorem mc_ok (l : List T) (tol : Int) : ∀ k, PairsOK l tol (mc l tol k) ∧ ∀ p ∈ mc l tol k, (l.getD p.1 T0).col ≤ k
  | 0 => ⟨⟨by simp [mc], by simp [mc], fun p hp => by simp [mc] at hp⟩, fun p hp => by simp [mc] at hp⟩
  | k + 1 => by
    obtain ⟨⟨h1, h2, h3⟩, h4⟩ := mc_ok l tol k
    obtain ⟨m1, m2, m3⟩ := mt_mat l tol _ _ _ (Nat.le_refl _) (side_nodup l 1 (k + 1 : Nat)) (side_nodup l 2 (k + 1 : Nat))
    have m4 : ∀ p ∈ mt l tol (sideL l 1 (k + 1 : Nat)) (sideL l 2 (k + 1 : Nat)), (l.getD p.1 T0).col = ((k + 1 : Nat) : Int) ∧ (l.getD p.2 T0).col = ((k + 1 : Nat) : Int) := fun p hp => ⟨(mem_side.1 (m3 p hp).1).2.2, (mem_side.1 (m3 p hp).2.1).2.2⟩
    rw [mc_succ]
    refine ⟨⟨?_, ?_, fun p hp => ?_⟩, fun p hp => ?_⟩
    · rw [List.map_append, List.nodup_append]
      refine ⟨h1, m1, fun a ha b hb e => ?_⟩
      obtain ⟨p, hp, rfl⟩ := List.mem_map.1 ha
      obtain ⟨q, hq, rfl⟩ := List.mem_map.1 hb
      have := h4 p hp
      have := (m4 q hq).1
      rw [← e] at this
      omega
    · rw [List.map_append, List.nodup_append]
      refine ⟨h2, m2, fun a ha b hb e => ?_⟩
      obtain ⟨p, hp, rfl⟩ := List.mem_map.1 ha
      obtain ⟨q, hq, rfl⟩ := List.mem_map.1 hb
      have h5 := h4 p hp
      rw [(h3 p hp).2.2.2.2.1] at h5
      have := (m4 q hq).2
      rw [← e] at this
      omega
    · rcases List.mem_append.1 hp with hp | hp
      · exact h3 p hp
      · have a := mem_side.1 (m3 p hp).1
        have b := mem_side.1 (m3 p hp).2.1
        exact ⟨a.1, b.1, a.2.1, b.2.1, by rw [a.2.2, b.2.2], (m3 p hp).2.2⟩
    · rcases List.mem_append.1 hp with hp | hp
      · have := h4 p hp; omega
      · have := (m4 p hp).1; omega
theorem match_ok (l : List T) (tol : Int) : PairsOK l tol (matchL l tol) := (mc_ok l tol 9).1
end Go.Proofs.Ytbhkbaapfioijaa
