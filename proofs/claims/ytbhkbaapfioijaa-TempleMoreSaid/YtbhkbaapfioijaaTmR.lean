import Derived.Test.YtbhkbaapfioijaaTmL
import Derived.Test.YtbhkbaapfioijaaTmQ
set_option linter.unusedVariables false
set_option linter.unusedSimpArgs false
namespace Go.Proofs.Ytbhkbaapfioijaa
open Go Go.Am Go.Proofs Go.Sort

/-! ### TempleMore: plain -/
theorem nodup_map {f : Nat → Nat} {A : List Nat} (h : A.Nodup) (hi : ∀ x ∈ A, ∀ y ∈ A, f x = f y → x = y) : (A.map f).Nodup := by
  induction A with
  | nil => simp
  | cons a A ih =>
    have h' := List.nodup_cons.1 h
    simp only [List.map_cons, List.nodup_cons, List.mem_map, not_exists, not_and]
    exact ⟨fun x hx e => h'.1 (hi x (by simp [hx]) a (by simp) e ▸ hx), ih h'.2 fun x hx y hy => hi x (by simp [hx]) y (by simp [hy])⟩
/-- the temples of one list lie in another one -/
theorem more_map {l m : List T} (hv : VL l) (f : Nat → Nat) (h1 : ∀ i, i < m.length → f i < l.length ∧ m.getD i T0 = l.getD (f i) T0) (h2 : ∀ i j, i < m.length → j < m.length → f i = f j → i = j) (tol : Int) :
    (matchL m tol).length ≤ (matchL l tol).length := by
  obtain ⟨a, b, c⟩ := match_ok m tol
  have := match_max hv (tol := tol) (M := (matchL m tol).map fun p => (f p.1, f p.2)) ⟨?_, ?_, ?_⟩
  · simpa using this
  · rw [List.map_map]
    have : (matchL m tol).map (Prod.fst ∘ fun p => (f p.1, f p.2)) = ((matchL m tol).map Prod.fst).map f := by rw [List.map_map]; rfl
    rw [this]
    refine nodup_map a fun x hx y hy e => ?_
    obtain ⟨p, hp, rfl⟩ := List.mem_map.1 hx
    obtain ⟨q, hq, rfl⟩ := List.mem_map.1 hy
    exact h2 _ _ (c p hp).1 (c q hq).1 e
  · rw [List.map_map]
    have : (matchL m tol).map (Prod.snd ∘ fun p => (f p.1, f p.2)) = ((matchL m tol).map Prod.snd).map f := by rw [List.map_map]; rfl
    rw [this]
    refine nodup_map b fun x hx y hy e => ?_
    obtain ⟨p, hp, rfl⟩ := List.mem_map.1 hx
    obtain ⟨q, hq, rfl⟩ := List.mem_map.1 hy
    exact h2 _ _ (c p hp).2.1 (c q hq).2.1 e
  · intro p hp
    obtain ⟨q, hq, rfl⟩ := List.mem_map.1 hp
    obtain ⟨c1, c2, c3, c4, c5, c6⟩ := c q hq
    obtain ⟨d1, d2⟩ := h1 _ c1
    obtain ⟨d3, d4⟩ := h1 _ c2
    simp only
    rw [← d2, ← d4]
    exact ⟨d1, d3, c3, c4, c5, c6⟩
theorem VL_map {l m : List T} (hv : VL l) (hl : m.length ≤ 60) (f : Nat → Nat) (h1 : ∀ i, i < m.length → f i < l.length ∧ m.getD i T0 = l.getD (f i) T0) (h2 : ∀ i j, i < m.length → j < m.length → f i = f j → i = j) : VL m := by
  refine ⟨hl, fun i hi => ?_, fun i j hij hj => ?_⟩
  · rw [(h1 i hi).2]; exact hv.2.1 _ (h1 i hi).1
  · rw [(h1 i (by omega)).2, (h1 j hj).2]
    have a := (h1 i (by omega)).1
    have b := (h1 j hj).1
    rcases Nat.lt_trichotomy (f i) (f j) with q | q | q
    · exact hv.2.2 _ _ q b
    · have := h2 i j (by omega) hj q; omega
    · exact fun e => hv.2.2 _ _ q a e.symm
theorem more_tol {l : List T} (hv : VL l) (tol : Int) : (matchL l tol).length ≤ (matchL l (tol + 1)).length := by
  obtain ⟨a, b, c⟩ := match_ok l tol
  refine match_max hv ⟨a, b, fun p hp => ?_⟩
  obtain ⟨c1, c2, c3, c4, c5, c6⟩ := c p hp
  exact ⟨c1, c2, c3, c4, c5, by omega⟩
theorem more_long {l : List T} {t : T} (hv : VL l) (hw : VL (l ++ [t])) (tol : Int) : (matchL l tol).length ≤ (matchL (l ++ [t]) tol).length ∧ (matchL (l ++ [t]) tol).length ≤ (matchL l tol).length + 1 := by
  have old : ∀ i, i < l.length → (l ++ [t]).getD i T0 = l.getD i T0 := fun i hi => by simp [List.getD_eq_getElem?_getD, List.getElem?_append_left hi]
  refine ⟨more_map hw id (fun i hi => ⟨by simp; omega, (old i hi).symm⟩) (fun _ _ _ _ e => e) tol, ?_⟩
  obtain ⟨a, b, c⟩ := match_ok (l ++ [t]) tol
  generalize matchL (l ++ [t]) tol = M at a b c ⊢
  have fin : ∀ M', PairsOK (l ++ [t]) tol M' → (∀ p ∈ M', p.1 ≠ l.length ∧ p.2 ≠ l.length) → M'.length ≤ (matchL l tol).length := fun M' ⟨a', b', c'⟩ hn => by
    refine match_max hv ⟨a', b', fun p hp => ?_⟩
    obtain ⟨c1, c2, c3, c4, c5, c6⟩ := c' p hp
    have := hn p hp
    simp only [List.length_append, List.length_cons, List.length_nil] at c1 c2
    rw [old _ (by omega), old _ (by omega)] at *
    exact ⟨by omega, by omega, c3, c4, c5, c6⟩
  by_cases e : ∃ p ∈ M, p.1 = l.length ∨ p.2 = l.length
  · obtain ⟨p, hp, he⟩ := e
    have nd := nodup_fst a
    have sub : (M.erase p).Sublist M := List.erase_sublist
    have := fin (M.erase p) ⟨a.sublist (sub.map _), b.sublist (sub.map _), fun q hq => c q (sub.subset hq)⟩ fun q hq => by
      have hne : q ≠ p := fun e => by subst e; exact nd.not_mem_erase hq
      have cp := c p hp
      have cq := c q (sub.subset hq)
      refine ⟨fun e1 => ?_, fun e1 => ?_⟩
      · rcases he with he | he
        · exact hne (inj_fst a (sub.subset hq) hp (e1.trans he.symm))
        · have x := cq.2.2.1
          have y := cp.2.2.2.1
          rw [e1] at x; rw [he] at y
          omega
      · rcases he with he | he
        · have x := cq.2.2.2.1
          have y := cp.2.2.1
          rw [e1] at x; rw [he] at y
          omega
        · exact hne (inj_snd b (sub.subset hq) hp (e1.trans he.symm))
    rw [List.length_erase_of_mem hp] at this
    omega
  · have := fin M ⟨a, b, c⟩ fun p hp => ⟨fun e1 => e ⟨p, hp, .inl e1⟩, fun e1 => e ⟨p, hp, .inr e1⟩⟩
    omega
/-- the list turned round -/
def sg (n w i : Nat) : Nat := n - 1 - (i + w) % n
def tn (l : List T) (w k : Nat) : List T := (List.range k).map fun i => l.getD (sg l.length w i) T0
theorem tn_len (l : List T) (w k : Nat) : (tn l w k).length = k := by simp [tn]
theorem tn_succ (l : List T) (w k : Nat) : tn l w (k + 1) = tn l w k ++ [l.getD (sg l.length w k) T0] := by simp [tn, List.range_succ]
theorem tn_get {l : List T} {w k i : Nat} (h : i < k) : (tn l w k).getD i T0 = l.getD (sg l.length w i) T0 := by simp [tn, h]
theorem sg_lt {n w i : Nat} (h : 0 < n) : sg n w i < n := by unfold sg; omega
theorem sg_inj {n w i j : Nat} (hi : i < n) (hj : j < n) (e : sg n w i = sg n w j) : i = j := by
  unfold sg at e
  have a := Nat.mod_lt (i + w) (show 0 < n by omega)
  have b := Nat.mod_lt (j + w) (show 0 < n by omega)
  have e1 : (i + w) % n = (j + w) % n := by omega
  have e2 := Nat.div_add_mod (i + w) n
  have e3 := Nat.div_add_mod (j + w) n
  have h4 : n * ((i + w) / n) + j = n * ((j + w) / n) + i := by omega
  rcases Nat.lt_trichotomy ((i + w) / n) ((j + w) / n) with q | q | q
  · have := Nat.mul_le_mul_left n (show (i + w) / n + 1 ≤ (j + w) / n by omega)
    rw [Nat.mul_add, Nat.mul_one] at this; omega
  · rw [q] at h4; omega
  · have := Nat.mul_le_mul_left n (show (j + w) / n + 1 ≤ (i + w) / n by omega)
    rw [Nat.mul_add, Nat.mul_one] at this; omega
def sg' (n w j : Nat) : Nat := (n - 1 - j + (n - w % n)) % n
theorem sg_sg' {n w j : Nat} (h : j < n) : sg n w (sg' n w j) = j ∧ sg' n w j < n := by
  have hn : 0 < n := by omega
  have b := Nat.mod_lt w hn
  refine ⟨?_, Nat.mod_lt _ hn⟩
  unfold sg sg'
  rw [Nat.mod_add_mod, show n - 1 - j + (n - w % n) + w = (n - 1 - j) + (n - w % n + w) by omega]
  have e := Nat.div_add_mod w n
  have : n - w % n + w = n * (w / n + 1) := by rw [Nat.mul_add, Nat.mul_one]; omega
  rw [this, Nat.add_mul_mod_self_left, Nat.mod_eq_of_lt (by omega)]
  omega
theorem VL_tn {l : List T} (hv : VL l) (w : Nat) : VL (tn l w l.length) :=
  VL_map hv (by rw [tn_len]; exact hv.len) (sg l.length w) (fun i hi => by rw [tn_len] at hi; exact ⟨sg_lt (by omega), tn_get hi⟩) fun i j hi hj e => by rw [tn_len] at hi hj; exact sg_inj hi hj e
theorem more_tn {l : List T} (hv : VL l) (w : Nat) (tol : Int) : (matchL (tn l w l.length) tol).length = (matchL l tol).length := by
  refine Nat.le_antisymm (more_map hv (sg l.length w) (fun i hi => by rw [tn_len] at hi; exact ⟨sg_lt (by omega), tn_get hi⟩) (fun i j hi hj e => by rw [tn_len] at hi hj; exact sg_inj hi hj e) tol)
    (more_map (VL_tn hv w) (sg' l.length w) (fun i hi => ?_) (fun i j hi hj e => ?_) tol)
  · obtain ⟨h1, h2⟩ := sg_sg' (w := w) hi
    rw [tn_len]
    exact ⟨h2, by rw [tn_get h2, h1]⟩
  · have h1 := (sg_sg' (w := w) hi).1
    have h2 := (sg_sg' (w := w) hj).1
    rw [← h1, e, h2]
end Go.Proofs.Ytbhkbaapfioijaa
