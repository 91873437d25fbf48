/- What the proof of the law needs: the abstract machine, the functions as it reads them, their contracts, part 5. -/
import Derived.Test.YtbhkbaapfioijaaZd
set_option linter.unusedVariables false
set_option linter.unusedSimpArgs false
namespace Go.Proofs.Ytbhkbaapfioijaa
open Go Go.Am Go.Proofs Go.Sort
/-! ### The document's most: plain -/
/-- i can be paired with k -/
def ed (l : List T) (tol : Int) (i k : Nat) : Bool := can (l.getD i T0) (l.getD k T0) tol
/-- partners of some temples: of the right ones, left ones; no one twice -/
structure MQ (l : List T) (tol : Int) (Q : Nat → Int) : Prop where
  rng : ∀ k, Q k = -1 ∨ ∃ j : Nat, Q k = j ∧ j < l.length ∧ k < l.length ∧ (l.getD j T0).side = 1 ∧ ed l tol j k = true
  inj : ∀ k k', 0 ≤ Q k → Q k = Q k' → k = k'
/-- how many have a partner -/
def cnt (Q : Nat → Int) (n : Nat) : Nat := ((List.range n).filter fun k => decide (0 ≤ Q k)).length
theorem cnt_succ (Q : Nat → Int) (n : Nat) : cnt Q (n + 1) = cnt Q n + if 0 ≤ Q n then 1 else 0 := by
  unfold cnt
  rw [List.range_succ, List.filter_append, List.length_append]
  by_cases h : 0 ≤ Q n <;> simp [h]
theorem cnt_congr {Q R : Nat → Int} : ∀ {n : Nat}, (∀ k, k < n → (0 ≤ Q k ↔ 0 ≤ R k)) → cnt Q n = cnt R n
  | 0, _ => rfl
  | n + 1, h => by
    rw [cnt_succ, cnt_succ, cnt_congr fun k hk => h k (by omega)]
    by_cases q : 0 ≤ Q n
    · rw [if_pos q, if_pos ((h n (by omega)).1 q)]
    · rw [if_neg q, if_neg fun r => q ((h n (by omega)).2 r)]
def upd (Q : Nat → Int) (k : Nat) (x : Int) : Nat → Int := fun m => if m = k then x else Q m
theorem cnt_set {Q : Nat → Int} {k : Nat} {x : Int} (hQ : ¬ 0 ≤ Q k) (hx : 0 ≤ x) : ∀ {n : Nat}, k < n → cnt (upd Q k x) n = cnt Q n + 1
  | 0, h => by omega
  | n + 1, h => by
    rw [cnt_succ, cnt_succ]
    by_cases e : k = n
    · subst e
      have : cnt (upd Q k x) k = cnt Q k := cnt_congr fun m hm => by unfold upd; rw [if_neg (by omega)]
      rw [this, if_neg hQ]
      unfold upd
      rw [if_pos rfl, if_pos hx]
    · rw [cnt_set hQ hx (n := n) (by omega)]
      have : upd Q k x n = Q n := by unfold upd; rw [if_neg (by omega)]
      rw [this]
      omega
theorem cnt_unset {Q : Nat → Int} {k n : Nat} (hQ : 0 ≤ Q k) (hk : k < n) : cnt (upd Q k (-1)) n + 1 = cnt Q n := by
  have := cnt_set (Q := upd Q k (-1)) (k := k) (x := Q k) (by unfold upd; rw [if_pos rfl]; omega) hQ hk
  rw [← this]
  refine cnt_congr fun m _ => ?_
  unfold upd
  by_cases e : m = k
  · subst e; simp
  · simp [e]
/-- partners and what was seen, az functions -/
def pf (P : List Int) (k : Nat) : Int := P.getD k (-1)
def sf (S : List Bool) (k : Nat) : Bool := S.getD k false
theorem sf_set {S : List Bool} {k m : Nat} (hk : k < S.length) : sf (S.set k true) m = (decide (m = k) || sf S m) := by
  unfold sf
  by_cases e : m = k
  · subst e; simp [List.getD_eq_getElem?_getD, hk]
  · have : ¬ k = m := fun q => e q.symm
    simp [List.getD_eq_getElem?_getD, List.getElem?_set, this, e]
theorem pf_set {P : List Int} {k m : Nat} {x : Int} (hk : k < P.length) : pf (P.set k x) m = if m = k then x else pf P m := by
  unfold pf
  by_cases e : m = k
  · subst e; simp [List.getD_eq_getElem?_getD, hk]
  · have : ¬ k = m := fun q => e q.symm
    simp [List.getD_eq_getElem?_getD, List.getElem?_set, this, e]
/-- what was seen stays what it was thought to be -/
def mix (S : List Bool) (Q : Nat → Int) (P : List Int) : Nat → Int := fun k => if sf S k = true then Q k else pf P k
/-- what a search gives -/
def Fnd (l : List T) (tol : Int) (Q : Nat → Int) (P : List Int) (S : List Bool) (i : Nat) (b : Bool) (P' : List Int) (S' : List Bool) : Prop :=
  P'.length = l.length ∧ S'.length = l.length ∧ (∀ k, sf S k = true → sf S' k = true ∧ pf P' k = pf P k) ∧
  (b = true → MQ l tol (mix S Q P') ∧ cnt (mix S Q P') l.length = cnt Q l.length + 1 ∧ ∀ k, 0 ≤ mix S Q P' k → mix S Q P' k = i ∨ ∃ k', mix S Q P' k = Q k') ∧
  (b = false → P' = P ∧ (∀ k, k < l.length → ed l tol i k = true → sf S' k = true) ∧
    ∀ k, sf S' k = true → sf S k = false → ∃ j : Nat, pf P k = j ∧ j < l.length ∧ k < l.length ∧ ed l tol j k = true ∧ ∀ m, m < l.length → ed l tol j m = true → sf S' m = true)
/-- what must hold ahead of a search -/
structure Pre (l : List T) (tol : Int) (Q : Nat → Int) (P : List Int) (S : List Bool) (i : Nat) : Prop where
  pl : P.length = l.length
  sl : S.length = l.length
  il : i < l.length
  is : (l.getD i T0).side = 1
  mq : MQ l tol Q
  eq : ∀ k, sf S k = false → Q k = pf P k
  fr : ∀ k, Q k ≠ i
/-- in a loop: so far nothing was found -/
structure Sofar (l : List T) (tol : Int) (P : List Int) (S S1 : List Bool) (i k : Nat) : Prop where
  sl : S1.length = l.length
  le : ∀ m, sf S m = true → sf S1 m = true
  me : ∀ m, m < k → ed l tol i m = true → sf S1 m = true
  cl : ∀ m, sf S1 m = true → sf S m = false → ∃ j : Nat, pf P m = j ∧ j < l.length ∧ m < l.length ∧ ed l tol j m = true ∧ ∀ m', m' < l.length → ed l tol j m' = true → sf S1 m' = true
variable {l : List T} {tol : Int} {Q : Nat → Int} {P P2 : List Int} {S S1 S2 : List Bool} {i k : Nat}
theorem Sofar.init (h : Pre l tol Q P S i) : Sofar l tol P S S i 0 := ⟨h.sl, fun _ h => h, fun m hm => by omega, fun m h1 h2 => by rw [h1] at h2; cases h2⟩
theorem Sofar.skip (h : Sofar l tol P S S1 i k) (hk : sf S1 k = true ∨ ¬ ed l tol i k = true) : Sofar l tol P S S1 i (k + 1) := ⟨h.sl, h.le, fun m hm he => by
  by_cases e : m = k
  · subst e; rcases hk with hk | hk; exact hk; exact absurd he hk
  · exact h.me m (by omega) he, h.cl⟩
theorem sf_mono_f (h : Sofar l tol P S S1 i k) {m : Nat} (hm : sf S1 m = false) : sf S m = false := by
  cases q : sf S m with
  | false => rfl
  | true => rw [h.le m q] at hm; cases hm
/-- the partner's search -/
theorem Pre.next (h : Pre l tol Q P S i) (g : Sofar l tol P S S1 i k) (hk : k < l.length) (hs : sf S1 k = false) {j : Nat} (hj : pf P k = j) : Pre l tol (upd Q k (-1)) P (S1.set k true) j := by
  have q1 := h.eq k (sf_mono_f g hs)
  obtain ⟨j', e1, e2, e3, e4, e5⟩ : ∃ j : Nat, Q k = j ∧ j < l.length ∧ k < l.length ∧ (l.getD j T0).side = 1 ∧ ed l tol j k = true := by
    rcases h.mq.rng k with e | e
    · rw [q1, hj] at e; omega
    · exact e
  have : j' = j := by rw [q1, hj] at e1; omega
  subst this
  refine ⟨h.pl, by rw [List.length_set]; exact g.sl, e2, e4, ⟨fun m => ?_, fun m m' => ?_⟩, fun m hm => ?_, fun m => ?_⟩
  · unfold upd
    split
    · exact .inl rfl
    · exact h.mq.rng m
  · unfold upd
    intro a b
    split at a
    · omega
    · rename_i n1
      rw [if_neg n1] at b
      split at b
      · omega
      · exact h.mq.inj m m' a b
  · rw [sf_set (by rw [g.sl]; exact hk)] at hm
    simp only [Bool.or_eq_false_iff, decide_eq_false_iff_not] at hm
    unfold upd
    rw [if_neg hm.1]
    exact h.eq m (sf_mono_f g hm.2)
  · unfold upd
    split
    · omega
    · rename_i n1
      intro e
      exact n1 (h.mq.inj m k (by omega) (by omega))
/-- it is found: the partner finds another one -/
theorem Fnd.yes (h : Pre l tol Q P S i) (g : Sofar l tol P S S1 i k) (hk : k < l.length) (hs : sf S1 k = false) (he : ed l tol i k = true) {j : Nat} (hj : pf P k = j)
    (f : Fnd l tol (upd Q k (-1)) P (S1.set k true) j true P2 S2) : Fnd l tol Q P S i true (P2.set k i) S2 := by
  obtain ⟨f1, f2, f3, f40, -⟩ := f
  obtain ⟨f4, f5, f6⟩ := f40 rfl
  clear f40
  have sk := sf_mono_f g hs
  have q1 := h.eq k sk
  have sset : ∀ m, sf (S1.set k true) m = (decide (m = k) || sf S1 m) := fun m => sf_set (by rw [g.sl]; exact hk)
  have pset : ∀ m, pf (P2.set k i) m = if m = k then (i : Int) else pf P2 m := fun m => pf_set (by rw [f1]; exact hk)
  -- the two views
  have view : mix S Q (P2.set k i) = upd (mix (S1.set k true) (upd Q k (-1)) P2) k i := by
    funext m
    unfold mix upd
    rw [pset]
    simp only [sset]
    by_cases e : m = k
    · subst e; simp [sk]
    · simp only [e, decide_false, Bool.false_or, if_false]
      cases a : sf S1 m with
      | false => rw [sf_mono_f g a]
      | true =>
        simp only [if_true]
        cases b : sf S m with
        | true => simp
        | false =>
          simp only [Bool.false_eq_true, if_false]
          rw [h.eq m b]
          exact (f3 m (by rw [sset, a]; simp)).2
  have old : mix (S1.set k true) (upd Q k (-1)) P2 k = -1 := by
    unfold mix upd
    rw [sset]
    simp
  generalize mix (S1.set k true) (upd Q k (-1)) P2 = R at *
  refine ⟨by rw [List.length_set]; exact f1, f2, fun m hm => ⟨(f3 m (by rw [sset, g.le m hm]; simp)).1, ?_⟩, fun _ => ?_, fun q => by cases q⟩
  · rw [pset, if_neg (fun e => by subst e; rw [sk] at hm; cases hm)]
    exact (f3 m (by rw [sset, g.le m hm]; simp)).2
  · rw [view]
    have rQ : ∀ m, 0 ≤ R m → ∃ k', R m = Q k' := fun m hm => by
      rcases f6 m hm with e | ⟨k', e⟩
      · exact ⟨k, by rw [e, q1, hj]⟩
      · unfold upd at e
        split at e
        · omega
        · exact ⟨k', e⟩
    refine ⟨⟨fun m => ?_, fun m m' => ?_⟩, ?_, fun m => ?_⟩
    · unfold upd
      split
      · rename_i e; subst e
        exact .inr ⟨i, rfl, h.il, hk, h.is, he⟩
      · exact f4.rng m
    · unfold upd
      intro a b
      split at a
      · rename_i e; subst e
        rw [if_pos rfl] at b
        split at b
        · rename_i e; exact e.symm
        · obtain ⟨k', e⟩ := rQ m' (by omega)
          exact absurd (b.trans e).symm (h.fr k')
      · rename_i n1
        rw [if_neg n1] at b
        split at b
        · obtain ⟨k', e⟩ := rQ m (by omega)
          exact absurd (e.symm.trans b) (h.fr k')
        · exact f4.inj m m' a b
    · rw [cnt_set (by omega) (by omega) hk, f5]
      have := cnt_unset (Q := Q) (k := k) (n := l.length) (by omega) hk
      omega
    · unfold upd
      split
      · exact fun _ => .inl rfl
      · exact fun a => .inr (rQ m a)
/-- it is found: one with no partner -/
theorem Fnd.free (h : Pre l tol Q P S i) (g : Sofar l tol P S S1 i k) (hk : k < l.length) (hs : sf S1 k = false) (he : ed l tol i k = true) (hj : pf P k < 0) : Fnd l tol Q P S i true (P.set k i) (S1.set k true) := by
  have sk := sf_mono_f g hs
  have q1 := h.eq k sk
  have sset : ∀ m, sf (S1.set k true) m = (decide (m = k) || sf S1 m) := fun m => sf_set (by rw [g.sl]; exact hk)
  have pset : ∀ m, pf (P.set k i) m = if m = k then (i : Int) else pf P m := fun m => pf_set (by rw [h.pl]; exact hk)
  have view : mix S Q (P.set k i) = upd Q k i := by
    funext m
    unfold mix upd
    rw [pset]
    by_cases e : m = k
    · subst e; simp [sk]
    · simp only [e, if_false]
      cases b : sf S m with
      | true => simp
      | false => simp [h.eq m b]
  refine ⟨by rw [List.length_set]; exact h.pl, by rw [List.length_set]; exact g.sl, fun m hm => ⟨by rw [sset, g.le m hm]; simp, ?_⟩, fun _ => ?_, fun q => by cases q⟩
  · rw [pset, if_neg (fun e => by subst e; rw [sk] at hm; cases hm)]
  · rw [view]
    refine ⟨⟨fun m => ?_, fun m m' => ?_⟩, cnt_set (by omega) (by omega) hk, fun m => ?_⟩
    · unfold upd
      split
      · rename_i e; subst e
        exact .inr ⟨i, rfl, h.il, hk, h.is, he⟩
      · exact h.mq.rng m
    · unfold upd
      intro a b
      split at a
      · rename_i e; subst e
        rw [if_pos rfl] at b
        split at b
        · rename_i e; exact e.symm
        · exact absurd b.symm (h.fr m')
      · rename_i n1
        rw [if_neg n1] at b
        split at b
        · exact absurd b (h.fr m)
        · exact h.mq.inj m m' a b
    · unfold upd
      split
      · exact fun _ => .inl rfl
      · exact fun _ => .inr ⟨m, rfl⟩
/-- the partner finds no other one -/
theorem Sofar.no (h : Pre l tol Q P S i) (g : Sofar l tol P S S1 i k) (hk : k < l.length) (hs : sf S1 k = false) {j : Nat} (hj : pf P k = j)
    (f : Fnd l tol (upd Q k (-1)) P (S1.set k true) j false P2 S2) : P2 = P ∧ Sofar l tol P S S2 i (k + 1) := by
  obtain ⟨f1, f2, f3, -, f4⟩ := f
  obtain ⟨f4, f5, f6⟩ := f4 rfl
  have sset : ∀ m, sf (S1.set k true) m = (decide (m = k) || sf S1 m) := fun m => sf_set (by rw [g.sl]; exact hk)
  have up : ∀ m, sf S1 m = true → sf S2 m = true := fun m hm => (f3 m (by rw [sset, hm]; simp)).1
  have upk : sf S2 k = true := (f3 k (by rw [sset]; simp)).1
  have nx := h.next g hk hs hj
  have q1 := h.eq k (sf_mono_f g hs)
  refine ⟨f4, f2, fun m hm => up m (g.le m hm), fun m hm he => ?_, fun m h1 h2 => ?_⟩
  · by_cases e : m = k
    · subst e; exact upk
    · exact up m (g.me m (by omega) he)
  · by_cases e : m = k
    · subst e
      obtain ⟨j', e1, e2, e3, e4, e5⟩ : ∃ j : Nat, Q m = j ∧ j < l.length ∧ m < l.length ∧ (l.getD j T0).side = 1 ∧ ed l tol j m = true := by
        rcases h.mq.rng m with e | e
        · rw [q1, hj] at e; omega
        · exact e
      have : j' = j := by rw [q1, hj] at e1; omega
      subst this
      exact ⟨j', hj, e2, e3, e5, f5⟩
    · cases a : sf S1 m with
      | true =>
        obtain ⟨j', c1, c2, c3, c4, c5⟩ := g.cl m a h2
        exact ⟨j', c1, c2, c3, c4, fun m' h3 h4 => up m' (c5 m' h3 h4)⟩
      | false => exact f6 m h1 (by rw [sset, a]; simp [e])
/-- nothing is found at the end -/
theorem Fnd.no (h : Pre l tol Q P S i) (g : Sofar l tol P S S1 i l.length) : Fnd l tol Q P S i false P S1 :=
  ⟨h.pl, g.sl, fun m hm => ⟨g.le m hm, rfl⟩, fun q => by (cases q), fun _ => ⟨rfl, g.me, g.cl⟩⟩
/-- so many are not seen -/
def uns (S : List Bool) : Nat := S.countP fun b => !b
theorem uns_set {S : List Bool} {k : Nat} (hk : k < S.length) (hs : sf S k = false) : uns (S.set k true) + 1 = uns S := by
  induction S generalizing k with
  | nil => simp at hk
  | cons b S ih =>
    cases k with
    | zero =>
      unfold sf at hs
      simp at hs
      subst hs
      simp [uns]
    | succ k =>
      have := ih (k := k) (by simpa using hk) (by simpa [sf] using hs)
      unfold uns at *
      rw [List.set_cons_succ, List.countP_cons, List.countP_cons]
      omega
theorem uns_le {S S' : List Bool} (hl : S.length = S'.length) (h : ∀ m, sf S m = true → sf S' m = true) : uns S' ≤ uns S := by
  induction S generalizing S' with
  | nil => cases S' with
    | nil => exact Nat.le_refl _
    | cons _ _ => simp at hl
  | cons b S ih =>
    cases S' with
    | nil => simp at hl
    | cons b' S' =>
      have h1 := ih (S' := S') (by simpa using hl) fun m hm => by have := h (m + 1) (by simpa [sf] using hm); simpa [sf] using this
      have h2 := h 0
      simp only [sf, List.getD_cons_zero] at h2
      unfold uns at *
      rw [List.countP_cons, List.countP_cons]
      cases b <;> cases b' <;> simp_all <;> omega
end Go.Proofs.Ytbhkbaapfioijaa
set_option linter.unusedVariables false
set_option linter.unusedSimpArgs false
namespace Go.Proofs.Ytbhkbaapfioijaa
open Go Go.Am Go.Proofs Go.Sort
/-! ### The document's most is the most: plain -/
theorem nodup_len : ∀ {A B : List Nat}, A.Nodup → (∀ x ∈ A, x ∈ B) → A.length ≤ B.length
  | [], B, _, _ => Nat.zero_le _
  | a :: A, B, h, s => by
    have h' := List.nodup_cons.1 h
    have ha := s a (by simp)
    have := nodup_len (A := A) (B := B.erase a) h'.2 fun x hx => (List.mem_erase_of_ne (by rintro rfl; exact h'.1 hx)).2 (s x (by simp [hx]))
    rw [List.length_erase_of_mem ha] at this
    have := List.length_pos_of_mem ha
    simp only [List.length_cons]
    omega
theorem ed_iff {l : List T} {tol : Int} {j k : Nat} : ed l tol j k = true ↔ (l.getD j T0).side ≠ (l.getD k T0).side ∧ (l.getD j T0).col = (l.getD k T0).col ∧ apart (l.getD j T0) (l.getD k T0) ≤ tol := by
  simp [ed, can, mates, and_assoc]
theorem side2 {l : List T} (hv : VL l) {j k : Nat} (hk : k < l.length) (hj : (l.getD j T0).side = 1) (hn : (l.getD j T0).side ≠ (l.getD k T0).side) : (l.getD k T0).side = 2 := by
  have := vt_len (hv.t hk); omega
/-- pairs of the first i temples are at most n -/
def Top (l : List T) (tol : Int) (i n : Nat) : Prop := ∀ M, PairsOK l tol M → (∀ p ∈ M, p.1 < i) → M.length ≤ n
theorem Top.zero (l : List T) (tol : Int) : Top l tol 0 0 := fun M _ h => by
  cases M with
  | nil => simp
  | cons p M => have := h p (by simp); omega
theorem Top.skip {l : List T} {tol : Int} {i n : Nat} (h : Top l tol i n) (hs : (l.getD i T0).side ≠ 1) : Top l tol (i + 1) n := fun M hM hi => h M hM fun p hp => by
  have := hi p hp
  have q := (hM.2.2 p hp).2.2.1
  have : p.1 ≠ i := fun e => hs (e ▸ q)
  omega
theorem Top.yes {l : List T} {tol : Int} {i n : Nat} (h : Top l tol i n) : Top l tol (i + 1) (n + 1) := fun M ⟨a, b, c⟩ hi => by
  by_cases e : ∃ p ∈ M, p.1 = i
  · obtain ⟨p, hp, he⟩ := e
    have nd := nodup_fst a
    have sub : (M.erase p).Sublist M := List.erase_sublist
    have := h (M.erase p) ⟨a.sublist (sub.map _), b.sublist (sub.map _), fun q hq => c q (sub.subset hq)⟩ fun q hq => by
      have hne : q ≠ p := fun e => by subst e; exact nd.not_mem_erase hq
      have : q.1 ≠ i := fun e => hne (inj_fst a (sub.subset hq) hp (e.trans he.symm))
      have := hi q (sub.subset hq)
      omega
    rw [List.length_erase_of_mem hp] at this
    omega
  · have := h M ⟨a, b, c⟩ fun p hp => by
      have : p.1 ≠ i := fun q => e ⟨p, hp, q⟩
      have := hi p hp
      omega
    omega
theorem Top.no {l : List T} {tol : Int} {i n : Nat} (hv : VL l) (h : Top l tol i n) {P : List Int} {S : List Bool} (mq : MQ l tol (pf P)) (hi : ∀ k, pf P k < i) (me : ∀ k, k < l.length → ed l tol i k = true → sf S k = true)
    (cl : ∀ m, sf S m = true → ∃ j : Nat, pf P m = j ∧ j < l.length ∧ m < l.length ∧ ed l tol j m = true ∧ ∀ m', m' < l.length → ed l tol j m' = true → sf S m' = true) : Top l tol (i + 1) n := fun M hM hlt => by
  let A := M.filter fun p => sf S p.2
  let B := M.filter fun p => !sf S p.2
  let R := (List.range l.length).filter fun k => sf S k
  let C := R.map fun k => ((pf P k).toNat, k)
  have split : M.length = A.length + B.length := by
    show M.length = (M.filter fun p => sf S p.2).length + (M.filter fun p => !sf S p.2).length
    rw [List.length_eq_countP_add_countP (fun p : Nat × Nat => sf S p.2), List.countP_eq_length_filter, List.countP_eq_length_filter]
    congr 2
    exact List.filter_congr fun p _ => by simp
  have hR : ∀ k, k ∈ R ↔ k < l.length ∧ sf S k = true := fun k => by simp [R, List.mem_filter, List.mem_range]
  have nR : R.Nodup := List.nodup_range.filter _
  have hA : A.length ≤ C.length := by
    have : (A.map Prod.snd).length ≤ R.length := nodup_len (hM.2.1.sublist (List.filter_sublist.map _)) fun x hx => by
      obtain ⟨p, hp, rfl⟩ := List.mem_map.1 hx
      obtain ⟨p1, p2⟩ := List.mem_filter.1 hp
      exact (hR p.2).2 ⟨(hM.2.2 p p1).2.1, p2⟩
    simpa [C] using this
  have hB : ∀ p ∈ B, p ∈ M ∧ sf S p.2 = false := fun p hp => by
    obtain ⟨p1, p2⟩ := List.mem_filter.1 hp
    exact ⟨p1, by simpa using p2⟩
  have eM : ∀ p ∈ M, ed l tol p.1 p.2 = true := fun p hp => by
    obtain ⟨_, _, c3, c4, c5, c6⟩ := hM.2.2 p hp
    rw [ed_iff]
    exact ⟨by rw [c3, c4]; decide, c5, c6⟩
  have hC : ∀ k, k ∈ R → ∃ j : Nat, pf P k = j ∧ j < l.length ∧ k < l.length ∧ ed l tol j k = true ∧ (l.getD j T0).side = 1 ∧ ∀ m', m' < l.length → ed l tol j m' = true → sf S m' = true := fun k hk => by
    obtain ⟨j, c1, c2, c3, c4, c5⟩ := cl k ((hR k).1 hk).2
    refine ⟨j, c1, c2, c3, c4, ?_, c5⟩
    rcases mq.rng k with e | ⟨j', e1, _, _, e4, _⟩
    · omega
    · have : j' = j := by omega
      subst this; exact e4
  have := h (B ++ C) ⟨?_, ?_, ?_⟩ ?_
  · rw [List.length_append] at this; omega
  · rw [List.map_append, List.nodup_append]
    refine ⟨hM.1.sublist (List.filter_sublist.map _), ?_, fun a ha b hb e => ?_⟩
    · show ((R.map fun k => ((pf P k).toNat, k)).map Prod.fst).Nodup
      rw [List.map_map]
      refine nodup_map nR fun x hx y hy e => ?_
      obtain ⟨j, c1, _⟩ := hC x hx
      obtain ⟨j', c1', _⟩ := hC y hy
      simp only [Function.comp_apply] at e
      exact mq.inj x y (by omega) (by omega)
    · subst e
      obtain ⟨p, hp, rfl⟩ := List.mem_map.1 ha
      obtain ⟨q, hq, e⟩ := List.mem_map.1 hb
      obtain ⟨k, hk, rfl⟩ := List.mem_map.1 hq
      obtain ⟨j, c1, _, _, _, _, c5⟩ := hC k hk
      simp only [c1, Int.toNat_natCast] at e
      have hp' := hB p hp
      have := c5 p.2 (hM.2.2 p hp'.1).2.1 (by rw [e]; exact eM p hp'.1)
      rw [hp'.2] at this
      cases this
  · rw [List.map_append, List.nodup_append]
    refine ⟨hM.2.1.sublist (List.filter_sublist.map _), ?_, fun a ha b hb e => ?_⟩
    · show ((R.map fun k => ((pf P k).toNat, k)).map Prod.snd).Nodup
      rw [List.map_map]
      have : (Prod.snd ∘ fun k : Nat => ((pf P k).toNat, k)) = id := rfl
      rw [this, List.map_id]
      exact nR
    · subst e
      obtain ⟨p, hp, rfl⟩ := List.mem_map.1 ha
      obtain ⟨q, hq, e⟩ := List.mem_map.1 hb
      obtain ⟨k, hk, rfl⟩ := List.mem_map.1 hq
      simp only at e
      have := ((hR k).1 hk).2
      rw [e, (hB p hp).2] at this
      cases this
  · intro p hp
    rcases List.mem_append.1 hp with hp | hp
    · exact hM.2.2 p (hB p hp).1
    · obtain ⟨k, hk, rfl⟩ := List.mem_map.1 hp
      obtain ⟨j, c1, c2, c3, c4, c6, c5⟩ := hC k hk
      simp only [c1, Int.toNat_natCast]
      have e := ed_iff.1 c4
      exact ⟨c2, c3, c6, side2 hv c3 c6 e.1, e.2.1, e.2.2⟩
  · intro p hp
    rcases List.mem_append.1 hp with hp | hp
    · have hp' := hB p hp
      have := hlt p hp'.1
      have : p.1 ≠ i := fun e => by
        have := me p.2 (hM.2.2 p hp'.1).2.1 (by rw [← e]; exact eM p hp'.1)
        rw [hp'.2] at this
        cases this
      omega
    · obtain ⟨k, hk, rfl⟩ := List.mem_map.1 hp
      obtain ⟨j, c1, _⟩ := hC k hk
      have := hi k
      simp only
      omega
/-- so many partners are pairs -/
theorem MQ.pairs {l : List T} {tol : Int} {Q : Nat → Int} (hv : VL l) (mq : MQ l tol Q) : cnt Q l.length ≤ (matchL l tol).length := by
  have hR : ∀ k, k ∈ (List.range l.length).filter (fun k => decide (0 ≤ Q k)) → ∃ j : Nat, Q k = j ∧ j < l.length ∧ k < l.length ∧ (l.getD j T0).side = 1 ∧ ed l tol j k = true := fun k hk => by
    have h0 : 0 ≤ Q k := by simpa using (List.mem_filter.1 hk).2
    rcases mq.rng k with e | e
    · omega
    · exact e
  have := match_max hv (tol := tol) (M := ((List.range l.length).filter fun k => decide (0 ≤ Q k)).map fun k => ((Q k).toNat, k)) ⟨?_, ?_, ?_⟩
  · rw [List.length_map] at this; exact this
  · rw [List.map_map]
    refine nodup_map (List.nodup_range.filter _) fun x hx y hy e => ?_
    obtain ⟨j, c1, _⟩ := hR x hx
    obtain ⟨j', c1', _⟩ := hR y hy
    simp only [Function.comp_apply] at e
    exact mq.inj x y (by omega) (by omega)
  · rw [List.map_map]
    have : (Prod.snd ∘ fun k : Nat => ((Q k).toNat, k)) = id := rfl
    rw [this, List.map_id]
    exact List.nodup_range.filter _
  · intro p hp
    obtain ⟨k, hk, rfl⟩ := List.mem_map.1 hp
    obtain ⟨j, c1, c2, c3, c4, c5⟩ := hR k hk
    simp only [c1, Int.toNat_natCast]
    have e := ed_iff.1 c5
    exact ⟨c2, c3, c4, side2 hv c3 c4 e.1, e.2.1, e.2.2⟩
theorem Top.fin {l : List T} {tol : Int} {Q : Nat → Int} (hv : VL l) (mq : MQ l tol Q) (h : Top l tol l.length (cnt Q l.length)) : cnt Q l.length = (matchL l tol).length :=
  Nat.le_antisymm (mq.pairs hv) (h _ (match_ok l tol) fun p hp => ((match_ok l tol).2.2 p hp).1)
end Go.Proofs.Ytbhkbaapfioijaa
set_option linter.unusedVariables false
set_option linter.unusedSimpArgs false
namespace Go.Proofs.Ytbhkbaapfioijaa
open Go Go.Am Go.Proofs Go.Sort
/-! ### The document's most: the walk -/
theorem pf_get {P : List Int} {k : Nat} (h : k < P.length) : (il P)[k]? = some (.i .i64 (pf P k)) := by simp [il, pf, h]
theorem sf_get {S : List Bool} {k : Nat} (h : k < S.length) : (bl S)[k]? = some (.b (sf S k)) := by simp [bl, sf, h]
set_option maxHeartbeats 1000000 in
theorem ac76 (l : List T) (hv : VL l) (tol : Int) : ∀ (n : Nat) (Q : Nat → Int) (P : List Int) (S : List Bool) (i : Nat) (x y : Nat) (h : AH), uns S = n → Pre l tol Q P S i → x ≠ 0 → y ≠ 0 → y ≠ x → h.m x = some (.cells true (il P)) → h.m y = some (.cells true (bl S)) →
    ACalls Try.prog 76 [vT l, .i .i64 tol, .sl x 0 l.length 1, .sl y 0 l.length 1, .i .i64 (i : Int)] h fun r h' => ∃ b P' S', r = .b b ∧ Fnd l tol Q P S i b P' S' ∧ h'.m x = some (.cells true (il P')) ∧ h'.m y = some (.cells true (bl S')) := by
  intro n
  induction n using Nat.strongRecOn with
  | _ n ih =>
  intro Q P S i x y h hn hp hx hy hyx hm hmy
  have hxy : x ≠ y := fun e => hyx e.symm
  refine a_fn fn76 (Nat.le_of_ble_eq_true rfl) fun ok pos => ?_
  rw [initSt5]
  have hl := hv.len
  have hx' := ok.m hm
  have hy' := ok.m hmy
  repeat' first
    | with_reducible refine k_seq ?_
    | with_reducible refine k_skip ?_
    | with_reducible refine k_blkS ?_
    | with_reducible refine k_blkR ?_
    | with_reducible refine k_blkC ?_
    | with_reducible refine k_blkH ?_
    | with_reducible refine k_blkB ?_
    | with_reducible refine k_blkK ?_
    | with_reducible refine k_blkE ?_
    | with_reducible refine k_reg ?_
    | with_reducible refine k_head (by with_unfolding_all rfl) ?_
    | with_reducible refine k_headS ?_
    | (with_reducible refine SepK.mk ?_ ?_; (refine sepQ_P ?_; simp [sepQ, sepG, AOp.late, AOp.free, AOp.xs, AOp.isAl, tokNe, AV.tok, stS_get, strip, AX.val, c76r0, c76r1, c76r2, c76r3, c76r4, c76r5, c76r6, c76r7, c76r8, c76r10, GA]; try omega))
    | with_reducible refine r_done ?_
    | with_reducible refine hr_done ?_
    | with_reducible refine s_go (by simp (disch := omega) only [c76r0, c76r1, c76r2, c76r3, c76r4, c76r5, c76r6, c76r7, c76r8, c76r10, EV0, EV1, EV2, EV3, EV4, EV5, EV6, EV7, EV8, VALS, plug, ite_same, decide_true, decide_false, eq_self, ↓reduceIte, reduceCtorEq, Nat.reduceAdd, Nat.reduceEqDiff, Nat.reduceLT, Nat.reduceLeDiff, Nat.reduceMul, Nat.reduceSub, Nat.reduceDiv, Int.reduceToNat, Int.reduceAdd, Int.reduceSub, Int.reduceMul, Int.reduceNeg, Int.reduceEq, Int.reduceLT, Int.reduceLE]; with_reducible rfl) ?_
    | with_reducible refine h_go (by with_unfolding_all rfl) (by simp (disch := omega) only [c76r0, c76r1, c76r2, c76r3, c76r4, c76r5, c76r6, c76r7, c76r8, c76r10, EV0, EV1, EV2, EV3, EV4, EV5, EV6, EV7, EV8, VALS, plug, ite_same, decide_true, decide_false, eq_self, ↓reduceIte, reduceCtorEq, Nat.reduceAdd, Nat.reduceEqDiff, Nat.reduceLT, Nat.reduceLeDiff, Nat.reduceMul, Nat.reduceSub, Nat.reduceDiv, Int.reduceToNat, Int.reduceAdd, Int.reduceSub, Int.reduceMul, Int.reduceNeg, Int.reduceEq, Int.reduceLT, Int.reduceLE]; with_reducible rfl) ?_
    | ((with_reducible refine chk_r ?_); refine r_callF (by simp only [CA, Nat.reduceEqDiff, ↓reduceIte]; rfl) (by exact rfl) (by simp only [CA, Nat.reduceEqDiff, ↓reduceIte]; rfl) rfl ?_)
    | ((with_reducible refine chk_h ?_); refine hr_callF (by simp only [CA, Nat.reduceEqDiff, ↓reduceIte]; rfl) (by exact rfl) (by simp only [CA, Nat.reduceEqDiff, ↓reduceIte]; rfl) rfl ?_)
    | ((with_reducible refine chk_h ?_); refine hr_app (by simp (disch := omega) only [c76r0, c76r1, c76r2, c76r3, c76r4, c76r5, c76r6, c76r7, c76r8, c76r10, EV0, EV1, EV2, EV3, EV4, EV5, EV6, EV7, EV8, VALS, plug, ite_same, decide_true, decide_false, eq_self, ↓reduceIte, reduceCtorEq, Nat.reduceAdd, Nat.reduceEqDiff, Nat.reduceLT, Nat.reduceLeDiff, Nat.reduceMul, Nat.reduceSub, Nat.reduceDiv, Int.reduceToNat, Int.reduceAdd, Int.reduceSub, Int.reduceMul, Int.reduceNeg, Int.reduceEq, Int.reduceLT, Int.reduceLE]; with_reducible rfl) rfl ?_)
    | (with_reducible refine k_condP (by simp only [GA, Nat.reduceEqDiff, ↓reduceIte]; rfl) (by first | (simp only [BO]; rfl) | rfl) (fun ht => ?_) (fun ht => ?_) <;> try (first | exact False.elim ht | exact absurd rfl ht | exact absurd trivial ht | exact Bool.noConfusion ht))
    | (with_reducible refine k_ret ?_; repeat with_reducible (first | refine ret_thru ?_ | refine ret_blk ?_ | refine fin ?_))
    | (with_reducible refine k_exit ?_; repeat with_reducible (first | refine thru ?_ | refine out_blk ?_ | refine pass (by decide) ?_))
    | (refine post1 ?_; simp only [GA, Nat.reduceEqDiff, ↓reduceIte])
    | (refine post2 ?_; simp only [GA, Nat.reduceEqDiff, ↓reduceIte])
    | (refine post3 ?_; simp only [GA, Nat.reduceEqDiff, ↓reduceIte])
    | (refine postc (by simp only [GA, Nat.reduceEqDiff, ↓reduceIte]; rfl) (by simp (disch := omega) only [c76r0, c76r1, c76r2, c76r3, c76r4, c76r5, c76r6, c76r7, c76r8, c76r10, EV0, EV1, EV2, EV3, EV4, EV5, EV6, EV7, EV8, VALS, plug, ite_same, decide_true, decide_false, eq_self, ↓reduceIte, reduceCtorEq, Nat.reduceAdd, Nat.reduceEqDiff, Nat.reduceLT, Nat.reduceLeDiff, Nat.reduceMul, Nat.reduceSub, Nat.reduceDiv, Int.reduceToNat, Int.reduceAdd, Int.reduceSub, Int.reduceMul, Int.reduceNeg, Int.reduceEq, Int.reduceLT, Int.reduceLE]; rfl) ?_)
    | refine post0 ?_
  refine k_blk (k_loopS (X := List Bool) [0, 1, 2, 3, 4, 11] l.length (fun k S1 => [(0, vT l), (1, .i .i64 tol), (2, .sl x 0 l.length 1), (3, .sl y 0 l.length 1), (4, .i .i64 (i : Int)), (11, .i .i64 (k : Int))]) (fun k S1 h => Sofar l tol P S S1 i k ∧ h.m x = some (.cells true (il P)) ∧ h.m y = some (.cells true (bl S1))) S (by simp only [Am.keep, List.map_cons, List.map_nil, GA, Nat.reduceEqDiff, ↓reduceIte]; try rfl) ⟨.init hp, by simp (disch := omega) only [hm, c76r0, c76r1, c76r2, c76r3, c76r4, c76r5, c76r6, c76r7, c76r8, c76r10, EV0, EV1, EV2, EV3, EV4, EV5, EV6, EV7, EV8, VALS, plug, ite_same, decide_true, decide_false, eq_self, ↓reduceIte, reduceCtorEq, Nat.reduceAdd, Nat.reduceEqDiff, Nat.reduceLT, Nat.reduceLeDiff, Nat.reduceMul, Nat.reduceSub, Nat.reduceDiv, Int.reduceToNat, Int.reduceAdd, Int.reduceSub, Int.reduceMul, Int.reduceNeg, Int.reduceEq, Int.reduceLT, Int.reduceLE], by simp (disch := omega) only [hmy, c76r0, c76r1, c76r2, c76r3, c76r4, c76r5, c76r6, c76r7, c76r8, c76r10, EV0, EV1, EV2, EV3, EV4, EV5, EV6, EV7, EV8, VALS, plug, ite_same, decide_true, decide_false, eq_self, ↓reduceIte, reduceCtorEq, Nat.reduceAdd, Nat.reduceEqDiff, Nat.reduceLT, Nat.reduceLeDiff, Nat.reduceMul, Nat.reduceSub, Nat.reduceDiv, Int.reduceToNat, Int.reduceAdd, Int.reduceSub, Int.reduceMul, Int.reduceNeg, Int.reduceEq, Int.reduceLT, Int.reduceLE]⟩ ?_)
  rintro k S1 h hk ⟨g, hm, hmy⟩ ok pos
  have hx' := ok.m hm
  have hy' := ok.m hmy
  by_cases hlt : k < l.length
  · have hlt' : (k : Int) < l.length := by omega
    have rA := rdT hp.il
    have rB := rdT hlt
    have hi := hp.il
    have pl := hp.pl
    have sl := g.sl
    have q57 := pc57 (l.getD i T0) (l.getD k T0) (hv.2.1 i hp.il) (hv.2.1 k hlt) tol
    have gs := sf_get (S := S1) (k := k) (by omega)
    have gp := pf_get (P := P) (k := k) (by omega)
    have ee : ed l tol i k = can (l.getD i T0) (l.getD k T0) tol := rfl
    simp only [eT] at rA rB q57
    cases hs : sf S1 k with
    | true =>
      rw [hs] at gs
      repeat' first
        | with_reducible refine k_seq ?_
        | with_reducible refine k_skip ?_
        | with_reducible refine k_blkS ?_
        | with_reducible refine k_blkR ?_
        | with_reducible refine k_blkC ?_
        | with_reducible refine k_blkH ?_
        | with_reducible refine k_blkB ?_
        | with_reducible refine k_blkK ?_
        | with_reducible refine k_blkE ?_
        | with_reducible refine k_reg ?_
        | with_reducible refine k_head (by with_unfolding_all rfl) ?_
        | with_reducible refine k_headS ?_
        | (with_reducible refine SepK.mk ?_ ?_; (refine sepQ_P ?_; simp [sepQ, sepG, AOp.late, AOp.free, AOp.xs, AOp.isAl, tokNe, AV.tok, stS_get, strip, AX.val, c76r0, c76r1, c76r2, c76r3, c76r4, c76r5, c76r6, c76r7, c76r8, c76r10, GA]; try omega))
        | with_reducible refine r_done ?_
        | with_reducible refine hr_done ?_
        | with_reducible refine s_go (by simp (disch := omega) only [hlt', hmy, row_m hmy, read_row (row_m hmy), gs, rA, rB, sl, c76r0, c76r1, c76r2, c76r3, c76r4, c76r5, c76r6, c76r7, c76r8, c76r10, EV0, EV1, EV2, EV3, EV4, EV5, EV6, EV7, EV8, VALS, plug, ite_same, decide_true, decide_false, eq_self, ↓reduceIte, reduceCtorEq, Nat.reduceAdd, Nat.reduceEqDiff, Nat.reduceLT, Nat.reduceLeDiff, Nat.reduceMul, Nat.reduceSub, Nat.reduceDiv, Int.reduceToNat, Int.reduceAdd, Int.reduceSub, Int.reduceMul, Int.reduceNeg, Int.reduceEq, Int.reduceLT, Int.reduceLE]; with_reducible rfl) ?_
        | with_reducible refine h_go (by with_unfolding_all rfl) (by simp (disch := omega) only [hlt', hmy, row_m hmy, read_row (row_m hmy), gs, rA, rB, sl, c76r0, c76r1, c76r2, c76r3, c76r4, c76r5, c76r6, c76r7, c76r8, c76r10, EV0, EV1, EV2, EV3, EV4, EV5, EV6, EV7, EV8, VALS, plug, ite_same, decide_true, decide_false, eq_self, ↓reduceIte, reduceCtorEq, Nat.reduceAdd, Nat.reduceEqDiff, Nat.reduceLT, Nat.reduceLeDiff, Nat.reduceMul, Nat.reduceSub, Nat.reduceDiv, Int.reduceToNat, Int.reduceAdd, Int.reduceSub, Int.reduceMul, Int.reduceNeg, Int.reduceEq, Int.reduceLT, Int.reduceLE]; with_reducible rfl) ?_
        | ((with_reducible refine chk_r ?_); refine r_callF (by simp only [CA, Nat.reduceEqDiff, ↓reduceIte]; rfl) (by exact rfl) (by simp only [CA, Nat.reduceEqDiff, ↓reduceIte]; rfl) rfl ?_)
        | ((with_reducible refine chk_h ?_); refine hr_callF (by simp only [CA, Nat.reduceEqDiff, ↓reduceIte]; rfl) (by exact rfl) (by simp only [CA, Nat.reduceEqDiff, ↓reduceIte]; rfl) rfl ?_)
        | ((with_reducible refine chk_r ?_); refine r_callP (by simp only [CA, Nat.reduceEqDiff, ↓reduceIte]; rfl) (by simp only [CA, Nat.reduceEqDiff, ↓reduceIte]; rfl) (by first | exact q57 _) rfl ?_)
        | ((with_reducible refine chk_h ?_); refine hr_callP (by simp only [CA, Nat.reduceEqDiff, ↓reduceIte]; rfl) (by simp only [CA, Nat.reduceEqDiff, ↓reduceIte]; rfl) (by first | exact q57 _) rfl ?_)
        | ((with_reducible refine chk_h ?_); refine hr_callP1 (by simp only [CA, Nat.reduceEqDiff, ↓reduceIte]; rfl) (by simp only [CA, Nat.reduceEqDiff, ↓reduceIte]; rfl) (by simp (disch := omega) only [CA, Nat.reduceEqDiff, ↓reduceIte, firstTok_nil, firstTok_sl, firstTok_sl0, firstTok_i, firstTok_b, firstTok_ag, firstTok_p, firstTok_s]; rfl) (by first | exact q57 _) rfl ?_)
        | ((with_reducible refine chk_r ?_); refine r_callG (by simp only [CA, Nat.reduceEqDiff, ↓reduceIte]; rfl) (by simp only [CA, Nat.reduceEqDiff, ↓reduceIte]; rfl) (by simp only [CA, Nat.reduceEqDiff, ↓reduceIte]; rfl) (by intro hg; (try simp only [BO] at hg); first | exact q57 _) rfl ?_)
        | ((with_reducible refine chk_h ?_); refine hr_callG (by simp only [CA, Nat.reduceEqDiff, ↓reduceIte]; rfl) (by simp only [CA, Nat.reduceEqDiff, ↓reduceIte]; rfl) (by simp only [CA, Nat.reduceEqDiff, ↓reduceIte]; rfl) (by intro hg; (try simp only [BO] at hg); first | exact q57 _) rfl ?_)
        | ((with_reducible refine chk_h ?_); refine hr_app (by simp (disch := omega) only [hlt', hmy, row_m hmy, read_row (row_m hmy), gs, rA, rB, sl, c76r0, c76r1, c76r2, c76r3, c76r4, c76r5, c76r6, c76r7, c76r8, c76r10, EV0, EV1, EV2, EV3, EV4, EV5, EV6, EV7, EV8, VALS, plug, ite_same, decide_true, decide_false, eq_self, ↓reduceIte, reduceCtorEq, Nat.reduceAdd, Nat.reduceEqDiff, Nat.reduceLT, Nat.reduceLeDiff, Nat.reduceMul, Nat.reduceSub, Nat.reduceDiv, Int.reduceToNat, Int.reduceAdd, Int.reduceSub, Int.reduceMul, Int.reduceNeg, Int.reduceEq, Int.reduceLT, Int.reduceLE]; with_reducible rfl) rfl ?_)
        | (with_reducible refine k_condP (by simp only [GA, Nat.reduceEqDiff, ↓reduceIte]; rfl) (by first | (simp only [BO]; rfl) | rfl) (fun ht => ?_) (fun ht => ?_) <;> try (first | exact False.elim ht | exact absurd rfl ht | exact absurd trivial ht | exact Bool.noConfusion ht))
        | (with_reducible refine k_ret ?_; repeat with_reducible (first | refine ret_thru ?_ | refine ret_blk ?_ | refine fin ?_))
        | (with_reducible refine k_exit ?_; repeat with_reducible (first | refine thru ?_ | refine out_blk ?_ | refine pass (by decide) ?_))
        | (refine post1 ?_; simp only [GA, Nat.reduceEqDiff, ↓reduceIte])
        | (refine post2 ?_; simp only [GA, Nat.reduceEqDiff, ↓reduceIte])
        | (refine post3 ?_; simp only [GA, Nat.reduceEqDiff, ↓reduceIte])
        | (refine postc (by simp only [GA, Nat.reduceEqDiff, ↓reduceIte]; rfl) (by simp (disch := omega) only [hlt', hmy, row_m hmy, read_row (row_m hmy), gs, rA, rB, sl, c76r0, c76r1, c76r2, c76r3, c76r4, c76r5, c76r6, c76r7, c76r8, c76r10, EV0, EV1, EV2, EV3, EV4, EV5, EV6, EV7, EV8, VALS, plug, ite_same, decide_true, decide_false, eq_self, ↓reduceIte, reduceCtorEq, Nat.reduceAdd, Nat.reduceEqDiff, Nat.reduceLT, Nat.reduceLeDiff, Nat.reduceMul, Nat.reduceSub, Nat.reduceDiv, Int.reduceToNat, Int.reduceAdd, Int.reduceSub, Int.reduceMul, Int.reduceNeg, Int.reduceEq, Int.reduceLT, Int.reduceLE]; rfl) ?_)
        | refine post0 ?_
      exact ⟨hlt, S1, (by simp only [Am.keep, List.map_cons, List.map_nil, GA, Nat.reduceEqDiff, ↓reduceIte]; try rfl), g.skip (.inl hs), by simp (disch := omega) only [hm, c76r0, c76r1, c76r2, c76r3, c76r4, c76r5, c76r6, c76r7, c76r8, c76r10, EV0, EV1, EV2, EV3, EV4, EV5, EV6, EV7, EV8, VALS, plug, ite_same, decide_true, decide_false, eq_self, ↓reduceIte, reduceCtorEq, Nat.reduceAdd, Nat.reduceEqDiff, Nat.reduceLT, Nat.reduceLeDiff, Nat.reduceMul, Nat.reduceSub, Nat.reduceDiv, Int.reduceToNat, Int.reduceAdd, Int.reduceSub, Int.reduceMul, Int.reduceNeg, Int.reduceEq, Int.reduceLT, Int.reduceLE], by simp (disch := omega) only [hmy, c76r0, c76r1, c76r2, c76r3, c76r4, c76r5, c76r6, c76r7, c76r8, c76r10, EV0, EV1, EV2, EV3, EV4, EV5, EV6, EV7, EV8, VALS, plug, ite_same, decide_true, decide_false, eq_self, ↓reduceIte, reduceCtorEq, Nat.reduceAdd, Nat.reduceEqDiff, Nat.reduceLT, Nat.reduceLeDiff, Nat.reduceMul, Nat.reduceSub, Nat.reduceDiv, Int.reduceToNat, Int.reduceAdd, Int.reduceSub, Int.reduceMul, Int.reduceNeg, Int.reduceEq, Int.reduceLT, Int.reduceLE]⟩
    | false =>
      rw [hs] at gs
      rw [← ee] at q57
      cases he : ed l tol i k with
      | false =>
        rw [he] at q57
        repeat' first
          | with_reducible refine k_seq ?_
          | with_reducible refine k_skip ?_
          | with_reducible refine k_blkS ?_
          | with_reducible refine k_blkR ?_
          | with_reducible refine k_blkC ?_
          | with_reducible refine k_blkH ?_
          | with_reducible refine k_blkB ?_
          | with_reducible refine k_blkK ?_
          | with_reducible refine k_blkE ?_
          | with_reducible refine k_reg ?_
          | with_reducible refine k_head (by with_unfolding_all rfl) ?_
          | with_reducible refine k_headS ?_
          | (with_reducible refine SepK.mk ?_ ?_; (refine sepQ_P ?_; simp [sepQ, sepG, AOp.late, AOp.free, AOp.xs, AOp.isAl, tokNe, AV.tok, stS_get, strip, AX.val, c76r0, c76r1, c76r2, c76r3, c76r4, c76r5, c76r6, c76r7, c76r8, c76r10, GA]; try omega))
          | with_reducible refine r_done ?_
          | with_reducible refine hr_done ?_
          | with_reducible refine s_go (by simp (disch := omega) only [hlt', hmy, row_m hmy, read_row (row_m hmy), gs, rA, rB, sl, c76r0, c76r1, c76r2, c76r3, c76r4, c76r5, c76r6, c76r7, c76r8, c76r10, EV0, EV1, EV2, EV3, EV4, EV5, EV6, EV7, EV8, VALS, plug, ite_same, decide_true, decide_false, eq_self, ↓reduceIte, reduceCtorEq, Nat.reduceAdd, Nat.reduceEqDiff, Nat.reduceLT, Nat.reduceLeDiff, Nat.reduceMul, Nat.reduceSub, Nat.reduceDiv, Int.reduceToNat, Int.reduceAdd, Int.reduceSub, Int.reduceMul, Int.reduceNeg, Int.reduceEq, Int.reduceLT, Int.reduceLE]; with_reducible rfl) ?_
          | with_reducible refine h_go (by with_unfolding_all rfl) (by simp (disch := omega) only [hlt', hmy, row_m hmy, read_row (row_m hmy), gs, rA, rB, sl, c76r0, c76r1, c76r2, c76r3, c76r4, c76r5, c76r6, c76r7, c76r8, c76r10, EV0, EV1, EV2, EV3, EV4, EV5, EV6, EV7, EV8, VALS, plug, ite_same, decide_true, decide_false, eq_self, ↓reduceIte, reduceCtorEq, Nat.reduceAdd, Nat.reduceEqDiff, Nat.reduceLT, Nat.reduceLeDiff, Nat.reduceMul, Nat.reduceSub, Nat.reduceDiv, Int.reduceToNat, Int.reduceAdd, Int.reduceSub, Int.reduceMul, Int.reduceNeg, Int.reduceEq, Int.reduceLT, Int.reduceLE]; with_reducible rfl) ?_
          | ((with_reducible refine chk_r ?_); refine r_callF (by simp only [CA, Nat.reduceEqDiff, ↓reduceIte]; rfl) (by exact rfl) (by simp only [CA, Nat.reduceEqDiff, ↓reduceIte]; rfl) rfl ?_)
          | ((with_reducible refine chk_h ?_); refine hr_callF (by simp only [CA, Nat.reduceEqDiff, ↓reduceIte]; rfl) (by exact rfl) (by simp only [CA, Nat.reduceEqDiff, ↓reduceIte]; rfl) rfl ?_)
          | ((with_reducible refine chk_r ?_); refine r_callP (by simp only [CA, Nat.reduceEqDiff, ↓reduceIte]; rfl) (by simp only [CA, Nat.reduceEqDiff, ↓reduceIte]; rfl) (by first | exact q57 _) rfl ?_)
          | ((with_reducible refine chk_h ?_); refine hr_callP (by simp only [CA, Nat.reduceEqDiff, ↓reduceIte]; rfl) (by simp only [CA, Nat.reduceEqDiff, ↓reduceIte]; rfl) (by first | exact q57 _) rfl ?_)
          | ((with_reducible refine chk_h ?_); refine hr_callP1 (by simp only [CA, Nat.reduceEqDiff, ↓reduceIte]; rfl) (by simp only [CA, Nat.reduceEqDiff, ↓reduceIte]; rfl) (by simp (disch := omega) only [CA, Nat.reduceEqDiff, ↓reduceIte, firstTok_nil, firstTok_sl, firstTok_sl0, firstTok_i, firstTok_b, firstTok_ag, firstTok_p, firstTok_s]; rfl) (by first | exact q57 _) rfl ?_)
          | ((with_reducible refine chk_r ?_); refine r_callG (by simp only [CA, Nat.reduceEqDiff, ↓reduceIte]; rfl) (by simp only [CA, Nat.reduceEqDiff, ↓reduceIte]; rfl) (by simp only [CA, Nat.reduceEqDiff, ↓reduceIte]; rfl) (by intro hg; (try simp only [BO] at hg); first | exact q57 _) rfl ?_)
          | ((with_reducible refine chk_h ?_); refine hr_callG (by simp only [CA, Nat.reduceEqDiff, ↓reduceIte]; rfl) (by simp only [CA, Nat.reduceEqDiff, ↓reduceIte]; rfl) (by simp only [CA, Nat.reduceEqDiff, ↓reduceIte]; rfl) (by intro hg; (try simp only [BO] at hg); first | exact q57 _) rfl ?_)
          | ((with_reducible refine chk_h ?_); refine hr_app (by simp (disch := omega) only [hlt', hmy, row_m hmy, read_row (row_m hmy), gs, rA, rB, sl, c76r0, c76r1, c76r2, c76r3, c76r4, c76r5, c76r6, c76r7, c76r8, c76r10, EV0, EV1, EV2, EV3, EV4, EV5, EV6, EV7, EV8, VALS, plug, ite_same, decide_true, decide_false, eq_self, ↓reduceIte, reduceCtorEq, Nat.reduceAdd, Nat.reduceEqDiff, Nat.reduceLT, Nat.reduceLeDiff, Nat.reduceMul, Nat.reduceSub, Nat.reduceDiv, Int.reduceToNat, Int.reduceAdd, Int.reduceSub, Int.reduceMul, Int.reduceNeg, Int.reduceEq, Int.reduceLT, Int.reduceLE]; with_reducible rfl) rfl ?_)
          | (with_reducible refine k_condP (by simp only [GA, Nat.reduceEqDiff, ↓reduceIte]; rfl) (by first | (simp only [BO]; rfl) | rfl) (fun ht => ?_) (fun ht => ?_) <;> try (first | exact False.elim ht | exact absurd rfl ht | exact absurd trivial ht | exact Bool.noConfusion ht))
          | (with_reducible refine k_ret ?_; repeat with_reducible (first | refine ret_thru ?_ | refine ret_blk ?_ | refine fin ?_))
          | (with_reducible refine k_exit ?_; repeat with_reducible (first | refine thru ?_ | refine out_blk ?_ | refine pass (by decide) ?_))
          | (refine post1 ?_; simp only [GA, Nat.reduceEqDiff, ↓reduceIte])
          | (refine post2 ?_; simp only [GA, Nat.reduceEqDiff, ↓reduceIte])
          | (refine post3 ?_; simp only [GA, Nat.reduceEqDiff, ↓reduceIte])
          | (refine postc (by simp only [GA, Nat.reduceEqDiff, ↓reduceIte]; rfl) (by simp (disch := omega) only [hlt', hmy, row_m hmy, read_row (row_m hmy), gs, rA, rB, sl, c76r0, c76r1, c76r2, c76r3, c76r4, c76r5, c76r6, c76r7, c76r8, c76r10, EV0, EV1, EV2, EV3, EV4, EV5, EV6, EV7, EV8, VALS, plug, ite_same, decide_true, decide_false, eq_self, ↓reduceIte, reduceCtorEq, Nat.reduceAdd, Nat.reduceEqDiff, Nat.reduceLT, Nat.reduceLeDiff, Nat.reduceMul, Nat.reduceSub, Nat.reduceDiv, Int.reduceToNat, Int.reduceAdd, Int.reduceSub, Int.reduceMul, Int.reduceNeg, Int.reduceEq, Int.reduceLT, Int.reduceLE]; rfl) ?_)
          | refine post0 ?_
        exact ⟨hlt, S1, (by simp only [Am.keep, List.map_cons, List.map_nil, GA, Nat.reduceEqDiff, ↓reduceIte]; try rfl), g.skip (.inr (by simp [he])), by simp (disch := omega) only [hm, c76r0, c76r1, c76r2, c76r3, c76r4, c76r5, c76r6, c76r7, c76r8, c76r10, EV0, EV1, EV2, EV3, EV4, EV5, EV6, EV7, EV8, VALS, plug, ite_same, decide_true, decide_false, eq_self, ↓reduceIte, reduceCtorEq, Nat.reduceAdd, Nat.reduceEqDiff, Nat.reduceLT, Nat.reduceLeDiff, Nat.reduceMul, Nat.reduceSub, Nat.reduceDiv, Int.reduceToNat, Int.reduceAdd, Int.reduceSub, Int.reduceMul, Int.reduceNeg, Int.reduceEq, Int.reduceLT, Int.reduceLE], by simp (disch := omega) only [hmy, c76r0, c76r1, c76r2, c76r3, c76r4, c76r5, c76r6, c76r7, c76r8, c76r10, EV0, EV1, EV2, EV3, EV4, EV5, EV6, EV7, EV8, VALS, plug, ite_same, decide_true, decide_false, eq_self, ↓reduceIte, reduceCtorEq, Nat.reduceAdd, Nat.reduceEqDiff, Nat.reduceLT, Nat.reduceLeDiff, Nat.reduceMul, Nat.reduceSub, Nat.reduceDiv, Int.reduceToNat, Int.reduceAdd, Int.reduceSub, Int.reduceMul, Int.reduceNeg, Int.reduceEq, Int.reduceLT, Int.reduceLE]⟩
      | true =>
        rw [he] at q57
        by_cases hj : pf P k < 0
        · repeat' first
            | with_reducible refine k_seq ?_
            | with_reducible refine k_skip ?_
            | with_reducible refine k_blkS ?_
            | with_reducible refine k_blkR ?_
            | with_reducible refine k_blkC ?_
            | with_reducible refine k_blkH ?_
            | with_reducible refine k_blkB ?_
            | with_reducible refine k_blkK ?_
            | with_reducible refine k_blkE ?_
            | with_reducible refine k_reg ?_
            | with_reducible refine k_head (by with_unfolding_all rfl) ?_
            | with_reducible refine k_headS ?_
            | (with_reducible refine SepK.mk ?_ ?_; (refine sepQ_P ?_; simp [sepQ, sepG, AOp.late, AOp.free, AOp.xs, AOp.isAl, tokNe, AV.tok, stS_get, strip, AX.val, c76r0, c76r1, c76r2, c76r3, c76r4, c76r5, c76r6, c76r7, c76r8, c76r10, GA]; try omega))
            | with_reducible refine r_done ?_
            | with_reducible refine hr_done ?_
            | with_reducible refine s_go (by simp (disch := omega) only [hlt', hm, row_m hm, read_row (row_m hm), hmy, row_m hmy, read_row (row_m hmy), gs, gp, rA, rB, sl, pl, hj, c76r0, c76r1, c76r2, c76r3, c76r4, c76r5, c76r6, c76r7, c76r8, c76r10, EV0, EV1, EV2, EV3, EV4, EV5, EV6, EV7, EV8, VALS, plug, ite_same, decide_true, decide_false, eq_self, ↓reduceIte, reduceCtorEq, Nat.reduceAdd, Nat.reduceEqDiff, Nat.reduceLT, Nat.reduceLeDiff, Nat.reduceMul, Nat.reduceSub, Nat.reduceDiv, Int.reduceToNat, Int.reduceAdd, Int.reduceSub, Int.reduceMul, Int.reduceNeg, Int.reduceEq, Int.reduceLT, Int.reduceLE]; with_reducible rfl) ?_
            | with_reducible refine h_go (by with_unfolding_all rfl) (by simp (disch := omega) only [hlt', hm, row_m hm, read_row (row_m hm), hmy, row_m hmy, read_row (row_m hmy), gs, gp, rA, rB, sl, pl, hj, c76r0, c76r1, c76r2, c76r3, c76r4, c76r5, c76r6, c76r7, c76r8, c76r10, EV0, EV1, EV2, EV3, EV4, EV5, EV6, EV7, EV8, VALS, plug, ite_same, decide_true, decide_false, eq_self, ↓reduceIte, reduceCtorEq, Nat.reduceAdd, Nat.reduceEqDiff, Nat.reduceLT, Nat.reduceLeDiff, Nat.reduceMul, Nat.reduceSub, Nat.reduceDiv, Int.reduceToNat, Int.reduceAdd, Int.reduceSub, Int.reduceMul, Int.reduceNeg, Int.reduceEq, Int.reduceLT, Int.reduceLE]; with_reducible rfl) ?_
            | ((with_reducible refine chk_r ?_); refine r_callF (by simp only [CA, Nat.reduceEqDiff, ↓reduceIte]; rfl) (by exact rfl) (by simp only [CA, Nat.reduceEqDiff, ↓reduceIte]; rfl) rfl ?_)
            | ((with_reducible refine chk_h ?_); refine hr_callF (by simp only [CA, Nat.reduceEqDiff, ↓reduceIte]; rfl) (by exact rfl) (by simp only [CA, Nat.reduceEqDiff, ↓reduceIte]; rfl) rfl ?_)
            | ((with_reducible refine chk_r ?_); refine r_callP (by simp only [CA, Nat.reduceEqDiff, ↓reduceIte]; rfl) (by simp only [CA, Nat.reduceEqDiff, ↓reduceIte]; rfl) (by first | exact q57 _) rfl ?_)
            | ((with_reducible refine chk_h ?_); refine hr_callP (by simp only [CA, Nat.reduceEqDiff, ↓reduceIte]; rfl) (by simp only [CA, Nat.reduceEqDiff, ↓reduceIte]; rfl) (by first | exact q57 _) rfl ?_)
            | ((with_reducible refine chk_h ?_); refine hr_callP1 (by simp only [CA, Nat.reduceEqDiff, ↓reduceIte]; rfl) (by simp only [CA, Nat.reduceEqDiff, ↓reduceIte]; rfl) (by simp (disch := omega) only [CA, Nat.reduceEqDiff, ↓reduceIte, firstTok_nil, firstTok_sl, firstTok_sl0, firstTok_i, firstTok_b, firstTok_ag, firstTok_p, firstTok_s]; rfl) (by first | exact q57 _) rfl ?_)
            | ((with_reducible refine chk_r ?_); refine r_callG (by simp only [CA, Nat.reduceEqDiff, ↓reduceIte]; rfl) (by simp only [CA, Nat.reduceEqDiff, ↓reduceIte]; rfl) (by simp only [CA, Nat.reduceEqDiff, ↓reduceIte]; rfl) (by intro hg; (try simp only [BO] at hg); first | exact q57 _) rfl ?_)
            | ((with_reducible refine chk_h ?_); refine hr_callG (by simp only [CA, Nat.reduceEqDiff, ↓reduceIte]; rfl) (by simp only [CA, Nat.reduceEqDiff, ↓reduceIte]; rfl) (by simp only [CA, Nat.reduceEqDiff, ↓reduceIte]; rfl) (by intro hg; (try simp only [BO] at hg); first | exact q57 _) rfl ?_)
            | ((with_reducible refine chk_h ?_); refine hr_app (by simp (disch := omega) only [hlt', hm, row_m hm, read_row (row_m hm), hmy, row_m hmy, read_row (row_m hmy), gs, gp, rA, rB, sl, pl, hj, c76r0, c76r1, c76r2, c76r3, c76r4, c76r5, c76r6, c76r7, c76r8, c76r10, EV0, EV1, EV2, EV3, EV4, EV5, EV6, EV7, EV8, VALS, plug, ite_same, decide_true, decide_false, eq_self, ↓reduceIte, reduceCtorEq, Nat.reduceAdd, Nat.reduceEqDiff, Nat.reduceLT, Nat.reduceLeDiff, Nat.reduceMul, Nat.reduceSub, Nat.reduceDiv, Int.reduceToNat, Int.reduceAdd, Int.reduceSub, Int.reduceMul, Int.reduceNeg, Int.reduceEq, Int.reduceLT, Int.reduceLE]; with_reducible rfl) rfl ?_)
            | (with_reducible refine k_condP (by simp only [GA, Nat.reduceEqDiff, ↓reduceIte]; rfl) (by first | (simp only [BO]; rfl) | rfl) (fun ht => ?_) (fun ht => ?_) <;> try (first | exact False.elim ht | exact absurd rfl ht | exact absurd trivial ht | exact Bool.noConfusion ht))
            | (with_reducible refine k_ret ?_; repeat with_reducible (first | refine ret_thru ?_ | refine ret_blk ?_ | refine fin ?_))
            | (with_reducible refine k_exit ?_; repeat with_reducible (first | refine thru ?_ | refine out_blk ?_ | refine pass (by decide) ?_))
            | (refine post1 ?_; simp only [GA, Nat.reduceEqDiff, ↓reduceIte])
            | (refine post2 ?_; simp only [GA, Nat.reduceEqDiff, ↓reduceIte])
            | (refine post3 ?_; simp only [GA, Nat.reduceEqDiff, ↓reduceIte])
            | (refine postc (by simp only [GA, Nat.reduceEqDiff, ↓reduceIte]; rfl) (by simp (disch := omega) only [hlt', hm, row_m hm, read_row (row_m hm), hmy, row_m hmy, read_row (row_m hmy), gs, gp, rA, rB, sl, pl, hj, c76r0, c76r1, c76r2, c76r3, c76r4, c76r5, c76r6, c76r7, c76r8, c76r10, EV0, EV1, EV2, EV3, EV4, EV5, EV6, EV7, EV8, VALS, plug, ite_same, decide_true, decide_false, eq_self, ↓reduceIte, reduceCtorEq, Nat.reduceAdd, Nat.reduceEqDiff, Nat.reduceLT, Nat.reduceLeDiff, Nat.reduceMul, Nat.reduceSub, Nat.reduceDiv, Int.reduceToNat, Int.reduceAdd, Int.reduceSub, Int.reduceMul, Int.reduceNeg, Int.reduceEq, Int.reduceLT, Int.reduceLE]; rfl) ?_)
            | refine post0 ?_
          exact ⟨true, P.set k i, S1.set k true, rfl, .free hp g hlt hs he hj, by simp (disch := omega) only [hm, c76r0, c76r1, c76r2, c76r3, c76r4, c76r5, c76r6, c76r7, c76r8, c76r10, EV0, EV1, EV2, EV3, EV4, EV5, EV6, EV7, EV8, VALS, plug, ite_same, decide_true, decide_false, eq_self, ↓reduceIte, reduceCtorEq, Nat.reduceAdd, Nat.reduceEqDiff, Nat.reduceLT, Nat.reduceLeDiff, Nat.reduceMul, Nat.reduceSub, Nat.reduceDiv, Int.reduceToNat, Int.reduceAdd, Int.reduceSub, Int.reduceMul, Int.reduceNeg, Int.reduceEq, Int.reduceLT, Int.reduceLE] <;> rfl, by simp (disch := omega) only [hmy, c76r0, c76r1, c76r2, c76r3, c76r4, c76r5, c76r6, c76r7, c76r8, c76r10, EV0, EV1, EV2, EV3, EV4, EV5, EV6, EV7, EV8, VALS, plug, ite_same, decide_true, decide_false, eq_self, ↓reduceIte, reduceCtorEq, Nat.reduceAdd, Nat.reduceEqDiff, Nat.reduceLT, Nat.reduceLeDiff, Nat.reduceMul, Nat.reduceSub, Nat.reduceDiv, Int.reduceToNat, Int.reduceAdd, Int.reduceSub, Int.reduceMul, Int.reduceNeg, Int.reduceEq, Int.reduceLT, Int.reduceLE] <;> rfl⟩
        · obtain ⟨j, hj'⟩ : ∃ j : Nat, pf P k = j := ⟨(pf P k).toNat, by omega⟩
          rw [hj'] at gp hj
          have nx := hp.next g hlt hs hj'
          have lt : uns (S1.set k true) < n := by
            have a := uns_set (S := S1) (k := k) (by omega) hs
            have b := uns_le (S := S) (S' := S1) (by rw [hp.sl, g.sl]) g.le
            omega
          have ih' := fun h => ih _ lt (upd Q k (-1)) P (S1.set k true) j x y h rfl nx hx hy hyx
          repeat' first
            | with_reducible refine k_seq ?_
            | with_reducible refine k_skip ?_
            | with_reducible refine k_blkS ?_
            | with_reducible refine k_blkR ?_
            | with_reducible refine k_blkC ?_
            | with_reducible refine k_blkH ?_
            | with_reducible refine k_blkB ?_
            | with_reducible refine k_blkK ?_
            | with_reducible refine k_blkE ?_
            | with_reducible refine k_reg ?_
            | with_reducible refine k_head (by with_unfolding_all rfl) ?_
            | with_reducible refine k_headS ?_
            | (with_reducible refine SepK.mk ?_ ?_; (refine sepQ_P ?_; simp [sepQ, sepG, AOp.late, AOp.free, AOp.xs, AOp.isAl, tokNe, AV.tok, stS_get, strip, AX.val, c76r0, c76r1, c76r2, c76r3, c76r4, c76r5, c76r6, c76r7, c76r8, c76r10, GA]; try omega))
            | with_reducible refine r_done ?_
            | with_reducible refine hr_done ?_
            | with_reducible refine s_go (by simp (disch := omega) only [hlt', hm, row_m hm, read_row (row_m hm), hmy, row_m hmy, read_row (row_m hmy), gs, gp, rA, rB, sl, pl, hj, c76r0, c76r1, c76r2, c76r3, c76r4, c76r5, c76r6, c76r7, c76r8, c76r10, EV0, EV1, EV2, EV3, EV4, EV5, EV6, EV7, EV8, VALS, plug, ite_same, decide_true, decide_false, eq_self, ↓reduceIte, reduceCtorEq, Nat.reduceAdd, Nat.reduceEqDiff, Nat.reduceLT, Nat.reduceLeDiff, Nat.reduceMul, Nat.reduceSub, Nat.reduceDiv, Int.reduceToNat, Int.reduceAdd, Int.reduceSub, Int.reduceMul, Int.reduceNeg, Int.reduceEq, Int.reduceLT, Int.reduceLE]; with_reducible rfl) ?_
            | with_reducible refine h_go (by with_unfolding_all rfl) (by simp (disch := omega) only [hlt', hm, row_m hm, read_row (row_m hm), hmy, row_m hmy, read_row (row_m hmy), gs, gp, rA, rB, sl, pl, hj, c76r0, c76r1, c76r2, c76r3, c76r4, c76r5, c76r6, c76r7, c76r8, c76r10, EV0, EV1, EV2, EV3, EV4, EV5, EV6, EV7, EV8, VALS, plug, ite_same, decide_true, decide_false, eq_self, ↓reduceIte, reduceCtorEq, Nat.reduceAdd, Nat.reduceEqDiff, Nat.reduceLT, Nat.reduceLeDiff, Nat.reduceMul, Nat.reduceSub, Nat.reduceDiv, Int.reduceToNat, Int.reduceAdd, Int.reduceSub, Int.reduceMul, Int.reduceNeg, Int.reduceEq, Int.reduceLT, Int.reduceLE]; with_reducible rfl) ?_
            | ((with_reducible refine chk_r ?_); refine r_callF (by simp only [CA, Nat.reduceEqDiff, ↓reduceIte]; rfl) (by exact rfl) (by simp only [CA, Nat.reduceEqDiff, ↓reduceIte]; rfl) rfl ?_)
            | ((with_reducible refine chk_h ?_); refine hr_callF (by simp only [CA, Nat.reduceEqDiff, ↓reduceIte]; rfl) (by exact rfl) (by simp only [CA, Nat.reduceEqDiff, ↓reduceIte]; rfl) rfl ?_)
            | ((with_reducible refine chk_r ?_); refine r_callP (by simp only [CA, Nat.reduceEqDiff, ↓reduceIte]; rfl) (by simp only [CA, Nat.reduceEqDiff, ↓reduceIte]; rfl) (by first | exact q57 _) rfl ?_)
            | ((with_reducible refine chk_h ?_); refine hr_callP (by simp only [CA, Nat.reduceEqDiff, ↓reduceIte]; rfl) (by simp only [CA, Nat.reduceEqDiff, ↓reduceIte]; rfl) (by first | exact q57 _) rfl ?_)
            | ((with_reducible refine chk_h ?_); refine hr_callP1 (by simp only [CA, Nat.reduceEqDiff, ↓reduceIte]; rfl) (by simp only [CA, Nat.reduceEqDiff, ↓reduceIte]; rfl) (by simp (disch := omega) only [CA, Nat.reduceEqDiff, ↓reduceIte, firstTok_nil, firstTok_sl, firstTok_sl0, firstTok_i, firstTok_b, firstTok_ag, firstTok_p, firstTok_s]; rfl) (by first | exact q57 _) rfl ?_)
            | ((with_reducible refine chk_r ?_); refine r_callG (by simp only [CA, Nat.reduceEqDiff, ↓reduceIte]; rfl) (by simp only [CA, Nat.reduceEqDiff, ↓reduceIte]; rfl) (by simp only [CA, Nat.reduceEqDiff, ↓reduceIte]; rfl) (by intro hg; (try simp only [BO] at hg); first | exact q57 _) rfl ?_)
            | ((with_reducible refine chk_h ?_); refine hr_callG (by simp only [CA, Nat.reduceEqDiff, ↓reduceIte]; rfl) (by simp only [CA, Nat.reduceEqDiff, ↓reduceIte]; rfl) (by simp only [CA, Nat.reduceEqDiff, ↓reduceIte]; rfl) (by intro hg; (try simp only [BO] at hg); first | exact q57 _) rfl ?_)
            | ((with_reducible refine chk_h ?_); refine hr_app (by simp (disch := omega) only [hlt', hm, row_m hm, read_row (row_m hm), hmy, row_m hmy, read_row (row_m hmy), gs, gp, rA, rB, sl, pl, hj, c76r0, c76r1, c76r2, c76r3, c76r4, c76r5, c76r6, c76r7, c76r8, c76r10, EV0, EV1, EV2, EV3, EV4, EV5, EV6, EV7, EV8, VALS, plug, ite_same, decide_true, decide_false, eq_self, ↓reduceIte, reduceCtorEq, Nat.reduceAdd, Nat.reduceEqDiff, Nat.reduceLT, Nat.reduceLeDiff, Nat.reduceMul, Nat.reduceSub, Nat.reduceDiv, Int.reduceToNat, Int.reduceAdd, Int.reduceSub, Int.reduceMul, Int.reduceNeg, Int.reduceEq, Int.reduceLT, Int.reduceLE]; with_reducible rfl) rfl ?_)
            | ((with_reducible refine chk_r ?_); refine r_callX (by simp only [CA, Nat.reduceEqDiff, ↓reduceIte]; rfl) (by simp only [CA, Nat.reduceEqDiff, ↓reduceIte]; rfl) (by first | exact ih' _ (by simp (disch := omega) only [hm, c76r0, c76r1, c76r2, c76r3, c76r4, c76r5, c76r6, c76r7, c76r8, c76r10, EV0, EV1, EV2, EV3, EV4, EV5, EV6, EV7, EV8, VALS, plug, ite_same, decide_true, decide_false, eq_self, ↓reduceIte, reduceCtorEq, Nat.reduceAdd, Nat.reduceEqDiff, Nat.reduceLT, Nat.reduceLeDiff, Nat.reduceMul, Nat.reduceSub, Nat.reduceDiv, Int.reduceToNat, Int.reduceAdd, Int.reduceSub, Int.reduceMul, Int.reduceNeg, Int.reduceEq, Int.reduceLT, Int.reduceLE] <;> rfl) (by simp (disch := omega) only [hmy, c76r0, c76r1, c76r2, c76r3, c76r4, c76r5, c76r6, c76r7, c76r8, c76r10, EV0, EV1, EV2, EV3, EV4, EV5, EV6, EV7, EV8, VALS, plug, ite_same, decide_true, decide_false, eq_self, ↓reduceIte, reduceCtorEq, Nat.reduceAdd, Nat.reduceEqDiff, Nat.reduceLT, Nat.reduceLeDiff, Nat.reduceMul, Nat.reduceSub, Nat.reduceDiv, Int.reduceToNat, Int.reduceAdd, Int.reduceSub, Int.reduceMul, Int.reduceNeg, Int.reduceEq, Int.reduceLT, Int.reduceLE] <;> rfl)) rfl ?_)
            | ((with_reducible refine chk_r ?_); refine r_callTX (by first | (simp only [CA, Nat.reduceEqDiff, ↓reduceIte]; rfl) | simp only [CA, Nat.reduceEqDiff, ↓reduceIte]) (by simp only [CA, Nat.reduceEqDiff, ↓reduceIte]; rfl) (by simp only [CA, Nat.reduceEqDiff, ↓reduceIte]; rfl) (by first | exact ih' _ (by simp (disch := omega) only [hm, c76r0, c76r1, c76r2, c76r3, c76r4, c76r5, c76r6, c76r7, c76r8, c76r10, EV0, EV1, EV2, EV3, EV4, EV5, EV6, EV7, EV8, VALS, plug, ite_same, decide_true, decide_false, eq_self, ↓reduceIte, reduceCtorEq, Nat.reduceAdd, Nat.reduceEqDiff, Nat.reduceLT, Nat.reduceLeDiff, Nat.reduceMul, Nat.reduceSub, Nat.reduceDiv, Int.reduceToNat, Int.reduceAdd, Int.reduceSub, Int.reduceMul, Int.reduceNeg, Int.reduceEq, Int.reduceLT, Int.reduceLE] <;> rfl) (by simp (disch := omega) only [hmy, c76r0, c76r1, c76r2, c76r3, c76r4, c76r5, c76r6, c76r7, c76r8, c76r10, EV0, EV1, EV2, EV3, EV4, EV5, EV6, EV7, EV8, VALS, plug, ite_same, decide_true, decide_false, eq_self, ↓reduceIte, reduceCtorEq, Nat.reduceAdd, Nat.reduceEqDiff, Nat.reduceLT, Nat.reduceLeDiff, Nat.reduceMul, Nat.reduceSub, Nat.reduceDiv, Int.reduceToNat, Int.reduceAdd, Int.reduceSub, Int.reduceMul, Int.reduceNeg, Int.reduceEq, Int.reduceLT, Int.reduceLE] <;> rfl)) rfl ?_)
            | (with_reducible refine k_condP (by simp only [GA, Nat.reduceEqDiff, ↓reduceIte]; rfl) (by first | (simp only [BO]; rfl) | rfl) (fun ht => ?_) (fun ht => ?_) <;> try (first | exact False.elim ht | exact absurd rfl ht | exact absurd trivial ht | exact Bool.noConfusion ht))
            | (with_reducible refine k_ret ?_; repeat with_reducible (first | refine ret_thru ?_ | refine ret_blk ?_ | refine fin ?_))
            | (with_reducible refine k_exit ?_; repeat with_reducible (first | refine thru ?_ | refine out_blk ?_ | refine pass (by decide) ?_))
            | (refine post1 ?_; simp only [GA, Nat.reduceEqDiff, ↓reduceIte])
            | (refine post2 ?_; simp only [GA, Nat.reduceEqDiff, ↓reduceIte])
            | (refine post3 ?_; simp only [GA, Nat.reduceEqDiff, ↓reduceIte])
            | (refine postc (by simp only [GA, Nat.reduceEqDiff, ↓reduceIte]; rfl) (by simp (disch := omega) only [hlt', hm, row_m hm, read_row (row_m hm), hmy, row_m hmy, read_row (row_m hmy), gs, gp, rA, rB, sl, pl, hj, c76r0, c76r1, c76r2, c76r3, c76r4, c76r5, c76r6, c76r7, c76r8, c76r10, EV0, EV1, EV2, EV3, EV4, EV5, EV6, EV7, EV8, VALS, plug, ite_same, decide_true, decide_false, eq_self, ↓reduceIte, reduceCtorEq, Nat.reduceAdd, Nat.reduceEqDiff, Nat.reduceLT, Nat.reduceLeDiff, Nat.reduceMul, Nat.reduceSub, Nat.reduceDiv, Int.reduceToNat, Int.reduceAdd, Int.reduceSub, Int.reduceMul, Int.reduceNeg, Int.reduceEq, Int.reduceLT, Int.reduceLE]; rfl) ?_)
            | refine post0 ?_
          rintro r h' ⟨b, P2, S2, rfl, f, h1, h2⟩
          have pl2 : P2.length = l.length := f.1
          cases b with
          | true =>
            repeat' first
              | with_reducible refine k_seq ?_
              | with_reducible refine k_skip ?_
              | with_reducible refine k_blkS ?_
              | with_reducible refine k_blkR ?_
              | with_reducible refine k_blkC ?_
              | with_reducible refine k_blkH ?_
              | with_reducible refine k_blkB ?_
              | with_reducible refine k_blkK ?_
              | with_reducible refine k_blkE ?_
              | with_reducible refine k_reg ?_
              | with_reducible refine k_head (by with_unfolding_all rfl) ?_
              | with_reducible refine k_headS ?_
              | (with_reducible refine SepK.mk ?_ ?_; (refine sepQ_P ?_; simp [sepQ, sepG, AOp.late, AOp.free, AOp.xs, AOp.isAl, tokNe, AV.tok, stS_get, strip, AX.val, c76r0, c76r1, c76r2, c76r3, c76r4, c76r5, c76r6, c76r7, c76r8, c76r10, GA]; try omega))
              | with_reducible refine r_done ?_
              | with_reducible refine hr_done ?_
              | with_reducible refine s_go (by simp (disch := omega) only [h1, row_m h1, read_row (row_m h1), pl2, c76r0, c76r1, c76r2, c76r3, c76r4, c76r5, c76r6, c76r7, c76r8, c76r10, EV0, EV1, EV2, EV3, EV4, EV5, EV6, EV7, EV8, VALS, plug, ite_same, decide_true, decide_false, eq_self, ↓reduceIte, reduceCtorEq, Nat.reduceAdd, Nat.reduceEqDiff, Nat.reduceLT, Nat.reduceLeDiff, Nat.reduceMul, Nat.reduceSub, Nat.reduceDiv, Int.reduceToNat, Int.reduceAdd, Int.reduceSub, Int.reduceMul, Int.reduceNeg, Int.reduceEq, Int.reduceLT, Int.reduceLE]; with_reducible rfl) ?_
              | with_reducible refine h_go (by with_unfolding_all rfl) (by simp (disch := omega) only [h1, row_m h1, read_row (row_m h1), pl2, c76r0, c76r1, c76r2, c76r3, c76r4, c76r5, c76r6, c76r7, c76r8, c76r10, EV0, EV1, EV2, EV3, EV4, EV5, EV6, EV7, EV8, VALS, plug, ite_same, decide_true, decide_false, eq_self, ↓reduceIte, reduceCtorEq, Nat.reduceAdd, Nat.reduceEqDiff, Nat.reduceLT, Nat.reduceLeDiff, Nat.reduceMul, Nat.reduceSub, Nat.reduceDiv, Int.reduceToNat, Int.reduceAdd, Int.reduceSub, Int.reduceMul, Int.reduceNeg, Int.reduceEq, Int.reduceLT, Int.reduceLE]; with_reducible rfl) ?_
              | ((with_reducible refine chk_r ?_); refine r_callF (by simp only [CA, Nat.reduceEqDiff, ↓reduceIte]; rfl) (by exact rfl) (by simp only [CA, Nat.reduceEqDiff, ↓reduceIte]; rfl) rfl ?_)
              | ((with_reducible refine chk_h ?_); refine hr_callF (by simp only [CA, Nat.reduceEqDiff, ↓reduceIte]; rfl) (by exact rfl) (by simp only [CA, Nat.reduceEqDiff, ↓reduceIte]; rfl) rfl ?_)
              | ((with_reducible refine chk_h ?_); refine hr_app (by simp (disch := omega) only [h1, row_m h1, read_row (row_m h1), pl2, c76r0, c76r1, c76r2, c76r3, c76r4, c76r5, c76r6, c76r7, c76r8, c76r10, EV0, EV1, EV2, EV3, EV4, EV5, EV6, EV7, EV8, VALS, plug, ite_same, decide_true, decide_false, eq_self, ↓reduceIte, reduceCtorEq, Nat.reduceAdd, Nat.reduceEqDiff, Nat.reduceLT, Nat.reduceLeDiff, Nat.reduceMul, Nat.reduceSub, Nat.reduceDiv, Int.reduceToNat, Int.reduceAdd, Int.reduceSub, Int.reduceMul, Int.reduceNeg, Int.reduceEq, Int.reduceLT, Int.reduceLE]; with_reducible rfl) rfl ?_)
              | (with_reducible refine k_condP (by simp only [GA, Nat.reduceEqDiff, ↓reduceIte]; rfl) (by first | (simp only [BO]; rfl) | rfl) (fun ht => ?_) (fun ht => ?_) <;> try (first | exact False.elim ht | exact absurd rfl ht | exact absurd trivial ht | exact Bool.noConfusion ht))
              | (with_reducible refine k_ret ?_; repeat with_reducible (first | refine ret_thru ?_ | refine ret_blk ?_ | refine fin ?_))
              | (with_reducible refine k_exit ?_; repeat with_reducible (first | refine thru ?_ | refine out_blk ?_ | refine pass (by decide) ?_))
              | (refine post1 ?_; simp only [GA, Nat.reduceEqDiff, ↓reduceIte])
              | (refine post2 ?_; simp only [GA, Nat.reduceEqDiff, ↓reduceIte])
              | (refine post3 ?_; simp only [GA, Nat.reduceEqDiff, ↓reduceIte])
              | (refine postc (by simp only [GA, Nat.reduceEqDiff, ↓reduceIte]; rfl) (by simp (disch := omega) only [h1, row_m h1, read_row (row_m h1), pl2, c76r0, c76r1, c76r2, c76r3, c76r4, c76r5, c76r6, c76r7, c76r8, c76r10, EV0, EV1, EV2, EV3, EV4, EV5, EV6, EV7, EV8, VALS, plug, ite_same, decide_true, decide_false, eq_self, ↓reduceIte, reduceCtorEq, Nat.reduceAdd, Nat.reduceEqDiff, Nat.reduceLT, Nat.reduceLeDiff, Nat.reduceMul, Nat.reduceSub, Nat.reduceDiv, Int.reduceToNat, Int.reduceAdd, Int.reduceSub, Int.reduceMul, Int.reduceNeg, Int.reduceEq, Int.reduceLT, Int.reduceLE]; rfl) ?_)
              | refine post0 ?_
            exact ⟨true, P2.set k i, S2, rfl, .yes hp g hlt hs he hj' f, by simp (disch := omega) only [h1, c76r0, c76r1, c76r2, c76r3, c76r4, c76r5, c76r6, c76r7, c76r8, c76r10, EV0, EV1, EV2, EV3, EV4, EV5, EV6, EV7, EV8, VALS, plug, ite_same, decide_true, decide_false, eq_self, ↓reduceIte, reduceCtorEq, Nat.reduceAdd, Nat.reduceEqDiff, Nat.reduceLT, Nat.reduceLeDiff, Nat.reduceMul, Nat.reduceSub, Nat.reduceDiv, Int.reduceToNat, Int.reduceAdd, Int.reduceSub, Int.reduceMul, Int.reduceNeg, Int.reduceEq, Int.reduceLT, Int.reduceLE] <;> rfl, by simp (disch := omega) only [h2, c76r0, c76r1, c76r2, c76r3, c76r4, c76r5, c76r6, c76r7, c76r8, c76r10, EV0, EV1, EV2, EV3, EV4, EV5, EV6, EV7, EV8, VALS, plug, ite_same, decide_true, decide_false, eq_self, ↓reduceIte, reduceCtorEq, Nat.reduceAdd, Nat.reduceEqDiff, Nat.reduceLT, Nat.reduceLeDiff, Nat.reduceMul, Nat.reduceSub, Nat.reduceDiv, Int.reduceToNat, Int.reduceAdd, Int.reduceSub, Int.reduceMul, Int.reduceNeg, Int.reduceEq, Int.reduceLT, Int.reduceLE]⟩
          | false =>
            obtain ⟨rfl, g2⟩ := g.no hp hlt hs hj' f
            repeat' first
              | with_reducible refine k_seq ?_
              | with_reducible refine k_skip ?_
              | with_reducible refine k_blkS ?_
              | with_reducible refine k_blkR ?_
              | with_reducible refine k_blkC ?_
              | with_reducible refine k_blkH ?_
              | with_reducible refine k_blkB ?_
              | with_reducible refine k_blkK ?_
              | with_reducible refine k_blkE ?_
              | with_reducible refine k_reg ?_
              | with_reducible refine k_head (by with_unfolding_all rfl) ?_
              | with_reducible refine k_headS ?_
              | (with_reducible refine SepK.mk ?_ ?_; (refine sepQ_P ?_; simp [sepQ, sepG, AOp.late, AOp.free, AOp.xs, AOp.isAl, tokNe, AV.tok, stS_get, strip, AX.val, c76r0, c76r1, c76r2, c76r3, c76r4, c76r5, c76r6, c76r7, c76r8, c76r10, GA]; try omega))
              | with_reducible refine r_done ?_
              | with_reducible refine hr_done ?_
              | with_reducible refine s_go (by simp (disch := omega) only [c76r0, c76r1, c76r2, c76r3, c76r4, c76r5, c76r6, c76r7, c76r8, c76r10, EV0, EV1, EV2, EV3, EV4, EV5, EV6, EV7, EV8, VALS, plug, ite_same, decide_true, decide_false, eq_self, ↓reduceIte, reduceCtorEq, Nat.reduceAdd, Nat.reduceEqDiff, Nat.reduceLT, Nat.reduceLeDiff, Nat.reduceMul, Nat.reduceSub, Nat.reduceDiv, Int.reduceToNat, Int.reduceAdd, Int.reduceSub, Int.reduceMul, Int.reduceNeg, Int.reduceEq, Int.reduceLT, Int.reduceLE]; with_reducible rfl) ?_
              | with_reducible refine h_go (by with_unfolding_all rfl) (by simp (disch := omega) only [c76r0, c76r1, c76r2, c76r3, c76r4, c76r5, c76r6, c76r7, c76r8, c76r10, EV0, EV1, EV2, EV3, EV4, EV5, EV6, EV7, EV8, VALS, plug, ite_same, decide_true, decide_false, eq_self, ↓reduceIte, reduceCtorEq, Nat.reduceAdd, Nat.reduceEqDiff, Nat.reduceLT, Nat.reduceLeDiff, Nat.reduceMul, Nat.reduceSub, Nat.reduceDiv, Int.reduceToNat, Int.reduceAdd, Int.reduceSub, Int.reduceMul, Int.reduceNeg, Int.reduceEq, Int.reduceLT, Int.reduceLE]; with_reducible rfl) ?_
              | ((with_reducible refine chk_r ?_); refine r_callF (by simp only [CA, Nat.reduceEqDiff, ↓reduceIte]; rfl) (by exact rfl) (by simp only [CA, Nat.reduceEqDiff, ↓reduceIte]; rfl) rfl ?_)
              | ((with_reducible refine chk_h ?_); refine hr_callF (by simp only [CA, Nat.reduceEqDiff, ↓reduceIte]; rfl) (by exact rfl) (by simp only [CA, Nat.reduceEqDiff, ↓reduceIte]; rfl) rfl ?_)
              | ((with_reducible refine chk_h ?_); refine hr_app (by simp (disch := omega) only [c76r0, c76r1, c76r2, c76r3, c76r4, c76r5, c76r6, c76r7, c76r8, c76r10, EV0, EV1, EV2, EV3, EV4, EV5, EV6, EV7, EV8, VALS, plug, ite_same, decide_true, decide_false, eq_self, ↓reduceIte, reduceCtorEq, Nat.reduceAdd, Nat.reduceEqDiff, Nat.reduceLT, Nat.reduceLeDiff, Nat.reduceMul, Nat.reduceSub, Nat.reduceDiv, Int.reduceToNat, Int.reduceAdd, Int.reduceSub, Int.reduceMul, Int.reduceNeg, Int.reduceEq, Int.reduceLT, Int.reduceLE]; with_reducible rfl) rfl ?_)
              | (with_reducible refine k_condP (by simp only [GA, Nat.reduceEqDiff, ↓reduceIte]; rfl) (by first | (simp only [BO]; rfl) | rfl) (fun ht => ?_) (fun ht => ?_) <;> try (first | exact False.elim ht | exact absurd rfl ht | exact absurd trivial ht | exact Bool.noConfusion ht))
              | (with_reducible refine k_ret ?_; repeat with_reducible (first | refine ret_thru ?_ | refine ret_blk ?_ | refine fin ?_))
              | (with_reducible refine k_exit ?_; repeat with_reducible (first | refine thru ?_ | refine out_blk ?_ | refine pass (by decide) ?_))
              | (refine post1 ?_; simp only [GA, Nat.reduceEqDiff, ↓reduceIte])
              | (refine post2 ?_; simp only [GA, Nat.reduceEqDiff, ↓reduceIte])
              | (refine post3 ?_; simp only [GA, Nat.reduceEqDiff, ↓reduceIte])
              | (refine postc (by simp only [GA, Nat.reduceEqDiff, ↓reduceIte]; rfl) (by simp (disch := omega) only [c76r0, c76r1, c76r2, c76r3, c76r4, c76r5, c76r6, c76r7, c76r8, c76r10, EV0, EV1, EV2, EV3, EV4, EV5, EV6, EV7, EV8, VALS, plug, ite_same, decide_true, decide_false, eq_self, ↓reduceIte, reduceCtorEq, Nat.reduceAdd, Nat.reduceEqDiff, Nat.reduceLT, Nat.reduceLeDiff, Nat.reduceMul, Nat.reduceSub, Nat.reduceDiv, Int.reduceToNat, Int.reduceAdd, Int.reduceSub, Int.reduceMul, Int.reduceNeg, Int.reduceEq, Int.reduceLT, Int.reduceLE]; rfl) ?_)
              | refine post0 ?_
            exact ⟨hlt, S2, (by simp only [Am.keep, List.map_cons, List.map_nil, GA, Nat.reduceEqDiff, ↓reduceIte]; try rfl), g2, by simp (disch := omega) only [h1, c76r0, c76r1, c76r2, c76r3, c76r4, c76r5, c76r6, c76r7, c76r8, c76r10, EV0, EV1, EV2, EV3, EV4, EV5, EV6, EV7, EV8, VALS, plug, ite_same, decide_true, decide_false, eq_self, ↓reduceIte, reduceCtorEq, Nat.reduceAdd, Nat.reduceEqDiff, Nat.reduceLT, Nat.reduceLeDiff, Nat.reduceMul, Nat.reduceSub, Nat.reduceDiv, Int.reduceToNat, Int.reduceAdd, Int.reduceSub, Int.reduceMul, Int.reduceNeg, Int.reduceEq, Int.reduceLT, Int.reduceLE], by simp (disch := omega) only [h2, c76r0, c76r1, c76r2, c76r3, c76r4, c76r5, c76r6, c76r7, c76r8, c76r10, EV0, EV1, EV2, EV3, EV4, EV5, EV6, EV7, EV8, VALS, plug, ite_same, decide_true, decide_false, eq_self, ↓reduceIte, reduceCtorEq, Nat.reduceAdd, Nat.reduceEqDiff, Nat.reduceLT, Nat.reduceLeDiff, Nat.reduceMul, Nat.reduceSub, Nat.reduceDiv, Int.reduceToNat, Int.reduceAdd, Int.reduceSub, Int.reduceMul, Int.reduceNeg, Int.reduceEq, Int.reduceLT, Int.reduceLE]⟩
  · obtain rfl : k = l.length := by omega
    have hlt' : ¬ (l.length : Int) < l.length := by omega
    repeat' first
      | with_reducible refine k_seq ?_
      | with_reducible refine k_skip ?_
      | with_reducible refine k_blkS ?_
      | with_reducible refine k_blkR ?_
      | with_reducible refine k_blkC ?_
      | with_reducible refine k_blkH ?_
      | with_reducible refine k_blkB ?_
      | with_reducible refine k_blkK ?_
      | with_reducible refine k_blkE ?_
      | with_reducible refine k_reg ?_
      | with_reducible refine k_head (by with_unfolding_all rfl) ?_
      | with_reducible refine k_headS ?_
      | (with_reducible refine SepK.mk ?_ ?_; (refine sepQ_P ?_; simp [sepQ, sepG, AOp.late, AOp.free, AOp.xs, AOp.isAl, tokNe, AV.tok, stS_get, strip, AX.val, c76r0, c76r1, c76r2, c76r3, c76r4, c76r5, c76r6, c76r7, c76r8, c76r10, GA]; try omega))
      | with_reducible refine r_done ?_
      | with_reducible refine hr_done ?_
      | with_reducible refine s_go (by simp (disch := omega) only [hlt', c76r0, c76r1, c76r2, c76r3, c76r4, c76r5, c76r6, c76r7, c76r8, c76r10, EV0, EV1, EV2, EV3, EV4, EV5, EV6, EV7, EV8, VALS, plug, ite_same, decide_true, decide_false, eq_self, ↓reduceIte, reduceCtorEq, Nat.reduceAdd, Nat.reduceEqDiff, Nat.reduceLT, Nat.reduceLeDiff, Nat.reduceMul, Nat.reduceSub, Nat.reduceDiv, Int.reduceToNat, Int.reduceAdd, Int.reduceSub, Int.reduceMul, Int.reduceNeg, Int.reduceEq, Int.reduceLT, Int.reduceLE]; with_reducible rfl) ?_
      | with_reducible refine h_go (by with_unfolding_all rfl) (by simp (disch := omega) only [hlt', c76r0, c76r1, c76r2, c76r3, c76r4, c76r5, c76r6, c76r7, c76r8, c76r10, EV0, EV1, EV2, EV3, EV4, EV5, EV6, EV7, EV8, VALS, plug, ite_same, decide_true, decide_false, eq_self, ↓reduceIte, reduceCtorEq, Nat.reduceAdd, Nat.reduceEqDiff, Nat.reduceLT, Nat.reduceLeDiff, Nat.reduceMul, Nat.reduceSub, Nat.reduceDiv, Int.reduceToNat, Int.reduceAdd, Int.reduceSub, Int.reduceMul, Int.reduceNeg, Int.reduceEq, Int.reduceLT, Int.reduceLE]; with_reducible rfl) ?_
      | ((with_reducible refine chk_r ?_); refine r_callF (by simp only [CA, Nat.reduceEqDiff, ↓reduceIte]; rfl) (by exact rfl) (by simp only [CA, Nat.reduceEqDiff, ↓reduceIte]; rfl) rfl ?_)
      | ((with_reducible refine chk_h ?_); refine hr_callF (by simp only [CA, Nat.reduceEqDiff, ↓reduceIte]; rfl) (by exact rfl) (by simp only [CA, Nat.reduceEqDiff, ↓reduceIte]; rfl) rfl ?_)
      | ((with_reducible refine chk_h ?_); refine hr_app (by simp (disch := omega) only [hlt', c76r0, c76r1, c76r2, c76r3, c76r4, c76r5, c76r6, c76r7, c76r8, c76r10, EV0, EV1, EV2, EV3, EV4, EV5, EV6, EV7, EV8, VALS, plug, ite_same, decide_true, decide_false, eq_self, ↓reduceIte, reduceCtorEq, Nat.reduceAdd, Nat.reduceEqDiff, Nat.reduceLT, Nat.reduceLeDiff, Nat.reduceMul, Nat.reduceSub, Nat.reduceDiv, Int.reduceToNat, Int.reduceAdd, Int.reduceSub, Int.reduceMul, Int.reduceNeg, Int.reduceEq, Int.reduceLT, Int.reduceLE]; with_reducible rfl) rfl ?_)
      | (with_reducible refine k_condP (by simp only [GA, Nat.reduceEqDiff, ↓reduceIte]; rfl) (by first | (simp only [BO]; rfl) | rfl) (fun ht => ?_) (fun ht => ?_) <;> try (first | exact False.elim ht | exact absurd rfl ht | exact absurd trivial ht | exact Bool.noConfusion ht))
      | (with_reducible refine k_ret ?_; repeat with_reducible (first | refine ret_thru ?_ | refine ret_blk ?_ | refine fin ?_))
      | (with_reducible refine k_exit ?_; repeat with_reducible (first | refine thru ?_ | refine out_blk ?_ | refine pass (by decide) ?_))
      | (refine post1 ?_; simp only [GA, Nat.reduceEqDiff, ↓reduceIte])
      | (refine post2 ?_; simp only [GA, Nat.reduceEqDiff, ↓reduceIte])
      | (refine post3 ?_; simp only [GA, Nat.reduceEqDiff, ↓reduceIte])
      | (refine postc (by simp only [GA, Nat.reduceEqDiff, ↓reduceIte]; rfl) (by simp (disch := omega) only [hlt', c76r0, c76r1, c76r2, c76r3, c76r4, c76r5, c76r6, c76r7, c76r8, c76r10, EV0, EV1, EV2, EV3, EV4, EV5, EV6, EV7, EV8, VALS, plug, ite_same, decide_true, decide_false, eq_self, ↓reduceIte, reduceCtorEq, Nat.reduceAdd, Nat.reduceEqDiff, Nat.reduceLT, Nat.reduceLeDiff, Nat.reduceMul, Nat.reduceSub, Nat.reduceDiv, Int.reduceToNat, Int.reduceAdd, Int.reduceSub, Int.reduceMul, Int.reduceNeg, Int.reduceEq, Int.reduceLT, Int.reduceLE]; rfl) ?_)
      | refine post0 ?_
    exact ⟨false, P, S1, rfl, .no hp g, by simp (disch := omega) only [hm, c76r0, c76r1, c76r2, c76r3, c76r4, c76r5, c76r6, c76r7, c76r8, c76r10, EV0, EV1, EV2, EV3, EV4, EV5, EV6, EV7, EV8, VALS, plug, ite_same, decide_true, decide_false, eq_self, ↓reduceIte, reduceCtorEq, Nat.reduceAdd, Nat.reduceEqDiff, Nat.reduceLT, Nat.reduceLeDiff, Nat.reduceMul, Nat.reduceSub, Nat.reduceDiv, Int.reduceToNat, Int.reduceAdd, Int.reduceSub, Int.reduceMul, Int.reduceNeg, Int.reduceEq, Int.reduceLT, Int.reduceLE], by simp (disch := omega) only [hmy, c76r0, c76r1, c76r2, c76r3, c76r4, c76r5, c76r6, c76r7, c76r8, c76r10, EV0, EV1, EV2, EV3, EV4, EV5, EV6, EV7, EV8, VALS, plug, ite_same, decide_true, decide_false, eq_self, ↓reduceIte, reduceCtorEq, Nat.reduceAdd, Nat.reduceEqDiff, Nat.reduceLT, Nat.reduceLeDiff, Nat.reduceMul, Nat.reduceSub, Nat.reduceDiv, Int.reduceToNat, Int.reduceAdd, Int.reduceSub, Int.reduceMul, Int.reduceNeg, Int.reduceEq, Int.reduceLT, Int.reduceLE]⟩
theorem sf_rep (n m : Nat) : sf (List.replicate n false) m = false := by
  unfold sf
  by_cases h : m < n <;> simp [List.getD_eq_getElem?_getD, h]
set_option maxHeartbeats 1000000 in
theorem pc65 (l : List T) (hv : VL l) (tol : Int) : PC Try.prog 65 [vT l, .i .i64 tol] (.i .i64 ((matchL l tol).length : Int)) := by
  refine pc_fn fn65 (by simp only [AV.plains, AV.plain, il_plain, bl_plain, Bool.and_true, Bool.true_and, Bool.and_self, flT_plain]) (by simp only [AV.plains, AV.plain, il_plain, bl_plain, Bool.and_true, Bool.true_and, Bool.and_self, flT_plain]) (Nat.le_of_ble_eq_true rfl) ?_
  rw [initSt2]
  have hl := hv.len
  repeat' first
    | with_reducible refine k_seq ?_
    | with_reducible refine k_skip ?_
    | with_reducible refine k_blkS ?_
    | with_reducible refine k_blkR ?_
    | with_reducible refine k_blkC ?_
    | with_reducible refine k_blkH ?_
    | with_reducible refine k_blkB ?_
    | with_reducible refine k_blkK ?_
    | with_reducible refine k_blkE ?_
    | with_reducible refine k_reg ?_
    | with_reducible refine r_done ?_
    | with_reducible refine s_go (by simp (disch := omega) only [c65r0, c65r1, c65r2, c65r3, c65r4, c65r5, c65r7, c65r8, c65r9, c65r10, c65r11, c65r12, c65r14, EV0, EV1, EV2, EV3, EV4, EV5, EV6, EV7, EV8, VALS, plug, ite_same, decide_true, decide_false, eq_self, ↓reduceIte, reduceCtorEq, Nat.reduceAdd, Nat.reduceEqDiff, Nat.reduceLT, Nat.reduceLeDiff, Nat.reduceMul, Nat.reduceSub, Nat.reduceDiv, Int.reduceToNat, Int.reduceAdd, Int.reduceSub, Int.reduceMul, Int.reduceNeg, Int.reduceEq, Int.reduceLT, Int.reduceLE]; with_reducible rfl) ?_
    | ((with_reducible refine chk_r ?_); refine r_callF (by simp only [CA, Nat.reduceEqDiff, ↓reduceIte]; rfl) (by exact rfl) (by simp only [CA, Nat.reduceEqDiff, ↓reduceIte]; rfl) rfl ?_)
    | (with_reducible refine k_condP (by simp only [GA, Nat.reduceEqDiff, ↓reduceIte]; rfl) (by first | (simp only [BO]; rfl) | rfl) (fun ht => ?_) (fun ht => ?_) <;> try (first | exact False.elim ht | exact absurd rfl ht | exact absurd trivial ht | exact Bool.noConfusion ht))
    | (with_reducible refine k_ret ?_; repeat with_reducible (first | refine ret_thru ?_ | refine ret_blk ?_ | refine fin ?_))
    | (with_reducible refine k_exit ?_; repeat with_reducible (first | refine thru ?_ | refine out_blk ?_ | refine pass (by decide) ?_))
    | (refine post1 ?_; simp only [GA, Nat.reduceEqDiff, ↓reduceIte])
    | (refine post2 ?_; simp only [GA, Nat.reduceEqDiff, ↓reduceIte])
    | (refine post3 ?_; simp only [GA, Nat.reduceEqDiff, ↓reduceIte])
    | (refine postc (by simp only [GA, Nat.reduceEqDiff, ↓reduceIte]; rfl) (by simp (disch := omega) only [c65r0, c65r1, c65r2, c65r3, c65r4, c65r5, c65r7, c65r8, c65r9, c65r10, c65r11, c65r12, c65r14, EV0, EV1, EV2, EV3, EV4, EV5, EV6, EV7, EV8, VALS, plug, ite_same, decide_true, decide_false, eq_self, ↓reduceIte, reduceCtorEq, Nat.reduceAdd, Nat.reduceEqDiff, Nat.reduceLT, Nat.reduceLeDiff, Nat.reduceMul, Nat.reduceSub, Nat.reduceDiv, Int.reduceToNat, Int.reduceAdd, Int.reduceSub, Int.reduceMul, Int.reduceNeg, Int.reduceEq, Int.reduceLT, Int.reduceLE]; rfl) ?_)
    | refine post0 ?_
  refine k_blk (k_loopS (X := Nat × List Int) [0, 1, 5, 6] l.length (fun k x => [(0, vT l), (1, .i .i64 tol), (5, .sl x.1 0 l.length 1), (6, .i .i64 (k : Int))]) (fun k x h => x.1 ≠ 0 ∧ h.m x.1 = some (.cells true (il x.2)) ∧ x.2.length = l.length ∧ ∀ m, m < k → pf x.2 m = -1) (_, List.replicate l.length 0) (by simp only [Am.keep, List.map_cons, List.map_nil, GA, Nat.reduceEqDiff, ↓reduceIte]; try rfl) ⟨?_, by simp (disch := omega) only [il_rep, c65r0, c65r1, c65r2, c65r3, c65r4, c65r5, c65r7, c65r8, c65r9, c65r10, c65r11, c65r12, c65r14, EV0, EV1, EV2, EV3, EV4, EV5, EV6, EV7, EV8, VALS, plug, ite_same, decide_true, decide_false, eq_self, ↓reduceIte, reduceCtorEq, Nat.reduceAdd, Nat.reduceEqDiff, Nat.reduceLT, Nat.reduceLeDiff, Nat.reduceMul, Nat.reduceSub, Nat.reduceDiv, Int.reduceToNat, Int.reduceAdd, Int.reduceSub, Int.reduceMul, Int.reduceNeg, Int.reduceEq, Int.reduceLT, Int.reduceLE] <;> rfl, by simp, fun m hm => by omega⟩ ?_)
  · simp only [AH.bump_nx]; omega
  rintro k ⟨x, P⟩ h hk ⟨hx, hm, pl, hP⟩ ok pos
  simp only at hx hm pl hP ⊢
  have hx' := ok.m hm
  by_cases hlt : k < l.length
  · have hlt' : (k : Int) < l.length := by omega
    repeat' first
      | with_reducible refine k_seq ?_
      | with_reducible refine k_skip ?_
      | with_reducible refine k_blkS ?_
      | with_reducible refine k_blkR ?_
      | with_reducible refine k_blkC ?_
      | with_reducible refine k_blkH ?_
      | with_reducible refine k_blkB ?_
      | with_reducible refine k_blkK ?_
      | with_reducible refine k_blkE ?_
      | with_reducible refine k_reg ?_
      | with_reducible refine r_done ?_
      | with_reducible refine s_go (by simp (disch := omega) only [hlt', hm, row_m hm, pl, c65r0, c65r1, c65r2, c65r3, c65r4, c65r5, c65r7, c65r8, c65r9, c65r10, c65r11, c65r12, c65r14, EV0, EV1, EV2, EV3, EV4, EV5, EV6, EV7, EV8, VALS, plug, ite_same, decide_true, decide_false, eq_self, ↓reduceIte, reduceCtorEq, Nat.reduceAdd, Nat.reduceEqDiff, Nat.reduceLT, Nat.reduceLeDiff, Nat.reduceMul, Nat.reduceSub, Nat.reduceDiv, Int.reduceToNat, Int.reduceAdd, Int.reduceSub, Int.reduceMul, Int.reduceNeg, Int.reduceEq, Int.reduceLT, Int.reduceLE]; with_reducible rfl) ?_
      | ((with_reducible refine chk_r ?_); refine r_callF (by simp only [CA, Nat.reduceEqDiff, ↓reduceIte]; rfl) (by exact rfl) (by simp only [CA, Nat.reduceEqDiff, ↓reduceIte]; rfl) rfl ?_)
      | (with_reducible refine k_condP (by simp only [GA, Nat.reduceEqDiff, ↓reduceIte]; rfl) (by first | (simp only [BO]; rfl) | rfl) (fun ht => ?_) (fun ht => ?_) <;> try (first | exact False.elim ht | exact absurd rfl ht | exact absurd trivial ht | exact Bool.noConfusion ht))
      | (with_reducible refine k_ret ?_; repeat with_reducible (first | refine ret_thru ?_ | refine ret_blk ?_ | refine fin ?_))
      | (with_reducible refine k_exit ?_; repeat with_reducible (first | refine thru ?_ | refine out_blk ?_ | refine pass (by decide) ?_))
      | (refine post1 ?_; simp only [GA, Nat.reduceEqDiff, ↓reduceIte])
      | (refine post2 ?_; simp only [GA, Nat.reduceEqDiff, ↓reduceIte])
      | (refine post3 ?_; simp only [GA, Nat.reduceEqDiff, ↓reduceIte])
      | (refine postc (by simp only [GA, Nat.reduceEqDiff, ↓reduceIte]; rfl) (by simp (disch := omega) only [hlt', hm, row_m hm, pl, c65r0, c65r1, c65r2, c65r3, c65r4, c65r5, c65r7, c65r8, c65r9, c65r10, c65r11, c65r12, c65r14, EV0, EV1, EV2, EV3, EV4, EV5, EV6, EV7, EV8, VALS, plug, ite_same, decide_true, decide_false, eq_self, ↓reduceIte, reduceCtorEq, Nat.reduceAdd, Nat.reduceEqDiff, Nat.reduceLT, Nat.reduceLeDiff, Nat.reduceMul, Nat.reduceSub, Nat.reduceDiv, Int.reduceToNat, Int.reduceAdd, Int.reduceSub, Int.reduceMul, Int.reduceNeg, Int.reduceEq, Int.reduceLT, Int.reduceLE]; rfl) ?_)
      | refine post0 ?_
    refine ⟨hlt, ⟨x, P.set k (-1)⟩, (by simp only [Am.keep, List.map_cons, List.map_nil, GA, Nat.reduceEqDiff, ↓reduceIte]; try rfl), hx, by simp (disch := omega) only [hm, c65r0, c65r1, c65r2, c65r3, c65r4, c65r5, c65r7, c65r8, c65r9, c65r10, c65r11, c65r12, c65r14, EV0, EV1, EV2, EV3, EV4, EV5, EV6, EV7, EV8, VALS, plug, ite_same, decide_true, decide_false, eq_self, ↓reduceIte, reduceCtorEq, Nat.reduceAdd, Nat.reduceEqDiff, Nat.reduceLT, Nat.reduceLeDiff, Nat.reduceMul, Nat.reduceSub, Nat.reduceDiv, Int.reduceToNat, Int.reduceAdd, Int.reduceSub, Int.reduceMul, Int.reduceNeg, Int.reduceEq, Int.reduceLT, Int.reduceLE] <;> rfl, by rw [List.length_set]; exact pl, fun m hm => ?_⟩
    rw [pf_set (by omega)]
    split
    · rfl
    · exact hP m (by omega)
  · obtain rfl : k = l.length := by omega
    have hlt' : ¬ (l.length : Int) < l.length := by omega
    have hP : ∀ m, pf P m = -1 := fun m => by
      by_cases h : m < l.length
      · exact hP m h
      · unfold pf; simp [List.getD_eq_getElem?_getD, List.getElem?_eq_none (show P.length ≤ m by omega)]
    have c0 : cnt (pf P) l.length = 0 := by
      have : cnt (pf P) l.length = cnt (fun _ => -1) l.length := cnt_congr fun k _ => by rw [hP k]
      rw [this]; simp [cnt]
    repeat' first
      | with_reducible refine k_seq ?_
      | with_reducible refine k_skip ?_
      | with_reducible refine k_blkS ?_
      | with_reducible refine k_blkR ?_
      | with_reducible refine k_blkC ?_
      | with_reducible refine k_blkH ?_
      | with_reducible refine k_blkB ?_
      | with_reducible refine k_blkK ?_
      | with_reducible refine k_blkE ?_
      | with_reducible refine k_reg ?_
      | with_reducible refine r_done ?_
      | with_reducible refine s_go (by simp (disch := omega) only [hlt', c65r0, c65r1, c65r2, c65r3, c65r4, c65r5, c65r7, c65r8, c65r9, c65r10, c65r11, c65r12, c65r14, EV0, EV1, EV2, EV3, EV4, EV5, EV6, EV7, EV8, VALS, plug, ite_same, decide_true, decide_false, eq_self, ↓reduceIte, reduceCtorEq, Nat.reduceAdd, Nat.reduceEqDiff, Nat.reduceLT, Nat.reduceLeDiff, Nat.reduceMul, Nat.reduceSub, Nat.reduceDiv, Int.reduceToNat, Int.reduceAdd, Int.reduceSub, Int.reduceMul, Int.reduceNeg, Int.reduceEq, Int.reduceLT, Int.reduceLE]; with_reducible rfl) ?_
      | ((with_reducible refine chk_r ?_); refine r_callF (by simp only [CA, Nat.reduceEqDiff, ↓reduceIte]; rfl) (by exact rfl) (by simp only [CA, Nat.reduceEqDiff, ↓reduceIte]; rfl) rfl ?_)
      | (with_reducible refine k_condP (by simp only [GA, Nat.reduceEqDiff, ↓reduceIte]; rfl) (by first | (simp only [BO]; rfl) | rfl) (fun ht => ?_) (fun ht => ?_) <;> try (first | exact False.elim ht | exact absurd rfl ht | exact absurd trivial ht | exact Bool.noConfusion ht))
      | (with_reducible refine k_ret ?_; repeat with_reducible (first | refine ret_thru ?_ | refine ret_blk ?_ | refine fin ?_))
      | (with_reducible refine k_exit ?_; repeat with_reducible (first | refine thru ?_ | refine out_blk ?_ | refine pass (by decide) ?_))
      | (refine post1 ?_; simp only [GA, Nat.reduceEqDiff, ↓reduceIte])
      | (refine post2 ?_; simp only [GA, Nat.reduceEqDiff, ↓reduceIte])
      | (refine post3 ?_; simp only [GA, Nat.reduceEqDiff, ↓reduceIte])
      | (refine postc (by simp only [GA, Nat.reduceEqDiff, ↓reduceIte]; rfl) (by simp (disch := omega) only [hlt', c65r0, c65r1, c65r2, c65r3, c65r4, c65r5, c65r7, c65r8, c65r9, c65r10, c65r11, c65r12, c65r14, EV0, EV1, EV2, EV3, EV4, EV5, EV6, EV7, EV8, VALS, plug, ite_same, decide_true, decide_false, eq_self, ↓reduceIte, reduceCtorEq, Nat.reduceAdd, Nat.reduceEqDiff, Nat.reduceLT, Nat.reduceLeDiff, Nat.reduceMul, Nat.reduceSub, Nat.reduceDiv, Int.reduceToNat, Int.reduceAdd, Int.reduceSub, Int.reduceMul, Int.reduceNeg, Int.reduceEq, Int.reduceLT, Int.reduceLE]; rfl) ?_)
      | refine post0 ?_
    refine k_blk (k_loopS (X := Nat × List Int) [0, 1, 5, 7, 8] l.length (fun k x => [(0, vT l), (1, .i .i64 tol), (5, .sl x.1 0 l.length 1), (7, .i .i64 (cnt (pf x.2) l.length : Nat)), (8, .i .i64 (k : Int))])
      (fun k x h => x.1 ≠ 0 ∧ h.m x.1 = some (.cells true (il x.2)) ∧ x.2.length = l.length ∧ MQ l tol (pf x.2) ∧ (∀ m, pf x.2 m < k) ∧ cnt (pf x.2) l.length ≤ k ∧ Top l tol k (cnt (pf x.2) l.length)) (x, P)
      (by simp only [Am.keep, List.map_cons, List.map_nil, GA, Nat.reduceEqDiff, ↓reduceIte, c0]; rfl) ⟨hx, by simp (disch := omega) only [hm, c65r0, c65r1, c65r2, c65r3, c65r4, c65r5, c65r7, c65r8, c65r9, c65r10, c65r11, c65r12, c65r14, EV0, EV1, EV2, EV3, EV4, EV5, EV6, EV7, EV8, VALS, plug, ite_same, decide_true, decide_false, eq_self, ↓reduceIte, reduceCtorEq, Nat.reduceAdd, Nat.reduceEqDiff, Nat.reduceLT, Nat.reduceLeDiff, Nat.reduceMul, Nat.reduceSub, Nat.reduceDiv, Int.reduceToNat, Int.reduceAdd, Int.reduceSub, Int.reduceMul, Int.reduceNeg, Int.reduceEq, Int.reduceLT, Int.reduceLE], pl, ⟨fun k => .inl (hP k), fun k k' h => by rw [hP k] at h; omega⟩, fun m => by simp only [hP m]; omega, by simp only [c0]; omega, by simp only [c0]; exact Top.zero l tol⟩ ?_)
    clear hP c0 pl hm hx' ok pos
    rintro k ⟨x, P⟩ h hk ⟨hx, hm, pl, mq, hP, hc, top⟩ ok pos
    simp only at hx hm pl mq hP hc top ⊢
    have hx' := ok.m hm
    by_cases hlt : k < l.length
    · have hlt' : (k : Int) < l.length := by omega
      have g1 := getT1 hlt
      by_cases hs : (l.getD k T0).side = 1
      · have pre : Pre l tol (pf P) P (List.replicate l.length false) k := ⟨pl, by simp, hlt, hs, mq, fun _ _ => rfl, fun m => by have := hP m; omega⟩
        have q76 := fun y h hy hyx => ac76 l hv tol _ (pf P) P (List.replicate l.length false) k x y h rfl pre hx hy hyx
        repeat' first
          | with_reducible refine k_seq ?_
          | with_reducible refine k_skip ?_
          | with_reducible refine k_blkS ?_
          | with_reducible refine k_blkR ?_
          | with_reducible refine k_blkC ?_
          | with_reducible refine k_blkH ?_
          | with_reducible refine k_blkB ?_
          | with_reducible refine k_blkK ?_
          | with_reducible refine k_blkE ?_
          | with_reducible refine k_reg ?_
          | with_reducible refine r_done ?_
          | with_reducible refine s_go (by simp (disch := omega) only [hlt', g1, hs, hm, c65r0, c65r1, c65r2, c65r3, c65r4, c65r5, c65r7, c65r8, c65r9, c65r10, c65r11, c65r12, c65r14, EV0, EV1, EV2, EV3, EV4, EV5, EV6, EV7, EV8, VALS, plug, ite_same, decide_true, decide_false, eq_self, ↓reduceIte, reduceCtorEq, Nat.reduceAdd, Nat.reduceEqDiff, Nat.reduceLT, Nat.reduceLeDiff, Nat.reduceMul, Nat.reduceSub, Nat.reduceDiv, Int.reduceToNat, Int.reduceAdd, Int.reduceSub, Int.reduceMul, Int.reduceNeg, Int.reduceEq, Int.reduceLT, Int.reduceLE]; with_reducible rfl) ?_
          | ((with_reducible refine chk_r ?_); refine r_callF (by simp only [CA, Nat.reduceEqDiff, ↓reduceIte]; rfl) (by exact rfl) (by simp only [CA, Nat.reduceEqDiff, ↓reduceIte]; rfl) rfl ?_)
          | ((with_reducible refine chk_r ?_); refine r_callX (by simp only [CA, Nat.reduceEqDiff, ↓reduceIte]; rfl) (by simp only [CA, Nat.reduceEqDiff, ↓reduceIte]; rfl) (by first | exact q76 _ _ (by omega) (by omega) (by simp (disch := omega) only [hm, c65r0, c65r1, c65r2, c65r3, c65r4, c65r5, c65r7, c65r8, c65r9, c65r10, c65r11, c65r12, c65r14, EV0, EV1, EV2, EV3, EV4, EV5, EV6, EV7, EV8, VALS, plug, ite_same, decide_true, decide_false, eq_self, ↓reduceIte, reduceCtorEq, Nat.reduceAdd, Nat.reduceEqDiff, Nat.reduceLT, Nat.reduceLeDiff, Nat.reduceMul, Nat.reduceSub, Nat.reduceDiv, Int.reduceToNat, Int.reduceAdd, Int.reduceSub, Int.reduceMul, Int.reduceNeg, Int.reduceEq, Int.reduceLT, Int.reduceLE] <;> rfl) (by simp (disch := omega) only [bl_rep, c65r0, c65r1, c65r2, c65r3, c65r4, c65r5, c65r7, c65r8, c65r9, c65r10, c65r11, c65r12, c65r14, EV0, EV1, EV2, EV3, EV4, EV5, EV6, EV7, EV8, VALS, plug, ite_same, decide_true, decide_false, eq_self, ↓reduceIte, reduceCtorEq, Nat.reduceAdd, Nat.reduceEqDiff, Nat.reduceLT, Nat.reduceLeDiff, Nat.reduceMul, Nat.reduceSub, Nat.reduceDiv, Int.reduceToNat, Int.reduceAdd, Int.reduceSub, Int.reduceMul, Int.reduceNeg, Int.reduceEq, Int.reduceLT, Int.reduceLE] <;> rfl)) rfl ?_)
          | ((with_reducible refine chk_r ?_); refine r_callTX (by first | (simp only [CA, Nat.reduceEqDiff, ↓reduceIte]; rfl) | simp only [CA, Nat.reduceEqDiff, ↓reduceIte]) (by simp only [CA, Nat.reduceEqDiff, ↓reduceIte]; rfl) (by simp only [CA, Nat.reduceEqDiff, ↓reduceIte]; rfl) (by first | exact q76 _ _ (by omega) (by omega) (by simp (disch := omega) only [hm, c65r0, c65r1, c65r2, c65r3, c65r4, c65r5, c65r7, c65r8, c65r9, c65r10, c65r11, c65r12, c65r14, EV0, EV1, EV2, EV3, EV4, EV5, EV6, EV7, EV8, VALS, plug, ite_same, decide_true, decide_false, eq_self, ↓reduceIte, reduceCtorEq, Nat.reduceAdd, Nat.reduceEqDiff, Nat.reduceLT, Nat.reduceLeDiff, Nat.reduceMul, Nat.reduceSub, Nat.reduceDiv, Int.reduceToNat, Int.reduceAdd, Int.reduceSub, Int.reduceMul, Int.reduceNeg, Int.reduceEq, Int.reduceLT, Int.reduceLE] <;> rfl) (by simp (disch := omega) only [bl_rep, c65r0, c65r1, c65r2, c65r3, c65r4, c65r5, c65r7, c65r8, c65r9, c65r10, c65r11, c65r12, c65r14, EV0, EV1, EV2, EV3, EV4, EV5, EV6, EV7, EV8, VALS, plug, ite_same, decide_true, decide_false, eq_self, ↓reduceIte, reduceCtorEq, Nat.reduceAdd, Nat.reduceEqDiff, Nat.reduceLT, Nat.reduceLeDiff, Nat.reduceMul, Nat.reduceSub, Nat.reduceDiv, Int.reduceToNat, Int.reduceAdd, Int.reduceSub, Int.reduceMul, Int.reduceNeg, Int.reduceEq, Int.reduceLT, Int.reduceLE] <;> rfl)) rfl ?_)
          | (with_reducible refine k_condP (by simp only [GA, Nat.reduceEqDiff, ↓reduceIte]; rfl) (by first | (simp only [BO]; rfl) | rfl) (fun ht => ?_) (fun ht => ?_) <;> try (first | exact False.elim ht | exact absurd rfl ht | exact absurd trivial ht | exact Bool.noConfusion ht))
          | (with_reducible refine k_ret ?_; repeat with_reducible (first | refine ret_thru ?_ | refine ret_blk ?_ | refine fin ?_))
          | (with_reducible refine k_exit ?_; repeat with_reducible (first | refine thru ?_ | refine out_blk ?_ | refine pass (by decide) ?_))
          | (refine post1 ?_; simp only [GA, Nat.reduceEqDiff, ↓reduceIte])
          | (refine post2 ?_; simp only [GA, Nat.reduceEqDiff, ↓reduceIte])
          | (refine post3 ?_; simp only [GA, Nat.reduceEqDiff, ↓reduceIte])
          | (refine postc (by simp only [GA, Nat.reduceEqDiff, ↓reduceIte]; rfl) (by simp (disch := omega) only [hlt', g1, hs, hm, c65r0, c65r1, c65r2, c65r3, c65r4, c65r5, c65r7, c65r8, c65r9, c65r10, c65r11, c65r12, c65r14, EV0, EV1, EV2, EV3, EV4, EV5, EV6, EV7, EV8, VALS, plug, ite_same, decide_true, decide_false, eq_self, ↓reduceIte, reduceCtorEq, Nat.reduceAdd, Nat.reduceEqDiff, Nat.reduceLT, Nat.reduceLeDiff, Nat.reduceMul, Nat.reduceSub, Nat.reduceDiv, Int.reduceToNat, Int.reduceAdd, Int.reduceSub, Int.reduceMul, Int.reduceNeg, Int.reduceEq, Int.reduceLT, Int.reduceLE]; rfl) ?_)
          | refine post0 ?_
        rintro r h' ⟨b, P2, S2, rfl, f, h1, h2⟩
        obtain ⟨f1, f2, f3, f4, f5⟩ := f
        cases b with
        | true =>
          obtain ⟨f6, f7, f8⟩ := f4 rfl
          have view : mix (List.replicate l.length false) (pf P) P2 = pf P2 := by
            funext m
            unfold mix
            rw [sf_rep, if_neg (by simp)]
          rw [view] at f6 f7 f8
          repeat' first
            | with_reducible refine k_seq ?_
            | with_reducible refine k_skip ?_
            | with_reducible refine k_blkS ?_
            | with_reducible refine k_blkR ?_
            | with_reducible refine k_blkC ?_
            | with_reducible refine k_blkH ?_
            | with_reducible refine k_blkB ?_
            | with_reducible refine k_blkK ?_
            | with_reducible refine k_blkE ?_
            | with_reducible refine k_reg ?_
            | with_reducible refine r_done ?_
            | with_reducible refine s_go (by simp (disch := omega) only [c65r0, c65r1, c65r2, c65r3, c65r4, c65r5, c65r7, c65r8, c65r9, c65r10, c65r11, c65r12, c65r14, EV0, EV1, EV2, EV3, EV4, EV5, EV6, EV7, EV8, VALS, plug, ite_same, decide_true, decide_false, eq_self, ↓reduceIte, reduceCtorEq, Nat.reduceAdd, Nat.reduceEqDiff, Nat.reduceLT, Nat.reduceLeDiff, Nat.reduceMul, Nat.reduceSub, Nat.reduceDiv, Int.reduceToNat, Int.reduceAdd, Int.reduceSub, Int.reduceMul, Int.reduceNeg, Int.reduceEq, Int.reduceLT, Int.reduceLE]; with_reducible rfl) ?_
            | ((with_reducible refine chk_r ?_); refine r_callF (by simp only [CA, Nat.reduceEqDiff, ↓reduceIte]; rfl) (by exact rfl) (by simp only [CA, Nat.reduceEqDiff, ↓reduceIte]; rfl) rfl ?_)
            | (with_reducible refine k_condP (by simp only [GA, Nat.reduceEqDiff, ↓reduceIte]; rfl) (by first | (simp only [BO]; rfl) | rfl) (fun ht => ?_) (fun ht => ?_) <;> try (first | exact False.elim ht | exact absurd rfl ht | exact absurd trivial ht | exact Bool.noConfusion ht))
            | (with_reducible refine k_ret ?_; repeat with_reducible (first | refine ret_thru ?_ | refine ret_blk ?_ | refine fin ?_))
            | (with_reducible refine k_exit ?_; repeat with_reducible (first | refine thru ?_ | refine out_blk ?_ | refine pass (by decide) ?_))
            | (refine post1 ?_; simp only [GA, Nat.reduceEqDiff, ↓reduceIte])
            | (refine post2 ?_; simp only [GA, Nat.reduceEqDiff, ↓reduceIte])
            | (refine post3 ?_; simp only [GA, Nat.reduceEqDiff, ↓reduceIte])
            | (refine postc (by simp only [GA, Nat.reduceEqDiff, ↓reduceIte]; rfl) (by simp (disch := omega) only [c65r0, c65r1, c65r2, c65r3, c65r4, c65r5, c65r7, c65r8, c65r9, c65r10, c65r11, c65r12, c65r14, EV0, EV1, EV2, EV3, EV4, EV5, EV6, EV7, EV8, VALS, plug, ite_same, decide_true, decide_false, eq_self, ↓reduceIte, reduceCtorEq, Nat.reduceAdd, Nat.reduceEqDiff, Nat.reduceLT, Nat.reduceLeDiff, Nat.reduceMul, Nat.reduceSub, Nat.reduceDiv, Int.reduceToNat, Int.reduceAdd, Int.reduceSub, Int.reduceMul, Int.reduceNeg, Int.reduceEq, Int.reduceLT, Int.reduceLE]; rfl) ?_)
            | refine post0 ?_
          refine ⟨hlt, ⟨x, P2⟩, by (simp only [Am.keep, List.map_cons, List.map_nil, GA, Nat.reduceEqDiff, ↓reduceIte, f7]; rfl), hx, by simp (disch := omega) only [h1, c65r0, c65r1, c65r2, c65r3, c65r4, c65r5, c65r7, c65r8, c65r9, c65r10, c65r11, c65r12, c65r14, EV0, EV1, EV2, EV3, EV4, EV5, EV6, EV7, EV8, VALS, plug, ite_same, decide_true, decide_false, eq_self, ↓reduceIte, reduceCtorEq, Nat.reduceAdd, Nat.reduceEqDiff, Nat.reduceLT, Nat.reduceLeDiff, Nat.reduceMul, Nat.reduceSub, Nat.reduceDiv, Int.reduceToNat, Int.reduceAdd, Int.reduceSub, Int.reduceMul, Int.reduceNeg, Int.reduceEq, Int.reduceLT, Int.reduceLE], f1, f6, fun m => ?_, by simp only [f7]; omega, by simp only [f7]; exact top.yes⟩
          by_cases h0 : 0 ≤ pf P2 m
          · rcases f8 m h0 with e | ⟨k', e⟩
            · simp only []; omega
            · have := hP k'; simp only []; omega
          · simp only []; omega
        | false =>
          obtain ⟨rfl, f6, f7⟩ := f5 rfl
          repeat' first
            | with_reducible refine k_seq ?_
            | with_reducible refine k_skip ?_
            | with_reducible refine k_blkS ?_
            | with_reducible refine k_blkR ?_
            | with_reducible refine k_blkC ?_
            | with_reducible refine k_blkH ?_
            | with_reducible refine k_blkB ?_
            | with_reducible refine k_blkK ?_
            | with_reducible refine k_blkE ?_
            | with_reducible refine k_reg ?_
            | with_reducible refine r_done ?_
            | with_reducible refine s_go (by simp (disch := omega) only [c65r0, c65r1, c65r2, c65r3, c65r4, c65r5, c65r7, c65r8, c65r9, c65r10, c65r11, c65r12, c65r14, EV0, EV1, EV2, EV3, EV4, EV5, EV6, EV7, EV8, VALS, plug, ite_same, decide_true, decide_false, eq_self, ↓reduceIte, reduceCtorEq, Nat.reduceAdd, Nat.reduceEqDiff, Nat.reduceLT, Nat.reduceLeDiff, Nat.reduceMul, Nat.reduceSub, Nat.reduceDiv, Int.reduceToNat, Int.reduceAdd, Int.reduceSub, Int.reduceMul, Int.reduceNeg, Int.reduceEq, Int.reduceLT, Int.reduceLE]; with_reducible rfl) ?_
            | ((with_reducible refine chk_r ?_); refine r_callF (by simp only [CA, Nat.reduceEqDiff, ↓reduceIte]; rfl) (by exact rfl) (by simp only [CA, Nat.reduceEqDiff, ↓reduceIte]; rfl) rfl ?_)
            | (with_reducible refine k_condP (by simp only [GA, Nat.reduceEqDiff, ↓reduceIte]; rfl) (by first | (simp only [BO]; rfl) | rfl) (fun ht => ?_) (fun ht => ?_) <;> try (first | exact False.elim ht | exact absurd rfl ht | exact absurd trivial ht | exact Bool.noConfusion ht))
            | (with_reducible refine k_ret ?_; repeat with_reducible (first | refine ret_thru ?_ | refine ret_blk ?_ | refine fin ?_))
            | (with_reducible refine k_exit ?_; repeat with_reducible (first | refine thru ?_ | refine out_blk ?_ | refine pass (by decide) ?_))
            | (refine post1 ?_; simp only [GA, Nat.reduceEqDiff, ↓reduceIte])
            | (refine post2 ?_; simp only [GA, Nat.reduceEqDiff, ↓reduceIte])
            | (refine post3 ?_; simp only [GA, Nat.reduceEqDiff, ↓reduceIte])
            | (refine postc (by simp only [GA, Nat.reduceEqDiff, ↓reduceIte]; rfl) (by simp (disch := omega) only [c65r0, c65r1, c65r2, c65r3, c65r4, c65r5, c65r7, c65r8, c65r9, c65r10, c65r11, c65r12, c65r14, EV0, EV1, EV2, EV3, EV4, EV5, EV6, EV7, EV8, VALS, plug, ite_same, decide_true, decide_false, eq_self, ↓reduceIte, reduceCtorEq, Nat.reduceAdd, Nat.reduceEqDiff, Nat.reduceLT, Nat.reduceLeDiff, Nat.reduceMul, Nat.reduceSub, Nat.reduceDiv, Int.reduceToNat, Int.reduceAdd, Int.reduceSub, Int.reduceMul, Int.reduceNeg, Int.reduceEq, Int.reduceLT, Int.reduceLE]; rfl) ?_)
            | refine post0 ?_
          exact ⟨hlt, ⟨x, P2⟩, (by simp only [Am.keep, List.map_cons, List.map_nil, GA, Nat.reduceEqDiff, ↓reduceIte]; try rfl), hx, by simp (disch := omega) only [h1, c65r0, c65r1, c65r2, c65r3, c65r4, c65r5, c65r7, c65r8, c65r9, c65r10, c65r11, c65r12, c65r14, EV0, EV1, EV2, EV3, EV4, EV5, EV6, EV7, EV8, VALS, plug, ite_same, decide_true, decide_false, eq_self, ↓reduceIte, reduceCtorEq, Nat.reduceAdd, Nat.reduceEqDiff, Nat.reduceLT, Nat.reduceLeDiff, Nat.reduceMul, Nat.reduceSub, Nat.reduceDiv, Int.reduceToNat, Int.reduceAdd, Int.reduceSub, Int.reduceMul, Int.reduceNeg, Int.reduceEq, Int.reduceLT, Int.reduceLE], pl, mq, fun m => by have := hP m; simp only []; omega, by simp only []; omega, top.no hv mq hP f6 fun m hm => f7 m hm (sf_rep _ _)⟩
      · repeat' first
          | with_reducible refine k_seq ?_
          | with_reducible refine k_skip ?_
          | with_reducible refine k_blkS ?_
          | with_reducible refine k_blkR ?_
          | with_reducible refine k_blkC ?_
          | with_reducible refine k_blkH ?_
          | with_reducible refine k_blkB ?_
          | with_reducible refine k_blkK ?_
          | with_reducible refine k_blkE ?_
          | with_reducible refine k_reg ?_
          | with_reducible refine r_done ?_
          | with_reducible refine s_go (by simp (disch := omega) only [hlt', g1, hs, hm, c65r0, c65r1, c65r2, c65r3, c65r4, c65r5, c65r7, c65r8, c65r9, c65r10, c65r11, c65r12, c65r14, EV0, EV1, EV2, EV3, EV4, EV5, EV6, EV7, EV8, VALS, plug, ite_same, decide_true, decide_false, eq_self, ↓reduceIte, reduceCtorEq, Nat.reduceAdd, Nat.reduceEqDiff, Nat.reduceLT, Nat.reduceLeDiff, Nat.reduceMul, Nat.reduceSub, Nat.reduceDiv, Int.reduceToNat, Int.reduceAdd, Int.reduceSub, Int.reduceMul, Int.reduceNeg, Int.reduceEq, Int.reduceLT, Int.reduceLE]; with_reducible rfl) ?_
          | ((with_reducible refine chk_r ?_); refine r_callF (by simp only [CA, Nat.reduceEqDiff, ↓reduceIte]; rfl) (by exact rfl) (by simp only [CA, Nat.reduceEqDiff, ↓reduceIte]; rfl) rfl ?_)
          | (with_reducible refine k_condP (by simp only [GA, Nat.reduceEqDiff, ↓reduceIte]; rfl) (by first | (simp only [BO]; rfl) | rfl) (fun ht => ?_) (fun ht => ?_) <;> try (first | exact False.elim ht | exact absurd rfl ht | exact absurd trivial ht | exact Bool.noConfusion ht))
          | (with_reducible refine k_ret ?_; repeat with_reducible (first | refine ret_thru ?_ | refine ret_blk ?_ | refine fin ?_))
          | (with_reducible refine k_exit ?_; repeat with_reducible (first | refine thru ?_ | refine out_blk ?_ | refine pass (by decide) ?_))
          | (refine post1 ?_; simp only [GA, Nat.reduceEqDiff, ↓reduceIte])
          | (refine post2 ?_; simp only [GA, Nat.reduceEqDiff, ↓reduceIte])
          | (refine post3 ?_; simp only [GA, Nat.reduceEqDiff, ↓reduceIte])
          | (refine postc (by simp only [GA, Nat.reduceEqDiff, ↓reduceIte]; rfl) (by simp (disch := omega) only [hlt', g1, hs, hm, c65r0, c65r1, c65r2, c65r3, c65r4, c65r5, c65r7, c65r8, c65r9, c65r10, c65r11, c65r12, c65r14, EV0, EV1, EV2, EV3, EV4, EV5, EV6, EV7, EV8, VALS, plug, ite_same, decide_true, decide_false, eq_self, ↓reduceIte, reduceCtorEq, Nat.reduceAdd, Nat.reduceEqDiff, Nat.reduceLT, Nat.reduceLeDiff, Nat.reduceMul, Nat.reduceSub, Nat.reduceDiv, Int.reduceToNat, Int.reduceAdd, Int.reduceSub, Int.reduceMul, Int.reduceNeg, Int.reduceEq, Int.reduceLT, Int.reduceLE]; rfl) ?_)
          | refine post0 ?_
        exact ⟨hlt, ⟨x, P⟩, (by simp only [Am.keep, List.map_cons, List.map_nil, GA, Nat.reduceEqDiff, ↓reduceIte]; try rfl), hx, by simp (disch := omega) only [hm, c65r0, c65r1, c65r2, c65r3, c65r4, c65r5, c65r7, c65r8, c65r9, c65r10, c65r11, c65r12, c65r14, EV0, EV1, EV2, EV3, EV4, EV5, EV6, EV7, EV8, VALS, plug, ite_same, decide_true, decide_false, eq_self, ↓reduceIte, reduceCtorEq, Nat.reduceAdd, Nat.reduceEqDiff, Nat.reduceLT, Nat.reduceLeDiff, Nat.reduceMul, Nat.reduceSub, Nat.reduceDiv, Int.reduceToNat, Int.reduceAdd, Int.reduceSub, Int.reduceMul, Int.reduceNeg, Int.reduceEq, Int.reduceLT, Int.reduceLE], pl, mq, fun m => by have := hP m; simp only []; omega, by simp only []; omega, top.skip hs⟩
    · obtain rfl : k = l.length := by omega
      have hlt' : ¬ (l.length : Int) < l.length := by omega
      repeat' first
        | with_reducible refine k_seq ?_
        | with_reducible refine k_skip ?_
        | with_reducible refine k_blkS ?_
        | with_reducible refine k_blkR ?_
        | with_reducible refine k_blkC ?_
        | with_reducible refine k_blkH ?_
        | with_reducible refine k_blkB ?_
        | with_reducible refine k_blkK ?_
        | with_reducible refine k_blkE ?_
        | with_reducible refine k_reg ?_
        | with_reducible refine r_done ?_
        | with_reducible refine s_go (by simp (disch := omega) only [hlt', top.fin hv mq, c65r0, c65r1, c65r2, c65r3, c65r4, c65r5, c65r7, c65r8, c65r9, c65r10, c65r11, c65r12, c65r14, EV0, EV1, EV2, EV3, EV4, EV5, EV6, EV7, EV8, VALS, plug, ite_same, decide_true, decide_false, eq_self, ↓reduceIte, reduceCtorEq, Nat.reduceAdd, Nat.reduceEqDiff, Nat.reduceLT, Nat.reduceLeDiff, Nat.reduceMul, Nat.reduceSub, Nat.reduceDiv, Int.reduceToNat, Int.reduceAdd, Int.reduceSub, Int.reduceMul, Int.reduceNeg, Int.reduceEq, Int.reduceLT, Int.reduceLE]; with_reducible rfl) ?_
        | ((with_reducible refine chk_r ?_); refine r_callF (by simp only [CA, Nat.reduceEqDiff, ↓reduceIte]; rfl) (by exact rfl) (by simp only [CA, Nat.reduceEqDiff, ↓reduceIte]; rfl) rfl ?_)
        | (with_reducible refine k_condP (by simp only [GA, Nat.reduceEqDiff, ↓reduceIte]; rfl) (by first | (simp only [BO]; rfl) | rfl) (fun ht => ?_) (fun ht => ?_) <;> try (first | exact False.elim ht | exact absurd rfl ht | exact absurd trivial ht | exact Bool.noConfusion ht))
        | (with_reducible refine k_ret ?_; repeat with_reducible (first | refine ret_thru ?_ | refine ret_blk ?_ | refine fin ?_))
        | (with_reducible refine k_exit ?_; repeat with_reducible (first | refine thru ?_ | refine out_blk ?_ | refine pass (by decide) ?_))
        | (refine post1 ?_; simp only [GA, Nat.reduceEqDiff, ↓reduceIte])
        | (refine post2 ?_; simp only [GA, Nat.reduceEqDiff, ↓reduceIte])
        | (refine post3 ?_; simp only [GA, Nat.reduceEqDiff, ↓reduceIte])
        | (refine postc (by simp only [GA, Nat.reduceEqDiff, ↓reduceIte]; rfl) (by simp (disch := omega) only [hlt', top.fin hv mq, c65r0, c65r1, c65r2, c65r3, c65r4, c65r5, c65r7, c65r8, c65r9, c65r10, c65r11, c65r12, c65r14, EV0, EV1, EV2, EV3, EV4, EV5, EV6, EV7, EV8, VALS, plug, ite_same, decide_true, decide_false, eq_self, ↓reduceIte, reduceCtorEq, Nat.reduceAdd, Nat.reduceEqDiff, Nat.reduceLT, Nat.reduceLeDiff, Nat.reduceMul, Nat.reduceSub, Nat.reduceDiv, Int.reduceToNat, Int.reduceAdd, Int.reduceSub, Int.reduceMul, Int.reduceNeg, Int.reduceEq, Int.reduceLT, Int.reduceLE]; rfl) ?_)
        | refine post0 ?_
      all_goals first | exact ends_of | exact ends_eq rfl
end Go.Proofs.Ytbhkbaapfioijaa
set_option linter.unusedVariables false
set_option linter.unusedSimpArgs false
namespace Go.Proofs.Ytbhkbaapfioijaa
open Go Go.Am Go.Proofs Go.Sort
/-! ### TempleMatches -/
theorem pc28 (l : List T) (hl : l.length ≤ 9223372036854775807) (tol : Int) : PC Try.prog 28 [vT l, .i .i64 tol] (.tu [vP (matR l tol), .i .i64 (asked l tol)]) := by
  refine pc_fn fn28 (by simp only [AV.plains, AV.plain, il_plain, bl_plain, Bool.and_true, Bool.true_and, Bool.and_self, flT_plain, flP_plain]) (by simp only [AV.plains, AV.plain, il_plain, bl_plain, Bool.and_true, Bool.true_and, Bool.and_self, flT_plain, flP_plain]) (Nat.le_of_ble_eq_true rfl) ?_
  rw [initSt2]
  have q := pc55 l hl tol
  unfold matR
  by_cases h : asked l tol = 0
  · rw [if_pos h]
    have q2 := pc64 l (asked_ok h).1 tol
    rw [h] at q ⊢
    repeat' first
      | with_reducible refine k_seq ?_
      | with_reducible refine k_skip ?_
      | with_reducible refine k_blkS ?_
      | with_reducible refine k_blkR ?_
      | with_reducible refine k_blkC ?_
      | with_reducible refine k_blkH ?_
      | with_reducible refine k_blkB ?_
      | with_reducible refine k_blkK ?_
      | with_reducible refine k_blkE ?_
      | with_reducible refine k_reg ?_
      | with_reducible refine r_done ?_
      | with_reducible refine s_go (by simp (disch := omega) only [c28r0, c28r1, c28r2, c28r3, c28r4, EV0, EV1, EV2, EV3, EV4, EV5, EV6, EV7, EV8, VALS, plug, ite_same, decide_true, decide_false, eq_self, ↓reduceIte, reduceCtorEq, Nat.reduceAdd, Nat.reduceEqDiff, Nat.reduceLT, Nat.reduceLeDiff, Nat.reduceMul, Nat.reduceSub, Nat.reduceDiv, Int.reduceToNat, Int.reduceAdd, Int.reduceSub, Int.reduceMul, Int.reduceNeg, Int.reduceEq, Int.reduceLT, Int.reduceLE]; with_reducible rfl) ?_
      | ((with_reducible refine chk_r ?_); refine r_callF (by simp only [CA, Nat.reduceEqDiff, ↓reduceIte]; rfl) (by exact rfl) (by simp only [CA, Nat.reduceEqDiff, ↓reduceIte]; rfl) rfl ?_)
      | ((with_reducible refine chk_r ?_); refine r_callP (by simp only [CA, Nat.reduceEqDiff, ↓reduceIte]; rfl) (by simp only [CA, Nat.reduceEqDiff, ↓reduceIte]; rfl) (by first | exact q _ | exact q2 _) rfl ?_)
      | (with_reducible refine k_condP (by simp only [GA, Nat.reduceEqDiff, ↓reduceIte]; rfl) (by first | (simp only [BO]; rfl) | rfl) (fun ht => ?_) (fun ht => ?_) <;> try (first | exact False.elim ht | exact absurd rfl ht | exact absurd trivial ht | exact Bool.noConfusion ht))
      | (with_reducible refine k_ret ?_; repeat with_reducible (first | refine ret_thru ?_ | refine ret_blk ?_ | refine fin ?_))
      | (with_reducible refine k_exit ?_; repeat with_reducible (first | refine thru ?_ | refine out_blk ?_ | refine pass (by decide) ?_))
      | (refine post1 ?_; simp only [GA, Nat.reduceEqDiff, ↓reduceIte])
      | (refine post2 ?_; simp only [GA, Nat.reduceEqDiff, ↓reduceIte])
      | (refine post3 ?_; simp only [GA, Nat.reduceEqDiff, ↓reduceIte])
      | (refine postc (by simp only [GA, Nat.reduceEqDiff, ↓reduceIte]; rfl) (by simp (disch := omega) only [c28r0, c28r1, c28r2, c28r3, c28r4, EV0, EV1, EV2, EV3, EV4, EV5, EV6, EV7, EV8, VALS, plug, ite_same, decide_true, decide_false, eq_self, ↓reduceIte, reduceCtorEq, Nat.reduceAdd, Nat.reduceEqDiff, Nat.reduceLT, Nat.reduceLeDiff, Nat.reduceMul, Nat.reduceSub, Nat.reduceDiv, Int.reduceToNat, Int.reduceAdd, Int.reduceSub, Int.reduceMul, Int.reduceNeg, Int.reduceEq, Int.reduceLT, Int.reduceLE]; rfl) ?_)
      | refine post0 ?_
    all_goals first | exact ends_of | exact ends_eq rfl
  · rw [if_neg h]
    generalize asked l tol = A at q h ⊢
    repeat' first
      | with_reducible refine k_seq ?_
      | with_reducible refine k_skip ?_
      | with_reducible refine k_blkS ?_
      | with_reducible refine k_blkR ?_
      | with_reducible refine k_blkC ?_
      | with_reducible refine k_blkH ?_
      | with_reducible refine k_blkB ?_
      | with_reducible refine k_blkK ?_
      | with_reducible refine k_blkE ?_
      | with_reducible refine k_reg ?_
      | with_reducible refine r_done ?_
      | with_reducible refine s_go (by simp (disch := omega) only [h, c28r0, c28r1, c28r2, c28r3, c28r4, EV0, EV1, EV2, EV3, EV4, EV5, EV6, EV7, EV8, VALS, plug, ite_same, decide_true, decide_false, eq_self, ↓reduceIte, reduceCtorEq, Nat.reduceAdd, Nat.reduceEqDiff, Nat.reduceLT, Nat.reduceLeDiff, Nat.reduceMul, Nat.reduceSub, Nat.reduceDiv, Int.reduceToNat, Int.reduceAdd, Int.reduceSub, Int.reduceMul, Int.reduceNeg, Int.reduceEq, Int.reduceLT, Int.reduceLE]; with_reducible rfl) ?_
      | ((with_reducible refine chk_r ?_); refine r_callF (by simp only [CA, Nat.reduceEqDiff, ↓reduceIte]; rfl) (by exact rfl) (by simp only [CA, Nat.reduceEqDiff, ↓reduceIte]; rfl) rfl ?_)
      | ((with_reducible refine chk_r ?_); refine r_callP (by simp only [CA, Nat.reduceEqDiff, ↓reduceIte]; rfl) (by simp only [CA, Nat.reduceEqDiff, ↓reduceIte]; rfl) (by first | exact q _) rfl ?_)
      | (with_reducible refine k_condP (by simp only [GA, Nat.reduceEqDiff, ↓reduceIte]; rfl) (by first | (simp only [BO]; rfl) | rfl) (fun ht => ?_) (fun ht => ?_) <;> try (first | exact False.elim ht | exact absurd rfl ht | exact absurd trivial ht | exact Bool.noConfusion ht))
      | (with_reducible refine k_ret ?_; repeat with_reducible (first | refine ret_thru ?_ | refine ret_blk ?_ | refine fin ?_))
      | (with_reducible refine k_exit ?_; repeat with_reducible (first | refine thru ?_ | refine out_blk ?_ | refine pass (by decide) ?_))
      | (refine post1 ?_; simp only [GA, Nat.reduceEqDiff, ↓reduceIte])
      | (refine post2 ?_; simp only [GA, Nat.reduceEqDiff, ↓reduceIte])
      | (refine post3 ?_; simp only [GA, Nat.reduceEqDiff, ↓reduceIte])
      | (refine postc (by simp only [GA, Nat.reduceEqDiff, ↓reduceIte]; rfl) (by simp (disch := omega) only [h, c28r0, c28r1, c28r2, c28r3, c28r4, EV0, EV1, EV2, EV3, EV4, EV5, EV6, EV7, EV8, VALS, plug, ite_same, decide_true, decide_false, eq_self, ↓reduceIte, reduceCtorEq, Nat.reduceAdd, Nat.reduceEqDiff, Nat.reduceLT, Nat.reduceLeDiff, Nat.reduceMul, Nat.reduceSub, Nat.reduceDiv, Int.reduceToNat, Int.reduceAdd, Int.reduceSub, Int.reduceMul, Int.reduceNeg, Int.reduceEq, Int.reduceLT, Int.reduceLE]; rfl) ?_)
      | refine post0 ?_
    exact ends_nil2
theorem pc29 (l : List T) (hl : l.length ≤ 9223372036854775807) (tol : Int) : PC Try.prog 29 [vT l, .i .i64 tol] (.tu [.i .i64 ((matR l tol).length : Int), .i .i64 (asked l tol)]) := by
  refine pc_fn fn29 (by simp only [AV.plains, AV.plain, il_plain, bl_plain, Bool.and_true, Bool.true_and, Bool.and_self, flT_plain]) (by simp only [AV.plains, AV.plain, il_plain, bl_plain, Bool.and_true, Bool.true_and, Bool.and_self, flT_plain]) (Nat.le_of_ble_eq_true rfl) ?_
  rw [initSt2]
  have q := pc55 l hl tol
  unfold matR
  by_cases h : asked l tol = 0
  · rw [if_pos h]
    have q2 := pc65 l (asked_ok h).1 tol
    rw [h] at q ⊢
    repeat' first
      | with_reducible refine k_seq ?_
      | with_reducible refine k_skip ?_
      | with_reducible refine k_blkS ?_
      | with_reducible refine k_blkR ?_
      | with_reducible refine k_blkC ?_
      | with_reducible refine k_blkH ?_
      | with_reducible refine k_blkB ?_
      | with_reducible refine k_blkK ?_
      | with_reducible refine k_blkE ?_
      | with_reducible refine k_reg ?_
      | with_reducible refine r_done ?_
      | with_reducible refine s_go (by simp (disch := omega) only [c29r0, c29r1, c29r2, c29r3, c29r4, EV0, EV1, EV2, EV3, EV4, EV5, EV6, EV7, EV8, VALS, plug, ite_same, decide_true, decide_false, eq_self, ↓reduceIte, reduceCtorEq, Nat.reduceAdd, Nat.reduceEqDiff, Nat.reduceLT, Nat.reduceLeDiff, Nat.reduceMul, Nat.reduceSub, Nat.reduceDiv, Int.reduceToNat, Int.reduceAdd, Int.reduceSub, Int.reduceMul, Int.reduceNeg, Int.reduceEq, Int.reduceLT, Int.reduceLE]; with_reducible rfl) ?_
      | ((with_reducible refine chk_r ?_); refine r_callF (by simp only [CA, Nat.reduceEqDiff, ↓reduceIte]; rfl) (by exact rfl) (by simp only [CA, Nat.reduceEqDiff, ↓reduceIte]; rfl) rfl ?_)
      | ((with_reducible refine chk_r ?_); refine r_callP (by simp only [CA, Nat.reduceEqDiff, ↓reduceIte]; rfl) (by simp only [CA, Nat.reduceEqDiff, ↓reduceIte]; rfl) (by first | exact q _ | exact q2 _) rfl ?_)
      | (with_reducible refine k_condP (by simp only [GA, Nat.reduceEqDiff, ↓reduceIte]; rfl) (by first | (simp only [BO]; rfl) | rfl) (fun ht => ?_) (fun ht => ?_) <;> try (first | exact False.elim ht | exact absurd rfl ht | exact absurd trivial ht | exact Bool.noConfusion ht))
      | (with_reducible refine k_ret ?_; repeat with_reducible (first | refine ret_thru ?_ | refine ret_blk ?_ | refine fin ?_))
      | (with_reducible refine k_exit ?_; repeat with_reducible (first | refine thru ?_ | refine out_blk ?_ | refine pass (by decide) ?_))
      | (refine post1 ?_; simp only [GA, Nat.reduceEqDiff, ↓reduceIte])
      | (refine post2 ?_; simp only [GA, Nat.reduceEqDiff, ↓reduceIte])
      | (refine post3 ?_; simp only [GA, Nat.reduceEqDiff, ↓reduceIte])
      | (refine postc (by simp only [GA, Nat.reduceEqDiff, ↓reduceIte]; rfl) (by simp (disch := omega) only [c29r0, c29r1, c29r2, c29r3, c29r4, EV0, EV1, EV2, EV3, EV4, EV5, EV6, EV7, EV8, VALS, plug, ite_same, decide_true, decide_false, eq_self, ↓reduceIte, reduceCtorEq, Nat.reduceAdd, Nat.reduceEqDiff, Nat.reduceLT, Nat.reduceLeDiff, Nat.reduceMul, Nat.reduceSub, Nat.reduceDiv, Int.reduceToNat, Int.reduceAdd, Int.reduceSub, Int.reduceMul, Int.reduceNeg, Int.reduceEq, Int.reduceLT, Int.reduceLE]; rfl) ?_)
      | refine post0 ?_
    all_goals first | exact ends_of | exact ends_eq rfl
  · rw [if_neg h]
    generalize asked l tol = A at q h ⊢
    repeat' first
      | with_reducible refine k_seq ?_
      | with_reducible refine k_skip ?_
      | with_reducible refine k_blkS ?_
      | with_reducible refine k_blkR ?_
      | with_reducible refine k_blkC ?_
      | with_reducible refine k_blkH ?_
      | with_reducible refine k_blkB ?_
      | with_reducible refine k_blkK ?_
      | with_reducible refine k_blkE ?_
      | with_reducible refine k_reg ?_
      | with_reducible refine r_done ?_
      | with_reducible refine s_go (by simp (disch := omega) only [h, c29r0, c29r1, c29r2, c29r3, c29r4, EV0, EV1, EV2, EV3, EV4, EV5, EV6, EV7, EV8, VALS, plug, ite_same, decide_true, decide_false, eq_self, ↓reduceIte, reduceCtorEq, Nat.reduceAdd, Nat.reduceEqDiff, Nat.reduceLT, Nat.reduceLeDiff, Nat.reduceMul, Nat.reduceSub, Nat.reduceDiv, Int.reduceToNat, Int.reduceAdd, Int.reduceSub, Int.reduceMul, Int.reduceNeg, Int.reduceEq, Int.reduceLT, Int.reduceLE]; with_reducible rfl) ?_
      | ((with_reducible refine chk_r ?_); refine r_callF (by simp only [CA, Nat.reduceEqDiff, ↓reduceIte]; rfl) (by exact rfl) (by simp only [CA, Nat.reduceEqDiff, ↓reduceIte]; rfl) rfl ?_)
      | ((with_reducible refine chk_r ?_); refine r_callP (by simp only [CA, Nat.reduceEqDiff, ↓reduceIte]; rfl) (by simp only [CA, Nat.reduceEqDiff, ↓reduceIte]; rfl) (by first | exact q _) rfl ?_)
      | (with_reducible refine k_condP (by simp only [GA, Nat.reduceEqDiff, ↓reduceIte]; rfl) (by first | (simp only [BO]; rfl) | rfl) (fun ht => ?_) (fun ht => ?_) <;> try (first | exact False.elim ht | exact absurd rfl ht | exact absurd trivial ht | exact Bool.noConfusion ht))
      | (with_reducible refine k_ret ?_; repeat with_reducible (first | refine ret_thru ?_ | refine ret_blk ?_ | refine fin ?_))
      | (with_reducible refine k_exit ?_; repeat with_reducible (first | refine thru ?_ | refine out_blk ?_ | refine pass (by decide) ?_))
      | (refine post1 ?_; simp only [GA, Nat.reduceEqDiff, ↓reduceIte])
      | (refine post2 ?_; simp only [GA, Nat.reduceEqDiff, ↓reduceIte])
      | (refine post3 ?_; simp only [GA, Nat.reduceEqDiff, ↓reduceIte])
      | (refine postc (by simp only [GA, Nat.reduceEqDiff, ↓reduceIte]; rfl) (by simp (disch := omega) only [h, c29r0, c29r1, c29r2, c29r3, c29r4, EV0, EV1, EV2, EV3, EV4, EV5, EV6, EV7, EV8, VALS, plug, ite_same, decide_true, decide_false, eq_self, ↓reduceIte, reduceCtorEq, Nat.reduceAdd, Nat.reduceEqDiff, Nat.reduceLT, Nat.reduceLeDiff, Nat.reduceMul, Nat.reduceSub, Nat.reduceDiv, Int.reduceToNat, Int.reduceAdd, Int.reduceSub, Int.reduceMul, Int.reduceNeg, Int.reduceEq, Int.reduceLT, Int.reduceLE]; rfl) ?_)
      | refine post0 ?_
    all_goals first | exact ends_of | exact ends_eq rfl
theorem matR_len (l : List T) (tol : Int) : (matR l tol).length ≤ 9 * l.length := by
  unfold matR
  split
  · exact mc_len l tol 9
  · simp
theorem resR_len (l : List T) (tol : Int) : (resR l tol).length ≤ l.length := by
  unfold resR
  split
  · exact rst_len _ _ _
  · simp
theorem pc6 (l : List T) (hl : l.length ≤ 9223372036854775807) (tol : Int) : PC Try.prog 6 [vT l, .i .i64 tol] (.b true) := by
  refine pc_fn fn6 (by simp only [AV.plains, AV.plain, il_plain, bl_plain, Bool.and_true, Bool.true_and, Bool.and_self, flT_plain]) (by simp only [AV.plains, AV.plain, il_plain, bl_plain, Bool.and_true, Bool.true_and, Bool.and_self, flT_plain]) (Nat.le_of_ble_eq_true rfl) ?_
  rw [initSt2]
  have q23 := pc23 l hl 40
  by_cases h4 : l.length ≤ 40
  · have a1 := pc17 l hl tol
    have a2 := pc28 l hl tol
    have a3 := pc16 l hl tol
    have a4 := pc29 l hl tol
    have a5 := pc30 l hl tol
    have a6 := pc31 l hl tol fun hv => pc64 l hv tol
    have m1 := matR_len l tol
    have m2 := resR_len l tol
    have a7 := pc32 (matR l tol) (by omega)
    have a8 := pc33 (resR l tol) (by omega)
    generalize matR l tol = M at *
    generalize resR l tol = R at *
    generalize asked l tol = A at *
    repeat' first
      | with_reducible refine k_seq ?_
      | with_reducible refine k_skip ?_
      | with_reducible refine k_blkS ?_
      | with_reducible refine k_blkR ?_
      | with_reducible refine k_blkC ?_
      | with_reducible refine k_blkH ?_
      | with_reducible refine k_blkB ?_
      | with_reducible refine k_blkK ?_
      | with_reducible refine k_blkE ?_
      | with_reducible refine k_reg ?_
      | with_reducible refine r_done ?_
      | with_reducible refine s_go (by simp (disch := omega) only [c6r0, c6r1, c6r2, c6r3, c6r4, c6r5, c6r6, c6r7, c6r8, c6r9, EV0, EV1, EV2, EV3, EV4, EV5, EV6, EV7, EV8, VALS, plug, ite_same, decide_true, decide_false, eq_self, ↓reduceIte, reduceCtorEq, Nat.reduceAdd, Nat.reduceEqDiff, Nat.reduceLT, Nat.reduceLeDiff, Nat.reduceMul, Nat.reduceSub, Nat.reduceDiv, Int.reduceToNat, Int.reduceAdd, Int.reduceSub, Int.reduceMul, Int.reduceNeg, Int.reduceEq, Int.reduceLT, Int.reduceLE]; with_reducible rfl) ?_
      | ((with_reducible refine chk_r ?_); refine r_callF (by simp only [CA, Nat.reduceEqDiff, ↓reduceIte]; rfl) (by exact rfl) (by simp only [CA, Nat.reduceEqDiff, ↓reduceIte]; rfl) rfl ?_)
      | ((with_reducible refine chk_r ?_); refine r_callP (by simp only [CA, Nat.reduceEqDiff, ↓reduceIte]; rfl) (by simp only [CA, Nat.reduceEqDiff, ↓reduceIte]; rfl) (by first | exact q23 _ | exact a1 _ | exact a2 _ | exact a3 _ | exact a4 _ | exact a5 _ | exact a6 _ | exact a7 _ | exact a8 _ | exact pc24 _) rfl ?_)
      | ((with_reducible refine chk_r ?_); refine r_callG (by simp only [CA, Nat.reduceEqDiff, ↓reduceIte]; rfl) (by simp only [CA, Nat.reduceEqDiff, ↓reduceIte]; rfl) (by simp only [CA, Nat.reduceEqDiff, ↓reduceIte]; rfl) (by intro hg; (try simp only [BO] at hg); first | exact q23 _ | exact a1 _ | exact a2 _ | exact a3 _ | exact a4 _ | exact a5 _ | exact a6 _ | exact a7 _ | exact a8 _ | exact pc24 _) rfl ?_)
      | (with_reducible refine k_condP (by simp only [GA, Nat.reduceEqDiff, ↓reduceIte]; rfl) (by first | (simp only [BO]; rfl) | rfl) (fun ht => ?_) (fun ht => ?_) <;> try (first | exact False.elim ht | exact absurd rfl ht | exact absurd trivial ht | exact Bool.noConfusion ht))
      | (with_reducible refine k_ret ?_; repeat with_reducible (first | refine ret_thru ?_ | refine ret_blk ?_ | refine fin ?_))
      | (with_reducible refine k_exit ?_; repeat with_reducible (first | refine thru ?_ | refine out_blk ?_ | refine pass (by decide) ?_))
      | (refine post1 ?_; simp only [GA, Nat.reduceEqDiff, ↓reduceIte])
      | (refine post2 ?_; simp only [GA, Nat.reduceEqDiff, ↓reduceIte])
      | (refine post3 ?_; simp only [GA, Nat.reduceEqDiff, ↓reduceIte])
      | (refine postc (by simp only [GA, Nat.reduceEqDiff, ↓reduceIte]; rfl) (by simp (disch := omega) only [c6r0, c6r1, c6r2, c6r3, c6r4, c6r5, c6r6, c6r7, c6r8, c6r9, EV0, EV1, EV2, EV3, EV4, EV5, EV6, EV7, EV8, VALS, plug, ite_same, decide_true, decide_false, eq_self, ↓reduceIte, reduceCtorEq, Nat.reduceAdd, Nat.reduceEqDiff, Nat.reduceLT, Nat.reduceLeDiff, Nat.reduceMul, Nat.reduceSub, Nat.reduceDiv, Int.reduceToNat, Int.reduceAdd, Int.reduceSub, Int.reduceMul, Int.reduceNeg, Int.reduceEq, Int.reduceLT, Int.reduceLE]; rfl) ?_)
      | refine post0 ?_
    all_goals first | exact ends_of | (exfalso; omega)
  · repeat' first
      | with_reducible refine k_seq ?_
      | with_reducible refine k_skip ?_
      | with_reducible refine k_blkS ?_
      | with_reducible refine k_blkR ?_
      | with_reducible refine k_blkC ?_
      | with_reducible refine k_blkH ?_
      | with_reducible refine k_blkB ?_
      | with_reducible refine k_blkK ?_
      | with_reducible refine k_blkE ?_
      | with_reducible refine k_reg ?_
      | with_reducible refine r_done ?_
      | with_reducible refine s_go (by simp (disch := omega) only [c6r0, c6r1, c6r2, c6r3, c6r4, c6r5, c6r6, c6r7, c6r8, c6r9, EV0, EV1, EV2, EV3, EV4, EV5, EV6, EV7, EV8, VALS, plug, ite_same, decide_true, decide_false, eq_self, ↓reduceIte, reduceCtorEq, Nat.reduceAdd, Nat.reduceEqDiff, Nat.reduceLT, Nat.reduceLeDiff, Nat.reduceMul, Nat.reduceSub, Nat.reduceDiv, Int.reduceToNat, Int.reduceAdd, Int.reduceSub, Int.reduceMul, Int.reduceNeg, Int.reduceEq, Int.reduceLT, Int.reduceLE]; with_reducible rfl) ?_
      | ((with_reducible refine chk_r ?_); refine r_callF (by simp only [CA, Nat.reduceEqDiff, ↓reduceIte]; rfl) (by exact rfl) (by simp only [CA, Nat.reduceEqDiff, ↓reduceIte]; rfl) rfl ?_)
      | ((with_reducible refine chk_r ?_); refine r_callP (by simp only [CA, Nat.reduceEqDiff, ↓reduceIte]; rfl) (by simp only [CA, Nat.reduceEqDiff, ↓reduceIte]; rfl) (by first | exact q23 _ | exact pc24 _) rfl ?_)
      | ((with_reducible refine chk_r ?_); refine r_callG (by simp only [CA, Nat.reduceEqDiff, ↓reduceIte]; rfl) (by simp only [CA, Nat.reduceEqDiff, ↓reduceIte]; rfl) (by simp only [CA, Nat.reduceEqDiff, ↓reduceIte]; rfl) (by intro hg; (try simp only [BO] at hg); first | exact q23 _ | exact pc24 _) rfl ?_)
      | (with_reducible refine k_condP (by simp only [GA, Nat.reduceEqDiff, ↓reduceIte]; rfl) (by first | (simp only [BO]; rfl) | rfl) (fun ht => ?_) (fun ht => ?_) <;> try (first | exact False.elim ht | exact absurd rfl ht | exact absurd trivial ht | exact Bool.noConfusion ht))
      | (with_reducible refine k_ret ?_; repeat with_reducible (first | refine ret_thru ?_ | refine ret_blk ?_ | refine fin ?_))
      | (with_reducible refine k_exit ?_; repeat with_reducible (first | refine thru ?_ | refine out_blk ?_ | refine pass (by decide) ?_))
      | (refine post1 ?_; simp only [GA, Nat.reduceEqDiff, ↓reduceIte])
      | (refine post2 ?_; simp only [GA, Nat.reduceEqDiff, ↓reduceIte])
      | (refine post3 ?_; simp only [GA, Nat.reduceEqDiff, ↓reduceIte])
      | (refine postc (by simp only [GA, Nat.reduceEqDiff, ↓reduceIte]; rfl) (by simp (disch := omega) only [c6r0, c6r1, c6r2, c6r3, c6r4, c6r5, c6r6, c6r7, c6r8, c6r9, EV0, EV1, EV2, EV3, EV4, EV5, EV6, EV7, EV8, VALS, plug, ite_same, decide_true, decide_false, eq_self, ↓reduceIte, reduceCtorEq, Nat.reduceAdd, Nat.reduceEqDiff, Nat.reduceLT, Nat.reduceLeDiff, Nat.reduceMul, Nat.reduceSub, Nat.reduceDiv, Int.reduceToNat, Int.reduceAdd, Int.reduceSub, Int.reduceMul, Int.reduceNeg, Int.reduceEq, Int.reduceLT, Int.reduceLE]; rfl) ?_)
      | refine post0 ?_
    all_goals first | exact ends_of | (exfalso; omega)
end Go.Proofs.Ytbhkbaapfioijaa
