/- What the proof of the law needs: the abstract machine, the functions as it reads them, their contracts, part 5. -/
import Derived.Test.YtjaihaccehaicaaDoorZd
import Derived.Shelf.SlicesG.Reverse
set_option linter.unusedVariables false
set_option linter.unusedSimpArgs false
namespace Go.Proofs.YtjaihaccehaicaaDoor
open Go Go.Am Go.Proofs
theorem n69 (l : List Int) (hl : l.length ≤ 1000) (h : AH) : FCalls Tryd.prog 42 [.fn 90 [] [.pv [vi l] 0]] h none l.length 1 (il l) := by
 refine fresh_call rfl (il_plain _) fun h0 hr _ => ?_
 refine a_fn fn42 (by simp) fun ok pos => ?_
 rw [initSt1]
 repeat' first | (with_reducible first | refine kzq ?_ | refine kzs ?_ | refine kzS ?_ | refine kzR ?_ | refine kzC ?_ | refine kzH ?_ | refine kzB ?_ | refine kzK ?_ | refine kzE ?_ | refine kzg ?_) | with_reducible refine r_done ?_ | with_reducible refine s_go (by simp (disch := omega) only [c42r0, c42r1, EVA, plug, eq_self, simprocAttr]; with_reducible rfl) ?_ | ((with_reducible refine kzr ?_); refine zrF ?_) | ((with_reducible refine kzr ?_); refine r_callN (by simp only [CA, simprocAttr]; rfl) (by simp only [CA, simprocAttr]; rfl) (by first | exact n81 _ hl _) rfl ?_) | (with_reducible refine zkP (fun ht => ?_) (fun ht => ?_) <;> try first | exact False.elim ht | exact absurd rfl ht | exact absurd trivial ht | exact Bool.noConfusion ht) | (with_reducible (refine k_ret ?_; repeat first | refine kzt ?_ | refine kzb ?_ | refine fin ?_)) | (with_reducible (refine kzx ?_; repeat first | refine thru ?_ | refine kzo ?_ | refine pass (by decide) ?_)) | ((first | refine post1 ?_ | refine post2 ?_ | refine post3 ?_); simp only [GA, simprocAttr]) | refine post0 ?_
 exact ⟨_, rfl, _, 0, 1, rfl, .inr ⟨_, rfl, by simp (disch := omega) only [c42r0, c42r1, EVA, plug, eq_self, simprocAttr] <;> rfl, by rw [il_len]; omega, by rw [List.drop_zero, List.take_of_length_le (by rw [il_len]; omega)]⟩⟩
def srtZ (l : List Int) : List Int := l.mergeSort fun x y => decide (x ≤ y)
theorem srtZ_len (l : List Int) : (srtZ l).length = l.length := List.length_mergeSort _
theorem RG84 : (type_of% @c84r0.eq_1) ∧ (type_of% @c84r1.eq_1) ∧ (type_of% @c84r2.eq_1) ∧ (type_of% @c84r3.eq_1) := ⟨@c84r0.eq_1, @c84r1.eq_1, @c84r2.eq_1, @c84r3.eq_1⟩
theorem pc55 (l : List Int) (hl : l.length ≤ 1000) : PC Tryd.prog 84 [.fn 90 [] [.pv [vi l] 0]] (vi (srtZ l)) := by
 refine pc_fn fn84 (by simp only [AV.plains, AV.plain, il_plain, bl_plain, Bool.and_true, Bool.true_and, Bool.and_self, il_plain]) (by simp only [AV.plains, AV.plain, il_plain, bl_plain, Bool.and_true, Bool.true_and, Bool.and_self, il_plain]) (Nat.le_of_ble_eq_true rfl) ?_
 rw [initSt1]
 have q70 := fun h t hm => sort_int sortI (h := h) (t := t) (a := 1) (d := l) hm (by omega)
 repeat' first | (with_reducible first | refine kzq ?_ | refine kzs ?_ | refine kzS ?_ | refine kzR ?_ | refine kzC ?_ | refine kzH ?_ | refine kzB ?_ | refine kzK ?_ | refine kzE ?_ | refine kzg ?_) | with_reducible refine r_done ?_ | with_reducible refine s_go (by simp (disch := omega) only [RG84, EVA, plug, eq_self, simprocAttr]; with_reducible rfl) ?_ | ((with_reducible refine kzr ?_); refine zrF ?_) | ((with_reducible refine kzr ?_); refine r_callN (by simp only [CA, simprocAttr]; rfl) (by simp only [CA, simprocAttr]; rfl) (by first | exact n69 _ hl _) rfl ?_) | ((with_reducible refine kzr ?_); refine r_callX (by simp only [CA, simprocAttr]; rfl) (by simp only [CA, simprocAttr]; rfl) (by first | exact q70 _ _ (by simp (disch := omega) only [RG84, EVA, plug, eq_self, simprocAttr] <;> rfl)) rfl ?_) | (with_reducible refine zkP (fun ht => ?_) (fun ht => ?_) <;> try first | exact False.elim ht | exact absurd rfl ht | exact absurd trivial ht | exact Bool.noConfusion ht) | (with_reducible (refine k_ret ?_; repeat first | refine kzt ?_ | refine kzb ?_ | refine fin ?_)) | (with_reducible (refine kzx ?_; repeat first | refine thru ?_ | refine kzo ?_ | refine pass (by decide) ?_)) | ((first | refine post1 ?_ | refine post2 ?_ | refine post3 ?_); simp only [GA, simprocAttr]) | refine post0 ?_
 rintro r h2 ⟨rfl, rfl⟩
 repeat' first | (with_reducible first | refine kzq ?_ | refine kzs ?_ | refine kzS ?_ | refine kzR ?_ | refine kzC ?_ | refine kzH ?_ | refine kzB ?_ | refine kzK ?_ | refine kzE ?_ | refine kzg ?_) | with_reducible refine r_done ?_ | with_reducible refine s_go (by simp (disch := omega) only [RG84, EVA, plug, eq_self, simprocAttr]; with_reducible rfl) ?_ | ((with_reducible refine kzr ?_); refine zrF ?_) | (with_reducible refine zkP (fun ht => ?_) (fun ht => ?_) <;> try first | exact False.elim ht | exact absurd rfl ht | exact absurd trivial ht | exact Bool.noConfusion ht) | (with_reducible (refine k_ret ?_; repeat first | refine kzt ?_ | refine kzb ?_ | refine fin ?_)) | (with_reducible (refine kzx ?_; repeat first | refine thru ?_ | refine kzo ?_ | refine pass (by decide) ?_)) | ((first | refine post1 ?_ | refine post2 ?_ | refine post3 ?_); simp only [GA, simprocAttr]) | refine post0 ?_
 all_goals
  rw [← srtZ_len l]
  exact ends_sl (k := 1) (cs := il (srtZ l)) (by simp (disch := omega) only [RG84, EVA, plug, eq_self, simprocAttr] <;> rfl) (by rw [il_len, Nat.mul_one])
def fi (p : Nat → Bool) : Nat → Int
 | 0 => -1
 | k + 1 => if 0 ≤ fi p k then fi p k else if p k = true then k else -1
theorem fi_none {p : Nat → Bool} : ∀ {k : Nat}, (∀ j, j < k → p j = false) → fi p k = -1
 | 0, _ => rfl
 | k + 1, h => by
   have := fi_none (k := k) fun j hj => h j (by omega)
   simp only [fi, this, h k (by omega)]
   rfl
theorem fi_at {p : Nat → Bool} {k : Nat} (h : ∀ j, j < k → p j = false) (hp : p k = true) : ∀ {n : Nat}, k < n → fi p n = k
 | 0, hk => by omega
 | n + 1, hk => by
   by_cases e : k = n
   ·subst e
    simp only [fi, fi_none h, hp, if_true]
    rfl
   ·have := fi_at h hp (n := n) (by omega)
    simp only [fi, this]
    rw [if_pos (by omega)]
theorem fi_ge {p : Nat → Bool} : ∀ {n : Nat}, 0 ≤ fi p n ↔ ∃ j, j < n ∧ p j = true
 | 0 => by simp [fi]
 | n + 1 => by
   have ih := fi_ge (p := p) (n := n)
   simp only [fi]
   by_cases h : 0 ≤ fi p n
   ·rw [if_pos h]
    exact ⟨fun _ => let ⟨j, hj, hp⟩ := ih.1 h; ⟨j, by omega, hp⟩, fun _ => h⟩
   ·rw [if_neg h]
    by_cases hp : p n = true
    ·rw [if_pos hp]
     exact ⟨fun _ => ⟨n, by omega, hp⟩, fun _ => by omega⟩
    ·rw [if_neg hp]
     refine ⟨fun q => by omega, fun ⟨j, hj, q⟩ => ?_⟩
     exfalso
     by_cases e : j = n
     ·subst e; exact hp q
     ·exact h (ih.2 ⟨j, by omega, q⟩)
theorem RG82 : (type_of% @c82r0.eq_1) ∧ (type_of% @c82r1.eq_1) ∧ (type_of% @c82r2.eq_1) ∧ (type_of% @c82r3.eq_1) ∧ (type_of% @c82r4.eq_1) ∧ (type_of% @c82r5.eq_1) ∧ (type_of% @c82r6.eq_1) ∧ (type_of% @c82r8.eq_1) := ⟨@c82r0.eq_1, @c82r1.eq_1, @c82r2.eq_1, @c82r3.eq_1, @c82r4.eq_1, @c82r5.eq_1, @c82r6.eq_1, @c82r8.eq_1⟩
theorem pc58 (l : List Int) (hl : l.length ≤ 9223372036854775807) (g : Nat) (caps : List AV) (hcp : AV.plains caps = true) (p : Int → Bool) (hp : ∀ x, PC Tryd.prog g (.i .i64 x :: caps) (.b (p x))) :
 PC Tryd.prog 82 [vi l, .fn g [] caps] (.i .i64 (fi (fun i => p (l.getD i 0)) l.length)) := by
 refine pc_fn fn82 (by simp only [AV.plains, AV.plain, il_plain, bl_plain, Bool.and_true, Bool.true_and, Bool.and_self, il_plain, hcp]) (by simp only [AV.plains, AV.plain, il_plain, bl_plain, Bool.and_true, Bool.true_and, Bool.and_self, il_plain, hcp]) (Nat.le_of_ble_eq_true rfl) ?_
 rw [initSt2]
 repeat' first | (with_reducible first | refine kzq ?_ | refine kzs ?_ | refine kzS ?_ | refine kzR ?_ | refine kzC ?_ | refine kzH ?_ | refine kzB ?_ | refine kzK ?_ | refine kzE ?_ | refine kzg ?_) | with_reducible refine r_done ?_ | with_reducible refine s_go (by simp (disch := omega) only [RG82, EVA, plug, eq_self, simprocAttr]; with_reducible rfl) ?_ | ((with_reducible refine kzr ?_); refine zrF ?_) | (with_reducible refine zkP (fun ht => ?_) (fun ht => ?_) <;> try first | exact False.elim ht | exact absurd rfl ht | exact absurd trivial ht | exact Bool.noConfusion ht) | (with_reducible (refine k_ret ?_; repeat first | refine kzt ?_ | refine kzb ?_ | refine fin ?_)) | (with_reducible (refine kzx ?_; repeat first | refine thru ?_ | refine kzo ?_ | refine pass (by decide) ?_)) | ((first | refine post1 ?_ | refine post2 ?_ | refine post3 ?_); simp only [GA, simprocAttr]) | refine post0 ?_
 refine k_blk (k_loopS (X := Unit) [0, 1, 7, 8] l.length (fun k _ => [(0, vi l), (1, .fn g [] caps), (7, .i .i64 l.length), (8, .i .i64 (k : Int))]) (fun k _ h => ∀ j, j < k → p (l.getD j 0) = false) () (by simp only [Am.keep, ZK, simprocAttr]; try rfl) (fun j hj => by omega) ?_)
 rintro k _ h hk hf ok pos
 by_cases hlt : k < l.length
 ·have hlt' : (k : Int) < l.length := by omega
  have gl := il_get hlt
  have q := hp (l.getD k 0)
  cases hm : p (l.getD k 0) with
  | true =>
    rw [hm] at q
    rw [fi_at (p := fun i => p (l.getD i 0)) hf hm hlt]
    repeat' first | (with_reducible first | refine kzq ?_ | refine kzs ?_ | refine kzS ?_ | refine kzR ?_ | refine kzC ?_ | refine kzH ?_ | refine kzB ?_ | refine kzK ?_ | refine kzE ?_ | refine kzg ?_) | with_reducible refine r_done ?_ | with_reducible refine s_go (by simp (disch := omega) only [hlt', gl, RG82, EVA, plug, eq_self, simprocAttr]; with_reducible rfl) ?_ | ((with_reducible refine kzr ?_); refine zrF ?_) | ((with_reducible refine kzr ?_); refine zrP (c := by first | exact q _) (k := ?_)) | (with_reducible refine zkP (fun ht => ?_) (fun ht => ?_) <;> try first | exact False.elim ht | exact absurd rfl ht | exact absurd trivial ht | exact Bool.noConfusion ht) | (with_reducible (refine k_ret ?_; repeat first | refine kzt ?_ | refine kzb ?_ | refine fin ?_)) | (with_reducible (refine kzx ?_; repeat first | refine thru ?_ | refine kzo ?_ | refine pass (by decide) ?_)) | ((first | refine post1 ?_ | refine post2 ?_ | refine post3 ?_); simp only [GA, simprocAttr]) | refine post0 ?_
    all_goals first | exact ends_of | exact ends_eq rfl
  | false =>
    rw [hm] at q
    have hf2 : ∀ j, j < k + 1 → p (l.getD j 0) = false := fun j hj => by
     by_cases e : j = k
     ·subst e; exact hm
     ·exact hf j (by omega)
    repeat' first | (with_reducible first | refine kzq ?_ | refine kzs ?_ | refine kzS ?_ | refine kzR ?_ | refine kzC ?_ | refine kzH ?_ | refine kzB ?_ | refine kzK ?_ | refine kzE ?_ | refine kzg ?_) | with_reducible refine r_done ?_ | with_reducible refine s_go (by simp (disch := omega) only [hlt', gl, RG82, EVA, plug, eq_self, simprocAttr]; with_reducible rfl) ?_ | ((with_reducible refine kzr ?_); refine zrF ?_) | ((with_reducible refine kzr ?_); refine zrP (c := by first | exact q _) (k := ?_)) | (with_reducible refine zkP (fun ht => ?_) (fun ht => ?_) <;> try first | exact False.elim ht | exact absurd rfl ht | exact absurd trivial ht | exact Bool.noConfusion ht) | (with_reducible (refine k_ret ?_; repeat first | refine kzt ?_ | refine kzb ?_ | refine fin ?_)) | (with_reducible (refine kzx ?_; repeat first | refine thru ?_ | refine kzo ?_ | refine pass (by decide) ?_)) | ((first | refine post1 ?_ | refine post2 ?_ | refine post3 ?_); simp only [GA, simprocAttr]) | refine post0 ?_
    exact ⟨hlt, (), (by simp only [Am.keep, ZK, simprocAttr]; try rfl), hf2⟩
 ·obtain rfl : k = l.length := by omega
  have hlt' : ¬ (l.length : Int) < l.length := by omega
  rw [fi_none (p := fun i => p (l.getD i 0)) hf]
  repeat' first | (with_reducible first | refine kzq ?_ | refine kzs ?_ | refine kzS ?_ | refine kzR ?_ | refine kzC ?_ | refine kzH ?_ | refine kzB ?_ | refine kzK ?_ | refine kzE ?_ | refine kzg ?_) | with_reducible refine r_done ?_ | with_reducible refine s_go (by simp (disch := omega) only [hlt', RG82, EVA, plug, eq_self, simprocAttr]; with_reducible rfl) ?_ | ((with_reducible refine kzr ?_); refine zrF ?_) | (with_reducible refine zkP (fun ht => ?_) (fun ht => ?_) <;> try first | exact False.elim ht | exact absurd rfl ht | exact absurd trivial ht | exact Bool.noConfusion ht) | (with_reducible (refine k_ret ?_; repeat first | refine kzt ?_ | refine kzb ?_ | refine fin ?_)) | (with_reducible (refine kzx ?_; repeat first | refine thru ?_ | refine kzo ?_ | refine pass (by decide) ?_)) | ((first | refine post1 ?_ | refine post2 ?_ | refine post3 ?_); simp only [GA, simprocAttr]) | refine post0 ?_
  all_goals first | exact ends_of | exact ends_eq rfl
def anyZ (p : Int → Bool) (l : List Int) : Bool := decide (0 ≤ fi (fun i => p (l.getD i 0)) l.length)
theorem anyZ_iff {p : Int → Bool} {l : List Int} : anyZ p l = true ↔ ∃ x ∈ l, p x = true := by
 unfold anyZ
 rw [decide_eq_true_eq, fi_ge]
 constructor
 ·rintro ⟨j, hj, q⟩
  rw [List.getD_eq_getElem?_getD, List.getElem?_eq_getElem hj] at q
  exact ⟨_, List.getElem_mem hj, q⟩
 ·rintro ⟨x, hx, q⟩
  obtain ⟨j, hj, rfl⟩ := List.getElem_of_mem hx
  exact ⟨j, hj, by simpa [hj] using q⟩
theorem pc35 (l : List Int) (hl : l.length ≤ 9223372036854775807) (g : Nat) (caps : List AV) (hcp : AV.plains caps = true) (p : Int → Bool) (hp : ∀ x, PC Tryd.prog g (.i .i64 x :: caps) (.b (p x))) :
 PC Tryd.prog 66 [vi l, .fn g [] caps] (.b (anyZ p l)) := by
 have q := pc58 l hl g caps hcp p hp
 refine pc_fn fn66 (by simp only [AV.plains, AV.plain, il_plain, bl_plain, Bool.and_true, Bool.true_and, Bool.and_self, il_plain, hcp]) (by simp only [AV.plains, AV.plain, il_plain, bl_plain, Bool.and_true, Bool.true_and, Bool.and_self, il_plain, hcp]) (Nat.le_of_ble_eq_true rfl) ?_
 rw [initSt2]
 repeat' first | (with_reducible first | refine kzq ?_ | refine kzs ?_ | refine kzS ?_ | refine kzR ?_ | refine kzC ?_ | refine kzH ?_ | refine kzB ?_ | refine kzK ?_ | refine kzE ?_ | refine kzg ?_) | with_reducible refine r_done ?_ | with_reducible refine s_go (by simp (disch := omega) only [c66r0, c66r1, EVA, plug, eq_self, simprocAttr]; with_reducible rfl) ?_ | ((with_reducible refine kzr ?_); refine zrF ?_) | ((with_reducible refine kzr ?_); refine zrP (c := by first | exact q _) (k := ?_)) | (with_reducible refine zkP (fun ht => ?_) (fun ht => ?_) <;> try first | exact False.elim ht | exact absurd rfl ht | exact absurd trivial ht | exact Bool.noConfusion ht) | (with_reducible (refine k_ret ?_; repeat first | refine kzt ?_ | refine kzb ?_ | refine fin ?_)) | (with_reducible (refine kzx ?_; repeat first | refine thru ?_ | refine kzo ?_ | refine pass (by decide) ?_)) | ((first | refine post1 ?_ | refine post2 ?_ | refine post3 ?_); simp only [GA, simprocAttr]) | refine post0 ?_
 all_goals first | exact ends_of | exact ends_eq rfl
theorem pc37 (a b c : Int) : PC Tryd.prog 64 [.i .i64 a, .i .i64 b, .i .i64 c] (.b (decide (a ≤ b) && decide (b ≤ c))) := by
 refine pc_fn fn64 (by simp only [AV.plains, AV.plain, il_plain, bl_plain, Bool.and_true, Bool.true_and, Bool.and_self]) (by simp only [AV.plains, AV.plain, il_plain, bl_plain, Bool.and_true, Bool.true_and, Bool.and_self]) (Nat.le_of_ble_eq_true rfl) ?_
 rw [initSt3]
 repeat' first | (with_reducible first | refine kzq ?_ | refine kzs ?_ | refine kzS ?_ | refine kzR ?_ | refine kzC ?_ | refine kzH ?_ | refine kzB ?_ | refine kzK ?_ | refine kzE ?_ | refine kzg ?_) | with_reducible refine r_done ?_ | with_reducible refine s_go (by simp (disch := omega) only [c64r0, c64r1, EVA, plug, eq_self, simprocAttr]; with_reducible rfl) ?_ | ((with_reducible refine kzr ?_); refine zrF ?_) | (with_reducible refine zkP (fun ht => ?_) (fun ht => ?_) <;> try first | exact False.elim ht | exact absurd rfl ht | exact absurd trivial ht | exact Bool.noConfusion ht) | (with_reducible (refine k_ret ?_; repeat first | refine kzt ?_ | refine kzb ?_ | refine fin ?_)) | (with_reducible (refine kzx ?_; repeat first | refine thru ?_ | refine kzo ?_ | refine pass (by decide) ?_)) | ((first | refine post1 ?_ | refine post2 ?_ | refine post3 ?_); simp only [GA, simprocAttr]) | refine post0 ?_
 all_goals first | exact ends_of | exact ends_eq rfl
def farZ (x : Int) : Bool := !(decide (-1000000 ≤ x) && decide (x ≤ 1000000))
theorem pc54 (x : Int) : PC Tryd.prog 83 [.i .i64 x] (.b (farZ x)) := by
 refine pc_fn fn83 (by simp only [AV.plains, AV.plain, il_plain, bl_plain, Bool.and_true, Bool.true_and, Bool.and_self]) (by simp only [AV.plains, AV.plain, il_plain, bl_plain, Bool.and_true, Bool.true_and, Bool.and_self]) (Nat.le_of_ble_eq_true rfl) ?_
 rw [initSt1]
 repeat' first | (with_reducible first | refine kzq ?_ | refine kzs ?_ | refine kzS ?_ | refine kzR ?_ | refine kzC ?_ | refine kzH ?_ | refine kzB ?_ | refine kzK ?_ | refine kzE ?_ | refine kzg ?_) | with_reducible refine r_done ?_ | with_reducible refine s_go (by simp (disch := omega) only [c83r0, c83r1, EVA, plug, eq_self, simprocAttr]; with_reducible rfl) ?_ | ((with_reducible refine kzr ?_); refine zrF ?_) | ((with_reducible refine kzr ?_); refine zrP (c := by first | exact pc37 _ _ _ _) (k := ?_)) | (with_reducible refine zkP (fun ht => ?_) (fun ht => ?_) <;> try first | exact False.elim ht | exact absurd rfl ht | exact absurd trivial ht | exact Bool.noConfusion ht) | (with_reducible (refine k_ret ?_; repeat first | refine kzt ?_ | refine kzb ?_ | refine fin ?_)) | (with_reducible (refine kzx ?_; repeat first | refine thru ?_ | refine kzo ?_ | refine pass (by decide) ?_)) | ((first | refine post1 ?_ | refine post2 ?_ | refine post3 ?_); simp only [GA, simprocAttr]) | refine post0 ?_
 all_goals first | exact ends_of | exact ends_eq rfl
def widOk (w : Int) : Bool := decide (0 ≤ w) && decide (w ≤ 1000000)
def valR (l : List Int) (w : Int) : List Int × Int := if 200 < l.length then ([], 4) else if widOk w = false ∨ anyZ farZ l = true then ([], 2) else (srtZ l, 0)
theorem RG72 : (type_of% @c72r0.eq_1) ∧ (type_of% @c72r1.eq_1) ∧ (type_of% @c72r2.eq_1) ∧ (type_of% @c72r3.eq_1) ∧ (type_of% @c72r4.eq_1) ∧ (type_of% @c72r5.eq_1) := ⟨@c72r0.eq_1, @c72r1.eq_1, @c72r2.eq_1, @c72r3.eq_1, @c72r4.eq_1, @c72r5.eq_1⟩
theorem pc31 (l : List Int) (hl : l.length ≤ 9223372036854775807) (w : Int) : PC Tryd.prog 72 [vi l, .i .i64 w] (.tu [vi (valR l w).1, .i .i64 (valR l w).2]) := by
 unfold valR
 refine pc_fn fn72 (by simp only [AV.plains, AV.plain, il_plain, bl_plain, Bool.and_true, Bool.true_and, Bool.and_self, il_plain]) (by simp only [AV.plains, AV.plain, il_plain, bl_plain, Bool.and_true, Bool.true_and, Bool.and_self, il_plain]) (Nat.le_of_ble_eq_true rfl) ?_
 rw [initSt2]
 by_cases h1 : 200 < l.length
 ·rw [if_pos h1]
  have h1' : (200 : Int) < l.length := by omega
  repeat' first | (with_reducible first | refine kzq ?_ | refine kzs ?_ | refine kzS ?_ | refine kzR ?_ | refine kzC ?_ | refine kzH ?_ | refine kzB ?_ | refine kzK ?_ | refine kzE ?_ | refine kzg ?_) | with_reducible refine r_done ?_ | with_reducible refine s_go (by simp (disch := omega) only [h1', RG72, EVA, plug, eq_self, simprocAttr]; with_reducible rfl) ?_ | ((with_reducible refine kzr ?_); refine zrF ?_) | (with_reducible refine zkP (fun ht => ?_) (fun ht => ?_) <;> try first | exact False.elim ht | exact absurd rfl ht | exact absurd trivial ht | exact Bool.noConfusion ht) | (with_reducible (refine k_ret ?_; repeat first | refine kzt ?_ | refine kzb ?_ | refine fin ?_)) | (with_reducible (refine kzx ?_; repeat first | refine thru ?_ | refine kzo ?_ | refine pass (by decide) ?_)) | ((first | refine post1 ?_ | refine post2 ?_ | refine post3 ?_); simp only [GA, simprocAttr]) | refine post0 ?_
  exact ends_nil2
 ·rw [if_neg h1]
  have h1' : ¬ (200 : Int) < l.length := by omega
  have q37 : PC Tryd.prog 64 [.i .i64 0, .i .i64 w, .i .i64 1000000] (.b (widOk w)) := pc37 0 w 1000000
  cases hw : widOk w with
  | false =>
    rw [hw] at q37
    rw [if_pos (.inl rfl)]
    repeat' first | (with_reducible first | refine kzq ?_ | refine kzs ?_ | refine kzS ?_ | refine kzR ?_ | refine kzC ?_ | refine kzH ?_ | refine kzB ?_ | refine kzK ?_ | refine kzE ?_ | refine kzg ?_) | with_reducible refine r_done ?_ | with_reducible refine s_go (by simp (disch := omega) only [h1', RG72, EVA, plug, eq_self, simprocAttr]; with_reducible rfl) ?_ | ((with_reducible refine kzr ?_); refine zrF ?_) | ((with_reducible refine kzr ?_); refine zrP (c := by first | exact q37 _) (k := ?_)) | ((with_reducible refine kzr ?_); refine zrG (c := by intro hg; (try simp only [BO] at hg); first | exact q37 _) (k := ?_)) | (with_reducible refine zkP (fun ht => ?_) (fun ht => ?_) <;> try first | exact False.elim ht | exact absurd rfl ht | exact absurd trivial ht | exact Bool.noConfusion ht) | (with_reducible (refine k_ret ?_; repeat first | refine kzt ?_ | refine kzb ?_ | refine fin ?_)) | (with_reducible (refine kzx ?_; repeat first | refine thru ?_ | refine kzo ?_ | refine pass (by decide) ?_)) | ((first | refine post1 ?_ | refine post2 ?_ | refine post3 ?_); simp only [GA, simprocAttr]) | refine post0 ?_
    exact ends_nil2
  | true =>
    rw [hw] at q37
    have q35 := pc35 l hl 83 [] rfl farZ pc54
    cases ha : anyZ farZ l with
    | true =>
      rw [ha] at q35
      rw [if_pos (.inr rfl)]
      repeat' first | (with_reducible first | refine kzq ?_ | refine kzs ?_ | refine kzS ?_ | refine kzR ?_ | refine kzC ?_ | refine kzH ?_ | refine kzB ?_ | refine kzK ?_ | refine kzE ?_ | refine kzg ?_) | with_reducible refine r_done ?_ | with_reducible refine s_go (by simp (disch := omega) only [h1', RG72, EVA, plug, eq_self, simprocAttr]; with_reducible rfl) ?_ | ((with_reducible refine kzr ?_); refine zrF ?_) | ((with_reducible refine kzr ?_); refine zrP (c := by first | exact q37 _ | exact q35 _) (k := ?_)) | ((with_reducible refine kzr ?_); refine zrG (c := by intro hg; (try simp only [BO] at hg); first | exact q37 _ | exact q35 _) (k := ?_)) | (with_reducible refine zkP (fun ht => ?_) (fun ht => ?_) <;> try first | exact False.elim ht | exact absurd rfl ht | exact absurd trivial ht | exact Bool.noConfusion ht) | (with_reducible (refine k_ret ?_; repeat first | refine kzt ?_ | refine kzb ?_ | refine fin ?_)) | (with_reducible (refine kzx ?_; repeat first | refine thru ?_ | refine kzo ?_ | refine pass (by decide) ?_)) | ((first | refine post1 ?_ | refine post2 ?_ | refine post3 ?_); simp only [GA, simprocAttr]) | refine post0 ?_
      exact ends_nil2
    | false =>
      rw [ha] at q35
      rw [if_neg (by simp)]
      repeat' first | (with_reducible first | refine kzq ?_ | refine kzs ?_ | refine kzS ?_ | refine kzR ?_ | refine kzC ?_ | refine kzH ?_ | refine kzB ?_ | refine kzK ?_ | refine kzE ?_ | refine kzg ?_) | with_reducible refine r_done ?_ | with_reducible refine s_go (by simp (disch := omega) only [h1', RG72, EVA, plug, eq_self, simprocAttr]; with_reducible rfl) ?_ | ((with_reducible refine kzr ?_); refine zrF ?_) | ((with_reducible refine kzr ?_); refine zrP (c := by first | exact q37 _ | exact q35 _ | exact pc56 _ _ | exact pc55 _ (by omega) _) (k := ?_)) | ((with_reducible refine kzr ?_); refine zrG (c := by intro hg; (try simp only [BO] at hg); first | exact q37 _ | exact q35 _ | exact pc56 _ _ | exact pc55 _ (by omega) _) (k := ?_)) | (with_reducible refine zkP (fun ht => ?_) (fun ht => ?_) <;> try first | exact False.elim ht | exact absurd rfl ht | exact absurd trivial ht | exact Bool.noConfusion ht) | (with_reducible (refine k_ret ?_; repeat first | refine kzt ?_ | refine kzb ?_ | refine fin ?_)) | (with_reducible (refine kzx ?_; repeat first | refine thru ?_ | refine kzo ?_ | refine pass (by decide) ?_)) | ((first | refine post1 ?_ | refine post2 ?_ | refine post3 ?_); simp only [GA, simprocAttr]) | refine post0 ?_
      all_goals first | exact ends_of | exact ends_eq rfl
end Go.Proofs.YtjaihaccehaicaaDoor
namespace Go.Proofs.YtjaihaccehaicaaDoor
open Go Go.Shelf Go.Proofs
def revI_ren : Go.Shelf.Ren := ⟨fun | 35 => 74 | n => n, fun | 22 => 31 | 23 => 3 | 3 => 3 | 4 => 4 | 0 => 0 | n => n, fun | n => n⟩
theorem revI : Go.Proofs.SlLaysN.n35 Tryd.prog revI_ren := {
 mixed := by kernel_rfl
 f35 := ⟨Tryd.f74.name, by decide, Tryd.func74.trans (congrArg some (by kernel_rfl))⟩
 t0 := Tryd.underlying0
 a0 := Tryd.isAgg0
 z0 := Tryd.sizeOf0
 v0 := Tryd.zeroValue0
 t3 := Tryd.underlying3
 a3 := Tryd.isAgg3
 z3 := Tryd.sizeOf3
 v3 := Tryd.zeroValue3
 t4 := Tryd.underlying4
 a4 := Tryd.isAgg4
 z4 := Tryd.sizeOf4
 v4 := Tryd.zeroValue4
 t22 := Tryd.underlying31
 a22 := Tryd.isAgg31
 z22 := Tryd.sizeOf31
 v22 := Tryd.zeroValue31
 t23 := Tryd.underlying3
 a23 := Tryd.isAgg3
 z23 := Tryd.sizeOf3
 v23 := Tryd.zeroValue3 }
end Go.Proofs.YtjaihaccehaicaaDoor
set_option linter.unusedVariables false
set_option linter.unusedSimpArgs false
namespace Go.Am
open Go.Proofs Go.Shelf Go.Sort
section
variable {P : Program} {ρ : Ren}
set_option maxHeartbeats 1000000 in
theorem reverse_int (L : SlLaysN.n35 P ρ) {h : AH} {t a : Nat} {d : List Int} (hm : h.m t = some (.cells true (d.map (AV.i .i64)))) (hlen : d.length < 4611686018427387904) :
 ACalls P (ρ.f 35) [.sl t 0 d.length a] h fun r h' => r = .tu [] ∧ h' = h.set t (.cells true ((d.reverse).map (AV.i .i64))) := by
 have hE := (⟨fun ι x v => by simp only [VRel], fun x => rfl, fun x => rfl⟩ : Enc1 (AV.i .i64) (Value.int .i64))
 refine ⟨?_, fun ι w vs wr hv => ?_⟩
 ·obtain ⟨nm, hn, hf⟩ := L.f35
  exact ⟨_, hf, hn, rfl⟩
 simp only [VRels] at hv
 obtain ⟨sv, r1, ev, hs, rfl⟩ := hv
 obtain rfl : vs = #[sv] := by cases vs; simp_all
 by_cases hd0 : d = []
 ·subst hd0
  have hslice : ∃ p cap, sv = .slice p 0 cap := by
   simp only [VRel] at hs
   rcases hs with ⟨_, x, rfl⟩ | ⟨l, cap, _, rfl, _⟩
   ·exact ⟨_, _, rfl⟩
   ·exact ⟨_, _, rfl⟩
  obtain ⟨p, cap, rfl⟩ := hslice
  refine Calls.mono (AnyG.slices_Reverse_int_empty (P := P) (ρ := ρ) L p cap w) fun e w' ⟨he, hw⟩ => ?_
  subst hw
  have e0 : (([] : List Int).reverse.map (AV.i .i64)) = [] := by simp
  rw [e0]
  have es : h.set t (.cells true []) = h := set_self hm
  exact ⟨.tuple #[], .tu [], _, ι, he, ⟨rfl, rfl⟩, by simp only [VRel]; exact ⟨#[], rfl, by simp [VRels]⟩, by rw [es]; exact wr, by rw [es]; exact .refl _ _ _⟩
 have hdl : d.length ≠ 0 := fun e => hd0 (List.length_eq_zero_iff.1 e)
 simp only [VRel] at hs
 rcases hs with ⟨h0, _⟩ | ⟨l, cap, hl, rfl, hcap, _⟩
 ·exact absurd h0 hdl
 have hb := (wr.blk t _ hm).2
 simp only [BRel] at hb
 rcases hb with ⟨he, _⟩ | ⟨l', vs, e, fz, hl', hh, h3, h4, h5, h6⟩
 ·exact absurd (by simpa using he) hd0
 rw [hl] at hl'; cases hl'
 have hfz := h5 trivial
 subst hfz
 simp only [Nat.add_zero]
 have hcell : ∀ j, j < d.length → ∃ x, d[j]? = some x ∧ vs[l.sh + j]? = some ((Value.int .i64) x) := fun j hj => by
  obtain ⟨u, hu, hr⟩ := h6 j (AV.i .i64 d[j]) (by simp [hj])
  rw [hE.rel] at hr
  subst hr
  exact ⟨d[j], by simp [hj], hu⟩
 have hH : Holds (Value.int .i64) w l.b l.sh d.toArray := fun j hj => by
  obtain ⟨x, hx, hc⟩ := hcell j (by simpa using hj)
  refine ⟨?_, ?_⟩
  ·simp only [World.cell?, hh]
   rw [if_neg (by simp), hc]
   have : d.toArray[j]! = x := by simp [getElem!_def, hx]
   rw [this]
  ·simp [World.frozen?, hh]
 have hblk : l.b < w.heap.size := (wr.lt t l hl).2
 refine Calls.mono (AnyG.slices_Reverse_int L l.b l.sh cap d w hH (by omega)) fun e' w' he => ?_
 obtain ⟨he, n, hw0⟩ := he
 have hw : w' = sortWorld (Value.int .i64) w l.b l.sh n d.reverse.toArray #[] := by rw [hw0]; exact (grow_empty _).symm
 generalize hsd : (d.reverse) = d' at hw ⊢
 have hlen' : d'.length = d.length := by rw [← hsd]; exact List.length_reverse
 obtain ⟨p1, p2, p3⟩ := putRow_heap (Value.int .i64) w l.b l.sh n d'.toArray #[] hh
 rw [← hw] at p1 p2 p3
 have hbr : BRel ι w' t (.cells true (d'.map (AV.i .i64))) := by
  simp only [BRel]
  refine .inr ⟨l, _, e, _, hl, p1, by simp [putCells, h3], by simpa [hlen'] using h4, fun _ => rfl, fun i a ha => ?_⟩
  simp only [List.getElem?_map, Option.map_eq_some_iff] at ha
  obtain ⟨x, hx, rfl⟩ := ha
  have hi : i < d'.length := (List.getElem?_eq_some_iff.1 hx).1
  obtain ⟨_, _, hc⟩ := hcell i (by omega)
  refine ⟨Value.int .i64 x, ?_, (hE.rel _ _ _).2 rfl⟩
  simp only [putCells, Array.getElem?_mapIdx, hc, Option.map_some]
  rw [if_pos ⟨by omega, by simp; omega⟩]
  have : d'.toArray[l.sh + i - l.sh]! = x := by simp [getElem!_def, hx]
  rw [this]
 -- the step within the old blocks, then the new ones
 let w1 : World := { w with heap := w.heap.modify l.b (onCells (putCells (Value.int .i64) l.sh d'.toArray)) }
 have k1 : w1.heap.size = w.heap.size := by simp [w1]
 have k2 : ∀ b, b ≠ l.b → w1.heap[b]? = w.heap[b]? := fun b hb => by simp [w1, Array.getElem?_modify, Ne.symm hb]
 have k3 : ∀ b, b < w1.heap.size → w'.heap[b]? = w1.heap[b]? := fun b hb => by
  rw [k1] at hb
  by_cases e' : b = l.b
  ·subst e'
   rw [p1]
   simp only [w1, Array.getElem?_modify, if_pos, hh]; rfl
  ·rw [p2 b hb e', k2 b e']
 have k4 : w1.heap.size ≤ w'.heap.size := by rw [k1]; exact p3
 have hbr1 : BRel ι w1 t (.cells true (d'.map (AV.i .i64))) := hbr.mono (Inj.le_refl _) rfl fun l2 hl2 => by
  rw [hl] at hl2; cases hl2
  rw [k3 l.b (by rw [k1]; exact hblk)]
 have wr1 := wr.refit hm rfl hl k1 k2 hbr1
 have ex1 := (Ext.refl ι h w).refit (bk := .cells true (d'.map (AV.i .i64))) hm rfl hl k1 k2 (Nat.le_refl _) rfl rfl rfl
 have o1 : w'.os = w1.os := by rw [hw]; rfl
 have o2 : w'.tape = w1.tape := by rw [hw]; rfl
 have o3 : w'.output = w1.output := by rw [hw]; rfl
 have o4 : w1.drawn ≤ w'.drawn := by rw [hw]; show w.drawn ≤ w.drawn + n; omega
 exact ⟨.tuple #[], .tu [], _, ι, he, ⟨rfl, rfl⟩, by simp only [VRel]; exact ⟨#[], rfl, by simp [VRels]⟩, wr1.grown k4 k3, ex1.grown o1 o2 o3 k4 k3 o4⟩
end
end Go.Am
set_option linter.unusedVariables false
set_option linter.unusedSimpArgs false
namespace Go.Proofs.YtjaihaccehaicaaDoor
open Go Go.Am Go.Proofs
theorem pc32 (l : List Int) : PC Tryd.prog 73 [vi l] (.fn 86 [] [.pv [vi l] 0]) := by
 refine pc_fn fn73 (by simp only [AV.plains, AV.plain, il_plain, bl_plain, Bool.and_true, Bool.true_and, Bool.and_self, il_plain]) (by simp only [AV.plains, AV.plain, il_plain, bl_plain, Bool.and_true, Bool.true_and, Bool.and_self, il_plain]) (Nat.le_of_ble_eq_true rfl) ?_
 rw [initSt1]
 repeat' first | (with_reducible first | refine kzq ?_ | refine kzs ?_ | refine kzS ?_ | refine kzR ?_ | refine kzC ?_ | refine kzH ?_ | refine kzB ?_ | refine kzK ?_ | refine kzE ?_ | refine kzg ?_) | with_reducible refine r_done ?_ | with_reducible refine s_go (by simp (disch := omega) only [c73r0, c73r1, EVA, plug, eq_self, simprocAttr]; with_reducible rfl) ?_ | ((with_reducible refine kzr ?_); refine zrF ?_) | (with_reducible refine zkP (fun ht => ?_) (fun ht => ?_) <;> try first | exact False.elim ht | exact absurd rfl ht | exact absurd trivial ht | exact Bool.noConfusion ht) | (with_reducible (refine k_ret ?_; repeat first | refine kzt ?_ | refine kzb ?_ | refine fin ?_)) | (with_reducible (refine kzx ?_; repeat first | refine thru ?_ | refine kzo ?_ | refine pass (by decide) ?_)) | ((first | refine post1 ?_ | refine post2 ?_ | refine post3 ?_); simp only [GA, simprocAttr]) | refine post0 ?_
 exact ⟨_, .step (t := 1) (cs := [vi l]) (by simp (disch := omega) only [c73r0, c73r1, EVA, plug, eq_self, simprocAttr] <;> rfl) (FrzH.kill _ _ _) (.fn .nil (.cons .p .nil)) .done⟩
def stabF (w : Int) (out : List Int) (v : Int) : List Int := if out.length = 0 ∨ v < out.getD (out.length - 1) 0 then out ++ [v - w] else out
def stabL (l : List Int) (w : Int) (k : Nat) : List Int := ((srtZ l).reverse.take k).foldl (stabF w) []
def stabR (l : List Int) (w : Int) : List Int × Int := if (valR l w).2 ≠ 0 then ([], (valR l w).2) else ((stabL l w l.length).reverse, 0)
theorem stabF_len (w : Int) (out : List Int) (v : Int) : (stabF w out v).length ≤ out.length + 1 := by
 unfold stabF
 split
 ·simp
 ·omega
theorem stabL_succ {l : List Int} {w : Int} {k : Nat} (h : k < l.length) : stabL l w (k + 1) = stabF w (stabL l w k) ((srtZ l).getD (l.length - 1 - k) 0) := by
 unfold stabL
 have hk : k < (srtZ l).reverse.length := by rw [List.length_reverse, srtZ_len]; exact h
 rw [List.take_add_one, List.getElem?_eq_getElem hk, Option.toList_some, List.foldl_append]
 simp only [List.foldl_cons, List.foldl_nil]
 congr 1
 rw [List.getElem_reverse, List.getD_eq_getElem?_getD]
 have : (srtZ l).length - 1 - k = l.length - 1 - k := by rw [srtZ_len]
 simp only [this]
 rw [List.getElem?_eq_getElem (by rw [srtZ_len]; omega)]
 rfl
theorem stabL_len (l : List Int) (w : Int) : ∀ k, (stabL l w k).length ≤ k
 | 0 => by simp [stabL]
 | k + 1 => by
   by_cases h : k < l.length
   ·rw [stabL_succ h]
    exact Nat.le_trans (stabF_len _ _ _) (by have := stabL_len l w k; omega)
   ·have : stabL l w (k + 1) = stabL l w k := by
     unfold stabL
     rw [List.take_of_length_le (by rw [List.length_reverse, srtZ_len]; omega), List.take_of_length_le (by rw [List.length_reverse, srtZ_len]; omega)]
    rw [this]
    have := stabL_len l w k; omega
abbrev rec10 (l S : List Int) (w : Int) (tb tw : Nat) (s : LoopState) : Blk := recB Tryd.prog 46 [(21, .fn 86 [] [.pv [vi S] 0]), (20, vi S), (8, .p tb 0), (18, .b false), (17, .i .i64 0), (7, .i .i64 0), (6, vi S), (16, .i .i64 0), (15, vi S), (11, .tu [vi S, .i .i64 0]), (14, .tu [vi S, .i .i64 0]), (13, .i .i64 w), (12, vi l), (5, .i .i64 0), (4, .sl 0 0 0 0), (3, .p tw 0), (0, vi l), (1, .i .i64 w)] [22, 23] c49a9 c49y9 s
structure App10 (l S : List Int) (w : Int) (t tb tw x : Nat) (xs : List Int) (h : AH) : Prop where
 r : h.m t = some (rec10 l S w tb tw .ready)
 b : h.m tb = some (.cells true [.sl x 0 xs.length 1])
 c : h.m x = some (.cells true (il xs))
 v : h.m tw = some (.cells true [.i .i64 w])
 x0 : x ≠ 0
 t1 : t ≠ tb
 t2 : t ≠ x
 t3 : tb ≠ x
 t4 : t ≠ tw
 t5 : tb ≠ tw
 t6 : x ≠ tw
theorem RG49 : (type_of% @c49r0.eq_1) ∧ (type_of% @c49r1.eq_1) ∧ (type_of% @c49r2.eq_1) ∧ (type_of% @c49r3.eq_1) ∧ (type_of% @c49r4.eq_1) ∧ (type_of% @c49r5.eq_1) ∧ (type_of% @c49r6.eq_1) ∧ (type_of% @c49r7.eq_1) ∧ (type_of% @c49r8.eq_1) ∧ (type_of% @c49r10.eq_1) ∧ (type_of% @c49r11.eq_1) := ⟨@c49r0.eq_1, @c49r1.eq_1, @c49r2.eq_1, @c49r3.eq_1, @c49r4.eq_1, @c49r5.eq_1, @c49r6.eq_1, @c49r7.eq_1, @c49r8.eq_1, @c49r10.eq_1, @c49r11.eq_1⟩
set_option maxHeartbeats 1000000 in
theorem round10 {l S : List Int} {w : Int} {t tb tw x : Nat} {xs : List Int} {i v : Int} {h : AH} {K : AH → Prop} (ok : h.ok) (A : App10 l S w t tb tw x xs h) (hn : xs.length ≤ 100000) (hw : 0 ≤ w ∧ w ≤ 1000000) (hv : -1000000 ≤ v ∧ v ≤ 1000000)
 (k : ∀ x' h', App10 l S w t tb tw x' (stabF w xs v) h' → (∀ s, s < h.nx → s ≠ x → s ≠ tb → h'.m s = h.m s) → h.nx ≤ h'.nx → K h') : YW Tryd.prog t [.i .i64 i, .i .i64 v] h K := by
 obtain ⟨hr, hb, hx, hwv, x0, t1, t2, t3, t4, t5, t6⟩ := A
 have lt := ok.m hr
 have lb := ok.m hb
 have lx := ok.m hx
 have lw := ok.m hwv
 have t1' : ¬ tb = t := fun q => t1 q.symm
 have t2' : ¬ x = t := fun q => t2 q.symm
 have t3' : ¬ x = tb := fun q => t3 q.symm
 have t4' : ¬ tw = t := fun q => t4 q.symm
 have t5' : ¬ tw = tb := fun q => t5 q.symm
 have t6' : ¬ tw = x := fun q => t6 q.symm
 have wr : IntKind.i64.wrap (v - w) = v - w := wrap64 (by omega) (by omega)
 refine ⟨46, _, _, _, _, hr, rfl, ?_⟩
 simp only [setPs]
 repeat' first | (with_reducible first | refine kzq ?_ | refine kzs ?_ | refine kzS ?_ | refine kzR ?_ | refine kzC ?_ | refine kzH ?_ | refine kzB ?_ | refine kzK ?_ | refine kzE ?_ | refine kzg ?_) | with_reducible refine r_done ?_ | with_reducible refine s_go (by simp (disch := omega) only [RG49, EVA, plug, eq_self, simprocAttr]; with_reducible rfl) ?_ | ((with_reducible refine kzr ?_); refine zrF ?_) | (with_reducible refine zkP (fun ht => ?_) (fun ht => ?_) <;> try first | exact False.elim ht | exact absurd rfl ht | exact absurd trivial ht | exact Bool.noConfusion ht) | (with_reducible (refine k_ret ?_; repeat first | refine kzt ?_ | refine kzb ?_ | refine fin ?_)) | (with_reducible (refine kzx ?_; repeat first | refine thru ?_ | refine kzo ?_ | refine pass (by decide) ?_)) | ((first | refine post1 ?_ | refine post2 ?_ | refine post3 ?_); simp only [GA, simprocAttr]) | refine post0 ?_
 refine ⟨by simp (disch := omega) only [hr, RG49, EVA, plug, eq_self, simprocAttr], ?_⟩
 have f1 : ¬ t = h.nx + 1 + 13 + 5 := by omega
 have f2 : ¬ tb = h.nx + 1 + 13 + 5 := by omega
 have f3 : ¬ t = h.nx + 1 + 13 + 4 := by omega
 by_cases he : xs.length = 0
 ·have he' := eq_true (show (xs.length : Int) = 0 by omega)
  have e : stabF w xs v = xs ++ [v - w] := if_pos (.inl he)
  rw [e] at k
  repeat' first | (with_reducible first | refine kzq ?_ | refine kzs ?_ | refine kzS ?_ | refine kzR ?_ | refine kzC ?_ | refine kzH ?_ | refine kzB ?_ | refine kzK ?_ | refine kzE ?_ | refine kzg ?_) | with_reducible refine r_done ?_ | with_reducible refine s_go (by simp (disch := omega) only [he', hb, row_m hb, read_row (row_m hb), hx, hwv, row_m hwv, read_row (row_m hwv), x0, t1, t2, t3, t1', t2', t3', t4', t5', t6', t4, t5, t6, wr, il_len, RG49, EVA, plug, eq_self, simprocAttr]; with_reducible rfl) ?_ | ((with_reducible refine kzr ?_); refine zrF ?_) | (with_reducible refine zkP (fun ht => ?_) (fun ht => ?_) <;> try first | exact False.elim ht | exact absurd rfl ht | exact absurd trivial ht | exact Bool.noConfusion ht) | (with_reducible (refine k_ret ?_; repeat first | refine kzt ?_ | refine kzb ?_ | refine fin ?_)) | (with_reducible (refine kzx ?_; repeat first | refine thru ?_ | refine kzo ?_ | refine pass (by decide) ?_)) | ((first | refine post1 ?_ | refine post2 ?_ | refine post3 ?_); simp only [GA, simprocAttr]) | refine post0 ?_
  refine ⟨by simp (disch := omega) only [t1, t2, f1, f3, RG49, EVA, plug, eq_self, simprocAttr], k (h.nx + 1 + 13 + 5) _ ⟨by simp (disch := omega) only [RG49, EVA, plug, eq_self, simprocAttr] <;> rfl, ?_, ?_, ?_, by omega, t1, f1, f2, t4, t5, by omega⟩ (fun s s1 s2 s3 => ?_) (by simp (disch := omega) only [RG49, EVA, plug, eq_self, simprocAttr] <;> omega)⟩
  ·rw [List.length_append, List.length_singleton]
   simp (disch := omega) only [t1', RG49, EVA, plug, eq_self, simprocAttr] <;> rfl
  ·have g1 : ¬ h.nx + 1 + 13 + 5 = t := by omega
   have g2 : ¬ h.nx + 1 + 13 + 5 = tb := by omega
   simp (disch := omega) only [g1, g2, RG49, EVA, plug, eq_self, simprocAttr] <;> rfl
  ·have g3 : ¬ tw = h.nx + 1 + 13 + 5 := by omega
   have g4 : ¬ tw = h.nx + 1 + 13 + 4 := by omega
   simp (disch := omega) only [t4', t5', t6', g3, g4, hwv, RG49, EVA, plug, eq_self, simprocAttr]
  ·have s4 : ¬ s = h.nx + 1 + 13 + 5 := by omega
   have s5 : ¬ s = h.nx + 1 + 13 + 4 := by omega
   by_cases e : s = t
   ·subst e
    rw [hr]
    simp (disch := omega) only [RG49, EVA, plug, eq_self, simprocAttr] <;> rfl
   ·simp (disch := omega) only [e, s2, s3, s4, s5, RG49, EVA, plug, eq_self, simprocAttr]
 ·have he' := eq_false (show ¬ (xs.length : Int) = 0 by omega)
  have w1 : IntKind.i64.wrap ((xs.length : Int) - 1) = xs.length - 1 := wrap64 (by omega) (by omega)
  have j0 : (0 : Int) ≤ (xs.length : Int) - 1 := by omega
  have j1 : (xs.length : Int) - 1 < xs.length := by omega
  have j2 : ((xs.length : Int) - 1).toNat = xs.length - 1 := by omega
  have g := il_get (l := xs) (j := xs.length - 1) (by omega)
  by_cases hlt : v < xs.getD (xs.length - 1) 0
  ·have hlt' := eq_true hlt
   have e : stabF w xs v = xs ++ [v - w] := if_pos (.inr hlt)
   rw [e] at k
   generalize xs.getD (xs.length - 1) 0 = last at *
   repeat' first | (with_reducible first | refine kzq ?_ | refine kzs ?_ | refine kzS ?_ | refine kzR ?_ | refine kzC ?_ | refine kzH ?_ | refine kzB ?_ | refine kzK ?_ | refine kzE ?_ | refine kzg ?_) | with_reducible refine r_done ?_ | with_reducible refine s_go (by simp (disch := omega) only [he', hlt', w1, j0, j1, j2, g, row_m hx, read_row (row_m hx), hb, row_m hb, read_row (row_m hb), hx, hwv, row_m hwv, read_row (row_m hwv), x0, t1, t2, t3, t1', t2', t3', t4', t5', t6', t4, t5, t6, wr, il_len, RG49, EVA, plug, eq_self, simprocAttr]; with_reducible rfl) ?_ | ((with_reducible refine kzr ?_); refine zrF ?_) | (with_reducible refine zkP (fun ht => ?_) (fun ht => ?_) <;> try first | exact False.elim ht | exact absurd rfl ht | exact absurd trivial ht | exact Bool.noConfusion ht) | (with_reducible (refine k_ret ?_; repeat first | refine kzt ?_ | refine kzb ?_ | refine fin ?_)) | (with_reducible (refine kzx ?_; repeat first | refine thru ?_ | refine kzo ?_ | refine pass (by decide) ?_)) | ((first | refine post1 ?_ | refine post2 ?_ | refine post3 ?_); simp only [GA, simprocAttr]) | refine post0 ?_
   refine ⟨by simp (disch := omega) only [t1, t2, f1, f3, RG49, EVA, plug, eq_self, simprocAttr], k (h.nx + 1 + 13 + 5) _ ⟨by simp (disch := omega) only [RG49, EVA, plug, eq_self, simprocAttr] <;> rfl, ?_, ?_, ?_, by omega, t1, f1, f2, t4, t5, by omega⟩ (fun s s1 s2 s3 => ?_) (by simp (disch := omega) only [RG49, EVA, plug, eq_self, simprocAttr] <;> omega)⟩
   ·rw [List.length_append, List.length_singleton]
    simp (disch := omega) only [t1', RG49, EVA, plug, eq_self, simprocAttr] <;> rfl
   ·have g1 : ¬ h.nx + 1 + 13 + 5 = t := by omega
    have g2 : ¬ h.nx + 1 + 13 + 5 = tb := by omega
    simp (disch := omega) only [g1, g2, RG49, EVA, plug, eq_self, simprocAttr] <;> rfl
   ·have g3 : ¬ tw = h.nx + 1 + 13 + 5 := by omega
    have g4 : ¬ tw = h.nx + 1 + 13 + 4 := by omega
    simp (disch := omega) only [t4', t5', t6', g3, g4, hwv, RG49, EVA, plug, eq_self, simprocAttr]
   ·have s4 : ¬ s = h.nx + 1 + 13 + 5 := by omega
    have s5 : ¬ s = h.nx + 1 + 13 + 4 := by omega
    by_cases e : s = t
    ·subst e
     rw [hr]
     simp (disch := omega) only [RG49, EVA, plug, eq_self, simprocAttr] <;> rfl
    ·simp (disch := omega) only [e, s2, s3, s4, s5, RG49, EVA, plug, eq_self, simprocAttr]
  ·have hlt' := eq_false hlt
   have e : stabF w xs v = xs := if_neg fun q => q.elim he hlt
   rw [e] at k
   generalize xs.getD (xs.length - 1) 0 = last at *
   repeat' first | (with_reducible first | refine kzq ?_ | refine kzs ?_ | refine kzS ?_ | refine kzR ?_ | refine kzC ?_ | refine kzH ?_ | refine kzB ?_ | refine kzK ?_ | refine kzE ?_ | refine kzg ?_) | with_reducible refine r_done ?_ | with_reducible refine s_go (by simp (disch := omega) only [he', hlt', w1, j0, j1, j2, g, row_m hx, read_row (row_m hx), hb, row_m hb, read_row (row_m hb), hx, hwv, row_m hwv, read_row (row_m hwv), x0, t1, t2, t3, t1', t2', t3', t4', t5', t6', t4, t5, t6, wr, il_len, RG49, EVA, plug, eq_self, simprocAttr]; with_reducible rfl) ?_ | ((with_reducible refine kzr ?_); refine zrF ?_) | (with_reducible refine zkP (fun ht => ?_) (fun ht => ?_) <;> try first | exact False.elim ht | exact absurd rfl ht | exact absurd trivial ht | exact Bool.noConfusion ht) | (with_reducible (refine k_ret ?_; repeat first | refine kzt ?_ | refine kzb ?_ | refine fin ?_)) | (with_reducible (refine kzx ?_; repeat first | refine thru ?_ | refine kzo ?_ | refine pass (by decide) ?_)) | ((first | refine post1 ?_ | refine post2 ?_ | refine post3 ?_); simp only [GA, simprocAttr]) | refine post0 ?_
   refine ⟨by simp (disch := omega) only [RG49, EVA, plug, eq_self, simprocAttr] <;> rfl, k x _ ⟨by simp (disch := omega) only [RG49, EVA, plug, eq_self, simprocAttr] <;> rfl, by simp (disch := omega) only [t1', hb, RG49, EVA, plug, eq_self, simprocAttr], by simp (disch := omega) only [t2', hx, RG49, EVA, plug, eq_self, simprocAttr], by simp (disch := omega) only [t4', hwv, RG49, EVA, plug, eq_self, simprocAttr], x0, t1, t2, t3, t4, t5, t6⟩ (fun s s1 s2 s3 => ?_) (by simp (disch := omega) only [RG49, EVA, plug, eq_self, simprocAttr] <;> omega)⟩
   by_cases e : s = t
   ·subst e
    rw [hr]
    simp (disch := omega) only [RG49, EVA, plug, eq_self, simprocAttr] <;> rfl
   ·simp (disch := omega) only [e, RG49, EVA, plug, eq_self, simprocAttr]
theorem end10 {R : AV → AH → Prop} {l S : List Int} {w : Int} {t tb tw x : Nat} {xs : List Int} {h : AH} (hn : xs.length ≤ 1000) (A : App10 l S w t tb tw x xs h) (hA : ∀ x h2, h2.m x = some (.cells true (il xs.reverse)) → R (.tu [.sl x 0 xs.reverse.length 1, .i .i64 0]) h2) :
 W0 Tryd.prog 46 (.seq (.reg c49r10) (.seq (.reg c49r11) .ret)) (athen (Post q49 R) (Fin (Post q49 R)))
  [(21, .fn 86 [] [.pv [vi S] 0]), (20, vi S), (8, .p tb 0), (18, .b false), (17, .i .i64 0), (7, .i .i64 0), (6, vi S), (16, .i .i64 0), (15, vi S), (11, .tu [vi S, .i .i64 0]), (14, .tu [vi S, .i .i64 0]), (13, .i .i64 w), (12, vi l), (5, .i .i64 0), (4, .sl 0 0 0 0), (3, .p tw 0), (0, vi l), (1, .i .i64 w)] (h.kill t) := by
 obtain ⟨hr, hb, hx, hwv, x0, t1, t2, t3, t4, t5, t6⟩ := A
 have t1' : ¬ tb = t := fun q => t1 q.symm
 have t2' : ¬ x = t := fun q => t2 q.symm
 have t3' : ¬ x = tb := fun q => t3 q.symm
 have hb' : (h.kill t).m tb = some (.cells true [.sl x 0 xs.length 1]) := by simp only [AH.kill, t1', if_false]; exact hb
 have hx' : (h.kill t).m x = some (.cells true (il xs)) := by simp only [AH.kill, t2', if_false]; exact hx
 have q33 := fun h hm => reverse_int revI (h := h) (t := x) (a := 1) (d := xs) hm (by omega)
 refine w0_of ?_
 repeat' first | (with_reducible first | refine kzq ?_ | refine kzs ?_ | refine kzS ?_ | refine kzR ?_ | refine kzC ?_ | refine kzH ?_ | refine kzB ?_ | refine kzK ?_ | refine kzE ?_ | refine kzg ?_) | with_reducible refine r_done ?_ | with_reducible refine s_go (by simp (disch := omega) only [hb', row_m hb', read_row (row_m hb'), RG49, EVA, plug, eq_self, simprocAttr]; with_reducible rfl) ?_ | ((with_reducible refine kzr ?_); refine zrF ?_) | ((with_reducible refine kzr ?_); refine r_callX (by simp only [CA, simprocAttr]; rfl) (by simp only [CA, simprocAttr]; rfl) (by first | exact q33 _ (by simp (disch := omega) only [hx', RG49, EVA, plug, eq_self, simprocAttr] <;> rfl)) rfl ?_) | (with_reducible refine zkP (fun ht => ?_) (fun ht => ?_) <;> try first | exact False.elim ht | exact absurd rfl ht | exact absurd trivial ht | exact Bool.noConfusion ht) | (with_reducible (refine k_ret ?_; repeat first | refine kzt ?_ | refine kzb ?_ | refine fin ?_)) | (with_reducible (refine kzx ?_; repeat first | refine thru ?_ | refine kzo ?_ | refine pass (by decide) ?_)) | ((first | refine post1 ?_ | refine post2 ?_ | refine post3 ?_); simp only [GA, simprocAttr]) | refine post0 ?_
 rintro r h2 ⟨rfl, rfl⟩
 repeat' first | (with_reducible first | refine kzq ?_ | refine kzs ?_ | refine kzS ?_ | refine kzR ?_ | refine kzC ?_ | refine kzH ?_ | refine kzB ?_ | refine kzK ?_ | refine kzE ?_ | refine kzg ?_) | with_reducible refine r_done ?_ | with_reducible refine s_go (by simp (disch := omega) only [hb', row_m hb', read_row (row_m hb'), t3, RG49, EVA, plug, eq_self, simprocAttr]; with_reducible rfl) ?_ | ((with_reducible refine kzr ?_); refine zrF ?_) | (with_reducible refine zkP (fun ht => ?_) (fun ht => ?_) <;> try first | exact False.elim ht | exact absurd rfl ht | exact absurd trivial ht | exact Bool.noConfusion ht) | (with_reducible (refine k_ret ?_; repeat first | refine kzt ?_ | refine kzb ?_ | refine fin ?_)) | (with_reducible (refine kzx ?_; repeat first | refine thru ?_ | refine kzo ?_ | refine pass (by decide) ?_)) | ((first | refine post1 ?_ | refine post2 ?_ | refine post3 ?_); simp only [GA, simprocAttr]) | refine post0 ?_
 have e : xs.length = xs.reverse.length := by rw [List.length_reverse]
 rw [e]
 exact hA _ _ (by simp (disch := omega) only [RG49, EVA, plug, eq_self, simprocAttr] <;> rfl)
theorem RG86 : (type_of% @c86r0.eq_1) ∧ (type_of% @c86r1.eq_1) ∧ (type_of% @c86r2.eq_1) ∧ (type_of% @c86r3.eq_1) := ⟨@c86r0.eq_1, @c86r1.eq_1, @c86r2.eq_1, @c86r3.eq_1⟩
set_option maxHeartbeats 1000000 in
theorem a10 (l : List Int) (hl : l.length ≤ 9223372036854775807) (w : Int) {R : AV → AH → Prop} (hA : ∀ x h2, h2.m x = some (.cells true (il (stabR l w).1)) → R (.tu [.sl x 0 (stabR l w).1.length 1, .i .i64 (stabR l w).2]) h2) (hB : (stabR l w).1 = [] → ∀ h2, R (.tu [.sl 0 0 0 0, .i .i64 (stabR l w).2]) h2) (h0 : AH) : ACalls Tryd.prog 49 [vi l, .i .i64 w] h0 R := by
 refine a_fn0 fn49 (by simp) fun ok pos => ?_
 rw [initSt2]
 have q31 := pc31 l hl w
 refine k0_seq ?_
 repeat' first | (with_reducible first | refine kzq ?_ | refine kzs ?_ | refine kzS ?_ | refine kzR ?_ | refine kzC ?_ | refine kzH ?_ | refine kzB ?_ | refine kzK ?_ | refine kzE ?_ | refine kzg ?_) | with_reducible refine r_done ?_ | with_reducible refine s_go (by simp (disch := omega) only [RG49, EVA, plug, eq_self, simprocAttr]; with_reducible rfl) ?_ | ((with_reducible refine kzr ?_); refine zrF ?_) | (with_reducible refine k_condP (by simp only [GA, simprocAttr]; rfl) (by first | (simp only [BO]; rfl) | rfl) (fun ht => ?_) (fun ht => ?_) <;> try (first | exact False.elim ht | exact absurd rfl ht | exact absurd trivial ht | exact Bool.noConfusion ht)) | (with_reducible (refine k_ret ?_; repeat first | refine kzt ?_ | refine kzb ?_ | refine fin ?_)) | (with_reducible (refine kzx ?_; repeat first | refine thru ?_ | refine kzo ?_ | refine pass (by decide) ?_)) | ((first | refine post1 ?_ | refine post2 ?_ | refine post3 ?_); simp only [GA, simprocAttr]) | refine post0 ?_
 refine k0_seq ?_
 repeat' first | (with_reducible first | refine kzq ?_ | refine kzs ?_ | refine kzS ?_ | refine kzR ?_ | refine kzC ?_ | refine kzH ?_ | refine kzB ?_ | refine kzK ?_ | refine kzE ?_ | refine kzg ?_) | with_reducible refine r_done ?_ | with_reducible refine s_go (by simp (disch := omega) only [RG49, EVA, plug, eq_self, simprocAttr]; with_reducible rfl) ?_ | ((with_reducible refine kzr ?_); refine zrF ?_) | ((with_reducible refine kzr ?_); refine zrP (c := by first | exact q31 _) (k := ?_)) | (with_reducible refine k_condP (by simp only [GA, simprocAttr]; rfl) (by first | (simp only [BO]; rfl) | rfl) (fun ht => ?_) (fun ht => ?_) <;> try (first | exact False.elim ht | exact absurd rfl ht | exact absurd trivial ht | exact Bool.noConfusion ht)) | (with_reducible (refine k_ret ?_; repeat first | refine kzt ?_ | refine kzb ?_ | refine fin ?_)) | (with_reducible (refine kzx ?_; repeat first | refine thru ?_ | refine kzo ?_ | refine pass (by decide) ?_)) | ((first | refine post1 ?_ | refine post2 ?_ | refine post3 ?_); simp only [GA, simprocAttr]) | refine post0 ?_
 unfold stabR at hA hB
 by_cases he : (valR l w).2 = 0
 ·have hs : valR l w = (srtZ l, 0) := by
   unfold valR at he ⊢
   split at he
   ·cases he
   ·split at he
    ·cases he
    ·rename_i h1 h2; rw [if_neg h1, if_neg h2]
  have hlen : l.length ≤ 200 := by
   unfold valR at he
   split at he
   ·cases he
   ·omega
  rw [if_neg (by simp [he])] at hA hB
  rw [hs]
  refine k0_seq ?_
  repeat' first | (with_reducible first | refine kzq ?_ | refine kzs ?_ | refine kzS ?_ | refine kzR ?_ | refine kzC ?_ | refine kzH ?_ | refine kzB ?_ | refine kzK ?_ | refine kzE ?_ | refine kzg ?_) | with_reducible refine r_done ?_ | with_reducible refine s_go (by simp (disch := omega) only [RG49, EVA, plug, eq_self, simprocAttr]; with_reducible rfl) ?_ | ((with_reducible refine kzr ?_); refine zrF ?_) | (with_reducible refine k_condP (by simp only [GA, simprocAttr]; rfl) (by first | (simp only [BO]; rfl) | rfl) (fun ht => ?_) (fun ht => ?_) <;> try (first | exact False.elim ht | exact absurd rfl ht | exact absurd trivial ht | exact Bool.noConfusion ht)) | (with_reducible (refine k_ret ?_; repeat first | refine kzt ?_ | refine kzb ?_ | refine fin ?_)) | (with_reducible (refine kzx ?_; repeat first | refine thru ?_ | refine kzo ?_ | refine pass (by decide) ?_)) | ((first | refine post1 ?_ | refine post2 ?_ | refine post3 ?_); simp only [GA, simprocAttr]) | refine post0 ?_
  refine k0_seq ?_
  repeat' first | (with_reducible first | refine kzq ?_ | refine kzs ?_ | refine kzS ?_ | refine kzR ?_ | refine kzC ?_ | refine kzH ?_ | refine kzB ?_ | refine kzK ?_ | refine kzE ?_ | refine kzg ?_) | with_reducible refine r_done ?_ | with_reducible refine s_go (by simp (disch := omega) only [RG49, EVA, plug, eq_self, simprocAttr]; with_reducible rfl) ?_ | ((with_reducible refine kzr ?_); refine zrF ?_) | (with_reducible refine k_condP (by simp only [GA, simprocAttr]; rfl) (by first | (simp only [BO]; rfl) | rfl) (fun ht => ?_) (fun ht => ?_) <;> try (first | exact False.elim ht | exact absurd rfl ht | exact absurd trivial ht | exact Bool.noConfusion ht)) | (with_reducible (refine k_ret ?_; repeat first | refine kzt ?_ | refine kzb ?_ | refine fin ?_)) | (with_reducible (refine kzx ?_; repeat first | refine thru ?_ | refine kzo ?_ | refine pass (by decide) ?_)) | ((first | refine post1 ?_ | refine post2 ?_ | refine post3 ?_); simp only [GA, simprocAttr]) | refine post0 ?_
  refine k0_seq0 (k0_seq ?_)
  refine w_virtH 1 (s := h0.nx + 3 + 8 + 2) (ds := [.sl 0 0 0 0]) (i := 0) (by simp (disch := omega) only [RG49, EVA, plug, eq_self, simprocAttr] <;> rfl) rfl fun pos1 lt1 => ?_
  repeat' first | (with_reducible first | refine kzq ?_ | refine kzs ?_ | refine kzS ?_ | refine kzR ?_ | refine kzC ?_ | refine kzH ?_ | refine kzB ?_ | refine kzK ?_ | refine kzE ?_ | refine kzg ?_) | with_reducible refine r_done ?_ | with_reducible refine s_go (by simp (disch := omega) only [RG49, EVA, plug, eq_self, simprocAttr]; with_reducible rfl) ?_ | ((with_reducible refine kzr ?_); refine zrF ?_) | ((with_reducible refine kzr ?_); refine zrP (c := by first | exact pc32 _ _) (k := ?_)) | (with_reducible refine k_condP (by simp only [GA, simprocAttr]; rfl) (by first | (simp only [BO]; rfl) | rfl) (fun ht => ?_) (fun ht => ?_) <;> try (first | exact False.elim ht | exact absurd rfl ht | exact absurd trivial ht | exact Bool.noConfusion ht)) | (with_reducible (refine k_ret ?_; repeat first | refine kzt ?_ | refine kzb ?_ | refine fin ?_)) | (with_reducible (refine kzx ?_; repeat first | refine thru ?_ | refine kzo ?_ | refine pass (by decide) ?_)) | ((first | refine post1 ?_ | refine post2 ?_ | refine post3 ?_); simp only [GA, simprocAttr]) | refine post0 ?_
  refine k0_blk (w0_rf rfl fun ok2 pos2 => ?_)
  simp only [List.nil_append, List.cons_append]
  refine i_fn fn86 rfl (by simp) fun ok3 pos3 => ?_
  rw [initSt2]
  have hbs : ∀ x ∈ srtZ l, -1000000 ≤ x ∧ x ≤ 1000000 := fun x hx => by
   have hx : x ∈ l := (List.mergeSort_perm l _).mem_iff.1 hx
   have : farZ x = false := by
    cases q : farZ x with
    | false => rfl
    | true =>
      have := anyZ_iff.2 ⟨x, hx, q⟩
      unfold valR at hs
      rw [if_neg (by omega), if_pos (.inr this)] at hs
      exact absurd (congrArg Prod.snd hs) (by simp)
   simp only [farZ, Bool.not_eq_false', Bool.and_eq_true, decide_eq_true_eq] at this
   exact this
  have hwd : 0 ≤ w ∧ w ≤ 1000000 := by
   cases q : widOk w with
   | true => simp only [widOk, Bool.and_eq_true, decide_eq_true_eq] at q; exact q
   | false =>
     unfold valR at hs
     rw [if_neg (by omega), if_pos (.inl q)] at hs
     exact absurd (congrArg Prod.snd hs) (by simp)
  have sl := srtZ_len l
  generalize hS : srtZ l = S at *
  have w0 : IntKind.i64.wrap ((S.length : Int) - 1) = S.length - 1 := wrap64 (by omega) (by omega)
  repeat' first | (with_reducible first | refine kzq ?_ | refine kzs ?_ | refine kzS ?_ | refine kzR ?_ | refine kzC ?_ | refine kzH ?_ | refine kzB ?_ | refine kzK ?_ | refine kzE ?_ | refine kzg ?_) | with_reducible refine r_done ?_ | with_reducible refine s_go (by simp (disch := omega) only [w0, RG86, EVA, plug, eq_self, simprocAttr]; with_reducible rfl) ?_ | ((with_reducible refine kzr ?_); refine zrF ?_) | (with_reducible refine k_condP (by simp only [GA, simprocAttr]; rfl) (by first | (simp only [BO]; rfl) | rfl) (fun ht => ?_) (fun ht => ?_) <;> try (first | exact False.elim ht | exact absurd rfl ht | exact absurd trivial ht | exact Bool.noConfusion ht)) | (with_reducible (refine k_ret ?_; repeat first | refine kzt ?_ | refine kzb ?_ | refine fin ?_)) | (with_reducible (refine kzx ?_; repeat first | refine thru ?_ | refine kzo ?_ | refine pass (by decide) ?_)) | ((first | refine post1 ?_ | refine post2 ?_ | refine post3 ?_); simp only [GA, simprocAttr]) | refine post0 ?_
  refine k_blk (k_loopS (X := Nat) [0, 1, 3] S.length (fun k x => [(0, .fy (h0.nx + 3 + 8 + 2 + 1 + 1 + 2)), (1, .pv [vi S] 0), (3, .i .i64 ((S.length : Int) - 1 - k))])
   (fun k x h => App10 l S w (h0.nx + 3 + 8 + 2 + 1 + 1 + 2) (h0.nx + 13) h0.nx x (stabL l w k) h) _ (by simp [Am.keep, St.get]) ⟨by simp (disch := omega) only [RG86, EVA, plug, eq_self, simprocAttr] <;> rfl, by simp (disch := omega) only [RG86, EVA, plug, eq_self, simprocAttr] <;> rfl, by simp (disch := omega) only [RG86, EVA, plug, eq_self, simprocAttr] <;> rfl, by simp (disch := omega) only [RG86, EVA, plug, eq_self, simprocAttr] <;> rfl, by omega, by omega, by omega, by omega, by omega, by omega, by omega⟩ ?_)
  rintro k x h2 hk A ok4 pos4
  by_cases klt : k < S.length
  ·have c1 : (0 : Int) ≤ (S.length : Int) - 1 - k := by omega
   have c2 : (S.length : Int) - 1 - k < S.length := by omega
   have c3 : ((S.length : Int) - 1 - k).toNat = S.length - 1 - k := by omega
   have g := il_get (l := S) (j := S.length - 1 - k) (by omega)
   have ss := stabL_succ (l := l) (w := w) (k := k) (by omega)
   rw [hS, ← sl] at ss
   have bv := hbs (S.getD (S.length - 1 - k) 0) (by rw [List.getD_eq_getElem?_getD, List.getElem?_eq_getElem (by omega)]; exact List.getElem_mem _)
   have ll := stabL_len l w k
   have w1 : IntKind.i64.wrap ((S.length : Int) - 1 - k - 1) = S.length - 1 - k - 1 := wrap64 (by omega) (by omega)
   generalize S.getD (S.length - 1 - k) 0 = v at *
   repeat' first | with_reducible refine kzq ?_ | with_reducible refine kzs ?_ | with_reducible refine kzS ?_ | with_reducible refine kzR ?_ | with_reducible refine kzC ?_ | with_reducible refine kzH ?_ | with_reducible refine kzB ?_ | with_reducible refine kzK ?_ | with_reducible refine kzE ?_ | (fail_if_success (with_reducible refine kzg (ops := c86r2) ?_)); with_reducible refine kzg ?_ | with_reducible refine r_done ?_ | with_reducible refine s_go (by simp (disch := omega) only [c1, c2, c3, g, RG86, EVA, plug, eq_self, simprocAttr]; with_reducible rfl) ?_ | ((with_reducible refine kzr ?_); refine zrF ?_) | (with_reducible refine k_condP (by simp only [GA, simprocAttr]; rfl) (by first | (simp only [BO]; rfl) | rfl) (fun ht => ?_) (fun ht => ?_) <;> try (first | exact False.elim ht | exact absurd rfl ht | exact absurd trivial ht | exact Bool.noConfusion ht)) | (with_reducible refine k_ret ?_; repeat with_reducible (first | refine kzt ?_ | refine kzb ?_ | refine fin ?_)) | (with_reducible refine kzx ?_; repeat with_reducible (first | refine thru ?_ | refine kzo ?_ | refine pass (by decide) ?_)) | ((first | refine post1 ?_ | refine post2 ?_ | refine post3 ?_); simp only [GA, simprocAttr]) | refine post0 ?_
   refine k_yld 6 rfl ?_
   refine s_go (by simp (disch := omega) only [List.take_succ_cons, List.take_zero, c1, c2, c3, g, RG86, EVA, plug, eq_self, simprocAttr]; with_reducible rfl) ?_
   refine r_done ?_
   refine ⟨_, rfl, ?_⟩
   refine round10 (x := x) (xs := stabL l w k) (v := v) (fun t b hb => by have := ok4 t b hb; simp only [AH.bump_nx]; omega) ⟨A.r, A.b, A.c, A.v, A.x0, A.t1, A.t2, A.t3, A.t4, A.t5, A.t6⟩ (by omega) hwd bv fun x' h' A' kp nx => ?_
   rw [← ss] at A'
   refine s_go (by simp (disch := omega) only [List.drop_succ_cons, List.drop_zero, RG86, EVA, plug, eq_self, simprocAttr]; with_reducible rfl) ?_
   refine r_done ?_
   repeat' first | (with_reducible first | refine kzq ?_ | refine kzs ?_ | refine kzS ?_ | refine kzR ?_ | refine kzC ?_ | refine kzH ?_ | refine kzB ?_ | refine kzK ?_ | refine kzE ?_ | refine kzg ?_) | with_reducible refine r_done ?_ | with_reducible refine s_go (by simp (disch := omega) only [w1, RG86, EVA, plug, eq_self, simprocAttr]; with_reducible rfl) ?_ | ((with_reducible refine kzr ?_); refine zrF ?_) | (with_reducible refine k_condP (by simp only [GA, simprocAttr]; rfl) (by first | (simp only [BO]; rfl) | rfl) (fun ht => ?_) (fun ht => ?_) <;> try (first | exact False.elim ht | exact absurd rfl ht | exact absurd trivial ht | exact Bool.noConfusion ht)) | (with_reducible (refine k_ret ?_; repeat first | refine kzt ?_ | refine kzb ?_ | refine fin ?_)) | (with_reducible (refine kzx ?_; repeat first | refine thru ?_ | refine kzo ?_ | refine pass (by decide) ?_)) | ((first | refine post1 ?_ | refine post2 ?_ | refine post3 ?_); simp only [GA, simprocAttr]) | refine post0 ?_
   exact ⟨klt, x', (by simp only [Am.keep, List.map_cons, List.map_nil, GA, simprocAttr]; simp; omega), ⟨A'.r, A'.b, A'.c, A'.v, A'.x0, A'.t1, A'.t2, A'.t3, A'.t4, A'.t5, A'.t6⟩⟩
  ·obtain rfl : k = S.length := by omega
   have c1 : ¬ (0 : Int) ≤ (S.length : Int) - 1 - S.length := by omega
   repeat' first | (with_reducible first | refine kzq ?_ | refine kzs ?_ | refine kzS ?_ | refine kzR ?_ | refine kzC ?_ | refine kzH ?_ | refine kzB ?_ | refine kzK ?_ | refine kzE ?_ | refine kzg ?_) | with_reducible refine r_done ?_ | with_reducible refine s_go (by simp (disch := omega) only [c1, RG86, EVA, plug, eq_self, simprocAttr]; with_reducible rfl) ?_ | ((with_reducible refine kzr ?_); refine zrF ?_) | (with_reducible refine k_condP (by simp only [GA, simprocAttr]; rfl) (by first | (simp only [BO]; rfl) | rfl) (fun ht => ?_) (fun ht => ?_) <;> try (first | exact False.elim ht | exact absurd rfl ht | exact absurd trivial ht | exact Bool.noConfusion ht)) | (with_reducible (refine k_ret ?_; repeat first | refine kzt ?_ | refine kzb ?_ | refine fin ?_)) | (with_reducible (refine kzx ?_; repeat first | refine thru ?_ | refine kzo ?_ | refine pass (by decide) ?_)) | ((first | refine post1 ?_ | refine post2 ?_ | refine post3 ?_); simp only [GA, simprocAttr]) | refine post0 ?_
   rw [sl] at A
   exact ⟨A.r, end10 (by have := stabL_len l w l.length; omega) ⟨A.r, A.b, A.c, A.v, A.x0, A.t1, A.t2, A.t3, A.t4, A.t5, A.t6⟩ hA⟩
 ·rw [if_pos he] at hA hB
  have he' := eq_false he
  refine k0_seq ?_
  repeat' first | (with_reducible first | refine kzq ?_ | refine kzs ?_ | refine kzS ?_ | refine kzR ?_ | refine kzC ?_ | refine kzH ?_ | refine kzB ?_ | refine kzK ?_ | refine kzE ?_ | refine kzg ?_) | with_reducible refine r_done ?_ | with_reducible refine s_go (by simp (disch := omega) only [he', RG49, EVA, plug, eq_self, simprocAttr]; with_reducible rfl) ?_ | ((with_reducible refine kzr ?_); refine zrF ?_) | (with_reducible refine k_condP (by simp only [GA, simprocAttr]; rfl) (by first | (simp only [BO]; rfl) | rfl) (fun ht => ?_) (fun ht => ?_) <;> try (first | exact False.elim ht | exact absurd rfl ht | exact absurd trivial ht | exact Bool.noConfusion ht)) | (with_reducible (refine k_ret ?_; repeat first | refine kzt ?_ | refine kzb ?_ | refine fin ?_)) | (with_reducible (refine kzx ?_; repeat first | refine thru ?_ | refine kzo ?_ | refine pass (by decide) ?_)) | ((first | refine post1 ?_ | refine post2 ?_ | refine post3 ?_); simp only [GA, simprocAttr]) | refine post0 ?_
  exact hB rfl _
theorem pc10 (l : List Int) (hl : l.length ≤ 9223372036854775807) (w : Int) : PC Tryd.prog 49 [vi l, .i .i64 w] (.tu [vi (stabR l w).1, .i .i64 (stabR l w).2]) := fun h =>
 pure_callV (by simp only [AV.plain, AV.plains, il_plain, Bool.and_true]) fun h0 hr _ => a10 l hl w (fun x h2 hx => ends_sl2 (k := 1) hx (by rw [il_len, Nat.mul_one])) (fun e h2 => by rw [e]; exact ends_nil2) h0
end Go.Proofs.YtjaihaccehaicaaDoor
set_option linter.unusedVariables false
set_option linter.unusedSimpArgs false
namespace Go.Proofs.YtjaihaccehaicaaDoor
open Go Go.Am Go.Proofs
abbrev e5 (F : Nat → Int) : List AV := [.i .i64 (F 0), .i .i64 (F 1), .i .i64 (F 2), .i .i64 (F 3), .i .i64 (F 4)]
theorem e5_get {F : Nat → Int} {k : Nat} (h : k < 5) : [AV.i .i64 (F 0), .i .i64 (F 1), .i .i64 (F 2), .i .i64 (F 3), .i .i64 (F 4)][k]? = some (.i .i64 (F k)) := by
 rcases k with _ | _ | _ | _ | _ | k <;> first | rfl | omega
structure Sz where
 c : Int
 F : Nat → Int
 T : Nat → Int
 B : Nat → Int
 t : Int
abbrev eZ (s : Sz) : List AV := [.i .i64 s.c, .i .i64 (s.F 0), .i .i64 (s.F 1), .i .i64 (s.F 2), .i .i64 (s.F 3), .i .i64 (s.F 4), .i .i64 (s.T 0), .i .i64 (s.T 1), .i .i64 (s.T 2), .i .i64 (s.T 3), .i .i64 (s.T 4), .i .i64 (s.B 0), .i .i64 (s.B 1), .i .i64 (s.B 2), .i .i64 (s.B 3), .i .i64 (s.B 4), .i .i64 s.t]
theorem eZ_F (s : Sz) {k : Nat} (h : k < 5) : (eZ s)[1 + k]? = some (.i .i64 (s.F k)) := by
 rcases k with _ | _ | _ | _ | _ | k <;> first | rfl | omega
theorem eZ_T (s : Sz) {k : Nat} (h : k < 5) : (eZ s)[6 + k]? = some (.i .i64 (s.T k)) := by
 rcases k with _ | _ | _ | _ | _ | k <;> first | rfl | omega
theorem eZ_B (s : Sz) {k : Nat} (h : k < 5) : (eZ s)[11 + k]? = some (.i .i64 (s.B k)) := by
 rcases k with _ | _ | _ | _ | _ | k <;> first | rfl | omega
def szP (s : Sz) : Nat → Bool
 | 0 => (decide (1 ≤ s.c) && decide (s.c ≤ 1000000000)) && (decide (0 ≤ s.t) && decide (s.t ≤ 500))
 | k + 1 => szP s k && decide (0 ≤ s.F k) && decide (s.F k ≤ s.T k) && decide (s.T k ≤ 3000) && (decide (0 ≤ s.B k) && decide (s.B k ≤ 100))
def szOk (s : Sz) : Bool := szP s 5
theorem szP_iff {s : Sz} : ∀ {k : Nat}, szP s k = true ↔ (1 ≤ s.c ∧ s.c ≤ 1000000000 ∧ 0 ≤ s.t ∧ s.t ≤ 500) ∧ ∀ i, i < k → 0 ≤ s.F i ∧ s.F i ≤ s.T i ∧ s.T i ≤ 3000 ∧ 0 ≤ s.B i ∧ s.B i ≤ 100
 | 0 => by simp only [szP, Bool.and_eq_true, decide_eq_true_eq]; constructor <;> intro h <;> exact ⟨by omega, by omega⟩
 | k + 1 => by
   simp only [szP, Bool.and_eq_true, szP_iff (k := k), decide_eq_true_eq]
   constructor
   ·rintro ⟨⟨⟨⟨⟨h1, h2⟩, h3⟩, h4⟩, h5⟩, h6⟩
    refine ⟨h1, fun i hi => ?_⟩
    by_cases e : i = k
    ·subst e; omega
    ·exact h2 i (by omega)
   ·rintro ⟨h1, h2⟩
    have := h2 k (by omega)
    exact ⟨⟨⟨⟨⟨h1, fun i hi => h2 i (by omega)⟩, by omega⟩, by omega⟩, by omega⟩, by omega⟩
theorem szOk_iff {s : Sz} : szOk s = true ↔ (1 ≤ s.c ∧ s.c ≤ 1000000000 ∧ 0 ≤ s.t ∧ s.t ≤ 500) ∧ ∀ i, i < 5 → 0 ≤ s.F i ∧ s.F i ≤ s.T i ∧ s.T i ≤ 3000 ∧ 0 ≤ s.B i ∧ s.B i ≤ 100 := szP_iff
theorem RG30 : (type_of% @c30r0.eq_1) ∧ (type_of% @c30r1.eq_1) ∧ (type_of% @c30r2.eq_1) ∧ (type_of% @c30r3.eq_1) ∧ (type_of% @c30r4.eq_1) ∧ (type_of% @c30r5.eq_1) ∧ (type_of% @c30r6.eq_1) ∧ (type_of% @c30r8.eq_1) := ⟨@c30r0.eq_1, @c30r1.eq_1, @c30r2.eq_1, @c30r3.eq_1, @c30r4.eq_1, @c30r5.eq_1, @c30r6.eq_1, @c30r8.eq_1⟩
theorem pc39 (s : Sz) : PC Tryd.prog 30 [.ag (eZ s)] (.b (szOk s)) := by
 refine pc_fn fn30 (by simp only [AV.plains, AV.plain, il_plain, bl_plain, Bool.and_true, Bool.true_and, Bool.and_self]) (by simp only [AV.plains, AV.plain, il_plain, bl_plain, Bool.and_true, Bool.true_and, Bool.and_self]) (Nat.le_of_ble_eq_true rfl) ?_
 rw [initSt1]
 repeat' first | (with_reducible first | refine kzq ?_ | refine kzs ?_ | refine kzS ?_ | refine kzR ?_ | refine kzC ?_ | refine kzH ?_ | refine kzB ?_ | refine kzK ?_ | refine kzE ?_ | refine kzg ?_) | with_reducible refine k_head (by with_unfolding_all rfl) ?_ | with_reducible refine k_headS ?_ | (with_reducible refine SepK.mk ?_ ?_; (refine sepQ_P ?_; simp [sepQ, sepG, AOp.late, AOp.free, AOp.xs, AOp.isAl, tokNe, AV.tok, stS_get, strip, AX.val, RG30, GA]; try omega)) | with_reducible refine r_done ?_ | with_reducible refine hr_done ?_ | with_reducible refine s_go (by simp (disch := omega) only [RG30, EVA, plug, eq_self, simprocAttr]; with_reducible rfl) ?_ | with_reducible refine h_go (by with_unfolding_all rfl) (by simp (disch := omega) only [RG30, EVA, plug, eq_self, simprocAttr]; with_reducible rfl) ?_ | ((with_reducible refine kzr ?_); refine zrF ?_) | ((with_reducible refine kzh ?_); refine zhF ?_) | ((with_reducible refine kzr ?_); refine zrP (c := by first | exact pc37 _ _ _ _) (k := ?_)) | ((with_reducible refine kzh ?_); refine zhP (c := by first | exact pc37 _ _ _ _) (k := ?_)) | ((with_reducible refine kzh ?_); refine zhQ (c := by first | exact pc37 _ _ _ _) (k := ?_)) | ((with_reducible refine kzr ?_); refine zrG (c := by intro hg; (try simp only [BO] at hg); first | exact pc37 _ _ _ _) (k := ?_)) | ((with_reducible refine kzh ?_); refine zhG (c := by intro hg; (try simp only [BO] at hg); first | exact pc37 _ _ _ _) (k := ?_)) | ((with_reducible refine kzh ?_); refine hr_app (by simp (disch := omega) only [RG30, EVA, plug, eq_self, simprocAttr]; with_reducible rfl) rfl ?_) | (with_reducible refine zkP (fun ht => ?_) (fun ht => ?_) <;> try first | exact False.elim ht | exact absurd rfl ht | exact absurd trivial ht | exact Bool.noConfusion ht) | (with_reducible (refine k_ret ?_; repeat first | refine kzt ?_ | refine kzb ?_ | refine fin ?_)) | (with_reducible (refine kzx ?_; repeat first | refine thru ?_ | refine kzo ?_ | refine pass (by decide) ?_)) | ((first | refine post1 ?_ | refine post2 ?_ | refine post3 ?_); simp only [GA, simprocAttr]) | refine post0 ?_
 refine k_blk (k_loopS (X := Unit) [1, 3, 13] 5 (fun k _ => [(1, .p 1 0), (3, .b (szP s k)), (13, .i .i64 (k : Int))]) (fun k _ h => h.m 1 = some (.cells true (eZ s))) () (by simp only [Am.keep, ZK, simprocAttr]; try rfl) (by simp (disch := omega) only [RG30, EVA, plug, eq_self, simprocAttr] <;> rfl) ?_)
 rintro k _ h hk hm ok pos
 by_cases klt : k < 5
 ·have klt' : (k : Int) < 5 := by omega
  have g1 := eZ_F s klt
  have g2 := eZ_T s klt
  have g3 := eZ_B s klt
  repeat' first | (with_reducible first | refine kzq ?_ | refine kzs ?_ | refine kzS ?_ | refine kzR ?_ | refine kzC ?_ | refine kzH ?_ | refine kzB ?_ | refine kzK ?_ | refine kzE ?_ | refine kzg ?_) | with_reducible refine k_head (by with_unfolding_all rfl) ?_ | with_reducible refine k_headS ?_ | (with_reducible refine SepK.mk ?_ ?_; (refine sepQ_P ?_; simp [sepQ, sepG, AOp.late, AOp.free, AOp.xs, AOp.isAl, tokNe, AV.tok, stS_get, strip, AX.val, RG30, GA]; try omega)) | with_reducible refine r_done ?_ | with_reducible refine hr_done ?_ | with_reducible refine s_go (by simp (disch := omega) only [klt', hm, row_m hm, read_row (row_m hm), g1, g2, g3, RG30, EVA, plug, eq_self, simprocAttr]; with_reducible rfl) ?_ | with_reducible refine h_go (by with_unfolding_all rfl) (by simp (disch := omega) only [klt', hm, row_m hm, read_row (row_m hm), g1, g2, g3, RG30, EVA, plug, eq_self, simprocAttr]; with_reducible rfl) ?_ | ((with_reducible refine kzr ?_); refine zrF ?_) | ((with_reducible refine kzh ?_); refine zhF ?_) | ((with_reducible refine kzr ?_); refine zrP (c := by first | exact pc37 _ _ _ _) (k := ?_)) | ((with_reducible refine kzh ?_); refine zhP (c := by first | exact pc37 _ _ _ _) (k := ?_)) | ((with_reducible refine kzh ?_); refine zhQ (c := by first | exact pc37 _ _ _ _) (k := ?_)) | ((with_reducible refine kzr ?_); refine zrG (c := by intro hg; (try simp only [BO] at hg); first | exact pc37 _ _ _ _) (k := ?_)) | ((with_reducible refine kzh ?_); refine zhG (c := by intro hg; (try simp only [BO] at hg); first | exact pc37 _ _ _ _) (k := ?_)) | ((with_reducible refine kzh ?_); refine hr_app (by simp (disch := omega) only [klt', hm, row_m hm, read_row (row_m hm), g1, g2, g3, RG30, EVA, plug, eq_self, simprocAttr]; with_reducible rfl) rfl ?_) | (with_reducible refine zkP (fun ht => ?_) (fun ht => ?_) <;> try first | exact False.elim ht | exact absurd rfl ht | exact absurd trivial ht | exact Bool.noConfusion ht) | (with_reducible (refine k_ret ?_; repeat first | refine kzt ?_ | refine kzb ?_ | refine fin ?_)) | (with_reducible (refine kzx ?_; repeat first | refine thru ?_ | refine kzo ?_ | refine pass (by decide) ?_)) | ((first | refine post1 ?_ | refine post2 ?_ | refine post3 ?_); simp only [GA, simprocAttr]) | refine post0 ?_
  exact ⟨klt, (), (by simp only [Am.keep, ZK, simprocAttr]; try rfl), hm⟩
 ·obtain rfl : k = 5 := by omega
  have klt' : ¬ ((5 : Nat) : Int) < 5 := by omega
  repeat' first | (with_reducible first | refine kzq ?_ | refine kzs ?_ | refine kzS ?_ | refine kzR ?_ | refine kzC ?_ | refine kzH ?_ | refine kzB ?_ | refine kzK ?_ | refine kzE ?_ | refine kzg ?_) | with_reducible refine k_head (by with_unfolding_all rfl) ?_ | with_reducible refine k_headS ?_ | (with_reducible refine SepK.mk ?_ ?_; (refine sepQ_P ?_; simp [sepQ, sepG, AOp.late, AOp.free, AOp.xs, AOp.isAl, tokNe, AV.tok, stS_get, strip, AX.val, RG30, GA]; try omega)) | with_reducible refine r_done ?_ | with_reducible refine hr_done ?_ | with_reducible refine s_go (by simp (disch := omega) only [klt', RG30, EVA, plug, eq_self, simprocAttr]; with_reducible rfl) ?_ | with_reducible refine h_go (by with_unfolding_all rfl) (by simp (disch := omega) only [klt', RG30, EVA, plug, eq_self, simprocAttr]; with_reducible rfl) ?_ | ((with_reducible refine kzr ?_); refine zrF ?_) | ((with_reducible refine kzh ?_); refine zhF ?_) | ((with_reducible refine kzh ?_); refine hr_app (by simp (disch := omega) only [klt', RG30, EVA, plug, eq_self, simprocAttr]; with_reducible rfl) rfl ?_) | (with_reducible refine zkP (fun ht => ?_) (fun ht => ?_) <;> try first | exact False.elim ht | exact absurd rfl ht | exact absurd trivial ht | exact Bool.noConfusion ht) | (with_reducible (refine k_ret ?_; repeat first | refine kzt ?_ | refine kzb ?_ | refine fin ?_)) | (with_reducible (refine kzx ?_; repeat first | refine thru ?_ | refine kzo ?_ | refine pass (by decide) ?_)) | ((first | refine post1 ?_ | refine post2 ?_ | refine post3 ?_); simp only [GA, simprocAttr]) | refine post0 ?_
  all_goals first | exact ends_of | exact ends_eq rfl
def Z0 : Sz := ⟨0, fun _ => 0, fun _ => 0, fun _ => 0, 0⟩
def gF (n : Int) (d : Nat → Int) (F : Nat → Int) (k : Nat) (j : Nat) : Int := if j < k then F j + n * d j else F j
theorem gF_at (n : Int) (d F : Nat → Int) (k : Nat) : gF n d F k k = F k := if_neg (by omega)
def gZ (s : Sz) (d : Nat → Int) (n : Int) (k k' : Nat) : Sz := ⟨s.c + n, gF n d s.F k, gF n d s.T k', s.B, s.t⟩
theorem eZ_len (s : Sz) : (eZ s).length = 17 := rfl
theorem eZ_rd (s : Sz) : rd (eZ s) 0 (some 17) = some (.ag (eZ s)) := rfl
theorem e5_rd (F : Nat → Int) : rd (e5 F) 0 (some 5) = some (.ag (e5 F)) := rfl
theorem eZ_rc (s : Sz) : rd (eZ s) 0 none = some (.i .i64 s.c) := rfl
theorem eZ_setF {s : Sz} {d : Nat → Int} {n : Int} {k k' : Nat} (h : k < 5) : (eZ (gZ s d n k k')).set (1 + k) (.i .i64 (s.F k + n * d k)) = eZ (gZ s d n (k + 1) k') := by
 rcases k with _ | _ | _ | _ | _ | k <;> first | rfl | omega
theorem eZ_setT {s : Sz} {d : Nat → Int} {n : Int} {k k' : Nat} (h : k' < 5) : (eZ (gZ s d n k k')).set (6 + k') (.i .i64 (s.T k' + n * d k')) = eZ (gZ s d n k (k' + 1)) := by
 rcases k' with _ | _ | _ | _ | _ | k' <;> first | rfl | omega
theorem eZ_setc {s : Sz} {d : Nat → Int} {n : Int} : (eZ s).set 0 (.i .i64 (s.c + n)) = eZ (gZ s d n 0 0) := rfl
def argOk (d : Nat → Int) (n : Int) : Nat → Bool
 | 0 => decide (-20 ≤ n) && decide (n ≤ 20)
 | k + 1 => argOk d n k && (decide (-300 ≤ d k) && decide (d k ≤ 300))
theorem argOk_iff {d : Nat → Int} {n : Int} : ∀ {k : Nat}, argOk d n k = true ↔ (-20 ≤ n ∧ n ≤ 20) ∧ ∀ i, i < k → -300 ≤ d i ∧ d i ≤ 300
 | 0 => by simp [argOk]
 | k + 1 => by
   simp only [argOk, Bool.and_eq_true, argOk_iff (k := k), decide_eq_true_eq]
   constructor
   ·rintro ⟨⟨h1, h2⟩, h3⟩
    refine ⟨h1, fun i hi => ?_⟩
    by_cases e : i = k
    ·subst e; omega
    ·exact h2 i (by omega)
   ·rintro ⟨h1, h2⟩
    exact ⟨⟨h1, fun i hi => h2 i (by omega)⟩, h2 k (by omega)⟩
theorem nd_bd {n d : Int} (h1 : -20 ≤ n ∧ n ≤ 20) (h2 : -300 ≤ d ∧ d ≤ 300) : -6000 ≤ n * d ∧ n * d ≤ 6000 := by
 have h : (n * d).natAbs ≤ 20 * 300 := by
  rw [Int.natAbs_mul]
  exact Nat.mul_le_mul (by omega) (by omega)
 generalize n * d = x at *
 omega
def grd (s : Sz) (d : Nat → Int) (n : Int) : Sz × Int := if szOk s = false then (Z0, 31) else if argOk d n 5 = false then (Z0, 2) else if szOk (gZ s d n 5 5) = false then (Z0, 2) else (gZ s d n 5 5, 0)
theorem RG62 : (type_of% @c62r0.eq_1) ∧ (type_of% @c62r1.eq_1) ∧ (type_of% @c62r2.eq_1) ∧ (type_of% @c62r3.eq_1) ∧ (type_of% @c62r4.eq_1) ∧ (type_of% @c62r5.eq_1) ∧ (type_of% @c62r6.eq_1) ∧ (type_of% @c62r7.eq_1) ∧ (type_of% @c62r8.eq_1) ∧ (type_of% @c62r10.eq_1) ∧ (type_of% @c62r11.eq_1) ∧ (type_of% @c62r12.eq_1) ∧ (type_of% @c62r13.eq_1) ∧ (type_of% @c62r14.eq_1) ∧ (type_of% @c62r15.eq_1) ∧ (type_of% @c62r16.eq_1) ∧ (type_of% @c62r17.eq_1) ∧ (type_of% @c62r18.eq_1) ∧ (type_of% @c62r20.eq_1) ∧ (type_of% @c62r21.eq_1) ∧ (type_of% @c62r22.eq_1) := ⟨@c62r0.eq_1, @c62r1.eq_1, @c62r2.eq_1, @c62r3.eq_1, @c62r4.eq_1, @c62r5.eq_1, @c62r6.eq_1, @c62r7.eq_1, @c62r8.eq_1, @c62r10.eq_1, @c62r11.eq_1, @c62r12.eq_1, @c62r13.eq_1, @c62r14.eq_1, @c62r15.eq_1, @c62r16.eq_1, @c62r17.eq_1, @c62r18.eq_1, @c62r20.eq_1, @c62r21.eq_1, @c62r22.eq_1⟩
theorem pc19 (s : Sz) (d : Nat → Int) (n : Int) : PC Tryd.prog 62 [.ag (eZ s), .ag (e5 d), .i .i64 n] (.tu [.ag (eZ (grd s d n).1), .i .i64 (grd s d n).2]) := by
 refine pc_fn fn62 (by simp only [AV.plains, AV.plain, il_plain, bl_plain, Bool.and_true, Bool.true_and, Bool.and_self]) (by simp only [AV.plains, AV.plain, il_plain, bl_plain, Bool.and_true, Bool.true_and, Bool.and_self]) (Nat.le_of_ble_eq_true rfl) ?_
 rw [initSt3]
 have q := pc39 s
 unfold grd
 cases c1 : szOk s with
 | false =>
   rw [c1] at q
   rw [if_pos rfl]
   repeat' first | (with_reducible first | refine kzq ?_ | refine kzs ?_ | refine kzS ?_ | refine kzR ?_ | refine kzC ?_ | refine kzH ?_ | refine kzB ?_ | refine kzK ?_ | refine kzE ?_ | refine kzg ?_) | with_reducible refine r_done ?_ | with_reducible refine s_go (by simp (disch := omega) only [eZ_rd, RG62, EVA, plug, eq_self, simprocAttr]; with_reducible rfl) ?_ | ((with_reducible refine kzr ?_); refine zrF ?_) | ((with_reducible refine kzr ?_); refine zrP (c := by first | exact q _) (k := ?_)) | ((with_reducible refine kzr ?_); refine zrG (c := by intro hg; (try simp only [BO] at hg); first | exact q _) (k := ?_)) | (with_reducible refine zkP (fun ht => ?_) (fun ht => ?_) <;> try first | exact False.elim ht | exact absurd rfl ht | exact absurd trivial ht | exact Bool.noConfusion ht) | (with_reducible (refine k_ret ?_; repeat first | refine kzt ?_ | refine kzb ?_ | refine fin ?_)) | (with_reducible (refine kzx ?_; repeat first | refine thru ?_ | refine kzo ?_ | refine pass (by decide) ?_)) | ((first | refine post1 ?_ | refine post2 ?_ | refine post3 ?_); simp only [GA, simprocAttr]) | (refine postc (by simp only [GA, simprocAttr]; rfl) (by simp (disch := omega) only [eZ_rd, RG62, EVA, plug, eq_self, simprocAttr]; rfl) ?_) | (refine postct (by simp only [GA, simprocAttr]; rfl) (by simp (disch := omega) only [eZ_rd, RG62, EVA, plug, eq_self, simprocAttr]; rfl) ?_; simp only [GA, simprocAttr]) | refine post0 ?_
   all_goals first | exact ends_of | exact ends_eq rfl
 | true =>
   rw [c1] at q
   rw [if_neg (by simp)]
   repeat' first | (with_reducible first | refine kzq ?_ | refine kzs ?_ | refine kzS ?_ | refine kzR ?_ | refine kzC ?_ | refine kzH ?_ | refine kzB ?_ | refine kzK ?_ | refine kzE ?_ | refine kzg ?_) | with_reducible refine r_done ?_ | with_reducible refine s_go (by simp (disch := omega) only [eZ_rd, e5_rd, RG62, EVA, plug, eq_self, simprocAttr]; with_reducible rfl) ?_ | ((with_reducible refine kzr ?_); refine zrF ?_) | ((with_reducible refine kzr ?_); refine zrP (c := by first | exact q _ | exact pc37 _ _ _ _) (k := ?_)) | ((with_reducible refine kzr ?_); refine zrG (c := by intro hg; (try simp only [BO] at hg); first | exact q _ | exact pc37 _ _ _ _) (k := ?_)) | (with_reducible refine zkP (fun ht => ?_) (fun ht => ?_) <;> try first | exact False.elim ht | exact absurd rfl ht | exact absurd trivial ht | exact Bool.noConfusion ht) | (with_reducible (refine k_ret ?_; repeat first | refine kzt ?_ | refine kzb ?_ | refine fin ?_)) | (with_reducible (refine kzx ?_; repeat first | refine thru ?_ | refine kzo ?_ | refine pass (by decide) ?_)) | ((first | refine post1 ?_ | refine post2 ?_ | refine post3 ?_); simp only [GA, simprocAttr]) | (refine postc (by simp only [GA, simprocAttr]; rfl) (by simp (disch := omega) only [eZ_rd, e5_rd, RG62, EVA, plug, eq_self, simprocAttr]; rfl) ?_) | (refine postct (by simp only [GA, simprocAttr]; rfl) (by simp (disch := omega) only [eZ_rd, e5_rd, RG62, EVA, plug, eq_self, simprocAttr]; rfl) ?_; simp only [GA, simprocAttr]) | refine post0 ?_
   refine k_blk (k_loopS (X := Unit) [2, 3, 4, 6, 8, 19, 20] 5 (fun k _ => [(2, .i .i64 n), (3, .p 1 0), (4, .p 2 0), (6, .p 3 0), (8, .b (argOk d n k)), (19, .ag (e5 d)), (20, .i .i64 (k : Int))]) (fun k _ h => h.m 1 = some (.cells true (eZ s)) ∧ h.m 2 = some (.cells true (e5 d)) ∧ h.m 3 = some (.cells true (eZ Z0))) () (by simp only [Am.keep, ZK, simprocAttr]; try rfl) ⟨by simp (disch := omega) only [RG62, EVA, plug, eq_self, simprocAttr] <;> rfl, by simp (disch := omega) only [RG62, EVA, plug, eq_self, simprocAttr] <;> rfl, by simp (disch := omega) only [RG62, EVA, plug, eq_self, simprocAttr] <;> rfl⟩ ?_)
   rintro k _ h hk ⟨hm, hm2, hm3⟩ ok pos
   by_cases klt : k < 5
   ·have klt' : (k : Int) < 5 := by omega
    have g1 := e5_get (F := d) klt
    repeat' first | (with_reducible first | refine kzq ?_ | refine kzs ?_ | refine kzS ?_ | refine kzR ?_ | refine kzC ?_ | refine kzH ?_ | refine kzB ?_ | refine kzK ?_ | refine kzE ?_ | refine kzg ?_) | with_reducible refine r_done ?_ | with_reducible refine s_go (by simp (disch := omega) only [klt', g1, RG62, EVA, plug, eq_self, simprocAttr]; with_reducible rfl) ?_ | ((with_reducible refine kzr ?_); refine zrF ?_) | ((with_reducible refine kzr ?_); refine zrP (c := by first | exact pc37 _ _ _ _) (k := ?_)) | ((with_reducible refine kzr ?_); refine zrG (c := by intro hg; (try simp only [BO] at hg); first | exact pc37 _ _ _ _) (k := ?_)) | (with_reducible refine zkP (fun ht => ?_) (fun ht => ?_) <;> try first | exact False.elim ht | exact absurd rfl ht | exact absurd trivial ht | exact Bool.noConfusion ht) | (with_reducible (refine k_ret ?_; repeat first | refine kzt ?_ | refine kzb ?_ | refine fin ?_)) | (with_reducible (refine kzx ?_; repeat first | refine thru ?_ | refine kzo ?_ | refine pass (by decide) ?_)) | ((first | refine post1 ?_ | refine post2 ?_ | refine post3 ?_); simp only [GA, simprocAttr]) | (refine postc (by simp only [GA, simprocAttr]; rfl) (by simp (disch := omega) only [klt', g1, RG62, EVA, plug, eq_self, simprocAttr]; rfl) ?_) | (refine postct (by simp only [GA, simprocAttr]; rfl) (by simp (disch := omega) only [klt', g1, RG62, EVA, plug, eq_self, simprocAttr]; rfl) ?_; simp only [GA, simprocAttr]) | refine post0 ?_
    exact ⟨klt, (), (by simp only [Am.keep, ZK, simprocAttr]; try rfl), hm, hm2, hm3⟩
   ·obtain rfl : k = 5 := by omega
    have klt' : ¬ ((5 : Nat) : Int) < 5 := by omega
    cases c2 : argOk d n 5 with
    | false =>
      rw [if_pos rfl]
      repeat' first | (with_reducible first | refine kzq ?_ | refine kzs ?_ | refine kzS ?_ | refine kzR ?_ | refine kzC ?_ | refine kzH ?_ | refine kzB ?_ | refine kzK ?_ | refine kzE ?_ | refine kzg ?_) | with_reducible refine r_done ?_ | with_reducible refine s_go (by simp (disch := omega) only [klt', c2, hm3, row_m hm3, read_row (row_m hm3), RG62, EVA, plug, eq_self, simprocAttr]; with_reducible rfl) ?_ | ((with_reducible refine kzr ?_); refine zrF ?_) | (with_reducible refine zkP (fun ht => ?_) (fun ht => ?_) <;> try first | exact False.elim ht | exact absurd rfl ht | exact absurd trivial ht | exact Bool.noConfusion ht) | (with_reducible (refine k_ret ?_; repeat first | refine kzt ?_ | refine kzb ?_ | refine fin ?_)) | (with_reducible (refine kzx ?_; repeat first | refine thru ?_ | refine kzo ?_ | refine pass (by decide) ?_)) | ((first | refine post1 ?_ | refine post2 ?_ | refine post3 ?_); simp only [GA, simprocAttr]) | (refine postc (by simp only [GA, simprocAttr]; rfl) (by simp (disch := omega) only [klt', c2, hm3, row_m hm3, read_row (row_m hm3), RG62, EVA, plug, eq_self, simprocAttr]; rfl) ?_) | (refine postct (by simp only [GA, simprocAttr]; rfl) (by simp (disch := omega) only [klt', c2, hm3, row_m hm3, read_row (row_m hm3), RG62, EVA, plug, eq_self, simprocAttr]; rfl) ?_; simp only [GA, simprocAttr]) | refine post0 ?_
      all_goals first | exact ends_of | exact ends_eq rfl
    | true =>
      rw [if_neg (by simp)]
      have b1 := szOk_iff.1 c1
      have b2 := argOk_iff.1 c2
      have w1 : IntKind.i64.wrap (s.c + n) = s.c + n := wrap64 (by omega) (by omega)
      repeat' first | (with_reducible first | refine kzq ?_ | refine kzs ?_ | refine kzS ?_ | refine kzR ?_ | refine kzC ?_ | refine kzH ?_ | refine kzB ?_ | refine kzK ?_ | refine kzE ?_ | refine kzg ?_) | with_reducible refine r_done ?_ | with_reducible refine s_go (by simp (disch := omega) only [klt', c2, hm, row_m hm, read_row (row_m hm), hm2, row_m hm2, read_row (row_m hm2), e5_rd, eZ_rc, eZ_len, eZ_setc, w1, RG62, EVA, plug, eq_self, simprocAttr]; with_reducible rfl) ?_ | ((with_reducible refine kzr ?_); refine zrF ?_) | (with_reducible refine zkP (fun ht => ?_) (fun ht => ?_) <;> try first | exact False.elim ht | exact absurd rfl ht | exact absurd trivial ht | exact Bool.noConfusion ht) | (with_reducible (refine k_ret ?_; repeat first | refine kzt ?_ | refine kzb ?_ | refine fin ?_)) | (with_reducible (refine kzx ?_; repeat first | refine thru ?_ | refine kzo ?_ | refine pass (by decide) ?_)) | ((first | refine post1 ?_ | refine post2 ?_ | refine post3 ?_); simp only [GA, simprocAttr]) | (refine postc (by simp only [GA, simprocAttr]; rfl) (by simp (disch := omega) only [klt', c2, hm, row_m hm, read_row (row_m hm), hm2, row_m hm2, read_row (row_m hm2), e5_rd, eZ_rc, eZ_len, eZ_setc, w1, RG62, EVA, plug, eq_self, simprocAttr]; rfl) ?_) | (refine postct (by simp only [GA, simprocAttr]; rfl) (by simp (disch := omega) only [klt', c2, hm, row_m hm, read_row (row_m hm), hm2, row_m hm2, read_row (row_m hm2), e5_rd, eZ_rc, eZ_len, eZ_setc, w1, RG62, EVA, plug, eq_self, simprocAttr]; rfl) ?_; simp only [GA, simprocAttr]) | refine post0 ?_
      refine k_blk (k_loopS (X := Unit) [2, 3, 6, 37, 38] 5 (fun k _ => [(2, .i .i64 n), (3, .p 1 0), (6, .p 3 0), (37, .ag (e5 d)), (38, .i .i64 (k : Int))]) (fun k _ h => h.m 1 = some (.cells true (eZ (gZ s d n k k))) ∧ h.m 3 = some (.cells true (eZ Z0))) () (by simp only [Am.keep, ZK, simprocAttr]; try rfl) ⟨by simp (disch := omega) only [eZ_setc, RG62, EVA, plug, eq_self, simprocAttr] <;> rfl, by simp (disch := omega) only [hm3, RG62, EVA, plug, eq_self, simprocAttr] <;> rfl⟩ ?_)
      rintro k _ h hk ⟨hm, hm3⟩ ok pos
      by_cases klt : k < 5
      ·have klt' : (k : Int) < 5 := by omega
       have g1 := e5_get (F := d) klt
       have g2 := eZ_F (gZ s d n k k) klt
       have g3 := eZ_T (gZ s d n (k + 1) k) klt
       have s1 := eZ_setF (s := s) (d := d) (n := n) (k := k) (k' := k) klt
       have s2 := eZ_setT (s := s) (d := d) (n := n) (k := k + 1) (k' := k) klt
       rw [show (gZ s d n k k).F k = s.F k from gF_at _ _ _ _] at g2
       rw [show (gZ s d n (k + 1) k).T k = s.T k from gF_at _ _ _ _] at g3
       have bd := nd_bd b2.1 (b2.2 k klt)
       have bs := b1.2 k klt
       have w1 : IntKind.i64.wrap (n * d k) = n * d k := wrap64 (by omega) (by omega)
       have w2 : IntKind.i64.wrap (s.F k + n * d k) = s.F k + n * d k := wrap64 (by omega) (by omega)
       have w3 : IntKind.i64.wrap (s.T k + n * d k) = s.T k + n * d k := wrap64 (by omega) (by omega)
       repeat' first | (with_reducible first | refine kzq ?_ | refine kzs ?_ | refine kzS ?_ | refine kzR ?_ | refine kzC ?_ | refine kzH ?_ | refine kzB ?_ | refine kzK ?_ | refine kzE ?_ | refine kzg ?_) | with_reducible refine r_done ?_ | with_reducible refine s_go (by simp (disch := omega) only [klt', g1, g2, g3, s1, s2, w1, w2, w3, eZ_len, hm, row_m hm, read_row (row_m hm), RG62, EVA, plug, eq_self, simprocAttr]; with_reducible rfl) ?_ | ((with_reducible refine kzr ?_); refine zrF ?_) | (with_reducible refine zkP (fun ht => ?_) (fun ht => ?_) <;> try first | exact False.elim ht | exact absurd rfl ht | exact absurd trivial ht | exact Bool.noConfusion ht) | (with_reducible (refine k_ret ?_; repeat first | refine kzt ?_ | refine kzb ?_ | refine fin ?_)) | (with_reducible (refine kzx ?_; repeat first | refine thru ?_ | refine kzo ?_ | refine pass (by decide) ?_)) | ((first | refine post1 ?_ | refine post2 ?_ | refine post3 ?_); simp only [GA, simprocAttr]) | (refine postc (by simp only [GA, simprocAttr]; rfl) (by simp (disch := omega) only [klt', g1, g2, g3, s1, s2, w1, w2, w3, eZ_len, hm, row_m hm, read_row (row_m hm), RG62, EVA, plug, eq_self, simprocAttr]; rfl) ?_) | (refine postct (by simp only [GA, simprocAttr]; rfl) (by simp (disch := omega) only [klt', g1, g2, g3, s1, s2, w1, w2, w3, eZ_len, hm, row_m hm, read_row (row_m hm), RG62, EVA, plug, eq_self, simprocAttr]; rfl) ?_; simp only [GA, simprocAttr]) | refine post0 ?_
       exact ⟨klt, (), (by simp only [Am.keep, ZK, simprocAttr]; try rfl), by simp (disch := omega) only [s1, s2, RG62, EVA, plug, eq_self, simprocAttr], by simp (disch := omega) only [hm3, RG62, EVA, plug, eq_self, simprocAttr]⟩
      ·obtain rfl : k = 5 := by omega
       have klt' : ¬ ((5 : Nat) : Int) < 5 := by omega
       have q := pc39 (gZ s d n 5 5)
       cases c3 : szOk (gZ s d n 5 5) with
       | false =>
         rw [c3] at q
         rw [if_pos rfl]
         repeat' first | (with_reducible first | refine kzq ?_ | refine kzs ?_ | refine kzS ?_ | refine kzR ?_ | refine kzC ?_ | refine kzH ?_ | refine kzB ?_ | refine kzK ?_ | refine kzE ?_ | refine kzg ?_) | with_reducible refine r_done ?_ | with_reducible refine s_go (by simp (disch := omega) only [klt', eZ_rd, hm, row_m hm, read_row (row_m hm), hm3, row_m hm3, read_row (row_m hm3), RG62, EVA, plug, eq_self, simprocAttr]; with_reducible rfl) ?_ | ((with_reducible refine kzr ?_); refine zrF ?_) | ((with_reducible refine kzr ?_); refine zrP (c := by first | exact q _) (k := ?_)) | ((with_reducible refine kzr ?_); refine zrG (c := by intro hg; (try simp only [BO] at hg); first | exact q _) (k := ?_)) | (with_reducible refine zkP (fun ht => ?_) (fun ht => ?_) <;> try first | exact False.elim ht | exact absurd rfl ht | exact absurd trivial ht | exact Bool.noConfusion ht) | (with_reducible (refine k_ret ?_; repeat first | refine kzt ?_ | refine kzb ?_ | refine fin ?_)) | (with_reducible (refine kzx ?_; repeat first | refine thru ?_ | refine kzo ?_ | refine pass (by decide) ?_)) | ((first | refine post1 ?_ | refine post2 ?_ | refine post3 ?_); simp only [GA, simprocAttr]) | (refine postc (by simp only [GA, simprocAttr]; rfl) (by simp (disch := omega) only [klt', eZ_rd, hm, row_m hm, read_row (row_m hm), hm3, row_m hm3, read_row (row_m hm3), RG62, EVA, plug, eq_self, simprocAttr]; rfl) ?_) | (refine postct (by simp only [GA, simprocAttr]; rfl) (by simp (disch := omega) only [klt', eZ_rd, hm, row_m hm, read_row (row_m hm), hm3, row_m hm3, read_row (row_m hm3), RG62, EVA, plug, eq_self, simprocAttr]; rfl) ?_; simp only [GA, simprocAttr]) | refine post0 ?_
         all_goals first | exact ends_of | exact ends_eq rfl
       | true =>
         rw [c3] at q
         rw [if_neg (by simp)]
         repeat' first | (with_reducible first | refine kzq ?_ | refine kzs ?_ | refine kzS ?_ | refine kzR ?_ | refine kzC ?_ | refine kzH ?_ | refine kzB ?_ | refine kzK ?_ | refine kzE ?_ | refine kzg ?_) | with_reducible refine r_done ?_ | with_reducible refine s_go (by simp (disch := omega) only [klt', eZ_rd, hm, row_m hm, read_row (row_m hm), hm3, row_m hm3, read_row (row_m hm3), RG62, EVA, plug, eq_self, simprocAttr]; with_reducible rfl) ?_ | ((with_reducible refine kzr ?_); refine zrF ?_) | ((with_reducible refine kzr ?_); refine zrP (c := by first | exact q _) (k := ?_)) | ((with_reducible refine kzr ?_); refine zrG (c := by intro hg; (try simp only [BO] at hg); first | exact q _) (k := ?_)) | (with_reducible refine zkP (fun ht => ?_) (fun ht => ?_) <;> try first | exact False.elim ht | exact absurd rfl ht | exact absurd trivial ht | exact Bool.noConfusion ht) | (with_reducible (refine k_ret ?_; repeat first | refine kzt ?_ | refine kzb ?_ | refine fin ?_)) | (with_reducible (refine kzx ?_; repeat first | refine thru ?_ | refine kzo ?_ | refine pass (by decide) ?_)) | ((first | refine post1 ?_ | refine post2 ?_ | refine post3 ?_); simp only [GA, simprocAttr]) | (refine postc (by simp only [GA, simprocAttr]; rfl) (by simp (disch := omega) only [klt', eZ_rd, hm, row_m hm, read_row (row_m hm), hm3, row_m hm3, read_row (row_m hm3), RG62, EVA, plug, eq_self, simprocAttr]; rfl) ?_) | (refine postct (by simp only [GA, simprocAttr]; rfl) (by simp (disch := omega) only [klt', eZ_rd, hm, row_m hm, read_row (row_m hm), hm3, row_m hm3, read_row (row_m hm3), RG62, EVA, plug, eq_self, simprocAttr]; rfl) ?_; simp only [GA, simprocAttr]) | refine post0 ?_
         all_goals first | exact ends_of | exact ends_eq rfl
end Go.Proofs.YtjaihaccehaicaaDoor
