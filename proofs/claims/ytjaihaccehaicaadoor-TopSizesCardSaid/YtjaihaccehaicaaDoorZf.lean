/- What the proof of the law needs: the abstract machine, the functions as it reads them, their contracts, part 6. -/
import Derived.Test.YtjaihaccehaicaaDoorZe
set_option linter.unusedVariables false
set_option linter.unusedSimpArgs false
namespace Go.Proofs.YtjaihaccehaicaaDoor
open Go Go.Am Go.Proofs
structure Hd where
 n : Int
 M : Nat → Int
abbrev eH (h : Hd) : List AV := [.i .i64 h.n, .i .i64 (h.M 0), .i .i64 (h.M 1), .i .i64 (h.M 2), .i .i64 (h.M 3), .i .i64 (h.M 4)]
def H0 : Hd := ⟨0, fun _ => 0⟩
def farM (m : Int) : Bool := !(decide (0 ≤ m) && decide (m ≤ 3000))
theorem pc86 (x : Int) : PC Tryd.prog 67 [.i .i64 x] (.b (farM x)) := by
 refine pc_fn fn67 (by simp only [AV.plains, AV.plain, il_plain, bl_plain, Bool.and_true, Bool.true_and, Bool.and_self]) (by simp only [AV.plains, AV.plain, il_plain, bl_plain, Bool.and_true, Bool.true_and, Bool.and_self]) (Nat.le_of_ble_eq_true rfl) ?_
 rw [initSt1]
 repeat' first | (with_reducible first | refine kzq ?_ | refine kzs ?_ | refine kzS ?_ | refine kzR ?_ | refine kzC ?_ | refine kzH ?_ | refine kzB ?_ | refine kzK ?_ | refine kzE ?_ | refine kzg ?_) | with_reducible refine r_done ?_ | with_reducible refine s_go (by simp (disch := omega) only [c67r0, c67r1, EVA, plug, eq_self, simprocAttr]; with_reducible rfl) ?_ | ((with_reducible refine kzr ?_); refine zrF ?_) | ((with_reducible refine kzr ?_); refine zrP (c := by first | exact pc37 _ _ _ _) (k := ?_)) | (with_reducible refine zkP (fun ht => ?_) (fun ht => ?_) <;> try first | exact False.elim ht | exact absurd rfl ht | exact absurd trivial ht | exact Bool.noConfusion ht) | (with_reducible (refine k_ret ?_; repeat first | refine kzt ?_ | refine kzb ?_ | refine fin ?_)) | (with_reducible (refine kzx ?_; repeat first | refine thru ?_ | refine kzo ?_ | refine pass (by decide) ?_)) | ((first | refine post1 ?_ | refine post2 ?_ | refine post3 ?_); simp only [GA, simprocAttr]) | refine post0 ?_
 all_goals first | exact ends_of | exact ends_eq rfl
def hdL (h : Hd) : List Int := [h.M 0, h.M 1, h.M 2, h.M 3, h.M 4]
def hdOk (h : Hd) : Bool := (decide (1 ≤ h.n) && decide (h.n ≤ 1000000000)) && !anyZ farM (hdL h)
theorem hdOk_iff {h : Hd} : hdOk h = true ↔ (1 ≤ h.n ∧ h.n ≤ 1000000000) ∧ ∀ i, i < 5 → 0 ≤ h.M i ∧ h.M i ≤ 3000 := by
 have e : anyZ farM (hdL h) = false ↔ ∀ i, i < 5 → 0 ≤ h.M i ∧ h.M i ≤ 3000 := by
  rw [← Bool.not_eq_true, anyZ_iff]
  simp only [hdL, farM, List.mem_cons, List.not_mem_nil, or_false, Bool.not_eq_true', Bool.and_eq_false_iff, decide_eq_false_iff_not]
  constructor
  ·intro hn i hi
   have : 0 ≤ h.M i ∧ h.M i ≤ 3000 := Classical.byContradiction fun q => hn ⟨h.M i, by rcases i with _ | _ | _ | _ | _ | i <;> first | simp | omega, by omega⟩
   exact this
  ·rintro hall ⟨x, hx, hf⟩
   have h0 := hall 0 (by omega)
   have h1 := hall 1 (by omega)
   have h2 := hall 2 (by omega)
   have h3 := hall 3 (by omega)
   have h4 := hall 4 (by omega)
   omega
 simp only [hdOk, Bool.and_eq_true, decide_eq_true_eq, Bool.not_eq_true', e]
theorem pc78 (x : Hd) : PC Tryd.prog 36 [.ag (eH x)] (.b (hdOk x)) := by
 refine pc_fn fn36 (by simp only [AV.plains, AV.plain, il_plain, bl_plain, Bool.and_true, Bool.true_and, Bool.and_self]) (by simp only [AV.plains, AV.plain, il_plain, bl_plain, Bool.and_true, Bool.true_and, Bool.and_self]) (Nat.le_of_ble_eq_true rfl) ?_
 rw [initSt1]
 have q35 := pc35 (hdL x) (by simp [hdL]) 67 [] rfl farM pc86
 repeat' first | (with_reducible first | refine kzq ?_ | refine kzs ?_ | refine kzS ?_ | refine kzR ?_ | refine kzC ?_ | refine kzH ?_ | refine kzB ?_ | refine kzK ?_ | refine kzE ?_ | refine kzg ?_) | with_reducible refine r_done ?_ | with_reducible refine s_go (by simp (disch := omega) only [c36r0, c36r1, EVA, plug, eq_self, simprocAttr]; with_reducible rfl) ?_ | ((with_reducible refine kzr ?_); refine zrF ?_) | ((with_reducible refine kzr ?_); refine zrP (c := by first | exact pc37 _ _ _ _ | ((refine PC.at q35 rfl ?F; case F => (refine .cons (.sl (ds := e5 x.M) (by simp (disch := omega) only [c36r0, c36r1, EVA, plug, eq_self, simprocAttr] <;> rfl) rfl (Nows.same rfl)) (.cons (.same rfl) .nil))); all_goals fail)) (k := ?_)) | ((with_reducible refine kzr ?_); refine zrG (c := by intro hg; (try simp only [BO] at hg); first | exact pc37 _ _ _ _ | ((refine PC.at q35 rfl ?F; case F => (refine .cons (.sl (ds := e5 x.M) (by simp (disch := omega) only [c36r0, c36r1, EVA, plug, eq_self, simprocAttr] <;> rfl) rfl (Nows.same rfl)) (.cons (.same rfl) .nil))); all_goals fail)) (k := ?_)) | (with_reducible refine zkP (fun ht => ?_) (fun ht => ?_) <;> try first | exact False.elim ht | exact absurd rfl ht | exact absurd trivial ht | exact Bool.noConfusion ht) | (with_reducible (refine k_ret ?_; repeat first | refine kzt ?_ | refine kzb ?_ | refine fin ?_)) | (with_reducible (refine kzx ?_; repeat first | refine thru ?_ | refine kzo ?_ | refine pass (by decide) ?_)) | ((first | refine post1 ?_ | refine post2 ?_ | refine post3 ?_); simp only [GA, simprocAttr]) | refine post0 ?_
 all_goals first | exact ends_of | exact ends_eq rfl
theorem eH_len (x : Hd) : (eH x).length = 6 := rfl
theorem eH_rM (x : Hd) : rd (eH x) 1 (some 5) = some (.ag (e5 x.M)) := rfl
theorem eH_rn (x : Hd) : rd (eH x) 0 none = some (.i .i64 x.n) := rfl
theorem eH_rd (x : Hd) : rd (eH x) 0 (some 6) = some (.ag (eH x)) := rfl
theorem RG39 : (type_of% @c39r0.eq_1) ∧ (type_of% @c39r1.eq_1) ∧ (type_of% @c39r2.eq_1) ∧ (type_of% @c39r3.eq_1) ∧ (type_of% @c39r4.eq_1) ∧ (type_of% @c39r5.eq_1) ∧ (type_of% @c39r6.eq_1) ∧ (type_of% @c39r8.eq_1) := ⟨@c39r0.eq_1, @c39r1.eq_1, @c39r2.eq_1, @c39r3.eq_1, @c39r4.eq_1, @c39r5.eq_1, @c39r6.eq_1, @c39r8.eq_1⟩
theorem pc61 (x : Hd) : PC Tryd.prog 39 [.ag (eH x)] (.b (hdOk x)) := by
 refine pc_fn fn39 (by simp only [AV.plains, AV.plain, il_plain, bl_plain, Bool.and_true, Bool.true_and, Bool.and_self]) (by simp only [AV.plains, AV.plain, il_plain, bl_plain, Bool.and_true, Bool.true_and, Bool.and_self]) (Nat.le_of_ble_eq_true rfl) ?_
 rw [initSt1]
 repeat' first | (with_reducible first | refine kzq ?_ | refine kzs ?_ | refine kzS ?_ | refine kzR ?_ | refine kzC ?_ | refine kzH ?_ | refine kzB ?_ | refine kzK ?_ | refine kzE ?_ | refine kzg ?_) | with_reducible refine r_done ?_ | with_reducible refine s_go (by simp (disch := omega) only [eH_rM, RG39, EVA, plug, eq_self, simprocAttr]; with_reducible rfl) ?_ | ((with_reducible refine kzr ?_); refine zrF ?_) | (with_reducible refine zkP (fun ht => ?_) (fun ht => ?_) <;> try first | exact False.elim ht | exact absurd rfl ht | exact absurd trivial ht | exact Bool.noConfusion ht) | (with_reducible (refine k_ret ?_; repeat first | refine kzt ?_ | refine kzb ?_ | refine fin ?_)) | (with_reducible (refine kzx ?_; repeat first | refine thru ?_ | refine kzo ?_ | refine pass (by decide) ?_)) | ((first | refine post1 ?_ | refine post2 ?_ | refine post3 ?_); simp only [GA, simprocAttr]) | refine post0 ?_
 refine k_blk (k_loopS (X := Unit) [1, 6, 7] 5 (fun k _ => [(1, .p 1 0), (6, .ag (e5 x.M)), (7, .i .i64 (k : Int))]) (fun k _ h => h.m 1 = some (.cells true (eH x)) ∧ ∀ i, i < k → 0 ≤ x.M i ∧ x.M i ≤ 3000) () (by simp only [Am.keep, ZK, simprocAttr]; try rfl) ⟨by simp (disch := omega) only [RG39, EVA, plug, eq_self, simprocAttr] <;> rfl, fun i hi => by omega⟩ ?_)
 rintro k _ h hk ⟨hm, hall⟩ ok pos
 by_cases klt : k < 5
 ·have klt' : (k : Int) < 5 := by omega
  have g1 := e5_get (F := x.M) klt
  repeat' first | (with_reducible first | refine kzq ?_ | refine kzs ?_ | refine kzS ?_ | refine kzR ?_ | refine kzC ?_ | refine kzH ?_ | refine kzB ?_ | refine kzK ?_ | refine kzE ?_ | refine kzg ?_) | with_reducible refine r_done ?_ | with_reducible refine s_go (by simp (disch := omega) only [klt', g1, RG39, EVA, plug, eq_self, simprocAttr]; with_reducible rfl) ?_ | ((with_reducible refine kzr ?_); refine zrF ?_) | (with_reducible refine zkP (fun ht => ?_) (fun ht => ?_) <;> try first | exact False.elim ht | exact absurd rfl ht | exact absurd trivial ht | exact Bool.noConfusion ht) | (with_reducible (refine k_ret ?_; repeat first | refine kzt ?_ | refine kzb ?_ | refine fin ?_)) | (with_reducible (refine kzx ?_; repeat first | refine thru ?_ | refine kzo ?_ | refine pass (by decide) ?_)) | ((first | refine post1 ?_ | refine post2 ?_ | refine post3 ?_); simp only [GA, simprocAttr]) | refine post0 ?_
  ·have : hdOk x = false := by
    cases q : hdOk x with
    | false => rfl
    | true => have := (hdOk_iff.1 q).2 k klt; omega
   rw [this]
   exact ends_of
  ·refine ⟨klt, (), (by simp only [Am.keep, ZK, simprocAttr]; try rfl), hm, fun i hi => ?_⟩
   by_cases e : i = k
   ·subst e; omega
   ·exact hall i (by omega)
 ·obtain rfl : k = 5 := by omega
  have klt' : ¬ ((5 : Nat) : Int) < 5 := by omega
  repeat' first | (with_reducible first | refine kzq ?_ | refine kzs ?_ | refine kzS ?_ | refine kzR ?_ | refine kzC ?_ | refine kzH ?_ | refine kzB ?_ | refine kzK ?_ | refine kzE ?_ | refine kzg ?_) | with_reducible refine r_done ?_ | with_reducible refine s_go (by simp (disch := omega) only [klt', hm, row_m hm, read_row (row_m hm), eH_rn, RG39, EVA, plug, eq_self, simprocAttr]; with_reducible rfl) ?_ | ((with_reducible refine kzr ?_); refine zrF ?_) | (with_reducible refine zkP (fun ht => ?_) (fun ht => ?_) <;> try first | exact False.elim ht | exact absurd rfl ht | exact absurd trivial ht | exact Bool.noConfusion ht) | (with_reducible (refine k_ret ?_; repeat first | refine kzt ?_ | refine kzb ?_ | refine fin ?_)) | (with_reducible (refine kzx ?_; repeat first | refine thru ?_ | refine kzo ?_ | refine pass (by decide) ?_)) | ((first | refine post1 ?_ | refine post2 ?_ | refine post3 ?_); simp only [GA, simprocAttr]) | refine post0 ?_
  refine ends_eq (b_eq ?_); rw [Bool.eq_iff_iff]
  rw [hdOk_iff]
  simp only [Bool.and_eq_true, decide_eq_true_eq]
  exact ⟨fun q => by have := q.1; omega, fun q => ⟨by omega, hall⟩⟩
def dis (f : Nat → Int) (n : Nat) : Bool := decide (∀ j, j < n → ∀ i, i < j → f i ≠ f j)
theorem dis_iff {f : Nat → Int} {n : Nat} : dis f n = true ↔ ∀ j, j < n → ∀ i, i < j → f i ≠ f j := decide_eq_true_iff
theorem dis_no {f : Nat → Int} {n j i : Nat} (h1 : j < n) (h2 : i < j) (h : f i = f j) : dis f n = false := by
 cases q : dis f n with
 | false => rfl
 | true => exact absurd h (dis_iff.1 q j h1 i h2)
theorem eZ_plain (x : Sz) : AV.plains (eZ x) = true := rfl
theorem fleZ_plain (l : List Sz) : AV.plains (fl eZ l) = true := fl_plain eZ_plain l
def zD (l : List Sz) (j : Nat) : Sz := l.getD j Z0
theorem rdZ {l : List Sz} {j : Nat} (h : j < l.length) : rd (fl eZ l) (j * 17) (some 17) = some (.ag (eZ (zD l j))) := fl_rd eZ_len Z0 h
theorem eZ_rn (x : Sz) : rd (eZ x) 0 none = some (.i .i64 x.c) := rfl
abbrev vZ (l : List Sz) : AV := .vs l.length (fl eZ l)
theorem RG63 : (type_of% @c63r0.eq_1) ∧ (type_of% @c63r1.eq_1) ∧ (type_of% @c63r2.eq_1) ∧ (type_of% @c63r3.eq_1) ∧ (type_of% @c63r4.eq_1) ∧ (type_of% @c63r5.eq_1) ∧ (type_of% @c63r6.eq_1) ∧ (type_of% @c63r8.eq_1) := ⟨@c63r0.eq_1, @c63r1.eq_1, @c63r2.eq_1, @c63r3.eq_1, @c63r4.eq_1, @c63r5.eq_1, @c63r6.eq_1, @c63r8.eq_1⟩
theorem pc84 (l : List Sz) (hl : l.length ≤ 9223372036854775807) (g : Nat) (caps : List AV) (hcp : AV.plains caps = true) (p : Sz → Bool) (hp : ∀ x, PC Tryd.prog g (.ag (eZ x) :: caps) (.b (p x))) :
 PC Tryd.prog 63 [vZ l, .fn g [] caps] (.i .i64 (fi (fun i => p (zD l i)) l.length)) := by
 refine pc_fn fn63 (by simp only [AV.plains, AV.plain, il_plain, bl_plain, Bool.and_true, Bool.true_and, Bool.and_self, fleZ_plain, hcp]) (by simp only [AV.plains, AV.plain, il_plain, bl_plain, Bool.and_true, Bool.true_and, Bool.and_self, fleZ_plain, hcp]) (Nat.le_of_ble_eq_true rfl) ?_
 rw [initSt2]
 repeat' first | (with_reducible first | refine kzq ?_ | refine kzs ?_ | refine kzS ?_ | refine kzR ?_ | refine kzC ?_ | refine kzH ?_ | refine kzB ?_ | refine kzK ?_ | refine kzE ?_ | refine kzg ?_) | with_reducible refine r_done ?_ | with_reducible refine s_go (by simp (disch := omega) only [RG63, EVA, plug, eq_self, simprocAttr]; with_reducible rfl) ?_ | ((with_reducible refine kzr ?_); refine zrF ?_) | (with_reducible refine zkP (fun ht => ?_) (fun ht => ?_) <;> try first | exact False.elim ht | exact absurd rfl ht | exact absurd trivial ht | exact Bool.noConfusion ht) | (with_reducible (refine k_ret ?_; repeat first | refine kzt ?_ | refine kzb ?_ | refine fin ?_)) | (with_reducible (refine kzx ?_; repeat first | refine thru ?_ | refine kzo ?_ | refine pass (by decide) ?_)) | ((first | refine post1 ?_ | refine post2 ?_ | refine post3 ?_); simp only [GA, simprocAttr]) | refine post0 ?_
 refine k_blk (k_loopS (X := Unit) [0, 1, 7, 8] l.length (fun k _ => [(0, vZ l), (1, .fn g [] caps), (7, .i .i64 l.length), (8, .i .i64 (k : Int))]) (fun k _ h => ∀ j, j < k → p (zD l j) = false) () (by simp only [Am.keep, ZK, simprocAttr]; try rfl) (fun j hj => by omega) ?_)
 rintro k _ h hk hf ok pos
 by_cases hlt : k < l.length
 ·have hlt' : (k : Int) < l.length := by omega
  have gl := rdZ hlt
  have q := hp (zD l k)
  cases hm : p (zD l k) with
  | true =>
    rw [hm] at q
    rw [fi_at (p := fun i => p (zD l i)) hf hm hlt]
    repeat' first | (with_reducible first | refine kzq ?_ | refine kzs ?_ | refine kzS ?_ | refine kzR ?_ | refine kzC ?_ | refine kzH ?_ | refine kzB ?_ | refine kzK ?_ | refine kzE ?_ | refine kzg ?_) | with_reducible refine r_done ?_ | with_reducible refine s_go (by simp (disch := omega) only [hlt', gl, RG63, EVA, plug, eq_self, simprocAttr]; with_reducible rfl) ?_ | ((with_reducible refine kzr ?_); refine zrF ?_) | ((with_reducible refine kzr ?_); refine zrP (c := by first | exact q _) (k := ?_)) | (with_reducible refine zkP (fun ht => ?_) (fun ht => ?_) <;> try first | exact False.elim ht | exact absurd rfl ht | exact absurd trivial ht | exact Bool.noConfusion ht) | (with_reducible (refine k_ret ?_; repeat first | refine kzt ?_ | refine kzb ?_ | refine fin ?_)) | (with_reducible (refine kzx ?_; repeat first | refine thru ?_ | refine kzo ?_ | refine pass (by decide) ?_)) | ((first | refine post1 ?_ | refine post2 ?_ | refine post3 ?_); simp only [GA, simprocAttr]) | refine post0 ?_
    all_goals first | exact ends_of | exact ends_eq rfl
  | false =>
    rw [hm] at q
    have hf2 : ∀ j, j < k + 1 → p (zD l j) = false := fun j hj => by
     by_cases e : j = k
     ·subst e; exact hm
     ·exact hf j (by omega)
    repeat' first | (with_reducible first | refine kzq ?_ | refine kzs ?_ | refine kzS ?_ | refine kzR ?_ | refine kzC ?_ | refine kzH ?_ | refine kzB ?_ | refine kzK ?_ | refine kzE ?_ | refine kzg ?_) | with_reducible refine r_done ?_ | with_reducible refine s_go (by simp (disch := omega) only [hlt', gl, RG63, EVA, plug, eq_self, simprocAttr]; with_reducible rfl) ?_ | ((with_reducible refine kzr ?_); refine zrF ?_) | ((with_reducible refine kzr ?_); refine zrP (c := by first | exact q _) (k := ?_)) | (with_reducible refine zkP (fun ht => ?_) (fun ht => ?_) <;> try first | exact False.elim ht | exact absurd rfl ht | exact absurd trivial ht | exact Bool.noConfusion ht) | (with_reducible (refine k_ret ?_; repeat first | refine kzt ?_ | refine kzb ?_ | refine fin ?_)) | (with_reducible (refine kzx ?_; repeat first | refine thru ?_ | refine kzo ?_ | refine pass (by decide) ?_)) | ((first | refine post1 ?_ | refine post2 ?_ | refine post3 ?_); simp only [GA, simprocAttr]) | refine post0 ?_
    exact ⟨hlt, (), (by simp only [Am.keep, ZK, simprocAttr]; try rfl), hf2⟩
 ·obtain rfl : k = l.length := by omega
  have hlt' : ¬ (l.length : Int) < l.length := by omega
  rw [fi_none (p := fun i => p (zD l i)) hf]
  repeat' first | (with_reducible first | refine kzq ?_ | refine kzs ?_ | refine kzS ?_ | refine kzR ?_ | refine kzC ?_ | refine kzH ?_ | refine kzB ?_ | refine kzK ?_ | refine kzE ?_ | refine kzg ?_) | with_reducible refine r_done ?_ | with_reducible refine s_go (by simp (disch := omega) only [hlt', RG63, EVA, plug, eq_self, simprocAttr]; with_reducible rfl) ?_ | ((with_reducible refine kzr ?_); refine zrF ?_) | (with_reducible refine zkP (fun ht => ?_) (fun ht => ?_) <;> try first | exact False.elim ht | exact absurd rfl ht | exact absurd trivial ht | exact Bool.noConfusion ht) | (with_reducible (refine k_ret ?_; repeat first | refine kzt ?_ | refine kzb ?_ | refine fin ?_)) | (with_reducible (refine kzx ?_; repeat first | refine thru ?_ | refine kzo ?_ | refine pass (by decide) ?_)) | ((first | refine post1 ?_ | refine post2 ?_ | refine post3 ?_); simp only [GA, simprocAttr]) | refine post0 ?_
  all_goals first | exact ends_of | exact ends_eq rfl
def anyS (p : Sz → Bool) (l : List Sz) : Bool := decide (0 ≤ fi (fun i => p (zD l i)) l.length)
theorem anyS_iff {p : Sz → Bool} {l : List Sz} : anyS p l = true ↔ ∃ j, j < l.length ∧ p (zD l j) = true := by
 unfold anyS
 rw [decide_eq_true_eq, fi_ge]
theorem pc72 (l : List Sz) (hl : l.length ≤ 9223372036854775807) (g : Nat) (caps : List AV) (hcp : AV.plains caps = true) (p : Sz → Bool) (hp : ∀ x, PC Tryd.prog g (.ag (eZ x) :: caps) (.b (p x))) :
 PC Tryd.prog 28 [vZ l, .fn g [] caps] (.b (anyS p l)) := by
 have q := pc84 l hl g caps hcp p hp
 refine pc_fn fn28 (by simp only [AV.plains, AV.plain, il_plain, bl_plain, Bool.and_true, Bool.true_and, Bool.and_self, fleZ_plain, hcp]) (by simp only [AV.plains, AV.plain, il_plain, bl_plain, Bool.and_true, Bool.true_and, Bool.and_self, fleZ_plain, hcp]) (Nat.le_of_ble_eq_true rfl) ?_
 rw [initSt2]
 repeat' first | (with_reducible first | refine kzq ?_ | refine kzs ?_ | refine kzS ?_ | refine kzR ?_ | refine kzC ?_ | refine kzH ?_ | refine kzB ?_ | refine kzK ?_ | refine kzE ?_ | refine kzg ?_) | with_reducible refine r_done ?_ | with_reducible refine s_go (by simp (disch := omega) only [c28r0, c28r1, EVA, plug, eq_self, simprocAttr]; with_reducible rfl) ?_ | ((with_reducible refine kzr ?_); refine zrF ?_) | ((with_reducible refine kzr ?_); refine zrP (c := by first | exact q _) (k := ?_)) | (with_reducible refine zkP (fun ht => ?_) (fun ht => ?_) <;> try first | exact False.elim ht | exact absurd rfl ht | exact absurd trivial ht | exact Bool.noConfusion ht) | (with_reducible (refine k_ret ?_; repeat first | refine kzt ?_ | refine kzb ?_ | refine fin ?_)) | (with_reducible (refine kzx ?_; repeat first | refine thru ?_ | refine kzo ?_ | refine pass (by decide) ?_)) | ((first | refine post1 ?_ | refine post2 ?_ | refine post3 ?_); simp only [GA, simprocAttr]) | refine post0 ?_
 all_goals first | exact ends_of | exact ends_eq rfl
theorem pc73 (x : Sz) : PC Tryd.prog 29 [.ag (eZ x)] (.b (!szOk x)) := by
 refine pc_fn fn29 (by simp only [AV.plains, AV.plain, il_plain, bl_plain, Bool.and_true, Bool.true_and, Bool.and_self]) (by simp only [AV.plains, AV.plain, il_plain, bl_plain, Bool.and_true, Bool.true_and, Bool.and_self]) (Nat.le_of_ble_eq_true rfl) ?_
 rw [initSt1]
 repeat' first | (with_reducible first | refine kzq ?_ | refine kzs ?_ | refine kzS ?_ | refine kzR ?_ | refine kzC ?_ | refine kzH ?_ | refine kzB ?_ | refine kzK ?_ | refine kzE ?_ | refine kzg ?_) | with_reducible refine r_done ?_ | with_reducible refine s_go (by simp (disch := omega) only [eZ_rd, c29r0, c29r1, EVA, plug, eq_self, simprocAttr]; with_reducible rfl) ?_ | ((with_reducible refine kzr ?_); refine zrF ?_) | ((with_reducible refine kzr ?_); refine zrP (c := by first | exact pc39 _ _) (k := ?_)) | (with_reducible refine zkP (fun ht => ?_) (fun ht => ?_) <;> try first | exact False.elim ht | exact absurd rfl ht | exact absurd trivial ht | exact Bool.noConfusion ht) | (with_reducible (refine k_ret ?_; repeat first | refine kzt ?_ | refine kzb ?_ | refine fin ?_)) | (with_reducible (refine kzx ?_; repeat first | refine thru ?_ | refine kzo ?_ | refine pass (by decide) ?_)) | ((first | refine post1 ?_ | refine post2 ?_ | refine post3 ?_); simp only [GA, simprocAttr]) | refine post0 ?_
 all_goals first | exact ends_of | exact ends_eq rfl
theorem pc75 (x : Sz) : PC Tryd.prog 32 [.ag (eZ x)] (.i .i64 x.c) := by
 refine pc_fn fn32 (by simp only [AV.plains, AV.plain, il_plain, bl_plain, Bool.and_true, Bool.true_and, Bool.and_self]) (by simp only [AV.plains, AV.plain, il_plain, bl_plain, Bool.and_true, Bool.true_and, Bool.and_self]) (Nat.le_of_ble_eq_true rfl) ?_
 rw [initSt1]
 repeat' first | (with_reducible first | refine kzq ?_ | refine kzs ?_ | refine kzS ?_ | refine kzR ?_ | refine kzC ?_ | refine kzH ?_ | refine kzB ?_ | refine kzK ?_ | refine kzE ?_ | refine kzg ?_) | with_reducible refine r_done ?_ | with_reducible refine s_go (by simp (disch := omega) only [eZ_rn, c32r0, c32r1, EVA, plug, eq_self, simprocAttr]; with_reducible rfl) ?_ | ((with_reducible refine kzr ?_); refine zrF ?_) | (with_reducible refine zkP (fun ht => ?_) (fun ht => ?_) <;> try first | exact False.elim ht | exact absurd rfl ht | exact absurd trivial ht | exact Bool.noConfusion ht) | (with_reducible (refine k_ret ?_; repeat first | refine kzt ?_ | refine kzb ?_ | refine fin ?_)) | (with_reducible (refine kzx ?_; repeat first | refine thru ?_ | refine kzo ?_ | refine pass (by decide) ?_)) | ((first | refine post1 ?_ | refine post2 ?_ | refine post3 ?_); simp only [GA, simprocAttr]) | refine post0 ?_
 all_goals first | exact ends_of | exact ends_eq rfl
def zN (l : List Sz) (i : Nat) : Int := (zD l i).c
theorem RG31 : (type_of% @c31r0.eq_1) ∧ (type_of% @c31r1.eq_1) ∧ (type_of% @c31r2.eq_1) ∧ (type_of% @c31r3.eq_1) ∧ (type_of% @c31r4.eq_1) ∧ (type_of% @c31r5.eq_1) ∧ (type_of% @c31r6.eq_1) ∧ (type_of% @c31r7.eq_1) ∧ (type_of% @c31r8.eq_1) ∧ (type_of% @c31r10.eq_1) := ⟨@c31r0.eq_1, @c31r1.eq_1, @c31r2.eq_1, @c31r3.eq_1, @c31r4.eq_1, @c31r5.eq_1, @c31r6.eq_1, @c31r7.eq_1, @c31r8.eq_1, @c31r10.eq_1⟩
theorem pc74 (l : List Sz) (hl : l.length ≤ 9223372036854775807) : PC Tryd.prog 31 [vZ l, .fn 32 [] []] (.b (dis (zN l) l.length)) := by
 refine pc_fn fn31 (by simp only [AV.plains, AV.plain, il_plain, bl_plain, Bool.and_true, Bool.true_and, Bool.and_self, fleZ_plain]) (by simp only [AV.plains, AV.plain, il_plain, bl_plain, Bool.and_true, Bool.true_and, Bool.and_self, fleZ_plain]) (Nat.le_of_ble_eq_true rfl) ?_
 rw [initSt2]
 repeat' first | (with_reducible first | refine kzq ?_ | refine kzs ?_ | refine kzS ?_ | refine kzR ?_ | refine kzC ?_ | refine kzH ?_ | refine kzB ?_ | refine kzK ?_ | refine kzE ?_ | refine kzg ?_) | with_reducible refine r_done ?_ | with_reducible refine s_go (by simp (disch := omega) only [RG31, EVA, plug, eq_self, simprocAttr]; with_reducible rfl) ?_ | ((with_reducible refine kzr ?_); refine zrF ?_) | (with_reducible refine zkP (fun ht => ?_) (fun ht => ?_) <;> try first | exact False.elim ht | exact absurd rfl ht | exact absurd trivial ht | exact Bool.noConfusion ht) | (with_reducible (refine k_ret ?_; repeat first | refine kzt ?_ | refine kzb ?_ | refine fin ?_)) | (with_reducible (refine kzx ?_; repeat first | refine thru ?_ | refine kzo ?_ | refine pass (by decide) ?_)) | ((first | refine post1 ?_ | refine post2 ?_ | refine post3 ?_); simp only [GA, simprocAttr]) | refine post0 ?_
 refine k_blk (k_loopS (X := Nat × List (AV × AV)) [1, 5, 9, 10, 11] l.length (fun k x => [(1, .fn 32 [] []), (5, .mp x.1), (9, vZ l), (10, .i .i64 l.length), (11, .i .i64 (k : Int))])
  (fun k x h => h.m x.1 = some (.map x.2) ∧ (∀ j, j < k → ∀ i, i < j → zN l i ≠ zN l j) ∧ MFi x.2 (setOf fun n => ∃ i, i < k ∧ zN l i = n)) (_, _) (by simp only [Am.keep, ZK, simprocAttr]; try rfl) ⟨by simp (disch := omega) only [RG31, EVA, plug, eq_self, simprocAttr] <;> rfl, fun j hj => by omega, ?_⟩ ?_)
 ·exact MFi.set_nil fun a ⟨i, hi, _⟩ => by omega
 rintro k ⟨tk, es⟩ h hk ⟨hm, hv, hf⟩ ok pos
 simp only at hm hf ⊢
 have htk := ok.m hm
 have htk' : ¬ tk = h.nx := by omega
 by_cases hlt : k < l.length
 ·have rT := rdZ hlt
  have hlt' : (k : Int) < l.length := by omega
  have lk := MFi.set_lk hf (zD l k).c
  have u1 := (MFi.up hf (zD l k).c (.b true)).1
  have q := pc75 (zD l k)
  repeat' first | (with_reducible first | refine kzq ?_ | refine kzs ?_ | refine kzS ?_ | refine kzR ?_ | refine kzC ?_ | refine kzH ?_ | refine kzB ?_ | refine kzK ?_ | refine kzE ?_ | refine kzg ?_) | with_reducible refine r_done ?_ | with_reducible refine s_go (by simp (disch := omega) only [hm, rT, hlt', lk, u1, eZ_rd, htk', RG31, EVA, plug, eq_self, simprocAttr]; with_reducible rfl) ?_ | ((with_reducible refine kzr ?_); refine zrF ?_) | ((with_reducible refine kzr ?_); refine zrP (c := by first | exact q _) (k := ?_)) | (with_reducible refine zkP (fun ht => ?_) (fun ht => ?_) <;> try first | exact False.elim ht | exact absurd rfl ht | exact absurd trivial ht | exact Bool.noConfusion ht) | (with_reducible (refine k_ret ?_; repeat first | refine kzt ?_ | refine kzb ?_ | refine fin ?_)) | (with_reducible (refine kzx ?_; repeat first | refine thru ?_ | refine kzo ?_ | refine pass (by decide) ?_)) | ((first | refine post1 ?_ | refine post2 ?_ | refine post3 ?_); simp only [GA, simprocAttr]) | refine post0 ?_
  ·obtain ⟨i, hi, e⟩ := ht
   rw [dis_no hlt hi e]
   exact ends_of
  ·refine ⟨hlt, ⟨tk, _⟩, (by simp only [Am.keep, ZK, simprocAttr]; try rfl), by simp (disch := omega) only [htk', RG31, EVA, plug, eq_self, simprocAttr] <;> rfl, fun j hj i hi => ?_, MFi.set_up hf _ _ fun b => ⟨fun ⟨i, hi, e⟩ => ?_, fun hb => ?_⟩⟩
   ·by_cases e : j = k
    ·subst e; exact fun q => ht ⟨i, hi, q⟩
    ·exact hv j (by omega) i hi
   ·by_cases hk : i = k
    ·subst hk; exact .inl e.symm
    ·exact .inr ⟨i, by omega, e⟩
   ·rcases hb with rfl | ⟨i, hi, e⟩
    ·exact ⟨k, by omega, rfl⟩
    ·exact ⟨i, by omega, e⟩
 ·have hlt' : ¬ (k : Int) < l.length := by omega
  obtain rfl : k = l.length := by omega
  repeat' first | (with_reducible first | refine kzq ?_ | refine kzs ?_ | refine kzS ?_ | refine kzR ?_ | refine kzC ?_ | refine kzH ?_ | refine kzB ?_ | refine kzK ?_ | refine kzE ?_ | refine kzg ?_) | with_reducible refine r_done ?_ | with_reducible refine s_go (by simp (disch := omega) only [hlt', RG31, EVA, plug, eq_self, simprocAttr]; with_reducible rfl) ?_ | ((with_reducible refine kzr ?_); refine zrF ?_) | (with_reducible refine zkP (fun ht => ?_) (fun ht => ?_) <;> try first | exact False.elim ht | exact absurd rfl ht | exact absurd trivial ht | exact Bool.noConfusion ht) | (with_reducible (refine k_ret ?_; repeat first | refine kzt ?_ | refine kzb ?_ | refine fin ?_)) | (with_reducible (refine kzx ?_; repeat first | refine thru ?_ | refine kzo ?_ | refine pass (by decide) ?_)) | ((first | refine post1 ?_ | refine post2 ?_ | refine post3 ?_); simp only [GA, simprocAttr]) | refine post0 ?_
  rw [dis_iff.2 hv]
  exact ends_of
def szsOk (l : List Sz) : Bool := decide ((l.length : Int) ≤ 20) && !anyS (fun x => !szOk x) l && dis (zN l) l.length
theorem szsOk_iff {l : List Sz} : szsOk l = true ↔ l.length ≤ 20 ∧ (∀ j, j < l.length → szOk (zD l j) = true) ∧ ∀ j, j < l.length → ∀ i, i < j → zN l i ≠ zN l j := by
 have e : anyS (fun x => !szOk x) l = false ↔ ∀ j, j < l.length → szOk (zD l j) = true := by
  rw [← Bool.not_eq_true, anyS_iff]
  constructor
  ·intro hn j hj
   cases q : szOk (zD l j) with
   | true => rfl
   | false => exact absurd ⟨j, hj, by rw [q]; rfl⟩ hn
  ·rintro hall ⟨j, hj, q⟩
   rw [hall j hj] at q
   cases q
 simp only [szsOk, Bool.and_eq_true, decide_eq_true_eq, Bool.not_eq_true', e, dis_iff]
 constructor
 ·rintro ⟨⟨h1, h2⟩, h3⟩; exact ⟨by omega, h2, h3⟩
 ·rintro ⟨h1, h2, h3⟩; exact ⟨⟨by omega, h2⟩, h3⟩
theorem pc59 (l : List Sz) (hl : l.length ≤ 9223372036854775807) : PC Tryd.prog 8 [vZ l] (.b (szsOk l)) := by
 have q1 := pc72 l hl 29 [] rfl _ pc73
 have q2 := pc74 l hl
 unfold szsOk
 refine pc_fn fn8 (by simp only [AV.plains, AV.plain, il_plain, bl_plain, Bool.and_true, Bool.true_and, Bool.and_self, fleZ_plain]) (by simp only [AV.plains, AV.plain, il_plain, bl_plain, Bool.and_true, Bool.true_and, Bool.and_self, fleZ_plain]) (Nat.le_of_ble_eq_true rfl) ?_
 rw [initSt1]
 repeat' first | (with_reducible first | refine kzq ?_ | refine kzs ?_ | refine kzS ?_ | refine kzR ?_ | refine kzC ?_ | refine kzH ?_ | refine kzB ?_ | refine kzK ?_ | refine kzE ?_ | refine kzg ?_) | with_reducible refine r_done ?_ | with_reducible refine s_go (by simp (disch := omega) only [c8r0, c8r1, EVA, plug, eq_self, simprocAttr]; with_reducible rfl) ?_ | ((with_reducible refine kzr ?_); refine zrF ?_) | ((with_reducible refine kzr ?_); refine zrP (c := by first | exact q1 _ | exact q2 _) (k := ?_)) | ((with_reducible refine kzr ?_); refine zrG (c := by intro hg; (try simp only [BO] at hg); first | exact q1 _ | exact q2 _) (k := ?_)) | (with_reducible refine zkP (fun ht => ?_) (fun ht => ?_) <;> try first | exact False.elim ht | exact absurd rfl ht | exact absurd trivial ht | exact Bool.noConfusion ht) | (with_reducible (refine k_ret ?_; repeat first | refine kzt ?_ | refine kzb ?_ | refine fin ?_)) | (with_reducible (refine kzx ?_; repeat first | refine thru ?_ | refine kzo ?_ | refine pass (by decide) ?_)) | ((first | refine post1 ?_ | refine post2 ?_ | refine post3 ?_); simp only [GA, simprocAttr]) | refine post0 ?_
 all_goals first | exact ends_of | exact ends_eq rfl
theorem eH_plain (x : Hd) : AV.plains (eH x) = true := rfl
theorem fleH_plain (l : List Hd) : AV.plains (fl eH l) = true := fl_plain eH_plain l
def hD (l : List Hd) (j : Nat) : Hd := l.getD j H0
theorem rdH {l : List Hd} {j : Nat} (h : j < l.length) : rd (fl eH l) (j * 6) (some 6) = some (.ag (eH (hD l j))) := fl_rd eH_len H0 h
theorem rdtH {l : List Hd} {k j : Nat} (h : k < l.length) (hj : j < k) : rd ((fl eH l).take (k * 6)) (j * 6) (some 6) = some (.ag (eH (hD l j))) := by
 rw [fl_take eH_len]
 have : (l.take k).getD j H0 = hD l j := by
  unfold hD
  rw [List.getD_eq_getElem?_getD, List.getElem?_take, if_pos hj, ← List.getD_eq_getElem?_getD]
 rw [← this]
 exact fl_rd eH_len H0 (by rw [List.length_take]; omega)
abbrev vH (l : List Hd) : AV := .vs l.length (fl eH l)
theorem RG65 : (type_of% @c65r0.eq_1) ∧ (type_of% @c65r1.eq_1) ∧ (type_of% @c65r2.eq_1) ∧ (type_of% @c65r3.eq_1) ∧ (type_of% @c65r4.eq_1) ∧ (type_of% @c65r5.eq_1) ∧ (type_of% @c65r6.eq_1) ∧ (type_of% @c65r8.eq_1) := ⟨@c65r0.eq_1, @c65r1.eq_1, @c65r2.eq_1, @c65r3.eq_1, @c65r4.eq_1, @c65r5.eq_1, @c65r6.eq_1, @c65r8.eq_1⟩
theorem pc85 (l : List Hd) (hl : l.length ≤ 9223372036854775807) (g : Nat) (caps : List AV) (hcp : AV.plains caps = true) (p : Hd → Bool) (hp : ∀ x, PC Tryd.prog g (.ag (eH x) :: caps) (.b (p x))) :
 PC Tryd.prog 65 [vH l, .fn g [] caps] (.i .i64 (fi (fun i => p (hD l i)) l.length)) := by
 refine pc_fn fn65 (by simp only [AV.plains, AV.plain, il_plain, bl_plain, Bool.and_true, Bool.true_and, Bool.and_self, fleH_plain, hcp]) (by simp only [AV.plains, AV.plain, il_plain, bl_plain, Bool.and_true, Bool.true_and, Bool.and_self, fleH_plain, hcp]) (Nat.le_of_ble_eq_true rfl) ?_
 rw [initSt2]
 repeat' first | (with_reducible first | refine kzq ?_ | refine kzs ?_ | refine kzS ?_ | refine kzR ?_ | refine kzC ?_ | refine kzH ?_ | refine kzB ?_ | refine kzK ?_ | refine kzE ?_ | refine kzg ?_) | with_reducible refine r_done ?_ | with_reducible refine s_go (by simp (disch := omega) only [RG65, EVA, plug, eq_self, simprocAttr]; with_reducible rfl) ?_ | ((with_reducible refine kzr ?_); refine zrF ?_) | (with_reducible refine zkP (fun ht => ?_) (fun ht => ?_) <;> try first | exact False.elim ht | exact absurd rfl ht | exact absurd trivial ht | exact Bool.noConfusion ht) | (with_reducible (refine k_ret ?_; repeat first | refine kzt ?_ | refine kzb ?_ | refine fin ?_)) | (with_reducible (refine kzx ?_; repeat first | refine thru ?_ | refine kzo ?_ | refine pass (by decide) ?_)) | ((first | refine post1 ?_ | refine post2 ?_ | refine post3 ?_); simp only [GA, simprocAttr]) | refine post0 ?_
 refine k_blk (k_loopS (X := Unit) [0, 1, 7, 8] l.length (fun k _ => [(0, vH l), (1, .fn g [] caps), (7, .i .i64 l.length), (8, .i .i64 (k : Int))]) (fun k _ h => ∀ j, j < k → p (hD l j) = false) () (by simp only [Am.keep, ZK, simprocAttr]; try rfl) (fun j hj => by omega) ?_)
 rintro k _ h hk hf ok pos
 by_cases hlt : k < l.length
 ·have hlt' : (k : Int) < l.length := by omega
  have gl := rdH hlt
  have q := hp (hD l k)
  cases hm : p (hD l k) with
  | true =>
    rw [hm] at q
    rw [fi_at (p := fun i => p (hD l i)) hf hm hlt]
    repeat' first | (with_reducible first | refine kzq ?_ | refine kzs ?_ | refine kzS ?_ | refine kzR ?_ | refine kzC ?_ | refine kzH ?_ | refine kzB ?_ | refine kzK ?_ | refine kzE ?_ | refine kzg ?_) | with_reducible refine r_done ?_ | with_reducible refine s_go (by simp (disch := omega) only [hlt', gl, RG65, EVA, plug, eq_self, simprocAttr]; with_reducible rfl) ?_ | ((with_reducible refine kzr ?_); refine zrF ?_) | ((with_reducible refine kzr ?_); refine zrP (c := by first | exact q _) (k := ?_)) | (with_reducible refine zkP (fun ht => ?_) (fun ht => ?_) <;> try first | exact False.elim ht | exact absurd rfl ht | exact absurd trivial ht | exact Bool.noConfusion ht) | (with_reducible (refine k_ret ?_; repeat first | refine kzt ?_ | refine kzb ?_ | refine fin ?_)) | (with_reducible (refine kzx ?_; repeat first | refine thru ?_ | refine kzo ?_ | refine pass (by decide) ?_)) | ((first | refine post1 ?_ | refine post2 ?_ | refine post3 ?_); simp only [GA, simprocAttr]) | refine post0 ?_
    all_goals first | exact ends_of | exact ends_eq rfl
  | false =>
    rw [hm] at q
    have hf2 : ∀ j, j < k + 1 → p (hD l j) = false := fun j hj => by
     by_cases e : j = k
     ·subst e; exact hm
     ·exact hf j (by omega)
    repeat' first | (with_reducible first | refine kzq ?_ | refine kzs ?_ | refine kzS ?_ | refine kzR ?_ | refine kzC ?_ | refine kzH ?_ | refine kzB ?_ | refine kzK ?_ | refine kzE ?_ | refine kzg ?_) | with_reducible refine r_done ?_ | with_reducible refine s_go (by simp (disch := omega) only [hlt', gl, RG65, EVA, plug, eq_self, simprocAttr]; with_reducible rfl) ?_ | ((with_reducible refine kzr ?_); refine zrF ?_) | ((with_reducible refine kzr ?_); refine zrP (c := by first | exact q _) (k := ?_)) | (with_reducible refine zkP (fun ht => ?_) (fun ht => ?_) <;> try first | exact False.elim ht | exact absurd rfl ht | exact absurd trivial ht | exact Bool.noConfusion ht) | (with_reducible (refine k_ret ?_; repeat first | refine kzt ?_ | refine kzb ?_ | refine fin ?_)) | (with_reducible (refine kzx ?_; repeat first | refine thru ?_ | refine kzo ?_ | refine pass (by decide) ?_)) | ((first | refine post1 ?_ | refine post2 ?_ | refine post3 ?_); simp only [GA, simprocAttr]) | refine post0 ?_
    exact ⟨hlt, (), (by simp only [Am.keep, ZK, simprocAttr]; try rfl), hf2⟩
 ·obtain rfl : k = l.length := by omega
  have hlt' : ¬ (l.length : Int) < l.length := by omega
  rw [fi_none (p := fun i => p (hD l i)) hf]
  repeat' first | (with_reducible first | refine kzq ?_ | refine kzs ?_ | refine kzS ?_ | refine kzR ?_ | refine kzC ?_ | refine kzH ?_ | refine kzB ?_ | refine kzK ?_ | refine kzE ?_ | refine kzg ?_) | with_reducible refine r_done ?_ | with_reducible refine s_go (by simp (disch := omega) only [hlt', RG65, EVA, plug, eq_self, simprocAttr]; with_reducible rfl) ?_ | ((with_reducible refine kzr ?_); refine zrF ?_) | (with_reducible refine zkP (fun ht => ?_) (fun ht => ?_) <;> try first | exact False.elim ht | exact absurd rfl ht | exact absurd trivial ht | exact Bool.noConfusion ht) | (with_reducible (refine k_ret ?_; repeat first | refine kzt ?_ | refine kzb ?_ | refine fin ?_)) | (with_reducible (refine kzx ?_; repeat first | refine thru ?_ | refine kzo ?_ | refine pass (by decide) ?_)) | ((first | refine post1 ?_ | refine post2 ?_ | refine post3 ?_); simp only [GA, simprocAttr]) | refine post0 ?_
  all_goals first | exact ends_of | exact ends_eq rfl
def anyH (p : Hd → Bool) (l : List Hd) : Bool := decide (0 ≤ fi (fun i => p (hD l i)) l.length)
theorem anyH_iff {p : Hd → Bool} {l : List Hd} : anyH p l = true ↔ ∃ j, j < l.length ∧ p (hD l j) = true := by
 unfold anyH
 rw [decide_eq_true_eq, fi_ge]
theorem pc76 (l : List Hd) (hl : l.length ≤ 9223372036854775807) (g : Nat) (caps : List AV) (hcp : AV.plains caps = true) (p : Hd → Bool) (hp : ∀ x, PC Tryd.prog g (.ag (eH x) :: caps) (.b (p x))) :
 PC Tryd.prog 34 [vH l, .fn g [] caps] (.b (anyH p l)) := by
 have q := pc85 l hl g caps hcp p hp
 refine pc_fn fn34 (by simp only [AV.plains, AV.plain, il_plain, bl_plain, Bool.and_true, Bool.true_and, Bool.and_self, fleH_plain, hcp]) (by simp only [AV.plains, AV.plain, il_plain, bl_plain, Bool.and_true, Bool.true_and, Bool.and_self, fleH_plain, hcp]) (Nat.le_of_ble_eq_true rfl) ?_
 rw [initSt2]
 repeat' first | (with_reducible first | refine kzq ?_ | refine kzs ?_ | refine kzS ?_ | refine kzR ?_ | refine kzC ?_ | refine kzH ?_ | refine kzB ?_ | refine kzK ?_ | refine kzE ?_ | refine kzg ?_) | with_reducible refine r_done ?_ | with_reducible refine s_go (by simp (disch := omega) only [c34r0, c34r1, EVA, plug, eq_self, simprocAttr]; with_reducible rfl) ?_ | ((with_reducible refine kzr ?_); refine zrF ?_) | ((with_reducible refine kzr ?_); refine zrP (c := by first | exact q _) (k := ?_)) | (with_reducible refine zkP (fun ht => ?_) (fun ht => ?_) <;> try first | exact False.elim ht | exact absurd rfl ht | exact absurd trivial ht | exact Bool.noConfusion ht) | (with_reducible (refine k_ret ?_; repeat first | refine kzt ?_ | refine kzb ?_ | refine fin ?_)) | (with_reducible (refine kzx ?_; repeat first | refine thru ?_ | refine kzo ?_ | refine pass (by decide) ?_)) | ((first | refine post1 ?_ | refine post2 ?_ | refine post3 ?_); simp only [GA, simprocAttr]) | refine post0 ?_
 all_goals first | exact ends_of | exact ends_eq rfl
theorem pc77 (x : Hd) : PC Tryd.prog 35 [.ag (eH x)] (.b (!hdOk x)) := by
 refine pc_fn fn35 (by simp only [AV.plains, AV.plain, il_plain, bl_plain, Bool.and_true, Bool.true_and, Bool.and_self]) (by simp only [AV.plains, AV.plain, il_plain, bl_plain, Bool.and_true, Bool.true_and, Bool.and_self]) (Nat.le_of_ble_eq_true rfl) ?_
 rw [initSt1]
 repeat' first | (with_reducible first | refine kzq ?_ | refine kzs ?_ | refine kzS ?_ | refine kzR ?_ | refine kzC ?_ | refine kzH ?_ | refine kzB ?_ | refine kzK ?_ | refine kzE ?_ | refine kzg ?_) | with_reducible refine r_done ?_ | with_reducible refine s_go (by simp (disch := omega) only [eH_rd, c35r0, c35r1, EVA, plug, eq_self, simprocAttr]; with_reducible rfl) ?_ | ((with_reducible refine kzr ?_); refine zrF ?_) | ((with_reducible refine kzr ?_); refine zrP (c := by first | exact pc78 _ _) (k := ?_)) | (with_reducible refine zkP (fun ht => ?_) (fun ht => ?_) <;> try first | exact False.elim ht | exact absurd rfl ht | exact absurd trivial ht | exact Bool.noConfusion ht) | (with_reducible (refine k_ret ?_; repeat first | refine kzt ?_ | refine kzb ?_ | refine fin ?_)) | (with_reducible (refine kzx ?_; repeat first | refine thru ?_ | refine kzo ?_ | refine pass (by decide) ?_)) | ((first | refine post1 ?_ | refine post2 ?_ | refine post3 ?_); simp only [GA, simprocAttr]) | refine post0 ?_
 all_goals first | exact ends_of | exact ends_eq rfl
theorem pc80 (x : Hd) : PC Tryd.prog 38 [.ag (eH x)] (.i .i64 x.n) := by
 refine pc_fn fn38 (by simp only [AV.plains, AV.plain, il_plain, bl_plain, Bool.and_true, Bool.true_and, Bool.and_self]) (by simp only [AV.plains, AV.plain, il_plain, bl_plain, Bool.and_true, Bool.true_and, Bool.and_self]) (Nat.le_of_ble_eq_true rfl) ?_
 rw [initSt1]
 repeat' first | (with_reducible first | refine kzq ?_ | refine kzs ?_ | refine kzS ?_ | refine kzR ?_ | refine kzC ?_ | refine kzH ?_ | refine kzB ?_ | refine kzK ?_ | refine kzE ?_ | refine kzg ?_) | with_reducible refine r_done ?_ | with_reducible refine s_go (by simp (disch := omega) only [eH_rn, c38r0, c38r1, EVA, plug, eq_self, simprocAttr]; with_reducible rfl) ?_ | ((with_reducible refine kzr ?_); refine zrF ?_) | (with_reducible refine zkP (fun ht => ?_) (fun ht => ?_) <;> try first | exact False.elim ht | exact absurd rfl ht | exact absurd trivial ht | exact Bool.noConfusion ht) | (with_reducible (refine k_ret ?_; repeat first | refine kzt ?_ | refine kzb ?_ | refine fin ?_)) | (with_reducible (refine kzx ?_; repeat first | refine thru ?_ | refine kzo ?_ | refine pass (by decide) ?_)) | ((first | refine post1 ?_ | refine post2 ?_ | refine post3 ?_); simp only [GA, simprocAttr]) | refine post0 ?_
 all_goals first | exact ends_of | exact ends_eq rfl
def hN (l : List Hd) (i : Nat) : Int := (hD l i).n
theorem RG37 : (type_of% @c37r0.eq_1) ∧ (type_of% @c37r1.eq_1) ∧ (type_of% @c37r2.eq_1) ∧ (type_of% @c37r3.eq_1) ∧ (type_of% @c37r4.eq_1) ∧ (type_of% @c37r5.eq_1) ∧ (type_of% @c37r6.eq_1) ∧ (type_of% @c37r7.eq_1) ∧ (type_of% @c37r8.eq_1) ∧ (type_of% @c37r10.eq_1) := ⟨@c37r0.eq_1, @c37r1.eq_1, @c37r2.eq_1, @c37r3.eq_1, @c37r4.eq_1, @c37r5.eq_1, @c37r6.eq_1, @c37r7.eq_1, @c37r8.eq_1, @c37r10.eq_1⟩
theorem pc79 (l : List Hd) (hl : l.length ≤ 9223372036854775807) : PC Tryd.prog 37 [vH l, .fn 38 [] []] (.b (dis (hN l) l.length)) := by
 refine pc_fn fn37 (by simp only [AV.plains, AV.plain, il_plain, bl_plain, Bool.and_true, Bool.true_and, Bool.and_self, fleH_plain]) (by simp only [AV.plains, AV.plain, il_plain, bl_plain, Bool.and_true, Bool.true_and, Bool.and_self, fleH_plain]) (Nat.le_of_ble_eq_true rfl) ?_
 rw [initSt2]
 repeat' first | (with_reducible first | refine kzq ?_ | refine kzs ?_ | refine kzS ?_ | refine kzR ?_ | refine kzC ?_ | refine kzH ?_ | refine kzB ?_ | refine kzK ?_ | refine kzE ?_ | refine kzg ?_) | with_reducible refine r_done ?_ | with_reducible refine s_go (by simp (disch := omega) only [RG37, EVA, plug, eq_self, simprocAttr]; with_reducible rfl) ?_ | ((with_reducible refine kzr ?_); refine zrF ?_) | (with_reducible refine zkP (fun ht => ?_) (fun ht => ?_) <;> try first | exact False.elim ht | exact absurd rfl ht | exact absurd trivial ht | exact Bool.noConfusion ht) | (with_reducible (refine k_ret ?_; repeat first | refine kzt ?_ | refine kzb ?_ | refine fin ?_)) | (with_reducible (refine kzx ?_; repeat first | refine thru ?_ | refine kzo ?_ | refine pass (by decide) ?_)) | ((first | refine post1 ?_ | refine post2 ?_ | refine post3 ?_); simp only [GA, simprocAttr]) | refine post0 ?_
 refine k_blk (k_loopS (X := Nat × List (AV × AV)) [1, 5, 9, 10, 11] l.length (fun k x => [(1, .fn 38 [] []), (5, .mp x.1), (9, vH l), (10, .i .i64 l.length), (11, .i .i64 (k : Int))])
  (fun k x h => h.m x.1 = some (.map x.2) ∧ (∀ j, j < k → ∀ i, i < j → hN l i ≠ hN l j) ∧ MFi x.2 (setOf fun n => ∃ i, i < k ∧ hN l i = n)) (_, _) (by simp only [Am.keep, ZK, simprocAttr]; try rfl) ⟨by simp (disch := omega) only [RG37, EVA, plug, eq_self, simprocAttr] <;> rfl, fun j hj => by omega, ?_⟩ ?_)
 ·exact MFi.set_nil fun a ⟨i, hi, _⟩ => by omega
 rintro k ⟨tk, es⟩ h hk ⟨hm, hv, hf⟩ ok pos
 simp only at hm hf ⊢
 have htk := ok.m hm
 have htk' : ¬ tk = h.nx := by omega
 by_cases hlt : k < l.length
 ·have rT := rdH hlt
  have hlt' : (k : Int) < l.length := by omega
  have lk := MFi.set_lk hf (hD l k).n
  have u1 := (MFi.up hf (hD l k).n (.b true)).1
  have q := pc80 (hD l k)
  repeat' first | (with_reducible first | refine kzq ?_ | refine kzs ?_ | refine kzS ?_ | refine kzR ?_ | refine kzC ?_ | refine kzH ?_ | refine kzB ?_ | refine kzK ?_ | refine kzE ?_ | refine kzg ?_) | with_reducible refine r_done ?_ | with_reducible refine s_go (by simp (disch := omega) only [hm, rT, hlt', lk, u1, eH_rd, htk', RG37, EVA, plug, eq_self, simprocAttr]; with_reducible rfl) ?_ | ((with_reducible refine kzr ?_); refine zrF ?_) | ((with_reducible refine kzr ?_); refine zrP (c := by first | exact q _) (k := ?_)) | (with_reducible refine zkP (fun ht => ?_) (fun ht => ?_) <;> try first | exact False.elim ht | exact absurd rfl ht | exact absurd trivial ht | exact Bool.noConfusion ht) | (with_reducible (refine k_ret ?_; repeat first | refine kzt ?_ | refine kzb ?_ | refine fin ?_)) | (with_reducible (refine kzx ?_; repeat first | refine thru ?_ | refine kzo ?_ | refine pass (by decide) ?_)) | ((first | refine post1 ?_ | refine post2 ?_ | refine post3 ?_); simp only [GA, simprocAttr]) | refine post0 ?_
  ·obtain ⟨i, hi, e⟩ := ht
   rw [dis_no hlt hi e]
   exact ends_of
  ·refine ⟨hlt, ⟨tk, _⟩, (by simp only [Am.keep, ZK, simprocAttr]; try rfl), by simp (disch := omega) only [htk', RG37, EVA, plug, eq_self, simprocAttr] <;> rfl, fun j hj i hi => ?_, MFi.set_up hf _ _ fun b => ⟨fun ⟨i, hi, e⟩ => ?_, fun hb => ?_⟩⟩
   ·by_cases e : j = k
    ·subst e; exact fun q => ht ⟨i, hi, q⟩
    ·exact hv j (by omega) i hi
   ·by_cases hk : i = k
    ·subst hk; exact .inl e.symm
    ·exact .inr ⟨i, by omega, e⟩
   ·rcases hb with rfl | ⟨i, hi, e⟩
    ·exact ⟨k, by omega, rfl⟩
    ·exact ⟨i, by omega, e⟩
 ·have hlt' : ¬ (k : Int) < l.length := by omega
  obtain rfl : k = l.length := by omega
  repeat' first | (with_reducible first | refine kzq ?_ | refine kzs ?_ | refine kzS ?_ | refine kzR ?_ | refine kzC ?_ | refine kzH ?_ | refine kzB ?_ | refine kzK ?_ | refine kzE ?_ | refine kzg ?_) | with_reducible refine r_done ?_ | with_reducible refine s_go (by simp (disch := omega) only [hlt', RG37, EVA, plug, eq_self, simprocAttr]; with_reducible rfl) ?_ | ((with_reducible refine kzr ?_); refine zrF ?_) | (with_reducible refine zkP (fun ht => ?_) (fun ht => ?_) <;> try first | exact False.elim ht | exact absurd rfl ht | exact absurd trivial ht | exact Bool.noConfusion ht) | (with_reducible (refine k_ret ?_; repeat first | refine kzt ?_ | refine kzb ?_ | refine fin ?_)) | (with_reducible (refine kzx ?_; repeat first | refine thru ?_ | refine kzo ?_ | refine pass (by decide) ?_)) | ((first | refine post1 ?_ | refine post2 ?_ | refine post3 ?_); simp only [GA, simprocAttr]) | refine post0 ?_
  rw [dis_iff.2 hv]
  exact ends_of
def hdsOk (l : List Hd) : Bool := decide ((l.length : Int) ≤ 40) && !anyH (fun x => !hdOk x) l && dis (hN l) l.length
theorem hdsOk_iff {l : List Hd} : hdsOk l = true ↔ l.length ≤ 40 ∧ (∀ j, j < l.length → hdOk (hD l j) = true) ∧ ∀ j, j < l.length → ∀ i, i < j → hN l i ≠ hN l j := by
 have e : anyH (fun x => !hdOk x) l = false ↔ ∀ j, j < l.length → hdOk (hD l j) = true := by
  rw [← Bool.not_eq_true, anyH_iff]
  constructor
  ·intro hn j hj
   cases q : hdOk (hD l j) with
   | true => rfl
   | false => exact absurd ⟨j, hj, by rw [q]; rfl⟩ hn
  ·rintro hall ⟨j, hj, q⟩
   rw [hall j hj] at q
   cases q
 simp only [hdsOk, Bool.and_eq_true, decide_eq_true_eq, Bool.not_eq_true', e, dis_iff]
 constructor
 ·rintro ⟨⟨h1, h2⟩, h3⟩; exact ⟨by omega, h2, h3⟩
 ·rintro ⟨h1, h2, h3⟩; exact ⟨⟨by omega, h2⟩, h3⟩
theorem pc60 (l : List Hd) (hl : l.length ≤ 9223372036854775807) : PC Tryd.prog 10 [vH l] (.b (hdsOk l)) := by
 have q1 := pc76 l hl 35 [] rfl _ pc77
 have q2 := pc79 l hl
 unfold hdsOk
 refine pc_fn fn10 (by simp only [AV.plains, AV.plain, il_plain, bl_plain, Bool.and_true, Bool.true_and, Bool.and_self, fleH_plain]) (by simp only [AV.plains, AV.plain, il_plain, bl_plain, Bool.and_true, Bool.true_and, Bool.and_self, fleH_plain]) (Nat.le_of_ble_eq_true rfl) ?_
 rw [initSt1]
 repeat' first | (with_reducible first | refine kzq ?_ | refine kzs ?_ | refine kzS ?_ | refine kzR ?_ | refine kzC ?_ | refine kzH ?_ | refine kzB ?_ | refine kzK ?_ | refine kzE ?_ | refine kzg ?_) | with_reducible refine r_done ?_ | with_reducible refine s_go (by simp (disch := omega) only [c10r0, c10r1, EVA, plug, eq_self, simprocAttr]; with_reducible rfl) ?_ | ((with_reducible refine kzr ?_); refine zrF ?_) | ((with_reducible refine kzr ?_); refine zrP (c := by first | exact q1 _ | exact q2 _) (k := ?_)) | ((with_reducible refine kzr ?_); refine zrG (c := by intro hg; (try simp only [BO] at hg); first | exact q1 _ | exact q2 _) (k := ?_)) | (with_reducible refine zkP (fun ht => ?_) (fun ht => ?_) <;> try first | exact False.elim ht | exact absurd rfl ht | exact absurd trivial ht | exact Bool.noConfusion ht) | (with_reducible (refine k_ret ?_; repeat first | refine kzt ?_ | refine kzb ?_ | refine fin ?_)) | (with_reducible (refine kzx ?_; repeat first | refine thru ?_ | refine kzo ?_ | refine pass (by decide) ?_)) | ((first | refine post1 ?_ | refine post2 ?_ | refine post3 ?_); simp only [GA, simprocAttr]) | refine post0 ?_
 all_goals first | exact ends_of | exact ends_eq rfl
theorem RG11 : (type_of% @c11r0.eq_1) ∧ (type_of% @c11r1.eq_1) ∧ (type_of% @c11r2.eq_1) ∧ (type_of% @c11r3.eq_1) ∧ (type_of% @c11r4.eq_1) ∧ (type_of% @c11r5.eq_1) ∧ (type_of% @c11r6.eq_1) ∧ (type_of% @c11r7.eq_1) ∧ (type_of% @c11r8.eq_1) ∧ (type_of% @c11r9.eq_1) ∧ (type_of% @c11r10.eq_1) ∧ (type_of% @c11r11.eq_1) ∧ (type_of% @c11r13.eq_1) ∧ (type_of% @c11r15.eq_1) := ⟨@c11r0.eq_1, @c11r1.eq_1, @c11r2.eq_1, @c11r3.eq_1, @c11r4.eq_1, @c11r5.eq_1, @c11r6.eq_1, @c11r7.eq_1, @c11r8.eq_1, @c11r9.eq_1, @c11r10.eq_1, @c11r11.eq_1, @c11r13.eq_1, @c11r15.eq_1⟩
theorem pc67 (l : List Hd) (hl : l.length ≤ 9223372036854775807) : PC Tryd.prog 11 [vH l] (.b (hdsOk l)) := by
 refine pc_fn fn11 (by simp only [AV.plains, AV.plain, il_plain, bl_plain, Bool.and_true, Bool.true_and, Bool.and_self, fleH_plain]) (by simp only [AV.plains, AV.plain, il_plain, bl_plain, Bool.and_true, Bool.true_and, Bool.and_self, fleH_plain]) (Nat.le_of_ble_eq_true rfl) ?_
 rw [initSt1]
 repeat' first | (with_reducible first | refine kzq ?_ | refine kzs ?_ | refine kzS ?_ | refine kzR ?_ | refine kzC ?_ | refine kzH ?_ | refine kzB ?_ | refine kzK ?_ | refine kzE ?_ | refine kzg ?_) | with_reducible refine r_done ?_ | with_reducible refine s_go (by simp (disch := omega) only [RG11, EVA, plug, eq_self, simprocAttr]; with_reducible rfl) ?_ | ((with_reducible refine kzr ?_); refine zrF ?_) | (with_reducible refine zkP (fun ht => ?_) (fun ht => ?_) <;> try first | exact False.elim ht | exact absurd rfl ht | exact absurd trivial ht | exact Bool.noConfusion ht) | (with_reducible (refine k_ret ?_; repeat first | refine kzt ?_ | refine kzb ?_ | refine fin ?_)) | (with_reducible (refine kzx ?_; repeat first | refine thru ?_ | refine kzo ?_ | refine pass (by decide) ?_)) | ((first | refine post1 ?_ | refine post2 ?_ | refine post3 ?_); simp only [GA, simprocAttr]) | refine post0 ?_
 refine k_blk (k_loopS (X := Unit) [0, 7, 8, 9] l.length (fun k _ => [(0, vH l), (7, vH l), (8, .i .i64 l.length), (9, .i .i64 (k : Int))]) (fun k _ h => ∀ j, j < k → hdOk (hD l j) = true ∧ ∀ i, i < j → hN l i ≠ hN l j) () (by simp only [Am.keep, ZK, simprocAttr]; try rfl) (fun j hj => by omega) ?_)
 rintro k _ h hk hall ok pos
 have no : ∀ {P : Prop}, (hdsOk l = true → P) → ¬ P → hdsOk l = false := fun f g => by
  cases q : hdsOk l with
  | false => rfl
  | true => exact absurd (f q) g
 by_cases klt : k < l.length
 ·have klt' : (k : Int) < l.length := by omega
  have rT := rdH klt
  have q := pc61 (hD l k)
  cases c1 : hdOk (hD l k) with
  | false =>
    rw [c1] at q
    repeat' first | (with_reducible first | refine kzq ?_ | refine kzs ?_ | refine kzS ?_ | refine kzR ?_ | refine kzC ?_ | refine kzH ?_ | refine kzB ?_ | refine kzK ?_ | refine kzE ?_ | refine kzg ?_) | with_reducible refine r_done ?_ | with_reducible refine s_go (by simp (disch := omega) only [klt', rT, eH_rd, RG11, EVA, plug, eq_self, simprocAttr]; with_reducible rfl) ?_ | ((with_reducible refine kzr ?_); refine zrF ?_) | ((with_reducible refine kzr ?_); refine zrP (c := by first | exact q _) (k := ?_)) | (with_reducible refine zkP (fun ht => ?_) (fun ht => ?_) <;> try first | exact False.elim ht | exact absurd rfl ht | exact absurd trivial ht | exact Bool.noConfusion ht) | (with_reducible (refine k_ret ?_; repeat first | refine kzt ?_ | refine kzb ?_ | refine fin ?_)) | (with_reducible (refine kzx ?_; repeat first | refine thru ?_ | refine kzo ?_ | refine pass (by decide) ?_)) | ((first | refine post1 ?_ | refine post2 ?_ | refine post3 ?_); simp only [GA, simprocAttr]) | refine post0 ?_
    all_goals (rw [no (fun q => (hdsOk_iff.1 q).2.1 k klt) (by rw [c1]; simp)]; exact ends_of)
  | true =>
    rw [c1] at q
    repeat' first | (with_reducible first | refine kzq ?_ | refine kzs ?_ | refine kzS ?_ | refine kzR ?_ | refine kzC ?_ | refine kzH ?_ | refine kzB ?_ | refine kzK ?_ | refine kzE ?_ | refine kzg ?_) | with_reducible refine r_done ?_ | with_reducible refine s_go (by simp (disch := omega) only [klt', rT, eH_rd, RG11, EVA, plug, eq_self, simprocAttr]; with_reducible rfl) ?_ | ((with_reducible refine kzr ?_); refine zrF ?_) | ((with_reducible refine kzr ?_); refine zrP (c := by first | exact q _) (k := ?_)) | (with_reducible refine zkP (fun ht => ?_) (fun ht => ?_) <;> try first | exact False.elim ht | exact absurd rfl ht | exact absurd trivial ht | exact Bool.noConfusion ht) | (with_reducible (refine k_ret ?_; repeat first | refine kzt ?_ | refine kzb ?_ | refine fin ?_)) | (with_reducible (refine kzx ?_; repeat first | refine thru ?_ | refine kzo ?_ | refine pass (by decide) ?_)) | ((first | refine post1 ?_ | refine post2 ?_ | refine post3 ?_); simp only [GA, simprocAttr]) | refine post0 ?_
    refine k_blk (k_loopS (X := Unit) [0, 4, 7, 8, 9, 19, 20, 21] k (fun j _ => [(0, vH l), (4, .p (h.nx + 1 + 3) 0), (7, vH l), (8, .i .i64 l.length), (9, .i .i64 (k : Int)), (19, .vs k ((fl eH l).take (k * 6))), (20, .i .i64 (k : Int)), (21, .i .i64 (j : Int))]) (fun j _ h' => h'.m (h.nx + 1 + 3) = some (.cells true (eH (hD l k))) ∧ ∀ i, i < j → hN l i ≠ hN l k) () (by simp only [Am.keep, ZK, simprocAttr]; try rfl) ⟨by simp (disch := omega) only [RG11, EVA, plug, eq_self, simprocAttr] <;> rfl, fun i hi => by omega⟩ ?_)
    rintro j _ h' hj ⟨hm', hd⟩ ok' pos'
    have lt4 := ok'.m hm'
    by_cases hjk : j < k
    ·have hjk' : (j : Int) < k := by omega
     have rJ := rdtH klt hjk
     repeat' first | (with_reducible first | refine kzq ?_ | refine kzs ?_ | refine kzS ?_ | refine kzR ?_ | refine kzC ?_ | refine kzH ?_ | refine kzB ?_ | refine kzK ?_ | refine kzE ?_ | refine kzg ?_) | with_reducible refine r_done ?_ | with_reducible refine s_go (by simp (disch := omega) only [hjk', rJ, hm', row_m hm', read_row (row_m hm'), eH_rn, RG11, EVA, plug, eq_self, simprocAttr]; with_reducible rfl) ?_ | ((with_reducible refine kzr ?_); refine zrF ?_) | (with_reducible refine zkP (fun ht => ?_) (fun ht => ?_) <;> try first | exact False.elim ht | exact absurd rfl ht | exact absurd trivial ht | exact Bool.noConfusion ht) | (with_reducible (refine k_ret ?_; repeat first | refine kzt ?_ | refine kzb ?_ | refine fin ?_)) | (with_reducible (refine kzx ?_; repeat first | refine thru ?_ | refine kzo ?_ | refine pass (by decide) ?_)) | ((first | refine post1 ?_ | refine post2 ?_ | refine post3 ?_); simp only [GA, simprocAttr]) | refine post0 ?_
     ·rw [no (fun q => (hdsOk_iff.1 q).2.2 k klt j hjk) (fun q => q ht)]
      exact ends_of
     ·refine ⟨hjk, (), (by simp only [Am.keep, ZK, simprocAttr]; try rfl), by simp (disch := omega) only [hm', RG11, EVA, plug, eq_self, simprocAttr], fun i hi => ?_⟩
      by_cases e : i = j
      ·subst e; exact ht
      ·exact hd i (by omega)
    ·obtain rfl : j = k := by omega
     have hjk' : ¬ (j : Int) < j := by omega
     repeat' first | (with_reducible first | refine kzq ?_ | refine kzs ?_ | refine kzS ?_ | refine kzR ?_ | refine kzC ?_ | refine kzH ?_ | refine kzB ?_ | refine kzK ?_ | refine kzE ?_ | refine kzg ?_) | with_reducible refine r_done ?_ | with_reducible refine s_go (by simp (disch := omega) only [hjk', RG11, EVA, plug, eq_self, simprocAttr]; with_reducible rfl) ?_ | ((with_reducible refine kzr ?_); refine zrF ?_) | (with_reducible refine zkP (fun ht => ?_) (fun ht => ?_) <;> try first | exact False.elim ht | exact absurd rfl ht | exact absurd trivial ht | exact Bool.noConfusion ht) | (with_reducible (refine k_ret ?_; repeat first | refine kzt ?_ | refine kzb ?_ | refine fin ?_)) | (with_reducible (refine kzx ?_; repeat first | refine thru ?_ | refine kzo ?_ | refine pass (by decide) ?_)) | ((first | refine post1 ?_ | refine post2 ?_ | refine post3 ?_); simp only [GA, simprocAttr]) | refine post0 ?_
     refine ⟨klt, (), (by simp only [Am.keep, ZK, simprocAttr]; try rfl), fun i hi => ?_⟩
     by_cases e : i = j
     ·subst e; exact ⟨c1, hd⟩
     ·exact hall i (by omega)
 ·obtain rfl : k = l.length := by omega
  have klt' : ¬ (l.length : Int) < l.length := by omega
  repeat' first | (with_reducible first | refine kzq ?_ | refine kzs ?_ | refine kzS ?_ | refine kzR ?_ | refine kzC ?_ | refine kzH ?_ | refine kzB ?_ | refine kzK ?_ | refine kzE ?_ | refine kzg ?_) | with_reducible refine r_done ?_ | with_reducible refine s_go (by simp (disch := omega) only [klt', RG11, EVA, plug, eq_self, simprocAttr]; with_reducible rfl) ?_ | ((with_reducible refine kzr ?_); refine zrF ?_) | (with_reducible refine zkP (fun ht => ?_) (fun ht => ?_) <;> try first | exact False.elim ht | exact absurd rfl ht | exact absurd trivial ht | exact Bool.noConfusion ht) | (with_reducible (refine k_ret ?_; repeat first | refine kzt ?_ | refine kzb ?_ | refine fin ?_)) | (with_reducible (refine kzx ?_; repeat first | refine thru ?_ | refine kzo ?_ | refine pass (by decide) ?_)) | ((first | refine post1 ?_ | refine post2 ?_ | refine post3 ?_); simp only [GA, simprocAttr]) | refine post0 ?_
  refine ends_eq (b_eq ?_); rw [Bool.eq_iff_iff]
  rw [hdsOk_iff]
  simp only [decide_eq_true_eq]
  exact ⟨fun q => by omega, fun q => ⟨by omega, fun j hj => (hall j hj).1, fun j hj => (hall j hj).2⟩⟩
end Go.Proofs.YtjaihaccehaicaaDoor
set_option linter.unusedVariables false
set_option linter.unusedSimpArgs false
namespace Go.Proofs.YtjaihaccehaicaaDoor
open Go Go.Am Go.Proofs
def chk (l : List Sz) (m : List Hd) : Int := if szsOk l = false then 31 else if hdsOk m = false then 30 else 0
theorem RG40 : (type_of% @c40r0.eq_1) ∧ (type_of% @c40r1.eq_1) ∧ (type_of% @c40r2.eq_1) ∧ (type_of% @c40r3.eq_1) ∧ (type_of% @c40r4.eq_1) ∧ (type_of% @c40r5.eq_1) := ⟨@c40r0.eq_1, @c40r1.eq_1, @c40r2.eq_1, @c40r3.eq_1, @c40r4.eq_1, @c40r5.eq_1⟩
theorem pc41 (l : List Sz) (m : List Hd) (hl : l.length ≤ 9223372036854775807) (hm : m.length ≤ 9223372036854775807) : PC Tryd.prog 40 [vZ l, vH m] (.i .i64 (chk l m)) := by
 have q1 := pc59 l hl
 have q2 := pc60 m hm
 unfold chk
 refine pc_fn fn40 (by simp only [AV.plains, AV.plain, il_plain, bl_plain, Bool.and_true, Bool.true_and, Bool.and_self, fleZ_plain, fleH_plain]) (by simp only [AV.plains, AV.plain, il_plain, bl_plain, Bool.and_true, Bool.true_and, Bool.and_self, fleZ_plain, fleH_plain]) (Nat.le_of_ble_eq_true rfl) ?_
 rw [initSt2]
 cases c1 : szsOk l with
 | false =>
   rw [c1] at q1
   rw [if_pos rfl]
   repeat' first | (with_reducible first | refine kzq ?_ | refine kzs ?_ | refine kzS ?_ | refine kzR ?_ | refine kzC ?_ | refine kzH ?_ | refine kzB ?_ | refine kzK ?_ | refine kzE ?_ | refine kzg ?_) | with_reducible refine r_done ?_ | with_reducible refine s_go (by simp (disch := omega) only [RG40, EVA, plug, eq_self, simprocAttr]; with_reducible rfl) ?_ | ((with_reducible refine kzr ?_); refine zrF ?_) | ((with_reducible refine kzr ?_); refine zrP (c := by first | exact q1 _) (k := ?_)) | (with_reducible refine zkP (fun ht => ?_) (fun ht => ?_) <;> try first | exact False.elim ht | exact absurd rfl ht | exact absurd trivial ht | exact Bool.noConfusion ht) | (with_reducible (refine k_ret ?_; repeat first | refine kzt ?_ | refine kzb ?_ | refine fin ?_)) | (with_reducible (refine kzx ?_; repeat first | refine thru ?_ | refine kzo ?_ | refine pass (by decide) ?_)) | ((first | refine post1 ?_ | refine post2 ?_ | refine post3 ?_); simp only [GA, simprocAttr]) | refine post0 ?_
   all_goals first | exact ends_of | exact ends_eq rfl
 | true =>
   rw [c1] at q1
   rw [if_neg (by simp)]
   cases c2 : hdsOk m with
   | false =>
     rw [c2] at q2
     rw [if_pos rfl]
     repeat' first | (with_reducible first | refine kzq ?_ | refine kzs ?_ | refine kzS ?_ | refine kzR ?_ | refine kzC ?_ | refine kzH ?_ | refine kzB ?_ | refine kzK ?_ | refine kzE ?_ | refine kzg ?_) | with_reducible refine r_done ?_ | with_reducible refine s_go (by simp (disch := omega) only [RG40, EVA, plug, eq_self, simprocAttr]; with_reducible rfl) ?_ | ((with_reducible refine kzr ?_); refine zrF ?_) | ((with_reducible refine kzr ?_); refine zrP (c := by first | exact q1 _ | exact q2 _) (k := ?_)) | (with_reducible refine zkP (fun ht => ?_) (fun ht => ?_) <;> try first | exact False.elim ht | exact absurd rfl ht | exact absurd trivial ht | exact Bool.noConfusion ht) | (with_reducible (refine k_ret ?_; repeat first | refine kzt ?_ | refine kzb ?_ | refine fin ?_)) | (with_reducible (refine kzx ?_; repeat first | refine thru ?_ | refine kzo ?_ | refine pass (by decide) ?_)) | ((first | refine post1 ?_ | refine post2 ?_ | refine post3 ?_); simp only [GA, simprocAttr]) | refine post0 ?_
     all_goals first | exact ends_of | exact ends_eq rfl
   | true =>
     rw [c2] at q2
     rw [if_neg (by simp)]
     repeat' first | (with_reducible first | refine kzq ?_ | refine kzs ?_ | refine kzS ?_ | refine kzR ?_ | refine kzC ?_ | refine kzH ?_ | refine kzB ?_ | refine kzK ?_ | refine kzE ?_ | refine kzg ?_) | with_reducible refine r_done ?_ | with_reducible refine s_go (by simp (disch := omega) only [RG40, EVA, plug, eq_self, simprocAttr]; with_reducible rfl) ?_ | ((with_reducible refine kzr ?_); refine zrF ?_) | ((with_reducible refine kzr ?_); refine zrP (c := by first | exact q1 _ | exact q2 _) (k := ?_)) | (with_reducible refine zkP (fun ht => ?_) (fun ht => ?_) <;> try first | exact False.elim ht | exact absurd rfl ht | exact absurd trivial ht | exact Bool.noConfusion ht) | (with_reducible (refine k_ret ?_; repeat first | refine kzt ?_ | refine kzb ?_ | refine fin ?_)) | (with_reducible (refine kzx ?_; repeat first | refine thru ?_ | refine kzo ?_ | refine pass (by decide) ?_)) | ((first | refine post1 ?_ | refine post2 ?_ | refine post3 ?_); simp only [GA, simprocAttr]) | refine post0 ?_
     all_goals first | exact ends_of | exact ends_eq rfl
def sgl (s : Sz) (x : Hd) : Int := if szOk s = false then 31 else if hdOk x = false then 30 else 0
theorem chk_one (s : Sz) (x : Hd) : chk [s] [x] = sgl s x := by
 have e1 : szsOk [s] = szOk s := by
  rw [Bool.eq_iff_iff, szsOk_iff]
  simp [zD]
 have e2 : hdsOk [x] = hdOk x := by
  rw [Bool.eq_iff_iff, hdsOk_iff]
  simp [hD]
 unfold chk sgl
 rw [e1, e2]
theorem sgl_ok {s : Sz} {x : Hd} (h : sgl s x = 0) : szOk s = true ∧ hdOk x = true := by
 unfold sgl at h
 cases c1 : szOk s <;> cases c2 : hdOk x <;> simp [c1, c2] at h ⊢
def nd (s : Sz) (x : Hd) (j : Nat) : Int := max (max (s.F j - x.M j) (x.M j - s.T j)) 0
def nG (s : Sz) (x : Hd) (k : Nat) (j : Nat) : Int := if j < k then nd s x j else 0
def nS (s : Sz) (x : Hd) : Nat → Int
 | 0 => 0
 | k + 1 => nS s x k + nd s x k
theorem eZ_rt (s : Sz) : rd (eZ s) 16 none = some (.i .i64 s.t) := rfl
theorem e5_len (F : Nat → Int) : (e5 F).length = 5 := rfl
theorem e5_set {s : Sz} {x : Hd} {k : Nat} (h : k < 5) : (e5 (nG s x k)).set k (.i .i64 (nd s x k)) = e5 (nG s x (k + 1)) := by
 rcases k with _ | _ | _ | _ | _ | k <;> first | rfl | omega
theorem ndB {s : Sz} {x : Hd} (hs : szOk s = true) (hx : hdOk x = true) {j : Nat} (hj : j < 5) : 0 ≤ nd s x j ∧ nd s x j ≤ 3000 := by
 have h1 := (szOk_iff.1 hs).2 j hj
 have h2 := (hdOk_iff.1 hx).2 j hj
 unfold nd
 omega
theorem nSB {s : Sz} {x : Hd} (hs : szOk s = true) (hx : hdOk x = true) : ∀ {k : Nat}, k ≤ 5 → 0 ≤ nS s x k ∧ nS s x k ≤ 3000 * k
 | 0, _ => by simp [nS]
 | k + 1, h => by
   have h1 := nSB hs hx (k := k) (by omega)
   have h2 := ndB hs hx (j := k) (by omega)
   unfold nS
   omega
theorem RG46 : (type_of% @c46r0.eq_1) ∧ (type_of% @c46r1.eq_1) ∧ (type_of% @c46r2.eq_1) ∧ (type_of% @c46r3.eq_1) ∧ (type_of% @c46r4.eq_1) ∧ (type_of% @c46r5.eq_1) ∧ (type_of% @c46r6.eq_1) ∧ (type_of% @c46r7.eq_1) ∧ (type_of% @c46r8.eq_1) ∧ (type_of% @c46r10.eq_1) := ⟨@c46r0.eq_1, @c46r1.eq_1, @c46r2.eq_1, @c46r3.eq_1, @c46r4.eq_1, @c46r5.eq_1, @c46r6.eq_1, @c46r7.eq_1, @c46r8.eq_1, @c46r10.eq_1⟩
theorem pc42 (s : Sz) (x : Hd) (hs : szOk s = true) (hx : hdOk x = true) : PC Tryd.prog 46 [.ag (eZ s), .ag (eH x)] (.tu [.ag (e5 (nd s x)), .i .i64 (nS s x 5)]) := by
 have hs1 := (szOk_iff.1 hs).2
 have hx1 := (hdOk_iff.1 hx).2
 refine pc_fn fn46 (by simp only [AV.plains, AV.plain, il_plain, bl_plain, Bool.and_true, Bool.true_and, Bool.and_self]) (by simp only [AV.plains, AV.plain, il_plain, bl_plain, Bool.and_true, Bool.true_and, Bool.and_self]) (Nat.le_of_ble_eq_true rfl) ?_
 rw [initSt2]
 repeat' first | (with_reducible first | refine kzq ?_ | refine kzs ?_ | refine kzS ?_ | refine kzR ?_ | refine kzC ?_ | refine kzH ?_ | refine kzB ?_ | refine kzK ?_ | refine kzE ?_ | refine kzg ?_) | with_reducible refine k_head (by with_unfolding_all rfl) ?_ | with_reducible refine k_headS ?_ | (with_reducible refine SepK.mk ?_ ?_; (refine sepQ_P ?_; simp [sepQ, sepG, AOp.late, AOp.free, AOp.xs, AOp.isAl, tokNe, AV.tok, stS_get, strip, AX.val, RG46, GA]; try omega)) | with_reducible refine r_done ?_ | with_reducible refine hr_done ?_ | with_reducible refine s_go (by simp (disch := omega) only [eH_rM, RG46, EVA, plug, eq_self, simprocAttr]; with_reducible rfl) ?_ | with_reducible refine h_go (by with_unfolding_all rfl) (by simp (disch := omega) only [eH_rM, RG46, EVA, plug, eq_self, simprocAttr]; with_reducible rfl) ?_ | ((with_reducible refine kzr ?_); refine zrF ?_) | ((with_reducible refine kzh ?_); refine zhF ?_) | ((with_reducible refine kzh ?_); refine hr_app (by simp (disch := omega) only [eH_rM, RG46, EVA, plug, eq_self, simprocAttr]; with_reducible rfl) rfl ?_) | (with_reducible refine zkP (fun ht => ?_) (fun ht => ?_) <;> try first | exact False.elim ht | exact absurd rfl ht | exact absurd trivial ht | exact Bool.noConfusion ht) | (with_reducible (refine k_ret ?_; repeat first | refine kzt ?_ | refine kzb ?_ | refine fin ?_)) | (with_reducible (refine kzx ?_; repeat first | refine thru ?_ | refine kzo ?_ | refine pass (by decide) ?_)) | ((first | refine post1 ?_ | refine post2 ?_ | refine post3 ?_); simp only [GA, simprocAttr]) | (refine postc (by simp only [GA, simprocAttr]; rfl) (by simp (disch := omega) only [eH_rM, RG46, EVA, plug, eq_self, simprocAttr]; rfl) ?_) | (refine postct (by simp only [GA, simprocAttr]; rfl) (by simp (disch := omega) only [eH_rM, RG46, EVA, plug, eq_self, simprocAttr]; rfl) ?_; simp only [GA, simprocAttr]) | refine post0 ?_
 refine k_blk (k_loopS (X := Unit) [2, 4, 6, 7, 11, 12] 5 (fun k _ => [(2, .p 1 0), (4, .p 3 0), (6, .p 5 0), (7, .i .i64 (nS s x k)), (11, .ag (e5 x.M)), (12, .i .i64 (k : Int))]) (fun k _ h => h.m 1 = some (.cells true (eZ s)) ∧ h.m 3 = some (.cells true (e5 fun _ => 0)) ∧ h.m 5 = some (.cells true (e5 (nG s x k)))) () (by simp only [Am.keep, ZK, simprocAttr]; try rfl) ⟨by simp (disch := omega) only [RG46, EVA, plug, eq_self, simprocAttr] <;> rfl, by simp (disch := omega) only [RG46, EVA, plug, eq_self, simprocAttr] <;> rfl, by simp (disch := omega) only [RG46, EVA, plug, eq_self, simprocAttr] <;> rfl⟩ ?_)
 rintro k _ h hk ⟨hm, hm3, hm5⟩ ok pos
 by_cases klt : k < 5
 ·have klt' : (k : Int) < 5 := by omega
  have g0 := e5_get (F := x.M) klt
  have g1 := eZ_F s klt
  have g2 := eZ_T s klt
  have g5 : (e5 (nG s x (k + 1)))[k]? = some (.i .i64 (nG s x (k + 1) k)) := e5_get klt
  rw [show nG s x (k + 1) k = nd s x k from if_pos (by omega)] at g5
  have st := e5_set (s := s) (x := x) klt
  have b1 := hs1 k klt
  have b2 := hx1 k klt
  have b3 := ndB hs hx klt
  have b4 := nSB hs hx (k := k) hk
  have w1 : IntKind.i64.wrap (s.F k - x.M k) = s.F k - x.M k := wrap64 (by omega) (by omega)
  have w2 : IntKind.i64.wrap (x.M k - s.T k) = x.M k - s.T k := wrap64 (by omega) (by omega)
  have w3 : IntKind.i64.wrap (nS s x k + nd s x k) = nS s x k + nd s x k := wrap64 (by omega) (by omega)
  have dn : max (max (s.F k - x.M k) (x.M k - s.T k)) 0 = nd s x k := rfl
  repeat' first | (with_reducible first | refine kzq ?_ | refine kzs ?_ | refine kzS ?_ | refine kzR ?_ | refine kzC ?_ | refine kzH ?_ | refine kzB ?_ | refine kzK ?_ | refine kzE ?_ | refine kzg ?_) | with_reducible refine k_head (by with_unfolding_all rfl) ?_ | with_reducible refine k_headS ?_ | (with_reducible refine SepK.mk ?_ ?_; (refine sepQ_P ?_; simp [sepQ, sepG, AOp.late, AOp.free, AOp.xs, AOp.isAl, tokNe, AV.tok, stS_get, strip, AX.val, RG46, GA]; try omega)) | with_reducible refine r_done ?_ | with_reducible refine hr_done ?_ | with_reducible refine s_go (by simp (disch := omega) only [klt', g0, g1, g2, g5, st, w1, w2, w3, dn, e5_len, hm, row_m hm, read_row (row_m hm), hm5, row_m hm5, read_row (row_m hm5), RG46, EVA, plug, eq_self, simprocAttr]; with_reducible rfl) ?_ | with_reducible refine h_go (by with_unfolding_all rfl) (by simp (disch := omega) only [klt', g0, g1, g2, g5, st, w1, w2, w3, dn, e5_len, hm, row_m hm, read_row (row_m hm), hm5, row_m hm5, read_row (row_m hm5), RG46, EVA, plug, eq_self, simprocAttr]; with_reducible rfl) ?_ | ((with_reducible refine kzr ?_); refine zrF ?_) | ((with_reducible refine kzh ?_); refine zhF ?_) | ((with_reducible refine kzh ?_); refine hr_app (by simp (disch := omega) only [klt', g0, g1, g2, g5, st, w1, w2, w3, dn, e5_len, hm, row_m hm, read_row (row_m hm), hm5, row_m hm5, read_row (row_m hm5), RG46, EVA, plug, eq_self, simprocAttr]; with_reducible rfl) rfl ?_) | (with_reducible refine zkP (fun ht => ?_) (fun ht => ?_) <;> try first | exact False.elim ht | exact absurd rfl ht | exact absurd trivial ht | exact Bool.noConfusion ht) | (with_reducible (refine k_ret ?_; repeat first | refine kzt ?_ | refine kzb ?_ | refine fin ?_)) | (with_reducible (refine kzx ?_; repeat first | refine thru ?_ | refine kzo ?_ | refine pass (by decide) ?_)) | ((first | refine post1 ?_ | refine post2 ?_ | refine post3 ?_); simp only [GA, simprocAttr]) | (refine postc (by simp only [GA, simprocAttr]; rfl) (by simp (disch := omega) only [klt', g0, g1, g2, g5, st, w1, w2, w3, dn, e5_len, hm, row_m hm, read_row (row_m hm), hm5, row_m hm5, read_row (row_m hm5), RG46, EVA, plug, eq_self, simprocAttr]; rfl) ?_) | (refine postct (by simp only [GA, simprocAttr]; rfl) (by simp (disch := omega) only [klt', g0, g1, g2, g5, st, w1, w2, w3, dn, e5_len, hm, row_m hm, read_row (row_m hm), hm5, row_m hm5, read_row (row_m hm5), RG46, EVA, plug, eq_self, simprocAttr]; rfl) ?_; simp only [GA, simprocAttr]) | refine post0 ?_
  exact ⟨klt, (), (by simp only [Am.keep, ZK, simprocAttr]; try rfl), by simp (disch := omega) only [hm, RG46, EVA, plug, eq_self, simprocAttr], by simp (disch := omega) only [hm3, RG46, EVA, plug, eq_self, simprocAttr], by simp (disch := omega) only [st, RG46, EVA, plug, eq_self, simprocAttr]⟩
 ·obtain rfl : k = 5 := by omega
  have klt' : ¬ ((5 : Nat) : Int) < 5 := by omega
  repeat' first | (with_reducible first | refine kzq ?_ | refine kzs ?_ | refine kzS ?_ | refine kzR ?_ | refine kzC ?_ | refine kzH ?_ | refine kzB ?_ | refine kzK ?_ | refine kzE ?_ | refine kzg ?_) | with_reducible refine k_head (by with_unfolding_all rfl) ?_ | with_reducible refine k_headS ?_ | (with_reducible refine SepK.mk ?_ ?_; (refine sepQ_P ?_; simp [sepQ, sepG, AOp.late, AOp.free, AOp.xs, AOp.isAl, tokNe, AV.tok, stS_get, strip, AX.val, RG46, GA]; try omega)) | with_reducible refine r_done ?_ | with_reducible refine hr_done ?_ | with_reducible refine s_go (by simp (disch := omega) only [klt', e5_rd, hm3, row_m hm3, read_row (row_m hm3), hm5, row_m hm5, read_row (row_m hm5), RG46, EVA, plug, eq_self, simprocAttr]; with_reducible rfl) ?_ | with_reducible refine h_go (by with_unfolding_all rfl) (by simp (disch := omega) only [klt', e5_rd, hm3, row_m hm3, read_row (row_m hm3), hm5, row_m hm5, read_row (row_m hm5), RG46, EVA, plug, eq_self, simprocAttr]; with_reducible rfl) ?_ | ((with_reducible refine kzr ?_); refine zrF ?_) | ((with_reducible refine kzh ?_); refine zhF ?_) | ((with_reducible refine kzh ?_); refine hr_app (by simp (disch := omega) only [klt', e5_rd, hm3, row_m hm3, read_row (row_m hm3), hm5, row_m hm5, read_row (row_m hm5), RG46, EVA, plug, eq_self, simprocAttr]; with_reducible rfl) rfl ?_) | (with_reducible refine zkP (fun ht => ?_) (fun ht => ?_) <;> try first | exact False.elim ht | exact absurd rfl ht | exact absurd trivial ht | exact Bool.noConfusion ht) | (with_reducible (refine k_ret ?_; repeat first | refine kzt ?_ | refine kzb ?_ | refine fin ?_)) | (with_reducible (refine kzx ?_; repeat first | refine thru ?_ | refine kzo ?_ | refine pass (by decide) ?_)) | ((first | refine post1 ?_ | refine post2 ?_ | refine post3 ?_); simp only [GA, simprocAttr]) | (refine postc (by simp only [GA, simprocAttr]; rfl) (by simp (disch := omega) only [klt', e5_rd, hm3, row_m hm3, read_row (row_m hm3), hm5, row_m hm5, read_row (row_m hm5), RG46, EVA, plug, eq_self, simprocAttr]; rfl) ?_) | (refine postct (by simp only [GA, simprocAttr]; rfl) (by simp (disch := omega) only [klt', e5_rd, hm3, row_m hm3, read_row (row_m hm3), hm5, row_m hm5, read_row (row_m hm5), RG46, EVA, plug, eq_self, simprocAttr]; rfl) ?_; simp only [GA, simprocAttr]) | refine post0 ?_
  all_goals first | exact ends_of | exact ends_eq rfl
def flt (s : Sz) (x : Hd) : Nat → List Int
 | 0 => []
 | k + 1 => if s.B k < nd s x k then flt s x k ++ [(k : Int)] else flt s x k
def fau (s : Sz) (x : Hd) : List Int := if s.t < nS s x 5 then flt s x 5 ++ [5] else flt s x 5
theorem flt_len (s : Sz) (x : Hd) : ∀ k, (flt s x k).length ≤ k
 | 0 => by simp [flt]
 | k + 1 => by
   have := flt_len s x k
   unfold flt
   split
   ·rw [List.length_append, List.length_singleton]; omega
   ·omega
theorem RG47 : (type_of% @c47r0.eq_1) ∧ (type_of% @c47r1.eq_1) ∧ (type_of% @c47r2.eq_1) ∧ (type_of% @c47r3.eq_1) ∧ (type_of% @c47r4.eq_1) ∧ (type_of% @c47r5.eq_1) ∧ (type_of% @c47r6.eq_1) ∧ (type_of% @c47r7.eq_1) ∧ (type_of% @c47r8.eq_1) ∧ (type_of% @c47r10.eq_1) ∧ (type_of% @c47r11.eq_1) ∧ (type_of% @c47r12.eq_1) := ⟨@c47r0.eq_1, @c47r1.eq_1, @c47r2.eq_1, @c47r3.eq_1, @c47r4.eq_1, @c47r5.eq_1, @c47r6.eq_1, @c47r7.eq_1, @c47r8.eq_1, @c47r10.eq_1, @c47r11.eq_1, @c47r12.eq_1⟩
theorem pc45 (s : Sz) (x : Hd) (hs : szOk s = true) (hx : hdOk x = true) : PC Tryd.prog 47 [.ag (eZ s), .ag (eH x)] (vi (fau s x)) := by
 have q42 := pc42 s x hs hx
 refine pc_fn fn47 (by simp only [AV.plains, AV.plain, il_plain, bl_plain, Bool.and_true, Bool.true_and, Bool.and_self]) (by simp only [AV.plains, AV.plain, il_plain, bl_plain, Bool.and_true, Bool.true_and, Bool.and_self]) (Nat.le_of_ble_eq_true rfl) ?_
 rw [initSt2]
 repeat' first | (with_reducible first | refine kzq ?_ | refine kzs ?_ | refine kzS ?_ | refine kzR ?_ | refine kzC ?_ | refine kzH ?_ | refine kzB ?_ | refine kzK ?_ | refine kzE ?_ | refine kzg ?_) | with_reducible refine r_done ?_ | with_reducible refine s_go (by simp (disch := omega) only [eZ_rd, eH_rd, e5_rd, RG47, EVA, plug, eq_self, simprocAttr]; with_reducible rfl) ?_ | ((with_reducible refine kzr ?_); refine zrF ?_) | ((with_reducible refine kzr ?_); refine zrP (c := by first | exact q42 _) (k := ?_)) | (with_reducible refine zkP (fun ht => ?_) (fun ht => ?_) <;> try first | exact False.elim ht | exact absurd rfl ht | exact absurd trivial ht | exact Bool.noConfusion ht) | (with_reducible (refine k_ret ?_; repeat first | refine kzt ?_ | refine kzb ?_ | refine fin ?_)) | (with_reducible (refine kzx ?_; repeat first | refine thru ?_ | refine kzo ?_ | refine pass (by decide) ?_)) | ((first | refine post1 ?_ | refine post2 ?_ | refine post3 ?_); simp only [GA, simprocAttr]) | refine post0 ?_
 refine w_virt 1 5 rfl ?_
 refine k_blk (k_loopS (X := Nat) [2, 5, 7, 16, 17] 5 (fun k y => [(2, .p 1 0), (5, .sl y 0 (flt s x k).length 1), (7, .i .i64 (nS s x 5)), (16, .ag (e5 (nd s x))), (17, .i .i64 (k : Int))]) (fun k y h => h.m 1 = some (.cells true (eZ s)) ∧ y ≠ 0 ∧ y ≠ 1 ∧ h.m y = some (.cells true (il (flt s x k)))) _ (by simp only [Am.keep, ZK, simprocAttr]; try rfl) ⟨by simp (disch := omega) only [RG47, EVA, plug, eq_self, simprocAttr] <;> rfl, ?_, ?_, by simp (disch := omega) only [RG47, EVA, plug, eq_self, simprocAttr] <;> rfl⟩ ?_)
 all_goals try (simp only [AH.bump_nx]; omega)
 rintro k y h hk ⟨hm, hy, hy1, hmy⟩ ok pos
 have ly := ok.m hmy
 have l1 := ok.m hm
 have len := flt_len s x k
 by_cases klt : k < 5
 ·have klt' : (k : Int) < 5 := by omega
  have g0 := e5_get (F := nd s x) klt
  have g1 := eZ_B s klt
  by_cases c : s.B k < nd s x k
  ·have c' := eq_true c
   have e : flt s x (k + 1) = flt s x k ++ [(k : Int)] := if_pos c
   repeat' first | (with_reducible first | refine kzq ?_ | refine kzs ?_ | refine kzS ?_ | refine kzR ?_ | refine kzC ?_ | refine kzH ?_ | refine kzB ?_ | refine kzK ?_ | refine kzE ?_ | refine kzg ?_) | with_reducible refine r_done ?_ | with_reducible refine s_go (by simp (disch := omega) only [klt', g0, g1, c', hm, row_m hm, read_row (row_m hm), hmy, il_len, hy, RG47, EVA, plug, eq_self, simprocAttr]; with_reducible rfl) ?_ | ((with_reducible refine kzr ?_); refine zrF ?_) | (with_reducible refine zkP (fun ht => ?_) (fun ht => ?_) <;> try first | exact False.elim ht | exact absurd rfl ht | exact absurd trivial ht | exact Bool.noConfusion ht) | (with_reducible (refine k_ret ?_; repeat first | refine kzt ?_ | refine kzb ?_ | refine fin ?_)) | (with_reducible (refine kzx ?_; repeat first | refine thru ?_ | refine kzo ?_ | refine pass (by decide) ?_)) | ((first | refine post1 ?_ | refine post2 ?_ | refine post3 ?_); simp only [GA, simprocAttr]) | refine post0 ?_
   rw [e]
   refine ⟨klt, ?tk, ?g1, ?g2, ?g3, ?g4, ?g5⟩
   case g1 =>
    simp only [Am.keep, List.map_cons, List.map_nil, GA, Nat.reduceEqDiff, ↓reduceIte, List.length_append, List.length_cons, List.length_nil, Nat.zero_add]
    rfl
   case g2 => simp (disch := omega) only [hm, RG47, EVA, plug, eq_self, simprocAttr]
   case g3 => omega
   case g4 => omega
   case g5 => simp (disch := omega) only [RG47, EVA, plug, eq_self, simprocAttr] <;> rfl
  ·have c' := eq_false c
   have e : flt s x (k + 1) = flt s x k := if_neg c
   repeat' first | (with_reducible first | refine kzq ?_ | refine kzs ?_ | refine kzS ?_ | refine kzR ?_ | refine kzC ?_ | refine kzH ?_ | refine kzB ?_ | refine kzK ?_ | refine kzE ?_ | refine kzg ?_) | with_reducible refine r_done ?_ | with_reducible refine s_go (by simp (disch := omega) only [klt', g0, g1, c', hm, row_m hm, read_row (row_m hm), RG47, EVA, plug, eq_self, simprocAttr]; with_reducible rfl) ?_ | ((with_reducible refine kzr ?_); refine zrF ?_) | (with_reducible refine zkP (fun ht => ?_) (fun ht => ?_) <;> try first | exact False.elim ht | exact absurd rfl ht | exact absurd trivial ht | exact Bool.noConfusion ht) | (with_reducible (refine k_ret ?_; repeat first | refine kzt ?_ | refine kzb ?_ | refine fin ?_)) | (with_reducible (refine kzx ?_; repeat first | refine thru ?_ | refine kzo ?_ | refine pass (by decide) ?_)) | ((first | refine post1 ?_ | refine post2 ?_ | refine post3 ?_); simp only [GA, simprocAttr]) | refine post0 ?_
   rw [e]
   exact ⟨klt, y, (by simp only [Am.keep, ZK, simprocAttr]; try rfl), by simp (disch := omega) only [hm, RG47, EVA, plug, eq_self, simprocAttr], hy, hy1, by simp (disch := omega) only [hmy, RG47, EVA, plug, eq_self, simprocAttr]⟩
 ·obtain rfl : k = 5 := by omega
  have klt' : ¬ ((5 : Nat) : Int) < 5 := by omega
  unfold fau
  by_cases c : s.t < nS s x 5
  ·have c' := eq_true c
   rw [if_pos c]
   repeat' first | (with_reducible first | refine kzq ?_ | refine kzs ?_ | refine kzS ?_ | refine kzR ?_ | refine kzC ?_ | refine kzH ?_ | refine kzB ?_ | refine kzK ?_ | refine kzE ?_ | refine kzg ?_) | with_reducible refine r_done ?_ | with_reducible refine s_go (by simp (disch := omega) only [klt', c', eZ_rt, hm, row_m hm, read_row (row_m hm), hmy, il_len, hy, RG47, EVA, plug, eq_self, simprocAttr]; with_reducible rfl) ?_ | ((with_reducible refine kzr ?_); refine zrF ?_) | (with_reducible refine zkP (fun ht => ?_) (fun ht => ?_) <;> try first | exact False.elim ht | exact absurd rfl ht | exact absurd trivial ht | exact Bool.noConfusion ht) | (with_reducible (refine k_ret ?_; repeat first | refine kzt ?_ | refine kzb ?_ | refine fin ?_)) | (with_reducible (refine kzx ?_; repeat first | refine thru ?_ | refine kzo ?_ | refine pass (by decide) ?_)) | ((first | refine post1 ?_ | refine post2 ?_ | refine post3 ?_); simp only [GA, simprocAttr]) | refine post0 ?_
   rw [show (flt s x 5).length + 1 = (flt s x 5 ++ [(5 : Int)]).length by simp]
   exact ends_sl (k := 1) (cs := il (flt s x 5 ++ [5])) (by simp (disch := omega) only [RG47, EVA, plug, eq_self, simprocAttr] <;> rfl) (by rw [il_len, Nat.mul_one, List.length_append, List.length_singleton])
  ·have c' := eq_false c
   rw [if_neg c]
   repeat' first | (with_reducible first | refine kzq ?_ | refine kzs ?_ | refine kzS ?_ | refine kzR ?_ | refine kzC ?_ | refine kzH ?_ | refine kzB ?_ | refine kzK ?_ | refine kzE ?_ | refine kzg ?_) | with_reducible refine r_done ?_ | with_reducible refine s_go (by simp (disch := omega) only [klt', c', eZ_rt, hm, row_m hm, read_row (row_m hm), hmy, il_len, RG47, EVA, plug, eq_self, simprocAttr]; with_reducible rfl) ?_ | ((with_reducible refine kzr ?_); refine zrF ?_) | (with_reducible refine zkP (fun ht => ?_) (fun ht => ?_) <;> try first | exact False.elim ht | exact absurd rfl ht | exact absurd trivial ht | exact Bool.noConfusion ht) | (with_reducible (refine k_ret ?_; repeat first | refine kzt ?_ | refine kzb ?_ | refine fin ?_)) | (with_reducible (refine kzx ?_; repeat first | refine thru ?_ | refine kzo ?_ | refine pass (by decide) ?_)) | ((first | refine post1 ?_ | refine post2 ?_ | refine post3 ?_); simp only [GA, simprocAttr]) | refine post0 ?_
   exact ends_sl (k := 1) (cs := il (flt s x 5)) (by simp (disch := omega) only [hmy, RG47, EVA, plug, eq_self, simprocAttr]) (by rw [il_len, Nat.mul_one])
def neeR (s : Sz) (x : Hd) : (Nat → Int) × Int := if sgl s x = 0 then (nd s x, 0) else ((fun _ => 0), sgl s x)
def fauR (s : Sz) (x : Hd) : List Int × Int := if sgl s x = 0 then (fau s x, 0) else ([], sgl s x)
def fitR (s : Sz) (x : Hd) : Bool × Int := (decide (sgl s x = 0) && decide (((fau s x).length : Int) = 0), sgl s x)
theorem vZ_one (s : Sz) : vZ [s] = .vs 1 (eZ s) := rfl
theorem vH_one (x : Hd) : vH [x] = .vs 1 (eH x) := rfl
theorem RG80 : (type_of% @c80r0.eq_1) ∧ (type_of% @c80r1.eq_1) ∧ (type_of% @c80r2.eq_1) ∧ (type_of% @c80r3.eq_1) ∧ (type_of% @c80r4.eq_1) ∧ (type_of% @c80r5.eq_1) := ⟨@c80r0.eq_1, @c80r1.eq_1, @c80r2.eq_1, @c80r3.eq_1, @c80r4.eq_1, @c80r5.eq_1⟩
theorem pc22 (s : Sz) (x : Hd) : PC Tryd.prog 80 [.ag (eZ s), .ag (eH x)] (.tu [.ag (e5 (neeR s x).1), .i .i64 (neeR s x).2]) := by
 have q41 := pc41 [s] [x] (by simp) (by simp)
 rw [chk_one, vZ_one, vH_one] at q41
 unfold neeR
 refine pc_fn fn80 (by simp only [AV.plains, AV.plain, il_plain, bl_plain, Bool.and_true, Bool.true_and, Bool.and_self]) (by simp only [AV.plains, AV.plain, il_plain, bl_plain, Bool.and_true, Bool.true_and, Bool.and_self]) (Nat.le_of_ble_eq_true rfl) ?_
 rw [initSt2]
 by_cases c : sgl s x = 0
 ·have c' := eq_true c
  rw [if_pos c]
  have q42 := pc42 s x (sgl_ok c).1 (sgl_ok c).2
  repeat' first | (with_reducible first | refine kzq ?_ | refine kzs ?_ | refine kzS ?_ | refine kzR ?_ | refine kzC ?_ | refine kzH ?_ | refine kzB ?_ | refine kzK ?_ | refine kzE ?_ | refine kzg ?_) | with_reducible refine r_done ?_ | with_reducible refine s_go (by simp (disch := omega) only [eZ_rd, eH_rd, e5_rd, c', RG80, EVA, plug, eq_self, simprocAttr]; with_reducible rfl) ?_ | ((with_reducible refine kzr ?_); refine zrF ?_) | ((with_reducible refine kzr ?_); refine zrP (c := by first | ((refine PC.at q41 rfl ?F; case F => (refine .cons (.row (by simp (disch := omega) only [RG80, EVA, plug, eq_self, simprocAttr] <;> rfl) rfl) (.cons (.row (by simp (disch := omega) only [RG80, EVA, plug, eq_self, simprocAttr] <;> rfl) rfl) .nil))); all_goals fail) | exact q42 _) (k := ?_)) | (with_reducible refine zkP (fun ht => ?_) (fun ht => ?_) <;> try first | exact False.elim ht | exact absurd rfl ht | exact absurd trivial ht | exact Bool.noConfusion ht) | (with_reducible (refine k_ret ?_; repeat first | refine kzt ?_ | refine kzb ?_ | refine fin ?_)) | (with_reducible (refine kzx ?_; repeat first | refine thru ?_ | refine kzo ?_ | refine pass (by decide) ?_)) | ((first | refine post1 ?_ | refine post2 ?_ | refine post3 ?_); simp only [GA, simprocAttr]) | (refine postc (by simp only [GA, simprocAttr]; rfl) (by simp (disch := omega) only [eZ_rd, eH_rd, e5_rd, c', RG80, EVA, plug, eq_self, simprocAttr]; rfl) ?_) | (refine postct (by simp only [GA, simprocAttr]; rfl) (by simp (disch := omega) only [eZ_rd, eH_rd, e5_rd, c', RG80, EVA, plug, eq_self, simprocAttr]; rfl) ?_; simp only [GA, simprocAttr]) | refine post0 ?_
  all_goals first | exact ends_of | exact ends_eq rfl
 ·have c' := eq_false c
  rw [if_neg c]
  repeat' first | (with_reducible first | refine kzq ?_ | refine kzs ?_ | refine kzS ?_ | refine kzR ?_ | refine kzC ?_ | refine kzH ?_ | refine kzB ?_ | refine kzK ?_ | refine kzE ?_ | refine kzg ?_) | with_reducible refine r_done ?_ | with_reducible refine s_go (by simp (disch := omega) only [eZ_rd, eH_rd, e5_rd, c', RG80, EVA, plug, eq_self, simprocAttr]; with_reducible rfl) ?_ | ((with_reducible refine kzr ?_); refine zrF ?_) | ((with_reducible refine kzr ?_); refine zrP (c := by first | ((refine PC.at q41 rfl ?F; case F => (refine .cons (.row (by simp (disch := omega) only [RG80, EVA, plug, eq_self, simprocAttr] <;> rfl) rfl) (.cons (.row (by simp (disch := omega) only [RG80, EVA, plug, eq_self, simprocAttr] <;> rfl) rfl) .nil))); all_goals fail)) (k := ?_)) | (with_reducible refine zkP (fun ht => ?_) (fun ht => ?_) <;> try first | exact False.elim ht | exact absurd rfl ht | exact absurd trivial ht | exact Bool.noConfusion ht) | (with_reducible (refine k_ret ?_; repeat first | refine kzt ?_ | refine kzb ?_ | refine fin ?_)) | (with_reducible (refine kzx ?_; repeat first | refine thru ?_ | refine kzo ?_ | refine pass (by decide) ?_)) | ((first | refine post1 ?_ | refine post2 ?_ | refine post3 ?_); simp only [GA, simprocAttr]) | (refine postc (by simp only [GA, simprocAttr]; rfl) (by simp (disch := omega) only [eZ_rd, eH_rd, e5_rd, c', RG80, EVA, plug, eq_self, simprocAttr]; rfl) ?_) | (refine postct (by simp only [GA, simprocAttr]; rfl) (by simp (disch := omega) only [eZ_rd, eH_rd, e5_rd, c', RG80, EVA, plug, eq_self, simprocAttr]; rfl) ?_; simp only [GA, simprocAttr]) | refine post0 ?_
  all_goals first | exact ends_of | exact ends_eq rfl
theorem RG88 : (type_of% @c88r0.eq_1) ∧ (type_of% @c88r1.eq_1) ∧ (type_of% @c88r2.eq_1) ∧ (type_of% @c88r3.eq_1) ∧ (type_of% @c88r4.eq_1) := ⟨@c88r0.eq_1, @c88r1.eq_1, @c88r2.eq_1, @c88r3.eq_1, @c88r4.eq_1⟩
theorem pc25 (s : Sz) (x : Hd) : PC Tryd.prog 88 [.ag (eZ s), .ag (eH x)] (.tu [vi (fauR s x).1, .i .i64 (fauR s x).2]) := by
 have q41 := pc41 [s] [x] (by simp) (by simp)
 rw [chk_one, vZ_one, vH_one] at q41
 unfold fauR
 refine pc_fn fn88 (by simp only [AV.plains, AV.plain, il_plain, bl_plain, Bool.and_true, Bool.true_and, Bool.and_self]) (by simp only [AV.plains, AV.plain, il_plain, bl_plain, Bool.and_true, Bool.true_and, Bool.and_self]) (Nat.le_of_ble_eq_true rfl) ?_
 rw [initSt2]
 by_cases c : sgl s x = 0
 ·have c' := eq_true c
  rw [if_pos c]
  have q45 := pc45 s x (sgl_ok c).1 (sgl_ok c).2
  repeat' first | (with_reducible first | refine kzq ?_ | refine kzs ?_ | refine kzS ?_ | refine kzR ?_ | refine kzC ?_ | refine kzH ?_ | refine kzB ?_ | refine kzK ?_ | refine kzE ?_ | refine kzg ?_) | with_reducible refine r_done ?_ | with_reducible refine s_go (by simp (disch := omega) only [eZ_rd, eH_rd, e5_rd, c', RG88, EVA, plug, eq_self, simprocAttr]; with_reducible rfl) ?_ | ((with_reducible refine kzr ?_); refine zrF ?_) | ((with_reducible refine kzr ?_); refine zrP (c := by first | ((refine PC.at q41 rfl ?F; case F => (refine .cons (.row (by simp (disch := omega) only [RG88, EVA, plug, eq_self, simprocAttr] <;> rfl) rfl) (.cons (.row (by simp (disch := omega) only [RG88, EVA, plug, eq_self, simprocAttr] <;> rfl) rfl) .nil))); all_goals fail) | exact q45 _) (k := ?_)) | (with_reducible refine zkP (fun ht => ?_) (fun ht => ?_) <;> try first | exact False.elim ht | exact absurd rfl ht | exact absurd trivial ht | exact Bool.noConfusion ht) | (with_reducible (refine k_ret ?_; repeat first | refine kzt ?_ | refine kzb ?_ | refine fin ?_)) | (with_reducible (refine kzx ?_; repeat first | refine thru ?_ | refine kzo ?_ | refine pass (by decide) ?_)) | ((first | refine post1 ?_ | refine post2 ?_ | refine post3 ?_); simp only [GA, simprocAttr]) | refine post0 ?_
  all_goals first | exact ends_of | exact ends_eq rfl
 ·have c' := eq_false c
  rw [if_neg c]
  repeat' first | (with_reducible first | refine kzq ?_ | refine kzs ?_ | refine kzS ?_ | refine kzR ?_ | refine kzC ?_ | refine kzH ?_ | refine kzB ?_ | refine kzK ?_ | refine kzE ?_ | refine kzg ?_) | with_reducible refine r_done ?_ | with_reducible refine s_go (by simp (disch := omega) only [eZ_rd, eH_rd, e5_rd, c', RG88, EVA, plug, eq_self, simprocAttr]; with_reducible rfl) ?_ | ((with_reducible refine kzr ?_); refine zrF ?_) | ((with_reducible refine kzr ?_); refine zrP (c := by first | ((refine PC.at q41 rfl ?F; case F => (refine .cons (.row (by simp (disch := omega) only [RG88, EVA, plug, eq_self, simprocAttr] <;> rfl) rfl) (.cons (.row (by simp (disch := omega) only [RG88, EVA, plug, eq_self, simprocAttr] <;> rfl) rfl) .nil))); all_goals fail)) (k := ?_)) | (with_reducible refine zkP (fun ht => ?_) (fun ht => ?_) <;> try first | exact False.elim ht | exact absurd rfl ht | exact absurd trivial ht | exact Bool.noConfusion ht) | (with_reducible (refine k_ret ?_; repeat first | refine kzt ?_ | refine kzb ?_ | refine fin ?_)) | (with_reducible (refine kzx ?_; repeat first | refine thru ?_ | refine kzo ?_ | refine pass (by decide) ?_)) | ((first | refine post1 ?_ | refine post2 ?_ | refine post3 ?_); simp only [GA, simprocAttr]) | refine post0 ?_
  exact ends_nil2
theorem pc21 (s : Sz) (x : Hd) : PC Tryd.prog 81 [.ag (eZ s), .ag (eH x)] (.tu [.b (fitR s x).1, .i .i64 (fitR s x).2]) := by
 have q := pc25 s x
 unfold fauR at q
 unfold fitR
 refine pc_fn fn81 (by simp only [AV.plains, AV.plain, il_plain, bl_plain, Bool.and_true, Bool.true_and, Bool.and_self]) (by simp only [AV.plains, AV.plain, il_plain, bl_plain, Bool.and_true, Bool.true_and, Bool.and_self]) (Nat.le_of_ble_eq_true rfl) ?_
 rw [initSt2]
 by_cases c : sgl s x = 0
 ·have c' := eq_true c
  rw [if_pos c] at q
  rw [decide_eq_true c, Bool.true_and]
  repeat' first | (with_reducible first | refine kzq ?_ | refine kzs ?_ | refine kzS ?_ | refine kzR ?_ | refine kzC ?_ | refine kzH ?_ | refine kzB ?_ | refine kzK ?_ | refine kzE ?_ | refine kzg ?_) | with_reducible refine r_done ?_ | with_reducible refine s_go (by simp (disch := omega) only [eZ_rd, eH_rd, c', c81r0, c81r1, c81r2, EVA, plug, eq_self, simprocAttr]; with_reducible rfl) ?_ | ((with_reducible refine kzr ?_); refine zrF ?_) | ((with_reducible refine kzr ?_); refine zrP (c := by first | exact q _) (k := ?_)) | (with_reducible refine zkP (fun ht => ?_) (fun ht => ?_) <;> try first | exact False.elim ht | exact absurd rfl ht | exact absurd trivial ht | exact Bool.noConfusion ht) | (with_reducible (refine k_ret ?_; repeat first | refine kzt ?_ | refine kzb ?_ | refine fin ?_)) | (with_reducible (refine kzx ?_; repeat first | refine thru ?_ | refine kzo ?_ | refine pass (by decide) ?_)) | ((first | refine post1 ?_ | refine post2 ?_ | refine post3 ?_); simp only [GA, simprocAttr]) | refine post0 ?_
  exact ends_eq (by rw [c])
 ·have c' := eq_false c
  rw [if_neg c] at q
  rw [decide_eq_false c, Bool.false_and]
  repeat' first | (with_reducible first | refine kzq ?_ | refine kzs ?_ | refine kzS ?_ | refine kzR ?_ | refine kzC ?_ | refine kzH ?_ | refine kzB ?_ | refine kzK ?_ | refine kzE ?_ | refine kzg ?_) | with_reducible refine r_done ?_ | with_reducible refine s_go (by simp (disch := omega) only [eZ_rd, eH_rd, c', c81r0, c81r1, c81r2, EVA, plug, eq_self, simprocAttr]; with_reducible rfl) ?_ | ((with_reducible refine kzr ?_); refine zrF ?_) | ((with_reducible refine kzr ?_); refine zrP (c := by first | exact q _) (k := ?_)) | (with_reducible refine zkP (fun ht => ?_) (fun ht => ?_) <;> try first | exact False.elim ht | exact absurd rfl ht | exact absurd trivial ht | exact Bool.noConfusion ht) | (with_reducible (refine k_ret ?_; repeat first | refine kzt ?_ | refine kzb ?_ | refine fin ?_)) | (with_reducible (refine kzx ?_; repeat first | refine thru ?_ | refine kzo ?_ | refine pass (by decide) ?_)) | ((first | refine post1 ?_ | refine post2 ?_ | refine post3 ?_); simp only [GA, simprocAttr]) | refine post0 ?_
  all_goals first | exact ends_of | exact ends_eq rfl
end Go.Proofs.YtjaihaccehaicaaDoor
set_option linter.unusedVariables false
set_option linter.unusedSimpArgs false
namespace Go.Proofs.YtjaihaccehaicaaDoor
open Go Go.Am Go.Proofs
theorem toNat_64 {x : Nat} (h : x < 2 ^ 64) : (BitVec.ofInt 64 (x : Int)).toNat = x := by
 rw [BitVec.toNat_ofInt]
 omega
theorem wrapN {x : Nat} (h : x < 2 ^ 64) : IntKind.u64.wrap (x : Int) = x := wrapu64 (by omega) (by omega)
theorem or_64 {x y : Nat} (hx : x < 2 ^ 64) (hy : y < 2 ^ 64) : abits .or .u64 (x : Int) (y : Int) = ((x ||| y : Nat) : Int) := by
 have e : (BitVec.ofInt 64 (x : Int) ||| BitVec.ofInt 64 (y : Int)).toNat = x ||| y := by rw [BitVec.toNat_or, toNat_64 hx, toNat_64 hy]
 show IntKind.u64.wrap ((BitVec.ofInt 64 (x : Int) ||| BitVec.ofInt 64 (y : Int)).toNat : Int) = _
 rw [e]
 exact wrapN (Nat.or_lt_two_pow hx hy)
theorem and_64 {x y : Nat} (hx : x < 2 ^ 64) (hy : y < 2 ^ 64) : abits .and .u64 (x : Int) (y : Int) = ((x &&& y : Nat) : Int) := by
 have e : (BitVec.ofInt 64 (x : Int) &&& BitVec.ofInt 64 (y : Int)).toNat = x &&& y := by rw [BitVec.toNat_and, toNat_64 hx, toNat_64 hy]
 show IntKind.u64.wrap ((BitVec.ofInt 64 (x : Int) &&& BitVec.ofInt 64 (y : Int)).toNat : Int) = _
 rw [e]
 exact wrapN (Nat.and_lt_two_pow _ hy)
theorem shl_64 {k : Nat} (h : k < 64) : IntKind.u64.wrap (1 * 2 ^ (min k IntKind.u64.bits)) = ((2 ^ k : Nat) : Int) := by
 have e : min k IntKind.u64.bits = k := Nat.min_eq_left (by show k ≤ 64; omega)
 rw [e, Int.one_mul]
 have := wrapN (x := 2 ^ k) (Nat.pow_lt_pow_right (by omega) h)
 rw [Int.natCast_pow] at this ⊢
 exact this
theorem shr_64 (x k : Nat) (h : k ≤ 64) : (x : Int).fdiv (2 ^ (min k IntKind.u64.bits)) = ((x / 2 ^ k : Nat) : Int) := by
 have e : min k IntKind.u64.bits = k := Nat.min_eq_left h
 rw [e, Int.fdiv_eq_ediv_of_nonneg _ (Int.pow_nonneg (by decide))]
 rw [Int.natCast_ediv, Int.natCast_pow]
 rfl
def popA : Nat → Nat → Nat
 | 0, _ => 0
 | n + 1, x => x % 2 + popA n (x / 2)
theorem and_split {a p u q : Nat} (ha : a < 256) (hp : p < 256) : (a + 256 * u) &&& (p + 256 * q) = (a &&& p) + 256 * (u &&& q) := by
 have h1 : ((a + 256 * u) &&& (p + 256 * q)) % 2 ^ 8 = a &&& p := by
  rw [Nat.and_mod_two_pow]
  congr 1 <;> omega
 have h2 : ((a + 256 * u) &&& (p + 256 * q)) / 2 ^ 8 = u &&& q := by
  rw [Nat.and_div_two_pow]
  congr 1 <;> omega
 omega
def val : List Nat → Nat
 | [] => 0
 | b :: bs => b + 256 * val bs
def msk (c : Nat) : Nat → Nat
 | 0 => 0
 | n + 1 => c + 256 * msk c n
def F1 (m x : Nat) : Nat := (x / 2 &&& m) + (x &&& m)
def F2 (m x : Nat) : Nat := (x / 4 &&& m) + (x &&& m)
def F3 (m x : Nat) : Nat := (x / 16 + x) &&& m
theorem b1 : ∀ a : Fin 256, ∀ t : Fin 2, (a.val / 2 + 128 * t.val) &&& 0x55 = (a.val / 2) &&& 0x55 := by decide +kernel
theorem b2 : ∀ a : Fin 256, ∀ t : Fin 4, (a.val / 4 + 64 * t.val) &&& 0x33 = (a.val / 4) &&& 0x33 := by decide +kernel
theorem b3 : ∀ a : Fin 69, ∀ t : Fin 5, (a.val / 16 + 16 * t.val + a.val) &&& 0x0f = F3 0x0f a.val := by decide +kernel
theorem c1 : ∀ a : Fin 256, F1 0x55 a.val < 256 ∧ F2 0x33 (F1 0x55 a.val) < 69 ∧ F2 0x33 (F1 0x55 a.val) % 16 < 5 ∧ F3 0x0f (F2 0x33 (F1 0x55 a.val)) = popA 8 a.val := by decide +kernel
theorem F1_val : ∀ {bs : List Nat}, (∀ b ∈ bs, b < 256) → F1 (msk 0x55 bs.length) (val bs) = val (bs.map (F1 0x55))
 | [], _ => rfl
 | b :: bs, h => by
   have ih := F1_val (bs := bs) fun x hx => h x (List.mem_cons_of_mem _ hx)
   have hb := h b (List.mem_cons_self ..)
   simp only [List.length_cons, msk, val, List.map_cons]
   rw [← ih]
   have e1 : (b + 256 * val bs) / 2 = (b / 2 + 128 * (val bs % 2)) + 256 * (val bs / 2) := by omega
   have k := b1 ⟨b, hb⟩ ⟨val bs % 2, by omega⟩
   simp only at k
   show ((b + 256 * val bs) / 2 &&& _) + ((b + 256 * val bs) &&& _) = _
   rw [e1, and_split (by omega) (by omega), and_split hb (by omega), k]
   unfold F1
   omega
theorem F2_val : ∀ {bs : List Nat}, (∀ b ∈ bs, b < 256) → F2 (msk 0x33 bs.length) (val bs) = val (bs.map (F2 0x33))
 | [], _ => rfl
 | b :: bs, h => by
   have ih := F2_val (bs := bs) fun x hx => h x (List.mem_cons_of_mem _ hx)
   have hb := h b (List.mem_cons_self ..)
   simp only [List.length_cons, msk, val, List.map_cons]
   rw [← ih]
   have e1 : (b + 256 * val bs) / 4 = (b / 4 + 64 * (val bs % 4)) + 256 * (val bs / 4) := by omega
   have k := b2 ⟨b, hb⟩ ⟨val bs % 4, by omega⟩
   simp only at k
   show ((b + 256 * val bs) / 4 &&& _) + ((b + 256 * val bs) &&& _) = _
   rw [e1, and_split (by omega) (by omega), and_split hb (by omega), k]
   unfold F2
   omega
theorem F3_val : ∀ {bs : List Nat}, (∀ b ∈ bs, b < 69 ∧ b % 16 < 5) → F3 (msk 0x0f bs.length) (val bs) = val (bs.map (F3 0x0f))
 | [], _ => rfl
 | b :: bs, h => by
   have ih := F3_val (bs := bs) fun x hx => h x (List.mem_cons_of_mem _ hx)
   have hb := h b (List.mem_cons_self ..)
   have ht : val bs % 16 < 5 := by
    cases bs with
    | nil => show 0 % 16 < 5; omega
    | cons d ds =>
      have := (h d (by simp)).2
      show (d + 256 * val ds) % 16 < 5
      omega
   simp only [List.length_cons, msk, val, List.map_cons]
   rw [← ih]
   have e1 : (b + 256 * val bs) / 16 + (b + 256 * val bs) = (b / 16 + 16 * (val bs % 16) + b) + 256 * (val bs / 16 + val bs) := by omega
   have k := b3 ⟨b, hb.1⟩ ⟨val bs % 16, ht⟩
   simp only at k
   show ((b + 256 * val bs) / 16 + (b + 256 * val bs)) &&& _ = _
   rw [e1, and_split (by omega) (by omega), k]
   rfl
theorem popA_val : ∀ {bs : List Nat}, (∀ b ∈ bs, b < 256) → popA (8 * bs.length) (val bs) = (bs.map (popA 8)).sum
 | [], _ => rfl
 | b :: bs, h => by
   have ih := popA_val (bs := bs) fun x hx => h x (List.mem_cons_of_mem _ hx)
   have hb := h b (List.mem_cons_self ..)
   rw [List.map_cons, List.sum_cons, ← ih, List.length_cons, show 8 * (bs.length + 1) = 8 * bs.length + 1 + 1 + 1 + 1 + 1 + 1 + 1 + 1 by omega]
   simp only [popA, val, Nat.div_div_eq_div_mul]
   generalize val bs = r
   have e : (b + 256 * r) / 256 = r := by omega
   simp only [Nat.reduceMul]
   rw [e]
   omega
def bytes (x : Nat) : List Nat := [x % 256, x / 256 % 256, x / 65536 % 256, x / 16777216 % 256, x / 4294967296 % 256, x / 1099511627776 % 256, x / 281474976710656 % 256, x / 72057594037927936 % 256]
theorem bytes_val {x : Nat} (h : x < 2 ^ 64) : val (bytes x) = x := by
 simp only [bytes, val]
 omega
theorem div_low {L M R : Nat} (h : L < M) : (L + M * R) / M = R := by
 rw [Nat.add_mul_div_left _ _ (by omega), Nat.div_eq_of_lt h, Nat.zero_add]
theorem mod_low {L M R : Nat} (h : L < M) : (L + M * R) % M = L := by
 rw [Nat.add_mul_mod_self_left, Nat.mod_eq_of_lt h]
theorem sum8 {a b c d e f g h r0 r1 r2 r3 r4 r5 r6 r7 : Nat} (ha : a ≤ 8) (hb : b ≤ 8) (hc : c ≤ 8) (hd : d ≤ 8) (he : e ≤ 8) (hf : f ≤ 8) (hg : g ≤ 8) (hh : h ≤ 8) (e7 : r7 = h) (e6 : r6 = g + 256 * r7) (e5 : r5 = f + 256 * r6) (e4 : r4 = e + 256 * r5) (e3 : r3 = d + 256 * r4) (e2 : r2 = c + 256 * r3) (e1 : r1 = b + 256 * r2) (e0 : r0 = a + 256 * r1) :
 r0 / 256 = r1 ∧ (r0 + r1) / 65536 = r2 + r3 ∧ (r0 + r1 + (r2 + r3)) / 4294967296 = r4 + r5 + r6 + r7 ∧ (r0 + r1 + (r2 + r3) + (r4 + r5 + r6 + r7)) % 128 = a + (b + (c + (d + (e + (f + (g + (h + 0))))))) ∧ r0 < 2 ^ 60 ∧ r0 + r1 < 2 ^ 61 ∧ r0 + r1 + (r2 + r3) < 2 ^ 62 ∧ r0 + r1 + (r2 + r3) + (r4 + r5 + r6 + r7) < 2 ^ 63 := by
 refine ⟨?_, ?_, ?_, ?_, ?_, ?_, ?_, ?_⟩
 ·rw [e0]; exact div_low (by omega)
 ·rw [show r0 + r1 = (a + b + 256 * (b + c)) + 65536 * (r2 + r3) by omega]
  exact div_low (by omega)
 ·rw [show r0 + r1 + (r2 + r3) = (a + b + c + d + 256 * (b + c + d + e) + 65536 * (c + d + e + f) + 16777216 * (d + e + f + g)) + 4294967296 * (r4 + r5 + r6 + r7) by omega]
  exact div_low (by omega)
 ·rw [show r0 + r1 + (r2 + r3) + (r4 + r5 + r6 + r7) = (a + (b + (c + (d + (e + (f + (g + (h + 0)))))))) + 128 * (2 * (r1 + r2 + r3 + r4 + r5 + r6 + r7)) by omega]
  exact mod_low (by omega)
 all_goals omega
theorem m1_64 : (6148914691236517205 : Nat) = msk 0x55 8 := by decide
theorem m2_64 : (3689348814741910323 : Nat) = msk 0x33 8 := by decide
theorem m4_64 : (1085102592571150095 : Nat) = msk 0x0f 8 := by decide
theorem popA_8 : ∀ a : Fin 256, popA 8 a.val ≤ 8 := by decide +kernel
theorem swar {x : Nat} (h : x < 2 ^ 64) : ∃ a b c d e f g k, a ≤ 8 ∧ b ≤ 8 ∧ c ≤ 8 ∧ d ≤ 8 ∧ e ≤ 8 ∧ f ≤ 8 ∧ g ≤ 8 ∧ k ≤ 8 ∧ F3 1085102592571150095 (F2 3689348814741910323 (F1 6148914691236517205 x)) = val [a, b, c, d, e, f, g, k] ∧ popA 64 x = a + (b + (c + (d + (e + (f + (g + (k + 0))))))) := by
 have hb : ∀ b ∈ bytes x, b < 256 := fun b hb => by
  simp only [bytes, List.mem_cons, List.not_mem_nil, or_false] at hb
  omega
 have h1 := F1_val hb
 have h2 := F2_val (bs := (bytes x).map (F1 0x55)) fun b q => by
  obtain ⟨a, ha, rfl⟩ := List.mem_map.1 q
  exact (c1 ⟨a, hb a ha⟩).1
 have h3 := F3_val (bs := ((bytes x).map (F1 0x55)).map (F2 0x33)) fun b q => by
  obtain ⟨a', ha', rfl⟩ := List.mem_map.1 q
  obtain ⟨a, ha, rfl⟩ := List.mem_map.1 ha'
  have := c1 ⟨a, hb a ha⟩
  exact ⟨this.2.1, this.2.2.1⟩
 simp only [List.length_map] at h2 h3
 rw [show (bytes x).length = 8 from rfl] at h1 h2 h3
 rw [← m1_64, bytes_val h] at h1
 rw [← m2_64, ← h1] at h2
 rw [← m4_64, ← h2] at h3
 have h4 : (((bytes x).map (F1 0x55)).map (F2 0x33)).map (F3 0x0f) = (bytes x).map (popA 8) := by
  rw [List.map_map, List.map_map]
  exact List.map_congr_left fun a ha => (c1 ⟨a, hb a ha⟩).2.2.2
 rw [h4] at h3
 have h5 := popA_val hb
 rw [show (bytes x).length = 8 from rfl, bytes_val h] at h5
 have p (a : Nat) (ha : a ∈ bytes x) : popA 8 a ≤ 8 := popA_8 ⟨a, hb a ha⟩
 unfold bytes at h3 h5 p
 refine ⟨_, _, _, _, _, _, _, _, p _ (by simp), p _ (by simp), p _ (by simp), p _ (by simp), p _ (by simp), p _ (by simp), p _ (by simp), p _ (by simp), h3, ?_⟩
 rw [show 8 * 8 = 64 from rfl] at h5
 rw [h5]
 rfl
theorem and127 {v : Nat} (h : v < 2 ^ 63) : abits .and .i64 (v : Int) 127 = ((v % 128 : Nat) : Int) := by
 have e : (BitVec.ofInt 64 (v : Int) &&& BitVec.ofInt 64 127).toNat = v % 128 := by
  rw [BitVec.toNat_and, toNat_64 (by omega), show (BitVec.ofInt 64 127).toNat = 2 ^ 7 - 1 from rfl, Nat.and_two_pow_sub_one_eq_mod]
 show IntKind.i64.wrap ((BitVec.ofInt 64 (v : Int) &&& BitVec.ofInt 64 127).toNat : Int) = _
 rw [e]
 exact wrap64 (by omega) (by omega)
theorem swar2 {x : Nat} (h : x < 2 ^ 64) : ∃ r0 r1 r2 r4 : Nat, F3 1085102592571150095 (F2 3689348814741910323 (F1 6148914691236517205 x)) = r0 ∧ r0 / 256 = r1 ∧ (r0 + r1) / 65536 = r2 ∧ (r0 + r1 + r2) / 4294967296 = r4 ∧ (r0 + r1 + r2 + r4) % 128 = popA 64 x ∧ r0 + r1 + r2 + r4 < 2 ^ 63 := by
 obtain ⟨a, b, c, d, e, f, g, k, ha, hb, hc, hd, he, hf, hg, hk, hv, hp⟩ := swar h
 obtain ⟨r7, e7⟩ : ∃ r, r = k := ⟨_, rfl⟩
 obtain ⟨r6, e6⟩ : ∃ r, r = g + 256 * r7 := ⟨_, rfl⟩
 obtain ⟨r5, e5⟩ : ∃ r, r = f + 256 * r6 := ⟨_, rfl⟩
 obtain ⟨r4, e4⟩ : ∃ r, r = e + 256 * r5 := ⟨_, rfl⟩
 obtain ⟨r3, e3⟩ : ∃ r, r = d + 256 * r4 := ⟨_, rfl⟩
 obtain ⟨r2, e2⟩ : ∃ r, r = c + 256 * r3 := ⟨_, rfl⟩
 obtain ⟨r1, e1⟩ : ∃ r, r = b + 256 * r2 := ⟨_, rfl⟩
 obtain ⟨r0, e0⟩ : ∃ r, r = a + 256 * r1 := ⟨_, rfl⟩
 have s8 := sum8 ha hb hc hd he hf hg hk e7 e6 e5 e4 e3 e2 e1 e0
 have hv' : val [a, b, c, d, e, f, g, k] = r0 := by
  simp only [val, Nat.mul_zero, Nat.add_zero]
  rw [← e7, ← e6, ← e5, ← e4, ← e3, ← e2, ← e1, ← e0]
 refine ⟨r0, r1, r2 + r3, r4 + r5 + r6 + r7, hv.trans hv', s8.1, s8.2.1, s8.2.2.1, s8.2.2.2.1.trans hp.symm, s8.2.2.2.2.2.2.2⟩
theorem and_64' {x m : Nat} {M : Int} (hM : M = m) (hx : x < 2 ^ 64) (hm : m < 2 ^ 64) : abits .and .u64 (x : Int) M = ((x &&& m : Nat) : Int) := by
 rw [hM]; exact and_64 hx hm
theorem add_64 {x y : Nat} (h : x + y < 2 ^ 64) : IntKind.u64.wrap ((x : Int) + (y : Int)) = ((x + y : Nat) : Int) := by
 have := wrapN h
 rw [Int.natCast_add] at this ⊢
 exact this
theorem half_and {x m k : Nat} (h : x < 2 ^ 64) (hm : m < 2 ^ 63) : (x / k &&& m) + (x &&& m) < 2 ^ 64 := by
 have h1 := Nat.and_lt_two_pow (x / k) hm
 have h2 := Nat.and_lt_two_pow x hm
 omega
theorem RG76 : (type_of% @c76r0.eq_1) ∧ (type_of% @c76r1.eq_1) ∧ (type_of% @c76r2.eq_1) ∧ (type_of% @c76r3.eq_1) ∧ (type_of% @c76r4.eq_1) ∧ (type_of% @c76r5.eq_1) ∧ (type_of% @c76r6.eq_1) ∧ (type_of% @c76r7.eq_1) := ⟨@c76r0.eq_1, @c76r1.eq_1, @c76r2.eq_1, @c76r3.eq_1, @c76r4.eq_1, @c76r5.eq_1, @c76r6.eq_1, @c76r7.eq_1⟩
theorem pc65 (x : Nat) (h : x < 2 ^ 64) : PC Tryd.prog 76 [.i .u64 (x : Int)] (.i .i64 (popA 64 x : Nat)) := by
 obtain ⟨r0, r1, r2, r4, h3, h4, h5, h6, hp, hb⟩ := swar2 h
 have i1 := shr_64 x 1 (by omega)
 have i2 := and_64' (x := x / 2 ^ 1) (m := 6148914691236517205) (M := 6148914691236517205) (by omega) (by omega) (by omega)
 have i3 := and_64' (x := x) (m := 6148914691236517205) (M := 6148914691236517205) (by omega) (by omega) (by omega)
 have y1 := half_and (k := 2) (m := 6148914691236517205) h (by omega)
 have i4 := add_64 y1
 rw [show (x / 2 &&& 6148914691236517205) + (x &&& 6148914691236517205) = F1 6148914691236517205 x from rfl] at y1 i4
 generalize F1 6148914691236517205 x = f1 at *
 generalize (x &&& 6148914691236517205) = u1 at *
 simp only [Nat.pow_one] at i1 i2
 generalize (x / 2 &&& 6148914691236517205) = u2 at *
 generalize x / 2 = x2 at *
 have j1 := shr_64 f1 2 (by omega)
 have j2 := and_64' (x := f1 / 2 ^ 2) (m := 3689348814741910323) (M := 3689348814741910323) (by omega) (by omega) (by omega)
 have j3 := and_64' (x := f1) (m := 3689348814741910323) (M := 3689348814741910323) (by omega) (by omega) (by omega)
 have y2 := half_and (k := 4) (m := 3689348814741910323) y1 (by omega)
 have y2' : (f1 / 4 &&& 3689348814741910323) + (f1 &&& 3689348814741910323) < 2 ^ 63 := by
  have a1 := Nat.and_lt_two_pow (f1 / 4) (show 3689348814741910323 < 2 ^ 62 by omega)
  have a2 := Nat.and_lt_two_pow f1 (show 3689348814741910323 < 2 ^ 62 by omega)
  omega
 have j4 := add_64 y2
 rw [show (f1 / 4 &&& 3689348814741910323) + (f1 &&& 3689348814741910323) = F2 3689348814741910323 f1 from rfl] at y2 y2' j4
 generalize F2 3689348814741910323 f1 = f2 at *
 generalize (f1 &&& 3689348814741910323) = u3 at *
 simp only [Nat.reducePow] at j1 j2
 generalize (f1 / 4 &&& 3689348814741910323) = u4 at *
 generalize f1 / 4 = x4 at *
 have k1 := shr_64 f2 4 (by omega)
 simp only [Nat.reducePow] at k1
 have k2 := add_64 (x := f2 / 16) (y := f2) (by omega)
 have k3 := and_64' (x := f2 / 16 + f2) (m := 1085102592571150095) (M := 1085102592571150095) (by omega) (by omega) (by omega)
 rw [show (f2 / 16 + f2) &&& 1085102592571150095 = F3 1085102592571150095 f2 from rfl, h3] at k3
 generalize f2 / 16 + f2 = x5 at *
 generalize f2 / 16 = x6 at *
 have l1 := shr_64 r0 8 (by omega)
 have l2 := shr_64 (r0 + r1) 16 (by omega)
 have l3 := shr_64 (r0 + r1 + r2) 32 (by omega)
 simp only [Nat.reducePow, h4, h5, h6] at l1 l2 l3
 have m1 := add_64 (x := r0) (y := r1) (by omega)
 have m2 := add_64 (x := r0 + r1) (y := r2) (by omega)
 have m3 := add_64 (x := r0 + r1 + r2) (y := r4) (by omega)
 have n1 := and127 hb
 have n2 : IntKind.i64.wrap ((r0 + r1 + r2 + r4 : Nat) : Int) = ((r0 + r1 + r2 + r4 : Nat) : Int) := wrap64 (by omega) (by omega)
 rw [hp] at n1
 generalize r0 + r1 + r2 + r4 = v3 at *
 generalize r0 + r1 + r2 = v2 at *
 generalize r0 + r1 = v1 at *
 refine pc_fn fn76 (by simp only [AV.plains, AV.plain, il_plain, bl_plain, Bool.and_true, Bool.true_and, Bool.and_self]) (by simp only [AV.plains, AV.plain, il_plain, bl_plain, Bool.and_true, Bool.true_and, Bool.and_self]) (Nat.le_of_ble_eq_true rfl) ?_
 rw [initSt1]
 repeat' first | (with_reducible first | refine kzq ?_ | refine kzs ?_ | refine kzS ?_ | refine kzR ?_ | refine kzC ?_ | refine kzH ?_ | refine kzB ?_ | refine kzK ?_ | refine kzE ?_ | refine kzg ?_) | with_reducible refine r_done ?_ | with_reducible refine s_go (by simp (disch := omega) only [i1, i2, i3, i4, j1, j2, j3, j4, k1, k2, k3, l1, l2, l3, m1, m2, m3, n1, n2, RG76, EVA, plug, eq_self, simprocAttr]; with_reducible rfl) ?_ | ((with_reducible refine kzr ?_); refine zrF ?_) | (with_reducible refine zkP (fun ht => ?_) (fun ht => ?_) <;> try first | exact False.elim ht | exact absurd rfl ht | exact absurd trivial ht | exact Bool.noConfusion ht) | (with_reducible (refine k_ret ?_; repeat first | refine kzt ?_ | refine kzb ?_ | refine fin ?_)) | (with_reducible (refine kzx ?_; repeat first | refine thru ?_ | refine kzo ?_ | refine pass (by decide) ?_)) | ((first | refine post1 ?_ | refine post2 ?_ | refine post3 ?_); simp only [GA, simprocAttr]) | refine post0 ?_
 all_goals first | exact ends_of | exact ends_eq rfl
theorem pc49 (x : Nat) (h : x < 2 ^ 64) : PC Tryd.prog 52 [.i .u64 (x : Int)] (.i .i64 (popA 64 x : Nat)) := by
 refine pc_fn fn52 (by simp only [AV.plains, AV.plain, il_plain, bl_plain, Bool.and_true, Bool.true_and, Bool.and_self]) (by simp only [AV.plains, AV.plain, il_plain, bl_plain, Bool.and_true, Bool.true_and, Bool.and_self]) (Nat.le_of_ble_eq_true rfl) ?_
 rw [initSt1]
 repeat' first | (with_reducible first | refine kzq ?_ | refine kzs ?_ | refine kzS ?_ | refine kzR ?_ | refine kzC ?_ | refine kzH ?_ | refine kzB ?_ | refine kzK ?_ | refine kzE ?_ | refine kzg ?_) | with_reducible refine r_done ?_ | with_reducible refine s_go (by simp (disch := omega) only [c52r0, c52r1, EVA, plug, eq_self, simprocAttr]; with_reducible rfl) ?_ | ((with_reducible refine kzr ?_); refine zrF ?_) | ((with_reducible refine kzr ?_); refine zrP (c := by first | exact pc65 x h _) (k := ?_)) | (with_reducible refine zkP (fun ht => ?_) (fun ht => ?_) <;> try first | exact False.elim ht | exact absurd rfl ht | exact absurd trivial ht | exact Bool.noConfusion ht) | (with_reducible (refine k_ret ?_; repeat first | refine kzt ?_ | refine kzb ?_ | refine fin ?_)) | (with_reducible (refine kzx ?_; repeat first | refine thru ?_ | refine kzo ?_ | refine pass (by decide) ?_)) | ((first | refine post1 ?_ | refine post2 ?_ | refine post3 ?_); simp only [GA, simprocAttr]) | refine post0 ?_
 all_goals first | exact ends_of | exact ends_eq rfl
end Go.Proofs.YtjaihaccehaicaaDoor
set_option linter.unusedVariables false
set_option linter.unusedSimpArgs false
namespace Go.Proofs.YtjaihaccehaicaaDoor
open Go Go.Am Go.Proofs
theorem popA_zero : ∀ m, popA m 0 = 0
 | 0 => rfl
 | m + 1 => by rw [popA, Nat.zero_div, popA_zero m]
theorem pop_all : ∀ {m n x : Nat}, n ≤ m → x < 2 ^ n → popA m x ≤ n ∧ (popA m x = n ↔ ∀ i, i < n → x.testBit i = true)
 | m, 0, x, _, hx => by
   have : x = 0 := by simpa using hx
   subst this
   rw [popA_zero]
   exact ⟨Nat.le_refl _, fun _ i hi => by omega, fun _ => rfl⟩
 | m + 1, n + 1, x, h, hx => by
   have ih := pop_all (m := m) (n := n) (x := x / 2) (by omega) (by rw [Nat.pow_succ] at hx; omega)
   have b : x % 2 < 2 := Nat.mod_lt _ (by omega)
   rw [popA]
   refine ⟨by omega, fun q i hi => ?_, fun q => ?_⟩
   ·cases i with
    | zero => rw [Nat.testBit_zero]; exact decide_eq_true (by omega)
    | succ i => rw [Nat.testBit_succ]; exact ih.2.1 (by omega) i (by omega)
   ·have h0 := q 0 (by omega)
    rw [Nat.testBit_zero, decide_eq_true_eq] at h0
    have := ih.2.2 fun i hi => by have := q (i + 1) (by omega); rwa [Nat.testBit_succ] at this
    omega
theorem pop_one : ∀ {m x : Nat}, 0 < popA m x ↔ ∃ i, i < m ∧ x.testBit i = true
 | 0, x => by simp [popA]
 | m + 1, x => by
   have ih := pop_one (m := m) (x := x / 2)
   rw [popA]
   constructor
   ·intro h
    by_cases c : x % 2 = 1
    ·exact ⟨0, by omega, by rw [Nat.testBit_zero]; exact decide_eq_true c⟩
    ·obtain ⟨i, hi, q⟩ := ih.1 (by omega)
     exact ⟨i + 1, by omega, by rw [Nat.testBit_succ]; exact q⟩
   ·rintro ⟨i, hi, q⟩
    cases i with
    | zero => rw [Nat.testBit_zero, decide_eq_true_eq] at q; omega
    | succ i =>
      rw [Nat.testBit_succ] at q
      have := ih.2 ⟨i, by omega, q⟩
      omega
theorem pop_two : ∀ {m x : Nat}, 1 < popA m x ↔ ∃ i j, i < j ∧ j < m ∧ x.testBit i = true ∧ x.testBit j = true
 | 0, x => by simp [popA]
 | m + 1, x => by
   have ih := pop_two (m := m) (x := x / 2)
   have b : x % 2 < 2 := Nat.mod_lt _ (by omega)
   rw [popA]
   constructor
   ·intro h
    by_cases c : x % 2 = 1
    ·obtain ⟨i, hi, q⟩ := pop_one.1 (show 0 < popA m (x / 2) by omega)
     exact ⟨0, i + 1, by omega, by omega, by rw [Nat.testBit_zero]; exact decide_eq_true c, by rw [Nat.testBit_succ]; exact q⟩
    ·obtain ⟨i, j, h1, h2, q1, q2⟩ := ih.1 (by omega)
     exact ⟨i + 1, j + 1, by omega, by omega, by rw [Nat.testBit_succ]; exact q1, by rw [Nat.testBit_succ]; exact q2⟩
   ·rintro ⟨i, j, h1, h2, q1, q2⟩
    cases j with
    | zero => omega
    | succ j =>
      rw [Nat.testBit_succ] at q2
      cases i with
      | zero =>
        rw [Nat.testBit_zero, decide_eq_true_eq] at q1
        have := (pop_one (m := m) (x := x / 2)).2 ⟨j, by omega, q2⟩
        omega
      | succ i =>
        rw [Nat.testBit_succ] at q1
        have t := ih.2 ⟨i, j, Nat.lt_of_succ_lt_succ h1, Nat.lt_of_succ_lt_succ h2, q1, q2⟩
        omega
def sv (p : Nat → Bool) : Nat → Nat
 | 0 => 0
 | k + 1 => if p k then sv p k ||| 2 ^ k else sv p k
theorem sv_bit {p : Nat → Bool} : ∀ {k i : Nat}, (sv p k).testBit i = (decide (i < k) && p i)
 | 0, i => by simp [sv]
 | k + 1, i => by
   have ih := sv_bit (p := p) (k := k) (i := i)
   unfold sv
   by_cases e : i = k
   ·subst e
    cases c : p i with
    | true => simp [Nat.testBit_or, Nat.testBit_two_pow]
    | false => simp [ih]
   ·have e1 : decide (i < k + 1) = decide (i < k) := by rw [Bool.eq_iff_iff]; simp; omega
    have e2 : ¬ k = i := fun q => e q.symm
    split <;> simp [Nat.testBit_or, Nat.testBit_two_pow, ih, e1, e2]
theorem sv_lt {p : Nat → Bool} {k : Nat} : sv p k < 2 ^ k := Nat.lt_pow_two_of_testBit _ fun i hi => by
 rw [sv_bit, decide_eq_false (by omega), Bool.false_and]
theorem lt_64 {x k : Nat} (h : x < 2 ^ k) (hk : k ≤ 40) : x < 2 ^ 64 := Nat.lt_of_lt_of_le h (Nat.pow_le_pow_right (by omega) (by omega))
theorem pow_64 {k : Nat} (hk : k < 40) : 2 ^ k < 2 ^ 64 := Nat.pow_lt_pow_right (by omega) (by omega)
def nu (l : List Nat) : List AV := l.map fun x : Nat => .i .u64 (x : Int)
theorem nu_len (l : List Nat) : (nu l).length = l.length := by simp [nu]
theorem nu_get {l : List Nat} {j : Nat} (h : j < l.length) : (nu l)[j]? = some (.i .u64 ((l.getD j 0 : Nat) : Int)) := by simp [nu, h]
theorem nu_set (l : List Nat) (j : Nat) (x : Nat) : (nu l).set j (.i .u64 (x : Int)) = nu (l.set j x) := by simp [nu]
theorem nu_rep (n : Nat) : (List.replicate n [AV.i .u64 0]).flatten = nu (List.replicate n 0) := by
 induction n with
 | zero => rfl
 | succ n ih => rw [List.replicate_succ, List.flatten_cons, ih, List.replicate_succ]; rfl
theorem nu_plain (l : List Nat) : AV.plains (nu l) = true := plains_all fun x hx => by
 simp only [nu, List.mem_map] at hx
 obtain ⟨n, _, rfl⟩ := hx
 rfl
def fitB (s : Sz) (x : Hd) : Bool := decide (((fau s x).length : Int) = 0)
def fitS (m : List Hd) (s : Sz) : Nat := sv (fun k => fitB s (hD m k)) m.length
def fitL (l : List Sz) (m : List Hd) : List Nat := l.map (fitS m)
theorem getD_setN {us : List Nat} {i j v : Nat} (hi : i < us.length) : (us.set i v).getD j 0 = if j = i then v else us.getD j 0 := by
 by_cases e : j = i
 ·subst e; simp [List.getD_eq_getElem?_getD, hi]
 ·have : ¬ i = j := fun q => e q.symm
  simp [List.getD_eq_getElem?_getD, List.getElem?_set, this, e]
theorem RG41 : (type_of% @c41r0.eq_1) ∧ (type_of% @c41r1.eq_1) ∧ (type_of% @c41r2.eq_1) ∧ (type_of% @c41r3.eq_1) ∧ (type_of% @c41r4.eq_1) ∧ (type_of% @c41r5.eq_1) ∧ (type_of% @c41r6.eq_1) ∧ (type_of% @c41r7.eq_1) ∧ (type_of% @c41r8.eq_1) ∧ (type_of% @c41r9.eq_1) ∧ (type_of% @c41r10.eq_1) ∧ (type_of% @c41r12.eq_1) ∧ (type_of% @c41r14.eq_1) := ⟨@c41r0.eq_1, @c41r1.eq_1, @c41r2.eq_1, @c41r3.eq_1, @c41r4.eq_1, @c41r5.eq_1, @c41r6.eq_1, @c41r7.eq_1, @c41r8.eq_1, @c41r9.eq_1, @c41r10.eq_1, @c41r12.eq_1, @c41r14.eq_1⟩
set_option maxHeartbeats 1000000 in
theorem pc48 (l : List Sz) (m : List Hd) (hl : szsOk l = true) (hm : hdsOk m = true) : PC Tryd.prog 41 [vZ l, vH m] (.vs l.length (nu (fitL l m))) := by
 have L := szsOk_iff.1 hl
 have M := hdsOk_iff.1 hm
 refine pc_fn fn41 (by simp only [AV.plains, AV.plain, il_plain, bl_plain, Bool.and_true, Bool.true_and, Bool.and_self, fleZ_plain, fleH_plain, nu_plain]) (by simp only [AV.plains, AV.plain, il_plain, bl_plain, Bool.and_true, Bool.true_and, Bool.and_self, fleZ_plain, fleH_plain, nu_plain]) (Nat.le_of_ble_eq_true rfl) ?_
 rw [initSt2]
 repeat' first | (with_reducible first | refine kzq ?_ | refine kzs ?_ | refine kzS ?_ | refine kzR ?_ | refine kzC ?_ | refine kzH ?_ | refine kzB ?_ | refine kzK ?_ | refine kzE ?_ | refine kzg ?_) | with_reducible refine k_head (by with_unfolding_all rfl) ?_ | with_reducible refine k_headS ?_ | (with_reducible refine SepK.mk ?_ ?_; (refine sepQ_P ?_; simp [sepQ, sepG, AOp.late, AOp.free, AOp.xs, AOp.isAl, tokNe, AV.tok, stS_get, strip, AX.val, RG41, GA]; try omega)) | with_reducible refine r_done ?_ | with_reducible refine hr_done ?_ | with_reducible refine s_go (by simp (disch := omega) only [RG41, EVA, plug, eq_self, simprocAttr]; with_reducible rfl) ?_ | with_reducible refine h_go (by with_unfolding_all rfl) (by simp (disch := omega) only [RG41, EVA, plug, eq_self, simprocAttr]; with_reducible rfl) ?_ | ((with_reducible refine kzr ?_); refine zrF ?_) | ((with_reducible refine kzh ?_); refine zhF ?_) | ((with_reducible refine kzh ?_); refine hr_app (by simp (disch := omega) only [RG41, EVA, plug, eq_self, simprocAttr]; with_reducible rfl) rfl ?_) | (with_reducible refine zkP (fun ht => ?_) (fun ht => ?_) <;> try first | exact False.elim ht | exact absurd rfl ht | exact absurd trivial ht | exact Bool.noConfusion ht) | (with_reducible (refine k_ret ?_; repeat first | refine kzt ?_ | refine kzb ?_ | refine fin ?_)) | (with_reducible (refine kzx ?_; repeat first | refine thru ?_ | refine kzo ?_ | refine pass (by decide) ?_)) | ((first | refine post1 ?_ | refine post2 ?_ | refine post3 ?_); simp only [GA, simprocAttr]) | refine post0 ?_
 refine k_blk (k_loopS (X := Nat × List Nat) [1, 5, 13, 14, 15] l.length (fun k x => [(1, vH m), (5, .sl x.1 0 l.length 1), (13, vZ l), (14, .i .i64 l.length), (15, .i .i64 (k : Int))])
  (fun k x h => x.1 ≠ 0 ∧ h.m x.1 = some (.cells true (nu x.2)) ∧ x.2.length = l.length ∧ ∀ i, i < l.length → x.2.getD i 0 = if i < k then fitS m (zD l i) else 0) (_, List.replicate l.length 0) (by simp only [Am.keep, ZK, simprocAttr]; try rfl) ⟨?_, by simp (disch := omega) only [nu_rep, RG41, EVA, plug, eq_self, simprocAttr] <;> rfl, by simp, fun i hi => by simp [hi]⟩ ?_)
 ·simp only [AH.bump_nx]; omega
 rintro k ⟨x, us⟩ h hk ⟨hx, hmx, hu, hf⟩ ok pos
 simp only at hx hmx hu hf ⊢
 have lx := ok.m hmx
 by_cases klt : k < l.length
 ·have klt' : (k : Int) < l.length := by omega
  have rT := rdZ klt
  have hs := L.2.1 k klt
  have f0 := hf k klt
  rw [if_neg (by omega)] at f0
  repeat' first | (with_reducible first | refine kzq ?_ | refine kzs ?_ | refine kzS ?_ | refine kzR ?_ | refine kzC ?_ | refine kzH ?_ | refine kzB ?_ | refine kzK ?_ | refine kzE ?_ | refine kzg ?_) | with_reducible refine k_head (by with_unfolding_all rfl) ?_ | with_reducible refine k_headS ?_ | (with_reducible refine SepK.mk ?_ ?_; (refine sepQ_P ?_; simp [sepQ, sepG, AOp.late, AOp.free, AOp.xs, AOp.isAl, tokNe, AV.tok, stS_get, strip, AX.val, RG41, GA]; try omega)) | with_reducible refine r_done ?_ | with_reducible refine hr_done ?_ | with_reducible refine s_go (by simp (disch := omega) only [klt', rT, RG41, EVA, plug, eq_self, simprocAttr]; with_reducible rfl) ?_ | with_reducible refine h_go (by with_unfolding_all rfl) (by simp (disch := omega) only [klt', rT, RG41, EVA, plug, eq_self, simprocAttr]; with_reducible rfl) ?_ | ((with_reducible refine kzr ?_); refine zrF ?_) | ((with_reducible refine kzh ?_); refine zhF ?_) | ((with_reducible refine kzh ?_); refine hr_app (by simp (disch := omega) only [klt', rT, RG41, EVA, plug, eq_self, simprocAttr]; with_reducible rfl) rfl ?_) | (with_reducible refine zkP (fun ht => ?_) (fun ht => ?_) <;> try first | exact False.elim ht | exact absurd rfl ht | exact absurd trivial ht | exact Bool.noConfusion ht) | (with_reducible (refine k_ret ?_; repeat first | refine kzt ?_ | refine kzb ?_ | refine fin ?_)) | (with_reducible (refine kzx ?_; repeat first | refine thru ?_ | refine kzo ?_ | refine pass (by decide) ?_)) | ((first | refine post1 ?_ | refine post2 ?_ | refine post3 ?_); simp only [GA, simprocAttr]) | refine post0 ?_
  refine k_blk (k_loopS (X := List Nat) [1, 5, 6, 7, 13, 14, 15, 20, 21, 22] m.length (fun j _ => [(1, vH m), (5, .sl x 0 l.length 1), (6, .i .i64 (k : Int)), (7, .p (h.nx + 1 + 3) 0), (13, vZ l), (14, .i .i64 l.length), (15, .i .i64 (k : Int)), (20, vH m), (21, .i .i64 m.length), (22, .i .i64 (j : Int))])
   (fun j vs h' => h'.m x = some (.cells true (nu vs)) ∧ h'.m (h.nx + 1 + 3) = some (.cells true (eZ (zD l k))) ∧ vs.length = l.length ∧ ∀ i, i < l.length → vs.getD i 0 = if i = k then sv (fun i => fitB (zD l k) (hD m i)) j else us.getD i 0) us (by simp only [Am.keep, ZK, simprocAttr]; try rfl) ⟨by simp (disch := omega) only [hmx, RG41, EVA, plug, eq_self, simprocAttr], by simp (disch := omega) only [RG41, EVA, plug, eq_self, simprocAttr] <;> rfl, hu, fun i hi => by
    by_cases e : i = k
    ·subst e; rw [if_pos rfl, f0]; rfl
    ·rw [if_neg e]⟩ ?_)
  rintro j vs h' hj ⟨hmx', hm7, hv, hg⟩ ok' pos'
  have lx' := ok'.m hmx'
  have l7 := ok'.m hm7
  have x7 : x ≠ h.nx + 1 + 3 := by omega
  have x7' : ¬ h.nx + 1 + 3 = x := by omega
  by_cases jlt : j < m.length
  ·have jlt' : (j : Int) < m.length := by omega
   have rJ := rdH jlt
   have q45 := pc45 (zD l k) (hD m j) hs (M.2.1 j jlt)
   have gk := hg k klt
   rw [if_pos rfl] at gk
   have b1 : sv (fun i => fitB (zD l k) (hD m i)) j < 2 ^ 64 := lt_64 sv_lt (by omega)
   have sh := shl_64 (k := j) (by omega)
   have or1 := or_64 b1 (pow_64 (k := j) (by omega))
   have g2 := nu_get (l := vs) (j := k) (by omega)
   rw [gk] at g2
   by_cases c : ((fau (zD l k) (hD m j)).length : Int) = 0
   ·have c' := eq_true c
    have es : sv (fun i => fitB (zD l k) (hD m i)) (j + 1) = sv (fun i => fitB (zD l k) (hD m i)) j ||| 2 ^ j := if_pos (decide_eq_true c)
    rw [← es] at or1
    have st := nu_set vs k (sv (fun i => fitB (zD l k) (hD m i)) (j + 1))
    generalize hA : sv (fun i => fitB (zD l k) (hD m i)) j = A at *
    generalize hB : sv (fun i => fitB (zD l k) (hD m i)) (j + 1) = B at *
    repeat' first | (with_reducible first | refine kzq ?_ | refine kzs ?_ | refine kzS ?_ | refine kzR ?_ | refine kzC ?_ | refine kzH ?_ | refine kzB ?_ | refine kzK ?_ | refine kzE ?_ | refine kzg ?_) | with_reducible refine k_head (by with_unfolding_all rfl) ?_ | with_reducible refine k_headS ?_ | (with_reducible refine SepK.mk ?_ ?_; (refine sepQ_P ?_; simp [sepQ, sepG, AOp.late, AOp.free, AOp.xs, AOp.isAl, tokNe, AV.tok, stS_get, strip, AX.val, RG41, GA]; try omega)) | with_reducible refine r_done ?_ | with_reducible refine hr_done ?_ | with_reducible refine s_go (by simp (disch := omega) only [jlt', rJ, eZ_rd, eH_rd, c', hm7, row_m hm7, read_row (row_m hm7), hmx', row_m hmx', read_row (row_m hmx'), x7, x7', g2, sh, or1, st, nu_len, hv, RG41, EVA, plug, eq_self, simprocAttr]; with_reducible rfl) ?_ | with_reducible refine h_go (by with_unfolding_all rfl) (by simp (disch := omega) only [jlt', rJ, eZ_rd, eH_rd, c', hm7, row_m hm7, read_row (row_m hm7), hmx', row_m hmx', read_row (row_m hmx'), x7, x7', g2, sh, or1, st, nu_len, hv, RG41, EVA, plug, eq_self, simprocAttr]; with_reducible rfl) ?_ | ((with_reducible refine kzr ?_); refine zrF ?_) | ((with_reducible refine kzh ?_); refine zhF ?_) | ((with_reducible refine kzr ?_); refine zrP (c := by first | exact q45 _) (k := ?_)) | ((with_reducible refine kzh ?_); refine zhP (c := by first | exact q45 _) (k := ?_)) | ((with_reducible refine kzh ?_); refine zhQ (c := by first | exact q45 _) (k := ?_)) | ((with_reducible refine kzh ?_); refine hr_app (by simp (disch := omega) only [jlt', rJ, eZ_rd, eH_rd, c', hm7, row_m hm7, read_row (row_m hm7), hmx', row_m hmx', read_row (row_m hmx'), x7, x7', g2, sh, or1, st, nu_len, hv, RG41, EVA, plug, eq_self, simprocAttr]; with_reducible rfl) rfl ?_) | (with_reducible refine zkP (fun ht => ?_) (fun ht => ?_) <;> try first | exact False.elim ht | exact absurd rfl ht | exact absurd trivial ht | exact Bool.noConfusion ht) | (with_reducible (refine k_ret ?_; repeat first | refine kzt ?_ | refine kzb ?_ | refine fin ?_)) | (with_reducible (refine kzx ?_; repeat first | refine thru ?_ | refine kzo ?_ | refine pass (by decide) ?_)) | ((first | refine post1 ?_ | refine post2 ?_ | refine post3 ?_); simp only [GA, simprocAttr]) | refine post0 ?_
    refine ⟨jlt, vs.set k B, (by simp only [Am.keep, ZK, simprocAttr]; try rfl), by simp (disch := omega) only [st, RG41, EVA, plug, eq_self, simprocAttr], by simp (disch := omega) only [hm7, x7', RG41, EVA, plug, eq_self, simprocAttr], by rw [List.length_set]; exact hv, fun i hi => ?_⟩
    rw [getD_setN (by omega), hg i hi]
    by_cases e : i = k
    ·rw [if_pos e, if_pos e]
    ·rw [if_neg e, if_neg e, if_neg e]
   ·have c' := eq_false c
    have es : sv (fun i => fitB (zD l k) (hD m i)) (j + 1) = sv (fun i => fitB (zD l k) (hD m i)) j := if_neg (by show ¬ decide _ = true; rw [decide_eq_false c]; simp)
    repeat' first | (with_reducible first | refine kzq ?_ | refine kzs ?_ | refine kzS ?_ | refine kzR ?_ | refine kzC ?_ | refine kzH ?_ | refine kzB ?_ | refine kzK ?_ | refine kzE ?_ | refine kzg ?_) | with_reducible refine k_head (by with_unfolding_all rfl) ?_ | with_reducible refine k_headS ?_ | (with_reducible refine SepK.mk ?_ ?_; (refine sepQ_P ?_; simp [sepQ, sepG, AOp.late, AOp.free, AOp.xs, AOp.isAl, tokNe, AV.tok, stS_get, strip, AX.val, RG41, GA]; try omega)) | with_reducible refine r_done ?_ | with_reducible refine hr_done ?_ | with_reducible refine s_go (by simp (disch := omega) only [jlt', rJ, eZ_rd, eH_rd, c', hm7, row_m hm7, read_row (row_m hm7), hmx', row_m hmx', read_row (row_m hmx'), x7, x7', RG41, EVA, plug, eq_self, simprocAttr]; with_reducible rfl) ?_ | with_reducible refine h_go (by with_unfolding_all rfl) (by simp (disch := omega) only [jlt', rJ, eZ_rd, eH_rd, c', hm7, row_m hm7, read_row (row_m hm7), hmx', row_m hmx', read_row (row_m hmx'), x7, x7', RG41, EVA, plug, eq_self, simprocAttr]; with_reducible rfl) ?_ | ((with_reducible refine kzr ?_); refine zrF ?_) | ((with_reducible refine kzh ?_); refine zhF ?_) | ((with_reducible refine kzr ?_); refine zrP (c := by first | exact q45 _) (k := ?_)) | ((with_reducible refine kzh ?_); refine zhP (c := by first | exact q45 _) (k := ?_)) | ((with_reducible refine kzh ?_); refine zhQ (c := by first | exact q45 _) (k := ?_)) | ((with_reducible refine kzh ?_); refine hr_app (by simp (disch := omega) only [jlt', rJ, eZ_rd, eH_rd, c', hm7, row_m hm7, read_row (row_m hm7), hmx', row_m hmx', read_row (row_m hmx'), x7, x7', RG41, EVA, plug, eq_self, simprocAttr]; with_reducible rfl) rfl ?_) | (with_reducible refine zkP (fun ht => ?_) (fun ht => ?_) <;> try first | exact False.elim ht | exact absurd rfl ht | exact absurd trivial ht | exact Bool.noConfusion ht) | (with_reducible (refine k_ret ?_; repeat first | refine kzt ?_ | refine kzb ?_ | refine fin ?_)) | (with_reducible (refine kzx ?_; repeat first | refine thru ?_ | refine kzo ?_ | refine pass (by decide) ?_)) | ((first | refine post1 ?_ | refine post2 ?_ | refine post3 ?_); simp only [GA, simprocAttr]) | refine post0 ?_
    refine ⟨jlt, vs, (by simp only [Am.keep, ZK, simprocAttr]; try rfl), by simp (disch := omega) only [hmx', RG41, EVA, plug, eq_self, simprocAttr], by simp (disch := omega) only [hm7, RG41, EVA, plug, eq_self, simprocAttr], hv, ?_⟩
    rw [es]
    exact hg
  ·obtain rfl : j = m.length := by omega
   have jlt' : ¬ (m.length : Int) < m.length := by omega
   repeat' first | (with_reducible first | refine kzq ?_ | refine kzs ?_ | refine kzS ?_ | refine kzR ?_ | refine kzC ?_ | refine kzH ?_ | refine kzB ?_ | refine kzK ?_ | refine kzE ?_ | refine kzg ?_) | with_reducible refine k_head (by with_unfolding_all rfl) ?_ | with_reducible refine k_headS ?_ | (with_reducible refine SepK.mk ?_ ?_; (refine sepQ_P ?_; simp [sepQ, sepG, AOp.late, AOp.free, AOp.xs, AOp.isAl, tokNe, AV.tok, stS_get, strip, AX.val, RG41, GA]; try omega)) | with_reducible refine r_done ?_ | with_reducible refine hr_done ?_ | with_reducible refine s_go (by simp (disch := omega) only [jlt', RG41, EVA, plug, eq_self, simprocAttr]; with_reducible rfl) ?_ | with_reducible refine h_go (by with_unfolding_all rfl) (by simp (disch := omega) only [jlt', RG41, EVA, plug, eq_self, simprocAttr]; with_reducible rfl) ?_ | ((with_reducible refine kzr ?_); refine zrF ?_) | ((with_reducible refine kzh ?_); refine zhF ?_) | ((with_reducible refine kzh ?_); refine hr_app (by simp (disch := omega) only [jlt', RG41, EVA, plug, eq_self, simprocAttr]; with_reducible rfl) rfl ?_) | (with_reducible refine zkP (fun ht => ?_) (fun ht => ?_) <;> try first | exact False.elim ht | exact absurd rfl ht | exact absurd trivial ht | exact Bool.noConfusion ht) | (with_reducible (refine k_ret ?_; repeat first | refine kzt ?_ | refine kzb ?_ | refine fin ?_)) | (with_reducible (refine kzx ?_; repeat first | refine thru ?_ | refine kzo ?_ | refine pass (by decide) ?_)) | ((first | refine post1 ?_ | refine post2 ?_ | refine post3 ?_); simp only [GA, simprocAttr]) | refine post0 ?_
   refine ⟨klt, (x, vs), (by simp only [Am.keep, ZK, simprocAttr]; try rfl), hx, by simp (disch := omega) only [hmx', RG41, EVA, plug, eq_self, simprocAttr], hv, fun i hi => ?_⟩
   rw [hg i hi]
   by_cases e : i = k
   ·subst e
    rw [if_pos rfl, if_pos (by omega)]
    rfl
   ·rw [if_neg e, hf i hi]
    by_cases e2 : i < k
    ·rw [if_pos e2, if_pos (by omega)]
    ·rw [if_neg e2, if_neg (by omega)]
 ·obtain rfl : k = l.length := by omega
  have klt' : ¬ (l.length : Int) < l.length := by omega
  have e : us = fitL l m := by
   refine List.ext_getElem (by rw [hu]; simp [fitL]) fun i h1 h2 => ?_
   have := hf i (by omega)
   rw [if_pos (by omega), List.getD_eq_getElem?_getD, List.getElem?_eq_getElem h1] at this
   simp only [Option.getD_some] at this
   rw [this]
   simp only [fitL, List.getElem_map, zD]
   rw [List.getD_eq_getElem?_getD, List.getElem?_eq_getElem (by omega)]
   rfl
  subst e
  repeat' first | (with_reducible first | refine kzq ?_ | refine kzs ?_ | refine kzS ?_ | refine kzR ?_ | refine kzC ?_ | refine kzH ?_ | refine kzB ?_ | refine kzK ?_ | refine kzE ?_ | refine kzg ?_) | with_reducible refine k_head (by with_unfolding_all rfl) ?_ | with_reducible refine k_headS ?_ | (with_reducible refine SepK.mk ?_ ?_; (refine sepQ_P ?_; simp [sepQ, sepG, AOp.late, AOp.free, AOp.xs, AOp.isAl, tokNe, AV.tok, stS_get, strip, AX.val, RG41, GA]; try omega)) | with_reducible refine r_done ?_ | with_reducible refine hr_done ?_ | with_reducible refine s_go (by simp (disch := omega) only [klt', RG41, EVA, plug, eq_self, simprocAttr]; with_reducible rfl) ?_ | with_reducible refine h_go (by with_unfolding_all rfl) (by simp (disch := omega) only [klt', RG41, EVA, plug, eq_self, simprocAttr]; with_reducible rfl) ?_ | ((with_reducible refine kzr ?_); refine zrF ?_) | ((with_reducible refine kzh ?_); refine zhF ?_) | ((with_reducible refine kzh ?_); refine hr_app (by simp (disch := omega) only [klt', RG41, EVA, plug, eq_self, simprocAttr]; with_reducible rfl) rfl ?_) | (with_reducible refine zkP (fun ht => ?_) (fun ht => ?_) <;> try first | exact False.elim ht | exact absurd rfl ht | exact absurd trivial ht | exact Bool.noConfusion ht) | (with_reducible (refine k_ret ?_; repeat first | refine kzt ?_ | refine kzb ?_ | refine fin ?_)) | (with_reducible (refine kzx ?_; repeat first | refine thru ?_ | refine kzo ?_ | refine pass (by decide) ?_)) | ((first | refine post1 ?_ | refine post2 ?_ | refine post3 ?_); simp only [GA, simprocAttr]) | refine post0 ?_
  exact ends_sl (k := 1) hmx (by rw [nu_len, hu, Nat.mul_one])
end Go.Proofs.YtjaihaccehaicaaDoor
set_option linter.unusedVariables false
set_option linter.unusedSimpArgs false
namespace Go.Proofs.YtjaihaccehaicaaDoor
open Go Go.Am Go.Proofs
def lastZ (o : List Int) : Int := o.getD (o.length - 1) 0
theorem lastZ_snoc (o : List Int) (x : Int) : lastZ (o ++ [x]) = x := by
 simp [lastZ, List.getD_eq_getElem?_getD]
def opS (o : List Int) (v : Int) : Prop := o.length = 0 ∨ v < lastZ o
instance (o : List Int) (v : Int) : Decidable (opS o v) := inferInstanceAs (Decidable (_ ∨ _))
theorem stabF_no {w : Int} {o : List Int} {v : Int} (h : ¬ opS o v) : stabF w o v = o := if_neg h
theorem stabF_yes {w : Int} {o : List Int} {v : Int} (h : opS o v) : stabF w o v = o ++ [v - w] := if_pos h
def sprF (w : Int) (o : List Int) (v : Int) : List Int := if o.length = 0 ∨ lastZ o + w < v then o ++ [v] else o
def opP (w : Int) (o : List Int) (v : Int) : Prop := o.length = 0 ∨ lastZ o + w < v
instance (w : Int) (o : List Int) (v : Int) : Decidable (opP w o v) := inferInstanceAs (Decidable (_ ∨ _))
theorem sprF_no {w : Int} {o : List Int} {v : Int} (h : ¬ opP w o v) : sprF w o v = o := if_neg h
theorem sprF_yes {w : Int} {o : List Int} {v : Int} (h : opP w o v) : sprF w o v = o ++ [v] := if_pos h
theorem srtZ_asc (l : List Int) : (srtZ l).Pairwise fun x y => x ≤ y := by
 have := List.pairwise_mergeSort (le := fun x y : Int => decide (x ≤ y)) (fun a b c h1 h2 => by simp only [decide_eq_true_eq] at *; omega) (fun a b => by simp only [Bool.or_eq_true, decide_eq_true_eq]; omega) l
 exact this.imp fun h => by simpa using h
theorem srtZ_mem {l : List Int} {v : Int} : v ∈ srtZ l ↔ v ∈ l := (List.mergeSort_perm l _).mem_iff
end Go.Proofs.YtjaihaccehaicaaDoor
