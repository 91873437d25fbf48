/- What the proof of the law needs: the abstract machine, the functions as it reads them, their contracts, part 7. -/
import Derived.Test.YtjaihaccehaicaaDoorZf
set_option linter.unusedVariables false
set_option linter.unusedSimpArgs false
namespace Go.Proofs.YtjaihaccehaicaaDoor
open Go Go.Am Go.Proofs
theorem anyZ_at {p : Int → Bool} {l : List Int} : anyZ p l = true ↔ ∃ j, j < l.length ∧ p (l.getD j 0) = true := by
 unfold anyZ
 rw [decide_eq_true_eq, fi_ge]
theorem farZ_no {x : Int} (h : farZ x = false) : -1000000 ≤ x ∧ x ≤ 1000000 := by
 simp only [farZ, Bool.not_eq_false', Bool.and_eq_true, decide_eq_true_eq] at h
 exact h
theorem farZ_yes {x : Int} (h : farZ x = true) : x < -1000000 ∨ 1000000 < x := by
 simp only [farZ, Bool.not_eq_true', Bool.and_eq_false_iff, decide_eq_false_iff_not] at h
 omega
def sprL (l : List Int) (w : Int) (k : Nat) : List Int := ((srtZ l).take k).foldl (sprF w) []
def sprR (l : List Int) (w : Int) : List Int × Int := if (valR l w).2 ≠ 0 then ([], (valR l w).2) else (sprL l w l.length, 0)
theorem sprL_succ {l : List Int} {w : Int} {k : Nat} (h : k < l.length) : sprL l w (k + 1) = sprF w (sprL l w k) ((srtZ l).getD k 0) := by
 unfold sprL
 have hk : k < (srtZ l).length := by rw [srtZ_len]; exact h
 rw [List.take_add_one, List.getElem?_eq_getElem hk, Option.toList_some, List.foldl_append, List.getD_eq_getElem?_getD, List.getElem?_eq_getElem hk]
 rfl
theorem sprL_mem (l : List Int) (w : Int) : ∀ k, k ≤ l.length → (sprL l w k).length ≤ k ∧ ∀ v ∈ sprL l w k, v ∈ l
 | 0, _ => ⟨by simp [sprL], fun v hv => by simp [sprL] at hv⟩
 | k + 1, h => by
   have ih := sprL_mem l w k (by omega)
   rw [sprL_succ (by omega)]
   have hk : k < (srtZ l).length := by rw [srtZ_len]; omega
   unfold sprF
   split
   ·refine ⟨by rw [List.length_append, List.length_singleton]; omega, fun v hv => ?_⟩
    rcases List.mem_append.1 hv with q | q
    ·exact ih.2 v q
    ·rw [List.mem_singleton.1 q, List.getD_eq_getElem?_getD, List.getElem?_eq_getElem hk]
     exact srtZ_mem.1 (List.getElem_mem hk)
   ·exact ⟨by omega, ih.2⟩
theorem val_ok {l : List Int} {w : Int} (h : (valR l w).2 = 0) : valR l w = (srtZ l, 0) ∧ l.length ≤ 200 ∧ (0 ≤ w ∧ w ≤ 1000000) ∧ ∀ v ∈ l, -1000000 ≤ v ∧ v ≤ 1000000 := by
 unfold valR at h ⊢
 split at h
 ·cases h
 ·rename_i h1
  split at h
  ·cases h
  ·rename_i h2
   rw [if_neg h1, if_neg h2]
   refine ⟨rfl, by omega, ?_, fun v hv => ?_⟩
   ·cases q : widOk w with
    | true => simp only [widOk, Bool.and_eq_true, decide_eq_true_eq] at q; exact q
    | false => exact absurd (.inl q) h2
   ·cases q : farZ v with
    | false => exact farZ_no q
    | true => exact absurd (.inr (anyZ_iff.2 ⟨v, hv, q⟩)) h2
theorem lastZ_mem {o : List Int} (h : o.length ≠ 0) : lastZ o ∈ o := by
 unfold lastZ
 rw [List.getD_eq_getElem?_getD, List.getElem?_eq_getElem (by omega)]
 exact List.getElem_mem _
theorem RG57 : (type_of% @c57r0.eq_1) ∧ (type_of% @c57r1.eq_1) ∧ (type_of% @c57r2.eq_1) ∧ (type_of% @c57r3.eq_1) ∧ (type_of% @c57r4.eq_1) ∧ (type_of% @c57r5.eq_1) ∧ (type_of% @c57r6.eq_1) ∧ (type_of% @c57r7.eq_1) ∧ (type_of% @c57r8.eq_1) ∧ (type_of% @c57r9.eq_1) ∧ (type_of% @c57r10.eq_1) ∧ (type_of% @c57r12.eq_1) := ⟨@c57r0.eq_1, @c57r1.eq_1, @c57r2.eq_1, @c57r3.eq_1, @c57r4.eq_1, @c57r5.eq_1, @c57r6.eq_1, @c57r7.eq_1, @c57r8.eq_1, @c57r9.eq_1, @c57r10.eq_1, @c57r12.eq_1⟩
theorem pc13 (l : List Int) (hl : l.length ≤ 9223372036854775807) (w : Int) : PC Tryd.prog 57 [vi l, .i .i64 w] (.tu [vi (sprR l w).1, .i .i64 (sprR l w).2]) := by
 have q31 := pc31 l hl w
 unfold sprR
 refine pc_fn fn57 (by simp only [AV.plains, AV.plain, il_plain, bl_plain, Bool.and_true, Bool.true_and, Bool.and_self, il_plain]) (by simp only [AV.plains, AV.plain, il_plain, bl_plain, Bool.and_true, Bool.true_and, Bool.and_self, il_plain]) (Nat.le_of_ble_eq_true rfl) ?_
 rw [initSt2]
 by_cases c : (valR l w).2 = 0
 ·obtain ⟨e, h200, hw, hb⟩ := val_ok c
  rw [e] at q31
  simp only [vi, srtZ_len] at q31
  rw [if_neg (by simp [c])]
  repeat' first | (with_reducible first | refine kzq ?_ | refine kzs ?_ | refine kzS ?_ | refine kzR ?_ | refine kzC ?_ | refine kzH ?_ | refine kzB ?_ | refine kzK ?_ | refine kzE ?_ | refine kzg ?_) | with_reducible refine r_done ?_ | with_reducible refine s_go (by simp (disch := omega) only [RG57, EVA, plug, eq_self, simprocAttr]; with_reducible rfl) ?_ | ((with_reducible refine kzr ?_); refine zrF ?_) | ((with_reducible refine kzr ?_); refine zrP (c := by first | exact q31 _) (k := ?_)) | (with_reducible refine zkP (fun ht => ?_) (fun ht => ?_) <;> try first | exact False.elim ht | exact absurd rfl ht | exact absurd trivial ht | exact Bool.noConfusion ht) | (with_reducible (refine k_ret ?_; repeat first | refine kzt ?_ | refine kzb ?_ | refine fin ?_)) | (with_reducible (refine kzx ?_; repeat first | refine thru ?_ | refine kzo ?_ | refine pass (by decide) ?_)) | ((first | refine post1 ?_ | refine post2 ?_ | refine post3 ?_); simp only [GA, simprocAttr]) | refine post0 ?_
  refine w_virt 1 8 rfl ?_
  refine k_blk (k_loopS (X := Nat) [1, 8, 20, 21, 22] l.length (fun k y => [(1, .i .i64 w), (8, .sl y 0 (sprL l w k).length 1), (20, .vs l.length (il (srtZ l))), (21, .i .i64 l.length), (22, .i .i64 (k : Int))]) (fun k y h => y ≠ 0 ∧ h.m y = some (.cells true (il (sprL l w k)))) _ (by simp only [Am.keep, ZK, simprocAttr]; try rfl) ⟨?_, by simp (disch := omega) only [RG57, EVA, plug, eq_self, simprocAttr] <;> rfl⟩ ?_)
  ·simp only [AH.bump_nx]; omega
  rintro k y h hk ⟨hy, hmy⟩ ok pos
  have ly := ok.m hmy
  have sm := sprL_mem l w k hk
  by_cases klt : k < l.length
  ·have klt' : (k : Int) < l.length := by omega
   have g0 := il_get (l := srtZ l) (j := k) (by rw [srtZ_len]; exact klt)
   have ss := sprL_succ (w := w) klt
   generalize (srtZ l).getD k 0 = v at g0 ss
   by_cases he : (sprL l w k).length = 0
   ·have he' := eq_true (show ((sprL l w k).length : Int) = 0 by omega)
    rw [sprF_yes (.inl he)] at ss
    repeat' first | (with_reducible first | refine kzq ?_ | refine kzs ?_ | refine kzS ?_ | refine kzR ?_ | refine kzC ?_ | refine kzH ?_ | refine kzB ?_ | refine kzK ?_ | refine kzE ?_ | refine kzg ?_) | with_reducible refine r_done ?_ | with_reducible refine s_go (by simp (disch := omega) only [klt', g0, he', hmy, row_m hmy, read_row (row_m hmy), il_len, hy, RG57, EVA, plug, eq_self, simprocAttr]; with_reducible rfl) ?_ | ((with_reducible refine kzr ?_); refine zrF ?_) | (with_reducible refine zkP (fun ht => ?_) (fun ht => ?_) <;> try first | exact False.elim ht | exact absurd rfl ht | exact absurd trivial ht | exact Bool.noConfusion ht) | (with_reducible (refine k_ret ?_; repeat first | refine kzt ?_ | refine kzb ?_ | refine fin ?_)) | (with_reducible (refine kzx ?_; repeat first | refine thru ?_ | refine kzo ?_ | refine pass (by decide) ?_)) | ((first | refine post1 ?_ | refine post2 ?_ | refine post3 ?_); simp only [GA, simprocAttr]) | refine post0 ?_
    rw [ss]
    refine ⟨klt, ?tk, ?g1, ?g2, ?g3⟩
    case g1 =>
     simp only [Am.keep, List.map_cons, List.map_nil, GA, Nat.reduceEqDiff, ↓reduceIte, List.length_append, List.length_cons, List.length_nil, Nat.zero_add]
     rfl
    case g2 => omega
    case g3 => simp (disch := omega) only [RG57, EVA, plug, eq_self, simprocAttr] <;> rfl
   ·have he' := eq_false (show ¬ ((sprL l w k).length : Int) = 0 by omega)
    have w1 : IntKind.i64.wrap (((sprL l w k).length : Int) - 1) = (sprL l w k).length - 1 := wrap64 (by omega) (by omega)
    have j0 : (0 : Int) ≤ ((sprL l w k).length : Int) - 1 := by omega
    have j1 : ((sprL l w k).length : Int) - 1 < (sprL l w k).length := by omega
    have j2 : (((sprL l w k).length : Int) - 1).toNat = (sprL l w k).length - 1 := by omega
    have g := il_get (l := sprL l w k) (j := (sprL l w k).length - 1) (by omega)
    have lm := hb _ (sm.2 _ (lastZ_mem he))
    rw [show (sprL l w k).getD ((sprL l w k).length - 1) 0 = lastZ (sprL l w k) from rfl] at g
    have w2 : IntKind.i64.wrap (lastZ (sprL l w k) + w) = lastZ (sprL l w k) + w := wrap64 (by omega) (by omega)
    by_cases ho : lastZ (sprL l w k) + w < v
    ·have ho' := eq_true ho
     rw [sprF_yes (.inr ho)] at ss
     repeat' first | (with_reducible first | refine kzq ?_ | refine kzs ?_ | refine kzS ?_ | refine kzR ?_ | refine kzC ?_ | refine kzH ?_ | refine kzB ?_ | refine kzK ?_ | refine kzE ?_ | refine kzg ?_) | with_reducible refine r_done ?_ | with_reducible refine s_go (by simp (disch := omega) only [klt', g0, he', w1, w2, j0, j1, j2, g, ho', hmy, row_m hmy, read_row (row_m hmy), il_len, hy, RG57, EVA, plug, eq_self, simprocAttr]; with_reducible rfl) ?_ | ((with_reducible refine kzr ?_); refine zrF ?_) | (with_reducible refine zkP (fun ht => ?_) (fun ht => ?_) <;> try first | exact False.elim ht | exact absurd rfl ht | exact absurd trivial ht | exact Bool.noConfusion ht) | (with_reducible (refine k_ret ?_; repeat first | refine kzt ?_ | refine kzb ?_ | refine fin ?_)) | (with_reducible (refine kzx ?_; repeat first | refine thru ?_ | refine kzo ?_ | refine pass (by decide) ?_)) | ((first | refine post1 ?_ | refine post2 ?_ | refine post3 ?_); simp only [GA, simprocAttr]) | refine post0 ?_
     rw [ss]
     refine ⟨klt, ?tk, ?g1, ?g2, ?g3⟩
     case g1 =>
      simp only [Am.keep, List.map_cons, List.map_nil, GA, Nat.reduceEqDiff, ↓reduceIte, List.length_append, List.length_cons, List.length_nil, Nat.zero_add]
      rfl
     case g2 => omega
     case g3 => simp (disch := omega) only [RG57, EVA, plug, eq_self, simprocAttr] <;> rfl
    ·have ho' := eq_false ho
     rw [sprF_no (fun q => q.elim he ho)] at ss
     repeat' first | (with_reducible first | refine kzq ?_ | refine kzs ?_ | refine kzS ?_ | refine kzR ?_ | refine kzC ?_ | refine kzH ?_ | refine kzB ?_ | refine kzK ?_ | refine kzE ?_ | refine kzg ?_) | with_reducible refine r_done ?_ | with_reducible refine s_go (by simp (disch := omega) only [klt', g0, he', w1, w2, j0, j1, j2, g, ho', hmy, row_m hmy, read_row (row_m hmy), il_len, hy, RG57, EVA, plug, eq_self, simprocAttr]; with_reducible rfl) ?_ | ((with_reducible refine kzr ?_); refine zrF ?_) | (with_reducible refine zkP (fun ht => ?_) (fun ht => ?_) <;> try first | exact False.elim ht | exact absurd rfl ht | exact absurd trivial ht | exact Bool.noConfusion ht) | (with_reducible (refine k_ret ?_; repeat first | refine kzt ?_ | refine kzb ?_ | refine fin ?_)) | (with_reducible (refine kzx ?_; repeat first | refine thru ?_ | refine kzo ?_ | refine pass (by decide) ?_)) | ((first | refine post1 ?_ | refine post2 ?_ | refine post3 ?_); simp only [GA, simprocAttr]) | refine post0 ?_
     rw [ss]
     exact ⟨klt, y, (by simp only [Am.keep, ZK, simprocAttr]; try rfl), hy, by simp (disch := omega) only [hmy, RG57, EVA, plug, eq_self, simprocAttr]⟩
  ·obtain rfl : k = l.length := by omega
   have klt' : ¬ (l.length : Int) < l.length := by omega
   repeat' first | (with_reducible first | refine kzq ?_ | refine kzs ?_ | refine kzS ?_ | refine kzR ?_ | refine kzC ?_ | refine kzH ?_ | refine kzB ?_ | refine kzK ?_ | refine kzE ?_ | refine kzg ?_) | with_reducible refine r_done ?_ | with_reducible refine s_go (by simp (disch := omega) only [klt', RG57, EVA, plug, eq_self, simprocAttr]; with_reducible rfl) ?_ | ((with_reducible refine kzr ?_); refine zrF ?_) | (with_reducible refine zkP (fun ht => ?_) (fun ht => ?_) <;> try first | exact False.elim ht | exact absurd rfl ht | exact absurd trivial ht | exact Bool.noConfusion ht) | (with_reducible (refine k_ret ?_; repeat first | refine kzt ?_ | refine kzb ?_ | refine fin ?_)) | (with_reducible (refine kzx ?_; repeat first | refine thru ?_ | refine kzo ?_ | refine pass (by decide) ?_)) | ((first | refine post1 ?_ | refine post2 ?_ | refine post3 ?_); simp only [GA, simprocAttr]) | refine post0 ?_
   exact ends_sl2 (k := 1) hmy (by rw [il_len, Nat.mul_one])
 ·have c' := eq_false c
  rw [if_pos c]
  repeat' first | (with_reducible first | refine kzq ?_ | refine kzs ?_ | refine kzS ?_ | refine kzR ?_ | refine kzC ?_ | refine kzH ?_ | refine kzB ?_ | refine kzK ?_ | refine kzE ?_ | refine kzg ?_) | with_reducible refine r_done ?_ | with_reducible refine s_go (by simp (disch := omega) only [c', RG57, EVA, plug, eq_self, simprocAttr]; with_reducible rfl) ?_ | ((with_reducible refine kzr ?_); refine zrF ?_) | ((with_reducible refine kzr ?_); refine zrP (c := by first | exact q31 _) (k := ?_)) | (with_reducible refine zkP (fun ht => ?_) (fun ht => ?_) <;> try first | exact False.elim ht | exact absurd rfl ht | exact absurd trivial ht | exact Bool.noConfusion ht) | (with_reducible (refine k_ret ?_; repeat first | refine kzt ?_ | refine kzb ?_ | refine fin ?_)) | (with_reducible (refine kzx ?_; repeat first | refine thru ?_ | refine kzo ?_ | refine pass (by decide) ?_)) | ((first | refine post1 ?_ | refine post2 ?_ | refine post3 ?_); simp only [GA, simprocAttr]) | refine post0 ?_
  exact ends_nil2
end Go.Proofs.YtjaihaccehaicaaDoor
set_option linter.unusedVariables false
set_option linter.unusedSimpArgs false
namespace Go.Proofs.YtjaihaccehaicaaDoor
open Go Go.Am Go.Proofs
def outN (n i : Int) : Bool := decide (i < 0) || decide (n ≤ i)
theorem pc62 (x n : Int) : PC Tryd.prog 77 [.i .i64 x, .pv [.i .i64 n] 0] (.b (outN n x)) := by
 refine pc_fn fn77 (by simp only [AV.plains, AV.plain, il_plain, bl_plain, Bool.and_true, Bool.true_and, Bool.and_self]) (by simp only [AV.plains, AV.plain, il_plain, bl_plain, Bool.and_true, Bool.true_and, Bool.and_self]) (Nat.le_of_ble_eq_true rfl) ?_
 rw [initSt2]
 repeat' first | (with_reducible first | refine kzq ?_ | refine kzs ?_ | refine kzS ?_ | refine kzR ?_ | refine kzC ?_ | refine kzH ?_ | refine kzB ?_ | refine kzK ?_ | refine kzE ?_ | refine kzg ?_) | with_reducible refine r_done ?_ | with_reducible refine s_go (by simp (disch := omega) only [c77r0, c77r1, EVA, plug, eq_self, simprocAttr]; with_reducible rfl) ?_ | ((with_reducible refine kzr ?_); refine zrF ?_) | (with_reducible refine zkP (fun ht => ?_) (fun ht => ?_) <;> try first | exact False.elim ht | exact absurd rfl ht | exact absurd trivial ht | exact Bool.noConfusion ht) | (with_reducible (refine k_ret ?_; repeat first | refine kzt ?_ | refine kzb ?_ | refine fin ?_)) | (with_reducible (refine kzx ?_; repeat first | refine thru ?_ | refine kzo ?_ | refine pass (by decide) ?_)) | ((first | refine post1 ?_ | refine post2 ?_ | refine post3 ?_); simp only [GA, simprocAttr]) | refine post0 ?_
 all_goals first | exact ends_of | exact ends_eq rfl
theorem pc64 (x : Int) : PC Tryd.prog 79 [.i .i64 x] (.i .i64 x) := by
 refine pc_fn fn79 (by simp only [AV.plains, AV.plain, il_plain, bl_plain, Bool.and_true, Bool.true_and, Bool.and_self]) (by simp only [AV.plains, AV.plain, il_plain, bl_plain, Bool.and_true, Bool.true_and, Bool.and_self]) (Nat.le_of_ble_eq_true rfl) ?_
 rw [initSt1]
 repeat' first | (with_reducible first | refine kzq ?_ | refine kzs ?_ | refine kzS ?_ | refine kzR ?_ | refine kzC ?_ | refine kzH ?_ | refine kzB ?_ | refine kzK ?_ | refine kzE ?_ | refine kzg ?_) | with_reducible refine r_done ?_ | with_reducible refine s_go (by simp (disch := omega) only [c79r0, c79r1, EVA, plug, eq_self, simprocAttr]; with_reducible rfl) ?_ | ((with_reducible refine kzr ?_); refine zrF ?_) | (with_reducible refine zkP (fun ht => ?_) (fun ht => ?_) <;> try first | exact False.elim ht | exact absurd rfl ht | exact absurd trivial ht | exact Bool.noConfusion ht) | (with_reducible (refine k_ret ?_; repeat first | refine kzt ?_ | refine kzb ?_ | refine fin ?_)) | (with_reducible (refine kzx ?_; repeat first | refine thru ?_ | refine kzo ?_ | refine pass (by decide) ?_)) | ((first | refine post1 ?_ | refine post2 ?_ | refine post3 ?_); simp only [GA, simprocAttr]) | refine post0 ?_
 all_goals first | exact ends_of | exact ends_eq rfl
def lN (l : List Int) (i : Nat) : Int := l.getD i 0
theorem RG78 : (type_of% @c78r0.eq_1) ∧ (type_of% @c78r1.eq_1) ∧ (type_of% @c78r2.eq_1) ∧ (type_of% @c78r3.eq_1) ∧ (type_of% @c78r4.eq_1) ∧ (type_of% @c78r5.eq_1) ∧ (type_of% @c78r6.eq_1) ∧ (type_of% @c78r7.eq_1) ∧ (type_of% @c78r8.eq_1) ∧ (type_of% @c78r10.eq_1) := ⟨@c78r0.eq_1, @c78r1.eq_1, @c78r2.eq_1, @c78r3.eq_1, @c78r4.eq_1, @c78r5.eq_1, @c78r6.eq_1, @c78r7.eq_1, @c78r8.eq_1, @c78r10.eq_1⟩
theorem pc63 (l : List Int) (hl : l.length ≤ 9223372036854775807) : PC Tryd.prog 78 [vi l, .fn 79 [] []] (.b (dis (lN l) l.length)) := by
 refine pc_fn fn78 (by simp only [AV.plains, AV.plain, il_plain, bl_plain, Bool.and_true, Bool.true_and, Bool.and_self, il_plain]) (by simp only [AV.plains, AV.plain, il_plain, bl_plain, Bool.and_true, Bool.true_and, Bool.and_self, il_plain]) (Nat.le_of_ble_eq_true rfl) ?_
 rw [initSt2]
 repeat' first | (with_reducible first | refine kzq ?_ | refine kzs ?_ | refine kzS ?_ | refine kzR ?_ | refine kzC ?_ | refine kzH ?_ | refine kzB ?_ | refine kzK ?_ | refine kzE ?_ | refine kzg ?_) | with_reducible refine r_done ?_ | with_reducible refine s_go (by simp (disch := omega) only [RG78, EVA, plug, eq_self, simprocAttr]; with_reducible rfl) ?_ | ((with_reducible refine kzr ?_); refine zrF ?_) | (with_reducible refine zkP (fun ht => ?_) (fun ht => ?_) <;> try first | exact False.elim ht | exact absurd rfl ht | exact absurd trivial ht | exact Bool.noConfusion ht) | (with_reducible (refine k_ret ?_; repeat first | refine kzt ?_ | refine kzb ?_ | refine fin ?_)) | (with_reducible (refine kzx ?_; repeat first | refine thru ?_ | refine kzo ?_ | refine pass (by decide) ?_)) | ((first | refine post1 ?_ | refine post2 ?_ | refine post3 ?_); simp only [GA, simprocAttr]) | refine post0 ?_
 refine k_blk (k_loopS (X := Nat × List (AV × AV)) [1, 5, 9, 10, 11] l.length (fun k x => [(1, .fn 79 [] []), (5, .mp x.1), (9, vi l), (10, .i .i64 l.length), (11, .i .i64 (k : Int))])
  (fun k x h => h.m x.1 = some (.map x.2) ∧ (∀ j, j < k → ∀ i, i < j → lN l i ≠ lN l j) ∧ MFi x.2 (setOf fun n => ∃ i, i < k ∧ lN l i = n)) (_, _) (by simp only [Am.keep, ZK, simprocAttr]; try rfl) ⟨by simp (disch := omega) only [RG78, EVA, plug, eq_self, simprocAttr] <;> rfl, fun j hj => by omega, ?_⟩ ?_)
 ·exact MFi.set_nil fun a ⟨i, hi, _⟩ => by omega
 rintro k ⟨tk, es⟩ h hk ⟨hm, hv, hf⟩ ok pos
 simp only at hm hf ⊢
 have htk := ok.m hm
 by_cases hlt : k < l.length
 ·have g : (il l)[k]? = some (.i .i64 (lN l k)) := il_get hlt
  have hlt' : (k : Int) < l.length := by omega
  have lk := MFi.set_lk hf (lN l k)
  have u1 := (MFi.up hf (lN l k) (.b true)).1
  have q := pc64 (lN l k)
  repeat' first | (with_reducible first | refine kzq ?_ | refine kzs ?_ | refine kzS ?_ | refine kzR ?_ | refine kzC ?_ | refine kzH ?_ | refine kzB ?_ | refine kzK ?_ | refine kzE ?_ | refine kzg ?_) | with_reducible refine r_done ?_ | with_reducible refine s_go (by simp (disch := omega) only [hm, g, hlt', lk, u1, RG78, EVA, plug, eq_self, simprocAttr]; with_reducible rfl) ?_ | ((with_reducible refine kzr ?_); refine zrF ?_) | ((with_reducible refine kzr ?_); refine zrP (c := by first | exact q _) (k := ?_)) | (with_reducible refine zkP (fun ht => ?_) (fun ht => ?_) <;> try first | exact False.elim ht | exact absurd rfl ht | exact absurd trivial ht | exact Bool.noConfusion ht) | (with_reducible (refine k_ret ?_; repeat first | refine kzt ?_ | refine kzb ?_ | refine fin ?_)) | (with_reducible (refine kzx ?_; repeat first | refine thru ?_ | refine kzo ?_ | refine pass (by decide) ?_)) | ((first | refine post1 ?_ | refine post2 ?_ | refine post3 ?_); simp only [GA, simprocAttr]) | refine post0 ?_
  ·obtain ⟨i, hi, e⟩ := ht
   rw [dis_no hlt hi e]
   exact ends_of
  ·refine ⟨hlt, ⟨tk, _⟩, (by simp only [Am.keep, ZK, simprocAttr]; try rfl), by simp (disch := omega) only [RG78, EVA, plug, eq_self, simprocAttr] <;> rfl, fun j hj i hi => ?_, MFi.set_up hf _ _ fun b => ⟨fun ⟨i, hi, e⟩ => ?_, fun hb => ?_⟩⟩
   ·by_cases e : j = k
    ·subst e; exact fun q => ht ⟨i, hi, q⟩
    ·exact hv j (by omega) i hi
   ·by_cases hk : i = k
    ·subst hk; exact .inl e.symm
    ·exact .inr ⟨i, by omega, e⟩
   ·rcases hb with rfl | ⟨i, hi, e⟩
    ·exact ⟨k, by omega, rfl⟩
    ·exact ⟨i, by omega, e⟩
 ·have hlt' : ¬ (k : Int) < l.length := by omega
  obtain rfl : k = l.length := by omega
  repeat' first | (with_reducible first | refine kzq ?_ | refine kzs ?_ | refine kzS ?_ | refine kzR ?_ | refine kzC ?_ | refine kzH ?_ | refine kzB ?_ | refine kzK ?_ | refine kzE ?_ | refine kzg ?_) | with_reducible refine r_done ?_ | with_reducible refine s_go (by simp (disch := omega) only [hlt', RG78, EVA, plug, eq_self, simprocAttr]; with_reducible rfl) ?_ | ((with_reducible refine kzr ?_); refine zrF ?_) | (with_reducible refine zkP (fun ht => ?_) (fun ht => ?_) <;> try first | exact False.elim ht | exact absurd rfl ht | exact absurd trivial ht | exact Bool.noConfusion ht) | (with_reducible (refine k_ret ?_; repeat first | refine kzt ?_ | refine kzb ?_ | refine fin ?_)) | (with_reducible (refine kzx ?_; repeat first | refine thru ?_ | refine kzo ?_ | refine pass (by decide) ?_)) | ((first | refine post1 ?_ | refine post2 ?_ | refine post3 ?_); simp only [GA, simprocAttr]) | refine post0 ?_
  rw [dis_iff.2 hv]
  exact ends_of
def pkOk (l : List Int) (n : Int) : Bool := !anyZ (outN n) l && dis (lN l) l.length
theorem pkOk_iff {l : List Int} {n : Int} : pkOk l n = true ↔ ∀ j, j < l.length → (0 ≤ lN l j ∧ lN l j < n) ∧ ∀ i, i < j → lN l i ≠ lN l j := by
 have e : anyZ (outN n) l = false ↔ ∀ j, j < l.length → 0 ≤ lN l j ∧ lN l j < n := by
  rw [← Bool.not_eq_true, anyZ_at]
  constructor
  ·intro h j hj
   refine Classical.byContradiction fun q => h ⟨j, hj, ?_⟩
   unfold outN
   rw [Bool.or_eq_true, decide_eq_true_eq, decide_eq_true_eq]
   show lN l j < 0 ∨ n ≤ lN l j
   omega
  ·rintro h ⟨j, hj, q⟩
   have := h j hj
   unfold outN at q
   rw [Bool.or_eq_true, decide_eq_true_eq, decide_eq_true_eq] at q
   change lN l j < 0 ∨ n ≤ lN l j at q
   omega
 simp only [pkOk, Bool.and_eq_true, Bool.not_eq_true', e, dis_iff]
 exact ⟨fun h j hj => ⟨h.1 j hj, h.2 j hj⟩, fun h => ⟨fun j hj => (h j hj).1, fun j hj => (h j hj).2⟩⟩
theorem pc47 (l : List Int) (hl : l.length ≤ 9223372036854775807) (n : Int) : PC Tryd.prog 56 [vi l, .i .i64 n] (.b (pkOk l n)) := by
 have q1 := pc35 l hl 77 [.pv [.i .i64 n] 0] rfl (outN n) (fun x => pc62 x n)
 have q2 := pc63 l hl
 unfold pkOk
 refine pc_fn fn56 (by simp only [AV.plains, AV.plain, il_plain, bl_plain, Bool.and_true, Bool.true_and, Bool.and_self, il_plain]) (by simp only [AV.plains, AV.plain, il_plain, bl_plain, Bool.and_true, Bool.true_and, Bool.and_self, il_plain]) (Nat.le_of_ble_eq_true rfl) ?_
 rw [initSt2]
 repeat' first | (with_reducible first | refine kzq ?_ | refine kzs ?_ | refine kzS ?_ | refine kzR ?_ | refine kzC ?_ | refine kzH ?_ | refine kzB ?_ | refine kzK ?_ | refine kzE ?_ | refine kzg ?_) | with_reducible refine r_done ?_ | with_reducible refine s_go (by simp (disch := omega) only [c56r0, c56r1, EVA, plug, eq_self, simprocAttr]; with_reducible rfl) ?_ | ((with_reducible refine kzr ?_); refine zrF ?_) | ((with_reducible refine kzr ?_); refine zrP (c := by first | ((refine PC.at q1 rfl ?F; case F => (refine .cons (.same (il_plain _)) (.cons (.fn .nil (.cons (.p (by simp (disch := omega) only [c56r0, c56r1, EVA, plug, eq_self, simprocAttr] <;> rfl) (Nows.same rfl)) .nil)) .nil))); all_goals fail) | exact q2 _) (k := ?_)) | ((with_reducible refine kzr ?_); refine zrG (c := by intro hg; (try simp only [BO] at hg); first | ((refine PC.at q1 rfl ?F; case F => (refine .cons (.same (il_plain _)) (.cons (.fn .nil (.cons (.p (by simp (disch := omega) only [c56r0, c56r1, EVA, plug, eq_self, simprocAttr] <;> rfl) (Nows.same rfl)) .nil)) .nil))); all_goals fail) | exact q2 _) (k := ?_)) | (with_reducible refine zkP (fun ht => ?_) (fun ht => ?_) <;> try first | exact False.elim ht | exact absurd rfl ht | exact absurd trivial ht | exact Bool.noConfusion ht) | (with_reducible (refine k_ret ?_; repeat first | refine kzt ?_ | refine kzb ?_ | refine fin ?_)) | (with_reducible (refine kzx ?_; repeat first | refine thru ?_ | refine kzo ?_ | refine pass (by decide) ?_)) | ((first | refine post1 ?_ | refine post2 ?_ | refine post3 ?_); simp only [GA, simprocAttr]) | refine post0 ?_
 all_goals first | exact ends_of | exact ends_eq rfl
theorem chk_ok {l : List Sz} {m : List Hd} (h : chk l m = 0) : szsOk l = true ∧ hdsOk m = true := by
 unfold chk at h
 cases c1 : szsOk l <;> cases c2 : hdsOk m <;> simp [c1, c2] at h ⊢
def cvdB (l : List Sz) (x : Hd) (li : List Int) : Bool := anyZ (fun i => fitB (zD l i.toNat) x) li
def cvsB (l : List Sz) (m : List Hd) (li : List Int) : Bool := decide (∀ k, k < m.length → cvdB l (hD m k) li = true)
def covR (l : List Sz) (m : List Hd) (li : List Int) : Bool × Int := if chk l m ≠ 0 then (false, chk l m) else if pkOk li l.length = false then (false, 2) else (cvsB l m li, 0)
end Go.Proofs.YtjaihaccehaicaaDoor
set_option linter.unusedVariables false
set_option linter.unusedSimpArgs false
namespace Go.Proofs.YtjaihaccehaicaaDoor
open Go Go.Am Go.Proofs
def orS (f : List Nat) (li : List Int) : Nat → Nat
 | 0 => 0
 | k + 1 => orS f li k ||| f.getD (lN li k).toNat 0
def shS (li : List Int) : Nat → Nat
 | 0 => 0
 | k + 1 => shS li k ||| 2 ^ (lN li k).toNat
theorem orS_bit {f : List Nat} {li : List Int} {i : Nat} : ∀ {k : Nat}, (orS f li k).testBit i = true ↔ ∃ j, j < k ∧ (f.getD (lN li j).toNat 0).testBit i = true
 | 0 => by simp [orS]
 | k + 1 => by
   rw [orS, Nat.testBit_or, Bool.or_eq_true, orS_bit (k := k)]
   constructor
   ·rintro (⟨j, hj, q⟩ | q)
    ·exact ⟨j, by omega, q⟩
    ·exact ⟨k, by omega, q⟩
   ·rintro ⟨j, hj, q⟩
    by_cases e : j = k
    ·subst e; exact .inr q
    ·exact .inl ⟨j, by omega, q⟩
theorem shS_bit {li : List Int} {i : Nat} : ∀ {k : Nat}, (shS li k).testBit i = true ↔ ∃ j, j < k ∧ (lN li j).toNat = i
 | 0 => by simp [shS]
 | k + 1 => by
   rw [shS, Nat.testBit_or, Bool.or_eq_true, shS_bit (k := k), Nat.testBit_two_pow, decide_eq_true_eq]
   constructor
   ·rintro (⟨j, hj, q⟩ | q)
    ·exact ⟨j, by omega, q⟩
    ·exact ⟨k, by omega, q⟩
   ·rintro ⟨j, hj, q⟩
    by_cases e : j = k
    ·subst e; exact .inr q
    ·exact .inl ⟨j, by omega, q⟩
theorem fitL_get {l : List Sz} {m : List Hd} {a : Nat} (h : a < l.length) : (fitL l m).getD a 0 = fitS m (zD l a) := by
 unfold fitL zD
 rw [List.getD_eq_getElem?_getD, List.getElem?_map, List.getD_eq_getElem?_getD, List.getElem?_eq_getElem h]
 rfl
theorem fitS_bit {m : List Hd} {s : Sz} {i : Nat} : (fitS m s).testBit i = true ↔ i < m.length ∧ fitB s (hD m i) = true := by
 unfold fitS
 rw [sv_bit, Bool.and_eq_true, decide_eq_true_eq]
theorem fitS_lt {m : List Hd} {s : Sz} : fitS m s < 2 ^ m.length := sv_lt
theorem orS_lt {l : List Sz} {m : List Hd} {li : List Int} (hp : pkOk li l.length = true) : ∀ {k : Nat}, k ≤ li.length → orS (fitL l m) li k < 2 ^ m.length
 | 0, _ => Nat.two_pow_pos _
 | k + 1, h => by
   have p := ((pkOk_iff.1 hp) k (by omega)).1
   rw [orS, fitL_get (by omega)]
   exact Nat.or_lt_two_pow (orS_lt hp (by omega)) fitS_lt
theorem shS_lt {m : List Hd} {li : List Int} (hp : pkOk li m.length = true) : ∀ {k : Nat}, k ≤ li.length → shS li k < 2 ^ m.length
 | 0, _ => Nat.two_pow_pos _
 | k + 1, h => by
   have p := ((pkOk_iff.1 hp) k (by omega)).1
   rw [shS]
   exact Nat.or_lt_two_pow (shS_lt hp (by omega)) (Nat.pow_lt_pow_right (by omega) (by omega))
theorem covers_eq {l : List Sz} {m : List Hd} {li : List Int} (hm : m.length ≤ 40) (hp : pkOk li l.length = true) : decide (((popA 64 (orS (fitL l m) li li.length) : Nat) : Int) = m.length) = cvsB l m li := by
 have P := pkOk_iff.1 hp
 have e := (pop_all (m := 64) (n := m.length) (by omega) (orS_lt (m := m) hp (Nat.le_refl _))).2
 have e2 : (((popA 64 (orS (fitL l m) li li.length) : Nat) : Int) = m.length) ↔ popA 64 (orS (fitL l m) li li.length) = m.length := by omega
 unfold cvsB
 rw [Bool.eq_iff_iff, decide_eq_true_eq, decide_eq_true_eq, e2, e]
 constructor
 ·intro h k hk
  obtain ⟨j, hj, q⟩ := orS_bit.1 (h k hk)
  have p := (P j hj).1
  rw [fitL_get (by omega)] at q
  exact anyZ_at.2 ⟨j, hj, (fitS_bit.1 q).2⟩
 ·intro h k hk
  obtain ⟨j, hj, q⟩ := anyZ_at.1 (h k hk)
  have p := (P j hj).1
  refine orS_bit.2 ⟨j, hj, ?_⟩
  rw [fitL_get (by omega)]
  exact fitS_bit.2 ⟨hk, q⟩
theorem RG22 : (type_of% @c22r0.eq_1) ∧ (type_of% @c22r1.eq_1) ∧ (type_of% @c22r2.eq_1) ∧ (type_of% @c22r3.eq_1) ∧ (type_of% @c22r4.eq_1) ∧ (type_of% @c22r5.eq_1) ∧ (type_of% @c22r6.eq_1) ∧ (type_of% @c22r7.eq_1) ∧ (type_of% @c22r8.eq_1) ∧ (type_of% @c22r9.eq_1) ∧ (type_of% @c22r10.eq_1) ∧ (type_of% @c22r11.eq_1) ∧ (type_of% @c22r12.eq_1) ∧ (type_of% @c22r14.eq_1) := ⟨@c22r0.eq_1, @c22r1.eq_1, @c22r2.eq_1, @c22r3.eq_1, @c22r4.eq_1, @c22r5.eq_1, @c22r6.eq_1, @c22r7.eq_1, @c22r8.eq_1, @c22r9.eq_1, @c22r10.eq_1, @c22r11.eq_1, @c22r12.eq_1, @c22r14.eq_1⟩
theorem pc27 (l : List Sz) (m : List Hd) (li : List Int) (hl : l.length ≤ 9223372036854775807) (hm : m.length ≤ 9223372036854775807) (hli : li.length ≤ 9223372036854775807) : PC Tryd.prog 22 [vZ l, vH m, vi li] (.tu [.b (covR l m li).1, .i .i64 (covR l m li).2]) := by
 have q1 := pc41 l m hl hm
 have q2 := pc47 li hli l.length
 unfold covR
 refine pc_fn fn22 (by simp only [AV.plains, AV.plain, il_plain, bl_plain, Bool.and_true, Bool.true_and, Bool.and_self, fleZ_plain, fleH_plain, il_plain]) (by simp only [AV.plains, AV.plain, il_plain, bl_plain, Bool.and_true, Bool.true_and, Bool.and_self, fleZ_plain, fleH_plain, il_plain]) (Nat.le_of_ble_eq_true rfl) ?_
 rw [initSt3]
 by_cases c : chk l m = 0
 ·rw [if_neg (by simp [c])]
  rw [c] at q1
  cases d : pkOk li l.length with
  | false =>
    rw [d] at q2
    rw [if_pos rfl]
    repeat' first | (with_reducible first | refine kzq ?_ | refine kzs ?_ | refine kzS ?_ | refine kzR ?_ | refine kzC ?_ | refine kzH ?_ | refine kzB ?_ | refine kzK ?_ | refine kzE ?_ | refine kzg ?_) | with_reducible refine r_done ?_ | with_reducible refine s_go (by simp (disch := omega) only [RG22, EVA, plug, eq_self, simprocAttr]; with_reducible rfl) ?_ | ((with_reducible refine kzr ?_); refine zrF ?_) | ((with_reducible refine kzr ?_); refine zrP (c := by first | exact q1 _ | exact q2 _) (k := ?_)) | (with_reducible refine zkP (fun ht => ?_) (fun ht => ?_) <;> try first | exact False.elim ht | exact absurd rfl ht | exact absurd trivial ht | exact Bool.noConfusion ht) | (with_reducible (refine k_ret ?_; repeat first | refine kzt ?_ | refine kzb ?_ | refine fin ?_)) | (with_reducible (refine kzx ?_; repeat first | refine thru ?_ | refine kzo ?_ | refine pass (by decide) ?_)) | ((first | refine post1 ?_ | refine post2 ?_ | refine post3 ?_); simp only [GA, simprocAttr]) | refine post0 ?_
    all_goals first | exact ends_of | exact ends_eq rfl
  | true =>
    rw [d] at q2
    rw [if_neg (by simp)]
    have q3 := pc48 l m (chk_ok c).1 (chk_ok c).2
    have M := (hdsOk_iff.1 (chk_ok c).2).1
    have P := pkOk_iff.1 d
    have ce := covers_eq M d
    repeat' first | (with_reducible first | refine kzq ?_ | refine kzs ?_ | refine kzS ?_ | refine kzR ?_ | refine kzC ?_ | refine kzH ?_ | refine kzB ?_ | refine kzK ?_ | refine kzE ?_ | refine kzg ?_) | with_reducible refine r_done ?_ | with_reducible refine s_go (by simp (disch := omega) only [RG22, EVA, plug, eq_self, simprocAttr]; with_reducible rfl) ?_ | ((with_reducible refine kzr ?_); refine zrF ?_) | ((with_reducible refine kzr ?_); refine zrP (c := by first | exact q1 _ | exact q2 _ | exact q3 _) (k := ?_)) | (with_reducible refine zkP (fun ht => ?_) (fun ht => ?_) <;> try first | exact False.elim ht | exact absurd rfl ht | exact absurd trivial ht | exact Bool.noConfusion ht) | (with_reducible (refine k_ret ?_; repeat first | refine kzt ?_ | refine kzb ?_ | refine fin ?_)) | (with_reducible (refine kzx ?_; repeat first | refine thru ?_ | refine kzo ?_ | refine pass (by decide) ?_)) | ((first | refine post1 ?_ | refine post2 ?_ | refine post3 ?_); simp only [GA, simprocAttr]) | refine post0 ?_
    refine k_blk (k_loopS (X := Unit) [1, 9, 10, 27, 28, 29] li.length (fun k _ => [(1, vH m), (9, .i .u64 ((orS (fitL l m) li k : Nat) : Int)), (10, .vs l.length (nu (fitL l m))), (27, vi li), (28, .i .i64 li.length), (29, .i .i64 (k : Int))]) (fun k _ h => True) () (by simp only [Am.keep, ZK, simprocAttr]; try rfl) trivial ?_)
    rintro k _ h hk - ok pos
    have lk := lt_64 (orS_lt (m := m) d hk) M
    by_cases klt : k < li.length
    ·have klt' : (k : Int) < li.length := by omega
     have g : (il li)[k]? = some (.i .i64 (lN li k)) := il_get klt
     have pk := (P k klt).1
     obtain ⟨a, ha⟩ : ∃ a : Nat, lN li k = (a : Int) := ⟨(lN li k).toNat, by omega⟩
     have e1 : orS (fitL l m) li (k + 1) = orS (fitL l m) li k ||| fitS m (zD l a) := by
      rw [orS, ha, Int.toNat_natCast, fitL_get (by omega)]
     rw [ha] at g pk
     have al : (a : Int) < l.length := pk.2
     have g2 := nu_get (l := fitL l m) (j := a) (by simp [fitL]; omega)
     rw [fitL_get (by omega)] at g2
     have o1 := or_64 lk (lt_64 (fitS_lt (m := m) (s := zD l a)) M)
     rw [← e1] at o1
     repeat' first | (with_reducible first | refine kzq ?_ | refine kzs ?_ | refine kzS ?_ | refine kzR ?_ | refine kzC ?_ | refine kzH ?_ | refine kzB ?_ | refine kzK ?_ | refine kzE ?_ | refine kzg ?_) | with_reducible refine r_done ?_ | with_reducible refine s_go (by simp (disch := omega) only [klt', g, al, g2, o1, RG22, EVA, plug, eq_self, simprocAttr]; with_reducible rfl) ?_ | ((with_reducible refine kzr ?_); refine zrF ?_) | (with_reducible refine zkP (fun ht => ?_) (fun ht => ?_) <;> try first | exact False.elim ht | exact absurd rfl ht | exact absurd trivial ht | exact Bool.noConfusion ht) | (with_reducible (refine k_ret ?_; repeat first | refine kzt ?_ | refine kzb ?_ | refine fin ?_)) | (with_reducible (refine kzx ?_; repeat first | refine thru ?_ | refine kzo ?_ | refine pass (by decide) ?_)) | ((first | refine post1 ?_ | refine post2 ?_ | refine post3 ?_); simp only [GA, simprocAttr]) | refine post0 ?_
     exact ⟨klt, (), (by simp only [Am.keep, ZK, simprocAttr]; try rfl), trivial⟩
    ·obtain rfl : k = li.length := by omega
     have klt' : ¬ (li.length : Int) < li.length := by omega
     have q4 := pc49 _ lk
     rw [← ce]
     generalize popA 64 (orS (fitL l m) li li.length) = pp at *
     repeat' first | (with_reducible first | refine kzq ?_ | refine kzs ?_ | refine kzS ?_ | refine kzR ?_ | refine kzC ?_ | refine kzH ?_ | refine kzB ?_ | refine kzK ?_ | refine kzE ?_ | refine kzg ?_) | with_reducible refine r_done ?_ | with_reducible refine s_go (by simp (disch := omega) only [klt', RG22, EVA, plug, eq_self, simprocAttr]; with_reducible rfl) ?_ | ((with_reducible refine kzr ?_); refine zrF ?_) | ((with_reducible refine kzr ?_); refine zrP (c := by first | exact q4 _) (k := ?_)) | (with_reducible refine zkP (fun ht => ?_) (fun ht => ?_) <;> try first | exact False.elim ht | exact absurd rfl ht | exact absurd trivial ht | exact Bool.noConfusion ht) | (with_reducible (refine k_ret ?_; repeat first | refine kzt ?_ | refine kzb ?_ | refine fin ?_)) | (with_reducible (refine kzx ?_; repeat first | refine thru ?_ | refine kzo ?_ | refine pass (by decide) ?_)) | ((first | refine post1 ?_ | refine post2 ?_ | refine post3 ?_); simp only [GA, simprocAttr]) | refine post0 ?_
     all_goals first | exact ends_of | exact ends_eq rfl
 ·have c' := eq_false c
  rw [if_pos c]
  repeat' first | (with_reducible first | refine kzq ?_ | refine kzs ?_ | refine kzS ?_ | refine kzR ?_ | refine kzC ?_ | refine kzH ?_ | refine kzB ?_ | refine kzK ?_ | refine kzE ?_ | refine kzg ?_) | with_reducible refine r_done ?_ | with_reducible refine s_go (by simp (disch := omega) only [c', RG22, EVA, plug, eq_self, simprocAttr]; with_reducible rfl) ?_ | ((with_reducible refine kzr ?_); refine zrF ?_) | ((with_reducible refine kzr ?_); refine zrP (c := by first | exact q1 _) (k := ?_)) | (with_reducible refine zkP (fun ht => ?_) (fun ht => ?_) <;> try first | exact False.elim ht | exact absurd rfl ht | exact absurd trivial ht | exact Bool.noConfusion ht) | (with_reducible (refine k_ret ?_; repeat first | refine kzt ?_ | refine kzb ?_ | refine fin ?_)) | (with_reducible (refine kzx ?_; repeat first | refine thru ?_ | refine kzo ?_ | refine pass (by decide) ?_)) | ((first | refine post1 ?_ | refine post2 ?_ | refine post3 ?_); simp only [GA, simprocAttr]) | refine post0 ?_
  all_goals first | exact ends_of | exact ends_eq rfl
def apP (l : List Sz) (m : List Hd) (li : List Int) (i j s : Nat) : Prop := fitB (zD l s) (hD m (lN li i).toNat) = true ∧ fitB (zD l s) (hD m (lN li j).toNat) = true
instance (l : List Sz) (m : List Hd) (li : List Int) (i j s : Nat) : Decidable (apP l m li i j s) := inferInstanceAs (Decidable (_ ∧ _))
def aptB (l : List Sz) (m : List Hd) (li : List Int) : Bool := decide (∀ i, i < li.length → ∀ j, j < i → ∀ s, s < l.length → ¬ apP l m li i j s)
def aptR (l : List Sz) (m : List Hd) (li : List Int) : Bool × Int := if chk l m ≠ 0 then (false, chk l m) else if pkOk li m.length = false then (false, 2) else (aptB l m li, 0)
theorem apt_two {l : List Sz} {m : List Hd} {li : List Int} (hm : m.length ≤ 40) (hp : pkOk li m.length = true) {s : Nat} (hs : s < l.length) : 1 < popA 64 (fitS m (zD l s) &&& shS li li.length) ↔ ∃ i j, i < li.length ∧ j < i ∧ apP l m li i j s := by
 have P := pkOk_iff.1 hp
 rw [pop_two]
 constructor
 ·rintro ⟨a, b, h1, h2, q1, q2⟩
  rw [Nat.testBit_and, Bool.and_eq_true, fitS_bit, shS_bit] at q1 q2
  obtain ⟨⟨ha, fa⟩, i, hi, ei⟩ := q1
  obtain ⟨⟨hb, fb⟩, j, hj, ej⟩ := q2
  rcases Nat.lt_trichotomy i j with q | q | q
  ·exact ⟨j, i, hj, q, by rw [ej]; exact fb, by rw [ei]; exact fa⟩
  ·subst q; omega
  ·exact ⟨i, j, hi, q, by rw [ei]; exact fa, by rw [ej]; exact fb⟩
 ·rintro ⟨i, j, hi, hji, f1, f2⟩
  have pi := P i hi
  have pj := P j (by omega)
  have ne : (lN li j).toNat ≠ (lN li i).toNat := fun q => by
   have := pi.2 j hji
   omega
  have key : ∀ {k : Nat}, k < li.length → fitB (zD l s) (hD m (lN li k).toNat) = true → (fitS m (zD l s) &&& shS li li.length).testBit (lN li k).toNat = true := fun {k} hk f => by
   have p := (P k hk).1
   rw [Nat.testBit_and, Bool.and_eq_true, fitS_bit, shS_bit]
   exact ⟨⟨by omega, f⟩, k, hk, rfl⟩
  rcases Nat.lt_or_gt_of_ne ne with q | q
  ·exact ⟨_, _, q, by omega, key (by omega) f2, key hi f1⟩
  ·exact ⟨_, _, q, by omega, key hi f1, key (by omega) f2⟩
theorem RG23 : (type_of% @c23r0.eq_1) ∧ (type_of% @c23r1.eq_1) ∧ (type_of% @c23r2.eq_1) ∧ (type_of% @c23r3.eq_1) ∧ (type_of% @c23r4.eq_1) ∧ (type_of% @c23r5.eq_1) ∧ (type_of% @c23r6.eq_1) ∧ (type_of% @c23r7.eq_1) ∧ (type_of% @c23r8.eq_1) ∧ (type_of% @c23r9.eq_1) ∧ (type_of% @c23r10.eq_1) ∧ (type_of% @c23r11.eq_1) ∧ (type_of% @c23r13.eq_1) ∧ (type_of% @c23r14.eq_1) ∧ (type_of% @c23r15.eq_1) ∧ (type_of% @c23r16.eq_1) ∧ (type_of% @c23r17.eq_1) ∧ (type_of% @c23r18.eq_1) ∧ (type_of% @c23r20.eq_1) := ⟨@c23r0.eq_1, @c23r1.eq_1, @c23r2.eq_1, @c23r3.eq_1, @c23r4.eq_1, @c23r5.eq_1, @c23r6.eq_1, @c23r7.eq_1, @c23r8.eq_1, @c23r9.eq_1, @c23r10.eq_1, @c23r11.eq_1, @c23r13.eq_1, @c23r14.eq_1, @c23r15.eq_1, @c23r16.eq_1, @c23r17.eq_1, @c23r18.eq_1, @c23r20.eq_1⟩
set_option maxHeartbeats 1000000 in
theorem pc29 (l : List Sz) (m : List Hd) (li : List Int) (hl : l.length ≤ 9223372036854775807) (hm : m.length ≤ 9223372036854775807) (hli : li.length ≤ 9223372036854775807) : PC Tryd.prog 23 [vZ l, vH m, vi li] (.tu [.b (aptR l m li).1, .i .i64 (aptR l m li).2]) := by
 have q1 := pc41 l m hl hm
 have q2 := pc47 li hli m.length
 unfold aptR
 refine pc_fn fn23 (by simp only [AV.plains, AV.plain, il_plain, bl_plain, Bool.and_true, Bool.true_and, Bool.and_self, fleZ_plain, fleH_plain, il_plain]) (by simp only [AV.plains, AV.plain, il_plain, bl_plain, Bool.and_true, Bool.true_and, Bool.and_self, fleZ_plain, fleH_plain, il_plain]) (Nat.le_of_ble_eq_true rfl) ?_
 rw [initSt3]
 by_cases c : chk l m = 0
 ·rw [if_neg (by simp [c])]
  rw [c] at q1
  cases d : pkOk li m.length with
  | false =>
    rw [d] at q2
    rw [if_pos rfl]
    repeat' first | (with_reducible first | refine kzq ?_ | refine kzs ?_ | refine kzS ?_ | refine kzR ?_ | refine kzC ?_ | refine kzH ?_ | refine kzB ?_ | refine kzK ?_ | refine kzE ?_ | refine kzg ?_) | with_reducible refine r_done ?_ | with_reducible refine s_go (by simp (disch := omega) only [RG23, EVA, plug, eq_self, simprocAttr]; with_reducible rfl) ?_ | ((with_reducible refine kzr ?_); refine zrF ?_) | ((with_reducible refine kzr ?_); refine zrP (c := by first | exact q1 _ | exact q2 _) (k := ?_)) | (with_reducible refine zkP (fun ht => ?_) (fun ht => ?_) <;> try first | exact False.elim ht | exact absurd rfl ht | exact absurd trivial ht | exact Bool.noConfusion ht) | (with_reducible (refine k_ret ?_; repeat first | refine kzt ?_ | refine kzb ?_ | refine fin ?_)) | (with_reducible (refine kzx ?_; repeat first | refine thru ?_ | refine kzo ?_ | refine pass (by decide) ?_)) | ((first | refine post1 ?_ | refine post2 ?_ | refine post3 ?_); simp only [GA, simprocAttr]) | refine post0 ?_
    all_goals first | exact ends_of | exact ends_eq rfl
  | true =>
    rw [d] at q2
    rw [if_neg (by simp)]
    have q3 := pc48 l m (chk_ok c).1 (chk_ok c).2
    have M := (hdsOk_iff.1 (chk_ok c).2).1
    have P := pkOk_iff.1 d
    repeat' first | (with_reducible first | refine kzq ?_ | refine kzs ?_ | refine kzS ?_ | refine kzR ?_ | refine kzC ?_ | refine kzH ?_ | refine kzB ?_ | refine kzK ?_ | refine kzE ?_ | refine kzg ?_) | with_reducible refine r_done ?_ | with_reducible refine s_go (by simp (disch := omega) only [RG23, EVA, plug, eq_self, simprocAttr]; with_reducible rfl) ?_ | ((with_reducible refine kzr ?_); refine zrF ?_) | ((with_reducible refine kzr ?_); refine zrP (c := by first | exact q1 _ | exact q2 _) (k := ?_)) | (with_reducible refine zkP (fun ht => ?_) (fun ht => ?_) <;> try first | exact False.elim ht | exact absurd rfl ht | exact absurd trivial ht | exact Bool.noConfusion ht) | (with_reducible (refine k_ret ?_; repeat first | refine kzt ?_ | refine kzb ?_ | refine fin ?_)) | (with_reducible (refine kzx ?_; repeat first | refine thru ?_ | refine kzo ?_ | refine pass (by decide) ?_)) | ((first | refine post1 ?_ | refine post2 ?_ | refine post3 ?_); simp only [GA, simprocAttr]) | refine post0 ?_
    refine k_blk (k_loopS (X := Unit) [0, 1, 9, 25, 26, 27] li.length (fun k _ => [(0, vZ l), (1, vH m), (9, .i .u64 ((shS li k : Nat) : Int)), (25, vi li), (26, .i .i64 li.length), (27, .i .i64 (k : Int))]) (fun k _ h => True) () (by simp only [Am.keep, ZK, simprocAttr]; try rfl) trivial ?_)
    rintro k _ h hk - ok pos
    have lk := lt_64 (shS_lt (m := m) d hk) M
    by_cases klt : k < li.length
    ·have klt' : (k : Int) < li.length := by omega
     have g : (il li)[k]? = some (.i .i64 (lN li k)) := il_get klt
     have pk := (P k klt).1
     obtain ⟨a, ha⟩ : ∃ a : Nat, lN li k = (a : Int) := ⟨(lN li k).toNat, by omega⟩
     have e1 : shS li (k + 1) = shS li k ||| 2 ^ a := by
      rw [shS, ha, Int.toNat_natCast]
     rw [ha] at g pk
     have sh := shl_64 (k := a) (by omega)
     have o1 := or_64 lk (pow_64 (k := a) (by omega))
     rw [← e1] at o1
     repeat' first | (with_reducible first | refine kzq ?_ | refine kzs ?_ | refine kzS ?_ | refine kzR ?_ | refine kzC ?_ | refine kzH ?_ | refine kzB ?_ | refine kzK ?_ | refine kzE ?_ | refine kzg ?_) | with_reducible refine r_done ?_ | with_reducible refine s_go (by simp (disch := omega) only [klt', g, sh, o1, RG23, EVA, plug, eq_self, simprocAttr]; with_reducible rfl) ?_ | ((with_reducible refine kzr ?_); refine zrF ?_) | (with_reducible refine zkP (fun ht => ?_) (fun ht => ?_) <;> try first | exact False.elim ht | exact absurd rfl ht | exact absurd trivial ht | exact Bool.noConfusion ht) | (with_reducible (refine k_ret ?_; repeat first | refine kzt ?_ | refine kzb ?_ | refine fin ?_)) | (with_reducible (refine kzx ?_; repeat first | refine thru ?_ | refine kzo ?_ | refine pass (by decide) ?_)) | ((first | refine post1 ?_ | refine post2 ?_ | refine post3 ?_); simp only [GA, simprocAttr]) | refine post0 ?_
     exact ⟨klt, (), (by simp only [Am.keep, ZK, simprocAttr]; try rfl), trivial⟩
    ·obtain rfl : k = li.length := by omega
     have klt' : ¬ (li.length : Int) < li.length := by omega
     repeat' first | (with_reducible first | refine kzq ?_ | refine kzs ?_ | refine kzS ?_ | refine kzR ?_ | refine kzC ?_ | refine kzH ?_ | refine kzB ?_ | refine kzK ?_ | refine kzE ?_ | refine kzg ?_) | with_reducible refine r_done ?_ | with_reducible refine s_go (by simp (disch := omega) only [klt', RG23, EVA, plug, eq_self, simprocAttr]; with_reducible rfl) ?_ | ((with_reducible refine kzr ?_); refine zrF ?_) | ((with_reducible refine kzr ?_); refine zrP (c := by first | exact q3 _) (k := ?_)) | (with_reducible refine zkP (fun ht => ?_) (fun ht => ?_) <;> try first | exact False.elim ht | exact absurd rfl ht | exact absurd trivial ht | exact Bool.noConfusion ht) | (with_reducible (refine k_ret ?_; repeat first | refine kzt ?_ | refine kzb ?_ | refine fin ?_)) | (with_reducible (refine kzx ?_; repeat first | refine thru ?_ | refine kzo ?_ | refine pass (by decide) ?_)) | ((first | refine post1 ?_ | refine post2 ?_ | refine post3 ?_); simp only [GA, simprocAttr]) | refine post0 ?_
     refine k_blk (k_loopS (X := Unit) [9, 38, 39, 40] l.length (fun s _ => [(9, .i .u64 ((shS li li.length : Nat) : Int)), (38, .vs l.length (nu (fitL l m))), (39, .i .i64 l.length), (40, .i .i64 (s : Int))]) (fun s _ h => ∀ t, t < s → ∀ i, i < li.length → ∀ j, j < i → ¬ apP l m li i j t) () (by simp only [Am.keep, ZK, simprocAttr]; try rfl) (fun t ht => by omega) ?_)
     rintro s _ h hs hf ok pos
     by_cases slt : s < l.length
     ·have slt' : (s : Int) < l.length := by omega
      have g2 := nu_get (l := fitL l m) (j := s) (by simp [fitL]; omega)
      rw [fitL_get slt] at g2
      have a1 := and_64 (lt_64 (fitS_lt (m := m) (s := zD l s)) M) lk
      have q4 := pc49 (fitS m (zD l s) &&& shS li li.length) (Nat.and_lt_two_pow _ lk)
      have two := apt_two (l := l) M d slt
      generalize fitS m (zD l s) &&& shS li li.length = w at *
      by_cases h1 : 1 < popA 64 w
      ·have h1' := eq_true (show (1 : Int) < ((popA 64 w : Nat) : Int) by omega)
       obtain ⟨i, j, hi, hj, ap⟩ := two.1 h1
       have e : aptB l m li = false := decide_eq_false fun h => h i hi j hj s slt ap
       rw [e]
       repeat' first | (with_reducible first | refine kzq ?_ | refine kzs ?_ | refine kzS ?_ | refine kzR ?_ | refine kzC ?_ | refine kzH ?_ | refine kzB ?_ | refine kzK ?_ | refine kzE ?_ | refine kzg ?_) | with_reducible refine r_done ?_ | with_reducible refine s_go (by simp (disch := omega) only [slt', g2, a1, h1', RG23, EVA, plug, eq_self, simprocAttr]; with_reducible rfl) ?_ | ((with_reducible refine kzr ?_); refine zrF ?_) | ((with_reducible refine kzr ?_); refine zrP (c := by first | exact q4 _) (k := ?_)) | (with_reducible refine zkP (fun ht => ?_) (fun ht => ?_) <;> try first | exact False.elim ht | exact absurd rfl ht | exact absurd trivial ht | exact Bool.noConfusion ht) | (with_reducible (refine k_ret ?_; repeat first | refine kzt ?_ | refine kzb ?_ | refine fin ?_)) | (with_reducible (refine kzx ?_; repeat first | refine thru ?_ | refine kzo ?_ | refine pass (by decide) ?_)) | ((first | refine post1 ?_ | refine post2 ?_ | refine post3 ?_); simp only [GA, simprocAttr]) | refine post0 ?_
       all_goals first | exact ends_of | exact ends_eq rfl
      ·have h1' := eq_false (show ¬ (1 : Int) < ((popA 64 w : Nat) : Int) by omega)
       repeat' first | (with_reducible first | refine kzq ?_ | refine kzs ?_ | refine kzS ?_ | refine kzR ?_ | refine kzC ?_ | refine kzH ?_ | refine kzB ?_ | refine kzK ?_ | refine kzE ?_ | refine kzg ?_) | with_reducible refine r_done ?_ | with_reducible refine s_go (by simp (disch := omega) only [slt', g2, a1, h1', RG23, EVA, plug, eq_self, simprocAttr]; with_reducible rfl) ?_ | ((with_reducible refine kzr ?_); refine zrF ?_) | ((with_reducible refine kzr ?_); refine zrP (c := by first | exact q4 _) (k := ?_)) | (with_reducible refine zkP (fun ht => ?_) (fun ht => ?_) <;> try first | exact False.elim ht | exact absurd rfl ht | exact absurd trivial ht | exact Bool.noConfusion ht) | (with_reducible (refine k_ret ?_; repeat first | refine kzt ?_ | refine kzb ?_ | refine fin ?_)) | (with_reducible (refine kzx ?_; repeat first | refine thru ?_ | refine kzo ?_ | refine pass (by decide) ?_)) | ((first | refine post1 ?_ | refine post2 ?_ | refine post3 ?_); simp only [GA, simprocAttr]) | refine post0 ?_
       refine ⟨slt, (), (by simp only [Am.keep, ZK, simprocAttr]; try rfl), fun t ht i hi j hj ap => ?_⟩
       by_cases e : t = s
       ·subst e; exact h1 (two.2 ⟨i, j, hi, hj, ap⟩)
       ·exact hf t (by omega) i hi j hj ap
     ·obtain rfl : s = l.length := by omega
      have slt' : ¬ (l.length : Int) < l.length := by omega
      have e : aptB l m li = true := decide_eq_true fun i hi j hj t ht => hf t ht i hi j hj
      rw [e]
      repeat' first | (with_reducible first | refine kzq ?_ | refine kzs ?_ | refine kzS ?_ | refine kzR ?_ | refine kzC ?_ | refine kzH ?_ | refine kzB ?_ | refine kzK ?_ | refine kzE ?_ | refine kzg ?_) | with_reducible refine r_done ?_ | with_reducible refine s_go (by simp (disch := omega) only [slt', RG23, EVA, plug, eq_self, simprocAttr]; with_reducible rfl) ?_ | ((with_reducible refine kzr ?_); refine zrF ?_) | (with_reducible refine zkP (fun ht => ?_) (fun ht => ?_) <;> try first | exact False.elim ht | exact absurd rfl ht | exact absurd trivial ht | exact Bool.noConfusion ht) | (with_reducible (refine k_ret ?_; repeat first | refine kzt ?_ | refine kzb ?_ | refine fin ?_)) | (with_reducible (refine kzx ?_; repeat first | refine thru ?_ | refine kzo ?_ | refine pass (by decide) ?_)) | ((first | refine post1 ?_ | refine post2 ?_ | refine post3 ?_); simp only [GA, simprocAttr]) | refine post0 ?_
      all_goals first | exact ends_of | exact ends_eq rfl
 ·have c' := eq_false c
  rw [if_pos c]
  repeat' first | (with_reducible first | refine kzq ?_ | refine kzs ?_ | refine kzS ?_ | refine kzR ?_ | refine kzC ?_ | refine kzH ?_ | refine kzB ?_ | refine kzK ?_ | refine kzE ?_ | refine kzg ?_) | with_reducible refine r_done ?_ | with_reducible refine s_go (by simp (disch := omega) only [c', RG23, EVA, plug, eq_self, simprocAttr]; with_reducible rfl) ?_ | ((with_reducible refine kzr ?_); refine zrF ?_) | ((with_reducible refine kzr ?_); refine zrP (c := by first | exact q1 _) (k := ?_)) | (with_reducible refine zkP (fun ht => ?_) (fun ht => ?_) <;> try first | exact False.elim ht | exact absurd rfl ht | exact absurd trivial ht | exact Bool.noConfusion ht) | (with_reducible (refine k_ret ?_; repeat first | refine kzt ?_ | refine kzb ?_ | refine fin ?_)) | (with_reducible (refine kzx ?_; repeat first | refine thru ?_ | refine kzo ?_ | refine pass (by decide) ?_)) | ((first | refine post1 ?_ | refine post2 ?_ | refine post3 ?_); simp only [GA, simprocAttr]) | refine post0 ?_
  all_goals first | exact ends_of | exact ends_eq rfl
end Go.Proofs.YtjaihaccehaicaaDoor
set_option linter.unusedVariables false
set_option linter.unusedSimpArgs false
namespace Go.Proofs.YtjaihaccehaicaaDoor
open Go Go.Am Go.Proofs
theorem and_split2 {a p u q : Nat} (ha : a < 2) (hp : p < 2) : (a + 2 * u) &&& (p + 2 * q) = (a &&& p) + 2 * (u &&& q) := by
 have h1 : ((a + 2 * u) &&& (p + 2 * q)) % 2 ^ 1 = a &&& p := by
  rw [Nat.and_mod_two_pow]
  congr 1 <;> omega
 have h2 : ((a + 2 * u) &&& (p + 2 * q)) / 2 ^ 1 = u &&& q := by
  rw [Nat.and_div_two_pow]
  congr 1 <;> omega
 omega
def tzA : Nat → Nat → Nat
 | 0, _ => 0
 | m + 1, x => if x % 2 = 1 then 0 else 1 + tzA m (x / 2)
theorem compl_and : ∀ {m y : Nat}, y < 2 ^ m → y &&& (2 ^ m - 1 - y) = 0
 | 0, y, h => by
   have : y = 0 := by simpa using h
   subst this
   rfl
 | m + 1, y, h => by
   rw [Nat.pow_succ] at h ⊢
   have ih := compl_and (m := m) (y := y / 2) (by omega)
   have e1 : y = y % 2 + 2 * (y / 2) := by omega
   have e2 : 2 ^ m * 2 - 1 - y = (1 - y % 2) + 2 * (2 ^ m - 1 - y / 2) := by omega
   rw [e2]
   conv => lhs; lhs; rw [e1]
   rw [and_split2 (by omega) (by omega), ih]
   rcases Nat.mod_two_eq_zero_or_one y with e | e <;> rw [e] <;> rfl
theorem neg_and : ∀ {m x : Nat}, 0 < x → x < 2 ^ m → x &&& (2 ^ m - x) = 2 ^ tzA m x
 | 0, x, h0, h => by
   have : x = 0 := by simpa using h
   omega
 | m + 1, x, h0, h => by
   rw [Nat.pow_succ] at h ⊢
   rw [tzA]
   rcases Nat.mod_two_eq_zero_or_one x with e | e
   ·have e1 : x = 0 + 2 * (x / 2) := by omega
    have e2 : 2 ^ m * 2 - x = 0 + 2 * (2 ^ m - x / 2) := by omega
    rw [e2, if_neg (by omega)]
    conv => lhs; lhs; rw [e1]
    rw [and_split2 (by omega) (by omega), neg_and (by omega) (by omega), Nat.add_comm 1, Nat.pow_succ]
    simp only [Nat.and_self, Nat.zero_add]
    omega
   ·have e1 : x = 1 + 2 * (x / 2) := by omega
    have e2 : 2 ^ m * 2 - x = 1 + 2 * (2 ^ m - 1 - x / 2) := by omega
    rw [e2, if_pos e]
    conv => lhs; lhs; rw [e1]
    rw [and_split2 (by omega) (by omega), compl_and (by omega)]
    rfl
theorem tz_bit : ∀ {m x : Nat}, 0 < x → x < 2 ^ m → tzA m x < m ∧ x.testBit (tzA m x) = true ∧ (∀ i, i < tzA m x → x.testBit i = false) ∧ ∀ i, (x &&& (x - 1)).testBit i = (x.testBit i && decide (i ≠ tzA m x))
 | 0, x, h0, h => by
   have : x = 0 := by simpa using h
   omega
 | m + 1, x, h0, h => by
   rw [Nat.pow_succ] at h
   rw [tzA]
   rcases Nat.mod_two_eq_zero_or_one x with e | e
   ·rw [if_neg (by omega)]
    obtain ⟨i1, i2, i3, i4⟩ := tz_bit (m := m) (x := x / 2) (by omega) (by omega)
    refine ⟨by omega, ?_, fun i hi => ?_, fun i => ?_⟩
    ·rw [Nat.add_comm 1, Nat.testBit_succ]; exact i2
    ·cases i with
     | zero => rw [Nat.testBit_zero, e]; rfl
     | succ i => rw [Nat.testBit_succ]; exact i3 i (by omega)
    ·have e1 : x = 0 + 2 * (x / 2) := by omega
     have e2 : x - 1 = 1 + 2 * (x / 2 - 1) := by omega
     have e3 : x &&& (x - 1) = 2 * (x / 2 &&& (x / 2 - 1)) := by
      rw [e2]
      conv => lhs; lhs; rw [e1]
      rw [and_split2 (by omega) (by omega)]
      simp
     rw [e3]
     cases i with
     | zero => rw [Nat.testBit_zero, Nat.testBit_zero, e]; simp
     | succ i =>
       rw [Nat.testBit_succ, Nat.testBit_succ, Nat.mul_div_cancel_left _ (by omega), i4]
       congr 2
       rw [eq_iff_iff]; omega
   ·rw [if_pos e]
    refine ⟨by omega, by rw [Nat.testBit_zero, e]; rfl, fun i hi => by omega, fun i => ?_⟩
    have e1 : x = 1 + 2 * (x / 2) := by omega
    have e2 : x - 1 = 0 + 2 * (x / 2) := by omega
    have e3 : x &&& (x - 1) = 2 * (x / 2) := by
     rw [e2]
     conv => lhs; lhs; rw [e1]
     rw [and_split2 (by omega) (by omega)]
     simp
    rw [e3]
    cases i with
    | zero => rw [Nat.testBit_zero]; simp
    | succ i =>
      rw [Nat.testBit_succ, Nat.testBit_succ, Nat.mul_div_cancel_left _ (by omega)]
      simp
theorem filt_step {p q : Nat → Bool} {t : Nat} (ht : p t = true) (hl : ∀ i, i < t → p i = false) (hq : ∀ i, q i = (p i && decide (i ≠ t))) : ∀ {n : Nat}, t < n → (List.range n).filter p = t :: (List.range n).filter q
 | n + 1, h => by
   rw [List.range_succ, List.filter_append, List.filter_append]
   by_cases e : t = n
   ·subst e
    have e1 : (List.range t).filter p = [] := List.filter_eq_nil_iff.2 fun a ha => by rw [hl a (List.mem_range.1 ha)]; simp
    have e2 : (List.range t).filter q = [] := List.filter_eq_nil_iff.2 fun a ha => by rw [hq, hl a (List.mem_range.1 ha)]; simp
    rw [e1, e2, List.filter_cons, if_pos ht, List.filter_cons, hq t]
    simp
   ·rw [filt_step ht hl hq (n := n) (by omega), List.cons_append]
    congr 2
    have : q n = p n := by rw [hq]; have : n ≠ t := fun q => e q.symm; simp [this]
    rw [List.filter_cons, List.filter_cons, this]
    rfl
def bts (s : Nat) : List Int := ((List.range 64).filter fun i => s.testBit i).map fun i : Nat => (i : Int)
theorem bts_zero : bts 0 = [] := by
 unfold bts
 rw [List.filter_eq_nil_iff.2 fun a _ => by simp]
 rfl
theorem bts_step {s : Nat} (h0 : 0 < s) (h : s < 2 ^ 64) : bts s = (tzA 64 s : Int) :: bts (s &&& (s - 1)) := by
 obtain ⟨h1, h2, h3, h4⟩ := tz_bit h0 h
 unfold bts
 rw [filt_step (p := fun i => s.testBit i) h2 h3 h4 h1]
 rfl
theorem clr_lt {s : Nat} (h0 : 0 < s) : s &&& (s - 1) < s := Nat.lt_of_le_of_lt Nat.and_le_right (by omega)
theorem bts_len (s : Nat) : (bts s).length ≤ 64 := by
 unfold bts
 rw [List.length_map]
 exact Nat.le_trans (List.length_filter_le _ _) (by simp)
def deB : List Nat := [0, 1, 56, 2, 57, 49, 28, 3, 61, 58, 42, 50, 38, 29, 17, 4, 62, 47, 59, 36, 45, 43, 51, 22, 53, 39, 33, 30, 24, 18, 12, 5, 63, 55, 48, 27, 60, 41, 37, 16, 46, 35, 44, 21, 52, 32, 23, 11, 54, 26, 40, 15, 34, 20, 31, 10, 25, 14, 19, 9, 13, 8, 7, 6]
end Go.Proofs.YtjaihaccehaicaaDoor
set_option linter.unusedVariables false
namespace Go.Am
section
variable {P : Program} {N : Nat} {Q : Exit → St → AH → Prop} {st : St} {h : AH}
theorem w_frzS {c : AC} (d : Nat) {t n a : Nat} (k : Nat) {cs : List AV} (hm : h.m t = some (.cells true cs)) (hd : st.get d = .sl t 0 n a) (hl : n * k = cs.length) (w : W P N c Q ((d, .vs n cs) :: st) (h.kill t)) : W P N c Q st h :=
 w_frz hm (fun x => by
  simp only [St.get]
  by_cases e : x = d
  ·subst e
   rw [if_pos rfl, hd]
   have := @FrzV.sl t cs 0 n k a (by omega)
   rwa [List.drop_zero, hl, List.take_length] at this
  ·rw [if_neg e]; exact .same) w
theorem w_nilS {c : AC} (d : Nat) {a : Nat} (hd : st.get d = .sl 0 0 0 a) (w : W P N c Q ((d, .vs 0 []) :: st) h) : W P N c Q st h :=
 w_frz0 (fun x => by
  rw [show St.get ((d, AV.vs 0 []) :: st) x = if x = d then .vs 0 [] else st.get x from rfl]
  by_cases e : x = d
  ·subst e; rw [if_pos rfl, hd]; exact .nil
  ·rw [if_neg e]; exact .same) w
end
end Go.Am
set_option linter.unusedVariables false
set_option linter.unusedSimpArgs false
namespace Go.Proofs.YtjaihaccehaicaaDoor
open Go Go.Am Go.Proofs
theorem TABC_deB : TABC = deB.map fun n : Nat => AV.i .u8 (n : Int) := rfl
theorem deB_idx : ∀ k : Fin 64, deB[(2 ^ k.val * 285870213051353865) % 2 ^ 64 / 2 ^ 58]? = some k.val := by decide +kernel
theorem TABC_at {k : Nat} (h : k < 64) : TABC[(2 ^ k * 285870213051353865) % 2 ^ 64 / 2 ^ 58]? = some (.i .u8 (k : Int)) := by
 rw [TABC_deB, List.getElem?_map, deB_idx ⟨k, h⟩]; rfl
theorem wrapU (n : Int) : IntKind.u64.wrap n = n % 18446744073709551616 := rfl
theorem rd_one (cs : List AV) (o : Nat) : rd cs o none = cs[o]? := rfl
theorem RG70 : (type_of% @c70r0.eq_1) ∧ (type_of% @c70r1.eq_1) ∧ (type_of% @c70r2.eq_1) ∧ (type_of% @c70r3.eq_1) := ⟨@c70r0.eq_1, @c70r1.eq_1, @c70r2.eq_1, @c70r3.eq_1⟩
theorem d70 (x : Nat) (h0 : 0 < x) (h : x < 2 ^ 64) : PC Tryd.prog 70 [.i .u64 (x : Int)] (.i .i64 (tzA 64 x : Nat)) := by
 obtain ⟨t1, -, -, -⟩ := tz_bit h0 h
 have n1 : IntKind.u64.wrap (0 - (x : Int)) = ((2 ^ 64 - x : Nat) : Int) := by
  rw [wrapU]; omega
 have n2 := and_64 h (show 2 ^ 64 - x < 2 ^ 64 by omega)
 rw [neg_and h0 h] at n2
 have z := eq_false (show ¬ (x : Int) = 0 by omega)
 generalize tzA 64 x = k at *
 have n3 : IntKind.u64.wrap (((2 ^ k : Nat) : Int) * 285870213051353865) = ((2 ^ k * 285870213051353865 % 2 ^ 64 : Nat) : Int) := by
  rw [wrapU]; generalize 2 ^ k = y; omega
 have n4 := shr_64 (2 ^ k * 285870213051353865 % 2 ^ 64) 58 (by omega)
 have n5 : ((2 ^ k * 285870213051353865 % 2 ^ 64 / 2 ^ 58 : Nat) : Int) < 64 := by
  generalize 2 ^ k * 285870213051353865 = y; omega
 have n6 := TABC_at t1
 have n7 : IntKind.i64.wrap (k : Int) = k := wrap64 (by omega) (by omega)
 generalize 2 ^ k * 285870213051353865 % 2 ^ 64 / 2 ^ 58 = j at *
 generalize 2 ^ k * 285870213051353865 % 2 ^ 64 = i at *
 generalize 2 ^ k = y at *
 generalize 2 ^ 64 - x = v at *
 have j0 : (0 : Int) ≤ (j : Int) := by omega
 refine pc_fn fn70 (by simp only [AV.plains, AV.plain, il_plain, bl_plain, Bool.and_true, Bool.true_and, Bool.and_self]) (by simp only [AV.plains, AV.plain, il_plain, bl_plain, Bool.and_true, Bool.true_and, Bool.and_self]) (Nat.le_of_ble_eq_true rfl) ?_
 rw [initSt1]
 repeat' first | (with_reducible first | refine kzq ?_ | refine kzs ?_ | refine kzS ?_ | refine kzR ?_ | refine kzC ?_ | refine kzH ?_ | refine kzB ?_ | refine kzK ?_ | refine kzE ?_ | refine kzg ?_) | with_reducible refine r_done ?_ | with_reducible refine s_go (by simp (disch := omega) only [z, n1, n2, n3, n4, n5, n6, n7, j0, rd_one, RG70, EVA, plug, eq_self, simprocAttr]; with_reducible rfl) ?_ | ((with_reducible refine kzr ?_); refine zrF ?_) | (with_reducible refine zkP (fun ht => ?_) (fun ht => ?_) <;> try first | exact False.elim ht | exact absurd rfl ht | exact absurd trivial ht | exact Bool.noConfusion ht) | (with_reducible (refine k_ret ?_; repeat first | refine kzt ?_ | refine kzb ?_ | refine fin ?_)) | (with_reducible (refine kzx ?_; repeat first | refine thru ?_ | refine kzo ?_ | refine pass (by decide) ?_)) | ((first | refine post1 ?_ | refine post2 ?_ | refine post3 ?_); simp only [GA, simprocAttr]) | refine post0 ?_
 all_goals first | exact ends_of | exact ends_eq rfl
theorem a43 (s : Int) (h : AH) : ACalls Tryd.prog 43 [.i .u64 s] h fun r h' => ∃ t, r = .fn 69 [] [.p t 0] ∧ h.nx ≤ t ∧ h'.m t = some (.cells true [.i .u64 s]) ∧ (∀ u, u < h.nx → h'.m u = h.m u) ∧ h.nx ≤ h'.nx := by
 refine a_fn fn43 (by simp) fun ok pos => ?_
 rw [initSt1]
 repeat' first | (with_reducible first | refine kzq ?_ | refine kzs ?_ | refine kzS ?_ | refine kzR ?_ | refine kzC ?_ | refine kzH ?_ | refine kzB ?_ | refine kzK ?_ | refine kzE ?_ | refine kzg ?_) | with_reducible refine r_done ?_ | with_reducible refine s_go (by simp (disch := omega) only [c43r0, c43r1, EVA, plug, eq_self, simprocAttr]; with_reducible rfl) ?_ | ((with_reducible refine kzr ?_); refine zrF ?_) | (with_reducible refine zkP (fun ht => ?_) (fun ht => ?_) <;> try first | exact False.elim ht | exact absurd rfl ht | exact absurd trivial ht | exact Bool.noConfusion ht) | (with_reducible (refine k_ret ?_; repeat first | refine kzt ?_ | refine kzb ?_ | refine fin ?_)) | (with_reducible (refine kzx ?_; repeat first | refine thru ?_ | refine kzo ?_ | refine pass (by decide) ?_)) | ((first | refine post1 ?_ | refine post2 ?_ | refine post3 ?_); simp only [GA, simprocAttr]) | refine post0 ?_
 refine ⟨_, rfl, Nat.le_refl _, by simp (disch := omega) only [c43r0, c43r1, EVA, plug, eq_self, simprocAttr] <;> rfl, fun u hu => ?_, by simp (disch := omega) only [c43r0, c43r1, EVA, plug, eq_self, simprocAttr] <;> omega⟩
 have : ¬ u = h.nx := by omega
 simp (disch := omega) only [this, c43r0, c43r1, EVA, plug, eq_self, simprocAttr]
abbrev cl (s : Nat) : Blk := .cells true [.i .u64 (s : Int)]
theorem end68 {R : AV → AH → Prop} {sv : AV} {t tb x : Nat} {xs : List Int} {h : AH} (A : App sv t tb x xs h) (hA : ∀ h2, (∀ u, h2.m u = (h.kill t).m u) → h.nx ≤ h2.nx → R (.sl x 0 xs.length 1) h2) :
 W0 Tryd.prog 13 (.seq (.reg c68r5) .ret) (athen (Post q68 R) (Fin (Post q68 R))) [(6, sv), (4, .sl 0 0 0 0), (2, .p tb 0), (0, .sl 0 0 0 0), (1, sv)] (h.kill t) := by
 obtain ⟨hr, hb, hx, x0, t1, t2, t3⟩ := A
 have t1' : ¬ tb = t := fun q => t1 q.symm
 have hb' : (h.kill t).m tb = some (.cells true [.sl x 0 xs.length 1]) := by simp only [AH.kill, t1', if_false]; exact hb
 refine w0_of ?_
 repeat' first | (with_reducible first | refine kzq ?_ | refine kzs ?_ | refine kzS ?_ | refine kzR ?_ | refine kzC ?_ | refine kzH ?_ | refine kzB ?_ | refine kzK ?_ | refine kzE ?_ | refine kzg ?_) | with_reducible refine r_done ?_ | with_reducible refine s_go (by simp (disch := omega) only [hb', row_m hb', read_row (row_m hb'), RG68, EVA, plug, eq_self, simprocAttr]; with_reducible rfl) ?_ | ((with_reducible refine kzr ?_); refine zrF ?_) | (with_reducible refine zkP (fun ht => ?_) (fun ht => ?_) <;> try first | exact False.elim ht | exact absurd rfl ht | exact absurd trivial ht | exact Bool.noConfusion ht) | (with_reducible (refine k_ret ?_; repeat first | refine kzt ?_ | refine kzb ?_ | refine fin ?_)) | (with_reducible (refine kzx ?_; repeat first | refine thru ?_ | refine kzo ?_ | refine pass (by decide) ?_)) | ((first | refine post1 ?_ | refine post2 ?_ | refine post3 ?_); simp only [GA, simprocAttr]) | refine post0 ?_
 exact hA _ (fun u => rfl) (by simp only [AH.bump_nx, AH.kill_nx]; omega)
set_option maxHeartbeats 1000000 in
theorem n68a (t : Nat) (s : Nat) (hs : s < 2 ^ 64) (h : AH) (hm : h.m t = some (cl s)) : ACalls Tryd.prog 68 [.sl 0 0 0 0, .fn 69 [] [.p t 0]] h fun r h' => r = vi (bts s) ∧ Upd t [.i .u64 0] h h' := by
 refine acalls_frz ?_
 refine ACalls.mono (R := EndsW (vi (bts s)) (Upd t [.i .u64 0] h)) ?_ fun r h' ⟨h'', F, hR⟩ => ⟨_, h'', F, rfl, hR⟩
 refine a_fn0 fn68 (by simp) fun ok pos => ?_
 have lt := ok.m hm
 rw [initSt2]
 refine k0_seq ?_
 repeat' first | (with_reducible first | refine kzq ?_ | refine kzs ?_ | refine kzS ?_ | refine kzR ?_ | refine kzC ?_ | refine kzH ?_ | refine kzB ?_ | refine kzK ?_ | refine kzE ?_ | refine kzg ?_) | with_reducible refine r_done ?_ | with_reducible refine s_go (by simp (disch := omega) only [RG68, EVA, plug, eq_self, simprocAttr]; with_reducible rfl) ?_ | ((with_reducible refine kzr ?_); refine zrF ?_) | (with_reducible refine k_condP (by simp only [GA, simprocAttr]; rfl) (by first | (simp only [BO]; rfl) | rfl) (fun ht => ?_) (fun ht => ?_) <;> try (first | exact False.elim ht | exact absurd rfl ht | exact absurd trivial ht | exact Bool.noConfusion ht)) | (with_reducible (refine k_ret ?_; repeat first | refine kzt ?_ | refine kzb ?_ | refine fin ?_)) | (with_reducible (refine kzx ?_; repeat first | refine thru ?_ | refine kzo ?_ | refine pass (by decide) ?_)) | ((first | refine post1 ?_ | refine post2 ?_ | refine post3 ?_); simp only [GA, simprocAttr]) | refine post0 ?_
 refine k0_seq0 (k0_seq ?_)
 refine w_virtH 1 (s := h.nx) (ds := [.sl 0 0 0 0]) (i := 0) (by simp (disch := omega) only [RG68, EVA, plug, eq_self, simprocAttr] <;> rfl) rfl fun pos1 lt1 => ?_
 repeat' first | (with_reducible first | refine kzq ?_ | refine kzs ?_ | refine kzS ?_ | refine kzR ?_ | refine kzC ?_ | refine kzH ?_ | refine kzB ?_ | refine kzK ?_ | refine kzE ?_ | refine kzg ?_) | with_reducible refine r_done ?_ | with_reducible refine s_go (by simp (disch := omega) only [RG68, EVA, plug, eq_self, simprocAttr]; with_reducible rfl) ?_ | ((with_reducible refine kzr ?_); refine zrF ?_) | (with_reducible refine k_condP (by simp only [GA, simprocAttr]; rfl) (by first | (simp only [BO]; rfl) | rfl) (fun ht => ?_) (fun ht => ?_) <;> try (first | exact False.elim ht | exact absurd rfl ht | exact absurd trivial ht | exact Bool.noConfusion ht)) | (with_reducible (refine k_ret ?_; repeat first | refine kzt ?_ | refine kzb ?_ | refine fin ?_)) | (with_reducible (refine kzx ?_; repeat first | refine thru ?_ | refine kzo ?_ | refine pass (by decide) ?_)) | ((first | refine post1 ?_ | refine post2 ?_ | refine post3 ?_); simp only [GA, simprocAttr]) | refine post0 ?_
 refine k0_blk (w0_rf rfl fun ok2 pos2 => ?_)
 simp only [List.nil_append, List.cons_append]
 refine i_fn fn69 rfl (by simp) fun ok3 pos3 => ?_
 rw [initSt2]
 have a1 : ¬ t = h.nx := by omega
 have a2 : ¬ t = h.nx + 2 := by omega
 have a3 : ¬ t = h.nx + 2 + 1 := by omega
 have a4 : ¬ t = h.nx + 2 + 1 + 1 := by omega
 refine k_blk (k_loopW (X := Nat × Nat × List Int) [0, 1] (fun x => [(0, .fy (h.nx + 2 + 1 + 1)), (1, .p t 0)]) (fun x => x.2.1)
  (fun x h' => App (.fn 69 [] [.p t 0]) (h.nx + 2 + 1 + 1) h.nx x.1 x.2.2 h' ∧ h'.m t = some (cl x.2.1) ∧ x.2.1 < 2 ^ 64 ∧ x.2.2 ++ bts x.2.1 = bts s ∧ (∀ u, u < h.nx → u ≠ t → h'.m u = h.m u) ∧ h.nx + 2 + 1 + 1 < h'.nx ∧ (h.nx ≤ x.1)) (h.nx + 2, s, [])
  (by simp only [Am.keep, List.map_cons, List.map_nil, GA, simprocAttr]; try rfl) ⟨⟨by simp (disch := omega) only [c69r0, c69r1, c69r2, EVA, plug, eq_self, simprocAttr] <;> rfl, by simp (disch := omega) only [c69r0, c69r1, c69r2, EVA, plug, eq_self, simprocAttr] <;> rfl, by simp (disch := omega) only [c69r0, c69r1, c69r2, EVA, plug, eq_self, simprocAttr] <;> rfl, by omega, by omega, by omega, by omega⟩, by simp (disch := omega) only [hm, a1, a2, a3, a4, c69r0, c69r1, c69r2, EVA, plug, eq_self, simprocAttr], hs, rfl, fun u hu hn => ?_, by simp (disch := omega) only [c69r0, c69r1, c69r2, EVA, plug, eq_self, simprocAttr] <;> omega, by omega⟩ ?_)
 ·have b1 : ¬ u = h.nx := by omega
  have b2 : ¬ u = h.nx + 2 := by omega
  have b3 : ¬ u = h.nx + 2 + 1 := by omega
  have b4 : ¬ u = h.nx + 2 + 1 + 1 := by omega
  simp (disch := omega) only [b1, b2, b3, b4, c69r0, c69r1, c69r2, EVA, plug, eq_self, simprocAttr]
 rintro ⟨x, y, xs⟩ h2 ⟨A, hy, y64, hb, hk, hn, hx⟩ ok4 pos4
 simp only at A hy y64 hb hk hn hx ⊢
 have ll := bts_len s
 rw [← hb, List.length_append] at ll
 have lx := ok4.m A.c
 by_cases y0 : y = 0
 ·subst y0
  rw [bts_zero, List.append_nil] at hb
  subst hb
  repeat' first | (with_reducible first | refine kzq ?_ | refine kzs ?_ | refine kzS ?_ | refine kzR ?_ | refine kzC ?_ | refine kzH ?_ | refine kzB ?_ | refine kzK ?_ | refine kzE ?_ | refine kzg ?_) | with_reducible refine r_done ?_ | with_reducible refine s_go (by simp (disch := omega) only [hy, row_m hy, read_row (row_m hy), c69r0, c69r1, c69r2, EVA, plug, eq_self, simprocAttr]; with_reducible rfl) ?_ | ((with_reducible refine kzr ?_); refine zrF ?_) | (with_reducible refine k_condP (by simp only [GA, simprocAttr]; rfl) (by first | (simp only [BO]; rfl) | rfl) (fun ht => ?_) (fun ht => ?_) <;> try (first | exact False.elim ht | exact absurd rfl ht | exact absurd trivial ht | exact Bool.noConfusion ht)) | (with_reducible (refine k_ret ?_; repeat first | refine kzt ?_ | refine kzb ?_ | refine fin ?_)) | (with_reducible (refine kzx ?_; repeat first | refine thru ?_ | refine kzo ?_ | refine pass (by decide) ?_)) | ((first | refine post1 ?_ | refine post2 ?_ | refine post3 ?_); simp only [GA, simprocAttr]) | refine post0 ?_
  refine ⟨A.r, end68 ⟨A.r, A.b, A.c, A.x0, A.t1, A.t2, A.t3⟩ fun h3 e3 n3 => ?_⟩
  have kn : ∀ u, u ≠ h.nx + 2 + 1 + 1 → h3.m u = h2.m u := fun u hu => by
   rw [e3 u]
   simp (disch := omega) only [hu, c69r0, c69r1, c69r2, EVA, plug, eq_self, simprocAttr]
  refine ⟨h3.kill x, .step (by rw [kn x (fun q => A.t2 q.symm)]; exact A.c) (FrzH.kill _ _ _) ?_ .done, ?_, fun u h1 h2' => ?_, ?_⟩
  ·have := @FrzV.sl x (il (bts s)) 0 (bts s).length 1 1 (by rw [il_len]; omega)
   rwa [List.drop_zero, Nat.mul_one, List.take_of_length_le (by rw [il_len]; exact Nat.le_refl _)] at this
  ·have : ¬ t = x := by omega
   simp only [AH.kill, this, if_false]
   rw [kn t (by omega)]
   exact hy
  ·have : ¬ u = x := by omega
   simp only [AH.kill, this, if_false]
   rw [kn u (by omega)]
   exact hk u h1 h2'
  ·simp only [AH.kill_nx]
   simp only [AH.bump_nx] at n3
   omega
 ·have z := eq_false (show ¬ (y : Int) = 0 by omega)
  have st := bts_step (s := y) (by omega) y64
  rw [st] at hb
  have q70 := d70 y (by omega) y64
  have lt2 := ok4.m hy
  have w1 : IntKind.u64.wrap ((y : Int) - 1) = ((y - 1 : Nat) : Int) := by rw [wrapU]; omega
  have w2 := and_64 y64 (show y - 1 < 2 ^ 64 by omega)
  have w3 := clr_lt (s := y) (by omega)
  generalize tzA 64 y = k at *
  obtain ⟨y', ey⟩ : ∃ y', y' = y &&& (y - 1) := ⟨_, rfl⟩
  rw [← ey] at hb w2 w3
  repeat' first | with_reducible refine kzq ?_ | with_reducible refine kzs ?_ | with_reducible refine kzS ?_ | with_reducible refine kzR ?_ | with_reducible refine kzC ?_ | with_reducible refine kzH ?_ | with_reducible refine kzB ?_ | with_reducible refine kzK ?_ | with_reducible refine kzE ?_ | (fail_if_success (with_reducible refine kzg (ops := c69r1) ?_)); with_reducible refine kzg ?_ | with_reducible refine r_done ?_ | with_reducible refine s_go (by simp (disch := omega) only [hy, row_m hy, read_row (row_m hy), z, c69r0, c69r1, c69r2, EVA, plug, eq_self, simprocAttr]; with_reducible rfl) ?_ | ((with_reducible refine kzr ?_); refine zrF ?_) | (with_reducible refine k_condP (by simp only [GA, simprocAttr]; rfl) (by first | (simp only [BO]; rfl) | rfl) (fun ht => ?_) (fun ht => ?_) <;> try (first | exact False.elim ht | exact absurd rfl ht | exact absurd trivial ht | exact Bool.noConfusion ht)) | (with_reducible refine k_ret ?_; repeat with_reducible (first | refine kzt ?_ | refine kzb ?_ | refine fin ?_)) | (with_reducible refine kzx ?_; repeat with_reducible (first | refine thru ?_ | refine kzo ?_ | refine pass (by decide) ?_)) | ((first | refine post1 ?_ | refine post2 ?_ | refine post3 ?_); simp only [GA, simprocAttr]) | refine post0 ?_
  refine k_yld 3 rfl ?_
  repeat' first | (with_reducible first | refine kzq ?_ | refine kzs ?_ | refine kzS ?_ | refine kzR ?_ | refine kzC ?_ | refine kzH ?_ | refine kzB ?_ | refine kzK ?_ | refine kzE ?_ | refine kzg ?_) | with_reducible refine r_done ?_ | with_reducible refine s_go (by simp (disch := omega) only [hy, row_m hy, read_row (row_m hy), List.take_succ_cons, List.take_zero, c69r0, c69r1, c69r2, EVA, plug, eq_self, simprocAttr]; with_reducible rfl) ?_ | ((with_reducible refine kzr ?_); refine zrF ?_) | ((with_reducible refine kzr ?_); refine zrP (c := by first | exact q70 _) (k := ?_)) | (with_reducible refine k_condP (by simp only [GA, simprocAttr]; rfl) (by first | (simp only [BO]; rfl) | rfl) (fun ht => ?_) (fun ht => ?_) <;> try (first | exact False.elim ht | exact absurd rfl ht | exact absurd trivial ht | exact Bool.noConfusion ht)) | (with_reducible (refine k_ret ?_; repeat first | refine kzt ?_ | refine kzb ?_ | refine fin ?_)) | (with_reducible (refine kzx ?_; repeat first | refine thru ?_ | refine kzo ?_ | refine pass (by decide) ?_)) | ((first | refine post1 ?_ | refine post2 ?_ | refine post3 ?_); simp only [GA, simprocAttr]) | refine post0 ?_
  refine ⟨_, rfl, ?_⟩
  refine round81 (x := x) (xs := xs) (v := (k : Int)) (fun t b hb => by have := ok4 t b hb; simp only [AH.bump_nx]; omega) ⟨A.r, A.b, A.c, A.x0, A.t1, A.t2, A.t3⟩ (by omega) fun x' h' hx' A' kp nx => ?_
  simp only [AH.bump_nx] at hx' nx
  have hy' : h'.m t = some (cl y) := by
   rw [kp t (by simp only [AH.bump_nx]; omega) (by omega) (by omega)]
   exact hy
  have lt3 : t < h.nx := lt
  repeat' first | (with_reducible first | refine kzq ?_ | refine kzs ?_ | refine kzS ?_ | refine kzR ?_ | refine kzC ?_ | refine kzH ?_ | refine kzB ?_ | refine kzK ?_ | refine kzE ?_ | refine kzg ?_) | with_reducible refine r_done ?_ | with_reducible refine s_go (by simp (disch := omega) only [List.drop_succ_cons, List.drop_zero, hy', row_m hy', read_row (row_m hy'), w1, w2, c69r0, c69r1, c69r2, EVA, plug, eq_self, simprocAttr]; with_reducible rfl) ?_ | ((with_reducible refine kzr ?_); refine zrF ?_) | (with_reducible refine k_condP (by simp only [GA, simprocAttr]; rfl) (by first | (simp only [BO]; rfl) | rfl) (fun ht => ?_) (fun ht => ?_) <;> try (first | exact False.elim ht | exact absurd rfl ht | exact absurd trivial ht | exact Bool.noConfusion ht)) | (with_reducible (refine k_ret ?_; repeat first | refine kzt ?_ | refine kzb ?_ | refine fin ?_)) | (with_reducible (refine kzx ?_; repeat first | refine thru ?_ | refine kzo ?_ | refine pass (by decide) ?_)) | ((first | refine post1 ?_ | refine post2 ?_ | refine post3 ?_); simp only [GA, simprocAttr]) | refine post0 ?_
  have e1 : ¬ h.nx + 2 + 1 + 1 = t := by omega
  have e2 : ¬ h.nx = t := by omega
  have e3 : ¬ x' = t := by omega
  refine ⟨(x', y', xs ++ [(k : Int)]), w3, (by simp only [Am.keep, List.map_cons, List.map_nil, GA, simprocAttr]; try rfl), ⟨by simp (disch := omega) only [e1, A'.r, c69r0, c69r1, c69r2, EVA, plug, eq_self, simprocAttr], by simp (disch := omega) only [e2, A'.b, c69r0, c69r1, c69r2, EVA, plug, eq_self, simprocAttr], by simp (disch := omega) only [e3, A'.c, c69r0, c69r1, c69r2, EVA, plug, eq_self, simprocAttr], A'.x0, A'.t1, A'.t2, A'.t3⟩, by simp (disch := omega) only [c69r0, c69r1, c69r2, EVA, plug, eq_self, simprocAttr] <;> rfl, by show y' < 2 ^ 64; omega, ?_, fun u h1 h2' => ?_, by simp (disch := omega) only [c69r0, c69r1, c69r2, EVA, plug, eq_self, simprocAttr] <;> omega, by show h.nx ≤ x'; omega⟩
  ·rw [List.append_assoc]; exact hb
  ·have := kp u (by simp only [AH.bump_nx]; omega) (by omega) (by omega)
   simp (disch := omega) only [h2', this, hk u h1 h2', c69r0, c69r1, c69r2, EVA, plug, eq_self, simprocAttr]
theorem n42 (t : Nat) (s : Nat) (hs : s < 2 ^ 64) (h : AH) (hm : h.m t = some (cl s)) : ACalls Tryd.prog 42 [.fn 69 [] [.p t 0]] h fun r h' => r = vi (bts s) ∧ Upd t [.i .u64 0] h h' := by
 refine w_fn fn42 (by simp) fun ok pos => ?_
 have lt := ok.m hm
 rw [initSt1]
 repeat' first | (with_reducible first | refine kzq ?_ | refine kzs ?_ | refine kzS ?_ | refine kzR ?_ | refine kzC ?_ | refine kzH ?_ | refine kzB ?_ | refine kzK ?_ | refine kzE ?_ | refine kzg ?_) | with_reducible refine r_done ?_ | with_reducible refine s_go (by simp (disch := omega) only [c42r0, c42r1, EVA, plug, eq_self, simprocAttr]; with_reducible rfl) ?_ | ((with_reducible refine kzr ?_); refine zrF ?_) | ((with_reducible refine kzr ?_); refine r_callX (by simp only [CA, simprocAttr]; rfl) (by simp only [CA, simprocAttr]; rfl) (by first | exact n68a t s hs _ (by simp (disch := omega) only [hm, c42r0, c42r1, EVA, plug, eq_self, simprocAttr])) rfl ?_) | (with_reducible refine zkP (fun ht => ?_) (fun ht => ?_) <;> try first | exact False.elim ht | exact absurd rfl ht | exact absurd trivial ht | exact Bool.noConfusion ht) | (with_reducible (refine k_ret ?_; repeat first | refine kzt ?_ | refine kzb ?_ | refine fin ?_)) | (with_reducible (refine kzx ?_; repeat first | refine thru ?_ | refine kzo ?_ | refine pass (by decide) ?_)) | ((first | refine post1 ?_ | refine post2 ?_ | refine post3 ?_); simp only [GA, simprocAttr]) | refine post0 ?_
 rintro r h2 ⟨rfl, U⟩
 repeat' first | (with_reducible first | refine kzq ?_ | refine kzs ?_ | refine kzS ?_ | refine kzR ?_ | refine kzC ?_ | refine kzH ?_ | refine kzB ?_ | refine kzK ?_ | refine kzE ?_ | refine kzg ?_) | with_reducible refine r_done ?_ | with_reducible refine s_go (by simp (disch := omega) only [c42r0, c42r1, EVA, plug, eq_self, simprocAttr]; with_reducible rfl) ?_ | ((with_reducible refine kzr ?_); refine zrF ?_) | (with_reducible refine zkP (fun ht => ?_) (fun ht => ?_) <;> try first | exact False.elim ht | exact absurd rfl ht | exact absurd trivial ht | exact Bool.noConfusion ht) | (with_reducible (refine k_ret ?_; repeat first | refine kzt ?_ | refine kzb ?_ | refine fin ?_)) | (with_reducible (refine kzx ?_; repeat first | refine thru ?_ | refine kzo ?_ | refine pass (by decide) ?_)) | ((first | refine post1 ?_ | refine post2 ?_ | refine post3 ?_); simp only [GA, simprocAttr]) | refine post0 ?_
 refine endsW ⟨by simp (disch := omega) only [U.m, c42r0, c42r1, EVA, plug, eq_self, simprocAttr], fun u h1 h2' => ?_, ?_⟩
 ·have := U.keep u (by simp only [AH.bump_nx]; omega) h2'
  simp (disch := omega) only [this, c42r0, c42r1, EVA, plug, eq_self, simprocAttr]
 ·have := U.nx
  simp only [AH.bump_nx] at this ⊢
  omega
end Go.Proofs.YtjaihaccehaicaaDoor
set_option linter.unusedVariables false
set_option linter.unusedSimpArgs false
namespace Go.Proofs.YtjaihaccehaicaaDoor
open Go Go.Am Go.Proofs
def chP (l : List Sz) (x : Hd) (st : Int × Int) (k : Nat) : Prop := fitB (zD l k) x = true ∧ (st.1 < 0 ∨ nS (zD l k) x 5 < st.2 ∨ (nS (zD l k) x 5 = st.2 ∧ (zD l k).c < (zD l st.1.toNat).c))
instance (l : List Sz) (x : Hd) (st : Int × Int) (k : Nat) : Decidable (chP l x st k) := inferInstanceAs (Decidable (_ ∧ _))
def chS (l : List Sz) (x : Hd) : Nat → Int × Int
 | 0 => (-1, 0)
 | k + 1 => if chP l x (chS l x k) k then ((k : Int), nS (zD l k) x 5) else chS l x k
theorem chS_bd (l : List Sz) (x : Hd) : ∀ k, (chS l x k).1 = -1 ∨ 0 ≤ (chS l x k).1 ∧ (chS l x k).1 < k
 | 0 => .inl rfl
 | k + 1 => by
   rw [chS]
   split
   ·right; simp only; omega
   ·have := chS_bd l x k; omega
def chR (l : List Sz) (x : Hd) : Int × Int := if chk l [x] ≠ 0 then (0, chk l [x]) else if (chS l x l.length).1 < 0 then (0, 32) else ((chS l x l.length).1, 0)
theorem hd_one {x : Hd} (h : hdsOk [x] = true) : hdOk x = true := (hdsOk_iff.1 h).2.1 0 (by simp)
theorem RG15 : (type_of% @c15r0.eq_1) ∧ (type_of% @c15r1.eq_1) ∧ (type_of% @c15r2.eq_1) ∧ (type_of% @c15r3.eq_1) ∧ (type_of% @c15r4.eq_1) ∧ (type_of% @c15r5.eq_1) ∧ (type_of% @c15r6.eq_1) ∧ (type_of% @c15r7.eq_1) ∧ (type_of% @c15r8.eq_1) ∧ (type_of% @c15r9.eq_1) ∧ (type_of% @c15r10.eq_1) ∧ (type_of% @c15r11.eq_1) ∧ (type_of% @c15r12.eq_1) ∧ (type_of% @c15r14.eq_1) ∧ (type_of% @c15r15.eq_1) ∧ (type_of% @c15r16.eq_1) := ⟨@c15r0.eq_1, @c15r1.eq_1, @c15r2.eq_1, @c15r3.eq_1, @c15r4.eq_1, @c15r5.eq_1, @c15r6.eq_1, @c15r7.eq_1, @c15r8.eq_1, @c15r9.eq_1, @c15r10.eq_1, @c15r11.eq_1, @c15r12.eq_1, @c15r14.eq_1, @c15r15.eq_1, @c15r16.eq_1⟩
set_option maxHeartbeats 2000000 in
theorem d15 (l : List Sz) (x : Hd) (hl : l.length ≤ 9223372036854775807) : PC Tryd.prog 15 [vZ l, .ag (eH x)] (.tu [.i .i64 (chR l x).1, .i .i64 (chR l x).2]) := by
 have q1 := pc41 l [x] hl (by simp)
 unfold chR
 refine pc_fn fn15 (by simp only [AV.plains, AV.plain, il_plain, bl_plain, Bool.and_true, Bool.true_and, Bool.and_self, fleZ_plain]) (by simp only [AV.plains, AV.plain, il_plain, bl_plain, Bool.and_true, Bool.true_and, Bool.and_self, fleZ_plain]) (Nat.le_of_ble_eq_true rfl) ?_
 rw [initSt2]
 by_cases c : chk l [x] = 0
 ·rw [if_neg (by simp [c])]
  rw [c] at q1
  have L := szsOk_iff.1 (chk_ok c).1
  have hx := hd_one (chk_ok c).2
  repeat' first | (with_reducible first | refine kzq ?_ | refine kzs ?_ | refine kzS ?_ | refine kzR ?_ | refine kzC ?_ | refine kzH ?_ | refine kzB ?_ | refine kzK ?_ | refine kzE ?_ | refine kzg ?_) | with_reducible refine k_head (by with_unfolding_all rfl) ?_ | with_reducible refine k_headS ?_ | (with_reducible refine SepK.mk ?_ ?_; (refine sepQ_P ?_; simp [sepQ, sepG, AOp.late, AOp.free, AOp.xs, AOp.isAl, tokNe, AV.tok, stS_get, strip, AX.val, RG15, GA]; try omega)) | with_reducible refine r_done ?_ | with_reducible refine hr_done ?_ | with_reducible refine s_go (by simp (disch := omega) only [eH_rd, RG15, EVA, plug, eq_self, simprocAttr]; with_reducible rfl) ?_ | with_reducible refine h_go (by with_unfolding_all rfl) (by simp (disch := omega) only [eH_rd, RG15, EVA, plug, eq_self, simprocAttr]; with_reducible rfl) ?_ | ((with_reducible refine kzr ?_); refine zrF ?_) | ((with_reducible refine kzh ?_); refine zhF ?_) | ((with_reducible refine kzr ?_); refine zrP (c := by first | ((refine PC.at q1 rfl ?F; case F => (refine .cons (.same (fleZ_plain _)) (.cons (.row (by simp (disch := omega) only [RG15, EVA, plug, eq_self, simprocAttr] <;> rfl) rfl) .nil))); all_goals fail)) (k := ?_)) | ((with_reducible refine kzh ?_); refine zhP (c := by first | ((refine PC.at q1 rfl ?F; case F => (refine .cons (.same (fleZ_plain _)) (.cons (.row (by simp (disch := omega) only [RG15, EVA, plug, eq_self, simprocAttr] <;> rfl) rfl) .nil))); all_goals fail)) (k := ?_)) | ((with_reducible refine kzh ?_); refine zhQ (c := by first | ((refine PC.at q1 rfl ?F; case F => (refine .cons (.same (fleZ_plain _)) (.cons (.row (by simp (disch := omega) only [RG15, EVA, plug, eq_self, simprocAttr] <;> rfl) rfl) .nil))); all_goals fail)) (k := ?_)) | ((with_reducible refine kzh ?_); refine hr_app (by simp (disch := omega) only [eH_rd, RG15, EVA, plug, eq_self, simprocAttr]; with_reducible rfl) rfl ?_) | (with_reducible refine zkP (fun ht => ?_) (fun ht => ?_) <;> try first | exact False.elim ht | exact absurd rfl ht | exact absurd trivial ht | exact Bool.noConfusion ht) | (with_reducible (refine k_ret ?_; repeat first | refine kzt ?_ | refine kzb ?_ | refine fin ?_)) | (with_reducible (refine kzx ?_; repeat first | refine thru ?_ | refine kzo ?_ | refine pass (by decide) ?_)) | ((first | refine post1 ?_ | refine post2 ?_ | refine post3 ?_); simp only [GA, simprocAttr]) | refine post0 ?_
  refine k_blk (k_loopS (X := Unit) [0, 3, 7, 8, 20, 21, 22] l.length (fun k _ => [(0, vZ l), (3, .p 1 0), (7, .i .i64 (chS l x k).1), (8, .i .i64 (chS l x k).2), (20, vZ l), (21, .i .i64 l.length), (22, .i .i64 (k : Int))]) (fun k _ h => h.m 1 = some (.cells true (eH x))) () (by simp only [Am.keep, ZK, simprocAttr]; try rfl) (by simp (disch := omega) only [RG15, EVA, plug, eq_self, simprocAttr] <;> rfl) ?_)
  rintro k _ h hk hm ok pos
  have l1 := ok.m hm
  by_cases klt : k < l.length
  ·have klt' : (k : Int) < l.length := by omega
   have rT := rdZ klt
   have hs := L.2.1 k klt
   have qn := pc42 (zD l k) x hs hx
   have qf := pc45 (zD l k) x hs hx
   have bd := chS_bd l x k
   have eT : fitB (zD l k) x = true → ((chS l x k).1 < 0 ∨ nS (zD l k) x 5 < (chS l x k).2 ∨ (nS (zD l k) x 5 = (chS l x k).2 ∧ (zD l k).c < (zD l (chS l x k).1.toNat).c)) → chS l x (k + 1) = ((k : Int), nS (zD l k) x 5) := fun h1 h2 => if_pos ⟨h1, h2⟩
   have eF : (fitB (zD l k) x = true → ¬ ((chS l x k).1 < 0 ∨ nS (zD l k) x 5 < (chS l x k).2 ∨ (nS (zD l k) x 5 = (chS l x k).2 ∧ (zD l k).c < (zD l (chS l x k).1.toNat).c))) → chS l x (k + 1) = chS l x k := fun h => if_neg fun q => h q.1 q.2
   have ft : fitB (zD l k) x = true ↔ ((fau (zD l k) x).length : Int) = 0 := decide_eq_true_iff
   have gc : ∀ b : Nat, b < l.length → (fl eZ l)[b * 17]? = some (.i .i64 (zD l b).c) := fun b hb => by
    have := congrArg (fun r => r[0]?) (fl_at eZ_len Z0 hb)
    simp only [List.getElem?_take, List.getElem?_drop, Nat.add_zero] at this
    rw [if_pos (by omega)] at this
    exact this
   generalize nS (zD l k) x 5 = n at *
   generalize fau (zD l k) x = F at *
   generalize hb : (chS l x k).1 = b at *
   generalize hls : (chS l x k).2 = ls at *
   have pr : chS l x k = (b, ls) := by rw [← hb, ← hls]
   have m1 : ¬ (1 : Nat) = h.nx + 1 + 3 := by omega
   by_cases f0 : (F.length : Int) = 0
   ·have f0' : ¬ (0 : Int) < F.length := by omega
    have f1 := ft.2 f0
    by_cases b0 : b < 0
    ·have es := eT f1 (.inl b0)
     have b0' := eq_true b0
     repeat' first | (with_reducible first | refine kzq ?_ | refine kzs ?_ | refine kzS ?_ | refine kzR ?_ | refine kzC ?_ | refine kzH ?_ | refine kzB ?_ | refine kzK ?_ | refine kzE ?_ | refine kzg ?_) | with_reducible refine k_head (by with_unfolding_all rfl) ?_ | with_reducible refine k_headS ?_ | (with_reducible refine SepK.mk ?_ ?_; (refine sepQ_P ?_; simp [sepQ, sepG, AOp.late, AOp.free, AOp.xs, AOp.isAl, tokNe, AV.tok, stS_get, strip, AX.val, RG15, GA]; try omega)) | with_reducible refine r_done ?_ | with_reducible refine hr_done ?_ | with_reducible refine s_go (by simp (disch := omega) only [klt', rT, eZ_rd, eH_rd, e5_rd, hm, row_m hm, read_row (row_m hm), m1, f0', b0', RG15, EVA, plug, eq_self, simprocAttr]; with_reducible rfl) ?_ | with_reducible refine h_go (by with_unfolding_all rfl) (by simp (disch := omega) only [klt', rT, eZ_rd, eH_rd, e5_rd, hm, row_m hm, read_row (row_m hm), m1, f0', b0', RG15, EVA, plug, eq_self, simprocAttr]; with_reducible rfl) ?_ | ((with_reducible refine kzr ?_); refine zrF ?_) | ((with_reducible refine kzh ?_); refine zhF ?_) | ((with_reducible refine kzr ?_); refine zrP (c := by first | exact qn _ | exact qf _) (k := ?_)) | ((with_reducible refine kzh ?_); refine zhP (c := by first | exact qn _ | exact qf _) (k := ?_)) | ((with_reducible refine kzh ?_); refine zhQ (c := by first | exact qn _ | exact qf _) (k := ?_)) | ((with_reducible refine kzh ?_); refine hr_app (by simp (disch := omega) only [klt', rT, eZ_rd, eH_rd, e5_rd, hm, row_m hm, read_row (row_m hm), m1, f0', b0', RG15, EVA, plug, eq_self, simprocAttr]; with_reducible rfl) rfl ?_) | (with_reducible refine zkP (fun ht => ?_) (fun ht => ?_) <;> try first | exact False.elim ht | exact absurd rfl ht | exact absurd trivial ht | exact Bool.noConfusion ht) | (with_reducible (refine k_ret ?_; repeat first | refine kzt ?_ | refine kzb ?_ | refine fin ?_)) | (with_reducible (refine kzx ?_; repeat first | refine thru ?_ | refine kzo ?_ | refine pass (by decide) ?_)) | ((first | refine post1 ?_ | refine post2 ?_ | refine post3 ?_); simp only [GA, simprocAttr]) | refine post0 ?_
     exact ⟨klt, (), (by rw [es]; exact (by simp only [Am.keep, ZK, simprocAttr]; try rfl)), by simp (disch := omega) only [hm, m1, RG15, EVA, plug, eq_self, simprocAttr]⟩
    ·have b0' := eq_false b0
     obtain ⟨a, rfl⟩ : ∃ a : Nat, b = (a : Int) := ⟨b.toNat, by omega⟩
     have al : a < l.length := by omega
     have al' : (a : Int) < l.length := by omega
     have ga := gc a al
     rw [Int.toNat_natCast] at eT eF
     by_cases n1 : n < ls
     ·have es := eT f1 (.inr (.inl n1))
      have n1' := eq_true n1
      repeat' first | (with_reducible first | refine kzq ?_ | refine kzs ?_ | refine kzS ?_ | refine kzR ?_ | refine kzC ?_ | refine kzH ?_ | refine kzB ?_ | refine kzK ?_ | refine kzE ?_ | refine kzg ?_) | with_reducible refine k_head (by with_unfolding_all rfl) ?_ | with_reducible refine k_headS ?_ | (with_reducible refine SepK.mk ?_ ?_; (refine sepQ_P ?_; simp [sepQ, sepG, AOp.late, AOp.free, AOp.xs, AOp.isAl, tokNe, AV.tok, stS_get, strip, AX.val, RG15, GA]; try omega)) | with_reducible refine r_done ?_ | with_reducible refine hr_done ?_ | with_reducible refine s_go (by simp (disch := omega) only [klt', rT, eZ_rd, eH_rd, e5_rd, hm, row_m hm, read_row (row_m hm), m1, f0', b0', n1', RG15, EVA, plug, eq_self, simprocAttr]; with_reducible rfl) ?_ | with_reducible refine h_go (by with_unfolding_all rfl) (by simp (disch := omega) only [klt', rT, eZ_rd, eH_rd, e5_rd, hm, row_m hm, read_row (row_m hm), m1, f0', b0', n1', RG15, EVA, plug, eq_self, simprocAttr]; with_reducible rfl) ?_ | ((with_reducible refine kzr ?_); refine zrF ?_) | ((with_reducible refine kzh ?_); refine zhF ?_) | ((with_reducible refine kzr ?_); refine zrP (c := by first | exact qn _ | exact qf _) (k := ?_)) | ((with_reducible refine kzh ?_); refine zhP (c := by first | exact qn _ | exact qf _) (k := ?_)) | ((with_reducible refine kzh ?_); refine zhQ (c := by first | exact qn _ | exact qf _) (k := ?_)) | ((with_reducible refine kzh ?_); refine hr_app (by simp (disch := omega) only [klt', rT, eZ_rd, eH_rd, e5_rd, hm, row_m hm, read_row (row_m hm), m1, f0', b0', n1', RG15, EVA, plug, eq_self, simprocAttr]; with_reducible rfl) rfl ?_) | (with_reducible refine zkP (fun ht => ?_) (fun ht => ?_) <;> try first | exact False.elim ht | exact absurd rfl ht | exact absurd trivial ht | exact Bool.noConfusion ht) | (with_reducible (refine k_ret ?_; repeat first | refine kzt ?_ | refine kzb ?_ | refine fin ?_)) | (with_reducible (refine kzx ?_; repeat first | refine thru ?_ | refine kzo ?_ | refine pass (by decide) ?_)) | ((first | refine post1 ?_ | refine post2 ?_ | refine post3 ?_); simp only [GA, simprocAttr]) | refine post0 ?_
      exact ⟨klt, (), (by rw [es]; exact (by simp only [Am.keep, ZK, simprocAttr]; try rfl)), by simp (disch := omega) only [hm, m1, RG15, EVA, plug, eq_self, simprocAttr]⟩
     ·have n1' := eq_false n1
      by_cases n2 : n = ls
      ·have n2' := eq_true n2
       by_cases n3 : (zD l k).c < (zD l a).c
       ·have es := eT f1 (.inr (.inr ⟨n2, n3⟩))
        have n3' := eq_true n3
        repeat' first | (with_reducible first | refine kzq ?_ | refine kzs ?_ | refine kzS ?_ | refine kzR ?_ | refine kzC ?_ | refine kzH ?_ | refine kzB ?_ | refine kzK ?_ | refine kzE ?_ | refine kzg ?_) | with_reducible refine k_head (by with_unfolding_all rfl) ?_ | with_reducible refine k_headS ?_ | (with_reducible refine SepK.mk ?_ ?_; (refine sepQ_P ?_; simp [sepQ, sepG, AOp.late, AOp.free, AOp.xs, AOp.isAl, tokNe, AV.tok, stS_get, strip, AX.val, RG15, GA]; try omega)) | with_reducible refine r_done ?_ | with_reducible refine hr_done ?_ | with_reducible refine s_go (by simp (disch := omega) only [klt', rT, eZ_rd, eZ_rc, eH_rd, e5_rd, hm, row_m hm, read_row (row_m hm), m1, f0', b0', n1', n2', n3', al', ga, rd_one, RG15, EVA, plug, eq_self, simprocAttr]; with_reducible rfl) ?_ | with_reducible refine h_go (by with_unfolding_all rfl) (by simp (disch := omega) only [klt', rT, eZ_rd, eZ_rc, eH_rd, e5_rd, hm, row_m hm, read_row (row_m hm), m1, f0', b0', n1', n2', n3', al', ga, rd_one, RG15, EVA, plug, eq_self, simprocAttr]; with_reducible rfl) ?_ | ((with_reducible refine kzr ?_); refine zrF ?_) | ((with_reducible refine kzh ?_); refine zhF ?_) | ((with_reducible refine kzr ?_); refine zrP (c := by first | exact qn _ | exact qf _) (k := ?_)) | ((with_reducible refine kzh ?_); refine zhP (c := by first | exact qn _ | exact qf _) (k := ?_)) | ((with_reducible refine kzh ?_); refine zhQ (c := by first | exact qn _ | exact qf _) (k := ?_)) | ((with_reducible refine kzh ?_); refine hr_app (by simp (disch := omega) only [klt', rT, eZ_rd, eZ_rc, eH_rd, e5_rd, hm, row_m hm, read_row (row_m hm), m1, f0', b0', n1', n2', n3', al', ga, rd_one, RG15, EVA, plug, eq_self, simprocAttr]; with_reducible rfl) rfl ?_) | (with_reducible refine zkP (fun ht => ?_) (fun ht => ?_) <;> try first | exact False.elim ht | exact absurd rfl ht | exact absurd trivial ht | exact Bool.noConfusion ht) | (with_reducible (refine k_ret ?_; repeat first | refine kzt ?_ | refine kzb ?_ | refine fin ?_)) | (with_reducible (refine kzx ?_; repeat first | refine thru ?_ | refine kzo ?_ | refine pass (by decide) ?_)) | ((first | refine post1 ?_ | refine post2 ?_ | refine post3 ?_); simp only [GA, simprocAttr]) | refine post0 ?_
        exact ⟨klt, (), (by rw [es]; exact (by simp only [Am.keep, ZK, simprocAttr]; try rfl)), by simp (disch := omega) only [hm, m1, RG15, EVA, plug, eq_self, simprocAttr]⟩
       ·have es := eF fun _ => by omega
        have n3' := eq_false n3
        repeat' first | (with_reducible first | refine kzq ?_ | refine kzs ?_ | refine kzS ?_ | refine kzR ?_ | refine kzC ?_ | refine kzH ?_ | refine kzB ?_ | refine kzK ?_ | refine kzE ?_ | refine kzg ?_) | with_reducible refine k_head (by with_unfolding_all rfl) ?_ | with_reducible refine k_headS ?_ | (with_reducible refine SepK.mk ?_ ?_; (refine sepQ_P ?_; simp [sepQ, sepG, AOp.late, AOp.free, AOp.xs, AOp.isAl, tokNe, AV.tok, stS_get, strip, AX.val, RG15, GA]; try omega)) | with_reducible refine r_done ?_ | with_reducible refine hr_done ?_ | with_reducible refine s_go (by simp (disch := omega) only [klt', rT, eZ_rd, eZ_rc, eH_rd, e5_rd, hm, row_m hm, read_row (row_m hm), m1, f0', b0', n1', n2', n3', al', ga, rd_one, RG15, EVA, plug, eq_self, simprocAttr]; with_reducible rfl) ?_ | with_reducible refine h_go (by with_unfolding_all rfl) (by simp (disch := omega) only [klt', rT, eZ_rd, eZ_rc, eH_rd, e5_rd, hm, row_m hm, read_row (row_m hm), m1, f0', b0', n1', n2', n3', al', ga, rd_one, RG15, EVA, plug, eq_self, simprocAttr]; with_reducible rfl) ?_ | ((with_reducible refine kzr ?_); refine zrF ?_) | ((with_reducible refine kzh ?_); refine zhF ?_) | ((with_reducible refine kzr ?_); refine zrP (c := by first | exact qn _ | exact qf _) (k := ?_)) | ((with_reducible refine kzh ?_); refine zhP (c := by first | exact qn _ | exact qf _) (k := ?_)) | ((with_reducible refine kzh ?_); refine zhQ (c := by first | exact qn _ | exact qf _) (k := ?_)) | ((with_reducible refine kzh ?_); refine hr_app (by simp (disch := omega) only [klt', rT, eZ_rd, eZ_rc, eH_rd, e5_rd, hm, row_m hm, read_row (row_m hm), m1, f0', b0', n1', n2', n3', al', ga, rd_one, RG15, EVA, plug, eq_self, simprocAttr]; with_reducible rfl) rfl ?_) | (with_reducible refine zkP (fun ht => ?_) (fun ht => ?_) <;> try first | exact False.elim ht | exact absurd rfl ht | exact absurd trivial ht | exact Bool.noConfusion ht) | (with_reducible (refine k_ret ?_; repeat first | refine kzt ?_ | refine kzb ?_ | refine fin ?_)) | (with_reducible (refine kzx ?_; repeat first | refine thru ?_ | refine kzo ?_ | refine pass (by decide) ?_)) | ((first | refine post1 ?_ | refine post2 ?_ | refine post3 ?_); simp only [GA, simprocAttr]) | refine post0 ?_
        exact ⟨klt, (), (by rw [es, pr]; exact (by simp only [Am.keep, ZK, simprocAttr]; try rfl)), by simp (disch := omega) only [hm, m1, RG15, EVA, plug, eq_self, simprocAttr]⟩
      ·have es := eF fun _ => by omega
       have n2' := eq_false n2
       repeat' first | (with_reducible first | refine kzq ?_ | refine kzs ?_ | refine kzS ?_ | refine kzR ?_ | refine kzC ?_ | refine kzH ?_ | refine kzB ?_ | refine kzK ?_ | refine kzE ?_ | refine kzg ?_) | with_reducible refine k_head (by with_unfolding_all rfl) ?_ | with_reducible refine k_headS ?_ | (with_reducible refine SepK.mk ?_ ?_; (refine sepQ_P ?_; simp [sepQ, sepG, AOp.late, AOp.free, AOp.xs, AOp.isAl, tokNe, AV.tok, stS_get, strip, AX.val, RG15, GA]; try omega)) | with_reducible refine r_done ?_ | with_reducible refine hr_done ?_ | with_reducible refine s_go (by simp (disch := omega) only [klt', rT, eZ_rd, eH_rd, e5_rd, hm, row_m hm, read_row (row_m hm), m1, f0', b0', n1', n2', RG15, EVA, plug, eq_self, simprocAttr]; with_reducible rfl) ?_ | with_reducible refine h_go (by with_unfolding_all rfl) (by simp (disch := omega) only [klt', rT, eZ_rd, eH_rd, e5_rd, hm, row_m hm, read_row (row_m hm), m1, f0', b0', n1', n2', RG15, EVA, plug, eq_self, simprocAttr]; with_reducible rfl) ?_ | ((with_reducible refine kzr ?_); refine zrF ?_) | ((with_reducible refine kzh ?_); refine zhF ?_) | ((with_reducible refine kzr ?_); refine zrP (c := by first | exact qn _ | exact qf _) (k := ?_)) | ((with_reducible refine kzh ?_); refine zhP (c := by first | exact qn _ | exact qf _) (k := ?_)) | ((with_reducible refine kzh ?_); refine zhQ (c := by first | exact qn _ | exact qf _) (k := ?_)) | ((with_reducible refine kzh ?_); refine hr_app (by simp (disch := omega) only [klt', rT, eZ_rd, eH_rd, e5_rd, hm, row_m hm, read_row (row_m hm), m1, f0', b0', n1', n2', RG15, EVA, plug, eq_self, simprocAttr]; with_reducible rfl) rfl ?_) | (with_reducible refine zkP (fun ht => ?_) (fun ht => ?_) <;> try first | exact False.elim ht | exact absurd rfl ht | exact absurd trivial ht | exact Bool.noConfusion ht) | (with_reducible (refine k_ret ?_; repeat first | refine kzt ?_ | refine kzb ?_ | refine fin ?_)) | (with_reducible (refine kzx ?_; repeat first | refine thru ?_ | refine kzo ?_ | refine pass (by decide) ?_)) | ((first | refine post1 ?_ | refine post2 ?_ | refine post3 ?_); simp only [GA, simprocAttr]) | refine post0 ?_
       exact ⟨klt, (), (by rw [es, pr]; exact (by simp only [Am.keep, ZK, simprocAttr]; try rfl)), by simp (disch := omega) only [hm, m1, RG15, EVA, plug, eq_self, simprocAttr]⟩
   ·have f0' := eq_true (show (0 : Int) < F.length by omega)
    have es := eF fun q => absurd (ft.1 q) f0
    repeat' first | (with_reducible first | refine kzq ?_ | refine kzs ?_ | refine kzS ?_ | refine kzR ?_ | refine kzC ?_ | refine kzH ?_ | refine kzB ?_ | refine kzK ?_ | refine kzE ?_ | refine kzg ?_) | with_reducible refine k_head (by with_unfolding_all rfl) ?_ | with_reducible refine k_headS ?_ | (with_reducible refine SepK.mk ?_ ?_; (refine sepQ_P ?_; simp [sepQ, sepG, AOp.late, AOp.free, AOp.xs, AOp.isAl, tokNe, AV.tok, stS_get, strip, AX.val, RG15, GA]; try omega)) | with_reducible refine r_done ?_ | with_reducible refine hr_done ?_ | with_reducible refine s_go (by simp (disch := omega) only [klt', rT, eZ_rd, eH_rd, e5_rd, hm, row_m hm, read_row (row_m hm), m1, f0', RG15, EVA, plug, eq_self, simprocAttr]; with_reducible rfl) ?_ | with_reducible refine h_go (by with_unfolding_all rfl) (by simp (disch := omega) only [klt', rT, eZ_rd, eH_rd, e5_rd, hm, row_m hm, read_row (row_m hm), m1, f0', RG15, EVA, plug, eq_self, simprocAttr]; with_reducible rfl) ?_ | ((with_reducible refine kzr ?_); refine zrF ?_) | ((with_reducible refine kzh ?_); refine zhF ?_) | ((with_reducible refine kzr ?_); refine zrP (c := by first | exact qn _ | exact qf _) (k := ?_)) | ((with_reducible refine kzh ?_); refine zhP (c := by first | exact qn _ | exact qf _) (k := ?_)) | ((with_reducible refine kzh ?_); refine zhQ (c := by first | exact qn _ | exact qf _) (k := ?_)) | ((with_reducible refine kzh ?_); refine hr_app (by simp (disch := omega) only [klt', rT, eZ_rd, eH_rd, e5_rd, hm, row_m hm, read_row (row_m hm), m1, f0', RG15, EVA, plug, eq_self, simprocAttr]; with_reducible rfl) rfl ?_) | (with_reducible refine zkP (fun ht => ?_) (fun ht => ?_) <;> try first | exact False.elim ht | exact absurd rfl ht | exact absurd trivial ht | exact Bool.noConfusion ht) | (with_reducible (refine k_ret ?_; repeat first | refine kzt ?_ | refine kzb ?_ | refine fin ?_)) | (with_reducible (refine kzx ?_; repeat first | refine thru ?_ | refine kzo ?_ | refine pass (by decide) ?_)) | ((first | refine post1 ?_ | refine post2 ?_ | refine post3 ?_); simp only [GA, simprocAttr]) | refine post0 ?_
    exact ⟨klt, (), (by rw [es, pr]; exact (by simp only [Am.keep, ZK, simprocAttr]; try rfl)), by simp (disch := omega) only [hm, m1, RG15, EVA, plug, eq_self, simprocAttr]⟩
  ·obtain rfl : k = l.length := by omega
   have klt' : ¬ (l.length : Int) < l.length := by omega
   by_cases b0 : (chS l x l.length).1 < 0
   ·have b0' := eq_true b0
    rw [if_pos b0]
    repeat' first | (with_reducible first | refine kzq ?_ | refine kzs ?_ | refine kzS ?_ | refine kzR ?_ | refine kzC ?_ | refine kzH ?_ | refine kzB ?_ | refine kzK ?_ | refine kzE ?_ | refine kzg ?_) | with_reducible refine k_head (by with_unfolding_all rfl) ?_ | with_reducible refine k_headS ?_ | (with_reducible refine SepK.mk ?_ ?_; (refine sepQ_P ?_; simp [sepQ, sepG, AOp.late, AOp.free, AOp.xs, AOp.isAl, tokNe, AV.tok, stS_get, strip, AX.val, RG15, GA]; try omega)) | with_reducible refine r_done ?_ | with_reducible refine hr_done ?_ | with_reducible refine s_go (by simp (disch := omega) only [klt', b0', RG15, EVA, plug, eq_self, simprocAttr]; with_reducible rfl) ?_ | with_reducible refine h_go (by with_unfolding_all rfl) (by simp (disch := omega) only [klt', b0', RG15, EVA, plug, eq_self, simprocAttr]; with_reducible rfl) ?_ | ((with_reducible refine kzr ?_); refine zrF ?_) | ((with_reducible refine kzh ?_); refine zhF ?_) | ((with_reducible refine kzh ?_); refine hr_app (by simp (disch := omega) only [klt', b0', RG15, EVA, plug, eq_self, simprocAttr]; with_reducible rfl) rfl ?_) | (with_reducible refine zkP (fun ht => ?_) (fun ht => ?_) <;> try first | exact False.elim ht | exact absurd rfl ht | exact absurd trivial ht | exact Bool.noConfusion ht) | (with_reducible (refine k_ret ?_; repeat first | refine kzt ?_ | refine kzb ?_ | refine fin ?_)) | (with_reducible (refine kzx ?_; repeat first | refine thru ?_ | refine kzo ?_ | refine pass (by decide) ?_)) | ((first | refine post1 ?_ | refine post2 ?_ | refine post3 ?_); simp only [GA, simprocAttr]) | refine post0 ?_
    all_goals first | exact ends_of | exact ends_eq rfl
   ·have b0' := eq_false b0
    rw [if_neg b0]
    repeat' first | (with_reducible first | refine kzq ?_ | refine kzs ?_ | refine kzS ?_ | refine kzR ?_ | refine kzC ?_ | refine kzH ?_ | refine kzB ?_ | refine kzK ?_ | refine kzE ?_ | refine kzg ?_) | with_reducible refine k_head (by with_unfolding_all rfl) ?_ | with_reducible refine k_headS ?_ | (with_reducible refine SepK.mk ?_ ?_; (refine sepQ_P ?_; simp [sepQ, sepG, AOp.late, AOp.free, AOp.xs, AOp.isAl, tokNe, AV.tok, stS_get, strip, AX.val, RG15, GA]; try omega)) | with_reducible refine r_done ?_ | with_reducible refine hr_done ?_ | with_reducible refine s_go (by simp (disch := omega) only [klt', b0', RG15, EVA, plug, eq_self, simprocAttr]; with_reducible rfl) ?_ | with_reducible refine h_go (by with_unfolding_all rfl) (by simp (disch := omega) only [klt', b0', RG15, EVA, plug, eq_self, simprocAttr]; with_reducible rfl) ?_ | ((with_reducible refine kzr ?_); refine zrF ?_) | ((with_reducible refine kzh ?_); refine zhF ?_) | ((with_reducible refine kzh ?_); refine hr_app (by simp (disch := omega) only [klt', b0', RG15, EVA, plug, eq_self, simprocAttr]; with_reducible rfl) rfl ?_) | (with_reducible refine zkP (fun ht => ?_) (fun ht => ?_) <;> try first | exact False.elim ht | exact absurd rfl ht | exact absurd trivial ht | exact Bool.noConfusion ht) | (with_reducible (refine k_ret ?_; repeat first | refine kzt ?_ | refine kzb ?_ | refine fin ?_)) | (with_reducible (refine kzx ?_; repeat first | refine thru ?_ | refine kzo ?_ | refine pass (by decide) ?_)) | ((first | refine post1 ?_ | refine post2 ?_ | refine post3 ?_); simp only [GA, simprocAttr]) | refine post0 ?_
    all_goals first | exact ends_of | exact ends_eq rfl
 ·have c' := eq_false c
  rw [if_pos c]
  repeat' first | (with_reducible first | refine kzq ?_ | refine kzs ?_ | refine kzS ?_ | refine kzR ?_ | refine kzC ?_ | refine kzH ?_ | refine kzB ?_ | refine kzK ?_ | refine kzE ?_ | refine kzg ?_) | with_reducible refine k_head (by with_unfolding_all rfl) ?_ | with_reducible refine k_headS ?_ | (with_reducible refine SepK.mk ?_ ?_; (refine sepQ_P ?_; simp [sepQ, sepG, AOp.late, AOp.free, AOp.xs, AOp.isAl, tokNe, AV.tok, stS_get, strip, AX.val, RG15, GA]; try omega)) | with_reducible refine r_done ?_ | with_reducible refine hr_done ?_ | with_reducible refine s_go (by simp (disch := omega) only [c', eH_rd, RG15, EVA, plug, eq_self, simprocAttr]; with_reducible rfl) ?_ | with_reducible refine h_go (by with_unfolding_all rfl) (by simp (disch := omega) only [c', eH_rd, RG15, EVA, plug, eq_self, simprocAttr]; with_reducible rfl) ?_ | ((with_reducible refine kzr ?_); refine zrF ?_) | ((with_reducible refine kzh ?_); refine zhF ?_) | ((with_reducible refine kzr ?_); refine zrP (c := by first | ((refine PC.at q1 rfl ?F; case F => (refine .cons (.same (fleZ_plain _)) (.cons (.row (by simp (disch := omega) only [RG15, EVA, plug, eq_self, simprocAttr] <;> rfl) rfl) .nil))); all_goals fail)) (k := ?_)) | ((with_reducible refine kzh ?_); refine zhP (c := by first | ((refine PC.at q1 rfl ?F; case F => (refine .cons (.same (fleZ_plain _)) (.cons (.row (by simp (disch := omega) only [RG15, EVA, plug, eq_self, simprocAttr] <;> rfl) rfl) .nil))); all_goals fail)) (k := ?_)) | ((with_reducible refine kzh ?_); refine zhQ (c := by first | ((refine PC.at q1 rfl ?F; case F => (refine .cons (.same (fleZ_plain _)) (.cons (.row (by simp (disch := omega) only [RG15, EVA, plug, eq_self, simprocAttr] <;> rfl) rfl) .nil))); all_goals fail)) (k := ?_)) | ((with_reducible refine kzh ?_); refine hr_app (by simp (disch := omega) only [c', eH_rd, RG15, EVA, plug, eq_self, simprocAttr]; with_reducible rfl) rfl ?_) | (with_reducible refine zkP (fun ht => ?_) (fun ht => ?_) <;> try first | exact False.elim ht | exact absurd rfl ht | exact absurd trivial ht | exact Bool.noConfusion ht) | (with_reducible (refine k_ret ?_; repeat first | refine kzt ?_ | refine kzb ?_ | refine fin ?_)) | (with_reducible (refine kzx ?_; repeat first | refine thru ?_ | refine kzo ?_ | refine pass (by decide) ?_)) | ((first | refine post1 ?_ | refine post2 ?_ | refine post3 ?_); simp only [GA, simprocAttr]) | refine post0 ?_
  all_goals first | exact ends_of | exact ends_eq rfl
end Go.Proofs.YtjaihaccehaicaaDoor
set_option linter.unusedVariables false
set_option linter.unusedSimpArgs false
namespace Go.Proofs.YtjaihaccehaicaaDoor
open Go Go.Am Go.Proofs
theorem decZ (r : List AV) (h : Shps [.i .i64, .i .i64, .i .i64, .i .i64, .i .i64, .i .i64, .i .i64, .i .i64, .i .i64, .i .i64, .i .i64, .i .i64, .i .i64, .i .i64, .i .i64, .i .i64, .i .i64] r) : ∃ x : Sz, r = eZ x ∧ True := by
 obtain ⟨a0, r, rfl, h0, h⟩ := shps_cons h
 obtain ⟨a1, r, rfl, h1, h⟩ := shps_cons h
 obtain ⟨a2, r, rfl, h2, h⟩ := shps_cons h
 obtain ⟨a3, r, rfl, h3, h⟩ := shps_cons h
 obtain ⟨a4, r, rfl, h4, h⟩ := shps_cons h
 obtain ⟨a5, r, rfl, h5, h⟩ := shps_cons h
 obtain ⟨a6, r, rfl, h6, h⟩ := shps_cons h
 obtain ⟨a7, r, rfl, h7, h⟩ := shps_cons h
 obtain ⟨a8, r, rfl, h8, h⟩ := shps_cons h
 obtain ⟨a9, r, rfl, h9, h⟩ := shps_cons h
 obtain ⟨b0, r, rfl, k0, h⟩ := shps_cons h
 obtain ⟨b1, r, rfl, k1, h⟩ := shps_cons h
 obtain ⟨b2, r, rfl, k2, h⟩ := shps_cons h
 obtain ⟨b3, r, rfl, k3, h⟩ := shps_cons h
 obtain ⟨b4, r, rfl, k4, h⟩ := shps_cons h
 obtain ⟨b5, r, rfl, k5, h⟩ := shps_cons h
 obtain ⟨b6, r, rfl, k6, h⟩ := shps_cons h
 obtain rfl := shps_nil h
 obtain ⟨n0, rfl, _⟩ := shp_i64 h0
 obtain ⟨n1, rfl, _⟩ := shp_i64 h1
 obtain ⟨n2, rfl, _⟩ := shp_i64 h2
 obtain ⟨n3, rfl, _⟩ := shp_i64 h3
 obtain ⟨n4, rfl, _⟩ := shp_i64 h4
 obtain ⟨n5, rfl, _⟩ := shp_i64 h5
 obtain ⟨n6, rfl, _⟩ := shp_i64 h6
 obtain ⟨n7, rfl, _⟩ := shp_i64 h7
 obtain ⟨n8, rfl, _⟩ := shp_i64 h8
 obtain ⟨n9, rfl, _⟩ := shp_i64 h9
 obtain ⟨p0, rfl, _⟩ := shp_i64 k0
 obtain ⟨p1, rfl, _⟩ := shp_i64 k1
 obtain ⟨p2, rfl, _⟩ := shp_i64 k2
 obtain ⟨p3, rfl, _⟩ := shp_i64 k3
 obtain ⟨p4, rfl, _⟩ := shp_i64 k4
 obtain ⟨p5, rfl, _⟩ := shp_i64 k5
 obtain ⟨p6, rfl, _⟩ := shp_i64 k6
 exact ⟨⟨n0, fun i => [n1, n2, n3, n4, n5].getD i 0, fun i => [n6, n7, n8, n9, p0].getD i 0, fun i => [p1, p2, p3, p4, p5].getD i 0, p6⟩, rfl, trivial⟩
theorem decH (r : List AV) (h : Shps [.i .i64, .i .i64, .i .i64, .i .i64, .i .i64, .i .i64] r) : ∃ x : Hd, r = eH x ∧ True := by
 obtain ⟨a0, r, rfl, h0, h⟩ := shps_cons h
 obtain ⟨a1, r, rfl, h1, h⟩ := shps_cons h
 obtain ⟨a2, r, rfl, h2, h⟩ := shps_cons h
 obtain ⟨a3, r, rfl, h3, h⟩ := shps_cons h
 obtain ⟨a4, r, rfl, h4, h⟩ := shps_cons h
 obtain ⟨a5, r, rfl, h5, h⟩ := shps_cons h
 obtain rfl := shps_nil h
 obtain ⟨n0, rfl, _⟩ := shp_i64 h0
 obtain ⟨n1, rfl, _⟩ := shp_i64 h1
 obtain ⟨n2, rfl, _⟩ := shp_i64 h2
 obtain ⟨n3, rfl, _⟩ := shp_i64 h3
 obtain ⟨n4, rfl, _⟩ := shp_i64 h4
 obtain ⟨n5, rfl, _⟩ := shp_i64 h5
 exact ⟨⟨n0, fun i => [n1, n2, n3, n4, n5].getD i 0⟩, rfl, trivial⟩
end Go.Proofs.YtjaihaccehaicaaDoor
set_option linter.unusedVariables false
set_option linter.unusedSimpArgs false
namespace Go.Proofs.YtjaihaccehaicaaDoor
open Go Go.Am Go.Proofs
def asc (l : List Int) : Prop := l.Pairwise fun x y => x < y
theorem asc_ext : ∀ {a b : List Int}, asc a → asc b → (∀ x, x ∈ a ↔ x ∈ b) → a = b
 | [], [], _, _, _ => rfl
 | [], y :: b, _, _, h => absurd ((h y).2 (List.mem_cons_self ..)) (by simp)
 | x :: a, [], _, _, h => absurd ((h x).1 (List.mem_cons_self ..)) (by simp)
 | x :: a, y :: b, ha, hb, h => by
   have a1 := (List.pairwise_cons.1 ha).1
   have b1 := (List.pairwise_cons.1 hb).1
   have e : x = y := by
    rcases List.mem_cons.1 ((h x).1 (List.mem_cons_self ..)) with q | q
    ·exact q
    ·rcases List.mem_cons.1 ((h y).2 (List.mem_cons_self ..)) with r | r
     ·exact r.symm
     ·have := a1 y r
      have := b1 x q
      omega
   subst e
   rw [asc_ext (List.pairwise_cons.1 ha).2 (List.pairwise_cons.1 hb).2 fun z => ?_]
   constructor
   ·intro q
    have := a1 z q
    rcases List.mem_cons.1 ((h z).1 (List.mem_cons_of_mem _ q)) with r | r
    ·omega
    ·exact r
   ·intro q
    have := b1 z q
    rcases List.mem_cons.1 ((h z).2 (List.mem_cons_of_mem _ q)) with r | r
    ·omega
    ·exact r
theorem asc_nodup {l : List Int} (h : asc l) : l.Nodup := h.imp fun q => by omega
theorem mem_bts {s : Nat} {x : Int} : x ∈ bts s ↔ ∃ i : Nat, i < 64 ∧ s.testBit i = true ∧ x = i := by
 unfold bts
 simp only [List.mem_map, List.mem_filter, List.mem_range]
 constructor
 ·rintro ⟨i, ⟨h1, h2⟩, rfl⟩; exact ⟨i, h1, h2, rfl⟩
 ·rintro ⟨i, h1, h2, rfl⟩; exact ⟨i, ⟨h1, h2⟩, rfl⟩
theorem asc_bts (s : Nat) : asc (bts s) := by
 unfold asc bts
 rw [List.pairwise_map]
 exact (List.Pairwise.filter _ List.pairwise_lt_range).imp fun q => by omega
def inB (n : Nat) (l : List Int) : Prop := ∀ x ∈ l, 0 ≤ x ∧ x < n
theorem bts_in {s n : Nat} (h : s < 2 ^ n) : inB n (bts s) := fun x hx => by
 obtain ⟨i, _, hb, rfl⟩ := mem_bts.1 hx
 have : i < n := Classical.byContradiction fun q => by
  have := Nat.testBit_lt_two_pow (Nat.lt_of_lt_of_le h (Nat.pow_le_pow_right (by omega) (Nat.le_of_not_lt q)))
  rw [this] at hb; cases hb
 omega
theorem shS_mem {l : List Int} {i n : Nat} (hl : inB n l) : (shS l l.length).testBit i = true ↔ (i : Int) ∈ l := by
 rw [shS_bit]
 constructor
 ·rintro ⟨j, hj, e⟩
  have m : lN l j ∈ l := by
   unfold lN
   rw [List.getD_eq_getElem?_getD, List.getElem?_eq_getElem hj]
   exact List.getElem_mem hj
  have := hl _ m
  have e' : (i : Int) = lN l j := by omega
  rw [e']; exact m
 ·intro m
  obtain ⟨j, hj, e⟩ := List.getElem_of_mem m
  refine ⟨j, hj, ?_⟩
  unfold lN
  rw [List.getD_eq_getElem?_getD, List.getElem?_eq_getElem hj]
  simp only [Option.getD_some, e]
  omega
theorem shS_lt2 {l : List Int} {n : Nat} (hl : inB n l) : shS l l.length < 2 ^ n := Nat.lt_pow_two_of_testBit _ fun i hi => by
 rw [Bool.eq_false_iff]
 intro q
 have := hl _ ((shS_mem hl).1 q)
 omega
theorem bts_mem {l : List Int} {n : Nat} (hn : n ≤ 64) (hl : inB n l) {x : Int} : x ∈ bts (shS l l.length) ↔ x ∈ l := by
 rw [mem_bts]
 constructor
 ·rintro ⟨i, _, q, rfl⟩; exact (shS_mem hl).1 q
 ·intro q
  have b := hl x q
  refine ⟨x.toNat, by omega, (shS_mem hl).2 ?_, by omega⟩
  rw [Int.toNat_of_nonneg b.1]; exact q
theorem bts_asc {l : List Int} {n : Nat} (hn : n ≤ 64) (hl : inB n l) (ha : asc l) : bts (shS l l.length) = l := asc_ext (asc_bts _) ha fun x => bts_mem hn hl
def cmpZ (x y : Int) : Int := if x < y then -1 else if y < x then 1 else 0
def cmpL : List Int → List Int → Int
 | [], [] => 0
 | [], _ :: _ => -1
 | _ :: _, [] => 1
 | x :: a, y :: b => if cmpZ x y ≠ 0 then cmpZ x y else cmpL a b
theorem cmpZ_lt {x y : Int} : cmpZ x y < 0 ↔ x < y := by unfold cmpZ; split <;> (try split) <;> omega
theorem cmpZ_eq {x y : Int} : cmpZ x y = 0 ↔ x = y := by unfold cmpZ; split <;> (try split) <;> omega
theorem cmpL_cons {x y : Int} {a b : List Int} : cmpL (x :: a) (y :: b) < 0 ↔ x < y ∨ x = y ∧ cmpL a b < 0 := by
 rw [cmpL]
 have h1 := @cmpZ_lt x y
 have h2 := @cmpZ_eq x y
 split
 ·rw [h1]; constructor
  ·exact .inl
  ·rintro (q | q)
   ·exact q
   ·exact absurd (h2.2 q.1) (by assumption)
 ·rename_i q
  have q := h2.1 (Classical.not_not.1 q)
  constructor
  ·exact fun r => .inr ⟨q, r⟩
  ·rintro (r | r)
   ·omega
   ·exact r.2
theorem cmpL_irr : ∀ {a : List Int}, ¬ cmpL a a < 0
 | [] => by simp [cmpL]
 | x :: a => by
   rw [cmpL_cons]
   rintro (q | q)
   ·omega
   ·exact cmpL_irr q.2
theorem cmpL_tr : ∀ {a b c : List Int}, a.length = b.length → b.length = c.length → cmpL a b < 0 → cmpL b c < 0 → cmpL a c < 0
 | [], [], _, _, _, h, _ => by simp [cmpL] at h
 | x :: a, y :: b, z :: c, h1, h2, q1, q2 => by
   rw [cmpL_cons] at q1 q2 ⊢
   simp only [List.length_cons, Nat.add_right_cancel_iff] at h1 h2
   rcases q1 with q1 | ⟨q1, r1⟩ <;> rcases q2 with q2 | ⟨q2, r2⟩
   ·exact .inl (by omega)
   ·exact .inl (by omega)
   ·exact .inl (by omega)
   ·exact .inr ⟨by omega, cmpL_tr h1 h2 r1 r2⟩
def bet (a b : List Int) : Prop := a.length < b.length ∨ a.length = b.length ∧ cmpL a b < 0
instance (a b : List Int) : Decidable (bet a b) := inferInstanceAs (Decidable (_ ∨ _))
theorem bet_tr {a b c : List Int} (h1 : bet a b) (h2 : bet b c) : bet a c := by
 rcases h1 with h1 | ⟨h1, q1⟩ <;> rcases h2 with h2 | ⟨h2, q2⟩
 ·exact .inl (by omega)
 ·exact .inl (by omega)
 ·exact .inl (by omega)
 ·exact .inr ⟨by omega, cmpL_tr h1 h2 q1 q2⟩
theorem bet_irr {a : List Int} : ¬ bet a a := fun h => h.elim (by omega) fun q => cmpL_irr q.2
def cand (p : List Int → Bool) (n : Nat) (l : List Int) : Prop := asc l ∧ inB n l ∧ p l = true
def Least (p : List Int → Bool) (n : Nat) (r : List Int) : Prop := cand p n r ∧ ∀ l, cand p n l → ¬ bet l r
def cvF (p : List Int → Bool) (st : Bool × List Int) (P : Nat) : Bool × List Int := if p (bts P) = true ∧ (st.1 = false ∨ bet (bts P) st.2) then (true, bts P) else st
def cvN (p : List Int → Bool) : Nat → Bool × List Int
 | 0 => (false, [])
 | k + 1 => cvF p (cvN p k) k
theorem cvN_ok {p : List Int → Bool} : ∀ {k : Nat}, ((cvN p k).1 = true → (∃ P, P < k ∧ (cvN p k).2 = bts P ∧ p (bts P) = true) ∧ ∀ P, P < k → p (bts P) = true → ¬ bet (bts P) (cvN p k).2) ∧ ((cvN p k).1 = false → ∀ P, P < k → ¬ p (bts P) = true)
 | 0 => ⟨fun h => (by cases h), fun _ P h => by omega⟩
 | k + 1 => by
   have ih := cvN_ok (p := p) (k := k)
   rw [cvN]
   generalize cvN p k = st at *
   unfold cvF
   by_cases c : p (bts k) = true ∧ (st.1 = false ∨ bet (bts k) st.2)
   ·rw [if_pos c]
    refine ⟨fun _ => ⟨⟨k, by omega, rfl, c.1⟩, fun P hP q => ?_⟩, fun h => by cases h⟩
    by_cases e : P = k
    ·subst e; exact bet_irr
    ·cases hs : st.1 with
     | false => exact absurd q (ih.2 hs P (by omega))
     | true =>
       have b : bet (bts k) st.2 := c.2.resolve_left (by rw [hs]; simp)
       exact fun r => (ih.1 hs).2 P (by omega) q (bet_tr r b)
   ·rw [if_neg c]
    refine ⟨fun h => ⟨?_, fun P hP q => ?_⟩, fun h P hP q => ?_⟩
    ·obtain ⟨P, hP, r⟩ := (ih.1 h).1
     exact ⟨P, by omega, r⟩
    ·by_cases e : P = k
     ·subst e; exact fun r => c ⟨q, .inr r⟩
     ·exact (ih.1 h).2 P (by omega) q
    ·by_cases e : P = k
     ·subst e; exact c ⟨q, .inl h⟩
     ·exact ih.2 h P (by omega) q
theorem cvN_least {p : List Int → Bool} {n : Nat} (hn : n ≤ 64) : ((cvN p (2 ^ n)).1 = true → Least p n (cvN p (2 ^ n)).2) ∧ ((cvN p (2 ^ n)).1 = false → ∀ l, ¬ cand p n l) := by
 have h := cvN_ok (p := p) (k := 2 ^ n)
 refine ⟨fun q => ?_, fun q l c => ?_⟩
 ·obtain ⟨⟨P, hP, e, hp⟩, hl⟩ := h.1 q
  refine ⟨⟨by rw [e]; exact asc_bts P, by rw [e]; exact bts_in hP, by rw [e]; exact hp⟩, fun l c => ?_⟩
  have e2 := bts_asc hn c.2.1 c.1
  have := hl _ (shS_lt2 c.2.1) (by rw [e2]; exact c.2.2)
  rwa [e2] at this
 ·have e2 := bts_asc hn c.2.1 c.1
  exact h.2 q _ (shS_lt2 c.2.1) (by rw [e2]; exact c.2.2)
theorem pig {R : Int → Int → Prop} : ∀ {li b : List Int}, b.Nodup → (∀ v ∈ b, ∃ s ∈ li, R s v) → (∀ s u v, u ∈ b → v ∈ b → R s u → R s v → u = v) → b.length ≤ li.length
 | [], [], _, _, _ => Nat.le_refl _
 | [], v :: b, _, h, _ => by
   obtain ⟨s, hs, _⟩ := h v (List.mem_cons_self ..)
   cases hs
 | s :: li, b, nd, h, u => by
   by_cases c : ∃ v ∈ b, R s v
   ·obtain ⟨v, hv, hr⟩ := c
    have ih := pig (li := li) (b := b.erase v) (R := R) (nd.erase v) (fun x hx => by
     have hx' := (nd.mem_erase_iff.1 hx)
     obtain ⟨t, ht, hrt⟩ := h x hx'.2
     rcases List.mem_cons.1 ht with q | q
     ·subst q; exact absurd (u _ x v hx'.2 hv hrt hr) hx'.1
     ·exact ⟨t, q, hrt⟩) (fun t x y hx hy => u t x y (List.mem_of_mem_erase hx) (List.mem_of_mem_erase hy))
    rw [List.length_erase_of_mem hv] at ih
    simp only [List.length_cons]
    omega
   ·have ih := pig (li := li) (b := b) (R := R) nd (fun x hx => by
     obtain ⟨t, ht, hrt⟩ := h x hx
     rcases List.mem_cons.1 ht with q | q
     ·subst q; exact absurd ⟨x, hx, hrt⟩ c
     ·exact ⟨t, q, hrt⟩) u
    simp only [List.length_cons]
    omega
end Go.Proofs.YtjaihaccehaicaaDoor
