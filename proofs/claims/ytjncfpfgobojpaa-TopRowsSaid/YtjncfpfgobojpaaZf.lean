/- What the proof of the law needs: the abstract machine, the functions as it reads them, their contracts, part 6. -/
import Derived.Test.YtjncfpfgobojpaaZe
import Derived.Shelf.Spec.SlicesGrow
set_option linter.unusedVariables false
set_option linter.unusedSimpArgs false
namespace Go.Proofs.Ytjncfpfgobojpaa
open Go Go.Am Go.Proofs Go.Sort
def sm (l : List B) : Nat → Int
 | 0 => 0
 | k + 1 => sm l k + hrs (bD l k)
def lg (l : List B) : Nat → Int
 | 0 => 0
 | k + 1 => max (lg l k) (hrs (bD l k))
def lc (l : List B) (c : Int) : Nat → Int
 | 0 => 0
 | k + 1 => max (lc l c k) (hrs (bD l k) + c)
def dv (s c : Int) (b : Nat) : Int := (s + b * c + b - 1).tdiv b
def bm (s c : Int) : Nat → Int
 | 0 => s + c
 | k + 1 => min (bm s c k) (dv s c (k + 1))
theorem hrs_rng {b : B} (h : vb b = true) : 0 ≤ hrs b ∧ hrs b ≤ 400 := sumH_rng h 4
theorem sm_rng {l : List B} (hv : VL l) : ∀ k : Nat, k ≤ l.length → 0 ≤ sm l k ∧ sm l k ≤ 400 * k
 | 0, _ => by simp [sm]
 | k + 1, h => by
   have := sm_rng hv k (by omega)
   have := hrs_rng (hv.b (i := k) (by omega))
   simp only [sm]; omega
theorem lg_rng {l : List B} (hv : VL l) : ∀ k : Nat, k ≤ l.length → 0 ≤ lg l k ∧ lg l k ≤ 400
 | 0, _ => by simp [lg]
 | k + 1, h => by
   have := lg_rng hv k (by omega)
   have := hrs_rng (hv.b (i := k) (by omega))
   simp only [lg]; omega
theorem bc_rng {c : Int} (hc : 0 ≤ c ∧ c ≤ 100) {b : Nat} (hb : b ≤ 9) : 0 ≤ (b : Int) * c ∧ (b : Int) * c ≤ 900 := by
 refine ⟨Int.mul_nonneg (by omega) hc.1, ?_⟩
 have := Int.mul_le_mul (show (b : Int) ≤ 9 by omega) hc.2 hc.1 (by omega)
 omega
theorem dv_rng {s c : Int} (hs : 0 ≤ s ∧ s ≤ 16000) (hc : 0 ≤ c ∧ c ≤ 100) {b : Nat} (hb : b ≤ 9) (h1 : 1 ≤ b) : 0 ≤ dv s c b ∧ dv s c b ≤ 17000 := by
 have := bc_rng hc hb
 unfold dv
 rw [Int.tdiv_eq_ediv_of_nonneg (by omega)]
 refine ⟨Int.ediv_nonneg (by omega) (by omega), ?_⟩
 have := Int.ediv_le_self (b : Int) (show 0 ≤ s + b * c + b - 1 by omega)
 omega
theorem bm_rng {s c : Int} (hs : 0 ≤ s ∧ s ≤ 16000) (hc : 0 ≤ c ∧ c ≤ 100) : ∀ k : Nat, k ≤ 9 → 0 ≤ bm s c k ∧ bm s c k ≤ 16100
 | 0, _ => by simp only [bm]; omega
 | k + 1, h => by
   have := bm_rng hs hc k (by omega)
   have := dv_rng hs hc (b := k + 1) (by omega) (by omega)
   simp only [bm]; omega
theorem bm_mono (s c : Int) {i k : Nat} (h : i ≤ k) : bm s c k ≤ bm s c i := by
 induction k with
 | zero => obtain rfl : i = 0 := by omega
           exact Int.le_refl _
 | succ k ih =>
   by_cases e : i = k + 1
   ·subst e; exact Int.le_refl _
   ·have := ih (by omega)
    simp only [bm]; omega
abbrev bOK (b c : Int) : Prop := (1 ≤ b ∧ b ≤ 8) ∧ 0 ≤ c ∧ c ≤ 100
open Classical in
noncomputable def bdR (l : List B) (b c : Int) : Int × Int :=
 if VL l then if bOK b c then if l.length = 0 then (0, 0) else (max (bm (sm l l.length) c (min b.toNat l.length)) (lg l l.length + c), 0) else (0, 2) else (0, 60)
theorem pc59 (b c : Int) : PC Try.prog 59 [.i .i64 b, .i .i64 c] (.b (decide (bOK b c))) := by
 refine pc_fn fn59 (by simp only [AV.plains, AV.plain, il_plain, bl_plain, Bool.and_true, Bool.true_and, Bool.and_self]) (by simp only [AV.plains, AV.plain, il_plain, bl_plain, Bool.and_true, Bool.true_and, Bool.and_self]) (Nat.le_of_ble_eq_true rfl) ?_
 rw [initSt2]
 repeat' first | (with_reducible first | refine k_seq ?_ | refine k_skip ?_ | refine k_blkS ?_ | refine k_blkR ?_ | refine k_blkC ?_ | refine k_blkH ?_ | refine k_blkB ?_ | refine k_blkK ?_ | refine k_blkE ?_ | refine k_reg ?_) | with_reducible refine r_done ?_ | with_reducible refine s_go (by simp (disch := omega) only [c59r0, c59r1, EVA, plug, eq_self, simprocAttr]; with_reducible rfl) ?_ | ((with_reducible refine chk_r ?_); refine r_callF (by simp only [CA, simprocAttr]; rfl) (by exact rfl) (by simp only [CA, simprocAttr]; rfl) rfl ?_) | ((with_reducible refine chk_r ?_); refine r_callP (by simp only [CA, simprocAttr]; rfl) (by simp only [CA, simprocAttr]; rfl) (by first | exact pc63 _ _ _ _) rfl ?_) | ((with_reducible refine chk_r ?_); refine r_callG (by simp only [CA, simprocAttr]; rfl) (by simp only [CA, simprocAttr]; rfl) (by simp only [CA, simprocAttr]; rfl) (by intro hg; (try simp only [BO] at hg); first | exact pc63 _ _ _ _) rfl ?_) | (with_reducible refine k_condP (by simp only [GA, simprocAttr]; rfl) (by first | (simp only [BO]; rfl) | rfl) (fun ht => ?_) (fun ht => ?_) <;> try (first | exact False.elim ht | exact absurd rfl ht | exact absurd trivial ht | exact Bool.noConfusion ht)) | (with_reducible refine k_ret ?_; repeat with_reducible (first | refine ret_thru ?_ | refine ret_blk ?_ | refine fin ?_)) | (with_reducible refine k_exit ?_; repeat with_reducible (first | refine thru ?_ | refine out_blk ?_ | refine pass (by decide) ?_)) | ((first | refine post1 ?_ | refine post2 ?_ | refine post3 ?_); simp only [GA, simprocAttr]) | refine post0 ?_
 refine ends_eq (b_eq ?_); rw [Bool.eq_iff_iff]
 simp [bOK]
theorem RG27 : (type_of% @c27r0.eq_1) ∧ (type_of% @c27r1.eq_1) ∧ (type_of% @c27r2.eq_1) ∧ (type_of% @c27r3.eq_1) ∧ (type_of% @c27r4.eq_1) ∧ (type_of% @c27r5.eq_1) ∧ (type_of% @c27r6.eq_1) ∧ (type_of% @c27r7.eq_1) ∧ (type_of% @c27r8.eq_1) ∧ (type_of% @c27r9.eq_1) ∧ (type_of% @c27r10.eq_1) ∧ (type_of% @c27r11.eq_1) ∧ (type_of% @c27r12.eq_1) ∧ (type_of% @c27r13.eq_1) ∧ (type_of% @c27r15.eq_1) ∧ (type_of% @c27r16.eq_1) ∧ (type_of% @c27r17.eq_1) ∧ (type_of% @c27r18.eq_1) ∧ (type_of% @c27r19.eq_1) ∧ (type_of% @c27r21.eq_1) := ⟨@c27r0.eq_1, @c27r1.eq_1, @c27r2.eq_1, @c27r3.eq_1, @c27r4.eq_1, @c27r5.eq_1, @c27r6.eq_1, @c27r7.eq_1, @c27r8.eq_1, @c27r9.eq_1, @c27r10.eq_1, @c27r11.eq_1, @c27r12.eq_1, @c27r13.eq_1, @c27r15.eq_1, @c27r16.eq_1, @c27r17.eq_1, @c27r18.eq_1, @c27r19.eq_1, @c27r21.eq_1⟩
set_option maxHeartbeats 1000000 in
theorem pc27 (l : List B) (hl : l.length ≤ 9223372036854775807) (b c : Int) : PC Try.prog 27 [vB l, .i .i64 b, .i .i64 c] (.tu [.i .i64 (bdR l b c).1, .i .i64 (bdR l b c).2]) := by
 refine pc_fn fn27 (by simp only [AV.plains, AV.plain, il_plain, bl_plain, Bool.and_true, Bool.true_and, Bool.and_self, flB_plain]) (by simp only [AV.plains, AV.plain, il_plain, bl_plain, Bool.and_true, Bool.true_and, Bool.and_self, flB_plain]) (Nat.le_of_ble_eq_true rfl) ?_
 rw [initSt3]
 have q26 := pc26 l hl
 have q59 := pc59 b c
 unfold bdR
 by_cases hv : VL l
 ·rw [if_pos hv]
  rw [vl_t hv] at q26
  have hl6 := hv.len
  by_cases hc : bOK b c
  ·rw [if_pos hc]
   rw [decide_eq_true hc] at q59
   obtain ⟨⟨b1, b2⟩, c1, c2⟩ := hc
   obtain ⟨bn, hbn⟩ : ∃ bn : Nat, b = bn := ⟨b.toNat, by omega⟩
   by_cases h0 : l.length = 0
   ·rw [if_pos h0]
    have h0' : ((l.length : Int) = 0) = True := eq_true (by omega)
    repeat' first | (with_reducible first | refine k_seq ?_ | refine k_skip ?_ | refine k_blkS ?_ | refine k_blkR ?_ | refine k_blkC ?_ | refine k_blkH ?_ | refine k_blkB ?_ | refine k_blkK ?_ | refine k_blkE ?_ | refine k_reg ?_) | with_reducible refine r_done ?_ | with_reducible refine s_go (by simp (disch := omega) only [h0', RG27, EVA, plug, eq_self, simprocAttr]; with_reducible rfl) ?_ | ((with_reducible refine chk_r ?_); refine r_callF (by simp only [CA, simprocAttr]; rfl) (by exact rfl) (by simp only [CA, simprocAttr]; rfl) rfl ?_) | ((with_reducible refine chk_r ?_); refine r_callP (by simp only [CA, simprocAttr]; rfl) (by simp only [CA, simprocAttr]; rfl) (by first | exact q26 _ | exact q59 _) rfl ?_) | (with_reducible refine k_condP (by simp only [GA, simprocAttr]; rfl) (by first | (simp only [BO]; rfl) | rfl) (fun ht => ?_) (fun ht => ?_) <;> try (first | exact False.elim ht | exact absurd rfl ht | exact absurd trivial ht | exact Bool.noConfusion ht)) | (with_reducible refine k_ret ?_; repeat with_reducible (first | refine ret_thru ?_ | refine ret_blk ?_ | refine fin ?_)) | (with_reducible refine k_exit ?_; repeat with_reducible (first | refine thru ?_ | refine out_blk ?_ | refine pass (by decide) ?_)) | ((first | refine post1 ?_ | refine post2 ?_ | refine post3 ?_); simp only [GA, simprocAttr]) | refine post0 ?_
    all_goals first | exact ends_of | exact ends_eq rfl
   ·rw [if_neg h0]
    have h0' : ((l.length : Int) = 0) = False := eq_false (by omega)
    repeat' first | (with_reducible first | refine k_seq ?_ | refine k_skip ?_ | refine k_blkS ?_ | refine k_blkR ?_ | refine k_blkC ?_ | refine k_blkH ?_ | refine k_blkB ?_ | refine k_blkK ?_ | refine k_blkE ?_ | refine k_reg ?_) | with_reducible refine r_done ?_ | with_reducible refine s_go (by simp (disch := omega) only [h0', RG27, EVA, plug, eq_self, simprocAttr]; with_reducible rfl) ?_ | ((with_reducible refine chk_r ?_); refine r_callF (by simp only [CA, simprocAttr]; rfl) (by exact rfl) (by simp only [CA, simprocAttr]; rfl) rfl ?_) | ((with_reducible refine chk_r ?_); refine r_callP (by simp only [CA, simprocAttr]; rfl) (by simp only [CA, simprocAttr]; rfl) (by first | exact q26 _ | exact q59 _) rfl ?_) | (with_reducible refine k_condP (by simp only [GA, simprocAttr]; rfl) (by first | (simp only [BO]; rfl) | rfl) (fun ht => ?_) (fun ht => ?_) <;> try (first | exact False.elim ht | exact absurd rfl ht | exact absurd trivial ht | exact Bool.noConfusion ht)) | (with_reducible refine k_ret ?_; repeat with_reducible (first | refine ret_thru ?_ | refine ret_blk ?_ | refine fin ?_)) | (with_reducible refine k_exit ?_; repeat with_reducible (first | refine thru ?_ | refine out_blk ?_ | refine pass (by decide) ?_)) | ((first | refine post1 ?_ | refine post2 ?_ | refine post3 ?_); simp only [GA, simprocAttr]) | refine post0 ?_
    refine k_blk (k_loopS (X := Unit) [0, 1, 2, 8, 9, 27, 28, 29] l.length (fun k _ => [(0, vB l), (1, .i .i64 b), (2, .i .i64 c), (8, .i .i64 (sm l k)), (9, .i .i64 (lg l k)), (27, vB l), (28, .i .i64 l.length), (29, .i .i64 (k : Int))]) (fun k _ h => True) () (by simp only [Am.keep, List.map_cons, List.map_nil, GA, simprocAttr]; try rfl) trivial ?_)
    rintro k _ h hk - ok pos
    by_cases hlt : k < l.length
    ·have hlt' : (k : Int) < l.length := by omega
     have rA := rdB hlt
     have q60 := pc60 (bD l k) (hv.b hlt)
     have s1 := sm_rng hv k (by omega)
     have s2 := hrs_rng (hv.b hlt)
     have s3 := lg_rng hv k (by omega)
     have e1 : sm l k + hrs (bD l k) = sm l (k + 1) := rfl
     have e2 : max (lg l k) (hrs (bD l k)) = lg l (k + 1) := rfl
     have s4 := sm_rng hv (k + 1) (by omega)
     simp only [eB] at rA q60
     repeat' first | (with_reducible first | refine k_seq ?_ | refine k_skip ?_ | refine k_blkS ?_ | refine k_blkR ?_ | refine k_blkC ?_ | refine k_blkH ?_ | refine k_blkB ?_ | refine k_blkK ?_ | refine k_blkE ?_ | refine k_reg ?_) | with_reducible refine r_done ?_ | with_reducible refine s_go (by simp (disch := omega) only [hlt', rA, e1, e2, RG27, EVA, plug, eq_self, simprocAttr]; with_reducible rfl) ?_ | ((with_reducible refine chk_r ?_); refine r_callF (by simp only [CA, simprocAttr]; rfl) (by exact rfl) (by simp only [CA, simprocAttr]; rfl) rfl ?_) | ((with_reducible refine chk_r ?_); refine r_callP (by simp only [CA, simprocAttr]; rfl) (by simp only [CA, simprocAttr]; rfl) (by first | exact q60 _) rfl ?_) | (with_reducible refine k_condP (by simp only [GA, simprocAttr]; rfl) (by first | (simp only [BO]; rfl) | rfl) (fun ht => ?_) (fun ht => ?_) <;> try (first | exact False.elim ht | exact absurd rfl ht | exact absurd trivial ht | exact Bool.noConfusion ht)) | (with_reducible refine k_ret ?_; repeat with_reducible (first | refine ret_thru ?_ | refine ret_blk ?_ | refine fin ?_)) | (with_reducible refine k_exit ?_; repeat with_reducible (first | refine thru ?_ | refine out_blk ?_ | refine pass (by decide) ?_)) | ((first | refine post1 ?_ | refine post2 ?_ | refine post3 ?_); simp only [GA, simprocAttr]) | refine post0 ?_
     exact ⟨hlt, (), (by simp only [Am.keep, List.map_cons, List.map_nil, GA, simprocAttr]; try rfl), trivial⟩
    ·obtain rfl : k = l.length := by omega
     have hlt' : ¬ (l.length : Int) < l.length := by omega
     have hs := sm_rng hv l.length (Nat.le_refl _)
     have hg := lg_rng hv l.length (Nat.le_refl _)
     have hs' : 0 ≤ sm l l.length ∧ sm l l.length ≤ 16000 := by omega
     generalize sm l l.length = s at hs hs' ⊢
     generalize lg l l.length = g at hg ⊢
     have em : min b (l.length : Int) = ((min bn l.length : Nat) : Int) := by omega
     have em2 : min b.toNat l.length = min bn l.length := by omega
     rw [em2]
     have mle : min bn l.length ≤ 8 := by omega
     generalize min bn l.length = m at em mle ⊢
     repeat' first | (with_reducible first | refine k_seq ?_ | refine k_skip ?_ | refine k_blkS ?_ | refine k_blkR ?_ | refine k_blkC ?_ | refine k_blkH ?_ | refine k_blkB ?_ | refine k_blkK ?_ | refine k_blkE ?_ | refine k_reg ?_) | with_reducible refine r_done ?_ | with_reducible refine s_go (by simp (disch := omega) only [hlt', RG27, EVA, plug, eq_self, simprocAttr]; with_reducible rfl) ?_ | ((with_reducible refine chk_r ?_); refine r_callF (by simp only [CA, simprocAttr]; rfl) (by exact rfl) (by simp only [CA, simprocAttr]; rfl) rfl ?_) | (with_reducible refine k_condP (by simp only [GA, simprocAttr]; rfl) (by first | (simp only [BO]; rfl) | rfl) (fun ht => ?_) (fun ht => ?_) <;> try (first | exact False.elim ht | exact absurd rfl ht | exact absurd trivial ht | exact Bool.noConfusion ht)) | (with_reducible refine k_ret ?_; repeat with_reducible (first | refine ret_thru ?_ | refine ret_blk ?_ | refine fin ?_)) | (with_reducible refine k_exit ?_; repeat with_reducible (first | refine thru ?_ | refine out_blk ?_ | refine pass (by decide) ?_)) | ((first | refine post1 ?_ | refine post2 ?_ | refine post3 ?_); simp only [GA, simprocAttr]) | refine post0 ?_
     refine k_blk (k_loopS (X := Unit) [0, 1, 2, 8, 9, 12, 13] m (fun k _ => [(0, vB l), (1, .i .i64 b), (2, .i .i64 c), (8, .i .i64 s), (9, .i .i64 g), (12, .i .i64 (bm s c k)), (13, .i .i64 ((k + 1 : Nat) : Int))]) (fun k _ h => True) () (by simp only [Am.keep, List.map_cons, List.map_nil, GA, simprocAttr]; try rfl) trivial ?_)
     rintro k _ h hk - ok pos
     have r1 := bm_rng hs' ⟨c1, c2⟩ k (by omega)
     by_cases klt : k < m
     ·have klt' : ((k + 1 : Nat) : Int) ≤ (m : Int) := by omega
      have r2 := bc_rng ⟨c1, c2⟩ (b := k + 1) (by omega)
      have r3 := dv_rng hs' ⟨c1, c2⟩ (b := k + 1) (by omega) (by omega)
      have e3 : (s + ((k + 1 : Nat) : Int) * c + ((k + 1 : Nat) : Int) - 1).tdiv ((k + 1 : Nat) : Int) = dv s c (k + 1) := rfl
      have e4 : min (bm s c k) (dv s c (k + 1)) = bm s c (k + 1) := rfl
      have nz : (((k + 1 : Nat) : Int) = 0) = False := eq_false (by omega)
      repeat' first | (with_reducible first | refine k_seq ?_ | refine k_skip ?_ | refine k_blkS ?_ | refine k_blkR ?_ | refine k_blkC ?_ | refine k_blkH ?_ | refine k_blkB ?_ | refine k_blkK ?_ | refine k_blkE ?_ | refine k_reg ?_) | with_reducible refine r_done ?_ | with_reducible refine s_go (by simp (disch := omega) only [klt', em, e3, e4, nz, RG27, EVA, plug, eq_self, simprocAttr]; with_reducible rfl) ?_ | ((with_reducible refine chk_r ?_); refine r_callF (by simp only [CA, simprocAttr]; rfl) (by exact rfl) (by simp only [CA, simprocAttr]; rfl) rfl ?_) | (with_reducible refine k_condP (by simp only [GA, simprocAttr]; rfl) (by first | (simp only [BO]; rfl) | rfl) (fun ht => ?_) (fun ht => ?_) <;> try (first | exact False.elim ht | exact absurd rfl ht | exact absurd trivial ht | exact Bool.noConfusion ht)) | (with_reducible refine k_ret ?_; repeat with_reducible (first | refine ret_thru ?_ | refine ret_blk ?_ | refine fin ?_)) | (with_reducible refine k_exit ?_; repeat with_reducible (first | refine thru ?_ | refine out_blk ?_ | refine pass (by decide) ?_)) | ((first | refine post1 ?_ | refine post2 ?_ | refine post3 ?_); simp only [GA, simprocAttr]) | refine post0 ?_
      exact ⟨klt, (), (by simp only [Am.keep, List.map_cons, List.map_nil, GA, simprocAttr]; try rfl), trivial⟩
     ·obtain rfl : k = m := by omega
      have klt' : ¬ ((k + 1 : Nat) : Int) ≤ (k : Int) := by omega
      repeat' first | (with_reducible first | refine k_seq ?_ | refine k_skip ?_ | refine k_blkS ?_ | refine k_blkR ?_ | refine k_blkC ?_ | refine k_blkH ?_ | refine k_blkB ?_ | refine k_blkK ?_ | refine k_blkE ?_ | refine k_reg ?_) | with_reducible refine r_done ?_ | with_reducible refine s_go (by simp (disch := omega) only [klt', em, RG27, EVA, plug, eq_self, simprocAttr]; with_reducible rfl) ?_ | ((with_reducible refine chk_r ?_); refine r_callF (by simp only [CA, simprocAttr]; rfl) (by exact rfl) (by simp only [CA, simprocAttr]; rfl) rfl ?_) | (with_reducible refine k_condP (by simp only [GA, simprocAttr]; rfl) (by first | (simp only [BO]; rfl) | rfl) (fun ht => ?_) (fun ht => ?_) <;> try (first | exact False.elim ht | exact absurd rfl ht | exact absurd trivial ht | exact Bool.noConfusion ht)) | (with_reducible refine k_ret ?_; repeat with_reducible (first | refine ret_thru ?_ | refine ret_blk ?_ | refine fin ?_)) | (with_reducible refine k_exit ?_; repeat with_reducible (first | refine thru ?_ | refine out_blk ?_ | refine pass (by decide) ?_)) | ((first | refine post1 ?_ | refine post2 ?_ | refine post3 ?_); simp only [GA, simprocAttr]) | refine post0 ?_
      all_goals first | exact ends_of | exact ends_eq rfl
  ·rw [if_neg hc]
   rw [decide_eq_false hc] at q59
   repeat' first | (with_reducible first | refine k_seq ?_ | refine k_skip ?_ | refine k_blkS ?_ | refine k_blkR ?_ | refine k_blkC ?_ | refine k_blkH ?_ | refine k_blkB ?_ | refine k_blkK ?_ | refine k_blkE ?_ | refine k_reg ?_) | with_reducible refine r_done ?_ | with_reducible refine s_go (by simp (disch := omega) only [RG27, EVA, plug, eq_self, simprocAttr]; with_reducible rfl) ?_ | ((with_reducible refine chk_r ?_); refine r_callF (by simp only [CA, simprocAttr]; rfl) (by exact rfl) (by simp only [CA, simprocAttr]; rfl) rfl ?_) | ((with_reducible refine chk_r ?_); refine r_callP (by simp only [CA, simprocAttr]; rfl) (by simp only [CA, simprocAttr]; rfl) (by first | exact q26 _ | exact q59 _) rfl ?_) | (with_reducible refine k_condP (by simp only [GA, simprocAttr]; rfl) (by first | (simp only [BO]; rfl) | rfl) (fun ht => ?_) (fun ht => ?_) <;> try (first | exact False.elim ht | exact absurd rfl ht | exact absurd trivial ht | exact Bool.noConfusion ht)) | (with_reducible refine k_ret ?_; repeat with_reducible (first | refine ret_thru ?_ | refine ret_blk ?_ | refine fin ?_)) | (with_reducible refine k_exit ?_; repeat with_reducible (first | refine thru ?_ | refine out_blk ?_ | refine pass (by decide) ?_)) | ((first | refine post1 ?_ | refine post2 ?_ | refine post3 ?_); simp only [GA, simprocAttr]) | refine post0 ?_
   all_goals first | exact ends_of | exact ends_eq rfl
 ·rw [if_neg hv]
  rw [vl_f hv] at q26
  repeat' first | (with_reducible first | refine k_seq ?_ | refine k_skip ?_ | refine k_blkS ?_ | refine k_blkR ?_ | refine k_blkC ?_ | refine k_blkH ?_ | refine k_blkB ?_ | refine k_blkK ?_ | refine k_blkE ?_ | refine k_reg ?_) | with_reducible refine r_done ?_ | with_reducible refine s_go (by simp (disch := omega) only [RG27, EVA, plug, eq_self, simprocAttr]; with_reducible rfl) ?_ | ((with_reducible refine chk_r ?_); refine r_callF (by simp only [CA, simprocAttr]; rfl) (by exact rfl) (by simp only [CA, simprocAttr]; rfl) rfl ?_) | ((with_reducible refine chk_r ?_); refine r_callP (by simp only [CA, simprocAttr]; rfl) (by simp only [CA, simprocAttr]; rfl) (by first | exact q26 _) rfl ?_) | (with_reducible refine k_condP (by simp only [GA, simprocAttr]; rfl) (by first | (simp only [BO]; rfl) | rfl) (fun ht => ?_) (fun ht => ?_) <;> try (first | exact False.elim ht | exact absurd rfl ht | exact absurd trivial ht | exact Bool.noConfusion ht)) | (with_reducible refine k_ret ?_; repeat with_reducible (first | refine ret_thru ?_ | refine ret_blk ?_ | refine fin ?_)) | (with_reducible refine k_exit ?_; repeat with_reducible (first | refine thru ?_ | refine out_blk ?_ | refine pass (by decide) ?_)) | ((first | refine post1 ?_ | refine post2 ?_ | refine post3 ?_); simp only [GA, simprocAttr]) | refine post0 ?_
  all_goals first | exact ends_of | exact ends_eq rfl
end Go.Proofs.Ytjncfpfgobojpaa
set_option linter.unusedVariables false
set_option linter.unusedSimpArgs false
namespace Go.Proofs.Ytjncfpfgobojpaa
open Go Go.Am Go.Proofs Go.Sort
theorem getD_setb {us : List Bool} {i j : Nat} {v : Bool} (hi : i < us.length) : (us.set i v).getD j false = if j = i then v else us.getD j false := by
 by_cases e : j = i
 ·subst e; simp [List.getD_eq_getElem?_getD, hi]
 ·have : ¬ i = j := fun q => e q.symm
  simp [List.getD_eq_getElem?_getD, List.getElem?_set, this, e]
theorem in_step {l : List B} {ns : List Int} {us : List Bool} {k a : Nat} (hu : us.length = l.length) (ha : ni ns k = a) (hal : a < l.length) (hf : ∀ i, i < l.length → us.getD i false = decide (hasI ns k i)) : ∀ i, i < l.length → (us.set a true).getD i false = decide (hasI ns (k + 1) i) := fun i hi => by
 rw [getD_setb (by omega), hf i hi, Bool.eq_iff_iff]
 by_cases e : i = a
 ·subst e; rw [if_pos rfl, decide_eq_true_eq, hasI_succ, ha]; simp
 ·rw [if_neg e, decide_eq_true_eq, decide_eq_true_eq, hasI_succ, ha]
  constructor
  ·exact .inr
  ·rintro (q | q)
   ·omega
   ·exact q
theorem GK.bad {l : List B} {ns : List Int} {k : Nat} (hk : k < ns.length) (h : ¬ (0 ≤ ni ns k ∧ ni ns k < l.length) ∨ hasI ns k (ni ns k)) : ¬ GK l ns ns.length := fun g => by
 have := g k hk
 rcases h with h | h
 ·exact h ⟨this.1, this.2.1⟩
 ·exact this.2.2 h
open Classical in
noncomputable def pkR (l : List B) (ns : List Int) : Int := if VL l then if GK l ns ns.length then 0 else 2 else 60
theorem RG69 : (type_of% @c69r0.eq_1) ∧ (type_of% @c69r1.eq_1) ∧ (type_of% @c69r2.eq_1) ∧ (type_of% @c69r3.eq_1) ∧ (type_of% @c69r4.eq_1) ∧ (type_of% @c69r5.eq_1) ∧ (type_of% @c69r6.eq_1) ∧ (type_of% @c69r7.eq_1) ∧ (type_of% @c69r8.eq_1) ∧ (type_of% @c69r9.eq_1) ∧ (type_of% @c69r10.eq_1) ∧ (type_of% @c69r12.eq_1) := ⟨@c69r0.eq_1, @c69r1.eq_1, @c69r2.eq_1, @c69r3.eq_1, @c69r4.eq_1, @c69r5.eq_1, @c69r6.eq_1, @c69r7.eq_1, @c69r8.eq_1, @c69r9.eq_1, @c69r10.eq_1, @c69r12.eq_1⟩
set_option maxHeartbeats 1000000 in
theorem pc69 (l : List B) (hl : l.length ≤ 9223372036854775807) (ns : List Int) (hn : ns.length ≤ 9223372036854775807) : PC Try.prog 69 [vB l, vi ns] (.i .i64 (pkR l ns)) := by
 refine pc_fn fn69 (by simp only [AV.plains, AV.plain, il_plain, bl_plain, Bool.and_true, Bool.true_and, Bool.and_self, flB_plain]) (by simp only [AV.plains, AV.plain, il_plain, bl_plain, Bool.and_true, Bool.true_and, Bool.and_self, flB_plain]) (Nat.le_of_ble_eq_true rfl) ?_
 rw [initSt2]
 have q26 := pc26 l hl
 unfold pkR
 by_cases hv : VL l
 ·rw [if_pos hv]
  rw [vl_t hv] at q26
  have hl6 := hv.len
  repeat' first | (with_reducible first | refine k_seq ?_ | refine k_skip ?_ | refine k_blkS ?_ | refine k_blkR ?_ | refine k_blkC ?_ | refine k_blkH ?_ | refine k_blkB ?_ | refine k_blkK ?_ | refine k_blkE ?_ | refine k_reg ?_) | with_reducible refine r_done ?_ | with_reducible refine s_go (by simp (disch := omega) only [RG69, EVA, plug, eq_self, simprocAttr]; with_reducible rfl) ?_ | ((with_reducible refine chk_r ?_); refine r_callF (by simp only [CA, simprocAttr]; rfl) (by exact rfl) (by simp only [CA, simprocAttr]; rfl) rfl ?_) | ((with_reducible refine chk_r ?_); refine r_callP (by simp only [CA, simprocAttr]; rfl) (by simp only [CA, simprocAttr]; rfl) (by first | exact q26 _) rfl ?_) | (with_reducible refine k_condP (by simp only [GA, simprocAttr]; rfl) (by first | (simp only [BO]; rfl) | rfl) (fun ht => ?_) (fun ht => ?_) <;> try (first | exact False.elim ht | exact absurd rfl ht | exact absurd trivial ht | exact Bool.noConfusion ht)) | (with_reducible refine k_ret ?_; repeat with_reducible (first | refine ret_thru ?_ | refine ret_blk ?_ | refine fin ?_)) | (with_reducible refine k_exit ?_; repeat with_reducible (first | refine thru ?_ | refine out_blk ?_ | refine pass (by decide) ?_)) | ((first | refine post1 ?_ | refine post2 ?_ | refine post3 ?_); simp only [GA, simprocAttr]) | refine post0 ?_
  refine k_blk (k_loopS (X := Nat × List Bool) [0, 5, 14, 15, 16] ns.length (fun k x => [(0, vB l), (5, .sl x.1 0 l.length 1), (14, vi ns), (15, .i .i64 ns.length), (16, .i .i64 (k : Int))])
   (fun k x h => x.1 ≠ 0 ∧ h.m x.1 = some (.cells true (bl x.2)) ∧ x.2.length = l.length ∧ (∀ i, i < l.length → x.2.getD i false = decide (hasI ns k i)) ∧ GK l ns k) (_, List.replicate l.length false) (by simp only [Am.keep, List.map_cons, List.map_nil, GA, simprocAttr]; try rfl) ⟨?_, by simp (disch := omega) only [bl_rep, RG69, EVA, plug, eq_self, simprocAttr] <;> rfl, by simp, fun i hi => by simp [hi], fun i hi => by omega⟩ ?_)
  ·simp only [AH.bump_nx]; omega
  rintro k ⟨x, us⟩ h hk ⟨hx, hm, hu, hf, hg⟩ ok pos
  simp only at hx hm hu hf hg ⊢
  have hx' := ok.m hm
  by_cases hlt : k < ns.length
  ·have hlt' : (k : Int) < ns.length := by omega
   have g := il_get hlt
   have q64 := pc64 l hl (ni ns k)
   by_cases hr : 0 ≤ ni ns k ∧ ni ns k < l.length
   ·rw [decide_eq_true hr] at q64
    obtain ⟨a, ha⟩ : ∃ a : Nat, ni ns k = a := ⟨(ni ns k).toNat, by omega⟩
    have g' : (il ns)[k]? = some (.i .i64 (a : Int)) := by rw [g, ← ha]
    have hfa := hf a (by omega)
    have ba := bl_get (l := us) (j := a) (by omega)
    rw [hfa] at ba
    rw [ha] at q64 hr
    by_cases hh : hasI ns k a
    ·rw [decide_eq_true hh] at ba
     rw [if_neg (GK.bad hlt (.inr (by rw [ha]; exact hh)))]
     repeat' first | (with_reducible first | refine k_seq ?_ | refine k_skip ?_ | refine k_blkS ?_ | refine k_blkR ?_ | refine k_blkC ?_ | refine k_blkH ?_ | refine k_blkB ?_ | refine k_blkK ?_ | refine k_blkE ?_ | refine k_reg ?_) | with_reducible refine r_done ?_ | with_reducible refine s_go (by simp (disch := omega) only [hlt', g', hm, row_m hm, read_row (row_m hm), ba, hu, hr, RG69, EVA, plug, eq_self, simprocAttr]; with_reducible rfl) ?_ | ((with_reducible refine chk_r ?_); refine r_callF (by simp only [CA, simprocAttr]; rfl) (by exact rfl) (by simp only [CA, simprocAttr]; rfl) rfl ?_) | ((with_reducible refine chk_r ?_); refine r_callP (by simp only [CA, simprocAttr]; rfl) (by simp only [CA, simprocAttr]; rfl) (by first | exact q64 _) rfl ?_) | (with_reducible refine k_condP (by simp only [GA, simprocAttr]; rfl) (by first | (simp only [BO]; rfl) | rfl) (fun ht => ?_) (fun ht => ?_) <;> try (first | exact False.elim ht | exact absurd rfl ht | exact absurd trivial ht | exact Bool.noConfusion ht)) | (with_reducible refine k_ret ?_; repeat with_reducible (first | refine ret_thru ?_ | refine ret_blk ?_ | refine fin ?_)) | (with_reducible refine k_exit ?_; repeat with_reducible (first | refine thru ?_ | refine out_blk ?_ | refine pass (by decide) ?_)) | ((first | refine post1 ?_ | refine post2 ?_ | refine post3 ?_); simp only [GA, simprocAttr]) | refine post0 ?_
     all_goals first | exact ends_of | exact ends_eq rfl
    ·rw [decide_eq_false hh] at ba
     repeat' first | (with_reducible first | refine k_seq ?_ | refine k_skip ?_ | refine k_blkS ?_ | refine k_blkR ?_ | refine k_blkC ?_ | refine k_blkH ?_ | refine k_blkB ?_ | refine k_blkK ?_ | refine k_blkE ?_ | refine k_reg ?_) | with_reducible refine r_done ?_ | with_reducible refine s_go (by simp (disch := omega) only [hlt', g', hm, row_m hm, read_row (row_m hm), ba, hu, hr, RG69, EVA, plug, eq_self, simprocAttr]; with_reducible rfl) ?_ | ((with_reducible refine chk_r ?_); refine r_callF (by simp only [CA, simprocAttr]; rfl) (by exact rfl) (by simp only [CA, simprocAttr]; rfl) rfl ?_) | ((with_reducible refine chk_r ?_); refine r_callP (by simp only [CA, simprocAttr]; rfl) (by simp only [CA, simprocAttr]; rfl) (by first | exact q64 _) rfl ?_) | (with_reducible refine k_condP (by simp only [GA, simprocAttr]; rfl) (by first | (simp only [BO]; rfl) | rfl) (fun ht => ?_) (fun ht => ?_) <;> try (first | exact False.elim ht | exact absurd rfl ht | exact absurd trivial ht | exact Bool.noConfusion ht)) | (with_reducible refine k_ret ?_; repeat with_reducible (first | refine ret_thru ?_ | refine ret_blk ?_ | refine fin ?_)) | (with_reducible refine k_exit ?_; repeat with_reducible (first | refine thru ?_ | refine out_blk ?_ | refine pass (by decide) ?_)) | ((first | refine post1 ?_ | refine post2 ?_ | refine post3 ?_); simp only [GA, simprocAttr]) | refine post0 ?_
     exact ⟨hlt, ⟨x, us.set a true⟩, (by simp only [Am.keep, List.map_cons, List.map_nil, GA, simprocAttr]; try rfl), hx, by simp (disch := omega) only [hm, RG69, EVA, plug, eq_self, simprocAttr] <;> rfl, by rw [List.length_set]; exact hu, in_step hu ha (by omega) hf, hg.succ (by rw [ha]; exact hr) (by rw [ha]; exact hh)⟩
   ·rw [decide_eq_false hr] at q64
    rw [if_neg (GK.bad hlt (.inl hr))]
    repeat' first | (with_reducible first | refine k_seq ?_ | refine k_skip ?_ | refine k_blkS ?_ | refine k_blkR ?_ | refine k_blkC ?_ | refine k_blkH ?_ | refine k_blkB ?_ | refine k_blkK ?_ | refine k_blkE ?_ | refine k_reg ?_) | with_reducible refine r_done ?_ | with_reducible refine s_go (by simp (disch := omega) only [hlt', g, RG69, EVA, plug, eq_self, simprocAttr]; with_reducible rfl) ?_ | ((with_reducible refine chk_r ?_); refine r_callF (by simp only [CA, simprocAttr]; rfl) (by exact rfl) (by simp only [CA, simprocAttr]; rfl) rfl ?_) | ((with_reducible refine chk_r ?_); refine r_callP (by simp only [CA, simprocAttr]; rfl) (by simp only [CA, simprocAttr]; rfl) (by first | exact q64 _) rfl ?_) | (with_reducible refine k_condP (by simp only [GA, simprocAttr]; rfl) (by first | (simp only [BO]; rfl) | rfl) (fun ht => ?_) (fun ht => ?_) <;> try (first | exact False.elim ht | exact absurd rfl ht | exact absurd trivial ht | exact Bool.noConfusion ht)) | (with_reducible refine k_ret ?_; repeat with_reducible (first | refine ret_thru ?_ | refine ret_blk ?_ | refine fin ?_)) | (with_reducible refine k_exit ?_; repeat with_reducible (first | refine thru ?_ | refine out_blk ?_ | refine pass (by decide) ?_)) | ((first | refine post1 ?_ | refine post2 ?_ | refine post3 ?_); simp only [GA, simprocAttr]) | refine post0 ?_
    all_goals first | exact ends_of | exact ends_eq rfl
  ·obtain rfl : k = ns.length := by omega
   have hlt' : ¬ (ns.length : Int) < ns.length := by omega
   rw [if_pos hg]
   repeat' first | (with_reducible first | refine k_seq ?_ | refine k_skip ?_ | refine k_blkS ?_ | refine k_blkR ?_ | refine k_blkC ?_ | refine k_blkH ?_ | refine k_blkB ?_ | refine k_blkK ?_ | refine k_blkE ?_ | refine k_reg ?_) | with_reducible refine r_done ?_ | with_reducible refine s_go (by simp (disch := omega) only [hlt', RG69, EVA, plug, eq_self, simprocAttr]; with_reducible rfl) ?_ | ((with_reducible refine chk_r ?_); refine r_callF (by simp only [CA, simprocAttr]; rfl) (by exact rfl) (by simp only [CA, simprocAttr]; rfl) rfl ?_) | (with_reducible refine k_condP (by simp only [GA, simprocAttr]; rfl) (by first | (simp only [BO]; rfl) | rfl) (fun ht => ?_) (fun ht => ?_) <;> try (first | exact False.elim ht | exact absurd rfl ht | exact absurd trivial ht | exact Bool.noConfusion ht)) | (with_reducible refine k_ret ?_; repeat with_reducible (first | refine ret_thru ?_ | refine ret_blk ?_ | refine fin ?_)) | (with_reducible refine k_exit ?_; repeat with_reducible (first | refine thru ?_ | refine out_blk ?_ | refine pass (by decide) ?_)) | ((first | refine post1 ?_ | refine post2 ?_ | refine post3 ?_); simp only [GA, simprocAttr]) | refine post0 ?_
   all_goals first | exact ends_of | exact ends_eq rfl
 ·rw [if_neg hv]
  rw [vl_f hv] at q26
  repeat' first | (with_reducible first | refine k_seq ?_ | refine k_skip ?_ | refine k_blkS ?_ | refine k_blkR ?_ | refine k_blkC ?_ | refine k_blkH ?_ | refine k_blkB ?_ | refine k_blkK ?_ | refine k_blkE ?_ | refine k_reg ?_) | with_reducible refine r_done ?_ | with_reducible refine s_go (by simp (disch := omega) only [RG69, EVA, plug, eq_self, simprocAttr]; with_reducible rfl) ?_ | ((with_reducible refine chk_r ?_); refine r_callF (by simp only [CA, simprocAttr]; rfl) (by exact rfl) (by simp only [CA, simprocAttr]; rfl) rfl ?_) | ((with_reducible refine chk_r ?_); refine r_callP (by simp only [CA, simprocAttr]; rfl) (by simp only [CA, simprocAttr]; rfl) (by first | exact q26 _) rfl ?_) | (with_reducible refine k_condP (by simp only [GA, simprocAttr]; rfl) (by first | (simp only [BO]; rfl) | rfl) (fun ht => ?_) (fun ht => ?_) <;> try (first | exact False.elim ht | exact absurd rfl ht | exact absurd trivial ht | exact Bool.noConfusion ht)) | (with_reducible refine k_ret ?_; repeat with_reducible (first | refine ret_thru ?_ | refine ret_blk ?_ | refine fin ?_)) | (with_reducible refine k_exit ?_; repeat with_reducible (first | refine thru ?_ | refine out_blk ?_ | refine pass (by decide) ?_)) | ((first | refine post1 ?_ | refine post2 ?_ | refine post3 ?_); simp only [GA, simprocAttr]) | refine post0 ?_
  all_goals first | exact ends_of | exact ends_eq rfl
open Classical in
noncomputable def gkB (l : List B) (ns : List Int) : Bool := decide (GK l ns ns.length)
theorem RG70 : (type_of% @c70r0.eq_1) ∧ (type_of% @c70r1.eq_1) ∧ (type_of% @c70r2.eq_1) ∧ (type_of% @c70r3.eq_1) ∧ (type_of% @c70r4.eq_1) ∧ (type_of% @c70r5.eq_1) ∧ (type_of% @c70r6.eq_1) ∧ (type_of% @c70r7.eq_1) ∧ (type_of% @c70r9.eq_1) := ⟨@c70r0.eq_1, @c70r1.eq_1, @c70r2.eq_1, @c70r3.eq_1, @c70r4.eq_1, @c70r5.eq_1, @c70r6.eq_1, @c70r7.eq_1, @c70r9.eq_1⟩
set_option maxHeartbeats 1000000 in
theorem pc70 (l : List B) (hv : VL l) (ns : List Int) (hn : ns.length ≤ 9223372036854775807) : PC Try.prog 70 [vB l, vi ns] (.b (gkB l ns)) := by
 refine pc_fn fn70 (by simp only [AV.plains, AV.plain, il_plain, bl_plain, Bool.and_true, Bool.true_and, Bool.and_self, flB_plain]) (by simp only [AV.plains, AV.plain, il_plain, bl_plain, Bool.and_true, Bool.true_and, Bool.and_self, flB_plain]) (Nat.le_of_ble_eq_true rfl) ?_
 rw [initSt2]
 have hl6 := hv.len
 have stop : ∀ {k : Nat}, k < ns.length → (¬ (0 ≤ ni ns k ∧ ni ns k < l.length) ∨ hasI ns k (ni ns k)) → gkB l ns = false := fun hk h => by
  unfold gkB; exact @decide_eq_false _ (Classical.propDecidable _) (GK.bad hk h)
 repeat' first | (with_reducible first | refine k_seq ?_ | refine k_skip ?_ | refine k_blkS ?_ | refine k_blkR ?_ | refine k_blkC ?_ | refine k_blkH ?_ | refine k_blkB ?_ | refine k_blkK ?_ | refine k_blkE ?_ | refine k_reg ?_) | with_reducible refine r_done ?_ | with_reducible refine s_go (by simp (disch := omega) only [RG70, EVA, plug, eq_self, simprocAttr]; with_reducible rfl) ?_ | ((with_reducible refine chk_r ?_); refine r_callF (by simp only [CA, simprocAttr]; rfl) (by exact rfl) (by simp only [CA, simprocAttr]; rfl) rfl ?_) | (with_reducible refine k_condP (by simp only [GA, simprocAttr]; rfl) (by first | (simp only [BO]; rfl) | rfl) (fun ht => ?_) (fun ht => ?_) <;> try (first | exact False.elim ht | exact absurd rfl ht | exact absurd trivial ht | exact Bool.noConfusion ht)) | (with_reducible refine k_ret ?_; repeat with_reducible (first | refine ret_thru ?_ | refine ret_blk ?_ | refine fin ?_)) | (with_reducible refine k_exit ?_; repeat with_reducible (first | refine thru ?_ | refine out_blk ?_ | refine pass (by decide) ?_)) | ((first | refine post1 ?_ | refine post2 ?_ | refine post3 ?_); simp only [GA, simprocAttr]) | refine post0 ?_
 refine k_blk (k_loopS (X := Nat × List Bool) [0, 1, 5, 6] ns.length (fun k x => [(0, vB l), (1, vi ns), (5, .sl x.1 0 l.length 1), (6, .i .i64 (k : Int))])
  (fun k x h => x.1 ≠ 0 ∧ h.m x.1 = some (.cells true (bl x.2)) ∧ x.2.length = l.length ∧ (∀ i, i < l.length → x.2.getD i false = decide (hasI ns k i)) ∧ GK l ns k) (_, List.replicate l.length false) (by simp only [Am.keep, List.map_cons, List.map_nil, GA, simprocAttr]; try rfl) ⟨?_, by simp (disch := omega) only [bl_rep, RG70, EVA, plug, eq_self, simprocAttr] <;> rfl, by simp, fun i hi => by simp [hi], fun i hi => by omega⟩ ?_)
 ·simp only [AH.bump_nx]; omega
 rintro k ⟨x, us⟩ h hk ⟨hx, hm, hu, hf, hg⟩ ok pos
 simp only at hx hm hu hf hg ⊢
 have hx' := ok.m hm
 by_cases hlt : k < ns.length
 ·have hlt' : (k : Int) < ns.length := by omega
  have g := il_get hlt
  have q67 := pc67 l (by omega) (ni ns k)
  by_cases hr : 0 ≤ ni ns k ∧ ni ns k < l.length
  ·rw [decide_eq_true hr] at q67
   obtain ⟨a, ha⟩ : ∃ a : Nat, ni ns k = a := ⟨(ni ns k).toNat, by omega⟩
   have g' : (il ns)[k]? = some (.i .i64 (a : Int)) := by rw [g, ← ha]
   have hfa := hf a (by omega)
   have ba := bl_get (l := us) (j := a) (by omega)
   rw [hfa] at ba
   rw [ha] at q67 hr
   by_cases hh : hasI ns k a
   ·rw [decide_eq_true hh] at ba
    rw [stop hlt (.inr (by rw [ha]; exact hh))]
    repeat' first | (with_reducible first | refine k_seq ?_ | refine k_skip ?_ | refine k_blkS ?_ | refine k_blkR ?_ | refine k_blkC ?_ | refine k_blkH ?_ | refine k_blkB ?_ | refine k_blkK ?_ | refine k_blkE ?_ | refine k_reg ?_) | with_reducible refine r_done ?_ | with_reducible refine s_go (by simp (disch := omega) only [hlt', g', hm, row_m hm, read_row (row_m hm), ba, hu, hr, RG70, EVA, plug, eq_self, simprocAttr]; with_reducible rfl) ?_ | ((with_reducible refine chk_r ?_); refine r_callF (by simp only [CA, simprocAttr]; rfl) (by exact rfl) (by simp only [CA, simprocAttr]; rfl) rfl ?_) | ((with_reducible refine chk_r ?_); refine r_callP (by simp only [CA, simprocAttr]; rfl) (by simp only [CA, simprocAttr]; rfl) (by first | exact q67 _) rfl ?_) | (with_reducible refine k_condP (by simp only [GA, simprocAttr]; rfl) (by first | (simp only [BO]; rfl) | rfl) (fun ht => ?_) (fun ht => ?_) <;> try (first | exact False.elim ht | exact absurd rfl ht | exact absurd trivial ht | exact Bool.noConfusion ht)) | (with_reducible refine k_ret ?_; repeat with_reducible (first | refine ret_thru ?_ | refine ret_blk ?_ | refine fin ?_)) | (with_reducible refine k_exit ?_; repeat with_reducible (first | refine thru ?_ | refine out_blk ?_ | refine pass (by decide) ?_)) | ((first | refine post1 ?_ | refine post2 ?_ | refine post3 ?_); simp only [GA, simprocAttr]) | refine post0 ?_
    all_goals first | exact ends_of | exact ends_eq rfl
   ·rw [decide_eq_false hh] at ba
    repeat' first | (with_reducible first | refine k_seq ?_ | refine k_skip ?_ | refine k_blkS ?_ | refine k_blkR ?_ | refine k_blkC ?_ | refine k_blkH ?_ | refine k_blkB ?_ | refine k_blkK ?_ | refine k_blkE ?_ | refine k_reg ?_) | with_reducible refine r_done ?_ | with_reducible refine s_go (by simp (disch := omega) only [hlt', g', hm, row_m hm, read_row (row_m hm), ba, hu, hr, RG70, EVA, plug, eq_self, simprocAttr]; with_reducible rfl) ?_ | ((with_reducible refine chk_r ?_); refine r_callF (by simp only [CA, simprocAttr]; rfl) (by exact rfl) (by simp only [CA, simprocAttr]; rfl) rfl ?_) | ((with_reducible refine chk_r ?_); refine r_callP (by simp only [CA, simprocAttr]; rfl) (by simp only [CA, simprocAttr]; rfl) (by first | exact q67 _) rfl ?_) | (with_reducible refine k_condP (by simp only [GA, simprocAttr]; rfl) (by first | (simp only [BO]; rfl) | rfl) (fun ht => ?_) (fun ht => ?_) <;> try (first | exact False.elim ht | exact absurd rfl ht | exact absurd trivial ht | exact Bool.noConfusion ht)) | (with_reducible refine k_ret ?_; repeat with_reducible (first | refine ret_thru ?_ | refine ret_blk ?_ | refine fin ?_)) | (with_reducible refine k_exit ?_; repeat with_reducible (first | refine thru ?_ | refine out_blk ?_ | refine pass (by decide) ?_)) | ((first | refine post1 ?_ | refine post2 ?_ | refine post3 ?_); simp only [GA, simprocAttr]) | refine post0 ?_
    exact ⟨hlt, ⟨x, us.set a true⟩, (by simp only [Am.keep, List.map_cons, List.map_nil, GA, simprocAttr]; try rfl), hx, by simp (disch := omega) only [hm, RG70, EVA, plug, eq_self, simprocAttr] <;> rfl, by rw [List.length_set]; exact hu, in_step hu ha (by omega) hf, hg.succ (by rw [ha]; exact hr) (by rw [ha]; exact hh)⟩
  ·rw [decide_eq_false hr] at q67
   rw [stop hlt (.inl hr)]
   repeat' first | (with_reducible first | refine k_seq ?_ | refine k_skip ?_ | refine k_blkS ?_ | refine k_blkR ?_ | refine k_blkC ?_ | refine k_blkH ?_ | refine k_blkB ?_ | refine k_blkK ?_ | refine k_blkE ?_ | refine k_reg ?_) | with_reducible refine r_done ?_ | with_reducible refine s_go (by simp (disch := omega) only [hlt', g, RG70, EVA, plug, eq_self, simprocAttr]; with_reducible rfl) ?_ | ((with_reducible refine chk_r ?_); refine r_callF (by simp only [CA, simprocAttr]; rfl) (by exact rfl) (by simp only [CA, simprocAttr]; rfl) rfl ?_) | ((with_reducible refine chk_r ?_); refine r_callP (by simp only [CA, simprocAttr]; rfl) (by simp only [CA, simprocAttr]; rfl) (by first | exact q67 _) rfl ?_) | (with_reducible refine k_condP (by simp only [GA, simprocAttr]; rfl) (by first | (simp only [BO]; rfl) | rfl) (fun ht => ?_) (fun ht => ?_) <;> try (first | exact False.elim ht | exact absurd rfl ht | exact absurd trivial ht | exact Bool.noConfusion ht)) | (with_reducible refine k_ret ?_; repeat with_reducible (first | refine ret_thru ?_ | refine ret_blk ?_ | refine fin ?_)) | (with_reducible refine k_exit ?_; repeat with_reducible (first | refine thru ?_ | refine out_blk ?_ | refine pass (by decide) ?_)) | ((first | refine post1 ?_ | refine post2 ?_ | refine post3 ?_); simp only [GA, simprocAttr]) | refine post0 ?_
   all_goals first | exact ends_of | exact ends_eq rfl
 ·obtain rfl : k = ns.length := by omega
  have hlt' : ¬ (ns.length : Int) < ns.length := by omega
  have : gkB l ns = true := by unfold gkB; exact @decide_eq_true _ (Classical.propDecidable _) hg
  rw [this]
  repeat' first | (with_reducible first | refine k_seq ?_ | refine k_skip ?_ | refine k_blkS ?_ | refine k_blkR ?_ | refine k_blkC ?_ | refine k_blkH ?_ | refine k_blkB ?_ | refine k_blkK ?_ | refine k_blkE ?_ | refine k_reg ?_) | with_reducible refine r_done ?_ | with_reducible refine s_go (by simp (disch := omega) only [hlt', RG70, EVA, plug, eq_self, simprocAttr]; with_reducible rfl) ?_ | ((with_reducible refine chk_r ?_); refine r_callF (by simp only [CA, simprocAttr]; rfl) (by exact rfl) (by simp only [CA, simprocAttr]; rfl) rfl ?_) | (with_reducible refine k_condP (by simp only [GA, simprocAttr]; rfl) (by first | (simp only [BO]; rfl) | rfl) (fun ht => ?_) (fun ht => ?_) <;> try (first | exact False.elim ht | exact absurd rfl ht | exact absurd trivial ht | exact Bool.noConfusion ht)) | (with_reducible refine k_ret ?_; repeat with_reducible (first | refine ret_thru ?_ | refine ret_blk ?_ | refine fin ?_)) | (with_reducible refine k_exit ?_; repeat with_reducible (first | refine thru ?_ | refine out_blk ?_ | refine pass (by decide) ?_)) | ((first | refine post1 ?_ | refine post2 ?_ | refine post3 ?_); simp only [GA, simprocAttr]) | refine post0 ?_
  all_goals first | exact ends_of | exact ends_eq rfl
theorem pc71 (a b : B) : PC Try.prog 71 [.ag (eB a), .ag (eB b)] (.b (!mayB a b && !mayB b a)) := by
 have q1 := pc54 a b
 have q2 := pc54 b a
 simp only [eB] at q1 q2 ⊢
 refine pc_fn fn71 (by simp only [AV.plains, AV.plain, il_plain, bl_plain, Bool.and_true, Bool.true_and, Bool.and_self]) (by simp only [AV.plains, AV.plain, il_plain, bl_plain, Bool.and_true, Bool.true_and, Bool.and_self]) (Nat.le_of_ble_eq_true rfl) ?_
 rw [initSt2]
 generalize mayB a b = X at q1 ⊢
 generalize mayB b a = Y at q2 ⊢
 cases X <;> cases Y
 ·repeat' first
   | with_reducible refine k_seq ?_
   | with_reducible refine k_skip ?_
   | with_reducible refine k_blkS ?_
   | with_reducible refine k_blkR ?_
   | with_reducible refine k_blkC ?_
   | with_reducible refine k_blkH ?_
   | with_reducible refine k_blkB ?_
   | with_reducible refine k_blkK ?_
   | with_reducible refine k_blkE ?_
   | with_reducible refine k_reg ?_
   | with_reducible refine r_done ?_
   | with_reducible refine s_go (by simp (disch := omega) only [c71r0, c71r1, EVA, plug, eq_self, simprocAttr]; with_reducible rfl) ?_
   | ((with_reducible refine chk_r ?_); refine r_callF (by simp only [CA, simprocAttr]; rfl) (by exact rfl) (by simp only [CA, simprocAttr]; rfl) rfl ?_)
   | ((with_reducible refine chk_r ?_); refine r_callP (by simp only [CA, simprocAttr]; rfl) (by simp only [CA, simprocAttr]; rfl) (by first | exact q1 _ | exact q2 _) rfl ?_)
   | ((with_reducible refine chk_r ?_); refine r_callG (by simp only [CA, simprocAttr]; rfl) (by simp only [CA, simprocAttr]; rfl) (by simp only [CA, simprocAttr]; rfl) (by intro hg; (try simp only [BO] at hg); first | exact q1 _ | exact q2 _) rfl ?_)
   | (with_reducible refine k_condP (by simp only [GA, simprocAttr]; rfl) (by first | (simp only [BO]; rfl) | rfl) (fun ht => ?_) (fun ht => ?_) <;> try (first | exact False.elim ht | exact absurd rfl ht | exact absurd trivial ht | exact Bool.noConfusion ht))
   | (with_reducible refine k_ret ?_; repeat with_reducible (first | refine ret_thru ?_ | refine ret_blk ?_ | refine fin ?_))
   | (with_reducible refine k_exit ?_; repeat with_reducible (first | refine thru ?_ | refine out_blk ?_ | refine pass (by decide) ?_))
   | (refine post1 ?_; simp only [GA, simprocAttr])
   | (refine post2 ?_; simp only [GA, simprocAttr])
   | (refine post3 ?_; simp only [GA, simprocAttr])
   | (refine postc (by simp only [GA, simprocAttr]; rfl) (by simp (disch := omega) only [c71r0, c71r1, EVA, plug, eq_self, simprocAttr]; rfl) ?_)
   | refine post0 ?_
  all_goals first | exact ends_of | exact ends_eq rfl
 ·repeat' first
   | with_reducible refine k_seq ?_
   | with_reducible refine k_skip ?_
   | with_reducible refine k_blkS ?_
   | with_reducible refine k_blkR ?_
   | with_reducible refine k_blkC ?_
   | with_reducible refine k_blkH ?_
   | with_reducible refine k_blkB ?_
   | with_reducible refine k_blkK ?_
   | with_reducible refine k_blkE ?_
   | with_reducible refine k_reg ?_
   | with_reducible refine r_done ?_
   | with_reducible refine s_go (by simp (disch := omega) only [c71r0, c71r1, EVA, plug, eq_self, simprocAttr]; with_reducible rfl) ?_
   | ((with_reducible refine chk_r ?_); refine r_callF (by simp only [CA, simprocAttr]; rfl) (by exact rfl) (by simp only [CA, simprocAttr]; rfl) rfl ?_)
   | ((with_reducible refine chk_r ?_); refine r_callP (by simp only [CA, simprocAttr]; rfl) (by simp only [CA, simprocAttr]; rfl) (by first | exact q1 _ | exact q2 _) rfl ?_)
   | ((with_reducible refine chk_r ?_); refine r_callG (by simp only [CA, simprocAttr]; rfl) (by simp only [CA, simprocAttr]; rfl) (by simp only [CA, simprocAttr]; rfl) (by intro hg; (try simp only [BO] at hg); first | exact q1 _ | exact q2 _) rfl ?_)
   | (with_reducible refine k_condP (by simp only [GA, simprocAttr]; rfl) (by first | (simp only [BO]; rfl) | rfl) (fun ht => ?_) (fun ht => ?_) <;> try (first | exact False.elim ht | exact absurd rfl ht | exact absurd trivial ht | exact Bool.noConfusion ht))
   | (with_reducible refine k_ret ?_; repeat with_reducible (first | refine ret_thru ?_ | refine ret_blk ?_ | refine fin ?_))
   | (with_reducible refine k_exit ?_; repeat with_reducible (first | refine thru ?_ | refine out_blk ?_ | refine pass (by decide) ?_))
   | (refine post1 ?_; simp only [GA, simprocAttr])
   | (refine post2 ?_; simp only [GA, simprocAttr])
   | (refine post3 ?_; simp only [GA, simprocAttr])
   | (refine postc (by simp only [GA, simprocAttr]; rfl) (by simp (disch := omega) only [c71r0, c71r1, EVA, plug, eq_self, simprocAttr]; rfl) ?_)
   | refine post0 ?_
  all_goals first | exact ends_of | exact ends_eq rfl
 ·repeat' first
   | with_reducible refine k_seq ?_
   | with_reducible refine k_skip ?_
   | with_reducible refine k_blkS ?_
   | with_reducible refine k_blkR ?_
   | with_reducible refine k_blkC ?_
   | with_reducible refine k_blkH ?_
   | with_reducible refine k_blkB ?_
   | with_reducible refine k_blkK ?_
   | with_reducible refine k_blkE ?_
   | with_reducible refine k_reg ?_
   | with_reducible refine r_done ?_
   | with_reducible refine s_go (by simp (disch := omega) only [c71r0, c71r1, EVA, plug, eq_self, simprocAttr]; with_reducible rfl) ?_
   | ((with_reducible refine chk_r ?_); refine r_callF (by simp only [CA, simprocAttr]; rfl) (by exact rfl) (by simp only [CA, simprocAttr]; rfl) rfl ?_)
   | ((with_reducible refine chk_r ?_); refine r_callP (by simp only [CA, simprocAttr]; rfl) (by simp only [CA, simprocAttr]; rfl) (by first | exact q1 _ | exact q2 _) rfl ?_)
   | ((with_reducible refine chk_r ?_); refine r_callG (by simp only [CA, simprocAttr]; rfl) (by simp only [CA, simprocAttr]; rfl) (by simp only [CA, simprocAttr]; rfl) (by intro hg; (try simp only [BO] at hg); first | exact q1 _ | exact q2 _) rfl ?_)
   | (with_reducible refine k_condP (by simp only [GA, simprocAttr]; rfl) (by first | (simp only [BO]; rfl) | rfl) (fun ht => ?_) (fun ht => ?_) <;> try (first | exact False.elim ht | exact absurd rfl ht | exact absurd trivial ht | exact Bool.noConfusion ht))
   | (with_reducible refine k_ret ?_; repeat with_reducible (first | refine ret_thru ?_ | refine ret_blk ?_ | refine fin ?_))
   | (with_reducible refine k_exit ?_; repeat with_reducible (first | refine thru ?_ | refine out_blk ?_ | refine pass (by decide) ?_))
   | (refine post1 ?_; simp only [GA, simprocAttr])
   | (refine post2 ?_; simp only [GA, simprocAttr])
   | (refine post3 ?_; simp only [GA, simprocAttr])
   | (refine postc (by simp only [GA, simprocAttr]; rfl) (by simp (disch := omega) only [c71r0, c71r1, EVA, plug, eq_self, simprocAttr]; rfl) ?_)
   | refine post0 ?_
  all_goals first | exact ends_of | exact ends_eq rfl
 ·repeat' first
   | with_reducible refine k_seq ?_
   | with_reducible refine k_skip ?_
   | with_reducible refine k_blkS ?_
   | with_reducible refine k_blkR ?_
   | with_reducible refine k_blkC ?_
   | with_reducible refine k_blkH ?_
   | with_reducible refine k_blkB ?_
   | with_reducible refine k_blkK ?_
   | with_reducible refine k_blkE ?_
   | with_reducible refine k_reg ?_
   | with_reducible refine r_done ?_
   | with_reducible refine s_go (by simp (disch := omega) only [c71r0, c71r1, EVA, plug, eq_self, simprocAttr]; with_reducible rfl) ?_
   | ((with_reducible refine chk_r ?_); refine r_callF (by simp only [CA, simprocAttr]; rfl) (by exact rfl) (by simp only [CA, simprocAttr]; rfl) rfl ?_)
   | ((with_reducible refine chk_r ?_); refine r_callP (by simp only [CA, simprocAttr]; rfl) (by simp only [CA, simprocAttr]; rfl) (by first | exact q1 _ | exact q2 _) rfl ?_)
   | ((with_reducible refine chk_r ?_); refine r_callG (by simp only [CA, simprocAttr]; rfl) (by simp only [CA, simprocAttr]; rfl) (by simp only [CA, simprocAttr]; rfl) (by intro hg; (try simp only [BO] at hg); first | exact q1 _ | exact q2 _) rfl ?_)
   | (with_reducible refine k_condP (by simp only [GA, simprocAttr]; rfl) (by first | (simp only [BO]; rfl) | rfl) (fun ht => ?_) (fun ht => ?_) <;> try (first | exact False.elim ht | exact absurd rfl ht | exact absurd trivial ht | exact Bool.noConfusion ht))
   | (with_reducible refine k_ret ?_; repeat with_reducible (first | refine ret_thru ?_ | refine ret_blk ?_ | refine fin ?_))
   | (with_reducible refine k_exit ?_; repeat with_reducible (first | refine thru ?_ | refine out_blk ?_ | refine pass (by decide) ?_))
   | (refine post1 ?_; simp only [GA, simprocAttr])
   | (refine post2 ?_; simp only [GA, simprocAttr])
   | (refine post3 ?_; simp only [GA, simprocAttr])
   | (refine postc (by simp only [GA, simprocAttr]; rfl) (by simp (disch := omega) only [c71r0, c71r1, EVA, plug, eq_self, simprocAttr]; rfl) ?_)
   | refine post0 ?_
  all_goals first | exact ends_of | exact ends_eq rfl
end Go.Proofs.Ytjncfpfgobojpaa
set_option linter.unusedVariables false
set_option linter.unusedSimpArgs false
namespace Go.Proofs.Ytjncfpfgobojpaa
open Go Go.Am Go.Proofs Go.Sort
theorem GK.le {l : List B} {ns : List Int} (g : GK l ns ns.length) : ns.length ≤ l.length := by
 refine IX.le (l := l) (fun x hx => ?_) (List.pairwise_iff_getElem.2 fun i j hi hj hij e => ?_)
 ·obtain ⟨k, hk, e⟩ := List.getElem_of_mem hx
  have := g k hk
  have e' : ni ns k = x := by simp [ni, hk, e]
  rw [e'] at this
  exact ⟨this.1, this.2.1⟩
 ·refine (g j hj).2.2 ⟨i, hij, ?_⟩
  simp only [ni]; rw [getD_lt hi, getD_lt hj]; exact e
theorem GK.nat {l : List B} {ns : List Int} (g : GK l ns ns.length) {k : Nat} (hk : k < ns.length) : ∃ a : Nat, a < l.length ∧ ni ns k = a ∧ (il ns)[k]? = some (.i .i64 (a : Int)) := by
 have h := g k hk
 refine ⟨(ni ns k).toNat, by omega, by omega, ?_⟩
 rw [il_get hk]
 have : ns.getD k 0 = ((ni ns k).toNat : Int) := by simp only [ni] at *; omega
 rw [this]
theorem AP.no {l : List B} {ns : List Int} {k j : Nat} (hk : k < ns.length) (hj : j < k) {a b : Nat} (ea : ni ns k = a) (eb : ni ns j = b) (h : mayB (bD l a) (bD l b) = true ∨ mayB (bD l b) (bD l a) = true) : ¬ AP l ns ns.length := fun p => by
 have := p k hk j hj
 simp only [mayZ, mayI, ea, eb, Int.toNat_natCast] at this
 rcases h with h | h
 ·rw [h] at this; exact absurd this.1 (by decide)
 ·rw [h] at this; exact absurd this.2 (by decide)
def AQ (l : List B) (ns : List Int) (k j : Nat) : Prop := ∀ i, i < j → mayZ l (ni ns k) (ni ns i) = false ∧ mayZ l (ni ns i) (ni ns k) = false
theorem AQ.succ {l : List B} {ns : List Int} {k j : Nat} (p : AQ l ns k j) {a b : Nat} (ea : ni ns k = a) (eb : ni ns j = b) (h1 : mayB (bD l a) (bD l b) = false) (h2 : mayB (bD l b) (bD l a) = false) : AQ l ns k (j + 1) := fun i hi => by
 by_cases e : i = j
 ·subst e
  simp only [mayZ, mayI, ea, eb, Int.toNat_natCast]
  exact ⟨h1, h2⟩
 ·exact p i (by omega)
theorem AP.succ {l : List B} {ns : List Int} {k : Nat} (p : AP l ns k) (q : AQ l ns k k) : AP l ns (k + 1) := fun i hi j hj => by
 by_cases e : i = k
 ·subst e; exact q j hj
 ·exact p i (by omega) j hj
theorem RG32 : (type_of% @c32r0.eq_1) ∧ (type_of% @c32r1.eq_1) ∧ (type_of% @c32r2.eq_1) ∧ (type_of% @c32r3.eq_1) ∧ (type_of% @c32r4.eq_1) ∧ (type_of% @c32r5.eq_1) ∧ (type_of% @c32r6.eq_1) ∧ (type_of% @c32r7.eq_1) ∧ (type_of% @c32r8.eq_1) ∧ (type_of% @c32r9.eq_1) ∧ (type_of% @c32r10.eq_1) ∧ (type_of% @c32r11.eq_1) ∧ (type_of% @c32r13.eq_1) ∧ (type_of% @c32r15.eq_1) := ⟨@c32r0.eq_1, @c32r1.eq_1, @c32r2.eq_1, @c32r3.eq_1, @c32r4.eq_1, @c32r5.eq_1, @c32r6.eq_1, @c32r7.eq_1, @c32r8.eq_1, @c32r9.eq_1, @c32r10.eq_1, @c32r11.eq_1, @c32r13.eq_1, @c32r15.eq_1⟩
set_option maxHeartbeats 1000000 in
theorem pc32 (l : List B) (hl : l.length ≤ 9223372036854775807) (ns : List Int) (hn : ns.length ≤ 9223372036854775807) : PC Try.prog 32 [vB l, vi ns] (.tu [.b (apR l ns).1, .i .i64 (apR l ns).2]) := by
 refine pc_fn fn32 (by simp only [AV.plains, AV.plain, il_plain, bl_plain, Bool.and_true, Bool.true_and, Bool.and_self, flB_plain]) (by simp only [AV.plains, AV.plain, il_plain, bl_plain, Bool.and_true, Bool.true_and, Bool.and_self, flB_plain]) (Nat.le_of_ble_eq_true rfl) ?_
 rw [initSt2]
 have q23 := pc23 l hl
 by_cases hv : VL l
 ·rw [vl_t hv] at q23
  have q70 := pc70 l hv ns hn
  unfold gkB at q70
  by_cases g : GK l ns ns.length
  ·rw [@decide_eq_true _ (Classical.propDecidable _) g] at q70
   repeat' first | (with_reducible first | refine k_seq ?_ | refine k_skip ?_ | refine k_blkS ?_ | refine k_blkR ?_ | refine k_blkC ?_ | refine k_blkH ?_ | refine k_blkB ?_ | refine k_blkK ?_ | refine k_blkE ?_ | refine k_reg ?_) | with_reducible refine k_head (by with_unfolding_all rfl) ?_ | with_reducible refine k_headS ?_ | (with_reducible refine SepK.mk ?_ ?_; (refine sepQ_P ?_; simp [sepQ, sepG, AOp.late, AOp.free, AOp.xs, AOp.isAl, tokNe, AV.tok, stS_get, strip, AX.val, RG32, GA]; try omega)) | with_reducible refine r_done ?_ | with_reducible refine hr_done ?_ | with_reducible refine s_go (by simp (disch := omega) only [RG32, EVA, plug, eq_self, simprocAttr]; with_reducible rfl) ?_ | with_reducible refine h_go (by with_unfolding_all rfl) (by simp (disch := omega) only [RG32, EVA, plug, eq_self, simprocAttr]; with_reducible rfl) ?_ | ((with_reducible refine chk_r ?_); refine r_callF (by simp only [CA, simprocAttr]; rfl) (by exact rfl) (by simp only [CA, simprocAttr]; rfl) rfl ?_) | ((with_reducible refine chk_h ?_); refine hr_callF (by simp only [CA, simprocAttr]; rfl) (by exact rfl) (by simp only [CA, simprocAttr]; rfl) rfl ?_) | ((with_reducible refine chk_r ?_); refine r_callP (by simp only [CA, simprocAttr]; rfl) (by simp only [CA, simprocAttr]; rfl) (by first | exact q23 _ | exact q70 _) rfl ?_) | ((with_reducible refine chk_h ?_); refine hr_callP (by simp only [CA, simprocAttr]; rfl) (by simp only [CA, simprocAttr]; rfl) (by first | exact q23 _ | exact q70 _) rfl ?_) | ((with_reducible refine chk_h ?_); refine hr_callP1 (by simp only [CA, simprocAttr]; rfl) (by simp only [CA, simprocAttr]; rfl) (by simp (disch := omega) only [CA, Nat.reduceEqDiff, ↓reduceIte, firstTok_nil, firstTok_sl, firstTok_sl0, firstTok_i, firstTok_b, firstTok_ag, firstTok_p, firstTok_s]; rfl) (by first | exact q23 _ | exact q70 _) rfl ?_) | ((with_reducible refine chk_h ?_); refine hr_app (by simp (disch := omega) only [RG32, EVA, plug, eq_self, simprocAttr]; with_reducible rfl) rfl ?_) | (with_reducible refine k_condP (by simp only [GA, simprocAttr]; rfl) (by first | (simp only [BO]; rfl) | rfl) (fun ht => ?_) (fun ht => ?_) <;> try (first | exact False.elim ht | exact absurd rfl ht | exact absurd trivial ht | exact Bool.noConfusion ht)) | (with_reducible refine k_ret ?_; repeat with_reducible (first | refine ret_thru ?_ | refine ret_blk ?_ | refine fin ?_)) | (with_reducible refine k_exit ?_; repeat with_reducible (first | refine thru ?_ | refine out_blk ?_ | refine pass (by decide) ?_)) | ((first | refine post1 ?_ | refine post2 ?_ | refine post3 ?_); simp only [GA, simprocAttr]) | refine post0 ?_
   refine k_blk (k_loopS (X := Unit) [0, 1, 6] ns.length (fun k _ => [(0, vB l), (1, vi ns), (6, .i .i64 (k : Int))]) (fun k _ h => AP l ns k) () (by simp only [Am.keep, List.map_cons, List.map_nil, GA, simprocAttr]; try rfl) (fun i hi => by omega) ?_)
   rintro k _ h hk hp ok pos
   by_cases hlt : k < ns.length
   ·have hlt' : (k : Int) < ns.length := by omega
    obtain ⟨a, al, ea, ga⟩ := g.nat hlt
    repeat' first | (with_reducible first | refine k_seq ?_ | refine k_skip ?_ | refine k_blkS ?_ | refine k_blkR ?_ | refine k_blkC ?_ | refine k_blkH ?_ | refine k_blkB ?_ | refine k_blkK ?_ | refine k_blkE ?_ | refine k_reg ?_) | with_reducible refine k_head (by with_unfolding_all rfl) ?_ | with_reducible refine k_headS ?_ | (with_reducible refine SepK.mk ?_ ?_; (refine sepQ_P ?_; simp [sepQ, sepG, AOp.late, AOp.free, AOp.xs, AOp.isAl, tokNe, AV.tok, stS_get, strip, AX.val, RG32, GA]; try omega)) | with_reducible refine r_done ?_ | with_reducible refine hr_done ?_ | with_reducible refine s_go (by simp (disch := omega) only [hlt', RG32, EVA, plug, eq_self, simprocAttr]; with_reducible rfl) ?_ | with_reducible refine h_go (by with_unfolding_all rfl) (by simp (disch := omega) only [hlt', RG32, EVA, plug, eq_self, simprocAttr]; with_reducible rfl) ?_ | ((with_reducible refine chk_r ?_); refine r_callF (by simp only [CA, simprocAttr]; rfl) (by exact rfl) (by simp only [CA, simprocAttr]; rfl) rfl ?_) | ((with_reducible refine chk_h ?_); refine hr_callF (by simp only [CA, simprocAttr]; rfl) (by exact rfl) (by simp only [CA, simprocAttr]; rfl) rfl ?_) | ((with_reducible refine chk_h ?_); refine hr_app (by simp (disch := omega) only [hlt', RG32, EVA, plug, eq_self, simprocAttr]; with_reducible rfl) rfl ?_) | (with_reducible refine k_condP (by simp only [GA, simprocAttr]; rfl) (by first | (simp only [BO]; rfl) | rfl) (fun ht => ?_) (fun ht => ?_) <;> try (first | exact False.elim ht | exact absurd rfl ht | exact absurd trivial ht | exact Bool.noConfusion ht)) | (with_reducible refine k_ret ?_; repeat with_reducible (first | refine ret_thru ?_ | refine ret_blk ?_ | refine fin ?_)) | (with_reducible refine k_exit ?_; repeat with_reducible (first | refine thru ?_ | refine out_blk ?_ | refine pass (by decide) ?_)) | ((first | refine post1 ?_ | refine post2 ?_ | refine post3 ?_); simp only [GA, simprocAttr]) | refine post0 ?_
    refine k_blk (k_loopS (X := Unit) [0, 1, 6, 7] k (fun j _ => [(0, vB l), (1, vi ns), (6, .i .i64 (k : Int)), (7, .i .i64 (j : Int))]) (fun j _ h => AQ l ns k j) () (by simp only [Am.keep, List.map_cons, List.map_nil, GA, simprocAttr]; try rfl) (fun i hi => by omega) ?_)
    rintro j _ h hj hq ok pos
    by_cases jlt : j < k
    ·have jlt' : (j : Int) < k := by omega
     obtain ⟨b, bl, eb, gb⟩ := g.nat (show j < ns.length by omega)
     have rA := rdB al
     have rB := rdB bl
     have q1 := pc71 (bD l a) (bD l b)
     simp only [eB] at rA rB q1
     cases h1 : mayB (bD l a) (bD l b) with
     | true =>
       simp only [h1, Bool.not_true, Bool.false_and] at q1
       rw [apR_no hv g (AP.no hlt jlt ea eb (.inl h1))]
       repeat' first | (with_reducible first | refine k_seq ?_ | refine k_skip ?_ | refine k_blkS ?_ | refine k_blkR ?_ | refine k_blkC ?_ | refine k_blkH ?_ | refine k_blkB ?_ | refine k_blkK ?_ | refine k_blkE ?_ | refine k_reg ?_) | with_reducible refine k_head (by with_unfolding_all rfl) ?_ | with_reducible refine k_headS ?_ | (with_reducible refine SepK.mk ?_ ?_; (refine sepQ_P ?_; simp [sepQ, sepG, AOp.late, AOp.free, AOp.xs, AOp.isAl, tokNe, AV.tok, stS_get, strip, AX.val, RG32, GA]; try omega)) | with_reducible refine r_done ?_ | with_reducible refine hr_done ?_ | with_reducible refine s_go (by simp (disch := omega) only [jlt', ga, gb, rA, rB, RG32, EVA, plug, eq_self, simprocAttr]; with_reducible rfl) ?_ | with_reducible refine h_go (by with_unfolding_all rfl) (by simp (disch := omega) only [jlt', ga, gb, rA, rB, RG32, EVA, plug, eq_self, simprocAttr]; with_reducible rfl) ?_ | ((with_reducible refine chk_r ?_); refine r_callF (by simp only [CA, simprocAttr]; rfl) (by exact rfl) (by simp only [CA, simprocAttr]; rfl) rfl ?_) | ((with_reducible refine chk_h ?_); refine hr_callF (by simp only [CA, simprocAttr]; rfl) (by exact rfl) (by simp only [CA, simprocAttr]; rfl) rfl ?_) | ((with_reducible refine chk_r ?_); refine r_callP (by simp only [CA, simprocAttr]; rfl) (by simp only [CA, simprocAttr]; rfl) (by first | exact q1 _) rfl ?_) | ((with_reducible refine chk_h ?_); refine hr_callP (by simp only [CA, simprocAttr]; rfl) (by simp only [CA, simprocAttr]; rfl) (by first | exact q1 _) rfl ?_) | ((with_reducible refine chk_h ?_); refine hr_callP1 (by simp only [CA, simprocAttr]; rfl) (by simp only [CA, simprocAttr]; rfl) (by simp (disch := omega) only [CA, Nat.reduceEqDiff, ↓reduceIte, firstTok_nil, firstTok_sl, firstTok_sl0, firstTok_i, firstTok_b, firstTok_ag, firstTok_p, firstTok_s]; rfl) (by first | exact q1 _) rfl ?_) | ((with_reducible refine chk_h ?_); refine hr_app (by simp (disch := omega) only [jlt', ga, gb, rA, rB, RG32, EVA, plug, eq_self, simprocAttr]; with_reducible rfl) rfl ?_) | (with_reducible refine k_condP (by simp only [GA, simprocAttr]; rfl) (by first | (simp only [BO]; rfl) | rfl) (fun ht => ?_) (fun ht => ?_) <;> try (first | exact False.elim ht | exact absurd rfl ht | exact absurd trivial ht | exact Bool.noConfusion ht)) | (with_reducible refine k_ret ?_; repeat with_reducible (first | refine ret_thru ?_ | refine ret_blk ?_ | refine fin ?_)) | (with_reducible refine k_exit ?_; repeat with_reducible (first | refine thru ?_ | refine out_blk ?_ | refine pass (by decide) ?_)) | ((first | refine post1 ?_ | refine post2 ?_ | refine post3 ?_); simp only [GA, simprocAttr]) | refine post0 ?_
       all_goals first | exact ends_of | exact ends_eq rfl
     | false =>
       cases h2 : mayB (bD l b) (bD l a) with
       | true =>
         simp only [h1, h2, Bool.not_true, Bool.and_false] at q1
         rw [apR_no hv g (AP.no hlt jlt ea eb (.inr h2))]
         repeat' first | (with_reducible first | refine k_seq ?_ | refine k_skip ?_ | refine k_blkS ?_ | refine k_blkR ?_ | refine k_blkC ?_ | refine k_blkH ?_ | refine k_blkB ?_ | refine k_blkK ?_ | refine k_blkE ?_ | refine k_reg ?_) | with_reducible refine k_head (by with_unfolding_all rfl) ?_ | with_reducible refine k_headS ?_ | (with_reducible refine SepK.mk ?_ ?_; (refine sepQ_P ?_; simp [sepQ, sepG, AOp.late, AOp.free, AOp.xs, AOp.isAl, tokNe, AV.tok, stS_get, strip, AX.val, RG32, GA]; try omega)) | with_reducible refine r_done ?_ | with_reducible refine hr_done ?_ | with_reducible refine s_go (by simp (disch := omega) only [jlt', ga, gb, rA, rB, RG32, EVA, plug, eq_self, simprocAttr]; with_reducible rfl) ?_ | with_reducible refine h_go (by with_unfolding_all rfl) (by simp (disch := omega) only [jlt', ga, gb, rA, rB, RG32, EVA, plug, eq_self, simprocAttr]; with_reducible rfl) ?_ | ((with_reducible refine chk_r ?_); refine r_callF (by simp only [CA, simprocAttr]; rfl) (by exact rfl) (by simp only [CA, simprocAttr]; rfl) rfl ?_) | ((with_reducible refine chk_h ?_); refine hr_callF (by simp only [CA, simprocAttr]; rfl) (by exact rfl) (by simp only [CA, simprocAttr]; rfl) rfl ?_) | ((with_reducible refine chk_r ?_); refine r_callP (by simp only [CA, simprocAttr]; rfl) (by simp only [CA, simprocAttr]; rfl) (by first | exact q1 _) rfl ?_) | ((with_reducible refine chk_h ?_); refine hr_callP (by simp only [CA, simprocAttr]; rfl) (by simp only [CA, simprocAttr]; rfl) (by first | exact q1 _) rfl ?_) | ((with_reducible refine chk_h ?_); refine hr_callP1 (by simp only [CA, simprocAttr]; rfl) (by simp only [CA, simprocAttr]; rfl) (by simp (disch := omega) only [CA, Nat.reduceEqDiff, ↓reduceIte, firstTok_nil, firstTok_sl, firstTok_sl0, firstTok_i, firstTok_b, firstTok_ag, firstTok_p, firstTok_s]; rfl) (by first | exact q1 _) rfl ?_) | ((with_reducible refine chk_h ?_); refine hr_app (by simp (disch := omega) only [jlt', ga, gb, rA, rB, RG32, EVA, plug, eq_self, simprocAttr]; with_reducible rfl) rfl ?_) | (with_reducible refine k_condP (by simp only [GA, simprocAttr]; rfl) (by first | (simp only [BO]; rfl) | rfl) (fun ht => ?_) (fun ht => ?_) <;> try (first | exact False.elim ht | exact absurd rfl ht | exact absurd trivial ht | exact Bool.noConfusion ht)) | (with_reducible refine k_ret ?_; repeat with_reducible (first | refine ret_thru ?_ | refine ret_blk ?_ | refine fin ?_)) | (with_reducible refine k_exit ?_; repeat with_reducible (first | refine thru ?_ | refine out_blk ?_ | refine pass (by decide) ?_)) | ((first | refine post1 ?_ | refine post2 ?_ | refine post3 ?_); simp only [GA, simprocAttr]) | refine post0 ?_
         all_goals first | exact ends_of | exact ends_eq rfl
       | false =>
         simp only [h1, h2, Bool.not_false, Bool.and_true] at q1
         repeat' first | (with_reducible first | refine k_seq ?_ | refine k_skip ?_ | refine k_blkS ?_ | refine k_blkR ?_ | refine k_blkC ?_ | refine k_blkH ?_ | refine k_blkB ?_ | refine k_blkK ?_ | refine k_blkE ?_ | refine k_reg ?_) | with_reducible refine k_head (by with_unfolding_all rfl) ?_ | with_reducible refine k_headS ?_ | (with_reducible refine SepK.mk ?_ ?_; (refine sepQ_P ?_; simp [sepQ, sepG, AOp.late, AOp.free, AOp.xs, AOp.isAl, tokNe, AV.tok, stS_get, strip, AX.val, RG32, GA]; try omega)) | with_reducible refine r_done ?_ | with_reducible refine hr_done ?_ | with_reducible refine s_go (by simp (disch := omega) only [jlt', ga, gb, rA, rB, RG32, EVA, plug, eq_self, simprocAttr]; with_reducible rfl) ?_ | with_reducible refine h_go (by with_unfolding_all rfl) (by simp (disch := omega) only [jlt', ga, gb, rA, rB, RG32, EVA, plug, eq_self, simprocAttr]; with_reducible rfl) ?_ | ((with_reducible refine chk_r ?_); refine r_callF (by simp only [CA, simprocAttr]; rfl) (by exact rfl) (by simp only [CA, simprocAttr]; rfl) rfl ?_) | ((with_reducible refine chk_h ?_); refine hr_callF (by simp only [CA, simprocAttr]; rfl) (by exact rfl) (by simp only [CA, simprocAttr]; rfl) rfl ?_) | ((with_reducible refine chk_r ?_); refine r_callP (by simp only [CA, simprocAttr]; rfl) (by simp only [CA, simprocAttr]; rfl) (by first | exact q1 _) rfl ?_) | ((with_reducible refine chk_h ?_); refine hr_callP (by simp only [CA, simprocAttr]; rfl) (by simp only [CA, simprocAttr]; rfl) (by first | exact q1 _) rfl ?_) | ((with_reducible refine chk_h ?_); refine hr_callP1 (by simp only [CA, simprocAttr]; rfl) (by simp only [CA, simprocAttr]; rfl) (by simp (disch := omega) only [CA, Nat.reduceEqDiff, ↓reduceIte, firstTok_nil, firstTok_sl, firstTok_sl0, firstTok_i, firstTok_b, firstTok_ag, firstTok_p, firstTok_s]; rfl) (by first | exact q1 _) rfl ?_) | ((with_reducible refine chk_h ?_); refine hr_app (by simp (disch := omega) only [jlt', ga, gb, rA, rB, RG32, EVA, plug, eq_self, simprocAttr]; with_reducible rfl) rfl ?_) | (with_reducible refine k_condP (by simp only [GA, simprocAttr]; rfl) (by first | (simp only [BO]; rfl) | rfl) (fun ht => ?_) (fun ht => ?_) <;> try (first | exact False.elim ht | exact absurd rfl ht | exact absurd trivial ht | exact Bool.noConfusion ht)) | (with_reducible refine k_ret ?_; repeat with_reducible (first | refine ret_thru ?_ | refine ret_blk ?_ | refine fin ?_)) | (with_reducible refine k_exit ?_; repeat with_reducible (first | refine thru ?_ | refine out_blk ?_ | refine pass (by decide) ?_)) | ((first | refine post1 ?_ | refine post2 ?_ | refine post3 ?_); simp only [GA, simprocAttr]) | refine post0 ?_
         exact ⟨jlt, (), (by simp only [Am.keep, List.map_cons, List.map_nil, GA, simprocAttr]; try rfl), hq.succ ea eb h1 h2⟩
    ·obtain rfl : j = k := by omega
     have jlt' : ¬ (j : Int) < j := by omega
     repeat' first | (with_reducible first | refine k_seq ?_ | refine k_skip ?_ | refine k_blkS ?_ | refine k_blkR ?_ | refine k_blkC ?_ | refine k_blkH ?_ | refine k_blkB ?_ | refine k_blkK ?_ | refine k_blkE ?_ | refine k_reg ?_) | with_reducible refine k_head (by with_unfolding_all rfl) ?_ | with_reducible refine k_headS ?_ | (with_reducible refine SepK.mk ?_ ?_; (refine sepQ_P ?_; simp [sepQ, sepG, AOp.late, AOp.free, AOp.xs, AOp.isAl, tokNe, AV.tok, stS_get, strip, AX.val, RG32, GA]; try omega)) | with_reducible refine r_done ?_ | with_reducible refine hr_done ?_ | with_reducible refine s_go (by simp (disch := omega) only [jlt', RG32, EVA, plug, eq_self, simprocAttr]; with_reducible rfl) ?_ | with_reducible refine h_go (by with_unfolding_all rfl) (by simp (disch := omega) only [jlt', RG32, EVA, plug, eq_self, simprocAttr]; with_reducible rfl) ?_ | ((with_reducible refine chk_r ?_); refine r_callF (by simp only [CA, simprocAttr]; rfl) (by exact rfl) (by simp only [CA, simprocAttr]; rfl) rfl ?_) | ((with_reducible refine chk_h ?_); refine hr_callF (by simp only [CA, simprocAttr]; rfl) (by exact rfl) (by simp only [CA, simprocAttr]; rfl) rfl ?_) | ((with_reducible refine chk_h ?_); refine hr_app (by simp (disch := omega) only [jlt', RG32, EVA, plug, eq_self, simprocAttr]; with_reducible rfl) rfl ?_) | (with_reducible refine k_condP (by simp only [GA, simprocAttr]; rfl) (by first | (simp only [BO]; rfl) | rfl) (fun ht => ?_) (fun ht => ?_) <;> try (first | exact False.elim ht | exact absurd rfl ht | exact absurd trivial ht | exact Bool.noConfusion ht)) | (with_reducible refine k_ret ?_; repeat with_reducible (first | refine ret_thru ?_ | refine ret_blk ?_ | refine fin ?_)) | (with_reducible refine k_exit ?_; repeat with_reducible (first | refine thru ?_ | refine out_blk ?_ | refine pass (by decide) ?_)) | ((first | refine post1 ?_ | refine post2 ?_ | refine post3 ?_); simp only [GA, simprocAttr]) | refine post0 ?_
     exact ⟨hlt, (), (by simp only [Am.keep, List.map_cons, List.map_nil, GA, simprocAttr]; try rfl), AP.succ hp hq⟩
   ·obtain rfl : k = ns.length := by omega
    have hlt' : ¬ (ns.length : Int) < ns.length := by omega
    rw [apR_yes hv g hp]
    repeat' first | (with_reducible first | refine k_seq ?_ | refine k_skip ?_ | refine k_blkS ?_ | refine k_blkR ?_ | refine k_blkC ?_ | refine k_blkH ?_ | refine k_blkB ?_ | refine k_blkK ?_ | refine k_blkE ?_ | refine k_reg ?_) | with_reducible refine k_head (by with_unfolding_all rfl) ?_ | with_reducible refine k_headS ?_ | (with_reducible refine SepK.mk ?_ ?_; (refine sepQ_P ?_; simp [sepQ, sepG, AOp.late, AOp.free, AOp.xs, AOp.isAl, tokNe, AV.tok, stS_get, strip, AX.val, RG32, GA]; try omega)) | with_reducible refine r_done ?_ | with_reducible refine hr_done ?_ | with_reducible refine s_go (by simp (disch := omega) only [hlt', RG32, EVA, plug, eq_self, simprocAttr]; with_reducible rfl) ?_ | with_reducible refine h_go (by with_unfolding_all rfl) (by simp (disch := omega) only [hlt', RG32, EVA, plug, eq_self, simprocAttr]; with_reducible rfl) ?_ | ((with_reducible refine chk_r ?_); refine r_callF (by simp only [CA, simprocAttr]; rfl) (by exact rfl) (by simp only [CA, simprocAttr]; rfl) rfl ?_) | ((with_reducible refine chk_h ?_); refine hr_callF (by simp only [CA, simprocAttr]; rfl) (by exact rfl) (by simp only [CA, simprocAttr]; rfl) rfl ?_) | ((with_reducible refine chk_h ?_); refine hr_app (by simp (disch := omega) only [hlt', RG32, EVA, plug, eq_self, simprocAttr]; with_reducible rfl) rfl ?_) | (with_reducible refine k_condP (by simp only [GA, simprocAttr]; rfl) (by first | (simp only [BO]; rfl) | rfl) (fun ht => ?_) (fun ht => ?_) <;> try (first | exact False.elim ht | exact absurd rfl ht | exact absurd trivial ht | exact Bool.noConfusion ht)) | (with_reducible refine k_ret ?_; repeat with_reducible (first | refine ret_thru ?_ | refine ret_blk ?_ | refine fin ?_)) | (with_reducible refine k_exit ?_; repeat with_reducible (first | refine thru ?_ | refine out_blk ?_ | refine pass (by decide) ?_)) | ((first | refine post1 ?_ | refine post2 ?_ | refine post3 ?_); simp only [GA, simprocAttr]) | refine post0 ?_
    all_goals first | exact ends_of | exact ends_eq rfl
  ·rw [@decide_eq_false _ (Classical.propDecidable _) g] at q70
   rw [apR_arg hv g]
   repeat' first | (with_reducible first | refine k_seq ?_ | refine k_skip ?_ | refine k_blkS ?_ | refine k_blkR ?_ | refine k_blkC ?_ | refine k_blkH ?_ | refine k_blkB ?_ | refine k_blkK ?_ | refine k_blkE ?_ | refine k_reg ?_) | with_reducible refine k_head (by with_unfolding_all rfl) ?_ | with_reducible refine k_headS ?_ | (with_reducible refine SepK.mk ?_ ?_; (refine sepQ_P ?_; simp [sepQ, sepG, AOp.late, AOp.free, AOp.xs, AOp.isAl, tokNe, AV.tok, stS_get, strip, AX.val, RG32, GA]; try omega)) | with_reducible refine r_done ?_ | with_reducible refine hr_done ?_ | with_reducible refine s_go (by simp (disch := omega) only [RG32, EVA, plug, eq_self, simprocAttr]; with_reducible rfl) ?_ | with_reducible refine h_go (by with_unfolding_all rfl) (by simp (disch := omega) only [RG32, EVA, plug, eq_self, simprocAttr]; with_reducible rfl) ?_ | ((with_reducible refine chk_r ?_); refine r_callF (by simp only [CA, simprocAttr]; rfl) (by exact rfl) (by simp only [CA, simprocAttr]; rfl) rfl ?_) | ((with_reducible refine chk_h ?_); refine hr_callF (by simp only [CA, simprocAttr]; rfl) (by exact rfl) (by simp only [CA, simprocAttr]; rfl) rfl ?_) | ((with_reducible refine chk_r ?_); refine r_callP (by simp only [CA, simprocAttr]; rfl) (by simp only [CA, simprocAttr]; rfl) (by first | exact q23 _ | exact q70 _) rfl ?_) | ((with_reducible refine chk_h ?_); refine hr_callP (by simp only [CA, simprocAttr]; rfl) (by simp only [CA, simprocAttr]; rfl) (by first | exact q23 _ | exact q70 _) rfl ?_) | ((with_reducible refine chk_h ?_); refine hr_callP1 (by simp only [CA, simprocAttr]; rfl) (by simp only [CA, simprocAttr]; rfl) (by simp (disch := omega) only [CA, Nat.reduceEqDiff, ↓reduceIte, firstTok_nil, firstTok_sl, firstTok_sl0, firstTok_i, firstTok_b, firstTok_ag, firstTok_p, firstTok_s]; rfl) (by first | exact q23 _ | exact q70 _) rfl ?_) | ((with_reducible refine chk_h ?_); refine hr_app (by simp (disch := omega) only [RG32, EVA, plug, eq_self, simprocAttr]; with_reducible rfl) rfl ?_) | (with_reducible refine k_condP (by simp only [GA, simprocAttr]; rfl) (by first | (simp only [BO]; rfl) | rfl) (fun ht => ?_) (fun ht => ?_) <;> try (first | exact False.elim ht | exact absurd rfl ht | exact absurd trivial ht | exact Bool.noConfusion ht)) | (with_reducible refine k_ret ?_; repeat with_reducible (first | refine ret_thru ?_ | refine ret_blk ?_ | refine fin ?_)) | (with_reducible refine k_exit ?_; repeat with_reducible (first | refine thru ?_ | refine out_blk ?_ | refine pass (by decide) ?_)) | ((first | refine post1 ?_ | refine post2 ?_ | refine post3 ?_); simp only [GA, simprocAttr]) | refine post0 ?_
   all_goals first | exact ends_of | exact ends_eq rfl
 ·rw [vl_f hv] at q23
  rw [apR_err hv]
  repeat' first | (with_reducible first | refine k_seq ?_ | refine k_skip ?_ | refine k_blkS ?_ | refine k_blkR ?_ | refine k_blkC ?_ | refine k_blkH ?_ | refine k_blkB ?_ | refine k_blkK ?_ | refine k_blkE ?_ | refine k_reg ?_) | with_reducible refine k_head (by with_unfolding_all rfl) ?_ | with_reducible refine k_headS ?_ | (with_reducible refine SepK.mk ?_ ?_; (refine sepQ_P ?_; simp [sepQ, sepG, AOp.late, AOp.free, AOp.xs, AOp.isAl, tokNe, AV.tok, stS_get, strip, AX.val, RG32, GA]; try omega)) | with_reducible refine r_done ?_ | with_reducible refine hr_done ?_ | with_reducible refine s_go (by simp (disch := omega) only [RG32, EVA, plug, eq_self, simprocAttr]; with_reducible rfl) ?_ | with_reducible refine h_go (by with_unfolding_all rfl) (by simp (disch := omega) only [RG32, EVA, plug, eq_self, simprocAttr]; with_reducible rfl) ?_ | ((with_reducible refine chk_r ?_); refine r_callF (by simp only [CA, simprocAttr]; rfl) (by exact rfl) (by simp only [CA, simprocAttr]; rfl) rfl ?_) | ((with_reducible refine chk_h ?_); refine hr_callF (by simp only [CA, simprocAttr]; rfl) (by exact rfl) (by simp only [CA, simprocAttr]; rfl) rfl ?_) | ((with_reducible refine chk_r ?_); refine r_callP (by simp only [CA, simprocAttr]; rfl) (by simp only [CA, simprocAttr]; rfl) (by first | exact q23 _) rfl ?_) | ((with_reducible refine chk_h ?_); refine hr_callP (by simp only [CA, simprocAttr]; rfl) (by simp only [CA, simprocAttr]; rfl) (by first | exact q23 _) rfl ?_) | ((with_reducible refine chk_h ?_); refine hr_callP1 (by simp only [CA, simprocAttr]; rfl) (by simp only [CA, simprocAttr]; rfl) (by simp (disch := omega) only [CA, Nat.reduceEqDiff, ↓reduceIte, firstTok_nil, firstTok_sl, firstTok_sl0, firstTok_i, firstTok_b, firstTok_ag, firstTok_p, firstTok_s]; rfl) (by first | exact q23 _) rfl ?_) | ((with_reducible refine chk_h ?_); refine hr_app (by simp (disch := omega) only [RG32, EVA, plug, eq_self, simprocAttr]; with_reducible rfl) rfl ?_) | (with_reducible refine k_condP (by simp only [GA, simprocAttr]; rfl) (by first | (simp only [BO]; rfl) | rfl) (fun ht => ?_) (fun ht => ?_) <;> try (first | exact False.elim ht | exact absurd rfl ht | exact absurd trivial ht | exact Bool.noConfusion ht)) | (with_reducible refine k_ret ?_; repeat with_reducible (first | refine ret_thru ?_ | refine ret_blk ?_ | refine fin ?_)) | (with_reducible refine k_exit ?_; repeat with_reducible (first | refine thru ?_ | refine out_blk ?_ | refine pass (by decide) ?_)) | ((first | refine post1 ?_ | refine post2 ?_ | refine post3 ?_); simp only [GA, simprocAttr]) | refine post0 ?_
  all_goals first | exact ends_of | exact ends_eq rfl
def lnS (l : List B) (ns : List Int) : Nat → Int
 | 0 => 0
 | k + 1 => lnS l ns k + hrs (bD l (ni ns k).toNat)
theorem lnS_rng {l : List B} {ns : List Int} (hv : VL l) (g : GK l ns ns.length) : ∀ k : Nat, k ≤ ns.length → 0 ≤ lnS l ns k ∧ lnS l ns k ≤ 400 * k
 | 0, _ => by simp [lnS]
 | k + 1, h => by
   have := lnS_rng hv g k (by omega)
   have r := g k (by omega)
   have := hrs_rng (hv.b (i := (ni ns k).toNat) (by omega))
   simp only [lnS]; omega
open Classical in
noncomputable def lnR (l : List B) (ns : List Int) : Int × Int := if VL l then if GK l ns ns.length then (lnS l ns ns.length, 0) else (0, 2) else (0, 60)
theorem RG33 : (type_of% @c33r0.eq_1) ∧ (type_of% @c33r1.eq_1) ∧ (type_of% @c33r2.eq_1) ∧ (type_of% @c33r3.eq_1) ∧ (type_of% @c33r4.eq_1) ∧ (type_of% @c33r5.eq_1) ∧ (type_of% @c33r6.eq_1) ∧ (type_of% @c33r7.eq_1) ∧ (type_of% @c33r8.eq_1) ∧ (type_of% @c33r9.eq_1) ∧ (type_of% @c33r11.eq_1) := ⟨@c33r0.eq_1, @c33r1.eq_1, @c33r2.eq_1, @c33r3.eq_1, @c33r4.eq_1, @c33r5.eq_1, @c33r6.eq_1, @c33r7.eq_1, @c33r8.eq_1, @c33r9.eq_1, @c33r11.eq_1⟩
set_option maxHeartbeats 1000000 in
theorem pc33 (l : List B) (hl : l.length ≤ 9223372036854775807) (ns : List Int) (hn : ns.length ≤ 9223372036854775807) : PC Try.prog 33 [vB l, vi ns] (.tu [.i .i64 (lnR l ns).1, .i .i64 (lnR l ns).2]) := by
 refine pc_fn fn33 (by simp only [AV.plains, AV.plain, il_plain, bl_plain, Bool.and_true, Bool.true_and, Bool.and_self, flB_plain]) (by simp only [AV.plains, AV.plain, il_plain, bl_plain, Bool.and_true, Bool.true_and, Bool.and_self, flB_plain]) (Nat.le_of_ble_eq_true rfl) ?_
 rw [initSt2]
 have q69 := pc69 l hl ns hn
 unfold pkR at q69
 unfold lnR
 by_cases hv : VL l
 ·rw [if_pos hv] at q69 ⊢
  have hl6 := hv.len
  by_cases g : GK l ns ns.length
  ·rw [if_pos g] at q69 ⊢
   have gle := g.le
   repeat' first | (with_reducible first | refine k_seq ?_ | refine k_skip ?_ | refine k_blkS ?_ | refine k_blkR ?_ | refine k_blkC ?_ | refine k_blkH ?_ | refine k_blkB ?_ | refine k_blkK ?_ | refine k_blkE ?_ | refine k_reg ?_) | with_reducible refine r_done ?_ | with_reducible refine s_go (by simp (disch := omega) only [RG33, EVA, plug, eq_self, simprocAttr]; with_reducible rfl) ?_ | ((with_reducible refine chk_r ?_); refine r_callF (by simp only [CA, simprocAttr]; rfl) (by exact rfl) (by simp only [CA, simprocAttr]; rfl) rfl ?_) | ((with_reducible refine chk_r ?_); refine r_callP (by simp only [CA, simprocAttr]; rfl) (by simp only [CA, simprocAttr]; rfl) (by first | exact q69 _) rfl ?_) | (with_reducible refine k_condP (by simp only [GA, simprocAttr]; rfl) (by first | (simp only [BO]; rfl) | rfl) (fun ht => ?_) (fun ht => ?_) <;> try (first | exact False.elim ht | exact absurd rfl ht | exact absurd trivial ht | exact Bool.noConfusion ht)) | (with_reducible refine k_ret ?_; repeat with_reducible (first | refine ret_thru ?_ | refine ret_blk ?_ | refine fin ?_)) | (with_reducible refine k_exit ?_; repeat with_reducible (first | refine thru ?_ | refine out_blk ?_ | refine pass (by decide) ?_)) | ((first | refine post1 ?_ | refine post2 ?_ | refine post3 ?_); simp only [GA, simprocAttr]) | refine post0 ?_
   refine k_blk (k_loopS (X := Unit) [0, 7, 16, 17, 18] ns.length (fun k _ => [(0, vB l), (7, .i .i64 (lnS l ns k)), (16, vi ns), (17, .i .i64 ns.length), (18, .i .i64 (k : Int))]) (fun k _ h => True) () (by simp only [Am.keep, List.map_cons, List.map_nil, GA, simprocAttr]; try rfl) trivial ?_)
   rintro k _ h hk - ok pos
   by_cases hlt : k < ns.length
   ·have hlt' : (k : Int) < ns.length := by omega
    obtain ⟨a, al, ea, ga⟩ := g.nat hlt
    have rA := rdB al
    have q60 := pc60 (bD l a) (hv.b al)
    have s1 := lnS_rng hv g k (by omega)
    have s2 := lnS_rng hv g (k + 1) (by omega)
    have e1 : lnS l ns k + hrs (bD l a) = lnS l ns (k + 1) := by simp only [lnS, ea, Int.toNat_natCast]
    have s3 := hrs_rng (hv.b al)
    simp only [eB] at rA q60
    repeat' first | (with_reducible first | refine k_seq ?_ | refine k_skip ?_ | refine k_blkS ?_ | refine k_blkR ?_ | refine k_blkC ?_ | refine k_blkH ?_ | refine k_blkB ?_ | refine k_blkK ?_ | refine k_blkE ?_ | refine k_reg ?_) | with_reducible refine r_done ?_ | with_reducible refine s_go (by simp (disch := omega) only [hlt', ga, rA, e1, RG33, EVA, plug, eq_self, simprocAttr]; with_reducible rfl) ?_ | ((with_reducible refine chk_r ?_); refine r_callF (by simp only [CA, simprocAttr]; rfl) (by exact rfl) (by simp only [CA, simprocAttr]; rfl) rfl ?_) | ((with_reducible refine chk_r ?_); refine r_callP (by simp only [CA, simprocAttr]; rfl) (by simp only [CA, simprocAttr]; rfl) (by first | exact q60 _) rfl ?_) | (with_reducible refine k_condP (by simp only [GA, simprocAttr]; rfl) (by first | (simp only [BO]; rfl) | rfl) (fun ht => ?_) (fun ht => ?_) <;> try (first | exact False.elim ht | exact absurd rfl ht | exact absurd trivial ht | exact Bool.noConfusion ht)) | (with_reducible refine k_ret ?_; repeat with_reducible (first | refine ret_thru ?_ | refine ret_blk ?_ | refine fin ?_)) | (with_reducible refine k_exit ?_; repeat with_reducible (first | refine thru ?_ | refine out_blk ?_ | refine pass (by decide) ?_)) | ((first | refine post1 ?_ | refine post2 ?_ | refine post3 ?_); simp only [GA, simprocAttr]) | refine post0 ?_
    exact ⟨hlt, (), (by simp only [Am.keep, List.map_cons, List.map_nil, GA, simprocAttr]; try rfl), trivial⟩
   ·obtain rfl : k = ns.length := by omega
    have hlt' : ¬ (ns.length : Int) < ns.length := by omega
    repeat' first | (with_reducible first | refine k_seq ?_ | refine k_skip ?_ | refine k_blkS ?_ | refine k_blkR ?_ | refine k_blkC ?_ | refine k_blkH ?_ | refine k_blkB ?_ | refine k_blkK ?_ | refine k_blkE ?_ | refine k_reg ?_) | with_reducible refine r_done ?_ | with_reducible refine s_go (by simp (disch := omega) only [hlt', RG33, EVA, plug, eq_self, simprocAttr]; with_reducible rfl) ?_ | ((with_reducible refine chk_r ?_); refine r_callF (by simp only [CA, simprocAttr]; rfl) (by exact rfl) (by simp only [CA, simprocAttr]; rfl) rfl ?_) | (with_reducible refine k_condP (by simp only [GA, simprocAttr]; rfl) (by first | (simp only [BO]; rfl) | rfl) (fun ht => ?_) (fun ht => ?_) <;> try (first | exact False.elim ht | exact absurd rfl ht | exact absurd trivial ht | exact Bool.noConfusion ht)) | (with_reducible refine k_ret ?_; repeat with_reducible (first | refine ret_thru ?_ | refine ret_blk ?_ | refine fin ?_)) | (with_reducible refine k_exit ?_; repeat with_reducible (first | refine thru ?_ | refine out_blk ?_ | refine pass (by decide) ?_)) | ((first | refine post1 ?_ | refine post2 ?_ | refine post3 ?_); simp only [GA, simprocAttr]) | refine post0 ?_
    all_goals first | exact ends_of | exact ends_eq rfl
  ·rw [if_neg g] at q69 ⊢
   repeat' first | (with_reducible first | refine k_seq ?_ | refine k_skip ?_ | refine k_blkS ?_ | refine k_blkR ?_ | refine k_blkC ?_ | refine k_blkH ?_ | refine k_blkB ?_ | refine k_blkK ?_ | refine k_blkE ?_ | refine k_reg ?_) | with_reducible refine r_done ?_ | with_reducible refine s_go (by simp (disch := omega) only [RG33, EVA, plug, eq_self, simprocAttr]; with_reducible rfl) ?_ | ((with_reducible refine chk_r ?_); refine r_callF (by simp only [CA, simprocAttr]; rfl) (by exact rfl) (by simp only [CA, simprocAttr]; rfl) rfl ?_) | ((with_reducible refine chk_r ?_); refine r_callP (by simp only [CA, simprocAttr]; rfl) (by simp only [CA, simprocAttr]; rfl) (by first | exact q69 _) rfl ?_) | (with_reducible refine k_condP (by simp only [GA, simprocAttr]; rfl) (by first | (simp only [BO]; rfl) | rfl) (fun ht => ?_) (fun ht => ?_) <;> try (first | exact False.elim ht | exact absurd rfl ht | exact absurd trivial ht | exact Bool.noConfusion ht)) | (with_reducible refine k_ret ?_; repeat with_reducible (first | refine ret_thru ?_ | refine ret_blk ?_ | refine fin ?_)) | (with_reducible refine k_exit ?_; repeat with_reducible (first | refine thru ?_ | refine out_blk ?_ | refine pass (by decide) ?_)) | ((first | refine post1 ?_ | refine post2 ?_ | refine post3 ?_); simp only [GA, simprocAttr]) | refine post0 ?_
   all_goals first | exact ends_of | exact ends_eq rfl
 ·rw [if_neg hv] at q69 ⊢
  repeat' first | (with_reducible first | refine k_seq ?_ | refine k_skip ?_ | refine k_blkS ?_ | refine k_blkR ?_ | refine k_blkC ?_ | refine k_blkH ?_ | refine k_blkB ?_ | refine k_blkK ?_ | refine k_blkE ?_ | refine k_reg ?_) | with_reducible refine r_done ?_ | with_reducible refine s_go (by simp (disch := omega) only [RG33, EVA, plug, eq_self, simprocAttr]; with_reducible rfl) ?_ | ((with_reducible refine chk_r ?_); refine r_callF (by simp only [CA, simprocAttr]; rfl) (by exact rfl) (by simp only [CA, simprocAttr]; rfl) rfl ?_) | ((with_reducible refine chk_r ?_); refine r_callP (by simp only [CA, simprocAttr]; rfl) (by simp only [CA, simprocAttr]; rfl) (by first | exact q69 _) rfl ?_) | (with_reducible refine k_condP (by simp only [GA, simprocAttr]; rfl) (by first | (simp only [BO]; rfl) | rfl) (fun ht => ?_) (fun ht => ?_) <;> try (first | exact False.elim ht | exact absurd rfl ht | exact absurd trivial ht | exact Bool.noConfusion ht)) | (with_reducible refine k_ret ?_; repeat with_reducible (first | refine ret_thru ?_ | refine ret_blk ?_ | refine fin ?_)) | (with_reducible refine k_exit ?_; repeat with_reducible (first | refine thru ?_ | refine out_blk ?_ | refine pass (by decide) ?_)) | ((first | refine post1 ?_ | refine post2 ?_ | refine post3 ?_); simp only [GA, simprocAttr]) | refine post0 ?_
  all_goals first | exact ends_of | exact ends_eq rfl
end Go.Proofs.Ytjncfpfgobojpaa
set_option linter.unusedVariables false
set_option linter.unusedSimpArgs false
namespace Go.Am
open Go.Proofs Go.Shelf Go.RowKit Go.Lib
theorem grow_new {P : Program} {ρ : Ren} (L : Lays8.n4 P ρ) (i0 : TypeInfo) (z : Value) (hi0 : P.info? (ρ.t 25) = some i0) (hz0 : i0.zero = some z) (hs0 : 0 < i0.size) (hz : z.cells.size = i0.size)
 {n : Nat} (hb : n * i0.bytes ≤ 140737488355328) (h63 : n ≤ 4611686018427387904) (h : AH) : FCalls P (ρ.f 4) [.sl 0 0 0 0, .i .i64 (n : Int)] h none 0 i0.size [] := by
 refine ⟨?_, fun ι w vs wr hv => ?_⟩
 ·obtain ⟨nm, hn, hf⟩ := L.f4
  exact ⟨_, hf, hn, rfl⟩
 simp only [VRels] at hv
 obtain ⟨sv, r1, ev, hs, nv, r2, e2, hnv, rfl⟩ := hv
 subst e2
 obtain rfl : vs = #[sv, nv] := by cases vs; simp_all
 have hslice : ∃ p, sv = .slice p 0 0 := by
  simp only [VRel] at hs
  rcases hs with ⟨_, x, rfl⟩ | ⟨l, cap, hl, _⟩
  ·exact ⟨_, rfl⟩
  ·rw [wr.nil] at hl; cases hl
 obtain ⟨p, rfl⟩ := hslice
 simp only [VRel] at hnv
 subst hnv
 by_cases h0 : n = 0
 ·subst h0
  refine Calls.mono (Any8.slices_Grow_room L p 0 0 0 w (Nat.le_refl _) (by omega) (by omega) (by omega)) fun e w' ⟨he, hw⟩ => ?_
  subst hw
  exact ⟨_, none, ι.φ, he, (fun l hl => by cases hl), PhiOk.refl _ _ _ _, fun ι' t ht _ => ⟨by simp only [plug, VRel]; exact .inl ⟨trivial, _, rfl⟩, .inl ⟨rfl, ht⟩⟩, rfl, rfl, rfl, Nat.le_refl _, fun b hb => rfl, Nat.le_refl _⟩
 ·refine Calls.mono (Any8.slices_Grow_grow L i0 z hi0 hz0 hs0 p 0 0 n [] w (Nat.le_refl _) (by omega) (by rw [Nat.zero_add]; exact hb) (by omega) (by simp) (fun _ => rfl) (fun a _ j v hj => by simp at hj)) fun e w' ⟨he, hw⟩ => ?_
  have hG : 0 + n ≤ grownCap w (0 + n) 0 (ρ.t 25) := grownCap_ge w _ _ _
  generalize grownCap w (0 + n) 0 (ρ.t 25) = G at he hw hG
  obtain ⟨row, hrow⟩ : ∃ row : Array Value, row = ([] : List Value).toArray ++ Builtin.zeroCells z.cells (0 + n - 0) ++ Builtin.zeroCells z.cells (G - (0 + n)) := ⟨_, rfl⟩
  rw [← hrow] at hw
  have hsz : row.size = G * i0.size := by
   rw [hrow]
   simp only [Array.size_append, List.size_toArray, List.length_nil, Builtin.zeroCells, Array.size_map, Array.size_range, hz]
   rw [Nat.zero_add, ← Nat.add_mul]
   congr 1; omega
  subst hw
  have hh : (w.drew.alloc (.cells row (ρ.t 25))).heap[w.heap.size]? = some (.cells row (ρ.t 25) (0, 0)) := heap_alloc_new w.drew _
  refine ⟨_, some ⟨w.heap.size, 0, row.size⟩, ι.φ, he, (fun l hl => by cases hl; exact ⟨Nat.le_refl _, by rw [World.size_alloc]; exact Nat.lt_succ_self _⟩), PhiOk.refl _ _ _ _, fun ι' t ht _ => ⟨?_, ?_⟩, rfl, rfl, rfl, by rw [World.size_alloc]; exact Nat.le_succ _, fun b hb => Go.RowKit.Below.heap_alloc w.drew _ _ hb, Nat.le_succ _⟩
  ·simp only [plug, VRel]
   exact .inr ⟨_, _, ht, rfl, Nat.zero_le _, .inr (by rw [hsz]; simp)⟩
  ·exact .inr ⟨_, row, ρ.t 25, (0, 0), ht, hh, rfl, by simp, fun _ => rfl, fun i a hi => by simp at hi⟩
end Go.Am
namespace Go.Proofs.Ytjncfpfgobojpaa
open Go Go.Shelf Go.Proofs
def growI_ren : Go.Shelf.Ren := ⟨fun | 4 => 88 | n => n, fun | 0 => 0 | 3 => 3 | 4 => 4 | 9 => 9 | 20 => 20 | 22 => 49 | 25 => 3 | n => n, fun | n => n⟩
theorem growI : Go.Proofs.Lays8.n4 Try.prog growI_ren := {
 mixed := by kernel_rfl
 f4 := ⟨Try.f88.name, by decide, Try.func88.trans (congrArg some (by kernel_rfl))⟩
 t0 := Try.underlying0
 a0 := Try.isAgg0
 z0 := Try.sizeOf0
 v0 := Try.zeroValue0
 t3 := Try.underlying3
 a3 := Try.isAgg3
 z3 := Try.sizeOf3
 v3 := Try.zeroValue3
 t4 := Try.underlying4
 a4 := Try.isAgg4
 z4 := Try.sizeOf4
 v4 := Try.zeroValue4
 t9 := Try.underlying9
 a9 := Try.isAgg9
 z9 := Try.sizeOf9
 v9 := Try.zeroValue9
 t20 := Try.underlying20
 a20 := Try.isAgg20
 z20 := Try.sizeOf20
 v20 := Try.zeroValue20
 t22 := Try.underlying49
 a22 := Try.isAgg49
 z22 := Try.sizeOf49
 v22 := Try.zeroValue49 }
theorem info_int : (Try.prog.info? 3).map (fun i => (i.zero, i.size, i.bytes)) = some (some (.int .i64 0), 1, 8) := by kernel_rfl
theorem fc88 {n : Nat} (hn : n ≤ 1000000000) (h : Go.Am.AH) : Go.Am.FCalls Try.prog 88 [.sl 0 0 0 0, .i .i64 (n : Int)] h none 0 1 [] := by
 cases hi : Try.prog.info? 3 with
 | none => have := info_int; rw [hi] at this; cases this
 | some i =>
   have := info_int
   rw [hi] at this
   simp only [Option.map_some, Option.some.injEq, Prod.mk.injEq] at this
   obtain ⟨h1, h2, h3⟩ := this
   have := Go.Am.grow_new growI i (.int .i64 0) hi h1 (by omega) (by rw [h2]; rfl) (n := n) (by rw [h3]; omega) (by omega) h
   rwa [h2] at this
end Go.Proofs.Ytjncfpfgobojpaa
set_option linter.unusedVariables false
set_option linter.unusedSimpArgs false
namespace Go.Proofs.Ytjncfpfgobojpaa
open Go Go.Am Go.Proofs Go.Sort
def rvI (r : List Int) : AV := .vs r.length (il r)
abbrev vR (rows : List (List Int)) : AV := .vs rows.length (rows.map rvI)
theorem vR_plain (rows : List (List Int)) : AV.plains (rows.map rvI) = true := plains_all fun x hx => by
 obtain ⟨r, _, rfl⟩ := List.mem_map.1 hx
 exact il_plain r
theorem rvI_get {rows : List (List Int)} {k : Nat} (h : k < rows.length) : (rows.map rvI)[k]? = some (.vs (rI rows k).length (il (rI rows k))) := by
 simp [h, rvI, rI]
def fk (rows : List (List Int)) (k : Nat) : List Int := (rows.take k).flatten
theorem fk_succ {rows : List (List Int)} {k : Nat} (h : k < rows.length) : fk rows (k + 1) = fk rows k ++ rI rows k := by
 unfold fk
 rw [List.take_succ_eq_append_getElem h, List.flatten_append]
 simp [rI, h]
theorem fk_all (rows : List (List Int)) : fk rows rows.length = rows.flatten := by unfold fk; rw [List.take_length]
theorem fk_le (rows : List (List Int)) : ∀ k, (fk rows k).length ≤ rows.flatten.length := fun k => by
 unfold fk
 have : rows.flatten = (rows.take k).flatten ++ (rows.drop k).flatten := by rw [← List.flatten_append, List.take_append_drop]
 rw [this, List.length_append]; omega
theorem RG72 : (type_of% @c72r0.eq_1) ∧ (type_of% @c72r1.eq_1) ∧ (type_of% @c72r2.eq_1) ∧ (type_of% @c72r3.eq_1) ∧ (type_of% @c72r4.eq_1) ∧ (type_of% @c72r5.eq_1) ∧ (type_of% @c72r6.eq_1) ∧ (type_of% @c72r7.eq_1) ∧ (type_of% @c72r9.eq_1) ∧ (type_of% @c72r10.eq_1) ∧ (type_of% @c72r11.eq_1) ∧ (type_of% @c72r12.eq_1) ∧ (type_of% @c72r13.eq_1) ∧ (type_of% @c72r14.eq_1) ∧ (type_of% @c72r16.eq_1) := ⟨@c72r0.eq_1, @c72r1.eq_1, @c72r2.eq_1, @c72r3.eq_1, @c72r4.eq_1, @c72r5.eq_1, @c72r6.eq_1, @c72r7.eq_1, @c72r9.eq_1, @c72r10.eq_1, @c72r11.eq_1, @c72r12.eq_1, @c72r13.eq_1, @c72r14.eq_1, @c72r16.eq_1⟩
set_option maxHeartbeats 1000000 in
theorem pc72 (rows : List (List Int)) (hn : rows.length ≤ 1000000) (hs : rows.flatten.length ≤ 1000000) : PC Try.prog 72 [vR rows] (.vs rows.flatten.length (il rows.flatten)) := by
 refine pc_fn fn72 (by simp only [AV.plains, AV.plain, il_plain, bl_plain, Bool.and_true, Bool.true_and, Bool.and_self, vR_plain, il_plain]) (by simp only [AV.plains, AV.plain, il_plain, bl_plain, Bool.and_true, Bool.true_and, Bool.and_self, vR_plain, il_plain]) (Nat.le_of_ble_eq_true rfl) ?_
 rw [initSt1]
 repeat' first | (with_reducible first | refine k_seq ?_ | refine k_skip ?_ | refine k_blkS ?_ | refine k_blkR ?_ | refine k_blkC ?_ | refine k_blkH ?_ | refine k_blkB ?_ | refine k_blkK ?_ | refine k_blkE ?_ | refine k_reg ?_) | with_reducible refine r_done ?_ | with_reducible refine s_go (by simp (disch := omega) only [RG72, EVA, plug, eq_self, simprocAttr]; with_reducible rfl) ?_ | ((with_reducible refine chk_r ?_); refine r_callF (by simp only [CA, simprocAttr]; rfl) (by exact rfl) (by simp only [CA, simprocAttr]; rfl) rfl ?_) | (with_reducible refine k_condP (by simp only [GA, simprocAttr]; rfl) (by first | (simp only [BO]; rfl) | rfl) (fun ht => ?_) (fun ht => ?_) <;> try (first | exact False.elim ht | exact absurd rfl ht | exact absurd trivial ht | exact Bool.noConfusion ht)) | (with_reducible refine k_ret ?_; repeat with_reducible (first | refine ret_thru ?_ | refine ret_blk ?_ | refine fin ?_)) | (with_reducible refine k_exit ?_; repeat with_reducible (first | refine thru ?_ | refine out_blk ?_ | refine pass (by decide) ?_)) | ((first | refine post1 ?_ | refine post2 ?_ | refine post3 ?_); simp only [GA, simprocAttr]) | refine post0 ?_
 refine k_blk (k_loopS (X := Unit) [0, 3, 9, 10, 11] rows.length (fun k _ => [(0, vR rows), (3, .i .i64 ((fk rows k).length : Int)), (9, vR rows), (10, .i .i64 rows.length), (11, .i .i64 (k : Int))]) (fun k _ h => True) () (by simp only [Am.keep, List.map_cons, List.map_nil, GA, simprocAttr]; try rfl) trivial ?_)
 rintro k _ h hk - ok pos
 by_cases hlt : k < rows.length
 ·have hlt' : (k : Int) < rows.length := by omega
  have g := rvI_get hlt
  have e := fk_succ hlt
  have l1 := fk_le rows k
  have l2 := fk_le rows (k + 1)
  have e1 : ((fk rows k).length : Int) + (rI rows k).length = ((fk rows (k + 1)).length : Int) := by rw [e, List.length_append]; omega
  have l3 : (rI rows k).length ≤ 1000000 := by rw [e, List.length_append] at l2; omega
  have nn : ¬ ((fk rows (k + 1)).length : Int) < 0 := by omega
  repeat' first | (with_reducible first | refine k_seq ?_ | refine k_skip ?_ | refine k_blkS ?_ | refine k_blkR ?_ | refine k_blkC ?_ | refine k_blkH ?_ | refine k_blkB ?_ | refine k_blkK ?_ | refine k_blkE ?_ | refine k_reg ?_) | with_reducible refine r_done ?_ | with_reducible refine s_go (by simp (disch := omega) only [hlt', g, e1, nn, RG72, EVA, plug, eq_self, simprocAttr]; with_reducible rfl) ?_ | ((with_reducible refine chk_r ?_); refine r_callF (by simp only [CA, simprocAttr]; rfl) (by exact rfl) (by simp only [CA, simprocAttr]; rfl) rfl ?_) | (with_reducible refine k_condP (by simp only [GA, simprocAttr]; rfl) (by first | (simp only [BO]; rfl) | rfl) (fun ht => ?_) (fun ht => ?_) <;> try (first | exact False.elim ht | exact absurd rfl ht | exact absurd trivial ht | exact Bool.noConfusion ht)) | (with_reducible refine k_ret ?_; repeat with_reducible (first | refine ret_thru ?_ | refine ret_blk ?_ | refine fin ?_)) | (with_reducible refine k_exit ?_; repeat with_reducible (first | refine thru ?_ | refine out_blk ?_ | refine pass (by decide) ?_)) | ((first | refine post1 ?_ | refine post2 ?_ | refine post3 ?_); simp only [GA, simprocAttr]) | refine post0 ?_
  exact ⟨hlt, (), (by simp only [Am.keep, List.map_cons, List.map_nil, GA, simprocAttr]; try rfl), trivial⟩
 ·obtain rfl : k = rows.length := by omega
  have hlt' : ¬ (rows.length : Int) < rows.length := by omega
  rw [fk_all]
  repeat' first | (with_reducible first | refine k_seq ?_ | refine k_skip ?_ | refine k_blkS ?_ | refine k_blkR ?_ | refine k_blkC ?_ | refine k_blkH ?_ | refine k_blkB ?_ | refine k_blkK ?_ | refine k_blkE ?_ | refine k_reg ?_) | with_reducible refine r_done ?_ | with_reducible refine s_go (by simp (disch := omega) only [hlt', RG72, EVA, plug, eq_self, simprocAttr]; with_reducible rfl) ?_ | ((with_reducible refine chk_r ?_); refine r_callF (by simp only [CA, simprocAttr]; rfl) (by exact rfl) (by simp only [CA, simprocAttr]; rfl) rfl ?_) | ((with_reducible refine chk_r ?_); refine r_callN (by simp only [CA, simprocAttr]; rfl) (by simp only [CA, simprocAttr]; rfl) (by first | exact fc88 (by omega) _) rfl ?_) | (with_reducible refine k_condP (by simp only [GA, simprocAttr]; rfl) (by first | (simp only [BO]; rfl) | rfl) (fun ht => ?_) (fun ht => ?_) <;> try (first | exact False.elim ht | exact absurd rfl ht | exact absurd trivial ht | exact Bool.noConfusion ht)) | (with_reducible refine k_ret ?_; repeat with_reducible (first | refine ret_thru ?_ | refine ret_blk ?_ | refine fin ?_)) | (with_reducible refine k_exit ?_; repeat with_reducible (first | refine thru ?_ | refine out_blk ?_ | refine pass (by decide) ?_)) | ((first | refine post1 ?_ | refine post2 ?_ | refine post3 ?_); simp only [GA, simprocAttr]) | refine post0 ?_
  refine k_blk (k_loopS (X := Nat) [6, 25, 26, 27] rows.length (fun k x => [(6, .sl x 0 (fk rows k).length 1), (25, vR rows), (26, .i .i64 rows.length), (27, .i .i64 (k : Int))]) (fun k x h => x ≠ 0 ∧ h.m x = some (.cells true (il (fk rows k)))) _ (by simp only [Am.keep, List.map_cons, List.map_nil, GA, simprocAttr]; try rfl) ⟨?_, by simp (disch := omega) only [RG72, EVA, plug, eq_self, simprocAttr] <;> rfl⟩ ?_)
  ·omega
  rintro k x h2 hk ⟨hx, hm⟩ ok pos
  have hx' := ok.m hm
  by_cases hlt : k < rows.length
  ·have hlt' : (k : Int) < rows.length := by omega
   have g := rvI_get hlt
   have e := fk_succ hlt
   have l2 := fk_le rows (k + 1)
   rw [e, List.length_append] at l2
   repeat' first | (with_reducible first | refine k_seq ?_ | refine k_skip ?_ | refine k_blkS ?_ | refine k_blkR ?_ | refine k_blkC ?_ | refine k_blkH ?_ | refine k_blkB ?_ | refine k_blkK ?_ | refine k_blkE ?_ | refine k_reg ?_) | with_reducible refine r_done ?_ | with_reducible refine s_go (by simp (disch := omega) only [hlt', g, hm, row_m hm, read_row (row_m hm), hx, il_len, il_app, il_one, RG72, EVA, plug, eq_self, simprocAttr]; with_reducible rfl) ?_ | ((with_reducible refine chk_r ?_); refine r_callF (by simp only [CA, simprocAttr]; rfl) (by exact rfl) (by simp only [CA, simprocAttr]; rfl) rfl ?_) | (with_reducible refine k_condP (by simp only [GA, simprocAttr]; rfl) (by first | (simp only [BO]; rfl) | rfl) (fun ht => ?_) (fun ht => ?_) <;> try (first | exact False.elim ht | exact absurd rfl ht | exact absurd trivial ht | exact Bool.noConfusion ht)) | (with_reducible refine k_ret ?_; repeat with_reducible (first | refine ret_thru ?_ | refine ret_blk ?_ | refine fin ?_)) | (with_reducible refine k_exit ?_; repeat with_reducible (first | refine thru ?_ | refine out_blk ?_ | refine pass (by decide) ?_)) | ((first | refine post1 ?_ | refine post2 ?_ | refine post3 ?_); simp only [GA, simprocAttr]) | refine post0 ?_
   rw [e]
   exact ⟨hlt, _, (by simp only [Am.keep, List.map_cons, List.map_nil, GA, Nat.reduceEqDiff, ↓reduceIte, List.length_append]; rfl), by omega, by simp (disch := omega) only [RG72, EVA, plug, eq_self, simprocAttr] <;> rfl⟩
  ·obtain rfl : k = rows.length := by omega
   have hlt' : ¬ (rows.length : Int) < rows.length := by omega
   rw [fk_all] at hm ⊢
   repeat' first | (with_reducible first | refine k_seq ?_ | refine k_skip ?_ | refine k_blkS ?_ | refine k_blkR ?_ | refine k_blkC ?_ | refine k_blkH ?_ | refine k_blkB ?_ | refine k_blkK ?_ | refine k_blkE ?_ | refine k_reg ?_) | with_reducible refine r_done ?_ | with_reducible refine s_go (by simp (disch := omega) only [hlt', RG72, EVA, plug, eq_self, simprocAttr]; with_reducible rfl) ?_ | ((with_reducible refine chk_r ?_); refine r_callF (by simp only [CA, simprocAttr]; rfl) (by exact rfl) (by simp only [CA, simprocAttr]; rfl) rfl ?_) | (with_reducible refine k_condP (by simp only [GA, simprocAttr]; rfl) (by first | (simp only [BO]; rfl) | rfl) (fun ht => ?_) (fun ht => ?_) <;> try (first | exact False.elim ht | exact absurd rfl ht | exact absurd trivial ht | exact Bool.noConfusion ht)) | (with_reducible refine k_ret ?_; repeat with_reducible (first | refine ret_thru ?_ | refine ret_blk ?_ | refine fin ?_)) | (with_reducible refine k_exit ?_; repeat with_reducible (first | refine thru ?_ | refine out_blk ?_ | refine pass (by decide) ?_)) | ((first | refine post1 ?_ | refine post2 ?_ | refine post3 ?_); simp only [GA, simprocAttr]) | refine post0 ?_
   exact ends_sl (k := 1) (by simp (disch := omega) only [hm, RG72, EVA, plug, eq_self, simprocAttr] <;> rfl) (by simp [il_len])
end Go.Proofs.Ytjncfpfgobojpaa
set_option linter.unusedVariables false
set_option linter.unusedSimpArgs false
namespace Go.Proofs.Ytjncfpfgobojpaa
open Go Go.Am Go.Proofs Go.Sort
def fi (p : Nat → Bool) : Nat → Int
 | 0 => -1
 | k + 1 => if 0 ≤ fi p k then fi p k else if p k = true then k else -1
theorem fi_none {p : Nat → Bool} : ∀ {k : Nat}, (∀ j, j < k → p j = false) → fi p k = -1
 | 0, _ => rfl
 | k + 1, h => by
   have := fi_none (k := k) fun j hj => h j (by omega)
   simp only [fi, this, h k (by omega)]
   rfl
theorem fi_at {p : Nat → Bool} {k : Nat} (h : ∀ j, j < k → p j = false) (hp : p k = true) : ∀ {n : Nat}, k < n → fi p n = k
 | 0, hk => by omega
 | n + 1, hk => by
   by_cases e : k = n
   ·subst e
    simp only [fi, fi_none h, hp, if_true]
    rfl
   ·have := fi_at h hp (n := n) (by omega)
    simp only [fi, this]
    rw [if_pos (by omega)]
theorem fi_ge {p : Nat → Bool} : ∀ {n : Nat}, 0 ≤ fi p n ↔ ∃ j, j < n ∧ p j = true
 | 0 => by simp [fi]
 | n + 1 => by
   have ih := fi_ge (p := p) (n := n)
   simp only [fi]
   by_cases h : 0 ≤ fi p n
   ·rw [if_pos h]
    exact ⟨fun _ => let ⟨j, hj, hp⟩ := ih.1 h; ⟨j, by omega, hp⟩, fun _ => h⟩
   ·rw [if_neg h]
    by_cases hp : p n = true
    ·rw [if_pos hp]
     exact ⟨fun _ => ⟨n, by omega, hp⟩, fun _ => by omega⟩
    ·rw [if_neg hp]
     refine ⟨fun q => by omega, fun ⟨j, hj, q⟩ => ?_⟩
     exfalso
     by_cases e : j = n
     ·subst e; exact hp q
     ·exact h (ih.2 ⟨j, by omega, q⟩)
abbrev bdI (l : List B) (ns : List Int) (j : Nat) : Bool := !decide (0 ≤ ni ns j ∧ ni ns j < l.length)
theorem pc74 (l : List B) (hl : l.length ≤ 9223372036854775807) (x : Int) : PC Try.prog 74 [.i .i64 x, .pv [vB l] 0] (.b (!decide (0 ≤ x ∧ x < l.length))) := by
 refine pc_fn fn74 (by simp only [AV.plains, AV.plain, il_plain, bl_plain, Bool.and_true, Bool.true_and, Bool.and_self, flB_plain]) (by simp only [AV.plains, AV.plain, il_plain, bl_plain, Bool.and_true, Bool.true_and, Bool.and_self, flB_plain]) (Nat.le_of_ble_eq_true rfl) ?_
 rw [initSt2]
 have q := pc64 l hl x
 generalize decide (0 ≤ x ∧ x < l.length) = X at q ⊢
 repeat' first | (with_reducible first | refine k_seq ?_ | refine k_skip ?_ | refine k_blkS ?_ | refine k_blkR ?_ | refine k_blkC ?_ | refine k_blkH ?_ | refine k_blkB ?_ | refine k_blkK ?_ | refine k_blkE ?_ | refine k_reg ?_) | with_reducible refine r_done ?_ | with_reducible refine s_go (by simp (disch := omega) only [c74r0, c74r1, EVA, plug, eq_self, simprocAttr]; with_reducible rfl) ?_ | ((with_reducible refine chk_r ?_); refine r_callF (by simp only [CA, simprocAttr]; rfl) (by exact rfl) (by simp only [CA, simprocAttr]; rfl) rfl ?_) | ((with_reducible refine chk_r ?_); refine r_callP (by simp only [CA, simprocAttr]; rfl) (by simp only [CA, simprocAttr]; rfl) (by first | exact q _) rfl ?_) | (with_reducible refine k_condP (by simp only [GA, simprocAttr]; rfl) (by first | (simp only [BO]; rfl) | rfl) (fun ht => ?_) (fun ht => ?_) <;> try (first | exact False.elim ht | exact absurd rfl ht | exact absurd trivial ht | exact Bool.noConfusion ht)) | (with_reducible refine k_ret ?_; repeat with_reducible (first | refine ret_thru ?_ | refine ret_blk ?_ | refine fin ?_)) | (with_reducible refine k_exit ?_; repeat with_reducible (first | refine thru ?_ | refine out_blk ?_ | refine pass (by decide) ?_)) | ((first | refine post1 ?_ | refine post2 ?_ | refine post3 ?_); simp only [GA, simprocAttr]) | refine post0 ?_
 all_goals first | exact ends_of | exact ends_eq rfl
theorem RG89 : (type_of% @c89r0.eq_1) ∧ (type_of% @c89r1.eq_1) ∧ (type_of% @c89r2.eq_1) ∧ (type_of% @c89r3.eq_1) ∧ (type_of% @c89r4.eq_1) ∧ (type_of% @c89r5.eq_1) ∧ (type_of% @c89r6.eq_1) ∧ (type_of% @c89r8.eq_1) := ⟨@c89r0.eq_1, @c89r1.eq_1, @c89r2.eq_1, @c89r3.eq_1, @c89r4.eq_1, @c89r5.eq_1, @c89r6.eq_1, @c89r8.eq_1⟩
theorem pc89 (l : List B) (hl : l.length ≤ 9223372036854775807) (ns : List Int) (hn : ns.length ≤ 9223372036854775807) : PC Try.prog 89 [vi ns, .fn 74 [] [.pv [vB l] 0]] (.i .i64 (fi (bdI l ns) ns.length)) := by
 refine pc_fn fn89 (by simp only [AV.plains, AV.plain, il_plain, bl_plain, Bool.and_true, Bool.true_and, Bool.and_self, flB_plain, il_plain]) (by simp only [AV.plains, AV.plain, il_plain, bl_plain, Bool.and_true, Bool.true_and, Bool.and_self, flB_plain, il_plain]) (Nat.le_of_ble_eq_true rfl) ?_
 rw [initSt2]
 repeat' first | (with_reducible first | refine k_seq ?_ | refine k_skip ?_ | refine k_blkS ?_ | refine k_blkR ?_ | refine k_blkC ?_ | refine k_blkH ?_ | refine k_blkB ?_ | refine k_blkK ?_ | refine k_blkE ?_ | refine k_reg ?_) | with_reducible refine r_done ?_ | with_reducible refine s_go (by simp (disch := omega) only [RG89, EVA, plug, eq_self, simprocAttr]; with_reducible rfl) ?_ | ((with_reducible refine chk_r ?_); refine r_callF (by simp only [CA, simprocAttr]; rfl) (by exact rfl) (by simp only [CA, simprocAttr]; rfl) rfl ?_) | (with_reducible refine k_condP (by simp only [GA, simprocAttr]; rfl) (by first | (simp only [BO]; rfl) | rfl) (fun ht => ?_) (fun ht => ?_) <;> try (first | exact False.elim ht | exact absurd rfl ht | exact absurd trivial ht | exact Bool.noConfusion ht)) | (with_reducible refine k_ret ?_; repeat with_reducible (first | refine ret_thru ?_ | refine ret_blk ?_ | refine fin ?_)) | (with_reducible refine k_exit ?_; repeat with_reducible (first | refine thru ?_ | refine out_blk ?_ | refine pass (by decide) ?_)) | ((first | refine post1 ?_ | refine post2 ?_ | refine post3 ?_); simp only [GA, simprocAttr]) | refine post0 ?_
 refine k_blk (k_loopS (X := Unit) [0, 1, 7, 8] ns.length (fun k _ => [(0, vi ns), (1, .fn 74 [] [.pv [vB l] 0]), (7, .i .i64 ns.length), (8, .i .i64 (k : Int))]) (fun k _ h => ∀ j, j < k → bdI l ns j = false) () (by simp only [Am.keep, List.map_cons, List.map_nil, GA, simprocAttr]; try rfl) (fun j hj => by omega) ?_)
 rintro k _ h hk hf ok pos
 by_cases hlt : k < ns.length
 ·have hlt' : (k : Int) < ns.length := by omega
  have g := il_get hlt
  have q : PC Try.prog 74 [.i .i64 (ns.getD k 0), .pv [vB l] 0] (.b (bdI l ns k)) := pc74 l hl (ns.getD k 0)
  cases hm : bdI l ns k with
  | true =>
    rw [hm] at q
    rw [fi_at hf hm hlt]
    repeat' first | (with_reducible first | refine k_seq ?_ | refine k_skip ?_ | refine k_blkS ?_ | refine k_blkR ?_ | refine k_blkC ?_ | refine k_blkH ?_ | refine k_blkB ?_ | refine k_blkK ?_ | refine k_blkE ?_ | refine k_reg ?_) | with_reducible refine r_done ?_ | with_reducible refine s_go (by simp (disch := omega) only [hlt', g, RG89, EVA, plug, eq_self, simprocAttr]; with_reducible rfl) ?_ | ((with_reducible refine chk_r ?_); refine r_callF (by simp only [CA, simprocAttr]; rfl) (by exact rfl) (by simp only [CA, simprocAttr]; rfl) rfl ?_) | ((with_reducible refine chk_r ?_); refine r_callP (by simp only [CA, simprocAttr]; rfl) (by simp only [CA, simprocAttr]; rfl) (by first | exact q _) rfl ?_) | (with_reducible refine k_condP (by simp only [GA, simprocAttr]; rfl) (by first | (simp only [BO]; rfl) | rfl) (fun ht => ?_) (fun ht => ?_) <;> try (first | exact False.elim ht | exact absurd rfl ht | exact absurd trivial ht | exact Bool.noConfusion ht)) | (with_reducible refine k_ret ?_; repeat with_reducible (first | refine ret_thru ?_ | refine ret_blk ?_ | refine fin ?_)) | (with_reducible refine k_exit ?_; repeat with_reducible (first | refine thru ?_ | refine out_blk ?_ | refine pass (by decide) ?_)) | ((first | refine post1 ?_ | refine post2 ?_ | refine post3 ?_); simp only [GA, simprocAttr]) | refine post0 ?_
    all_goals first | exact ends_of | exact ends_eq rfl
  | false =>
    rw [hm] at q
    repeat' first | (with_reducible first | refine k_seq ?_ | refine k_skip ?_ | refine k_blkS ?_ | refine k_blkR ?_ | refine k_blkC ?_ | refine k_blkH ?_ | refine k_blkB ?_ | refine k_blkK ?_ | refine k_blkE ?_ | refine k_reg ?_) | with_reducible refine r_done ?_ | with_reducible refine s_go (by simp (disch := omega) only [hlt', g, RG89, EVA, plug, eq_self, simprocAttr]; with_reducible rfl) ?_ | ((with_reducible refine chk_r ?_); refine r_callF (by simp only [CA, simprocAttr]; rfl) (by exact rfl) (by simp only [CA, simprocAttr]; rfl) rfl ?_) | ((with_reducible refine chk_r ?_); refine r_callP (by simp only [CA, simprocAttr]; rfl) (by simp only [CA, simprocAttr]; rfl) (by first | exact q _) rfl ?_) | (with_reducible refine k_condP (by simp only [GA, simprocAttr]; rfl) (by first | (simp only [BO]; rfl) | rfl) (fun ht => ?_) (fun ht => ?_) <;> try (first | exact False.elim ht | exact absurd rfl ht | exact absurd trivial ht | exact Bool.noConfusion ht)) | (with_reducible refine k_ret ?_; repeat with_reducible (first | refine ret_thru ?_ | refine ret_blk ?_ | refine fin ?_)) | (with_reducible refine k_exit ?_; repeat with_reducible (first | refine thru ?_ | refine out_blk ?_ | refine pass (by decide) ?_)) | ((first | refine post1 ?_ | refine post2 ?_ | refine post3 ?_); simp only [GA, simprocAttr]) | refine post0 ?_
    refine ⟨hlt, (), (by simp only [Am.keep, List.map_cons, List.map_nil, GA, simprocAttr]; try rfl), fun j hj => ?_⟩
    by_cases e : j = k
    ·subst e; exact hm
    ·exact hf j (by omega)
 ·obtain rfl : k = ns.length := by omega
  have hlt' : ¬ (ns.length : Int) < ns.length := by omega
  rw [fi_none hf]
  repeat' first | (with_reducible first | refine k_seq ?_ | refine k_skip ?_ | refine k_blkS ?_ | refine k_blkR ?_ | refine k_blkC ?_ | refine k_blkH ?_ | refine k_blkB ?_ | refine k_blkK ?_ | refine k_blkE ?_ | refine k_reg ?_) | with_reducible refine r_done ?_ | with_reducible refine s_go (by simp (disch := omega) only [hlt', RG89, EVA, plug, eq_self, simprocAttr]; with_reducible rfl) ?_ | ((with_reducible refine chk_r ?_); refine r_callF (by simp only [CA, simprocAttr]; rfl) (by exact rfl) (by simp only [CA, simprocAttr]; rfl) rfl ?_) | (with_reducible refine k_condP (by simp only [GA, simprocAttr]; rfl) (by first | (simp only [BO]; rfl) | rfl) (fun ht => ?_) (fun ht => ?_) <;> try (first | exact False.elim ht | exact absurd rfl ht | exact absurd trivial ht | exact Bool.noConfusion ht)) | (with_reducible refine k_ret ?_; repeat with_reducible (first | refine ret_thru ?_ | refine ret_blk ?_ | refine fin ?_)) | (with_reducible refine k_exit ?_; repeat with_reducible (first | refine thru ?_ | refine out_blk ?_ | refine pass (by decide) ?_)) | ((first | refine post1 ?_ | refine post2 ?_ | refine post3 ?_); simp only [GA, simprocAttr]) | refine post0 ?_
  all_goals first | exact ends_of | exact ends_eq rfl
theorem pc73 (l : List B) (hl : l.length ≤ 9223372036854775807) (ns : List Int) (hn : ns.length ≤ 9223372036854775807) : PC Try.prog 73 [vi ns, .fn 74 [] [.pv [vB l] 0]] (.b (decide (0 ≤ fi (bdI l ns) ns.length))) := by
 refine pc_fn fn73 (by simp only [AV.plains, AV.plain, il_plain, bl_plain, Bool.and_true, Bool.true_and, Bool.and_self, flB_plain, il_plain]) (by simp only [AV.plains, AV.plain, il_plain, bl_plain, Bool.and_true, Bool.true_and, Bool.and_self, flB_plain, il_plain]) (Nat.le_of_ble_eq_true rfl) ?_
 rw [initSt2]
 have q := pc89 l hl ns hn
 generalize fi (bdI l ns) ns.length = X at q ⊢
 repeat' first | (with_reducible first | refine k_seq ?_ | refine k_skip ?_ | refine k_blkS ?_ | refine k_blkR ?_ | refine k_blkC ?_ | refine k_blkH ?_ | refine k_blkB ?_ | refine k_blkK ?_ | refine k_blkE ?_ | refine k_reg ?_) | with_reducible refine r_done ?_ | with_reducible refine s_go (by simp (disch := omega) only [c73r0, c73r1, EVA, plug, eq_self, simprocAttr]; with_reducible rfl) ?_ | ((with_reducible refine chk_r ?_); refine r_callF (by simp only [CA, simprocAttr]; rfl) (by exact rfl) (by simp only [CA, simprocAttr]; rfl) rfl ?_) | ((with_reducible refine chk_r ?_); refine r_callP (by simp only [CA, simprocAttr]; rfl) (by simp only [CA, simprocAttr]; rfl) (by first | exact q _) rfl ?_) | (with_reducible refine k_condP (by simp only [GA, simprocAttr]; rfl) (by first | (simp only [BO]; rfl) | rfl) (fun ht => ?_) (fun ht => ?_) <;> try (first | exact False.elim ht | exact absurd rfl ht | exact absurd trivial ht | exact Bool.noConfusion ht)) | (with_reducible refine k_ret ?_; repeat with_reducible (first | refine ret_thru ?_ | refine ret_blk ?_ | refine fin ?_)) | (with_reducible refine k_exit ?_; repeat with_reducible (first | refine thru ?_ | refine out_blk ?_ | refine pass (by decide) ?_)) | ((first | refine post1 ?_ | refine post2 ?_ | refine post3 ?_); simp only [GA, simprocAttr]) | refine post0 ?_
 all_goals first | exact ends_of | exact ends_eq rfl
abbrev noB (us : List Bool) (j : Nat) : Bool := (false == us.getD j false)
theorem RG90 : (type_of% @c90r0.eq_1) ∧ (type_of% @c90r1.eq_1) ∧ (type_of% @c90r2.eq_1) ∧ (type_of% @c90r3.eq_1) ∧ (type_of% @c90r4.eq_1) ∧ (type_of% @c90r5.eq_1) ∧ (type_of% @c90r6.eq_1) ∧ (type_of% @c90r8.eq_1) := ⟨@c90r0.eq_1, @c90r1.eq_1, @c90r2.eq_1, @c90r3.eq_1, @c90r4.eq_1, @c90r5.eq_1, @c90r6.eq_1, @c90r8.eq_1⟩
theorem pc90 (us : List Bool) (hn : us.length ≤ 9223372036854775807) : PC Try.prog 90 [.vs us.length (bl us), .b false] (.i .i64 (fi (noB us) us.length)) := by
 refine pc_fn fn90 (by simp only [AV.plains, AV.plain, il_plain, bl_plain, Bool.and_true, Bool.true_and, Bool.and_self, bl_plain]) (by simp only [AV.plains, AV.plain, il_plain, bl_plain, Bool.and_true, Bool.true_and, Bool.and_self, bl_plain]) (Nat.le_of_ble_eq_true rfl) ?_
 rw [initSt2]
 repeat' first | (with_reducible first | refine k_seq ?_ | refine k_skip ?_ | refine k_blkS ?_ | refine k_blkR ?_ | refine k_blkC ?_ | refine k_blkH ?_ | refine k_blkB ?_ | refine k_blkK ?_ | refine k_blkE ?_ | refine k_reg ?_) | with_reducible refine r_done ?_ | with_reducible refine s_go (by simp (disch := omega) only [RG90, EVA, plug, eq_self, simprocAttr]; with_reducible rfl) ?_ | ((with_reducible refine chk_r ?_); refine r_callF (by simp only [CA, simprocAttr]; rfl) (by exact rfl) (by simp only [CA, simprocAttr]; rfl) rfl ?_) | (with_reducible refine k_condP (by simp only [GA, simprocAttr]; rfl) (by first | (simp only [BO]; rfl) | rfl) (fun ht => ?_) (fun ht => ?_) <;> try (first | exact False.elim ht | exact absurd rfl ht | exact absurd trivial ht | exact Bool.noConfusion ht)) | (with_reducible refine k_ret ?_; repeat with_reducible (first | refine ret_thru ?_ | refine ret_blk ?_ | refine fin ?_)) | (with_reducible refine k_exit ?_; repeat with_reducible (first | refine thru ?_ | refine out_blk ?_ | refine pass (by decide) ?_)) | ((first | refine post1 ?_ | refine post2 ?_ | refine post3 ?_); simp only [GA, simprocAttr]) | refine post0 ?_
 refine k_blk (k_loopS (X := Unit) [0, 1, 7, 8] us.length (fun k _ => [(0, .vs us.length (bl us)), (1, .b false), (7, .i .i64 us.length), (8, .i .i64 (k : Int))]) (fun k _ h => ∀ j, j < k → noB us j = false) () (by simp only [Am.keep, List.map_cons, List.map_nil, GA, simprocAttr]; try rfl) (fun j hj => by omega) ?_)
 rintro k _ h hk hf ok pos
 by_cases hlt : k < us.length
 ·have hlt' : (k : Int) < us.length := by omega
  have g := bl_get hlt
  cases hm : us.getD k false with
  | false =>
    rw [hm] at g
    rw [fi_at hf (by simp only [noB, hm]; rfl) hlt]
    repeat' first | (with_reducible first | refine k_seq ?_ | refine k_skip ?_ | refine k_blkS ?_ | refine k_blkR ?_ | refine k_blkC ?_ | refine k_blkH ?_ | refine k_blkB ?_ | refine k_blkK ?_ | refine k_blkE ?_ | refine k_reg ?_) | with_reducible refine r_done ?_ | with_reducible refine s_go (by simp (disch := omega) only [hlt', g, RG90, EVA, plug, eq_self, simprocAttr]; with_reducible rfl) ?_ | ((with_reducible refine chk_r ?_); refine r_callF (by simp only [CA, simprocAttr]; rfl) (by exact rfl) (by simp only [CA, simprocAttr]; rfl) rfl ?_) | (with_reducible refine k_condP (by simp only [GA, simprocAttr]; rfl) (by first | (simp only [BO]; rfl) | rfl) (fun ht => ?_) (fun ht => ?_) <;> try (first | exact False.elim ht | exact absurd rfl ht | exact absurd trivial ht | exact Bool.noConfusion ht)) | (with_reducible refine k_ret ?_; repeat with_reducible (first | refine ret_thru ?_ | refine ret_blk ?_ | refine fin ?_)) | (with_reducible refine k_exit ?_; repeat with_reducible (first | refine thru ?_ | refine out_blk ?_ | refine pass (by decide) ?_)) | ((first | refine post1 ?_ | refine post2 ?_ | refine post3 ?_); simp only [GA, simprocAttr]) | refine post0 ?_
    all_goals first | exact ends_of | exact ends_eq rfl
  | true =>
    rw [hm] at g
    repeat' first | (with_reducible first | refine k_seq ?_ | refine k_skip ?_ | refine k_blkS ?_ | refine k_blkR ?_ | refine k_blkC ?_ | refine k_blkH ?_ | refine k_blkB ?_ | refine k_blkK ?_ | refine k_blkE ?_ | refine k_reg ?_) | with_reducible refine r_done ?_ | with_reducible refine s_go (by simp (disch := omega) only [hlt', g, RG90, EVA, plug, eq_self, simprocAttr]; with_reducible rfl) ?_ | ((with_reducible refine chk_r ?_); refine r_callF (by simp only [CA, simprocAttr]; rfl) (by exact rfl) (by simp only [CA, simprocAttr]; rfl) rfl ?_) | (with_reducible refine k_condP (by simp only [GA, simprocAttr]; rfl) (by first | (simp only [BO]; rfl) | rfl) (fun ht => ?_) (fun ht => ?_) <;> try (first | exact False.elim ht | exact absurd rfl ht | exact absurd trivial ht | exact Bool.noConfusion ht)) | (with_reducible refine k_ret ?_; repeat with_reducible (first | refine ret_thru ?_ | refine ret_blk ?_ | refine fin ?_)) | (with_reducible refine k_exit ?_; repeat with_reducible (first | refine thru ?_ | refine out_blk ?_ | refine pass (by decide) ?_)) | ((first | refine post1 ?_ | refine post2 ?_ | refine post3 ?_); simp only [GA, simprocAttr]) | refine post0 ?_
    refine ⟨hlt, (), (by simp only [Am.keep, List.map_cons, List.map_nil, GA, simprocAttr]; try rfl), fun j hj => ?_⟩
    by_cases e : j = k
    ·subst e; simp only [noB, hm]; rfl
    ·exact hf j (by omega)
 ·obtain rfl : k = us.length := by omega
  have hlt' : ¬ (us.length : Int) < us.length := by omega
  rw [fi_none hf]
  repeat' first | (with_reducible first | refine k_seq ?_ | refine k_skip ?_ | refine k_blkS ?_ | refine k_blkR ?_ | refine k_blkC ?_ | refine k_blkH ?_ | refine k_blkB ?_ | refine k_blkK ?_ | refine k_blkE ?_ | refine k_reg ?_) | with_reducible refine r_done ?_ | with_reducible refine s_go (by simp (disch := omega) only [hlt', RG90, EVA, plug, eq_self, simprocAttr]; with_reducible rfl) ?_ | ((with_reducible refine chk_r ?_); refine r_callF (by simp only [CA, simprocAttr]; rfl) (by exact rfl) (by simp only [CA, simprocAttr]; rfl) rfl ?_) | (with_reducible refine k_condP (by simp only [GA, simprocAttr]; rfl) (by first | (simp only [BO]; rfl) | rfl) (fun ht => ?_) (fun ht => ?_) <;> try (first | exact False.elim ht | exact absurd rfl ht | exact absurd trivial ht | exact Bool.noConfusion ht)) | (with_reducible refine k_ret ?_; repeat with_reducible (first | refine ret_thru ?_ | refine ret_blk ?_ | refine fin ?_)) | (with_reducible refine k_exit ?_; repeat with_reducible (first | refine thru ?_ | refine out_blk ?_ | refine pass (by decide) ?_)) | ((first | refine post1 ?_ | refine post2 ?_ | refine post3 ?_); simp only [GA, simprocAttr]) | refine post0 ?_
  all_goals first | exact ends_of | exact ends_eq rfl
theorem pc75 (us : List Bool) (hn : us.length ≤ 9223372036854775807) : PC Try.prog 75 [.vs us.length (bl us), .b false] (.b (decide (0 ≤ fi (noB us) us.length))) := by
 refine pc_fn fn75 (by simp only [AV.plains, AV.plain, il_plain, bl_plain, Bool.and_true, Bool.true_and, Bool.and_self, bl_plain]) (by simp only [AV.plains, AV.plain, il_plain, bl_plain, Bool.and_true, Bool.true_and, Bool.and_self, bl_plain]) (Nat.le_of_ble_eq_true rfl) ?_
 rw [initSt2]
 have q := pc90 us hn
 generalize fi (noB us) us.length = X at q ⊢
 repeat' first | (with_reducible first | refine k_seq ?_ | refine k_skip ?_ | refine k_blkS ?_ | refine k_blkR ?_ | refine k_blkC ?_ | refine k_blkH ?_ | refine k_blkB ?_ | refine k_blkK ?_ | refine k_blkE ?_ | refine k_reg ?_) | with_reducible refine r_done ?_ | with_reducible refine s_go (by simp (disch := omega) only [c75r0, c75r1, EVA, plug, eq_self, simprocAttr]; with_reducible rfl) ?_ | ((with_reducible refine chk_r ?_); refine r_callF (by simp only [CA, simprocAttr]; rfl) (by exact rfl) (by simp only [CA, simprocAttr]; rfl) rfl ?_) | ((with_reducible refine chk_r ?_); refine r_callP (by simp only [CA, simprocAttr]; rfl) (by simp only [CA, simprocAttr]; rfl) (by first | exact q _) rfl ?_) | (with_reducible refine k_condP (by simp only [GA, simprocAttr]; rfl) (by first | (simp only [BO]; rfl) | rfl) (fun ht => ?_) (fun ht => ?_) <;> try (first | exact False.elim ht | exact absurd rfl ht | exact absurd trivial ht | exact Bool.noConfusion ht)) | (with_reducible refine k_ret ?_; repeat with_reducible (first | refine ret_thru ?_ | refine ret_blk ?_ | refine fin ?_)) | (with_reducible refine k_exit ?_; repeat with_reducible (first | refine thru ?_ | refine out_blk ?_ | refine pass (by decide) ?_)) | ((first | refine post1 ?_ | refine post2 ?_ | refine post3 ?_); simp only [GA, simprocAttr]) | refine post0 ?_
 all_goals first | exact ends_of | exact ends_eq rfl
end Go.Proofs.Ytjncfpfgobojpaa
set_option linter.unusedVariables false
set_option linter.unusedSimpArgs false
namespace Go.Proofs.Ytjncfpfgobojpaa
open Go Go.Am Go.Proofs Go.Sort
theorem ck_err {l : List B} {rows : List (List Int)} (h : ¬ VL l) : ck l rows = 60 := by unfold ck; rw [if_neg h]
theorem ck_arg {l : List B} {rows : List (List Int)} (h : VL l) (i : ¬ IX l rows.flatten) : ck l rows = 2 := by unfold ck; rw [if_pos h, if_neg i]
theorem ck_two {l : List B} {rows : List (List Int)} (h : VL l) (i : IX l rows.flatten) (n : ¬ rows.flatten.Nodup) : ck l rows = 43 := by unfold ck; rw [if_pos h, if_pos i, if_neg n]
theorem ck_dirty {l : List B} {rows : List (List Int)} (h : VL l) (i : IX l rows.flatten) (n : rows.flatten.Nodup) (m : ¬ MYs l rows rows.length) : ck l rows = 61 := by unfold ck; rw [if_pos h, if_pos i, if_pos n, if_neg m]
theorem ck_end {l : List B} {rows : List (List Int)} (h : VL l) (i : IX l rows.flatten) (n : rows.flatten.Nodup) (m : MYs l rows rows.length) {E L : Prop} [Decidable E] [Decidable L] (e : (∃ r ∈ rows, r = []) ↔ E) (f : rows.flatten.length < l.length ↔ L) : ck l rows = if E ∨ L then 4 else 0 := by
 unfold ck; rw [if_pos h, if_pos i, if_pos n, if_pos m]
 by_cases q : E ∨ L
 ·rw [if_pos q, if_pos (q.imp e.2 f.2)]
 ·rw [if_neg q, if_neg fun z => q (z.imp e.1 f.1)]
structure InR (l : List B) (us : List Bool) (A : List Int) : Prop where
 len : us.length = l.length
 is : ∀ i : Nat, i < l.length → (us.getD i false = true ↔ (i : Int) ∈ A)
theorem InR.zero (l : List B) : InR l (List.replicate l.length false) [] := ⟨by simp, fun i hi => by simp [List.getD_eq_getElem?_getD, List.getElem?_replicate, hi]⟩
theorem InR.step {l : List B} {us : List Bool} {A : List Int} (h : InR l us A) {a : Nat} (ha : a < l.length) : InR l (us.set a true) (A ++ [(a : Int)]) := ⟨by rw [List.length_set]; exact h.len, fun i hi => by
 rw [getD_setb (by rw [h.len]; exact ha), List.mem_append, List.mem_singleton]
 by_cases e : i = a
 ·subst e; simp
 ·rw [if_neg e, h.is i hi]
  exact ⟨.inl, fun q => q.resolve_right fun q => e (by omega)⟩⟩
theorem InR.full {l : List B} {us : List Bool} {A : List Int} (h : InR l us A) (nd : A.Nodup) (ix : IX l A) : 0 ≤ fi (noB us) us.length ↔ A.length < l.length := by
 rw [fi_ge, h.len]
 constructor
 ·rintro ⟨j, hj, q⟩
  have hn : ¬ (j : Int) ∈ A := fun m => by
   rw [noB, (h.is j hj).2 m] at q; cases q
  have := ints_le (A := (j : Int) :: A) (B := ixs l.length) (List.nodup_cons.2 ⟨hn, nd⟩) fun x hx => by
   rcases List.mem_cons.1 hx with rfl | hx
   ·exact ixs_mem.2 (by omega)
   ·exact ixs_mem.2 (ix x hx)
  rw [ixs_len, List.length_cons] at this
  omega
 ·intro hlt
  refine Classical.byContradiction fun hn => ?_
  have := ints_le (A := ixs l.length) (B := A) (ixs_nodup _) fun x hx => by
   have hx := ixs_mem.1 hx
   obtain ⟨j, rfl⟩ : ∃ j : Nat, x = j := ⟨x.toNat, by omega⟩
   refine (h.is j (by omega)).1 ?_
   cases q : us.getD j false with
   | true => rfl
   | false => exact absurd ⟨j, by omega, by simp only [noB, q]; rfl⟩ hn
  rw [ixs_len] at this
  omega
theorem IX.fi {l : List B} {ns : List Int} (h : IX l ns) : fi (bdI l ns) ns.length = -1 := fi_none fun j hj => by
 have := h _ (List.getElem_mem hj)
 have e : ni ns j = ns[j] := by simp [ni, hj]
 simp only [bdI, e]
 rw [decide_eq_true this]; rfl
theorem IX.fi' {l : List B} {ns : List Int} (h : ¬ IX l ns) : 0 ≤ Ytjncfpfgobojpaa.fi (bdI l ns) ns.length := fi_ge.2 <| by
 refine Classical.byContradiction fun hn => h fun x hx => ?_
 obtain ⟨j, hj, e⟩ := List.getElem_of_mem hx
 have e2 : ni ns j = x := by simp [ni, hj, e]
 refine Classical.byContradiction fun q => hn ⟨j, hj, ?_⟩
 simp only [bdI, e2]
 rw [decide_eq_false q]; rfl
def fj (rows : List (List Int)) (i j : Nat) : List Int := fk rows i ++ (rI rows i).take j
theorem fj_succ {rows : List (List Int)} {i j : Nat} (hj : j < (rI rows i).length) : fj rows i (j + 1) = fj rows i j ++ [ni (rI rows i) j] := by
 unfold fj
 generalize rI rows i = r at hj ⊢
 rw [List.take_succ_eq_append_getElem hj, List.append_assoc]
 simp [ni, hj]
theorem fk_pre (rows : List (List Int)) (i : Nat) : ∃ R, rows.flatten = fk rows i ++ R := ⟨(rows.drop i).flatten, by unfold fk; rw [← List.flatten_append, List.take_append_drop]⟩
theorem fj_pre {rows : List (List Int)} {i : Nat} (hi : i < rows.length) (j : Nat) : ∃ R, rows.flatten = fj rows i j ++ R := by
 obtain ⟨R, e⟩ := fk_pre rows (i + 1)
 refine ⟨(rI rows i).drop j ++ R, ?_⟩
 rw [e, fk_succ hi]
 unfold fj
 simp only [List.append_assoc]
 rw [← List.append_assoc (List.take j _), List.take_append_drop]
theorem IX.at {l : List B} {rows : List (List Int)} (h : IX l rows.flatten) {i j : Nat} (hi : i < rows.length) (hj : j < (rI rows i).length) : ∃ a : Nat, a < l.length ∧ ni (rI rows i) j = a ∧ (il (rI rows i))[j]? = some (.i .i64 (a : Int)) := by
 obtain ⟨R, e⟩ := fj_pre hi (j + 1)
 rw [fj_succ hj] at e
 have := h (ni (rI rows i) j) (by rw [e]; simp)
 refine ⟨(ni (rI rows i) j).toNat, by omega, by omega, ?_⟩
 rw [il_get hj]
 have e2 : (rI rows i).getD j 0 = ((ni (rI rows i) j).toNat : Int) := by simp only [ni] at *; omega
 rw [e2]
theorem nd_pre {A R : List Int} {x : Int} {F : List Int} (e : F = A ++ [x] ++ R) (hx : x ∈ A) : ¬ F.Nodup := fun h => by
 rw [e, List.nodup_append] at h
 have h := h.1
 rw [List.nodup_append] at h
 exact h.2.2 x hx x (by simp) rfl
theorem nd_snoc {A : List Int} {x : Int} (h : A.Nodup) (hx : ¬ x ∈ A) : (A ++ [x]).Nodup := by
 rw [List.nodup_append]
 refine ⟨h, by simp, fun a ha b hb e => ?_⟩
 rw [List.mem_singleton] at hb
 subst hb; subst e; exact hx ha
def emp (rows : List (List Int)) (k : Nat) : Prop := ∃ i, i < k ∧ rI rows i = []
theorem emp_all {rows : List (List Int)} : (∃ r ∈ rows, r = []) ↔ emp rows rows.length := by
 constructor
 ·rintro ⟨r, hr, e⟩
  obtain ⟨i, hi, e2⟩ := List.getElem_of_mem hr
  exact ⟨i, hi, by simp only [rI]; rw [getD_lt hi, e2]; exact e⟩
 ·rintro ⟨i, hi, e⟩
  exact ⟨rI rows i, by simp only [rI]; rw [getD_lt hi]; exact List.getElem_mem hi, e⟩
noncomputable def empB (rows : List (List Int)) (k : Nat) : Bool := @decide (emp rows k) (Classical.propDecidable _)
theorem empB_iff {rows : List (List Int)} {k : Nat} : empB rows k = true ↔ emp rows k := by unfold empB; exact @decide_eq_true_iff _ (Classical.propDecidable _)
theorem empB_zero (rows : List (List Int)) : empB rows 0 = false := by
 cases h : empB rows 0 with
 | false => rfl
 | true => obtain ⟨i, hi, _⟩ := empB_iff.1 h; omega
theorem empB_succ (rows : List (List Int)) (k : Nat) : empB rows (k + 1) = (empB rows k || decide (((rI rows k).length : Int) = 0)) := by
 rw [Bool.eq_iff_iff, Bool.or_eq_true, empB_iff, empB_iff, decide_eq_true_eq]
 constructor
 ·rintro ⟨i, hi, e⟩
  by_cases q : i = k
  ·subst q; rw [e]; exact .inr rfl
  ·exact .inl ⟨i, by omega, e⟩
 ·rintro (⟨i, hi, e⟩ | e)
  ·exact ⟨i, by omega, e⟩
  ·exact ⟨k, by omega, List.length_eq_zero_iff.1 (by omega)⟩
theorem MYs.succ {l : List B} {rows : List (List Int)} {k : Nat} (h : MYs l rows k) (q : MY l (rI rows k) (rI rows k).length) : MYs l rows (k + 1) := fun i hi => by
 by_cases e : i = k
 ·subst e; exact q
 ·exact h i (by omega)
theorem MY.step {l : List B} {row : List Int} {j : Nat} (h : MY l row (j + 1)) (q : mayZ l (ni row j) (ni row (j + 1)) = true) : MY l row (j + 1 + 1) := fun i h0 hi => by
 by_cases e : i = j + 1
 ·subst e; exact q
 ·exact h i h0 (by omega)
theorem MY.no {l : List B} {rows : List (List Int)} {k j : Nat} (hk : k < rows.length) (hj : j + 1 < (rI rows k).length) (q : mayZ l (ni (rI rows k) j) (ni (rI rows k) (j + 1)) = false) : ¬ MYs l rows rows.length := fun h => by
 have := h k hk (j + 1) (by omega) hj
 rw [Nat.add_sub_cancel, q] at this; cases this
end Go.Proofs.Ytjncfpfgobojpaa
