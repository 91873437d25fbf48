/- What the proof of the law needs: the abstract machine, the functions as it reads them, their contracts, part 8. -/
import Derived.Test.YtjaihaccehaicaaDoorZg
import Derived.Test.YtjaihaccehaicaaDoorRows
import Derived.Test.YtjaihaccehaicaaDoorTie
import Derived.LaidLaws
import Derived.Handed
import Derived.ProofKit
set_option linter.unusedVariables false
set_option linter.unusedSimpArgs false
namespace Go.Proofs.YtjaihaccehaicaaDoor
open Go Go.Am Go.Proofs
abbrev fsV (l : List Sz) (m : List Hd) (k : Nat) (li : List Int) : AV := .tu [vi (frsL (cvsB l m) l.length k li).1, .b (frsL (cvsB l m) l.length k li).2]
theorem frm_le {l : List Int} {n : Nat} (ha : asc l) (hb : inB n l) : frm l ≤ n := (frm_iff ha hb).2 fun y hy => (hb y hy).2
theorem RG51 : (type_of% @c51r0.eq_1) ∧ (type_of% @c51r1.eq_1) ∧ (type_of% @c51r2.eq_1) ∧ (type_of% @c51r3.eq_1) ∧ (type_of% @c51r4.eq_1) ∧ (type_of% @c51r5.eq_1) ∧ (type_of% @c51r6.eq_1) ∧ (type_of% @c51r7.eq_1) ∧ (type_of% @c51r8.eq_1) ∧ (type_of% @c51r9.eq_1) ∧ (type_of% @c51r10.eq_1) ∧ (type_of% @c51r11.eq_1) ∧ (type_of% @c51r12.eq_1) ∧ (type_of% @c51r14.eq_1) := ⟨@c51r0.eq_1, @c51r1.eq_1, @c51r2.eq_1, @c51r3.eq_1, @c51r4.eq_1, @c51r5.eq_1, @c51r6.eq_1, @c51r7.eq_1, @c51r8.eq_1, @c51r9.eq_1, @c51r10.eq_1, @c51r11.eq_1, @c51r12.eq_1, @c51r14.eq_1⟩
set_option maxHeartbeats 1000000 in
theorem lp51 (l : List Sz) (m : List Hd) (hl : l.length ≤ 20) (k : Nat) (hk : k ≤ 100) (li : List Int) (ha : asc li) (hb : inB l.length li)
 (IH : ∀ li, asc li → inB l.length li → PC Tryd.prog 51 [vZ l, vH m, vi li, .i .i64 (k : Int)] (fsV l m k li)) (h : AH) (ok0 : h.ok) (pos0 : 0 < h.nx) :
 W Tryd.prog 56 (.blk 0 (.loop c51b13)) (athen (fun st h => W Tryd.prog 56 (.seq (.reg c51r14) .ret) (athen (Post q51 (Am.Ends (fsV l m (k + 1) li))) (Fin (Post q51 (Am.Ends (fsV l m (k + 1) li))))) st h) (athen (Post q51 (Am.Ends (fsV l m (k + 1) li))) (Fin (Post q51 (Am.Ends (fsV l m (k + 1) li))))))
   [(0, vZ l), (1, vH m), (2, vi li), (3, .i .i64 ((k + 1 : Nat) : Int)), (11, .i .i64 (frm li : Nat))] h := by
 have w1 : IntKind.i64.wrap (((k + 1 : Nat) : Int) - 1) = k := by rw [show ((k + 1 : Nat) : Int) - 1 = k by omega]; exact wrap64 (by omega) (by omega)
 have fl := frm_le ha hb
 have lil := asc_len ha hb
 have fi := fun i => frm_iff ha hb (i := i)
 unfold fsV
 rw [frsL]
 generalize hf : (fun i : Nat => frsL (cvsB l m) l.length k (li ++ [(i : Int)])) = f
 generalize hR : frsG f (l.length - frm li) (frm li) = R
 refine k_blk (k_loopW (X := Nat) [0, 1, 2, 3, 11] (fun i => [(0, vZ l), (1, vH m), (2, vi li), (3, .i .i64 ((k + 1 : Nat) : Int)), (11, .i .i64 (i : Int))]) (fun i => l.length - i) (fun i h => frm li ≤ i ∧ i ≤ l.length ∧ frsG f (l.length - i) i = R) (frm li) (by simp only [Am.keep, List.map_cons, List.map_nil, GA, simprocAttr]; try rfl) ⟨Nat.le_refl _, fl, hR⟩ ?_)
 rintro i h1 ⟨i1, i2, e⟩ ok pos
 by_cases ilt : i < l.length
 ·have ilt' : (i : Int) < l.length := by omega
  have ha' : asc (li ++ [(i : Int)]) := asc_snoc.2 ⟨ha, (fi i).1 i1⟩
  have hb' : inB l.length (li ++ [(i : Int)]) := fun x hx => by
   rcases List.mem_append.1 hx with q | q
   ·exact hb x q
   ·rw [List.mem_singleton.1 q]; omega
  have q := IH _ ha' hb'
  simp only [fsV] at q
  have ef : f i = frsL (cvsB l m) l.length k (li ++ [(i : Int)]) := by rw [← hf]
  rw [show l.length - i = (l.length - (i + 1)) + 1 by omega, frsG, ef] at e
  have w2 : IntKind.i64.wrap ((i : Int) + 1) = ((i + 1 : Nat) : Int) := by rw [show (i : Int) + 1 = ((i + 1 : Nat) : Int) by omega]; exact wrap64 (by omega) (by omega)
  repeat' first | with_reducible refine k_seq ?_ | with_reducible refine k_skip ?_ | with_reducible refine k_blkS ?_ | with_reducible refine k_blkR ?_ | with_reducible refine k_blkC ?_ | with_reducible refine k_blkH ?_ | with_reducible refine k_blkB ?_ | with_reducible refine k_blkK ?_ | with_reducible refine k_blkE ?_ | (fail_if_success (with_reducible refine k_reg (ops := c51r9) ?_)); with_reducible refine k_reg ?_ | with_reducible refine r_done ?_ | with_reducible refine s_go (by simp (disch := omega) only [ilt', RG51, EVA, plug, eq_self, simprocAttr]; with_reducible rfl) ?_ | ((with_reducible refine chk_r ?_); refine r_callF (by simp only [CA, simprocAttr]; rfl) (by exact rfl) (by simp only [CA, simprocAttr]; rfl) rfl ?_) | (with_reducible refine k_condP (by simp only [GA, simprocAttr]; rfl) (by first | (simp only [BO]; rfl) | rfl) (fun ht => ?_) (fun ht => ?_) <;> try (first | exact False.elim ht | exact absurd rfl ht | exact absurd trivial ht | exact Bool.noConfusion ht)) | (with_reducible refine k_ret ?_; repeat with_reducible (first | refine ret_thru ?_ | refine ret_blk ?_ | refine fin ?_)) | (with_reducible refine k_exit ?_; repeat with_reducible (first | refine thru ?_ | refine out_blk ?_ | refine pass (by decide) ?_)) | ((first | refine post1 ?_ | refine post2 ?_ | refine post3 ?_); simp only [GA, simprocAttr]) | refine post0 ?_
  refine w_frzS 12 (cs := il (li ++ [(i : Int)])) 1 (by simp (disch := omega) only [RG51, EVA, plug, eq_self, simprocAttr] <;> rfl) rfl (by rw [il_len]; simp) ?_
  generalize (frsL (cvsB l m) l.length k (li ++ [(i : Int)])).1 = o at *
  generalize (frsL (cvsB l m) l.length k (li ++ [(i : Int)])).2 = b at *
  simp only [vi, List.length_append, List.length_singleton] at q
  cases b with
  | true =>
    rw [if_pos rfl] at e
    rw [← e]
    repeat' first | (with_reducible first | refine k_seq ?_ | refine k_skip ?_ | refine k_blkS ?_ | refine k_blkR ?_ | refine k_blkC ?_ | refine k_blkH ?_ | refine k_blkB ?_ | refine k_blkK ?_ | refine k_blkE ?_ | refine k_reg ?_) | with_reducible refine r_done ?_ | with_reducible refine s_go (by simp (disch := omega) only [w1, RG51, EVA, plug, eq_self, simprocAttr]; with_reducible rfl) ?_ | ((with_reducible refine chk_r ?_); refine r_callF (by simp only [CA, simprocAttr]; rfl) (by exact rfl) (by simp only [CA, simprocAttr]; rfl) rfl ?_) | ((with_reducible refine chk_r ?_); refine r_callP (by simp only [CA, simprocAttr]; rfl) (by simp only [CA, simprocAttr]; rfl) (by first | exact q _) rfl ?_) | (with_reducible refine k_condP (by simp only [GA, simprocAttr]; rfl) (by first | (simp only [BO]; rfl) | rfl) (fun ht => ?_) (fun ht => ?_) <;> try (first | exact False.elim ht | exact absurd rfl ht | exact absurd trivial ht | exact Bool.noConfusion ht)) | (with_reducible refine k_ret ?_; repeat with_reducible (first | refine ret_thru ?_ | refine ret_blk ?_ | refine fin ?_)) | (with_reducible refine k_exit ?_; repeat with_reducible (first | refine thru ?_ | refine out_blk ?_ | refine pass (by decide) ?_)) | ((first | refine post1 ?_ | refine post2 ?_ | refine post3 ?_); simp only [GA, simprocAttr]) | refine post0 ?_
    all_goals first | exact ends_of | exact ends_eq rfl
  | false =>
    rw [if_neg (by simp)] at e
    repeat' first | (with_reducible first | refine k_seq ?_ | refine k_skip ?_ | refine k_blkS ?_ | refine k_blkR ?_ | refine k_blkC ?_ | refine k_blkH ?_ | refine k_blkB ?_ | refine k_blkK ?_ | refine k_blkE ?_ | refine k_reg ?_) | with_reducible refine r_done ?_ | with_reducible refine s_go (by simp (disch := omega) only [w1, w2, RG51, EVA, plug, eq_self, simprocAttr]; with_reducible rfl) ?_ | ((with_reducible refine chk_r ?_); refine r_callF (by simp only [CA, simprocAttr]; rfl) (by exact rfl) (by simp only [CA, simprocAttr]; rfl) rfl ?_) | ((with_reducible refine chk_r ?_); refine r_callP (by simp only [CA, simprocAttr]; rfl) (by simp only [CA, simprocAttr]; rfl) (by first | exact q _) rfl ?_) | (with_reducible refine k_condP (by simp only [GA, simprocAttr]; rfl) (by first | (simp only [BO]; rfl) | rfl) (fun ht => ?_) (fun ht => ?_) <;> try (first | exact False.elim ht | exact absurd rfl ht | exact absurd trivial ht | exact Bool.noConfusion ht)) | (with_reducible refine k_ret ?_; repeat with_reducible (first | refine ret_thru ?_ | refine ret_blk ?_ | refine fin ?_)) | (with_reducible refine k_exit ?_; repeat with_reducible (first | refine thru ?_ | refine out_blk ?_ | refine pass (by decide) ?_)) | ((first | refine post1 ?_ | refine post2 ?_ | refine post3 ?_); simp only [GA, simprocAttr]) | refine post0 ?_
    exact ⟨i + 1, by omega, (by simp only [Am.keep, List.map_cons, List.map_nil, GA, simprocAttr]; try rfl), by omega, by omega, e⟩
 ·obtain rfl : i = l.length := by omega
  have ilt' : ¬ (l.length : Int) < l.length := by omega
  rw [Nat.sub_self, frsG] at e
  rw [← e]
  repeat' first | (with_reducible first | refine k_seq ?_ | refine k_skip ?_ | refine k_blkS ?_ | refine k_blkR ?_ | refine k_blkC ?_ | refine k_blkH ?_ | refine k_blkB ?_ | refine k_blkK ?_ | refine k_blkE ?_ | refine k_reg ?_) | with_reducible refine r_done ?_ | with_reducible refine s_go (by simp (disch := omega) only [ilt', RG51, EVA, plug, eq_self, simprocAttr]; with_reducible rfl) ?_ | ((with_reducible refine chk_r ?_); refine r_callF (by simp only [CA, simprocAttr]; rfl) (by exact rfl) (by simp only [CA, simprocAttr]; rfl) rfl ?_) | (with_reducible refine k_condP (by simp only [GA, simprocAttr]; rfl) (by first | (simp only [BO]; rfl) | rfl) (fun ht => ?_) (fun ht => ?_) <;> try (first | exact False.elim ht | exact absurd rfl ht | exact absurd trivial ht | exact Bool.noConfusion ht)) | (with_reducible refine k_ret ?_; repeat with_reducible (first | refine ret_thru ?_ | refine ret_blk ?_ | refine fin ?_)) | (with_reducible refine k_exit ?_; repeat with_reducible (first | refine thru ?_ | refine out_blk ?_ | refine pass (by decide) ?_)) | ((first | refine post1 ?_ | refine post2 ?_ | refine post3 ?_); simp only [GA, simprocAttr]) | refine post0 ?_
  exact ends_nil2
theorem w51 (l : List Sz) (m : List Hd) (hlo : szsOk l = true) (hmo : hdsOk m = true) (k : Nat) (hk : k ≤ 100) (li : List Int) (ha : asc li) (hb : inB l.length li)
 (IH : ∀ k', k = k' + 1 → ∀ li, asc li → inB l.length li → PC Tryd.prog 51 [vZ l, vH m, vi li, .i .i64 (k' : Int)] (fsV l m k' li)) (h : AH) (ok : h.ok) (pos : 0 < h.nx) :
 W Tryd.prog 56 c51 (athen (Post q51 (Am.Ends (fsV l m k li))) (Fin (Post q51 (Am.Ends (fsV l m k li))))) [(0, vZ l), (1, vH m), (2, vi li), (3, .i .i64 (k : Int))] h := by
 have L := (szsOk_iff.1 hlo).1
 have lil := asc_len ha hb
 cases k with
 | zero =>
   have q := pc52 l m li hlo hmo (by omega) (pk_of_asc ha hb)
   have z := eq_true (show ((0 : Nat) : Int) = 0 from rfl)
   repeat' first | (with_reducible first | refine k_seq ?_ | refine k_skip ?_ | refine k_blkS ?_ | refine k_blkR ?_ | refine k_blkC ?_ | refine k_blkH ?_ | refine k_blkB ?_ | refine k_blkK ?_ | refine k_blkE ?_ | refine k_reg ?_) | with_reducible refine r_done ?_ | with_reducible refine s_go (by simp (disch := omega) only [z, RG51, EVA, plug, eq_self, simprocAttr]; with_reducible rfl) ?_ | ((with_reducible refine chk_r ?_); refine r_callF (by simp only [CA, simprocAttr]; rfl) (by exact rfl) (by simp only [CA, simprocAttr]; rfl) rfl ?_) | ((with_reducible refine chk_r ?_); refine r_callP (by simp only [CA, simprocAttr]; rfl) (by simp only [CA, simprocAttr]; rfl) (by first | exact q _) rfl ?_) | (with_reducible refine k_condP (by simp only [GA, simprocAttr]; rfl) (by first | (simp only [BO]; rfl) | rfl) (fun ht => ?_) (fun ht => ?_) <;> try (first | exact False.elim ht | exact absurd rfl ht | exact absurd trivial ht | exact Bool.noConfusion ht)) | (with_reducible refine k_ret ?_; repeat with_reducible (first | refine ret_thru ?_ | refine ret_blk ?_ | refine fin ?_)) | (with_reducible refine k_exit ?_; repeat with_reducible (first | refine thru ?_ | refine out_blk ?_ | refine pass (by decide) ?_)) | ((first | refine post1 ?_ | refine post2 ?_ | refine post3 ?_); simp only [GA, simprocAttr]) | refine post0 ?_
   all_goals first | exact ends_of | exact ends_eq rfl
 | succ k =>
   have zz := eq_false (show ¬ ((k + 1 : Nat) : Int) = 0 by omega)
   have R := fun h ok pos => lp51 l m L k (by omega) li ha hb (IH k rfl) h ok pos
   by_cases e : li.length = 0
   ·have e' := eq_false (show ¬ (0 : Int) < li.length by omega)
    rw [show frm li = 0 from if_pos e] at R
    repeat' first | (with_reducible first | refine k_seq ?_ | refine k_skip ?_ | refine k_blkS ?_ | refine k_blkR ?_ | refine k_blkC ?_ | refine k_blkH ?_ | refine k_blkB ?_ | refine k_blkK ?_ | refine k_blkE ?_ | refine k_reg ?_) | with_reducible refine r_done ?_ | with_reducible refine s_go (by simp (disch := omega) only [zz, e', RG51, EVA, plug, eq_self, simprocAttr]; with_reducible rfl) ?_ | ((with_reducible refine chk_r ?_); refine r_callF (by simp only [CA, simprocAttr]; rfl) (by exact rfl) (by simp only [CA, simprocAttr]; rfl) rfl ?_) | (with_reducible refine k_condP (by simp only [GA, simprocAttr]; rfl) (by first | (simp only [BO]; rfl) | rfl) (fun ht => ?_) (fun ht => ?_) <;> try (first | exact False.elim ht | exact absurd rfl ht | exact absurd trivial ht | exact Bool.noConfusion ht)) | (with_reducible refine k_ret ?_; repeat with_reducible (first | refine ret_thru ?_ | refine ret_blk ?_ | refine fin ?_)) | (with_reducible refine k_exit ?_; repeat with_reducible (first | refine thru ?_ | refine out_blk ?_ | refine pass (by decide) ?_)) | ((first | refine post1 ?_ | refine post2 ?_ | refine post3 ?_); simp only [GA, simprocAttr]) | refine post0 ?_
    refine w_keep [0, 1, 2, 3, 11] ?_; simp only [Am.keep, List.map_cons, List.map_nil, AX.val, St.get, Nat.reduceEqDiff, ↓reduceIte]
    exact w_ok fun ok pos => R _ ok pos
   ·have e' := eq_true (show (0 : Int) < li.length by omega)
    have m0 := hb _ (lastZ_in (l := li) fun q => e (by rw [q]; rfl))
    have w1 : IntKind.i64.wrap ((li.length : Int) - 1) = ((li.length - 1 : Nat) : Int) := by rw [show (li.length : Int) - 1 = ((li.length - 1 : Nat) : Int) by omega]; exact wrap64 (by omega) (by omega)
    have j0 : (0 : Int) ≤ ((li.length - 1 : Nat) : Int) := by omega
    have j1 : ((li.length - 1 : Nat) : Int) < li.length := by omega
    have g : (il li)[li.length - 1]? = some (.i .i64 (lastZ li)) := il_get (by omega)
    have w2 : IntKind.i64.wrap (lastZ li + 1) = ((frm li : Nat) : Int) := by
     unfold frm
     rw [if_neg e, Int.toNat_of_nonneg (by omega)]
     exact wrap64 (by omega) (by omega)
    generalize li.length - 1 = p at *
    generalize lastZ li = z at *
    repeat' first | (with_reducible first | refine k_seq ?_ | refine k_skip ?_ | refine k_blkS ?_ | refine k_blkR ?_ | refine k_blkC ?_ | refine k_blkH ?_ | refine k_blkB ?_ | refine k_blkK ?_ | refine k_blkE ?_ | refine k_reg ?_) | with_reducible refine r_done ?_ | with_reducible refine s_go (by simp (disch := omega) only [zz, e', w1, j0, j1, g, w2, RG51, EVA, plug, eq_self, simprocAttr]; with_reducible rfl) ?_ | ((with_reducible refine chk_r ?_); refine r_callF (by simp only [CA, simprocAttr]; rfl) (by exact rfl) (by simp only [CA, simprocAttr]; rfl) rfl ?_) | (with_reducible refine k_condP (by simp only [GA, simprocAttr]; rfl) (by first | (simp only [BO]; rfl) | rfl) (fun ht => ?_) (fun ht => ?_) <;> try (first | exact False.elim ht | exact absurd rfl ht | exact absurd trivial ht | exact Bool.noConfusion ht)) | (with_reducible refine k_ret ?_; repeat with_reducible (first | refine ret_thru ?_ | refine ret_blk ?_ | refine fin ?_)) | (with_reducible refine k_exit ?_; repeat with_reducible (first | refine thru ?_ | refine out_blk ?_ | refine pass (by decide) ?_)) | ((first | refine post1 ?_ | refine post2 ?_ | refine post3 ?_); simp only [GA, simprocAttr]) | refine post0 ?_
    refine w_keep [0, 1, 2, 3, 11] ?_; simp only [Am.keep, List.map_cons, List.map_nil, AX.val, St.get, Nat.reduceEqDiff, ↓reduceIte]
    exact w_ok fun ok pos => R _ ok pos
theorem d51 (l : List Sz) (m : List Hd) (hlo : szsOk l = true) (hmo : hdsOk m = true) : ∀ (k : Nat), k ≤ 100 → ∀ li, asc li → inB l.length li → PC Tryd.prog 51 [vZ l, vH m, vi li, .i .i64 (k : Int)] (fsV l m k li) := fun k => by
 induction k with
 | zero =>
   intro hk li ha hb
   refine pc_fn fn51 (by simp only [AV.plains, AV.plain, il_plain, bl_plain, Bool.and_true, Bool.true_and, Bool.and_self, fleZ_plain, fleH_plain, il_plain]) (by simp only [AV.plains, AV.plain, il_plain, bl_plain, Bool.and_true, Bool.true_and, Bool.and_self, fleZ_plain, fleH_plain, il_plain]) (Nat.le_of_ble_eq_true rfl) ?_
   rw [initSt4]
   exact w_ok fun ok pos => w51 l m hlo hmo 0 hk li ha hb (fun k' q => by omega) _ ok pos
 | succ k ih =>
   intro hk li ha hb
   refine pc_fn fn51 (by simp only [AV.plains, AV.plain, il_plain, bl_plain, Bool.and_true, Bool.true_and, Bool.and_self, fleZ_plain, fleH_plain, il_plain]) (by simp only [AV.plains, AV.plain, il_plain, bl_plain, Bool.and_true, Bool.true_and, Bool.and_self, fleZ_plain, fleH_plain, il_plain]) (Nat.le_of_ble_eq_true rfl) ?_
   rw [initSt4]
   exact w_ok fun ok pos => w51 l m hlo hmo (k + 1) hk li ha hb (fun k' q => by obtain rfl : k = k' := by omega
                                                                                exact ih (by omega)) _ ok pos
theorem n51 (l : List Sz) (m : List Hd) (hlo : szsOk l = true) (hmo : hdsOk m = true) (k : Nat) (hk : k ≤ 100) (h : AH) : ACalls Tryd.prog 51 [vZ l, vH m, .sl 0 0 0 0, .i .i64 (k : Int)] h fun r h' => r = fsV l m k [] ∧ h' = h := by
 refine pure_callV (by simp only [AV.plains, AV.plain, il_plain, bl_plain, Bool.and_true, Bool.true_and, Bool.and_self, il_plain]) fun h0 hr _ => ?_
 refine a_fn fn51 (by simp) fun ok pos => ?_
 rw [initSt4]
 refine w_nilS 2 rfl ?_
 refine w_keep [0, 1, 2, 3] ?_; simp only [Am.keep, List.map_cons, List.map_nil, AX.val, St.get, Nat.reduceEqDiff, ↓reduceIte]
 exact w_ok fun ok pos => w51 l m hlo hmo k hk [] List.Pairwise.nil (fun x hx => by simp at hx) (fun k' q => d51 l m hlo hmo k' (by omega)) _ ok pos
theorem RG19 : (type_of% @c19r0.eq_1) ∧ (type_of% @c19r1.eq_1) ∧ (type_of% @c19r2.eq_1) ∧ (type_of% @c19r3.eq_1) ∧ (type_of% @c19r4.eq_1) ∧ (type_of% @c19r5.eq_1) ∧ (type_of% @c19r6.eq_1) ∧ (type_of% @c19r7.eq_1) ∧ (type_of% @c19r8.eq_1) ∧ (type_of% @c19r9.eq_1) ∧ (type_of% @c19r10.eq_1) ∧ (type_of% @c19r11.eq_1) ∧ (type_of% @c19r13.eq_1) := ⟨@c19r0.eq_1, @c19r1.eq_1, @c19r2.eq_1, @c19r3.eq_1, @c19r4.eq_1, @c19r5.eq_1, @c19r6.eq_1, @c19r7.eq_1, @c19r8.eq_1, @c19r9.eq_1, @c19r10.eq_1, @c19r11.eq_1, @c19r13.eq_1⟩
set_option maxHeartbeats 1000000 in
theorem d19 (l : List Sz) (m : List Hd) (hl : l.length ≤ 9223372036854775807) (hm : m.length ≤ 9223372036854775807) : PC Tryd.prog 19 [vZ l, vH m] (.tu [vi (cvrR l m).1, .i .i64 (cvrR l m).2]) := by
 have q1 := pc50 l m hl hm
 unfold cvrR
 refine pc_fn fn19 (by simp only [AV.plains, AV.plain, il_plain, bl_plain, Bool.and_true, Bool.true_and, Bool.and_self, fleZ_plain, fleH_plain, il_plain]) (by simp only [AV.plains, AV.plain, il_plain, bl_plain, Bool.and_true, Bool.true_and, Bool.and_self, fleZ_plain, fleH_plain, il_plain]) (Nat.le_of_ble_eq_true rfl) ?_
 rw [initSt2]
 by_cases c : chk l m = 0
 ·rw [if_neg (by simp [c])]
  rw [c] at q1
  by_cases c12 : 12 < l.length
  ·rw [if_pos c12]
   have c12' := eq_true (show (12 : Int) < l.length by omega)
   repeat' first | (with_reducible first | refine k_seq ?_ | refine k_skip ?_ | refine k_blkS ?_ | refine k_blkR ?_ | refine k_blkC ?_ | refine k_blkH ?_ | refine k_blkB ?_ | refine k_blkK ?_ | refine k_blkE ?_ | refine k_reg ?_) | with_reducible refine r_done ?_ | with_reducible refine s_go (by simp (disch := omega) only [c12', RG19, EVA, plug, eq_self, simprocAttr]; with_reducible rfl) ?_ | ((with_reducible refine chk_r ?_); refine r_callF (by simp only [CA, simprocAttr]; rfl) (by exact rfl) (by simp only [CA, simprocAttr]; rfl) rfl ?_) | ((with_reducible refine chk_r ?_); refine r_callP (by simp only [CA, simprocAttr]; rfl) (by simp only [CA, simprocAttr]; rfl) (by first | exact q1 _) rfl ?_) | (with_reducible refine k_condP (by simp only [GA, simprocAttr]; rfl) (by first | (simp only [BO]; rfl) | rfl) (fun ht => ?_) (fun ht => ?_) <;> try (first | exact False.elim ht | exact absurd rfl ht | exact absurd trivial ht | exact Bool.noConfusion ht)) | (with_reducible refine k_ret ?_; repeat with_reducible (first | refine ret_thru ?_ | refine ret_blk ?_ | refine fin ?_)) | (with_reducible refine k_exit ?_; repeat with_reducible (first | refine thru ?_ | refine out_blk ?_ | refine pass (by decide) ?_)) | ((first | refine post1 ?_ | refine post2 ?_ | refine post3 ?_); simp only [GA, simprocAttr]) | refine post0 ?_
   exact ends_nil2
  ·rw [if_neg c12]
   have c12' := eq_false (show ¬ (12 : Int) < l.length by omega)
   rw [cvN_frN (by omega)]
   generalize hR : frN (cvsB l m) l.length (l.length + 1) 0 = R
   have ok1 := chk_ok c
   repeat' first | (with_reducible first | refine k_seq ?_ | refine k_skip ?_ | refine k_blkS ?_ | refine k_blkR ?_ | refine k_blkC ?_ | refine k_blkH ?_ | refine k_blkB ?_ | refine k_blkK ?_ | refine k_blkE ?_ | refine k_reg ?_) | with_reducible refine r_done ?_ | with_reducible refine s_go (by simp (disch := omega) only [c12', RG19, EVA, plug, eq_self, simprocAttr]; with_reducible rfl) ?_ | ((with_reducible refine chk_r ?_); refine r_callF (by simp only [CA, simprocAttr]; rfl) (by exact rfl) (by simp only [CA, simprocAttr]; rfl) rfl ?_) | ((with_reducible refine chk_r ?_); refine r_callP (by simp only [CA, simprocAttr]; rfl) (by simp only [CA, simprocAttr]; rfl) (by first | exact q1 _) rfl ?_) | (with_reducible refine k_condP (by simp only [GA, simprocAttr]; rfl) (by first | (simp only [BO]; rfl) | rfl) (fun ht => ?_) (fun ht => ?_) <;> try (first | exact False.elim ht | exact absurd rfl ht | exact absurd trivial ht | exact Bool.noConfusion ht)) | (with_reducible refine k_ret ?_; repeat with_reducible (first | refine ret_thru ?_ | refine ret_blk ?_ | refine fin ?_)) | (with_reducible refine k_exit ?_; repeat with_reducible (first | refine thru ?_ | refine out_blk ?_ | refine pass (by decide) ?_)) | ((first | refine post1 ?_ | refine post2 ?_ | refine post3 ?_); simp only [GA, simprocAttr]) | refine post0 ?_
   refine k_blk (k_loopW (X := Nat) [0, 1, 7] (fun k => [(0, vZ l), (1, vH m), (7, .i .i64 (k : Int))]) (fun k => l.length + 1 - k) (fun k h => k ≤ l.length + 1 ∧ frN (cvsB l m) l.length (l.length + 1 - k) k = R) 0 (by simp only [Am.keep, List.map_cons, List.map_nil, GA, simprocAttr]; try rfl) ⟨Nat.zero_le _, hR⟩ ?_)
   rintro k h ⟨hk, e⟩ ok pos
   by_cases klt : k ≤ l.length
   ·have klt' := eq_true (show (k : Int) ≤ l.length by omega)
    have q := n51 l m ok1.1 ok1.2 k (by omega)
    have w2 : IntKind.i64.wrap ((k : Int) + 1) = ((k + 1 : Nat) : Int) := by rw [show (k : Int) + 1 = ((k + 1 : Nat) : Int) by omega]; exact wrap64 (by omega) (by omega)
    rw [show l.length + 1 - k = (l.length + 1 - (k + 1)) + 1 by omega, frN] at e
    unfold fsV at q
    generalize (frsL (cvsB l m) l.length k []).1 = o at *
    generalize (frsL (cvsB l m) l.length k []).2 = b at *
    cases b with
    | true =>
      rw [if_pos rfl] at e
      rw [← e]
      repeat' first | (with_reducible first | refine k_seq ?_ | refine k_skip ?_ | refine k_blkS ?_ | refine k_blkR ?_ | refine k_blkC ?_ | refine k_blkH ?_ | refine k_blkB ?_ | refine k_blkK ?_ | refine k_blkE ?_ | refine k_reg ?_) | with_reducible refine r_done ?_ | with_reducible refine s_go (by simp (disch := omega) only [klt', RG19, EVA, plug, eq_self, simprocAttr]; with_reducible rfl) ?_ | ((with_reducible refine chk_r ?_); refine r_callF (by simp only [CA, simprocAttr]; rfl) (by exact rfl) (by simp only [CA, simprocAttr]; rfl) rfl ?_) | ((with_reducible refine chk_r ?_); refine r_callP (by simp only [CA, simprocAttr]; rfl) (by simp only [CA, simprocAttr]; rfl) (by first | exact q _) rfl ?_) | (with_reducible refine k_condP (by simp only [GA, simprocAttr]; rfl) (by first | (simp only [BO]; rfl) | rfl) (fun ht => ?_) (fun ht => ?_) <;> try (first | exact False.elim ht | exact absurd rfl ht | exact absurd trivial ht | exact Bool.noConfusion ht)) | (with_reducible refine k_ret ?_; repeat with_reducible (first | refine ret_thru ?_ | refine ret_blk ?_ | refine fin ?_)) | (with_reducible refine k_exit ?_; repeat with_reducible (first | refine thru ?_ | refine out_blk ?_ | refine pass (by decide) ?_)) | ((first | refine post1 ?_ | refine post2 ?_ | refine post3 ?_); simp only [GA, simprocAttr]) | refine post0 ?_
      all_goals first | exact ends_of | exact ends_eq rfl
    | false =>
      rw [if_neg (by simp)] at e
      repeat' first | (with_reducible first | refine k_seq ?_ | refine k_skip ?_ | refine k_blkS ?_ | refine k_blkR ?_ | refine k_blkC ?_ | refine k_blkH ?_ | refine k_blkB ?_ | refine k_blkK ?_ | refine k_blkE ?_ | refine k_reg ?_) | with_reducible refine r_done ?_ | with_reducible refine s_go (by simp (disch := omega) only [klt', w2, RG19, EVA, plug, eq_self, simprocAttr]; with_reducible rfl) ?_ | ((with_reducible refine chk_r ?_); refine r_callF (by simp only [CA, simprocAttr]; rfl) (by exact rfl) (by simp only [CA, simprocAttr]; rfl) rfl ?_) | ((with_reducible refine chk_r ?_); refine r_callP (by simp only [CA, simprocAttr]; rfl) (by simp only [CA, simprocAttr]; rfl) (by first | exact q _) rfl ?_) | (with_reducible refine k_condP (by simp only [GA, simprocAttr]; rfl) (by first | (simp only [BO]; rfl) | rfl) (fun ht => ?_) (fun ht => ?_) <;> try (first | exact False.elim ht | exact absurd rfl ht | exact absurd trivial ht | exact Bool.noConfusion ht)) | (with_reducible refine k_ret ?_; repeat with_reducible (first | refine ret_thru ?_ | refine ret_blk ?_ | refine fin ?_)) | (with_reducible refine k_exit ?_; repeat with_reducible (first | refine thru ?_ | refine out_blk ?_ | refine pass (by decide) ?_)) | ((first | refine post1 ?_ | refine post2 ?_ | refine post3 ?_); simp only [GA, simprocAttr]) | refine post0 ?_
      exact ⟨k + 1, by omega, (by simp only [Am.keep, List.map_cons, List.map_nil, GA, simprocAttr]; try rfl), by omega, e⟩
   ·obtain rfl : k = l.length + 1 := by omega
    have klt' := eq_false (show ¬ ((l.length + 1 : Nat) : Int) ≤ l.length by omega)
    rw [Nat.sub_self, frN] at e
    rw [← e]
    repeat' first | (with_reducible first | refine k_seq ?_ | refine k_skip ?_ | refine k_blkS ?_ | refine k_blkR ?_ | refine k_blkC ?_ | refine k_blkH ?_ | refine k_blkB ?_ | refine k_blkK ?_ | refine k_blkE ?_ | refine k_reg ?_) | with_reducible refine r_done ?_ | with_reducible refine s_go (by simp (disch := omega) only [klt', RG19, EVA, plug, eq_self, simprocAttr]; with_reducible rfl) ?_ | ((with_reducible refine chk_r ?_); refine r_callF (by simp only [CA, simprocAttr]; rfl) (by exact rfl) (by simp only [CA, simprocAttr]; rfl) rfl ?_) | (with_reducible refine k_condP (by simp only [GA, simprocAttr]; rfl) (by first | (simp only [BO]; rfl) | rfl) (fun ht => ?_) (fun ht => ?_) <;> try (first | exact False.elim ht | exact absurd rfl ht | exact absurd trivial ht | exact Bool.noConfusion ht)) | (with_reducible refine k_ret ?_; repeat with_reducible (first | refine ret_thru ?_ | refine ret_blk ?_ | refine fin ?_)) | (with_reducible refine k_exit ?_; repeat with_reducible (first | refine thru ?_ | refine out_blk ?_ | refine pass (by decide) ?_)) | ((first | refine post1 ?_ | refine post2 ?_ | refine post3 ?_); simp only [GA, simprocAttr]) | refine post0 ?_
    exact ends_nil2
 ·have c' := eq_false c
  rw [if_pos c]
  repeat' first | (with_reducible first | refine k_seq ?_ | refine k_skip ?_ | refine k_blkS ?_ | refine k_blkR ?_ | refine k_blkC ?_ | refine k_blkH ?_ | refine k_blkB ?_ | refine k_blkK ?_ | refine k_blkE ?_ | refine k_reg ?_) | with_reducible refine r_done ?_ | with_reducible refine s_go (by simp (disch := omega) only [c', RG19, EVA, plug, eq_self, simprocAttr]; with_reducible rfl) ?_ | ((with_reducible refine chk_r ?_); refine r_callF (by simp only [CA, simprocAttr]; rfl) (by exact rfl) (by simp only [CA, simprocAttr]; rfl) rfl ?_) | ((with_reducible refine chk_r ?_); refine r_callP (by simp only [CA, simprocAttr]; rfl) (by simp only [CA, simprocAttr]; rfl) (by first | exact q1 _) rfl ?_) | (with_reducible refine k_condP (by simp only [GA, simprocAttr]; rfl) (by first | (simp only [BO]; rfl) | rfl) (fun ht => ?_) (fun ht => ?_) <;> try (first | exact False.elim ht | exact absurd rfl ht | exact absurd trivial ht | exact Bool.noConfusion ht)) | (with_reducible refine k_ret ?_; repeat with_reducible (first | refine ret_thru ?_ | refine ret_blk ?_ | refine fin ?_)) | (with_reducible refine k_exit ?_; repeat with_reducible (first | refine thru ?_ | refine out_blk ?_ | refine pass (by decide) ?_)) | ((first | refine post1 ?_ | refine post2 ?_ | refine post3 ?_); simp only [GA, simprocAttr]) | refine post0 ?_
  exact ends_nil2
end Go.Proofs.YtjaihaccehaicaaDoor
set_option linter.unusedVariables false
set_option linter.unusedSimpArgs false
namespace Go.Proofs.YtjaihaccehaicaaDoor
open Go Go.Am Go.Proofs
def an (x y : Nat) : Nat := x ^^^ (x &&& y)
theorem an_bit {x y i : Nat} : (an x y).testBit i = (x.testBit i && !y.testBit i) := by
 unfold an
 rw [Nat.testBit_xor, Nat.testBit_and]
 cases x.testBit i <;> cases y.testBit i <;> rfl
theorem an_lt {x y n : Nat} (h : x < 2 ^ n) : an x y < 2 ^ n := Nat.lt_pow_two_of_testBit _ fun i hi => by
 rw [an_bit, Nat.testBit_lt_two_pow (Nat.lt_of_lt_of_le h (Nat.pow_le_pow_right (by omega) hi))]; rfl
theorem andnot_64 {x y : Nat} (hx : x < 2 ^ 64) (hy : y < 2 ^ 64) : abits .andNot .u64 (x : Int) (y : Int) = ((an x y : Nat) : Int) := by
 have e : (BitVec.ofInt 64 (x : Int) &&& ~~~ BitVec.ofInt 64 (y : Int)).toNat = an x y := by
  refine Nat.eq_of_testBit_eq fun i => ?_
  rw [BitVec.testBit_toNat, BitVec.getLsbD_and, BitVec.getLsbD_not, an_bit, ← BitVec.testBit_toNat, ← BitVec.testBit_toNat, toNat_64 hx, toNat_64 hy]
  by_cases hi : i < 64
  ·simp [hi]
  ·rw [Nat.testBit_lt_two_pow (Nat.lt_of_lt_of_le hx (Nat.pow_le_pow_right (by omega) (Nat.le_of_not_lt hi)))]; simp
 show IntKind.u64.wrap ((BitVec.ofInt 64 (x : Int) &&& ~~~ BitVec.ofInt 64 (y : Int)).toNat : Int) = _
 rw [e]
 exact wrapN (an_lt hx)
def cB (x : Nat) : Nat → Nat
 | 0 => 0
 | k + 1 => cB x k + if x.testBit k = true then 1 else 0
theorem cB_half (x : Nat) : ∀ k, cB x (k + 1) = x % 2 + cB (x / 2) k
 | 0 => by
   simp only [cB, Nat.zero_add, Nat.add_zero, Nat.testBit_zero, decide_eq_true_eq]
   split <;> omega
 | k + 1 => by
   rw [cB, cB_half x k, cB, Nat.testBit_succ, Nat.add_assoc]
theorem popA_cB : ∀ (m x : Nat), popA m x = cB x m
 | 0, x => rfl
 | m + 1, x => by rw [popA, cB_half, popA_cB m]
theorem cB_low {x n : Nat} (h : x < 2 ^ n) : ∀ k, cB x (n + k) = cB x n
 | 0 => rfl
 | k + 1 => by
   rw [← Nat.add_assoc, cB, cB_low h k, Nat.testBit_lt_two_pow (Nat.lt_of_lt_of_le h (Nat.pow_le_pow_right (by omega) (by omega)))]
   rfl
theorem pop_cB {x n : Nat} (h : x < 2 ^ n) (hn : n ≤ 64) : popA 64 x = cB x n := by
 rw [popA_cB, show 64 = n + (64 - n) by omega, cB_low h]
theorem cB_le {x y : Nat} (h : ∀ i, y.testBit i = true → x.testBit i = true) : ∀ k, cB y k ≤ cB x k
 | 0 => Nat.le_refl _
 | k + 1 => by
   have ih := cB_le h k
   rw [cB, cB]
   by_cases c : y.testBit k = true
   ·rw [if_pos c, if_pos (h k c)]; omega
   ·rw [if_neg c]; omega
theorem cB_bd (x : Nat) : ∀ k, cB x k ≤ k
 | 0 => Nat.le_refl _
 | k + 1 => by
   have := cB_bd x k
   rw [cB]; split <;> omega
theorem cB_lt {x y i : Nat} (h : ∀ i, y.testBit i = true → x.testBit i = true) (hx : x.testBit i = true) (hy : y.testBit i = false) : ∀ {k : Nat}, i < k → cB y k < cB x k
 | k + 1, hk => by
   rw [cB, cB]
   by_cases e : i = k
   ·subst e
    have := cB_le h i
    rw [hx, hy]
    simp only [if_true]
    simp
    omega
   ·have ih := cB_lt h hx hy (k := k) (by omega)
    by_cases c : y.testBit k = true
    ·rw [if_pos c, if_pos (h k c)]; omega
    ·rw [if_neg c]; omega
theorem pop_an {x y : Nat} (h : 0 < popA 64 (y &&& x)) : popA 64 (an x y) < popA 64 x := by
 obtain ⟨i, hi, b⟩ := pop_one.1 h
 rw [Nat.testBit_and, Bool.and_eq_true] at b
 rw [popA_cB, popA_cB]
 exact cB_lt (fun j q => by rw [an_bit, Bool.and_eq_true] at q; exact q.1) b.2 (by rw [an_bit, b.1]; simp) hi
section
variable (l : List Sz) (m : List Hd)
def cnt (left i : Nat) : Nat := popA 64 (fitS m (zD l i) &&& left)
def gbS (left : Nat) : Nat → Int
 | 0 => -1
 | k + 1 => if 0 < cnt l m left k ∧ (gbS left k < 0 ∨ cnt l m left (gbS left k).toNat < cnt l m left k) then (k : Int) else gbS left k
def rbS (left : Nat) : Nat → Int × Int
 | 0 => (0, 0)
 | k + 1 => if (rbS left k).2 < cnt l m left k then ((k : Int), (cnt l m left k : Int)) else rbS left k
def grN : Nat → Nat → List Int → List Int × Int
 | 0, _, _ => ([], 32)
 | t + 1, left, out => if left = 0 then (out, 0) else if gbS l m left l.length < 0 then ([], 32) else
     grN t (an left (fitS m (zD l (gbS l m left l.length).toNat))) (out ++ [gbS l m left l.length])
def grR : List Int × Int := if chk l m ≠ 0 then ([], chk l m) else grN l m (m.length + 1) (2 ^ m.length - 1) []
end
theorem gb_rb {l : List Sz} {m : List Hd} {left : Nat} : ∀ {k : Nat}, (gbS l m left k = -1 ∧ rbS l m left k = (0, 0) ∧ ∀ i, i < k → cnt l m left i = 0) ∨ ∃ b : Nat, gbS l m left k = b ∧ b < k ∧ 0 < cnt l m left b ∧ rbS l m left k = ((b : Int), (cnt l m left b : Int))
 | 0 => .inl ⟨rfl, rfl, fun i hi => by omega⟩
 | k + 1 => by
   rw [gbS, rbS]
   rcases gb_rb (l := l) (m := m) (left := left) (k := k) with ⟨h1, h2, h3⟩ | ⟨b, h1, h2, h3, h4⟩
   ·rw [h1, h2]
    by_cases c : 0 < cnt l m left k
    ·rw [if_pos ⟨c, .inl (by omega)⟩, if_pos (by simp only; omega)]
     exact .inr ⟨k, rfl, by omega, c, rfl⟩
    ·rw [if_neg fun q => c q.1, if_neg (by simp only; omega)]
     refine .inl ⟨rfl, rfl, fun i hi => ?_⟩
     by_cases e : i = k
     ·subst e; omega
     ·exact h3 i (by omega)
   ·rw [h1, h4, Int.toNat_natCast]
    by_cases c : cnt l m left b < cnt l m left k
    ·rw [if_pos ⟨by omega, .inr c⟩, if_pos (by simp only; omega)]
     exact .inr ⟨k, rfl, by omega, by omega, rfl⟩
    ·rw [if_neg fun q => q.2.elim (by omega) c, if_neg (by simp only; omega)]
     exact .inr ⟨b, rfl, by omega, h3, rfl⟩
structure GI (l : List Sz) (m : List Hd) (left : Nat) (out : List Int) : Prop where
 lt : left < 2 ^ m.length
 bit : ∀ j, j < m.length → (left.testBit j = true ↔ cvdB l (hD m j) out = false)
 pk : pkOk out l.length = true
theorem cvd_iff {l : List Sz} {x : Hd} {li : List Int} : cvdB l x li = true ↔ ∃ i ∈ li, fitB (zD l i.toNat) x = true := anyZ_iff
theorem GI.start (l : List Sz) (m : List Hd) : GI l m (2 ^ m.length - 1) [] where
 lt := by have := Nat.two_pow_pos m.length; omega
 bit j hj := by
  rw [Nat.testBit_two_pow_sub_one, decide_eq_true hj]
  exact ⟨fun _ => by rw [Bool.eq_false_iff]; intro q; obtain ⟨i, hi, _⟩ := cvd_iff.1 q; simp at hi, fun _ => rfl⟩
 pk := pkOk_iff.2 fun j hj => by simp at hj
theorem GI.zero {l : List Sz} {m : List Hd} {left : Nat} {out : List Int} (h : GI l m left out) : cvsB l m out = true ↔ left = 0 := by
 unfold cvsB
 rw [decide_eq_true_eq]
 constructor
 ·intro c
  refine Nat.eq_of_testBit_eq fun i => ?_
  rw [Nat.zero_testBit]
  by_cases hi : i < m.length
  ·rw [Bool.eq_false_iff]
   intro q
   have := (h.bit i hi).1 q
   rw [c i hi] at this; cases this
  ·exact Nat.testBit_lt_two_pow (Nat.lt_of_lt_of_le h.lt (Nat.pow_le_pow_right (by omega) (by omega)))
 ·rintro rfl k hk
  cases q : cvdB l (hD m k) out with
  | true => rfl
  | false => have := (h.bit k hk).2 q; simp at this
theorem lN_snoc {out : List Int} {b : Int} {j : Nat} : lN (out ++ [b]) j = if j < out.length then lN out j else if j = out.length then b else 0 := by
 unfold lN
 rw [List.getD_eq_getElem?_getD, List.getD_eq_getElem?_getD, List.getElem?_append]
 split
 ·rfl
 ·split
  ·rename_i h; subst h; simp
  ·rw [List.getElem?_eq_none (by simp; omega)]; rfl
theorem GI.step {l : List Sz} {m : List Hd} {left : Nat} {out : List Int} (h : GI l m left out) {b : Nat} (hb : b < l.length) (hc : 0 < cnt l m left b) : GI l m (an left (fitS m (zD l b))) (out ++ [(b : Int)]) where
 lt := an_lt h.lt
 bit j hj := by
  rw [an_bit, Bool.and_eq_true, h.bit j hj, Bool.not_eq_true', ← Bool.not_eq_true (Nat.testBit _ _), fitS_bit]
  rw [← Bool.not_eq_true, ← Bool.not_eq_true, cvd_iff, cvd_iff]
  simp only [List.mem_append, List.mem_singleton]
  constructor
  ·rintro ⟨h1, h2⟩ ⟨i, hi | rfl, q⟩
   ·exact h1 ⟨i, hi, q⟩
   ·exact h2 ⟨hj, by rw [Int.toNat_natCast] at q; exact q⟩
  ·intro q
   exact ⟨fun ⟨i, hi, r⟩ => q ⟨i, .inl hi, r⟩, fun ⟨_, r⟩ => q ⟨b, .inr rfl, by rw [Int.toNat_natCast]; exact r⟩⟩
 pk := by
  have P := pkOk_iff.1 h.pk
  obtain ⟨j, hj, q⟩ := pop_one.1 hc
  rw [Nat.testBit_and, Bool.and_eq_true, fitS_bit] at q
  have nc := (h.bit j q.1.1).1 q.2
  rw [← Bool.not_eq_true, cvd_iff] at nc
  have ne : ∀ i, i < out.length → lN out i ≠ b := fun i hi e => nc ⟨lN out i, by
   unfold lN
   rw [List.getD_eq_getElem?_getD, List.getElem?_eq_getElem hi]; exact List.getElem_mem hi, by rw [e, Int.toNat_natCast]; exact q.1.2⟩
  rw [pkOk_iff]
  intro k hk
  rw [List.length_append, List.length_singleton] at hk
  rw [lN_snoc]
  by_cases e : k < out.length
  ·rw [if_pos e]
   refine ⟨(P k e).1, fun i hi => ?_⟩
   rw [lN_snoc, if_pos (by omega)]
   exact (P k e).2 i hi
  ·obtain rfl : k = out.length := by omega
   rw [if_neg e, if_pos rfl]
   refine ⟨by omega, fun i hi => ?_⟩
   rw [lN_snoc, if_pos hi]
   exact ne i hi
theorem gr_stuck {l : List Sz} {m : List Hd} {j : Nat} (hj : ∀ i, i < l.length → (fitS m (zD l i)).testBit j = false) : ∀ {t left : Nat} {out : List Int}, left.testBit j = true → grN l m t left out = ([], 32)
 | 0, left, out, h => rfl
 | t + 1, left, out, h => by
   rw [grN]
   have l0 : left ≠ 0 := fun e => by rw [e] at h; simp at h
   rw [if_neg l0]
   rcases gb_rb (l := l) (m := m) (left := left) (k := l.length) with ⟨h1, h2, h3⟩ | ⟨b, h1, h2, h3, h4⟩
   ·rw [if_pos (by omega)]
   ·rw [if_neg (by omega)]
    refine gr_stuck hj ?_
    rw [h1, Int.toNat_natCast, an_bit, h, hj b h2]
    rfl
def rngI (n : Nat) : List Int := (List.range n).map fun i : Nat => (i : Int)
theorem rngI_asc (n : Nat) : asc (rngI n) ∧ inB n (rngI n) := by
 refine ⟨?_, fun x hx => ?_⟩
 ·unfold asc rngI
  rw [List.pairwise_map]
  exact List.pairwise_lt_range.imp fun q => by omega
 ·obtain ⟨i, hi, rfl⟩ := List.mem_map.1 hx
  have := List.mem_range.1 hi
  omega
theorem rngI_succ (n : Nat) : rngI (n + 1) = rngI n ++ [(n : Int)] := by simp [rngI, List.range_succ]
theorem rngI_len (n : Nat) : (rngI n).length = n := by simp [rngI]
theorem all_iff {l : List Sz} {m : List Hd} : cvsB l m (rngI l.length) = true ↔ ∀ j, j < m.length → ∃ i, i < l.length ∧ (fitS m (zD l i)).testBit j = true := by
 unfold cvsB
 rw [decide_eq_true_eq]
 refine forall_congr' fun j => forall_congr' fun hj => ?_
 rw [cvd_iff]
 constructor
 ·rintro ⟨x, hx, q⟩
  obtain ⟨i, hi, rfl⟩ := List.mem_map.1 hx
  rw [Int.toNat_natCast] at q
  exact ⟨i, List.mem_range.1 hi, fitS_bit.2 ⟨hj, q⟩⟩
 ·rintro ⟨i, hi, q⟩
  exact ⟨i, List.mem_map.2 ⟨i, List.mem_range.2 hi, rfl⟩, by rw [Int.toNat_natCast]; exact (fitS_bit.1 q).2⟩
theorem pop_whole {n : Nat} (hn : n ≤ 64) : popA 64 (2 ^ n - 1) ≤ n := by
 rw [pop_cB (n := n) (by have := Nat.two_pow_pos n; omega) hn]
 exact cB_bd _ _
end Go.Proofs.YtjaihaccehaicaaDoor
set_option linter.unusedVariables false
set_option linter.unusedSimpArgs false
namespace Go.Proofs.YtjaihaccehaicaaDoor
open Go Go.Am Go.Proofs
theorem cnt_pc {l : List Sz} {m : List Hd} (hm : m.length ≤ 40) {left k : Nat} (hl : left < 2 ^ m.length) :
 abits .and .u64 ((fitS m (zD l k) : Nat) : Int) (left : Int) = ((fitS m (zD l k) &&& left : Nat) : Int) ∧ PC Tryd.prog 52 [.i .u64 ((fitS m (zD l k) &&& left : Nat) : Int)] (.i .i64 (cnt l m left k : Nat)) :=
 ⟨and_64 (lt_64 (fitS_lt (m := m)) hm) (lt_64 hl hm), pc49 _ (Nat.and_lt_two_pow _ (lt_64 hl hm))⟩
theorem RG20 : (type_of% @c20r0.eq_1) ∧ (type_of% @c20r1.eq_1) ∧ (type_of% @c20r2.eq_1) ∧ (type_of% @c20r3.eq_1) ∧ (type_of% @c20r4.eq_1) ∧ (type_of% @c20r5.eq_1) ∧ (type_of% @c20r6.eq_1) ∧ (type_of% @c20r7.eq_1) ∧ (type_of% @c20r8.eq_1) ∧ (type_of% @c20r9.eq_1) ∧ (type_of% @c20r10.eq_1) ∧ (type_of% @c20r11.eq_1) ∧ (type_of% @c20r12.eq_1) ∧ (type_of% @c20r13.eq_1) ∧ (type_of% @c20r14.eq_1) ∧ (type_of% @c20r16.eq_1) ∧ (type_of% @c20r17.eq_1) ∧ (type_of% @c20r18.eq_1) ∧ (type_of% @c20r19.eq_1) ∧ (type_of% @c20r21.eq_1) := ⟨@c20r0.eq_1, @c20r1.eq_1, @c20r2.eq_1, @c20r3.eq_1, @c20r4.eq_1, @c20r5.eq_1, @c20r6.eq_1, @c20r7.eq_1, @c20r8.eq_1, @c20r9.eq_1, @c20r10.eq_1, @c20r11.eq_1, @c20r12.eq_1, @c20r13.eq_1, @c20r14.eq_1, @c20r16.eq_1, @c20r17.eq_1, @c20r18.eq_1, @c20r19.eq_1, @c20r21.eq_1⟩
set_option maxHeartbeats 2000000 in
theorem d20 (l : List Sz) (m : List Hd) (hl : l.length ≤ 9223372036854775807) (hm : m.length ≤ 9223372036854775807) : PC Tryd.prog 20 [vZ l, vH m] (.tu [vi (grR l m).1, .i .i64 (grR l m).2]) := by
 have q1 := pc41 l m hl hm
 unfold grR
 refine pc_fn fn20 (by simp only [AV.plains, AV.plain, il_plain, bl_plain, Bool.and_true, Bool.true_and, Bool.and_self, fleZ_plain, fleH_plain, il_plain]) (by simp only [AV.plains, AV.plain, il_plain, bl_plain, Bool.and_true, Bool.true_and, Bool.and_self, fleZ_plain, fleH_plain, il_plain]) (Nat.le_of_ble_eq_true rfl) ?_
 rw [initSt2]
 by_cases c : chk l m = 0
 ·rw [if_neg (by simp [c])]
  rw [c] at q1
  have q3 := pc48 l m (chk_ok c).1 (chk_ok c).2
  have L := (szsOk_iff.1 (chk_ok c).1).1
  have M := (hdsOk_iff.1 (chk_ok c).2).1
  have sh1 := shl_64 (k := m.length) (by omega)
  have p1 : 0 < 2 ^ m.length := Nat.two_pow_pos _
  have p2 : 2 ^ m.length ≤ 2 ^ 40 := Nat.pow_le_pow_right (by omega) M
  have w1 : IntKind.u64.wrap (((2 ^ m.length : Nat) : Int) - 1) = ((2 ^ m.length - 1 : Nat) : Int) := by rw [wrapU]; omega
  have pw := pop_whole (n := m.length) (by omega)
  have lw : 2 ^ m.length - 1 < 2 ^ m.length := by omega
  repeat' first | (with_reducible first | refine k_seq ?_ | refine k_skip ?_ | refine k_blkS ?_ | refine k_blkR ?_ | refine k_blkC ?_ | refine k_blkH ?_ | refine k_blkB ?_ | refine k_blkK ?_ | refine k_blkE ?_ | refine k_reg ?_) | with_reducible refine k_head (by with_unfolding_all rfl) ?_ | with_reducible refine k_headS ?_ | (with_reducible refine SepK.mk ?_ ?_; (refine sepQ_P ?_; simp [sepQ, sepG, AOp.late, AOp.free, AOp.xs, AOp.isAl, tokNe, AV.tok, stS_get, strip, AX.val, RG20, GA]; try omega)) | with_reducible refine r_done ?_ | with_reducible refine hr_done ?_ | with_reducible refine s_go (by simp (disch := omega) only [sh1, w1, RG20, EVA, plug, eq_self, simprocAttr]; with_reducible rfl) ?_ | with_reducible refine h_go (by with_unfolding_all rfl) (by simp (disch := omega) only [sh1, w1, RG20, EVA, plug, eq_self, simprocAttr]; with_reducible rfl) ?_ | ((with_reducible refine chk_r ?_); refine r_callF (by simp only [CA, simprocAttr]; rfl) (by exact rfl) (by simp only [CA, simprocAttr]; rfl) rfl ?_) | ((with_reducible refine chk_h ?_); refine hr_callF (by simp only [CA, simprocAttr]; rfl) (by exact rfl) (by simp only [CA, simprocAttr]; rfl) rfl ?_) | ((with_reducible refine chk_r ?_); refine r_callP (by simp only [CA, simprocAttr]; rfl) (by simp only [CA, simprocAttr]; rfl) (by first | exact q1 _ | exact q3 _) rfl ?_) | ((with_reducible refine chk_h ?_); refine hr_callP (by simp only [CA, simprocAttr]; rfl) (by simp only [CA, simprocAttr]; rfl) (by first | exact q1 _ | exact q3 _) rfl ?_) | ((with_reducible refine chk_h ?_); refine hr_callP1 (by simp only [CA, simprocAttr]; rfl) (by simp only [CA, simprocAttr]; rfl) (by simp (disch := omega) only [CA, Nat.reduceEqDiff, ↓reduceIte, firstTok_nil, firstTok_sl, firstTok_sl0, firstTok_i, firstTok_b, firstTok_ag, firstTok_p, firstTok_s]; rfl) (by first | exact q1 _ | exact q3 _) rfl ?_) | ((with_reducible refine chk_r ?_); refine r_callG (by simp only [CA, simprocAttr]; rfl) (by simp only [CA, simprocAttr]; rfl) (by simp only [CA, simprocAttr]; rfl) (by intro hg; (try simp only [BO] at hg); first | exact q1 _ | exact q3 _) rfl ?_) | ((with_reducible refine chk_h ?_); refine hr_callG (by simp only [CA, simprocAttr]; rfl) (by simp only [CA, simprocAttr]; rfl) (by simp only [CA, simprocAttr]; rfl) (by intro hg; (try simp only [BO] at hg); first | exact q1 _ | exact q3 _) rfl ?_) | ((with_reducible refine chk_h ?_); refine hr_app (by simp (disch := omega) only [sh1, w1, RG20, EVA, plug, eq_self, simprocAttr]; with_reducible rfl) rfl ?_) | (with_reducible refine k_condP (by simp only [GA, simprocAttr]; rfl) (by first | (simp only [BO]; rfl) | rfl) (fun ht => ?_) (fun ht => ?_) <;> try (first | exact False.elim ht | exact absurd rfl ht | exact absurd trivial ht | exact Bool.noConfusion ht)) | (with_reducible refine k_ret ?_; repeat with_reducible (first | refine ret_thru ?_ | refine ret_blk ?_ | refine fin ?_)) | (with_reducible refine k_exit ?_; repeat with_reducible (first | refine thru ?_ | refine out_blk ?_ | refine pass (by decide) ?_)) | ((first | refine post1 ?_ | refine post2 ?_ | refine post3 ?_); simp only [GA, simprocAttr]) | refine post0 ?_
  refine w_virt 1 9 rfl ?_
  generalize 2 ^ m.length - 1 = wh at *
  generalize hR : grN l m (m.length + 1) wh [] = R
  refine k_blk (k_loopW (X := Nat × Nat × Nat × List Int) [7, 8, 9] (fun x => [(7, .vs l.length (nu (fitL l m))), (8, .i .u64 (x.2.2.1 : Int)), (9, .sl x.1 0 x.2.2.2.length 1)]) (fun x => x.2.1)
   (fun x h => x.1 ≠ 0 ∧ h.m x.1 = some (.cells true (il x.2.2.2)) ∧ x.2.2.1 < 2 ^ m.length ∧ x.2.2.2.length + x.2.1 ≤ 41 ∧ popA 64 x.2.2.1 < x.2.1 ∧ grN l m x.2.1 x.2.2.1 x.2.2.2 = R) (_, m.length + 1, wh, []) (by simp only [Am.keep, List.map_cons, List.map_nil, GA, simprocAttr]; try rfl) ⟨?_, by simp (disch := omega) only [RG20, EVA, plug, eq_self, simprocAttr] <;> rfl, lw, by show 0 + (m.length + 1) ≤ 41; omega, Nat.lt_succ_of_le pw, hR⟩ ?_)
  ·simp only [AH.bump_nx]; omega
  rintro ⟨y, t, left, out⟩ h ⟨hy, hmy, hlt, ho, hpop, e⟩ ok pos
  simp only at hy hmy hlt ho hpop e ⊢
  have ly := ok.m hmy
  have l64 := lt_64 hlt M
  cases t with
  | zero => exact absurd hpop (Nat.not_lt_zero _)
  | succ t =>
  rw [grN] at e
  by_cases l0 : left = 0
  ·rw [if_pos l0] at e
   have z := eq_true (show (left : Int) = 0 by omega)
   rw [← e]
   repeat' first | (with_reducible first | refine k_seq ?_ | refine k_skip ?_ | refine k_blkS ?_ | refine k_blkR ?_ | refine k_blkC ?_ | refine k_blkH ?_ | refine k_blkB ?_ | refine k_blkK ?_ | refine k_blkE ?_ | refine k_reg ?_) | with_reducible refine k_head (by with_unfolding_all rfl) ?_ | with_reducible refine k_headS ?_ | (with_reducible refine SepK.mk ?_ ?_; (refine sepQ_P ?_; simp [sepQ, sepG, AOp.late, AOp.free, AOp.xs, AOp.isAl, tokNe, AV.tok, stS_get, strip, AX.val, RG20, GA]; try omega)) | with_reducible refine r_done ?_ | with_reducible refine hr_done ?_ | with_reducible refine s_go (by simp (disch := omega) only [z, RG20, EVA, plug, eq_self, simprocAttr]; with_reducible rfl) ?_ | with_reducible refine h_go (by with_unfolding_all rfl) (by simp (disch := omega) only [z, RG20, EVA, plug, eq_self, simprocAttr]; with_reducible rfl) ?_ | ((with_reducible refine chk_r ?_); refine r_callF (by simp only [CA, simprocAttr]; rfl) (by exact rfl) (by simp only [CA, simprocAttr]; rfl) rfl ?_) | ((with_reducible refine chk_h ?_); refine hr_callF (by simp only [CA, simprocAttr]; rfl) (by exact rfl) (by simp only [CA, simprocAttr]; rfl) rfl ?_) | ((with_reducible refine chk_h ?_); refine hr_app (by simp (disch := omega) only [z, RG20, EVA, plug, eq_self, simprocAttr]; with_reducible rfl) rfl ?_) | (with_reducible refine k_condP (by simp only [GA, simprocAttr]; rfl) (by first | (simp only [BO]; rfl) | rfl) (fun ht => ?_) (fun ht => ?_) <;> try (first | exact False.elim ht | exact absurd rfl ht | exact absurd trivial ht | exact Bool.noConfusion ht)) | (with_reducible refine k_ret ?_; repeat with_reducible (first | refine ret_thru ?_ | refine ret_blk ?_ | refine fin ?_)) | (with_reducible refine k_exit ?_; repeat with_reducible (first | refine thru ?_ | refine out_blk ?_ | refine pass (by decide) ?_)) | ((first | refine post1 ?_ | refine post2 ?_ | refine post3 ?_); simp only [GA, simprocAttr]) | refine post0 ?_
   exact ends_sl2 (k := 1) hmy (by rw [il_len, Nat.mul_one])
  ·rw [if_neg l0] at e
   have z := eq_false (show ¬ (left : Int) = 0 by omega)
   repeat' first | (with_reducible first | refine k_seq ?_ | refine k_skip ?_ | refine k_blkS ?_ | refine k_blkR ?_ | refine k_blkC ?_ | refine k_blkH ?_ | refine k_blkB ?_ | refine k_blkK ?_ | refine k_blkE ?_ | refine k_reg ?_) | with_reducible refine k_head (by with_unfolding_all rfl) ?_ | with_reducible refine k_headS ?_ | (with_reducible refine SepK.mk ?_ ?_; (refine sepQ_P ?_; simp [sepQ, sepG, AOp.late, AOp.free, AOp.xs, AOp.isAl, tokNe, AV.tok, stS_get, strip, AX.val, RG20, GA]; try omega)) | with_reducible refine r_done ?_ | with_reducible refine hr_done ?_ | with_reducible refine s_go (by simp (disch := omega) only [z, RG20, EVA, plug, eq_self, simprocAttr]; with_reducible rfl) ?_ | with_reducible refine h_go (by with_unfolding_all rfl) (by simp (disch := omega) only [z, RG20, EVA, plug, eq_self, simprocAttr]; with_reducible rfl) ?_ | ((with_reducible refine chk_r ?_); refine r_callF (by simp only [CA, simprocAttr]; rfl) (by exact rfl) (by simp only [CA, simprocAttr]; rfl) rfl ?_) | ((with_reducible refine chk_h ?_); refine hr_callF (by simp only [CA, simprocAttr]; rfl) (by exact rfl) (by simp only [CA, simprocAttr]; rfl) rfl ?_) | ((with_reducible refine chk_h ?_); refine hr_app (by simp (disch := omega) only [z, RG20, EVA, plug, eq_self, simprocAttr]; with_reducible rfl) rfl ?_) | (with_reducible refine k_condP (by simp only [GA, simprocAttr]; rfl) (by first | (simp only [BO]; rfl) | rfl) (fun ht => ?_) (fun ht => ?_) <;> try (first | exact False.elim ht | exact absurd rfl ht | exact absurd trivial ht | exact Bool.noConfusion ht)) | (with_reducible refine k_ret ?_; repeat with_reducible (first | refine ret_thru ?_ | refine ret_blk ?_ | refine fin ?_)) | (with_reducible refine k_exit ?_; repeat with_reducible (first | refine thru ?_ | refine out_blk ?_ | refine pass (by decide) ?_)) | ((first | refine post1 ?_ | refine post2 ?_ | refine post3 ?_); simp only [GA, simprocAttr]) | refine post0 ?_
   refine k_blk (k_loopS (X := Unit) [7, 8, 9, 10, 28, 29, 30] l.length (fun k _ => [(7, .vs l.length (nu (fitL l m))), (8, .i .u64 (left : Int)), (9, .sl y 0 out.length 1), (10, .i .i64 (gbS l m left k)), (28, .vs l.length (nu (fitL l m))), (29, .i .i64 l.length), (30, .i .i64 (k : Int))]) (fun k _ h' => h'.m y = some (.cells true (il out))) () (by simp only [Am.keep, List.map_cons, List.map_nil, GA, simprocAttr]; try rfl) hmy ?_)
   rintro k _ h' hk hmy' ok' pos'
   have ly' := ok'.m hmy'
   by_cases klt : k < l.length
   ·have klt' : (k : Int) < l.length := by omega
    have g2 := nu_get (l := fitL l m) (j := k) (by simp [fitL]; omega)
    rw [fitL_get klt] at g2
    obtain ⟨a1, q4⟩ := cnt_pc (l := l) (k := k) M hlt
    have eT : 0 < cnt l m left k → (gbS l m left k < 0 ∨ cnt l m left (gbS l m left k).toNat < cnt l m left k) → gbS l m left (k + 1) = k := fun h1 h2 => if_pos ⟨h1, h2⟩
    have eF : (0 < cnt l m left k → ¬ (gbS l m left k < 0 ∨ cnt l m left (gbS l m left k).toNat < cnt l m left k)) → gbS l m left (k + 1) = gbS l m left k := fun h => if_neg fun q => h q.1 q.2
    have GB := gb_rb (l := l) (m := m) (left := left) (k := k)
    by_cases c0 : 0 < cnt l m left k
    ·have c0' := eq_true (show (0 : Int) < (cnt l m left k : Nat) by omega)
     rcases GB with ⟨h1, h2, h3⟩ | ⟨b, h1, h2, h3, h4⟩
     ·have es := eT c0 (.inl (by omega))
      rw [h1]
      generalize cnt l m left k = cc at *
      repeat' first | (with_reducible first | refine k_seq ?_ | refine k_skip ?_ | refine k_blkS ?_ | refine k_blkR ?_ | refine k_blkC ?_ | refine k_blkH ?_ | refine k_blkB ?_ | refine k_blkK ?_ | refine k_blkE ?_ | refine k_reg ?_) | with_reducible refine k_head (by with_unfolding_all rfl) ?_ | with_reducible refine k_headS ?_ | (with_reducible refine SepK.mk ?_ ?_; (refine sepQ_P ?_; simp [sepQ, sepG, AOp.late, AOp.free, AOp.xs, AOp.isAl, tokNe, AV.tok, stS_get, strip, AX.val, RG20, GA]; try omega)) | with_reducible refine r_done ?_ | with_reducible refine hr_done ?_ | with_reducible refine s_go (by simp (disch := omega) only [klt', g2, a1, c0', RG20, EVA, plug, eq_self, simprocAttr]; with_reducible rfl) ?_ | with_reducible refine h_go (by with_unfolding_all rfl) (by simp (disch := omega) only [klt', g2, a1, c0', RG20, EVA, plug, eq_self, simprocAttr]; with_reducible rfl) ?_ | ((with_reducible refine chk_r ?_); refine r_callF (by simp only [CA, simprocAttr]; rfl) (by exact rfl) (by simp only [CA, simprocAttr]; rfl) rfl ?_) | ((with_reducible refine chk_h ?_); refine hr_callF (by simp only [CA, simprocAttr]; rfl) (by exact rfl) (by simp only [CA, simprocAttr]; rfl) rfl ?_) | ((with_reducible refine chk_r ?_); refine r_callP (by simp only [CA, simprocAttr]; rfl) (by simp only [CA, simprocAttr]; rfl) (by first | exact q4 _) rfl ?_) | ((with_reducible refine chk_h ?_); refine hr_callP (by simp only [CA, simprocAttr]; rfl) (by simp only [CA, simprocAttr]; rfl) (by first | exact q4 _) rfl ?_) | ((with_reducible refine chk_h ?_); refine hr_callP1 (by simp only [CA, simprocAttr]; rfl) (by simp only [CA, simprocAttr]; rfl) (by simp (disch := omega) only [CA, Nat.reduceEqDiff, ↓reduceIte, firstTok_nil, firstTok_sl, firstTok_sl0, firstTok_i, firstTok_b, firstTok_ag, firstTok_p, firstTok_s]; rfl) (by first | exact q4 _) rfl ?_) | ((with_reducible refine chk_r ?_); refine r_callG (by simp only [CA, simprocAttr]; rfl) (by simp only [CA, simprocAttr]; rfl) (by simp only [CA, simprocAttr]; rfl) (by intro hg; (try simp only [BO] at hg); first | exact q4 _) rfl ?_) | ((with_reducible refine chk_h ?_); refine hr_callG (by simp only [CA, simprocAttr]; rfl) (by simp only [CA, simprocAttr]; rfl) (by simp only [CA, simprocAttr]; rfl) (by intro hg; (try simp only [BO] at hg); first | exact q4 _) rfl ?_) | ((with_reducible refine chk_h ?_); refine hr_app (by simp (disch := omega) only [klt', g2, a1, c0', RG20, EVA, plug, eq_self, simprocAttr]; with_reducible rfl) rfl ?_) | (with_reducible refine k_condP (by simp only [GA, simprocAttr]; rfl) (by first | (simp only [BO]; rfl) | rfl) (fun ht => ?_) (fun ht => ?_) <;> try (first | exact False.elim ht | exact absurd rfl ht | exact absurd trivial ht | exact Bool.noConfusion ht)) | (with_reducible refine k_ret ?_; repeat with_reducible (first | refine ret_thru ?_ | refine ret_blk ?_ | refine fin ?_)) | (with_reducible refine k_exit ?_; repeat with_reducible (first | refine thru ?_ | refine out_blk ?_ | refine pass (by decide) ?_)) | ((first | refine post1 ?_ | refine post2 ?_ | refine post3 ?_); simp only [GA, simprocAttr]) | refine post0 ?_
      exact ⟨klt, (), (by rw [es]; exact (by simp only [Am.keep, List.map_cons, List.map_nil, GA, simprocAttr]; try rfl)), by simp (disch := omega) only [hmy', RG20, EVA, plug, eq_self, simprocAttr]⟩
     ·have b0 := eq_false (show ¬ (b : Int) < 0 by omega)
      have bl' : (b : Int) < l.length := by omega
      have g3 := nu_get (l := fitL l m) (j := b) (by simp [fitL]; omega)
      rw [fitL_get (by omega)] at g3
      obtain ⟨a2, q5⟩ := cnt_pc (l := l) (k := b) M hlt
      rw [h1, Int.toNat_natCast] at eT eF
      rw [h1]
      generalize cnt l m left k = cc at *
      generalize cnt l m left b = cb at *
      by_cases c1 : cb < cc
      ·have c1' := eq_true (show (cb : Int) < cc by omega)
       have es := eT c0 (.inr c1)
       repeat' first | (with_reducible first | refine k_seq ?_ | refine k_skip ?_ | refine k_blkS ?_ | refine k_blkR ?_ | refine k_blkC ?_ | refine k_blkH ?_ | refine k_blkB ?_ | refine k_blkK ?_ | refine k_blkE ?_ | refine k_reg ?_) | with_reducible refine k_head (by with_unfolding_all rfl) ?_ | with_reducible refine k_headS ?_ | (with_reducible refine SepK.mk ?_ ?_; (refine sepQ_P ?_; simp [sepQ, sepG, AOp.late, AOp.free, AOp.xs, AOp.isAl, tokNe, AV.tok, stS_get, strip, AX.val, RG20, GA]; try omega)) | with_reducible refine r_done ?_ | with_reducible refine hr_done ?_ | with_reducible refine s_go (by simp (disch := omega) only [klt', g2, a1, c0', b0, bl', g3, a2, c1', RG20, EVA, plug, eq_self, simprocAttr]; with_reducible rfl) ?_ | with_reducible refine h_go (by with_unfolding_all rfl) (by simp (disch := omega) only [klt', g2, a1, c0', b0, bl', g3, a2, c1', RG20, EVA, plug, eq_self, simprocAttr]; with_reducible rfl) ?_ | ((with_reducible refine chk_r ?_); refine r_callF (by simp only [CA, simprocAttr]; rfl) (by exact rfl) (by simp only [CA, simprocAttr]; rfl) rfl ?_) | ((with_reducible refine chk_h ?_); refine hr_callF (by simp only [CA, simprocAttr]; rfl) (by exact rfl) (by simp only [CA, simprocAttr]; rfl) rfl ?_) | ((with_reducible refine chk_r ?_); refine r_callP (by simp only [CA, simprocAttr]; rfl) (by simp only [CA, simprocAttr]; rfl) (by first | exact q4 _ | exact q5 _) rfl ?_) | ((with_reducible refine chk_h ?_); refine hr_callP (by simp only [CA, simprocAttr]; rfl) (by simp only [CA, simprocAttr]; rfl) (by first | exact q4 _ | exact q5 _) rfl ?_) | ((with_reducible refine chk_h ?_); refine hr_callP1 (by simp only [CA, simprocAttr]; rfl) (by simp only [CA, simprocAttr]; rfl) (by simp (disch := omega) only [CA, Nat.reduceEqDiff, ↓reduceIte, firstTok_nil, firstTok_sl, firstTok_sl0, firstTok_i, firstTok_b, firstTok_ag, firstTok_p, firstTok_s]; rfl) (by first | exact q4 _ | exact q5 _) rfl ?_) | ((with_reducible refine chk_r ?_); refine r_callG (by simp only [CA, simprocAttr]; rfl) (by simp only [CA, simprocAttr]; rfl) (by simp only [CA, simprocAttr]; rfl) (by intro hg; (try simp only [BO] at hg); first | exact q4 _ | exact q5 _) rfl ?_) | ((with_reducible refine chk_h ?_); refine hr_callG (by simp only [CA, simprocAttr]; rfl) (by simp only [CA, simprocAttr]; rfl) (by simp only [CA, simprocAttr]; rfl) (by intro hg; (try simp only [BO] at hg); first | exact q4 _ | exact q5 _) rfl ?_) | ((with_reducible refine chk_h ?_); refine hr_app (by simp (disch := omega) only [klt', g2, a1, c0', b0, bl', g3, a2, c1', RG20, EVA, plug, eq_self, simprocAttr]; with_reducible rfl) rfl ?_) | (with_reducible refine k_condP (by simp only [GA, simprocAttr]; rfl) (by first | (simp only [BO]; rfl) | rfl) (fun ht => ?_) (fun ht => ?_) <;> try (first | exact False.elim ht | exact absurd rfl ht | exact absurd trivial ht | exact Bool.noConfusion ht)) | (with_reducible refine k_ret ?_; repeat with_reducible (first | refine ret_thru ?_ | refine ret_blk ?_ | refine fin ?_)) | (with_reducible refine k_exit ?_; repeat with_reducible (first | refine thru ?_ | refine out_blk ?_ | refine pass (by decide) ?_)) | ((first | refine post1 ?_ | refine post2 ?_ | refine post3 ?_); simp only [GA, simprocAttr]) | refine post0 ?_
       exact ⟨klt, (), (by rw [es]; exact (by simp only [Am.keep, List.map_cons, List.map_nil, GA, simprocAttr]; try rfl)), by simp (disch := omega) only [hmy', RG20, EVA, plug, eq_self, simprocAttr]⟩
      ·have c1' := eq_false (show ¬ (cb : Int) < cc by omega)
       have es := eF fun _ q => q.elim (by omega) c1
       repeat' first | (with_reducible first | refine k_seq ?_ | refine k_skip ?_ | refine k_blkS ?_ | refine k_blkR ?_ | refine k_blkC ?_ | refine k_blkH ?_ | refine k_blkB ?_ | refine k_blkK ?_ | refine k_blkE ?_ | refine k_reg ?_) | with_reducible refine k_head (by with_unfolding_all rfl) ?_ | with_reducible refine k_headS ?_ | (with_reducible refine SepK.mk ?_ ?_; (refine sepQ_P ?_; simp [sepQ, sepG, AOp.late, AOp.free, AOp.xs, AOp.isAl, tokNe, AV.tok, stS_get, strip, AX.val, RG20, GA]; try omega)) | with_reducible refine r_done ?_ | with_reducible refine hr_done ?_ | with_reducible refine s_go (by simp (disch := omega) only [klt', g2, a1, c0', b0, bl', g3, a2, c1', RG20, EVA, plug, eq_self, simprocAttr]; with_reducible rfl) ?_ | with_reducible refine h_go (by with_unfolding_all rfl) (by simp (disch := omega) only [klt', g2, a1, c0', b0, bl', g3, a2, c1', RG20, EVA, plug, eq_self, simprocAttr]; with_reducible rfl) ?_ | ((with_reducible refine chk_r ?_); refine r_callF (by simp only [CA, simprocAttr]; rfl) (by exact rfl) (by simp only [CA, simprocAttr]; rfl) rfl ?_) | ((with_reducible refine chk_h ?_); refine hr_callF (by simp only [CA, simprocAttr]; rfl) (by exact rfl) (by simp only [CA, simprocAttr]; rfl) rfl ?_) | ((with_reducible refine chk_r ?_); refine r_callP (by simp only [CA, simprocAttr]; rfl) (by simp only [CA, simprocAttr]; rfl) (by first | exact q4 _ | exact q5 _) rfl ?_) | ((with_reducible refine chk_h ?_); refine hr_callP (by simp only [CA, simprocAttr]; rfl) (by simp only [CA, simprocAttr]; rfl) (by first | exact q4 _ | exact q5 _) rfl ?_) | ((with_reducible refine chk_h ?_); refine hr_callP1 (by simp only [CA, simprocAttr]; rfl) (by simp only [CA, simprocAttr]; rfl) (by simp (disch := omega) only [CA, Nat.reduceEqDiff, ↓reduceIte, firstTok_nil, firstTok_sl, firstTok_sl0, firstTok_i, firstTok_b, firstTok_ag, firstTok_p, firstTok_s]; rfl) (by first | exact q4 _ | exact q5 _) rfl ?_) | ((with_reducible refine chk_r ?_); refine r_callG (by simp only [CA, simprocAttr]; rfl) (by simp only [CA, simprocAttr]; rfl) (by simp only [CA, simprocAttr]; rfl) (by intro hg; (try simp only [BO] at hg); first | exact q4 _ | exact q5 _) rfl ?_) | ((with_reducible refine chk_h ?_); refine hr_callG (by simp only [CA, simprocAttr]; rfl) (by simp only [CA, simprocAttr]; rfl) (by simp only [CA, simprocAttr]; rfl) (by intro hg; (try simp only [BO] at hg); first | exact q4 _ | exact q5 _) rfl ?_) | ((with_reducible refine chk_h ?_); refine hr_app (by simp (disch := omega) only [klt', g2, a1, c0', b0, bl', g3, a2, c1', RG20, EVA, plug, eq_self, simprocAttr]; with_reducible rfl) rfl ?_) | (with_reducible refine k_condP (by simp only [GA, simprocAttr]; rfl) (by first | (simp only [BO]; rfl) | rfl) (fun ht => ?_) (fun ht => ?_) <;> try (first | exact False.elim ht | exact absurd rfl ht | exact absurd trivial ht | exact Bool.noConfusion ht)) | (with_reducible refine k_ret ?_; repeat with_reducible (first | refine ret_thru ?_ | refine ret_blk ?_ | refine fin ?_)) | (with_reducible refine k_exit ?_; repeat with_reducible (first | refine thru ?_ | refine out_blk ?_ | refine pass (by decide) ?_)) | ((first | refine post1 ?_ | refine post2 ?_ | refine post3 ?_); simp only [GA, simprocAttr]) | refine post0 ?_
       exact ⟨klt, (), (by rw [es]; exact (by simp only [Am.keep, List.map_cons, List.map_nil, GA, simprocAttr]; try rfl)), by simp (disch := omega) only [hmy', RG20, EVA, plug, eq_self, simprocAttr]⟩
    ·have c0' := eq_false (show ¬ (0 : Int) < (cnt l m left k : Nat) by omega)
     have es := eF fun q => absurd q c0
     generalize cnt l m left k = cc at *
     repeat' first | (with_reducible first | refine k_seq ?_ | refine k_skip ?_ | refine k_blkS ?_ | refine k_blkR ?_ | refine k_blkC ?_ | refine k_blkH ?_ | refine k_blkB ?_ | refine k_blkK ?_ | refine k_blkE ?_ | refine k_reg ?_) | with_reducible refine k_head (by with_unfolding_all rfl) ?_ | with_reducible refine k_headS ?_ | (with_reducible refine SepK.mk ?_ ?_; (refine sepQ_P ?_; simp [sepQ, sepG, AOp.late, AOp.free, AOp.xs, AOp.isAl, tokNe, AV.tok, stS_get, strip, AX.val, RG20, GA]; try omega)) | with_reducible refine r_done ?_ | with_reducible refine hr_done ?_ | with_reducible refine s_go (by simp (disch := omega) only [klt', g2, a1, c0', RG20, EVA, plug, eq_self, simprocAttr]; with_reducible rfl) ?_ | with_reducible refine h_go (by with_unfolding_all rfl) (by simp (disch := omega) only [klt', g2, a1, c0', RG20, EVA, plug, eq_self, simprocAttr]; with_reducible rfl) ?_ | ((with_reducible refine chk_r ?_); refine r_callF (by simp only [CA, simprocAttr]; rfl) (by exact rfl) (by simp only [CA, simprocAttr]; rfl) rfl ?_) | ((with_reducible refine chk_h ?_); refine hr_callF (by simp only [CA, simprocAttr]; rfl) (by exact rfl) (by simp only [CA, simprocAttr]; rfl) rfl ?_) | ((with_reducible refine chk_r ?_); refine r_callP (by simp only [CA, simprocAttr]; rfl) (by simp only [CA, simprocAttr]; rfl) (by first | exact q4 _) rfl ?_) | ((with_reducible refine chk_h ?_); refine hr_callP (by simp only [CA, simprocAttr]; rfl) (by simp only [CA, simprocAttr]; rfl) (by first | exact q4 _) rfl ?_) | ((with_reducible refine chk_h ?_); refine hr_callP1 (by simp only [CA, simprocAttr]; rfl) (by simp only [CA, simprocAttr]; rfl) (by simp (disch := omega) only [CA, Nat.reduceEqDiff, ↓reduceIte, firstTok_nil, firstTok_sl, firstTok_sl0, firstTok_i, firstTok_b, firstTok_ag, firstTok_p, firstTok_s]; rfl) (by first | exact q4 _) rfl ?_) | ((with_reducible refine chk_r ?_); refine r_callG (by simp only [CA, simprocAttr]; rfl) (by simp only [CA, simprocAttr]; rfl) (by simp only [CA, simprocAttr]; rfl) (by intro hg; (try simp only [BO] at hg); first | exact q4 _) rfl ?_) | ((with_reducible refine chk_h ?_); refine hr_callG (by simp only [CA, simprocAttr]; rfl) (by simp only [CA, simprocAttr]; rfl) (by simp only [CA, simprocAttr]; rfl) (by intro hg; (try simp only [BO] at hg); first | exact q4 _) rfl ?_) | ((with_reducible refine chk_h ?_); refine hr_app (by simp (disch := omega) only [klt', g2, a1, c0', RG20, EVA, plug, eq_self, simprocAttr]; with_reducible rfl) rfl ?_) | (with_reducible refine k_condP (by simp only [GA, simprocAttr]; rfl) (by first | (simp only [BO]; rfl) | rfl) (fun ht => ?_) (fun ht => ?_) <;> try (first | exact False.elim ht | exact absurd rfl ht | exact absurd trivial ht | exact Bool.noConfusion ht)) | (with_reducible refine k_ret ?_; repeat with_reducible (first | refine ret_thru ?_ | refine ret_blk ?_ | refine fin ?_)) | (with_reducible refine k_exit ?_; repeat with_reducible (first | refine thru ?_ | refine out_blk ?_ | refine pass (by decide) ?_)) | ((first | refine post1 ?_ | refine post2 ?_ | refine post3 ?_); simp only [GA, simprocAttr]) | refine post0 ?_
     exact ⟨klt, (), (by rw [es]; exact (by simp only [Am.keep, List.map_cons, List.map_nil, GA, simprocAttr]; try rfl)), by simp (disch := omega) only [hmy', RG20, EVA, plug, eq_self, simprocAttr]⟩
   ·obtain rfl : k = l.length := by omega
    have klt' : ¬ (l.length : Int) < l.length := by omega
    rcases gb_rb (l := l) (m := m) (left := left) (k := l.length) with ⟨h1, h2, h3⟩ | ⟨b, h1, h2, h3, h4⟩
    ·rw [h1, if_pos (by omega)] at e
     rw [h1, ← e]
     repeat' first | (with_reducible first | refine k_seq ?_ | refine k_skip ?_ | refine k_blkS ?_ | refine k_blkR ?_ | refine k_blkC ?_ | refine k_blkH ?_ | refine k_blkB ?_ | refine k_blkK ?_ | refine k_blkE ?_ | refine k_reg ?_) | with_reducible refine k_head (by with_unfolding_all rfl) ?_ | with_reducible refine k_headS ?_ | (with_reducible refine SepK.mk ?_ ?_; (refine sepQ_P ?_; simp [sepQ, sepG, AOp.late, AOp.free, AOp.xs, AOp.isAl, tokNe, AV.tok, stS_get, strip, AX.val, RG20, GA]; try omega)) | with_reducible refine r_done ?_ | with_reducible refine hr_done ?_ | with_reducible refine s_go (by simp (disch := omega) only [klt', RG20, EVA, plug, eq_self, simprocAttr]; with_reducible rfl) ?_ | with_reducible refine h_go (by with_unfolding_all rfl) (by simp (disch := omega) only [klt', RG20, EVA, plug, eq_self, simprocAttr]; with_reducible rfl) ?_ | ((with_reducible refine chk_r ?_); refine r_callF (by simp only [CA, simprocAttr]; rfl) (by exact rfl) (by simp only [CA, simprocAttr]; rfl) rfl ?_) | ((with_reducible refine chk_h ?_); refine hr_callF (by simp only [CA, simprocAttr]; rfl) (by exact rfl) (by simp only [CA, simprocAttr]; rfl) rfl ?_) | ((with_reducible refine chk_h ?_); refine hr_app (by simp (disch := omega) only [klt', RG20, EVA, plug, eq_self, simprocAttr]; with_reducible rfl) rfl ?_) | (with_reducible refine k_condP (by simp only [GA, simprocAttr]; rfl) (by first | (simp only [BO]; rfl) | rfl) (fun ht => ?_) (fun ht => ?_) <;> try (first | exact False.elim ht | exact absurd rfl ht | exact absurd trivial ht | exact Bool.noConfusion ht)) | (with_reducible refine k_ret ?_; repeat with_reducible (first | refine ret_thru ?_ | refine ret_blk ?_ | refine fin ?_)) | (with_reducible refine k_exit ?_; repeat with_reducible (first | refine thru ?_ | refine out_blk ?_ | refine pass (by decide) ?_)) | ((first | refine post1 ?_ | refine post2 ?_ | refine post3 ?_); simp only [GA, simprocAttr]) | refine post0 ?_
     exact ends_nil2
    ·have b0 := eq_false (show ¬ (b : Int) < 0 by omega)
     have bl' : (b : Int) < l.length := by omega
     have g3 := nu_get (l := fitL l m) (j := b) (by simp [fitL]; omega)
     rw [fitL_get (by omega)] at g3
     rw [h1, if_neg (by omega), Int.toNat_natCast] at e
     have a3 := andnot_64 l64 (lt_64 (fitS_lt (m := m) (s := zD l b)) M)
     have pa := pop_an h3
     have ll := an_lt (y := fitS m (zD l b)) hlt
     rw [h1]
     generalize an left (fitS m (zD l b)) = left' at *
     repeat' first | (with_reducible first | refine k_seq ?_ | refine k_skip ?_ | refine k_blkS ?_ | refine k_blkR ?_ | refine k_blkC ?_ | refine k_blkH ?_ | refine k_blkB ?_ | refine k_blkK ?_ | refine k_blkE ?_ | refine k_reg ?_) | with_reducible refine k_head (by with_unfolding_all rfl) ?_ | with_reducible refine k_headS ?_ | (with_reducible refine SepK.mk ?_ ?_; (refine sepQ_P ?_; simp [sepQ, sepG, AOp.late, AOp.free, AOp.xs, AOp.isAl, tokNe, AV.tok, stS_get, strip, AX.val, RG20, GA]; try omega)) | with_reducible refine r_done ?_ | with_reducible refine hr_done ?_ | with_reducible refine s_go (by simp (disch := omega) only [klt', b0, bl', g3, a3, hmy', row_m hmy', hy, il_len, RG20, EVA, plug, eq_self, simprocAttr]; with_reducible rfl) ?_ | with_reducible refine h_go (by with_unfolding_all rfl) (by simp (disch := omega) only [klt', b0, bl', g3, a3, hmy', row_m hmy', hy, il_len, RG20, EVA, plug, eq_self, simprocAttr]; with_reducible rfl) ?_ | ((with_reducible refine chk_r ?_); refine r_callF (by simp only [CA, simprocAttr]; rfl) (by exact rfl) (by simp only [CA, simprocAttr]; rfl) rfl ?_) | ((with_reducible refine chk_h ?_); refine hr_callF (by simp only [CA, simprocAttr]; rfl) (by exact rfl) (by simp only [CA, simprocAttr]; rfl) rfl ?_) | ((with_reducible refine chk_h ?_); refine hr_app (by simp (disch := omega) only [klt', b0, bl', g3, a3, hmy', row_m hmy', hy, il_len, RG20, EVA, plug, eq_self, simprocAttr]; with_reducible rfl) rfl ?_) | (with_reducible refine k_condP (by simp only [GA, simprocAttr]; rfl) (by first | (simp only [BO]; rfl) | rfl) (fun ht => ?_) (fun ht => ?_) <;> try (first | exact False.elim ht | exact absurd rfl ht | exact absurd trivial ht | exact Bool.noConfusion ht)) | (with_reducible refine k_ret ?_; repeat with_reducible (first | refine ret_thru ?_ | refine ret_blk ?_ | refine fin ?_)) | (with_reducible refine k_exit ?_; repeat with_reducible (first | refine thru ?_ | refine out_blk ?_ | refine pass (by decide) ?_)) | ((first | refine post1 ?_ | refine post2 ?_ | refine post3 ?_); simp only [GA, simprocAttr]) | refine post0 ?_
     refine ⟨(_, t, left', out ++ [(b : Int)]), Nat.lt_succ_self t, (by simp only [Am.keep, List.map_cons, List.map_nil, GA, Nat.reduceEqDiff, ↓reduceIte, List.length_append, List.length_singleton]; try rfl), ?_, ?_, ll, by show (out ++ [(b : Int)]).length + t ≤ 41; rw [List.length_append, List.length_singleton]; omega, Nat.lt_of_lt_of_le pa (Nat.le_of_lt_succ hpop), e⟩
     ·first | omega | (simp only [AH.bump_nx, AH.set_nx, AH.kill_nx]; omega)
     ·simp (disch := omega) only [RG20, EVA, plug, eq_self, simprocAttr] <;> rfl
 ·have c' := eq_false c
  rw [if_pos c]
  repeat' first | (with_reducible first | refine k_seq ?_ | refine k_skip ?_ | refine k_blkS ?_ | refine k_blkR ?_ | refine k_blkC ?_ | refine k_blkH ?_ | refine k_blkB ?_ | refine k_blkK ?_ | refine k_blkE ?_ | refine k_reg ?_) | with_reducible refine k_head (by with_unfolding_all rfl) ?_ | with_reducible refine k_headS ?_ | (with_reducible refine SepK.mk ?_ ?_; (refine sepQ_P ?_; simp [sepQ, sepG, AOp.late, AOp.free, AOp.xs, AOp.isAl, tokNe, AV.tok, stS_get, strip, AX.val, RG20, GA]; try omega)) | with_reducible refine r_done ?_ | with_reducible refine hr_done ?_ | with_reducible refine s_go (by simp (disch := omega) only [c', RG20, EVA, plug, eq_self, simprocAttr]; with_reducible rfl) ?_ | with_reducible refine h_go (by with_unfolding_all rfl) (by simp (disch := omega) only [c', RG20, EVA, plug, eq_self, simprocAttr]; with_reducible rfl) ?_ | ((with_reducible refine chk_r ?_); refine r_callF (by simp only [CA, simprocAttr]; rfl) (by exact rfl) (by simp only [CA, simprocAttr]; rfl) rfl ?_) | ((with_reducible refine chk_h ?_); refine hr_callF (by simp only [CA, simprocAttr]; rfl) (by exact rfl) (by simp only [CA, simprocAttr]; rfl) rfl ?_) | ((with_reducible refine chk_r ?_); refine r_callP (by simp only [CA, simprocAttr]; rfl) (by simp only [CA, simprocAttr]; rfl) (by first | exact q1 _) rfl ?_) | ((with_reducible refine chk_h ?_); refine hr_callP (by simp only [CA, simprocAttr]; rfl) (by simp only [CA, simprocAttr]; rfl) (by first | exact q1 _) rfl ?_) | ((with_reducible refine chk_h ?_); refine hr_callP1 (by simp only [CA, simprocAttr]; rfl) (by simp only [CA, simprocAttr]; rfl) (by simp (disch := omega) only [CA, Nat.reduceEqDiff, ↓reduceIte, firstTok_nil, firstTok_sl, firstTok_sl0, firstTok_i, firstTok_b, firstTok_ag, firstTok_p, firstTok_s]; rfl) (by first | exact q1 _) rfl ?_) | ((with_reducible refine chk_r ?_); refine r_callG (by simp only [CA, simprocAttr]; rfl) (by simp only [CA, simprocAttr]; rfl) (by simp only [CA, simprocAttr]; rfl) (by intro hg; (try simp only [BO] at hg); first | exact q1 _) rfl ?_) | ((with_reducible refine chk_h ?_); refine hr_callG (by simp only [CA, simprocAttr]; rfl) (by simp only [CA, simprocAttr]; rfl) (by simp only [CA, simprocAttr]; rfl) (by intro hg; (try simp only [BO] at hg); first | exact q1 _) rfl ?_) | ((with_reducible refine chk_h ?_); refine hr_app (by simp (disch := omega) only [c', RG20, EVA, plug, eq_self, simprocAttr]; with_reducible rfl) rfl ?_) | (with_reducible refine k_condP (by simp only [GA, simprocAttr]; rfl) (by first | (simp only [BO]; rfl) | rfl) (fun ht => ?_) (fun ht => ?_) <;> try (first | exact False.elim ht | exact absurd rfl ht | exact absurd trivial ht | exact Bool.noConfusion ht)) | (with_reducible refine k_ret ?_; repeat with_reducible (first | refine ret_thru ?_ | refine ret_blk ?_ | refine fin ?_)) | (with_reducible refine k_exit ?_; repeat with_reducible (first | refine thru ?_ | refine out_blk ?_ | refine pass (by decide) ?_)) | ((first | refine post1 ?_ | refine post2 ?_ | refine post3 ?_); simp only [GA, simprocAttr]) | refine post0 ?_
  exact ends_nil2
end Go.Proofs.YtjaihaccehaicaaDoor
set_option linter.unusedVariables false
set_option linter.unusedSimpArgs false
namespace Go.Proofs.YtjaihaccehaicaaDoor
open Go Go.Am Go.Proofs
theorem RG54 : (type_of% @c54r0.eq_1) ∧ (type_of% @c54r1.eq_1) ∧ (type_of% @c54r2.eq_1) ∧ (type_of% @c54r3.eq_1) ∧ (type_of% @c54r4.eq_1) ∧ (type_of% @c54r5.eq_1) ∧ (type_of% @c54r6.eq_1) ∧ (type_of% @c54r8.eq_1) := ⟨@c54r0.eq_1, @c54r1.eq_1, @c54r2.eq_1, @c54r3.eq_1, @c54r4.eq_1, @c54r5.eq_1, @c54r6.eq_1, @c54r8.eq_1⟩
theorem d54 (n : Nat) (hn : n ≤ 100) : PC Tryd.prog 54 [.i .i64 (n : Int)] (vi (rngI n)) := by
 refine pc_fn fn54 (by simp only [AV.plains, AV.plain, il_plain, bl_plain, Bool.and_true, Bool.true_and, Bool.and_self, il_plain]) (by simp only [AV.plains, AV.plain, il_plain, bl_plain, Bool.and_true, Bool.true_and, Bool.and_self, il_plain]) (Nat.le_of_ble_eq_true rfl) ?_
 rw [initSt1]
 repeat' first | (with_reducible first | refine k_seq ?_ | refine k_skip ?_ | refine k_blkS ?_ | refine k_blkR ?_ | refine k_blkC ?_ | refine k_blkH ?_ | refine k_blkB ?_ | refine k_blkK ?_ | refine k_blkE ?_ | refine k_reg ?_) | with_reducible refine r_done ?_ | with_reducible refine s_go (by simp (disch := omega) only [RG54, EVA, plug, eq_self, simprocAttr]; with_reducible rfl) ?_ | ((with_reducible refine chk_r ?_); refine r_callF (by simp only [CA, simprocAttr]; rfl) (by exact rfl) (by simp only [CA, simprocAttr]; rfl) rfl ?_) | (with_reducible refine k_condP (by simp only [GA, simprocAttr]; rfl) (by first | (simp only [BO]; rfl) | rfl) (fun ht => ?_) (fun ht => ?_) <;> try (first | exact False.elim ht | exact absurd rfl ht | exact absurd trivial ht | exact Bool.noConfusion ht)) | (with_reducible refine k_ret ?_; repeat with_reducible (first | refine ret_thru ?_ | refine ret_blk ?_ | refine fin ?_)) | (with_reducible refine k_exit ?_; repeat with_reducible (first | refine thru ?_ | refine out_blk ?_ | refine pass (by decide) ?_)) | ((first | refine post1 ?_ | refine post2 ?_ | refine post3 ?_); simp only [GA, simprocAttr]) | refine post0 ?_
 refine w_virt 1 3 rfl ?_
 refine k_blk (k_loopS (X := Nat) [3, 5, 6] n (fun k y => [(3, .sl y 0 k 1), (5, .i .i64 (n : Int)), (6, .i .i64 (k : Int))]) (fun k y h => y ≠ 0 ∧ h.m y = some (.cells true (il (rngI k)))) _ (by simp only [Am.keep, List.map_cons, List.map_nil, GA, simprocAttr]; try rfl) ⟨?_, by simp (disch := omega) only [RG54, EVA, plug, eq_self, simprocAttr] <;> rfl⟩ ?_)
 ·simp only [AH.bump_nx]; omega
 rintro k y h hk ⟨hy, hmy⟩ ok pos
 have ly := ok.m hmy
 by_cases klt : k < n
 ·have klt' : (k : Int) < n := by omega
  have rs := rngI_succ k
  have rl := rngI_len k
  repeat' first | (with_reducible first | refine k_seq ?_ | refine k_skip ?_ | refine k_blkS ?_ | refine k_blkR ?_ | refine k_blkC ?_ | refine k_blkH ?_ | refine k_blkB ?_ | refine k_blkK ?_ | refine k_blkE ?_ | refine k_reg ?_) | with_reducible refine r_done ?_ | with_reducible refine s_go (by simp (disch := omega) only [klt', hmy, row_m hmy, hy, il_len, rl, RG54, EVA, plug, eq_self, simprocAttr]; with_reducible rfl) ?_ | ((with_reducible refine chk_r ?_); refine r_callF (by simp only [CA, simprocAttr]; rfl) (by exact rfl) (by simp only [CA, simprocAttr]; rfl) rfl ?_) | (with_reducible refine k_condP (by simp only [GA, simprocAttr]; rfl) (by first | (simp only [BO]; rfl) | rfl) (fun ht => ?_) (fun ht => ?_) <;> try (first | exact False.elim ht | exact absurd rfl ht | exact absurd trivial ht | exact Bool.noConfusion ht)) | (with_reducible refine k_ret ?_; repeat with_reducible (first | refine ret_thru ?_ | refine ret_blk ?_ | refine fin ?_)) | (with_reducible refine k_exit ?_; repeat with_reducible (first | refine thru ?_ | refine out_blk ?_ | refine pass (by decide) ?_)) | ((first | refine post1 ?_ | refine post2 ?_ | refine post3 ?_); simp only [GA, simprocAttr]) | refine post0 ?_
  refine ⟨klt, _, (by simp only [Am.keep, List.map_cons, List.map_nil, GA, simprocAttr]; try rfl), ?_, ?_⟩
  ·first | omega | (simp only [AH.bump_nx, AH.set_nx, AH.kill_nx]; omega)
  ·rw [rs]
   simp (disch := omega) only [RG54, EVA, plug, eq_self, simprocAttr] <;> rfl
 ·obtain rfl : k = n := by omega
  have klt' : ¬ (k : Int) < k := by omega
  repeat' first | (with_reducible first | refine k_seq ?_ | refine k_skip ?_ | refine k_blkS ?_ | refine k_blkR ?_ | refine k_blkC ?_ | refine k_blkH ?_ | refine k_blkB ?_ | refine k_blkK ?_ | refine k_blkE ?_ | refine k_reg ?_) | with_reducible refine r_done ?_ | with_reducible refine s_go (by simp (disch := omega) only [klt', RG54, EVA, plug, eq_self, simprocAttr]; with_reducible rfl) ?_ | ((with_reducible refine chk_r ?_); refine r_callF (by simp only [CA, simprocAttr]; rfl) (by exact rfl) (by simp only [CA, simprocAttr]; rfl) rfl ?_) | (with_reducible refine k_condP (by simp only [GA, simprocAttr]; rfl) (by first | (simp only [BO]; rfl) | rfl) (fun ht => ?_) (fun ht => ?_) <;> try (first | exact False.elim ht | exact absurd rfl ht | exact absurd trivial ht | exact Bool.noConfusion ht)) | (with_reducible refine k_ret ?_; repeat with_reducible (first | refine ret_thru ?_ | refine ret_blk ?_ | refine fin ?_)) | (with_reducible refine k_exit ?_; repeat with_reducible (first | refine thru ?_ | refine out_blk ?_ | refine pass (by decide) ?_)) | ((first | refine post1 ?_ | refine post2 ?_ | refine post3 ?_); simp only [GA, simprocAttr]) | refine post0 ?_
  have rl := rngI_len k
  have e : vi (rngI k) = .vs k (il (rngI k)) := by rw [vi, rl]
  rw [e]
  exact ends_sl (k := 1) hmy (by rw [il_len, rl, Nat.mul_one])
theorem gb_some {l : List Sz} {m : List Hd} (hm : m.length ≤ 40) (hall : ∀ j, j < m.length → ∃ i, i < l.length ∧ (fitS m (zD l i)).testBit j = true) {left : Nat} {out : List Int} (h : GI l m left out) (l0 : left ≠ 0) : ∃ b : Nat, gbS l m left l.length = b ∧ b < l.length ∧ 0 < cnt l m left b ∧ rbS l m left l.length = ((b : Int), (cnt l m left b : Int)) := by
 rcases gb_rb (l := l) (m := m) (left := left) (k := l.length) with ⟨h1, h2, h3⟩ | q
 ·exfalso
  obtain ⟨j, hj⟩ : ∃ j, left.testBit j = true := Classical.byContradiction fun q => l0 (Nat.eq_of_testBit_eq fun i => by
   rw [Nat.zero_testBit, Bool.eq_false_iff]; exact fun r => q ⟨i, r⟩)
  have hjm : j < m.length := Classical.byContradiction fun q => by
   rw [Nat.testBit_lt_two_pow (Nat.lt_of_lt_of_le h.lt (Nat.pow_le_pow_right (by omega) (Nat.le_of_not_lt q)))] at hj; cases hj
  obtain ⟨i, hi, r⟩ := hall j hjm
  have := h3 i hi
  have : 0 < cnt l m left i := pop_one.2 ⟨j, by omega, by rw [Nat.testBit_and, r, hj]; rfl⟩
  omega
 ·exact q
theorem rbS_bd (l : List Sz) (m : List Hd) (left : Nat) (k : Nat) : 0 ≤ (rbS l m left k).2 ∧ (rbS l m left k).2 ≤ 64 := by
 have cb : ∀ i, cnt l m left i ≤ 64 := fun i => by unfold cnt; rw [popA_cB]; exact cB_bd _ _
 rcases gb_rb (l := l) (m := m) (left := left) (k := k) with ⟨h1, h2, h3⟩ | ⟨b, h1, h2, h3, h4⟩
 ·rw [h2]; simp only; omega
 ·rw [h4]; have := cb b; simp only; omega
theorem RG21 : (type_of% @c21r0.eq_1) ∧ (type_of% @c21r1.eq_1) ∧ (type_of% @c21r2.eq_1) ∧ (type_of% @c21r3.eq_1) ∧ (type_of% @c21r4.eq_1) ∧ (type_of% @c21r5.eq_1) ∧ (type_of% @c21r6.eq_1) ∧ (type_of% @c21r7.eq_1) ∧ (type_of% @c21r8.eq_1) ∧ (type_of% @c21r9.eq_1) ∧ (type_of% @c21r10.eq_1) ∧ (type_of% @c21r11.eq_1) ∧ (type_of% @c21r12.eq_1) ∧ (type_of% @c21r13.eq_1) ∧ (type_of% @c21r14.eq_1) ∧ (type_of% @c21r15.eq_1) ∧ (type_of% @c21r16.eq_1) ∧ (type_of% @c21r17.eq_1) ∧ (type_of% @c21r18.eq_1) ∧ (type_of% @c21r20.eq_1) ∧ (type_of% @c21r21.eq_1) ∧ (type_of% @c21r22.eq_1) ∧ (type_of% @c21r24.eq_1) ∧ (type_of% @c21r26.eq_1) := ⟨@c21r0.eq_1, @c21r1.eq_1, @c21r2.eq_1, @c21r3.eq_1, @c21r4.eq_1, @c21r5.eq_1, @c21r6.eq_1, @c21r7.eq_1, @c21r8.eq_1, @c21r9.eq_1, @c21r10.eq_1, @c21r11.eq_1, @c21r12.eq_1, @c21r13.eq_1, @c21r14.eq_1, @c21r15.eq_1, @c21r16.eq_1, @c21r17.eq_1, @c21r18.eq_1, @c21r20.eq_1, @c21r21.eq_1, @c21r22.eq_1, @c21r24.eq_1, @c21r26.eq_1⟩
set_option maxHeartbeats 2000000 in
theorem d21 (l : List Sz) (m : List Hd) (hl : l.length ≤ 9223372036854775807) (hm : m.length ≤ 9223372036854775807) : PC Tryd.prog 21 [vZ l, vH m] (.tu [vi (grR l m).1, .i .i64 (grR l m).2]) := by
 have q1 := pc50 l m hl hm
 unfold grR
 refine pc_fn fn21 (by simp only [AV.plains, AV.plain, il_plain, bl_plain, Bool.and_true, Bool.true_and, Bool.and_self, fleZ_plain, fleH_plain, il_plain]) (by simp only [AV.plains, AV.plain, il_plain, bl_plain, Bool.and_true, Bool.true_and, Bool.and_self, fleZ_plain, fleH_plain, il_plain]) (Nat.le_of_ble_eq_true rfl) ?_
 rw [initSt2]
 by_cases c : chk l m = 0
 ·rw [if_neg (by simp [c])]
  rw [c] at q1
  have L := szsOk_iff.1 (chk_ok c).1
  have M := hdsOk_iff.1 (chk_ok c).2
  have q54 := d54 l.length (by omega)
  have ra := rngI_asc l.length
  have qa := pc52 l m (rngI l.length) (chk_ok c).1 (chk_ok c).2 (by rw [rngI_len]; omega) (pk_of_asc ra.1 ra.2)
  have pw := pop_whole (n := m.length) (by omega)
  have G0 := GI.start l m
  cases ca : cvsB l m (rngI l.length) with
  | false =>
    rw [ca] at qa
    have : ∃ j, j < m.length ∧ ∀ i, i < l.length → (fitS m (zD l i)).testBit j = false := Classical.byContradiction fun q => by
     have : cvsB l m (rngI l.length) = true := all_iff.2 fun j hj => Classical.byContradiction fun r => q ⟨j, hj, fun i hi => by
      rw [Bool.eq_false_iff]; exact fun s => r ⟨i, hi, s⟩⟩
     rw [ca] at this; cases this
    obtain ⟨j, hj, hn⟩ := this
    rw [gr_stuck hn (by rw [Nat.testBit_two_pow_sub_one]; exact decide_eq_true hj)]
    repeat' first | (with_reducible first | refine k_seq ?_ | refine k_skip ?_ | refine k_blkS ?_ | refine k_blkR ?_ | refine k_blkC ?_ | refine k_blkH ?_ | refine k_blkB ?_ | refine k_blkK ?_ | refine k_blkE ?_ | refine k_reg ?_) | with_reducible refine r_done ?_ | with_reducible refine s_go (by simp (disch := omega) only [RG21, EVA, plug, eq_self, simprocAttr]; with_reducible rfl) ?_ | ((with_reducible refine chk_r ?_); refine r_callF (by simp only [CA, simprocAttr]; rfl) (by exact rfl) (by simp only [CA, simprocAttr]; rfl) rfl ?_) | ((with_reducible refine chk_r ?_); refine r_callP (by simp only [CA, simprocAttr]; rfl) (by simp only [CA, simprocAttr]; rfl) (by first | exact q1 _ | exact q54 _ | exact qa _) rfl ?_) | ((with_reducible refine chk_r ?_); refine r_callG (by simp only [CA, simprocAttr]; rfl) (by simp only [CA, simprocAttr]; rfl) (by simp only [CA, simprocAttr]; rfl) (by intro hg; (try simp only [BO] at hg); first | exact q1 _ | exact q54 _ | exact qa _) rfl ?_) | (with_reducible refine k_condP (by simp only [GA, simprocAttr]; rfl) (by first | (simp only [BO]; rfl) | rfl) (fun ht => ?_) (fun ht => ?_) <;> try (first | exact False.elim ht | exact absurd rfl ht | exact absurd trivial ht | exact Bool.noConfusion ht)) | (with_reducible refine k_ret ?_; repeat with_reducible (first | refine ret_thru ?_ | refine ret_blk ?_ | refine fin ?_)) | (with_reducible refine k_exit ?_; repeat with_reducible (first | refine thru ?_ | refine out_blk ?_ | refine pass (by decide) ?_)) | ((first | refine post1 ?_ | refine post2 ?_ | refine post3 ?_); simp only [GA, simprocAttr]) | refine post0 ?_
    exact ends_nil2
  | true =>
    rw [ca] at qa
    have hall := all_iff.1 ca
    repeat' first | (with_reducible first | refine k_seq ?_ | refine k_skip ?_ | refine k_blkS ?_ | refine k_blkR ?_ | refine k_blkC ?_ | refine k_blkH ?_ | refine k_blkB ?_ | refine k_blkK ?_ | refine k_blkE ?_ | refine k_reg ?_) | with_reducible refine r_done ?_ | with_reducible refine s_go (by simp (disch := omega) only [RG21, EVA, plug, eq_self, simprocAttr]; with_reducible rfl) ?_ | ((with_reducible refine chk_r ?_); refine r_callF (by simp only [CA, simprocAttr]; rfl) (by exact rfl) (by simp only [CA, simprocAttr]; rfl) rfl ?_) | ((with_reducible refine chk_r ?_); refine r_callP (by simp only [CA, simprocAttr]; rfl) (by simp only [CA, simprocAttr]; rfl) (by first | exact q1 _ | exact q54 _ | exact qa _) rfl ?_) | ((with_reducible refine chk_r ?_); refine r_callG (by simp only [CA, simprocAttr]; rfl) (by simp only [CA, simprocAttr]; rfl) (by simp only [CA, simprocAttr]; rfl) (by intro hg; (try simp only [BO] at hg); first | exact q1 _ | exact q54 _ | exact qa _) rfl ?_) | (with_reducible refine k_condP (by simp only [GA, simprocAttr]; rfl) (by first | (simp only [BO]; rfl) | rfl) (fun ht => ?_) (fun ht => ?_) <;> try (first | exact False.elim ht | exact absurd rfl ht | exact absurd trivial ht | exact Bool.noConfusion ht)) | (with_reducible refine k_ret ?_; repeat with_reducible (first | refine ret_thru ?_ | refine ret_blk ?_ | refine fin ?_)) | (with_reducible refine k_exit ?_; repeat with_reducible (first | refine thru ?_ | refine out_blk ?_ | refine pass (by decide) ?_)) | ((first | refine post1 ?_ | refine post2 ?_ | refine post3 ?_); simp only [GA, simprocAttr]) | refine post0 ?_
    refine w_virt 1 7 rfl ?_
    generalize 2 ^ m.length - 1 = wh at *
    generalize hR : grN l m (m.length + 1) wh [] = R
    refine k_blk (k_loopW (X := Nat × Nat × Nat × List Int) [0, 1, 7] (fun x => [(0, vZ l), (1, vH m), (7, .sl x.1 0 x.2.2.2.length 1)]) (fun x => x.2.1)
     (fun x h => x.1 ≠ 0 ∧ h.m x.1 = some (.cells true (il x.2.2.2)) ∧ GI l m x.2.2.1 x.2.2.2 ∧ x.2.2.2.length + x.2.1 ≤ 41 ∧ popA 64 x.2.2.1 < x.2.1 ∧ grN l m x.2.1 x.2.2.1 x.2.2.2 = R) (_, m.length + 1, wh, []) (by simp only [Am.keep, List.map_cons, List.map_nil, GA, simprocAttr]; try rfl) ⟨?_, by simp (disch := omega) only [RG21, EVA, plug, eq_self, simprocAttr] <;> rfl, G0, by show 0 + (m.length + 1) ≤ 41; omega, Nat.lt_succ_of_le pw, hR⟩ ?_)
    ·simp only [AH.bump_nx]; omega
    rintro ⟨y, t, left, out⟩ h ⟨hy, hmy, G, ho, hpop, e⟩ ok pos
    simp only at hy hmy G ho hpop e ⊢
    have ly := ok.m hmy
    cases t with
    | zero => exact absurd hpop (Nat.not_lt_zero _)
    | succ t =>
    rw [grN] at e
    have qc := pc52 l m out (chk_ok c).1 (chk_ok c).2 (by omega) G.pk
    by_cases l0 : left = 0
    ·rw [if_pos l0] at e
     rw [G.zero.2 l0] at qc
     rw [← e]
     repeat' first | (with_reducible first | refine k_seq ?_ | refine k_skip ?_ | refine k_blkS ?_ | refine k_blkR ?_ | refine k_blkC ?_ | refine k_blkH ?_ | refine k_blkB ?_ | refine k_blkK ?_ | refine k_blkE ?_ | refine k_reg ?_) | with_reducible refine r_done ?_ | with_reducible refine s_go (by simp (disch := omega) only [RG21, EVA, plug, eq_self, simprocAttr]; with_reducible rfl) ?_ | ((with_reducible refine chk_r ?_); refine r_callF (by simp only [CA, simprocAttr]; rfl) (by exact rfl) (by simp only [CA, simprocAttr]; rfl) rfl ?_) | ((with_reducible refine chk_r ?_); refine r_callP (by simp only [CA, simprocAttr]; rfl) (by simp only [CA, simprocAttr]; rfl) (by first | ((refine PC.at qc rfl ?F; case F => (refine .cons (.same (fleZ_plain _)) (.cons (.same (fleH_plain _)) (.cons (.row (by simp (disch := omega) only [row_m hmy, RG21, EVA, plug, eq_self, simprocAttr] <;> rfl) (il_plain _)) .nil)))); all_goals fail)) rfl ?_) | ((with_reducible refine chk_r ?_); refine r_callG (by simp only [CA, simprocAttr]; rfl) (by simp only [CA, simprocAttr]; rfl) (by simp only [CA, simprocAttr]; rfl) (by intro hg; (try simp only [BO] at hg); first | ((refine PC.at qc rfl ?F; case F => (refine .cons (.same (fleZ_plain _)) (.cons (.same (fleH_plain _)) (.cons (.row (by simp (disch := omega) only [row_m hmy, RG21, EVA, plug, eq_self, simprocAttr] <;> rfl) (il_plain _)) .nil)))); all_goals fail)) rfl ?_) | (with_reducible refine k_condP (by simp only [GA, simprocAttr]; rfl) (by first | (simp only [BO]; rfl) | rfl) (fun ht => ?_) (fun ht => ?_) <;> try (first | exact False.elim ht | exact absurd rfl ht | exact absurd trivial ht | exact Bool.noConfusion ht)) | (with_reducible refine k_ret ?_; repeat with_reducible (first | refine ret_thru ?_ | refine ret_blk ?_ | refine fin ?_)) | (with_reducible refine k_exit ?_; repeat with_reducible (first | refine thru ?_ | refine out_blk ?_ | refine pass (by decide) ?_)) | ((first | refine post1 ?_ | refine post2 ?_ | refine post3 ?_); simp only [GA, simprocAttr]) | refine post0 ?_
     exact ends_sl2 (k := 1) hmy (by rw [il_len, Nat.mul_one])
    ·rw [if_neg l0] at e
     rw [show cvsB l m out = false from by rw [Bool.eq_false_iff]; exact fun q => l0 (G.zero.1 q)] at qc
     repeat' first | (with_reducible first | refine k_seq ?_ | refine k_skip ?_ | refine k_blkS ?_ | refine k_blkR ?_ | refine k_blkC ?_ | refine k_blkH ?_ | refine k_blkB ?_ | refine k_blkK ?_ | refine k_blkE ?_ | refine k_reg ?_) | with_reducible refine r_done ?_ | with_reducible refine s_go (by simp (disch := omega) only [RG21, EVA, plug, eq_self, simprocAttr]; with_reducible rfl) ?_ | ((with_reducible refine chk_r ?_); refine r_callF (by simp only [CA, simprocAttr]; rfl) (by exact rfl) (by simp only [CA, simprocAttr]; rfl) rfl ?_) | ((with_reducible refine chk_r ?_); refine r_callP (by simp only [CA, simprocAttr]; rfl) (by simp only [CA, simprocAttr]; rfl) (by first | ((refine PC.at qc rfl ?F; case F => (refine .cons (.same (fleZ_plain _)) (.cons (.same (fleH_plain _)) (.cons (.row (by simp (disch := omega) only [row_m hmy, RG21, EVA, plug, eq_self, simprocAttr] <;> rfl) (il_plain _)) .nil)))); all_goals fail)) rfl ?_) | ((with_reducible refine chk_r ?_); refine r_callG (by simp only [CA, simprocAttr]; rfl) (by simp only [CA, simprocAttr]; rfl) (by simp only [CA, simprocAttr]; rfl) (by intro hg; (try simp only [BO] at hg); first | ((refine PC.at qc rfl ?F; case F => (refine .cons (.same (fleZ_plain _)) (.cons (.same (fleH_plain _)) (.cons (.row (by simp (disch := omega) only [row_m hmy, RG21, EVA, plug, eq_self, simprocAttr] <;> rfl) (il_plain _)) .nil)))); all_goals fail)) rfl ?_) | (with_reducible refine k_condP (by simp only [GA, simprocAttr]; rfl) (by first | (simp only [BO]; rfl) | rfl) (fun ht => ?_) (fun ht => ?_) <;> try (first | exact False.elim ht | exact absurd rfl ht | exact absurd trivial ht | exact Bool.noConfusion ht)) | (with_reducible refine k_ret ?_; repeat with_reducible (first | refine ret_thru ?_ | refine ret_blk ?_ | refine fin ?_)) | (with_reducible refine k_exit ?_; repeat with_reducible (first | refine thru ?_ | refine out_blk ?_ | refine pass (by decide) ?_)) | ((first | refine post1 ?_ | refine post2 ?_ | refine post3 ?_); simp only [GA, simprocAttr]) | refine post0 ?_
     refine k_blk (k_loopS (X := Unit) [0, 1, 7, 8, 9, 33, 34, 35] l.length (fun k _ => [(0, vZ l), (1, vH m), (7, .sl y 0 out.length 1), (8, .i .i64 (rbS l m left k).1), (9, .i .i64 (rbS l m left k).2), (33, vZ l), (34, .i .i64 l.length), (35, .i .i64 (k : Int))]) (fun k _ h' => h'.m y = some (.cells true (il out))) () (by simp only [Am.keep, List.map_cons, List.map_nil, GA, simprocAttr]; try rfl) hmy ?_)
     rintro k _ h1 hk hm1 ok1 pos1
     have ly1 := ok1.m hm1
     by_cases klt : k < l.length
     ·have klt' : (k : Int) < l.length := by omega
      have rT := rdZ klt
      have hs := L.2.1 k klt
      have y11 : ¬ y = h1.nx + 1 + 3 := by omega
      have rb := rbS_bd l m left k
      have eT : (rbS l m left k).2 < (cnt l m left k : Nat) → rbS l m left (k + 1) = ((k : Int), (cnt l m left k : Int)) := fun h => if_pos h
      have eF : ¬ (rbS l m left k).2 < (cnt l m left k : Nat) → rbS l m left (k + 1) = rbS l m left k := fun h => if_neg h
      have ec : cnt l m left k = cB (fitS m (zD l k) &&& left) m.length := pop_cB (Nat.and_lt_two_pow _ G.lt) (by omega)
      have pr : rbS l m left k = ((rbS l m left k).1, (rbS l m left k).2) := rfl
      generalize hr1 : (rbS l m left k).1 = r1 at *
      generalize hr2 : (rbS l m left k).2 = r2 at *
      repeat' first | (with_reducible first | refine k_seq ?_ | refine k_skip ?_ | refine k_blkS ?_ | refine k_blkR ?_ | refine k_blkC ?_ | refine k_blkH ?_ | refine k_blkB ?_ | refine k_blkK ?_ | refine k_blkE ?_ | refine k_reg ?_) | with_reducible refine r_done ?_ | with_reducible refine s_go (by simp (disch := omega) only [klt', rT, RG21, EVA, plug, eq_self, simprocAttr]; with_reducible rfl) ?_ | ((with_reducible refine chk_r ?_); refine r_callF (by simp only [CA, simprocAttr]; rfl) (by exact rfl) (by simp only [CA, simprocAttr]; rfl) rfl ?_) | (with_reducible refine k_condP (by simp only [GA, simprocAttr]; rfl) (by first | (simp only [BO]; rfl) | rfl) (fun ht => ?_) (fun ht => ?_) <;> try (first | exact False.elim ht | exact absurd rfl ht | exact absurd trivial ht | exact Bool.noConfusion ht)) | (with_reducible refine k_ret ?_; repeat with_reducible (first | refine ret_thru ?_ | refine ret_blk ?_ | refine fin ?_)) | (with_reducible refine k_exit ?_; repeat with_reducible (first | refine thru ?_ | refine out_blk ?_ | refine pass (by decide) ?_)) | ((first | refine post1 ?_ | refine post2 ?_ | refine post3 ?_); simp only [GA, simprocAttr]) | refine post0 ?_
      refine k_blk (k_loopS (X := Unit) [0, 1, 7, 8, 9, 10, 11, 12, 33, 34, 35, 40, 41, 42] m.length (fun j _ => [(0, vZ l), (1, vH m), (7, .sl y 0 out.length 1), (8, .i .i64 r1), (9, .i .i64 r2), (10, .i .i64 (k : Int)), (11, .p (h1.nx + 1 + 3) 0), (12, .i .i64 ((cB (fitS m (zD l k) &&& left) j : Nat) : Int)), (33, vZ l), (34, .i .i64 l.length), (35, .i .i64 (k : Int)), (40, vH m), (41, .i .i64 m.length), (42, .i .i64 (j : Int))])
       (fun j _ h' => h'.m y = some (.cells true (il out)) ∧ h'.m (h1.nx + 1 + 3) = some (.cells true (eZ (zD l k)))) () (by simp only [Am.keep, List.map_cons, List.map_nil, GA, simprocAttr]; try rfl) ⟨by simp (disch := omega) only [hm1, y11, RG21, EVA, plug, eq_self, simprocAttr], by simp (disch := omega) only [RG21, EVA, plug, eq_self, simprocAttr] <;> rfl⟩ ?_)
      rintro j _ h2 hj ⟨hm2, hm11⟩ ok2 pos2
      have ly2 := ok2.m hm2
      have l11 := ok2.m hm11
      by_cases jlt : j < m.length
      ·have jlt' : (j : Int) < m.length := by omega
       have rJ := rdH jlt
       have q45 := pc53 (zD l k) (hD m j) hs (M.2.1 j jlt)
       have q55 := pc68 l (hD m j) out (chk_ok c).1 (M.2.1 j jlt) (by omega) G.pk
       have gb := G.bit j jlt
       have cbd := cB_bd (fitS m (zD l k) &&& left) j
       have cs : cB (fitS m (zD l k) &&& left) (j + 1) = cB (fitS m (zD l k) &&& left) j + if (fitB (zD l k) (hD m j) && left.testBit j) = true then 1 else 0 := by
        have : (fitS m (zD l k)).testBit j = fitB (zD l k) (hD m j) := by
         rw [Bool.eq_iff_iff, fitS_bit]; exact ⟨fun q => q.2, fun q => ⟨jlt, q⟩⟩
        rw [cB, Nat.testBit_and, this]
       have ws : ∀ N : Nat, N ≤ 100 → IntKind.i64.wrap ((N : Int) + 1) = ((N + 1 : Nat) : Int) := fun N h => by rw [show (N : Int) + 1 = ((N + 1 : Nat) : Int) by omega]; exact wrap64 (by omega) (by omega)
       have w1 := ws (cB (fitS m (zD l k) &&& left) j) (by omega)
       generalize cB (fitS m (zD l k) &&& left) (j + 1) = n1 at *
       generalize cB (fitS m (zD l k) &&& left) j = n0 at *
       cases f0 : fitB (zD l k) (hD m j) with
       | false =>
         rw [f0] at q45 cs
         have en : n1 = n0 := by rw [cs]; simp
         repeat' first | (with_reducible first | refine k_seq ?_ | refine k_skip ?_ | refine k_blkS ?_ | refine k_blkR ?_ | refine k_blkC ?_ | refine k_blkH ?_ | refine k_blkB ?_ | refine k_blkK ?_ | refine k_blkE ?_ | refine k_reg ?_) | with_reducible refine r_done ?_ | with_reducible refine s_go (by simp (disch := omega) only [jlt', rJ, eZ_rd, eH_rd, hm11, row_m hm11, read_row (row_m hm11), RG21, EVA, plug, eq_self, simprocAttr]; with_reducible rfl) ?_ | ((with_reducible refine chk_r ?_); refine r_callF (by simp only [CA, simprocAttr]; rfl) (by exact rfl) (by simp only [CA, simprocAttr]; rfl) rfl ?_) | ((with_reducible refine chk_r ?_); refine r_callP (by simp only [CA, simprocAttr]; rfl) (by simp only [CA, simprocAttr]; rfl) (by first | exact q45 _) rfl ?_) | ((with_reducible refine chk_r ?_); refine r_callG (by simp only [CA, simprocAttr]; rfl) (by simp only [CA, simprocAttr]; rfl) (by simp only [CA, simprocAttr]; rfl) (by intro hg; (try simp only [BO] at hg); first | exact q45 _) rfl ?_) | (with_reducible refine k_condP (by simp only [GA, simprocAttr]; rfl) (by first | (simp only [BO]; rfl) | rfl) (fun ht => ?_) (fun ht => ?_) <;> try (first | exact False.elim ht | exact absurd rfl ht | exact absurd trivial ht | exact Bool.noConfusion ht)) | (with_reducible refine k_ret ?_; repeat with_reducible (first | refine ret_thru ?_ | refine ret_blk ?_ | refine fin ?_)) | (with_reducible refine k_exit ?_; repeat with_reducible (first | refine thru ?_ | refine out_blk ?_ | refine pass (by decide) ?_)) | ((first | refine post1 ?_ | refine post2 ?_ | refine post3 ?_); simp only [GA, simprocAttr]) | refine post0 ?_
         exact ⟨jlt, (), (by rw [en]; exact (by simp only [Am.keep, List.map_cons, List.map_nil, GA, simprocAttr]; try rfl)), by simp (disch := omega) only [hm2, RG21, EVA, plug, eq_self, simprocAttr], by simp (disch := omega) only [hm11, RG21, EVA, plug, eq_self, simprocAttr]⟩
       | true =>
         rw [f0] at q45 cs
         cases cd : cvdB l (hD m j) out with
         | true =>
           rw [cd] at q55 gb
           have lb : left.testBit j = false := by rw [Bool.eq_false_iff]; exact fun q => by have := gb.1 q; cases this
           have en : n1 = n0 := by rw [cs, lb]; simp
           repeat' first | (with_reducible first | refine k_seq ?_ | refine k_skip ?_ | refine k_blkS ?_ | refine k_blkR ?_ | refine k_blkC ?_ | refine k_blkH ?_ | refine k_blkB ?_ | refine k_blkK ?_ | refine k_blkE ?_ | refine k_reg ?_) | with_reducible refine r_done ?_ | with_reducible refine s_go (by simp (disch := omega) only [jlt', rJ, eZ_rd, eH_rd, hm11, row_m hm11, read_row (row_m hm11), RG21, EVA, plug, eq_self, simprocAttr]; with_reducible rfl) ?_ | ((with_reducible refine chk_r ?_); refine r_callF (by simp only [CA, simprocAttr]; rfl) (by exact rfl) (by simp only [CA, simprocAttr]; rfl) rfl ?_) | ((with_reducible refine chk_r ?_); refine r_callP (by simp only [CA, simprocAttr]; rfl) (by simp only [CA, simprocAttr]; rfl) (by first | exact q45 _ | ((refine PC.at q55 rfl ?F; case F => (refine .cons (.same (fleZ_plain _)) (.cons (.same rfl) (.cons (.row (by simp (disch := omega) only [row_m hm2, RG21, EVA, plug, eq_self, simprocAttr] <;> rfl) (il_plain _)) .nil)))); all_goals fail)) rfl ?_) | ((with_reducible refine chk_r ?_); refine r_callG (by simp only [CA, simprocAttr]; rfl) (by simp only [CA, simprocAttr]; rfl) (by simp only [CA, simprocAttr]; rfl) (by intro hg; (try simp only [BO] at hg); first | exact q45 _ | ((refine PC.at q55 rfl ?F; case F => (refine .cons (.same (fleZ_plain _)) (.cons (.same rfl) (.cons (.row (by simp (disch := omega) only [row_m hm2, RG21, EVA, plug, eq_self, simprocAttr] <;> rfl) (il_plain _)) .nil)))); all_goals fail)) rfl ?_) | (with_reducible refine k_condP (by simp only [GA, simprocAttr]; rfl) (by first | (simp only [BO]; rfl) | rfl) (fun ht => ?_) (fun ht => ?_) <;> try (first | exact False.elim ht | exact absurd rfl ht | exact absurd trivial ht | exact Bool.noConfusion ht)) | (with_reducible refine k_ret ?_; repeat with_reducible (first | refine ret_thru ?_ | refine ret_blk ?_ | refine fin ?_)) | (with_reducible refine k_exit ?_; repeat with_reducible (first | refine thru ?_ | refine out_blk ?_ | refine pass (by decide) ?_)) | ((first | refine post1 ?_ | refine post2 ?_ | refine post3 ?_); simp only [GA, simprocAttr]) | refine post0 ?_
           exact ⟨jlt, (), (by rw [en]; exact (by simp only [Am.keep, List.map_cons, List.map_nil, GA, simprocAttr]; try rfl)), by simp (disch := omega) only [hm2, RG21, EVA, plug, eq_self, simprocAttr], by simp (disch := omega) only [hm11, RG21, EVA, plug, eq_self, simprocAttr]⟩
         | false =>
           rw [cd] at q55 gb
           have lb : left.testBit j = true := gb.2 rfl
           have en : n1 = n0 + 1 := by rw [cs, lb]; simp
           repeat' first | (with_reducible first | refine k_seq ?_ | refine k_skip ?_ | refine k_blkS ?_ | refine k_blkR ?_ | refine k_blkC ?_ | refine k_blkH ?_ | refine k_blkB ?_ | refine k_blkK ?_ | refine k_blkE ?_ | refine k_reg ?_) | with_reducible refine r_done ?_ | with_reducible refine s_go (by simp (disch := omega) only [jlt', rJ, eZ_rd, eH_rd, hm11, row_m hm11, read_row (row_m hm11), w1, RG21, EVA, plug, eq_self, simprocAttr]; with_reducible rfl) ?_ | ((with_reducible refine chk_r ?_); refine r_callF (by simp only [CA, simprocAttr]; rfl) (by exact rfl) (by simp only [CA, simprocAttr]; rfl) rfl ?_) | ((with_reducible refine chk_r ?_); refine r_callP (by simp only [CA, simprocAttr]; rfl) (by simp only [CA, simprocAttr]; rfl) (by first | exact q45 _ | ((refine PC.at q55 rfl ?F; case F => (refine .cons (.same (fleZ_plain _)) (.cons (.same rfl) (.cons (.row (by simp (disch := omega) only [row_m hm2, RG21, EVA, plug, eq_self, simprocAttr] <;> rfl) (il_plain _)) .nil)))); all_goals fail)) rfl ?_) | ((with_reducible refine chk_r ?_); refine r_callG (by simp only [CA, simprocAttr]; rfl) (by simp only [CA, simprocAttr]; rfl) (by simp only [CA, simprocAttr]; rfl) (by intro hg; (try simp only [BO] at hg); first | exact q45 _ | ((refine PC.at q55 rfl ?F; case F => (refine .cons (.same (fleZ_plain _)) (.cons (.same rfl) (.cons (.row (by simp (disch := omega) only [row_m hm2, RG21, EVA, plug, eq_self, simprocAttr] <;> rfl) (il_plain _)) .nil)))); all_goals fail)) rfl ?_) | (with_reducible refine k_condP (by simp only [GA, simprocAttr]; rfl) (by first | (simp only [BO]; rfl) | rfl) (fun ht => ?_) (fun ht => ?_) <;> try (first | exact False.elim ht | exact absurd rfl ht | exact absurd trivial ht | exact Bool.noConfusion ht)) | (with_reducible refine k_ret ?_; repeat with_reducible (first | refine ret_thru ?_ | refine ret_blk ?_ | refine fin ?_)) | (with_reducible refine k_exit ?_; repeat with_reducible (first | refine thru ?_ | refine out_blk ?_ | refine pass (by decide) ?_)) | ((first | refine post1 ?_ | refine post2 ?_ | refine post3 ?_); simp only [GA, simprocAttr]) | refine post0 ?_
           exact ⟨jlt, (), (by rw [en]; exact (by simp only [Am.keep, List.map_cons, List.map_nil, GA, simprocAttr]; try rfl)), by simp (disch := omega) only [hm2, RG21, EVA, plug, eq_self, simprocAttr], by simp (disch := omega) only [hm11, RG21, EVA, plug, eq_self, simprocAttr]⟩
      ·obtain rfl : j = m.length := by omega
       have jlt' : ¬ (m.length : Int) < m.length := by omega
       rw [← ec]
       generalize cnt l m left k = cc at *
       by_cases c1 : r2 < (cc : Int)
       ·have c1' := eq_true c1
        have es := eT c1
        repeat' first | (with_reducible first | refine k_seq ?_ | refine k_skip ?_ | refine k_blkS ?_ | refine k_blkR ?_ | refine k_blkC ?_ | refine k_blkH ?_ | refine k_blkB ?_ | refine k_blkK ?_ | refine k_blkE ?_ | refine k_reg ?_) | with_reducible refine r_done ?_ | with_reducible refine s_go (by simp (disch := omega) only [jlt', c1', RG21, EVA, plug, eq_self, simprocAttr]; with_reducible rfl) ?_ | ((with_reducible refine chk_r ?_); refine r_callF (by simp only [CA, simprocAttr]; rfl) (by exact rfl) (by simp only [CA, simprocAttr]; rfl) rfl ?_) | (with_reducible refine k_condP (by simp only [GA, simprocAttr]; rfl) (by first | (simp only [BO]; rfl) | rfl) (fun ht => ?_) (fun ht => ?_) <;> try (first | exact False.elim ht | exact absurd rfl ht | exact absurd trivial ht | exact Bool.noConfusion ht)) | (with_reducible refine k_ret ?_; repeat with_reducible (first | refine ret_thru ?_ | refine ret_blk ?_ | refine fin ?_)) | (with_reducible refine k_exit ?_; repeat with_reducible (first | refine thru ?_ | refine out_blk ?_ | refine pass (by decide) ?_)) | ((first | refine post1 ?_ | refine post2 ?_ | refine post3 ?_); simp only [GA, simprocAttr]) | refine post0 ?_
        exact ⟨klt, (), (by rw [es]; exact (by simp only [Am.keep, List.map_cons, List.map_nil, GA, simprocAttr]; try rfl)), by simp (disch := omega) only [hm2, RG21, EVA, plug, eq_self, simprocAttr]⟩
       ·have c1' := eq_false c1
        have es := eF c1
        repeat' first | (with_reducible first | refine k_seq ?_ | refine k_skip ?_ | refine k_blkS ?_ | refine k_blkR ?_ | refine k_blkC ?_ | refine k_blkH ?_ | refine k_blkB ?_ | refine k_blkK ?_ | refine k_blkE ?_ | refine k_reg ?_) | with_reducible refine r_done ?_ | with_reducible refine s_go (by simp (disch := omega) only [jlt', c1', RG21, EVA, plug, eq_self, simprocAttr]; with_reducible rfl) ?_ | ((with_reducible refine chk_r ?_); refine r_callF (by simp only [CA, simprocAttr]; rfl) (by exact rfl) (by simp only [CA, simprocAttr]; rfl) rfl ?_) | (with_reducible refine k_condP (by simp only [GA, simprocAttr]; rfl) (by first | (simp only [BO]; rfl) | rfl) (fun ht => ?_) (fun ht => ?_) <;> try (first | exact False.elim ht | exact absurd rfl ht | exact absurd trivial ht | exact Bool.noConfusion ht)) | (with_reducible refine k_ret ?_; repeat with_reducible (first | refine ret_thru ?_ | refine ret_blk ?_ | refine fin ?_)) | (with_reducible refine k_exit ?_; repeat with_reducible (first | refine thru ?_ | refine out_blk ?_ | refine pass (by decide) ?_)) | ((first | refine post1 ?_ | refine post2 ?_ | refine post3 ?_); simp only [GA, simprocAttr]) | refine post0 ?_
        exact ⟨klt, (), (by rw [es, pr]; exact (by simp only [Am.keep, List.map_cons, List.map_nil, GA, simprocAttr]; try rfl)), by simp (disch := omega) only [hm2, RG21, EVA, plug, eq_self, simprocAttr]⟩
     ·obtain rfl : k = l.length := by omega
      have klt' : ¬ (l.length : Int) < l.length := by omega
      obtain ⟨b, h1', h2', h3', h4'⟩ := gb_some M.1 hall G l0
      rw [h1', if_neg (by omega), Int.toNat_natCast] at e
      have G' := G.step h2' h3'
      have pa := pop_an h3'
      rw [h4']
      simp only
      generalize an left (fitS m (zD l b)) = left' at *
      have pp : popA 64 left' < t := Nat.lt_of_lt_of_le pa (Nat.le_of_lt_succ hpop)
      clear pa
      generalize cnt l m left b = cb at *
      repeat' first | (with_reducible first | refine k_seq ?_ | refine k_skip ?_ | refine k_blkS ?_ | refine k_blkR ?_ | refine k_blkC ?_ | refine k_blkH ?_ | refine k_blkB ?_ | refine k_blkK ?_ | refine k_blkE ?_ | refine k_reg ?_) | with_reducible refine r_done ?_ | with_reducible refine s_go (by simp (disch := omega) only [klt', hm1, row_m hm1, hy, il_len, RG21, EVA, plug, eq_self, simprocAttr]; with_reducible rfl) ?_ | ((with_reducible refine chk_r ?_); refine r_callF (by simp only [CA, simprocAttr]; rfl) (by exact rfl) (by simp only [CA, simprocAttr]; rfl) rfl ?_) | (with_reducible refine k_condP (by simp only [GA, simprocAttr]; rfl) (by first | (simp only [BO]; rfl) | rfl) (fun ht => ?_) (fun ht => ?_) <;> try (first | exact False.elim ht | exact absurd rfl ht | exact absurd trivial ht | exact Bool.noConfusion ht)) | (with_reducible refine k_ret ?_; repeat with_reducible (first | refine ret_thru ?_ | refine ret_blk ?_ | refine fin ?_)) | (with_reducible refine k_exit ?_; repeat with_reducible (first | refine thru ?_ | refine out_blk ?_ | refine pass (by decide) ?_)) | ((first | refine post1 ?_ | refine post2 ?_ | refine post3 ?_); simp only [GA, simprocAttr]) | refine post0 ?_
      refine ⟨(_, t, left', out ++ [(b : Int)]), Nat.lt_succ_self t, (by simp only [Am.keep, List.map_cons, List.map_nil, GA, Nat.reduceEqDiff, ↓reduceIte, List.length_append, List.length_singleton]; try rfl), ?_, ?_, G', by show (out ++ [(b : Int)]).length + t ≤ 41; rw [List.length_append, List.length_singleton]; omega, pp, e⟩
      ·first | omega | (simp only [AH.bump_nx, AH.set_nx, AH.kill_nx]; omega)
      ·simp (disch := omega) only [RG21, EVA, plug, eq_self, simprocAttr] <;> rfl
 ·have c' := eq_false c
  rw [if_pos c]
  repeat' first | (with_reducible first | refine k_seq ?_ | refine k_skip ?_ | refine k_blkS ?_ | refine k_blkR ?_ | refine k_blkC ?_ | refine k_blkH ?_ | refine k_blkB ?_ | refine k_blkK ?_ | refine k_blkE ?_ | refine k_reg ?_) | with_reducible refine r_done ?_ | with_reducible refine s_go (by simp (disch := omega) only [c', RG21, EVA, plug, eq_self, simprocAttr]; with_reducible rfl) ?_ | ((with_reducible refine chk_r ?_); refine r_callF (by simp only [CA, simprocAttr]; rfl) (by exact rfl) (by simp only [CA, simprocAttr]; rfl) rfl ?_) | ((with_reducible refine chk_r ?_); refine r_callP (by simp only [CA, simprocAttr]; rfl) (by simp only [CA, simprocAttr]; rfl) (by first | exact q1 _) rfl ?_) | ((with_reducible refine chk_r ?_); refine r_callG (by simp only [CA, simprocAttr]; rfl) (by simp only [CA, simprocAttr]; rfl) (by simp only [CA, simprocAttr]; rfl) (by intro hg; (try simp only [BO] at hg); first | exact q1 _) rfl ?_) | (with_reducible refine k_condP (by simp only [GA, simprocAttr]; rfl) (by first | (simp only [BO]; rfl) | rfl) (fun ht => ?_) (fun ht => ?_) <;> try (first | exact False.elim ht | exact absurd rfl ht | exact absurd trivial ht | exact Bool.noConfusion ht)) | (with_reducible refine k_ret ?_; repeat with_reducible (first | refine ret_thru ?_ | refine ret_blk ?_ | refine fin ?_)) | (with_reducible refine k_exit ?_; repeat with_reducible (first | refine thru ?_ | refine out_blk ?_ | refine pass (by decide) ?_)) | ((first | refine post1 ?_ | refine post2 ?_ | refine post3 ?_); simp only [GA, simprocAttr]) | refine post0 ?_
  exact ends_nil2
theorem grN_len {l : List Sz} {m : List Hd} : ∀ {t left : Nat} {out : List Int}, (grN l m t left out).1.length ≤ out.length + t
 | 0, left, out => Nat.zero_le _
 | t + 1, left, out => by
   rw [grN]
   split
   ·simp only; omega
   ·split
    ·exact Nat.zero_le _
    ·have := grN_len (l := l) (m := m) (t := t) (left := an left (fitS m (zD l (gbS l m left l.length).toNat))) (out := out ++ [gbS l m left l.length])
     rw [List.length_append, List.length_singleton] at this
     omega
theorem grR_len (l : List Sz) (m : List Hd) (hm : m.length ≤ 9223372036854775807) : (grR l m).1.length ≤ 9223372036854775807 := by
 unfold grR
 split
 ·exact Nat.zero_le _
 ·rename_i c
  have M := (hdsOk_iff.1 (chk_ok (Classical.not_not.1 c)).2).1
  have := grN_len (l := l) (m := m) (t := m.length + 1) (left := 2 ^ m.length - 1) (out := [])
  simp only [List.length_nil] at this
  omega
theorem cvrR_len (l : List Sz) (m : List Hd) : (cvrR l m).1.length ≤ 64 := by
 unfold cvrR
 split
 ·exact Nat.zero_le _
 ·split
  ·exact Nat.zero_le _
  ·split
   ·exact cvN_len _ _
   ·exact Nat.zero_le _
theorem RG5 : (type_of% @c5r0.eq_1) ∧ (type_of% @c5r1.eq_1) ∧ (type_of% @c5r2.eq_1) ∧ (type_of% @c5r3.eq_1) ∧ (type_of% @c5r4.eq_1) ∧ (type_of% @c5r5.eq_1) ∧ (type_of% @c5r6.eq_1) ∧ (type_of% @c5r7.eq_1) := ⟨@c5r0.eq_1, @c5r1.eq_1, @c5r2.eq_1, @c5r3.eq_1, @c5r4.eq_1, @c5r5.eq_1, @c5r6.eq_1, @c5r7.eq_1⟩
theorem d5 (l : List Sz) (m : List Hd) (hl : l.length ≤ 9223372036854775807) (hm : m.length ≤ 9223372036854775807) : PC Tryd.prog 5 [vZ l, vH m] (.b true) := by
 have q18 := d18 l m hl hm
 have q19 := d19 l m hl hm
 have q20 := d20 l m hl hm
 have q21 := d21 l m hl hm
 have s1 := pc12 (cvrR l m).1 (by have := cvrR_len l m; omega)
 have s2 := pc12 (grR l m).1 (grR_len l m hm)
 generalize (cvrR l m).1 = a at *
 generalize (cvrR l m).2 = e at *
 generalize (grR l m).1 = b at *
 generalize (grR l m).2 = f at *
 refine pc_fn fn5 (by simp only [AV.plains, AV.plain, il_plain, bl_plain, Bool.and_true, Bool.true_and, Bool.and_self, fleZ_plain, fleH_plain]) (by simp only [AV.plains, AV.plain, il_plain, bl_plain, Bool.and_true, Bool.true_and, Bool.and_self, fleZ_plain, fleH_plain]) (Nat.le_of_ble_eq_true rfl) ?_
 rw [initSt2]
 repeat' first | (with_reducible first | refine k_seq ?_ | refine k_skip ?_ | refine k_blkS ?_ | refine k_blkR ?_ | refine k_blkC ?_ | refine k_blkH ?_ | refine k_blkB ?_ | refine k_blkK ?_ | refine k_blkE ?_ | refine k_reg ?_) | with_reducible refine r_done ?_ | with_reducible refine s_go (by simp (disch := omega) only [RG5, EVA, plug, eq_self, simprocAttr]; with_reducible rfl) ?_ | ((with_reducible refine chk_r ?_); refine r_callF (by simp only [CA, simprocAttr]; rfl) (by exact rfl) (by simp only [CA, simprocAttr]; rfl) rfl ?_) | ((with_reducible refine chk_r ?_); refine r_callP (by simp only [CA, simprocAttr]; rfl) (by simp only [CA, simprocAttr]; rfl) (by first | exact q18 _ | exact q19 _ | exact q20 _ | exact q21 _ | exact s1 _ | exact s2 _ | exact pc17 _) rfl ?_) | ((with_reducible refine chk_r ?_); refine r_callG (by simp only [CA, simprocAttr]; rfl) (by simp only [CA, simprocAttr]; rfl) (by simp only [CA, simprocAttr]; rfl) (by intro hg; (try simp only [BO] at hg); first | exact q18 _ | exact q19 _ | exact q20 _ | exact q21 _ | exact s1 _ | exact s2 _ | exact pc17 _) rfl ?_) | (with_reducible refine k_condP (by simp only [GA, simprocAttr]; rfl) (by first | (simp only [BO]; rfl) | rfl) (fun ht => ?_) (fun ht => ?_) <;> try (first | exact False.elim ht | exact absurd rfl ht | exact absurd trivial ht | exact Bool.noConfusion ht)) | (with_reducible refine k_ret ?_; repeat with_reducible (first | refine ret_thru ?_ | refine ret_blk ?_ | refine fin ?_)) | (with_reducible refine k_exit ?_; repeat with_reducible (first | refine thru ?_ | refine out_blk ?_ | refine pass (by decide) ?_)) | ((first | refine post1 ?_ | refine post2 ?_ | refine post3 ?_); simp only [GA, simprocAttr]) | refine post0 ?_
 all_goals first | exact ends_of | exact ends_eq rfl
theorem d5' (l : List Sz) (hl : l.length ≤ 9223372036854775807) (m : List Hd) (hm : m.length ≤ 9223372036854775807) : PC Tryd.prog 5 [.vs l.length (fl eZ l), .vs m.length (fl eH m)] (.b true) := d5 l m hl hm
end Go.Proofs.YtjaihaccehaicaaDoor
set_option linter.unusedVariables false
set_option linter.unusedSimpArgs false
namespace Go.Proofs.YtjaihaccehaicaaDoor
open Go Go.Am Go.Proofs
theorem mapM_get {α β : Type} {f : α → Option β} : ∀ {xs : List α} {ys : List β}, xs.mapM f = some ys → ∀ (i : Nat) x, xs[i]? = some x → ∃ y, f x = some y ∧ ys[i]? = some y
 | [], ys, h, i, x, hx => by simp at hx
 | a :: xs, ys, h, i, x, hx => by
   simp only [List.mapM_cons, Option.pure_def, Option.bind_eq_bind, Option.bind_eq_some_iff, Option.some.injEq] at h
   obtain ⟨y, hy, zs, hz, rfl⟩ := h
   cases i with
   | zero => simp at hx; subst hx; exact ⟨y, hy, rfl⟩
   | succ i => simp at hx; exact mapM_get hz i x hx
theorem int_of_trod {H : Type} {enc : TypeId × Value → H} {P : Program} {w : World} {base : Nat} {sp : Nat → Bool} {held : Bool} {fuel : Nat} {t : TypeId} {k : IntKind} {c : Value} {y : DataW H × List MemPlace}
 (ht : P.underlying t = some (.int k)) (h : DataW.trod enc P w base sp held fuel t [c] = some y) : ∃ n, c = .int k n ∧ y = (.lit (.int k n), []) := by
 cases fuel with
 | zero => simp [DataW.trod] at h
 | succ fuel =>
   cases c <;> simp [DataW.trod, ht] at h
   rename_i k' n
   obtain ⟨⟨rfl, _⟩, rfl⟩ := h
   exact ⟨n, rfl, rfl⟩
def litOf : Value → DataW Unit
 | .int k n => .lit (.int k n)
 | _ => .nil
theorem laid_lits : (Rows.laid_math_bits_deBruijn64tab : DataW Unit) = .agg (TABV.toList.map litOf) := rfl
theorem tabv_u8 : ∀ v ∈ TABV.toList, ∃ n, v = .int .u8 n := by
 intro v hv
 simp only [TABV, List.mem_cons, List.not_mem_nil, or_false] at hv
 rcases hv with rfl | hv
 ·exact ⟨_, rfl⟩
 repeat (rcases hv with rfl | hv; exact ⟨_, rfl⟩)
theorem g0 : Tryd.prog.globalNamed "math/bits.deBruijn64tab" = some 0 := by kernel_rfl
theorem gT : (Tryd.prog.globals[0]?).map (·.type) = some 106 := by kernel_rfl
theorem cells106 : Tryd.prog.cellsOf 106 = 64 := by kernel_rfl
theorem cells5 : Tryd.prog.cellsOf 5 = 1 := by kernel_rfl
theorem tab_of_laid {W : World} (h : laidMet Tryd.prog Rows.lastListsRow.laid W) : TabOK (φW W) := by
 obtain ⟨ps, ⟨g, t, cs, fuel, p, q, hg, ht, hvar, hd, _, _⟩, _⟩ := h
 obtain rfl := Option.some.inj (g0.symm.trans hg)
 obtain rfl := Option.some.inj (gT.symm.trans ht)
 have hcs : cs = TABV := by
  cases fuel with
  | zero => simp [DataW.trod] at hd
  | succ fuel =>
    simp only [DataW.trod, Tryd.underlying106, cells106, cells5] at hd
    split at hd
    ·rename_i hl
     simp only [Option.map_eq_some_iff] at hd
     obtain ⟨xs, hx, he⟩ := hd
     rw [laid_lits] at he
     have he := (Prod.mk.inj he).1
     simp only [DataW.agg.injEq] at he
     have hl' : cs.toList.length = 64 := by simpa using hl
     refine Array.toList_inj.1 (List.ext_getElem? fun i => ?_)
     by_cases hi : i < 64
     ·have hi' : i < cs.toList.length := by omega
      obtain ⟨y, hy, hyi⟩ := mapM_get hx i i (by rw [List.getElem?_range hi])
      have e1 : (cs.toList.drop (i * 1)).take 1 = [cs.toList[i]] := by
       rw [Nat.mul_one, List.drop_eq_getElem_cons hi', List.take_succ_cons, List.take_zero]
      rw [e1] at hy
      obtain ⟨n, hn, rfl⟩ := int_of_trod Tryd.underlying5 hy
      have ti : i < TABV.toList.length := hi
      have e2 := congrArg (fun l => l[i]?) he
      simp only [List.getElem?_map, hyi, Option.map_some, List.getElem?_eq_getElem ti, Option.some.injEq] at e2
      obtain ⟨m, hm⟩ := tabv_u8 _ (List.getElem_mem ti)
      rw [List.getElem?_eq_getElem hi', List.getElem?_eq_getElem ti, hn, hm]
      rw [hm] at e2
      simp only [litOf, DataW.lit.injEq, Lit.int.injEq, true_and] at e2
      rw [e2]
     ·rw [List.getElem?_eq_none (by omega), List.getElem?_eq_none (show TABV.toList.length ≤ i from Nat.le_of_not_lt hi)]
    ·cases hd
 intro b xs hb
 unfold TAB at hb
 split at hb
 ·rename_i e
  subst e
  cases hb
  unfold World.var? at hvar
  rw [g0] at hvar
  simp only [Option.bind_some] at hvar
  unfold φW
  split at hvar
  ·rename_i ys e fz hh
   cases hvar
   rw [hh, hcs]
  ·cases hvar
 ·cases hb
noncomputable def tabWorld (os : Os) : World :=
 let w0 := World.holding Tryd.prog os ⟨#[], #[], []⟩
 { w0 with heap := w0.heap.modify 0 fun
  | .cells _ t frozen => .cells TABV t frozen
  | o => o }
set_option maxRecDepth 100000 in
theorem laid_met (os : Os) (args : Array Value) : laidMet Tryd.prog Rows.lastListsRow.laid ((tabWorld os).forCall (fun _ _ => 0) ⟨#[], args, []⟩).memory :=
 laidMet_of_run (ps := (List.range 64).map fun i => .cell 0 i) 8 (by kernel_rfl) (by kernel_rfl) (by kernel_rfl)
end Go.Proofs.YtjaihaccehaicaaDoor
