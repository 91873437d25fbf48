/- What the proof of the law needs: the abstract machine, the functions as it reads them, their contracts, part 7. -/
import Derived.Test.YtjaihaccehaicaaDoorZf
set_option linter.unusedVariables false
set_option linter.unusedSimpArgs false
namespace Go.Proofs.YtjaihaccehaicaaDoor
open Go Go.Am Go.Proofs
theorem pop_one : ∀ {m x : Nat}, 0 < popA m x ↔ ∃ i, i < m ∧ x.testBit i = true
 | 0, x => by simp [popA]
 | m + 1, x => by
   have ih := pop_one (m := m) (x := x / 2)
   rw [popA]
   constructor
   ·intro h
    by_cases c : x % 2 = 1
    ·exact ⟨0, by omega, by rw [Nat.testBit_zero]; exact decide_eq_true c⟩
    ·obtain ⟨i, hi, q⟩ := ih.1 (by omega)
     exact ⟨i + 1, by omega, by rw [Nat.testBit_succ]; exact q⟩
   ·rintro ⟨i, hi, q⟩
    cases i with
    | zero => rw [Nat.testBit_zero, decide_eq_true_eq] at q; omega
    | succ i =>
      rw [Nat.testBit_succ] at q
      have := ih.2 ⟨i, by omega, q⟩
      omega
def sv (p : Nat → Bool) : Nat → Nat
 | 0 => 0
 | k + 1 => if p k then sv p k ||| 2 ^ k else sv p k
theorem sv_bit {p : Nat → Bool} : ∀ {k i : Nat}, (sv p k).testBit i = (decide (i < k) && p i)
 | 0, i => by simp [sv]
 | k + 1, i => by
   have ih := sv_bit (p := p) (k := k) (i := i)
   unfold sv
   by_cases e : i = k
   ·subst e
    cases c : p i with
    | true => simp [Nat.testBit_or, Nat.testBit_two_pow]
    | false => simp [ih]
   ·have e1 : decide (i < k + 1) = decide (i < k) := by rw [Bool.eq_iff_iff]; simp; omega
    have e2 : ¬ k = i := fun q => e q.symm
    split <;> simp [Nat.testBit_or, Nat.testBit_two_pow, ih, e1, e2]
theorem sv_lt {p : Nat → Bool} {k : Nat} : sv p k < 2 ^ k := Nat.lt_pow_two_of_testBit _ fun i hi => by
 rw [sv_bit, decide_eq_false (by omega), Bool.false_and]
theorem lt_64 {x k : Nat} (h : x < 2 ^ k) (hk : k ≤ 40) : x < 2 ^ 64 := Nat.lt_of_lt_of_le h (Nat.pow_le_pow_right (by omega) (by omega))
theorem pow_64 {k : Nat} (hk : k < 40) : 2 ^ k < 2 ^ 64 := Nat.pow_lt_pow_right (by omega) (by omega)
def nu (l : List Nat) : List AV := l.map fun x : Nat => .i .u64 (x : Int)
theorem nu_len (l : List Nat) : (nu l).length = l.length := by simp [nu]
theorem nu_get {l : List Nat} {j : Nat} (h : j < l.length) : (nu l)[j]? = some (.i .u64 ((l.getD j 0 : Nat) : Int)) := by simp [nu, h]
theorem nu_set (l : List Nat) (j : Nat) (x : Nat) : (nu l).set j (.i .u64 (x : Int)) = nu (l.set j x) := by simp [nu]
theorem nu_rep (n : Nat) : (List.replicate n [AV.i .u64 0]).flatten = nu (List.replicate n 0) := by
 induction n with
 | zero => rfl
 | succ n ih => rw [List.replicate_succ, List.flatten_cons, ih, List.replicate_succ]; rfl
theorem nu_plain (l : List Nat) : AV.plains (nu l) = true := plains_all fun x hx => by
 simp only [nu, List.mem_map] at hx
 obtain ⟨n, _, rfl⟩ := hx
 rfl
def fitB (s : Sz) (x : Hd) : Bool := decide (((fau s x).length : Int) = 0)
def fitS (m : List Hd) (s : Sz) : Nat := sv (fun k => fitB s (hD m k)) m.length
def fitL (l : List Sz) (m : List Hd) : List Nat := l.map (fitS m)
theorem getD_setN {us : List Nat} {i j v : Nat} (hi : i < us.length) : (us.set i v).getD j 0 = if j = i then v else us.getD j 0 := by
 by_cases e : j = i
 ·subst e; simp [List.getD_eq_getElem?_getD, hi]
 ·have : ¬ i = j := fun q => e q.symm
  simp [List.getD_eq_getElem?_getD, List.getElem?_set, this, e]
theorem RG41 : (type_of% @c41r0.eq_1) ∧ (type_of% @c41r1.eq_1) ∧ (type_of% @c41r2.eq_1) ∧ (type_of% @c41r3.eq_1) ∧ (type_of% @c41r4.eq_1) ∧ (type_of% @c41r5.eq_1) ∧ (type_of% @c41r6.eq_1) ∧ (type_of% @c41r7.eq_1) ∧ (type_of% @c41r8.eq_1) ∧ (type_of% @c41r9.eq_1) ∧ (type_of% @c41r10.eq_1) ∧ (type_of% @c41r12.eq_1) ∧ (type_of% @c41r14.eq_1) := ⟨@c41r0.eq_1, @c41r1.eq_1, @c41r2.eq_1, @c41r3.eq_1, @c41r4.eq_1, @c41r5.eq_1, @c41r6.eq_1, @c41r7.eq_1, @c41r8.eq_1, @c41r9.eq_1, @c41r10.eq_1, @c41r12.eq_1, @c41r14.eq_1⟩
set_option maxHeartbeats 1000000 in
theorem pc48 (l : List Sz) (m : List Hd) (hl : szsOk l = true) (hm : hdsOk m = true) : PC Tryd.prog 41 [vZ l, vH m] (.vs l.length (nu (fitL l m))) := by
 have L := szsOk_iff.1 hl
 have M := hdsOk_iff.1 hm
 refine pc_fn fn41 (by simp only [AV.plains, AV.plain, il_plain, bl_plain, Bool.and_true, Bool.true_and, Bool.and_self, fleZ_plain, fleH_plain, nu_plain]) (by simp only [AV.plains, AV.plain, il_plain, bl_plain, Bool.and_true, Bool.true_and, Bool.and_self, fleZ_plain, fleH_plain, nu_plain]) (Nat.le_of_ble_eq_true rfl) ?_
 rw [initSt2]
 repeat' first | (with_reducible first | refine k_seq ?_ | refine k_skip ?_ | refine k_blkS ?_ | refine k_blkR ?_ | refine k_blkC ?_ | refine k_blkH ?_ | refine k_blkB ?_ | refine k_blkK ?_ | refine k_blkE ?_ | refine k_reg ?_) | with_reducible refine k_head (by with_unfolding_all rfl) ?_ | with_reducible refine k_headS ?_ | (with_reducible refine SepK.mk ?_ ?_; (refine sepQ_P ?_; simp [sepQ, sepG, AOp.late, AOp.free, AOp.xs, AOp.isAl, tokNe, AV.tok, stS_get, strip, AX.val, RG41, GA]; try omega)) | with_reducible refine r_done ?_ | with_reducible refine hr_done ?_ | with_reducible refine s_go (by simp (disch := omega) only [RG41, EVA, plug, eq_self, simprocAttr]; with_reducible rfl) ?_ | with_reducible refine h_go (by with_unfolding_all rfl) (by simp (disch := omega) only [RG41, EVA, plug, eq_self, simprocAttr]; with_reducible rfl) ?_ | ((with_reducible refine chk_r ?_); refine r_callF (by simp only [CA, simprocAttr]; rfl) (by exact rfl) (by simp only [CA, simprocAttr]; rfl) rfl ?_) | ((with_reducible refine chk_h ?_); refine hr_callF (by simp only [CA, simprocAttr]; rfl) (by exact rfl) (by simp only [CA, simprocAttr]; rfl) rfl ?_) | ((with_reducible refine chk_h ?_); refine hr_app (by simp (disch := omega) only [RG41, EVA, plug, eq_self, simprocAttr]; with_reducible rfl) rfl ?_) | (with_reducible refine k_condP (by simp only [GA, simprocAttr]; rfl) (by first | (simp only [BO]; rfl) | rfl) (fun ht => ?_) (fun ht => ?_) <;> try (first | exact False.elim ht | exact absurd rfl ht | exact absurd trivial ht | exact Bool.noConfusion ht)) | (with_reducible refine k_ret ?_; repeat with_reducible (first | refine ret_thru ?_ | refine ret_blk ?_ | refine fin ?_)) | (with_reducible refine k_exit ?_; repeat with_reducible (first | refine thru ?_ | refine out_blk ?_ | refine pass (by decide) ?_)) | ((first | refine post1 ?_ | refine post2 ?_ | refine post3 ?_); simp only [GA, simprocAttr]) | refine post0 ?_
 refine k_blk (k_loopS (X := Nat × List Nat) [1, 5, 13, 14, 15] l.length (fun k x => [(1, vH m), (5, .sl x.1 0 l.length 1), (13, vZ l), (14, .i .i64 l.length), (15, .i .i64 (k : Int))])
  (fun k x h => x.1 ≠ 0 ∧ h.m x.1 = some (.cells true (nu x.2)) ∧ x.2.length = l.length ∧ ∀ i, i < l.length → x.2.getD i 0 = if i < k then fitS m (zD l i) else 0) (_, List.replicate l.length 0) (by simp only [Am.keep, List.map_cons, List.map_nil, GA, simprocAttr]; try rfl) ⟨?_, by simp (disch := omega) only [nu_rep, RG41, EVA, plug, eq_self, simprocAttr] <;> rfl, by simp, fun i hi => by simp [hi]⟩ ?_)
 ·simp only [AH.bump_nx]; omega
 rintro k ⟨x, us⟩ h hk ⟨hx, hmx, hu, hf⟩ ok pos
 simp only at hx hmx hu hf ⊢
 have lx := ok.m hmx
 by_cases klt : k < l.length
 ·have klt' : (k : Int) < l.length := by omega
  have rT := rdZ klt
  have hs := L.2.1 k klt
  have f0 := hf k klt
  rw [if_neg (by omega)] at f0
  repeat' first | (with_reducible first | refine k_seq ?_ | refine k_skip ?_ | refine k_blkS ?_ | refine k_blkR ?_ | refine k_blkC ?_ | refine k_blkH ?_ | refine k_blkB ?_ | refine k_blkK ?_ | refine k_blkE ?_ | refine k_reg ?_) | with_reducible refine k_head (by with_unfolding_all rfl) ?_ | with_reducible refine k_headS ?_ | (with_reducible refine SepK.mk ?_ ?_; (refine sepQ_P ?_; simp [sepQ, sepG, AOp.late, AOp.free, AOp.xs, AOp.isAl, tokNe, AV.tok, stS_get, strip, AX.val, RG41, GA]; try omega)) | with_reducible refine r_done ?_ | with_reducible refine hr_done ?_ | with_reducible refine s_go (by simp (disch := omega) only [klt', rT, RG41, EVA, plug, eq_self, simprocAttr]; with_reducible rfl) ?_ | with_reducible refine h_go (by with_unfolding_all rfl) (by simp (disch := omega) only [klt', rT, RG41, EVA, plug, eq_self, simprocAttr]; with_reducible rfl) ?_ | ((with_reducible refine chk_r ?_); refine r_callF (by simp only [CA, simprocAttr]; rfl) (by exact rfl) (by simp only [CA, simprocAttr]; rfl) rfl ?_) | ((with_reducible refine chk_h ?_); refine hr_callF (by simp only [CA, simprocAttr]; rfl) (by exact rfl) (by simp only [CA, simprocAttr]; rfl) rfl ?_) | ((with_reducible refine chk_h ?_); refine hr_app (by simp (disch := omega) only [klt', rT, RG41, EVA, plug, eq_self, simprocAttr]; with_reducible rfl) rfl ?_) | (with_reducible refine k_condP (by simp only [GA, simprocAttr]; rfl) (by first | (simp only [BO]; rfl) | rfl) (fun ht => ?_) (fun ht => ?_) <;> try (first | exact False.elim ht | exact absurd rfl ht | exact absurd trivial ht | exact Bool.noConfusion ht)) | (with_reducible refine k_ret ?_; repeat with_reducible (first | refine ret_thru ?_ | refine ret_blk ?_ | refine fin ?_)) | (with_reducible refine k_exit ?_; repeat with_reducible (first | refine thru ?_ | refine out_blk ?_ | refine pass (by decide) ?_)) | ((first | refine post1 ?_ | refine post2 ?_ | refine post3 ?_); simp only [GA, simprocAttr]) | refine post0 ?_
  refine k_blk (k_loopS (X := List Nat) [1, 5, 6, 7, 13, 14, 15, 20, 21, 22] m.length (fun j _ => [(1, vH m), (5, .sl x 0 l.length 1), (6, .i .i64 (k : Int)), (7, .p (h.nx + 1 + 3) 0), (13, vZ l), (14, .i .i64 l.length), (15, .i .i64 (k : Int)), (20, vH m), (21, .i .i64 m.length), (22, .i .i64 (j : Int))])
   (fun j vs h' => h'.m x = some (.cells true (nu vs)) ∧ h'.m (h.nx + 1 + 3) = some (.cells true (eZ (zD l k))) ∧ vs.length = l.length ∧ ∀ i, i < l.length → vs.getD i 0 = if i = k then sv (fun i => fitB (zD l k) (hD m i)) j else us.getD i 0) us (by simp only [Am.keep, List.map_cons, List.map_nil, GA, simprocAttr]; try rfl) ⟨by simp (disch := omega) only [hmx, RG41, EVA, plug, eq_self, simprocAttr], by simp (disch := omega) only [RG41, EVA, plug, eq_self, simprocAttr] <;> rfl, hu, fun i hi => by
    by_cases e : i = k
    ·subst e; rw [if_pos rfl, f0]; rfl
    ·rw [if_neg e]⟩ ?_)
  rintro j vs h' hj ⟨hmx', hm7, hv, hg⟩ ok' pos'
  have lx' := ok'.m hmx'
  have l7 := ok'.m hm7
  have x7 : x ≠ h.nx + 1 + 3 := by omega
  have x7' : ¬ h.nx + 1 + 3 = x := by omega
  by_cases jlt : j < m.length
  ·have jlt' : (j : Int) < m.length := by omega
   have rJ := rdH jlt
   have q45 := pc45 (zD l k) (hD m j) hs (M.2.1 j jlt)
   have gk := hg k klt
   rw [if_pos rfl] at gk
   have b1 : sv (fun i => fitB (zD l k) (hD m i)) j < 2 ^ 64 := lt_64 sv_lt (by omega)
   have sh := shl_64 (k := j) (by omega)
   have or1 := or_64 b1 (pow_64 (k := j) (by omega))
   have g2 := nu_get (l := vs) (j := k) (by omega)
   rw [gk] at g2
   by_cases c : ((fau (zD l k) (hD m j)).length : Int) = 0
   ·have c' := eq_true c
    have es : sv (fun i => fitB (zD l k) (hD m i)) (j + 1) = sv (fun i => fitB (zD l k) (hD m i)) j ||| 2 ^ j := if_pos (decide_eq_true c)
    rw [← es] at or1
    have st := nu_set vs k (sv (fun i => fitB (zD l k) (hD m i)) (j + 1))
    generalize hA : sv (fun i => fitB (zD l k) (hD m i)) j = A at *
    generalize hB : sv (fun i => fitB (zD l k) (hD m i)) (j + 1) = B at *
    repeat' first | (with_reducible first | refine k_seq ?_ | refine k_skip ?_ | refine k_blkS ?_ | refine k_blkR ?_ | refine k_blkC ?_ | refine k_blkH ?_ | refine k_blkB ?_ | refine k_blkK ?_ | refine k_blkE ?_ | refine k_reg ?_) | with_reducible refine k_head (by with_unfolding_all rfl) ?_ | with_reducible refine k_headS ?_ | (with_reducible refine SepK.mk ?_ ?_; (refine sepQ_P ?_; simp [sepQ, sepG, AOp.late, AOp.free, AOp.xs, AOp.isAl, tokNe, AV.tok, stS_get, strip, AX.val, RG41, GA]; try omega)) | with_reducible refine r_done ?_ | with_reducible refine hr_done ?_ | with_reducible refine s_go (by simp (disch := omega) only [jlt', rJ, eZ_rd, eH_rd, c', hm7, row_m hm7, read_row (row_m hm7), hmx', row_m hmx', read_row (row_m hmx'), x7, x7', g2, sh, or1, st, nu_len, hv, RG41, EVA, plug, eq_self, simprocAttr]; with_reducible rfl) ?_ | with_reducible refine h_go (by with_unfolding_all rfl) (by simp (disch := omega) only [jlt', rJ, eZ_rd, eH_rd, c', hm7, row_m hm7, read_row (row_m hm7), hmx', row_m hmx', read_row (row_m hmx'), x7, x7', g2, sh, or1, st, nu_len, hv, RG41, EVA, plug, eq_self, simprocAttr]; with_reducible rfl) ?_ | ((with_reducible refine chk_r ?_); refine r_callF (by simp only [CA, simprocAttr]; rfl) (by exact rfl) (by simp only [CA, simprocAttr]; rfl) rfl ?_) | ((with_reducible refine chk_h ?_); refine hr_callF (by simp only [CA, simprocAttr]; rfl) (by exact rfl) (by simp only [CA, simprocAttr]; rfl) rfl ?_) | ((with_reducible refine chk_r ?_); refine r_callP (by simp only [CA, simprocAttr]; rfl) (by simp only [CA, simprocAttr]; rfl) (by first | exact q45 _) rfl ?_) | ((with_reducible refine chk_h ?_); refine hr_callP (by simp only [CA, simprocAttr]; rfl) (by simp only [CA, simprocAttr]; rfl) (by first | exact q45 _) rfl ?_) | ((with_reducible refine chk_h ?_); refine hr_callP1 (by simp only [CA, simprocAttr]; rfl) (by simp only [CA, simprocAttr]; rfl) (by simp (disch := omega) only [CA, Nat.reduceEqDiff, ↓reduceIte, firstTok_nil, firstTok_sl, firstTok_sl0, firstTok_i, firstTok_b, firstTok_ag, firstTok_p, firstTok_s]; rfl) (by first | exact q45 _) rfl ?_) | ((with_reducible refine chk_h ?_); refine hr_app (by simp (disch := omega) only [jlt', rJ, eZ_rd, eH_rd, c', hm7, row_m hm7, read_row (row_m hm7), hmx', row_m hmx', read_row (row_m hmx'), x7, x7', g2, sh, or1, st, nu_len, hv, RG41, EVA, plug, eq_self, simprocAttr]; with_reducible rfl) rfl ?_) | (with_reducible refine k_condP (by simp only [GA, simprocAttr]; rfl) (by first | (simp only [BO]; rfl) | rfl) (fun ht => ?_) (fun ht => ?_) <;> try (first | exact False.elim ht | exact absurd rfl ht | exact absurd trivial ht | exact Bool.noConfusion ht)) | (with_reducible refine k_ret ?_; repeat with_reducible (first | refine ret_thru ?_ | refine ret_blk ?_ | refine fin ?_)) | (with_reducible refine k_exit ?_; repeat with_reducible (first | refine thru ?_ | refine out_blk ?_ | refine pass (by decide) ?_)) | ((first | refine post1 ?_ | refine post2 ?_ | refine post3 ?_); simp only [GA, simprocAttr]) | refine post0 ?_
    refine ⟨jlt, vs.set k B, (by simp only [Am.keep, List.map_cons, List.map_nil, GA, simprocAttr]; try rfl), by simp (disch := omega) only [st, RG41, EVA, plug, eq_self, simprocAttr], by simp (disch := omega) only [hm7, x7', RG41, EVA, plug, eq_self, simprocAttr], by rw [List.length_set]; exact hv, fun i hi => ?_⟩
    rw [getD_setN (by omega), hg i hi]
    by_cases e : i = k
    ·rw [if_pos e, if_pos e]
    ·rw [if_neg e, if_neg e, if_neg e]
   ·have c' := eq_false c
    have es : sv (fun i => fitB (zD l k) (hD m i)) (j + 1) = sv (fun i => fitB (zD l k) (hD m i)) j := if_neg (by show ¬ decide _ = true; rw [decide_eq_false c]; simp)
    repeat' first | (with_reducible first | refine k_seq ?_ | refine k_skip ?_ | refine k_blkS ?_ | refine k_blkR ?_ | refine k_blkC ?_ | refine k_blkH ?_ | refine k_blkB ?_ | refine k_blkK ?_ | refine k_blkE ?_ | refine k_reg ?_) | with_reducible refine k_head (by with_unfolding_all rfl) ?_ | with_reducible refine k_headS ?_ | (with_reducible refine SepK.mk ?_ ?_; (refine sepQ_P ?_; simp [sepQ, sepG, AOp.late, AOp.free, AOp.xs, AOp.isAl, tokNe, AV.tok, stS_get, strip, AX.val, RG41, GA]; try omega)) | with_reducible refine r_done ?_ | with_reducible refine hr_done ?_ | with_reducible refine s_go (by simp (disch := omega) only [jlt', rJ, eZ_rd, eH_rd, c', hm7, row_m hm7, read_row (row_m hm7), hmx', row_m hmx', read_row (row_m hmx'), x7, x7', RG41, EVA, plug, eq_self, simprocAttr]; with_reducible rfl) ?_ | with_reducible refine h_go (by with_unfolding_all rfl) (by simp (disch := omega) only [jlt', rJ, eZ_rd, eH_rd, c', hm7, row_m hm7, read_row (row_m hm7), hmx', row_m hmx', read_row (row_m hmx'), x7, x7', RG41, EVA, plug, eq_self, simprocAttr]; with_reducible rfl) ?_ | ((with_reducible refine chk_r ?_); refine r_callF (by simp only [CA, simprocAttr]; rfl) (by exact rfl) (by simp only [CA, simprocAttr]; rfl) rfl ?_) | ((with_reducible refine chk_h ?_); refine hr_callF (by simp only [CA, simprocAttr]; rfl) (by exact rfl) (by simp only [CA, simprocAttr]; rfl) rfl ?_) | ((with_reducible refine chk_r ?_); refine r_callP (by simp only [CA, simprocAttr]; rfl) (by simp only [CA, simprocAttr]; rfl) (by first | exact q45 _) rfl ?_) | ((with_reducible refine chk_h ?_); refine hr_callP (by simp only [CA, simprocAttr]; rfl) (by simp only [CA, simprocAttr]; rfl) (by first | exact q45 _) rfl ?_) | ((with_reducible refine chk_h ?_); refine hr_callP1 (by simp only [CA, simprocAttr]; rfl) (by simp only [CA, simprocAttr]; rfl) (by simp (disch := omega) only [CA, Nat.reduceEqDiff, ↓reduceIte, firstTok_nil, firstTok_sl, firstTok_sl0, firstTok_i, firstTok_b, firstTok_ag, firstTok_p, firstTok_s]; rfl) (by first | exact q45 _) rfl ?_) | ((with_reducible refine chk_h ?_); refine hr_app (by simp (disch := omega) only [jlt', rJ, eZ_rd, eH_rd, c', hm7, row_m hm7, read_row (row_m hm7), hmx', row_m hmx', read_row (row_m hmx'), x7, x7', RG41, EVA, plug, eq_self, simprocAttr]; with_reducible rfl) rfl ?_) | (with_reducible refine k_condP (by simp only [GA, simprocAttr]; rfl) (by first | (simp only [BO]; rfl) | rfl) (fun ht => ?_) (fun ht => ?_) <;> try (first | exact False.elim ht | exact absurd rfl ht | exact absurd trivial ht | exact Bool.noConfusion ht)) | (with_reducible refine k_ret ?_; repeat with_reducible (first | refine ret_thru ?_ | refine ret_blk ?_ | refine fin ?_)) | (with_reducible refine k_exit ?_; repeat with_reducible (first | refine thru ?_ | refine out_blk ?_ | refine pass (by decide) ?_)) | ((first | refine post1 ?_ | refine post2 ?_ | refine post3 ?_); simp only [GA, simprocAttr]) | refine post0 ?_
    refine ⟨jlt, vs, (by simp only [Am.keep, List.map_cons, List.map_nil, GA, simprocAttr]; try rfl), by simp (disch := omega) only [hmx', RG41, EVA, plug, eq_self, simprocAttr], by simp (disch := omega) only [hm7, RG41, EVA, plug, eq_self, simprocAttr], hv, ?_⟩
    rw [es]
    exact hg
  ·obtain rfl : j = m.length := by omega
   have jlt' : ¬ (m.length : Int) < m.length := by omega
   repeat' first | (with_reducible first | refine k_seq ?_ | refine k_skip ?_ | refine k_blkS ?_ | refine k_blkR ?_ | refine k_blkC ?_ | refine k_blkH ?_ | refine k_blkB ?_ | refine k_blkK ?_ | refine k_blkE ?_ | refine k_reg ?_) | with_reducible refine k_head (by with_unfolding_all rfl) ?_ | with_reducible refine k_headS ?_ | (with_reducible refine SepK.mk ?_ ?_; (refine sepQ_P ?_; simp [sepQ, sepG, AOp.late, AOp.free, AOp.xs, AOp.isAl, tokNe, AV.tok, stS_get, strip, AX.val, RG41, GA]; try omega)) | with_reducible refine r_done ?_ | with_reducible refine hr_done ?_ | with_reducible refine s_go (by simp (disch := omega) only [jlt', RG41, EVA, plug, eq_self, simprocAttr]; with_reducible rfl) ?_ | with_reducible refine h_go (by with_unfolding_all rfl) (by simp (disch := omega) only [jlt', RG41, EVA, plug, eq_self, simprocAttr]; with_reducible rfl) ?_ | ((with_reducible refine chk_r ?_); refine r_callF (by simp only [CA, simprocAttr]; rfl) (by exact rfl) (by simp only [CA, simprocAttr]; rfl) rfl ?_) | ((with_reducible refine chk_h ?_); refine hr_callF (by simp only [CA, simprocAttr]; rfl) (by exact rfl) (by simp only [CA, simprocAttr]; rfl) rfl ?_) | ((with_reducible refine chk_h ?_); refine hr_app (by simp (disch := omega) only [jlt', RG41, EVA, plug, eq_self, simprocAttr]; with_reducible rfl) rfl ?_) | (with_reducible refine k_condP (by simp only [GA, simprocAttr]; rfl) (by first | (simp only [BO]; rfl) | rfl) (fun ht => ?_) (fun ht => ?_) <;> try (first | exact False.elim ht | exact absurd rfl ht | exact absurd trivial ht | exact Bool.noConfusion ht)) | (with_reducible refine k_ret ?_; repeat with_reducible (first | refine ret_thru ?_ | refine ret_blk ?_ | refine fin ?_)) | (with_reducible refine k_exit ?_; repeat with_reducible (first | refine thru ?_ | refine out_blk ?_ | refine pass (by decide) ?_)) | ((first | refine post1 ?_ | refine post2 ?_ | refine post3 ?_); simp only [GA, simprocAttr]) | refine post0 ?_
   refine ⟨klt, (x, vs), (by simp only [Am.keep, List.map_cons, List.map_nil, GA, simprocAttr]; try rfl), hx, by simp (disch := omega) only [hmx', RG41, EVA, plug, eq_self, simprocAttr], hv, fun i hi => ?_⟩
   rw [hg i hi]
   by_cases e : i = k
   ·subst e
    rw [if_pos rfl, if_pos (by omega)]
    rfl
   ·rw [if_neg e, hf i hi]
    by_cases e2 : i < k
    ·rw [if_pos e2, if_pos (by omega)]
    ·rw [if_neg e2, if_neg (by omega)]
 ·obtain rfl : k = l.length := by omega
  have klt' : ¬ (l.length : Int) < l.length := by omega
  have e : us = fitL l m := by
   refine List.ext_getElem (by rw [hu]; simp [fitL]) fun i h1 h2 => ?_
   have := hf i (by omega)
   rw [if_pos (by omega), List.getD_eq_getElem?_getD, List.getElem?_eq_getElem h1] at this
   simp only [Option.getD_some] at this
   rw [this]
   simp only [fitL, List.getElem_map, zD]
   rw [List.getD_eq_getElem?_getD, List.getElem?_eq_getElem (by omega)]
   rfl
  subst e
  repeat' first | (with_reducible first | refine k_seq ?_ | refine k_skip ?_ | refine k_blkS ?_ | refine k_blkR ?_ | refine k_blkC ?_ | refine k_blkH ?_ | refine k_blkB ?_ | refine k_blkK ?_ | refine k_blkE ?_ | refine k_reg ?_) | with_reducible refine k_head (by with_unfolding_all rfl) ?_ | with_reducible refine k_headS ?_ | (with_reducible refine SepK.mk ?_ ?_; (refine sepQ_P ?_; simp [sepQ, sepG, AOp.late, AOp.free, AOp.xs, AOp.isAl, tokNe, AV.tok, stS_get, strip, AX.val, RG41, GA]; try omega)) | with_reducible refine r_done ?_ | with_reducible refine hr_done ?_ | with_reducible refine s_go (by simp (disch := omega) only [klt', RG41, EVA, plug, eq_self, simprocAttr]; with_reducible rfl) ?_ | with_reducible refine h_go (by with_unfolding_all rfl) (by simp (disch := omega) only [klt', RG41, EVA, plug, eq_self, simprocAttr]; with_reducible rfl) ?_ | ((with_reducible refine chk_r ?_); refine r_callF (by simp only [CA, simprocAttr]; rfl) (by exact rfl) (by simp only [CA, simprocAttr]; rfl) rfl ?_) | ((with_reducible refine chk_h ?_); refine hr_callF (by simp only [CA, simprocAttr]; rfl) (by exact rfl) (by simp only [CA, simprocAttr]; rfl) rfl ?_) | ((with_reducible refine chk_h ?_); refine hr_app (by simp (disch := omega) only [klt', RG41, EVA, plug, eq_self, simprocAttr]; with_reducible rfl) rfl ?_) | (with_reducible refine k_condP (by simp only [GA, simprocAttr]; rfl) (by first | (simp only [BO]; rfl) | rfl) (fun ht => ?_) (fun ht => ?_) <;> try (first | exact False.elim ht | exact absurd rfl ht | exact absurd trivial ht | exact Bool.noConfusion ht)) | (with_reducible refine k_ret ?_; repeat with_reducible (first | refine ret_thru ?_ | refine ret_blk ?_ | refine fin ?_)) | (with_reducible refine k_exit ?_; repeat with_reducible (first | refine thru ?_ | refine out_blk ?_ | refine pass (by decide) ?_)) | ((first | refine post1 ?_ | refine post2 ?_ | refine post3 ?_); simp only [GA, simprocAttr]) | refine post0 ?_
  exact ends_sl (k := 1) hmx (by rw [nu_len, hu, Nat.mul_one])
end Go.Proofs.YtjaihaccehaicaaDoor
set_option linter.unusedVariables false
set_option linter.unusedSimpArgs false
namespace Go.Proofs.YtjaihaccehaicaaDoor
open Go Go.Am Go.Proofs
def lastZ (o : List Int) : Int := o.getD (o.length - 1) 0
def opS (o : List Int) (v : Int) : Prop := o.length = 0 ∨ v < lastZ o
instance (o : List Int) (v : Int) : Decidable (opS o v) := inferInstanceAs (Decidable (_ ∨ _))
def opP (w : Int) (o : List Int) (v : Int) : Prop := o.length = 0 ∨ lastZ o + w < v
instance (w : Int) (o : List Int) (v : Int) : Decidable (opP w o v) := inferInstanceAs (Decidable (_ ∨ _))
end Go.Proofs.YtjaihaccehaicaaDoor
set_option linter.unusedVariables false
set_option linter.unusedSimpArgs false
namespace Go.Proofs.YtjaihaccehaicaaDoor
open Go Go.Am Go.Proofs
theorem anyZ_at {p : Int → Bool} {l : List Int} : anyZ p l = true ↔ ∃ j, j < l.length ∧ p (l.getD j 0) = true := by
 unfold anyZ
 rw [decide_eq_true_eq, fi_ge]
theorem anyZ_no {p : Int → Bool} {l : List Int} (h : ∀ j, j < l.length → p (l.getD j 0) = false) : anyZ p l = false := by
 rw [← Bool.not_eq_true, anyZ_at]
 rintro ⟨j, hj, q⟩
 rw [h j hj] at q
 cases q
end Go.Proofs.YtjaihaccehaicaaDoor
set_option linter.unusedVariables false
set_option linter.unusedSimpArgs false
namespace Go.Proofs.YtjaihaccehaicaaDoor
open Go Go.Am Go.Proofs
def outN (n i : Int) : Bool := decide (i < 0) || decide (n ≤ i)
def lN (l : List Int) (i : Nat) : Int := l.getD i 0
def pkOk (l : List Int) (n : Int) : Bool := !anyZ (outN n) l && dis (lN l) l.length
theorem pkOk_iff {l : List Int} {n : Int} : pkOk l n = true ↔ ∀ j, j < l.length → (0 ≤ lN l j ∧ lN l j < n) ∧ ∀ i, i < j → lN l i ≠ lN l j := by
 have e : anyZ (outN n) l = false ↔ ∀ j, j < l.length → 0 ≤ lN l j ∧ lN l j < n := by
  rw [← Bool.not_eq_true, anyZ_at]
  constructor
  ·intro h j hj
   refine Classical.byContradiction fun q => h ⟨j, hj, ?_⟩
   unfold outN
   rw [Bool.or_eq_true, decide_eq_true_eq, decide_eq_true_eq]
   show lN l j < 0 ∨ n ≤ lN l j
   omega
  ·rintro h ⟨j, hj, q⟩
   have := h j hj
   unfold outN at q
   rw [Bool.or_eq_true, decide_eq_true_eq, decide_eq_true_eq] at q
   change lN l j < 0 ∨ n ≤ lN l j at q
   omega
 simp only [pkOk, Bool.and_eq_true, Bool.not_eq_true', e, dis_iff]
 exact ⟨fun h j hj => ⟨h.1 j hj, h.2 j hj⟩, fun h => ⟨fun j hj => (h j hj).1, fun j hj => (h j hj).2⟩⟩
theorem RG44 : (type_of% @c44r0.eq_1) ∧ (type_of% @c44r1.eq_1) ∧ (type_of% @c44r2.eq_1) ∧ (type_of% @c44r3.eq_1) ∧ (type_of% @c44r4.eq_1) ∧ (type_of% @c44r5.eq_1) := ⟨@c44r0.eq_1, @c44r1.eq_1, @c44r2.eq_1, @c44r3.eq_1, @c44r4.eq_1, @c44r5.eq_1⟩
theorem pc50 (l : List Sz) (m : List Hd) (hl : l.length ≤ 9223372036854775807) (hm : m.length ≤ 9223372036854775807) : PC Tryd.prog 44 [vZ l, vH m] (.i .i64 (chk l m)) := by
 have q1 := pc66 l hl
 have q2 := pc67 m hm
 unfold chk
 refine pc_fn fn44 (by simp only [AV.plains, AV.plain, il_plain, bl_plain, Bool.and_true, Bool.true_and, Bool.and_self, fleZ_plain, fleH_plain]) (by simp only [AV.plains, AV.plain, il_plain, bl_plain, Bool.and_true, Bool.true_and, Bool.and_self, fleZ_plain, fleH_plain]) (Nat.le_of_ble_eq_true rfl) ?_
 rw [initSt2]
 cases c1 : szsOk l with
 | false =>
   rw [c1] at q1
   rw [if_pos rfl]
   repeat' first | (with_reducible first | refine k_seq ?_ | refine k_skip ?_ | refine k_blkS ?_ | refine k_blkR ?_ | refine k_blkC ?_ | refine k_blkH ?_ | refine k_blkB ?_ | refine k_blkK ?_ | refine k_blkE ?_ | refine k_reg ?_) | with_reducible refine r_done ?_ | with_reducible refine s_go (by simp (disch := omega) only [RG44, EVA, plug, eq_self, simprocAttr]; with_reducible rfl) ?_ | ((with_reducible refine chk_r ?_); refine r_callF (by simp only [CA, simprocAttr]; rfl) (by exact rfl) (by simp only [CA, simprocAttr]; rfl) rfl ?_) | ((with_reducible refine chk_r ?_); refine r_callP (by simp only [CA, simprocAttr]; rfl) (by simp only [CA, simprocAttr]; rfl) (by first | exact q1 _) rfl ?_) | (with_reducible refine k_condP (by simp only [GA, simprocAttr]; rfl) (by first | (simp only [BO]; rfl) | rfl) (fun ht => ?_) (fun ht => ?_) <;> try (first | exact False.elim ht | exact absurd rfl ht | exact absurd trivial ht | exact Bool.noConfusion ht)) | (with_reducible refine k_ret ?_; repeat with_reducible (first | refine ret_thru ?_ | refine ret_blk ?_ | refine fin ?_)) | (with_reducible refine k_exit ?_; repeat with_reducible (first | refine thru ?_ | refine out_blk ?_ | refine pass (by decide) ?_)) | ((first | refine post1 ?_ | refine post2 ?_ | refine post3 ?_); simp only [GA, simprocAttr]) | refine post0 ?_
   all_goals first | exact ends_of | exact ends_eq rfl
 | true =>
   rw [c1] at q1
   rw [if_neg (by simp)]
   cases c2 : hdsOk m with
   | false =>
     rw [c2] at q2
     rw [if_pos rfl]
     repeat' first | (with_reducible first | refine k_seq ?_ | refine k_skip ?_ | refine k_blkS ?_ | refine k_blkR ?_ | refine k_blkC ?_ | refine k_blkH ?_ | refine k_blkB ?_ | refine k_blkK ?_ | refine k_blkE ?_ | refine k_reg ?_) | with_reducible refine r_done ?_ | with_reducible refine s_go (by simp (disch := omega) only [RG44, EVA, plug, eq_self, simprocAttr]; with_reducible rfl) ?_ | ((with_reducible refine chk_r ?_); refine r_callF (by simp only [CA, simprocAttr]; rfl) (by exact rfl) (by simp only [CA, simprocAttr]; rfl) rfl ?_) | ((with_reducible refine chk_r ?_); refine r_callP (by simp only [CA, simprocAttr]; rfl) (by simp only [CA, simprocAttr]; rfl) (by first | exact q1 _ | exact q2 _) rfl ?_) | (with_reducible refine k_condP (by simp only [GA, simprocAttr]; rfl) (by first | (simp only [BO]; rfl) | rfl) (fun ht => ?_) (fun ht => ?_) <;> try (first | exact False.elim ht | exact absurd rfl ht | exact absurd trivial ht | exact Bool.noConfusion ht)) | (with_reducible refine k_ret ?_; repeat with_reducible (first | refine ret_thru ?_ | refine ret_blk ?_ | refine fin ?_)) | (with_reducible refine k_exit ?_; repeat with_reducible (first | refine thru ?_ | refine out_blk ?_ | refine pass (by decide) ?_)) | ((first | refine post1 ?_ | refine post2 ?_ | refine post3 ?_); simp only [GA, simprocAttr]) | refine post0 ?_
     all_goals first | exact ends_of | exact ends_eq rfl
   | true =>
     rw [c2] at q2
     rw [if_neg (by simp)]
     repeat' first | (with_reducible first | refine k_seq ?_ | refine k_skip ?_ | refine k_blkS ?_ | refine k_blkR ?_ | refine k_blkC ?_ | refine k_blkH ?_ | refine k_blkB ?_ | refine k_blkK ?_ | refine k_blkE ?_ | refine k_reg ?_) | with_reducible refine r_done ?_ | with_reducible refine s_go (by simp (disch := omega) only [RG44, EVA, plug, eq_self, simprocAttr]; with_reducible rfl) ?_ | ((with_reducible refine chk_r ?_); refine r_callF (by simp only [CA, simprocAttr]; rfl) (by exact rfl) (by simp only [CA, simprocAttr]; rfl) rfl ?_) | ((with_reducible refine chk_r ?_); refine r_callP (by simp only [CA, simprocAttr]; rfl) (by simp only [CA, simprocAttr]; rfl) (by first | exact q1 _ | exact q2 _) rfl ?_) | (with_reducible refine k_condP (by simp only [GA, simprocAttr]; rfl) (by first | (simp only [BO]; rfl) | rfl) (fun ht => ?_) (fun ht => ?_) <;> try (first | exact False.elim ht | exact absurd rfl ht | exact absurd trivial ht | exact Bool.noConfusion ht)) | (with_reducible refine k_ret ?_; repeat with_reducible (first | refine ret_thru ?_ | refine ret_blk ?_ | refine fin ?_)) | (with_reducible refine k_exit ?_; repeat with_reducible (first | refine thru ?_ | refine out_blk ?_ | refine pass (by decide) ?_)) | ((first | refine post1 ?_ | refine post2 ?_ | refine post3 ?_); simp only [GA, simprocAttr]) | refine post0 ?_
     all_goals first | exact ends_of | exact ends_eq rfl
theorem chk_ok {l : List Sz} {m : List Hd} (h : chk l m = 0) : szsOk l = true ∧ hdsOk m = true := by
 unfold chk at h
 cases c1 : szsOk l <;> cases c2 : hdsOk m <;> simp [c1, c2] at h ⊢
theorem pc53 (s : Sz) (x : Hd) (hs : szOk s = true) (hx : hdOk x = true) : PC Tryd.prog 45 [.ag (eZ s), .ag (eH x)] (.b (fitB s x)) := by
 have q := pc46 s x hs hx
 unfold fitB
 refine pc_fn fn45 (by simp only [AV.plains, AV.plain, il_plain, bl_plain, Bool.and_true, Bool.true_and, Bool.and_self]) (by simp only [AV.plains, AV.plain, il_plain, bl_plain, Bool.and_true, Bool.true_and, Bool.and_self]) (Nat.le_of_ble_eq_true rfl) ?_
 rw [initSt2]
 repeat' first | (with_reducible first | refine k_seq ?_ | refine k_skip ?_ | refine k_blkS ?_ | refine k_blkR ?_ | refine k_blkC ?_ | refine k_blkH ?_ | refine k_blkB ?_ | refine k_blkK ?_ | refine k_blkE ?_ | refine k_reg ?_) | with_reducible refine r_done ?_ | with_reducible refine s_go (by simp (disch := omega) only [eZ_rd, eH_rd, c45r0, c45r1, EVA, plug, eq_self, simprocAttr]; with_reducible rfl) ?_ | ((with_reducible refine chk_r ?_); refine r_callF (by simp only [CA, simprocAttr]; rfl) (by exact rfl) (by simp only [CA, simprocAttr]; rfl) rfl ?_) | ((with_reducible refine chk_r ?_); refine r_callP (by simp only [CA, simprocAttr]; rfl) (by simp only [CA, simprocAttr]; rfl) (by first | exact q _) rfl ?_) | (with_reducible refine k_condP (by simp only [GA, simprocAttr]; rfl) (by first | (simp only [BO]; rfl) | rfl) (fun ht => ?_) (fun ht => ?_) <;> try (first | exact False.elim ht | exact absurd rfl ht | exact absurd trivial ht | exact Bool.noConfusion ht)) | (with_reducible refine k_ret ?_; repeat with_reducible (first | refine ret_thru ?_ | refine ret_blk ?_ | refine fin ?_)) | (with_reducible refine k_exit ?_; repeat with_reducible (first | refine thru ?_ | refine out_blk ?_ | refine pass (by decide) ?_)) | ((first | refine post1 ?_ | refine post2 ?_ | refine post3 ?_); simp only [GA, simprocAttr]) | refine post0 ?_
 all_goals first | exact ends_of | exact ends_eq rfl
def cvdB (l : List Sz) (x : Hd) (li : List Int) : Bool := anyZ (fun i => fitB (zD l i.toNat) x) li
theorem RG55 : (type_of% @c55r0.eq_1) ∧ (type_of% @c55r1.eq_1) ∧ (type_of% @c55r2.eq_1) ∧ (type_of% @c55r3.eq_1) ∧ (type_of% @c55r4.eq_1) ∧ (type_of% @c55r5.eq_1) ∧ (type_of% @c55r6.eq_1) ∧ (type_of% @c55r8.eq_1) := ⟨@c55r0.eq_1, @c55r1.eq_1, @c55r2.eq_1, @c55r3.eq_1, @c55r4.eq_1, @c55r5.eq_1, @c55r6.eq_1, @c55r8.eq_1⟩
theorem pc68 (l : List Sz) (x : Hd) (li : List Int) (hl : szsOk l = true) (hx : hdOk x = true) (hli : li.length ≤ 9223372036854775807) (hp : pkOk li l.length = true) : PC Tryd.prog 55 [vZ l, .ag (eH x), vi li] (.b (cvdB l x li)) := by
 have L := szsOk_iff.1 hl
 have P := pkOk_iff.1 hp
 refine pc_fn fn55 (by simp only [AV.plains, AV.plain, il_plain, bl_plain, Bool.and_true, Bool.true_and, Bool.and_self, fleZ_plain, il_plain]) (by simp only [AV.plains, AV.plain, il_plain, bl_plain, Bool.and_true, Bool.true_and, Bool.and_self, fleZ_plain, il_plain]) (Nat.le_of_ble_eq_true rfl) ?_
 rw [initSt3]
 repeat' first | (with_reducible first | refine k_seq ?_ | refine k_skip ?_ | refine k_blkS ?_ | refine k_blkR ?_ | refine k_blkC ?_ | refine k_blkH ?_ | refine k_blkB ?_ | refine k_blkK ?_ | refine k_blkE ?_ | refine k_reg ?_) | with_reducible refine k_head (by with_unfolding_all rfl) ?_ | with_reducible refine k_headS ?_ | (with_reducible refine SepK.mk ?_ ?_; (refine sepQ_P ?_; simp [sepQ, sepG, AOp.late, AOp.free, AOp.xs, AOp.isAl, tokNe, AV.tok, stS_get, strip, AX.val, RG55, GA]; try omega)) | with_reducible refine r_done ?_ | with_reducible refine hr_done ?_ | with_reducible refine s_go (by simp (disch := omega) only [RG55, EVA, plug, eq_self, simprocAttr]; with_reducible rfl) ?_ | with_reducible refine h_go (by with_unfolding_all rfl) (by simp (disch := omega) only [RG55, EVA, plug, eq_self, simprocAttr]; with_reducible rfl) ?_ | ((with_reducible refine chk_r ?_); refine r_callF (by simp only [CA, simprocAttr]; rfl) (by exact rfl) (by simp only [CA, simprocAttr]; rfl) rfl ?_) | ((with_reducible refine chk_h ?_); refine hr_callF (by simp only [CA, simprocAttr]; rfl) (by exact rfl) (by simp only [CA, simprocAttr]; rfl) rfl ?_) | ((with_reducible refine chk_h ?_); refine hr_app (by simp (disch := omega) only [RG55, EVA, plug, eq_self, simprocAttr]; with_reducible rfl) rfl ?_) | (with_reducible refine k_condP (by simp only [GA, simprocAttr]; rfl) (by first | (simp only [BO]; rfl) | rfl) (fun ht => ?_) (fun ht => ?_) <;> try (first | exact False.elim ht | exact absurd rfl ht | exact absurd trivial ht | exact Bool.noConfusion ht)) | (with_reducible refine k_ret ?_; repeat with_reducible (first | refine ret_thru ?_ | refine ret_blk ?_ | refine fin ?_)) | (with_reducible refine k_exit ?_; repeat with_reducible (first | refine thru ?_ | refine out_blk ?_ | refine pass (by decide) ?_)) | ((first | refine post1 ?_ | refine post2 ?_ | refine post3 ?_); simp only [GA, simprocAttr]) | refine post0 ?_
 refine k_blk (k_loopS (X := Unit) [0, 4, 9, 10, 11] li.length (fun k _ => [(0, vZ l), (4, .p 1 0), (9, vi li), (10, .i .i64 li.length), (11, .i .i64 (k : Int))]) (fun k _ h => h.m 1 = some (.cells true (eH x)) ∧ ∀ j, j < k → fitB (zD l (li.getD j 0).toNat) x = false) () (by simp only [Am.keep, List.map_cons, List.map_nil, GA, simprocAttr]; try rfl) ⟨by simp (disch := omega) only [RG55, EVA, plug, eq_self, simprocAttr] <;> rfl, fun j hj => by omega⟩ ?_)
 rintro k _ h hk ⟨hm, hf⟩ ok pos
 by_cases klt : k < li.length
 ·have klt' : (k : Int) < li.length := by omega
  have g : (il li)[k]? = some (.i .i64 (lN li k)) := il_get klt
  have hf' := hf
  have pk := (P k klt).1
  have ek : lN li k = li.getD k 0 := rfl
  obtain ⟨a, ha⟩ : ∃ a : Nat, lN li k = (a : Int) := ⟨(lN li k).toNat, by omega⟩
  rw [ha] at g pk
  have ha' : (li.getD k 0).toNat = a := by rw [← ek, ha]; rfl
  have al : (a : Int) < l.length := pk.2
  have rT := rdZ (l := l) (j := a) (by omega)
  have q := pc53 (zD l a) x (L.2.1 a (by omega)) hx
  cases c : fitB (zD l a) x with
  | true =>
    rw [c] at q
    have e : cvdB l x li = true := anyZ_at.2 ⟨k, klt, by rw [ha']; exact c⟩
    rw [e]
    repeat' first | (with_reducible first | refine k_seq ?_ | refine k_skip ?_ | refine k_blkS ?_ | refine k_blkR ?_ | refine k_blkC ?_ | refine k_blkH ?_ | refine k_blkB ?_ | refine k_blkK ?_ | refine k_blkE ?_ | refine k_reg ?_) | with_reducible refine k_head (by with_unfolding_all rfl) ?_ | with_reducible refine k_headS ?_ | (with_reducible refine SepK.mk ?_ ?_; (refine sepQ_P ?_; simp [sepQ, sepG, AOp.late, AOp.free, AOp.xs, AOp.isAl, tokNe, AV.tok, stS_get, strip, AX.val, RG55, GA]; try omega)) | with_reducible refine r_done ?_ | with_reducible refine hr_done ?_ | with_reducible refine s_go (by simp (disch := omega) only [klt', g, al, rT, eH_rd, hm, row_m hm, read_row (row_m hm), RG55, EVA, plug, eq_self, simprocAttr]; with_reducible rfl) ?_ | with_reducible refine h_go (by with_unfolding_all rfl) (by simp (disch := omega) only [klt', g, al, rT, eH_rd, hm, row_m hm, read_row (row_m hm), RG55, EVA, plug, eq_self, simprocAttr]; with_reducible rfl) ?_ | ((with_reducible refine chk_r ?_); refine r_callF (by simp only [CA, simprocAttr]; rfl) (by exact rfl) (by simp only [CA, simprocAttr]; rfl) rfl ?_) | ((with_reducible refine chk_h ?_); refine hr_callF (by simp only [CA, simprocAttr]; rfl) (by exact rfl) (by simp only [CA, simprocAttr]; rfl) rfl ?_) | ((with_reducible refine chk_r ?_); refine r_callP (by simp only [CA, simprocAttr]; rfl) (by simp only [CA, simprocAttr]; rfl) (by first | exact q _) rfl ?_) | ((with_reducible refine chk_h ?_); refine hr_callP (by simp only [CA, simprocAttr]; rfl) (by simp only [CA, simprocAttr]; rfl) (by first | exact q _) rfl ?_) | ((with_reducible refine chk_h ?_); refine hr_callP1 (by simp only [CA, simprocAttr]; rfl) (by simp only [CA, simprocAttr]; rfl) (by simp (disch := omega) only [CA, Nat.reduceEqDiff, ↓reduceIte, firstTok_nil, firstTok_sl, firstTok_sl0, firstTok_i, firstTok_b, firstTok_ag, firstTok_p, firstTok_s]; rfl) (by first | exact q _) rfl ?_) | ((with_reducible refine chk_h ?_); refine hr_app (by simp (disch := omega) only [klt', g, al, rT, eH_rd, hm, row_m hm, read_row (row_m hm), RG55, EVA, plug, eq_self, simprocAttr]; with_reducible rfl) rfl ?_) | (with_reducible refine k_condP (by simp only [GA, simprocAttr]; rfl) (by first | (simp only [BO]; rfl) | rfl) (fun ht => ?_) (fun ht => ?_) <;> try (first | exact False.elim ht | exact absurd rfl ht | exact absurd trivial ht | exact Bool.noConfusion ht)) | (with_reducible refine k_ret ?_; repeat with_reducible (first | refine ret_thru ?_ | refine ret_blk ?_ | refine fin ?_)) | (with_reducible refine k_exit ?_; repeat with_reducible (first | refine thru ?_ | refine out_blk ?_ | refine pass (by decide) ?_)) | ((first | refine post1 ?_ | refine post2 ?_ | refine post3 ?_); simp only [GA, simprocAttr]) | refine post0 ?_
    all_goals first | exact ends_of | exact ends_eq rfl
  | false =>
    rw [c] at q
    repeat' first | (with_reducible first | refine k_seq ?_ | refine k_skip ?_ | refine k_blkS ?_ | refine k_blkR ?_ | refine k_blkC ?_ | refine k_blkH ?_ | refine k_blkB ?_ | refine k_blkK ?_ | refine k_blkE ?_ | refine k_reg ?_) | with_reducible refine k_head (by with_unfolding_all rfl) ?_ | with_reducible refine k_headS ?_ | (with_reducible refine SepK.mk ?_ ?_; (refine sepQ_P ?_; simp [sepQ, sepG, AOp.late, AOp.free, AOp.xs, AOp.isAl, tokNe, AV.tok, stS_get, strip, AX.val, RG55, GA]; try omega)) | with_reducible refine r_done ?_ | with_reducible refine hr_done ?_ | with_reducible refine s_go (by simp (disch := omega) only [klt', g, al, rT, eH_rd, hm, row_m hm, read_row (row_m hm), RG55, EVA, plug, eq_self, simprocAttr]; with_reducible rfl) ?_ | with_reducible refine h_go (by with_unfolding_all rfl) (by simp (disch := omega) only [klt', g, al, rT, eH_rd, hm, row_m hm, read_row (row_m hm), RG55, EVA, plug, eq_self, simprocAttr]; with_reducible rfl) ?_ | ((with_reducible refine chk_r ?_); refine r_callF (by simp only [CA, simprocAttr]; rfl) (by exact rfl) (by simp only [CA, simprocAttr]; rfl) rfl ?_) | ((with_reducible refine chk_h ?_); refine hr_callF (by simp only [CA, simprocAttr]; rfl) (by exact rfl) (by simp only [CA, simprocAttr]; rfl) rfl ?_) | ((with_reducible refine chk_r ?_); refine r_callP (by simp only [CA, simprocAttr]; rfl) (by simp only [CA, simprocAttr]; rfl) (by first | exact q _) rfl ?_) | ((with_reducible refine chk_h ?_); refine hr_callP (by simp only [CA, simprocAttr]; rfl) (by simp only [CA, simprocAttr]; rfl) (by first | exact q _) rfl ?_) | ((with_reducible refine chk_h ?_); refine hr_callP1 (by simp only [CA, simprocAttr]; rfl) (by simp only [CA, simprocAttr]; rfl) (by simp (disch := omega) only [CA, Nat.reduceEqDiff, ↓reduceIte, firstTok_nil, firstTok_sl, firstTok_sl0, firstTok_i, firstTok_b, firstTok_ag, firstTok_p, firstTok_s]; rfl) (by first | exact q _) rfl ?_) | ((with_reducible refine chk_h ?_); refine hr_app (by simp (disch := omega) only [klt', g, al, rT, eH_rd, hm, row_m hm, read_row (row_m hm), RG55, EVA, plug, eq_self, simprocAttr]; with_reducible rfl) rfl ?_) | (with_reducible refine k_condP (by simp only [GA, simprocAttr]; rfl) (by first | (simp only [BO]; rfl) | rfl) (fun ht => ?_) (fun ht => ?_) <;> try (first | exact False.elim ht | exact absurd rfl ht | exact absurd trivial ht | exact Bool.noConfusion ht)) | (with_reducible refine k_ret ?_; repeat with_reducible (first | refine ret_thru ?_ | refine ret_blk ?_ | refine fin ?_)) | (with_reducible refine k_exit ?_; repeat with_reducible (first | refine thru ?_ | refine out_blk ?_ | refine pass (by decide) ?_)) | ((first | refine post1 ?_ | refine post2 ?_ | refine post3 ?_); simp only [GA, simprocAttr]) | refine post0 ?_
    refine ⟨klt, (), (by simp only [Am.keep, List.map_cons, List.map_nil, GA, simprocAttr]; try rfl), by simp (disch := omega) only [hm, RG55, EVA, plug, eq_self, simprocAttr], fun j hj => ?_⟩
    by_cases e : j = k
    ·subst e; rw [ha']; exact c
    ·exact hf j (by omega)
 ·obtain rfl : k = li.length := by omega
  have klt' : ¬ (li.length : Int) < li.length := by omega
  have e : cvdB l x li = false := anyZ_no hf
  rw [e]
  repeat' first | (with_reducible first | refine k_seq ?_ | refine k_skip ?_ | refine k_blkS ?_ | refine k_blkR ?_ | refine k_blkC ?_ | refine k_blkH ?_ | refine k_blkB ?_ | refine k_blkK ?_ | refine k_blkE ?_ | refine k_reg ?_) | with_reducible refine k_head (by with_unfolding_all rfl) ?_ | with_reducible refine k_headS ?_ | (with_reducible refine SepK.mk ?_ ?_; (refine sepQ_P ?_; simp [sepQ, sepG, AOp.late, AOp.free, AOp.xs, AOp.isAl, tokNe, AV.tok, stS_get, strip, AX.val, RG55, GA]; try omega)) | with_reducible refine r_done ?_ | with_reducible refine hr_done ?_ | with_reducible refine s_go (by simp (disch := omega) only [klt', RG55, EVA, plug, eq_self, simprocAttr]; with_reducible rfl) ?_ | with_reducible refine h_go (by with_unfolding_all rfl) (by simp (disch := omega) only [klt', RG55, EVA, plug, eq_self, simprocAttr]; with_reducible rfl) ?_ | ((with_reducible refine chk_r ?_); refine r_callF (by simp only [CA, simprocAttr]; rfl) (by exact rfl) (by simp only [CA, simprocAttr]; rfl) rfl ?_) | ((with_reducible refine chk_h ?_); refine hr_callF (by simp only [CA, simprocAttr]; rfl) (by exact rfl) (by simp only [CA, simprocAttr]; rfl) rfl ?_) | ((with_reducible refine chk_h ?_); refine hr_app (by simp (disch := omega) only [klt', RG55, EVA, plug, eq_self, simprocAttr]; with_reducible rfl) rfl ?_) | (with_reducible refine k_condP (by simp only [GA, simprocAttr]; rfl) (by first | (simp only [BO]; rfl) | rfl) (fun ht => ?_) (fun ht => ?_) <;> try (first | exact False.elim ht | exact absurd rfl ht | exact absurd trivial ht | exact Bool.noConfusion ht)) | (with_reducible refine k_ret ?_; repeat with_reducible (first | refine ret_thru ?_ | refine ret_blk ?_ | refine fin ?_)) | (with_reducible refine k_exit ?_; repeat with_reducible (first | refine thru ?_ | refine out_blk ?_ | refine pass (by decide) ?_)) | ((first | refine post1 ?_ | refine post2 ?_ | refine post3 ?_); simp only [GA, simprocAttr]) | refine post0 ?_
  all_goals first | exact ends_of | exact ends_eq rfl
def cvsB (l : List Sz) (m : List Hd) (li : List Int) : Bool := decide (∀ k, k < m.length → cvdB l (hD m k) li = true)
theorem RG53 : (type_of% @c53r0.eq_1) ∧ (type_of% @c53r1.eq_1) ∧ (type_of% @c53r2.eq_1) ∧ (type_of% @c53r3.eq_1) ∧ (type_of% @c53r4.eq_1) ∧ (type_of% @c53r5.eq_1) ∧ (type_of% @c53r6.eq_1) ∧ (type_of% @c53r8.eq_1) := ⟨@c53r0.eq_1, @c53r1.eq_1, @c53r2.eq_1, @c53r3.eq_1, @c53r4.eq_1, @c53r5.eq_1, @c53r6.eq_1, @c53r8.eq_1⟩
theorem pc52 (l : List Sz) (m : List Hd) (li : List Int) (hl : szsOk l = true) (hm : hdsOk m = true) (hli : li.length ≤ 9223372036854775807) (hp : pkOk li l.length = true) : PC Tryd.prog 53 [vZ l, vH m, vi li] (.b (cvsB l m li)) := by
 have M := hdsOk_iff.1 hm
 refine pc_fn fn53 (by simp only [AV.plains, AV.plain, il_plain, bl_plain, Bool.and_true, Bool.true_and, Bool.and_self, fleZ_plain, fleH_plain, il_plain]) (by simp only [AV.plains, AV.plain, il_plain, bl_plain, Bool.and_true, Bool.true_and, Bool.and_self, fleZ_plain, fleH_plain, il_plain]) (Nat.le_of_ble_eq_true rfl) ?_
 rw [initSt3]
 repeat' first | (with_reducible first | refine k_seq ?_ | refine k_skip ?_ | refine k_blkS ?_ | refine k_blkR ?_ | refine k_blkC ?_ | refine k_blkH ?_ | refine k_blkB ?_ | refine k_blkK ?_ | refine k_blkE ?_ | refine k_reg ?_) | with_reducible refine r_done ?_ | with_reducible refine s_go (by simp (disch := omega) only [RG53, EVA, plug, eq_self, simprocAttr]; with_reducible rfl) ?_ | ((with_reducible refine chk_r ?_); refine r_callF (by simp only [CA, simprocAttr]; rfl) (by exact rfl) (by simp only [CA, simprocAttr]; rfl) rfl ?_) | (with_reducible refine k_condP (by simp only [GA, simprocAttr]; rfl) (by first | (simp only [BO]; rfl) | rfl) (fun ht => ?_) (fun ht => ?_) <;> try (first | exact False.elim ht | exact absurd rfl ht | exact absurd trivial ht | exact Bool.noConfusion ht)) | (with_reducible refine k_ret ?_; repeat with_reducible (first | refine ret_thru ?_ | refine ret_blk ?_ | refine fin ?_)) | (with_reducible refine k_exit ?_; repeat with_reducible (first | refine thru ?_ | refine out_blk ?_ | refine pass (by decide) ?_)) | ((first | refine post1 ?_ | refine post2 ?_ | refine post3 ?_); simp only [GA, simprocAttr]) | refine post0 ?_
 refine k_blk (k_loopS (X := Unit) [0, 2, 9, 10, 11] m.length (fun k _ => [(0, vZ l), (2, vi li), (9, vH m), (10, .i .i64 m.length), (11, .i .i64 (k : Int))]) (fun k _ h => ∀ j, j < k → cvdB l (hD m j) li = true) () (by simp only [Am.keep, List.map_cons, List.map_nil, GA, simprocAttr]; try rfl) (fun j hj => by omega) ?_)
 rintro k _ h hk hf ok pos
 by_cases klt : k < m.length
 ·have klt' : (k : Int) < m.length := by omega
  have rT := rdH klt
  have q := pc68 l (hD m k) li hl (M.2.1 k klt) hli hp
  cases c : cvdB l (hD m k) li with
  | false =>
    rw [c] at q
    have e : cvsB l m li = false := decide_eq_false fun h => by rw [h k klt] at c; cases c
    rw [e]
    repeat' first | (with_reducible first | refine k_seq ?_ | refine k_skip ?_ | refine k_blkS ?_ | refine k_blkR ?_ | refine k_blkC ?_ | refine k_blkH ?_ | refine k_blkB ?_ | refine k_blkK ?_ | refine k_blkE ?_ | refine k_reg ?_) | with_reducible refine r_done ?_ | with_reducible refine s_go (by simp (disch := omega) only [klt', rT, eH_rd, RG53, EVA, plug, eq_self, simprocAttr]; with_reducible rfl) ?_ | ((with_reducible refine chk_r ?_); refine r_callF (by simp only [CA, simprocAttr]; rfl) (by exact rfl) (by simp only [CA, simprocAttr]; rfl) rfl ?_) | ((with_reducible refine chk_r ?_); refine r_callP (by simp only [CA, simprocAttr]; rfl) (by simp only [CA, simprocAttr]; rfl) (by first | exact q _) rfl ?_) | (with_reducible refine k_condP (by simp only [GA, simprocAttr]; rfl) (by first | (simp only [BO]; rfl) | rfl) (fun ht => ?_) (fun ht => ?_) <;> try (first | exact False.elim ht | exact absurd rfl ht | exact absurd trivial ht | exact Bool.noConfusion ht)) | (with_reducible refine k_ret ?_; repeat with_reducible (first | refine ret_thru ?_ | refine ret_blk ?_ | refine fin ?_)) | (with_reducible refine k_exit ?_; repeat with_reducible (first | refine thru ?_ | refine out_blk ?_ | refine pass (by decide) ?_)) | ((first | refine post1 ?_ | refine post2 ?_ | refine post3 ?_); simp only [GA, simprocAttr]) | refine post0 ?_
    all_goals first | exact ends_of | exact ends_eq rfl
  | true =>
    rw [c] at q
    repeat' first | (with_reducible first | refine k_seq ?_ | refine k_skip ?_ | refine k_blkS ?_ | refine k_blkR ?_ | refine k_blkC ?_ | refine k_blkH ?_ | refine k_blkB ?_ | refine k_blkK ?_ | refine k_blkE ?_ | refine k_reg ?_) | with_reducible refine r_done ?_ | with_reducible refine s_go (by simp (disch := omega) only [klt', rT, eH_rd, RG53, EVA, plug, eq_self, simprocAttr]; with_reducible rfl) ?_ | ((with_reducible refine chk_r ?_); refine r_callF (by simp only [CA, simprocAttr]; rfl) (by exact rfl) (by simp only [CA, simprocAttr]; rfl) rfl ?_) | ((with_reducible refine chk_r ?_); refine r_callP (by simp only [CA, simprocAttr]; rfl) (by simp only [CA, simprocAttr]; rfl) (by first | exact q _) rfl ?_) | (with_reducible refine k_condP (by simp only [GA, simprocAttr]; rfl) (by first | (simp only [BO]; rfl) | rfl) (fun ht => ?_) (fun ht => ?_) <;> try (first | exact False.elim ht | exact absurd rfl ht | exact absurd trivial ht | exact Bool.noConfusion ht)) | (with_reducible refine k_ret ?_; repeat with_reducible (first | refine ret_thru ?_ | refine ret_blk ?_ | refine fin ?_)) | (with_reducible refine k_exit ?_; repeat with_reducible (first | refine thru ?_ | refine out_blk ?_ | refine pass (by decide) ?_)) | ((first | refine post1 ?_ | refine post2 ?_ | refine post3 ?_); simp only [GA, simprocAttr]) | refine post0 ?_
    refine ⟨klt, (), (by simp only [Am.keep, List.map_cons, List.map_nil, GA, simprocAttr]; try rfl), fun j hj => ?_⟩
    by_cases e : j = k
    ·subst e; exact c
    ·exact hf j (by omega)
 ·obtain rfl : k = m.length := by omega
  have klt' : ¬ (m.length : Int) < m.length := by omega
  have e : cvsB l m li = true := decide_eq_true hf
  rw [e]
  repeat' first | (with_reducible first | refine k_seq ?_ | refine k_skip ?_ | refine k_blkS ?_ | refine k_blkR ?_ | refine k_blkC ?_ | refine k_blkH ?_ | refine k_blkB ?_ | refine k_blkK ?_ | refine k_blkE ?_ | refine k_reg ?_) | with_reducible refine r_done ?_ | with_reducible refine s_go (by simp (disch := omega) only [klt', RG53, EVA, plug, eq_self, simprocAttr]; with_reducible rfl) ?_ | ((with_reducible refine chk_r ?_); refine r_callF (by simp only [CA, simprocAttr]; rfl) (by exact rfl) (by simp only [CA, simprocAttr]; rfl) rfl ?_) | (with_reducible refine k_condP (by simp only [GA, simprocAttr]; rfl) (by first | (simp only [BO]; rfl) | rfl) (fun ht => ?_) (fun ht => ?_) <;> try (first | exact False.elim ht | exact absurd rfl ht | exact absurd trivial ht | exact Bool.noConfusion ht)) | (with_reducible refine k_ret ?_; repeat with_reducible (first | refine ret_thru ?_ | refine ret_blk ?_ | refine fin ?_)) | (with_reducible refine k_exit ?_; repeat with_reducible (first | refine thru ?_ | refine out_blk ?_ | refine pass (by decide) ?_)) | ((first | refine post1 ?_ | refine post2 ?_ | refine post3 ?_); simp only [GA, simprocAttr]) | refine post0 ?_
  all_goals first | exact ends_of | exact ends_eq rfl
end Go.Proofs.YtjaihaccehaicaaDoor
set_option linter.unusedVariables false
set_option linter.unusedSimpArgs false
namespace Go.Proofs.YtjaihaccehaicaaDoor
open Go Go.Am Go.Proofs
def orS (f : List Nat) (li : List Int) : Nat → Nat
 | 0 => 0
 | k + 1 => orS f li k ||| f.getD (lN li k).toNat 0
def shS (li : List Int) : Nat → Nat
 | 0 => 0
 | k + 1 => shS li k ||| 2 ^ (lN li k).toNat
theorem orS_bit {f : List Nat} {li : List Int} {i : Nat} : ∀ {k : Nat}, (orS f li k).testBit i = true ↔ ∃ j, j < k ∧ (f.getD (lN li j).toNat 0).testBit i = true
 | 0 => by simp [orS]
 | k + 1 => by
   rw [orS, Nat.testBit_or, Bool.or_eq_true, orS_bit (k := k)]
   constructor
   ·rintro (⟨j, hj, q⟩ | q)
    ·exact ⟨j, by omega, q⟩
    ·exact ⟨k, by omega, q⟩
   ·rintro ⟨j, hj, q⟩
    by_cases e : j = k
    ·subst e; exact .inr q
    ·exact .inl ⟨j, by omega, q⟩
theorem shS_bit {li : List Int} {i : Nat} : ∀ {k : Nat}, (shS li k).testBit i = true ↔ ∃ j, j < k ∧ (lN li j).toNat = i
 | 0 => by simp [shS]
 | k + 1 => by
   rw [shS, Nat.testBit_or, Bool.or_eq_true, shS_bit (k := k), Nat.testBit_two_pow, decide_eq_true_eq]
   constructor
   ·rintro (⟨j, hj, q⟩ | q)
    ·exact ⟨j, by omega, q⟩
    ·exact ⟨k, by omega, q⟩
   ·rintro ⟨j, hj, q⟩
    by_cases e : j = k
    ·subst e; exact .inr q
    ·exact .inl ⟨j, by omega, q⟩
theorem fitL_get {l : List Sz} {m : List Hd} {a : Nat} (h : a < l.length) : (fitL l m).getD a 0 = fitS m (zD l a) := by
 unfold fitL zD
 rw [List.getD_eq_getElem?_getD, List.getElem?_map, List.getD_eq_getElem?_getD, List.getElem?_eq_getElem h]
 rfl
theorem fitS_bit {m : List Hd} {s : Sz} {i : Nat} : (fitS m s).testBit i = true ↔ i < m.length ∧ fitB s (hD m i) = true := by
 unfold fitS
 rw [sv_bit, Bool.and_eq_true, decide_eq_true_eq]
theorem fitS_lt {m : List Hd} {s : Sz} : fitS m s < 2 ^ m.length := sv_lt
theorem orS_lt {l : List Sz} {m : List Hd} {li : List Int} (hp : pkOk li l.length = true) : ∀ {k : Nat}, k ≤ li.length → orS (fitL l m) li k < 2 ^ m.length
 | 0, _ => Nat.two_pow_pos _
 | k + 1, h => by
   have p := ((pkOk_iff.1 hp) k (by omega)).1
   rw [orS, fitL_get (by omega)]
   exact Nat.or_lt_two_pow (orS_lt hp (by omega)) fitS_lt
def apP (l : List Sz) (m : List Hd) (li : List Int) (i j s : Nat) : Prop := fitB (zD l s) (hD m (lN li i).toNat) = true ∧ fitB (zD l s) (hD m (lN li j).toNat) = true
instance (l : List Sz) (m : List Hd) (li : List Int) (i j s : Nat) : Decidable (apP l m li i j s) := inferInstanceAs (Decidable (_ ∧ _))
end Go.Proofs.YtjaihaccehaicaaDoor
set_option linter.unusedVariables false
set_option linter.unusedSimpArgs false
namespace Go.Proofs.YtjaihaccehaicaaDoor
open Go Go.Am Go.Proofs
theorem and_split2 {a p u q : Nat} (ha : a < 2) (hp : p < 2) : (a + 2 * u) &&& (p + 2 * q) = (a &&& p) + 2 * (u &&& q) := by
 have h1 : ((a + 2 * u) &&& (p + 2 * q)) % 2 ^ 1 = a &&& p := by
  rw [Nat.and_mod_two_pow]
  congr 1 <;> omega
 have h2 : ((a + 2 * u) &&& (p + 2 * q)) / 2 ^ 1 = u &&& q := by
  rw [Nat.and_div_two_pow]
  congr 1 <;> omega
 omega
def tzA : Nat → Nat → Nat
 | 0, _ => 0
 | m + 1, x => if x % 2 = 1 then 0 else 1 + tzA m (x / 2)
theorem compl_and : ∀ {m y : Nat}, y < 2 ^ m → y &&& (2 ^ m - 1 - y) = 0
 | 0, y, h => by
   have : y = 0 := by simpa using h
   subst this
   rfl
 | m + 1, y, h => by
   rw [Nat.pow_succ] at h ⊢
   have ih := compl_and (m := m) (y := y / 2) (by omega)
   have e1 : y = y % 2 + 2 * (y / 2) := by omega
   have e2 : 2 ^ m * 2 - 1 - y = (1 - y % 2) + 2 * (2 ^ m - 1 - y / 2) := by omega
   rw [e2]
   conv => lhs; lhs; rw [e1]
   rw [and_split2 (by omega) (by omega), ih]
   rcases Nat.mod_two_eq_zero_or_one y with e | e <;> rw [e] <;> rfl
theorem neg_and : ∀ {m x : Nat}, 0 < x → x < 2 ^ m → x &&& (2 ^ m - x) = 2 ^ tzA m x
 | 0, x, h0, h => by
   have : x = 0 := by simpa using h
   omega
 | m + 1, x, h0, h => by
   rw [Nat.pow_succ] at h ⊢
   rw [tzA]
   rcases Nat.mod_two_eq_zero_or_one x with e | e
   ·have e1 : x = 0 + 2 * (x / 2) := by omega
    have e2 : 2 ^ m * 2 - x = 0 + 2 * (2 ^ m - x / 2) := by omega
    rw [e2, if_neg (by omega)]
    conv => lhs; lhs; rw [e1]
    rw [and_split2 (by omega) (by omega), neg_and (by omega) (by omega), Nat.add_comm 1, Nat.pow_succ]
    simp only [Nat.and_self, Nat.zero_add]
    omega
   ·have e1 : x = 1 + 2 * (x / 2) := by omega
    have e2 : 2 ^ m * 2 - x = 1 + 2 * (2 ^ m - 1 - x / 2) := by omega
    rw [e2, if_pos e]
    conv => lhs; lhs; rw [e1]
    rw [and_split2 (by omega) (by omega), compl_and (by omega)]
    rfl
theorem tz_bit : ∀ {m x : Nat}, 0 < x → x < 2 ^ m → tzA m x < m ∧ x.testBit (tzA m x) = true ∧ (∀ i, i < tzA m x → x.testBit i = false) ∧ ∀ i, (x &&& (x - 1)).testBit i = (x.testBit i && decide (i ≠ tzA m x))
 | 0, x, h0, h => by
   have : x = 0 := by simpa using h
   omega
 | m + 1, x, h0, h => by
   rw [Nat.pow_succ] at h
   rw [tzA]
   rcases Nat.mod_two_eq_zero_or_one x with e | e
   ·rw [if_neg (by omega)]
    obtain ⟨i1, i2, i3, i4⟩ := tz_bit (m := m) (x := x / 2) (by omega) (by omega)
    refine ⟨by omega, ?_, fun i hi => ?_, fun i => ?_⟩
    ·rw [Nat.add_comm 1, Nat.testBit_succ]; exact i2
    ·cases i with
     | zero => rw [Nat.testBit_zero, e]; rfl
     | succ i => rw [Nat.testBit_succ]; exact i3 i (by omega)
    ·have e1 : x = 0 + 2 * (x / 2) := by omega
     have e2 : x - 1 = 1 + 2 * (x / 2 - 1) := by omega
     have e3 : x &&& (x - 1) = 2 * (x / 2 &&& (x / 2 - 1)) := by
      rw [e2]
      conv => lhs; lhs; rw [e1]
      rw [and_split2 (by omega) (by omega)]
      simp
     rw [e3]
     cases i with
     | zero => rw [Nat.testBit_zero, Nat.testBit_zero, e]; simp
     | succ i =>
       rw [Nat.testBit_succ, Nat.testBit_succ, Nat.mul_div_cancel_left _ (by omega), i4]
       congr 2
       rw [eq_iff_iff]; omega
   ·rw [if_pos e]
    refine ⟨by omega, by rw [Nat.testBit_zero, e]; rfl, fun i hi => by omega, fun i => ?_⟩
    have e1 : x = 1 + 2 * (x / 2) := by omega
    have e2 : x - 1 = 0 + 2 * (x / 2) := by omega
    have e3 : x &&& (x - 1) = 2 * (x / 2) := by
     rw [e2]
     conv => lhs; lhs; rw [e1]
     rw [and_split2 (by omega) (by omega)]
     simp
    rw [e3]
    cases i with
    | zero => rw [Nat.testBit_zero]; simp
    | succ i =>
      rw [Nat.testBit_succ, Nat.testBit_succ, Nat.mul_div_cancel_left _ (by omega)]
      simp
theorem filt_step {p q : Nat → Bool} {t : Nat} (ht : p t = true) (hl : ∀ i, i < t → p i = false) (hq : ∀ i, q i = (p i && decide (i ≠ t))) : ∀ {n : Nat}, t < n → (List.range n).filter p = t :: (List.range n).filter q
 | n + 1, h => by
   rw [List.range_succ, List.filter_append, List.filter_append]
   by_cases e : t = n
   ·subst e
    have e1 : (List.range t).filter p = [] := List.filter_eq_nil_iff.2 fun a ha => by rw [hl a (List.mem_range.1 ha)]; simp
    have e2 : (List.range t).filter q = [] := List.filter_eq_nil_iff.2 fun a ha => by rw [hq, hl a (List.mem_range.1 ha)]; simp
    rw [e1, e2, List.filter_cons, if_pos ht, List.filter_cons, hq t]
    simp
   ·rw [filt_step ht hl hq (n := n) (by omega), List.cons_append]
    congr 2
    have : q n = p n := by rw [hq]; have : n ≠ t := fun q => e q.symm; simp [this]
    rw [List.filter_cons, List.filter_cons, this]
    rfl
def bts (s : Nat) : List Int := ((List.range 64).filter fun i => s.testBit i).map fun i : Nat => (i : Int)
theorem bts_zero : bts 0 = [] := by
 unfold bts
 rw [List.filter_eq_nil_iff.2 fun a _ => by simp]
 rfl
theorem bts_step {s : Nat} (h0 : 0 < s) (h : s < 2 ^ 64) : bts s = (tzA 64 s : Int) :: bts (s &&& (s - 1)) := by
 obtain ⟨h1, h2, h3, h4⟩ := tz_bit h0 h
 unfold bts
 rw [filt_step (p := fun i => s.testBit i) h2 h3 h4 h1]
 rfl
theorem clr_lt {s : Nat} (h0 : 0 < s) : s &&& (s - 1) < s := Nat.lt_of_le_of_lt Nat.and_le_right (by omega)
theorem bts_len (s : Nat) : (bts s).length ≤ 64 := by
 unfold bts
 rw [List.length_map]
 exact Nat.le_trans (List.length_filter_le _ _) (by simp)
def deB : List Nat := [0, 1, 56, 2, 57, 49, 28, 3, 61, 58, 42, 50, 38, 29, 17, 4, 62, 47, 59, 36, 45, 43, 51, 22, 53, 39, 33, 30, 24, 18, 12, 5, 63, 55, 48, 27, 60, 41, 37, 16, 46, 35, 44, 21, 52, 32, 23, 11, 54, 26, 40, 15, 34, 20, 31, 10, 25, 14, 19, 9, 13, 8, 7, 6]
end Go.Proofs.YtjaihaccehaicaaDoor
set_option linter.unusedVariables false
namespace Go.Am
section
variable {P : Program} {N : Nat} {Q : Exit → St → AH → Prop} {st : St} {h : AH}
theorem w_frzS {c : AC} (d : Nat) {t n a : Nat} (k : Nat) {cs : List AV} (hm : h.m t = some (.cells true cs)) (hd : st.get d = .sl t 0 n a) (hl : n * k = cs.length) (w : W P N c Q ((d, .vs n cs) :: st) (h.kill t)) : W P N c Q st h :=
 w_frz hm (fun x => by
  simp only [St.get]
  by_cases e : x = d
  ·subst e
   rw [if_pos rfl, hd]
   have := @FrzV.sl t cs 0 n k a (by omega)
   rwa [List.drop_zero, hl, List.take_length] at this
  ·rw [if_neg e]; exact .same) w
theorem w_nilS {c : AC} (d : Nat) {a : Nat} (hd : st.get d = .sl 0 0 0 a) (w : W P N c Q ((d, .vs 0 []) :: st) h) : W P N c Q st h :=
 w_frz0 (fun x => by
  rw [show St.get ((d, AV.vs 0 []) :: st) x = if x = d then .vs 0 [] else st.get x from rfl]
  by_cases e : x = d
  ·subst e; rw [if_pos rfl, hd]; exact .nil
  ·rw [if_neg e]; exact .same) w
end
end Go.Am
set_option linter.unusedVariables false
set_option linter.unusedSimpArgs false
namespace Go.Proofs.YtjaihaccehaicaaDoor
open Go Go.Am Go.Proofs
theorem TABC_deB : TABC = deB.map fun n : Nat => AV.i .u8 (n : Int) := rfl
theorem deB_idx : ∀ k : Fin 64, deB[(2 ^ k.val * 285870213051353865) % 2 ^ 64 / 2 ^ 58]? = some k.val := by decide +kernel
theorem TABC_at {k : Nat} (h : k < 64) : TABC[(2 ^ k * 285870213051353865) % 2 ^ 64 / 2 ^ 58]? = some (.i .u8 (k : Int)) := by
 rw [TABC_deB, List.getElem?_map, deB_idx ⟨k, h⟩]; rfl
theorem wrapU (n : Int) : IntKind.u64.wrap n = n % 18446744073709551616 := rfl
theorem rd_one (cs : List AV) (o : Nat) : rd cs o none = cs[o]? := rfl
theorem RG70 : (type_of% @c70r0.eq_1) ∧ (type_of% @c70r1.eq_1) ∧ (type_of% @c70r2.eq_1) ∧ (type_of% @c70r3.eq_1) := ⟨@c70r0.eq_1, @c70r1.eq_1, @c70r2.eq_1, @c70r3.eq_1⟩
theorem d70 (x : Nat) (h0 : 0 < x) (h : x < 2 ^ 64) : PC Tryd.prog 70 [.i .u64 (x : Int)] (.i .i64 (tzA 64 x : Nat)) := by
 obtain ⟨t1, -, -, -⟩ := tz_bit h0 h
 have n1 : IntKind.u64.wrap (0 - (x : Int)) = ((2 ^ 64 - x : Nat) : Int) := by
  rw [wrapU]; omega
 have n2 := and_64 h (show 2 ^ 64 - x < 2 ^ 64 by omega)
 rw [neg_and h0 h] at n2
 have z := eq_false (show ¬ (x : Int) = 0 by omega)
 generalize tzA 64 x = k at *
 have n3 : IntKind.u64.wrap (((2 ^ k : Nat) : Int) * 285870213051353865) = ((2 ^ k * 285870213051353865 % 2 ^ 64 : Nat) : Int) := by
  rw [wrapU]; generalize 2 ^ k = y; omega
 have n4 := shr_64 (2 ^ k * 285870213051353865 % 2 ^ 64) 58 (by omega)
 have n5 : ((2 ^ k * 285870213051353865 % 2 ^ 64 / 2 ^ 58 : Nat) : Int) < 64 := by
  generalize 2 ^ k * 285870213051353865 = y; omega
 have n6 := TABC_at t1
 have n7 : IntKind.i64.wrap (k : Int) = k := wrap64 (by omega) (by omega)
 generalize 2 ^ k * 285870213051353865 % 2 ^ 64 / 2 ^ 58 = j at *
 generalize 2 ^ k * 285870213051353865 % 2 ^ 64 = i at *
 generalize 2 ^ k = y at *
 generalize 2 ^ 64 - x = v at *
 have j0 : (0 : Int) ≤ (j : Int) := by omega
 refine pc_fn fn70 (by simp only [AV.plains, AV.plain, il_plain, bl_plain, Bool.and_true, Bool.true_and, Bool.and_self]) (by simp only [AV.plains, AV.plain, il_plain, bl_plain, Bool.and_true, Bool.true_and, Bool.and_self]) (Nat.le_of_ble_eq_true rfl) ?_
 rw [initSt1]
 repeat' first | (with_reducible first | refine k_seq ?_ | refine k_skip ?_ | refine k_blkS ?_ | refine k_blkR ?_ | refine k_blkC ?_ | refine k_blkH ?_ | refine k_blkB ?_ | refine k_blkK ?_ | refine k_blkE ?_ | refine k_reg ?_) | with_reducible refine r_done ?_ | with_reducible refine s_go (by simp (disch := omega) only [z, n1, n2, n3, n4, n5, n6, n7, j0, rd_one, RG70, EVA, plug, eq_self, simprocAttr]; with_reducible rfl) ?_ | ((with_reducible refine chk_r ?_); refine r_callF (by simp only [CA, simprocAttr]; rfl) (by exact rfl) (by simp only [CA, simprocAttr]; rfl) rfl ?_) | (with_reducible refine k_condP (by simp only [GA, simprocAttr]; rfl) (by first | (simp only [BO]; rfl) | rfl) (fun ht => ?_) (fun ht => ?_) <;> try (first | exact False.elim ht | exact absurd rfl ht | exact absurd trivial ht | exact Bool.noConfusion ht)) | (with_reducible refine k_ret ?_; repeat with_reducible (first | refine ret_thru ?_ | refine ret_blk ?_ | refine fin ?_)) | (with_reducible refine k_exit ?_; repeat with_reducible (first | refine thru ?_ | refine out_blk ?_ | refine pass (by decide) ?_)) | ((first | refine post1 ?_ | refine post2 ?_ | refine post3 ?_); simp only [GA, simprocAttr]) | refine post0 ?_
 all_goals first | exact ends_of | exact ends_eq rfl
theorem a43 (s : Int) (h : AH) : ACalls Tryd.prog 43 [.i .u64 s] h fun r h' => ∃ t, r = .fn 69 [] [.p t 0] ∧ h.nx ≤ t ∧ h'.m t = some (.cells true [.i .u64 s]) ∧ (∀ u, u < h.nx → h'.m u = h.m u) ∧ h.nx ≤ h'.nx := by
 refine a_fn fn43 (by simp) fun ok pos => ?_
 rw [initSt1]
 repeat' first | (with_reducible first | refine k_seq ?_ | refine k_skip ?_ | refine k_blkS ?_ | refine k_blkR ?_ | refine k_blkC ?_ | refine k_blkH ?_ | refine k_blkB ?_ | refine k_blkK ?_ | refine k_blkE ?_ | refine k_reg ?_) | with_reducible refine r_done ?_ | with_reducible refine s_go (by simp (disch := omega) only [c43r0, c43r1, EVA, plug, eq_self, simprocAttr]; with_reducible rfl) ?_ | ((with_reducible refine chk_r ?_); refine r_callF (by simp only [CA, simprocAttr]; rfl) (by exact rfl) (by simp only [CA, simprocAttr]; rfl) rfl ?_) | (with_reducible refine k_condP (by simp only [GA, simprocAttr]; rfl) (by first | (simp only [BO]; rfl) | rfl) (fun ht => ?_) (fun ht => ?_) <;> try (first | exact False.elim ht | exact absurd rfl ht | exact absurd trivial ht | exact Bool.noConfusion ht)) | (with_reducible refine k_ret ?_; repeat with_reducible (first | refine ret_thru ?_ | refine ret_blk ?_ | refine fin ?_)) | (with_reducible refine k_exit ?_; repeat with_reducible (first | refine thru ?_ | refine out_blk ?_ | refine pass (by decide) ?_)) | ((first | refine post1 ?_ | refine post2 ?_ | refine post3 ?_); simp only [GA, simprocAttr]) | refine post0 ?_
 refine ⟨_, rfl, Nat.le_refl _, by simp (disch := omega) only [c43r0, c43r1, EVA, plug, eq_self, simprocAttr] <;> rfl, fun u hu => ?_, by simp (disch := omega) only [c43r0, c43r1, EVA, plug, eq_self, simprocAttr] <;> omega⟩
 have : ¬ u = h.nx := by omega
 simp (disch := omega) only [this, c43r0, c43r1, EVA, plug, eq_self, simprocAttr]
abbrev cl (s : Nat) : Blk := .cells true [.i .u64 (s : Int)]
theorem end68 {R : AV → AH → Prop} {sv : AV} {t tb x : Nat} {xs : List Int} {h : AH} (A : App sv t tb x xs h) (hA : ∀ h2, (∀ u, h2.m u = (h.kill t).m u) → h.nx ≤ h2.nx → R (.sl x 0 xs.length 1) h2) :
 W0 Tryd.prog 13 (.seq (.reg c68r5) .ret) (athen (Post q68 R) (Fin (Post q68 R))) [(6, sv), (4, .sl 0 0 0 0), (2, .p tb 0), (0, .sl 0 0 0 0), (1, sv)] (h.kill t) := by
 obtain ⟨hr, hb, hx, x0, t1, t2, t3⟩ := A
 have t1' : ¬ tb = t := fun q => t1 q.symm
 have hb' : (h.kill t).m tb = some (.cells true [.sl x 0 xs.length 1]) := by simp only [AH.kill, t1', if_false]; exact hb
 refine w0_of ?_
 repeat' first | (with_reducible first | refine k_seq ?_ | refine k_skip ?_ | refine k_blkS ?_ | refine k_blkR ?_ | refine k_blkC ?_ | refine k_blkH ?_ | refine k_blkB ?_ | refine k_blkK ?_ | refine k_blkE ?_ | refine k_reg ?_) | with_reducible refine r_done ?_ | with_reducible refine s_go (by simp (disch := omega) only [hb', row_m hb', read_row (row_m hb'), RG68, EVA, plug, eq_self, simprocAttr]; with_reducible rfl) ?_ | ((with_reducible refine chk_r ?_); refine r_callF (by simp only [CA, simprocAttr]; rfl) (by exact rfl) (by simp only [CA, simprocAttr]; rfl) rfl ?_) | (with_reducible refine k_condP (by simp only [GA, simprocAttr]; rfl) (by first | (simp only [BO]; rfl) | rfl) (fun ht => ?_) (fun ht => ?_) <;> try (first | exact False.elim ht | exact absurd rfl ht | exact absurd trivial ht | exact Bool.noConfusion ht)) | (with_reducible refine k_ret ?_; repeat with_reducible (first | refine ret_thru ?_ | refine ret_blk ?_ | refine fin ?_)) | (with_reducible refine k_exit ?_; repeat with_reducible (first | refine thru ?_ | refine out_blk ?_ | refine pass (by decide) ?_)) | ((first | refine post1 ?_ | refine post2 ?_ | refine post3 ?_); simp only [GA, simprocAttr]) | refine post0 ?_
 exact hA _ (fun u => rfl) (by simp only [AH.bump_nx, AH.kill_nx]; omega)
set_option maxHeartbeats 1000000 in
theorem n68a (t : Nat) (s : Nat) (hs : s < 2 ^ 64) (h : AH) (hm : h.m t = some (cl s)) : ACalls Tryd.prog 68 [.sl 0 0 0 0, .fn 69 [] [.p t 0]] h fun r h' => r = vi (bts s) ∧ Upd t [.i .u64 0] h h' := by
 refine acalls_frz ?_
 refine ACalls.mono (R := EndsW (vi (bts s)) (Upd t [.i .u64 0] h)) ?_ fun r h' ⟨h'', F, hR⟩ => ⟨_, h'', F, rfl, hR⟩
 refine a_fn0 fn68 (by simp) fun ok pos => ?_
 have lt := ok.m hm
 rw [initSt2]
 refine k0_seq ?_
 repeat' first | (with_reducible first | refine k_seq ?_ | refine k_skip ?_ | refine k_blkS ?_ | refine k_blkR ?_ | refine k_blkC ?_ | refine k_blkH ?_ | refine k_blkB ?_ | refine k_blkK ?_ | refine k_blkE ?_ | refine k_reg ?_) | with_reducible refine r_done ?_ | with_reducible refine s_go (by simp (disch := omega) only [RG68, EVA, plug, eq_self, simprocAttr]; with_reducible rfl) ?_ | ((with_reducible refine chk_r ?_); refine r_callF (by simp only [CA, simprocAttr]; rfl) (by exact rfl) (by simp only [CA, simprocAttr]; rfl) rfl ?_) | (with_reducible refine k_condP (by simp only [GA, simprocAttr]; rfl) (by first | (simp only [BO]; rfl) | rfl) (fun ht => ?_) (fun ht => ?_) <;> try (first | exact False.elim ht | exact absurd rfl ht | exact absurd trivial ht | exact Bool.noConfusion ht)) | (with_reducible refine k_ret ?_; repeat with_reducible (first | refine ret_thru ?_ | refine ret_blk ?_ | refine fin ?_)) | (with_reducible refine k_exit ?_; repeat with_reducible (first | refine thru ?_ | refine out_blk ?_ | refine pass (by decide) ?_)) | ((first | refine post1 ?_ | refine post2 ?_ | refine post3 ?_); simp only [GA, simprocAttr]) | refine post0 ?_
 refine k0_seq0 (k0_seq ?_)
 refine w_virtH 1 (s := h.nx) (ds := [.sl 0 0 0 0]) (i := 0) (by simp (disch := omega) only [RG68, EVA, plug, eq_self, simprocAttr] <;> rfl) rfl fun pos1 lt1 => ?_
 repeat' first | (with_reducible first | refine k_seq ?_ | refine k_skip ?_ | refine k_blkS ?_ | refine k_blkR ?_ | refine k_blkC ?_ | refine k_blkH ?_ | refine k_blkB ?_ | refine k_blkK ?_ | refine k_blkE ?_ | refine k_reg ?_) | with_reducible refine r_done ?_ | with_reducible refine s_go (by simp (disch := omega) only [RG68, EVA, plug, eq_self, simprocAttr]; with_reducible rfl) ?_ | ((with_reducible refine chk_r ?_); refine r_callF (by simp only [CA, simprocAttr]; rfl) (by exact rfl) (by simp only [CA, simprocAttr]; rfl) rfl ?_) | (with_reducible refine k_condP (by simp only [GA, simprocAttr]; rfl) (by first | (simp only [BO]; rfl) | rfl) (fun ht => ?_) (fun ht => ?_) <;> try (first | exact False.elim ht | exact absurd rfl ht | exact absurd trivial ht | exact Bool.noConfusion ht)) | (with_reducible refine k_ret ?_; repeat with_reducible (first | refine ret_thru ?_ | refine ret_blk ?_ | refine fin ?_)) | (with_reducible refine k_exit ?_; repeat with_reducible (first | refine thru ?_ | refine out_blk ?_ | refine pass (by decide) ?_)) | ((first | refine post1 ?_ | refine post2 ?_ | refine post3 ?_); simp only [GA, simprocAttr]) | refine post0 ?_
 refine k0_blk (w0_rf rfl fun ok2 pos2 => ?_)
 simp only [List.nil_append, List.cons_append]
 refine i_fn fn69 rfl (by simp) fun ok3 pos3 => ?_
 rw [initSt2]
 have a1 : ¬ t = h.nx := by omega
 have a2 : ¬ t = h.nx + 2 := by omega
 have a3 : ¬ t = h.nx + 2 + 1 := by omega
 have a4 : ¬ t = h.nx + 2 + 1 + 1 := by omega
 refine k_blk (k_loopW (X := Nat × Nat × List Int) [0, 1] (fun x => [(0, .fy (h.nx + 2 + 1 + 1)), (1, .p t 0)]) (fun x => x.2.1)
  (fun x h' => App (.fn 69 [] [.p t 0]) (h.nx + 2 + 1 + 1) h.nx x.1 x.2.2 h' ∧ h'.m t = some (cl x.2.1) ∧ x.2.1 < 2 ^ 64 ∧ x.2.2 ++ bts x.2.1 = bts s ∧ (∀ u, u < h.nx → u ≠ t → h'.m u = h.m u) ∧ h.nx + 2 + 1 + 1 < h'.nx ∧ (h.nx ≤ x.1)) (h.nx + 2, s, [])
  (by simp only [Am.keep, List.map_cons, List.map_nil, GA, simprocAttr]; try rfl) ⟨⟨by simp (disch := omega) only [c69r0, c69r1, c69r2, EVA, plug, eq_self, simprocAttr] <;> rfl, by simp (disch := omega) only [c69r0, c69r1, c69r2, EVA, plug, eq_self, simprocAttr] <;> rfl, by simp (disch := omega) only [c69r0, c69r1, c69r2, EVA, plug, eq_self, simprocAttr] <;> rfl, by omega, by omega, by omega, by omega⟩, by simp (disch := omega) only [hm, a1, a2, a3, a4, c69r0, c69r1, c69r2, EVA, plug, eq_self, simprocAttr], hs, rfl, fun u hu hn => ?_, by simp (disch := omega) only [c69r0, c69r1, c69r2, EVA, plug, eq_self, simprocAttr] <;> omega, by omega⟩ ?_)
 ·have b1 : ¬ u = h.nx := by omega
  have b2 : ¬ u = h.nx + 2 := by omega
  have b3 : ¬ u = h.nx + 2 + 1 := by omega
  have b4 : ¬ u = h.nx + 2 + 1 + 1 := by omega
  simp (disch := omega) only [b1, b2, b3, b4, c69r0, c69r1, c69r2, EVA, plug, eq_self, simprocAttr]
 rintro ⟨x, y, xs⟩ h2 ⟨A, hy, y64, hb, hk, hn, hx⟩ ok4 pos4
 simp only at A hy y64 hb hk hn hx ⊢
 have ll := bts_len s
 rw [← hb, List.length_append] at ll
 have lx := ok4.m A.c
 by_cases y0 : y = 0
 ·subst y0
  rw [bts_zero, List.append_nil] at hb
  subst hb
  repeat' first | (with_reducible first | refine k_seq ?_ | refine k_skip ?_ | refine k_blkS ?_ | refine k_blkR ?_ | refine k_blkC ?_ | refine k_blkH ?_ | refine k_blkB ?_ | refine k_blkK ?_ | refine k_blkE ?_ | refine k_reg ?_) | with_reducible refine r_done ?_ | with_reducible refine s_go (by simp (disch := omega) only [hy, row_m hy, read_row (row_m hy), c69r0, c69r1, c69r2, EVA, plug, eq_self, simprocAttr]; with_reducible rfl) ?_ | ((with_reducible refine chk_r ?_); refine r_callF (by simp only [CA, simprocAttr]; rfl) (by exact rfl) (by simp only [CA, simprocAttr]; rfl) rfl ?_) | (with_reducible refine k_condP (by simp only [GA, simprocAttr]; rfl) (by first | (simp only [BO]; rfl) | rfl) (fun ht => ?_) (fun ht => ?_) <;> try (first | exact False.elim ht | exact absurd rfl ht | exact absurd trivial ht | exact Bool.noConfusion ht)) | (with_reducible refine k_ret ?_; repeat with_reducible (first | refine ret_thru ?_ | refine ret_blk ?_ | refine fin ?_)) | (with_reducible refine k_exit ?_; repeat with_reducible (first | refine thru ?_ | refine out_blk ?_ | refine pass (by decide) ?_)) | ((first | refine post1 ?_ | refine post2 ?_ | refine post3 ?_); simp only [GA, simprocAttr]) | refine post0 ?_
  refine ⟨A.r, end68 ⟨A.r, A.b, A.c, A.x0, A.t1, A.t2, A.t3⟩ fun h3 e3 n3 => ?_⟩
  have kn : ∀ u, u ≠ h.nx + 2 + 1 + 1 → h3.m u = h2.m u := fun u hu => by
   rw [e3 u]
   simp (disch := omega) only [hu, c69r0, c69r1, c69r2, EVA, plug, eq_self, simprocAttr]
  refine ⟨h3.kill x, .step (by rw [kn x (fun q => A.t2 q.symm)]; exact A.c) (FrzH.kill _ _ _) ?_ .done, ?_, fun u h1 h2' => ?_, ?_⟩
  ·have := @FrzV.sl x (il (bts s)) 0 (bts s).length 1 1 (by rw [il_len]; omega)
   rwa [List.drop_zero, Nat.mul_one, List.take_of_length_le (by rw [il_len]; exact Nat.le_refl _)] at this
  ·have : ¬ t = x := by omega
   simp only [AH.kill, this, if_false]
   rw [kn t (by omega)]
   exact hy
  ·have : ¬ u = x := by omega
   simp only [AH.kill, this, if_false]
   rw [kn u (by omega)]
   exact hk u h1 h2'
  ·simp only [AH.kill_nx]
   simp only [AH.bump_nx] at n3
   omega
 ·have z := eq_false (show ¬ (y : Int) = 0 by omega)
  have st := bts_step (s := y) (by omega) y64
  rw [st] at hb
  have q70 := d70 y (by omega) y64
  have lt2 := ok4.m hy
  have w1 : IntKind.u64.wrap ((y : Int) - 1) = ((y - 1 : Nat) : Int) := by rw [wrapU]; omega
  have w2 := and_64 y64 (show y - 1 < 2 ^ 64 by omega)
  have w3 := clr_lt (s := y) (by omega)
  generalize tzA 64 y = k at *
  obtain ⟨y', ey⟩ : ∃ y', y' = y &&& (y - 1) := ⟨_, rfl⟩
  rw [← ey] at hb w2 w3
  repeat' first | with_reducible refine k_seq ?_ | with_reducible refine k_skip ?_ | with_reducible refine k_blkS ?_ | with_reducible refine k_blkR ?_ | with_reducible refine k_blkC ?_ | with_reducible refine k_blkH ?_ | with_reducible refine k_blkB ?_ | with_reducible refine k_blkK ?_ | with_reducible refine k_blkE ?_ | (fail_if_success (with_reducible refine k_reg (ops := c69r1) ?_)); with_reducible refine k_reg ?_ | with_reducible refine r_done ?_ | with_reducible refine s_go (by simp (disch := omega) only [hy, row_m hy, read_row (row_m hy), z, c69r0, c69r1, c69r2, EVA, plug, eq_self, simprocAttr]; with_reducible rfl) ?_ | ((with_reducible refine chk_r ?_); refine r_callF (by simp only [CA, simprocAttr]; rfl) (by exact rfl) (by simp only [CA, simprocAttr]; rfl) rfl ?_) | (with_reducible refine k_condP (by simp only [GA, simprocAttr]; rfl) (by first | (simp only [BO]; rfl) | rfl) (fun ht => ?_) (fun ht => ?_) <;> try (first | exact False.elim ht | exact absurd rfl ht | exact absurd trivial ht | exact Bool.noConfusion ht)) | (with_reducible refine k_ret ?_; repeat with_reducible (first | refine ret_thru ?_ | refine ret_blk ?_ | refine fin ?_)) | (with_reducible refine k_exit ?_; repeat with_reducible (first | refine thru ?_ | refine out_blk ?_ | refine pass (by decide) ?_)) | ((first | refine post1 ?_ | refine post2 ?_ | refine post3 ?_); simp only [GA, simprocAttr]) | refine post0 ?_
  refine k_yld 3 rfl ?_
  repeat' first | (with_reducible first | refine k_seq ?_ | refine k_skip ?_ | refine k_blkS ?_ | refine k_blkR ?_ | refine k_blkC ?_ | refine k_blkH ?_ | refine k_blkB ?_ | refine k_blkK ?_ | refine k_blkE ?_ | refine k_reg ?_) | with_reducible refine r_done ?_ | with_reducible refine s_go (by simp (disch := omega) only [hy, row_m hy, read_row (row_m hy), List.take_succ_cons, List.take_zero, c69r0, c69r1, c69r2, EVA, plug, eq_self, simprocAttr]; with_reducible rfl) ?_ | ((with_reducible refine chk_r ?_); refine r_callF (by simp only [CA, simprocAttr]; rfl) (by exact rfl) (by simp only [CA, simprocAttr]; rfl) rfl ?_) | ((with_reducible refine chk_r ?_); refine r_callP (by simp only [CA, simprocAttr]; rfl) (by simp only [CA, simprocAttr]; rfl) (by first | exact q70 _) rfl ?_) | (with_reducible refine k_condP (by simp only [GA, simprocAttr]; rfl) (by first | (simp only [BO]; rfl) | rfl) (fun ht => ?_) (fun ht => ?_) <;> try (first | exact False.elim ht | exact absurd rfl ht | exact absurd trivial ht | exact Bool.noConfusion ht)) | (with_reducible refine k_ret ?_; repeat with_reducible (first | refine ret_thru ?_ | refine ret_blk ?_ | refine fin ?_)) | (with_reducible refine k_exit ?_; repeat with_reducible (first | refine thru ?_ | refine out_blk ?_ | refine pass (by decide) ?_)) | ((first | refine post1 ?_ | refine post2 ?_ | refine post3 ?_); simp only [GA, simprocAttr]) | refine post0 ?_
  refine ⟨_, rfl, ?_⟩
  refine round81 (x := x) (xs := xs) (v := (k : Int)) (fun t b hb => by have := ok4 t b hb; simp only [AH.bump_nx]; omega) ⟨A.r, A.b, A.c, A.x0, A.t1, A.t2, A.t3⟩ (by omega) fun x' h' hx' A' kp nx => ?_
  simp only [AH.bump_nx] at hx' nx
  have hy' : h'.m t = some (cl y) := by
   rw [kp t (by simp only [AH.bump_nx]; omega) (by omega) (by omega)]
   exact hy
  have lt3 : t < h.nx := lt
  repeat' first | (with_reducible first | refine k_seq ?_ | refine k_skip ?_ | refine k_blkS ?_ | refine k_blkR ?_ | refine k_blkC ?_ | refine k_blkH ?_ | refine k_blkB ?_ | refine k_blkK ?_ | refine k_blkE ?_ | refine k_reg ?_) | with_reducible refine r_done ?_ | with_reducible refine s_go (by simp (disch := omega) only [List.drop_succ_cons, List.drop_zero, hy', row_m hy', read_row (row_m hy'), w1, w2, c69r0, c69r1, c69r2, EVA, plug, eq_self, simprocAttr]; with_reducible rfl) ?_ | ((with_reducible refine chk_r ?_); refine r_callF (by simp only [CA, simprocAttr]; rfl) (by exact rfl) (by simp only [CA, simprocAttr]; rfl) rfl ?_) | (with_reducible refine k_condP (by simp only [GA, simprocAttr]; rfl) (by first | (simp only [BO]; rfl) | rfl) (fun ht => ?_) (fun ht => ?_) <;> try (first | exact False.elim ht | exact absurd rfl ht | exact absurd trivial ht | exact Bool.noConfusion ht)) | (with_reducible refine k_ret ?_; repeat with_reducible (first | refine ret_thru ?_ | refine ret_blk ?_ | refine fin ?_)) | (with_reducible refine k_exit ?_; repeat with_reducible (first | refine thru ?_ | refine out_blk ?_ | refine pass (by decide) ?_)) | ((first | refine post1 ?_ | refine post2 ?_ | refine post3 ?_); simp only [GA, simprocAttr]) | refine post0 ?_
  have e1 : ¬ h.nx + 2 + 1 + 1 = t := by omega
  have e2 : ¬ h.nx = t := by omega
  have e3 : ¬ x' = t := by omega
  refine ⟨(x', y', xs ++ [(k : Int)]), w3, (by simp only [Am.keep, List.map_cons, List.map_nil, GA, simprocAttr]; try rfl), ⟨by simp (disch := omega) only [e1, A'.r, c69r0, c69r1, c69r2, EVA, plug, eq_self, simprocAttr], by simp (disch := omega) only [e2, A'.b, c69r0, c69r1, c69r2, EVA, plug, eq_self, simprocAttr], by simp (disch := omega) only [e3, A'.c, c69r0, c69r1, c69r2, EVA, plug, eq_self, simprocAttr], A'.x0, A'.t1, A'.t2, A'.t3⟩, by simp (disch := omega) only [c69r0, c69r1, c69r2, EVA, plug, eq_self, simprocAttr] <;> rfl, by show y' < 2 ^ 64; omega, ?_, fun u h1 h2' => ?_, by simp (disch := omega) only [c69r0, c69r1, c69r2, EVA, plug, eq_self, simprocAttr] <;> omega, by show h.nx ≤ x'; omega⟩
  ·rw [List.append_assoc]; exact hb
  ·have := kp u (by simp only [AH.bump_nx]; omega) (by omega) (by omega)
   simp (disch := omega) only [h2', this, hk u h1 h2', c69r0, c69r1, c69r2, EVA, plug, eq_self, simprocAttr]
theorem n42 (t : Nat) (s : Nat) (hs : s < 2 ^ 64) (h : AH) (hm : h.m t = some (cl s)) : ACalls Tryd.prog 42 [.fn 69 [] [.p t 0]] h fun r h' => r = vi (bts s) ∧ Upd t [.i .u64 0] h h' := by
 refine w_fn fn42 (by simp) fun ok pos => ?_
 have lt := ok.m hm
 rw [initSt1]
 repeat' first | (with_reducible first | refine k_seq ?_ | refine k_skip ?_ | refine k_blkS ?_ | refine k_blkR ?_ | refine k_blkC ?_ | refine k_blkH ?_ | refine k_blkB ?_ | refine k_blkK ?_ | refine k_blkE ?_ | refine k_reg ?_) | with_reducible refine r_done ?_ | with_reducible refine s_go (by simp (disch := omega) only [c42r0, c42r1, EVA, plug, eq_self, simprocAttr]; with_reducible rfl) ?_ | ((with_reducible refine chk_r ?_); refine r_callF (by simp only [CA, simprocAttr]; rfl) (by exact rfl) (by simp only [CA, simprocAttr]; rfl) rfl ?_) | ((with_reducible refine chk_r ?_); refine r_callX (by simp only [CA, simprocAttr]; rfl) (by simp only [CA, simprocAttr]; rfl) (by first | exact n68a t s hs _ (by simp (disch := omega) only [hm, c42r0, c42r1, EVA, plug, eq_self, simprocAttr])) rfl ?_) | (with_reducible refine k_condP (by simp only [GA, simprocAttr]; rfl) (by first | (simp only [BO]; rfl) | rfl) (fun ht => ?_) (fun ht => ?_) <;> try (first | exact False.elim ht | exact absurd rfl ht | exact absurd trivial ht | exact Bool.noConfusion ht)) | (with_reducible refine k_ret ?_; repeat with_reducible (first | refine ret_thru ?_ | refine ret_blk ?_ | refine fin ?_)) | (with_reducible refine k_exit ?_; repeat with_reducible (first | refine thru ?_ | refine out_blk ?_ | refine pass (by decide) ?_)) | ((first | refine post1 ?_ | refine post2 ?_ | refine post3 ?_); simp only [GA, simprocAttr]) | refine post0 ?_
 rintro r h2 ⟨rfl, U⟩
 repeat' first | (with_reducible first | refine k_seq ?_ | refine k_skip ?_ | refine k_blkS ?_ | refine k_blkR ?_ | refine k_blkC ?_ | refine k_blkH ?_ | refine k_blkB ?_ | refine k_blkK ?_ | refine k_blkE ?_ | refine k_reg ?_) | with_reducible refine r_done ?_ | with_reducible refine s_go (by simp (disch := omega) only [c42r0, c42r1, EVA, plug, eq_self, simprocAttr]; with_reducible rfl) ?_ | ((with_reducible refine chk_r ?_); refine r_callF (by simp only [CA, simprocAttr]; rfl) (by exact rfl) (by simp only [CA, simprocAttr]; rfl) rfl ?_) | (with_reducible refine k_condP (by simp only [GA, simprocAttr]; rfl) (by first | (simp only [BO]; rfl) | rfl) (fun ht => ?_) (fun ht => ?_) <;> try (first | exact False.elim ht | exact absurd rfl ht | exact absurd trivial ht | exact Bool.noConfusion ht)) | (with_reducible refine k_ret ?_; repeat with_reducible (first | refine ret_thru ?_ | refine ret_blk ?_ | refine fin ?_)) | (with_reducible refine k_exit ?_; repeat with_reducible (first | refine thru ?_ | refine out_blk ?_ | refine pass (by decide) ?_)) | ((first | refine post1 ?_ | refine post2 ?_ | refine post3 ?_); simp only [GA, simprocAttr]) | refine post0 ?_
 refine endsW ⟨by simp (disch := omega) only [U.m, c42r0, c42r1, EVA, plug, eq_self, simprocAttr], fun u h1 h2' => ?_, ?_⟩
 ·have := U.keep u (by simp only [AH.bump_nx]; omega) h2'
  simp (disch := omega) only [this, c42r0, c42r1, EVA, plug, eq_self, simprocAttr]
 ·have := U.nx
  simp only [AH.bump_nx] at this ⊢
  omega
end Go.Proofs.YtjaihaccehaicaaDoor
set_option linter.unusedVariables false
set_option linter.unusedSimpArgs false
namespace Go.Proofs.YtjaihaccehaicaaDoor
open Go Go.Am Go.Proofs
def chP (l : List Sz) (x : Hd) (st : Int × Int) (k : Nat) : Prop := fitB (zD l k) x = true ∧ (st.1 < 0 ∨ nS (zD l k) x 5 < st.2 ∨ (nS (zD l k) x 5 = st.2 ∧ (zD l k).c < (zD l st.1.toNat).c))
instance (l : List Sz) (x : Hd) (st : Int × Int) (k : Nat) : Decidable (chP l x st k) := inferInstanceAs (Decidable (_ ∧ _))
end Go.Proofs.YtjaihaccehaicaaDoor
set_option linter.unusedVariables false
set_option linter.unusedSimpArgs false
namespace Go.Proofs.YtjaihaccehaicaaDoor
open Go Go.Am Go.Proofs
theorem decZ (r : List AV) (h : Shps [.i .i64, .i .i64, .i .i64, .i .i64, .i .i64, .i .i64, .i .i64, .i .i64, .i .i64, .i .i64, .i .i64, .i .i64, .i .i64, .i .i64, .i .i64, .i .i64, .i .i64] r) : ∃ x : Sz, r = eZ x ∧ True := by
 obtain ⟨a0, r, rfl, h0, h⟩ := shps_cons h
 obtain ⟨a1, r, rfl, h1, h⟩ := shps_cons h
 obtain ⟨a2, r, rfl, h2, h⟩ := shps_cons h
 obtain ⟨a3, r, rfl, h3, h⟩ := shps_cons h
 obtain ⟨a4, r, rfl, h4, h⟩ := shps_cons h
 obtain ⟨a5, r, rfl, h5, h⟩ := shps_cons h
 obtain ⟨a6, r, rfl, h6, h⟩ := shps_cons h
 obtain ⟨a7, r, rfl, h7, h⟩ := shps_cons h
 obtain ⟨a8, r, rfl, h8, h⟩ := shps_cons h
 obtain ⟨a9, r, rfl, h9, h⟩ := shps_cons h
 obtain ⟨b0, r, rfl, k0, h⟩ := shps_cons h
 obtain ⟨b1, r, rfl, k1, h⟩ := shps_cons h
 obtain ⟨b2, r, rfl, k2, h⟩ := shps_cons h
 obtain ⟨b3, r, rfl, k3, h⟩ := shps_cons h
 obtain ⟨b4, r, rfl, k4, h⟩ := shps_cons h
 obtain ⟨b5, r, rfl, k5, h⟩ := shps_cons h
 obtain ⟨b6, r, rfl, k6, h⟩ := shps_cons h
 obtain rfl := shps_nil h
 obtain ⟨n0, rfl, _⟩ := shp_i64 h0
 obtain ⟨n1, rfl, _⟩ := shp_i64 h1
 obtain ⟨n2, rfl, _⟩ := shp_i64 h2
 obtain ⟨n3, rfl, _⟩ := shp_i64 h3
 obtain ⟨n4, rfl, _⟩ := shp_i64 h4
 obtain ⟨n5, rfl, _⟩ := shp_i64 h5
 obtain ⟨n6, rfl, _⟩ := shp_i64 h6
 obtain ⟨n7, rfl, _⟩ := shp_i64 h7
 obtain ⟨n8, rfl, _⟩ := shp_i64 h8
 obtain ⟨n9, rfl, _⟩ := shp_i64 h9
 obtain ⟨p0, rfl, _⟩ := shp_i64 k0
 obtain ⟨p1, rfl, _⟩ := shp_i64 k1
 obtain ⟨p2, rfl, _⟩ := shp_i64 k2
 obtain ⟨p3, rfl, _⟩ := shp_i64 k3
 obtain ⟨p4, rfl, _⟩ := shp_i64 k4
 obtain ⟨p5, rfl, _⟩ := shp_i64 k5
 obtain ⟨p6, rfl, _⟩ := shp_i64 k6
 exact ⟨⟨n0, fun i => [n1, n2, n3, n4, n5].getD i 0, fun i => [n6, n7, n8, n9, p0].getD i 0, fun i => [p1, p2, p3, p4, p5].getD i 0, p6⟩, rfl, trivial⟩
theorem decH (r : List AV) (h : Shps [.i .i64, .i .i64, .i .i64, .i .i64, .i .i64, .i .i64] r) : ∃ x : Hd, r = eH x ∧ True := by
 obtain ⟨a0, r, rfl, h0, h⟩ := shps_cons h
 obtain ⟨a1, r, rfl, h1, h⟩ := shps_cons h
 obtain ⟨a2, r, rfl, h2, h⟩ := shps_cons h
 obtain ⟨a3, r, rfl, h3, h⟩ := shps_cons h
 obtain ⟨a4, r, rfl, h4, h⟩ := shps_cons h
 obtain ⟨a5, r, rfl, h5, h⟩ := shps_cons h
 obtain rfl := shps_nil h
 obtain ⟨n0, rfl, _⟩ := shp_i64 h0
 obtain ⟨n1, rfl, _⟩ := shp_i64 h1
 obtain ⟨n2, rfl, _⟩ := shp_i64 h2
 obtain ⟨n3, rfl, _⟩ := shp_i64 h3
 obtain ⟨n4, rfl, _⟩ := shp_i64 h4
 obtain ⟨n5, rfl, _⟩ := shp_i64 h5
 exact ⟨⟨n0, fun i => [n1, n2, n3, n4, n5].getD i 0⟩, rfl, trivial⟩
end Go.Proofs.YtjaihaccehaicaaDoor
set_option linter.unusedVariables false
set_option linter.unusedSimpArgs false
namespace Go.Proofs.YtjaihaccehaicaaDoor
open Go Go.Am Go.Proofs
def asc (l : List Int) : Prop := l.Pairwise fun x y => x < y
theorem asc_ext : ∀ {a b : List Int}, asc a → asc b → (∀ x, x ∈ a ↔ x ∈ b) → a = b
 | [], [], _, _, _ => rfl
 | [], y :: b, _, _, h => absurd ((h y).2 (List.mem_cons_self ..)) (by simp)
 | x :: a, [], _, _, h => absurd ((h x).1 (List.mem_cons_self ..)) (by simp)
 | x :: a, y :: b, ha, hb, h => by
   have a1 := (List.pairwise_cons.1 ha).1
   have b1 := (List.pairwise_cons.1 hb).1
   have e : x = y := by
    rcases List.mem_cons.1 ((h x).1 (List.mem_cons_self ..)) with q | q
    ·exact q
    ·rcases List.mem_cons.1 ((h y).2 (List.mem_cons_self ..)) with r | r
     ·exact r.symm
     ·have := a1 y r
      have := b1 x q
      omega
   subst e
   rw [asc_ext (List.pairwise_cons.1 ha).2 (List.pairwise_cons.1 hb).2 fun z => ?_]
   constructor
   ·intro q
    have := a1 z q
    rcases List.mem_cons.1 ((h z).1 (List.mem_cons_of_mem _ q)) with r | r
    ·omega
    ·exact r
   ·intro q
    have := b1 z q
    rcases List.mem_cons.1 ((h z).2 (List.mem_cons_of_mem _ q)) with r | r
    ·omega
    ·exact r
theorem asc_nodup {l : List Int} (h : asc l) : l.Nodup := h.imp fun q => by omega
theorem mem_bts {s : Nat} {x : Int} : x ∈ bts s ↔ ∃ i : Nat, i < 64 ∧ s.testBit i = true ∧ x = i := by
 unfold bts
 simp only [List.mem_map, List.mem_filter, List.mem_range]
 constructor
 ·rintro ⟨i, ⟨h1, h2⟩, rfl⟩; exact ⟨i, h1, h2, rfl⟩
 ·rintro ⟨i, h1, h2, rfl⟩; exact ⟨i, ⟨h1, h2⟩, rfl⟩
theorem asc_bts (s : Nat) : asc (bts s) := by
 unfold asc bts
 rw [List.pairwise_map]
 exact (List.Pairwise.filter _ List.pairwise_lt_range).imp fun q => by omega
def inB (n : Nat) (l : List Int) : Prop := ∀ x ∈ l, 0 ≤ x ∧ x < n
theorem bts_in {s n : Nat} (h : s < 2 ^ n) : inB n (bts s) := fun x hx => by
 obtain ⟨i, _, hb, rfl⟩ := mem_bts.1 hx
 have : i < n := Classical.byContradiction fun q => by
  have := Nat.testBit_lt_two_pow (Nat.lt_of_lt_of_le h (Nat.pow_le_pow_right (by omega) (Nat.le_of_not_lt q)))
  rw [this] at hb; cases hb
 omega
theorem shS_mem {l : List Int} {i n : Nat} (hl : inB n l) : (shS l l.length).testBit i = true ↔ (i : Int) ∈ l := by
 rw [shS_bit]
 constructor
 ·rintro ⟨j, hj, e⟩
  have m : lN l j ∈ l := by
   unfold lN
   rw [List.getD_eq_getElem?_getD, List.getElem?_eq_getElem hj]
   exact List.getElem_mem hj
  have := hl _ m
  have e' : (i : Int) = lN l j := by omega
  rw [e']; exact m
 ·intro m
  obtain ⟨j, hj, e⟩ := List.getElem_of_mem m
  refine ⟨j, hj, ?_⟩
  unfold lN
  rw [List.getD_eq_getElem?_getD, List.getElem?_eq_getElem hj]
  simp only [Option.getD_some, e]
  omega
theorem shS_lt2 {l : List Int} {n : Nat} (hl : inB n l) : shS l l.length < 2 ^ n := Nat.lt_pow_two_of_testBit _ fun i hi => by
 rw [Bool.eq_false_iff]
 intro q
 have := hl _ ((shS_mem hl).1 q)
 omega
theorem bts_mem {l : List Int} {n : Nat} (hn : n ≤ 64) (hl : inB n l) {x : Int} : x ∈ bts (shS l l.length) ↔ x ∈ l := by
 rw [mem_bts]
 constructor
 ·rintro ⟨i, _, q, rfl⟩; exact (shS_mem hl).1 q
 ·intro q
  have b := hl x q
  refine ⟨x.toNat, by omega, (shS_mem hl).2 ?_, by omega⟩
  rw [Int.toNat_of_nonneg b.1]; exact q
theorem bts_asc {l : List Int} {n : Nat} (hn : n ≤ 64) (hl : inB n l) (ha : asc l) : bts (shS l l.length) = l := asc_ext (asc_bts _) ha fun x => bts_mem hn hl
def cmpZ (x y : Int) : Int := if x < y then -1 else if y < x then 1 else 0
def cmpL : List Int → List Int → Int
 | [], [] => 0
 | [], _ :: _ => -1
 | _ :: _, [] => 1
 | x :: a, y :: b => if cmpZ x y ≠ 0 then cmpZ x y else cmpL a b
theorem cmpZ_lt {x y : Int} : cmpZ x y < 0 ↔ x < y := by unfold cmpZ; split <;> (try split) <;> omega
theorem cmpZ_eq {x y : Int} : cmpZ x y = 0 ↔ x = y := by unfold cmpZ; split <;> (try split) <;> omega
theorem cmpL_cons {x y : Int} {a b : List Int} : cmpL (x :: a) (y :: b) < 0 ↔ x < y ∨ x = y ∧ cmpL a b < 0 := by
 rw [cmpL]
 have h1 := @cmpZ_lt x y
 have h2 := @cmpZ_eq x y
 split
 ·rw [h1]; constructor
  ·exact .inl
  ·rintro (q | q)
   ·exact q
   ·exact absurd (h2.2 q.1) (by assumption)
 ·rename_i q
  have q := h2.1 (Classical.not_not.1 q)
  constructor
  ·exact fun r => .inr ⟨q, r⟩
  ·rintro (r | r)
   ·omega
   ·exact r.2
theorem cmpL_irr : ∀ {a : List Int}, ¬ cmpL a a < 0
 | [] => by simp [cmpL]
 | x :: a => by
   rw [cmpL_cons]
   rintro (q | q)
   ·omega
   ·exact cmpL_irr q.2
theorem cmpL_tr : ∀ {a b c : List Int}, a.length = b.length → b.length = c.length → cmpL a b < 0 → cmpL b c < 0 → cmpL a c < 0
 | [], [], _, _, _, h, _ => by simp [cmpL] at h
 | x :: a, y :: b, z :: c, h1, h2, q1, q2 => by
   rw [cmpL_cons] at q1 q2 ⊢
   simp only [List.length_cons, Nat.add_right_cancel_iff] at h1 h2
   rcases q1 with q1 | ⟨q1, r1⟩ <;> rcases q2 with q2 | ⟨q2, r2⟩
   ·exact .inl (by omega)
   ·exact .inl (by omega)
   ·exact .inl (by omega)
   ·exact .inr ⟨by omega, cmpL_tr h1 h2 r1 r2⟩
theorem cmpL_tri : ∀ {a b : List Int}, a.length = b.length → ¬ cmpL a b < 0 → ¬ cmpL b a < 0 → a = b
 | [], [], _, _, _ => rfl
 | x :: a, y :: b, h, q1, q2 => by
   rw [cmpL_cons] at q1 q2
   simp only [List.length_cons, Nat.add_right_cancel_iff] at h
   have e : x = y := by omega
   subst e
   rw [cmpL_tri h (fun q => q1 (.inr ⟨rfl, q⟩)) (fun q => q2 (.inr ⟨rfl, q⟩))]
def bet (a b : List Int) : Prop := a.length < b.length ∨ a.length = b.length ∧ cmpL a b < 0
instance (a b : List Int) : Decidable (bet a b) := inferInstanceAs (Decidable (_ ∨ _))
theorem bet_tr {a b c : List Int} (h1 : bet a b) (h2 : bet b c) : bet a c := by
 rcases h1 with h1 | ⟨h1, q1⟩ <;> rcases h2 with h2 | ⟨h2, q2⟩
 ·exact .inl (by omega)
 ·exact .inl (by omega)
 ·exact .inl (by omega)
 ·exact .inr ⟨by omega, cmpL_tr h1 h2 q1 q2⟩
theorem bet_irr {a : List Int} : ¬ bet a a := fun h => h.elim (by omega) fun q => cmpL_irr q.2
theorem bet_tri {a b : List Int} (h1 : ¬ bet a b) (h2 : ¬ bet b a) : a = b := by
 have e : a.length = b.length := by
  rcases Nat.lt_trichotomy a.length b.length with q | q | q
  ·exact absurd (.inl q) h1
  ·exact q
  ·exact absurd (.inl q) h2
 exact cmpL_tri e (fun q => h1 (.inr ⟨e, q⟩)) (fun q => h2 (.inr ⟨e.symm, q⟩))
def cand (p : List Int → Bool) (n : Nat) (l : List Int) : Prop := asc l ∧ inB n l ∧ p l = true
def Least (p : List Int → Bool) (n : Nat) (r : List Int) : Prop := cand p n r ∧ ∀ l, cand p n l → ¬ bet l r
theorem Least.uniq {p : List Int → Bool} {n : Nat} {a b : List Int} (ha : Least p n a) (hb : Least p n b) : a = b := bet_tri (hb.2 a ha.1) (ha.2 b hb.1)
def cvF (p : List Int → Bool) (st : Bool × List Int) (P : Nat) : Bool × List Int := if p (bts P) = true ∧ (st.1 = false ∨ bet (bts P) st.2) then (true, bts P) else st
def cvN (p : List Int → Bool) : Nat → Bool × List Int
 | 0 => (false, [])
 | k + 1 => cvF p (cvN p k) k
theorem cvN_ok {p : List Int → Bool} : ∀ {k : Nat}, ((cvN p k).1 = true → (∃ P, P < k ∧ (cvN p k).2 = bts P ∧ p (bts P) = true) ∧ ∀ P, P < k → p (bts P) = true → ¬ bet (bts P) (cvN p k).2) ∧ ((cvN p k).1 = false → ∀ P, P < k → ¬ p (bts P) = true)
 | 0 => ⟨fun h => (by cases h), fun _ P h => by omega⟩
 | k + 1 => by
   have ih := cvN_ok (p := p) (k := k)
   rw [cvN]
   generalize cvN p k = st at *
   unfold cvF
   by_cases c : p (bts k) = true ∧ (st.1 = false ∨ bet (bts k) st.2)
   ·rw [if_pos c]
    refine ⟨fun _ => ⟨⟨k, by omega, rfl, c.1⟩, fun P hP q => ?_⟩, fun h => by cases h⟩
    by_cases e : P = k
    ·subst e; exact bet_irr
    ·cases hs : st.1 with
     | false => exact absurd q (ih.2 hs P (by omega))
     | true =>
       have b : bet (bts k) st.2 := c.2.resolve_left (by rw [hs]; simp)
       exact fun r => (ih.1 hs).2 P (by omega) q (bet_tr r b)
   ·rw [if_neg c]
    refine ⟨fun h => ⟨?_, fun P hP q => ?_⟩, fun h P hP q => ?_⟩
    ·obtain ⟨P, hP, r⟩ := (ih.1 h).1
     exact ⟨P, by omega, r⟩
    ·by_cases e : P = k
     ·subst e; exact fun r => c ⟨q, .inr r⟩
     ·exact (ih.1 h).2 P (by omega) q
    ·by_cases e : P = k
     ·subst e; exact c ⟨q, .inl h⟩
     ·exact ih.2 h P (by omega) q
theorem cvN_least {p : List Int → Bool} {n : Nat} (hn : n ≤ 64) : ((cvN p (2 ^ n)).1 = true → Least p n (cvN p (2 ^ n)).2) ∧ ((cvN p (2 ^ n)).1 = false → ∀ l, ¬ cand p n l) := by
 have h := cvN_ok (p := p) (k := 2 ^ n)
 refine ⟨fun q => ?_, fun q l c => ?_⟩
 ·obtain ⟨⟨P, hP, e, hp⟩, hl⟩ := h.1 q
  refine ⟨⟨by rw [e]; exact asc_bts P, by rw [e]; exact bts_in hP, by rw [e]; exact hp⟩, fun l c => ?_⟩
  have e2 := bts_asc hn c.2.1 c.1
  have := hl _ (shS_lt2 c.2.1) (by rw [e2]; exact c.2.2)
  rwa [e2] at this
 ·have e2 := bts_asc hn c.2.1 c.1
  exact h.2 q _ (shS_lt2 c.2.1) (by rw [e2]; exact c.2.2)
def frsG (f : Nat → List Int × Bool) : Nat → Nat → List Int × Bool
 | 0, _ => ([], false)
 | c + 1, i => if (f i).2 = true then ((f i).1, true) else frsG f c (i + 1)
theorem frsG_ok {f : Nat → List Int × Bool} : ∀ {c i : Nat}, ((frsG f c i).2 = true → ∃ j, i ≤ j ∧ j < i + c ∧ (f j).2 = true ∧ (frsG f c i).1 = (f j).1 ∧ ∀ t, i ≤ t → t < j → (f t).2 = false) ∧ ((frsG f c i).2 = false → ∀ t, i ≤ t → t < i + c → (f t).2 = false)
 | 0, i => ⟨fun h => (by cases h), fun _ t h1 h2 => by omega⟩
 | c + 1, i => by
   have ih := frsG_ok (f := f) (c := c) (i := i + 1)
   rw [frsG]
   by_cases h : (f i).2 = true
   ·rw [if_pos h]
    exact ⟨fun _ => ⟨i, by omega, by omega, h, rfl, fun t h1 h2 => by omega⟩, fun h => by cases h⟩
   ·rw [if_neg h]
    have h' : (f i).2 = false := by simpa using h
    refine ⟨fun q => ?_, fun q t h1 h2 => ?_⟩
    ·obtain ⟨j, j1, j2, j3, j4, j5⟩ := ih.1 q
     refine ⟨j, by omega, by omega, j3, j4, fun t h1 h2 => ?_⟩
     by_cases e : t = i
     ·subst e; exact h'
     ·exact j5 t (by omega) h2
    ·by_cases e : t = i
     ·subst e; exact h'
     ·exact ih.2 q t (by omega) (by omega)
def frm (l : List Int) : Nat := if l.length = 0 then 0 else (lastZ l + 1).toNat
def frsL (p : List Int → Bool) (n : Nat) : Nat → List Int → List Int × Bool
 | 0, li => (li, p li)
 | k + 1, li => frsG (fun i => frsL p n k (li ++ [(i : Int)])) (n - frm li) (frm li)
theorem lastZ_in {l : List Int} (h : l ≠ []) : lastZ l ∈ l := by
 unfold lastZ
 have : l.length ≠ 0 := fun e => h (List.length_eq_zero_iff.1 e)
 rw [List.getD_eq_getElem?_getD, List.getElem?_eq_getElem (by omega)]
 exact List.getElem_mem _
theorem asc_snoc {l : List Int} {x : Int} : asc (l ++ [x]) ↔ asc l ∧ ∀ y ∈ l, y < x := by
 unfold asc
 rw [List.pairwise_append]
 simp only [List.pairwise_cons, List.not_mem_nil, false_implies, implies_true, List.Pairwise.nil, and_self, true_and, List.mem_singleton, forall_eq]
theorem frm_iff {l : List Int} {n : Nat} (ha : asc l) (hb : inB n l) {i : Nat} : frm l ≤ i ↔ ∀ y ∈ l, y < i := by
 unfold frm
 by_cases e : l = []
 ·subst e; simp
 ·have hl : l.length ≠ 0 := fun q => e (List.length_eq_zero_iff.1 q)
  rw [if_neg hl]
  have m := lastZ_in e
  have b := hb _ m
  constructor
  ·intro h y hy
   have : y ≤ lastZ l := by
    obtain ⟨j, hj, rfl⟩ := List.getElem_of_mem hy
    unfold lastZ
    rw [List.getD_eq_getElem?_getD, List.getElem?_eq_getElem (by omega)]
    simp only [Option.getD_some]
    by_cases q : j = l.length - 1
    ·subst q; exact Int.le_refl _
    ·have := List.pairwise_iff_getElem.1 ha j (l.length - 1) hj (by omega) (by omega)
     omega
   omega
  ·intro h
   have := h _ m
   omega
theorem frsL_ok {p : List Int → Bool} {n : Nat} : ∀ {k : Nat} {li : List Int}, asc li → inB n li →
 ((frsL p n k li).2 = true → ∃ e, (frsL p n k li).1 = li ++ e ∧ e.length = k ∧ cand p n (li ++ e) ∧ ∀ e', e'.length = k → cand p n (li ++ e') → ¬ cmpL e' e < 0) ∧ ((frsL p n k li).2 = false → ∀ e, e.length = k → ¬ cand p n (li ++ e))
 | 0, li, ha, hb => by
   rw [frsL]
   refine ⟨fun h => ⟨[], by simp, rfl, by rw [List.append_nil]; exact ⟨ha, hb, h⟩, fun e' he _ => ?_⟩, fun h e he c => ?_⟩
   ·rw [List.length_eq_zero_iff.1 he]; exact cmpL_irr
   ·rw [List.length_eq_zero_iff.1 he, List.append_nil] at c
    have := c.2.2
    have h : p li = false := h
    rw [h] at this; cases this
 | k + 1, li, ha, hb => by
   rw [frsL]
   have G := frsG_ok (f := fun i => frsL p n k (li ++ [(i : Int)])) (c := n - frm li) (i := frm li)
   have sub : ∀ i : Nat, frm li ≤ i → i < n → asc (li ++ [(i : Int)]) ∧ inB n (li ++ [(i : Int)]) := fun i h1 h2 => by
    refine ⟨asc_snoc.2 ⟨ha, (frm_iff ha hb).1 h1⟩, fun x hx => ?_⟩
    rcases List.mem_append.1 hx with q | q
    ·exact hb x q
    ·rw [List.mem_singleton.1 q]; omega
   have hd : ∀ e', e'.length = k + 1 → cand p n (li ++ e') → ∃ (i : Nat) (e'' : List Int), e' = (i : Int) :: e'' ∧ e''.length = k ∧ frm li ≤ i ∧ i < n ∧ cand p n ((li ++ [(i : Int)]) ++ e'') := fun e' he c => by
    cases e' with
    | nil => simp at he
    | cons x e'' =>
      have bx := c.2.1 x (by simp)
      have ex : x = (x.toNat : Int) := by omega
      refine ⟨x.toNat, e'', by rw [← ex], by simpa using he, (frm_iff ha hb).2 fun y hy => ?_, by omega, by rw [← ex, List.append_assoc]; exact c⟩
      rw [← ex]
      exact (List.pairwise_append.1 c.1).2.2 y hy x (by simp)
   refine ⟨fun h => ?_, fun h e he c => ?_⟩
   ·obtain ⟨j, j1, j2, j3, j4, j5⟩ := G.1 h
    have jn : j < n := by omega
    obtain ⟨e, e1, e2, e3, e4⟩ := (frsL_ok (p := p) (n := n) (k := k) (sub j j1 jn).1 (sub j j1 jn).2).1 j3
    refine ⟨(j : Int) :: e, by rw [j4, e1, List.append_assoc]; rfl, by rw [List.length_cons, e2], by rw [List.append_assoc] at e3; exact e3, fun e' he' c' => ?_⟩
    obtain ⟨i, e'', rfl, l2, i1, i2, c2⟩ := hd e' he' c'
    rw [cmpL_cons]
    rintro (q | ⟨q, r⟩)
    ·have f := j5 i i1 (by omega)
     exact (frsL_ok (p := p) (n := n) (k := k) (sub i i1 i2).1 (sub i i1 i2).2).2 f e'' l2 c2
    ·have e : i = j := by omega
     subst e
     exact e4 e'' l2 c2 r
   ·obtain ⟨i, e'', rfl, l2, i1, i2, c2⟩ := hd e he c
    have f := G.2 h i i1 (by omega)
    exact (frsL_ok (p := p) (n := n) (k := k) (sub i i1 i2).1 (sub i i1 i2).2).2 f e'' l2 c2
def frN (p : List Int → Bool) (n : Nat) : Nat → Nat → Bool × List Int
 | 0, _ => (false, [])
 | c + 1, k => if (frsL p n k []).2 = true then (true, (frsL p n k []).1) else frN p n c (k + 1)
theorem frN_ok {p : List Int → Bool} {n : Nat} : ∀ {c k : Nat}, (∀ l, cand p n l → k ≤ l.length) → ((frN p n c k).1 = true → Least p n (frN p n c k).2) ∧ ((frN p n c k).1 = false → ∀ l, cand p n l → k + c ≤ l.length)
 | 0, k, h => ⟨fun q => (by cases q), fun _ l c => h l c⟩
 | c + 1, k, h => by
   rw [frN]
   have F := frsL_ok (p := p) (n := n) (k := k) (li := []) List.Pairwise.nil fun x hx => by simp at hx
   by_cases q : (frsL p n k []).2 = true
   ·rw [if_pos q]
    obtain ⟨e, e1, e2, e3, e4⟩ := F.1 q
    rw [List.nil_append] at e1 e3
    refine ⟨fun _ => ?_, fun q => by cases q⟩
    simp only [e1]
    refine ⟨e3, fun l cl => ?_⟩
    rintro (r | ⟨r1, r2⟩)
    ·have := h l cl; omega
    ·exact e4 l (by omega) cl r2
   ·rw [if_neg q]
    have q' : (frsL p n k []).2 = false := by simpa using q
    have ih := frN_ok (p := p) (n := n) (c := c) (k := k + 1) fun l cl => by
     have h1 := h l cl
     by_cases e : l.length = k
     ·exact absurd cl (F.2 q' l e)
     ·omega
    exact ⟨ih.1, fun r l cl => by have := ih.2 r l cl; omega⟩
theorem pig {R : Int → Int → Prop} : ∀ {li b : List Int}, b.Nodup → (∀ v ∈ b, ∃ s ∈ li, R s v) → (∀ s u v, u ∈ b → v ∈ b → R s u → R s v → u = v) → b.length ≤ li.length
 | [], [], _, _, _ => Nat.le_refl _
 | [], v :: b, _, h, _ => by
   obtain ⟨s, hs, _⟩ := h v (List.mem_cons_self ..)
   cases hs
 | s :: li, b, nd, h, u => by
   by_cases c : ∃ v ∈ b, R s v
   ·obtain ⟨v, hv, hr⟩ := c
    have ih := pig (li := li) (b := b.erase v) (R := R) (nd.erase v) (fun x hx => by
     have hx' := (nd.mem_erase_iff.1 hx)
     obtain ⟨t, ht, hrt⟩ := h x hx'.2
     rcases List.mem_cons.1 ht with q | q
     ·subst q; exact absurd (u _ x v hx'.2 hv hrt hr) hx'.1
     ·exact ⟨t, q, hrt⟩) (fun t x y hx hy => u t x y (List.mem_of_mem_erase hx) (List.mem_of_mem_erase hy))
    rw [List.length_erase_of_mem hv] at ih
    simp only [List.length_cons]
    omega
   ·have ih := pig (li := li) (b := b) (R := R) nd (fun x hx => by
     obtain ⟨t, ht, hrt⟩ := h x hx
     rcases List.mem_cons.1 ht with q | q
     ·subst q; exact absurd ⟨x, hx, hrt⟩ c
     ·exact ⟨t, q, hrt⟩) u
    simp only [List.length_cons]
    omega
theorem asc_len {l : List Int} {k : Nat} (ha : asc l) (hb : inB k l) : l.length ≤ k := by
 have := pig (R := fun s v => s = v) (li := (List.range k).map fun i : Nat => (i : Int)) (asc_nodup ha) (fun v hv => by
  have := hb v hv
  exact ⟨v, List.mem_map.2 ⟨v.toNat, List.mem_range.2 (by omega), by omega⟩, rfl⟩) fun s u v _ _ h1 h2 => h1.symm.trans h2
 rwa [List.length_map, List.length_range] at this
theorem cvN_frN {p : List Int → Bool} {n : Nat} (hn : n ≤ 64) : cvN p (2 ^ n) = frN p n (n + 1) 0 := by
 have C := cvN_least (p := p) hn
 have F := frN_ok (p := p) (n := n) (c := n + 1) (k := 0) fun l _ => Nat.zero_le _
 have len : ∀ l, cand p n l → l.length ≤ n := fun l c => asc_len c.1 c.2.1
 generalize hc : cvN p (2 ^ n) = x at *
 generalize hf : frN p n (n + 1) 0 = y at *
 obtain ⟨a, b⟩ := x
 obtain ⟨a', b'⟩ := y
 have ne : a = false → b = [] := by
  intro q
  have key : ∀ k, (cvN p k).1 = false → (cvN p k).2 = [] := fun k => by
   induction k with
   | zero => intro _; rfl
   | succ k ih =>
     rw [cvN]; unfold cvF
     split
     ·intro h; cases h
     ·exact ih
  have := key (2 ^ n)
  rw [hc] at this
  exact this q
 have ne' : a' = false → b' = [] := by
  intro q
  have key : ∀ c k, (frN p n c k).1 = false → (frN p n c k).2 = [] := fun c => by
   induction c with
   | zero => intro k _; rfl
   | succ c ih =>
     intro k
     rw [frN]
     split
     ·intro h; cases h
     ·exact ih (k + 1)
  have := key (n + 1) 0
  rw [hf] at this
  exact this q
 cases a <;> cases a'
 ·rw [ne rfl, ne' rfl]
 ·exact absurd (F.1 rfl).1 (C.2 rfl _)
 ·have := F.2 rfl _ (C.1 rfl).1
  have := len _ (C.1 rfl).1
  omega
 ·have e : b = b' := Least.uniq (C.1 rfl) (F.1 rfl)
  rw [e]
end Go.Proofs.YtjaihaccehaicaaDoor
set_option linter.unusedVariables false
set_option linter.unusedSimpArgs false
namespace Go.Proofs.YtjaihaccehaicaaDoor
open Go Go.Am Go.Proofs
theorem d87 (x : Int) : PC Tryd.prog 87 [.i .i64 x] (.b false) := by
 refine pc_fn fn87 (by simp only [AV.plains, AV.plain, il_plain, bl_plain, Bool.and_true, Bool.true_and, Bool.and_self]) (by simp only [AV.plains, AV.plain, il_plain, bl_plain, Bool.and_true, Bool.true_and, Bool.and_self]) (Nat.le_of_ble_eq_true rfl) ?_
 rw [initSt1]
 repeat' first | (with_reducible first | refine k_seq ?_ | refine k_skip ?_ | refine k_blkS ?_ | refine k_blkR ?_ | refine k_blkC ?_ | refine k_blkH ?_ | refine k_blkB ?_ | refine k_blkK ?_ | refine k_blkE ?_ | refine k_reg ?_) | with_reducible refine r_done ?_ | with_reducible refine s_go (by simp (disch := omega) only [c87r0, c87r1, EVA, plug, eq_self, simprocAttr]; with_reducible rfl) ?_ | ((with_reducible refine chk_r ?_); refine r_callF (by simp only [CA, simprocAttr]; rfl) (by exact rfl) (by simp only [CA, simprocAttr]; rfl) rfl ?_) | (with_reducible refine k_condP (by simp only [GA, simprocAttr]; rfl) (by first | (simp only [BO]; rfl) | rfl) (fun ht => ?_) (fun ht => ?_) <;> try (first | exact False.elim ht | exact absurd rfl ht | exact absurd trivial ht | exact Bool.noConfusion ht)) | (with_reducible refine k_ret ?_; repeat with_reducible (first | refine ret_thru ?_ | refine ret_blk ?_ | refine fin ?_)) | (with_reducible refine k_exit ?_; repeat with_reducible (first | refine thru ?_ | refine out_blk ?_ | refine pass (by decide) ?_)) | ((first | refine post1 ?_ | refine post2 ?_ | refine post3 ?_); simp only [GA, simprocAttr]) | refine post0 ?_
 first | exact ends_of | exact ends_eq rfl | (refine ends_eq (b_eq ?_); simp)
theorem RG75 : (type_of% @c75r0.eq_1) ∧ (type_of% @c75r1.eq_1) ∧ (type_of% @c75r2.eq_1) ∧ (type_of% @c75r3.eq_1) ∧ (type_of% @c75r4.eq_1) ∧ (type_of% @c75r5.eq_1) ∧ (type_of% @c75r6.eq_1) ∧ (type_of% @c75r7.eq_1) ∧ (type_of% @c75r8.eq_1) ∧ (type_of% @c75r9.eq_1) ∧ (type_of% @c75r10.eq_1) ∧ (type_of% @c75r11.eq_1) ∧ (type_of% @c75r12.eq_1) ∧ (type_of% @c75r13.eq_1) := ⟨@c75r0.eq_1, @c75r1.eq_1, @c75r2.eq_1, @c75r3.eq_1, @c75r4.eq_1, @c75r5.eq_1, @c75r6.eq_1, @c75r7.eq_1, @c75r8.eq_1, @c75r9.eq_1, @c75r10.eq_1, @c75r11.eq_1, @c75r12.eq_1, @c75r13.eq_1⟩
theorem d75 (x y : Int) : PC Tryd.prog 75 [.i .i64 x, .i .i64 y] (.i .i64 (cmpZ x y)) := by
 unfold cmpZ
 refine pc_fn fn75 (by simp only [AV.plains, AV.plain, il_plain, bl_plain, Bool.and_true, Bool.true_and, Bool.and_self]) (by simp only [AV.plains, AV.plain, il_plain, bl_plain, Bool.and_true, Bool.true_and, Bool.and_self]) (Nat.le_of_ble_eq_true rfl) ?_
 rw [initSt2]
 by_cases h1 : x < y
 ·have h1' := eq_true h1
  rw [if_pos h1]
  repeat' first | (with_reducible first | refine k_seq ?_ | refine k_skip ?_ | refine k_blkS ?_ | refine k_blkR ?_ | refine k_blkC ?_ | refine k_blkH ?_ | refine k_blkB ?_ | refine k_blkK ?_ | refine k_blkE ?_ | refine k_reg ?_) | with_reducible refine r_done ?_ | with_reducible refine s_go (by simp (disch := omega) only [h1', RG75, EVA, plug, eq_self, simprocAttr]; with_reducible rfl) ?_ | ((with_reducible refine chk_r ?_); refine r_callF (by simp only [CA, simprocAttr]; rfl) (by exact rfl) (by simp only [CA, simprocAttr]; rfl) rfl ?_) | ((with_reducible refine chk_r ?_); refine r_callP (by simp only [CA, simprocAttr]; rfl) (by simp only [CA, simprocAttr]; rfl) (by first | exact d87 _ _) rfl ?_) | (with_reducible refine k_condP (by simp only [GA, simprocAttr]; rfl) (by first | (simp only [BO]; rfl) | rfl) (fun ht => ?_) (fun ht => ?_) <;> try (first | exact False.elim ht | exact absurd rfl ht | exact absurd trivial ht | exact Bool.noConfusion ht)) | (with_reducible refine k_ret ?_; repeat with_reducible (first | refine ret_thru ?_ | refine ret_blk ?_ | refine fin ?_)) | (with_reducible refine k_exit ?_; repeat with_reducible (first | refine thru ?_ | refine out_blk ?_ | refine pass (by decide) ?_)) | ((first | refine post1 ?_ | refine post2 ?_ | refine post3 ?_); simp only [GA, simprocAttr]) | refine post0 ?_
  all_goals first | exact ends_of | exact ends_eq rfl
 ·have h1' := eq_false h1
  rw [if_neg h1]
  by_cases h2 : y < x
  ·have h2' := eq_true h2
   rw [if_pos h2]
   repeat' first | (with_reducible first | refine k_seq ?_ | refine k_skip ?_ | refine k_blkS ?_ | refine k_blkR ?_ | refine k_blkC ?_ | refine k_blkH ?_ | refine k_blkB ?_ | refine k_blkK ?_ | refine k_blkE ?_ | refine k_reg ?_) | with_reducible refine r_done ?_ | with_reducible refine s_go (by simp (disch := omega) only [h1', h2', RG75, EVA, plug, eq_self, simprocAttr]; with_reducible rfl) ?_ | ((with_reducible refine chk_r ?_); refine r_callF (by simp only [CA, simprocAttr]; rfl) (by exact rfl) (by simp only [CA, simprocAttr]; rfl) rfl ?_) | ((with_reducible refine chk_r ?_); refine r_callP (by simp only [CA, simprocAttr]; rfl) (by simp only [CA, simprocAttr]; rfl) (by first | exact d87 _ _) rfl ?_) | (with_reducible refine k_condP (by simp only [GA, simprocAttr]; rfl) (by first | (simp only [BO]; rfl) | rfl) (fun ht => ?_) (fun ht => ?_) <;> try (first | exact False.elim ht | exact absurd rfl ht | exact absurd trivial ht | exact Bool.noConfusion ht)) | (with_reducible refine k_ret ?_; repeat with_reducible (first | refine ret_thru ?_ | refine ret_blk ?_ | refine fin ?_)) | (with_reducible refine k_exit ?_; repeat with_reducible (first | refine thru ?_ | refine out_blk ?_ | refine pass (by decide) ?_)) | ((first | refine post1 ?_ | refine post2 ?_ | refine post3 ?_); simp only [GA, simprocAttr]) | refine post0 ?_
   all_goals first | exact ends_of | exact ends_eq rfl
  ·have h2' := eq_false h2
   rw [if_neg h2]
   repeat' first | (with_reducible first | refine k_seq ?_ | refine k_skip ?_ | refine k_blkS ?_ | refine k_blkR ?_ | refine k_blkC ?_ | refine k_blkH ?_ | refine k_blkB ?_ | refine k_blkK ?_ | refine k_blkE ?_ | refine k_reg ?_) | with_reducible refine r_done ?_ | with_reducible refine s_go (by simp (disch := omega) only [h1', h2', RG75, EVA, plug, eq_self, simprocAttr]; with_reducible rfl) ?_ | ((with_reducible refine chk_r ?_); refine r_callF (by simp only [CA, simprocAttr]; rfl) (by exact rfl) (by simp only [CA, simprocAttr]; rfl) rfl ?_) | ((with_reducible refine chk_r ?_); refine r_callP (by simp only [CA, simprocAttr]; rfl) (by simp only [CA, simprocAttr]; rfl) (by first | exact d87 _ _) rfl ?_) | (with_reducible refine k_condP (by simp only [GA, simprocAttr]; rfl) (by first | (simp only [BO]; rfl) | rfl) (fun ht => ?_) (fun ht => ?_) <;> try (first | exact False.elim ht | exact absurd rfl ht | exact absurd trivial ht | exact Bool.noConfusion ht)) | (with_reducible refine k_ret ?_; repeat with_reducible (first | refine ret_thru ?_ | refine ret_blk ?_ | refine fin ?_)) | (with_reducible refine k_exit ?_; repeat with_reducible (first | refine thru ?_ | refine out_blk ?_ | refine pass (by decide) ?_)) | ((first | refine post1 ?_ | refine post2 ?_ | refine post3 ?_); simp only [GA, simprocAttr]) | refine post0 ?_
   all_goals first | exact ends_of | exact ends_eq rfl
theorem drop_cons {l : List Int} {k : Nat} (h : k < l.length) : l.drop k = l.getD k 0 :: l.drop (k + 1) := by
 rw [List.drop_eq_getElem_cons h, List.getD_eq_getElem?_getD, List.getElem?_eq_getElem h]
 rfl
theorem RG50 : (type_of% @c50r0.eq_1) ∧ (type_of% @c50r1.eq_1) ∧ (type_of% @c50r2.eq_1) ∧ (type_of% @c50r3.eq_1) ∧ (type_of% @c50r4.eq_1) ∧ (type_of% @c50r5.eq_1) ∧ (type_of% @c50r6.eq_1) ∧ (type_of% @c50r7.eq_1) ∧ (type_of% @c50r8.eq_1) ∧ (type_of% @c50r9.eq_1) ∧ (type_of% @c50r10.eq_1) ∧ (type_of% @c50r12.eq_1) ∧ (type_of% @c50r13.eq_1) ∧ (type_of% @c50r14.eq_1) := ⟨@c50r0.eq_1, @c50r1.eq_1, @c50r2.eq_1, @c50r3.eq_1, @c50r4.eq_1, @c50r5.eq_1, @c50r6.eq_1, @c50r7.eq_1, @c50r8.eq_1, @c50r9.eq_1, @c50r10.eq_1, @c50r12.eq_1, @c50r13.eq_1, @c50r14.eq_1⟩
theorem d50 (a b : List Int) (ha : a.length ≤ 9223372036854775807) (hb : b.length ≤ 9223372036854775807) : PC Tryd.prog 50 [vi a, vi b] (.i .i64 (cmpL a b)) := by
 refine pc_fn fn50 (by simp only [AV.plains, AV.plain, il_plain, bl_plain, Bool.and_true, Bool.true_and, Bool.and_self, il_plain]) (by simp only [AV.plains, AV.plain, il_plain, bl_plain, Bool.and_true, Bool.true_and, Bool.and_self, il_plain]) (Nat.le_of_ble_eq_true rfl) ?_
 rw [initSt2]
 repeat' first | (with_reducible first | refine k_seq ?_ | refine k_skip ?_ | refine k_blkS ?_ | refine k_blkR ?_ | refine k_blkC ?_ | refine k_blkH ?_ | refine k_blkB ?_ | refine k_blkK ?_ | refine k_blkE ?_ | refine k_reg ?_) | with_reducible refine r_done ?_ | with_reducible refine s_go (by simp (disch := omega) only [RG50, EVA, plug, eq_self, simprocAttr]; with_reducible rfl) ?_ | ((with_reducible refine chk_r ?_); refine r_callF (by simp only [CA, simprocAttr]; rfl) (by exact rfl) (by simp only [CA, simprocAttr]; rfl) rfl ?_) | (with_reducible refine k_condP (by simp only [GA, simprocAttr]; rfl) (by first | (simp only [BO]; rfl) | rfl) (fun ht => ?_) (fun ht => ?_) <;> try (first | exact False.elim ht | exact absurd rfl ht | exact absurd trivial ht | exact Bool.noConfusion ht)) | (with_reducible refine k_ret ?_; repeat with_reducible (first | refine ret_thru ?_ | refine ret_blk ?_ | refine fin ?_)) | (with_reducible refine k_exit ?_; repeat with_reducible (first | refine thru ?_ | refine out_blk ?_ | refine pass (by decide) ?_)) | ((first | refine post1 ?_ | refine post2 ?_ | refine post3 ?_); simp only [GA, simprocAttr]) | refine post0 ?_
 refine k_blk (k_loopS (X := Unit) [0, 1, 9, 10, 11] a.length (fun k _ => [(0, vi a), (1, vi b), (9, vi a), (10, .i .i64 a.length), (11, .i .i64 (k : Int))]) (fun k _ h => k ≤ b.length ∧ cmpL a b = cmpL (a.drop k) (b.drop k)) () (by simp only [Am.keep, List.map_cons, List.map_nil, GA, simprocAttr]; try rfl) ⟨Nat.zero_le _, rfl⟩ ?_)
 rintro k _ h hk ⟨kb, e⟩ ok pos
 by_cases klt : k < a.length
 ·have klt' : (k : Int) < a.length := by omega
  have g := il_get klt
  rw [drop_cons klt] at e
  by_cases c1 : b.length ≤ k
  ·have c1' := eq_true (show (b.length : Int) ≤ k by omega)
   rw [List.drop_of_length_le c1, cmpL] at e
   rw [e]
   repeat' first | (with_reducible first | refine k_seq ?_ | refine k_skip ?_ | refine k_blkS ?_ | refine k_blkR ?_ | refine k_blkC ?_ | refine k_blkH ?_ | refine k_blkB ?_ | refine k_blkK ?_ | refine k_blkE ?_ | refine k_reg ?_) | with_reducible refine r_done ?_ | with_reducible refine s_go (by simp (disch := omega) only [klt', g, c1', RG50, EVA, plug, eq_self, simprocAttr]; with_reducible rfl) ?_ | ((with_reducible refine chk_r ?_); refine r_callF (by simp only [CA, simprocAttr]; rfl) (by exact rfl) (by simp only [CA, simprocAttr]; rfl) rfl ?_) | (with_reducible refine k_condP (by simp only [GA, simprocAttr]; rfl) (by first | (simp only [BO]; rfl) | rfl) (fun ht => ?_) (fun ht => ?_) <;> try (first | exact False.elim ht | exact absurd rfl ht | exact absurd trivial ht | exact Bool.noConfusion ht)) | (with_reducible refine k_ret ?_; repeat with_reducible (first | refine ret_thru ?_ | refine ret_blk ?_ | refine fin ?_)) | (with_reducible refine k_exit ?_; repeat with_reducible (first | refine thru ?_ | refine out_blk ?_ | refine pass (by decide) ?_)) | ((first | refine post1 ?_ | refine post2 ?_ | refine post3 ?_); simp only [GA, simprocAttr]) | refine post0 ?_
   all_goals first | exact ends_of | exact ends_eq rfl
  ·have c1' := eq_false (show ¬ (b.length : Int) ≤ k by omega)
   have c2 : (k : Int) < b.length := by omega
   have g2 := il_get (l := b) (j := k) (by omega)
   rw [drop_cons (l := b) (by omega), cmpL] at e
   have q := d75 (a.getD k 0) (b.getD k 0)
   generalize a.getD k 0 = x at *
   generalize b.getD k 0 = y at *
   by_cases z : cmpZ x y = 0
   ·have z' := eq_true z
    rw [if_neg (by simp [z])] at e
    repeat' first | (with_reducible first | refine k_seq ?_ | refine k_skip ?_ | refine k_blkS ?_ | refine k_blkR ?_ | refine k_blkC ?_ | refine k_blkH ?_ | refine k_blkB ?_ | refine k_blkK ?_ | refine k_blkE ?_ | refine k_reg ?_) | with_reducible refine r_done ?_ | with_reducible refine s_go (by simp (disch := omega) only [klt', g, c1', c2, g2, z', RG50, EVA, plug, eq_self, simprocAttr]; with_reducible rfl) ?_ | ((with_reducible refine chk_r ?_); refine r_callF (by simp only [CA, simprocAttr]; rfl) (by exact rfl) (by simp only [CA, simprocAttr]; rfl) rfl ?_) | ((with_reducible refine chk_r ?_); refine r_callP (by simp only [CA, simprocAttr]; rfl) (by simp only [CA, simprocAttr]; rfl) (by first | exact q _) rfl ?_) | (with_reducible refine k_condP (by simp only [GA, simprocAttr]; rfl) (by first | (simp only [BO]; rfl) | rfl) (fun ht => ?_) (fun ht => ?_) <;> try (first | exact False.elim ht | exact absurd rfl ht | exact absurd trivial ht | exact Bool.noConfusion ht)) | (with_reducible refine k_ret ?_; repeat with_reducible (first | refine ret_thru ?_ | refine ret_blk ?_ | refine fin ?_)) | (with_reducible refine k_exit ?_; repeat with_reducible (first | refine thru ?_ | refine out_blk ?_ | refine pass (by decide) ?_)) | ((first | refine post1 ?_ | refine post2 ?_ | refine post3 ?_); simp only [GA, simprocAttr]) | refine post0 ?_
    exact ⟨klt, (), (by simp only [Am.keep, List.map_cons, List.map_nil, GA, simprocAttr]; try rfl), by omega, e⟩
   ·have z' := eq_false z
    rw [if_pos z] at e
    rw [e]
    repeat' first | (with_reducible first | refine k_seq ?_ | refine k_skip ?_ | refine k_blkS ?_ | refine k_blkR ?_ | refine k_blkC ?_ | refine k_blkH ?_ | refine k_blkB ?_ | refine k_blkK ?_ | refine k_blkE ?_ | refine k_reg ?_) | with_reducible refine r_done ?_ | with_reducible refine s_go (by simp (disch := omega) only [klt', g, c1', c2, g2, z', RG50, EVA, plug, eq_self, simprocAttr]; with_reducible rfl) ?_ | ((with_reducible refine chk_r ?_); refine r_callF (by simp only [CA, simprocAttr]; rfl) (by exact rfl) (by simp only [CA, simprocAttr]; rfl) rfl ?_) | ((with_reducible refine chk_r ?_); refine r_callP (by simp only [CA, simprocAttr]; rfl) (by simp only [CA, simprocAttr]; rfl) (by first | exact q _) rfl ?_) | (with_reducible refine k_condP (by simp only [GA, simprocAttr]; rfl) (by first | (simp only [BO]; rfl) | rfl) (fun ht => ?_) (fun ht => ?_) <;> try (first | exact False.elim ht | exact absurd rfl ht | exact absurd trivial ht | exact Bool.noConfusion ht)) | (with_reducible refine k_ret ?_; repeat with_reducible (first | refine ret_thru ?_ | refine ret_blk ?_ | refine fin ?_)) | (with_reducible refine k_exit ?_; repeat with_reducible (first | refine thru ?_ | refine out_blk ?_ | refine pass (by decide) ?_)) | ((first | refine post1 ?_ | refine post2 ?_ | refine post3 ?_); simp only [GA, simprocAttr]) | refine post0 ?_
    all_goals first | exact ends_of | exact ends_eq rfl
 ·obtain rfl : k = a.length := by omega
  have klt' : ¬ (a.length : Int) < a.length := by omega
  rw [List.drop_length] at e
  by_cases c1 : a.length < b.length
  ·have c1' := eq_true (show (a.length : Int) < b.length by omega)
   rw [drop_cons c1, cmpL] at e
   rw [e]
   repeat' first | (with_reducible first | refine k_seq ?_ | refine k_skip ?_ | refine k_blkS ?_ | refine k_blkR ?_ | refine k_blkC ?_ | refine k_blkH ?_ | refine k_blkB ?_ | refine k_blkK ?_ | refine k_blkE ?_ | refine k_reg ?_) | with_reducible refine r_done ?_ | with_reducible refine s_go (by simp (disch := omega) only [klt', c1', RG50, EVA, plug, eq_self, simprocAttr]; with_reducible rfl) ?_ | ((with_reducible refine chk_r ?_); refine r_callF (by simp only [CA, simprocAttr]; rfl) (by exact rfl) (by simp only [CA, simprocAttr]; rfl) rfl ?_) | (with_reducible refine k_condP (by simp only [GA, simprocAttr]; rfl) (by first | (simp only [BO]; rfl) | rfl) (fun ht => ?_) (fun ht => ?_) <;> try (first | exact False.elim ht | exact absurd rfl ht | exact absurd trivial ht | exact Bool.noConfusion ht)) | (with_reducible refine k_ret ?_; repeat with_reducible (first | refine ret_thru ?_ | refine ret_blk ?_ | refine fin ?_)) | (with_reducible refine k_exit ?_; repeat with_reducible (first | refine thru ?_ | refine out_blk ?_ | refine pass (by decide) ?_)) | ((first | refine post1 ?_ | refine post2 ?_ | refine post3 ?_); simp only [GA, simprocAttr]) | refine post0 ?_
   all_goals first | exact ends_of | exact ends_eq rfl
  ·have c1' := eq_false (show ¬ (a.length : Int) < b.length by omega)
   rw [List.drop_of_length_le (by omega), cmpL] at e
   rw [e]
   repeat' first | (with_reducible first | refine k_seq ?_ | refine k_skip ?_ | refine k_blkS ?_ | refine k_blkR ?_ | refine k_blkC ?_ | refine k_blkH ?_ | refine k_blkB ?_ | refine k_blkK ?_ | refine k_blkE ?_ | refine k_reg ?_) | with_reducible refine r_done ?_ | with_reducible refine s_go (by simp (disch := omega) only [klt', c1', RG50, EVA, plug, eq_self, simprocAttr]; with_reducible rfl) ?_ | ((with_reducible refine chk_r ?_); refine r_callF (by simp only [CA, simprocAttr]; rfl) (by exact rfl) (by simp only [CA, simprocAttr]; rfl) rfl ?_) | (with_reducible refine k_condP (by simp only [GA, simprocAttr]; rfl) (by first | (simp only [BO]; rfl) | rfl) (fun ht => ?_) (fun ht => ?_) <;> try (first | exact False.elim ht | exact absurd rfl ht | exact absurd trivial ht | exact Bool.noConfusion ht)) | (with_reducible refine k_ret ?_; repeat with_reducible (first | refine ret_thru ?_ | refine ret_blk ?_ | refine fin ?_)) | (with_reducible refine k_exit ?_; repeat with_reducible (first | refine thru ?_ | refine out_blk ?_ | refine pass (by decide) ?_)) | ((first | refine post1 ?_ | refine post2 ?_ | refine post3 ?_); simp only [GA, simprocAttr]) | refine post0 ?_
   all_goals first | exact ends_of | exact ends_eq rfl
theorem pk_of_asc {n : Nat} {li : List Int} (ha : asc li) (hb : inB n li) : pkOk li n = true := by
 rw [pkOk_iff]
 intro j hj
 have ej : lN li j = li[j] := by
  unfold lN
  rw [List.getD_eq_getElem?_getD, List.getElem?_eq_getElem hj]; rfl
 refine ⟨by rw [ej]; exact hb _ (List.getElem_mem hj), fun i hi => ?_⟩
 have ei : lN li i = li[i] := by
  unfold lN
  rw [List.getD_eq_getElem?_getD, List.getElem?_eq_getElem (by omega)]; rfl
 have := List.pairwise_iff_getElem.1 ha i j (by omega) hj hi
 rw [ej, ei]
 omega
theorem whole_eq {l : List Sz} {m : List Hd} {li : List Int} (hp : pkOk li l.length = true) : orS (fitL l m) li li.length = 2 ^ m.length - 1 ↔ cvsB l m li = true := by
 have P := pkOk_iff.1 hp
 unfold cvsB
 rw [decide_eq_true_eq]
 constructor
 ·intro e k hk
  have b : (orS (fitL l m) li li.length).testBit k = true := by rw [e, Nat.testBit_two_pow_sub_one]; exact decide_eq_true hk
  obtain ⟨j, hj, q⟩ := orS_bit.1 b
  have p := (P j hj).1
  rw [fitL_get (by omega)] at q
  exact anyZ_at.2 ⟨j, hj, (fitS_bit.1 q).2⟩
 ·intro h
  refine Nat.eq_of_testBit_eq fun i => ?_
  rw [Nat.testBit_two_pow_sub_one]
  by_cases hi : i < m.length
  ·rw [decide_eq_true hi]
   obtain ⟨j, hj, q⟩ := anyZ_at.1 (h i hi)
   have p := (P j hj).1
   refine orS_bit.2 ⟨j, hj, ?_⟩
   rw [fitL_get (by omega)]
   exact fitS_bit.2 ⟨hi, q⟩
  ·rw [decide_eq_false hi]
   exact Nat.testBit_lt_two_pow (Nat.lt_of_lt_of_le (orS_lt (m := m) hp (Nat.le_refl _)) (Nat.pow_le_pow_right (by omega) (by omega)))
def cvrR (l : List Sz) (m : List Hd) : List Int × Int := if chk l m ≠ 0 then ([], chk l m) else if 12 < l.length then ([], 4) else if (cvN (cvsB l m) (2 ^ l.length)).1 = true then ((cvN (cvsB l m) (2 ^ l.length)).2, 0) else ([], 32)
theorem cvN_len (p : List Int → Bool) : ∀ k, (cvN p k).2.length ≤ 64
 | 0 => Nat.zero_le _
 | k + 1 => by
   rw [cvN]; unfold cvF
   split
   ·exact bts_len k
   ·exact cvN_len p k
theorem RG18 : (type_of% @c18r0.eq_1) ∧ (type_of% @c18r1.eq_1) ∧ (type_of% @c18r2.eq_1) ∧ (type_of% @c18r3.eq_1) ∧ (type_of% @c18r4.eq_1) ∧ (type_of% @c18r5.eq_1) ∧ (type_of% @c18r6.eq_1) ∧ (type_of% @c18r7.eq_1) ∧ (type_of% @c18r8.eq_1) ∧ (type_of% @c18r9.eq_1) ∧ (type_of% @c18r10.eq_1) ∧ (type_of% @c18r11.eq_1) ∧ (type_of% @c18r12.eq_1) ∧ (type_of% @c18r13.eq_1) ∧ (type_of% @c18r14.eq_1) ∧ (type_of% @c18r15.eq_1) ∧ (type_of% @c18r16.eq_1) ∧ (type_of% @c18r17.eq_1) ∧ (type_of% @c18r18.eq_1) ∧ (type_of% @c18r19.eq_1) ∧ (type_of% @c18r21.eq_1) ∧ (type_of% @c18r22.eq_1) ∧ (type_of% @c18r23.eq_1) ∧ (type_of% @c18r25.eq_1) ∧ (type_of% @c18r26.eq_1) ∧ (type_of% @c18r27.eq_1) := ⟨@c18r0.eq_1, @c18r1.eq_1, @c18r2.eq_1, @c18r3.eq_1, @c18r4.eq_1, @c18r5.eq_1, @c18r6.eq_1, @c18r7.eq_1, @c18r8.eq_1, @c18r9.eq_1, @c18r10.eq_1, @c18r11.eq_1, @c18r12.eq_1, @c18r13.eq_1, @c18r14.eq_1, @c18r15.eq_1, @c18r16.eq_1, @c18r17.eq_1, @c18r18.eq_1, @c18r19.eq_1, @c18r21.eq_1, @c18r22.eq_1, @c18r23.eq_1, @c18r25.eq_1, @c18r26.eq_1, @c18r27.eq_1⟩
set_option maxHeartbeats 2000000 in
theorem d18 (l : List Sz) (m : List Hd) (hl : l.length ≤ 9223372036854775807) (hm : m.length ≤ 9223372036854775807) : PC Tryd.prog 18 [vZ l, vH m] (.tu [vi (cvrR l m).1, .i .i64 (cvrR l m).2]) := by
 have q1 := pc41 l m hl hm
 unfold cvrR
 refine pc_fn fn18 (by simp only [AV.plains, AV.plain, il_plain, bl_plain, Bool.and_true, Bool.true_and, Bool.and_self, fleZ_plain, fleH_plain, il_plain]) (by simp only [AV.plains, AV.plain, il_plain, bl_plain, Bool.and_true, Bool.true_and, Bool.and_self, fleZ_plain, fleH_plain, il_plain]) (Nat.le_of_ble_eq_true rfl) ?_
 rw [initSt2]
 by_cases c : chk l m = 0
 ·rw [if_neg (by simp [c])]
  rw [c] at q1
  by_cases c12 : 12 < l.length
  ·rw [if_pos c12]
   have c12' := eq_true (show (12 : Int) < l.length by omega)
   repeat' first | (with_reducible first | refine k_seq ?_ | refine k_skip ?_ | refine k_blkS ?_ | refine k_blkR ?_ | refine k_blkC ?_ | refine k_blkH ?_ | refine k_blkB ?_ | refine k_blkK ?_ | refine k_blkE ?_ | refine k_reg ?_) | with_reducible refine r_done ?_ | with_reducible refine s_go (by simp (disch := omega) only [c12', RG18, EVA, plug, eq_self, simprocAttr]; with_reducible rfl) ?_ | ((with_reducible refine chk_r ?_); refine r_callF (by simp only [CA, simprocAttr]; rfl) (by exact rfl) (by simp only [CA, simprocAttr]; rfl) rfl ?_) | ((with_reducible refine chk_r ?_); refine r_callP (by simp only [CA, simprocAttr]; rfl) (by simp only [CA, simprocAttr]; rfl) (by first | exact q1 _) rfl ?_) | ((with_reducible refine chk_r ?_); refine r_callG (by simp only [CA, simprocAttr]; rfl) (by simp only [CA, simprocAttr]; rfl) (by simp only [CA, simprocAttr]; rfl) (by intro hg; (try simp only [BO] at hg); first | exact q1 _) rfl ?_) | (with_reducible refine k_condP (by simp only [GA, simprocAttr]; rfl) (by first | (simp only [BO]; rfl) | rfl) (fun ht => ?_) (fun ht => ?_) <;> try (first | exact False.elim ht | exact absurd rfl ht | exact absurd trivial ht | exact Bool.noConfusion ht)) | (with_reducible refine k_ret ?_; repeat with_reducible (first | refine ret_thru ?_ | refine ret_blk ?_ | refine fin ?_)) | (with_reducible refine k_exit ?_; repeat with_reducible (first | refine thru ?_ | refine out_blk ?_ | refine pass (by decide) ?_)) | ((first | refine post1 ?_ | refine post2 ?_ | refine post3 ?_); simp only [GA, simprocAttr]) | refine post0 ?_
   exact ends_nil2
  ·rw [if_neg c12]
   have c12' := eq_false (show ¬ (12 : Int) < l.length by omega)
   have q3 := pc48 l m (chk_ok c).1 (chk_ok c).2
   have M := (hdsOk_iff.1 (chk_ok c).2).1
   have sh1 := shl_64 (k := m.length) (by omega)
   have p1 : 0 < 2 ^ m.length := Nat.two_pow_pos _
   have p2 : 2 ^ m.length ≤ 2 ^ 40 := Nat.pow_le_pow_right (by omega) M
   have w1 : IntKind.u64.wrap (((2 ^ m.length : Nat) : Int) - 1) = ((2 ^ m.length - 1 : Nat) : Int) := by rw [wrapU]; omega
   have p3 : 2 ^ l.length ≤ 2 ^ 12 := Nat.pow_le_pow_right (by omega) (by omega)
   have sh2 : IntKind.i64.wrap (1 * 2 ^ (min l.length IntKind.i64.bits)) = ((2 ^ l.length : Nat) : Int) := by
    have e : min l.length IntKind.i64.bits = l.length := Nat.min_eq_left (by show l.length ≤ 64; omega)
    rw [e, Int.one_mul]
    have w : ∀ N : Nat, N ≤ 4096 → IntKind.i64.wrap (N : Int) = N := fun N h => wrap64 (by omega) (by omega)
    have := w _ (show 2 ^ l.length ≤ 4096 from p3)
    rw [Int.natCast_pow] at this ⊢
    exact this
   have WE := fun {li : List Int} (hp : pkOk li l.length = true) => whole_eq (m := m) hp
   repeat' first | (with_reducible first | refine k_seq ?_ | refine k_skip ?_ | refine k_blkS ?_ | refine k_blkR ?_ | refine k_blkC ?_ | refine k_blkH ?_ | refine k_blkB ?_ | refine k_blkK ?_ | refine k_blkE ?_ | refine k_reg ?_) | with_reducible refine r_done ?_ | with_reducible refine s_go (by simp (disch := omega) only [c12', sh1, w1, sh2, RG18, EVA, plug, eq_self, simprocAttr]; with_reducible rfl) ?_ | ((with_reducible refine chk_r ?_); refine r_callF (by simp only [CA, simprocAttr]; rfl) (by exact rfl) (by simp only [CA, simprocAttr]; rfl) rfl ?_) | ((with_reducible refine chk_r ?_); refine r_callP (by simp only [CA, simprocAttr]; rfl) (by simp only [CA, simprocAttr]; rfl) (by first | exact q1 _ | exact q3 _) rfl ?_) | ((with_reducible refine chk_r ?_); refine r_callG (by simp only [CA, simprocAttr]; rfl) (by simp only [CA, simprocAttr]; rfl) (by simp only [CA, simprocAttr]; rfl) (by intro hg; (try simp only [BO] at hg); first | exact q1 _ | exact q3 _) rfl ?_) | (with_reducible refine k_condP (by simp only [GA, simprocAttr]; rfl) (by first | (simp only [BO]; rfl) | rfl) (fun ht => ?_) (fun ht => ?_) <;> try (first | exact False.elim ht | exact absurd rfl ht | exact absurd trivial ht | exact Bool.noConfusion ht)) | (with_reducible refine k_ret ?_; repeat with_reducible (first | refine ret_thru ?_ | refine ret_blk ?_ | refine fin ?_)) | (with_reducible refine k_exit ?_; repeat with_reducible (first | refine thru ?_ | refine out_blk ?_ | refine pass (by decide) ?_)) | ((first | refine post1 ?_ | refine post2 ?_ | refine post3 ?_); simp only [GA, simprocAttr]) | refine post0 ?_
   refine w_nilS 9 rfl ?_
   generalize hW : 2 ^ m.length - 1 = wh at *
   refine k_blk (k_loopS (X := Unit) [7, 8, 9, 10, 34, 35] (2 ^ l.length) (fun k _ => [(7, .vs l.length (nu (fitL l m))), (8, .i .u64 (wh : Int)), (9, vi (cvN (cvsB l m) k).2), (10, .b (cvN (cvsB l m) k).1), (34, .i .i64 ((2 ^ l.length : Nat) : Int)), (35, .i .i64 (k : Int))]) (fun k _ h => True) () (by simp only [Am.keep, List.map_cons, List.map_nil, GA, simprocAttr]; try rfl) trivial ?_)
   rintro k _ h hk - ok pos
   by_cases klt : k < 2 ^ l.length
   ·have klt' : (k : Int) < ((2 ^ l.length : Nat) : Int) := by omega
    have cv : IntKind.u64.wrap (k : Int) = k := wrapN (by omega)
    have s64 : k < 2 ^ 64 := by omega
    have la := asc_bts k
    have lb := bts_in klt
    have ll := bts_len k
    have bl := cvN_len (cvsB l m) k
    have eT : cvsB l m (bts k) = true → ((cvN (cvsB l m) k).1 = false ∨ bet (bts k) (cvN (cvsB l m) k).2) → cvN (cvsB l m) (k + 1) = (true, bts k) := fun h1 h2 => if_pos ⟨h1, h2⟩
    have eF : (cvsB l m (bts k) = true → ¬ ((cvN (cvsB l m) k).1 = false ∨ bet (bts k) (cvN (cvsB l m) k).2)) → cvN (cvsB l m) (k + 1) = cvN (cvsB l m) k := fun h => if_neg fun q => h q.1 q.2
    have eB : ∀ a b : List Int, bet a b ↔ a.length < b.length ∨ a.length = b.length ∧ cmpL a b < 0 := fun a b => Iff.rfl
    rw [eB] at eT eF
    repeat' first | (with_reducible first | refine k_seq ?_ | refine k_skip ?_ | refine k_blkS ?_ | refine k_blkR ?_ | refine k_blkC ?_ | refine k_blkH ?_ | refine k_blkB ?_ | refine k_blkK ?_ | refine k_blkE ?_ | refine k_reg ?_) | with_reducible refine r_done ?_ | with_reducible refine s_go (by simp (disch := omega) only [klt', cv, RG18, EVA, plug, eq_self, simprocAttr]; with_reducible rfl) ?_ | ((with_reducible refine chk_r ?_); refine r_callF (by simp only [CA, simprocAttr]; rfl) (by exact rfl) (by simp only [CA, simprocAttr]; rfl) rfl ?_) | ((with_reducible refine chk_r ?_); refine r_callX (by simp only [CA, simprocAttr]; rfl) (by simp only [CA, simprocAttr]; rfl) (by first | exact a43 _ _) rfl ?_) | ((with_reducible refine chk_r ?_); refine r_callTX (by first | (simp only [CA, simprocAttr]; rfl) | simp only [CA, simprocAttr]) (by simp only [CA, simprocAttr]; rfl) (by simp only [CA, simprocAttr]; rfl) (by first | exact a43 _ _) rfl ?_) | (with_reducible refine k_condP (by simp only [GA, simprocAttr]; rfl) (by first | (simp only [BO]; rfl) | rfl) (fun ht => ?_) (fun ht => ?_) <;> try (first | exact False.elim ht | exact absurd rfl ht | exact absurd trivial ht | exact Bool.noConfusion ht)) | (with_reducible refine k_ret ?_; repeat with_reducible (first | refine ret_thru ?_ | refine ret_blk ?_ | refine fin ?_)) | (with_reducible refine k_exit ?_; repeat with_reducible (first | refine thru ?_ | refine out_blk ?_ | refine pass (by decide) ?_)) | ((first | refine post1 ?_ | refine post2 ?_ | refine post3 ?_); simp only [GA, simprocAttr]) | refine post0 ?_
    rintro r h2 ⟨t, rfl, t1, t2, t3, t4⟩
    repeat' first | (with_reducible first | refine k_seq ?_ | refine k_skip ?_ | refine k_blkS ?_ | refine k_blkR ?_ | refine k_blkC ?_ | refine k_blkH ?_ | refine k_blkB ?_ | refine k_blkK ?_ | refine k_blkE ?_ | refine k_reg ?_) | with_reducible refine r_done ?_ | with_reducible refine s_go (by simp (disch := omega) only [RG18, EVA, plug, eq_self, simprocAttr]; with_reducible rfl) ?_ | ((with_reducible refine chk_r ?_); refine r_callF (by simp only [CA, simprocAttr]; rfl) (by exact rfl) (by simp only [CA, simprocAttr]; rfl) rfl ?_) | ((with_reducible refine chk_r ?_); refine r_callX (by simp only [CA, simprocAttr]; rfl) (by simp only [CA, simprocAttr]; rfl) (by first | exact n42 t k s64 _ (by simp (disch := omega) only [t2, RG18, EVA, plug, eq_self, simprocAttr])) rfl ?_) | ((with_reducible refine chk_r ?_); refine r_callTX (by first | (simp only [CA, simprocAttr]; rfl) | simp only [CA, simprocAttr]) (by simp only [CA, simprocAttr]; rfl) (by simp only [CA, simprocAttr]; rfl) (by first | exact n42 t k s64 _ (by simp (disch := omega) only [t2, RG18, EVA, plug, eq_self, simprocAttr])) rfl ?_) | (with_reducible refine k_condP (by simp only [GA, simprocAttr]; rfl) (by first | (simp only [BO]; rfl) | rfl) (fun ht => ?_) (fun ht => ?_) <;> try (first | exact False.elim ht | exact absurd rfl ht | exact absurd trivial ht | exact Bool.noConfusion ht)) | (with_reducible refine k_ret ?_; repeat with_reducible (first | refine ret_thru ?_ | refine ret_blk ?_ | refine fin ?_)) | (with_reducible refine k_exit ?_; repeat with_reducible (first | refine thru ?_ | refine out_blk ?_ | refine pass (by decide) ?_)) | ((first | refine post1 ?_ | refine post2 ?_ | refine post3 ?_); simp only [GA, simprocAttr]) | refine post0 ?_
    rintro r h3 ⟨rfl, U⟩
    have hp := pk_of_asc la lb
    have P := pkOk_iff.1 hp
    have we := WE hp
    generalize bts k = li at *
    have pr : cvN (cvsB l m) k = ((cvN (cvsB l m) k).1, (cvN (cvsB l m) k).2) := rfl
    generalize hF : (cvN (cvsB l m) k).1 = F at *
    generalize hB : (cvN (cvsB l m) k).2 = B at *
    repeat' first | (with_reducible first | refine k_seq ?_ | refine k_skip ?_ | refine k_blkS ?_ | refine k_blkR ?_ | refine k_blkC ?_ | refine k_blkH ?_ | refine k_blkB ?_ | refine k_blkK ?_ | refine k_blkE ?_ | refine k_reg ?_) | with_reducible refine r_done ?_ | with_reducible refine s_go (by simp (disch := omega) only [RG18, EVA, plug, eq_self, simprocAttr]; with_reducible rfl) ?_ | ((with_reducible refine chk_r ?_); refine r_callF (by simp only [CA, simprocAttr]; rfl) (by exact rfl) (by simp only [CA, simprocAttr]; rfl) rfl ?_) | (with_reducible refine k_condP (by simp only [GA, simprocAttr]; rfl) (by first | (simp only [BO]; rfl) | rfl) (fun ht => ?_) (fun ht => ?_) <;> try (first | exact False.elim ht | exact absurd rfl ht | exact absurd trivial ht | exact Bool.noConfusion ht)) | (with_reducible refine k_ret ?_; repeat with_reducible (first | refine ret_thru ?_ | refine ret_blk ?_ | refine fin ?_)) | (with_reducible refine k_exit ?_; repeat with_reducible (first | refine thru ?_ | refine out_blk ?_ | refine pass (by decide) ?_)) | ((first | refine post1 ?_ | refine post2 ?_ | refine post3 ?_); simp only [GA, simprocAttr]) | refine post0 ?_
    refine k_blk (k_loopS (X := Unit) [7, 8, 9, 10, 12, 13, 34, 35, 42, 43, 44] li.length (fun j _ => [(7, .vs l.length (nu (fitL l m))), (8, .i .u64 (wh : Int)), (9, vi B), (10, .b F), (12, .i .u64 ((orS (fitL l m) li j : Nat) : Int)), (13, vi li), (34, .i .i64 ((2 ^ l.length : Nat) : Int)), (35, .i .i64 (k : Int)), (42, vi li), (43, .i .i64 li.length), (44, .i .i64 (j : Int))]) (fun j _ h => True) () (by simp only [Am.keep, List.map_cons, List.map_nil, GA, simprocAttr]; try rfl) trivial ?_)
    rintro j _ h' hj - ok' pos'
    have lk := lt_64 (orS_lt (m := m) hp hj) M
    by_cases jlt : j < li.length
    ·have jlt' : (j : Int) < li.length := by omega
     have g : (il li)[j]? = some (.i .i64 (lN li j)) := il_get jlt
     have pk := (P j jlt).1
     obtain ⟨a, ha⟩ : ∃ a : Nat, lN li j = (a : Int) := ⟨(lN li j).toNat, by omega⟩
     have e1 : orS (fitL l m) li (j + 1) = orS (fitL l m) li j ||| fitS m (zD l a) := by
      rw [orS, ha, Int.toNat_natCast, fitL_get (by omega)]
     rw [ha] at g pk
     have al : (a : Int) < l.length := pk.2
     have g2 := nu_get (l := fitL l m) (j := a) (by simp [fitL]; omega)
     rw [fitL_get (by omega)] at g2
     have o1 := or_64 lk (lt_64 (fitS_lt (m := m) (s := zD l a)) M)
     rw [← e1] at o1
     repeat' first | (with_reducible first | refine k_seq ?_ | refine k_skip ?_ | refine k_blkS ?_ | refine k_blkR ?_ | refine k_blkC ?_ | refine k_blkH ?_ | refine k_blkB ?_ | refine k_blkK ?_ | refine k_blkE ?_ | refine k_reg ?_) | with_reducible refine r_done ?_ | with_reducible refine s_go (by simp (disch := omega) only [jlt', g, al, g2, o1, RG18, EVA, plug, eq_self, simprocAttr]; with_reducible rfl) ?_ | ((with_reducible refine chk_r ?_); refine r_callF (by simp only [CA, simprocAttr]; rfl) (by exact rfl) (by simp only [CA, simprocAttr]; rfl) rfl ?_) | (with_reducible refine k_condP (by simp only [GA, simprocAttr]; rfl) (by first | (simp only [BO]; rfl) | rfl) (fun ht => ?_) (fun ht => ?_) <;> try (first | exact False.elim ht | exact absurd rfl ht | exact absurd trivial ht | exact Bool.noConfusion ht)) | (with_reducible refine k_ret ?_; repeat with_reducible (first | refine ret_thru ?_ | refine ret_blk ?_ | refine fin ?_)) | (with_reducible refine k_exit ?_; repeat with_reducible (first | refine thru ?_ | refine out_blk ?_ | refine pass (by decide) ?_)) | ((first | refine post1 ?_ | refine post2 ?_ | refine post3 ?_); simp only [GA, simprocAttr]) | refine post0 ?_
     exact ⟨jlt, (), (by simp only [Am.keep, List.map_cons, List.map_nil, GA, simprocAttr]; try rfl), trivial⟩
    ·obtain rfl : j = li.length := by omega
     have jlt' : ¬ (li.length : Int) < li.length := by omega
     have q50 := d50 li B (by omega) (by omega)
     generalize orS (fitL l m) li li.length = o at *
     by_cases w : o = wh
     ·have w' := eq_true (show (o : Int) = wh by omega)
      have cv1 := we.1 w
      cases F with
      | false =>
        have es := eT cv1 (.inl rfl)
        repeat' first | (with_reducible first | refine k_seq ?_ | refine k_skip ?_ | refine k_blkS ?_ | refine k_blkR ?_ | refine k_blkC ?_ | refine k_blkH ?_ | refine k_blkB ?_ | refine k_blkK ?_ | refine k_blkE ?_ | refine k_reg ?_) | with_reducible refine r_done ?_ | with_reducible refine s_go (by simp (disch := omega) only [jlt', w', RG18, EVA, plug, eq_self, simprocAttr]; with_reducible rfl) ?_ | ((with_reducible refine chk_r ?_); refine r_callF (by simp only [CA, simprocAttr]; rfl) (by exact rfl) (by simp only [CA, simprocAttr]; rfl) rfl ?_) | ((with_reducible refine chk_r ?_); refine r_callP (by simp only [CA, simprocAttr]; rfl) (by simp only [CA, simprocAttr]; rfl) (by first | exact q50 _) rfl ?_) | ((with_reducible refine chk_r ?_); refine r_callG (by simp only [CA, simprocAttr]; rfl) (by simp only [CA, simprocAttr]; rfl) (by simp only [CA, simprocAttr]; rfl) (by intro hg; (try simp only [BO] at hg); first | exact q50 _) rfl ?_) | (with_reducible refine k_condP (by simp only [GA, simprocAttr]; rfl) (by first | (simp only [BO]; rfl) | rfl) (fun ht => ?_) (fun ht => ?_) <;> try (first | exact False.elim ht | exact absurd rfl ht | exact absurd trivial ht | exact Bool.noConfusion ht)) | (with_reducible refine k_ret ?_; repeat with_reducible (first | refine ret_thru ?_ | refine ret_blk ?_ | refine fin ?_)) | (with_reducible refine k_exit ?_; repeat with_reducible (first | refine thru ?_ | refine out_blk ?_ | refine pass (by decide) ?_)) | ((first | refine post1 ?_ | refine post2 ?_ | refine post3 ?_); simp only [GA, simprocAttr]) | refine post0 ?_
        exact ⟨klt, (), (by rw [es]; exact (by simp only [Am.keep, List.map_cons, List.map_nil, GA, simprocAttr]; try rfl)), trivial⟩
      | true =>
        by_cases c1 : li.length < B.length
        ·have c1' := eq_true (show (li.length : Int) < B.length by omega)
         have es := eT cv1 (.inr (.inl c1))
         repeat' first | (with_reducible first | refine k_seq ?_ | refine k_skip ?_ | refine k_blkS ?_ | refine k_blkR ?_ | refine k_blkC ?_ | refine k_blkH ?_ | refine k_blkB ?_ | refine k_blkK ?_ | refine k_blkE ?_ | refine k_reg ?_) | with_reducible refine r_done ?_ | with_reducible refine s_go (by simp (disch := omega) only [jlt', w', c1', RG18, EVA, plug, eq_self, simprocAttr]; with_reducible rfl) ?_ | ((with_reducible refine chk_r ?_); refine r_callF (by simp only [CA, simprocAttr]; rfl) (by exact rfl) (by simp only [CA, simprocAttr]; rfl) rfl ?_) | ((with_reducible refine chk_r ?_); refine r_callP (by simp only [CA, simprocAttr]; rfl) (by simp only [CA, simprocAttr]; rfl) (by first | exact q50 _) rfl ?_) | ((with_reducible refine chk_r ?_); refine r_callG (by simp only [CA, simprocAttr]; rfl) (by simp only [CA, simprocAttr]; rfl) (by simp only [CA, simprocAttr]; rfl) (by intro hg; (try simp only [BO] at hg); first | exact q50 _) rfl ?_) | (with_reducible refine k_condP (by simp only [GA, simprocAttr]; rfl) (by first | (simp only [BO]; rfl) | rfl) (fun ht => ?_) (fun ht => ?_) <;> try (first | exact False.elim ht | exact absurd rfl ht | exact absurd trivial ht | exact Bool.noConfusion ht)) | (with_reducible refine k_ret ?_; repeat with_reducible (first | refine ret_thru ?_ | refine ret_blk ?_ | refine fin ?_)) | (with_reducible refine k_exit ?_; repeat with_reducible (first | refine thru ?_ | refine out_blk ?_ | refine pass (by decide) ?_)) | ((first | refine post1 ?_ | refine post2 ?_ | refine post3 ?_); simp only [GA, simprocAttr]) | refine post0 ?_
         exact ⟨klt, (), (by rw [es]; exact (by simp only [Am.keep, List.map_cons, List.map_nil, GA, simprocAttr]; try rfl)), trivial⟩
        ·have c1' := eq_false (show ¬ (li.length : Int) < B.length by omega)
         by_cases c2 : li.length = B.length
         ·have c2' := eq_true (show (li.length : Int) = B.length by omega)
          by_cases c3 : cmpL li B < 0
          ·have c3' := eq_true c3
           have es := eT cv1 (.inr (.inr ⟨c2, c3⟩))
           repeat' first | (with_reducible first | refine k_seq ?_ | refine k_skip ?_ | refine k_blkS ?_ | refine k_blkR ?_ | refine k_blkC ?_ | refine k_blkH ?_ | refine k_blkB ?_ | refine k_blkK ?_ | refine k_blkE ?_ | refine k_reg ?_) | with_reducible refine r_done ?_ | with_reducible refine s_go (by simp (disch := omega) only [jlt', w', c1', c2', c3', RG18, EVA, plug, eq_self, simprocAttr]; with_reducible rfl) ?_ | ((with_reducible refine chk_r ?_); refine r_callF (by simp only [CA, simprocAttr]; rfl) (by exact rfl) (by simp only [CA, simprocAttr]; rfl) rfl ?_) | ((with_reducible refine chk_r ?_); refine r_callP (by simp only [CA, simprocAttr]; rfl) (by simp only [CA, simprocAttr]; rfl) (by first | exact q50 _) rfl ?_) | ((with_reducible refine chk_r ?_); refine r_callG (by simp only [CA, simprocAttr]; rfl) (by simp only [CA, simprocAttr]; rfl) (by simp only [CA, simprocAttr]; rfl) (by intro hg; (try simp only [BO] at hg); first | exact q50 _) rfl ?_) | (with_reducible refine k_condP (by simp only [GA, simprocAttr]; rfl) (by first | (simp only [BO]; rfl) | rfl) (fun ht => ?_) (fun ht => ?_) <;> try (first | exact False.elim ht | exact absurd rfl ht | exact absurd trivial ht | exact Bool.noConfusion ht)) | (with_reducible refine k_ret ?_; repeat with_reducible (first | refine ret_thru ?_ | refine ret_blk ?_ | refine fin ?_)) | (with_reducible refine k_exit ?_; repeat with_reducible (first | refine thru ?_ | refine out_blk ?_ | refine pass (by decide) ?_)) | ((first | refine post1 ?_ | refine post2 ?_ | refine post3 ?_); simp only [GA, simprocAttr]) | refine post0 ?_
           exact ⟨klt, (), (by rw [es]; exact (by simp only [Am.keep, List.map_cons, List.map_nil, GA, simprocAttr]; try rfl)), trivial⟩
          ·have c3' := eq_false c3
           have es := eF fun _ => by simp [c1, c3]
           repeat' first | (with_reducible first | refine k_seq ?_ | refine k_skip ?_ | refine k_blkS ?_ | refine k_blkR ?_ | refine k_blkC ?_ | refine k_blkH ?_ | refine k_blkB ?_ | refine k_blkK ?_ | refine k_blkE ?_ | refine k_reg ?_) | with_reducible refine r_done ?_ | with_reducible refine s_go (by simp (disch := omega) only [jlt', w', c1', c2', c3', RG18, EVA, plug, eq_self, simprocAttr]; with_reducible rfl) ?_ | ((with_reducible refine chk_r ?_); refine r_callF (by simp only [CA, simprocAttr]; rfl) (by exact rfl) (by simp only [CA, simprocAttr]; rfl) rfl ?_) | ((with_reducible refine chk_r ?_); refine r_callP (by simp only [CA, simprocAttr]; rfl) (by simp only [CA, simprocAttr]; rfl) (by first | exact q50 _) rfl ?_) | ((with_reducible refine chk_r ?_); refine r_callG (by simp only [CA, simprocAttr]; rfl) (by simp only [CA, simprocAttr]; rfl) (by simp only [CA, simprocAttr]; rfl) (by intro hg; (try simp only [BO] at hg); first | exact q50 _) rfl ?_) | (with_reducible refine k_condP (by simp only [GA, simprocAttr]; rfl) (by first | (simp only [BO]; rfl) | rfl) (fun ht => ?_) (fun ht => ?_) <;> try (first | exact False.elim ht | exact absurd rfl ht | exact absurd trivial ht | exact Bool.noConfusion ht)) | (with_reducible refine k_ret ?_; repeat with_reducible (first | refine ret_thru ?_ | refine ret_blk ?_ | refine fin ?_)) | (with_reducible refine k_exit ?_; repeat with_reducible (first | refine thru ?_ | refine out_blk ?_ | refine pass (by decide) ?_)) | ((first | refine post1 ?_ | refine post2 ?_ | refine post3 ?_); simp only [GA, simprocAttr]) | refine post0 ?_
           exact ⟨klt, (), (by rw [es, pr]; exact (by simp only [Am.keep, List.map_cons, List.map_nil, GA, simprocAttr]; try rfl)), trivial⟩
         ·have c2' := eq_false (show ¬ (li.length : Int) = B.length by omega)
          have es := eF fun _ => by simp [c1, c2]
          repeat' first | (with_reducible first | refine k_seq ?_ | refine k_skip ?_ | refine k_blkS ?_ | refine k_blkR ?_ | refine k_blkC ?_ | refine k_blkH ?_ | refine k_blkB ?_ | refine k_blkK ?_ | refine k_blkE ?_ | refine k_reg ?_) | with_reducible refine r_done ?_ | with_reducible refine s_go (by simp (disch := omega) only [jlt', w', c1', c2', RG18, EVA, plug, eq_self, simprocAttr]; with_reducible rfl) ?_ | ((with_reducible refine chk_r ?_); refine r_callF (by simp only [CA, simprocAttr]; rfl) (by exact rfl) (by simp only [CA, simprocAttr]; rfl) rfl ?_) | ((with_reducible refine chk_r ?_); refine r_callP (by simp only [CA, simprocAttr]; rfl) (by simp only [CA, simprocAttr]; rfl) (by first | exact q50 _) rfl ?_) | ((with_reducible refine chk_r ?_); refine r_callG (by simp only [CA, simprocAttr]; rfl) (by simp only [CA, simprocAttr]; rfl) (by simp only [CA, simprocAttr]; rfl) (by intro hg; (try simp only [BO] at hg); first | exact q50 _) rfl ?_) | (with_reducible refine k_condP (by simp only [GA, simprocAttr]; rfl) (by first | (simp only [BO]; rfl) | rfl) (fun ht => ?_) (fun ht => ?_) <;> try (first | exact False.elim ht | exact absurd rfl ht | exact absurd trivial ht | exact Bool.noConfusion ht)) | (with_reducible refine k_ret ?_; repeat with_reducible (first | refine ret_thru ?_ | refine ret_blk ?_ | refine fin ?_)) | (with_reducible refine k_exit ?_; repeat with_reducible (first | refine thru ?_ | refine out_blk ?_ | refine pass (by decide) ?_)) | ((first | refine post1 ?_ | refine post2 ?_ | refine post3 ?_); simp only [GA, simprocAttr]) | refine post0 ?_
          exact ⟨klt, (), (by rw [es, pr]; exact (by simp only [Am.keep, List.map_cons, List.map_nil, GA, simprocAttr]; try rfl)), trivial⟩
     ·have w' := eq_false (show ¬ (o : Int) = wh by omega)
      have es := eF fun q => absurd (we.2 q) w
      repeat' first | (with_reducible first | refine k_seq ?_ | refine k_skip ?_ | refine k_blkS ?_ | refine k_blkR ?_ | refine k_blkC ?_ | refine k_blkH ?_ | refine k_blkB ?_ | refine k_blkK ?_ | refine k_blkE ?_ | refine k_reg ?_) | with_reducible refine r_done ?_ | with_reducible refine s_go (by simp (disch := omega) only [jlt', w', RG18, EVA, plug, eq_self, simprocAttr]; with_reducible rfl) ?_ | ((with_reducible refine chk_r ?_); refine r_callF (by simp only [CA, simprocAttr]; rfl) (by exact rfl) (by simp only [CA, simprocAttr]; rfl) rfl ?_) | ((with_reducible refine chk_r ?_); refine r_callP (by simp only [CA, simprocAttr]; rfl) (by simp only [CA, simprocAttr]; rfl) (by first | exact q50 _) rfl ?_) | ((with_reducible refine chk_r ?_); refine r_callG (by simp only [CA, simprocAttr]; rfl) (by simp only [CA, simprocAttr]; rfl) (by simp only [CA, simprocAttr]; rfl) (by intro hg; (try simp only [BO] at hg); first | exact q50 _) rfl ?_) | (with_reducible refine k_condP (by simp only [GA, simprocAttr]; rfl) (by first | (simp only [BO]; rfl) | rfl) (fun ht => ?_) (fun ht => ?_) <;> try (first | exact False.elim ht | exact absurd rfl ht | exact absurd trivial ht | exact Bool.noConfusion ht)) | (with_reducible refine k_ret ?_; repeat with_reducible (first | refine ret_thru ?_ | refine ret_blk ?_ | refine fin ?_)) | (with_reducible refine k_exit ?_; repeat with_reducible (first | refine thru ?_ | refine out_blk ?_ | refine pass (by decide) ?_)) | ((first | refine post1 ?_ | refine post2 ?_ | refine post3 ?_); simp only [GA, simprocAttr]) | refine post0 ?_
      exact ⟨klt, (), (by rw [es, pr]; exact (by simp only [Am.keep, List.map_cons, List.map_nil, GA, simprocAttr]; try rfl)), trivial⟩
   ·obtain rfl : k = 2 ^ l.length := by omega
    have klt' : ¬ ((2 ^ l.length : Nat) : Int) < ((2 ^ l.length : Nat) : Int) := by omega
    cases d : (cvN (cvsB l m) (2 ^ l.length)).1 with
    | true =>
      rw [if_pos rfl]
      repeat' first | (with_reducible first | refine k_seq ?_ | refine k_skip ?_ | refine k_blkS ?_ | refine k_blkR ?_ | refine k_blkC ?_ | refine k_blkH ?_ | refine k_blkB ?_ | refine k_blkK ?_ | refine k_blkE ?_ | refine k_reg ?_) | with_reducible refine r_done ?_ | with_reducible refine s_go (by simp (disch := omega) only [klt', d, RG18, EVA, plug, eq_self, simprocAttr]; with_reducible rfl) ?_ | ((with_reducible refine chk_r ?_); refine r_callF (by simp only [CA, simprocAttr]; rfl) (by exact rfl) (by simp only [CA, simprocAttr]; rfl) rfl ?_) | (with_reducible refine k_condP (by simp only [GA, simprocAttr]; rfl) (by first | (simp only [BO]; rfl) | rfl) (fun ht => ?_) (fun ht => ?_) <;> try (first | exact False.elim ht | exact absurd rfl ht | exact absurd trivial ht | exact Bool.noConfusion ht)) | (with_reducible refine k_ret ?_; repeat with_reducible (first | refine ret_thru ?_ | refine ret_blk ?_ | refine fin ?_)) | (with_reducible refine k_exit ?_; repeat with_reducible (first | refine thru ?_ | refine out_blk ?_ | refine pass (by decide) ?_)) | ((first | refine post1 ?_ | refine post2 ?_ | refine post3 ?_); simp only [GA, simprocAttr]) | refine post0 ?_
      all_goals first | exact ends_of | exact ends_eq rfl
    | false =>
      rw [if_neg (by simp)]
      repeat' first | (with_reducible first | refine k_seq ?_ | refine k_skip ?_ | refine k_blkS ?_ | refine k_blkR ?_ | refine k_blkC ?_ | refine k_blkH ?_ | refine k_blkB ?_ | refine k_blkK ?_ | refine k_blkE ?_ | refine k_reg ?_) | with_reducible refine r_done ?_ | with_reducible refine s_go (by simp (disch := omega) only [klt', d, RG18, EVA, plug, eq_self, simprocAttr]; with_reducible rfl) ?_ | ((with_reducible refine chk_r ?_); refine r_callF (by simp only [CA, simprocAttr]; rfl) (by exact rfl) (by simp only [CA, simprocAttr]; rfl) rfl ?_) | (with_reducible refine k_condP (by simp only [GA, simprocAttr]; rfl) (by first | (simp only [BO]; rfl) | rfl) (fun ht => ?_) (fun ht => ?_) <;> try (first | exact False.elim ht | exact absurd rfl ht | exact absurd trivial ht | exact Bool.noConfusion ht)) | (with_reducible refine k_ret ?_; repeat with_reducible (first | refine ret_thru ?_ | refine ret_blk ?_ | refine fin ?_)) | (with_reducible refine k_exit ?_; repeat with_reducible (first | refine thru ?_ | refine out_blk ?_ | refine pass (by decide) ?_)) | ((first | refine post1 ?_ | refine post2 ?_ | refine post3 ?_); simp only [GA, simprocAttr]) | refine post0 ?_
      exact ends_nil2
 ·have c' := eq_false c
  rw [if_pos c]
  repeat' first | (with_reducible first | refine k_seq ?_ | refine k_skip ?_ | refine k_blkS ?_ | refine k_blkR ?_ | refine k_blkC ?_ | refine k_blkH ?_ | refine k_blkB ?_ | refine k_blkK ?_ | refine k_blkE ?_ | refine k_reg ?_) | with_reducible refine r_done ?_ | with_reducible refine s_go (by simp (disch := omega) only [c', RG18, EVA, plug, eq_self, simprocAttr]; with_reducible rfl) ?_ | ((with_reducible refine chk_r ?_); refine r_callF (by simp only [CA, simprocAttr]; rfl) (by exact rfl) (by simp only [CA, simprocAttr]; rfl) rfl ?_) | ((with_reducible refine chk_r ?_); refine r_callP (by simp only [CA, simprocAttr]; rfl) (by simp only [CA, simprocAttr]; rfl) (by first | exact q1 _) rfl ?_) | ((with_reducible refine chk_r ?_); refine r_callG (by simp only [CA, simprocAttr]; rfl) (by simp only [CA, simprocAttr]; rfl) (by simp only [CA, simprocAttr]; rfl) (by intro hg; (try simp only [BO] at hg); first | exact q1 _) rfl ?_) | (with_reducible refine k_condP (by simp only [GA, simprocAttr]; rfl) (by first | (simp only [BO]; rfl) | rfl) (fun ht => ?_) (fun ht => ?_) <;> try (first | exact False.elim ht | exact absurd rfl ht | exact absurd trivial ht | exact Bool.noConfusion ht)) | (with_reducible refine k_ret ?_; repeat with_reducible (first | refine ret_thru ?_ | refine ret_blk ?_ | refine fin ?_)) | (with_reducible refine k_exit ?_; repeat with_reducible (first | refine thru ?_ | refine out_blk ?_ | refine pass (by decide) ?_)) | ((first | refine post1 ?_ | refine post2 ?_ | refine post3 ?_); simp only [GA, simprocAttr]) | refine post0 ?_
  exact ends_nil2
end Go.Proofs.YtjaihaccehaicaaDoor
