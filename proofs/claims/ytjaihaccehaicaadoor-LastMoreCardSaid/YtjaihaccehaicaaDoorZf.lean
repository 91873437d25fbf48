/- What the proof of the law needs: the abstract machine, the functions as it reads them, their contracts, part 6. -/
import Derived.Test.YtjaihaccehaicaaDoorZe
set_option linter.unusedVariables false
set_option linter.unusedSimpArgs false
namespace Go.Proofs.YtjaihaccehaicaaDoor
open Go Go.Am Go.Proofs
def chk (l : List Sz) (m : List Hd) : Int := if szsOk l = false then 31 else if hdsOk m = false then 30 else 0
theorem RG40 : (type_of% @c40r0.eq_1) ∧ (type_of% @c40r1.eq_1) ∧ (type_of% @c40r2.eq_1) ∧ (type_of% @c40r3.eq_1) ∧ (type_of% @c40r4.eq_1) ∧ (type_of% @c40r5.eq_1) := ⟨@c40r0.eq_1, @c40r1.eq_1, @c40r2.eq_1, @c40r3.eq_1, @c40r4.eq_1, @c40r5.eq_1⟩
theorem pc41 (l : List Sz) (m : List Hd) (hl : l.length ≤ 9223372036854775807) (hm : m.length ≤ 9223372036854775807) : PC Tryd.prog 40 [vZ l, vH m] (.i .i64 (chk l m)) := by
 have q1 := pc59 l hl
 have q2 := pc60 m hm
 unfold chk
 refine pc_fn fn40 (by simp only [AV.plains, AV.plain, il_plain, bl_plain, Bool.and_true, Bool.true_and, Bool.and_self, fleZ_plain, fleH_plain]) (by simp only [AV.plains, AV.plain, il_plain, bl_plain, Bool.and_true, Bool.true_and, Bool.and_self, fleZ_plain, fleH_plain]) (Nat.le_of_ble_eq_true rfl) ?_
 rw [initSt2]
 cases c1 : szsOk l with
 | false =>
   rw [c1] at q1
   rw [if_pos rfl]
   repeat' first | (with_reducible first | refine k_seq ?_ | refine k_skip ?_ | refine k_blkS ?_ | refine k_blkR ?_ | refine k_blkC ?_ | refine k_blkH ?_ | refine k_blkB ?_ | refine k_blkK ?_ | refine k_blkE ?_ | refine k_reg ?_) | with_reducible refine r_done ?_ | with_reducible refine s_go (by simp (disch := omega) only [RG40, EVA, plug, eq_self, simprocAttr]; with_reducible rfl) ?_ | ((with_reducible refine chk_r ?_); refine r_callF (by simp only [CA, simprocAttr]; rfl) (by exact rfl) (by simp only [CA, simprocAttr]; rfl) rfl ?_) | ((with_reducible refine chk_r ?_); refine r_callP (by simp only [CA, simprocAttr]; rfl) (by simp only [CA, simprocAttr]; rfl) (by first | exact q1 _) rfl ?_) | (with_reducible refine k_condP (by simp only [GA, simprocAttr]; rfl) (by first | (simp only [BO]; rfl) | rfl) (fun ht => ?_) (fun ht => ?_) <;> try (first | exact False.elim ht | exact absurd rfl ht | exact absurd trivial ht | exact Bool.noConfusion ht)) | (with_reducible refine k_ret ?_; repeat with_reducible (first | refine ret_thru ?_ | refine ret_blk ?_ | refine fin ?_)) | (with_reducible refine k_exit ?_; repeat with_reducible (first | refine thru ?_ | refine out_blk ?_ | refine pass (by decide) ?_)) | ((first | refine post1 ?_ | refine post2 ?_ | refine post3 ?_); simp only [GA, simprocAttr]) | refine post0 ?_
   all_goals first | exact ends_of | exact ends_eq rfl
 | true =>
   rw [c1] at q1
   rw [if_neg (by simp)]
   cases c2 : hdsOk m with
   | false =>
     rw [c2] at q2
     rw [if_pos rfl]
     repeat' first | (with_reducible first | refine k_seq ?_ | refine k_skip ?_ | refine k_blkS ?_ | refine k_blkR ?_ | refine k_blkC ?_ | refine k_blkH ?_ | refine k_blkB ?_ | refine k_blkK ?_ | refine k_blkE ?_ | refine k_reg ?_) | with_reducible refine r_done ?_ | with_reducible refine s_go (by simp (disch := omega) only [RG40, EVA, plug, eq_self, simprocAttr]; with_reducible rfl) ?_ | ((with_reducible refine chk_r ?_); refine r_callF (by simp only [CA, simprocAttr]; rfl) (by exact rfl) (by simp only [CA, simprocAttr]; rfl) rfl ?_) | ((with_reducible refine chk_r ?_); refine r_callP (by simp only [CA, simprocAttr]; rfl) (by simp only [CA, simprocAttr]; rfl) (by first | exact q1 _ | exact q2 _) rfl ?_) | (with_reducible refine k_condP (by simp only [GA, simprocAttr]; rfl) (by first | (simp only [BO]; rfl) | rfl) (fun ht => ?_) (fun ht => ?_) <;> try (first | exact False.elim ht | exact absurd rfl ht | exact absurd trivial ht | exact Bool.noConfusion ht)) | (with_reducible refine k_ret ?_; repeat with_reducible (first | refine ret_thru ?_ | refine ret_blk ?_ | refine fin ?_)) | (with_reducible refine k_exit ?_; repeat with_reducible (first | refine thru ?_ | refine out_blk ?_ | refine pass (by decide) ?_)) | ((first | refine post1 ?_ | refine post2 ?_ | refine post3 ?_); simp only [GA, simprocAttr]) | refine post0 ?_
     all_goals first | exact ends_of | exact ends_eq rfl
   | true =>
     rw [c2] at q2
     rw [if_neg (by simp)]
     repeat' first | (with_reducible first | refine k_seq ?_ | refine k_skip ?_ | refine k_blkS ?_ | refine k_blkR ?_ | refine k_blkC ?_ | refine k_blkH ?_ | refine k_blkB ?_ | refine k_blkK ?_ | refine k_blkE ?_ | refine k_reg ?_) | with_reducible refine r_done ?_ | with_reducible refine s_go (by simp (disch := omega) only [RG40, EVA, plug, eq_self, simprocAttr]; with_reducible rfl) ?_ | ((with_reducible refine chk_r ?_); refine r_callF (by simp only [CA, simprocAttr]; rfl) (by exact rfl) (by simp only [CA, simprocAttr]; rfl) rfl ?_) | ((with_reducible refine chk_r ?_); refine r_callP (by simp only [CA, simprocAttr]; rfl) (by simp only [CA, simprocAttr]; rfl) (by first | exact q1 _ | exact q2 _) rfl ?_) | (with_reducible refine k_condP (by simp only [GA, simprocAttr]; rfl) (by first | (simp only [BO]; rfl) | rfl) (fun ht => ?_) (fun ht => ?_) <;> try (first | exact False.elim ht | exact absurd rfl ht | exact absurd trivial ht | exact Bool.noConfusion ht)) | (with_reducible refine k_ret ?_; repeat with_reducible (first | refine ret_thru ?_ | refine ret_blk ?_ | refine fin ?_)) | (with_reducible refine k_exit ?_; repeat with_reducible (first | refine thru ?_ | refine out_blk ?_ | refine pass (by decide) ?_)) | ((first | refine post1 ?_ | refine post2 ?_ | refine post3 ?_); simp only [GA, simprocAttr]) | refine post0 ?_
     all_goals first | exact ends_of | exact ends_eq rfl
def nd (s : Sz) (x : Hd) (j : Nat) : Int := max (max (s.F j - x.M j) (x.M j - s.T j)) 0
def nG (s : Sz) (x : Hd) (k : Nat) (j : Nat) : Int := if j < k then nd s x j else 0
def nS (s : Sz) (x : Hd) : Nat → Int
 | 0 => 0
 | k + 1 => nS s x k + nd s x k
theorem eZ_rt (s : Sz) : rd (eZ s) 16 none = some (.i .i64 s.t) := rfl
theorem e5_len (F : Nat → Int) : (e5 F).length = 5 := rfl
theorem e5_set {s : Sz} {x : Hd} {k : Nat} (h : k < 5) : (e5 (nG s x k)).set k (.i .i64 (nd s x k)) = e5 (nG s x (k + 1)) := by
 rcases k with _ | _ | _ | _ | _ | k <;> first | rfl | omega
theorem ndB {s : Sz} {x : Hd} (hs : szOk s = true) (hx : hdOk x = true) {j : Nat} (hj : j < 5) : 0 ≤ nd s x j ∧ nd s x j ≤ 3000 := by
 have h1 := (szOk_iff.1 hs).2 j hj
 have h2 := (hdOk_iff.1 hx).2 j hj
 unfold nd
 omega
theorem nSB {s : Sz} {x : Hd} (hs : szOk s = true) (hx : hdOk x = true) : ∀ {k : Nat}, k ≤ 5 → 0 ≤ nS s x k ∧ nS s x k ≤ 3000 * k
 | 0, _ => by simp [nS]
 | k + 1, h => by
   have h1 := nSB hs hx (k := k) (by omega)
   have h2 := ndB hs hx (j := k) (by omega)
   unfold nS
   omega
theorem RG46 : (type_of% @c46r0.eq_1) ∧ (type_of% @c46r1.eq_1) ∧ (type_of% @c46r2.eq_1) ∧ (type_of% @c46r3.eq_1) ∧ (type_of% @c46r4.eq_1) ∧ (type_of% @c46r5.eq_1) ∧ (type_of% @c46r6.eq_1) ∧ (type_of% @c46r7.eq_1) ∧ (type_of% @c46r8.eq_1) ∧ (type_of% @c46r10.eq_1) := ⟨@c46r0.eq_1, @c46r1.eq_1, @c46r2.eq_1, @c46r3.eq_1, @c46r4.eq_1, @c46r5.eq_1, @c46r6.eq_1, @c46r7.eq_1, @c46r8.eq_1, @c46r10.eq_1⟩
theorem pc42 (s : Sz) (x : Hd) (hs : szOk s = true) (hx : hdOk x = true) : PC Tryd.prog 46 [.ag (eZ s), .ag (eH x)] (.tu [.ag (e5 (nd s x)), .i .i64 (nS s x 5)]) := by
 have hs1 := (szOk_iff.1 hs).2
 have hx1 := (hdOk_iff.1 hx).2
 refine pc_fn fn46 (by simp only [AV.plains, AV.plain, il_plain, bl_plain, Bool.and_true, Bool.true_and, Bool.and_self]) (by simp only [AV.plains, AV.plain, il_plain, bl_plain, Bool.and_true, Bool.true_and, Bool.and_self]) (Nat.le_of_ble_eq_true rfl) ?_
 rw [initSt2]
 repeat' first | (with_reducible first | refine k_seq ?_ | refine k_skip ?_ | refine k_blkS ?_ | refine k_blkR ?_ | refine k_blkC ?_ | refine k_blkH ?_ | refine k_blkB ?_ | refine k_blkK ?_ | refine k_blkE ?_ | refine k_reg ?_) | with_reducible refine k_head (by with_unfolding_all rfl) ?_ | with_reducible refine k_headS ?_ | (with_reducible refine SepK.mk ?_ ?_; (refine sepQ_P ?_; simp [sepQ, sepG, AOp.late, AOp.free, AOp.xs, AOp.isAl, tokNe, AV.tok, stS_get, strip, AX.val, RG46, GA]; try omega)) | with_reducible refine r_done ?_ | with_reducible refine hr_done ?_ | with_reducible refine s_go (by simp (disch := omega) only [eH_rM, RG46, EVA, plug, eq_self, simprocAttr]; with_reducible rfl) ?_ | with_reducible refine h_go (by with_unfolding_all rfl) (by simp (disch := omega) only [eH_rM, RG46, EVA, plug, eq_self, simprocAttr]; with_reducible rfl) ?_ | ((with_reducible refine chk_r ?_); refine r_callF (by simp only [CA, simprocAttr]; rfl) (by exact rfl) (by simp only [CA, simprocAttr]; rfl) rfl ?_) | ((with_reducible refine chk_h ?_); refine hr_callF (by simp only [CA, simprocAttr]; rfl) (by exact rfl) (by simp only [CA, simprocAttr]; rfl) rfl ?_) | ((with_reducible refine chk_h ?_); refine hr_app (by simp (disch := omega) only [eH_rM, RG46, EVA, plug, eq_self, simprocAttr]; with_reducible rfl) rfl ?_) | (with_reducible refine k_condP (by simp only [GA, simprocAttr]; rfl) (by first | (simp only [BO]; rfl) | rfl) (fun ht => ?_) (fun ht => ?_) <;> try (first | exact False.elim ht | exact absurd rfl ht | exact absurd trivial ht | exact Bool.noConfusion ht)) | (with_reducible refine k_ret ?_; repeat with_reducible (first | refine ret_thru ?_ | refine ret_blk ?_ | refine fin ?_)) | (with_reducible refine k_exit ?_; repeat with_reducible (first | refine thru ?_ | refine out_blk ?_ | refine pass (by decide) ?_)) | ((first | refine post1 ?_ | refine post2 ?_ | refine post3 ?_); simp only [GA, simprocAttr]) | (refine postc (by simp only [GA, simprocAttr]; rfl) (by simp (disch := omega) only [eH_rM, RG46, EVA, plug, eq_self, simprocAttr]; rfl) ?_) | (refine postct (by simp only [GA, simprocAttr]; rfl) (by simp (disch := omega) only [eH_rM, RG46, EVA, plug, eq_self, simprocAttr]; rfl) ?_; simp only [GA, simprocAttr]) | refine post0 ?_
 refine k_blk (k_loopS (X := Unit) [2, 4, 6, 7, 11, 12] 5 (fun k _ => [(2, .p 1 0), (4, .p 3 0), (6, .p 5 0), (7, .i .i64 (nS s x k)), (11, .ag (e5 x.M)), (12, .i .i64 (k : Int))]) (fun k _ h => h.m 1 = some (.cells true (eZ s)) ∧ h.m 3 = some (.cells true (e5 fun _ => 0)) ∧ h.m 5 = some (.cells true (e5 (nG s x k)))) () (by simp only [Am.keep, List.map_cons, List.map_nil, GA, simprocAttr]; try rfl) ⟨by simp (disch := omega) only [RG46, EVA, plug, eq_self, simprocAttr] <;> rfl, by simp (disch := omega) only [RG46, EVA, plug, eq_self, simprocAttr] <;> rfl, by simp (disch := omega) only [RG46, EVA, plug, eq_self, simprocAttr] <;> rfl⟩ ?_)
 rintro k _ h hk ⟨hm, hm3, hm5⟩ ok pos
 by_cases klt : k < 5
 ·have klt' : (k : Int) < 5 := by omega
  have g0 := e5_get (F := x.M) klt
  have g1 := eZ_F s klt
  have g2 := eZ_T s klt
  have g5 : (e5 (nG s x (k + 1)))[k]? = some (.i .i64 (nG s x (k + 1) k)) := e5_get klt
  rw [show nG s x (k + 1) k = nd s x k from if_pos (by omega)] at g5
  have st := e5_set (s := s) (x := x) klt
  have b1 := hs1 k klt
  have b2 := hx1 k klt
  have b3 := ndB hs hx klt
  have b4 := nSB hs hx (k := k) hk
  have w1 : IntKind.i64.wrap (s.F k - x.M k) = s.F k - x.M k := wrap64 (by omega) (by omega)
  have w2 : IntKind.i64.wrap (x.M k - s.T k) = x.M k - s.T k := wrap64 (by omega) (by omega)
  have w3 : IntKind.i64.wrap (nS s x k + nd s x k) = nS s x k + nd s x k := wrap64 (by omega) (by omega)
  have dn : max (max (s.F k - x.M k) (x.M k - s.T k)) 0 = nd s x k := rfl
  repeat' first | (with_reducible first | refine k_seq ?_ | refine k_skip ?_ | refine k_blkS ?_ | refine k_blkR ?_ | refine k_blkC ?_ | refine k_blkH ?_ | refine k_blkB ?_ | refine k_blkK ?_ | refine k_blkE ?_ | refine k_reg ?_) | with_reducible refine k_head (by with_unfolding_all rfl) ?_ | with_reducible refine k_headS ?_ | (with_reducible refine SepK.mk ?_ ?_; (refine sepQ_P ?_; simp [sepQ, sepG, AOp.late, AOp.free, AOp.xs, AOp.isAl, tokNe, AV.tok, stS_get, strip, AX.val, RG46, GA]; try omega)) | with_reducible refine r_done ?_ | with_reducible refine hr_done ?_ | with_reducible refine s_go (by simp (disch := omega) only [klt', g0, g1, g2, g5, st, w1, w2, w3, dn, e5_len, hm, row_m hm, read_row (row_m hm), hm5, row_m hm5, read_row (row_m hm5), RG46, EVA, plug, eq_self, simprocAttr]; with_reducible rfl) ?_ | with_reducible refine h_go (by with_unfolding_all rfl) (by simp (disch := omega) only [klt', g0, g1, g2, g5, st, w1, w2, w3, dn, e5_len, hm, row_m hm, read_row (row_m hm), hm5, row_m hm5, read_row (row_m hm5), RG46, EVA, plug, eq_self, simprocAttr]; with_reducible rfl) ?_ | ((with_reducible refine chk_r ?_); refine r_callF (by simp only [CA, simprocAttr]; rfl) (by exact rfl) (by simp only [CA, simprocAttr]; rfl) rfl ?_) | ((with_reducible refine chk_h ?_); refine hr_callF (by simp only [CA, simprocAttr]; rfl) (by exact rfl) (by simp only [CA, simprocAttr]; rfl) rfl ?_) | ((with_reducible refine chk_h ?_); refine hr_app (by simp (disch := omega) only [klt', g0, g1, g2, g5, st, w1, w2, w3, dn, e5_len, hm, row_m hm, read_row (row_m hm), hm5, row_m hm5, read_row (row_m hm5), RG46, EVA, plug, eq_self, simprocAttr]; with_reducible rfl) rfl ?_) | (with_reducible refine k_condP (by simp only [GA, simprocAttr]; rfl) (by first | (simp only [BO]; rfl) | rfl) (fun ht => ?_) (fun ht => ?_) <;> try (first | exact False.elim ht | exact absurd rfl ht | exact absurd trivial ht | exact Bool.noConfusion ht)) | (with_reducible refine k_ret ?_; repeat with_reducible (first | refine ret_thru ?_ | refine ret_blk ?_ | refine fin ?_)) | (with_reducible refine k_exit ?_; repeat with_reducible (first | refine thru ?_ | refine out_blk ?_ | refine pass (by decide) ?_)) | ((first | refine post1 ?_ | refine post2 ?_ | refine post3 ?_); simp only [GA, simprocAttr]) | (refine postc (by simp only [GA, simprocAttr]; rfl) (by simp (disch := omega) only [klt', g0, g1, g2, g5, st, w1, w2, w3, dn, e5_len, hm, row_m hm, read_row (row_m hm), hm5, row_m hm5, read_row (row_m hm5), RG46, EVA, plug, eq_self, simprocAttr]; rfl) ?_) | (refine postct (by simp only [GA, simprocAttr]; rfl) (by simp (disch := omega) only [klt', g0, g1, g2, g5, st, w1, w2, w3, dn, e5_len, hm, row_m hm, read_row (row_m hm), hm5, row_m hm5, read_row (row_m hm5), RG46, EVA, plug, eq_self, simprocAttr]; rfl) ?_; simp only [GA, simprocAttr]) | refine post0 ?_
  exact ⟨klt, (), (by simp only [Am.keep, List.map_cons, List.map_nil, GA, simprocAttr]; try rfl), by simp (disch := omega) only [hm, RG46, EVA, plug, eq_self, simprocAttr], by simp (disch := omega) only [hm3, RG46, EVA, plug, eq_self, simprocAttr], by simp (disch := omega) only [st, RG46, EVA, plug, eq_self, simprocAttr]⟩
 ·obtain rfl : k = 5 := by omega
  have klt' : ¬ ((5 : Nat) : Int) < 5 := by omega
  repeat' first | (with_reducible first | refine k_seq ?_ | refine k_skip ?_ | refine k_blkS ?_ | refine k_blkR ?_ | refine k_blkC ?_ | refine k_blkH ?_ | refine k_blkB ?_ | refine k_blkK ?_ | refine k_blkE ?_ | refine k_reg ?_) | with_reducible refine k_head (by with_unfolding_all rfl) ?_ | with_reducible refine k_headS ?_ | (with_reducible refine SepK.mk ?_ ?_; (refine sepQ_P ?_; simp [sepQ, sepG, AOp.late, AOp.free, AOp.xs, AOp.isAl, tokNe, AV.tok, stS_get, strip, AX.val, RG46, GA]; try omega)) | with_reducible refine r_done ?_ | with_reducible refine hr_done ?_ | with_reducible refine s_go (by simp (disch := omega) only [klt', e5_rd, hm3, row_m hm3, read_row (row_m hm3), hm5, row_m hm5, read_row (row_m hm5), RG46, EVA, plug, eq_self, simprocAttr]; with_reducible rfl) ?_ | with_reducible refine h_go (by with_unfolding_all rfl) (by simp (disch := omega) only [klt', e5_rd, hm3, row_m hm3, read_row (row_m hm3), hm5, row_m hm5, read_row (row_m hm5), RG46, EVA, plug, eq_self, simprocAttr]; with_reducible rfl) ?_ | ((with_reducible refine chk_r ?_); refine r_callF (by simp only [CA, simprocAttr]; rfl) (by exact rfl) (by simp only [CA, simprocAttr]; rfl) rfl ?_) | ((with_reducible refine chk_h ?_); refine hr_callF (by simp only [CA, simprocAttr]; rfl) (by exact rfl) (by simp only [CA, simprocAttr]; rfl) rfl ?_) | ((with_reducible refine chk_h ?_); refine hr_app (by simp (disch := omega) only [klt', e5_rd, hm3, row_m hm3, read_row (row_m hm3), hm5, row_m hm5, read_row (row_m hm5), RG46, EVA, plug, eq_self, simprocAttr]; with_reducible rfl) rfl ?_) | (with_reducible refine k_condP (by simp only [GA, simprocAttr]; rfl) (by first | (simp only [BO]; rfl) | rfl) (fun ht => ?_) (fun ht => ?_) <;> try (first | exact False.elim ht | exact absurd rfl ht | exact absurd trivial ht | exact Bool.noConfusion ht)) | (with_reducible refine k_ret ?_; repeat with_reducible (first | refine ret_thru ?_ | refine ret_blk ?_ | refine fin ?_)) | (with_reducible refine k_exit ?_; repeat with_reducible (first | refine thru ?_ | refine out_blk ?_ | refine pass (by decide) ?_)) | ((first | refine post1 ?_ | refine post2 ?_ | refine post3 ?_); simp only [GA, simprocAttr]) | (refine postc (by simp only [GA, simprocAttr]; rfl) (by simp (disch := omega) only [klt', e5_rd, hm3, row_m hm3, read_row (row_m hm3), hm5, row_m hm5, read_row (row_m hm5), RG46, EVA, plug, eq_self, simprocAttr]; rfl) ?_) | (refine postct (by simp only [GA, simprocAttr]; rfl) (by simp (disch := omega) only [klt', e5_rd, hm3, row_m hm3, read_row (row_m hm3), hm5, row_m hm5, read_row (row_m hm5), RG46, EVA, plug, eq_self, simprocAttr]; rfl) ?_; simp only [GA, simprocAttr]) | refine post0 ?_
  all_goals first | exact ends_of | exact ends_eq rfl
theorem RG48 : (type_of% @c48r0.eq_1) ∧ (type_of% @c48r1.eq_1) ∧ (type_of% @c48r2.eq_1) ∧ (type_of% @c48r3.eq_1) ∧ (type_of% @c48r4.eq_1) ∧ (type_of% @c48r5.eq_1) ∧ (type_of% @c48r6.eq_1) ∧ (type_of% @c48r7.eq_1) ∧ (type_of% @c48r8.eq_1) ∧ (type_of% @c48r10.eq_1) := ⟨@c48r0.eq_1, @c48r1.eq_1, @c48r2.eq_1, @c48r3.eq_1, @c48r4.eq_1, @c48r5.eq_1, @c48r6.eq_1, @c48r7.eq_1, @c48r8.eq_1, @c48r10.eq_1⟩
theorem pc44 (s : Sz) (x : Hd) (hs : szOk s = true) (hx : hdOk x = true) : PC Tryd.prog 48 [.ag (eZ s), .ag (eH x)] (.tu [.ag (e5 (nd s x)), .i .i64 (nS s x 5)]) := by
 have hs1 := (szOk_iff.1 hs).2
 have hx1 := (hdOk_iff.1 hx).2
 refine pc_fn fn48 (by simp only [AV.plains, AV.plain, il_plain, bl_plain, Bool.and_true, Bool.true_and, Bool.and_self]) (by simp only [AV.plains, AV.plain, il_plain, bl_plain, Bool.and_true, Bool.true_and, Bool.and_self]) (Nat.le_of_ble_eq_true rfl) ?_
 rw [initSt2]
 repeat' first | (with_reducible first | refine k_seq ?_ | refine k_skip ?_ | refine k_blkS ?_ | refine k_blkR ?_ | refine k_blkC ?_ | refine k_blkH ?_ | refine k_blkB ?_ | refine k_blkK ?_ | refine k_blkE ?_ | refine k_reg ?_) | with_reducible refine k_head (by with_unfolding_all rfl) ?_ | with_reducible refine k_headS ?_ | (with_reducible refine SepK.mk ?_ ?_; (refine sepQ_P ?_; simp [sepQ, sepG, AOp.late, AOp.free, AOp.xs, AOp.isAl, tokNe, AV.tok, stS_get, strip, AX.val, RG48, GA]; try omega)) | with_reducible refine r_done ?_ | with_reducible refine hr_done ?_ | with_reducible refine s_go (by simp (disch := omega) only [eH_rM, RG48, EVA, plug, eq_self, simprocAttr]; with_reducible rfl) ?_ | with_reducible refine h_go (by with_unfolding_all rfl) (by simp (disch := omega) only [eH_rM, RG48, EVA, plug, eq_self, simprocAttr]; with_reducible rfl) ?_ | ((with_reducible refine chk_r ?_); refine r_callF (by simp only [CA, simprocAttr]; rfl) (by exact rfl) (by simp only [CA, simprocAttr]; rfl) rfl ?_) | ((with_reducible refine chk_h ?_); refine hr_callF (by simp only [CA, simprocAttr]; rfl) (by exact rfl) (by simp only [CA, simprocAttr]; rfl) rfl ?_) | ((with_reducible refine chk_h ?_); refine hr_app (by simp (disch := omega) only [eH_rM, RG48, EVA, plug, eq_self, simprocAttr]; with_reducible rfl) rfl ?_) | (with_reducible refine k_condP (by simp only [GA, simprocAttr]; rfl) (by first | (simp only [BO]; rfl) | rfl) (fun ht => ?_) (fun ht => ?_) <;> try (first | exact False.elim ht | exact absurd rfl ht | exact absurd trivial ht | exact Bool.noConfusion ht)) | (with_reducible refine k_ret ?_; repeat with_reducible (first | refine ret_thru ?_ | refine ret_blk ?_ | refine fin ?_)) | (with_reducible refine k_exit ?_; repeat with_reducible (first | refine thru ?_ | refine out_blk ?_ | refine pass (by decide) ?_)) | ((first | refine post1 ?_ | refine post2 ?_ | refine post3 ?_); simp only [GA, simprocAttr]) | (refine postc (by simp only [GA, simprocAttr]; rfl) (by simp (disch := omega) only [eH_rM, RG48, EVA, plug, eq_self, simprocAttr]; rfl) ?_) | (refine postct (by simp only [GA, simprocAttr]; rfl) (by simp (disch := omega) only [eH_rM, RG48, EVA, plug, eq_self, simprocAttr]; rfl) ?_; simp only [GA, simprocAttr]) | refine post0 ?_
 refine k_blk (k_loopS (X := Unit) [2, 4, 6, 7, 11, 12] 5 (fun k _ => [(2, .p 1 0), (4, .p 3 0), (6, .p 5 0), (7, .i .i64 (nS s x k)), (11, .ag (e5 x.M)), (12, .i .i64 (k : Int))]) (fun k _ h => h.m 1 = some (.cells true (eZ s)) ∧ h.m 3 = some (.cells true (e5 fun _ => 0)) ∧ h.m 5 = some (.cells true (e5 (nG s x k)))) () (by simp only [Am.keep, List.map_cons, List.map_nil, GA, simprocAttr]; try rfl) ⟨by simp (disch := omega) only [RG48, EVA, plug, eq_self, simprocAttr] <;> rfl, by simp (disch := omega) only [RG48, EVA, plug, eq_self, simprocAttr] <;> rfl, by simp (disch := omega) only [RG48, EVA, plug, eq_self, simprocAttr] <;> rfl⟩ ?_)
 rintro k _ h hk ⟨hm, hm3, hm5⟩ ok pos
 by_cases klt : k < 5
 ·have klt' : (k : Int) < 5 := by omega
  have g0 := e5_get (F := x.M) klt
  have g1 := eZ_F s klt
  have g2 := eZ_T s klt
  have g5 : (e5 (nG s x (k + 1)))[k]? = some (.i .i64 (nG s x (k + 1) k)) := e5_get klt
  rw [show nG s x (k + 1) k = nd s x k from if_pos (by omega)] at g5
  have st := e5_set (s := s) (x := x) klt
  have b1 := hs1 k klt
  have b2 := hx1 k klt
  have b3 := ndB hs hx klt
  have b4 := nSB hs hx (k := k) hk
  have w1 : IntKind.i64.wrap (s.F k - x.M k) = s.F k - x.M k := wrap64 (by omega) (by omega)
  have w2 : IntKind.i64.wrap (x.M k - s.T k) = x.M k - s.T k := wrap64 (by omega) (by omega)
  have w3 : IntKind.i64.wrap (nS s x k + nd s x k) = nS s x k + nd s x k := wrap64 (by omega) (by omega)
  have dn : max (max (s.F k - x.M k) (x.M k - s.T k)) 0 = nd s x k := rfl
  repeat' first | (with_reducible first | refine k_seq ?_ | refine k_skip ?_ | refine k_blkS ?_ | refine k_blkR ?_ | refine k_blkC ?_ | refine k_blkH ?_ | refine k_blkB ?_ | refine k_blkK ?_ | refine k_blkE ?_ | refine k_reg ?_) | with_reducible refine k_head (by with_unfolding_all rfl) ?_ | with_reducible refine k_headS ?_ | (with_reducible refine SepK.mk ?_ ?_; (refine sepQ_P ?_; simp [sepQ, sepG, AOp.late, AOp.free, AOp.xs, AOp.isAl, tokNe, AV.tok, stS_get, strip, AX.val, RG48, GA]; try omega)) | with_reducible refine r_done ?_ | with_reducible refine hr_done ?_ | with_reducible refine s_go (by simp (disch := omega) only [klt', g0, g1, g2, g5, st, w1, w2, w3, dn, e5_len, hm, row_m hm, read_row (row_m hm), hm5, row_m hm5, read_row (row_m hm5), RG48, EVA, plug, eq_self, simprocAttr]; with_reducible rfl) ?_ | with_reducible refine h_go (by with_unfolding_all rfl) (by simp (disch := omega) only [klt', g0, g1, g2, g5, st, w1, w2, w3, dn, e5_len, hm, row_m hm, read_row (row_m hm), hm5, row_m hm5, read_row (row_m hm5), RG48, EVA, plug, eq_self, simprocAttr]; with_reducible rfl) ?_ | ((with_reducible refine chk_r ?_); refine r_callF (by simp only [CA, simprocAttr]; rfl) (by exact rfl) (by simp only [CA, simprocAttr]; rfl) rfl ?_) | ((with_reducible refine chk_h ?_); refine hr_callF (by simp only [CA, simprocAttr]; rfl) (by exact rfl) (by simp only [CA, simprocAttr]; rfl) rfl ?_) | ((with_reducible refine chk_h ?_); refine hr_app (by simp (disch := omega) only [klt', g0, g1, g2, g5, st, w1, w2, w3, dn, e5_len, hm, row_m hm, read_row (row_m hm), hm5, row_m hm5, read_row (row_m hm5), RG48, EVA, plug, eq_self, simprocAttr]; with_reducible rfl) rfl ?_) | (with_reducible refine k_condP (by simp only [GA, simprocAttr]; rfl) (by first | (simp only [BO]; rfl) | rfl) (fun ht => ?_) (fun ht => ?_) <;> try (first | exact False.elim ht | exact absurd rfl ht | exact absurd trivial ht | exact Bool.noConfusion ht)) | (with_reducible refine k_ret ?_; repeat with_reducible (first | refine ret_thru ?_ | refine ret_blk ?_ | refine fin ?_)) | (with_reducible refine k_exit ?_; repeat with_reducible (first | refine thru ?_ | refine out_blk ?_ | refine pass (by decide) ?_)) | ((first | refine post1 ?_ | refine post2 ?_ | refine post3 ?_); simp only [GA, simprocAttr]) | (refine postc (by simp only [GA, simprocAttr]; rfl) (by simp (disch := omega) only [klt', g0, g1, g2, g5, st, w1, w2, w3, dn, e5_len, hm, row_m hm, read_row (row_m hm), hm5, row_m hm5, read_row (row_m hm5), RG48, EVA, plug, eq_self, simprocAttr]; rfl) ?_) | (refine postct (by simp only [GA, simprocAttr]; rfl) (by simp (disch := omega) only [klt', g0, g1, g2, g5, st, w1, w2, w3, dn, e5_len, hm, row_m hm, read_row (row_m hm), hm5, row_m hm5, read_row (row_m hm5), RG48, EVA, plug, eq_self, simprocAttr]; rfl) ?_; simp only [GA, simprocAttr]) | refine post0 ?_
  exact ⟨klt, (), (by simp only [Am.keep, List.map_cons, List.map_nil, GA, simprocAttr]; try rfl), by simp (disch := omega) only [hm, RG48, EVA, plug, eq_self, simprocAttr], by simp (disch := omega) only [hm3, RG48, EVA, plug, eq_self, simprocAttr], by simp (disch := omega) only [st, RG48, EVA, plug, eq_self, simprocAttr]⟩
 ·obtain rfl : k = 5 := by omega
  have klt' : ¬ ((5 : Nat) : Int) < 5 := by omega
  repeat' first | (with_reducible first | refine k_seq ?_ | refine k_skip ?_ | refine k_blkS ?_ | refine k_blkR ?_ | refine k_blkC ?_ | refine k_blkH ?_ | refine k_blkB ?_ | refine k_blkK ?_ | refine k_blkE ?_ | refine k_reg ?_) | with_reducible refine k_head (by with_unfolding_all rfl) ?_ | with_reducible refine k_headS ?_ | (with_reducible refine SepK.mk ?_ ?_; (refine sepQ_P ?_; simp [sepQ, sepG, AOp.late, AOp.free, AOp.xs, AOp.isAl, tokNe, AV.tok, stS_get, strip, AX.val, RG48, GA]; try omega)) | with_reducible refine r_done ?_ | with_reducible refine hr_done ?_ | with_reducible refine s_go (by simp (disch := omega) only [klt', e5_rd, hm3, row_m hm3, read_row (row_m hm3), hm5, row_m hm5, read_row (row_m hm5), RG48, EVA, plug, eq_self, simprocAttr]; with_reducible rfl) ?_ | with_reducible refine h_go (by with_unfolding_all rfl) (by simp (disch := omega) only [klt', e5_rd, hm3, row_m hm3, read_row (row_m hm3), hm5, row_m hm5, read_row (row_m hm5), RG48, EVA, plug, eq_self, simprocAttr]; with_reducible rfl) ?_ | ((with_reducible refine chk_r ?_); refine r_callF (by simp only [CA, simprocAttr]; rfl) (by exact rfl) (by simp only [CA, simprocAttr]; rfl) rfl ?_) | ((with_reducible refine chk_h ?_); refine hr_callF (by simp only [CA, simprocAttr]; rfl) (by exact rfl) (by simp only [CA, simprocAttr]; rfl) rfl ?_) | ((with_reducible refine chk_h ?_); refine hr_app (by simp (disch := omega) only [klt', e5_rd, hm3, row_m hm3, read_row (row_m hm3), hm5, row_m hm5, read_row (row_m hm5), RG48, EVA, plug, eq_self, simprocAttr]; with_reducible rfl) rfl ?_) | (with_reducible refine k_condP (by simp only [GA, simprocAttr]; rfl) (by first | (simp only [BO]; rfl) | rfl) (fun ht => ?_) (fun ht => ?_) <;> try (first | exact False.elim ht | exact absurd rfl ht | exact absurd trivial ht | exact Bool.noConfusion ht)) | (with_reducible refine k_ret ?_; repeat with_reducible (first | refine ret_thru ?_ | refine ret_blk ?_ | refine fin ?_)) | (with_reducible refine k_exit ?_; repeat with_reducible (first | refine thru ?_ | refine out_blk ?_ | refine pass (by decide) ?_)) | ((first | refine post1 ?_ | refine post2 ?_ | refine post3 ?_); simp only [GA, simprocAttr]) | (refine postc (by simp only [GA, simprocAttr]; rfl) (by simp (disch := omega) only [klt', e5_rd, hm3, row_m hm3, read_row (row_m hm3), hm5, row_m hm5, read_row (row_m hm5), RG48, EVA, plug, eq_self, simprocAttr]; rfl) ?_) | (refine postct (by simp only [GA, simprocAttr]; rfl) (by simp (disch := omega) only [klt', e5_rd, hm3, row_m hm3, read_row (row_m hm3), hm5, row_m hm5, read_row (row_m hm5), RG48, EVA, plug, eq_self, simprocAttr]; rfl) ?_; simp only [GA, simprocAttr]) | refine post0 ?_
  all_goals first | exact ends_of | exact ends_eq rfl
def flt (s : Sz) (x : Hd) : Nat → List Int
 | 0 => []
 | k + 1 => if s.B k < nd s x k then flt s x k ++ [(k : Int)] else flt s x k
def fau (s : Sz) (x : Hd) : List Int := if s.t < nS s x 5 then flt s x 5 ++ [5] else flt s x 5
theorem flt_len (s : Sz) (x : Hd) : ∀ k, (flt s x k).length ≤ k
 | 0 => by simp [flt]
 | k + 1 => by
   have := flt_len s x k
   unfold flt
   split
   ·rw [List.length_append, List.length_singleton]; omega
   ·omega
theorem RG47 : (type_of% @c47r0.eq_1) ∧ (type_of% @c47r1.eq_1) ∧ (type_of% @c47r2.eq_1) ∧ (type_of% @c47r3.eq_1) ∧ (type_of% @c47r4.eq_1) ∧ (type_of% @c47r5.eq_1) ∧ (type_of% @c47r6.eq_1) ∧ (type_of% @c47r7.eq_1) ∧ (type_of% @c47r8.eq_1) ∧ (type_of% @c47r10.eq_1) ∧ (type_of% @c47r11.eq_1) ∧ (type_of% @c47r12.eq_1) := ⟨@c47r0.eq_1, @c47r1.eq_1, @c47r2.eq_1, @c47r3.eq_1, @c47r4.eq_1, @c47r5.eq_1, @c47r6.eq_1, @c47r7.eq_1, @c47r8.eq_1, @c47r10.eq_1, @c47r11.eq_1, @c47r12.eq_1⟩
theorem pc45 (s : Sz) (x : Hd) (hs : szOk s = true) (hx : hdOk x = true) : PC Tryd.prog 47 [.ag (eZ s), .ag (eH x)] (vi (fau s x)) := by
 have q42 := pc42 s x hs hx
 refine pc_fn fn47 (by simp only [AV.plains, AV.plain, il_plain, bl_plain, Bool.and_true, Bool.true_and, Bool.and_self]) (by simp only [AV.plains, AV.plain, il_plain, bl_plain, Bool.and_true, Bool.true_and, Bool.and_self]) (Nat.le_of_ble_eq_true rfl) ?_
 rw [initSt2]
 repeat' first | (with_reducible first | refine k_seq ?_ | refine k_skip ?_ | refine k_blkS ?_ | refine k_blkR ?_ | refine k_blkC ?_ | refine k_blkH ?_ | refine k_blkB ?_ | refine k_blkK ?_ | refine k_blkE ?_ | refine k_reg ?_) | with_reducible refine r_done ?_ | with_reducible refine s_go (by simp (disch := omega) only [eZ_rd, eH_rd, e5_rd, RG47, EVA, plug, eq_self, simprocAttr]; with_reducible rfl) ?_ | ((with_reducible refine chk_r ?_); refine r_callF (by simp only [CA, simprocAttr]; rfl) (by exact rfl) (by simp only [CA, simprocAttr]; rfl) rfl ?_) | ((with_reducible refine chk_r ?_); refine r_callP (by simp only [CA, simprocAttr]; rfl) (by simp only [CA, simprocAttr]; rfl) (by first | exact q42 _) rfl ?_) | (with_reducible refine k_condP (by simp only [GA, simprocAttr]; rfl) (by first | (simp only [BO]; rfl) | rfl) (fun ht => ?_) (fun ht => ?_) <;> try (first | exact False.elim ht | exact absurd rfl ht | exact absurd trivial ht | exact Bool.noConfusion ht)) | (with_reducible refine k_ret ?_; repeat with_reducible (first | refine ret_thru ?_ | refine ret_blk ?_ | refine fin ?_)) | (with_reducible refine k_exit ?_; repeat with_reducible (first | refine thru ?_ | refine out_blk ?_ | refine pass (by decide) ?_)) | ((first | refine post1 ?_ | refine post2 ?_ | refine post3 ?_); simp only [GA, simprocAttr]) | refine post0 ?_
 refine w_virt 1 5 rfl ?_
 refine k_blk (k_loopS (X := Nat) [2, 5, 7, 16, 17] 5 (fun k y => [(2, .p 1 0), (5, .sl y 0 (flt s x k).length 1), (7, .i .i64 (nS s x 5)), (16, .ag (e5 (nd s x))), (17, .i .i64 (k : Int))]) (fun k y h => h.m 1 = some (.cells true (eZ s)) ∧ y ≠ 0 ∧ y ≠ 1 ∧ h.m y = some (.cells true (il (flt s x k)))) _ (by simp only [Am.keep, List.map_cons, List.map_nil, GA, simprocAttr]; try rfl) ⟨by simp (disch := omega) only [RG47, EVA, plug, eq_self, simprocAttr] <;> rfl, ?_, ?_, by simp (disch := omega) only [RG47, EVA, plug, eq_self, simprocAttr] <;> rfl⟩ ?_)
 all_goals try (simp only [AH.bump_nx]; omega)
 rintro k y h hk ⟨hm, hy, hy1, hmy⟩ ok pos
 have ly := ok.m hmy
 have l1 := ok.m hm
 have len := flt_len s x k
 by_cases klt : k < 5
 ·have klt' : (k : Int) < 5 := by omega
  have g0 := e5_get (F := nd s x) klt
  have g1 := eZ_B s klt
  by_cases c : s.B k < nd s x k
  ·have c' := eq_true c
   have e : flt s x (k + 1) = flt s x k ++ [(k : Int)] := if_pos c
   repeat' first | (with_reducible first | refine k_seq ?_ | refine k_skip ?_ | refine k_blkS ?_ | refine k_blkR ?_ | refine k_blkC ?_ | refine k_blkH ?_ | refine k_blkB ?_ | refine k_blkK ?_ | refine k_blkE ?_ | refine k_reg ?_) | with_reducible refine r_done ?_ | with_reducible refine s_go (by simp (disch := omega) only [klt', g0, g1, c', hm, row_m hm, read_row (row_m hm), hmy, il_len, hy, RG47, EVA, plug, eq_self, simprocAttr]; with_reducible rfl) ?_ | ((with_reducible refine chk_r ?_); refine r_callF (by simp only [CA, simprocAttr]; rfl) (by exact rfl) (by simp only [CA, simprocAttr]; rfl) rfl ?_) | (with_reducible refine k_condP (by simp only [GA, simprocAttr]; rfl) (by first | (simp only [BO]; rfl) | rfl) (fun ht => ?_) (fun ht => ?_) <;> try (first | exact False.elim ht | exact absurd rfl ht | exact absurd trivial ht | exact Bool.noConfusion ht)) | (with_reducible refine k_ret ?_; repeat with_reducible (first | refine ret_thru ?_ | refine ret_blk ?_ | refine fin ?_)) | (with_reducible refine k_exit ?_; repeat with_reducible (first | refine thru ?_ | refine out_blk ?_ | refine pass (by decide) ?_)) | ((first | refine post1 ?_ | refine post2 ?_ | refine post3 ?_); simp only [GA, simprocAttr]) | refine post0 ?_
   rw [e]
   refine ⟨klt, ?tk, ?g1, ?g2, ?g3, ?g4, ?g5⟩
   case g1 =>
    simp only [Am.keep, List.map_cons, List.map_nil, GA, Nat.reduceEqDiff, ↓reduceIte, List.length_append, List.length_cons, List.length_nil, Nat.zero_add]
    rfl
   case g2 => simp (disch := omega) only [hm, RG47, EVA, plug, eq_self, simprocAttr]
   case g3 => omega
   case g4 => omega
   case g5 => simp (disch := omega) only [RG47, EVA, plug, eq_self, simprocAttr] <;> rfl
  ·have c' := eq_false c
   have e : flt s x (k + 1) = flt s x k := if_neg c
   repeat' first | (with_reducible first | refine k_seq ?_ | refine k_skip ?_ | refine k_blkS ?_ | refine k_blkR ?_ | refine k_blkC ?_ | refine k_blkH ?_ | refine k_blkB ?_ | refine k_blkK ?_ | refine k_blkE ?_ | refine k_reg ?_) | with_reducible refine r_done ?_ | with_reducible refine s_go (by simp (disch := omega) only [klt', g0, g1, c', hm, row_m hm, read_row (row_m hm), RG47, EVA, plug, eq_self, simprocAttr]; with_reducible rfl) ?_ | ((with_reducible refine chk_r ?_); refine r_callF (by simp only [CA, simprocAttr]; rfl) (by exact rfl) (by simp only [CA, simprocAttr]; rfl) rfl ?_) | (with_reducible refine k_condP (by simp only [GA, simprocAttr]; rfl) (by first | (simp only [BO]; rfl) | rfl) (fun ht => ?_) (fun ht => ?_) <;> try (first | exact False.elim ht | exact absurd rfl ht | exact absurd trivial ht | exact Bool.noConfusion ht)) | (with_reducible refine k_ret ?_; repeat with_reducible (first | refine ret_thru ?_ | refine ret_blk ?_ | refine fin ?_)) | (with_reducible refine k_exit ?_; repeat with_reducible (first | refine thru ?_ | refine out_blk ?_ | refine pass (by decide) ?_)) | ((first | refine post1 ?_ | refine post2 ?_ | refine post3 ?_); simp only [GA, simprocAttr]) | refine post0 ?_
   rw [e]
   exact ⟨klt, y, (by simp only [Am.keep, List.map_cons, List.map_nil, GA, simprocAttr]; try rfl), by simp (disch := omega) only [hm, RG47, EVA, plug, eq_self, simprocAttr], hy, hy1, by simp (disch := omega) only [hmy, RG47, EVA, plug, eq_self, simprocAttr]⟩
 ·obtain rfl : k = 5 := by omega
  have klt' : ¬ ((5 : Nat) : Int) < 5 := by omega
  unfold fau
  by_cases c : s.t < nS s x 5
  ·have c' := eq_true c
   rw [if_pos c]
   repeat' first | (with_reducible first | refine k_seq ?_ | refine k_skip ?_ | refine k_blkS ?_ | refine k_blkR ?_ | refine k_blkC ?_ | refine k_blkH ?_ | refine k_blkB ?_ | refine k_blkK ?_ | refine k_blkE ?_ | refine k_reg ?_) | with_reducible refine r_done ?_ | with_reducible refine s_go (by simp (disch := omega) only [klt', c', eZ_rt, hm, row_m hm, read_row (row_m hm), hmy, il_len, hy, RG47, EVA, plug, eq_self, simprocAttr]; with_reducible rfl) ?_ | ((with_reducible refine chk_r ?_); refine r_callF (by simp only [CA, simprocAttr]; rfl) (by exact rfl) (by simp only [CA, simprocAttr]; rfl) rfl ?_) | (with_reducible refine k_condP (by simp only [GA, simprocAttr]; rfl) (by first | (simp only [BO]; rfl) | rfl) (fun ht => ?_) (fun ht => ?_) <;> try (first | exact False.elim ht | exact absurd rfl ht | exact absurd trivial ht | exact Bool.noConfusion ht)) | (with_reducible refine k_ret ?_; repeat with_reducible (first | refine ret_thru ?_ | refine ret_blk ?_ | refine fin ?_)) | (with_reducible refine k_exit ?_; repeat with_reducible (first | refine thru ?_ | refine out_blk ?_ | refine pass (by decide) ?_)) | ((first | refine post1 ?_ | refine post2 ?_ | refine post3 ?_); simp only [GA, simprocAttr]) | refine post0 ?_
   rw [show (flt s x 5).length + 1 = (flt s x 5 ++ [(5 : Int)]).length by simp]
   exact ends_sl (k := 1) (cs := il (flt s x 5 ++ [5])) (by simp (disch := omega) only [RG47, EVA, plug, eq_self, simprocAttr] <;> rfl) (by rw [il_len, Nat.mul_one, List.length_append, List.length_singleton])
  ·have c' := eq_false c
   rw [if_neg c]
   repeat' first | (with_reducible first | refine k_seq ?_ | refine k_skip ?_ | refine k_blkS ?_ | refine k_blkR ?_ | refine k_blkC ?_ | refine k_blkH ?_ | refine k_blkB ?_ | refine k_blkK ?_ | refine k_blkE ?_ | refine k_reg ?_) | with_reducible refine r_done ?_ | with_reducible refine s_go (by simp (disch := omega) only [klt', c', eZ_rt, hm, row_m hm, read_row (row_m hm), hmy, il_len, RG47, EVA, plug, eq_self, simprocAttr]; with_reducible rfl) ?_ | ((with_reducible refine chk_r ?_); refine r_callF (by simp only [CA, simprocAttr]; rfl) (by exact rfl) (by simp only [CA, simprocAttr]; rfl) rfl ?_) | (with_reducible refine k_condP (by simp only [GA, simprocAttr]; rfl) (by first | (simp only [BO]; rfl) | rfl) (fun ht => ?_) (fun ht => ?_) <;> try (first | exact False.elim ht | exact absurd rfl ht | exact absurd trivial ht | exact Bool.noConfusion ht)) | (with_reducible refine k_ret ?_; repeat with_reducible (first | refine ret_thru ?_ | refine ret_blk ?_ | refine fin ?_)) | (with_reducible refine k_exit ?_; repeat with_reducible (first | refine thru ?_ | refine out_blk ?_ | refine pass (by decide) ?_)) | ((first | refine post1 ?_ | refine post2 ?_ | refine post3 ?_); simp only [GA, simprocAttr]) | refine post0 ?_
   exact ends_sl (k := 1) (cs := il (flt s x 5)) (by simp (disch := omega) only [hmy, RG47, EVA, plug, eq_self, simprocAttr]) (by rw [il_len, Nat.mul_one])
theorem RG71 : (type_of% @c71r0.eq_1) ∧ (type_of% @c71r1.eq_1) ∧ (type_of% @c71r2.eq_1) ∧ (type_of% @c71r3.eq_1) ∧ (type_of% @c71r4.eq_1) ∧ (type_of% @c71r5.eq_1) ∧ (type_of% @c71r6.eq_1) ∧ (type_of% @c71r7.eq_1) ∧ (type_of% @c71r8.eq_1) ∧ (type_of% @c71r10.eq_1) ∧ (type_of% @c71r11.eq_1) ∧ (type_of% @c71r12.eq_1) := ⟨@c71r0.eq_1, @c71r1.eq_1, @c71r2.eq_1, @c71r3.eq_1, @c71r4.eq_1, @c71r5.eq_1, @c71r6.eq_1, @c71r7.eq_1, @c71r8.eq_1, @c71r10.eq_1, @c71r11.eq_1, @c71r12.eq_1⟩
theorem pc46 (s : Sz) (x : Hd) (hs : szOk s = true) (hx : hdOk x = true) : PC Tryd.prog 71 [.ag (eZ s), .ag (eH x)] (vi (fau s x)) := by
 have q44 := pc44 s x hs hx
 refine pc_fn fn71 (by simp only [AV.plains, AV.plain, il_plain, bl_plain, Bool.and_true, Bool.true_and, Bool.and_self]) (by simp only [AV.plains, AV.plain, il_plain, bl_plain, Bool.and_true, Bool.true_and, Bool.and_self]) (Nat.le_of_ble_eq_true rfl) ?_
 rw [initSt2]
 repeat' first | (with_reducible first | refine k_seq ?_ | refine k_skip ?_ | refine k_blkS ?_ | refine k_blkR ?_ | refine k_blkC ?_ | refine k_blkH ?_ | refine k_blkB ?_ | refine k_blkK ?_ | refine k_blkE ?_ | refine k_reg ?_) | with_reducible refine k_head (by with_unfolding_all rfl) ?_ | with_reducible refine k_headS ?_ | (with_reducible refine SepK.mk ?_ ?_; (refine sepQ_P ?_; simp [sepQ, sepG, AOp.late, AOp.free, AOp.xs, AOp.isAl, tokNe, AV.tok, stS_get, strip, AX.val, RG71, GA]; try omega)) | with_reducible refine r_done ?_ | with_reducible refine hr_done ?_ | with_reducible refine s_go (by simp (disch := omega) only [eZ_rd, eH_rd, e5_rd, RG71, EVA, plug, eq_self, simprocAttr]; with_reducible rfl) ?_ | with_reducible refine h_go (by with_unfolding_all rfl) (by simp (disch := omega) only [eZ_rd, eH_rd, e5_rd, RG71, EVA, plug, eq_self, simprocAttr]; with_reducible rfl) ?_ | ((with_reducible refine chk_r ?_); refine r_callF (by simp only [CA, simprocAttr]; rfl) (by exact rfl) (by simp only [CA, simprocAttr]; rfl) rfl ?_) | ((with_reducible refine chk_h ?_); refine hr_callF (by simp only [CA, simprocAttr]; rfl) (by exact rfl) (by simp only [CA, simprocAttr]; rfl) rfl ?_) | ((with_reducible refine chk_r ?_); refine r_callP (by simp only [CA, simprocAttr]; rfl) (by simp only [CA, simprocAttr]; rfl) (by first | exact q44 _) rfl ?_) | ((with_reducible refine chk_h ?_); refine hr_callP (by simp only [CA, simprocAttr]; rfl) (by simp only [CA, simprocAttr]; rfl) (by first | exact q44 _) rfl ?_) | ((with_reducible refine chk_h ?_); refine hr_callP1 (by simp only [CA, simprocAttr]; rfl) (by simp only [CA, simprocAttr]; rfl) (by simp (disch := omega) only [CA, Nat.reduceEqDiff, ↓reduceIte, firstTok_nil, firstTok_sl, firstTok_sl0, firstTok_i, firstTok_b, firstTok_ag, firstTok_p, firstTok_s]; rfl) (by first | exact q44 _) rfl ?_) | ((with_reducible refine chk_h ?_); refine hr_app (by simp (disch := omega) only [eZ_rd, eH_rd, e5_rd, RG71, EVA, plug, eq_self, simprocAttr]; with_reducible rfl) rfl ?_) | (with_reducible refine k_condP (by simp only [GA, simprocAttr]; rfl) (by first | (simp only [BO]; rfl) | rfl) (fun ht => ?_) (fun ht => ?_) <;> try (first | exact False.elim ht | exact absurd rfl ht | exact absurd trivial ht | exact Bool.noConfusion ht)) | (with_reducible refine k_ret ?_; repeat with_reducible (first | refine ret_thru ?_ | refine ret_blk ?_ | refine fin ?_)) | (with_reducible refine k_exit ?_; repeat with_reducible (first | refine thru ?_ | refine out_blk ?_ | refine pass (by decide) ?_)) | ((first | refine post1 ?_ | refine post2 ?_ | refine post3 ?_); simp only [GA, simprocAttr]) | refine post0 ?_
 refine w_virt 1 5 rfl ?_
 refine k_blk (k_loopS (X := Nat) [2, 5, 6, 7, 15] 5 (fun k y => [(2, .p 1 0), (5, .sl y 0 (flt s x k).length 1), (6, .p 11 0), (7, .i .i64 (nS s x 5)), (15, .i .i64 (k : Int))]) (fun k y h => h.m 1 = some (.cells true (eZ s)) ∧ h.m 11 = some (.cells true (e5 (nd s x))) ∧ y ≠ 11 ∧ y ≠ 0 ∧ y ≠ 1 ∧ h.m y = some (.cells true (il (flt s x k)))) _ (by simp only [Am.keep, List.map_cons, List.map_nil, GA, simprocAttr]; try rfl) ⟨by simp (disch := omega) only [RG71, EVA, plug, eq_self, simprocAttr] <;> rfl, by simp (disch := omega) only [RG71, EVA, plug, eq_self, simprocAttr] <;> rfl, ?_, ?_, ?_, by simp (disch := omega) only [RG71, EVA, plug, eq_self, simprocAttr] <;> rfl⟩ ?_)
 all_goals try (simp only [AH.bump_nx]; omega)
 all_goals try first | exact fun k => absurd (show (15 : Nat) = 11 from k) (by decide) | exact fun k => absurd (show (15 : Nat) = 1 from k) (by decide)
 rintro k y h hk ⟨hm, hmT, hyT, hy, hy1, hmy⟩ ok pos
 have ly := ok.m hmy
 have l1 := ok.m hm
 have lT := ok.m hmT
 have len := flt_len s x k
 by_cases klt : k < 5
 ·have klt' : (k : Int) < 5 := by omega
  have g0 : (e5 (nd s x))[k]? = some (.i .i64 (nd s x k)) := e5_get klt
  have g1 := eZ_B s klt
  by_cases c : s.B k < nd s x k
  ·have c' := eq_true c
   have e : flt s x (k + 1) = flt s x k ++ [(k : Int)] := if_pos c
   repeat' first | (with_reducible first | refine k_seq ?_ | refine k_skip ?_ | refine k_blkS ?_ | refine k_blkR ?_ | refine k_blkC ?_ | refine k_blkH ?_ | refine k_blkB ?_ | refine k_blkK ?_ | refine k_blkE ?_ | refine k_reg ?_) | with_reducible refine k_head (by with_unfolding_all rfl) ?_ | with_reducible refine k_headS ?_ | (with_reducible refine SepK.mk ?_ ?_; (refine sepQ_P ?_; simp [sepQ, sepG, AOp.late, AOp.free, AOp.xs, AOp.isAl, tokNe, AV.tok, stS_get, strip, AX.val, RG71, GA]; try omega)) | with_reducible refine r_done ?_ | with_reducible refine hr_done ?_ | with_reducible refine s_go (by simp (disch := omega) only [klt', g0, g1, c', hm, row_m hm, read_row (row_m hm), hmT, row_m hmT, read_row (row_m hmT), hmy, il_len, hy, RG71, EVA, plug, eq_self, simprocAttr]; with_reducible rfl) ?_ | with_reducible refine h_go (by with_unfolding_all rfl) (by simp (disch := omega) only [klt', g0, g1, c', hm, row_m hm, read_row (row_m hm), hmT, row_m hmT, read_row (row_m hmT), hmy, il_len, hy, RG71, EVA, plug, eq_self, simprocAttr]; with_reducible rfl) ?_ | ((with_reducible refine chk_r ?_); refine r_callF (by simp only [CA, simprocAttr]; rfl) (by exact rfl) (by simp only [CA, simprocAttr]; rfl) rfl ?_) | ((with_reducible refine chk_h ?_); refine hr_callF (by simp only [CA, simprocAttr]; rfl) (by exact rfl) (by simp only [CA, simprocAttr]; rfl) rfl ?_) | ((with_reducible refine chk_h ?_); refine hr_app (by simp (disch := omega) only [klt', g0, g1, c', hm, row_m hm, read_row (row_m hm), hmT, row_m hmT, read_row (row_m hmT), hmy, il_len, hy, RG71, EVA, plug, eq_self, simprocAttr]; with_reducible rfl) rfl ?_) | (with_reducible refine k_condP (by simp only [GA, simprocAttr]; rfl) (by first | (simp only [BO]; rfl) | rfl) (fun ht => ?_) (fun ht => ?_) <;> try (first | exact False.elim ht | exact absurd rfl ht | exact absurd trivial ht | exact Bool.noConfusion ht)) | (with_reducible refine k_ret ?_; repeat with_reducible (first | refine ret_thru ?_ | refine ret_blk ?_ | refine fin ?_)) | (with_reducible refine k_exit ?_; repeat with_reducible (first | refine thru ?_ | refine out_blk ?_ | refine pass (by decide) ?_)) | ((first | refine post1 ?_ | refine post2 ?_ | refine post3 ?_); simp only [GA, simprocAttr]) | refine post0 ?_
   rw [e]
   refine ⟨klt, ?tk, ?g1, ?g2, ?g2b, ?g2c, ?g3, ?g4, ?g5⟩
   case g1 =>
    simp only [Am.keep, List.map_cons, List.map_nil, GA, Nat.reduceEqDiff, ↓reduceIte, List.length_append, List.length_cons, List.length_nil, Nat.zero_add]
    rfl
   case g2 => simp (disch := omega) only [hm, RG71, EVA, plug, eq_self, simprocAttr]
   case g2b => simp (disch := omega) only [hmT, RG71, EVA, plug, eq_self, simprocAttr]
   case g2c => omega
   case g3 => omega
   case g4 => omega
   case g5 => simp (disch := omega) only [RG71, EVA, plug, eq_self, simprocAttr] <;> rfl
  ·have c' := eq_false c
   have e : flt s x (k + 1) = flt s x k := if_neg c
   repeat' first | (with_reducible first | refine k_seq ?_ | refine k_skip ?_ | refine k_blkS ?_ | refine k_blkR ?_ | refine k_blkC ?_ | refine k_blkH ?_ | refine k_blkB ?_ | refine k_blkK ?_ | refine k_blkE ?_ | refine k_reg ?_) | with_reducible refine k_head (by with_unfolding_all rfl) ?_ | with_reducible refine k_headS ?_ | (with_reducible refine SepK.mk ?_ ?_; (refine sepQ_P ?_; simp [sepQ, sepG, AOp.late, AOp.free, AOp.xs, AOp.isAl, tokNe, AV.tok, stS_get, strip, AX.val, RG71, GA]; try omega)) | with_reducible refine r_done ?_ | with_reducible refine hr_done ?_ | with_reducible refine s_go (by simp (disch := omega) only [klt', g0, g1, c', hm, row_m hm, read_row (row_m hm), hmT, row_m hmT, read_row (row_m hmT), RG71, EVA, plug, eq_self, simprocAttr]; with_reducible rfl) ?_ | with_reducible refine h_go (by with_unfolding_all rfl) (by simp (disch := omega) only [klt', g0, g1, c', hm, row_m hm, read_row (row_m hm), hmT, row_m hmT, read_row (row_m hmT), RG71, EVA, plug, eq_self, simprocAttr]; with_reducible rfl) ?_ | ((with_reducible refine chk_r ?_); refine r_callF (by simp only [CA, simprocAttr]; rfl) (by exact rfl) (by simp only [CA, simprocAttr]; rfl) rfl ?_) | ((with_reducible refine chk_h ?_); refine hr_callF (by simp only [CA, simprocAttr]; rfl) (by exact rfl) (by simp only [CA, simprocAttr]; rfl) rfl ?_) | ((with_reducible refine chk_h ?_); refine hr_app (by simp (disch := omega) only [klt', g0, g1, c', hm, row_m hm, read_row (row_m hm), hmT, row_m hmT, read_row (row_m hmT), RG71, EVA, plug, eq_self, simprocAttr]; with_reducible rfl) rfl ?_) | (with_reducible refine k_condP (by simp only [GA, simprocAttr]; rfl) (by first | (simp only [BO]; rfl) | rfl) (fun ht => ?_) (fun ht => ?_) <;> try (first | exact False.elim ht | exact absurd rfl ht | exact absurd trivial ht | exact Bool.noConfusion ht)) | (with_reducible refine k_ret ?_; repeat with_reducible (first | refine ret_thru ?_ | refine ret_blk ?_ | refine fin ?_)) | (with_reducible refine k_exit ?_; repeat with_reducible (first | refine thru ?_ | refine out_blk ?_ | refine pass (by decide) ?_)) | ((first | refine post1 ?_ | refine post2 ?_ | refine post3 ?_); simp only [GA, simprocAttr]) | refine post0 ?_
   rw [e]
   exact ⟨klt, y, (by simp only [Am.keep, List.map_cons, List.map_nil, GA, simprocAttr]; try rfl), by simp (disch := omega) only [hm, RG71, EVA, plug, eq_self, simprocAttr], by simp (disch := omega) only [hmT, RG71, EVA, plug, eq_self, simprocAttr], hyT, hy, hy1, by simp (disch := omega) only [hmy, RG71, EVA, plug, eq_self, simprocAttr]⟩
 ·obtain rfl : k = 5 := by omega
  have klt' : ¬ ((5 : Nat) : Int) < 5 := by omega
  unfold fau
  by_cases c : s.t < nS s x 5
  ·have c' := eq_true c
   rw [if_pos c]
   repeat' first | (with_reducible first | refine k_seq ?_ | refine k_skip ?_ | refine k_blkS ?_ | refine k_blkR ?_ | refine k_blkC ?_ | refine k_blkH ?_ | refine k_blkB ?_ | refine k_blkK ?_ | refine k_blkE ?_ | refine k_reg ?_) | with_reducible refine k_head (by with_unfolding_all rfl) ?_ | with_reducible refine k_headS ?_ | (with_reducible refine SepK.mk ?_ ?_; (refine sepQ_P ?_; simp [sepQ, sepG, AOp.late, AOp.free, AOp.xs, AOp.isAl, tokNe, AV.tok, stS_get, strip, AX.val, RG71, GA]; try omega)) | with_reducible refine r_done ?_ | with_reducible refine hr_done ?_ | with_reducible refine s_go (by simp (disch := omega) only [klt', c', eZ_rt, hm, row_m hm, read_row (row_m hm), hmT, row_m hmT, read_row (row_m hmT), hmy, il_len, hy, RG71, EVA, plug, eq_self, simprocAttr]; with_reducible rfl) ?_ | with_reducible refine h_go (by with_unfolding_all rfl) (by simp (disch := omega) only [klt', c', eZ_rt, hm, row_m hm, read_row (row_m hm), hmT, row_m hmT, read_row (row_m hmT), hmy, il_len, hy, RG71, EVA, plug, eq_self, simprocAttr]; with_reducible rfl) ?_ | ((with_reducible refine chk_r ?_); refine r_callF (by simp only [CA, simprocAttr]; rfl) (by exact rfl) (by simp only [CA, simprocAttr]; rfl) rfl ?_) | ((with_reducible refine chk_h ?_); refine hr_callF (by simp only [CA, simprocAttr]; rfl) (by exact rfl) (by simp only [CA, simprocAttr]; rfl) rfl ?_) | ((with_reducible refine chk_h ?_); refine hr_app (by simp (disch := omega) only [klt', c', eZ_rt, hm, row_m hm, read_row (row_m hm), hmT, row_m hmT, read_row (row_m hmT), hmy, il_len, hy, RG71, EVA, plug, eq_self, simprocAttr]; with_reducible rfl) rfl ?_) | (with_reducible refine k_condP (by simp only [GA, simprocAttr]; rfl) (by first | (simp only [BO]; rfl) | rfl) (fun ht => ?_) (fun ht => ?_) <;> try (first | exact False.elim ht | exact absurd rfl ht | exact absurd trivial ht | exact Bool.noConfusion ht)) | (with_reducible refine k_ret ?_; repeat with_reducible (first | refine ret_thru ?_ | refine ret_blk ?_ | refine fin ?_)) | (with_reducible refine k_exit ?_; repeat with_reducible (first | refine thru ?_ | refine out_blk ?_ | refine pass (by decide) ?_)) | ((first | refine post1 ?_ | refine post2 ?_ | refine post3 ?_); simp only [GA, simprocAttr]) | refine post0 ?_
   rw [show (flt s x 5).length + 1 = (flt s x 5 ++ [(5 : Int)]).length by simp]
   exact ends_sl (k := 1) (cs := il (flt s x 5 ++ [5])) (by simp (disch := omega) only [RG71, EVA, plug, eq_self, simprocAttr] <;> rfl) (by rw [il_len, Nat.mul_one, List.length_append, List.length_singleton])
  ·have c' := eq_false c
   rw [if_neg c]
   repeat' first | (with_reducible first | refine k_seq ?_ | refine k_skip ?_ | refine k_blkS ?_ | refine k_blkR ?_ | refine k_blkC ?_ | refine k_blkH ?_ | refine k_blkB ?_ | refine k_blkK ?_ | refine k_blkE ?_ | refine k_reg ?_) | with_reducible refine k_head (by with_unfolding_all rfl) ?_ | with_reducible refine k_headS ?_ | (with_reducible refine SepK.mk ?_ ?_; (refine sepQ_P ?_; simp [sepQ, sepG, AOp.late, AOp.free, AOp.xs, AOp.isAl, tokNe, AV.tok, stS_get, strip, AX.val, RG71, GA]; try omega)) | with_reducible refine r_done ?_ | with_reducible refine hr_done ?_ | with_reducible refine s_go (by simp (disch := omega) only [klt', c', eZ_rt, hm, row_m hm, read_row (row_m hm), hmT, row_m hmT, read_row (row_m hmT), hmy, il_len, RG71, EVA, plug, eq_self, simprocAttr]; with_reducible rfl) ?_ | with_reducible refine h_go (by with_unfolding_all rfl) (by simp (disch := omega) only [klt', c', eZ_rt, hm, row_m hm, read_row (row_m hm), hmT, row_m hmT, read_row (row_m hmT), hmy, il_len, RG71, EVA, plug, eq_self, simprocAttr]; with_reducible rfl) ?_ | ((with_reducible refine chk_r ?_); refine r_callF (by simp only [CA, simprocAttr]; rfl) (by exact rfl) (by simp only [CA, simprocAttr]; rfl) rfl ?_) | ((with_reducible refine chk_h ?_); refine hr_callF (by simp only [CA, simprocAttr]; rfl) (by exact rfl) (by simp only [CA, simprocAttr]; rfl) rfl ?_) | ((with_reducible refine chk_h ?_); refine hr_app (by simp (disch := omega) only [klt', c', eZ_rt, hm, row_m hm, read_row (row_m hm), hmT, row_m hmT, read_row (row_m hmT), hmy, il_len, RG71, EVA, plug, eq_self, simprocAttr]; with_reducible rfl) rfl ?_) | (with_reducible refine k_condP (by simp only [GA, simprocAttr]; rfl) (by first | (simp only [BO]; rfl) | rfl) (fun ht => ?_) (fun ht => ?_) <;> try (first | exact False.elim ht | exact absurd rfl ht | exact absurd trivial ht | exact Bool.noConfusion ht)) | (with_reducible refine k_ret ?_; repeat with_reducible (first | refine ret_thru ?_ | refine ret_blk ?_ | refine fin ?_)) | (with_reducible refine k_exit ?_; repeat with_reducible (first | refine thru ?_ | refine out_blk ?_ | refine pass (by decide) ?_)) | ((first | refine post1 ?_ | refine post2 ?_ | refine post3 ?_); simp only [GA, simprocAttr]) | refine post0 ?_
   exact ends_sl (k := 1) (cs := il (flt s x 5)) (by simp (disch := omega) only [hmy, RG71, EVA, plug, eq_self, simprocAttr]) (by rw [il_len, Nat.mul_one])
end Go.Proofs.YtjaihaccehaicaaDoor
set_option linter.unusedVariables false
set_option linter.unusedSimpArgs false
namespace Go.Proofs.YtjaihaccehaicaaDoor
open Go Go.Am Go.Proofs
theorem toNat_64 {x : Nat} (h : x < 2 ^ 64) : (BitVec.ofInt 64 (x : Int)).toNat = x := by
 rw [BitVec.toNat_ofInt]
 omega
theorem wrapN {x : Nat} (h : x < 2 ^ 64) : IntKind.u64.wrap (x : Int) = x := wrapu64 (by omega) (by omega)
theorem or_64 {x y : Nat} (hx : x < 2 ^ 64) (hy : y < 2 ^ 64) : abits .or .u64 (x : Int) (y : Int) = ((x ||| y : Nat) : Int) := by
 have e : (BitVec.ofInt 64 (x : Int) ||| BitVec.ofInt 64 (y : Int)).toNat = x ||| y := by rw [BitVec.toNat_or, toNat_64 hx, toNat_64 hy]
 show IntKind.u64.wrap ((BitVec.ofInt 64 (x : Int) ||| BitVec.ofInt 64 (y : Int)).toNat : Int) = _
 rw [e]
 exact wrapN (Nat.or_lt_two_pow hx hy)
theorem and_64 {x y : Nat} (hx : x < 2 ^ 64) (hy : y < 2 ^ 64) : abits .and .u64 (x : Int) (y : Int) = ((x &&& y : Nat) : Int) := by
 have e : (BitVec.ofInt 64 (x : Int) &&& BitVec.ofInt 64 (y : Int)).toNat = x &&& y := by rw [BitVec.toNat_and, toNat_64 hx, toNat_64 hy]
 show IntKind.u64.wrap ((BitVec.ofInt 64 (x : Int) &&& BitVec.ofInt 64 (y : Int)).toNat : Int) = _
 rw [e]
 exact wrapN (Nat.and_lt_two_pow _ hy)
theorem shl_64 {k : Nat} (h : k < 64) : IntKind.u64.wrap (1 * 2 ^ (min k IntKind.u64.bits)) = ((2 ^ k : Nat) : Int) := by
 have e : min k IntKind.u64.bits = k := Nat.min_eq_left (by show k ≤ 64; omega)
 rw [e, Int.one_mul]
 have := wrapN (x := 2 ^ k) (Nat.pow_lt_pow_right (by omega) h)
 rw [Int.natCast_pow] at this ⊢
 exact this
theorem shr_64 (x k : Nat) (h : k ≤ 64) : (x : Int).fdiv (2 ^ (min k IntKind.u64.bits)) = ((x / 2 ^ k : Nat) : Int) := by
 have e : min k IntKind.u64.bits = k := Nat.min_eq_left h
 rw [e, Int.fdiv_eq_ediv_of_nonneg _ (Int.pow_nonneg (by decide))]
 rw [Int.natCast_ediv, Int.natCast_pow]
 rfl
def popA : Nat → Nat → Nat
 | 0, _ => 0
 | n + 1, x => x % 2 + popA n (x / 2)
def val : List Nat → Nat
 | [] => 0
 | b :: bs => b + 256 * val bs
def F1 (m x : Nat) : Nat := (x / 2 &&& m) + (x &&& m)
def F2 (m x : Nat) : Nat := (x / 4 &&& m) + (x &&& m)
def F3 (m x : Nat) : Nat := (x / 16 + x) &&& m
theorem b1 : ∀ a : Fin 256, ∀ t : Fin 2, (a.val / 2 + 128 * t.val) &&& 0x55 = (a.val / 2) &&& 0x55 := by decide +kernel
theorem b2 : ∀ a : Fin 256, ∀ t : Fin 4, (a.val / 4 + 64 * t.val) &&& 0x33 = (a.val / 4) &&& 0x33 := by decide +kernel
theorem b3 : ∀ a : Fin 69, ∀ t : Fin 5, (a.val / 16 + 16 * t.val + a.val) &&& 0x0f = F3 0x0f a.val := by decide +kernel
theorem c1 : ∀ a : Fin 256, F1 0x55 a.val < 256 ∧ F2 0x33 (F1 0x55 a.val) < 69 ∧ F2 0x33 (F1 0x55 a.val) % 16 < 5 ∧ F3 0x0f (F2 0x33 (F1 0x55 a.val)) = popA 8 a.val := by decide +kernel
def bytes (x : Nat) : List Nat := [x % 256, x / 256 % 256, x / 65536 % 256, x / 16777216 % 256, x / 4294967296 % 256, x / 1099511627776 % 256, x / 281474976710656 % 256, x / 72057594037927936 % 256]
end Go.Proofs.YtjaihaccehaicaaDoor
set_option linter.unusedVariables false
set_option linter.unusedSimpArgs false
namespace Go.Proofs.YtjaihaccehaicaaDoor
open Go Go.Am Go.Proofs
theorem pop_one : ∀ {m x : Nat}, 0 < popA m x ↔ ∃ i, i < m ∧ x.testBit i = true
 | 0, x => by simp [popA]
 | m + 1, x => by
   have ih := pop_one (m := m) (x := x / 2)
   rw [popA]
   constructor
   ·intro h
    by_cases c : x % 2 = 1
    ·exact ⟨0, by omega, by rw [Nat.testBit_zero]; exact decide_eq_true c⟩
    ·obtain ⟨i, hi, q⟩ := ih.1 (by omega)
     exact ⟨i + 1, by omega, by rw [Nat.testBit_succ]; exact q⟩
   ·rintro ⟨i, hi, q⟩
    cases i with
    | zero => rw [Nat.testBit_zero, decide_eq_true_eq] at q; omega
    | succ i =>
      rw [Nat.testBit_succ] at q
      have := ih.2 ⟨i, by omega, q⟩
      omega
def sv (p : Nat → Bool) : Nat → Nat
 | 0 => 0
 | k + 1 => if p k then sv p k ||| 2 ^ k else sv p k
theorem sv_bit {p : Nat → Bool} : ∀ {k i : Nat}, (sv p k).testBit i = (decide (i < k) && p i)
 | 0, i => by simp [sv]
 | k + 1, i => by
   have ih := sv_bit (p := p) (k := k) (i := i)
   unfold sv
   by_cases e : i = k
   ·subst e
    cases c : p i with
    | true => simp [Nat.testBit_or, Nat.testBit_two_pow]
    | false => simp [ih]
   ·have e1 : decide (i < k + 1) = decide (i < k) := by rw [Bool.eq_iff_iff]; simp; omega
    have e2 : ¬ k = i := fun q => e q.symm
    split <;> simp [Nat.testBit_or, Nat.testBit_two_pow, ih, e1, e2]
theorem sv_lt {p : Nat → Bool} {k : Nat} : sv p k < 2 ^ k := Nat.lt_pow_two_of_testBit _ fun i hi => by
 rw [sv_bit, decide_eq_false (by omega), Bool.false_and]
theorem lt_64 {x k : Nat} (h : x < 2 ^ k) (hk : k ≤ 40) : x < 2 ^ 64 := Nat.lt_of_lt_of_le h (Nat.pow_le_pow_right (by omega) (by omega))
theorem pow_64 {k : Nat} (hk : k < 40) : 2 ^ k < 2 ^ 64 := Nat.pow_lt_pow_right (by omega) (by omega)
def nu (l : List Nat) : List AV := l.map fun x : Nat => .i .u64 (x : Int)
theorem nu_len (l : List Nat) : (nu l).length = l.length := by simp [nu]
theorem nu_get {l : List Nat} {j : Nat} (h : j < l.length) : (nu l)[j]? = some (.i .u64 ((l.getD j 0 : Nat) : Int)) := by simp [nu, h]
theorem nu_set (l : List Nat) (j : Nat) (x : Nat) : (nu l).set j (.i .u64 (x : Int)) = nu (l.set j x) := by simp [nu]
theorem nu_rep (n : Nat) : (List.replicate n [AV.i .u64 0]).flatten = nu (List.replicate n 0) := by
 induction n with
 | zero => rfl
 | succ n ih => rw [List.replicate_succ, List.flatten_cons, ih, List.replicate_succ]; rfl
theorem nu_plain (l : List Nat) : AV.plains (nu l) = true := plains_all fun x hx => by
 simp only [nu, List.mem_map] at hx
 obtain ⟨n, _, rfl⟩ := hx
 rfl
def fitB (s : Sz) (x : Hd) : Bool := decide (((fau s x).length : Int) = 0)
def fitS (m : List Hd) (s : Sz) : Nat := sv (fun k => fitB s (hD m k)) m.length
def fitL (l : List Sz) (m : List Hd) : List Nat := l.map (fitS m)
theorem getD_setN {us : List Nat} {i j v : Nat} (hi : i < us.length) : (us.set i v).getD j 0 = if j = i then v else us.getD j 0 := by
 by_cases e : j = i
 ·subst e; simp [List.getD_eq_getElem?_getD, hi]
 ·have : ¬ i = j := fun q => e q.symm
  simp [List.getD_eq_getElem?_getD, List.getElem?_set, this, e]
theorem RG41 : (type_of% @c41r0.eq_1) ∧ (type_of% @c41r1.eq_1) ∧ (type_of% @c41r2.eq_1) ∧ (type_of% @c41r3.eq_1) ∧ (type_of% @c41r4.eq_1) ∧ (type_of% @c41r5.eq_1) ∧ (type_of% @c41r6.eq_1) ∧ (type_of% @c41r7.eq_1) ∧ (type_of% @c41r8.eq_1) ∧ (type_of% @c41r9.eq_1) ∧ (type_of% @c41r10.eq_1) ∧ (type_of% @c41r12.eq_1) ∧ (type_of% @c41r14.eq_1) := ⟨@c41r0.eq_1, @c41r1.eq_1, @c41r2.eq_1, @c41r3.eq_1, @c41r4.eq_1, @c41r5.eq_1, @c41r6.eq_1, @c41r7.eq_1, @c41r8.eq_1, @c41r9.eq_1, @c41r10.eq_1, @c41r12.eq_1, @c41r14.eq_1⟩
set_option maxHeartbeats 1000000 in
theorem pc48 (l : List Sz) (m : List Hd) (hl : szsOk l = true) (hm : hdsOk m = true) : PC Tryd.prog 41 [vZ l, vH m] (.vs l.length (nu (fitL l m))) := by
 have L := szsOk_iff.1 hl
 have M := hdsOk_iff.1 hm
 refine pc_fn fn41 (by simp only [AV.plains, AV.plain, il_plain, bl_plain, Bool.and_true, Bool.true_and, Bool.and_self, fleZ_plain, fleH_plain, nu_plain]) (by simp only [AV.plains, AV.plain, il_plain, bl_plain, Bool.and_true, Bool.true_and, Bool.and_self, fleZ_plain, fleH_plain, nu_plain]) (Nat.le_of_ble_eq_true rfl) ?_
 rw [initSt2]
 repeat' first | (with_reducible first | refine k_seq ?_ | refine k_skip ?_ | refine k_blkS ?_ | refine k_blkR ?_ | refine k_blkC ?_ | refine k_blkH ?_ | refine k_blkB ?_ | refine k_blkK ?_ | refine k_blkE ?_ | refine k_reg ?_) | with_reducible refine k_head (by with_unfolding_all rfl) ?_ | with_reducible refine k_headS ?_ | (with_reducible refine SepK.mk ?_ ?_; (refine sepQ_P ?_; simp [sepQ, sepG, AOp.late, AOp.free, AOp.xs, AOp.isAl, tokNe, AV.tok, stS_get, strip, AX.val, RG41, GA]; try omega)) | with_reducible refine r_done ?_ | with_reducible refine hr_done ?_ | with_reducible refine s_go (by simp (disch := omega) only [RG41, EVA, plug, eq_self, simprocAttr]; with_reducible rfl) ?_ | with_reducible refine h_go (by with_unfolding_all rfl) (by simp (disch := omega) only [RG41, EVA, plug, eq_self, simprocAttr]; with_reducible rfl) ?_ | ((with_reducible refine chk_r ?_); refine r_callF (by simp only [CA, simprocAttr]; rfl) (by exact rfl) (by simp only [CA, simprocAttr]; rfl) rfl ?_) | ((with_reducible refine chk_h ?_); refine hr_callF (by simp only [CA, simprocAttr]; rfl) (by exact rfl) (by simp only [CA, simprocAttr]; rfl) rfl ?_) | ((with_reducible refine chk_h ?_); refine hr_app (by simp (disch := omega) only [RG41, EVA, plug, eq_self, simprocAttr]; with_reducible rfl) rfl ?_) | (with_reducible refine k_condP (by simp only [GA, simprocAttr]; rfl) (by first | (simp only [BO]; rfl) | rfl) (fun ht => ?_) (fun ht => ?_) <;> try (first | exact False.elim ht | exact absurd rfl ht | exact absurd trivial ht | exact Bool.noConfusion ht)) | (with_reducible refine k_ret ?_; repeat with_reducible (first | refine ret_thru ?_ | refine ret_blk ?_ | refine fin ?_)) | (with_reducible refine k_exit ?_; repeat with_reducible (first | refine thru ?_ | refine out_blk ?_ | refine pass (by decide) ?_)) | ((first | refine post1 ?_ | refine post2 ?_ | refine post3 ?_); simp only [GA, simprocAttr]) | refine post0 ?_
 refine k_blk (k_loopS (X := Nat × List Nat) [1, 5, 13, 14, 15] l.length (fun k x => [(1, vH m), (5, .sl x.1 0 l.length 1), (13, vZ l), (14, .i .i64 l.length), (15, .i .i64 (k : Int))])
  (fun k x h => x.1 ≠ 0 ∧ h.m x.1 = some (.cells true (nu x.2)) ∧ x.2.length = l.length ∧ ∀ i, i < l.length → x.2.getD i 0 = if i < k then fitS m (zD l i) else 0) (_, List.replicate l.length 0) (by simp only [Am.keep, List.map_cons, List.map_nil, GA, simprocAttr]; try rfl) ⟨?_, by simp (disch := omega) only [nu_rep, RG41, EVA, plug, eq_self, simprocAttr] <;> rfl, by simp, fun i hi => by simp [hi]⟩ ?_)
 ·simp only [AH.bump_nx]; omega
 rintro k ⟨x, us⟩ h hk ⟨hx, hmx, hu, hf⟩ ok pos
 simp only at hx hmx hu hf ⊢
 have lx := ok.m hmx
 by_cases klt : k < l.length
 ·have klt' : (k : Int) < l.length := by omega
  have rT := rdZ klt
  have hs := L.2.1 k klt
  have f0 := hf k klt
  rw [if_neg (by omega)] at f0
  repeat' first | (with_reducible first | refine k_seq ?_ | refine k_skip ?_ | refine k_blkS ?_ | refine k_blkR ?_ | refine k_blkC ?_ | refine k_blkH ?_ | refine k_blkB ?_ | refine k_blkK ?_ | refine k_blkE ?_ | refine k_reg ?_) | with_reducible refine k_head (by with_unfolding_all rfl) ?_ | with_reducible refine k_headS ?_ | (with_reducible refine SepK.mk ?_ ?_; (refine sepQ_P ?_; simp [sepQ, sepG, AOp.late, AOp.free, AOp.xs, AOp.isAl, tokNe, AV.tok, stS_get, strip, AX.val, RG41, GA]; try omega)) | with_reducible refine r_done ?_ | with_reducible refine hr_done ?_ | with_reducible refine s_go (by simp (disch := omega) only [klt', rT, RG41, EVA, plug, eq_self, simprocAttr]; with_reducible rfl) ?_ | with_reducible refine h_go (by with_unfolding_all rfl) (by simp (disch := omega) only [klt', rT, RG41, EVA, plug, eq_self, simprocAttr]; with_reducible rfl) ?_ | ((with_reducible refine chk_r ?_); refine r_callF (by simp only [CA, simprocAttr]; rfl) (by exact rfl) (by simp only [CA, simprocAttr]; rfl) rfl ?_) | ((with_reducible refine chk_h ?_); refine hr_callF (by simp only [CA, simprocAttr]; rfl) (by exact rfl) (by simp only [CA, simprocAttr]; rfl) rfl ?_) | ((with_reducible refine chk_h ?_); refine hr_app (by simp (disch := omega) only [klt', rT, RG41, EVA, plug, eq_self, simprocAttr]; with_reducible rfl) rfl ?_) | (with_reducible refine k_condP (by simp only [GA, simprocAttr]; rfl) (by first | (simp only [BO]; rfl) | rfl) (fun ht => ?_) (fun ht => ?_) <;> try (first | exact False.elim ht | exact absurd rfl ht | exact absurd trivial ht | exact Bool.noConfusion ht)) | (with_reducible refine k_ret ?_; repeat with_reducible (first | refine ret_thru ?_ | refine ret_blk ?_ | refine fin ?_)) | (with_reducible refine k_exit ?_; repeat with_reducible (first | refine thru ?_ | refine out_blk ?_ | refine pass (by decide) ?_)) | ((first | refine post1 ?_ | refine post2 ?_ | refine post3 ?_); simp only [GA, simprocAttr]) | refine post0 ?_
  refine k_blk (k_loopS (X := List Nat) [1, 5, 6, 7, 13, 14, 15, 20, 21, 22] m.length (fun j _ => [(1, vH m), (5, .sl x 0 l.length 1), (6, .i .i64 (k : Int)), (7, .p (h.nx + 1 + 3) 0), (13, vZ l), (14, .i .i64 l.length), (15, .i .i64 (k : Int)), (20, vH m), (21, .i .i64 m.length), (22, .i .i64 (j : Int))])
   (fun j vs h' => h'.m x = some (.cells true (nu vs)) ∧ h'.m (h.nx + 1 + 3) = some (.cells true (eZ (zD l k))) ∧ vs.length = l.length ∧ ∀ i, i < l.length → vs.getD i 0 = if i = k then sv (fun i => fitB (zD l k) (hD m i)) j else us.getD i 0) us (by simp only [Am.keep, List.map_cons, List.map_nil, GA, simprocAttr]; try rfl) ⟨by simp (disch := omega) only [hmx, RG41, EVA, plug, eq_self, simprocAttr], by simp (disch := omega) only [RG41, EVA, plug, eq_self, simprocAttr] <;> rfl, hu, fun i hi => by
    by_cases e : i = k
    ·subst e; rw [if_pos rfl, f0]; rfl
    ·rw [if_neg e]⟩ ?_)
  rintro j vs h' hj ⟨hmx', hm7, hv, hg⟩ ok' pos'
  have lx' := ok'.m hmx'
  have l7 := ok'.m hm7
  have x7 : x ≠ h.nx + 1 + 3 := by omega
  have x7' : ¬ h.nx + 1 + 3 = x := by omega
  by_cases jlt : j < m.length
  ·have jlt' : (j : Int) < m.length := by omega
   have rJ := rdH jlt
   have q45 := pc45 (zD l k) (hD m j) hs (M.2.1 j jlt)
   have gk := hg k klt
   rw [if_pos rfl] at gk
   have b1 : sv (fun i => fitB (zD l k) (hD m i)) j < 2 ^ 64 := lt_64 sv_lt (by omega)
   have sh := shl_64 (k := j) (by omega)
   have or1 := or_64 b1 (pow_64 (k := j) (by omega))
   have g2 := nu_get (l := vs) (j := k) (by omega)
   rw [gk] at g2
   by_cases c : ((fau (zD l k) (hD m j)).length : Int) = 0
   ·have c' := eq_true c
    have es : sv (fun i => fitB (zD l k) (hD m i)) (j + 1) = sv (fun i => fitB (zD l k) (hD m i)) j ||| 2 ^ j := if_pos (decide_eq_true c)
    rw [← es] at or1
    have st := nu_set vs k (sv (fun i => fitB (zD l k) (hD m i)) (j + 1))
    generalize hA : sv (fun i => fitB (zD l k) (hD m i)) j = A at *
    generalize hB : sv (fun i => fitB (zD l k) (hD m i)) (j + 1) = B at *
    repeat' first | (with_reducible first | refine k_seq ?_ | refine k_skip ?_ | refine k_blkS ?_ | refine k_blkR ?_ | refine k_blkC ?_ | refine k_blkH ?_ | refine k_blkB ?_ | refine k_blkK ?_ | refine k_blkE ?_ | refine k_reg ?_) | with_reducible refine k_head (by with_unfolding_all rfl) ?_ | with_reducible refine k_headS ?_ | (with_reducible refine SepK.mk ?_ ?_; (refine sepQ_P ?_; simp [sepQ, sepG, AOp.late, AOp.free, AOp.xs, AOp.isAl, tokNe, AV.tok, stS_get, strip, AX.val, RG41, GA]; try omega)) | with_reducible refine r_done ?_ | with_reducible refine hr_done ?_ | with_reducible refine s_go (by simp (disch := omega) only [jlt', rJ, eZ_rd, eH_rd, c', hm7, row_m hm7, read_row (row_m hm7), hmx', row_m hmx', read_row (row_m hmx'), x7, x7', g2, sh, or1, st, nu_len, hv, RG41, EVA, plug, eq_self, simprocAttr]; with_reducible rfl) ?_ | with_reducible refine h_go (by with_unfolding_all rfl) (by simp (disch := omega) only [jlt', rJ, eZ_rd, eH_rd, c', hm7, row_m hm7, read_row (row_m hm7), hmx', row_m hmx', read_row (row_m hmx'), x7, x7', g2, sh, or1, st, nu_len, hv, RG41, EVA, plug, eq_self, simprocAttr]; with_reducible rfl) ?_ | ((with_reducible refine chk_r ?_); refine r_callF (by simp only [CA, simprocAttr]; rfl) (by exact rfl) (by simp only [CA, simprocAttr]; rfl) rfl ?_) | ((with_reducible refine chk_h ?_); refine hr_callF (by simp only [CA, simprocAttr]; rfl) (by exact rfl) (by simp only [CA, simprocAttr]; rfl) rfl ?_) | ((with_reducible refine chk_r ?_); refine r_callP (by simp only [CA, simprocAttr]; rfl) (by simp only [CA, simprocAttr]; rfl) (by first | exact q45 _) rfl ?_) | ((with_reducible refine chk_h ?_); refine hr_callP (by simp only [CA, simprocAttr]; rfl) (by simp only [CA, simprocAttr]; rfl) (by first | exact q45 _) rfl ?_) | ((with_reducible refine chk_h ?_); refine hr_callP1 (by simp only [CA, simprocAttr]; rfl) (by simp only [CA, simprocAttr]; rfl) (by simp (disch := omega) only [CA, Nat.reduceEqDiff, ↓reduceIte, firstTok_nil, firstTok_sl, firstTok_sl0, firstTok_i, firstTok_b, firstTok_ag, firstTok_p, firstTok_s]; rfl) (by first | exact q45 _) rfl ?_) | ((with_reducible refine chk_h ?_); refine hr_app (by simp (disch := omega) only [jlt', rJ, eZ_rd, eH_rd, c', hm7, row_m hm7, read_row (row_m hm7), hmx', row_m hmx', read_row (row_m hmx'), x7, x7', g2, sh, or1, st, nu_len, hv, RG41, EVA, plug, eq_self, simprocAttr]; with_reducible rfl) rfl ?_) | (with_reducible refine k_condP (by simp only [GA, simprocAttr]; rfl) (by first | (simp only [BO]; rfl) | rfl) (fun ht => ?_) (fun ht => ?_) <;> try (first | exact False.elim ht | exact absurd rfl ht | exact absurd trivial ht | exact Bool.noConfusion ht)) | (with_reducible refine k_ret ?_; repeat with_reducible (first | refine ret_thru ?_ | refine ret_blk ?_ | refine fin ?_)) | (with_reducible refine k_exit ?_; repeat with_reducible (first | refine thru ?_ | refine out_blk ?_ | refine pass (by decide) ?_)) | ((first | refine post1 ?_ | refine post2 ?_ | refine post3 ?_); simp only [GA, simprocAttr]) | refine post0 ?_
    refine ⟨jlt, vs.set k B, (by simp only [Am.keep, List.map_cons, List.map_nil, GA, simprocAttr]; try rfl), by simp (disch := omega) only [st, RG41, EVA, plug, eq_self, simprocAttr], by simp (disch := omega) only [hm7, x7', RG41, EVA, plug, eq_self, simprocAttr], by rw [List.length_set]; exact hv, fun i hi => ?_⟩
    rw [getD_setN (by omega), hg i hi]
    by_cases e : i = k
    ·rw [if_pos e, if_pos e]
    ·rw [if_neg e, if_neg e, if_neg e]
   ·have c' := eq_false c
    have es : sv (fun i => fitB (zD l k) (hD m i)) (j + 1) = sv (fun i => fitB (zD l k) (hD m i)) j := if_neg (by show ¬ decide _ = true; rw [decide_eq_false c]; simp)
    repeat' first | (with_reducible first | refine k_seq ?_ | refine k_skip ?_ | refine k_blkS ?_ | refine k_blkR ?_ | refine k_blkC ?_ | refine k_blkH ?_ | refine k_blkB ?_ | refine k_blkK ?_ | refine k_blkE ?_ | refine k_reg ?_) | with_reducible refine k_head (by with_unfolding_all rfl) ?_ | with_reducible refine k_headS ?_ | (with_reducible refine SepK.mk ?_ ?_; (refine sepQ_P ?_; simp [sepQ, sepG, AOp.late, AOp.free, AOp.xs, AOp.isAl, tokNe, AV.tok, stS_get, strip, AX.val, RG41, GA]; try omega)) | with_reducible refine r_done ?_ | with_reducible refine hr_done ?_ | with_reducible refine s_go (by simp (disch := omega) only [jlt', rJ, eZ_rd, eH_rd, c', hm7, row_m hm7, read_row (row_m hm7), hmx', row_m hmx', read_row (row_m hmx'), x7, x7', RG41, EVA, plug, eq_self, simprocAttr]; with_reducible rfl) ?_ | with_reducible refine h_go (by with_unfolding_all rfl) (by simp (disch := omega) only [jlt', rJ, eZ_rd, eH_rd, c', hm7, row_m hm7, read_row (row_m hm7), hmx', row_m hmx', read_row (row_m hmx'), x7, x7', RG41, EVA, plug, eq_self, simprocAttr]; with_reducible rfl) ?_ | ((with_reducible refine chk_r ?_); refine r_callF (by simp only [CA, simprocAttr]; rfl) (by exact rfl) (by simp only [CA, simprocAttr]; rfl) rfl ?_) | ((with_reducible refine chk_h ?_); refine hr_callF (by simp only [CA, simprocAttr]; rfl) (by exact rfl) (by simp only [CA, simprocAttr]; rfl) rfl ?_) | ((with_reducible refine chk_r ?_); refine r_callP (by simp only [CA, simprocAttr]; rfl) (by simp only [CA, simprocAttr]; rfl) (by first | exact q45 _) rfl ?_) | ((with_reducible refine chk_h ?_); refine hr_callP (by simp only [CA, simprocAttr]; rfl) (by simp only [CA, simprocAttr]; rfl) (by first | exact q45 _) rfl ?_) | ((with_reducible refine chk_h ?_); refine hr_callP1 (by simp only [CA, simprocAttr]; rfl) (by simp only [CA, simprocAttr]; rfl) (by simp (disch := omega) only [CA, Nat.reduceEqDiff, ↓reduceIte, firstTok_nil, firstTok_sl, firstTok_sl0, firstTok_i, firstTok_b, firstTok_ag, firstTok_p, firstTok_s]; rfl) (by first | exact q45 _) rfl ?_) | ((with_reducible refine chk_h ?_); refine hr_app (by simp (disch := omega) only [jlt', rJ, eZ_rd, eH_rd, c', hm7, row_m hm7, read_row (row_m hm7), hmx', row_m hmx', read_row (row_m hmx'), x7, x7', RG41, EVA, plug, eq_self, simprocAttr]; with_reducible rfl) rfl ?_) | (with_reducible refine k_condP (by simp only [GA, simprocAttr]; rfl) (by first | (simp only [BO]; rfl) | rfl) (fun ht => ?_) (fun ht => ?_) <;> try (first | exact False.elim ht | exact absurd rfl ht | exact absurd trivial ht | exact Bool.noConfusion ht)) | (with_reducible refine k_ret ?_; repeat with_reducible (first | refine ret_thru ?_ | refine ret_blk ?_ | refine fin ?_)) | (with_reducible refine k_exit ?_; repeat with_reducible (first | refine thru ?_ | refine out_blk ?_ | refine pass (by decide) ?_)) | ((first | refine post1 ?_ | refine post2 ?_ | refine post3 ?_); simp only [GA, simprocAttr]) | refine post0 ?_
    refine ⟨jlt, vs, (by simp only [Am.keep, List.map_cons, List.map_nil, GA, simprocAttr]; try rfl), by simp (disch := omega) only [hmx', RG41, EVA, plug, eq_self, simprocAttr], by simp (disch := omega) only [hm7, RG41, EVA, plug, eq_self, simprocAttr], hv, ?_⟩
    rw [es]
    exact hg
  ·obtain rfl : j = m.length := by omega
   have jlt' : ¬ (m.length : Int) < m.length := by omega
   repeat' first | (with_reducible first | refine k_seq ?_ | refine k_skip ?_ | refine k_blkS ?_ | refine k_blkR ?_ | refine k_blkC ?_ | refine k_blkH ?_ | refine k_blkB ?_ | refine k_blkK ?_ | refine k_blkE ?_ | refine k_reg ?_) | with_reducible refine k_head (by with_unfolding_all rfl) ?_ | with_reducible refine k_headS ?_ | (with_reducible refine SepK.mk ?_ ?_; (refine sepQ_P ?_; simp [sepQ, sepG, AOp.late, AOp.free, AOp.xs, AOp.isAl, tokNe, AV.tok, stS_get, strip, AX.val, RG41, GA]; try omega)) | with_reducible refine r_done ?_ | with_reducible refine hr_done ?_ | with_reducible refine s_go (by simp (disch := omega) only [jlt', RG41, EVA, plug, eq_self, simprocAttr]; with_reducible rfl) ?_ | with_reducible refine h_go (by with_unfolding_all rfl) (by simp (disch := omega) only [jlt', RG41, EVA, plug, eq_self, simprocAttr]; with_reducible rfl) ?_ | ((with_reducible refine chk_r ?_); refine r_callF (by simp only [CA, simprocAttr]; rfl) (by exact rfl) (by simp only [CA, simprocAttr]; rfl) rfl ?_) | ((with_reducible refine chk_h ?_); refine hr_callF (by simp only [CA, simprocAttr]; rfl) (by exact rfl) (by simp only [CA, simprocAttr]; rfl) rfl ?_) | ((with_reducible refine chk_h ?_); refine hr_app (by simp (disch := omega) only [jlt', RG41, EVA, plug, eq_self, simprocAttr]; with_reducible rfl) rfl ?_) | (with_reducible refine k_condP (by simp only [GA, simprocAttr]; rfl) (by first | (simp only [BO]; rfl) | rfl) (fun ht => ?_) (fun ht => ?_) <;> try (first | exact False.elim ht | exact absurd rfl ht | exact absurd trivial ht | exact Bool.noConfusion ht)) | (with_reducible refine k_ret ?_; repeat with_reducible (first | refine ret_thru ?_ | refine ret_blk ?_ | refine fin ?_)) | (with_reducible refine k_exit ?_; repeat with_reducible (first | refine thru ?_ | refine out_blk ?_ | refine pass (by decide) ?_)) | ((first | refine post1 ?_ | refine post2 ?_ | refine post3 ?_); simp only [GA, simprocAttr]) | refine post0 ?_
   refine ⟨klt, (x, vs), (by simp only [Am.keep, List.map_cons, List.map_nil, GA, simprocAttr]; try rfl), hx, by simp (disch := omega) only [hmx', RG41, EVA, plug, eq_self, simprocAttr], hv, fun i hi => ?_⟩
   rw [hg i hi]
   by_cases e : i = k
   ·subst e
    rw [if_pos rfl, if_pos (by omega)]
    rfl
   ·rw [if_neg e, hf i hi]
    by_cases e2 : i < k
    ·rw [if_pos e2, if_pos (by omega)]
    ·rw [if_neg e2, if_neg (by omega)]
 ·obtain rfl : k = l.length := by omega
  have klt' : ¬ (l.length : Int) < l.length := by omega
  have e : us = fitL l m := by
   refine List.ext_getElem (by rw [hu]; simp [fitL]) fun i h1 h2 => ?_
   have := hf i (by omega)
   rw [if_pos (by omega), List.getD_eq_getElem?_getD, List.getElem?_eq_getElem h1] at this
   simp only [Option.getD_some] at this
   rw [this]
   simp only [fitL, List.getElem_map, zD]
   rw [List.getD_eq_getElem?_getD, List.getElem?_eq_getElem (by omega)]
   rfl
  subst e
  repeat' first | (with_reducible first | refine k_seq ?_ | refine k_skip ?_ | refine k_blkS ?_ | refine k_blkR ?_ | refine k_blkC ?_ | refine k_blkH ?_ | refine k_blkB ?_ | refine k_blkK ?_ | refine k_blkE ?_ | refine k_reg ?_) | with_reducible refine k_head (by with_unfolding_all rfl) ?_ | with_reducible refine k_headS ?_ | (with_reducible refine SepK.mk ?_ ?_; (refine sepQ_P ?_; simp [sepQ, sepG, AOp.late, AOp.free, AOp.xs, AOp.isAl, tokNe, AV.tok, stS_get, strip, AX.val, RG41, GA]; try omega)) | with_reducible refine r_done ?_ | with_reducible refine hr_done ?_ | with_reducible refine s_go (by simp (disch := omega) only [klt', RG41, EVA, plug, eq_self, simprocAttr]; with_reducible rfl) ?_ | with_reducible refine h_go (by with_unfolding_all rfl) (by simp (disch := omega) only [klt', RG41, EVA, plug, eq_self, simprocAttr]; with_reducible rfl) ?_ | ((with_reducible refine chk_r ?_); refine r_callF (by simp only [CA, simprocAttr]; rfl) (by exact rfl) (by simp only [CA, simprocAttr]; rfl) rfl ?_) | ((with_reducible refine chk_h ?_); refine hr_callF (by simp only [CA, simprocAttr]; rfl) (by exact rfl) (by simp only [CA, simprocAttr]; rfl) rfl ?_) | ((with_reducible refine chk_h ?_); refine hr_app (by simp (disch := omega) only [klt', RG41, EVA, plug, eq_self, simprocAttr]; with_reducible rfl) rfl ?_) | (with_reducible refine k_condP (by simp only [GA, simprocAttr]; rfl) (by first | (simp only [BO]; rfl) | rfl) (fun ht => ?_) (fun ht => ?_) <;> try (first | exact False.elim ht | exact absurd rfl ht | exact absurd trivial ht | exact Bool.noConfusion ht)) | (with_reducible refine k_ret ?_; repeat with_reducible (first | refine ret_thru ?_ | refine ret_blk ?_ | refine fin ?_)) | (with_reducible refine k_exit ?_; repeat with_reducible (first | refine thru ?_ | refine out_blk ?_ | refine pass (by decide) ?_)) | ((first | refine post1 ?_ | refine post2 ?_ | refine post3 ?_); simp only [GA, simprocAttr]) | refine post0 ?_
  exact ends_sl (k := 1) hmx (by rw [nu_len, hu, Nat.mul_one])
end Go.Proofs.YtjaihaccehaicaaDoor
set_option linter.unusedVariables false
set_option linter.unusedSimpArgs false
namespace Go.Proofs.YtjaihaccehaicaaDoor
open Go Go.Am Go.Proofs
def lastZ (o : List Int) : Int := o.getD (o.length - 1) 0
def opS (o : List Int) (v : Int) : Prop := o.length = 0 ∨ v < lastZ o
instance (o : List Int) (v : Int) : Decidable (opS o v) := inferInstanceAs (Decidable (_ ∨ _))
def opP (w : Int) (o : List Int) (v : Int) : Prop := o.length = 0 ∨ lastZ o + w < v
instance (w : Int) (o : List Int) (v : Int) : Decidable (opP w o v) := inferInstanceAs (Decidable (_ ∨ _))
end Go.Proofs.YtjaihaccehaicaaDoor
set_option linter.unusedVariables false
set_option linter.unusedSimpArgs false
namespace Go.Proofs.YtjaihaccehaicaaDoor
open Go Go.Am Go.Proofs
theorem anyZ_at {p : Int → Bool} {l : List Int} : anyZ p l = true ↔ ∃ j, j < l.length ∧ p (l.getD j 0) = true := by
 unfold anyZ
 rw [decide_eq_true_eq, fi_ge]
end Go.Proofs.YtjaihaccehaicaaDoor
set_option linter.unusedVariables false
set_option linter.unusedSimpArgs false
namespace Go.Proofs.YtjaihaccehaicaaDoor
open Go Go.Am Go.Proofs
def outN (n i : Int) : Bool := decide (i < 0) || decide (n ≤ i)
def lN (l : List Int) (i : Nat) : Int := l.getD i 0
def pkOk (l : List Int) (n : Int) : Bool := !anyZ (outN n) l && dis (lN l) l.length
theorem pkOk_iff {l : List Int} {n : Int} : pkOk l n = true ↔ ∀ j, j < l.length → (0 ≤ lN l j ∧ lN l j < n) ∧ ∀ i, i < j → lN l i ≠ lN l j := by
 have e : anyZ (outN n) l = false ↔ ∀ j, j < l.length → 0 ≤ lN l j ∧ lN l j < n := by
  rw [← Bool.not_eq_true, anyZ_at]
  constructor
  ·intro h j hj
   refine Classical.byContradiction fun q => h ⟨j, hj, ?_⟩
   unfold outN
   rw [Bool.or_eq_true, decide_eq_true_eq, decide_eq_true_eq]
   show lN l j < 0 ∨ n ≤ lN l j
   omega
  ·rintro h ⟨j, hj, q⟩
   have := h j hj
   unfold outN at q
   rw [Bool.or_eq_true, decide_eq_true_eq, decide_eq_true_eq] at q
   change lN l j < 0 ∨ n ≤ lN l j at q
   omega
 simp only [pkOk, Bool.and_eq_true, Bool.not_eq_true', e, dis_iff]
 exact ⟨fun h j hj => ⟨h.1 j hj, h.2 j hj⟩, fun h => ⟨fun j hj => (h j hj).1, fun j hj => (h j hj).2⟩⟩
theorem RG44 : (type_of% @c44r0.eq_1) ∧ (type_of% @c44r1.eq_1) ∧ (type_of% @c44r2.eq_1) ∧ (type_of% @c44r3.eq_1) ∧ (type_of% @c44r4.eq_1) ∧ (type_of% @c44r5.eq_1) := ⟨@c44r0.eq_1, @c44r1.eq_1, @c44r2.eq_1, @c44r3.eq_1, @c44r4.eq_1, @c44r5.eq_1⟩
theorem pc50 (l : List Sz) (m : List Hd) (hl : l.length ≤ 9223372036854775807) (hm : m.length ≤ 9223372036854775807) : PC Tryd.prog 44 [vZ l, vH m] (.i .i64 (chk l m)) := by
 have q1 := pc66 l hl
 have q2 := pc67 m hm
 unfold chk
 refine pc_fn fn44 (by simp only [AV.plains, AV.plain, il_plain, bl_plain, Bool.and_true, Bool.true_and, Bool.and_self, fleZ_plain, fleH_plain]) (by simp only [AV.plains, AV.plain, il_plain, bl_plain, Bool.and_true, Bool.true_and, Bool.and_self, fleZ_plain, fleH_plain]) (Nat.le_of_ble_eq_true rfl) ?_
 rw [initSt2]
 cases c1 : szsOk l with
 | false =>
   rw [c1] at q1
   rw [if_pos rfl]
   repeat' first | (with_reducible first | refine k_seq ?_ | refine k_skip ?_ | refine k_blkS ?_ | refine k_blkR ?_ | refine k_blkC ?_ | refine k_blkH ?_ | refine k_blkB ?_ | refine k_blkK ?_ | refine k_blkE ?_ | refine k_reg ?_) | with_reducible refine r_done ?_ | with_reducible refine s_go (by simp (disch := omega) only [RG44, EVA, plug, eq_self, simprocAttr]; with_reducible rfl) ?_ | ((with_reducible refine chk_r ?_); refine r_callF (by simp only [CA, simprocAttr]; rfl) (by exact rfl) (by simp only [CA, simprocAttr]; rfl) rfl ?_) | ((with_reducible refine chk_r ?_); refine r_callP (by simp only [CA, simprocAttr]; rfl) (by simp only [CA, simprocAttr]; rfl) (by first | exact q1 _) rfl ?_) | (with_reducible refine k_condP (by simp only [GA, simprocAttr]; rfl) (by first | (simp only [BO]; rfl) | rfl) (fun ht => ?_) (fun ht => ?_) <;> try (first | exact False.elim ht | exact absurd rfl ht | exact absurd trivial ht | exact Bool.noConfusion ht)) | (with_reducible refine k_ret ?_; repeat with_reducible (first | refine ret_thru ?_ | refine ret_blk ?_ | refine fin ?_)) | (with_reducible refine k_exit ?_; repeat with_reducible (first | refine thru ?_ | refine out_blk ?_ | refine pass (by decide) ?_)) | ((first | refine post1 ?_ | refine post2 ?_ | refine post3 ?_); simp only [GA, simprocAttr]) | refine post0 ?_
   all_goals first | exact ends_of | exact ends_eq rfl
 | true =>
   rw [c1] at q1
   rw [if_neg (by simp)]
   cases c2 : hdsOk m with
   | false =>
     rw [c2] at q2
     rw [if_pos rfl]
     repeat' first | (with_reducible first | refine k_seq ?_ | refine k_skip ?_ | refine k_blkS ?_ | refine k_blkR ?_ | refine k_blkC ?_ | refine k_blkH ?_ | refine k_blkB ?_ | refine k_blkK ?_ | refine k_blkE ?_ | refine k_reg ?_) | with_reducible refine r_done ?_ | with_reducible refine s_go (by simp (disch := omega) only [RG44, EVA, plug, eq_self, simprocAttr]; with_reducible rfl) ?_ | ((with_reducible refine chk_r ?_); refine r_callF (by simp only [CA, simprocAttr]; rfl) (by exact rfl) (by simp only [CA, simprocAttr]; rfl) rfl ?_) | ((with_reducible refine chk_r ?_); refine r_callP (by simp only [CA, simprocAttr]; rfl) (by simp only [CA, simprocAttr]; rfl) (by first | exact q1 _ | exact q2 _) rfl ?_) | (with_reducible refine k_condP (by simp only [GA, simprocAttr]; rfl) (by first | (simp only [BO]; rfl) | rfl) (fun ht => ?_) (fun ht => ?_) <;> try (first | exact False.elim ht | exact absurd rfl ht | exact absurd trivial ht | exact Bool.noConfusion ht)) | (with_reducible refine k_ret ?_; repeat with_reducible (first | refine ret_thru ?_ | refine ret_blk ?_ | refine fin ?_)) | (with_reducible refine k_exit ?_; repeat with_reducible (first | refine thru ?_ | refine out_blk ?_ | refine pass (by decide) ?_)) | ((first | refine post1 ?_ | refine post2 ?_ | refine post3 ?_); simp only [GA, simprocAttr]) | refine post0 ?_
     all_goals first | exact ends_of | exact ends_eq rfl
   | true =>
     rw [c2] at q2
     rw [if_neg (by simp)]
     repeat' first | (with_reducible first | refine k_seq ?_ | refine k_skip ?_ | refine k_blkS ?_ | refine k_blkR ?_ | refine k_blkC ?_ | refine k_blkH ?_ | refine k_blkB ?_ | refine k_blkK ?_ | refine k_blkE ?_ | refine k_reg ?_) | with_reducible refine r_done ?_ | with_reducible refine s_go (by simp (disch := omega) only [RG44, EVA, plug, eq_self, simprocAttr]; with_reducible rfl) ?_ | ((with_reducible refine chk_r ?_); refine r_callF (by simp only [CA, simprocAttr]; rfl) (by exact rfl) (by simp only [CA, simprocAttr]; rfl) rfl ?_) | ((with_reducible refine chk_r ?_); refine r_callP (by simp only [CA, simprocAttr]; rfl) (by simp only [CA, simprocAttr]; rfl) (by first | exact q1 _ | exact q2 _) rfl ?_) | (with_reducible refine k_condP (by simp only [GA, simprocAttr]; rfl) (by first | (simp only [BO]; rfl) | rfl) (fun ht => ?_) (fun ht => ?_) <;> try (first | exact False.elim ht | exact absurd rfl ht | exact absurd trivial ht | exact Bool.noConfusion ht)) | (with_reducible refine k_ret ?_; repeat with_reducible (first | refine ret_thru ?_ | refine ret_blk ?_ | refine fin ?_)) | (with_reducible refine k_exit ?_; repeat with_reducible (first | refine thru ?_ | refine out_blk ?_ | refine pass (by decide) ?_)) | ((first | refine post1 ?_ | refine post2 ?_ | refine post3 ?_); simp only [GA, simprocAttr]) | refine post0 ?_
     all_goals first | exact ends_of | exact ends_eq rfl
theorem chk_ok {l : List Sz} {m : List Hd} (h : chk l m = 0) : szsOk l = true ∧ hdsOk m = true := by
 unfold chk at h
 cases c1 : szsOk l <;> cases c2 : hdsOk m <;> simp [c1, c2] at h ⊢
theorem pc53 (s : Sz) (x : Hd) (hs : szOk s = true) (hx : hdOk x = true) : PC Tryd.prog 45 [.ag (eZ s), .ag (eH x)] (.b (fitB s x)) := by
 have q := pc46 s x hs hx
 unfold fitB
 refine pc_fn fn45 (by simp only [AV.plains, AV.plain, il_plain, bl_plain, Bool.and_true, Bool.true_and, Bool.and_self]) (by simp only [AV.plains, AV.plain, il_plain, bl_plain, Bool.and_true, Bool.true_and, Bool.and_self]) (Nat.le_of_ble_eq_true rfl) ?_
 rw [initSt2]
 repeat' first | (with_reducible first | refine k_seq ?_ | refine k_skip ?_ | refine k_blkS ?_ | refine k_blkR ?_ | refine k_blkC ?_ | refine k_blkH ?_ | refine k_blkB ?_ | refine k_blkK ?_ | refine k_blkE ?_ | refine k_reg ?_) | with_reducible refine r_done ?_ | with_reducible refine s_go (by simp (disch := omega) only [eZ_rd, eH_rd, c45r0, c45r1, EVA, plug, eq_self, simprocAttr]; with_reducible rfl) ?_ | ((with_reducible refine chk_r ?_); refine r_callF (by simp only [CA, simprocAttr]; rfl) (by exact rfl) (by simp only [CA, simprocAttr]; rfl) rfl ?_) | ((with_reducible refine chk_r ?_); refine r_callP (by simp only [CA, simprocAttr]; rfl) (by simp only [CA, simprocAttr]; rfl) (by first | exact q _) rfl ?_) | (with_reducible refine k_condP (by simp only [GA, simprocAttr]; rfl) (by first | (simp only [BO]; rfl) | rfl) (fun ht => ?_) (fun ht => ?_) <;> try (first | exact False.elim ht | exact absurd rfl ht | exact absurd trivial ht | exact Bool.noConfusion ht)) | (with_reducible refine k_ret ?_; repeat with_reducible (first | refine ret_thru ?_ | refine ret_blk ?_ | refine fin ?_)) | (with_reducible refine k_exit ?_; repeat with_reducible (first | refine thru ?_ | refine out_blk ?_ | refine pass (by decide) ?_)) | ((first | refine post1 ?_ | refine post2 ?_ | refine post3 ?_); simp only [GA, simprocAttr]) | refine post0 ?_
 all_goals first | exact ends_of | exact ends_eq rfl
def cvdB (l : List Sz) (x : Hd) (li : List Int) : Bool := anyZ (fun i => fitB (zD l i.toNat) x) li
def cvsB (l : List Sz) (m : List Hd) (li : List Int) : Bool := decide (∀ k, k < m.length → cvdB l (hD m k) li = true)
end Go.Proofs.YtjaihaccehaicaaDoor
set_option linter.unusedVariables false
set_option linter.unusedSimpArgs false
namespace Go.Proofs.YtjaihaccehaicaaDoor
open Go Go.Am Go.Proofs
def orS (f : List Nat) (li : List Int) : Nat → Nat
 | 0 => 0
 | k + 1 => orS f li k ||| f.getD (lN li k).toNat 0
def shS (li : List Int) : Nat → Nat
 | 0 => 0
 | k + 1 => shS li k ||| 2 ^ (lN li k).toNat
theorem orS_bit {f : List Nat} {li : List Int} {i : Nat} : ∀ {k : Nat}, (orS f li k).testBit i = true ↔ ∃ j, j < k ∧ (f.getD (lN li j).toNat 0).testBit i = true
 | 0 => by simp [orS]
 | k + 1 => by
   rw [orS, Nat.testBit_or, Bool.or_eq_true, orS_bit (k := k)]
   constructor
   ·rintro (⟨j, hj, q⟩ | q)
    ·exact ⟨j, by omega, q⟩
    ·exact ⟨k, by omega, q⟩
   ·rintro ⟨j, hj, q⟩
    by_cases e : j = k
    ·subst e; exact .inr q
    ·exact .inl ⟨j, by omega, q⟩
theorem shS_bit {li : List Int} {i : Nat} : ∀ {k : Nat}, (shS li k).testBit i = true ↔ ∃ j, j < k ∧ (lN li j).toNat = i
 | 0 => by simp [shS]
 | k + 1 => by
   rw [shS, Nat.testBit_or, Bool.or_eq_true, shS_bit (k := k), Nat.testBit_two_pow, decide_eq_true_eq]
   constructor
   ·rintro (⟨j, hj, q⟩ | q)
    ·exact ⟨j, by omega, q⟩
    ·exact ⟨k, by omega, q⟩
   ·rintro ⟨j, hj, q⟩
    by_cases e : j = k
    ·subst e; exact .inr q
    ·exact .inl ⟨j, by omega, q⟩
theorem fitL_get {l : List Sz} {m : List Hd} {a : Nat} (h : a < l.length) : (fitL l m).getD a 0 = fitS m (zD l a) := by
 unfold fitL zD
 rw [List.getD_eq_getElem?_getD, List.getElem?_map, List.getD_eq_getElem?_getD, List.getElem?_eq_getElem h]
 rfl
theorem fitS_bit {m : List Hd} {s : Sz} {i : Nat} : (fitS m s).testBit i = true ↔ i < m.length ∧ fitB s (hD m i) = true := by
 unfold fitS
 rw [sv_bit, Bool.and_eq_true, decide_eq_true_eq]
theorem fitS_lt {m : List Hd} {s : Sz} : fitS m s < 2 ^ m.length := sv_lt
theorem orS_lt {l : List Sz} {m : List Hd} {li : List Int} (hp : pkOk li l.length = true) : ∀ {k : Nat}, k ≤ li.length → orS (fitL l m) li k < 2 ^ m.length
 | 0, _ => Nat.two_pow_pos _
 | k + 1, h => by
   have p := ((pkOk_iff.1 hp) k (by omega)).1
   rw [orS, fitL_get (by omega)]
   exact Nat.or_lt_two_pow (orS_lt hp (by omega)) fitS_lt
def apP (l : List Sz) (m : List Hd) (li : List Int) (i j s : Nat) : Prop := fitB (zD l s) (hD m (lN li i).toNat) = true ∧ fitB (zD l s) (hD m (lN li j).toNat) = true
instance (l : List Sz) (m : List Hd) (li : List Int) (i j s : Nat) : Decidable (apP l m li i j s) := inferInstanceAs (Decidable (_ ∧ _))
end Go.Proofs.YtjaihaccehaicaaDoor
set_option linter.unusedVariables false
set_option linter.unusedSimpArgs false
namespace Go.Proofs.YtjaihaccehaicaaDoor
open Go Go.Am Go.Proofs
theorem and_split2 {a p u q : Nat} (ha : a < 2) (hp : p < 2) : (a + 2 * u) &&& (p + 2 * q) = (a &&& p) + 2 * (u &&& q) := by
 have h1 : ((a + 2 * u) &&& (p + 2 * q)) % 2 ^ 1 = a &&& p := by
  rw [Nat.and_mod_two_pow]
  congr 1 <;> omega
 have h2 : ((a + 2 * u) &&& (p + 2 * q)) / 2 ^ 1 = u &&& q := by
  rw [Nat.and_div_two_pow]
  congr 1 <;> omega
 omega
def tzA : Nat → Nat → Nat
 | 0, _ => 0
 | m + 1, x => if x % 2 = 1 then 0 else 1 + tzA m (x / 2)
theorem compl_and : ∀ {m y : Nat}, y < 2 ^ m → y &&& (2 ^ m - 1 - y) = 0
 | 0, y, h => by
   have : y = 0 := by simpa using h
   subst this
   rfl
 | m + 1, y, h => by
   rw [Nat.pow_succ] at h ⊢
   have ih := compl_and (m := m) (y := y / 2) (by omega)
   have e1 : y = y % 2 + 2 * (y / 2) := by omega
   have e2 : 2 ^ m * 2 - 1 - y = (1 - y % 2) + 2 * (2 ^ m - 1 - y / 2) := by omega
   rw [e2]
   conv => lhs; lhs; rw [e1]
   rw [and_split2 (by omega) (by omega), ih]
   rcases Nat.mod_two_eq_zero_or_one y with e | e <;> rw [e] <;> rfl
theorem neg_and : ∀ {m x : Nat}, 0 < x → x < 2 ^ m → x &&& (2 ^ m - x) = 2 ^ tzA m x
 | 0, x, h0, h => by
   have : x = 0 := by simpa using h
   omega
 | m + 1, x, h0, h => by
   rw [Nat.pow_succ] at h ⊢
   rw [tzA]
   rcases Nat.mod_two_eq_zero_or_one x with e | e
   ·have e1 : x = 0 + 2 * (x / 2) := by omega
    have e2 : 2 ^ m * 2 - x = 0 + 2 * (2 ^ m - x / 2) := by omega
    rw [e2, if_neg (by omega)]
    conv => lhs; lhs; rw [e1]
    rw [and_split2 (by omega) (by omega), neg_and (by omega) (by omega), Nat.add_comm 1, Nat.pow_succ]
    simp only [Nat.and_self, Nat.zero_add]
    omega
   ·have e1 : x = 1 + 2 * (x / 2) := by omega
    have e2 : 2 ^ m * 2 - x = 1 + 2 * (2 ^ m - 1 - x / 2) := by omega
    rw [e2, if_pos e]
    conv => lhs; lhs; rw [e1]
    rw [and_split2 (by omega) (by omega), compl_and (by omega)]
    rfl
theorem tz_bit : ∀ {m x : Nat}, 0 < x → x < 2 ^ m → tzA m x < m ∧ x.testBit (tzA m x) = true ∧ (∀ i, i < tzA m x → x.testBit i = false) ∧ ∀ i, (x &&& (x - 1)).testBit i = (x.testBit i && decide (i ≠ tzA m x))
 | 0, x, h0, h => by
   have : x = 0 := by simpa using h
   omega
 | m + 1, x, h0, h => by
   rw [Nat.pow_succ] at h
   rw [tzA]
   rcases Nat.mod_two_eq_zero_or_one x with e | e
   ·rw [if_neg (by omega)]
    obtain ⟨i1, i2, i3, i4⟩ := tz_bit (m := m) (x := x / 2) (by omega) (by omega)
    refine ⟨by omega, ?_, fun i hi => ?_, fun i => ?_⟩
    ·rw [Nat.add_comm 1, Nat.testBit_succ]; exact i2
    ·cases i with
     | zero => rw [Nat.testBit_zero, e]; rfl
     | succ i => rw [Nat.testBit_succ]; exact i3 i (by omega)
    ·have e1 : x = 0 + 2 * (x / 2) := by omega
     have e2 : x - 1 = 1 + 2 * (x / 2 - 1) := by omega
     have e3 : x &&& (x - 1) = 2 * (x / 2 &&& (x / 2 - 1)) := by
      rw [e2]
      conv => lhs; lhs; rw [e1]
      rw [and_split2 (by omega) (by omega)]
      simp
     rw [e3]
     cases i with
     | zero => rw [Nat.testBit_zero, Nat.testBit_zero, e]; simp
     | succ i =>
       rw [Nat.testBit_succ, Nat.testBit_succ, Nat.mul_div_cancel_left _ (by omega), i4]
       congr 2
       rw [eq_iff_iff]; omega
   ·rw [if_pos e]
    refine ⟨by omega, by rw [Nat.testBit_zero, e]; rfl, fun i hi => by omega, fun i => ?_⟩
    have e1 : x = 1 + 2 * (x / 2) := by omega
    have e2 : x - 1 = 0 + 2 * (x / 2) := by omega
    have e3 : x &&& (x - 1) = 2 * (x / 2) := by
     rw [e2]
     conv => lhs; lhs; rw [e1]
     rw [and_split2 (by omega) (by omega)]
     simp
    rw [e3]
    cases i with
    | zero => rw [Nat.testBit_zero]; simp
    | succ i =>
      rw [Nat.testBit_succ, Nat.testBit_succ, Nat.mul_div_cancel_left _ (by omega)]
      simp
theorem filt_step {p q : Nat → Bool} {t : Nat} (ht : p t = true) (hl : ∀ i, i < t → p i = false) (hq : ∀ i, q i = (p i && decide (i ≠ t))) : ∀ {n : Nat}, t < n → (List.range n).filter p = t :: (List.range n).filter q
 | n + 1, h => by
   rw [List.range_succ, List.filter_append, List.filter_append]
   by_cases e : t = n
   ·subst e
    have e1 : (List.range t).filter p = [] := List.filter_eq_nil_iff.2 fun a ha => by rw [hl a (List.mem_range.1 ha)]; simp
    have e2 : (List.range t).filter q = [] := List.filter_eq_nil_iff.2 fun a ha => by rw [hq, hl a (List.mem_range.1 ha)]; simp
    rw [e1, e2, List.filter_cons, if_pos ht, List.filter_cons, hq t]
    simp
   ·rw [filt_step ht hl hq (n := n) (by omega), List.cons_append]
    congr 2
    have : q n = p n := by rw [hq]; have : n ≠ t := fun q => e q.symm; simp [this]
    rw [List.filter_cons, List.filter_cons, this]
    rfl
def bts (s : Nat) : List Int := ((List.range 64).filter fun i => s.testBit i).map fun i : Nat => (i : Int)
theorem bts_zero : bts 0 = [] := by
 unfold bts
 rw [List.filter_eq_nil_iff.2 fun a _ => by simp]
 rfl
theorem bts_step {s : Nat} (h0 : 0 < s) (h : s < 2 ^ 64) : bts s = (tzA 64 s : Int) :: bts (s &&& (s - 1)) := by
 obtain ⟨h1, h2, h3, h4⟩ := tz_bit h0 h
 unfold bts
 rw [filt_step (p := fun i => s.testBit i) h2 h3 h4 h1]
 rfl
theorem clr_lt {s : Nat} (h0 : 0 < s) : s &&& (s - 1) < s := Nat.lt_of_le_of_lt Nat.and_le_right (by omega)
theorem bts_len (s : Nat) : (bts s).length ≤ 64 := by
 unfold bts
 rw [List.length_map]
 exact Nat.le_trans (List.length_filter_le _ _) (by simp)
theorem filt_low {p : Nat → Bool} {n : Nat} : ∀ {k : Nat}, (List.range (n + k)).filter (fun i => decide (i < n) && p i) = (List.range n).filter p
 | 0 => by
   refine List.filter_congr fun i hi => ?_
   have := List.mem_range.1 hi
   simp only [Nat.add_zero] at this
   simp [this]
 | k + 1 => by
   have : ¬ n + k < n := by omega
   rw [← Nat.add_assoc, List.range_succ, List.filter_append, filt_low (k := k), List.filter_cons]
   simp [this]
def ftL (m : List Hd) (s : Sz) (k : Nat) : List Int := ((List.range k).filter fun i => fitB s (hD m i)).map fun i : Nat => (i : Int)
theorem ftL_succ {m : List Hd} {s : Sz} {k : Nat} : ftL m s (k + 1) = if fitB s (hD m k) = true then ftL m s k ++ [(k : Int)] else ftL m s k := by
 unfold ftL
 rw [List.range_succ, List.filter_append, List.map_append]
 by_cases c : fitB s (hD m k) = true
 ·simp [c]
 ·simp [c]
theorem bts_fit {m : List Hd} {s : Sz} (hm : m.length ≤ 40) : bts (fitS m s) = ftL m s m.length := by
 unfold bts ftL fitS
 congr 1
 have := filt_low (p := fun i => fitB s (hD m i)) (n := m.length) (k := 64 - m.length)
 rw [show m.length + (64 - m.length) = 64 by omega] at this
 rw [← this]
 refine List.filter_congr fun i _ => ?_
 rw [sv_bit]
def deB : List Nat := [0, 1, 56, 2, 57, 49, 28, 3, 61, 58, 42, 50, 38, 29, 17, 4, 62, 47, 59, 36, 45, 43, 51, 22, 53, 39, 33, 30, 24, 18, 12, 5, 63, 55, 48, 27, 60, 41, 37, 16, 46, 35, 44, 21, 52, 32, 23, 11, 54, 26, 40, 15, 34, 20, 31, 10, 25, 14, 19, 9, 13, 8, 7, 6]
end Go.Proofs.YtjaihaccehaicaaDoor
set_option linter.unusedVariables false
namespace Go.Am
section
variable {P : Program} {N : Nat} {Q : Exit → St → AH → Prop} {st : St} {h : AH}
theorem w_frzS {c : AC} (d : Nat) {t n a : Nat} (k : Nat) {cs : List AV} (hm : h.m t = some (.cells true cs)) (hd : st.get d = .sl t 0 n a) (hl : n * k = cs.length) (w : W P N c Q ((d, .vs n cs) :: st) (h.kill t)) : W P N c Q st h :=
 w_frz hm (fun x => by
  simp only [St.get]
  by_cases e : x = d
  ·subst e
   rw [if_pos rfl, hd]
   have := @FrzV.sl t cs 0 n k a (by omega)
   rwa [List.drop_zero, hl, List.take_length] at this
  ·rw [if_neg e]; exact .same) w
theorem w_nilS {c : AC} (d : Nat) {a : Nat} (hd : st.get d = .sl 0 0 0 a) (w : W P N c Q ((d, .vs 0 []) :: st) h) : W P N c Q st h :=
 w_frz0 (fun x => by
  rw [show St.get ((d, AV.vs 0 []) :: st) x = if x = d then .vs 0 [] else st.get x from rfl]
  by_cases e : x = d
  ·subst e; rw [if_pos rfl, hd]; exact .nil
  ·rw [if_neg e]; exact .same) w
end
end Go.Am
set_option linter.unusedVariables false
set_option linter.unusedSimpArgs false
namespace Go.Proofs.YtjaihaccehaicaaDoor
open Go Go.Am Go.Proofs
theorem TABC_deB : TABC = deB.map fun n : Nat => AV.i .u8 (n : Int) := rfl
theorem deB_idx : ∀ k : Fin 64, deB[(2 ^ k.val * 285870213051353865) % 2 ^ 64 / 2 ^ 58]? = some k.val := by decide +kernel
theorem TABC_at {k : Nat} (h : k < 64) : TABC[(2 ^ k * 285870213051353865) % 2 ^ 64 / 2 ^ 58]? = some (.i .u8 (k : Int)) := by
 rw [TABC_deB, List.getElem?_map, deB_idx ⟨k, h⟩]; rfl
theorem wrapU (n : Int) : IntKind.u64.wrap n = n % 18446744073709551616 := rfl
theorem rd_one (cs : List AV) (o : Nat) : rd cs o none = cs[o]? := rfl
theorem RG70 : (type_of% @c70r0.eq_1) ∧ (type_of% @c70r1.eq_1) ∧ (type_of% @c70r2.eq_1) ∧ (type_of% @c70r3.eq_1) := ⟨@c70r0.eq_1, @c70r1.eq_1, @c70r2.eq_1, @c70r3.eq_1⟩
theorem d70 (x : Nat) (h0 : 0 < x) (h : x < 2 ^ 64) : PC Tryd.prog 70 [.i .u64 (x : Int)] (.i .i64 (tzA 64 x : Nat)) := by
 obtain ⟨t1, -, -, -⟩ := tz_bit h0 h
 have n1 : IntKind.u64.wrap (0 - (x : Int)) = ((2 ^ 64 - x : Nat) : Int) := by
  rw [wrapU]; omega
 have n2 := and_64 h (show 2 ^ 64 - x < 2 ^ 64 by omega)
 rw [neg_and h0 h] at n2
 have z := eq_false (show ¬ (x : Int) = 0 by omega)
 generalize tzA 64 x = k at *
 have n3 : IntKind.u64.wrap (((2 ^ k : Nat) : Int) * 285870213051353865) = ((2 ^ k * 285870213051353865 % 2 ^ 64 : Nat) : Int) := by
  rw [wrapU]; generalize 2 ^ k = y; omega
 have n4 := shr_64 (2 ^ k * 285870213051353865 % 2 ^ 64) 58 (by omega)
 have n5 : ((2 ^ k * 285870213051353865 % 2 ^ 64 / 2 ^ 58 : Nat) : Int) < 64 := by
  generalize 2 ^ k * 285870213051353865 = y; omega
 have n6 := TABC_at t1
 have n7 : IntKind.i64.wrap (k : Int) = k := wrap64 (by omega) (by omega)
 generalize 2 ^ k * 285870213051353865 % 2 ^ 64 / 2 ^ 58 = j at *
 generalize 2 ^ k * 285870213051353865 % 2 ^ 64 = i at *
 generalize 2 ^ k = y at *
 generalize 2 ^ 64 - x = v at *
 have j0 : (0 : Int) ≤ (j : Int) := by omega
 refine pc_fn fn70 (by simp only [AV.plains, AV.plain, il_plain, bl_plain, Bool.and_true, Bool.true_and, Bool.and_self]) (by simp only [AV.plains, AV.plain, il_plain, bl_plain, Bool.and_true, Bool.true_and, Bool.and_self]) (Nat.le_of_ble_eq_true rfl) ?_
 rw [initSt1]
 repeat' first | (with_reducible first | refine k_seq ?_ | refine k_skip ?_ | refine k_blkS ?_ | refine k_blkR ?_ | refine k_blkC ?_ | refine k_blkH ?_ | refine k_blkB ?_ | refine k_blkK ?_ | refine k_blkE ?_ | refine k_reg ?_) | with_reducible refine r_done ?_ | with_reducible refine s_go (by simp (disch := omega) only [z, n1, n2, n3, n4, n5, n6, n7, j0, rd_one, RG70, EVA, plug, eq_self, simprocAttr]; with_reducible rfl) ?_ | ((with_reducible refine chk_r ?_); refine r_callF (by simp only [CA, simprocAttr]; rfl) (by exact rfl) (by simp only [CA, simprocAttr]; rfl) rfl ?_) | (with_reducible refine k_condP (by simp only [GA, simprocAttr]; rfl) (by first | (simp only [BO]; rfl) | rfl) (fun ht => ?_) (fun ht => ?_) <;> try (first | exact False.elim ht | exact absurd rfl ht | exact absurd trivial ht | exact Bool.noConfusion ht)) | (with_reducible refine k_ret ?_; repeat with_reducible (first | refine ret_thru ?_ | refine ret_blk ?_ | refine fin ?_)) | (with_reducible refine k_exit ?_; repeat with_reducible (first | refine thru ?_ | refine out_blk ?_ | refine pass (by decide) ?_)) | ((first | refine post1 ?_ | refine post2 ?_ | refine post3 ?_); simp only [GA, simprocAttr]) | refine post0 ?_
 all_goals first | exact ends_of | exact ends_eq rfl
theorem a43 (s : Int) (h : AH) : ACalls Tryd.prog 43 [.i .u64 s] h fun r h' => ∃ t, r = .fn 69 [] [.p t 0] ∧ h.nx ≤ t ∧ h'.m t = some (.cells true [.i .u64 s]) ∧ (∀ u, u < h.nx → h'.m u = h.m u) ∧ h.nx ≤ h'.nx := by
 refine a_fn fn43 (by simp) fun ok pos => ?_
 rw [initSt1]
 repeat' first | (with_reducible first | refine k_seq ?_ | refine k_skip ?_ | refine k_blkS ?_ | refine k_blkR ?_ | refine k_blkC ?_ | refine k_blkH ?_ | refine k_blkB ?_ | refine k_blkK ?_ | refine k_blkE ?_ | refine k_reg ?_) | with_reducible refine r_done ?_ | with_reducible refine s_go (by simp (disch := omega) only [c43r0, c43r1, EVA, plug, eq_self, simprocAttr]; with_reducible rfl) ?_ | ((with_reducible refine chk_r ?_); refine r_callF (by simp only [CA, simprocAttr]; rfl) (by exact rfl) (by simp only [CA, simprocAttr]; rfl) rfl ?_) | (with_reducible refine k_condP (by simp only [GA, simprocAttr]; rfl) (by first | (simp only [BO]; rfl) | rfl) (fun ht => ?_) (fun ht => ?_) <;> try (first | exact False.elim ht | exact absurd rfl ht | exact absurd trivial ht | exact Bool.noConfusion ht)) | (with_reducible refine k_ret ?_; repeat with_reducible (first | refine ret_thru ?_ | refine ret_blk ?_ | refine fin ?_)) | (with_reducible refine k_exit ?_; repeat with_reducible (first | refine thru ?_ | refine out_blk ?_ | refine pass (by decide) ?_)) | ((first | refine post1 ?_ | refine post2 ?_ | refine post3 ?_); simp only [GA, simprocAttr]) | refine post0 ?_
 refine ⟨_, rfl, Nat.le_refl _, by simp (disch := omega) only [c43r0, c43r1, EVA, plug, eq_self, simprocAttr] <;> rfl, fun u hu => ?_, by simp (disch := omega) only [c43r0, c43r1, EVA, plug, eq_self, simprocAttr] <;> omega⟩
 have : ¬ u = h.nx := by omega
 simp (disch := omega) only [this, c43r0, c43r1, EVA, plug, eq_self, simprocAttr]
abbrev cl (s : Nat) : Blk := .cells true [.i .u64 (s : Int)]
theorem end68 {R : AV → AH → Prop} {sv : AV} {t tb x : Nat} {xs : List Int} {h : AH} (A : App sv t tb x xs h) (hA : ∀ h2, (∀ u, h2.m u = (h.kill t).m u) → h.nx ≤ h2.nx → R (.sl x 0 xs.length 1) h2) :
 W0 Tryd.prog 13 (.seq (.reg c68r5) .ret) (athen (Post q68 R) (Fin (Post q68 R))) [(6, sv), (4, .sl 0 0 0 0), (2, .p tb 0), (0, .sl 0 0 0 0), (1, sv)] (h.kill t) := by
 obtain ⟨hr, hb, hx, x0, t1, t2, t3⟩ := A
 have t1' : ¬ tb = t := fun q => t1 q.symm
 have hb' : (h.kill t).m tb = some (.cells true [.sl x 0 xs.length 1]) := by simp only [AH.kill, t1', if_false]; exact hb
 refine w0_of ?_
 repeat' first | (with_reducible first | refine k_seq ?_ | refine k_skip ?_ | refine k_blkS ?_ | refine k_blkR ?_ | refine k_blkC ?_ | refine k_blkH ?_ | refine k_blkB ?_ | refine k_blkK ?_ | refine k_blkE ?_ | refine k_reg ?_) | with_reducible refine r_done ?_ | with_reducible refine s_go (by simp (disch := omega) only [hb', row_m hb', read_row (row_m hb'), RG68, EVA, plug, eq_self, simprocAttr]; with_reducible rfl) ?_ | ((with_reducible refine chk_r ?_); refine r_callF (by simp only [CA, simprocAttr]; rfl) (by exact rfl) (by simp only [CA, simprocAttr]; rfl) rfl ?_) | (with_reducible refine k_condP (by simp only [GA, simprocAttr]; rfl) (by first | (simp only [BO]; rfl) | rfl) (fun ht => ?_) (fun ht => ?_) <;> try (first | exact False.elim ht | exact absurd rfl ht | exact absurd trivial ht | exact Bool.noConfusion ht)) | (with_reducible refine k_ret ?_; repeat with_reducible (first | refine ret_thru ?_ | refine ret_blk ?_ | refine fin ?_)) | (with_reducible refine k_exit ?_; repeat with_reducible (first | refine thru ?_ | refine out_blk ?_ | refine pass (by decide) ?_)) | ((first | refine post1 ?_ | refine post2 ?_ | refine post3 ?_); simp only [GA, simprocAttr]) | refine post0 ?_
 exact hA _ (fun u => rfl) (by simp only [AH.bump_nx, AH.kill_nx]; omega)
set_option maxHeartbeats 1000000 in
theorem n68a (t : Nat) (s : Nat) (hs : s < 2 ^ 64) (h : AH) (hm : h.m t = some (cl s)) : ACalls Tryd.prog 68 [.sl 0 0 0 0, .fn 69 [] [.p t 0]] h fun r h' => r = vi (bts s) ∧ Upd t [.i .u64 0] h h' := by
 refine acalls_frz ?_
 refine ACalls.mono (R := EndsW (vi (bts s)) (Upd t [.i .u64 0] h)) ?_ fun r h' ⟨h'', F, hR⟩ => ⟨_, h'', F, rfl, hR⟩
 refine a_fn0 fn68 (by simp) fun ok pos => ?_
 have lt := ok.m hm
 rw [initSt2]
 refine k0_seq ?_
 repeat' first | (with_reducible first | refine k_seq ?_ | refine k_skip ?_ | refine k_blkS ?_ | refine k_blkR ?_ | refine k_blkC ?_ | refine k_blkH ?_ | refine k_blkB ?_ | refine k_blkK ?_ | refine k_blkE ?_ | refine k_reg ?_) | with_reducible refine r_done ?_ | with_reducible refine s_go (by simp (disch := omega) only [RG68, EVA, plug, eq_self, simprocAttr]; with_reducible rfl) ?_ | ((with_reducible refine chk_r ?_); refine r_callF (by simp only [CA, simprocAttr]; rfl) (by exact rfl) (by simp only [CA, simprocAttr]; rfl) rfl ?_) | (with_reducible refine k_condP (by simp only [GA, simprocAttr]; rfl) (by first | (simp only [BO]; rfl) | rfl) (fun ht => ?_) (fun ht => ?_) <;> try (first | exact False.elim ht | exact absurd rfl ht | exact absurd trivial ht | exact Bool.noConfusion ht)) | (with_reducible refine k_ret ?_; repeat with_reducible (first | refine ret_thru ?_ | refine ret_blk ?_ | refine fin ?_)) | (with_reducible refine k_exit ?_; repeat with_reducible (first | refine thru ?_ | refine out_blk ?_ | refine pass (by decide) ?_)) | ((first | refine post1 ?_ | refine post2 ?_ | refine post3 ?_); simp only [GA, simprocAttr]) | refine post0 ?_
 refine k0_seq0 (k0_seq ?_)
 refine w_virtH 1 (s := h.nx) (ds := [.sl 0 0 0 0]) (i := 0) (by simp (disch := omega) only [RG68, EVA, plug, eq_self, simprocAttr] <;> rfl) rfl fun pos1 lt1 => ?_
 repeat' first | (with_reducible first | refine k_seq ?_ | refine k_skip ?_ | refine k_blkS ?_ | refine k_blkR ?_ | refine k_blkC ?_ | refine k_blkH ?_ | refine k_blkB ?_ | refine k_blkK ?_ | refine k_blkE ?_ | refine k_reg ?_) | with_reducible refine r_done ?_ | with_reducible refine s_go (by simp (disch := omega) only [RG68, EVA, plug, eq_self, simprocAttr]; with_reducible rfl) ?_ | ((with_reducible refine chk_r ?_); refine r_callF (by simp only [CA, simprocAttr]; rfl) (by exact rfl) (by simp only [CA, simprocAttr]; rfl) rfl ?_) | (with_reducible refine k_condP (by simp only [GA, simprocAttr]; rfl) (by first | (simp only [BO]; rfl) | rfl) (fun ht => ?_) (fun ht => ?_) <;> try (first | exact False.elim ht | exact absurd rfl ht | exact absurd trivial ht | exact Bool.noConfusion ht)) | (with_reducible refine k_ret ?_; repeat with_reducible (first | refine ret_thru ?_ | refine ret_blk ?_ | refine fin ?_)) | (with_reducible refine k_exit ?_; repeat with_reducible (first | refine thru ?_ | refine out_blk ?_ | refine pass (by decide) ?_)) | ((first | refine post1 ?_ | refine post2 ?_ | refine post3 ?_); simp only [GA, simprocAttr]) | refine post0 ?_
 refine k0_blk (w0_rf rfl fun ok2 pos2 => ?_)
 simp only [List.nil_append, List.cons_append]
 refine i_fn fn69 rfl (by simp) fun ok3 pos3 => ?_
 rw [initSt2]
 have a1 : ¬ t = h.nx := by omega
 have a2 : ¬ t = h.nx + 2 := by omega
 have a3 : ¬ t = h.nx + 2 + 1 := by omega
 have a4 : ¬ t = h.nx + 2 + 1 + 1 := by omega
 refine k_blk (k_loopW (X := Nat × Nat × List Int) [0, 1] (fun x => [(0, .fy (h.nx + 2 + 1 + 1)), (1, .p t 0)]) (fun x => x.2.1)
  (fun x h' => App (.fn 69 [] [.p t 0]) (h.nx + 2 + 1 + 1) h.nx x.1 x.2.2 h' ∧ h'.m t = some (cl x.2.1) ∧ x.2.1 < 2 ^ 64 ∧ x.2.2 ++ bts x.2.1 = bts s ∧ (∀ u, u < h.nx → u ≠ t → h'.m u = h.m u) ∧ h.nx + 2 + 1 + 1 < h'.nx ∧ (h.nx ≤ x.1)) (h.nx + 2, s, [])
  (by simp only [Am.keep, List.map_cons, List.map_nil, GA, simprocAttr]; try rfl) ⟨⟨by simp (disch := omega) only [c69r0, c69r1, c69r2, EVA, plug, eq_self, simprocAttr] <;> rfl, by simp (disch := omega) only [c69r0, c69r1, c69r2, EVA, plug, eq_self, simprocAttr] <;> rfl, by simp (disch := omega) only [c69r0, c69r1, c69r2, EVA, plug, eq_self, simprocAttr] <;> rfl, by omega, by omega, by omega, by omega⟩, by simp (disch := omega) only [hm, a1, a2, a3, a4, c69r0, c69r1, c69r2, EVA, plug, eq_self, simprocAttr], hs, rfl, fun u hu hn => ?_, by simp (disch := omega) only [c69r0, c69r1, c69r2, EVA, plug, eq_self, simprocAttr] <;> omega, by omega⟩ ?_)
 ·have b1 : ¬ u = h.nx := by omega
  have b2 : ¬ u = h.nx + 2 := by omega
  have b3 : ¬ u = h.nx + 2 + 1 := by omega
  have b4 : ¬ u = h.nx + 2 + 1 + 1 := by omega
  simp (disch := omega) only [b1, b2, b3, b4, c69r0, c69r1, c69r2, EVA, plug, eq_self, simprocAttr]
 rintro ⟨x, y, xs⟩ h2 ⟨A, hy, y64, hb, hk, hn, hx⟩ ok4 pos4
 simp only at A hy y64 hb hk hn hx ⊢
 have ll := bts_len s
 rw [← hb, List.length_append] at ll
 have lx := ok4.m A.c
 by_cases y0 : y = 0
 ·subst y0
  rw [bts_zero, List.append_nil] at hb
  subst hb
  repeat' first | (with_reducible first | refine k_seq ?_ | refine k_skip ?_ | refine k_blkS ?_ | refine k_blkR ?_ | refine k_blkC ?_ | refine k_blkH ?_ | refine k_blkB ?_ | refine k_blkK ?_ | refine k_blkE ?_ | refine k_reg ?_) | with_reducible refine r_done ?_ | with_reducible refine s_go (by simp (disch := omega) only [hy, row_m hy, read_row (row_m hy), c69r0, c69r1, c69r2, EVA, plug, eq_self, simprocAttr]; with_reducible rfl) ?_ | ((with_reducible refine chk_r ?_); refine r_callF (by simp only [CA, simprocAttr]; rfl) (by exact rfl) (by simp only [CA, simprocAttr]; rfl) rfl ?_) | (with_reducible refine k_condP (by simp only [GA, simprocAttr]; rfl) (by first | (simp only [BO]; rfl) | rfl) (fun ht => ?_) (fun ht => ?_) <;> try (first | exact False.elim ht | exact absurd rfl ht | exact absurd trivial ht | exact Bool.noConfusion ht)) | (with_reducible refine k_ret ?_; repeat with_reducible (first | refine ret_thru ?_ | refine ret_blk ?_ | refine fin ?_)) | (with_reducible refine k_exit ?_; repeat with_reducible (first | refine thru ?_ | refine out_blk ?_ | refine pass (by decide) ?_)) | ((first | refine post1 ?_ | refine post2 ?_ | refine post3 ?_); simp only [GA, simprocAttr]) | refine post0 ?_
  refine ⟨A.r, end68 ⟨A.r, A.b, A.c, A.x0, A.t1, A.t2, A.t3⟩ fun h3 e3 n3 => ?_⟩
  have kn : ∀ u, u ≠ h.nx + 2 + 1 + 1 → h3.m u = h2.m u := fun u hu => by
   rw [e3 u]
   simp (disch := omega) only [hu, c69r0, c69r1, c69r2, EVA, plug, eq_self, simprocAttr]
  refine ⟨h3.kill x, .step (by rw [kn x (fun q => A.t2 q.symm)]; exact A.c) (FrzH.kill _ _ _) ?_ .done, ?_, fun u h1 h2' => ?_, ?_⟩
  ·have := @FrzV.sl x (il (bts s)) 0 (bts s).length 1 1 (by rw [il_len]; omega)
   rwa [List.drop_zero, Nat.mul_one, List.take_of_length_le (by rw [il_len]; exact Nat.le_refl _)] at this
  ·have : ¬ t = x := by omega
   simp only [AH.kill, this, if_false]
   rw [kn t (by omega)]
   exact hy
  ·have : ¬ u = x := by omega
   simp only [AH.kill, this, if_false]
   rw [kn u (by omega)]
   exact hk u h1 h2'
  ·simp only [AH.kill_nx]
   simp only [AH.bump_nx] at n3
   omega
 ·have z := eq_false (show ¬ (y : Int) = 0 by omega)
  have st := bts_step (s := y) (by omega) y64
  rw [st] at hb
  have q70 := d70 y (by omega) y64
  have lt2 := ok4.m hy
  have w1 : IntKind.u64.wrap ((y : Int) - 1) = ((y - 1 : Nat) : Int) := by rw [wrapU]; omega
  have w2 := and_64 y64 (show y - 1 < 2 ^ 64 by omega)
  have w3 := clr_lt (s := y) (by omega)
  generalize tzA 64 y = k at *
  obtain ⟨y', ey⟩ : ∃ y', y' = y &&& (y - 1) := ⟨_, rfl⟩
  rw [← ey] at hb w2 w3
  repeat' first | with_reducible refine k_seq ?_ | with_reducible refine k_skip ?_ | with_reducible refine k_blkS ?_ | with_reducible refine k_blkR ?_ | with_reducible refine k_blkC ?_ | with_reducible refine k_blkH ?_ | with_reducible refine k_blkB ?_ | with_reducible refine k_blkK ?_ | with_reducible refine k_blkE ?_ | (fail_if_success (with_reducible refine k_reg (ops := c69r1) ?_)); with_reducible refine k_reg ?_ | with_reducible refine r_done ?_ | with_reducible refine s_go (by simp (disch := omega) only [hy, row_m hy, read_row (row_m hy), z, c69r0, c69r1, c69r2, EVA, plug, eq_self, simprocAttr]; with_reducible rfl) ?_ | ((with_reducible refine chk_r ?_); refine r_callF (by simp only [CA, simprocAttr]; rfl) (by exact rfl) (by simp only [CA, simprocAttr]; rfl) rfl ?_) | (with_reducible refine k_condP (by simp only [GA, simprocAttr]; rfl) (by first | (simp only [BO]; rfl) | rfl) (fun ht => ?_) (fun ht => ?_) <;> try (first | exact False.elim ht | exact absurd rfl ht | exact absurd trivial ht | exact Bool.noConfusion ht)) | (with_reducible refine k_ret ?_; repeat with_reducible (first | refine ret_thru ?_ | refine ret_blk ?_ | refine fin ?_)) | (with_reducible refine k_exit ?_; repeat with_reducible (first | refine thru ?_ | refine out_blk ?_ | refine pass (by decide) ?_)) | ((first | refine post1 ?_ | refine post2 ?_ | refine post3 ?_); simp only [GA, simprocAttr]) | refine post0 ?_
  refine k_yld 3 rfl ?_
  repeat' first | (with_reducible first | refine k_seq ?_ | refine k_skip ?_ | refine k_blkS ?_ | refine k_blkR ?_ | refine k_blkC ?_ | refine k_blkH ?_ | refine k_blkB ?_ | refine k_blkK ?_ | refine k_blkE ?_ | refine k_reg ?_) | with_reducible refine r_done ?_ | with_reducible refine s_go (by simp (disch := omega) only [hy, row_m hy, read_row (row_m hy), List.take_succ_cons, List.take_zero, c69r0, c69r1, c69r2, EVA, plug, eq_self, simprocAttr]; with_reducible rfl) ?_ | ((with_reducible refine chk_r ?_); refine r_callF (by simp only [CA, simprocAttr]; rfl) (by exact rfl) (by simp only [CA, simprocAttr]; rfl) rfl ?_) | ((with_reducible refine chk_r ?_); refine r_callP (by simp only [CA, simprocAttr]; rfl) (by simp only [CA, simprocAttr]; rfl) (by first | exact q70 _) rfl ?_) | (with_reducible refine k_condP (by simp only [GA, simprocAttr]; rfl) (by first | (simp only [BO]; rfl) | rfl) (fun ht => ?_) (fun ht => ?_) <;> try (first | exact False.elim ht | exact absurd rfl ht | exact absurd trivial ht | exact Bool.noConfusion ht)) | (with_reducible refine k_ret ?_; repeat with_reducible (first | refine ret_thru ?_ | refine ret_blk ?_ | refine fin ?_)) | (with_reducible refine k_exit ?_; repeat with_reducible (first | refine thru ?_ | refine out_blk ?_ | refine pass (by decide) ?_)) | ((first | refine post1 ?_ | refine post2 ?_ | refine post3 ?_); simp only [GA, simprocAttr]) | refine post0 ?_
  refine ⟨_, rfl, ?_⟩
  refine round81 (x := x) (xs := xs) (v := (k : Int)) (fun t b hb => by have := ok4 t b hb; simp only [AH.bump_nx]; omega) ⟨A.r, A.b, A.c, A.x0, A.t1, A.t2, A.t3⟩ (by omega) fun x' h' hx' A' kp nx => ?_
  simp only [AH.bump_nx] at hx' nx
  have hy' : h'.m t = some (cl y) := by
   rw [kp t (by simp only [AH.bump_nx]; omega) (by omega) (by omega)]
   exact hy
  have lt3 : t < h.nx := lt
  repeat' first | (with_reducible first | refine k_seq ?_ | refine k_skip ?_ | refine k_blkS ?_ | refine k_blkR ?_ | refine k_blkC ?_ | refine k_blkH ?_ | refine k_blkB ?_ | refine k_blkK ?_ | refine k_blkE ?_ | refine k_reg ?_) | with_reducible refine r_done ?_ | with_reducible refine s_go (by simp (disch := omega) only [List.drop_succ_cons, List.drop_zero, hy', row_m hy', read_row (row_m hy'), w1, w2, c69r0, c69r1, c69r2, EVA, plug, eq_self, simprocAttr]; with_reducible rfl) ?_ | ((with_reducible refine chk_r ?_); refine r_callF (by simp only [CA, simprocAttr]; rfl) (by exact rfl) (by simp only [CA, simprocAttr]; rfl) rfl ?_) | (with_reducible refine k_condP (by simp only [GA, simprocAttr]; rfl) (by first | (simp only [BO]; rfl) | rfl) (fun ht => ?_) (fun ht => ?_) <;> try (first | exact False.elim ht | exact absurd rfl ht | exact absurd trivial ht | exact Bool.noConfusion ht)) | (with_reducible refine k_ret ?_; repeat with_reducible (first | refine ret_thru ?_ | refine ret_blk ?_ | refine fin ?_)) | (with_reducible refine k_exit ?_; repeat with_reducible (first | refine thru ?_ | refine out_blk ?_ | refine pass (by decide) ?_)) | ((first | refine post1 ?_ | refine post2 ?_ | refine post3 ?_); simp only [GA, simprocAttr]) | refine post0 ?_
  have e1 : ¬ h.nx + 2 + 1 + 1 = t := by omega
  have e2 : ¬ h.nx = t := by omega
  have e3 : ¬ x' = t := by omega
  refine ⟨(x', y', xs ++ [(k : Int)]), w3, (by simp only [Am.keep, List.map_cons, List.map_nil, GA, simprocAttr]; try rfl), ⟨by simp (disch := omega) only [e1, A'.r, c69r0, c69r1, c69r2, EVA, plug, eq_self, simprocAttr], by simp (disch := omega) only [e2, A'.b, c69r0, c69r1, c69r2, EVA, plug, eq_self, simprocAttr], by simp (disch := omega) only [e3, A'.c, c69r0, c69r1, c69r2, EVA, plug, eq_self, simprocAttr], A'.x0, A'.t1, A'.t2, A'.t3⟩, by simp (disch := omega) only [c69r0, c69r1, c69r2, EVA, plug, eq_self, simprocAttr] <;> rfl, by show y' < 2 ^ 64; omega, ?_, fun u h1 h2' => ?_, by simp (disch := omega) only [c69r0, c69r1, c69r2, EVA, plug, eq_self, simprocAttr] <;> omega, by show h.nx ≤ x'; omega⟩
  ·rw [List.append_assoc]; exact hb
  ·have := kp u (by simp only [AH.bump_nx]; omega) (by omega) (by omega)
   simp (disch := omega) only [h2', this, hk u h1 h2', c69r0, c69r1, c69r2, EVA, plug, eq_self, simprocAttr]
theorem n42 (t : Nat) (s : Nat) (hs : s < 2 ^ 64) (h : AH) (hm : h.m t = some (cl s)) : ACalls Tryd.prog 42 [.fn 69 [] [.p t 0]] h fun r h' => r = vi (bts s) ∧ Upd t [.i .u64 0] h h' := by
 refine w_fn fn42 (by simp) fun ok pos => ?_
 have lt := ok.m hm
 rw [initSt1]
 repeat' first | (with_reducible first | refine k_seq ?_ | refine k_skip ?_ | refine k_blkS ?_ | refine k_blkR ?_ | refine k_blkC ?_ | refine k_blkH ?_ | refine k_blkB ?_ | refine k_blkK ?_ | refine k_blkE ?_ | refine k_reg ?_) | with_reducible refine r_done ?_ | with_reducible refine s_go (by simp (disch := omega) only [c42r0, c42r1, EVA, plug, eq_self, simprocAttr]; with_reducible rfl) ?_ | ((with_reducible refine chk_r ?_); refine r_callF (by simp only [CA, simprocAttr]; rfl) (by exact rfl) (by simp only [CA, simprocAttr]; rfl) rfl ?_) | ((with_reducible refine chk_r ?_); refine r_callX (by simp only [CA, simprocAttr]; rfl) (by simp only [CA, simprocAttr]; rfl) (by first | exact n68a t s hs _ (by simp (disch := omega) only [hm, c42r0, c42r1, EVA, plug, eq_self, simprocAttr])) rfl ?_) | (with_reducible refine k_condP (by simp only [GA, simprocAttr]; rfl) (by first | (simp only [BO]; rfl) | rfl) (fun ht => ?_) (fun ht => ?_) <;> try (first | exact False.elim ht | exact absurd rfl ht | exact absurd trivial ht | exact Bool.noConfusion ht)) | (with_reducible refine k_ret ?_; repeat with_reducible (first | refine ret_thru ?_ | refine ret_blk ?_ | refine fin ?_)) | (with_reducible refine k_exit ?_; repeat with_reducible (first | refine thru ?_ | refine out_blk ?_ | refine pass (by decide) ?_)) | ((first | refine post1 ?_ | refine post2 ?_ | refine post3 ?_); simp only [GA, simprocAttr]) | refine post0 ?_
 rintro r h2 ⟨rfl, U⟩
 repeat' first | (with_reducible first | refine k_seq ?_ | refine k_skip ?_ | refine k_blkS ?_ | refine k_blkR ?_ | refine k_blkC ?_ | refine k_blkH ?_ | refine k_blkB ?_ | refine k_blkK ?_ | refine k_blkE ?_ | refine k_reg ?_) | with_reducible refine r_done ?_ | with_reducible refine s_go (by simp (disch := omega) only [c42r0, c42r1, EVA, plug, eq_self, simprocAttr]; with_reducible rfl) ?_ | ((with_reducible refine chk_r ?_); refine r_callF (by simp only [CA, simprocAttr]; rfl) (by exact rfl) (by simp only [CA, simprocAttr]; rfl) rfl ?_) | (with_reducible refine k_condP (by simp only [GA, simprocAttr]; rfl) (by first | (simp only [BO]; rfl) | rfl) (fun ht => ?_) (fun ht => ?_) <;> try (first | exact False.elim ht | exact absurd rfl ht | exact absurd trivial ht | exact Bool.noConfusion ht)) | (with_reducible refine k_ret ?_; repeat with_reducible (first | refine ret_thru ?_ | refine ret_blk ?_ | refine fin ?_)) | (with_reducible refine k_exit ?_; repeat with_reducible (first | refine thru ?_ | refine out_blk ?_ | refine pass (by decide) ?_)) | ((first | refine post1 ?_ | refine post2 ?_ | refine post3 ?_); simp only [GA, simprocAttr]) | refine post0 ?_
 refine endsW ⟨by simp (disch := omega) only [U.m, c42r0, c42r1, EVA, plug, eq_self, simprocAttr], fun u h1 h2' => ?_, ?_⟩
 ·have := U.keep u (by simp only [AH.bump_nx]; omega) h2'
  simp (disch := omega) only [this, c42r0, c42r1, EVA, plug, eq_self, simprocAttr]
 ·have := U.nx
  simp only [AH.bump_nx] at this ⊢
  omega
end Go.Proofs.YtjaihaccehaicaaDoor
set_option linter.unusedVariables false
set_option linter.unusedSimpArgs false
namespace Go.Proofs.YtjaihaccehaicaaDoor
open Go Go.Am Go.Proofs
def vl (ls : List (List Int)) : List AV := ls.map fun l => vi l
theorem vl_len (ls : List (List Int)) : (vl ls).length = ls.length := by simp [vl]
theorem vl_snoc (ls : List (List Int)) (l : List Int) : vl ls ++ [vi l] = vl (ls ++ [l]) := by simp [vl]
theorem vl_get {ls : List (List Int)} {j : Nat} (h : j < ls.length) : (vl ls)[j]? = some (vi (ls.getD j [])) := by simp [vl, h]
theorem vl_plain (ls : List (List Int)) : AV.plains (vl ls) = true := plains_all fun x hx => by
 simp only [vl, List.mem_map] at hx
 obtain ⟨l, _, rfl⟩ := hx
 show AV.plain (.vs _ _) = true
 rw [AV.plain]
 exact il_plain l
def fitsR (l : List Sz) (m : List Hd) : List (List Int) × Int := if chk l m ≠ 0 then ([], chk l m) else (l.map fun s => ftL m s m.length, 0)
def fitK (l : List Sz) (m : List Hd) (k : Nat) : List (List Int) := (l.take k).map fun s => ftL m s m.length
theorem fitK_len {l : List Sz} {m : List Hd} {k : Nat} (h : k ≤ l.length) : (fitK l m k).length = k := by simp [fitK, h]
theorem fitK_succ {l : List Sz} {m : List Hd} {k : Nat} (h : k < l.length) : fitK l m (k + 1) = fitK l m k ++ [ftL m (zD l k) m.length] := by
 unfold fitK zD
 rw [List.take_add_one, List.getElem?_eq_getElem h, List.map_append, List.getD_eq_getElem?_getD, List.getElem?_eq_getElem h]
 rfl
theorem fitK_all (l : List Sz) (m : List Hd) : fitK l m l.length = l.map fun s => ftL m s m.length := by rw [fitK, List.take_length]
theorem ftL_len (m : List Hd) (s : Sz) (k : Nat) : (ftL m s k).length ≤ k := by
 unfold ftL
 rw [List.length_map]
 exact Nat.le_trans (List.length_filter_le _ _) (by simp)
theorem RG12 : (type_of% @c12r0.eq_1) ∧ (type_of% @c12r1.eq_1) ∧ (type_of% @c12r2.eq_1) ∧ (type_of% @c12r3.eq_1) ∧ (type_of% @c12r4.eq_1) ∧ (type_of% @c12r5.eq_1) ∧ (type_of% @c12r6.eq_1) ∧ (type_of% @c12r7.eq_1) ∧ (type_of% @c12r8.eq_1) ∧ (type_of% @c12r9.eq_1) ∧ (type_of% @c12r11.eq_1) := ⟨@c12r0.eq_1, @c12r1.eq_1, @c12r2.eq_1, @c12r3.eq_1, @c12r4.eq_1, @c12r5.eq_1, @c12r6.eq_1, @c12r7.eq_1, @c12r8.eq_1, @c12r9.eq_1, @c12r11.eq_1⟩
set_option maxHeartbeats 1000000 in
theorem d12 (l : List Sz) (m : List Hd) (hl : l.length ≤ 9223372036854775807) (hm : m.length ≤ 9223372036854775807) : PC Tryd.prog 12 [vZ l, vH m] (.tu [.vs (fitsR l m).1.length (vl (fitsR l m).1), .i .i64 (fitsR l m).2]) := by
 have q1 := pc41 l m hl hm
 unfold fitsR
 refine pc_fn fn12 (by simp only [AV.plains, AV.plain, il_plain, bl_plain, Bool.and_true, Bool.true_and, Bool.and_self, fleZ_plain, fleH_plain, vl_plain]) (by simp only [AV.plains, AV.plain, il_plain, bl_plain, Bool.and_true, Bool.true_and, Bool.and_self, fleZ_plain, fleH_plain, vl_plain]) (Nat.le_of_ble_eq_true rfl) ?_
 rw [initSt2]
 by_cases c : chk l m = 0
 ·rw [if_neg (by simp [c])]
  rw [c] at q1
  have q3 := pc48 l m (chk_ok c).1 (chk_ok c).2
  have L := (szsOk_iff.1 (chk_ok c).1).1
  have M := (hdsOk_iff.1 (chk_ok c).2).1
  repeat' first | (with_reducible first | refine k_seq ?_ | refine k_skip ?_ | refine k_blkS ?_ | refine k_blkR ?_ | refine k_blkC ?_ | refine k_blkH ?_ | refine k_blkB ?_ | refine k_blkK ?_ | refine k_blkE ?_ | refine k_reg ?_) | with_reducible refine r_done ?_ | with_reducible refine s_go (by simp (disch := omega) only [RG12, EVA, plug, eq_self, simprocAttr]; with_reducible rfl) ?_ | ((with_reducible refine chk_r ?_); refine r_callF (by simp only [CA, simprocAttr]; rfl) (by exact rfl) (by simp only [CA, simprocAttr]; rfl) rfl ?_) | ((with_reducible refine chk_r ?_); refine r_callP (by simp only [CA, simprocAttr]; rfl) (by simp only [CA, simprocAttr]; rfl) (by first | exact q1 _ | exact q3 _) rfl ?_) | (with_reducible refine k_condP (by simp only [GA, simprocAttr]; rfl) (by first | (simp only [BO]; rfl) | rfl) (fun ht => ?_) (fun ht => ?_) <;> try (first | exact False.elim ht | exact absurd rfl ht | exact absurd trivial ht | exact Bool.noConfusion ht)) | (with_reducible refine k_ret ?_; repeat with_reducible (first | refine ret_thru ?_ | refine ret_blk ?_ | refine fin ?_)) | (with_reducible refine k_exit ?_; repeat with_reducible (first | refine thru ?_ | refine out_blk ?_ | refine pass (by decide) ?_)) | ((first | refine post1 ?_ | refine post2 ?_ | refine post3 ?_); simp only [GA, simprocAttr]) | refine post0 ?_
  refine w_virt 1 7 rfl ?_
  refine k_blk (k_loopS (X := Nat) [7, 18, 19, 20] l.length (fun k y => [(7, .sl y 0 k 1), (18, .vs l.length (nu (fitL l m))), (19, .i .i64 l.length), (20, .i .i64 (k : Int))]) (fun k y h => y ≠ 0 ∧ h.m y = some (.cells true (vl (fitK l m k)))) _ (by simp only [Am.keep, List.map_cons, List.map_nil, GA, simprocAttr]; try rfl) ⟨?_, by simp (disch := omega) only [RG12, EVA, plug, eq_self, simprocAttr] <;> rfl⟩ ?_)
  ·simp only [AH.bump_nx]; omega
  rintro k y h hk ⟨hy, hmy⟩ ok pos
  have ly := ok.m hmy
  by_cases klt : k < l.length
  ·have klt' : (k : Int) < l.length := by omega
   have g2 := nu_get (l := fitL l m) (j := k) (by simp [fitL]; omega)
   rw [fitL_get klt] at g2
   have s64 := lt_64 (fitS_lt (m := m) (s := zD l k)) M
   have bf := bts_fit (s := zD l k) M
   have fs := fitK_succ (m := m) klt
   have fk := fitK_len (m := m) (Nat.le_of_lt klt)
   rw [← bf] at fs
   generalize fitS m (zD l k) = s at *
   repeat' first | (with_reducible first | refine k_seq ?_ | refine k_skip ?_ | refine k_blkS ?_ | refine k_blkR ?_ | refine k_blkC ?_ | refine k_blkH ?_ | refine k_blkB ?_ | refine k_blkK ?_ | refine k_blkE ?_ | refine k_reg ?_) | with_reducible refine r_done ?_ | with_reducible refine s_go (by simp (disch := omega) only [klt', g2, RG12, EVA, plug, eq_self, simprocAttr]; with_reducible rfl) ?_ | ((with_reducible refine chk_r ?_); refine r_callF (by simp only [CA, simprocAttr]; rfl) (by exact rfl) (by simp only [CA, simprocAttr]; rfl) rfl ?_) | ((with_reducible refine chk_r ?_); refine r_callX (by simp only [CA, simprocAttr]; rfl) (by simp only [CA, simprocAttr]; rfl) (by first | exact a43 _ _) rfl ?_) | (with_reducible refine k_condP (by simp only [GA, simprocAttr]; rfl) (by first | (simp only [BO]; rfl) | rfl) (fun ht => ?_) (fun ht => ?_) <;> try (first | exact False.elim ht | exact absurd rfl ht | exact absurd trivial ht | exact Bool.noConfusion ht)) | (with_reducible refine k_ret ?_; repeat with_reducible (first | refine ret_thru ?_ | refine ret_blk ?_ | refine fin ?_)) | (with_reducible refine k_exit ?_; repeat with_reducible (first | refine thru ?_ | refine out_blk ?_ | refine pass (by decide) ?_)) | ((first | refine post1 ?_ | refine post2 ?_ | refine post3 ?_); simp only [GA, simprocAttr]) | refine post0 ?_
   rintro r h2 ⟨t, rfl, t1, t2, t3, t4⟩
   simp only [AH.bump_nx] at t1 t3 t4
   repeat' first | (with_reducible first | refine k_seq ?_ | refine k_skip ?_ | refine k_blkS ?_ | refine k_blkR ?_ | refine k_blkC ?_ | refine k_blkH ?_ | refine k_blkB ?_ | refine k_blkK ?_ | refine k_blkE ?_ | refine k_reg ?_) | with_reducible refine r_done ?_ | with_reducible refine s_go (by simp (disch := omega) only [RG12, EVA, plug, eq_self, simprocAttr]; with_reducible rfl) ?_ | ((with_reducible refine chk_r ?_); refine r_callF (by simp only [CA, simprocAttr]; rfl) (by exact rfl) (by simp only [CA, simprocAttr]; rfl) rfl ?_) | ((with_reducible refine chk_r ?_); refine r_callX (by simp only [CA, simprocAttr]; rfl) (by simp only [CA, simprocAttr]; rfl) (by first | exact n42 t s s64 _ (by simp (disch := omega) only [t2, RG12, EVA, plug, eq_self, simprocAttr])) rfl ?_) | (with_reducible refine k_condP (by simp only [GA, simprocAttr]; rfl) (by first | (simp only [BO]; rfl) | rfl) (fun ht => ?_) (fun ht => ?_) <;> try (first | exact False.elim ht | exact absurd rfl ht | exact absurd trivial ht | exact Bool.noConfusion ht)) | (with_reducible refine k_ret ?_; repeat with_reducible (first | refine ret_thru ?_ | refine ret_blk ?_ | refine fin ?_)) | (with_reducible refine k_exit ?_; repeat with_reducible (first | refine thru ?_ | refine out_blk ?_ | refine pass (by decide) ?_)) | ((first | refine post1 ?_ | refine post2 ?_ | refine post3 ?_); simp only [GA, simprocAttr]) | refine post0 ?_
   rintro r h3 ⟨rfl, U⟩
   have hy3 : h3.m y = some (.cells true (vl (fitK l m k))) := by
    rw [U.keep y (by omega) (by intro e; subst e; omega), t3 y (by omega)]
    exact hmy
   repeat' first | (with_reducible first | refine k_seq ?_ | refine k_skip ?_ | refine k_blkS ?_ | refine k_blkR ?_ | refine k_blkC ?_ | refine k_blkH ?_ | refine k_blkB ?_ | refine k_blkK ?_ | refine k_blkE ?_ | refine k_reg ?_) | with_reducible refine r_done ?_ | with_reducible refine s_go (by simp (disch := omega) only [hy3, row_m hy3, hy, vl_len, fk, RG12, EVA, plug, eq_self, simprocAttr]; with_reducible rfl) ?_ | ((with_reducible refine chk_r ?_); refine r_callF (by simp only [CA, simprocAttr]; rfl) (by exact rfl) (by simp only [CA, simprocAttr]; rfl) rfl ?_) | (with_reducible refine k_condP (by simp only [GA, simprocAttr]; rfl) (by first | (simp only [BO]; rfl) | rfl) (fun ht => ?_) (fun ht => ?_) <;> try (first | exact False.elim ht | exact absurd rfl ht | exact absurd trivial ht | exact Bool.noConfusion ht)) | (with_reducible refine k_ret ?_; repeat with_reducible (first | refine ret_thru ?_ | refine ret_blk ?_ | refine fin ?_)) | (with_reducible refine k_exit ?_; repeat with_reducible (first | refine thru ?_ | refine out_blk ?_ | refine pass (by decide) ?_)) | ((first | refine post1 ?_ | refine post2 ?_ | refine post3 ?_); simp only [GA, simprocAttr]) | refine post0 ?_
   refine ⟨klt, _, (by simp only [Am.keep, List.map_cons, List.map_nil, GA, simprocAttr]; try rfl), ?_, ?_⟩
   ·have := U.nx; first | omega | (simp only [AH.bump_nx, AH.set_nx, AH.kill_nx]; omega)
   ·rw [fs]
    simp (disch := omega) only [vl_snoc, RG12, EVA, plug, eq_self, simprocAttr]
  ·obtain rfl : k = l.length := by omega
   have klt' : ¬ (l.length : Int) < l.length := by omega
   rw [fitK_all] at hmy
   repeat' first | (with_reducible first | refine k_seq ?_ | refine k_skip ?_ | refine k_blkS ?_ | refine k_blkR ?_ | refine k_blkC ?_ | refine k_blkH ?_ | refine k_blkB ?_ | refine k_blkK ?_ | refine k_blkE ?_ | refine k_reg ?_) | with_reducible refine r_done ?_ | with_reducible refine s_go (by simp (disch := omega) only [klt', RG12, EVA, plug, eq_self, simprocAttr]; with_reducible rfl) ?_ | ((with_reducible refine chk_r ?_); refine r_callF (by simp only [CA, simprocAttr]; rfl) (by exact rfl) (by simp only [CA, simprocAttr]; rfl) rfl ?_) | (with_reducible refine k_condP (by simp only [GA, simprocAttr]; rfl) (by first | (simp only [BO]; rfl) | rfl) (fun ht => ?_) (fun ht => ?_) <;> try (first | exact False.elim ht | exact absurd rfl ht | exact absurd trivial ht | exact Bool.noConfusion ht)) | (with_reducible refine k_ret ?_; repeat with_reducible (first | refine ret_thru ?_ | refine ret_blk ?_ | refine fin ?_)) | (with_reducible refine k_exit ?_; repeat with_reducible (first | refine thru ?_ | refine out_blk ?_ | refine pass (by decide) ?_)) | ((first | refine post1 ?_ | refine post2 ?_ | refine post3 ?_); simp only [GA, simprocAttr]) | refine post0 ?_
   rw [List.length_map]
   exact ends_sl2 (k := 1) (cs := vl (l.map fun s => ftL m s m.length)) hmy (by rw [vl_len, List.length_map, Nat.mul_one])
 ·have c' := eq_false c
  rw [if_pos c]
  repeat' first | (with_reducible first | refine k_seq ?_ | refine k_skip ?_ | refine k_blkS ?_ | refine k_blkR ?_ | refine k_blkC ?_ | refine k_blkH ?_ | refine k_blkB ?_ | refine k_blkK ?_ | refine k_blkE ?_ | refine k_reg ?_) | with_reducible refine r_done ?_ | with_reducible refine s_go (by simp (disch := omega) only [c', RG12, EVA, plug, eq_self, simprocAttr]; with_reducible rfl) ?_ | ((with_reducible refine chk_r ?_); refine r_callF (by simp only [CA, simprocAttr]; rfl) (by exact rfl) (by simp only [CA, simprocAttr]; rfl) rfl ?_) | ((with_reducible refine chk_r ?_); refine r_callP (by simp only [CA, simprocAttr]; rfl) (by simp only [CA, simprocAttr]; rfl) (by first | exact q1 _) rfl ?_) | (with_reducible refine k_condP (by simp only [GA, simprocAttr]; rfl) (by first | (simp only [BO]; rfl) | rfl) (fun ht => ?_) (fun ht => ?_) <;> try (first | exact False.elim ht | exact absurd rfl ht | exact absurd trivial ht | exact Bool.noConfusion ht)) | (with_reducible refine k_ret ?_; repeat with_reducible (first | refine ret_thru ?_ | refine ret_blk ?_ | refine fin ?_)) | (with_reducible refine k_exit ?_; repeat with_reducible (first | refine thru ?_ | refine out_blk ?_ | refine pass (by decide) ?_)) | ((first | refine post1 ?_ | refine post2 ?_ | refine post3 ?_); simp only [GA, simprocAttr]) | refine post0 ?_
  exact ends_nil2
theorem RG13 : (type_of% @c13r0.eq_1) ∧ (type_of% @c13r1.eq_1) ∧ (type_of% @c13r2.eq_1) ∧ (type_of% @c13r3.eq_1) ∧ (type_of% @c13r4.eq_1) ∧ (type_of% @c13r5.eq_1) ∧ (type_of% @c13r6.eq_1) ∧ (type_of% @c13r7.eq_1) ∧ (type_of% @c13r8.eq_1) ∧ (type_of% @c13r9.eq_1) ∧ (type_of% @c13r10.eq_1) ∧ (type_of% @c13r11.eq_1) ∧ (type_of% @c13r12.eq_1) ∧ (type_of% @c13r13.eq_1) ∧ (type_of% @c13r14.eq_1) ∧ (type_of% @c13r16.eq_1) ∧ (type_of% @c13r17.eq_1) ∧ (type_of% @c13r19.eq_1) := ⟨@c13r0.eq_1, @c13r1.eq_1, @c13r2.eq_1, @c13r3.eq_1, @c13r4.eq_1, @c13r5.eq_1, @c13r6.eq_1, @c13r7.eq_1, @c13r8.eq_1, @c13r9.eq_1, @c13r10.eq_1, @c13r11.eq_1, @c13r12.eq_1, @c13r13.eq_1, @c13r14.eq_1, @c13r16.eq_1, @c13r17.eq_1, @c13r19.eq_1⟩
set_option maxHeartbeats 1000000 in
theorem d13 (l : List Sz) (m : List Hd) (hl : l.length ≤ 9223372036854775807) (hm : m.length ≤ 9223372036854775807) : PC Tryd.prog 13 [vZ l, vH m] (.tu [.vs (fitsR l m).1.length (vl (fitsR l m).1), .i .i64 (fitsR l m).2]) := by
 have q1 := pc50 l m hl hm
 unfold fitsR
 refine pc_fn fn13 (by simp only [AV.plains, AV.plain, il_plain, bl_plain, Bool.and_true, Bool.true_and, Bool.and_self, fleZ_plain, fleH_plain, vl_plain]) (by simp only [AV.plains, AV.plain, il_plain, bl_plain, Bool.and_true, Bool.true_and, Bool.and_self, fleZ_plain, fleH_plain, vl_plain]) (Nat.le_of_ble_eq_true rfl) ?_
 rw [initSt2]
 by_cases c : chk l m = 0
 ·rw [if_neg (by simp [c])]
  rw [c] at q1
  have L := szsOk_iff.1 (chk_ok c).1
  have M := hdsOk_iff.1 (chk_ok c).2
  repeat' first | (with_reducible first | refine k_seq ?_ | refine k_skip ?_ | refine k_blkS ?_ | refine k_blkR ?_ | refine k_blkC ?_ | refine k_blkH ?_ | refine k_blkB ?_ | refine k_blkK ?_ | refine k_blkE ?_ | refine k_reg ?_) | with_reducible refine r_done ?_ | with_reducible refine s_go (by simp (disch := omega) only [RG13, EVA, plug, eq_self, simprocAttr]; with_reducible rfl) ?_ | ((with_reducible refine chk_r ?_); refine r_callF (by simp only [CA, simprocAttr]; rfl) (by exact rfl) (by simp only [CA, simprocAttr]; rfl) rfl ?_) | ((with_reducible refine chk_r ?_); refine r_callP (by simp only [CA, simprocAttr]; rfl) (by simp only [CA, simprocAttr]; rfl) (by first | exact q1 _) rfl ?_) | (with_reducible refine k_condP (by simp only [GA, simprocAttr]; rfl) (by first | (simp only [BO]; rfl) | rfl) (fun ht => ?_) (fun ht => ?_) <;> try (first | exact False.elim ht | exact absurd rfl ht | exact absurd trivial ht | exact Bool.noConfusion ht)) | (with_reducible refine k_ret ?_; repeat with_reducible (first | refine ret_thru ?_ | refine ret_blk ?_ | refine fin ?_)) | (with_reducible refine k_exit ?_; repeat with_reducible (first | refine thru ?_ | refine out_blk ?_ | refine pass (by decide) ?_)) | ((first | refine post1 ?_ | refine post2 ?_ | refine post3 ?_); simp only [GA, simprocAttr]) | refine post0 ?_
  refine w_virt 1 7 rfl ?_
  refine k_blk (k_loopS (X := Nat) [1, 7, 19, 20, 21] l.length (fun k y => [(1, vH m), (7, .sl y 0 k 1), (19, vZ l), (20, .i .i64 l.length), (21, .i .i64 (k : Int))]) (fun k y h => y ≠ 0 ∧ h.m y = some (.cells true (vl (fitK l m k)))) _ (by simp only [Am.keep, List.map_cons, List.map_nil, GA, simprocAttr]; try rfl) ⟨?_, by simp (disch := omega) only [RG13, EVA, plug, eq_self, simprocAttr] <;> rfl⟩ ?_)
  ·simp only [AH.bump_nx]; omega
  rintro k y h hk ⟨hy, hmy⟩ ok pos
  have ly := ok.m hmy
  by_cases klt : k < l.length
  ·have klt' : (k : Int) < l.length := by omega
   have rT := rdZ klt
   have hs := L.2.1 k klt
   have fs := fitK_succ (m := m) klt
   have fk := fitK_len (m := m) (Nat.le_of_lt klt)
   generalize zD l k = s at *
   repeat' first | (with_reducible first | refine k_seq ?_ | refine k_skip ?_ | refine k_blkS ?_ | refine k_blkR ?_ | refine k_blkC ?_ | refine k_blkH ?_ | refine k_blkB ?_ | refine k_blkK ?_ | refine k_blkE ?_ | refine k_reg ?_) | with_reducible refine r_done ?_ | with_reducible refine s_go (by simp (disch := omega) only [klt', rT, RG13, EVA, plug, eq_self, simprocAttr]; with_reducible rfl) ?_ | ((with_reducible refine chk_r ?_); refine r_callF (by simp only [CA, simprocAttr]; rfl) (by exact rfl) (by simp only [CA, simprocAttr]; rfl) rfl ?_) | (with_reducible refine k_condP (by simp only [GA, simprocAttr]; rfl) (by first | (simp only [BO]; rfl) | rfl) (fun ht => ?_) (fun ht => ?_) <;> try (first | exact False.elim ht | exact absurd rfl ht | exact absurd trivial ht | exact Bool.noConfusion ht)) | (with_reducible refine k_ret ?_; repeat with_reducible (first | refine ret_thru ?_ | refine ret_blk ?_ | refine fin ?_)) | (with_reducible refine k_exit ?_; repeat with_reducible (first | refine thru ?_ | refine out_blk ?_ | refine pass (by decide) ?_)) | ((first | refine post1 ?_ | refine post2 ?_ | refine post3 ?_); simp only [GA, simprocAttr]) | refine post0 ?_
   refine w_virt 1 10 rfl ?_
   refine k_blk (k_loopS (X := Nat) [1, 7, 9, 10, 19, 20, 21, 25, 26, 27] m.length (fun j x => [(1, vH m), (7, .sl y 0 k 1), (9, .p (h.nx + 1 + 2) 0), (10, .sl x 0 (ftL m s j).length 1), (19, vZ l), (20, .i .i64 l.length), (21, .i .i64 (k : Int)), (25, vH m), (26, .i .i64 m.length), (27, .i .i64 (j : Int))])
    (fun j x h' => h'.m y = some (.cells true (vl (fitK l m k))) ∧ h'.m (h.nx + 1 + 2) = some (.cells true (eZ s)) ∧ h'.m x = some (.cells true (il (ftL m s j))) ∧ x ≠ y ∧ x ≠ h.nx + 1 + 2 ∧ x ≠ 0) _ (by simp only [Am.keep, List.map_cons, List.map_nil, GA, simprocAttr]; try rfl) ⟨by simp (disch := omega) only [hmy, RG13, EVA, plug, eq_self, simprocAttr], by simp (disch := omega) only [RG13, EVA, plug, eq_self, simprocAttr] <;> rfl, by simp (disch := omega) only [RG13, EVA, plug, eq_self, simprocAttr] <;> rfl, ?_, ?_, ?_⟩ ?_)
   ·simp only [AH.bump_nx, AH.set_nx]; omega
   ·simp only [AH.bump_nx, AH.set_nx]; omega
   ·simp only [AH.bump_nx, AH.set_nx]; omega
   rintro j x h' hj ⟨hmy', hm9, hmx, xy, x9, x0⟩ ok' pos'
   have ly' := ok'.m hmy'
   have l9 := ok'.m hm9
   have lx := ok'.m hmx
   have xy' : ¬ y = x := fun q => xy q.symm
   have x9' : ¬ h.nx + 1 + 2 = x := fun q => x9 q.symm
   have fl' := ftL_len m s j
   by_cases jlt : j < m.length
   ·have jlt' : (j : Int) < m.length := by omega
    have rJ := rdH jlt
    have q45 := pc53 s (hD m j) hs (M.2.1 j jlt)
    have es := @ftL_succ m s j
    cases c : fitB s (hD m j) with
    | true =>
      rw [c] at q45
      rw [if_pos c] at es
      have el : (ftL m s (j + 1)).length = (ftL m s j).length + 1 := by rw [es]; simp
      repeat' first | (with_reducible first | refine k_seq ?_ | refine k_skip ?_ | refine k_blkS ?_ | refine k_blkR ?_ | refine k_blkC ?_ | refine k_blkH ?_ | refine k_blkB ?_ | refine k_blkK ?_ | refine k_blkE ?_ | refine k_reg ?_) | with_reducible refine r_done ?_ | with_reducible refine s_go (by simp (disch := omega) only [jlt', rJ, eZ_rd, eH_rd, hm9, row_m hm9, read_row (row_m hm9), hmx, row_m hmx, x0, il_len, RG13, EVA, plug, eq_self, simprocAttr]; with_reducible rfl) ?_ | ((with_reducible refine chk_r ?_); refine r_callF (by simp only [CA, simprocAttr]; rfl) (by exact rfl) (by simp only [CA, simprocAttr]; rfl) rfl ?_) | ((with_reducible refine chk_r ?_); refine r_callP (by simp only [CA, simprocAttr]; rfl) (by simp only [CA, simprocAttr]; rfl) (by first | exact q45 _) rfl ?_) | (with_reducible refine k_condP (by simp only [GA, simprocAttr]; rfl) (by first | (simp only [BO]; rfl) | rfl) (fun ht => ?_) (fun ht => ?_) <;> try (first | exact False.elim ht | exact absurd rfl ht | exact absurd trivial ht | exact Bool.noConfusion ht)) | (with_reducible refine k_ret ?_; repeat with_reducible (first | refine ret_thru ?_ | refine ret_blk ?_ | refine fin ?_)) | (with_reducible refine k_exit ?_; repeat with_reducible (first | refine thru ?_ | refine out_blk ?_ | refine pass (by decide) ?_)) | ((first | refine post1 ?_ | refine post2 ?_ | refine post3 ?_); simp only [GA, simprocAttr]) | refine post0 ?_
      refine ⟨jlt, _, (by rw [el]; simp only [Am.keep, List.map_cons, List.map_nil, GA, simprocAttr]; try rfl), by simp (disch := omega) only [hmy', xy', RG13, EVA, plug, eq_self, simprocAttr], by simp (disch := omega) only [hm9, x9', RG13, EVA, plug, eq_self, simprocAttr], by rw [es]; simp (disch := omega) only [RG13, EVA, plug, eq_self, simprocAttr] <;> rfl, by first | omega | (simp only [AH.bump_nx]; omega), by first | omega | (simp only [AH.bump_nx]; omega), by first | omega | (simp only [AH.bump_nx]; omega)⟩
    | false =>
      rw [c] at q45
      rw [if_neg (by rw [c]; simp)] at es
      repeat' first | (with_reducible first | refine k_seq ?_ | refine k_skip ?_ | refine k_blkS ?_ | refine k_blkR ?_ | refine k_blkC ?_ | refine k_blkH ?_ | refine k_blkB ?_ | refine k_blkK ?_ | refine k_blkE ?_ | refine k_reg ?_) | with_reducible refine r_done ?_ | with_reducible refine s_go (by simp (disch := omega) only [jlt', rJ, eZ_rd, eH_rd, hm9, row_m hm9, read_row (row_m hm9), RG13, EVA, plug, eq_self, simprocAttr]; with_reducible rfl) ?_ | ((with_reducible refine chk_r ?_); refine r_callF (by simp only [CA, simprocAttr]; rfl) (by exact rfl) (by simp only [CA, simprocAttr]; rfl) rfl ?_) | ((with_reducible refine chk_r ?_); refine r_callP (by simp only [CA, simprocAttr]; rfl) (by simp only [CA, simprocAttr]; rfl) (by first | exact q45 _) rfl ?_) | (with_reducible refine k_condP (by simp only [GA, simprocAttr]; rfl) (by first | (simp only [BO]; rfl) | rfl) (fun ht => ?_) (fun ht => ?_) <;> try (first | exact False.elim ht | exact absurd rfl ht | exact absurd trivial ht | exact Bool.noConfusion ht)) | (with_reducible refine k_ret ?_; repeat with_reducible (first | refine ret_thru ?_ | refine ret_blk ?_ | refine fin ?_)) | (with_reducible refine k_exit ?_; repeat with_reducible (first | refine thru ?_ | refine out_blk ?_ | refine pass (by decide) ?_)) | ((first | refine post1 ?_ | refine post2 ?_ | refine post3 ?_); simp only [GA, simprocAttr]) | refine post0 ?_
      refine ⟨jlt, x, (by rw [es]; exact (by simp only [Am.keep, List.map_cons, List.map_nil, GA, simprocAttr]; try rfl)), by simp (disch := omega) only [hmy', RG13, EVA, plug, eq_self, simprocAttr], by simp (disch := omega) only [hm9, RG13, EVA, plug, eq_self, simprocAttr], by rw [es]; simp (disch := omega) only [hmx, RG13, EVA, plug, eq_self, simprocAttr], xy, x9, x0⟩
   ·obtain rfl : j = m.length := by omega
    have jlt' : ¬ (m.length : Int) < m.length := by omega
    repeat' first | with_reducible refine k_seq ?_ | with_reducible refine k_skip ?_ | with_reducible refine k_blkS ?_ | with_reducible refine k_blkR ?_ | with_reducible refine k_blkC ?_ | with_reducible refine k_blkH ?_ | with_reducible refine k_blkB ?_ | with_reducible refine k_blkK ?_ | with_reducible refine k_blkE ?_ | (fail_if_success (with_reducible refine k_reg (ops := c13r16) ?_)); with_reducible refine k_reg ?_ | with_reducible refine r_done ?_ | with_reducible refine s_go (by simp (disch := omega) only [jlt', RG13, EVA, plug, eq_self, simprocAttr]; with_reducible rfl) ?_ | ((with_reducible refine chk_r ?_); refine r_callF (by simp only [CA, simprocAttr]; rfl) (by exact rfl) (by simp only [CA, simprocAttr]; rfl) rfl ?_) | (with_reducible refine k_condP (by simp only [GA, simprocAttr]; rfl) (by first | (simp only [BO]; rfl) | rfl) (fun ht => ?_) (fun ht => ?_) <;> try (first | exact False.elim ht | exact absurd rfl ht | exact absurd trivial ht | exact Bool.noConfusion ht)) | (with_reducible refine k_ret ?_; repeat with_reducible (first | refine ret_thru ?_ | refine ret_blk ?_ | refine fin ?_)) | (with_reducible refine k_exit ?_; repeat with_reducible (first | refine thru ?_ | refine out_blk ?_ | refine pass (by decide) ?_)) | ((first | refine post1 ?_ | refine post2 ?_ | refine post3 ?_); simp only [GA, simprocAttr]) | refine post0 ?_
    refine w_frzS 10 (t := x) (n := (ftL m s m.length).length) (a := 1) (cs := il (ftL m s m.length)) 1 (by simp (disch := omega) only [hmx, RG13, EVA, plug, eq_self, simprocAttr]) rfl (by rw [il_len, Nat.mul_one]) ?_
    repeat' first | (with_reducible first | refine k_seq ?_ | refine k_skip ?_ | refine k_blkS ?_ | refine k_blkR ?_ | refine k_blkC ?_ | refine k_blkH ?_ | refine k_blkB ?_ | refine k_blkK ?_ | refine k_blkE ?_ | refine k_reg ?_) | with_reducible refine r_done ?_ | with_reducible refine s_go (by simp (disch := omega) only [hmy', row_m hmy', hy, vl_len, fk, xy', RG13, EVA, plug, eq_self, simprocAttr]; with_reducible rfl) ?_ | ((with_reducible refine chk_r ?_); refine r_callF (by simp only [CA, simprocAttr]; rfl) (by exact rfl) (by simp only [CA, simprocAttr]; rfl) rfl ?_) | (with_reducible refine k_condP (by simp only [GA, simprocAttr]; rfl) (by first | (simp only [BO]; rfl) | rfl) (fun ht => ?_) (fun ht => ?_) <;> try (first | exact False.elim ht | exact absurd rfl ht | exact absurd trivial ht | exact Bool.noConfusion ht)) | (with_reducible refine k_ret ?_; repeat with_reducible (first | refine ret_thru ?_ | refine ret_blk ?_ | refine fin ?_)) | (with_reducible refine k_exit ?_; repeat with_reducible (first | refine thru ?_ | refine out_blk ?_ | refine pass (by decide) ?_)) | ((first | refine post1 ?_ | refine post2 ?_ | refine post3 ?_); simp only [GA, simprocAttr]) | refine post0 ?_
    refine ⟨klt, _, (by simp only [Am.keep, List.map_cons, List.map_nil, GA, simprocAttr]; try rfl), ?_, ?_⟩
    ·first | omega | (simp only [AH.bump_nx, AH.set_nx, AH.kill_nx]; omega)
    ·rw [fs]
     simp (disch := omega) only [vl_snoc, RG13, EVA, plug, eq_self, simprocAttr]
  ·obtain rfl : k = l.length := by omega
   have klt' : ¬ (l.length : Int) < l.length := by omega
   rw [fitK_all] at hmy
   repeat' first | (with_reducible first | refine k_seq ?_ | refine k_skip ?_ | refine k_blkS ?_ | refine k_blkR ?_ | refine k_blkC ?_ | refine k_blkH ?_ | refine k_blkB ?_ | refine k_blkK ?_ | refine k_blkE ?_ | refine k_reg ?_) | with_reducible refine r_done ?_ | with_reducible refine s_go (by simp (disch := omega) only [klt', RG13, EVA, plug, eq_self, simprocAttr]; with_reducible rfl) ?_ | ((with_reducible refine chk_r ?_); refine r_callF (by simp only [CA, simprocAttr]; rfl) (by exact rfl) (by simp only [CA, simprocAttr]; rfl) rfl ?_) | (with_reducible refine k_condP (by simp only [GA, simprocAttr]; rfl) (by first | (simp only [BO]; rfl) | rfl) (fun ht => ?_) (fun ht => ?_) <;> try (first | exact False.elim ht | exact absurd rfl ht | exact absurd trivial ht | exact Bool.noConfusion ht)) | (with_reducible refine k_ret ?_; repeat with_reducible (first | refine ret_thru ?_ | refine ret_blk ?_ | refine fin ?_)) | (with_reducible refine k_exit ?_; repeat with_reducible (first | refine thru ?_ | refine out_blk ?_ | refine pass (by decide) ?_)) | ((first | refine post1 ?_ | refine post2 ?_ | refine post3 ?_); simp only [GA, simprocAttr]) | refine post0 ?_
   rw [List.length_map]
   exact ends_sl2 (k := 1) (cs := vl (l.map fun s => ftL m s m.length)) hmy (by rw [vl_len, List.length_map, Nat.mul_one])
 ·have c' := eq_false c
  rw [if_pos c]
  repeat' first | (with_reducible first | refine k_seq ?_ | refine k_skip ?_ | refine k_blkS ?_ | refine k_blkR ?_ | refine k_blkC ?_ | refine k_blkH ?_ | refine k_blkB ?_ | refine k_blkK ?_ | refine k_blkE ?_ | refine k_reg ?_) | with_reducible refine r_done ?_ | with_reducible refine s_go (by simp (disch := omega) only [c', RG13, EVA, plug, eq_self, simprocAttr]; with_reducible rfl) ?_ | ((with_reducible refine chk_r ?_); refine r_callF (by simp only [CA, simprocAttr]; rfl) (by exact rfl) (by simp only [CA, simprocAttr]; rfl) rfl ?_) | ((with_reducible refine chk_r ?_); refine r_callP (by simp only [CA, simprocAttr]; rfl) (by simp only [CA, simprocAttr]; rfl) (by first | exact q1 _) rfl ?_) | (with_reducible refine k_condP (by simp only [GA, simprocAttr]; rfl) (by first | (simp only [BO]; rfl) | rfl) (fun ht => ?_) (fun ht => ?_) <;> try (first | exact False.elim ht | exact absurd rfl ht | exact absurd trivial ht | exact Bool.noConfusion ht)) | (with_reducible refine k_ret ?_; repeat with_reducible (first | refine ret_thru ?_ | refine ret_blk ?_ | refine fin ?_)) | (with_reducible refine k_exit ?_; repeat with_reducible (first | refine thru ?_ | refine out_blk ?_ | refine pass (by decide) ?_)) | ((first | refine post1 ?_ | refine post2 ?_ | refine post3 ?_); simp only [GA, simprocAttr]) | refine post0 ?_
  exact ends_nil2
end Go.Proofs.YtjaihaccehaicaaDoor
