/- What the proof of the law needs: the abstract machine, the functions as it reads them, their contracts, part 7. -/
import Derived.Test.YtjaihaccehaicaaDoorZf
set_option linter.unusedVariables false
set_option linter.unusedSimpArgs false
namespace Go.Proofs.YtjaihaccehaicaaDoor
open Go Go.Am Go.Proofs
def chP (l : List Sz) (x : Hd) (st : Int × Int) (k : Nat) : Prop := fitB (zD l k) x = true ∧ (st.1 < 0 ∨ nS (zD l k) x 5 < st.2 ∨ (nS (zD l k) x 5 = st.2 ∧ (zD l k).c < (zD l st.1.toNat).c))
instance (l : List Sz) (x : Hd) (st : Int × Int) (k : Nat) : Decidable (chP l x st k) := inferInstanceAs (Decidable (_ ∧ _))
def chS (l : List Sz) (x : Hd) : Nat → Int × Int
 | 0 => (-1, 0)
 | k + 1 => if chP l x (chS l x k) k then ((k : Int), nS (zD l k) x 5) else chS l x k
theorem chS_bd (l : List Sz) (x : Hd) : ∀ k, (chS l x k).1 = -1 ∨ 0 ≤ (chS l x k).1 ∧ (chS l x k).1 < k
 | 0 => .inl rfl
 | k + 1 => by
   rw [chS]
   split
   ·right; simp only; omega
   ·have := chS_bd l x k; omega
def chR (l : List Sz) (x : Hd) : Int × Int := if chk l [x] ≠ 0 then (0, chk l [x]) else if (chS l x l.length).1 < 0 then (0, 32) else ((chS l x l.length).1, 0)
theorem hd_one {x : Hd} (h : hdsOk [x] = true) : hdOk x = true := (hdsOk_iff.1 h).2.1 0 (by simp)
theorem RG15 : (type_of% @c15r0.eq_1) ∧ (type_of% @c15r1.eq_1) ∧ (type_of% @c15r2.eq_1) ∧ (type_of% @c15r3.eq_1) ∧ (type_of% @c15r4.eq_1) ∧ (type_of% @c15r5.eq_1) ∧ (type_of% @c15r6.eq_1) ∧ (type_of% @c15r7.eq_1) ∧ (type_of% @c15r8.eq_1) ∧ (type_of% @c15r9.eq_1) ∧ (type_of% @c15r10.eq_1) ∧ (type_of% @c15r11.eq_1) ∧ (type_of% @c15r12.eq_1) ∧ (type_of% @c15r14.eq_1) ∧ (type_of% @c15r15.eq_1) ∧ (type_of% @c15r16.eq_1) := ⟨@c15r0.eq_1, @c15r1.eq_1, @c15r2.eq_1, @c15r3.eq_1, @c15r4.eq_1, @c15r5.eq_1, @c15r6.eq_1, @c15r7.eq_1, @c15r8.eq_1, @c15r9.eq_1, @c15r10.eq_1, @c15r11.eq_1, @c15r12.eq_1, @c15r14.eq_1, @c15r15.eq_1, @c15r16.eq_1⟩
set_option maxHeartbeats 2000000 in
theorem d15 (l : List Sz) (x : Hd) (hl : l.length ≤ 9223372036854775807) : PC Tryd.prog 15 [vZ l, .ag (eH x)] (.tu [.i .i64 (chR l x).1, .i .i64 (chR l x).2]) := by
 have q1 := pc41 l [x] hl (by simp)
 unfold chR
 refine pc_fn fn15 (by simp only [AV.plains, AV.plain, il_plain, bl_plain, Bool.and_true, Bool.true_and, Bool.and_self, fleZ_plain]) (by simp only [AV.plains, AV.plain, il_plain, bl_plain, Bool.and_true, Bool.true_and, Bool.and_self, fleZ_plain]) (Nat.le_of_ble_eq_true rfl) ?_
 rw [initSt2]
 by_cases c : chk l [x] = 0
 ·rw [if_neg (by simp [c])]
  rw [c] at q1
  have L := szsOk_iff.1 (chk_ok c).1
  have hx := hd_one (chk_ok c).2
  repeat' first | (with_reducible first | refine k_seq ?_ | refine k_skip ?_ | refine k_blkS ?_ | refine k_blkR ?_ | refine k_blkC ?_ | refine k_blkH ?_ | refine k_blkB ?_ | refine k_blkK ?_ | refine k_blkE ?_ | refine k_reg ?_) | with_reducible refine k_head (by with_unfolding_all rfl) ?_ | with_reducible refine k_headS ?_ | (with_reducible refine SepK.mk ?_ ?_; (refine sepQ_P ?_; simp [sepQ, sepG, AOp.late, AOp.free, AOp.xs, AOp.isAl, tokNe, AV.tok, stS_get, strip, AX.val, RG15, GA]; try omega)) | with_reducible refine r_done ?_ | with_reducible refine hr_done ?_ | with_reducible refine s_go (by simp (disch := omega) only [eH_rd, RG15, EVA, plug, eq_self, simprocAttr]; with_reducible rfl) ?_ | with_reducible refine h_go (by with_unfolding_all rfl) (by simp (disch := omega) only [eH_rd, RG15, EVA, plug, eq_self, simprocAttr]; with_reducible rfl) ?_ | ((with_reducible refine chk_r ?_); refine r_callF (by simp only [CA, simprocAttr]; rfl) (by exact rfl) (by simp only [CA, simprocAttr]; rfl) rfl ?_) | ((with_reducible refine chk_h ?_); refine hr_callF (by simp only [CA, simprocAttr]; rfl) (by exact rfl) (by simp only [CA, simprocAttr]; rfl) rfl ?_) | ((with_reducible refine chk_r ?_); refine r_callP (by simp only [CA, simprocAttr]; rfl) (by simp only [CA, simprocAttr]; rfl) (by first | ((refine PC.at q1 rfl ?F; case F => (refine .cons (.same (fleZ_plain _)) (.cons (.row (by simp (disch := omega) only [RG15, EVA, plug, eq_self, simprocAttr] <;> rfl) rfl) .nil))); all_goals fail)) rfl ?_) | ((with_reducible refine chk_h ?_); refine hr_callP (by simp only [CA, simprocAttr]; rfl) (by simp only [CA, simprocAttr]; rfl) (by first | ((refine PC.at q1 rfl ?F; case F => (refine .cons (.same (fleZ_plain _)) (.cons (.row (by simp (disch := omega) only [RG15, EVA, plug, eq_self, simprocAttr] <;> rfl) rfl) .nil))); all_goals fail)) rfl ?_) | ((with_reducible refine chk_h ?_); refine hr_callP1 (by simp only [CA, simprocAttr]; rfl) (by simp only [CA, simprocAttr]; rfl) (by simp (disch := omega) only [CA, Nat.reduceEqDiff, ↓reduceIte, firstTok_nil, firstTok_sl, firstTok_sl0, firstTok_i, firstTok_b, firstTok_ag, firstTok_p, firstTok_s]; rfl) (by first | ((refine PC.at q1 rfl ?F; case F => (refine .cons (.same (fleZ_plain _)) (.cons (.row (by simp (disch := omega) only [RG15, EVA, plug, eq_self, simprocAttr] <;> rfl) rfl) .nil))); all_goals fail)) rfl ?_) | ((with_reducible refine chk_h ?_); refine hr_app (by simp (disch := omega) only [eH_rd, RG15, EVA, plug, eq_self, simprocAttr]; with_reducible rfl) rfl ?_) | (with_reducible refine k_condP (by simp only [GA, simprocAttr]; rfl) (by first | (simp only [BO]; rfl) | rfl) (fun ht => ?_) (fun ht => ?_) <;> try (first | exact False.elim ht | exact absurd rfl ht | exact absurd trivial ht | exact Bool.noConfusion ht)) | (with_reducible refine k_ret ?_; repeat with_reducible (first | refine ret_thru ?_ | refine ret_blk ?_ | refine fin ?_)) | (with_reducible refine k_exit ?_; repeat with_reducible (first | refine thru ?_ | refine out_blk ?_ | refine pass (by decide) ?_)) | ((first | refine post1 ?_ | refine post2 ?_ | refine post3 ?_); simp only [GA, simprocAttr]) | refine post0 ?_
  refine k_blk (k_loopS (X := Unit) [0, 3, 7, 8, 20, 21, 22] l.length (fun k _ => [(0, vZ l), (3, .p 1 0), (7, .i .i64 (chS l x k).1), (8, .i .i64 (chS l x k).2), (20, vZ l), (21, .i .i64 l.length), (22, .i .i64 (k : Int))]) (fun k _ h => h.m 1 = some (.cells true (eH x))) () (by simp only [Am.keep, List.map_cons, List.map_nil, GA, simprocAttr]; try rfl) (by simp (disch := omega) only [RG15, EVA, plug, eq_self, simprocAttr] <;> rfl) ?_)
  rintro k _ h hk hm ok pos
  have l1 := ok.m hm
  by_cases klt : k < l.length
  ·have klt' : (k : Int) < l.length := by omega
   have rT := rdZ klt
   have hs := L.2.1 k klt
   have qn := pc42 (zD l k) x hs hx
   have qf := pc45 (zD l k) x hs hx
   have bd := chS_bd l x k
   have eT : fitB (zD l k) x = true → ((chS l x k).1 < 0 ∨ nS (zD l k) x 5 < (chS l x k).2 ∨ (nS (zD l k) x 5 = (chS l x k).2 ∧ (zD l k).c < (zD l (chS l x k).1.toNat).c)) → chS l x (k + 1) = ((k : Int), nS (zD l k) x 5) := fun h1 h2 => if_pos ⟨h1, h2⟩
   have eF : (fitB (zD l k) x = true → ¬ ((chS l x k).1 < 0 ∨ nS (zD l k) x 5 < (chS l x k).2 ∨ (nS (zD l k) x 5 = (chS l x k).2 ∧ (zD l k).c < (zD l (chS l x k).1.toNat).c))) → chS l x (k + 1) = chS l x k := fun h => if_neg fun q => h q.1 q.2
   have ft : fitB (zD l k) x = true ↔ ((fau (zD l k) x).length : Int) = 0 := decide_eq_true_iff
   have gc : ∀ b : Nat, b < l.length → (fl eZ l)[b * 17]? = some (.i .i64 (zD l b).c) := fun b hb => by
    have := congrArg (fun r => r[0]?) (fl_at eZ_len Z0 hb)
    simp only [List.getElem?_take, List.getElem?_drop, Nat.add_zero] at this
    rw [if_pos (by omega)] at this
    exact this
   generalize nS (zD l k) x 5 = n at *
   generalize fau (zD l k) x = F at *
   generalize hb : (chS l x k).1 = b at *
   generalize hls : (chS l x k).2 = ls at *
   have pr : chS l x k = (b, ls) := by rw [← hb, ← hls]
   have m1 : ¬ (1 : Nat) = h.nx + 1 + 3 := by omega
   by_cases f0 : (F.length : Int) = 0
   ·have f0' : ¬ (0 : Int) < F.length := by omega
    have f1 := ft.2 f0
    by_cases b0 : b < 0
    ·have es := eT f1 (.inl b0)
     have b0' := eq_true b0
     repeat' first | (with_reducible first | refine k_seq ?_ | refine k_skip ?_ | refine k_blkS ?_ | refine k_blkR ?_ | refine k_blkC ?_ | refine k_blkH ?_ | refine k_blkB ?_ | refine k_blkK ?_ | refine k_blkE ?_ | refine k_reg ?_) | with_reducible refine k_head (by with_unfolding_all rfl) ?_ | with_reducible refine k_headS ?_ | (with_reducible refine SepK.mk ?_ ?_; (refine sepQ_P ?_; simp [sepQ, sepG, AOp.late, AOp.free, AOp.xs, AOp.isAl, tokNe, AV.tok, stS_get, strip, AX.val, RG15, GA]; try omega)) | with_reducible refine r_done ?_ | with_reducible refine hr_done ?_ | with_reducible refine s_go (by simp (disch := omega) only [klt', rT, eZ_rd, eH_rd, e5_rd, hm, row_m hm, read_row (row_m hm), m1, f0', b0', RG15, EVA, plug, eq_self, simprocAttr]; with_reducible rfl) ?_ | with_reducible refine h_go (by with_unfolding_all rfl) (by simp (disch := omega) only [klt', rT, eZ_rd, eH_rd, e5_rd, hm, row_m hm, read_row (row_m hm), m1, f0', b0', RG15, EVA, plug, eq_self, simprocAttr]; with_reducible rfl) ?_ | ((with_reducible refine chk_r ?_); refine r_callF (by simp only [CA, simprocAttr]; rfl) (by exact rfl) (by simp only [CA, simprocAttr]; rfl) rfl ?_) | ((with_reducible refine chk_h ?_); refine hr_callF (by simp only [CA, simprocAttr]; rfl) (by exact rfl) (by simp only [CA, simprocAttr]; rfl) rfl ?_) | ((with_reducible refine chk_r ?_); refine r_callP (by simp only [CA, simprocAttr]; rfl) (by simp only [CA, simprocAttr]; rfl) (by first | exact qn _ | exact qf _) rfl ?_) | ((with_reducible refine chk_h ?_); refine hr_callP (by simp only [CA, simprocAttr]; rfl) (by simp only [CA, simprocAttr]; rfl) (by first | exact qn _ | exact qf _) rfl ?_) | ((with_reducible refine chk_h ?_); refine hr_callP1 (by simp only [CA, simprocAttr]; rfl) (by simp only [CA, simprocAttr]; rfl) (by simp (disch := omega) only [CA, Nat.reduceEqDiff, ↓reduceIte, firstTok_nil, firstTok_sl, firstTok_sl0, firstTok_i, firstTok_b, firstTok_ag, firstTok_p, firstTok_s]; rfl) (by first | exact qn _ | exact qf _) rfl ?_) | ((with_reducible refine chk_h ?_); refine hr_app (by simp (disch := omega) only [klt', rT, eZ_rd, eH_rd, e5_rd, hm, row_m hm, read_row (row_m hm), m1, f0', b0', RG15, EVA, plug, eq_self, simprocAttr]; with_reducible rfl) rfl ?_) | (with_reducible refine k_condP (by simp only [GA, simprocAttr]; rfl) (by first | (simp only [BO]; rfl) | rfl) (fun ht => ?_) (fun ht => ?_) <;> try (first | exact False.elim ht | exact absurd rfl ht | exact absurd trivial ht | exact Bool.noConfusion ht)) | (with_reducible refine k_ret ?_; repeat with_reducible (first | refine ret_thru ?_ | refine ret_blk ?_ | refine fin ?_)) | (with_reducible refine k_exit ?_; repeat with_reducible (first | refine thru ?_ | refine out_blk ?_ | refine pass (by decide) ?_)) | ((first | refine post1 ?_ | refine post2 ?_ | refine post3 ?_); simp only [GA, simprocAttr]) | refine post0 ?_
     exact ⟨klt, (), (by rw [es]; exact (by simp only [Am.keep, List.map_cons, List.map_nil, GA, simprocAttr]; try rfl)), by simp (disch := omega) only [hm, m1, RG15, EVA, plug, eq_self, simprocAttr]⟩
    ·have b0' := eq_false b0
     obtain ⟨a, rfl⟩ : ∃ a : Nat, b = (a : Int) := ⟨b.toNat, by omega⟩
     have al : a < l.length := by omega
     have al' : (a : Int) < l.length := by omega
     have ga := gc a al
     rw [Int.toNat_natCast] at eT eF
     by_cases n1 : n < ls
     ·have es := eT f1 (.inr (.inl n1))
      have n1' := eq_true n1
      repeat' first | (with_reducible first | refine k_seq ?_ | refine k_skip ?_ | refine k_blkS ?_ | refine k_blkR ?_ | refine k_blkC ?_ | refine k_blkH ?_ | refine k_blkB ?_ | refine k_blkK ?_ | refine k_blkE ?_ | refine k_reg ?_) | with_reducible refine k_head (by with_unfolding_all rfl) ?_ | with_reducible refine k_headS ?_ | (with_reducible refine SepK.mk ?_ ?_; (refine sepQ_P ?_; simp [sepQ, sepG, AOp.late, AOp.free, AOp.xs, AOp.isAl, tokNe, AV.tok, stS_get, strip, AX.val, RG15, GA]; try omega)) | with_reducible refine r_done ?_ | with_reducible refine hr_done ?_ | with_reducible refine s_go (by simp (disch := omega) only [klt', rT, eZ_rd, eH_rd, e5_rd, hm, row_m hm, read_row (row_m hm), m1, f0', b0', n1', RG15, EVA, plug, eq_self, simprocAttr]; with_reducible rfl) ?_ | with_reducible refine h_go (by with_unfolding_all rfl) (by simp (disch := omega) only [klt', rT, eZ_rd, eH_rd, e5_rd, hm, row_m hm, read_row (row_m hm), m1, f0', b0', n1', RG15, EVA, plug, eq_self, simprocAttr]; with_reducible rfl) ?_ | ((with_reducible refine chk_r ?_); refine r_callF (by simp only [CA, simprocAttr]; rfl) (by exact rfl) (by simp only [CA, simprocAttr]; rfl) rfl ?_) | ((with_reducible refine chk_h ?_); refine hr_callF (by simp only [CA, simprocAttr]; rfl) (by exact rfl) (by simp only [CA, simprocAttr]; rfl) rfl ?_) | ((with_reducible refine chk_r ?_); refine r_callP (by simp only [CA, simprocAttr]; rfl) (by simp only [CA, simprocAttr]; rfl) (by first | exact qn _ | exact qf _) rfl ?_) | ((with_reducible refine chk_h ?_); refine hr_callP (by simp only [CA, simprocAttr]; rfl) (by simp only [CA, simprocAttr]; rfl) (by first | exact qn _ | exact qf _) rfl ?_) | ((with_reducible refine chk_h ?_); refine hr_callP1 (by simp only [CA, simprocAttr]; rfl) (by simp only [CA, simprocAttr]; rfl) (by simp (disch := omega) only [CA, Nat.reduceEqDiff, ↓reduceIte, firstTok_nil, firstTok_sl, firstTok_sl0, firstTok_i, firstTok_b, firstTok_ag, firstTok_p, firstTok_s]; rfl) (by first | exact qn _ | exact qf _) rfl ?_) | ((with_reducible refine chk_h ?_); refine hr_app (by simp (disch := omega) only [klt', rT, eZ_rd, eH_rd, e5_rd, hm, row_m hm, read_row (row_m hm), m1, f0', b0', n1', RG15, EVA, plug, eq_self, simprocAttr]; with_reducible rfl) rfl ?_) | (with_reducible refine k_condP (by simp only [GA, simprocAttr]; rfl) (by first | (simp only [BO]; rfl) | rfl) (fun ht => ?_) (fun ht => ?_) <;> try (first | exact False.elim ht | exact absurd rfl ht | exact absurd trivial ht | exact Bool.noConfusion ht)) | (with_reducible refine k_ret ?_; repeat with_reducible (first | refine ret_thru ?_ | refine ret_blk ?_ | refine fin ?_)) | (with_reducible refine k_exit ?_; repeat with_reducible (first | refine thru ?_ | refine out_blk ?_ | refine pass (by decide) ?_)) | ((first | refine post1 ?_ | refine post2 ?_ | refine post3 ?_); simp only [GA, simprocAttr]) | refine post0 ?_
      exact ⟨klt, (), (by rw [es]; exact (by simp only [Am.keep, List.map_cons, List.map_nil, GA, simprocAttr]; try rfl)), by simp (disch := omega) only [hm, m1, RG15, EVA, plug, eq_self, simprocAttr]⟩
     ·have n1' := eq_false n1
      by_cases n2 : n = ls
      ·have n2' := eq_true n2
       by_cases n3 : (zD l k).c < (zD l a).c
       ·have es := eT f1 (.inr (.inr ⟨n2, n3⟩))
        have n3' := eq_true n3
        repeat' first | (with_reducible first | refine k_seq ?_ | refine k_skip ?_ | refine k_blkS ?_ | refine k_blkR ?_ | refine k_blkC ?_ | refine k_blkH ?_ | refine k_blkB ?_ | refine k_blkK ?_ | refine k_blkE ?_ | refine k_reg ?_) | with_reducible refine k_head (by with_unfolding_all rfl) ?_ | with_reducible refine k_headS ?_ | (with_reducible refine SepK.mk ?_ ?_; (refine sepQ_P ?_; simp [sepQ, sepG, AOp.late, AOp.free, AOp.xs, AOp.isAl, tokNe, AV.tok, stS_get, strip, AX.val, RG15, GA]; try omega)) | with_reducible refine r_done ?_ | with_reducible refine hr_done ?_ | with_reducible refine s_go (by simp (disch := omega) only [klt', rT, eZ_rd, eZ_rc, eH_rd, e5_rd, hm, row_m hm, read_row (row_m hm), m1, f0', b0', n1', n2', n3', al', ga, rd_one, RG15, EVA, plug, eq_self, simprocAttr]; with_reducible rfl) ?_ | with_reducible refine h_go (by with_unfolding_all rfl) (by simp (disch := omega) only [klt', rT, eZ_rd, eZ_rc, eH_rd, e5_rd, hm, row_m hm, read_row (row_m hm), m1, f0', b0', n1', n2', n3', al', ga, rd_one, RG15, EVA, plug, eq_self, simprocAttr]; with_reducible rfl) ?_ | ((with_reducible refine chk_r ?_); refine r_callF (by simp only [CA, simprocAttr]; rfl) (by exact rfl) (by simp only [CA, simprocAttr]; rfl) rfl ?_) | ((with_reducible refine chk_h ?_); refine hr_callF (by simp only [CA, simprocAttr]; rfl) (by exact rfl) (by simp only [CA, simprocAttr]; rfl) rfl ?_) | ((with_reducible refine chk_r ?_); refine r_callP (by simp only [CA, simprocAttr]; rfl) (by simp only [CA, simprocAttr]; rfl) (by first | exact qn _ | exact qf _) rfl ?_) | ((with_reducible refine chk_h ?_); refine hr_callP (by simp only [CA, simprocAttr]; rfl) (by simp only [CA, simprocAttr]; rfl) (by first | exact qn _ | exact qf _) rfl ?_) | ((with_reducible refine chk_h ?_); refine hr_callP1 (by simp only [CA, simprocAttr]; rfl) (by simp only [CA, simprocAttr]; rfl) (by simp (disch := omega) only [CA, Nat.reduceEqDiff, ↓reduceIte, firstTok_nil, firstTok_sl, firstTok_sl0, firstTok_i, firstTok_b, firstTok_ag, firstTok_p, firstTok_s]; rfl) (by first | exact qn _ | exact qf _) rfl ?_) | ((with_reducible refine chk_h ?_); refine hr_app (by simp (disch := omega) only [klt', rT, eZ_rd, eZ_rc, eH_rd, e5_rd, hm, row_m hm, read_row (row_m hm), m1, f0', b0', n1', n2', n3', al', ga, rd_one, RG15, EVA, plug, eq_self, simprocAttr]; with_reducible rfl) rfl ?_) | (with_reducible refine k_condP (by simp only [GA, simprocAttr]; rfl) (by first | (simp only [BO]; rfl) | rfl) (fun ht => ?_) (fun ht => ?_) <;> try (first | exact False.elim ht | exact absurd rfl ht | exact absurd trivial ht | exact Bool.noConfusion ht)) | (with_reducible refine k_ret ?_; repeat with_reducible (first | refine ret_thru ?_ | refine ret_blk ?_ | refine fin ?_)) | (with_reducible refine k_exit ?_; repeat with_reducible (first | refine thru ?_ | refine out_blk ?_ | refine pass (by decide) ?_)) | ((first | refine post1 ?_ | refine post2 ?_ | refine post3 ?_); simp only [GA, simprocAttr]) | refine post0 ?_
        exact ⟨klt, (), (by rw [es]; exact (by simp only [Am.keep, List.map_cons, List.map_nil, GA, simprocAttr]; try rfl)), by simp (disch := omega) only [hm, m1, RG15, EVA, plug, eq_self, simprocAttr]⟩
       ·have es := eF fun _ => by omega
        have n3' := eq_false n3
        repeat' first | (with_reducible first | refine k_seq ?_ | refine k_skip ?_ | refine k_blkS ?_ | refine k_blkR ?_ | refine k_blkC ?_ | refine k_blkH ?_ | refine k_blkB ?_ | refine k_blkK ?_ | refine k_blkE ?_ | refine k_reg ?_) | with_reducible refine k_head (by with_unfolding_all rfl) ?_ | with_reducible refine k_headS ?_ | (with_reducible refine SepK.mk ?_ ?_; (refine sepQ_P ?_; simp [sepQ, sepG, AOp.late, AOp.free, AOp.xs, AOp.isAl, tokNe, AV.tok, stS_get, strip, AX.val, RG15, GA]; try omega)) | with_reducible refine r_done ?_ | with_reducible refine hr_done ?_ | with_reducible refine s_go (by simp (disch := omega) only [klt', rT, eZ_rd, eZ_rc, eH_rd, e5_rd, hm, row_m hm, read_row (row_m hm), m1, f0', b0', n1', n2', n3', al', ga, rd_one, RG15, EVA, plug, eq_self, simprocAttr]; with_reducible rfl) ?_ | with_reducible refine h_go (by with_unfolding_all rfl) (by simp (disch := omega) only [klt', rT, eZ_rd, eZ_rc, eH_rd, e5_rd, hm, row_m hm, read_row (row_m hm), m1, f0', b0', n1', n2', n3', al', ga, rd_one, RG15, EVA, plug, eq_self, simprocAttr]; with_reducible rfl) ?_ | ((with_reducible refine chk_r ?_); refine r_callF (by simp only [CA, simprocAttr]; rfl) (by exact rfl) (by simp only [CA, simprocAttr]; rfl) rfl ?_) | ((with_reducible refine chk_h ?_); refine hr_callF (by simp only [CA, simprocAttr]; rfl) (by exact rfl) (by simp only [CA, simprocAttr]; rfl) rfl ?_) | ((with_reducible refine chk_r ?_); refine r_callP (by simp only [CA, simprocAttr]; rfl) (by simp only [CA, simprocAttr]; rfl) (by first | exact qn _ | exact qf _) rfl ?_) | ((with_reducible refine chk_h ?_); refine hr_callP (by simp only [CA, simprocAttr]; rfl) (by simp only [CA, simprocAttr]; rfl) (by first | exact qn _ | exact qf _) rfl ?_) | ((with_reducible refine chk_h ?_); refine hr_callP1 (by simp only [CA, simprocAttr]; rfl) (by simp only [CA, simprocAttr]; rfl) (by simp (disch := omega) only [CA, Nat.reduceEqDiff, ↓reduceIte, firstTok_nil, firstTok_sl, firstTok_sl0, firstTok_i, firstTok_b, firstTok_ag, firstTok_p, firstTok_s]; rfl) (by first | exact qn _ | exact qf _) rfl ?_) | ((with_reducible refine chk_h ?_); refine hr_app (by simp (disch := omega) only [klt', rT, eZ_rd, eZ_rc, eH_rd, e5_rd, hm, row_m hm, read_row (row_m hm), m1, f0', b0', n1', n2', n3', al', ga, rd_one, RG15, EVA, plug, eq_self, simprocAttr]; with_reducible rfl) rfl ?_) | (with_reducible refine k_condP (by simp only [GA, simprocAttr]; rfl) (by first | (simp only [BO]; rfl) | rfl) (fun ht => ?_) (fun ht => ?_) <;> try (first | exact False.elim ht | exact absurd rfl ht | exact absurd trivial ht | exact Bool.noConfusion ht)) | (with_reducible refine k_ret ?_; repeat with_reducible (first | refine ret_thru ?_ | refine ret_blk ?_ | refine fin ?_)) | (with_reducible refine k_exit ?_; repeat with_reducible (first | refine thru ?_ | refine out_blk ?_ | refine pass (by decide) ?_)) | ((first | refine post1 ?_ | refine post2 ?_ | refine post3 ?_); simp only [GA, simprocAttr]) | refine post0 ?_
        exact ⟨klt, (), (by rw [es, pr]; exact (by simp only [Am.keep, List.map_cons, List.map_nil, GA, simprocAttr]; try rfl)), by simp (disch := omega) only [hm, m1, RG15, EVA, plug, eq_self, simprocAttr]⟩
      ·have es := eF fun _ => by omega
       have n2' := eq_false n2
       repeat' first | (with_reducible first | refine k_seq ?_ | refine k_skip ?_ | refine k_blkS ?_ | refine k_blkR ?_ | refine k_blkC ?_ | refine k_blkH ?_ | refine k_blkB ?_ | refine k_blkK ?_ | refine k_blkE ?_ | refine k_reg ?_) | with_reducible refine k_head (by with_unfolding_all rfl) ?_ | with_reducible refine k_headS ?_ | (with_reducible refine SepK.mk ?_ ?_; (refine sepQ_P ?_; simp [sepQ, sepG, AOp.late, AOp.free, AOp.xs, AOp.isAl, tokNe, AV.tok, stS_get, strip, AX.val, RG15, GA]; try omega)) | with_reducible refine r_done ?_ | with_reducible refine hr_done ?_ | with_reducible refine s_go (by simp (disch := omega) only [klt', rT, eZ_rd, eH_rd, e5_rd, hm, row_m hm, read_row (row_m hm), m1, f0', b0', n1', n2', RG15, EVA, plug, eq_self, simprocAttr]; with_reducible rfl) ?_ | with_reducible refine h_go (by with_unfolding_all rfl) (by simp (disch := omega) only [klt', rT, eZ_rd, eH_rd, e5_rd, hm, row_m hm, read_row (row_m hm), m1, f0', b0', n1', n2', RG15, EVA, plug, eq_self, simprocAttr]; with_reducible rfl) ?_ | ((with_reducible refine chk_r ?_); refine r_callF (by simp only [CA, simprocAttr]; rfl) (by exact rfl) (by simp only [CA, simprocAttr]; rfl) rfl ?_) | ((with_reducible refine chk_h ?_); refine hr_callF (by simp only [CA, simprocAttr]; rfl) (by exact rfl) (by simp only [CA, simprocAttr]; rfl) rfl ?_) | ((with_reducible refine chk_r ?_); refine r_callP (by simp only [CA, simprocAttr]; rfl) (by simp only [CA, simprocAttr]; rfl) (by first | exact qn _ | exact qf _) rfl ?_) | ((with_reducible refine chk_h ?_); refine hr_callP (by simp only [CA, simprocAttr]; rfl) (by simp only [CA, simprocAttr]; rfl) (by first | exact qn _ | exact qf _) rfl ?_) | ((with_reducible refine chk_h ?_); refine hr_callP1 (by simp only [CA, simprocAttr]; rfl) (by simp only [CA, simprocAttr]; rfl) (by simp (disch := omega) only [CA, Nat.reduceEqDiff, ↓reduceIte, firstTok_nil, firstTok_sl, firstTok_sl0, firstTok_i, firstTok_b, firstTok_ag, firstTok_p, firstTok_s]; rfl) (by first | exact qn _ | exact qf _) rfl ?_) | ((with_reducible refine chk_h ?_); refine hr_app (by simp (disch := omega) only [klt', rT, eZ_rd, eH_rd, e5_rd, hm, row_m hm, read_row (row_m hm), m1, f0', b0', n1', n2', RG15, EVA, plug, eq_self, simprocAttr]; with_reducible rfl) rfl ?_) | (with_reducible refine k_condP (by simp only [GA, simprocAttr]; rfl) (by first | (simp only [BO]; rfl) | rfl) (fun ht => ?_) (fun ht => ?_) <;> try (first | exact False.elim ht | exact absurd rfl ht | exact absurd trivial ht | exact Bool.noConfusion ht)) | (with_reducible refine k_ret ?_; repeat with_reducible (first | refine ret_thru ?_ | refine ret_blk ?_ | refine fin ?_)) | (with_reducible refine k_exit ?_; repeat with_reducible (first | refine thru ?_ | refine out_blk ?_ | refine pass (by decide) ?_)) | ((first | refine post1 ?_ | refine post2 ?_ | refine post3 ?_); simp only [GA, simprocAttr]) | refine post0 ?_
       exact ⟨klt, (), (by rw [es, pr]; exact (by simp only [Am.keep, List.map_cons, List.map_nil, GA, simprocAttr]; try rfl)), by simp (disch := omega) only [hm, m1, RG15, EVA, plug, eq_self, simprocAttr]⟩
   ·have f0' := eq_true (show (0 : Int) < F.length by omega)
    have es := eF fun q => absurd (ft.1 q) f0
    repeat' first | (with_reducible first | refine k_seq ?_ | refine k_skip ?_ | refine k_blkS ?_ | refine k_blkR ?_ | refine k_blkC ?_ | refine k_blkH ?_ | refine k_blkB ?_ | refine k_blkK ?_ | refine k_blkE ?_ | refine k_reg ?_) | with_reducible refine k_head (by with_unfolding_all rfl) ?_ | with_reducible refine k_headS ?_ | (with_reducible refine SepK.mk ?_ ?_; (refine sepQ_P ?_; simp [sepQ, sepG, AOp.late, AOp.free, AOp.xs, AOp.isAl, tokNe, AV.tok, stS_get, strip, AX.val, RG15, GA]; try omega)) | with_reducible refine r_done ?_ | with_reducible refine hr_done ?_ | with_reducible refine s_go (by simp (disch := omega) only [klt', rT, eZ_rd, eH_rd, e5_rd, hm, row_m hm, read_row (row_m hm), m1, f0', RG15, EVA, plug, eq_self, simprocAttr]; with_reducible rfl) ?_ | with_reducible refine h_go (by with_unfolding_all rfl) (by simp (disch := omega) only [klt', rT, eZ_rd, eH_rd, e5_rd, hm, row_m hm, read_row (row_m hm), m1, f0', RG15, EVA, plug, eq_self, simprocAttr]; with_reducible rfl) ?_ | ((with_reducible refine chk_r ?_); refine r_callF (by simp only [CA, simprocAttr]; rfl) (by exact rfl) (by simp only [CA, simprocAttr]; rfl) rfl ?_) | ((with_reducible refine chk_h ?_); refine hr_callF (by simp only [CA, simprocAttr]; rfl) (by exact rfl) (by simp only [CA, simprocAttr]; rfl) rfl ?_) | ((with_reducible refine chk_r ?_); refine r_callP (by simp only [CA, simprocAttr]; rfl) (by simp only [CA, simprocAttr]; rfl) (by first | exact qn _ | exact qf _) rfl ?_) | ((with_reducible refine chk_h ?_); refine hr_callP (by simp only [CA, simprocAttr]; rfl) (by simp only [CA, simprocAttr]; rfl) (by first | exact qn _ | exact qf _) rfl ?_) | ((with_reducible refine chk_h ?_); refine hr_callP1 (by simp only [CA, simprocAttr]; rfl) (by simp only [CA, simprocAttr]; rfl) (by simp (disch := omega) only [CA, Nat.reduceEqDiff, ↓reduceIte, firstTok_nil, firstTok_sl, firstTok_sl0, firstTok_i, firstTok_b, firstTok_ag, firstTok_p, firstTok_s]; rfl) (by first | exact qn _ | exact qf _) rfl ?_) | ((with_reducible refine chk_h ?_); refine hr_app (by simp (disch := omega) only [klt', rT, eZ_rd, eH_rd, e5_rd, hm, row_m hm, read_row (row_m hm), m1, f0', RG15, EVA, plug, eq_self, simprocAttr]; with_reducible rfl) rfl ?_) | (with_reducible refine k_condP (by simp only [GA, simprocAttr]; rfl) (by first | (simp only [BO]; rfl) | rfl) (fun ht => ?_) (fun ht => ?_) <;> try (first | exact False.elim ht | exact absurd rfl ht | exact absurd trivial ht | exact Bool.noConfusion ht)) | (with_reducible refine k_ret ?_; repeat with_reducible (first | refine ret_thru ?_ | refine ret_blk ?_ | refine fin ?_)) | (with_reducible refine k_exit ?_; repeat with_reducible (first | refine thru ?_ | refine out_blk ?_ | refine pass (by decide) ?_)) | ((first | refine post1 ?_ | refine post2 ?_ | refine post3 ?_); simp only [GA, simprocAttr]) | refine post0 ?_
    exact ⟨klt, (), (by rw [es, pr]; exact (by simp only [Am.keep, List.map_cons, List.map_nil, GA, simprocAttr]; try rfl)), by simp (disch := omega) only [hm, m1, RG15, EVA, plug, eq_self, simprocAttr]⟩
  ·obtain rfl : k = l.length := by omega
   have klt' : ¬ (l.length : Int) < l.length := by omega
   by_cases b0 : (chS l x l.length).1 < 0
   ·have b0' := eq_true b0
    rw [if_pos b0]
    repeat' first | (with_reducible first | refine k_seq ?_ | refine k_skip ?_ | refine k_blkS ?_ | refine k_blkR ?_ | refine k_blkC ?_ | refine k_blkH ?_ | refine k_blkB ?_ | refine k_blkK ?_ | refine k_blkE ?_ | refine k_reg ?_) | with_reducible refine k_head (by with_unfolding_all rfl) ?_ | with_reducible refine k_headS ?_ | (with_reducible refine SepK.mk ?_ ?_; (refine sepQ_P ?_; simp [sepQ, sepG, AOp.late, AOp.free, AOp.xs, AOp.isAl, tokNe, AV.tok, stS_get, strip, AX.val, RG15, GA]; try omega)) | with_reducible refine r_done ?_ | with_reducible refine hr_done ?_ | with_reducible refine s_go (by simp (disch := omega) only [klt', b0', RG15, EVA, plug, eq_self, simprocAttr]; with_reducible rfl) ?_ | with_reducible refine h_go (by with_unfolding_all rfl) (by simp (disch := omega) only [klt', b0', RG15, EVA, plug, eq_self, simprocAttr]; with_reducible rfl) ?_ | ((with_reducible refine chk_r ?_); refine r_callF (by simp only [CA, simprocAttr]; rfl) (by exact rfl) (by simp only [CA, simprocAttr]; rfl) rfl ?_) | ((with_reducible refine chk_h ?_); refine hr_callF (by simp only [CA, simprocAttr]; rfl) (by exact rfl) (by simp only [CA, simprocAttr]; rfl) rfl ?_) | ((with_reducible refine chk_h ?_); refine hr_app (by simp (disch := omega) only [klt', b0', RG15, EVA, plug, eq_self, simprocAttr]; with_reducible rfl) rfl ?_) | (with_reducible refine k_condP (by simp only [GA, simprocAttr]; rfl) (by first | (simp only [BO]; rfl) | rfl) (fun ht => ?_) (fun ht => ?_) <;> try (first | exact False.elim ht | exact absurd rfl ht | exact absurd trivial ht | exact Bool.noConfusion ht)) | (with_reducible refine k_ret ?_; repeat with_reducible (first | refine ret_thru ?_ | refine ret_blk ?_ | refine fin ?_)) | (with_reducible refine k_exit ?_; repeat with_reducible (first | refine thru ?_ | refine out_blk ?_ | refine pass (by decide) ?_)) | ((first | refine post1 ?_ | refine post2 ?_ | refine post3 ?_); simp only [GA, simprocAttr]) | refine post0 ?_
    all_goals first | exact ends_of | exact ends_eq rfl
   ·have b0' := eq_false b0
    rw [if_neg b0]
    repeat' first | (with_reducible first | refine k_seq ?_ | refine k_skip ?_ | refine k_blkS ?_ | refine k_blkR ?_ | refine k_blkC ?_ | refine k_blkH ?_ | refine k_blkB ?_ | refine k_blkK ?_ | refine k_blkE ?_ | refine k_reg ?_) | with_reducible refine k_head (by with_unfolding_all rfl) ?_ | with_reducible refine k_headS ?_ | (with_reducible refine SepK.mk ?_ ?_; (refine sepQ_P ?_; simp [sepQ, sepG, AOp.late, AOp.free, AOp.xs, AOp.isAl, tokNe, AV.tok, stS_get, strip, AX.val, RG15, GA]; try omega)) | with_reducible refine r_done ?_ | with_reducible refine hr_done ?_ | with_reducible refine s_go (by simp (disch := omega) only [klt', b0', RG15, EVA, plug, eq_self, simprocAttr]; with_reducible rfl) ?_ | with_reducible refine h_go (by with_unfolding_all rfl) (by simp (disch := omega) only [klt', b0', RG15, EVA, plug, eq_self, simprocAttr]; with_reducible rfl) ?_ | ((with_reducible refine chk_r ?_); refine r_callF (by simp only [CA, simprocAttr]; rfl) (by exact rfl) (by simp only [CA, simprocAttr]; rfl) rfl ?_) | ((with_reducible refine chk_h ?_); refine hr_callF (by simp only [CA, simprocAttr]; rfl) (by exact rfl) (by simp only [CA, simprocAttr]; rfl) rfl ?_) | ((with_reducible refine chk_h ?_); refine hr_app (by simp (disch := omega) only [klt', b0', RG15, EVA, plug, eq_self, simprocAttr]; with_reducible rfl) rfl ?_) | (with_reducible refine k_condP (by simp only [GA, simprocAttr]; rfl) (by first | (simp only [BO]; rfl) | rfl) (fun ht => ?_) (fun ht => ?_) <;> try (first | exact False.elim ht | exact absurd rfl ht | exact absurd trivial ht | exact Bool.noConfusion ht)) | (with_reducible refine k_ret ?_; repeat with_reducible (first | refine ret_thru ?_ | refine ret_blk ?_ | refine fin ?_)) | (with_reducible refine k_exit ?_; repeat with_reducible (first | refine thru ?_ | refine out_blk ?_ | refine pass (by decide) ?_)) | ((first | refine post1 ?_ | refine post2 ?_ | refine post3 ?_); simp only [GA, simprocAttr]) | refine post0 ?_
    all_goals first | exact ends_of | exact ends_eq rfl
 ·have c' := eq_false c
  rw [if_pos c]
  repeat' first | (with_reducible first | refine k_seq ?_ | refine k_skip ?_ | refine k_blkS ?_ | refine k_blkR ?_ | refine k_blkC ?_ | refine k_blkH ?_ | refine k_blkB ?_ | refine k_blkK ?_ | refine k_blkE ?_ | refine k_reg ?_) | with_reducible refine k_head (by with_unfolding_all rfl) ?_ | with_reducible refine k_headS ?_ | (with_reducible refine SepK.mk ?_ ?_; (refine sepQ_P ?_; simp [sepQ, sepG, AOp.late, AOp.free, AOp.xs, AOp.isAl, tokNe, AV.tok, stS_get, strip, AX.val, RG15, GA]; try omega)) | with_reducible refine r_done ?_ | with_reducible refine hr_done ?_ | with_reducible refine s_go (by simp (disch := omega) only [c', eH_rd, RG15, EVA, plug, eq_self, simprocAttr]; with_reducible rfl) ?_ | with_reducible refine h_go (by with_unfolding_all rfl) (by simp (disch := omega) only [c', eH_rd, RG15, EVA, plug, eq_self, simprocAttr]; with_reducible rfl) ?_ | ((with_reducible refine chk_r ?_); refine r_callF (by simp only [CA, simprocAttr]; rfl) (by exact rfl) (by simp only [CA, simprocAttr]; rfl) rfl ?_) | ((with_reducible refine chk_h ?_); refine hr_callF (by simp only [CA, simprocAttr]; rfl) (by exact rfl) (by simp only [CA, simprocAttr]; rfl) rfl ?_) | ((with_reducible refine chk_r ?_); refine r_callP (by simp only [CA, simprocAttr]; rfl) (by simp only [CA, simprocAttr]; rfl) (by first | ((refine PC.at q1 rfl ?F; case F => (refine .cons (.same (fleZ_plain _)) (.cons (.row (by simp (disch := omega) only [RG15, EVA, plug, eq_self, simprocAttr] <;> rfl) rfl) .nil))); all_goals fail)) rfl ?_) | ((with_reducible refine chk_h ?_); refine hr_callP (by simp only [CA, simprocAttr]; rfl) (by simp only [CA, simprocAttr]; rfl) (by first | ((refine PC.at q1 rfl ?F; case F => (refine .cons (.same (fleZ_plain _)) (.cons (.row (by simp (disch := omega) only [RG15, EVA, plug, eq_self, simprocAttr] <;> rfl) rfl) .nil))); all_goals fail)) rfl ?_) | ((with_reducible refine chk_h ?_); refine hr_callP1 (by simp only [CA, simprocAttr]; rfl) (by simp only [CA, simprocAttr]; rfl) (by simp (disch := omega) only [CA, Nat.reduceEqDiff, ↓reduceIte, firstTok_nil, firstTok_sl, firstTok_sl0, firstTok_i, firstTok_b, firstTok_ag, firstTok_p, firstTok_s]; rfl) (by first | ((refine PC.at q1 rfl ?F; case F => (refine .cons (.same (fleZ_plain _)) (.cons (.row (by simp (disch := omega) only [RG15, EVA, plug, eq_self, simprocAttr] <;> rfl) rfl) .nil))); all_goals fail)) rfl ?_) | ((with_reducible refine chk_h ?_); refine hr_app (by simp (disch := omega) only [c', eH_rd, RG15, EVA, plug, eq_self, simprocAttr]; with_reducible rfl) rfl ?_) | (with_reducible refine k_condP (by simp only [GA, simprocAttr]; rfl) (by first | (simp only [BO]; rfl) | rfl) (fun ht => ?_) (fun ht => ?_) <;> try (first | exact False.elim ht | exact absurd rfl ht | exact absurd trivial ht | exact Bool.noConfusion ht)) | (with_reducible refine k_ret ?_; repeat with_reducible (first | refine ret_thru ?_ | refine ret_blk ?_ | refine fin ?_)) | (with_reducible refine k_exit ?_; repeat with_reducible (first | refine thru ?_ | refine out_blk ?_ | refine pass (by decide) ?_)) | ((first | refine post1 ?_ | refine post2 ?_ | refine post3 ?_); simp only [GA, simprocAttr]) | refine post0 ?_
  all_goals first | exact ends_of | exact ends_eq rfl
theorem RG16 : (type_of% @c16r0.eq_1) ∧ (type_of% @c16r1.eq_1) ∧ (type_of% @c16r2.eq_1) ∧ (type_of% @c16r3.eq_1) ∧ (type_of% @c16r4.eq_1) ∧ (type_of% @c16r5.eq_1) ∧ (type_of% @c16r6.eq_1) ∧ (type_of% @c16r7.eq_1) ∧ (type_of% @c16r8.eq_1) ∧ (type_of% @c16r9.eq_1) ∧ (type_of% @c16r10.eq_1) ∧ (type_of% @c16r11.eq_1) ∧ (type_of% @c16r13.eq_1) ∧ (type_of% @c16r14.eq_1) ∧ (type_of% @c16r15.eq_1) := ⟨@c16r0.eq_1, @c16r1.eq_1, @c16r2.eq_1, @c16r3.eq_1, @c16r4.eq_1, @c16r5.eq_1, @c16r6.eq_1, @c16r7.eq_1, @c16r8.eq_1, @c16r9.eq_1, @c16r10.eq_1, @c16r11.eq_1, @c16r13.eq_1, @c16r14.eq_1, @c16r15.eq_1⟩
set_option maxHeartbeats 2000000 in
theorem d16 (l : List Sz) (x : Hd) (hl : l.length ≤ 9223372036854775807) : PC Tryd.prog 16 [vZ l, .ag (eH x)] (.tu [.i .i64 (chR l x).1, .i .i64 (chR l x).2]) := by
 have q1 := pc50 l [x] hl (by simp)
 unfold chR
 refine pc_fn fn16 (by simp only [AV.plains, AV.plain, il_plain, bl_plain, Bool.and_true, Bool.true_and, Bool.and_self, fleZ_plain]) (by simp only [AV.plains, AV.plain, il_plain, bl_plain, Bool.and_true, Bool.true_and, Bool.and_self, fleZ_plain]) (Nat.le_of_ble_eq_true rfl) ?_
 rw [initSt2]
 by_cases c : chk l [x] = 0
 ·rw [if_neg (by simp [c])]
  rw [c] at q1
  have L := szsOk_iff.1 (chk_ok c).1
  have hx := hd_one (chk_ok c).2
  repeat' first | (with_reducible first | refine k_seq ?_ | refine k_skip ?_ | refine k_blkS ?_ | refine k_blkR ?_ | refine k_blkC ?_ | refine k_blkH ?_ | refine k_blkB ?_ | refine k_blkK ?_ | refine k_blkE ?_ | refine k_reg ?_) | with_reducible refine k_head (by with_unfolding_all rfl) ?_ | with_reducible refine k_headS ?_ | (with_reducible refine SepK.mk ?_ ?_; (refine sepQ_P ?_; simp [sepQ, sepG, AOp.late, AOp.free, AOp.xs, AOp.isAl, tokNe, AV.tok, stS_get, strip, AX.val, RG16, GA]; try omega)) | with_reducible refine r_done ?_ | with_reducible refine hr_done ?_ | with_reducible refine s_go (by simp (disch := omega) only [eH_rd, RG16, EVA, plug, eq_self, simprocAttr]; with_reducible rfl) ?_ | with_reducible refine h_go (by with_unfolding_all rfl) (by simp (disch := omega) only [eH_rd, RG16, EVA, plug, eq_self, simprocAttr]; with_reducible rfl) ?_ | ((with_reducible refine chk_r ?_); refine r_callF (by simp only [CA, simprocAttr]; rfl) (by exact rfl) (by simp only [CA, simprocAttr]; rfl) rfl ?_) | ((with_reducible refine chk_h ?_); refine hr_callF (by simp only [CA, simprocAttr]; rfl) (by exact rfl) (by simp only [CA, simprocAttr]; rfl) rfl ?_) | ((with_reducible refine chk_r ?_); refine r_callP (by simp only [CA, simprocAttr]; rfl) (by simp only [CA, simprocAttr]; rfl) (by first | ((refine PC.at q1 rfl ?F; case F => (refine .cons (.same (fleZ_plain _)) (.cons (.row (by simp (disch := omega) only [RG16, EVA, plug, eq_self, simprocAttr] <;> rfl) rfl) .nil))); all_goals fail)) rfl ?_) | ((with_reducible refine chk_h ?_); refine hr_callP (by simp only [CA, simprocAttr]; rfl) (by simp only [CA, simprocAttr]; rfl) (by first | ((refine PC.at q1 rfl ?F; case F => (refine .cons (.same (fleZ_plain _)) (.cons (.row (by simp (disch := omega) only [RG16, EVA, plug, eq_self, simprocAttr] <;> rfl) rfl) .nil))); all_goals fail)) rfl ?_) | ((with_reducible refine chk_h ?_); refine hr_callP1 (by simp only [CA, simprocAttr]; rfl) (by simp only [CA, simprocAttr]; rfl) (by simp (disch := omega) only [CA, Nat.reduceEqDiff, ↓reduceIte, firstTok_nil, firstTok_sl, firstTok_sl0, firstTok_i, firstTok_b, firstTok_ag, firstTok_p, firstTok_s]; rfl) (by first | ((refine PC.at q1 rfl ?F; case F => (refine .cons (.same (fleZ_plain _)) (.cons (.row (by simp (disch := omega) only [RG16, EVA, plug, eq_self, simprocAttr] <;> rfl) rfl) .nil))); all_goals fail)) rfl ?_) | ((with_reducible refine chk_h ?_); refine hr_app (by simp (disch := omega) only [eH_rd, RG16, EVA, plug, eq_self, simprocAttr]; with_reducible rfl) rfl ?_) | (with_reducible refine k_condP (by simp only [GA, simprocAttr]; rfl) (by first | (simp only [BO]; rfl) | rfl) (fun ht => ?_) (fun ht => ?_) <;> try (first | exact False.elim ht | exact absurd rfl ht | exact absurd trivial ht | exact Bool.noConfusion ht)) | (with_reducible refine k_ret ?_; repeat with_reducible (first | refine ret_thru ?_ | refine ret_blk ?_ | refine fin ?_)) | (with_reducible refine k_exit ?_; repeat with_reducible (first | refine thru ?_ | refine out_blk ?_ | refine pass (by decide) ?_)) | ((first | refine post1 ?_ | refine post2 ?_ | refine post3 ?_); simp only [GA, simprocAttr]) | refine post0 ?_
  refine k_blk (k_loopS (X := Unit) [0, 3, 7, 8, 20, 21, 22] l.length (fun k _ => [(0, vZ l), (3, .p 1 0), (7, .i .i64 (chS l x k).1), (8, .i .i64 (chS l x k).2), (20, vZ l), (21, .i .i64 l.length), (22, .i .i64 (k : Int))]) (fun k _ h => h.m 1 = some (.cells true (eH x))) () (by simp only [Am.keep, List.map_cons, List.map_nil, GA, simprocAttr]; try rfl) (by simp (disch := omega) only [RG16, EVA, plug, eq_self, simprocAttr] <;> rfl) ?_)
  rintro k _ h hk hm ok pos
  have l1 := ok.m hm
  by_cases klt : k < l.length
  ·have klt' : (k : Int) < l.length := by omega
   have rT := rdZ klt
   have hs := L.2.1 k klt
   have qn := pc44 (zD l k) x hs hx
   have qf := pc53 (zD l k) x hs hx
   have bd := chS_bd l x k
   have eT : fitB (zD l k) x = true → ((chS l x k).1 < 0 ∨ nS (zD l k) x 5 < (chS l x k).2 ∨ (nS (zD l k) x 5 = (chS l x k).2 ∧ (zD l k).c < (zD l (chS l x k).1.toNat).c)) → chS l x (k + 1) = ((k : Int), nS (zD l k) x 5) := fun h1 h2 => if_pos ⟨h1, h2⟩
   have eF : (fitB (zD l k) x = true → ¬ ((chS l x k).1 < 0 ∨ nS (zD l k) x 5 < (chS l x k).2 ∨ (nS (zD l k) x 5 = (chS l x k).2 ∧ (zD l k).c < (zD l (chS l x k).1.toNat).c))) → chS l x (k + 1) = chS l x k := fun h => if_neg fun q => h q.1 q.2
   have gc : ∀ b : Nat, b < l.length → (fl eZ l)[b * 17]? = some (.i .i64 (zD l b).c) := fun b hb => by
    have := congrArg (fun r => r[0]?) (fl_at eZ_len Z0 hb)
    simp only [List.getElem?_take, List.getElem?_drop, Nat.add_zero] at this
    rw [if_pos (by omega)] at this
    exact this
   generalize nS (zD l k) x 5 = n at *
   generalize hb : (chS l x k).1 = b at *
   generalize hls : (chS l x k).2 = ls at *
   have pr : chS l x k = (b, ls) := by rw [← hb, ← hls]
   have m1 : ¬ (1 : Nat) = h.nx + 1 + 3 := by omega
   cases f0 : fitB (zD l k) x with
   | true =>
     rw [f0] at qf
     have f1 : fitB (zD l k) x = true := f0
     by_cases b0 : b < 0
     ·have es := eT f1 (.inl b0)
      have b0' := eq_true b0
      repeat' first | (with_reducible first | refine k_seq ?_ | refine k_skip ?_ | refine k_blkS ?_ | refine k_blkR ?_ | refine k_blkC ?_ | refine k_blkH ?_ | refine k_blkB ?_ | refine k_blkK ?_ | refine k_blkE ?_ | refine k_reg ?_) | with_reducible refine k_head (by with_unfolding_all rfl) ?_ | with_reducible refine k_headS ?_ | (with_reducible refine SepK.mk ?_ ?_; (refine sepQ_P ?_; simp [sepQ, sepG, AOp.late, AOp.free, AOp.xs, AOp.isAl, tokNe, AV.tok, stS_get, strip, AX.val, RG16, GA]; try omega)) | with_reducible refine r_done ?_ | with_reducible refine hr_done ?_ | with_reducible refine s_go (by simp (disch := omega) only [klt', rT, eZ_rd, eH_rd, e5_rd, hm, row_m hm, read_row (row_m hm), m1, b0', RG16, EVA, plug, eq_self, simprocAttr]; with_reducible rfl) ?_ | with_reducible refine h_go (by with_unfolding_all rfl) (by simp (disch := omega) only [klt', rT, eZ_rd, eH_rd, e5_rd, hm, row_m hm, read_row (row_m hm), m1, b0', RG16, EVA, plug, eq_self, simprocAttr]; with_reducible rfl) ?_ | ((with_reducible refine chk_r ?_); refine r_callF (by simp only [CA, simprocAttr]; rfl) (by exact rfl) (by simp only [CA, simprocAttr]; rfl) rfl ?_) | ((with_reducible refine chk_h ?_); refine hr_callF (by simp only [CA, simprocAttr]; rfl) (by exact rfl) (by simp only [CA, simprocAttr]; rfl) rfl ?_) | ((with_reducible refine chk_r ?_); refine r_callP (by simp only [CA, simprocAttr]; rfl) (by simp only [CA, simprocAttr]; rfl) (by first | exact qn _ | exact qf _) rfl ?_) | ((with_reducible refine chk_h ?_); refine hr_callP (by simp only [CA, simprocAttr]; rfl) (by simp only [CA, simprocAttr]; rfl) (by first | exact qn _ | exact qf _) rfl ?_) | ((with_reducible refine chk_h ?_); refine hr_callP1 (by simp only [CA, simprocAttr]; rfl) (by simp only [CA, simprocAttr]; rfl) (by simp (disch := omega) only [CA, Nat.reduceEqDiff, ↓reduceIte, firstTok_nil, firstTok_sl, firstTok_sl0, firstTok_i, firstTok_b, firstTok_ag, firstTok_p, firstTok_s]; rfl) (by first | exact qn _ | exact qf _) rfl ?_) | ((with_reducible refine chk_h ?_); refine hr_app (by simp (disch := omega) only [klt', rT, eZ_rd, eH_rd, e5_rd, hm, row_m hm, read_row (row_m hm), m1, b0', RG16, EVA, plug, eq_self, simprocAttr]; with_reducible rfl) rfl ?_) | (with_reducible refine k_condP (by simp only [GA, simprocAttr]; rfl) (by first | (simp only [BO]; rfl) | rfl) (fun ht => ?_) (fun ht => ?_) <;> try (first | exact False.elim ht | exact absurd rfl ht | exact absurd trivial ht | exact Bool.noConfusion ht)) | (with_reducible refine k_ret ?_; repeat with_reducible (first | refine ret_thru ?_ | refine ret_blk ?_ | refine fin ?_)) | (with_reducible refine k_exit ?_; repeat with_reducible (first | refine thru ?_ | refine out_blk ?_ | refine pass (by decide) ?_)) | ((first | refine post1 ?_ | refine post2 ?_ | refine post3 ?_); simp only [GA, simprocAttr]) | refine post0 ?_
      exact ⟨klt, (), (by rw [es]; exact (by simp only [Am.keep, List.map_cons, List.map_nil, GA, simprocAttr]; try rfl)), by simp (disch := omega) only [hm, m1, RG16, EVA, plug, eq_self, simprocAttr]⟩
     ·have b0' := eq_false b0
      obtain ⟨a, rfl⟩ : ∃ a : Nat, b = (a : Int) := ⟨b.toNat, by omega⟩
      have al : a < l.length := by omega
      have al' : (a : Int) < l.length := by omega
      have ga := gc a al
      rw [Int.toNat_natCast] at eT eF
      by_cases n1 : n < ls
      ·have es := eT f1 (.inr (.inl n1))
       have n1' := eq_true n1
       repeat' first | (with_reducible first | refine k_seq ?_ | refine k_skip ?_ | refine k_blkS ?_ | refine k_blkR ?_ | refine k_blkC ?_ | refine k_blkH ?_ | refine k_blkB ?_ | refine k_blkK ?_ | refine k_blkE ?_ | refine k_reg ?_) | with_reducible refine k_head (by with_unfolding_all rfl) ?_ | with_reducible refine k_headS ?_ | (with_reducible refine SepK.mk ?_ ?_; (refine sepQ_P ?_; simp [sepQ, sepG, AOp.late, AOp.free, AOp.xs, AOp.isAl, tokNe, AV.tok, stS_get, strip, AX.val, RG16, GA]; try omega)) | with_reducible refine r_done ?_ | with_reducible refine hr_done ?_ | with_reducible refine s_go (by simp (disch := omega) only [klt', rT, eZ_rd, eH_rd, e5_rd, hm, row_m hm, read_row (row_m hm), m1, b0', n1', RG16, EVA, plug, eq_self, simprocAttr]; with_reducible rfl) ?_ | with_reducible refine h_go (by with_unfolding_all rfl) (by simp (disch := omega) only [klt', rT, eZ_rd, eH_rd, e5_rd, hm, row_m hm, read_row (row_m hm), m1, b0', n1', RG16, EVA, plug, eq_self, simprocAttr]; with_reducible rfl) ?_ | ((with_reducible refine chk_r ?_); refine r_callF (by simp only [CA, simprocAttr]; rfl) (by exact rfl) (by simp only [CA, simprocAttr]; rfl) rfl ?_) | ((with_reducible refine chk_h ?_); refine hr_callF (by simp only [CA, simprocAttr]; rfl) (by exact rfl) (by simp only [CA, simprocAttr]; rfl) rfl ?_) | ((with_reducible refine chk_r ?_); refine r_callP (by simp only [CA, simprocAttr]; rfl) (by simp only [CA, simprocAttr]; rfl) (by first | exact qn _ | exact qf _) rfl ?_) | ((with_reducible refine chk_h ?_); refine hr_callP (by simp only [CA, simprocAttr]; rfl) (by simp only [CA, simprocAttr]; rfl) (by first | exact qn _ | exact qf _) rfl ?_) | ((with_reducible refine chk_h ?_); refine hr_callP1 (by simp only [CA, simprocAttr]; rfl) (by simp only [CA, simprocAttr]; rfl) (by simp (disch := omega) only [CA, Nat.reduceEqDiff, ↓reduceIte, firstTok_nil, firstTok_sl, firstTok_sl0, firstTok_i, firstTok_b, firstTok_ag, firstTok_p, firstTok_s]; rfl) (by first | exact qn _ | exact qf _) rfl ?_) | ((with_reducible refine chk_h ?_); refine hr_app (by simp (disch := omega) only [klt', rT, eZ_rd, eH_rd, e5_rd, hm, row_m hm, read_row (row_m hm), m1, b0', n1', RG16, EVA, plug, eq_self, simprocAttr]; with_reducible rfl) rfl ?_) | (with_reducible refine k_condP (by simp only [GA, simprocAttr]; rfl) (by first | (simp only [BO]; rfl) | rfl) (fun ht => ?_) (fun ht => ?_) <;> try (first | exact False.elim ht | exact absurd rfl ht | exact absurd trivial ht | exact Bool.noConfusion ht)) | (with_reducible refine k_ret ?_; repeat with_reducible (first | refine ret_thru ?_ | refine ret_blk ?_ | refine fin ?_)) | (with_reducible refine k_exit ?_; repeat with_reducible (first | refine thru ?_ | refine out_blk ?_ | refine pass (by decide) ?_)) | ((first | refine post1 ?_ | refine post2 ?_ | refine post3 ?_); simp only [GA, simprocAttr]) | refine post0 ?_
       exact ⟨klt, (), (by rw [es]; exact (by simp only [Am.keep, List.map_cons, List.map_nil, GA, simprocAttr]; try rfl)), by simp (disch := omega) only [hm, m1, RG16, EVA, plug, eq_self, simprocAttr]⟩
      ·have n1' := eq_false n1
       by_cases n2 : n = ls
       ·have n2' := eq_true n2
        by_cases n3 : (zD l k).c < (zD l a).c
        ·have es := eT f1 (.inr (.inr ⟨n2, n3⟩))
         have n3' := eq_true n3
         repeat' first | (with_reducible first | refine k_seq ?_ | refine k_skip ?_ | refine k_blkS ?_ | refine k_blkR ?_ | refine k_blkC ?_ | refine k_blkH ?_ | refine k_blkB ?_ | refine k_blkK ?_ | refine k_blkE ?_ | refine k_reg ?_) | with_reducible refine k_head (by with_unfolding_all rfl) ?_ | with_reducible refine k_headS ?_ | (with_reducible refine SepK.mk ?_ ?_; (refine sepQ_P ?_; simp [sepQ, sepG, AOp.late, AOp.free, AOp.xs, AOp.isAl, tokNe, AV.tok, stS_get, strip, AX.val, RG16, GA]; try omega)) | with_reducible refine r_done ?_ | with_reducible refine hr_done ?_ | with_reducible refine s_go (by simp (disch := omega) only [klt', rT, eZ_rd, eZ_rc, eH_rd, e5_rd, hm, row_m hm, read_row (row_m hm), m1, b0', n1', n2', n3', al', ga, rd_one, RG16, EVA, plug, eq_self, simprocAttr]; with_reducible rfl) ?_ | with_reducible refine h_go (by with_unfolding_all rfl) (by simp (disch := omega) only [klt', rT, eZ_rd, eZ_rc, eH_rd, e5_rd, hm, row_m hm, read_row (row_m hm), m1, b0', n1', n2', n3', al', ga, rd_one, RG16, EVA, plug, eq_self, simprocAttr]; with_reducible rfl) ?_ | ((with_reducible refine chk_r ?_); refine r_callF (by simp only [CA, simprocAttr]; rfl) (by exact rfl) (by simp only [CA, simprocAttr]; rfl) rfl ?_) | ((with_reducible refine chk_h ?_); refine hr_callF (by simp only [CA, simprocAttr]; rfl) (by exact rfl) (by simp only [CA, simprocAttr]; rfl) rfl ?_) | ((with_reducible refine chk_r ?_); refine r_callP (by simp only [CA, simprocAttr]; rfl) (by simp only [CA, simprocAttr]; rfl) (by first | exact qn _ | exact qf _) rfl ?_) | ((with_reducible refine chk_h ?_); refine hr_callP (by simp only [CA, simprocAttr]; rfl) (by simp only [CA, simprocAttr]; rfl) (by first | exact qn _ | exact qf _) rfl ?_) | ((with_reducible refine chk_h ?_); refine hr_callP1 (by simp only [CA, simprocAttr]; rfl) (by simp only [CA, simprocAttr]; rfl) (by simp (disch := omega) only [CA, Nat.reduceEqDiff, ↓reduceIte, firstTok_nil, firstTok_sl, firstTok_sl0, firstTok_i, firstTok_b, firstTok_ag, firstTok_p, firstTok_s]; rfl) (by first | exact qn _ | exact qf _) rfl ?_) | ((with_reducible refine chk_h ?_); refine hr_app (by simp (disch := omega) only [klt', rT, eZ_rd, eZ_rc, eH_rd, e5_rd, hm, row_m hm, read_row (row_m hm), m1, b0', n1', n2', n3', al', ga, rd_one, RG16, EVA, plug, eq_self, simprocAttr]; with_reducible rfl) rfl ?_) | (with_reducible refine k_condP (by simp only [GA, simprocAttr]; rfl) (by first | (simp only [BO]; rfl) | rfl) (fun ht => ?_) (fun ht => ?_) <;> try (first | exact False.elim ht | exact absurd rfl ht | exact absurd trivial ht | exact Bool.noConfusion ht)) | (with_reducible refine k_ret ?_; repeat with_reducible (first | refine ret_thru ?_ | refine ret_blk ?_ | refine fin ?_)) | (with_reducible refine k_exit ?_; repeat with_reducible (first | refine thru ?_ | refine out_blk ?_ | refine pass (by decide) ?_)) | ((first | refine post1 ?_ | refine post2 ?_ | refine post3 ?_); simp only [GA, simprocAttr]) | refine post0 ?_
         exact ⟨klt, (), (by rw [es]; exact (by simp only [Am.keep, List.map_cons, List.map_nil, GA, simprocAttr]; try rfl)), by simp (disch := omega) only [hm, m1, RG16, EVA, plug, eq_self, simprocAttr]⟩
        ·have es := eF fun _ => by omega
         have n3' := eq_false n3
         repeat' first | (with_reducible first | refine k_seq ?_ | refine k_skip ?_ | refine k_blkS ?_ | refine k_blkR ?_ | refine k_blkC ?_ | refine k_blkH ?_ | refine k_blkB ?_ | refine k_blkK ?_ | refine k_blkE ?_ | refine k_reg ?_) | with_reducible refine k_head (by with_unfolding_all rfl) ?_ | with_reducible refine k_headS ?_ | (with_reducible refine SepK.mk ?_ ?_; (refine sepQ_P ?_; simp [sepQ, sepG, AOp.late, AOp.free, AOp.xs, AOp.isAl, tokNe, AV.tok, stS_get, strip, AX.val, RG16, GA]; try omega)) | with_reducible refine r_done ?_ | with_reducible refine hr_done ?_ | with_reducible refine s_go (by simp (disch := omega) only [klt', rT, eZ_rd, eZ_rc, eH_rd, e5_rd, hm, row_m hm, read_row (row_m hm), m1, b0', n1', n2', n3', al', ga, rd_one, RG16, EVA, plug, eq_self, simprocAttr]; with_reducible rfl) ?_ | with_reducible refine h_go (by with_unfolding_all rfl) (by simp (disch := omega) only [klt', rT, eZ_rd, eZ_rc, eH_rd, e5_rd, hm, row_m hm, read_row (row_m hm), m1, b0', n1', n2', n3', al', ga, rd_one, RG16, EVA, plug, eq_self, simprocAttr]; with_reducible rfl) ?_ | ((with_reducible refine chk_r ?_); refine r_callF (by simp only [CA, simprocAttr]; rfl) (by exact rfl) (by simp only [CA, simprocAttr]; rfl) rfl ?_) | ((with_reducible refine chk_h ?_); refine hr_callF (by simp only [CA, simprocAttr]; rfl) (by exact rfl) (by simp only [CA, simprocAttr]; rfl) rfl ?_) | ((with_reducible refine chk_r ?_); refine r_callP (by simp only [CA, simprocAttr]; rfl) (by simp only [CA, simprocAttr]; rfl) (by first | exact qn _ | exact qf _) rfl ?_) | ((with_reducible refine chk_h ?_); refine hr_callP (by simp only [CA, simprocAttr]; rfl) (by simp only [CA, simprocAttr]; rfl) (by first | exact qn _ | exact qf _) rfl ?_) | ((with_reducible refine chk_h ?_); refine hr_callP1 (by simp only [CA, simprocAttr]; rfl) (by simp only [CA, simprocAttr]; rfl) (by simp (disch := omega) only [CA, Nat.reduceEqDiff, ↓reduceIte, firstTok_nil, firstTok_sl, firstTok_sl0, firstTok_i, firstTok_b, firstTok_ag, firstTok_p, firstTok_s]; rfl) (by first | exact qn _ | exact qf _) rfl ?_) | ((with_reducible refine chk_h ?_); refine hr_app (by simp (disch := omega) only [klt', rT, eZ_rd, eZ_rc, eH_rd, e5_rd, hm, row_m hm, read_row (row_m hm), m1, b0', n1', n2', n3', al', ga, rd_one, RG16, EVA, plug, eq_self, simprocAttr]; with_reducible rfl) rfl ?_) | (with_reducible refine k_condP (by simp only [GA, simprocAttr]; rfl) (by first | (simp only [BO]; rfl) | rfl) (fun ht => ?_) (fun ht => ?_) <;> try (first | exact False.elim ht | exact absurd rfl ht | exact absurd trivial ht | exact Bool.noConfusion ht)) | (with_reducible refine k_ret ?_; repeat with_reducible (first | refine ret_thru ?_ | refine ret_blk ?_ | refine fin ?_)) | (with_reducible refine k_exit ?_; repeat with_reducible (first | refine thru ?_ | refine out_blk ?_ | refine pass (by decide) ?_)) | ((first | refine post1 ?_ | refine post2 ?_ | refine post3 ?_); simp only [GA, simprocAttr]) | refine post0 ?_
         exact ⟨klt, (), (by rw [es, pr]; exact (by simp only [Am.keep, List.map_cons, List.map_nil, GA, simprocAttr]; try rfl)), by simp (disch := omega) only [hm, m1, RG16, EVA, plug, eq_self, simprocAttr]⟩
       ·have es := eF fun _ => by omega
        have n2' := eq_false n2
        repeat' first | (with_reducible first | refine k_seq ?_ | refine k_skip ?_ | refine k_blkS ?_ | refine k_blkR ?_ | refine k_blkC ?_ | refine k_blkH ?_ | refine k_blkB ?_ | refine k_blkK ?_ | refine k_blkE ?_ | refine k_reg ?_) | with_reducible refine k_head (by with_unfolding_all rfl) ?_ | with_reducible refine k_headS ?_ | (with_reducible refine SepK.mk ?_ ?_; (refine sepQ_P ?_; simp [sepQ, sepG, AOp.late, AOp.free, AOp.xs, AOp.isAl, tokNe, AV.tok, stS_get, strip, AX.val, RG16, GA]; try omega)) | with_reducible refine r_done ?_ | with_reducible refine hr_done ?_ | with_reducible refine s_go (by simp (disch := omega) only [klt', rT, eZ_rd, eH_rd, e5_rd, hm, row_m hm, read_row (row_m hm), m1, b0', n1', n2', RG16, EVA, plug, eq_self, simprocAttr]; with_reducible rfl) ?_ | with_reducible refine h_go (by with_unfolding_all rfl) (by simp (disch := omega) only [klt', rT, eZ_rd, eH_rd, e5_rd, hm, row_m hm, read_row (row_m hm), m1, b0', n1', n2', RG16, EVA, plug, eq_self, simprocAttr]; with_reducible rfl) ?_ | ((with_reducible refine chk_r ?_); refine r_callF (by simp only [CA, simprocAttr]; rfl) (by exact rfl) (by simp only [CA, simprocAttr]; rfl) rfl ?_) | ((with_reducible refine chk_h ?_); refine hr_callF (by simp only [CA, simprocAttr]; rfl) (by exact rfl) (by simp only [CA, simprocAttr]; rfl) rfl ?_) | ((with_reducible refine chk_r ?_); refine r_callP (by simp only [CA, simprocAttr]; rfl) (by simp only [CA, simprocAttr]; rfl) (by first | exact qn _ | exact qf _) rfl ?_) | ((with_reducible refine chk_h ?_); refine hr_callP (by simp only [CA, simprocAttr]; rfl) (by simp only [CA, simprocAttr]; rfl) (by first | exact qn _ | exact qf _) rfl ?_) | ((with_reducible refine chk_h ?_); refine hr_callP1 (by simp only [CA, simprocAttr]; rfl) (by simp only [CA, simprocAttr]; rfl) (by simp (disch := omega) only [CA, Nat.reduceEqDiff, ↓reduceIte, firstTok_nil, firstTok_sl, firstTok_sl0, firstTok_i, firstTok_b, firstTok_ag, firstTok_p, firstTok_s]; rfl) (by first | exact qn _ | exact qf _) rfl ?_) | ((with_reducible refine chk_h ?_); refine hr_app (by simp (disch := omega) only [klt', rT, eZ_rd, eH_rd, e5_rd, hm, row_m hm, read_row (row_m hm), m1, b0', n1', n2', RG16, EVA, plug, eq_self, simprocAttr]; with_reducible rfl) rfl ?_) | (with_reducible refine k_condP (by simp only [GA, simprocAttr]; rfl) (by first | (simp only [BO]; rfl) | rfl) (fun ht => ?_) (fun ht => ?_) <;> try (first | exact False.elim ht | exact absurd rfl ht | exact absurd trivial ht | exact Bool.noConfusion ht)) | (with_reducible refine k_ret ?_; repeat with_reducible (first | refine ret_thru ?_ | refine ret_blk ?_ | refine fin ?_)) | (with_reducible refine k_exit ?_; repeat with_reducible (first | refine thru ?_ | refine out_blk ?_ | refine pass (by decide) ?_)) | ((first | refine post1 ?_ | refine post2 ?_ | refine post3 ?_); simp only [GA, simprocAttr]) | refine post0 ?_
        exact ⟨klt, (), (by rw [es, pr]; exact (by simp only [Am.keep, List.map_cons, List.map_nil, GA, simprocAttr]; try rfl)), by simp (disch := omega) only [hm, m1, RG16, EVA, plug, eq_self, simprocAttr]⟩
   | false =>
     rw [f0] at qf
     have es := eF fun q => by rw [f0] at q; cases q
     repeat' first | (with_reducible first | refine k_seq ?_ | refine k_skip ?_ | refine k_blkS ?_ | refine k_blkR ?_ | refine k_blkC ?_ | refine k_blkH ?_ | refine k_blkB ?_ | refine k_blkK ?_ | refine k_blkE ?_ | refine k_reg ?_) | with_reducible refine k_head (by with_unfolding_all rfl) ?_ | with_reducible refine k_headS ?_ | (with_reducible refine SepK.mk ?_ ?_; (refine sepQ_P ?_; simp [sepQ, sepG, AOp.late, AOp.free, AOp.xs, AOp.isAl, tokNe, AV.tok, stS_get, strip, AX.val, RG16, GA]; try omega)) | with_reducible refine r_done ?_ | with_reducible refine hr_done ?_ | with_reducible refine s_go (by simp (disch := omega) only [klt', rT, eZ_rd, eH_rd, e5_rd, hm, row_m hm, read_row (row_m hm), m1, RG16, EVA, plug, eq_self, simprocAttr]; with_reducible rfl) ?_ | with_reducible refine h_go (by with_unfolding_all rfl) (by simp (disch := omega) only [klt', rT, eZ_rd, eH_rd, e5_rd, hm, row_m hm, read_row (row_m hm), m1, RG16, EVA, plug, eq_self, simprocAttr]; with_reducible rfl) ?_ | ((with_reducible refine chk_r ?_); refine r_callF (by simp only [CA, simprocAttr]; rfl) (by exact rfl) (by simp only [CA, simprocAttr]; rfl) rfl ?_) | ((with_reducible refine chk_h ?_); refine hr_callF (by simp only [CA, simprocAttr]; rfl) (by exact rfl) (by simp only [CA, simprocAttr]; rfl) rfl ?_) | ((with_reducible refine chk_r ?_); refine r_callP (by simp only [CA, simprocAttr]; rfl) (by simp only [CA, simprocAttr]; rfl) (by first | exact qn _ | exact qf _) rfl ?_) | ((with_reducible refine chk_h ?_); refine hr_callP (by simp only [CA, simprocAttr]; rfl) (by simp only [CA, simprocAttr]; rfl) (by first | exact qn _ | exact qf _) rfl ?_) | ((with_reducible refine chk_h ?_); refine hr_callP1 (by simp only [CA, simprocAttr]; rfl) (by simp only [CA, simprocAttr]; rfl) (by simp (disch := omega) only [CA, Nat.reduceEqDiff, ↓reduceIte, firstTok_nil, firstTok_sl, firstTok_sl0, firstTok_i, firstTok_b, firstTok_ag, firstTok_p, firstTok_s]; rfl) (by first | exact qn _ | exact qf _) rfl ?_) | ((with_reducible refine chk_h ?_); refine hr_app (by simp (disch := omega) only [klt', rT, eZ_rd, eH_rd, e5_rd, hm, row_m hm, read_row (row_m hm), m1, RG16, EVA, plug, eq_self, simprocAttr]; with_reducible rfl) rfl ?_) | (with_reducible refine k_condP (by simp only [GA, simprocAttr]; rfl) (by first | (simp only [BO]; rfl) | rfl) (fun ht => ?_) (fun ht => ?_) <;> try (first | exact False.elim ht | exact absurd rfl ht | exact absurd trivial ht | exact Bool.noConfusion ht)) | (with_reducible refine k_ret ?_; repeat with_reducible (first | refine ret_thru ?_ | refine ret_blk ?_ | refine fin ?_)) | (with_reducible refine k_exit ?_; repeat with_reducible (first | refine thru ?_ | refine out_blk ?_ | refine pass (by decide) ?_)) | ((first | refine post1 ?_ | refine post2 ?_ | refine post3 ?_); simp only [GA, simprocAttr]) | refine post0 ?_
     exact ⟨klt, (), (by rw [es, pr]; exact (by simp only [Am.keep, List.map_cons, List.map_nil, GA, simprocAttr]; try rfl)), by simp (disch := omega) only [hm, m1, RG16, EVA, plug, eq_self, simprocAttr]⟩
  ·obtain rfl : k = l.length := by omega
   have klt' : ¬ (l.length : Int) < l.length := by omega
   by_cases b0 : (chS l x l.length).1 < 0
   ·have b0' := eq_true b0
    rw [if_pos b0]
    repeat' first | (with_reducible first | refine k_seq ?_ | refine k_skip ?_ | refine k_blkS ?_ | refine k_blkR ?_ | refine k_blkC ?_ | refine k_blkH ?_ | refine k_blkB ?_ | refine k_blkK ?_ | refine k_blkE ?_ | refine k_reg ?_) | with_reducible refine k_head (by with_unfolding_all rfl) ?_ | with_reducible refine k_headS ?_ | (with_reducible refine SepK.mk ?_ ?_; (refine sepQ_P ?_; simp [sepQ, sepG, AOp.late, AOp.free, AOp.xs, AOp.isAl, tokNe, AV.tok, stS_get, strip, AX.val, RG16, GA]; try omega)) | with_reducible refine r_done ?_ | with_reducible refine hr_done ?_ | with_reducible refine s_go (by simp (disch := omega) only [klt', b0', RG16, EVA, plug, eq_self, simprocAttr]; with_reducible rfl) ?_ | with_reducible refine h_go (by with_unfolding_all rfl) (by simp (disch := omega) only [klt', b0', RG16, EVA, plug, eq_self, simprocAttr]; with_reducible rfl) ?_ | ((with_reducible refine chk_r ?_); refine r_callF (by simp only [CA, simprocAttr]; rfl) (by exact rfl) (by simp only [CA, simprocAttr]; rfl) rfl ?_) | ((with_reducible refine chk_h ?_); refine hr_callF (by simp only [CA, simprocAttr]; rfl) (by exact rfl) (by simp only [CA, simprocAttr]; rfl) rfl ?_) | ((with_reducible refine chk_h ?_); refine hr_app (by simp (disch := omega) only [klt', b0', RG16, EVA, plug, eq_self, simprocAttr]; with_reducible rfl) rfl ?_) | (with_reducible refine k_condP (by simp only [GA, simprocAttr]; rfl) (by first | (simp only [BO]; rfl) | rfl) (fun ht => ?_) (fun ht => ?_) <;> try (first | exact False.elim ht | exact absurd rfl ht | exact absurd trivial ht | exact Bool.noConfusion ht)) | (with_reducible refine k_ret ?_; repeat with_reducible (first | refine ret_thru ?_ | refine ret_blk ?_ | refine fin ?_)) | (with_reducible refine k_exit ?_; repeat with_reducible (first | refine thru ?_ | refine out_blk ?_ | refine pass (by decide) ?_)) | ((first | refine post1 ?_ | refine post2 ?_ | refine post3 ?_); simp only [GA, simprocAttr]) | refine post0 ?_
    all_goals first | exact ends_of | exact ends_eq rfl
   ·have b0' := eq_false b0
    rw [if_neg b0]
    repeat' first | (with_reducible first | refine k_seq ?_ | refine k_skip ?_ | refine k_blkS ?_ | refine k_blkR ?_ | refine k_blkC ?_ | refine k_blkH ?_ | refine k_blkB ?_ | refine k_blkK ?_ | refine k_blkE ?_ | refine k_reg ?_) | with_reducible refine k_head (by with_unfolding_all rfl) ?_ | with_reducible refine k_headS ?_ | (with_reducible refine SepK.mk ?_ ?_; (refine sepQ_P ?_; simp [sepQ, sepG, AOp.late, AOp.free, AOp.xs, AOp.isAl, tokNe, AV.tok, stS_get, strip, AX.val, RG16, GA]; try omega)) | with_reducible refine r_done ?_ | with_reducible refine hr_done ?_ | with_reducible refine s_go (by simp (disch := omega) only [klt', b0', RG16, EVA, plug, eq_self, simprocAttr]; with_reducible rfl) ?_ | with_reducible refine h_go (by with_unfolding_all rfl) (by simp (disch := omega) only [klt', b0', RG16, EVA, plug, eq_self, simprocAttr]; with_reducible rfl) ?_ | ((with_reducible refine chk_r ?_); refine r_callF (by simp only [CA, simprocAttr]; rfl) (by exact rfl) (by simp only [CA, simprocAttr]; rfl) rfl ?_) | ((with_reducible refine chk_h ?_); refine hr_callF (by simp only [CA, simprocAttr]; rfl) (by exact rfl) (by simp only [CA, simprocAttr]; rfl) rfl ?_) | ((with_reducible refine chk_h ?_); refine hr_app (by simp (disch := omega) only [klt', b0', RG16, EVA, plug, eq_self, simprocAttr]; with_reducible rfl) rfl ?_) | (with_reducible refine k_condP (by simp only [GA, simprocAttr]; rfl) (by first | (simp only [BO]; rfl) | rfl) (fun ht => ?_) (fun ht => ?_) <;> try (first | exact False.elim ht | exact absurd rfl ht | exact absurd trivial ht | exact Bool.noConfusion ht)) | (with_reducible refine k_ret ?_; repeat with_reducible (first | refine ret_thru ?_ | refine ret_blk ?_ | refine fin ?_)) | (with_reducible refine k_exit ?_; repeat with_reducible (first | refine thru ?_ | refine out_blk ?_ | refine pass (by decide) ?_)) | ((first | refine post1 ?_ | refine post2 ?_ | refine post3 ?_); simp only [GA, simprocAttr]) | refine post0 ?_
    all_goals first | exact ends_of | exact ends_eq rfl
 ·have c' := eq_false c
  rw [if_pos c]
  repeat' first | (with_reducible first | refine k_seq ?_ | refine k_skip ?_ | refine k_blkS ?_ | refine k_blkR ?_ | refine k_blkC ?_ | refine k_blkH ?_ | refine k_blkB ?_ | refine k_blkK ?_ | refine k_blkE ?_ | refine k_reg ?_) | with_reducible refine k_head (by with_unfolding_all rfl) ?_ | with_reducible refine k_headS ?_ | (with_reducible refine SepK.mk ?_ ?_; (refine sepQ_P ?_; simp [sepQ, sepG, AOp.late, AOp.free, AOp.xs, AOp.isAl, tokNe, AV.tok, stS_get, strip, AX.val, RG16, GA]; try omega)) | with_reducible refine r_done ?_ | with_reducible refine hr_done ?_ | with_reducible refine s_go (by simp (disch := omega) only [c', eH_rd, RG16, EVA, plug, eq_self, simprocAttr]; with_reducible rfl) ?_ | with_reducible refine h_go (by with_unfolding_all rfl) (by simp (disch := omega) only [c', eH_rd, RG16, EVA, plug, eq_self, simprocAttr]; with_reducible rfl) ?_ | ((with_reducible refine chk_r ?_); refine r_callF (by simp only [CA, simprocAttr]; rfl) (by exact rfl) (by simp only [CA, simprocAttr]; rfl) rfl ?_) | ((with_reducible refine chk_h ?_); refine hr_callF (by simp only [CA, simprocAttr]; rfl) (by exact rfl) (by simp only [CA, simprocAttr]; rfl) rfl ?_) | ((with_reducible refine chk_r ?_); refine r_callP (by simp only [CA, simprocAttr]; rfl) (by simp only [CA, simprocAttr]; rfl) (by first | ((refine PC.at q1 rfl ?F; case F => (refine .cons (.same (fleZ_plain _)) (.cons (.row (by simp (disch := omega) only [RG16, EVA, plug, eq_self, simprocAttr] <;> rfl) rfl) .nil))); all_goals fail)) rfl ?_) | ((with_reducible refine chk_h ?_); refine hr_callP (by simp only [CA, simprocAttr]; rfl) (by simp only [CA, simprocAttr]; rfl) (by first | ((refine PC.at q1 rfl ?F; case F => (refine .cons (.same (fleZ_plain _)) (.cons (.row (by simp (disch := omega) only [RG16, EVA, plug, eq_self, simprocAttr] <;> rfl) rfl) .nil))); all_goals fail)) rfl ?_) | ((with_reducible refine chk_h ?_); refine hr_callP1 (by simp only [CA, simprocAttr]; rfl) (by simp only [CA, simprocAttr]; rfl) (by simp (disch := omega) only [CA, Nat.reduceEqDiff, ↓reduceIte, firstTok_nil, firstTok_sl, firstTok_sl0, firstTok_i, firstTok_b, firstTok_ag, firstTok_p, firstTok_s]; rfl) (by first | ((refine PC.at q1 rfl ?F; case F => (refine .cons (.same (fleZ_plain _)) (.cons (.row (by simp (disch := omega) only [RG16, EVA, plug, eq_self, simprocAttr] <;> rfl) rfl) .nil))); all_goals fail)) rfl ?_) | ((with_reducible refine chk_h ?_); refine hr_app (by simp (disch := omega) only [c', eH_rd, RG16, EVA, plug, eq_self, simprocAttr]; with_reducible rfl) rfl ?_) | (with_reducible refine k_condP (by simp only [GA, simprocAttr]; rfl) (by first | (simp only [BO]; rfl) | rfl) (fun ht => ?_) (fun ht => ?_) <;> try (first | exact False.elim ht | exact absurd rfl ht | exact absurd trivial ht | exact Bool.noConfusion ht)) | (with_reducible refine k_ret ?_; repeat with_reducible (first | refine ret_thru ?_ | refine ret_blk ?_ | refine fin ?_)) | (with_reducible refine k_exit ?_; repeat with_reducible (first | refine thru ?_ | refine out_blk ?_ | refine pass (by decide) ?_)) | ((first | refine post1 ?_ | refine post2 ?_ | refine post3 ?_); simp only [GA, simprocAttr]) | refine post0 ?_
  all_goals first | exact ends_of | exact ends_eq rfl
end Go.Proofs.YtjaihaccehaicaaDoor
set_option linter.unusedVariables false
set_option linter.unusedSimpArgs false
namespace Go.Proofs.YtjaihaccehaicaaDoor
open Go Go.Am Go.Proofs
theorem fitsR_len (l : List Sz) (m : List Hd) : (fitsR l m).1.length ≤ l.length ∧ ∀ j, ((fitsR l m).1.getD j []).length ≤ m.length := by
 unfold fitsR
 split
 ·exact ⟨Nat.zero_le _, fun j => by simp⟩
 ·refine ⟨by simp, fun j => ?_⟩
  rw [List.getD_eq_getElem?_getD, List.getElem?_map]
  cases l[j]? with
  | none => exact Nat.zero_le _
  | some s => exact ftL_len m s m.length
theorem RG3 : (type_of% @c3r0.eq_1) ∧ (type_of% @c3r1.eq_1) ∧ (type_of% @c3r2.eq_1) ∧ (type_of% @c3r3.eq_1) ∧ (type_of% @c3r4.eq_1) ∧ (type_of% @c3r5.eq_1) ∧ (type_of% @c3r6.eq_1) ∧ (type_of% @c3r7.eq_1) ∧ (type_of% @c3r8.eq_1) ∧ (type_of% @c3r9.eq_1) ∧ (type_of% @c3r10.eq_1) ∧ (type_of% @c3r11.eq_1) ∧ (type_of% @c3r12.eq_1) ∧ (type_of% @c3r14.eq_1) ∧ (type_of% @c3r15.eq_1) ∧ (type_of% @c3r16.eq_1) ∧ (type_of% @c3r17.eq_1) ∧ (type_of% @c3r18.eq_1) ∧ (type_of% @c3r19.eq_1) ∧ (type_of% @c3r20.eq_1) ∧ (type_of% @c3r21.eq_1) ∧ (type_of% @c3r22.eq_1) ∧ (type_of% @c3r24.eq_1) := ⟨@c3r0.eq_1, @c3r1.eq_1, @c3r2.eq_1, @c3r3.eq_1, @c3r4.eq_1, @c3r5.eq_1, @c3r6.eq_1, @c3r7.eq_1, @c3r8.eq_1, @c3r9.eq_1, @c3r10.eq_1, @c3r11.eq_1, @c3r12.eq_1, @c3r14.eq_1, @c3r15.eq_1, @c3r16.eq_1, @c3r17.eq_1, @c3r18.eq_1, @c3r19.eq_1, @c3r20.eq_1, @c3r21.eq_1, @c3r22.eq_1, @c3r24.eq_1⟩
set_option maxHeartbeats 1000000 in
theorem d3 (l : List Sz) (m : List Hd) (hl : l.length ≤ 9223372036854775807) (hm : m.length ≤ 9223372036854775807) : PC Tryd.prog 3 [vZ l, vH m] (.b true) := by
 have q8 := pc59 l hl
 have q9 := pc66 l hl
 have q10 := pc60 m hm
 have q11 := pc67 m hm
 have q12 := d12 l m hl hm
 have q13 := d13 l m hl hm
 obtain ⟨len1, len2⟩ := fitsR_len l m
 generalize szsOk l = b1 at *
 generalize hdsOk m = b2 at *
 generalize (fitsR l m).2 = e at *
 generalize (fitsR l m).1 = ls at *
 refine pc_fn fn3 (by simp only [AV.plains, AV.plain, il_plain, bl_plain, Bool.and_true, Bool.true_and, Bool.and_self, fleZ_plain, fleH_plain]) (by simp only [AV.plains, AV.plain, il_plain, bl_plain, Bool.and_true, Bool.true_and, Bool.and_self, fleZ_plain, fleH_plain]) (Nat.le_of_ble_eq_true rfl) ?_
 rw [initSt2]
 repeat' first | (with_reducible first | refine k_seq ?_ | refine k_skip ?_ | refine k_blkS ?_ | refine k_blkR ?_ | refine k_blkC ?_ | refine k_blkH ?_ | refine k_blkB ?_ | refine k_blkK ?_ | refine k_blkE ?_ | refine k_reg ?_) | with_reducible refine k_head (by with_unfolding_all rfl) ?_ | with_reducible refine k_headS ?_ | (with_reducible refine SepK.mk ?_ ?_; (refine sepQ_P ?_; simp [sepQ, sepG, AOp.late, AOp.free, AOp.xs, AOp.isAl, tokNe, AV.tok, stS_get, strip, AX.val, RG3, GA]; try omega)) | with_reducible refine r_done ?_ | with_reducible refine hr_done ?_ | with_reducible refine s_go (by simp (disch := omega) only [RG3, EVA, plug, eq_self, simprocAttr]; with_reducible rfl) ?_ | with_reducible refine h_go (by with_unfolding_all rfl) (by simp (disch := omega) only [RG3, EVA, plug, eq_self, simprocAttr]; with_reducible rfl) ?_ | ((with_reducible refine chk_r ?_); refine r_callF (by simp only [CA, simprocAttr]; rfl) (by exact rfl) (by simp only [CA, simprocAttr]; rfl) rfl ?_) | ((with_reducible refine chk_h ?_); refine hr_callF (by simp only [CA, simprocAttr]; rfl) (by exact rfl) (by simp only [CA, simprocAttr]; rfl) rfl ?_) | ((with_reducible refine chk_r ?_); refine r_callP (by simp only [CA, simprocAttr]; rfl) (by simp only [CA, simprocAttr]; rfl) (by first | exact q8 _ | exact q9 _ | exact q10 _ | exact q11 _ | exact q12 _ | exact q13 _) rfl ?_) | ((with_reducible refine chk_h ?_); refine hr_callP (by simp only [CA, simprocAttr]; rfl) (by simp only [CA, simprocAttr]; rfl) (by first | exact q8 _ | exact q9 _ | exact q10 _ | exact q11 _ | exact q12 _ | exact q13 _) rfl ?_) | ((with_reducible refine chk_h ?_); refine hr_callP1 (by simp only [CA, simprocAttr]; rfl) (by simp only [CA, simprocAttr]; rfl) (by simp (disch := omega) only [CA, Nat.reduceEqDiff, ↓reduceIte, firstTok_nil, firstTok_sl, firstTok_sl0, firstTok_i, firstTok_b, firstTok_ag, firstTok_p, firstTok_s]; rfl) (by first | exact q8 _ | exact q9 _ | exact q10 _ | exact q11 _ | exact q12 _ | exact q13 _) rfl ?_) | ((with_reducible refine chk_r ?_); refine r_callG (by simp only [CA, simprocAttr]; rfl) (by simp only [CA, simprocAttr]; rfl) (by simp only [CA, simprocAttr]; rfl) (by intro hg; (try simp only [BO] at hg); first | exact q8 _ | exact q9 _ | exact q10 _ | exact q11 _ | exact q12 _ | exact q13 _) rfl ?_) | ((with_reducible refine chk_h ?_); refine hr_callG (by simp only [CA, simprocAttr]; rfl) (by simp only [CA, simprocAttr]; rfl) (by simp only [CA, simprocAttr]; rfl) (by intro hg; (try simp only [BO] at hg); first | exact q8 _ | exact q9 _ | exact q10 _ | exact q11 _ | exact q12 _ | exact q13 _) rfl ?_) | ((with_reducible refine chk_h ?_); refine hr_app (by simp (disch := omega) only [RG3, EVA, plug, eq_self, simprocAttr]; with_reducible rfl) rfl ?_) | (with_reducible refine k_condP (by simp only [GA, simprocAttr]; rfl) (by first | (simp only [BO]; rfl) | rfl) (fun ht => ?_) (fun ht => ?_) <;> try (first | exact False.elim ht | exact absurd rfl ht | exact absurd trivial ht | exact Bool.noConfusion ht)) | (with_reducible refine k_ret ?_; repeat with_reducible (first | refine ret_thru ?_ | refine ret_blk ?_ | refine fin ?_)) | (with_reducible refine k_exit ?_; repeat with_reducible (first | refine thru ?_ | refine out_blk ?_ | refine pass (by decide) ?_)) | ((first | refine post1 ?_ | refine post2 ?_ | refine post3 ?_); simp only [GA, simprocAttr]) | refine post0 ?_
 all_goals try (exfalso; revert ht; simp; done)
 refine k_blk (k_loopS (X := Unit) [0, 1, 5, 7, 51, 52] ls.length (fun k _ => [(0, vZ l), (1, vH m), (5, .vs ls.length (vl ls)), (7, .vs ls.length (vl ls)), (51, .i .i64 ls.length), (52, .i .i64 (k : Int))]) (fun k _ h => True) () (by simp only [Am.keep, List.map_cons, List.map_nil, GA, simprocAttr]; try rfl) trivial ?_)
 rintro k _ h hk - ok pos
 by_cases klt : k < ls.length
 ·have klt' : (k : Int) < ls.length := by omega
  have g := vl_get klt
  have q14 := pc12 (ls.getD k []) (by have := len2 k; omega)
  repeat' first | (with_reducible first | refine k_seq ?_ | refine k_skip ?_ | refine k_blkS ?_ | refine k_blkR ?_ | refine k_blkC ?_ | refine k_blkH ?_ | refine k_blkB ?_ | refine k_blkK ?_ | refine k_blkE ?_ | refine k_reg ?_) | with_reducible refine k_head (by with_unfolding_all rfl) ?_ | with_reducible refine k_headS ?_ | (with_reducible refine SepK.mk ?_ ?_; (refine sepQ_P ?_; simp [sepQ, sepG, AOp.late, AOp.free, AOp.xs, AOp.isAl, tokNe, AV.tok, stS_get, strip, AX.val, RG3, GA]; try omega)) | with_reducible refine r_done ?_ | with_reducible refine hr_done ?_ | with_reducible refine s_go (by simp (disch := omega) only [klt', g, rd_one, RG3, EVA, plug, eq_self, simprocAttr]; with_reducible rfl) ?_ | with_reducible refine h_go (by with_unfolding_all rfl) (by simp (disch := omega) only [klt', g, rd_one, RG3, EVA, plug, eq_self, simprocAttr]; with_reducible rfl) ?_ | ((with_reducible refine chk_r ?_); refine r_callF (by simp only [CA, simprocAttr]; rfl) (by exact rfl) (by simp only [CA, simprocAttr]; rfl) rfl ?_) | ((with_reducible refine chk_h ?_); refine hr_callF (by simp only [CA, simprocAttr]; rfl) (by exact rfl) (by simp only [CA, simprocAttr]; rfl) rfl ?_) | ((with_reducible refine chk_r ?_); refine r_callP (by simp only [CA, simprocAttr]; rfl) (by simp only [CA, simprocAttr]; rfl) (by first | exact q14 _) rfl ?_) | ((with_reducible refine chk_h ?_); refine hr_callP (by simp only [CA, simprocAttr]; rfl) (by simp only [CA, simprocAttr]; rfl) (by first | exact q14 _) rfl ?_) | ((with_reducible refine chk_h ?_); refine hr_callP1 (by simp only [CA, simprocAttr]; rfl) (by simp only [CA, simprocAttr]; rfl) (by simp (disch := omega) only [CA, Nat.reduceEqDiff, ↓reduceIte, firstTok_nil, firstTok_sl, firstTok_sl0, firstTok_i, firstTok_b, firstTok_ag, firstTok_p, firstTok_s]; rfl) (by first | exact q14 _) rfl ?_) | ((with_reducible refine chk_r ?_); refine r_callG (by simp only [CA, simprocAttr]; rfl) (by simp only [CA, simprocAttr]; rfl) (by simp only [CA, simprocAttr]; rfl) (by intro hg; (try simp only [BO] at hg); first | exact q14 _) rfl ?_) | ((with_reducible refine chk_h ?_); refine hr_callG (by simp only [CA, simprocAttr]; rfl) (by simp only [CA, simprocAttr]; rfl) (by simp only [CA, simprocAttr]; rfl) (by intro hg; (try simp only [BO] at hg); first | exact q14 _) rfl ?_) | ((with_reducible refine chk_h ?_); refine hr_app (by simp (disch := omega) only [klt', g, rd_one, RG3, EVA, plug, eq_self, simprocAttr]; with_reducible rfl) rfl ?_) | (with_reducible refine k_condP (by simp only [GA, simprocAttr]; rfl) (by first | (simp only [BO]; rfl) | rfl) (fun ht => ?_) (fun ht => ?_) <;> try (first | exact False.elim ht | exact absurd rfl ht | exact absurd trivial ht | exact Bool.noConfusion ht)) | (with_reducible refine k_ret ?_; repeat with_reducible (first | refine ret_thru ?_ | refine ret_blk ?_ | refine fin ?_)) | (with_reducible refine k_exit ?_; repeat with_reducible (first | refine thru ?_ | refine out_blk ?_ | refine pass (by decide) ?_)) | ((first | refine post1 ?_ | refine post2 ?_ | refine post3 ?_); simp only [GA, simprocAttr]) | refine post0 ?_
  all_goals try (exfalso; revert ht; simp; done)
  exact ⟨klt, (), (by simp only [Am.keep, List.map_cons, List.map_nil, GA, simprocAttr]; try rfl), trivial⟩
 ·obtain rfl : k = ls.length := by omega
  have klt' : ¬ (ls.length : Int) < ls.length := by omega
  repeat' first | (with_reducible first | refine k_seq ?_ | refine k_skip ?_ | refine k_blkS ?_ | refine k_blkR ?_ | refine k_blkC ?_ | refine k_blkH ?_ | refine k_blkB ?_ | refine k_blkK ?_ | refine k_blkE ?_ | refine k_reg ?_) | with_reducible refine k_head (by with_unfolding_all rfl) ?_ | with_reducible refine k_headS ?_ | (with_reducible refine SepK.mk ?_ ?_; (refine sepQ_P ?_; simp [sepQ, sepG, AOp.late, AOp.free, AOp.xs, AOp.isAl, tokNe, AV.tok, stS_get, strip, AX.val, RG3, GA]; try omega)) | with_reducible refine r_done ?_ | with_reducible refine hr_done ?_ | with_reducible refine s_go (by simp (disch := omega) only [klt', RG3, EVA, plug, eq_self, simprocAttr]; with_reducible rfl) ?_ | with_reducible refine h_go (by with_unfolding_all rfl) (by simp (disch := omega) only [klt', RG3, EVA, plug, eq_self, simprocAttr]; with_reducible rfl) ?_ | ((with_reducible refine chk_r ?_); refine r_callF (by simp only [CA, simprocAttr]; rfl) (by exact rfl) (by simp only [CA, simprocAttr]; rfl) rfl ?_) | ((with_reducible refine chk_h ?_); refine hr_callF (by simp only [CA, simprocAttr]; rfl) (by exact rfl) (by simp only [CA, simprocAttr]; rfl) rfl ?_) | ((with_reducible refine chk_h ?_); refine hr_app (by simp (disch := omega) only [klt', RG3, EVA, plug, eq_self, simprocAttr]; with_reducible rfl) rfl ?_) | (with_reducible refine k_condP (by simp only [GA, simprocAttr]; rfl) (by first | (simp only [BO]; rfl) | rfl) (fun ht => ?_) (fun ht => ?_) <;> try (first | exact False.elim ht | exact absurd rfl ht | exact absurd trivial ht | exact Bool.noConfusion ht)) | (with_reducible refine k_ret ?_; repeat with_reducible (first | refine ret_thru ?_ | refine ret_blk ?_ | refine fin ?_)) | (with_reducible refine k_exit ?_; repeat with_reducible (first | refine thru ?_ | refine out_blk ?_ | refine pass (by decide) ?_)) | ((first | refine post1 ?_ | refine post2 ?_ | refine post3 ?_); simp only [GA, simprocAttr]) | refine post0 ?_
  refine k_blk (k_loopS (X := Unit) [0, 66, 67, 68] m.length (fun k _ => [(0, vZ l), (66, vH m), (67, .i .i64 m.length), (68, .i .i64 (k : Int))]) (fun k _ h => True) () (by simp only [Am.keep, List.map_cons, List.map_nil, GA, simprocAttr]; try rfl) trivial ?_)
  rintro k _ h hk - ok pos
  by_cases klt : k < m.length
  ·have klt' : (k : Int) < m.length := by omega
   have rJ := rdH klt
   have q15 := d15 l (hD m k) hl
   have q16 := d16 l (hD m k) hl
   generalize (chR l (hD m k)).1 = u at *
   generalize (chR l (hD m k)).2 = v at *
   by_cases k50 : (50 : Int) ≤ k
   ·have k50' := eq_true k50
    repeat' first | (with_reducible first | refine k_seq ?_ | refine k_skip ?_ | refine k_blkS ?_ | refine k_blkR ?_ | refine k_blkC ?_ | refine k_blkH ?_ | refine k_blkB ?_ | refine k_blkK ?_ | refine k_blkE ?_ | refine k_reg ?_) | with_reducible refine k_head (by with_unfolding_all rfl) ?_ | with_reducible refine k_headS ?_ | (with_reducible refine SepK.mk ?_ ?_; (refine sepQ_P ?_; simp [sepQ, sepG, AOp.late, AOp.free, AOp.xs, AOp.isAl, tokNe, AV.tok, stS_get, strip, AX.val, RG3, GA]; try omega)) | with_reducible refine r_done ?_ | with_reducible refine hr_done ?_ | with_reducible refine s_go (by simp (disch := omega) only [klt', rJ, eH_rd, k50', RG3, EVA, plug, eq_self, simprocAttr]; with_reducible rfl) ?_ | with_reducible refine h_go (by with_unfolding_all rfl) (by simp (disch := omega) only [klt', rJ, eH_rd, k50', RG3, EVA, plug, eq_self, simprocAttr]; with_reducible rfl) ?_ | ((with_reducible refine chk_r ?_); refine r_callF (by simp only [CA, simprocAttr]; rfl) (by exact rfl) (by simp only [CA, simprocAttr]; rfl) rfl ?_) | ((with_reducible refine chk_h ?_); refine hr_callF (by simp only [CA, simprocAttr]; rfl) (by exact rfl) (by simp only [CA, simprocAttr]; rfl) rfl ?_) | ((with_reducible refine chk_r ?_); refine r_callP (by simp only [CA, simprocAttr]; rfl) (by simp only [CA, simprocAttr]; rfl) (by first | exact q15 _ | exact q16 _ | exact pc17 _) rfl ?_) | ((with_reducible refine chk_h ?_); refine hr_callP (by simp only [CA, simprocAttr]; rfl) (by simp only [CA, simprocAttr]; rfl) (by first | exact q15 _ | exact q16 _ | exact pc17 _) rfl ?_) | ((with_reducible refine chk_h ?_); refine hr_callP1 (by simp only [CA, simprocAttr]; rfl) (by simp only [CA, simprocAttr]; rfl) (by simp (disch := omega) only [CA, Nat.reduceEqDiff, ↓reduceIte, firstTok_nil, firstTok_sl, firstTok_sl0, firstTok_i, firstTok_b, firstTok_ag, firstTok_p, firstTok_s]; rfl) (by first | exact q15 _ | exact q16 _ | exact pc17 _) rfl ?_) | ((with_reducible refine chk_r ?_); refine r_callG (by simp only [CA, simprocAttr]; rfl) (by simp only [CA, simprocAttr]; rfl) (by simp only [CA, simprocAttr]; rfl) (by intro hg; (try simp only [BO] at hg); first | exact q15 _ | exact q16 _ | exact pc17 _) rfl ?_) | ((with_reducible refine chk_h ?_); refine hr_callG (by simp only [CA, simprocAttr]; rfl) (by simp only [CA, simprocAttr]; rfl) (by simp only [CA, simprocAttr]; rfl) (by intro hg; (try simp only [BO] at hg); first | exact q15 _ | exact q16 _ | exact pc17 _) rfl ?_) | ((with_reducible refine chk_h ?_); refine hr_app (by simp (disch := omega) only [klt', rJ, eH_rd, k50', RG3, EVA, plug, eq_self, simprocAttr]; with_reducible rfl) rfl ?_) | (with_reducible refine k_condP (by simp only [GA, simprocAttr]; rfl) (by first | (simp only [BO]; rfl) | rfl) (fun ht => ?_) (fun ht => ?_) <;> try (first | exact False.elim ht | exact absurd rfl ht | exact absurd trivial ht | exact Bool.noConfusion ht)) | (with_reducible refine k_ret ?_; repeat with_reducible (first | refine ret_thru ?_ | refine ret_blk ?_ | refine fin ?_)) | (with_reducible refine k_exit ?_; repeat with_reducible (first | refine thru ?_ | refine out_blk ?_ | refine pass (by decide) ?_)) | ((first | refine post1 ?_ | refine post2 ?_ | refine post3 ?_); simp only [GA, simprocAttr]) | refine post0 ?_
    all_goals try (exfalso; revert ht; simp; done)
    all_goals first | exact ends_of | exact ends_eq rfl
   ·have k50' := eq_false k50
    repeat' first | (with_reducible first | refine k_seq ?_ | refine k_skip ?_ | refine k_blkS ?_ | refine k_blkR ?_ | refine k_blkC ?_ | refine k_blkH ?_ | refine k_blkB ?_ | refine k_blkK ?_ | refine k_blkE ?_ | refine k_reg ?_) | with_reducible refine k_head (by with_unfolding_all rfl) ?_ | with_reducible refine k_headS ?_ | (with_reducible refine SepK.mk ?_ ?_; (refine sepQ_P ?_; simp [sepQ, sepG, AOp.late, AOp.free, AOp.xs, AOp.isAl, tokNe, AV.tok, stS_get, strip, AX.val, RG3, GA]; try omega)) | with_reducible refine r_done ?_ | with_reducible refine hr_done ?_ | with_reducible refine s_go (by simp (disch := omega) only [klt', rJ, eH_rd, k50', RG3, EVA, plug, eq_self, simprocAttr]; with_reducible rfl) ?_ | with_reducible refine h_go (by with_unfolding_all rfl) (by simp (disch := omega) only [klt', rJ, eH_rd, k50', RG3, EVA, plug, eq_self, simprocAttr]; with_reducible rfl) ?_ | ((with_reducible refine chk_r ?_); refine r_callF (by simp only [CA, simprocAttr]; rfl) (by exact rfl) (by simp only [CA, simprocAttr]; rfl) rfl ?_) | ((with_reducible refine chk_h ?_); refine hr_callF (by simp only [CA, simprocAttr]; rfl) (by exact rfl) (by simp only [CA, simprocAttr]; rfl) rfl ?_) | ((with_reducible refine chk_r ?_); refine r_callP (by simp only [CA, simprocAttr]; rfl) (by simp only [CA, simprocAttr]; rfl) (by first | exact q15 _ | exact q16 _ | exact pc17 _) rfl ?_) | ((with_reducible refine chk_h ?_); refine hr_callP (by simp only [CA, simprocAttr]; rfl) (by simp only [CA, simprocAttr]; rfl) (by first | exact q15 _ | exact q16 _ | exact pc17 _) rfl ?_) | ((with_reducible refine chk_h ?_); refine hr_callP1 (by simp only [CA, simprocAttr]; rfl) (by simp only [CA, simprocAttr]; rfl) (by simp (disch := omega) only [CA, Nat.reduceEqDiff, ↓reduceIte, firstTok_nil, firstTok_sl, firstTok_sl0, firstTok_i, firstTok_b, firstTok_ag, firstTok_p, firstTok_s]; rfl) (by first | exact q15 _ | exact q16 _ | exact pc17 _) rfl ?_) | ((with_reducible refine chk_r ?_); refine r_callG (by simp only [CA, simprocAttr]; rfl) (by simp only [CA, simprocAttr]; rfl) (by simp only [CA, simprocAttr]; rfl) (by intro hg; (try simp only [BO] at hg); first | exact q15 _ | exact q16 _ | exact pc17 _) rfl ?_) | ((with_reducible refine chk_h ?_); refine hr_callG (by simp only [CA, simprocAttr]; rfl) (by simp only [CA, simprocAttr]; rfl) (by simp only [CA, simprocAttr]; rfl) (by intro hg; (try simp only [BO] at hg); first | exact q15 _ | exact q16 _ | exact pc17 _) rfl ?_) | ((with_reducible refine chk_h ?_); refine hr_app (by simp (disch := omega) only [klt', rJ, eH_rd, k50', RG3, EVA, plug, eq_self, simprocAttr]; with_reducible rfl) rfl ?_) | (with_reducible refine k_condP (by simp only [GA, simprocAttr]; rfl) (by first | (simp only [BO]; rfl) | rfl) (fun ht => ?_) (fun ht => ?_) <;> try (first | exact False.elim ht | exact absurd rfl ht | exact absurd trivial ht | exact Bool.noConfusion ht)) | (with_reducible refine k_ret ?_; repeat with_reducible (first | refine ret_thru ?_ | refine ret_blk ?_ | refine fin ?_)) | (with_reducible refine k_exit ?_; repeat with_reducible (first | refine thru ?_ | refine out_blk ?_ | refine pass (by decide) ?_)) | ((first | refine post1 ?_ | refine post2 ?_ | refine post3 ?_); simp only [GA, simprocAttr]) | refine post0 ?_
    all_goals try (exfalso; revert ht; simp; done)
    exact ⟨klt, (), (by simp only [Am.keep, List.map_cons, List.map_nil, GA, simprocAttr]; try rfl), trivial⟩
  ·obtain rfl : k = m.length := by omega
   have klt' : ¬ (m.length : Int) < m.length := by omega
   repeat' first | (with_reducible first | refine k_seq ?_ | refine k_skip ?_ | refine k_blkS ?_ | refine k_blkR ?_ | refine k_blkC ?_ | refine k_blkH ?_ | refine k_blkB ?_ | refine k_blkK ?_ | refine k_blkE ?_ | refine k_reg ?_) | with_reducible refine k_head (by with_unfolding_all rfl) ?_ | with_reducible refine k_headS ?_ | (with_reducible refine SepK.mk ?_ ?_; (refine sepQ_P ?_; simp [sepQ, sepG, AOp.late, AOp.free, AOp.xs, AOp.isAl, tokNe, AV.tok, stS_get, strip, AX.val, RG3, GA]; try omega)) | with_reducible refine r_done ?_ | with_reducible refine hr_done ?_ | with_reducible refine s_go (by simp (disch := omega) only [klt', RG3, EVA, plug, eq_self, simprocAttr]; with_reducible rfl) ?_ | with_reducible refine h_go (by with_unfolding_all rfl) (by simp (disch := omega) only [klt', RG3, EVA, plug, eq_self, simprocAttr]; with_reducible rfl) ?_ | ((with_reducible refine chk_r ?_); refine r_callF (by simp only [CA, simprocAttr]; rfl) (by exact rfl) (by simp only [CA, simprocAttr]; rfl) rfl ?_) | ((with_reducible refine chk_h ?_); refine hr_callF (by simp only [CA, simprocAttr]; rfl) (by exact rfl) (by simp only [CA, simprocAttr]; rfl) rfl ?_) | ((with_reducible refine chk_r ?_); refine r_callP (by simp only [CA, simprocAttr]; rfl) (by simp only [CA, simprocAttr]; rfl) (by first | exact pc17 _) rfl ?_) | ((with_reducible refine chk_h ?_); refine hr_callP (by simp only [CA, simprocAttr]; rfl) (by simp only [CA, simprocAttr]; rfl) (by first | exact pc17 _) rfl ?_) | ((with_reducible refine chk_h ?_); refine hr_callP1 (by simp only [CA, simprocAttr]; rfl) (by simp only [CA, simprocAttr]; rfl) (by simp (disch := omega) only [CA, Nat.reduceEqDiff, ↓reduceIte, firstTok_nil, firstTok_sl, firstTok_sl0, firstTok_i, firstTok_b, firstTok_ag, firstTok_p, firstTok_s]; rfl) (by first | exact pc17 _) rfl ?_) | ((with_reducible refine chk_r ?_); refine r_callG (by simp only [CA, simprocAttr]; rfl) (by simp only [CA, simprocAttr]; rfl) (by simp only [CA, simprocAttr]; rfl) (by intro hg; (try simp only [BO] at hg); first | exact pc17 _) rfl ?_) | ((with_reducible refine chk_h ?_); refine hr_callG (by simp only [CA, simprocAttr]; rfl) (by simp only [CA, simprocAttr]; rfl) (by simp only [CA, simprocAttr]; rfl) (by intro hg; (try simp only [BO] at hg); first | exact pc17 _) rfl ?_) | ((with_reducible refine chk_h ?_); refine hr_app (by simp (disch := omega) only [klt', RG3, EVA, plug, eq_self, simprocAttr]; with_reducible rfl) rfl ?_) | (with_reducible refine k_condP (by simp only [GA, simprocAttr]; rfl) (by first | (simp only [BO]; rfl) | rfl) (fun ht => ?_) (fun ht => ?_) <;> try (first | exact False.elim ht | exact absurd rfl ht | exact absurd trivial ht | exact Bool.noConfusion ht)) | (with_reducible refine k_ret ?_; repeat with_reducible (first | refine ret_thru ?_ | refine ret_blk ?_ | refine fin ?_)) | (with_reducible refine k_exit ?_; repeat with_reducible (first | refine thru ?_ | refine out_blk ?_ | refine pass (by decide) ?_)) | ((first | refine post1 ?_ | refine post2 ?_ | refine post3 ?_); simp only [GA, simprocAttr]) | refine post0 ?_
   all_goals first | exact ends_of | exact ends_eq rfl
theorem decZ (r : List AV) (h : Shps [.i .i64, .i .i64, .i .i64, .i .i64, .i .i64, .i .i64, .i .i64, .i .i64, .i .i64, .i .i64, .i .i64, .i .i64, .i .i64, .i .i64, .i .i64, .i .i64, .i .i64] r) : ∃ x : Sz, r = eZ x ∧ True := by
 obtain ⟨a0, r, rfl, h0, h⟩ := shps_cons h
 obtain ⟨a1, r, rfl, h1, h⟩ := shps_cons h
 obtain ⟨a2, r, rfl, h2, h⟩ := shps_cons h
 obtain ⟨a3, r, rfl, h3, h⟩ := shps_cons h
 obtain ⟨a4, r, rfl, h4, h⟩ := shps_cons h
 obtain ⟨a5, r, rfl, h5, h⟩ := shps_cons h
 obtain ⟨a6, r, rfl, h6, h⟩ := shps_cons h
 obtain ⟨a7, r, rfl, h7, h⟩ := shps_cons h
 obtain ⟨a8, r, rfl, h8, h⟩ := shps_cons h
 obtain ⟨a9, r, rfl, h9, h⟩ := shps_cons h
 obtain ⟨b0, r, rfl, k0, h⟩ := shps_cons h
 obtain ⟨b1, r, rfl, k1, h⟩ := shps_cons h
 obtain ⟨b2, r, rfl, k2, h⟩ := shps_cons h
 obtain ⟨b3, r, rfl, k3, h⟩ := shps_cons h
 obtain ⟨b4, r, rfl, k4, h⟩ := shps_cons h
 obtain ⟨b5, r, rfl, k5, h⟩ := shps_cons h
 obtain ⟨b6, r, rfl, k6, h⟩ := shps_cons h
 obtain rfl := shps_nil h
 obtain ⟨n0, rfl, _⟩ := shp_i64 h0
 obtain ⟨n1, rfl, _⟩ := shp_i64 h1
 obtain ⟨n2, rfl, _⟩ := shp_i64 h2
 obtain ⟨n3, rfl, _⟩ := shp_i64 h3
 obtain ⟨n4, rfl, _⟩ := shp_i64 h4
 obtain ⟨n5, rfl, _⟩ := shp_i64 h5
 obtain ⟨n6, rfl, _⟩ := shp_i64 h6
 obtain ⟨n7, rfl, _⟩ := shp_i64 h7
 obtain ⟨n8, rfl, _⟩ := shp_i64 h8
 obtain ⟨n9, rfl, _⟩ := shp_i64 h9
 obtain ⟨p0, rfl, _⟩ := shp_i64 k0
 obtain ⟨p1, rfl, _⟩ := shp_i64 k1
 obtain ⟨p2, rfl, _⟩ := shp_i64 k2
 obtain ⟨p3, rfl, _⟩ := shp_i64 k3
 obtain ⟨p4, rfl, _⟩ := shp_i64 k4
 obtain ⟨p5, rfl, _⟩ := shp_i64 k5
 obtain ⟨p6, rfl, _⟩ := shp_i64 k6
 exact ⟨⟨n0, fun i => [n1, n2, n3, n4, n5].getD i 0, fun i => [n6, n7, n8, n9, p0].getD i 0, fun i => [p1, p2, p3, p4, p5].getD i 0, p6⟩, rfl, trivial⟩
theorem decH (r : List AV) (h : Shps [.i .i64, .i .i64, .i .i64, .i .i64, .i .i64, .i .i64] r) : ∃ x : Hd, r = eH x ∧ True := by
 obtain ⟨a0, r, rfl, h0, h⟩ := shps_cons h
 obtain ⟨a1, r, rfl, h1, h⟩ := shps_cons h
 obtain ⟨a2, r, rfl, h2, h⟩ := shps_cons h
 obtain ⟨a3, r, rfl, h3, h⟩ := shps_cons h
 obtain ⟨a4, r, rfl, h4, h⟩ := shps_cons h
 obtain ⟨a5, r, rfl, h5, h⟩ := shps_cons h
 obtain rfl := shps_nil h
 obtain ⟨n0, rfl, _⟩ := shp_i64 h0
 obtain ⟨n1, rfl, _⟩ := shp_i64 h1
 obtain ⟨n2, rfl, _⟩ := shp_i64 h2
 obtain ⟨n3, rfl, _⟩ := shp_i64 h3
 obtain ⟨n4, rfl, _⟩ := shp_i64 h4
 obtain ⟨n5, rfl, _⟩ := shp_i64 h5
 exact ⟨⟨n0, fun i => [n1, n2, n3, n4, n5].getD i 0⟩, rfl, trivial⟩
end Go.Proofs.YtjaihaccehaicaaDoor
set_option linter.unusedVariables false
set_option linter.unusedSimpArgs false
namespace Go.Proofs.YtjaihaccehaicaaDoor
open Go Go.Am Go.Proofs
def asc (l : List Int) : Prop := l.Pairwise fun x y => x < y
theorem asc_ext : ∀ {a b : List Int}, asc a → asc b → (∀ x, x ∈ a ↔ x ∈ b) → a = b
 | [], [], _, _, _ => rfl
 | [], y :: b, _, _, h => absurd ((h y).2 (List.mem_cons_self ..)) (by simp)
 | x :: a, [], _, _, h => absurd ((h x).1 (List.mem_cons_self ..)) (by simp)
 | x :: a, y :: b, ha, hb, h => by
   have a1 := (List.pairwise_cons.1 ha).1
   have b1 := (List.pairwise_cons.1 hb).1
   have e : x = y := by
    rcases List.mem_cons.1 ((h x).1 (List.mem_cons_self ..)) with q | q
    ·exact q
    ·rcases List.mem_cons.1 ((h y).2 (List.mem_cons_self ..)) with r | r
     ·exact r.symm
     ·have := a1 y r
      have := b1 x q
      omega
   subst e
   rw [asc_ext (List.pairwise_cons.1 ha).2 (List.pairwise_cons.1 hb).2 fun z => ?_]
   constructor
   ·intro q
    have := a1 z q
    rcases List.mem_cons.1 ((h z).1 (List.mem_cons_of_mem _ q)) with r | r
    ·omega
    ·exact r
   ·intro q
    have := b1 z q
    rcases List.mem_cons.1 ((h z).2 (List.mem_cons_of_mem _ q)) with r | r
    ·omega
    ·exact r
theorem asc_nodup {l : List Int} (h : asc l) : l.Nodup := h.imp fun q => by omega
theorem mem_bts {s : Nat} {x : Int} : x ∈ bts s ↔ ∃ i : Nat, i < 64 ∧ s.testBit i = true ∧ x = i := by
 unfold bts
 simp only [List.mem_map, List.mem_filter, List.mem_range]
 constructor
 ·rintro ⟨i, ⟨h1, h2⟩, rfl⟩; exact ⟨i, h1, h2, rfl⟩
 ·rintro ⟨i, h1, h2, rfl⟩; exact ⟨i, ⟨h1, h2⟩, rfl⟩
theorem asc_bts (s : Nat) : asc (bts s) := by
 unfold asc bts
 rw [List.pairwise_map]
 exact (List.Pairwise.filter _ List.pairwise_lt_range).imp fun q => by omega
def inB (n : Nat) (l : List Int) : Prop := ∀ x ∈ l, 0 ≤ x ∧ x < n
theorem bts_in {s n : Nat} (h : s < 2 ^ n) : inB n (bts s) := fun x hx => by
 obtain ⟨i, _, hb, rfl⟩ := mem_bts.1 hx
 have : i < n := Classical.byContradiction fun q => by
  have := Nat.testBit_lt_two_pow (Nat.lt_of_lt_of_le h (Nat.pow_le_pow_right (by omega) (Nat.le_of_not_lt q)))
  rw [this] at hb; cases hb
 omega
theorem shS_mem {l : List Int} {i n : Nat} (hl : inB n l) : (shS l l.length).testBit i = true ↔ (i : Int) ∈ l := by
 rw [shS_bit]
 constructor
 ·rintro ⟨j, hj, e⟩
  have m : lN l j ∈ l := by
   unfold lN
   rw [List.getD_eq_getElem?_getD, List.getElem?_eq_getElem hj]
   exact List.getElem_mem hj
  have := hl _ m
  have e' : (i : Int) = lN l j := by omega
  rw [e']; exact m
 ·intro m
  obtain ⟨j, hj, e⟩ := List.getElem_of_mem m
  refine ⟨j, hj, ?_⟩
  unfold lN
  rw [List.getD_eq_getElem?_getD, List.getElem?_eq_getElem hj]
  simp only [Option.getD_some, e]
  omega
theorem shS_lt2 {l : List Int} {n : Nat} (hl : inB n l) : shS l l.length < 2 ^ n := Nat.lt_pow_two_of_testBit _ fun i hi => by
 rw [Bool.eq_false_iff]
 intro q
 have := hl _ ((shS_mem hl).1 q)
 omega
theorem bts_mem {l : List Int} {n : Nat} (hn : n ≤ 64) (hl : inB n l) {x : Int} : x ∈ bts (shS l l.length) ↔ x ∈ l := by
 rw [mem_bts]
 constructor
 ·rintro ⟨i, _, q, rfl⟩; exact (shS_mem hl).1 q
 ·intro q
  have b := hl x q
  refine ⟨x.toNat, by omega, (shS_mem hl).2 ?_, by omega⟩
  rw [Int.toNat_of_nonneg b.1]; exact q
theorem bts_asc {l : List Int} {n : Nat} (hn : n ≤ 64) (hl : inB n l) (ha : asc l) : bts (shS l l.length) = l := asc_ext (asc_bts _) ha fun x => bts_mem hn hl
def cmpZ (x y : Int) : Int := if x < y then -1 else if y < x then 1 else 0
def cmpL : List Int → List Int → Int
 | [], [] => 0
 | [], _ :: _ => -1
 | _ :: _, [] => 1
 | x :: a, y :: b => if cmpZ x y ≠ 0 then cmpZ x y else cmpL a b
theorem cmpZ_lt {x y : Int} : cmpZ x y < 0 ↔ x < y := by unfold cmpZ; split <;> (try split) <;> omega
theorem cmpZ_eq {x y : Int} : cmpZ x y = 0 ↔ x = y := by unfold cmpZ; split <;> (try split) <;> omega
theorem cmpL_cons {x y : Int} {a b : List Int} : cmpL (x :: a) (y :: b) < 0 ↔ x < y ∨ x = y ∧ cmpL a b < 0 := by
 rw [cmpL]
 have h1 := @cmpZ_lt x y
 have h2 := @cmpZ_eq x y
 split
 ·rw [h1]; constructor
  ·exact .inl
  ·rintro (q | q)
   ·exact q
   ·exact absurd (h2.2 q.1) (by assumption)
 ·rename_i q
  have q := h2.1 (Classical.not_not.1 q)
  constructor
  ·exact fun r => .inr ⟨q, r⟩
  ·rintro (r | r)
   ·omega
   ·exact r.2
theorem cmpL_irr : ∀ {a : List Int}, ¬ cmpL a a < 0
 | [] => by simp [cmpL]
 | x :: a => by
   rw [cmpL_cons]
   rintro (q | q)
   ·omega
   ·exact cmpL_irr q.2
theorem cmpL_tr : ∀ {a b c : List Int}, a.length = b.length → b.length = c.length → cmpL a b < 0 → cmpL b c < 0 → cmpL a c < 0
 | [], [], _, _, _, h, _ => by simp [cmpL] at h
 | x :: a, y :: b, z :: c, h1, h2, q1, q2 => by
   rw [cmpL_cons] at q1 q2 ⊢
   simp only [List.length_cons, Nat.add_right_cancel_iff] at h1 h2
   rcases q1 with q1 | ⟨q1, r1⟩ <;> rcases q2 with q2 | ⟨q2, r2⟩
   ·exact .inl (by omega)
   ·exact .inl (by omega)
   ·exact .inl (by omega)
   ·exact .inr ⟨by omega, cmpL_tr h1 h2 r1 r2⟩
def bet (a b : List Int) : Prop := a.length < b.length ∨ a.length = b.length ∧ cmpL a b < 0
instance (a b : List Int) : Decidable (bet a b) := inferInstanceAs (Decidable (_ ∨ _))
theorem bet_tr {a b c : List Int} (h1 : bet a b) (h2 : bet b c) : bet a c := by
 rcases h1 with h1 | ⟨h1, q1⟩ <;> rcases h2 with h2 | ⟨h2, q2⟩
 ·exact .inl (by omega)
 ·exact .inl (by omega)
 ·exact .inl (by omega)
 ·exact .inr ⟨by omega, cmpL_tr h1 h2 q1 q2⟩
theorem bet_irr {a : List Int} : ¬ bet a a := fun h => h.elim (by omega) fun q => cmpL_irr q.2
def cand (p : List Int → Bool) (n : Nat) (l : List Int) : Prop := asc l ∧ inB n l ∧ p l = true
def Least (p : List Int → Bool) (n : Nat) (r : List Int) : Prop := cand p n r ∧ ∀ l, cand p n l → ¬ bet l r
def cvF (p : List Int → Bool) (st : Bool × List Int) (P : Nat) : Bool × List Int := if p (bts P) = true ∧ (st.1 = false ∨ bet (bts P) st.2) then (true, bts P) else st
def cvN (p : List Int → Bool) : Nat → Bool × List Int
 | 0 => (false, [])
 | k + 1 => cvF p (cvN p k) k
theorem cvN_ok {p : List Int → Bool} : ∀ {k : Nat}, ((cvN p k).1 = true → (∃ P, P < k ∧ (cvN p k).2 = bts P ∧ p (bts P) = true) ∧ ∀ P, P < k → p (bts P) = true → ¬ bet (bts P) (cvN p k).2) ∧ ((cvN p k).1 = false → ∀ P, P < k → ¬ p (bts P) = true)
 | 0 => ⟨fun h => (by cases h), fun _ P h => by omega⟩
 | k + 1 => by
   have ih := cvN_ok (p := p) (k := k)
   rw [cvN]
   generalize cvN p k = st at *
   unfold cvF
   by_cases c : p (bts k) = true ∧ (st.1 = false ∨ bet (bts k) st.2)
   ·rw [if_pos c]
    refine ⟨fun _ => ⟨⟨k, by omega, rfl, c.1⟩, fun P hP q => ?_⟩, fun h => by cases h⟩
    by_cases e : P = k
    ·subst e; exact bet_irr
    ·cases hs : st.1 with
     | false => exact absurd q (ih.2 hs P (by omega))
     | true =>
       have b : bet (bts k) st.2 := c.2.resolve_left (by rw [hs]; simp)
       exact fun r => (ih.1 hs).2 P (by omega) q (bet_tr r b)
   ·rw [if_neg c]
    refine ⟨fun h => ⟨?_, fun P hP q => ?_⟩, fun h P hP q => ?_⟩
    ·obtain ⟨P, hP, r⟩ := (ih.1 h).1
     exact ⟨P, by omega, r⟩
    ·by_cases e : P = k
     ·subst e; exact fun r => c ⟨q, .inr r⟩
     ·exact (ih.1 h).2 P (by omega) q
    ·by_cases e : P = k
     ·subst e; exact c ⟨q, .inl h⟩
     ·exact ih.2 h P (by omega) q
theorem cvN_least {p : List Int → Bool} {n : Nat} (hn : n ≤ 64) : ((cvN p (2 ^ n)).1 = true → Least p n (cvN p (2 ^ n)).2) ∧ ((cvN p (2 ^ n)).1 = false → ∀ l, ¬ cand p n l) := by
 have h := cvN_ok (p := p) (k := 2 ^ n)
 refine ⟨fun q => ?_, fun q l c => ?_⟩
 ·obtain ⟨⟨P, hP, e, hp⟩, hl⟩ := h.1 q
  refine ⟨⟨by rw [e]; exact asc_bts P, by rw [e]; exact bts_in hP, by rw [e]; exact hp⟩, fun l c => ?_⟩
  have e2 := bts_asc hn c.2.1 c.1
  have := hl _ (shS_lt2 c.2.1) (by rw [e2]; exact c.2.2)
  rwa [e2] at this
 ·have e2 := bts_asc hn c.2.1 c.1
  exact h.2 q _ (shS_lt2 c.2.1) (by rw [e2]; exact c.2.2)
theorem pig {R : Int → Int → Prop} : ∀ {li b : List Int}, b.Nodup → (∀ v ∈ b, ∃ s ∈ li, R s v) → (∀ s u v, u ∈ b → v ∈ b → R s u → R s v → u = v) → b.length ≤ li.length
 | [], [], _, _, _ => Nat.le_refl _
 | [], v :: b, _, h, _ => by
   obtain ⟨s, hs, _⟩ := h v (List.mem_cons_self ..)
   cases hs
 | s :: li, b, nd, h, u => by
   by_cases c : ∃ v ∈ b, R s v
   ·obtain ⟨v, hv, hr⟩ := c
    have ih := pig (li := li) (b := b.erase v) (R := R) (nd.erase v) (fun x hx => by
     have hx' := (nd.mem_erase_iff.1 hx)
     obtain ⟨t, ht, hrt⟩ := h x hx'.2
     rcases List.mem_cons.1 ht with q | q
     ·subst q; exact absurd (u _ x v hx'.2 hv hrt hr) hx'.1
     ·exact ⟨t, q, hrt⟩) (fun t x y hx hy => u t x y (List.mem_of_mem_erase hx) (List.mem_of_mem_erase hy))
    rw [List.length_erase_of_mem hv] at ih
    simp only [List.length_cons]
    omega
   ·have ih := pig (li := li) (b := b) (R := R) nd (fun x hx => by
     obtain ⟨t, ht, hrt⟩ := h x hx
     rcases List.mem_cons.1 ht with q | q
     ·subst q; exact absurd ⟨x, hx, hrt⟩ c
     ·exact ⟨t, q, hrt⟩) u
    simp only [List.length_cons]
    omega
end Go.Proofs.YtjaihaccehaicaaDoor
