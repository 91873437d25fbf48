/- What the proof of the law needs: the abstract machine, the functions as it reads them, their contracts, part 7. -/
import Derived.Test.YtjncfpfgobojpaaZf
import Derived.Shelf.SortG.Plain
import Derived.Shelf.SortG.SortNone
set_option linter.unusedVariables false
set_option linter.unusedSimpArgs false
namespace Go.Proofs.Ytjncfpfgobojpaa
open Go Go.Am Go.Proofs Go.Sort
theorem RG36 : (type_of% @c36r0.eq_1) ∧ (type_of% @c36r1.eq_1) ∧ (type_of% @c36r2.eq_1) ∧ (type_of% @c36r3.eq_1) ∧ (type_of% @c36r4.eq_1) ∧ (type_of% @c36r5.eq_1) ∧ (type_of% @c36r6.eq_1) ∧ (type_of% @c36r7.eq_1) ∧ (type_of% @c36r8.eq_1) ∧ (type_of% @c36r9.eq_1) ∧ (type_of% @c36r10.eq_1) ∧ (type_of% @c36r11.eq_1) ∧ (type_of% @c36r12.eq_1) ∧ (type_of% @c36r13.eq_1) ∧ (type_of% @c36r15.eq_1) ∧ (type_of% @c36r16.eq_1) ∧ (type_of% @c36r17.eq_1) ∧ (type_of% @c36r18.eq_1) ∧ (type_of% @c36r19.eq_1) ∧ (type_of% @c36r20.eq_1) ∧ (type_of% @c36r21.eq_1) ∧ (type_of% @c36r22.eq_1) ∧ (type_of% @c36r23.eq_1) ∧ (type_of% @c36r24.eq_1) ∧ (type_of% @c36r26.eq_1) ∧ (type_of% @c36r28.eq_1) ∧ (type_of% @c36r29.eq_1) ∧ (type_of% @c36r30.eq_1) := ⟨@c36r0.eq_1, @c36r1.eq_1, @c36r2.eq_1, @c36r3.eq_1, @c36r4.eq_1, @c36r5.eq_1, @c36r6.eq_1, @c36r7.eq_1, @c36r8.eq_1, @c36r9.eq_1, @c36r10.eq_1, @c36r11.eq_1, @c36r12.eq_1, @c36r13.eq_1, @c36r15.eq_1, @c36r16.eq_1, @c36r17.eq_1, @c36r18.eq_1, @c36r19.eq_1, @c36r20.eq_1, @c36r21.eq_1, @c36r22.eq_1, @c36r23.eq_1, @c36r24.eq_1, @c36r26.eq_1, @c36r28.eq_1, @c36r29.eq_1, @c36r30.eq_1⟩
set_option maxHeartbeats 4000000 in
theorem pc36 (l : List B) (hl : l.length ≤ 9223372036854775807) (rows : List (List Int)) (hn : rows.length ≤ 60) (hr : ∀ i, i < rows.length → (rI rows i).length ≤ 60) (hs : rows.flatten.length ≤ 1000000) : PC Try.prog 36 [vB l, vR rows] (.i .i64 (ck l rows)) := by
 refine pc_fn fn36 (by simp only [AV.plains, AV.plain, il_plain, bl_plain, Bool.and_true, Bool.true_and, Bool.and_self, flB_plain, vR_plain]) (by simp only [AV.plains, AV.plain, il_plain, bl_plain, Bool.and_true, Bool.true_and, Bool.and_self, flB_plain, vR_plain]) (Nat.le_of_ble_eq_true rfl) ?_
 rw [initSt2]
 have q26 := pc26 l hl
 have q72 := pc72 rows (by omega) hs
 have q73 := pc73 l hl rows.flatten (by omega)
 refine k_seq (k_reg ?_)
 refine s_go (by simp (disch := omega) only [RG36, EVA, plug, eq_self, simprocAttr]; with_reducible rfl) ?_
 refine r_done ?_
 refine w_frzP (t := 1) (cs := [vB l]) 2 (by simp (disch := omega) only [RG36, EVA, plug, eq_self, simprocAttr] <;> rfl) rfl ?_
 by_cases hv : VL l
 ·rw [vl_t hv] at q26
  have hl6 := hv.len
  by_cases ix : IX l rows.flatten
  ·rw [ix.fi] at q73
   repeat' first | (with_reducible first | refine k_seq ?_ | refine k_skip ?_ | refine k_blkS ?_ | refine k_blkR ?_ | refine k_blkC ?_ | refine k_blkH ?_ | refine k_blkB ?_ | refine k_blkK ?_ | refine k_blkE ?_ | refine k_reg ?_) | with_reducible refine k_head (by with_unfolding_all rfl) ?_ | with_reducible refine k_headS ?_ | (with_reducible refine SepK.mk ?_ ?_; (refine sepQ_P ?_; simp [sepQ, sepG, AOp.late, AOp.free, AOp.xs, AOp.isAl, tokNe, AV.tok, stS_get, strip, AX.val, RG36, GA]; try omega)) | with_reducible refine r_done ?_ | with_reducible refine hr_done ?_ | with_reducible refine s_go (by simp (disch := omega) only [RG36, EVA, plug, eq_self, simprocAttr]; with_reducible rfl) ?_ | with_reducible refine h_go (by with_unfolding_all rfl) (by simp (disch := omega) only [RG36, EVA, plug, eq_self, simprocAttr]; with_reducible rfl) ?_ | ((with_reducible refine chk_r ?_); refine r_callF (by simp only [CA, simprocAttr]; rfl) (by exact rfl) (by simp only [CA, simprocAttr]; rfl) rfl ?_) | ((with_reducible refine chk_h ?_); refine hr_callF (by simp only [CA, simprocAttr]; rfl) (by exact rfl) (by simp only [CA, simprocAttr]; rfl) rfl ?_) | ((with_reducible refine chk_r ?_); refine r_callP (by simp only [CA, simprocAttr]; rfl) (by simp only [CA, simprocAttr]; rfl) (by first | exact q26 _ | exact q72 _ | exact q73 _) rfl ?_) | ((with_reducible refine chk_h ?_); refine hr_callP (by simp only [CA, simprocAttr]; rfl) (by simp only [CA, simprocAttr]; rfl) (by first | exact q26 _ | exact q72 _ | exact q73 _) rfl ?_) | ((with_reducible refine chk_h ?_); refine hr_callP1 (by simp only [CA, simprocAttr]; rfl) (by simp only [CA, simprocAttr]; rfl) (by simp (disch := omega) only [CA, Nat.reduceEqDiff, ↓reduceIte, firstTok_nil, firstTok_sl, firstTok_sl0, firstTok_i, firstTok_b, firstTok_ag, firstTok_p, firstTok_s]; rfl) (by first | exact q26 _ | exact q72 _ | exact q73 _) rfl ?_) | ((with_reducible refine chk_r ?_); refine r_callG (by simp only [CA, simprocAttr]; rfl) (by simp only [CA, simprocAttr]; rfl) (by simp only [CA, simprocAttr]; rfl) (by intro hg; (try simp only [BO] at hg); first | exact q26 _ | exact q72 _ | exact q73 _) rfl ?_) | ((with_reducible refine chk_h ?_); refine hr_callG (by simp only [CA, simprocAttr]; rfl) (by simp only [CA, simprocAttr]; rfl) (by simp only [CA, simprocAttr]; rfl) (by intro hg; (try simp only [BO] at hg); first | exact q26 _ | exact q72 _ | exact q73 _) rfl ?_) | ((with_reducible refine chk_h ?_); refine hr_app (by simp (disch := omega) only [RG36, EVA, plug, eq_self, simprocAttr]; with_reducible rfl) rfl ?_) | (with_reducible refine k_condP (by simp only [GA, simprocAttr]; rfl) (by first | (simp only [BO]; rfl) | rfl) (fun ht => ?_) (fun ht => ?_) <;> try (first | exact False.elim ht | exact absurd rfl ht | exact absurd trivial ht | exact Bool.noConfusion ht)) | (with_reducible refine k_ret ?_; repeat with_reducible (first | refine ret_thru ?_ | refine ret_blk ?_ | refine fin ?_)) | (with_reducible refine k_exit ?_; repeat with_reducible (first | refine thru ?_ | refine out_blk ?_ | refine pass (by decide) ?_)) | ((first | refine post1 ?_ | refine post2 ?_ | refine post3 ?_); simp only [GA, simprocAttr]) | refine post0 ?_
   refine k_blk (k_loopS (X := Nat × List Bool) [1, 2, 6, 24, 25, 26] rows.flatten.length (fun k x => [(1, vR rows), (2, .pv [vB l] 0), (6, .sl x.1 0 l.length 1), (24, vi rows.flatten), (25, .i .i64 rows.flatten.length), (26, .i .i64 (k : Int))])
    (fun k x h => x.1 ≠ 0 ∧ h.m x.1 = some (.cells true (bl x.2)) ∧ InR l x.2 (rows.flatten.take k) ∧ (rows.flatten.take k).Nodup) (_, List.replicate l.length false) (by simp only [Am.keep, List.map_cons, List.map_nil, GA, simprocAttr]; try rfl) ⟨?_, by simp (disch := omega) only [bl_rep, RG36, EVA, plug, eq_self, simprocAttr] <;> rfl, InR.zero l, by simp⟩ ?_)
   ·simp only [AH.bump_nx]; omega
   rintro k ⟨x, us⟩ h hk ⟨hx, hm, R, nd⟩ ok pos
   simp only at hx hm R nd ⊢
   have hx' := ok.m hm
   have ul := R.len
   by_cases hlt : k < rows.flatten.length
   ·have hlt' : (k : Int) < rows.flatten.length := by omega
    have g := il_get hlt
    have ixk := ix _ (List.getElem_mem hlt)
    obtain ⟨a, ha⟩ : ∃ a : Nat, rows.flatten[k] = a := ⟨rows.flatten[k].toNat, by omega⟩
    rw [getD_lt hlt, ha] at g
    rw [ha] at ixk
    have tk : rows.flatten.take (k + 1) = rows.flatten.take k ++ [(a : Int)] := by rw [List.take_succ_eq_append_getElem hlt, ha]
    have al : a < us.length := by omega
    have al2 : a < l.length := by omega
    have ba := bl_get (l := us) (j := a) al
    cases hb : us.getD a false with
    | true =>
      rw [hb] at ba
      have two := ck_two hv ix (nd_pre (A := rows.flatten.take k) (x := (a : Int)) (R := rows.flatten.drop (k + 1)) (by rw [← tk, List.take_append_drop]) ((R.is a al2).1 hb))
      rw [two]
      repeat' first | (with_reducible first | refine k_seq ?_ | refine k_skip ?_ | refine k_blkS ?_ | refine k_blkR ?_ | refine k_blkC ?_ | refine k_blkH ?_ | refine k_blkB ?_ | refine k_blkK ?_ | refine k_blkE ?_ | refine k_reg ?_) | with_reducible refine k_head (by with_unfolding_all rfl) ?_ | with_reducible refine k_headS ?_ | (with_reducible refine SepK.mk ?_ ?_; (refine sepQ_P ?_; simp [sepQ, sepG, AOp.late, AOp.free, AOp.xs, AOp.isAl, tokNe, AV.tok, stS_get, strip, AX.val, RG36, GA]; try omega)) | with_reducible refine r_done ?_ | with_reducible refine hr_done ?_ | with_reducible refine s_go (by simp (disch := omega) only [hlt', g, hm, row_m hm, read_row (row_m hm), ba, ul, al, al2, RG36, EVA, plug, eq_self, simprocAttr]; with_reducible rfl) ?_ | with_reducible refine h_go (by with_unfolding_all rfl) (by simp (disch := omega) only [hlt', g, hm, row_m hm, read_row (row_m hm), ba, ul, al, al2, RG36, EVA, plug, eq_self, simprocAttr]; with_reducible rfl) ?_ | ((with_reducible refine chk_r ?_); refine r_callF (by simp only [CA, simprocAttr]; rfl) (by exact rfl) (by simp only [CA, simprocAttr]; rfl) rfl ?_) | ((with_reducible refine chk_h ?_); refine hr_callF (by simp only [CA, simprocAttr]; rfl) (by exact rfl) (by simp only [CA, simprocAttr]; rfl) rfl ?_) | ((with_reducible refine chk_h ?_); refine hr_app (by simp (disch := omega) only [hlt', g, hm, row_m hm, read_row (row_m hm), ba, ul, al, al2, RG36, EVA, plug, eq_self, simprocAttr]; with_reducible rfl) rfl ?_) | (with_reducible refine k_condP (by simp only [GA, simprocAttr]; rfl) (by first | (simp only [BO]; rfl) | rfl) (fun ht => ?_) (fun ht => ?_) <;> try (first | exact False.elim ht | exact absurd rfl ht | exact absurd trivial ht | exact Bool.noConfusion ht)) | (with_reducible refine k_ret ?_; repeat with_reducible (first | refine ret_thru ?_ | refine ret_blk ?_ | refine fin ?_)) | (with_reducible refine k_exit ?_; repeat with_reducible (first | refine thru ?_ | refine out_blk ?_ | refine pass (by decide) ?_)) | ((first | refine post1 ?_ | refine post2 ?_ | refine post3 ?_); simp only [GA, simprocAttr]) | refine post0 ?_
      all_goals first | exact ends_of | exact ends_eq rfl
    | false =>
      rw [hb] at ba
      have nm : ¬ (a : Int) ∈ rows.flatten.take k := fun q => by rw [(R.is a al2).2 q] at hb; cases hb
      repeat' first | (with_reducible first | refine k_seq ?_ | refine k_skip ?_ | refine k_blkS ?_ | refine k_blkR ?_ | refine k_blkC ?_ | refine k_blkH ?_ | refine k_blkB ?_ | refine k_blkK ?_ | refine k_blkE ?_ | refine k_reg ?_) | with_reducible refine k_head (by with_unfolding_all rfl) ?_ | with_reducible refine k_headS ?_ | (with_reducible refine SepK.mk ?_ ?_; (refine sepQ_P ?_; simp [sepQ, sepG, AOp.late, AOp.free, AOp.xs, AOp.isAl, tokNe, AV.tok, stS_get, strip, AX.val, RG36, GA]; try omega)) | with_reducible refine r_done ?_ | with_reducible refine hr_done ?_ | with_reducible refine s_go (by simp (disch := omega) only [hlt', g, hm, row_m hm, read_row (row_m hm), ba, ul, al, al2, RG36, EVA, plug, eq_self, simprocAttr]; with_reducible rfl) ?_ | with_reducible refine h_go (by with_unfolding_all rfl) (by simp (disch := omega) only [hlt', g, hm, row_m hm, read_row (row_m hm), ba, ul, al, al2, RG36, EVA, plug, eq_self, simprocAttr]; with_reducible rfl) ?_ | ((with_reducible refine chk_r ?_); refine r_callF (by simp only [CA, simprocAttr]; rfl) (by exact rfl) (by simp only [CA, simprocAttr]; rfl) rfl ?_) | ((with_reducible refine chk_h ?_); refine hr_callF (by simp only [CA, simprocAttr]; rfl) (by exact rfl) (by simp only [CA, simprocAttr]; rfl) rfl ?_) | ((with_reducible refine chk_h ?_); refine hr_app (by simp (disch := omega) only [hlt', g, hm, row_m hm, read_row (row_m hm), ba, ul, al, al2, RG36, EVA, plug, eq_self, simprocAttr]; with_reducible rfl) rfl ?_) | (with_reducible refine k_condP (by simp only [GA, simprocAttr]; rfl) (by first | (simp only [BO]; rfl) | rfl) (fun ht => ?_) (fun ht => ?_) <;> try (first | exact False.elim ht | exact absurd rfl ht | exact absurd trivial ht | exact Bool.noConfusion ht)) | (with_reducible refine k_ret ?_; repeat with_reducible (first | refine ret_thru ?_ | refine ret_blk ?_ | refine fin ?_)) | (with_reducible refine k_exit ?_; repeat with_reducible (first | refine thru ?_ | refine out_blk ?_ | refine pass (by decide) ?_)) | ((first | refine post1 ?_ | refine post2 ?_ | refine post3 ?_); simp only [GA, simprocAttr]) | refine post0 ?_
      exact ⟨hlt, ⟨x, us.set a true⟩, (by simp only [Am.keep, List.map_cons, List.map_nil, GA, simprocAttr]; try rfl), hx, by simp (disch := omega) only [hm, RG36, EVA, plug, eq_self, simprocAttr] <;> rfl, by rw [tk]; exact R.step al2, by rw [tk]; exact nd_snoc nd nm⟩
   ·obtain rfl : k = rows.flatten.length := by omega
    have hlt' : ¬ (rows.flatten.length : Int) < rows.flatten.length := by omega
    rw [List.take_length] at R nd
    repeat' first | (with_reducible first | refine k_seq ?_ | refine k_skip ?_ | refine k_blkS ?_ | refine k_blkR ?_ | refine k_blkC ?_ | refine k_blkH ?_ | refine k_blkB ?_ | refine k_blkK ?_ | refine k_blkE ?_ | refine k_reg ?_) | with_reducible refine k_head (by with_unfolding_all rfl) ?_ | with_reducible refine k_headS ?_ | (with_reducible refine SepK.mk ?_ ?_; (refine sepQ_P ?_; simp [sepQ, sepG, AOp.late, AOp.free, AOp.xs, AOp.isAl, tokNe, AV.tok, stS_get, strip, AX.val, RG36, GA]; try omega)) | with_reducible refine r_done ?_ | with_reducible refine hr_done ?_ | with_reducible refine s_go (by simp (disch := omega) only [hlt', RG36, EVA, plug, eq_self, simprocAttr]; with_reducible rfl) ?_ | with_reducible refine h_go (by with_unfolding_all rfl) (by simp (disch := omega) only [hlt', RG36, EVA, plug, eq_self, simprocAttr]; with_reducible rfl) ?_ | ((with_reducible refine chk_r ?_); refine r_callF (by simp only [CA, simprocAttr]; rfl) (by exact rfl) (by simp only [CA, simprocAttr]; rfl) rfl ?_) | ((with_reducible refine chk_h ?_); refine hr_callF (by simp only [CA, simprocAttr]; rfl) (by exact rfl) (by simp only [CA, simprocAttr]; rfl) rfl ?_) | ((with_reducible refine chk_h ?_); refine hr_app (by simp (disch := omega) only [hlt', RG36, EVA, plug, eq_self, simprocAttr]; with_reducible rfl) rfl ?_) | (with_reducible refine k_condP (by simp only [GA, simprocAttr]; rfl) (by first | (simp only [BO]; rfl) | rfl) (fun ht => ?_) (fun ht => ?_) <;> try (first | exact False.elim ht | exact absurd rfl ht | exact absurd trivial ht | exact Bool.noConfusion ht)) | (with_reducible refine k_ret ?_; repeat with_reducible (first | refine ret_thru ?_ | refine ret_blk ?_ | refine fin ?_)) | (with_reducible refine k_exit ?_; repeat with_reducible (first | refine thru ?_ | refine out_blk ?_ | refine pass (by decide) ?_)) | ((first | refine post1 ?_ | refine post2 ?_ | refine post3 ?_); simp only [GA, simprocAttr]) | refine post0 ?_
    refine k_blk (k_loopS (X := Unit) [2, 6, 9, 38, 39, 40] rows.length (fun k _ => [(2, .pv [vB l] 0), (6, .sl x 0 l.length 1), (9, .b (empB rows k)), (38, vR rows), (39, .i .i64 rows.length), (40, .i .i64 (k : Int))])
     (fun k _ h => h.m x = some (.cells true (bl us)) ∧ MYs l rows k) () (by simp only [Am.keep, List.map_cons, List.map_nil, GA, Nat.reduceEqDiff, ↓reduceIte, empB_zero]; try rfl) ⟨by simp (disch := omega) only [hm, RG36, EVA, plug, eq_self, simprocAttr], fun i hi => by omega⟩ ?_)
    rintro k _ h1 hk ⟨hm, M⟩ ok pos
    have hx' := ok.m hm
    by_cases klt : k < rows.length
    ·have klt' : (k : Int) < rows.length := by omega
     have g := rvI_get klt
     have es := empB_succ rows k
     have rk := hr k klt
     generalize empB rows k = X at es ⊢
     generalize hY : empB rows (k + 1) = Y at es ⊢
     have key : Y = (X || decide (((rI rows k).length : Int) = 0)) := es
     cases X
     ·rw [Bool.false_or] at es
      repeat' first | (with_reducible first | refine k_seq ?_ | refine k_skip ?_ | refine k_blkS ?_ | refine k_blkR ?_ | refine k_blkC ?_ | refine k_blkH ?_ | refine k_blkB ?_ | refine k_blkK ?_ | refine k_blkE ?_ | refine k_reg ?_) | with_reducible refine k_head (by with_unfolding_all rfl) ?_ | with_reducible refine k_headS ?_ | (with_reducible refine SepK.mk ?_ ?_; (refine sepQ_P ?_; simp [sepQ, sepG, AOp.late, AOp.free, AOp.xs, AOp.isAl, tokNe, AV.tok, stS_get, strip, AX.val, RG36, GA]; try omega)) | with_reducible refine r_done ?_ | with_reducible refine hr_done ?_ | with_reducible refine s_go (by simp (disch := omega) only [klt', g, ← es, RG36, EVA, plug, eq_self, simprocAttr]; with_reducible rfl) ?_ | with_reducible refine h_go (by with_unfolding_all rfl) (by simp (disch := omega) only [klt', g, ← es, RG36, EVA, plug, eq_self, simprocAttr]; with_reducible rfl) ?_ | ((with_reducible refine chk_r ?_); refine r_callF (by simp only [CA, simprocAttr]; rfl) (by exact rfl) (by simp only [CA, simprocAttr]; rfl) rfl ?_) | ((with_reducible refine chk_h ?_); refine hr_callF (by simp only [CA, simprocAttr]; rfl) (by exact rfl) (by simp only [CA, simprocAttr]; rfl) rfl ?_) | ((with_reducible refine chk_h ?_); refine hr_app (by simp (disch := omega) only [klt', g, ← es, RG36, EVA, plug, eq_self, simprocAttr]; with_reducible rfl) rfl ?_) | (with_reducible refine k_condP (by simp only [GA, simprocAttr]; rfl) (by first | (simp only [BO]; rfl) | rfl) (fun ht => ?_) (fun ht => ?_) <;> try (first | exact False.elim ht | exact absurd rfl ht | exact absurd trivial ht | exact Bool.noConfusion ht)) | (with_reducible refine k_ret ?_; repeat with_reducible (first | refine ret_thru ?_ | refine ret_blk ?_ | refine fin ?_)) | (with_reducible refine k_exit ?_; repeat with_reducible (first | refine thru ?_ | refine out_blk ?_ | refine pass (by decide) ?_)) | ((first | refine post1 ?_ | refine post2 ?_ | refine post3 ?_); simp only [GA, simprocAttr]) | refine post0 ?_
      refine k_blk (k_loopS (X := Unit) [2, 6, 9, 11, 12, 38, 39, 40] ((rI rows k).length - 1) (fun j _ => [(2, .pv [vB l] 0), (6, .sl x 0 l.length 1), (9, .b Y), (11, .vs (rI rows k).length (il (rI rows k))), (12, .i .i64 ((j + 1 : Nat) : Int)), (38, vR rows), (39, .i .i64 rows.length), (40, .i .i64 (k : Int))])
       (fun j _ h => h.m x = some (.cells true (bl us)) ∧ MY l (rI rows k) (j + 1)) () (by simp only [Am.keep, List.map_cons, List.map_nil, GA, simprocAttr]; try rfl) ⟨by simp (disch := omega) only [hm, RG36, EVA, plug, eq_self, simprocAttr], fun i h0 hi => by omega⟩ ?_)
      rintro j _ h2 hj ⟨hm, My⟩ ok pos
      have hx' := ok.m hm
      by_cases jlt : j + 1 < (rI rows k).length
      ·have jlt' : ((j + 1 : Nat) : Int) < (rI rows k).length := by omega
       obtain ⟨a, al, ea, ga⟩ := ix.at klt (show j < (rI rows k).length by omega)
       obtain ⟨b, bl', eb, gb⟩ := ix.at klt jlt
       have e1 : ((j + 1 : Nat) : Int) - 1 = j := by omega
       have jl0 : (j : Int) < (rI rows k).length := by omega
       have rA := rdB al
       have rB := rdB bl'
       have q58 := pc58 (bD l a) (bD l b)
       simp only [eB] at rA rB q58
       have mz : mayZ l (ni (rI rows k) j) (ni (rI rows k) (j + 1)) = mayB (bD l a) (bD l b) := by simp only [mayZ, mayI, ea, eb, Int.toNat_natCast]
       cases hX : mayB (bD l a) (bD l b) with
       | false =>
         rw [hX] at q58 mz
         rw [ck_dirty hv ix nd (MY.no klt jlt mz)]
         repeat' first | (with_reducible first | refine k_seq ?_ | refine k_skip ?_ | refine k_blkS ?_ | refine k_blkR ?_ | refine k_blkC ?_ | refine k_blkH ?_ | refine k_blkB ?_ | refine k_blkK ?_ | refine k_blkE ?_ | refine k_reg ?_) | with_reducible refine k_head (by with_unfolding_all rfl) ?_ | with_reducible refine k_headS ?_ | (with_reducible refine SepK.mk ?_ ?_; (refine sepQ_P ?_; simp [sepQ, sepG, AOp.late, AOp.free, AOp.xs, AOp.isAl, tokNe, AV.tok, stS_get, strip, AX.val, RG36, GA]; try omega)) | with_reducible refine r_done ?_ | with_reducible refine hr_done ?_ | with_reducible refine s_go (by simp (disch := omega) only [jlt', e1, ga, gb, rA, rB, al, bl', jl0, RG36, EVA, plug, eq_self, simprocAttr]; with_reducible rfl) ?_ | with_reducible refine h_go (by with_unfolding_all rfl) (by simp (disch := omega) only [jlt', e1, ga, gb, rA, rB, al, bl', jl0, RG36, EVA, plug, eq_self, simprocAttr]; with_reducible rfl) ?_ | ((with_reducible refine chk_r ?_); refine r_callF (by simp only [CA, simprocAttr]; rfl) (by exact rfl) (by simp only [CA, simprocAttr]; rfl) rfl ?_) | ((with_reducible refine chk_h ?_); refine hr_callF (by simp only [CA, simprocAttr]; rfl) (by exact rfl) (by simp only [CA, simprocAttr]; rfl) rfl ?_) | ((with_reducible refine chk_r ?_); refine r_callP (by simp only [CA, simprocAttr]; rfl) (by simp only [CA, simprocAttr]; rfl) (by first | exact q58 _) rfl ?_) | ((with_reducible refine chk_h ?_); refine hr_callP (by simp only [CA, simprocAttr]; rfl) (by simp only [CA, simprocAttr]; rfl) (by first | exact q58 _) rfl ?_) | ((with_reducible refine chk_h ?_); refine hr_callP1 (by simp only [CA, simprocAttr]; rfl) (by simp only [CA, simprocAttr]; rfl) (by simp (disch := omega) only [CA, Nat.reduceEqDiff, ↓reduceIte, firstTok_nil, firstTok_sl, firstTok_sl0, firstTok_i, firstTok_b, firstTok_ag, firstTok_p, firstTok_s]; rfl) (by first | exact q58 _) rfl ?_) | ((with_reducible refine chk_r ?_); refine r_callG (by simp only [CA, simprocAttr]; rfl) (by simp only [CA, simprocAttr]; rfl) (by simp only [CA, simprocAttr]; rfl) (by intro hg; (try simp only [BO] at hg); first | exact q58 _) rfl ?_) | ((with_reducible refine chk_h ?_); refine hr_callG (by simp only [CA, simprocAttr]; rfl) (by simp only [CA, simprocAttr]; rfl) (by simp only [CA, simprocAttr]; rfl) (by intro hg; (try simp only [BO] at hg); first | exact q58 _) rfl ?_) | ((with_reducible refine chk_h ?_); refine hr_app (by simp (disch := omega) only [jlt', e1, ga, gb, rA, rB, al, bl', jl0, RG36, EVA, plug, eq_self, simprocAttr]; with_reducible rfl) rfl ?_) | (with_reducible refine k_condP (by simp only [GA, simprocAttr]; rfl) (by first | (simp only [BO]; rfl) | rfl) (fun ht => ?_) (fun ht => ?_) <;> try (first | exact False.elim ht | exact absurd rfl ht | exact absurd trivial ht | exact Bool.noConfusion ht)) | (with_reducible refine k_ret ?_; repeat with_reducible (first | refine ret_thru ?_ | refine ret_blk ?_ | refine fin ?_)) | (with_reducible refine k_exit ?_; repeat with_reducible (first | refine thru ?_ | refine out_blk ?_ | refine pass (by decide) ?_)) | ((first | refine post1 ?_ | refine post2 ?_ | refine post3 ?_); simp only [GA, simprocAttr]) | refine post0 ?_
         all_goals first | exact ends_of | exact ends_eq rfl
       | true =>
         rw [hX] at q58 mz
         repeat' first | (with_reducible first | refine k_seq ?_ | refine k_skip ?_ | refine k_blkS ?_ | refine k_blkR ?_ | refine k_blkC ?_ | refine k_blkH ?_ | refine k_blkB ?_ | refine k_blkK ?_ | refine k_blkE ?_ | refine k_reg ?_) | with_reducible refine k_head (by with_unfolding_all rfl) ?_ | with_reducible refine k_headS ?_ | (with_reducible refine SepK.mk ?_ ?_; (refine sepQ_P ?_; simp [sepQ, sepG, AOp.late, AOp.free, AOp.xs, AOp.isAl, tokNe, AV.tok, stS_get, strip, AX.val, RG36, GA]; try omega)) | with_reducible refine r_done ?_ | with_reducible refine hr_done ?_ | with_reducible refine s_go (by simp (disch := omega) only [jlt', e1, ga, gb, rA, rB, al, bl', jl0, RG36, EVA, plug, eq_self, simprocAttr]; with_reducible rfl) ?_ | with_reducible refine h_go (by with_unfolding_all rfl) (by simp (disch := omega) only [jlt', e1, ga, gb, rA, rB, al, bl', jl0, RG36, EVA, plug, eq_self, simprocAttr]; with_reducible rfl) ?_ | ((with_reducible refine chk_r ?_); refine r_callF (by simp only [CA, simprocAttr]; rfl) (by exact rfl) (by simp only [CA, simprocAttr]; rfl) rfl ?_) | ((with_reducible refine chk_h ?_); refine hr_callF (by simp only [CA, simprocAttr]; rfl) (by exact rfl) (by simp only [CA, simprocAttr]; rfl) rfl ?_) | ((with_reducible refine chk_r ?_); refine r_callP (by simp only [CA, simprocAttr]; rfl) (by simp only [CA, simprocAttr]; rfl) (by first | exact q58 _) rfl ?_) | ((with_reducible refine chk_h ?_); refine hr_callP (by simp only [CA, simprocAttr]; rfl) (by simp only [CA, simprocAttr]; rfl) (by first | exact q58 _) rfl ?_) | ((with_reducible refine chk_h ?_); refine hr_callP1 (by simp only [CA, simprocAttr]; rfl) (by simp only [CA, simprocAttr]; rfl) (by simp (disch := omega) only [CA, Nat.reduceEqDiff, ↓reduceIte, firstTok_nil, firstTok_sl, firstTok_sl0, firstTok_i, firstTok_b, firstTok_ag, firstTok_p, firstTok_s]; rfl) (by first | exact q58 _) rfl ?_) | ((with_reducible refine chk_r ?_); refine r_callG (by simp only [CA, simprocAttr]; rfl) (by simp only [CA, simprocAttr]; rfl) (by simp only [CA, simprocAttr]; rfl) (by intro hg; (try simp only [BO] at hg); first | exact q58 _) rfl ?_) | ((with_reducible refine chk_h ?_); refine hr_callG (by simp only [CA, simprocAttr]; rfl) (by simp only [CA, simprocAttr]; rfl) (by simp only [CA, simprocAttr]; rfl) (by intro hg; (try simp only [BO] at hg); first | exact q58 _) rfl ?_) | ((with_reducible refine chk_h ?_); refine hr_app (by simp (disch := omega) only [jlt', e1, ga, gb, rA, rB, al, bl', jl0, RG36, EVA, plug, eq_self, simprocAttr]; with_reducible rfl) rfl ?_) | (with_reducible refine k_condP (by simp only [GA, simprocAttr]; rfl) (by first | (simp only [BO]; rfl) | rfl) (fun ht => ?_) (fun ht => ?_) <;> try (first | exact False.elim ht | exact absurd rfl ht | exact absurd trivial ht | exact Bool.noConfusion ht)) | (with_reducible refine k_ret ?_; repeat with_reducible (first | refine ret_thru ?_ | refine ret_blk ?_ | refine fin ?_)) | (with_reducible refine k_exit ?_; repeat with_reducible (first | refine thru ?_ | refine out_blk ?_ | refine pass (by decide) ?_)) | ((first | refine post1 ?_ | refine post2 ?_ | refine post3 ?_); simp only [GA, simprocAttr]) | refine post0 ?_
         exact ⟨by omega, (), (by simp only [Am.keep, List.map_cons, List.map_nil, GA, simprocAttr]; try rfl), by simp (disch := omega) only [hm, RG36, EVA, plug, eq_self, simprocAttr], My.step mz⟩
      ·have jlt' : ¬ ((j + 1 : Nat) : Int) < (rI rows k).length := by omega
       repeat' first | (with_reducible first | refine k_seq ?_ | refine k_skip ?_ | refine k_blkS ?_ | refine k_blkR ?_ | refine k_blkC ?_ | refine k_blkH ?_ | refine k_blkB ?_ | refine k_blkK ?_ | refine k_blkE ?_ | refine k_reg ?_) | with_reducible refine k_head (by with_unfolding_all rfl) ?_ | with_reducible refine k_headS ?_ | (with_reducible refine SepK.mk ?_ ?_; (refine sepQ_P ?_; simp [sepQ, sepG, AOp.late, AOp.free, AOp.xs, AOp.isAl, tokNe, AV.tok, stS_get, strip, AX.val, RG36, GA]; try omega)) | with_reducible refine r_done ?_ | with_reducible refine hr_done ?_ | with_reducible refine s_go (by simp (disch := omega) only [jlt', RG36, EVA, plug, eq_self, simprocAttr]; with_reducible rfl) ?_ | with_reducible refine h_go (by with_unfolding_all rfl) (by simp (disch := omega) only [jlt', RG36, EVA, plug, eq_self, simprocAttr]; with_reducible rfl) ?_ | ((with_reducible refine chk_r ?_); refine r_callF (by simp only [CA, simprocAttr]; rfl) (by exact rfl) (by simp only [CA, simprocAttr]; rfl) rfl ?_) | ((with_reducible refine chk_h ?_); refine hr_callF (by simp only [CA, simprocAttr]; rfl) (by exact rfl) (by simp only [CA, simprocAttr]; rfl) rfl ?_) | ((with_reducible refine chk_h ?_); refine hr_app (by simp (disch := omega) only [jlt', RG36, EVA, plug, eq_self, simprocAttr]; with_reducible rfl) rfl ?_) | (with_reducible refine k_condP (by simp only [GA, simprocAttr]; rfl) (by first | (simp only [BO]; rfl) | rfl) (fun ht => ?_) (fun ht => ?_) <;> try (first | exact False.elim ht | exact absurd rfl ht | exact absurd trivial ht | exact Bool.noConfusion ht)) | (with_reducible refine k_ret ?_; repeat with_reducible (first | refine ret_thru ?_ | refine ret_blk ?_ | refine fin ?_)) | (with_reducible refine k_exit ?_; repeat with_reducible (first | refine thru ?_ | refine out_blk ?_ | refine pass (by decide) ?_)) | ((first | refine post1 ?_ | refine post2 ?_ | refine post3 ?_); simp only [GA, simprocAttr]) | refine post0 ?_
       exact ⟨klt, (), (by simp only [Am.keep, List.map_cons, List.map_nil, GA, simprocAttr]; try rfl), by simp (disch := omega) only [hm, RG36, EVA, plug, eq_self, simprocAttr], M.succ (fun i h0 hi => My i h0 (by omega))⟩
     ·rw [Bool.true_or] at es
      subst es
      repeat' first | (with_reducible first | refine k_seq ?_ | refine k_skip ?_ | refine k_blkS ?_ | refine k_blkR ?_ | refine k_blkC ?_ | refine k_blkH ?_ | refine k_blkB ?_ | refine k_blkK ?_ | refine k_blkE ?_ | refine k_reg ?_) | with_reducible refine k_head (by with_unfolding_all rfl) ?_ | with_reducible refine k_headS ?_ | (with_reducible refine SepK.mk ?_ ?_; (refine sepQ_P ?_; simp [sepQ, sepG, AOp.late, AOp.free, AOp.xs, AOp.isAl, tokNe, AV.tok, stS_get, strip, AX.val, RG36, GA]; try omega)) | with_reducible refine r_done ?_ | with_reducible refine hr_done ?_ | with_reducible refine s_go (by simp (disch := omega) only [klt', g, RG36, EVA, plug, eq_self, simprocAttr]; with_reducible rfl) ?_ | with_reducible refine h_go (by with_unfolding_all rfl) (by simp (disch := omega) only [klt', g, RG36, EVA, plug, eq_self, simprocAttr]; with_reducible rfl) ?_ | ((with_reducible refine chk_r ?_); refine r_callF (by simp only [CA, simprocAttr]; rfl) (by exact rfl) (by simp only [CA, simprocAttr]; rfl) rfl ?_) | ((with_reducible refine chk_h ?_); refine hr_callF (by simp only [CA, simprocAttr]; rfl) (by exact rfl) (by simp only [CA, simprocAttr]; rfl) rfl ?_) | ((with_reducible refine chk_h ?_); refine hr_app (by simp (disch := omega) only [klt', g, RG36, EVA, plug, eq_self, simprocAttr]; with_reducible rfl) rfl ?_) | (with_reducible refine k_condP (by simp only [GA, simprocAttr]; rfl) (by first | (simp only [BO]; rfl) | rfl) (fun ht => ?_) (fun ht => ?_) <;> try (first | exact False.elim ht | exact absurd rfl ht | exact absurd trivial ht | exact Bool.noConfusion ht)) | (with_reducible refine k_ret ?_; repeat with_reducible (first | refine ret_thru ?_ | refine ret_blk ?_ | refine fin ?_)) | (with_reducible refine k_exit ?_; repeat with_reducible (first | refine thru ?_ | refine out_blk ?_ | refine pass (by decide) ?_)) | ((first | refine post1 ?_ | refine post2 ?_ | refine post3 ?_); simp only [GA, simprocAttr]) | refine post0 ?_
      refine k_blk (k_loopS (X := Unit) [2, 6, 9, 11, 12, 38, 39, 40] ((rI rows k).length - 1) (fun j _ => [(2, .pv [vB l] 0), (6, .sl x 0 l.length 1), (9, .b true), (11, .vs (rI rows k).length (il (rI rows k))), (12, .i .i64 ((j + 1 : Nat) : Int)), (38, vR rows), (39, .i .i64 rows.length), (40, .i .i64 (k : Int))])
       (fun j _ h => h.m x = some (.cells true (bl us)) ∧ MY l (rI rows k) (j + 1)) () (by simp only [Am.keep, List.map_cons, List.map_nil, GA, simprocAttr]; try rfl) ⟨by simp (disch := omega) only [hm, RG36, EVA, plug, eq_self, simprocAttr], fun i h0 hi => by omega⟩ ?_)
      rintro j _ h2 hj ⟨hm, My⟩ ok pos
      have hx' := ok.m hm
      by_cases jlt : j + 1 < (rI rows k).length
      ·have jlt' : ((j + 1 : Nat) : Int) < (rI rows k).length := by omega
       obtain ⟨a, al, ea, ga⟩ := ix.at klt (show j < (rI rows k).length by omega)
       obtain ⟨b, bl', eb, gb⟩ := ix.at klt jlt
       have e1 : ((j + 1 : Nat) : Int) - 1 = j := by omega
       have jl0 : (j : Int) < (rI rows k).length := by omega
       have rA := rdB al
       have rB := rdB bl'
       have q58 := pc58 (bD l a) (bD l b)
       simp only [eB] at rA rB q58
       have mz : mayZ l (ni (rI rows k) j) (ni (rI rows k) (j + 1)) = mayB (bD l a) (bD l b) := by simp only [mayZ, mayI, ea, eb, Int.toNat_natCast]
       cases hX : mayB (bD l a) (bD l b) with
       | false =>
         rw [hX] at q58 mz
         rw [ck_dirty hv ix nd (MY.no klt jlt mz)]
         repeat' first | (with_reducible first | refine k_seq ?_ | refine k_skip ?_ | refine k_blkS ?_ | refine k_blkR ?_ | refine k_blkC ?_ | refine k_blkH ?_ | refine k_blkB ?_ | refine k_blkK ?_ | refine k_blkE ?_ | refine k_reg ?_) | with_reducible refine k_head (by with_unfolding_all rfl) ?_ | with_reducible refine k_headS ?_ | (with_reducible refine SepK.mk ?_ ?_; (refine sepQ_P ?_; simp [sepQ, sepG, AOp.late, AOp.free, AOp.xs, AOp.isAl, tokNe, AV.tok, stS_get, strip, AX.val, RG36, GA]; try omega)) | with_reducible refine r_done ?_ | with_reducible refine hr_done ?_ | with_reducible refine s_go (by simp (disch := omega) only [jlt', e1, ga, gb, rA, rB, al, bl', jl0, RG36, EVA, plug, eq_self, simprocAttr]; with_reducible rfl) ?_ | with_reducible refine h_go (by with_unfolding_all rfl) (by simp (disch := omega) only [jlt', e1, ga, gb, rA, rB, al, bl', jl0, RG36, EVA, plug, eq_self, simprocAttr]; with_reducible rfl) ?_ | ((with_reducible refine chk_r ?_); refine r_callF (by simp only [CA, simprocAttr]; rfl) (by exact rfl) (by simp only [CA, simprocAttr]; rfl) rfl ?_) | ((with_reducible refine chk_h ?_); refine hr_callF (by simp only [CA, simprocAttr]; rfl) (by exact rfl) (by simp only [CA, simprocAttr]; rfl) rfl ?_) | ((with_reducible refine chk_r ?_); refine r_callP (by simp only [CA, simprocAttr]; rfl) (by simp only [CA, simprocAttr]; rfl) (by first | exact q58 _) rfl ?_) | ((with_reducible refine chk_h ?_); refine hr_callP (by simp only [CA, simprocAttr]; rfl) (by simp only [CA, simprocAttr]; rfl) (by first | exact q58 _) rfl ?_) | ((with_reducible refine chk_h ?_); refine hr_callP1 (by simp only [CA, simprocAttr]; rfl) (by simp only [CA, simprocAttr]; rfl) (by simp (disch := omega) only [CA, Nat.reduceEqDiff, ↓reduceIte, firstTok_nil, firstTok_sl, firstTok_sl0, firstTok_i, firstTok_b, firstTok_ag, firstTok_p, firstTok_s]; rfl) (by first | exact q58 _) rfl ?_) | ((with_reducible refine chk_r ?_); refine r_callG (by simp only [CA, simprocAttr]; rfl) (by simp only [CA, simprocAttr]; rfl) (by simp only [CA, simprocAttr]; rfl) (by intro hg; (try simp only [BO] at hg); first | exact q58 _) rfl ?_) | ((with_reducible refine chk_h ?_); refine hr_callG (by simp only [CA, simprocAttr]; rfl) (by simp only [CA, simprocAttr]; rfl) (by simp only [CA, simprocAttr]; rfl) (by intro hg; (try simp only [BO] at hg); first | exact q58 _) rfl ?_) | ((with_reducible refine chk_h ?_); refine hr_app (by simp (disch := omega) only [jlt', e1, ga, gb, rA, rB, al, bl', jl0, RG36, EVA, plug, eq_self, simprocAttr]; with_reducible rfl) rfl ?_) | (with_reducible refine k_condP (by simp only [GA, simprocAttr]; rfl) (by first | (simp only [BO]; rfl) | rfl) (fun ht => ?_) (fun ht => ?_) <;> try (first | exact False.elim ht | exact absurd rfl ht | exact absurd trivial ht | exact Bool.noConfusion ht)) | (with_reducible refine k_ret ?_; repeat with_reducible (first | refine ret_thru ?_ | refine ret_blk ?_ | refine fin ?_)) | (with_reducible refine k_exit ?_; repeat with_reducible (first | refine thru ?_ | refine out_blk ?_ | refine pass (by decide) ?_)) | ((first | refine post1 ?_ | refine post2 ?_ | refine post3 ?_); simp only [GA, simprocAttr]) | refine post0 ?_
         all_goals first | exact ends_of | exact ends_eq rfl
       | true =>
         rw [hX] at q58 mz
         repeat' first | (with_reducible first | refine k_seq ?_ | refine k_skip ?_ | refine k_blkS ?_ | refine k_blkR ?_ | refine k_blkC ?_ | refine k_blkH ?_ | refine k_blkB ?_ | refine k_blkK ?_ | refine k_blkE ?_ | refine k_reg ?_) | with_reducible refine k_head (by with_unfolding_all rfl) ?_ | with_reducible refine k_headS ?_ | (with_reducible refine SepK.mk ?_ ?_; (refine sepQ_P ?_; simp [sepQ, sepG, AOp.late, AOp.free, AOp.xs, AOp.isAl, tokNe, AV.tok, stS_get, strip, AX.val, RG36, GA]; try omega)) | with_reducible refine r_done ?_ | with_reducible refine hr_done ?_ | with_reducible refine s_go (by simp (disch := omega) only [jlt', e1, ga, gb, rA, rB, al, bl', jl0, RG36, EVA, plug, eq_self, simprocAttr]; with_reducible rfl) ?_ | with_reducible refine h_go (by with_unfolding_all rfl) (by simp (disch := omega) only [jlt', e1, ga, gb, rA, rB, al, bl', jl0, RG36, EVA, plug, eq_self, simprocAttr]; with_reducible rfl) ?_ | ((with_reducible refine chk_r ?_); refine r_callF (by simp only [CA, simprocAttr]; rfl) (by exact rfl) (by simp only [CA, simprocAttr]; rfl) rfl ?_) | ((with_reducible refine chk_h ?_); refine hr_callF (by simp only [CA, simprocAttr]; rfl) (by exact rfl) (by simp only [CA, simprocAttr]; rfl) rfl ?_) | ((with_reducible refine chk_r ?_); refine r_callP (by simp only [CA, simprocAttr]; rfl) (by simp only [CA, simprocAttr]; rfl) (by first | exact q58 _) rfl ?_) | ((with_reducible refine chk_h ?_); refine hr_callP (by simp only [CA, simprocAttr]; rfl) (by simp only [CA, simprocAttr]; rfl) (by first | exact q58 _) rfl ?_) | ((with_reducible refine chk_h ?_); refine hr_callP1 (by simp only [CA, simprocAttr]; rfl) (by simp only [CA, simprocAttr]; rfl) (by simp (disch := omega) only [CA, Nat.reduceEqDiff, ↓reduceIte, firstTok_nil, firstTok_sl, firstTok_sl0, firstTok_i, firstTok_b, firstTok_ag, firstTok_p, firstTok_s]; rfl) (by first | exact q58 _) rfl ?_) | ((with_reducible refine chk_r ?_); refine r_callG (by simp only [CA, simprocAttr]; rfl) (by simp only [CA, simprocAttr]; rfl) (by simp only [CA, simprocAttr]; rfl) (by intro hg; (try simp only [BO] at hg); first | exact q58 _) rfl ?_) | ((with_reducible refine chk_h ?_); refine hr_callG (by simp only [CA, simprocAttr]; rfl) (by simp only [CA, simprocAttr]; rfl) (by simp only [CA, simprocAttr]; rfl) (by intro hg; (try simp only [BO] at hg); first | exact q58 _) rfl ?_) | ((with_reducible refine chk_h ?_); refine hr_app (by simp (disch := omega) only [jlt', e1, ga, gb, rA, rB, al, bl', jl0, RG36, EVA, plug, eq_self, simprocAttr]; with_reducible rfl) rfl ?_) | (with_reducible refine k_condP (by simp only [GA, simprocAttr]; rfl) (by first | (simp only [BO]; rfl) | rfl) (fun ht => ?_) (fun ht => ?_) <;> try (first | exact False.elim ht | exact absurd rfl ht | exact absurd trivial ht | exact Bool.noConfusion ht)) | (with_reducible refine k_ret ?_; repeat with_reducible (first | refine ret_thru ?_ | refine ret_blk ?_ | refine fin ?_)) | (with_reducible refine k_exit ?_; repeat with_reducible (first | refine thru ?_ | refine out_blk ?_ | refine pass (by decide) ?_)) | ((first | refine post1 ?_ | refine post2 ?_ | refine post3 ?_); simp only [GA, simprocAttr]) | refine post0 ?_
         exact ⟨by omega, (), (by simp only [Am.keep, List.map_cons, List.map_nil, GA, simprocAttr]; try rfl), by simp (disch := omega) only [hm, RG36, EVA, plug, eq_self, simprocAttr], My.step mz⟩
      ·have jlt' : ¬ ((j + 1 : Nat) : Int) < (rI rows k).length := by omega
       repeat' first | (with_reducible first | refine k_seq ?_ | refine k_skip ?_ | refine k_blkS ?_ | refine k_blkR ?_ | refine k_blkC ?_ | refine k_blkH ?_ | refine k_blkB ?_ | refine k_blkK ?_ | refine k_blkE ?_ | refine k_reg ?_) | with_reducible refine k_head (by with_unfolding_all rfl) ?_ | with_reducible refine k_headS ?_ | (with_reducible refine SepK.mk ?_ ?_; (refine sepQ_P ?_; simp [sepQ, sepG, AOp.late, AOp.free, AOp.xs, AOp.isAl, tokNe, AV.tok, stS_get, strip, AX.val, RG36, GA]; try omega)) | with_reducible refine r_done ?_ | with_reducible refine hr_done ?_ | with_reducible refine s_go (by simp (disch := omega) only [jlt', RG36, EVA, plug, eq_self, simprocAttr]; with_reducible rfl) ?_ | with_reducible refine h_go (by with_unfolding_all rfl) (by simp (disch := omega) only [jlt', RG36, EVA, plug, eq_self, simprocAttr]; with_reducible rfl) ?_ | ((with_reducible refine chk_r ?_); refine r_callF (by simp only [CA, simprocAttr]; rfl) (by exact rfl) (by simp only [CA, simprocAttr]; rfl) rfl ?_) | ((with_reducible refine chk_h ?_); refine hr_callF (by simp only [CA, simprocAttr]; rfl) (by exact rfl) (by simp only [CA, simprocAttr]; rfl) rfl ?_) | ((with_reducible refine chk_h ?_); refine hr_app (by simp (disch := omega) only [jlt', RG36, EVA, plug, eq_self, simprocAttr]; with_reducible rfl) rfl ?_) | (with_reducible refine k_condP (by simp only [GA, simprocAttr]; rfl) (by first | (simp only [BO]; rfl) | rfl) (fun ht => ?_) (fun ht => ?_) <;> try (first | exact False.elim ht | exact absurd rfl ht | exact absurd trivial ht | exact Bool.noConfusion ht)) | (with_reducible refine k_ret ?_; repeat with_reducible (first | refine ret_thru ?_ | refine ret_blk ?_ | refine fin ?_)) | (with_reducible refine k_exit ?_; repeat with_reducible (first | refine thru ?_ | refine out_blk ?_ | refine pass (by decide) ?_)) | ((first | refine post1 ?_ | refine post2 ?_ | refine post3 ?_); simp only [GA, simprocAttr]) | refine post0 ?_
       exact ⟨klt, (), (by simp only [Am.keep, List.map_cons, List.map_nil, GA, simprocAttr]; try rfl), by simp (disch := omega) only [hm, RG36, EVA, plug, eq_self, simprocAttr], M.succ (fun i h0 hi => My i h0 (by omega))⟩
    ·obtain rfl : k = rows.length := by omega
     have klt' : ¬ (rows.length : Int) < rows.length := by omega
     have q75 := pc75 us (by omega)
     have full := R.full nd ix
     have ce := ck_end hv ix nd M (emp_all.trans empB_iff.symm) full.symm
     rw [ce]
     generalize empB rows rows.length = X at *
     generalize fi (noB us) us.length = Z at *
     rw [ul] at q75
     repeat' first | (with_reducible first | refine k_seq ?_ | refine k_skip ?_ | refine k_blkS ?_ | refine k_blkR ?_ | refine k_blkC ?_ | refine k_blkH ?_ | refine k_blkB ?_ | refine k_blkK ?_ | refine k_blkE ?_ | refine k_reg ?_) | with_reducible refine k_head (by with_unfolding_all rfl) ?_ | with_reducible refine k_headS ?_ | (with_reducible refine SepK.mk ?_ ?_; (refine sepQ_P ?_; simp [sepQ, sepG, AOp.late, AOp.free, AOp.xs, AOp.isAl, tokNe, AV.tok, stS_get, strip, AX.val, RG36, GA]; try omega)) | with_reducible refine r_done ?_ | with_reducible refine hr_done ?_ | with_reducible refine s_go (by simp (disch := omega) only [klt', hm, RG36, EVA, plug, eq_self, simprocAttr]; with_reducible rfl) ?_ | with_reducible refine h_go (by with_unfolding_all rfl) (by simp (disch := omega) only [klt', hm, RG36, EVA, plug, eq_self, simprocAttr]; with_reducible rfl) ?_ | ((with_reducible refine chk_r ?_); refine r_callF (by simp only [CA, simprocAttr]; rfl) (by exact rfl) (by simp only [CA, simprocAttr]; rfl) rfl ?_) | ((with_reducible refine chk_h ?_); refine hr_callF (by simp only [CA, simprocAttr]; rfl) (by exact rfl) (by simp only [CA, simprocAttr]; rfl) rfl ?_) | ((with_reducible refine chk_r ?_); refine r_callP (by simp only [CA, simprocAttr]; rfl) (by simp only [CA, simprocAttr]; rfl) (by first | ((refine PC.at q75 rfl ?_; refine .cons (.row (by simp (disch := omega) only [row_m hm, RG36, EVA, plug, eq_self, simprocAttr] <;> rfl) (bl_plain _)) (.cons (.same rfl) .nil)); all_goals fail)) rfl ?_) | ((with_reducible refine chk_h ?_); refine hr_callP (by simp only [CA, simprocAttr]; rfl) (by simp only [CA, simprocAttr]; rfl) (by first | ((refine PC.at q75 rfl ?_; refine .cons (.row (by simp (disch := omega) only [row_m hm, RG36, EVA, plug, eq_self, simprocAttr] <;> rfl) (bl_plain _)) (.cons (.same rfl) .nil)); all_goals fail)) rfl ?_) | ((with_reducible refine chk_h ?_); refine hr_callP1 (by simp only [CA, simprocAttr]; rfl) (by simp only [CA, simprocAttr]; rfl) (by simp (disch := omega) only [CA, Nat.reduceEqDiff, ↓reduceIte, firstTok_nil, firstTok_sl, firstTok_sl0, firstTok_i, firstTok_b, firstTok_ag, firstTok_p, firstTok_s]; rfl) (by first | ((refine PC.at q75 rfl ?_; refine .cons (.row (by simp (disch := omega) only [row_m hm, RG36, EVA, plug, eq_self, simprocAttr] <;> rfl) (bl_plain _)) (.cons (.same rfl) .nil)); all_goals fail)) rfl ?_) | ((with_reducible refine chk_r ?_); refine r_callG (by simp only [CA, simprocAttr]; rfl) (by simp only [CA, simprocAttr]; rfl) (by simp only [CA, simprocAttr]; rfl) (by intro hg; (try simp only [BO] at hg); first | ((refine PC.at q75 rfl ?_; refine .cons (.row (by simp (disch := omega) only [row_m hm, RG36, EVA, plug, eq_self, simprocAttr] <;> rfl) (bl_plain _)) (.cons (.same rfl) .nil)); all_goals fail)) rfl ?_) | ((with_reducible refine chk_h ?_); refine hr_callG (by simp only [CA, simprocAttr]; rfl) (by simp only [CA, simprocAttr]; rfl) (by simp only [CA, simprocAttr]; rfl) (by intro hg; (try simp only [BO] at hg); first | ((refine PC.at q75 rfl ?_; refine .cons (.row (by simp (disch := omega) only [row_m hm, RG36, EVA, plug, eq_self, simprocAttr] <;> rfl) (bl_plain _)) (.cons (.same rfl) .nil)); all_goals fail)) rfl ?_) | ((with_reducible refine chk_h ?_); refine hr_app (by simp (disch := omega) only [klt', hm, RG36, EVA, plug, eq_self, simprocAttr]; with_reducible rfl) rfl ?_) | (with_reducible refine k_condP (by simp only [GA, simprocAttr]; rfl) (by first | (simp only [BO]; rfl) | rfl) (fun ht => ?_) (fun ht => ?_) <;> try (first | exact False.elim ht | exact absurd rfl ht | exact absurd trivial ht | exact Bool.noConfusion ht)) | (with_reducible refine k_ret ?_; repeat with_reducible (first | refine ret_thru ?_ | refine ret_blk ?_ | refine fin ?_)) | (with_reducible refine k_exit ?_; repeat with_reducible (first | refine thru ?_ | refine out_blk ?_ | refine pass (by decide) ?_)) | ((first | refine post1 ?_ | refine post2 ?_ | refine post3 ?_); simp only [GA, simprocAttr]) | refine post0 ?_
     all_goals (refine ends_eq (i_eq ?_); cases X <;> by_cases hz : 0 ≤ Z <;> simp_all)
  ·have := IX.fi' ix
   rw [ck_arg hv ix]
   have t : decide (0 ≤ fi (bdI l rows.flatten) rows.flatten.length) = true := decide_eq_true this
   rw [t] at q73
   repeat' first | (with_reducible first | refine k_seq ?_ | refine k_skip ?_ | refine k_blkS ?_ | refine k_blkR ?_ | refine k_blkC ?_ | refine k_blkH ?_ | refine k_blkB ?_ | refine k_blkK ?_ | refine k_blkE ?_ | refine k_reg ?_) | with_reducible refine k_head (by with_unfolding_all rfl) ?_ | with_reducible refine k_headS ?_ | (with_reducible refine SepK.mk ?_ ?_; (refine sepQ_P ?_; simp [sepQ, sepG, AOp.late, AOp.free, AOp.xs, AOp.isAl, tokNe, AV.tok, stS_get, strip, AX.val, RG36, GA]; try omega)) | with_reducible refine r_done ?_ | with_reducible refine hr_done ?_ | with_reducible refine s_go (by simp (disch := omega) only [RG36, EVA, plug, eq_self, simprocAttr]; with_reducible rfl) ?_ | with_reducible refine h_go (by with_unfolding_all rfl) (by simp (disch := omega) only [RG36, EVA, plug, eq_self, simprocAttr]; with_reducible rfl) ?_ | ((with_reducible refine chk_r ?_); refine r_callF (by simp only [CA, simprocAttr]; rfl) (by exact rfl) (by simp only [CA, simprocAttr]; rfl) rfl ?_) | ((with_reducible refine chk_h ?_); refine hr_callF (by simp only [CA, simprocAttr]; rfl) (by exact rfl) (by simp only [CA, simprocAttr]; rfl) rfl ?_) | ((with_reducible refine chk_r ?_); refine r_callP (by simp only [CA, simprocAttr]; rfl) (by simp only [CA, simprocAttr]; rfl) (by first | exact q26 _ | exact q72 _ | exact q73 _) rfl ?_) | ((with_reducible refine chk_h ?_); refine hr_callP (by simp only [CA, simprocAttr]; rfl) (by simp only [CA, simprocAttr]; rfl) (by first | exact q26 _ | exact q72 _ | exact q73 _) rfl ?_) | ((with_reducible refine chk_h ?_); refine hr_callP1 (by simp only [CA, simprocAttr]; rfl) (by simp only [CA, simprocAttr]; rfl) (by simp (disch := omega) only [CA, Nat.reduceEqDiff, ↓reduceIte, firstTok_nil, firstTok_sl, firstTok_sl0, firstTok_i, firstTok_b, firstTok_ag, firstTok_p, firstTok_s]; rfl) (by first | exact q26 _ | exact q72 _ | exact q73 _) rfl ?_) | ((with_reducible refine chk_r ?_); refine r_callG (by simp only [CA, simprocAttr]; rfl) (by simp only [CA, simprocAttr]; rfl) (by simp only [CA, simprocAttr]; rfl) (by intro hg; (try simp only [BO] at hg); first | exact q26 _ | exact q72 _ | exact q73 _) rfl ?_) | ((with_reducible refine chk_h ?_); refine hr_callG (by simp only [CA, simprocAttr]; rfl) (by simp only [CA, simprocAttr]; rfl) (by simp only [CA, simprocAttr]; rfl) (by intro hg; (try simp only [BO] at hg); first | exact q26 _ | exact q72 _ | exact q73 _) rfl ?_) | ((with_reducible refine chk_h ?_); refine hr_app (by simp (disch := omega) only [RG36, EVA, plug, eq_self, simprocAttr]; with_reducible rfl) rfl ?_) | (with_reducible refine k_condP (by simp only [GA, simprocAttr]; rfl) (by first | (simp only [BO]; rfl) | rfl) (fun ht => ?_) (fun ht => ?_) <;> try (first | exact False.elim ht | exact absurd rfl ht | exact absurd trivial ht | exact Bool.noConfusion ht)) | (with_reducible refine k_ret ?_; repeat with_reducible (first | refine ret_thru ?_ | refine ret_blk ?_ | refine fin ?_)) | (with_reducible refine k_exit ?_; repeat with_reducible (first | refine thru ?_ | refine out_blk ?_ | refine pass (by decide) ?_)) | ((first | refine post1 ?_ | refine post2 ?_ | refine post3 ?_); simp only [GA, simprocAttr]) | refine post0 ?_
   all_goals first | exact ends_of | exact ends_eq rfl
 ·rw [vl_f hv] at q26
  rw [ck_err hv]
  repeat' first | (with_reducible first | refine k_seq ?_ | refine k_skip ?_ | refine k_blkS ?_ | refine k_blkR ?_ | refine k_blkC ?_ | refine k_blkH ?_ | refine k_blkB ?_ | refine k_blkK ?_ | refine k_blkE ?_ | refine k_reg ?_) | with_reducible refine k_head (by with_unfolding_all rfl) ?_ | with_reducible refine k_headS ?_ | (with_reducible refine SepK.mk ?_ ?_; (refine sepQ_P ?_; simp [sepQ, sepG, AOp.late, AOp.free, AOp.xs, AOp.isAl, tokNe, AV.tok, stS_get, strip, AX.val, RG36, GA]; try omega)) | with_reducible refine r_done ?_ | with_reducible refine hr_done ?_ | with_reducible refine s_go (by simp (disch := omega) only [RG36, EVA, plug, eq_self, simprocAttr]; with_reducible rfl) ?_ | with_reducible refine h_go (by with_unfolding_all rfl) (by simp (disch := omega) only [RG36, EVA, plug, eq_self, simprocAttr]; with_reducible rfl) ?_ | ((with_reducible refine chk_r ?_); refine r_callF (by simp only [CA, simprocAttr]; rfl) (by exact rfl) (by simp only [CA, simprocAttr]; rfl) rfl ?_) | ((with_reducible refine chk_h ?_); refine hr_callF (by simp only [CA, simprocAttr]; rfl) (by exact rfl) (by simp only [CA, simprocAttr]; rfl) rfl ?_) | ((with_reducible refine chk_r ?_); refine r_callP (by simp only [CA, simprocAttr]; rfl) (by simp only [CA, simprocAttr]; rfl) (by first | exact q26 _) rfl ?_) | ((with_reducible refine chk_h ?_); refine hr_callP (by simp only [CA, simprocAttr]; rfl) (by simp only [CA, simprocAttr]; rfl) (by first | exact q26 _) rfl ?_) | ((with_reducible refine chk_h ?_); refine hr_callP1 (by simp only [CA, simprocAttr]; rfl) (by simp only [CA, simprocAttr]; rfl) (by simp (disch := omega) only [CA, Nat.reduceEqDiff, ↓reduceIte, firstTok_nil, firstTok_sl, firstTok_sl0, firstTok_i, firstTok_b, firstTok_ag, firstTok_p, firstTok_s]; rfl) (by first | exact q26 _) rfl ?_) | ((with_reducible refine chk_r ?_); refine r_callG (by simp only [CA, simprocAttr]; rfl) (by simp only [CA, simprocAttr]; rfl) (by simp only [CA, simprocAttr]; rfl) (by intro hg; (try simp only [BO] at hg); first | exact q26 _) rfl ?_) | ((with_reducible refine chk_h ?_); refine hr_callG (by simp only [CA, simprocAttr]; rfl) (by simp only [CA, simprocAttr]; rfl) (by simp only [CA, simprocAttr]; rfl) (by intro hg; (try simp only [BO] at hg); first | exact q26 _) rfl ?_) | ((with_reducible refine chk_h ?_); refine hr_app (by simp (disch := omega) only [RG36, EVA, plug, eq_self, simprocAttr]; with_reducible rfl) rfl ?_) | (with_reducible refine k_condP (by simp only [GA, simprocAttr]; rfl) (by first | (simp only [BO]; rfl) | rfl) (fun ht => ?_) (fun ht => ?_) <;> try (first | exact False.elim ht | exact absurd rfl ht | exact absurd trivial ht | exact Bool.noConfusion ht)) | (with_reducible refine k_ret ?_; repeat with_reducible (first | refine ret_thru ?_ | refine ret_blk ?_ | refine fin ?_)) | (with_reducible refine k_exit ?_; repeat with_reducible (first | refine thru ?_ | refine out_blk ?_ | refine pass (by decide) ?_)) | ((first | refine post1 ?_ | refine post2 ?_ | refine post3 ?_); simp only [GA, simprocAttr]) | refine post0 ?_
  all_goals first | exact ends_of | exact ends_eq rfl
end Go.Proofs.Ytjncfpfgobojpaa
set_option linter.unusedVariables false
set_option linter.unusedSimpArgs false
namespace Go.Proofs.Ytjncfpfgobojpaa
open Go Go.Am Go.Proofs Go.Sort
def Dwn (l : List B) (out : List Nat) : Prop := out.Pairwise fun a b => (bD l b).dark < (bD l a).dark ∧ (bD l a).grain < (bD l b).grain
structure CH (l : List B) (R : Nat) (out : List Nat) (cur : Int) : Prop where
 lt : ∀ y ∈ out, y < l.length
 dw : Dwn l out
 cur : (out.length < R ∧ ∃ m, m < l.length ∧ cur = (od l m : Nat) ∧ rowAt l m + out.length + 1 = R ∧ ∀ y ∈ out, (oB l m).dark < (bD l y).dark ∧ (bD l y).grain < (oB l m).grain) ∨ (out.length = R ∧ cur = -1)
theorem CH.start {l : List B} {m : Nat} (hm : m < l.length) : CH l (rowAt l m + 1) [] (od l m : Nat) := ⟨fun y hy => (by cases hy), List.Pairwise.nil, .inl ⟨by simp, m, hm, rfl, by simp, fun y hy => (by cases hy)⟩⟩
theorem CH.step {l : List B} {R m : Nat} {out : List Nat} (h : CH l R out (od l m : Nat)) (hm : m < l.length) : out.length < R ∧ CH l R (out ++ [od l m]) (undK l m) := by
 rcases h.cur with ⟨hlt, m2, hm2, e, hr, hy⟩ | ⟨_, e⟩
 ·obtain rfl : m = m2 := od_inj hm hm2 (by omega)
  refine ⟨hlt, fun y hy2 => ?_, ?_, ?_⟩
  ·rcases List.mem_append.1 hy2 with q | q
   ·exact h.lt y q
   ·rw [List.mem_singleton] at q; subst q; exact order_get hm
  ·unfold Dwn
   rw [List.pairwise_append]
   refine ⟨h.dw, List.pairwise_singleton _ _, fun a ha b hb => ?_⟩
   rw [List.mem_singleton] at hb; subst hb
   exact hy a ha
  ·by_cases h0 : rowAt l m = 0
   ·refine .inr ⟨by rw [List.length_append]; simp only [List.length_cons, List.length_nil]; omega, ?_⟩
    unfold undK; rw [if_pos h0]
   ·obtain ⟨m2, h1, h2, h3, h4, h5⟩ := und_some hm h0
    have h2' := h2
    refine .inl ⟨by rw [List.length_append]; simp only [List.length_cons, List.length_nil]; omega, m2, by omega, h2', by rw [List.length_append]; simp only [List.length_cons, List.length_nil]; omega, fun y hy2 => ?_⟩
    rcases List.mem_append.1 hy2 with q | q
    ·have := hy y q
     omega
    ·rw [List.mem_singleton] at q; subst q
     exact ⟨h4, h5⟩
 ·omega
theorem Dwn.apart {l : List B} {out : List Nat} (h : Dwn l out) (hl : ∀ y ∈ out, y < l.length) {P : List Nat} (p : P.Perm out) : GK l (P.map fun (n : Nat) => (n : Int)) P.length ∧ AP l (P.map fun (n : Nat) => (n : Int)) P.length := by
 have sym : ∀ a b, (fun a b => mayB (bD l a) (bD l b) = false ∧ mayB (bD l b) (bD l a) = false) a b → mayB (bD l b) (bD l a) = false ∧ mayB (bD l a) (bD l b) = false := fun a b q => ⟨q.2, q.1⟩
 have hp : out.Pairwise fun a b => mayB (bD l a) (bD l b) = false ∧ mayB (bD l b) (bD l a) = false := h.imp fun q => by
  simp only [mayB, decide_eq_false_iff_not]; omega
 have hP : P.Pairwise fun a b => mayB (bD l a) (bD l b) = false ∧ mayB (bD l b) (bD l a) = false := (p.pairwise_iff (fun {a b} q => sym a b q)).2 hp
 have g : ∀ i, i < P.length → ni (P.map fun (n : Nat) => (n : Int)) i = ((P.getD i 0 : Nat) : Int) := fun i hi => by
  simp [ni, List.getD_eq_getElem?_getD, hi]
 have two : ∀ i, i < P.length → ∀ j, j < i → mayB (bD l (P.getD j 0)) (bD l (P.getD i 0)) = false ∧ mayB (bD l (P.getD i 0)) (bD l (P.getD j 0)) = false := fun i hi j hj => by
  have := List.pairwise_iff_getElem.1 hP j i (by omega) hi hj
  rw [getD_lt (by omega), getD_lt hi]; exact this
 refine ⟨fun i hi => ?_, fun i hi j hj => ?_⟩
 ·rw [g i hi]
  have m : P.getD i 0 ∈ out := p.mem_iff.1 (by rw [getD_lt hi]; exact List.getElem_mem hi)
  refine ⟨by omega, by have := hl _ m; omega, ?_⟩
  rintro ⟨j, hj, e⟩
  rw [g j (by omega)] at e
  have e2 : P.getD j 0 = P.getD i 0 := by omega
  have := (two i hi j hj).1
  rw [e2, mayB_refl] at this
  cases this
 ·rw [g i hi, g j (by omega)]
  simp only [mayZ, mayI, Int.toNat_natCast]
  exact ⟨(two i hi j hj).2, (two i hi j hj).1⟩
end Go.Proofs.Ytjncfpfgobojpaa
namespace Go.Proofs.Ytjncfpfgobojpaa
open Go Go.Shelf Go.Proofs
def sortI_ren : Go.Shelf.Ren := ⟨fun | 53 => 84 | 64 => 95 | 63 => 94 | 78 => 110 | 79 => 111 | 70 => 101 | 71 => 102 | 72 => 103 | 73 => 104 | 74 => 105 | 75 => 106 | 59 => 107 | 76 => 108 | 77 => 109 | 88 => 114 | 89 => 115 | 90 => 116 | 91 => 117 | 92 => 118 | 68 => 113 | 96 => 127 | n => n, fun | 22 => 49 | 23 => 3 | 3 => 3 | 51 => 116 | 0 => 0 | 67 => 130 | 69 => 107 | 4 => 4 | 61 => 123 | 60 => 122 | 44 => 127 | 5 => 5 | 9 => 9 | 75 => 133 | 79 => 137 | 83 => 144 | 84 => 145 | n => n, fun | n => n⟩
theorem sortI : Go.Proofs.SlLaysN.n53 Try.prog sortI_ren := {
 mixed := by kernel_rfl
 f53 := ⟨Try.f84.name, by decide, Try.func84.trans (congrArg some (by kernel_rfl))⟩
 f59 := ⟨Try.f107.name, by decide, Try.func107.trans (congrArg some (by kernel_rfl))⟩
 f63 := ⟨Try.f94.name, by decide, Try.func94.trans (congrArg some (by kernel_rfl))⟩
 f64 := Try.func95.trans (congrArg some (by kernel_rfl))
 f68 := ⟨Try.f113.name, by decide, Try.func113.trans (congrArg some (by kernel_rfl))⟩
 f70 := ⟨Try.f101.name, by decide, Try.func101.trans (congrArg some (by kernel_rfl))⟩
 f71 := ⟨Try.f102.name, by decide, Try.func102.trans (congrArg some (by kernel_rfl))⟩
 f72 := ⟨Try.f103.name, by decide, Try.func103.trans (congrArg some (by kernel_rfl))⟩
 f73 := ⟨Try.f104.name, by decide, Try.func104.trans (congrArg some (by kernel_rfl))⟩
 f74 := ⟨Try.f105.name, by decide, Try.func105.trans (congrArg some (by kernel_rfl))⟩
 f75 := ⟨Try.f106.name, by decide, Try.func106.trans (congrArg some (by kernel_rfl))⟩
 f76 := ⟨Try.f108.name, by decide, Try.func108.trans (congrArg some (by kernel_rfl))⟩
 f77 := ⟨Try.f109.name, by decide, Try.func109.trans (congrArg some (by kernel_rfl))⟩
 f78 := Try.func110.trans (congrArg some (by kernel_rfl))
 f79 := Try.func111.trans (congrArg some (by kernel_rfl))
 f88 := ⟨Try.f114.name, by decide, Try.func114.trans (congrArg some (by kernel_rfl))⟩
 f89 := Try.func115.trans (congrArg some (by kernel_rfl))
 f90 := Try.func116.trans (congrArg some (by kernel_rfl))
 f91 := ⟨Try.f117.name, by decide, Try.func117.trans (congrArg some (by kernel_rfl))⟩
 f92 := ⟨Try.f118.name, by decide, Try.func118.trans (congrArg some (by kernel_rfl))⟩
 f96 := ⟨Try.f127.name, by decide, Try.func127.trans (congrArg some (by kernel_rfl))⟩
 t0 := Try.underlying0
 a0 := Try.isAgg0
 z0 := Try.sizeOf0
 v0 := Try.zeroValue0
 t3 := Try.underlying3
 a3 := Try.isAgg3
 z3 := Try.sizeOf3
 v3 := Try.zeroValue3
 t4 := Try.underlying4
 a4 := Try.isAgg4
 z4 := Try.sizeOf4
 v4 := Try.zeroValue4
 t5 := Try.underlying5
 a5 := Try.isAgg5
 z5 := Try.sizeOf5
 v5 := Try.zeroValue5
 t9 := Try.underlying9
 a9 := Try.isAgg9
 z9 := Try.sizeOf9
 v9 := Try.zeroValue9
 t22 := Try.underlying49
 a22 := Try.isAgg49
 z22 := Try.sizeOf49
 v22 := Try.zeroValue49
 t23 := Try.underlying3
 a23 := Try.isAgg3
 z23 := Try.sizeOf3
 v23 := Try.zeroValue3
 t44 := Try.underlying127
 a44 := Try.isAgg127
 z44 := Try.sizeOf127
 v44 := Try.zeroValue127
 t51 := Try.underlying116
 a51 := Try.isAgg116
 z51 := Try.sizeOf116
 v51 := Try.zeroValue116
 t60 := Try.underlying122
 a60 := Try.isAgg122
 z60 := Try.sizeOf122
 v60 := Try.zeroValue122
 t61 := Try.underlying123
 a61 := Try.isAgg123
 z61 := Try.sizeOf123
 v61 := Try.zeroValue123
 t67 := Try.underlying130
 a67 := Try.isAgg130
 z67 := Try.sizeOf130
 v67 := Try.zeroValue130
 t69 := Try.underlying107
 a69 := Try.isAgg107
 z69 := Try.sizeOf107
 v69 := Try.zeroValue107
 t75 := Try.underlying133
 a75 := Try.isAgg133
 z75 := Try.sizeOf133
 v75 := Try.zeroValue133
 t79 := Try.underlying137
 a79 := Try.isAgg137
 z79 := Try.sizeOf137
 v79 := Try.zeroValue137
 t83 := Try.underlying144
 a83 := Try.isAgg144
 z83 := Try.sizeOf144
 v83 := Try.zeroValue144
 t84 := Try.underlying145
 a84 := Try.isAgg145
 z84 := Try.sizeOf145
 v84 := Try.zeroValue145 }
end Go.Proofs.Ytjncfpfgobojpaa
set_option linter.unusedVariables false
set_option linter.unusedSimpArgs false
namespace Go.Am
open Go.Proofs Go.Shelf Go.Sort
section
variable {P : Program} {ρ : Ren}
theorem hE_int : Enc1 (AV.i .i64) (Value.int .i64) := ⟨fun ι x v => by simp only [VRel], fun x => rfl, fun x => rfl⟩
set_option maxHeartbeats 1000000 in
theorem sort_int (L : SlLaysN.n53 P ρ) {h : AH} {t a : Nat} {d : List Int} (hm : h.m t = some (.cells true (d.map (AV.i .i64)))) (hlen : d.length < 4611686018427387904) :
 ACalls P (ρ.f 53) [.sl t 0 d.length a] h fun r h' => r = .tu [] ∧ h' = h.set t (.cells true ((d.mergeSort fun x y => decide (x ≤ y)).map (AV.i .i64))) := by
 have hE := hE_int
 refine ⟨?_, fun ι w vs wr hv => ?_⟩
 ·obtain ⟨nm, hn, hf⟩ := L.f53
  exact ⟨_, hf, hn, rfl⟩
 simp only [VRels] at hv
 obtain ⟨sv, r1, ev, hs, rfl⟩ := hv
 obtain rfl : vs = #[sv] := by cases vs; simp_all
 by_cases hd0 : d = []
 ·subst hd0
  have hslice : ∃ p cap, sv = .slice p 0 cap := by
   simp only [VRel] at hs
   rcases hs with ⟨_, x, rfl⟩ | ⟨l, cap, _, rfl, _⟩
   ·exact ⟨_, _, rfl⟩
   ·exact ⟨_, _, rfl⟩
  obtain ⟨p, cap, rfl⟩ := hslice
  refine Calls.mono (AnyG.slices_Sort_int_none (P := P) (ρ := ρ) L p cap w) fun e w' ⟨he, hw⟩ => ?_
  subst hw
  have e0 : ((([] : List Int).mergeSort fun x y => decide (x ≤ y)).map (AV.i .i64)) = [] := by simp
  rw [e0]
  have es : h.set t (.cells true []) = h := set_self hm
  exact ⟨.tuple #[], .tu [], _, ι, he, ⟨rfl, rfl⟩, by simp only [VRel]; exact ⟨#[], rfl, by simp [VRels]⟩, by rw [es]; exact wr, by rw [es]; exact .refl _ _ _⟩
 have hdl : d.length ≠ 0 := fun e => hd0 (List.length_eq_zero_iff.1 e)
 simp only [VRel] at hs
 rcases hs with ⟨h0, _⟩ | ⟨l, cap, hl, rfl, hcap, _⟩
 ·exact absurd h0 hdl
 have hb := (wr.blk t _ hm).2
 simp only [BRel] at hb
 rcases hb with ⟨he, _⟩ | ⟨l', vs, e, fz, hl', hh, h3, h4, h5, h6⟩
 ·exact absurd (by simpa using he) hd0
 rw [hl] at hl'; cases hl'
 have hfz := h5 trivial
 subst hfz
 simp only [Nat.add_zero]
 have hcell : ∀ j, j < d.length → ∃ x, d[j]? = some x ∧ vs[l.sh + j]? = some ((Value.int .i64) x) := fun j hj => by
  obtain ⟨u, hu, hr⟩ := h6 j (AV.i .i64 d[j]) (by simp [hj])
  rw [hE.rel] at hr
  subst hr
  exact ⟨d[j], by simp [hj], hu⟩
 have hH : Holds (Value.int .i64) w l.b l.sh d.toArray := fun j hj => by
  obtain ⟨x, hx, hc⟩ := hcell j (by simpa using hj)
  refine ⟨?_, ?_⟩
  ·simp only [World.cell?, hh]
   rw [if_neg (by simp), hc]
   have : d.toArray[j]! = x := by simp [getElem!_def, hx]
   rw [this]
  ·simp [World.frozen?, hh]
 have hblk : l.b < w.heap.size := (wr.lt t l hl).2
 refine Calls.mono (AnyG.slices_Sort_int L l.b l.sh cap d w hH hblk (by simpa using hlen)) fun e' w' he => ?_
 obtain ⟨he, n, os, hw⟩ := he
 change w' = sortWorld (Value.int .i64) w l.b l.sh n _ os at hw
 generalize hsd : (d.mergeSort fun x y => decide (x ≤ y)) = d' at hw ⊢
 have hlen' : d'.length = d.length := by rw [← hsd]; exact List.length_mergeSort _
 obtain ⟨p1, p2, p3⟩ := putRow_heap (Value.int .i64) w l.b l.sh n d'.toArray os hh
 rw [← hw] at p1 p2 p3
 have hbr : BRel ι w' t (.cells true (d'.map (AV.i .i64))) := by
  simp only [BRel]
  refine .inr ⟨l, _, e, _, hl, p1, by simp [putCells, h3], by simpa [hlen'] using h4, fun _ => rfl, fun i a ha => ?_⟩
  simp only [List.getElem?_map, Option.map_eq_some_iff] at ha
  obtain ⟨x, hx, rfl⟩ := ha
  have hi : i < d'.length := (List.getElem?_eq_some_iff.1 hx).1
  obtain ⟨_, _, hc⟩ := hcell i (by omega)
  refine ⟨Value.int .i64 x, ?_, (hE.rel _ _ _).2 rfl⟩
  simp only [putCells, Array.getElem?_mapIdx, hc, Option.map_some]
  rw [if_pos ⟨by omega, by simp; omega⟩]
  have : d'.toArray[l.sh + i - l.sh]! = x := by simp [getElem!_def, hx]
  rw [this]
 -- the step within the old blocks, then the new ones
 let w1 : World := { w with heap := w.heap.modify l.b (onCells (putCells (Value.int .i64) l.sh d'.toArray)) }
 have k1 : w1.heap.size = w.heap.size := by simp [w1]
 have k2 : ∀ b, b ≠ l.b → w1.heap[b]? = w.heap[b]? := fun b hb => by simp [w1, Array.getElem?_modify, Ne.symm hb]
 have k3 : ∀ b, b < w1.heap.size → w'.heap[b]? = w1.heap[b]? := fun b hb => by
  rw [k1] at hb
  by_cases e' : b = l.b
  ·subst e'
   rw [p1]
   simp only [w1, Array.getElem?_modify, if_pos, hh]; rfl
  ·rw [p2 b hb e', k2 b e']
 have k4 : w1.heap.size ≤ w'.heap.size := by rw [k1]; exact p3
 have hbr1 : BRel ι w1 t (.cells true (d'.map (AV.i .i64))) := hbr.mono (Inj.le_refl _) rfl fun l2 hl2 => by
  rw [hl] at hl2; cases hl2
  rw [k3 l.b (by rw [k1]; exact hblk)]
 have wr1 := wr.refit hm rfl hl k1 k2 hbr1
 have ex1 := (Ext.refl ι h w).refit (bk := .cells true (d'.map (AV.i .i64))) hm rfl hl k1 k2 (Nat.le_refl _) rfl rfl rfl
 have o1 : w'.os = w1.os := by rw [hw]; rfl
 have o2 : w'.tape = w1.tape := by rw [hw]; rfl
 have o3 : w'.output = w1.output := by rw [hw]; rfl
 have o4 : w1.drawn ≤ w'.drawn := by rw [hw]; show w.drawn ≤ w.drawn + n; omega
 exact ⟨.tuple #[], .tu [], _, ι, he, ⟨rfl, rfl⟩, by simp only [VRel]; exact ⟨#[], rfl, by simp [VRels]⟩, wr1.grown k4 k3, ex1.grown o1 o2 o3 k4 k3 o4⟩
end
end Go.Am
set_option linter.unusedVariables false
namespace Go.Proofs.Ytjncfpfgobojpaa
open Go Go.Am Go.Proofs Go.Sort
theorem sortZ {h : AH} {t a : Nat} {ns : List Nat} (hm : h.m t = some (.cells true (nl ns))) (hlen : ns.length ≤ 1000) :
 ACalls Try.prog 84 [.sl t 0 ns.length a] h fun r h' => r = .tu [] ∧ h' = h.set t (.cells true (nl (ns.mergeSort fun i k => decide (i ≤ k)))) := by
 have e : nl ns = (ns.map fun (n : Nat) => (n : Int)).map (AV.i .i64) := by simp only [nl, List.map_map]; rfl
 have := sort_int sortI (h := h) (t := t) (a := a) (d := ns.map fun (n : Nat) => (n : Int)) (by rw [← e]; exact hm) (by rw [List.length_map]; omega)
 rw [List.length_map] at this
 refine ACalls.mono this fun r h' ⟨e1, e2⟩ => ⟨e1, ?_⟩
 rw [e2]
 have e3 : (ns.mergeSort fun i k => decide (i ≤ k)).map (fun (n : Nat) => (n : Int)) = (ns.map fun (n : Nat) => (n : Int)).mergeSort fun x y => decide (x ≤ y) :=
  List.map_mergeSort fun a _ b _ => by rw [decide_eq_decide]; omega
 rw [← e3]; simp only [nl, List.map_map]; rfl
end Go.Proofs.Ytjncfpfgobojpaa
set_option linter.unusedVariables false
set_option linter.unusedSimpArgs false
namespace Go.Proofs.Ytjncfpfgobojpaa
open Go Go.Am Go.Proofs Go.Sort
abbrev cI (P : List Nat) : List Int := P.map fun (n : Nat) => (n : Int)
def PR (l : List B) (v : AV) : Prop := (VL l ∧ ∃ P : List Nat, P.length = (rowsL l).length ∧ P.Pairwise (· < ·) ∧ GK l (cI P) P.length ∧ AP l (cI P) P.length ∧ v = .tu [.vs P.length (nl P), .i .i64 0]) ∨ (¬ VL l ∧ v = .tu [.vs 0 [], .i .i64 60])
theorem PR.plain {l : List B} {v : AV} (h : PR l v) : v.plain = true := by
 rcases h with ⟨_, P, _, _, _, _, rfl⟩ | ⟨_, rfl⟩
 ·simp [AV.plain, AV.plains, nl_plain]
 ·rfl
theorem undL_get {l : List B} {m : Nat} (hm : m < l.length) : (undL l).getD (od l m) 0 = undK l m := by
 have hx : od l m < l.length := order_get hm
 have h3 : (orderL l).idxOf (od l m) < (orderL l).length := List.idxOf_lt_length_of_mem (order_mem.2 hx)
 have e : od l ((orderL l).idxOf (od l m)) = od l m := by
  have e1 : od l ((orderL l).idxOf (od l m)) = (orderL l)[(orderL l).idxOf (od l m)] := getD_lt h3 _
  rw [e1]; exact List.getElem_idxOf h3
 have h4 : (orderL l).idxOf (od l m) < l.length := by rw [← order_len]; exact h3
 have := od_inj h4 hm e
 generalize od l m = y at *
 simp only [undL, List.getD_eq_getElem?_getD, List.getElem?_map, List.getElem?_range hx, Option.map_some, Option.getD_some]
 rw [this]
theorem rowsL_le {l : List B} (hv : VL l) : (rowsL l).length ≤ l.length := by
 have := rowsR_len l
 unfold rowsR at this
 rwa [if_pos hv] at this
theorem undL_len (l : List B) : (undL l).length = l.length := by simp [undL]
theorem Dwn.nodup {l : List B} {out : List Nat} (h : Dwn l out) : out.Nodup := h.imp fun q e => by subst e; omega
theorem srt_lt {out : List Nat} (nd : out.Nodup) : (out.mergeSort fun i k => decide (i ≤ k)).Pairwise (· < ·) := by
 have h1 := List.pairwise_mergeSort (le := fun (i k : Nat) => decide (i ≤ k)) (fun a b c h1 h2 => by simp only [decide_eq_true_eq] at *; omega) (fun a b => by simp only [Bool.or_eq_true, decide_eq_true_eq]; omega) out
 have h2 : (out.mergeSort fun i k => decide (i ≤ k)).Nodup := (List.mergeSort_perm _ _).nodup_iff.2 nd
 exact (h1.and h2).imp fun ⟨a, b⟩ => by simp only [decide_eq_true_eq] at a; omega
theorem RG49 : (type_of% @c49r0.eq_1) ∧ (type_of% @c49r1.eq_1) ∧ (type_of% @c49r2.eq_1) ∧ (type_of% @c49r3.eq_1) ∧ (type_of% @c49r4.eq_1) ∧ (type_of% @c49r5.eq_1) ∧ (type_of% @c49r6.eq_1) ∧ (type_of% @c49r7.eq_1) ∧ (type_of% @c49r8.eq_1) ∧ (type_of% @c49r9.eq_1) ∧ (type_of% @c49r10.eq_1) ∧ (type_of% @c49r12.eq_1) ∧ (type_of% @c49r13.eq_1) := ⟨@c49r0.eq_1, @c49r1.eq_1, @c49r2.eq_1, @c49r3.eq_1, @c49r4.eq_1, @c49r5.eq_1, @c49r6.eq_1, @c49r7.eq_1, @c49r8.eq_1, @c49r9.eq_1, @c49r10.eq_1, @c49r12.eq_1, @c49r13.eq_1⟩
set_option maxHeartbeats 2000000 in
theorem pc49 (l : List B) (hl : l.length ≤ 9223372036854775807) : PCR Try.prog 49 [vB l] (PR l) := by
 refine pcr_fn fn49 (by simp only [AV.plains, AV.plain, il_plain, bl_plain, Bool.and_true, Bool.true_and, Bool.and_self, flB_plain]) (fun v => PR.plain) (Nat.le_of_ble_eq_true rfl) ?_
 rw [initSt1]
 have q26 := pc26 l hl
 by_cases hv : VL l
 ·rw [vl_t hv] at q26
  have hl6 := hv.len
  have q52 := pc52 l hv
  have Rl := rowsL_le hv
  have Rk := rk (l := l) (k := l.length) (Nat.le_refl _)
  have rl : rowsK l l.length = rowsL l := rfl
  rw [rl] at Rk
  by_cases h0 : (rowsL l).length = 0
  ·have h0' : (((rowsL l).length : Nat) : Int) = 0 := by omega
   have h0' := eq_true h0'
   repeat' first | (with_reducible first | refine k_seq ?_ | refine k_skip ?_ | refine k_blkS ?_ | refine k_blkR ?_ | refine k_blkC ?_ | refine k_blkH ?_ | refine k_blkB ?_ | refine k_blkK ?_ | refine k_blkE ?_ | refine k_reg ?_) | with_reducible refine r_done ?_ | with_reducible refine s_go (by simp (disch := omega) only [h0', RG49, EVA, plug, eq_self, simprocAttr]; with_reducible rfl) ?_ | ((with_reducible refine chk_r ?_); refine r_callF (by simp only [CA, simprocAttr]; rfl) (by exact rfl) (by simp only [CA, simprocAttr]; rfl) rfl ?_) | ((with_reducible refine chk_r ?_); refine r_callP (by simp only [CA, simprocAttr]; rfl) (by simp only [CA, simprocAttr]; rfl) (by first | exact q26 _ | exact q52 _) rfl ?_) | (with_reducible refine k_condP (by simp only [GA, simprocAttr]; rfl) (by first | (simp only [BO]; rfl) | rfl) (fun ht => ?_) (fun ht => ?_) <;> try (first | exact False.elim ht | exact absurd rfl ht | exact absurd trivial ht | exact Bool.noConfusion ht)) | (with_reducible refine k_ret ?_; repeat with_reducible (first | refine ret_thru ?_ | refine ret_blk ?_ | refine fin ?_)) | (with_reducible refine k_exit ?_; repeat with_reducible (first | refine thru ?_ | refine out_blk ?_ | refine pass (by decide) ?_)) | ((first | refine post1 ?_ | refine post2 ?_ | refine post3 ?_); simp only [GA, simprocAttr]) | refine post0 ?_
   refine ⟨_, .inl ⟨hv, [], by simp [h0], List.Pairwise.nil, fun i hi => by simp at hi, fun i hi => by simp at hi, rfl⟩, ?_⟩
   exact ends_nil2
  ·have h0' := eq_false (show ¬ (((rowsL l).length : Nat) : Int) = 0 by omega)
   obtain ⟨R1, hR⟩ : ∃ R1, (rowsL l).length = R1 + 1 := ⟨(rowsL l).length - 1, by omega⟩
   have hr1 : R1 < (rowsL l).length := by omega
   have g1 := rvN_get hr1
   have hne := Rk.ne _ (mem_row hr1)
   have hp : 0 < ((rowsL l).getD R1 []).length := List.length_pos_iff.2 hne
   have e1 : (((rowsL l).length : Nat) : Int) - 1 = (R1 : Int) := by omega
   have hp' : (0 : Int) < ((rowsL l).getD R1 []).length := by omega
   have r1' : (R1 : Int) < (rowsL l).length := by omega
   have g2 := nl_get hp
   have rin : ((rowsL l).getD R1 []).length ≤ l.length := by
    have := row_len (l := l) (k := l.length) (Nat.le_refl _) R1
    rwa [rl] at this
   obtain ⟨m0, hm0, em0, er0⟩ := row_own (l := l) (k := l.length) (Nat.le_refl _) (r := R1) (by rw [rl]; exact hr1) (x := ((rowsL l).getD R1 []).getD 0 0) (by rw [rl, getD_lt hp]; exact List.getElem_mem hp)
   rw [← em0] at g2
   have C0 := CH.start hm0
   rw [er0, ← hR] at C0
   repeat' first | (with_reducible first | refine k_seq ?_ | refine k_skip ?_ | refine k_blkS ?_ | refine k_blkR ?_ | refine k_blkC ?_ | refine k_blkH ?_ | refine k_blkB ?_ | refine k_blkK ?_ | refine k_blkE ?_ | refine k_reg ?_) | with_reducible refine r_done ?_ | with_reducible refine s_go (by simp (disch := omega) only [h0', e1, g1, g2, hp', r1', hp, RG49, EVA, plug, eq_self, simprocAttr]; with_reducible rfl) ?_ | ((with_reducible refine chk_r ?_); refine r_callF (by simp only [CA, simprocAttr]; rfl) (by exact rfl) (by simp only [CA, simprocAttr]; rfl) rfl ?_) | ((with_reducible refine chk_r ?_); refine r_callP (by simp only [CA, simprocAttr]; rfl) (by simp only [CA, simprocAttr]; rfl) (by first | exact q26 _ | exact q52 _) rfl ?_) | (with_reducible refine k_condP (by simp only [GA, simprocAttr]; rfl) (by first | (simp only [BO]; rfl) | rfl) (fun ht => ?_) (fun ht => ?_) <;> try (first | exact False.elim ht | exact absurd rfl ht | exact absurd trivial ht | exact Bool.noConfusion ht)) | (with_reducible refine k_ret ?_; repeat with_reducible (first | refine ret_thru ?_ | refine ret_blk ?_ | refine fin ?_)) | (with_reducible refine k_exit ?_; repeat with_reducible (first | refine thru ?_ | refine out_blk ?_ | refine pass (by decide) ?_)) | ((first | refine post1 ?_ | refine post2 ?_ | refine post3 ?_); simp only [GA, simprocAttr]) | refine post0 ?_
   refine w_virt 1 6 rfl ?_
   refine k_blk (k_loopS (X := Nat × List Nat × Int) [5, 6, 7] (rowsL l).length (fun j x => [(5, .vs l.length (il (undL l))), (6, .sl x.1 0 j 1), (7, .i .i64 x.2.2)])
    (fun j x h => x.1 ≠ 0 ∧ h.m x.1 = some (.cells true (nl x.2.1)) ∧ x.2.1.length = j ∧ CH l (rowsL l).length x.2.1 x.2.2) (_, [], _) (by simp only [Am.keep, List.map_cons, List.map_nil, GA, simprocAttr]; try rfl) ⟨?_, by simp (disch := omega) only [RG49, EVA, plug, eq_self, simprocAttr] <;> rfl, rfl, C0⟩ ?_)
   ·simp only [AH.bump_nx]; omega
   rintro j ⟨x, out, cur⟩ h hj ⟨hx, hm, ol, C⟩ ok pos
   simp only at hx hm ol C ⊢
   have hx' := ok.m hm
   by_cases jlt : j < (rowsL l).length
   ·rcases C.cur with ⟨_, m, hml, rfl, hrow, _⟩ | ⟨q, _⟩
    ·obtain ⟨_, C2⟩ := C.step hml
     have hxm : od l m < l.length := order_get hml
     have gu := il_get (l := undL l) (j := od l m) (by rw [undL_len]; exact hxm)
     rw [undL_get hml] at gu
     have nn : (0 : Int) ≤ ((od l m : Nat) : Int) := by omega
     repeat' first | (with_reducible first | refine k_seq ?_ | refine k_skip ?_ | refine k_blkS ?_ | refine k_blkR ?_ | refine k_blkC ?_ | refine k_blkH ?_ | refine k_blkB ?_ | refine k_blkK ?_ | refine k_blkE ?_ | refine k_reg ?_) | with_reducible refine r_done ?_ | with_reducible refine s_go (by simp (disch := omega) only [nn, hm, row_m hm, read_row (row_m hm), hx, ol, nl_len, nl_snoc, gu, hxm, RG49, EVA, plug, eq_self, simprocAttr]; with_reducible rfl) ?_ | ((with_reducible refine chk_r ?_); refine r_callF (by simp only [CA, simprocAttr]; rfl) (by exact rfl) (by simp only [CA, simprocAttr]; rfl) rfl ?_) | (with_reducible refine k_condP (by simp only [GA, simprocAttr]; rfl) (by first | (simp only [BO]; rfl) | rfl) (fun ht => ?_) (fun ht => ?_) <;> try (first | exact False.elim ht | exact absurd rfl ht | exact absurd trivial ht | exact Bool.noConfusion ht)) | (with_reducible refine k_ret ?_; repeat with_reducible (first | refine ret_thru ?_ | refine ret_blk ?_ | refine fin ?_)) | (with_reducible refine k_exit ?_; repeat with_reducible (first | refine thru ?_ | refine out_blk ?_ | refine pass (by decide) ?_)) | ((first | refine post1 ?_ | refine post2 ?_ | refine post3 ?_); simp only [GA, simprocAttr]) | refine post0 ?_
     exact ⟨jlt, ⟨_, out ++ [od l m], undK l m⟩, (by simp only [Am.keep, List.map_cons, List.map_nil, GA, simprocAttr]; try rfl), by omega, by simp (disch := omega) only [RG49, EVA, plug, eq_self, simprocAttr] <;> rfl, by simp [ol], C2⟩
    ·omega
   ·rcases C.cur with ⟨q, _⟩ | ⟨_, rfl⟩
    ·omega
    ·obtain rfl : j = (rowsL l).length := by omega
     have q84 := fun h hm => sortZ (h := h) (t := x) (a := 1) (ns := out) hm (by omega)
     rw [ol] at q84
     repeat' first | (with_reducible first | refine k_seq ?_ | refine k_skip ?_ | refine k_blkS ?_ | refine k_blkR ?_ | refine k_blkC ?_ | refine k_blkH ?_ | refine k_blkB ?_ | refine k_blkK ?_ | refine k_blkE ?_ | refine k_reg ?_) | with_reducible refine r_done ?_ | with_reducible refine s_go (by simp (disch := omega) only [RG49, EVA, plug, eq_self, simprocAttr]; with_reducible rfl) ?_ | ((with_reducible refine chk_r ?_); refine r_callF (by simp only [CA, simprocAttr]; rfl) (by exact rfl) (by simp only [CA, simprocAttr]; rfl) rfl ?_) | ((with_reducible refine chk_r ?_); refine r_callX (by simp only [CA, simprocAttr]; rfl) (by simp only [CA, simprocAttr]; rfl) (by first | exact q84 _ (by simp (disch := omega) only [hm, RG49, EVA, plug, eq_self, simprocAttr] <;> rfl)) rfl ?_) | (with_reducible refine k_condP (by simp only [GA, simprocAttr]; rfl) (by first | (simp only [BO]; rfl) | rfl) (fun ht => ?_) (fun ht => ?_) <;> try (first | exact False.elim ht | exact absurd rfl ht | exact absurd trivial ht | exact Bool.noConfusion ht)) | (with_reducible refine k_ret ?_; repeat with_reducible (first | refine ret_thru ?_ | refine ret_blk ?_ | refine fin ?_)) | (with_reducible refine k_exit ?_; repeat with_reducible (first | refine thru ?_ | refine out_blk ?_ | refine pass (by decide) ?_)) | ((first | refine post1 ?_ | refine post2 ?_ | refine post3 ?_); simp only [GA, simprocAttr]) | refine post0 ?_
     rintro r h' ⟨rfl, rfl⟩
     have pp := List.mergeSort_perm out fun i k => decide (i ≤ k)
     have ap := C.dw.apart C.lt pp
     have sl := srt_lt C.dw.nodup
     have pl : (out.mergeSort fun i k => decide (i ≤ k)).length = (rowsL l).length := by rw [List.length_mergeSort]; exact ol
     generalize (out.mergeSort fun i k => decide (i ≤ k)) = P at *
     repeat' first | (with_reducible first | refine k_seq ?_ | refine k_skip ?_ | refine k_blkS ?_ | refine k_blkR ?_ | refine k_blkC ?_ | refine k_blkH ?_ | refine k_blkB ?_ | refine k_blkK ?_ | refine k_blkE ?_ | refine k_reg ?_) | with_reducible refine r_done ?_ | with_reducible refine s_go (by simp (disch := omega) only [RG49, EVA, plug, eq_self, simprocAttr]; with_reducible rfl) ?_ | ((with_reducible refine chk_r ?_); refine r_callF (by simp only [CA, simprocAttr]; rfl) (by exact rfl) (by simp only [CA, simprocAttr]; rfl) rfl ?_) | (with_reducible refine k_condP (by simp only [GA, simprocAttr]; rfl) (by first | (simp only [BO]; rfl) | rfl) (fun ht => ?_) (fun ht => ?_) <;> try (first | exact False.elim ht | exact absurd rfl ht | exact absurd trivial ht | exact Bool.noConfusion ht)) | (with_reducible refine k_ret ?_; repeat with_reducible (first | refine ret_thru ?_ | refine ret_blk ?_ | refine fin ?_)) | (with_reducible refine k_exit ?_; repeat with_reducible (first | refine thru ?_ | refine out_blk ?_ | refine pass (by decide) ?_)) | ((first | refine post1 ?_ | refine post2 ?_ | refine post3 ?_); simp only [GA, simprocAttr]) | refine post0 ?_
     refine ⟨_, .inl ⟨hv, P, pl, sl, ap.1, ap.2, rfl⟩, ?_⟩
     rw [← pl]
     exact ends_sl2 (k := 1) (by simp (disch := omega) only [RG49, EVA, plug, eq_self, simprocAttr] <;> rfl) (by rw [nl_len, Nat.mul_one])
 ·rw [vl_f hv] at q26
  repeat' first | (with_reducible first | refine k_seq ?_ | refine k_skip ?_ | refine k_blkS ?_ | refine k_blkR ?_ | refine k_blkC ?_ | refine k_blkH ?_ | refine k_blkB ?_ | refine k_blkK ?_ | refine k_blkE ?_ | refine k_reg ?_) | with_reducible refine r_done ?_ | with_reducible refine s_go (by simp (disch := omega) only [RG49, EVA, plug, eq_self, simprocAttr]; with_reducible rfl) ?_ | ((with_reducible refine chk_r ?_); refine r_callF (by simp only [CA, simprocAttr]; rfl) (by exact rfl) (by simp only [CA, simprocAttr]; rfl) rfl ?_) | ((with_reducible refine chk_r ?_); refine r_callP (by simp only [CA, simprocAttr]; rfl) (by simp only [CA, simprocAttr]; rfl) (by first | exact q26 _) rfl ?_) | (with_reducible refine k_condP (by simp only [GA, simprocAttr]; rfl) (by first | (simp only [BO]; rfl) | rfl) (fun ht => ?_) (fun ht => ?_) <;> try (first | exact False.elim ht | exact absurd rfl ht | exact absurd trivial ht | exact Bool.noConfusion ht)) | (with_reducible refine k_ret ?_; repeat with_reducible (first | refine ret_thru ?_ | refine ret_blk ?_ | refine fin ?_)) | (with_reducible refine k_exit ?_; repeat with_reducible (first | refine thru ?_ | refine out_blk ?_ | refine pass (by decide) ?_)) | ((first | refine post1 ?_ | refine post2 ?_ | refine post3 ?_); simp only [GA, simprocAttr]) | refine post0 ?_
  exact ⟨_, .inr ⟨hv, rfl⟩, ends_nil2⟩
end Go.Proofs.Ytjncfpfgobojpaa
set_option linter.unusedVariables false
set_option linter.unusedSimpArgs false
namespace Go.Proofs.Ytjncfpfgobojpaa
open Go Go.Am Go.Proofs Go.Sort
theorem flat_set {x : Nat} : ∀ {rows : List (List Nat)} {f : Nat}, f < rows.length → ((rows.set f (rows.getD f [] ++ [x])).flatten).Perm (rows.flatten ++ [x])
 | [], f, h => by simp at h
 | r :: rs, 0, h => by
   simp only [List.set_cons_zero, List.getD_cons_zero, List.flatten_cons, List.append_assoc]
   exact List.Perm.append_left r List.perm_append_comm
 | r :: rs, f + 1, h => by
   simp only [List.set_cons_succ, List.getD_cons_succ, List.flatten_cons, List.append_assoc]
   exact List.Perm.append_left r (flat_set (rows := rs) (by simpa using h))
theorem rows_perm {l : List B} : ∀ {k : Nat}, k ≤ l.length → ((rowsK l k).flatten).Perm ((orderL l).take k)
 | 0, _ => by simp [rowsK]
 | k + 1, h => by
   have ih := rows_perm (l := l) (k := k) (by omega)
   have hk : k < (orderL l).length := by rw [order_len]; omega
   have e : (orderL l).take (k + 1) = (orderL l).take k ++ [od l k] := by
    rw [List.take_succ_eq_append_getElem hk]
    simp only [od]; rw [getD_lt hk]
   rw [e, rowsK_at (by omega)]
   split
   ·rename_i hf
    exact (flat_set hf).trans (ih.append_right _)
   ·rw [List.flatten_append]
    simp only [List.flatten_cons, List.flatten_nil, List.append_nil]
    exact ih.append_right _
def MYn (l : List B) (row : List Nat) : Prop := ∀ j, 0 < j → j < row.length → mayI l (row.getD (j - 1) 0) (row.getD j 0) = true
theorem MYn.snoc {l : List B} {row : List Nat} {x : Nat} (h : MYn l row) (hx : row ≠ [] → mayI l (lastN row) x = true) : MYn l (row ++ [x]) := fun j h0 hj => by
 simp only [List.length_append, List.length_cons, List.length_nil] at hj
 by_cases e : j < row.length
 ·have a : (row ++ [x]).getD j 0 = row.getD j 0 := by simp [List.getD_eq_getElem?_getD, List.getElem?_append_left e]
  have b : (row ++ [x]).getD (j - 1) 0 = row.getD (j - 1) 0 := by simp [List.getD_eq_getElem?_getD, List.getElem?_append_left (show j - 1 < row.length by omega)]
  rw [a, b]; exact h j h0 e
 ·obtain rfl : j = row.length := by omega
  have a : (row ++ [x]).getD row.length 0 = x := by simp [List.getD_eq_getElem?_getD]
  have b : (row ++ [x]).getD (row.length - 1) 0 = lastN row := by simp [lastN, List.getD_eq_getElem?_getD, List.getElem?_append_left (show row.length - 1 < row.length by omega)]
  rw [a, b]
  exact hx fun e => by rw [e] at h0; simp at h0
theorem rows_my {l : List B} : ∀ {k : Nat}, k ≤ l.length → ∀ j, MYn l ((rowsK l k).getD j [])
 | 0, _, j => by simp [rowsK, MYn]
 | k + 1, h, j => by
   have ih := rows_my (l := l) (k := k) (by omega)
   rw [rowsK_get (by omega)]
   split
   ·rename_i e
    split
    ·rename_i hf
     refine (ih j).snoc fun _ => ?_
     rw [e]; exact fit_yes hf
    ·intro j h0 hj; simp at hj; omega
   ·exact ih j
abbrev iR (rows : List (List Nat)) : List (List Int) := rows.map cI
theorem iR_get {rows : List (List Nat)} {i : Nat} : rI (iR rows) i = cI (rows.getD i []) := by
 by_cases h : i < rows.length
 ·simp [rI, iR, h]
 ·simp [rI, iR, h]
theorem cI_get {r : List Nat} {j : Nat} (h : j < r.length) : ni (cI r) j = ((r.getD j 0 : Nat) : Int) := by simp [ni, h]
theorem iR_flat (rows : List (List Nat)) : (iR rows).flatten = cI rows.flatten := by simp [iR, cI, List.map_flatten]
theorem made_ok {l : List B} (hv : VL l) : CkOK l (iR (rowsL l)) := by
 have p : (rowsL l).flatten.Perm (orderL l) := by
  have := rows_perm (l := l) (k := l.length) (Nat.le_refl _)
  rwa [List.take_of_length_le (by rw [order_len]; exact Nat.le_refl _)] at this
 refine ⟨hv, ?_, ?_, ?_, ?_, ?_⟩
 ·rw [iR_flat]
  intro x hx
  obtain ⟨n, hn, rfl⟩ := List.mem_map.1 hx
  have := order_mem.1 (p.mem_iff.1 hn)
  omega
 ·rw [iR_flat]
  have nd := (p.nodup_iff).2 (order_nodup l)
  exact List.pairwise_map.2 (nd.imp fun q e => q (by omega))
 ·intro i hi
  rw [iR_get]
  intro j h0 hj
  rw [List.length_map] at hj
  rw [cI_get (by omega), cI_get hj]
  have := rows_my (l := l) (k := l.length) (Nat.le_refl _) i j h0 hj
  simp only [mayZ, Int.toNat_natCast]
  exact this
 ·intro r hr e
  obtain ⟨q, hq, rfl⟩ := List.mem_map.1 hr
  have ne := (rk (l := l) (k := l.length) (Nat.le_refl _)).ne q hq
  exact ne (by simpa [cI] using e)
 ·rw [iR_flat, List.length_map, p.length_eq, order_len]
theorem iR_vR (rows : List (List Nat)) : vRows rows = vR (iR rows) := by
 simp only [vRows, vR, iR, List.length_map, List.map_map]
 congr 1
 refine List.map_congr_left fun r _ => ?_
 simp only [Function.comp, rvN, rvI, List.length_map, nl, il, List.map_map]
 congr 1
theorem cI_vi (P : List Nat) : AV.vs P.length (nl P) = vi (cI P) := by
 simp only [vi, cI, List.length_map, nl, il, List.map_map]
 congr 1
end Go.Proofs.Ytjncfpfgobojpaa
set_option linter.unusedVariables false
set_option linter.unusedSimpArgs false
namespace Go.Proofs.Ytjncfpfgobojpaa
open Go Go.Am Go.Proofs Go.Sort
theorem made_small {l : List B} (hv : VL l) : (iR (rowsL l)).length ≤ 60 ∧ (∀ i, i < (iR (rowsL l)).length → (rI (iR (rowsL l)) i).length ≤ 60) ∧ (iR (rowsL l)).flatten.length ≤ 1000000 := by
 have := hv.len
 have h1 := rowsL_le hv
 refine ⟨by rw [List.length_map]; omega, fun i hi => ?_, by rw [(made_ok hv).all]; omega⟩
 rw [iR_get, List.length_map]
 have := row_len (l := l) (k := l.length) (Nat.le_refl _) i
 have e : rowsK l l.length = rowsL l := rfl
 rw [e] at this
 omega
end Go.Proofs.Ytjncfpfgobojpaa
set_option linter.unusedVariables false
set_option linter.unusedSimpArgs false
namespace Go.Proofs.Ytjncfpfgobojpaa
open Go Go.Am Go.Proofs Go.Sort
def R0 : Rn := ⟨0, 0, 0, false⟩
abbrev rnD (row : List Rn) (k : Nat) : Rn := row.getD k R0
abbrev rw_ (runs : List (List Rn)) (b : Nat) : List Rn := runs.getD b []
def erJ (l : List B) (c : Int) (us : List Bool) (row : List Rn) (k : Nat) : Int :=
 if ¬ (0 ≤ (rnD row k).batch ∧ (rnD row k).batch < l.length) ∨ (rnD row k).fro < 0 then 2
 else if us.getD (rnD row k).batch.toNat false = true then 43
 else if k ≠ 0 ∧ (rnD row k).fro < (rnD row (k - 1)).til then 73
 else if tm (rnD row k) (hrs (rB l (rnD row k)) + cl (rnD row k) c) = false then 73
 else if (rnD row k).clean = false ∧ (k = 0 ∨ mayI l (rnD row (k - 1)).batch.toNat (rnD row k).batch.toNat = false) then 61
 else 0
def mrk (us : List Bool) (r : Rn) : List Bool := us.set r.batch.toNat true
def jrow (l : List B) (c : Int) (row : List Rn) : Nat → Nat → List Bool → Nat × Int × List Bool
 | 0, k, us => (0, 0, us)
 | n + 1, k, us => if erJ l c us row k = 0 then jrow l c row n (k + 1) (mrk us (rnD row k)) else (k, erJ l c us row k, us)
def jrows (l : List B) (c : Int) (runs : List (List Rn)) : Nat → Nat → List Bool → Nat × Nat × Int
 | 0, b, us => (0, 0, if us.all id = false then 4 else 0)
 | n + 1, b, us => if (jrow l c (rw_ runs b) (rw_ runs b).length 0 us).2.1 = 0 then jrows l c runs n (b + 1) (jrow l c (rw_ runs b) (rw_ runs b).length 0 us).2.2
   else (b, (jrow l c (rw_ runs b) (rw_ runs b).length 0 us).1, (jrow l c (rw_ runs b) (rw_ runs b).length 0 us).2.1)
def mny (runs : List (List Rn)) : Prop := 8 < runs.length ∨ ∃ i, i < runs.length ∧ 100 < (rw_ runs i).length
open Classical in
noncomputable def jdR (l : List B) (c : Int) (runs : List (List Rn)) : Nat × Nat × Int :=
 if VL l then if (0 ≤ c ∧ c ≤ 100) ∧ ¬ mny runs then jrows l c runs runs.length 0 (List.replicate l.length false) else (0, 0, 2) else (0, 0, 60)
theorem jd_err {l : List B} {c : Int} {runs : List (List Rn)} (h : ¬ VL l) : jdR l c runs = (0, 0, 60) := by unfold jdR; rw [if_neg h]
theorem jd_arg {l : List B} {c : Int} {runs : List (List Rn)} (h : VL l) (g : ¬ ((0 ≤ c ∧ c ≤ 100) ∧ ¬ mny runs)) : jdR l c runs = (0, 0, 2) := by unfold jdR; rw [if_pos h, if_neg g]
theorem jd_go {l : List B} {c : Int} {runs : List (List Rn)} (h : VL l) (g : (0 ≤ c ∧ c ≤ 100) ∧ ¬ mny runs) : jdR l c runs = jrows l c runs runs.length 0 (List.replicate l.length false) := by unfold jdR; rw [if_pos h, if_pos g]
theorem jrow_ok {l : List B} {c : Int} {row : List Rn} {k : Nat} {us : List Bool} (hk : k < row.length) (h : erJ l c us row k = 0) : jrow l c row (row.length - k) k us = jrow l c row (row.length - (k + 1)) (k + 1) (mrk us (rnD row k)) := by
 rw [show row.length - k = (row.length - (k + 1)) + 1 by omega, jrow, if_pos h]
theorem jrow_no {l : List B} {c : Int} {row : List Rn} {k : Nat} {us : List Bool} (hk : k < row.length) {e : Int} (h : erJ l c us row k = e) (he : e ≠ 0) : jrow l c row (row.length - k) k us = (k, e, us) := by
 rw [show row.length - k = (row.length - (k + 1)) + 1 by omega, jrow, if_neg (by rw [h]; exact he), h]
theorem jrow_end {l : List B} {c : Int} {row : List Rn} {us : List Bool} : jrow l c row (row.length - row.length) row.length us = (0, 0, us) := by rw [Nat.sub_self]; rfl
theorem jrows_ok {l : List B} {c : Int} {runs : List (List Rn)} {b : Nat} {us us' : List Bool} {k : Nat} (hb : b < runs.length) (h : jrow l c (rw_ runs b) (rw_ runs b).length 0 us = (k, 0, us')) : jrows l c runs (runs.length - b) b us = jrows l c runs (runs.length - (b + 1)) (b + 1) us' := by
 rw [show runs.length - b = (runs.length - (b + 1)) + 1 by omega, jrows, h, if_pos rfl]
theorem jrows_no {l : List B} {c : Int} {runs : List (List Rn)} {b : Nat} {us us' : List Bool} {k : Nat} {e : Int} (hb : b < runs.length) (h : jrow l c (rw_ runs b) (rw_ runs b).length 0 us = (k, e, us')) (he : e ≠ 0) : jrows l c runs (runs.length - b) b us = (b, k, e) := by
 rw [show runs.length - b = (runs.length - (b + 1)) + 1 by omega, jrows, h, if_neg he]
theorem jrows_end {l : List B} {c : Int} {runs : List (List Rn)} {us : List Bool} : jrows l c runs (runs.length - runs.length) runs.length us = (0, 0, if us.all id = false then 4 else 0) := by rw [Nat.sub_self]; rfl
def IXr (l : List B) (row : List Rn) (k : Nat) : Prop := ∀ j, j < k → 0 ≤ (rnD row j).batch ∧ (rnD row j).batch < l.length
theorem er_arg {l : List B} {c : Int} {us : List Bool} {row : List Rn} {k : Nat} (h : ¬ (0 ≤ (rnD row k).batch ∧ (rnD row k).batch < l.length) ∨ (rnD row k).fro < 0) : erJ l c us row k = 2 := by unfold erJ; rw [if_pos h]
section
variable {l : List B} {c : Int} {us : List Bool} {row : List Rn} {k : Nat} (h : 0 ≤ (rnD row k).batch ∧ (rnD row k).batch < l.length) (hf : ¬ (rnD row k).fro < 0)
include h hf
theorem er_two (q : us.getD (rnD row k).batch.toNat false = true) : erJ l c us row k = 43 := by
 unfold erJ; rw [if_neg (by rintro (z | z); exact z h; exact hf z), if_pos q]
variable (q : us.getD (rnD row k).batch.toNat false = false)
include q
theorem er_rest : erJ l c us row k = if k ≠ 0 ∧ (rnD row k).fro < (rnD row (k - 1)).til then 73
 else if tm (rnD row k) (hrs (rB l (rnD row k)) + cl (rnD row k) c) = false then 73
 else if (rnD row k).clean = false ∧ (k = 0 ∨ mayI l (rnD row (k - 1)).batch.toNat (rnD row k).batch.toNat = false) then 61
 else 0 := by
 unfold erJ; rw [if_neg (by rintro (z | z); exact z h; exact hf z), if_neg (by rw [q]; exact Bool.false_ne_true)]
end
end Go.Proofs.Ytjncfpfgobojpaa
set_option linter.unusedVariables false
set_option linter.unusedSimpArgs false
namespace Go.Am
def AOper.lt (o : AOper) : Bool := o.op.isVal || (o.op.cal && o.g.isNone)
section
variable {P : Program} {N : Nat} {Q : Exit → St → AH → Prop} {st0 : St} {h0 hT : AH} {w0 : World} {ι0 : Inj} {base : Nat} {ops : Array Oper} {aops : List AOper} {dep : Nat → Nat → Prop} {m : Nat}
variable {QQ : Exit → Act → World → Prop} {K : St → AH → Prop}
end
section
variable {P : Program} {N : Nat} {Q : Exit → St → AH → Prop} {K : St → AH → Prop} {st : St} {h : AH}
end
end Go.Am
set_option linter.unusedVariables false
set_option linter.unusedSimpArgs false
namespace Go.Am
structure Upd (t : Nat) (cs : List AV) (h h' : AH) : Prop where
 m : h'.m t = some (.cells true cs)
 keep : ∀ s, s < h.nx → s ≠ t → h'.m s = h.m s
 nx : h.nx ≤ h'.nx
theorem Upd.ne {t : Nat} {cs : List AV} {h h' : AH} (u : Upd t cs h h') (ok : h.ok) {s : Nat} {b : Blk} (hs : h.m s = some b) (hn : s ≠ t) : h'.m s = some b := by rw [u.keep s (ok _ _ hs) hn]; exact hs
theorem Upd.refl {t : Nat} {cs : List AV} {h : AH} (hm : h.m t = some (.cells true cs)) : Upd t cs h h := ⟨hm, fun _ _ _ => rfl, Nat.le_refl _⟩
def EndsW (v : AV) (R : AH → Prop) (r : AV) (h : AH) : Prop := ∃ h', FrzR h r h' v ∧ R h'
theorem w_fn {P : Program} {f : Nat} {ac : AC} {ars : List ARes} {N : Nat} (hf : fnOf P f = some (ac, ars, N)) {args : List AV} {h : AH} {v : AV} {R : AH → Prop} (hN : args.length ≤ N)
 (hw : h.ok → 0 < h.nx → W P N ac (athen (Post ars (EndsW v R)) (Fin (Post ars (EndsW v R)))) (initSt args) h) : ACalls P f args h fun r h' => r = v ∧ R h' :=
 acalls_frz ((a_fn hf hN hw).mono fun r h' ⟨h'', F, hR⟩ => ⟨v, h'', F, rfl, hR⟩)
theorem endsW {v : AV} {R : AH → Prop} {h : AH} (hR : R h) : EndsW v R v h := ⟨h, .done, hR⟩
end Go.Am
set_option linter.unusedVariables false
set_option linter.unusedSimpArgs false
namespace Go.Proofs.Ytjncfpfgobojpaa
open Go Go.Am Go.Proofs Go.Sort
theorem eR_len (r : Rn) : (eR r).length = 4 := rfl
theorem flR_plain (l : List Rn) : AV.plains (fl eR l) = true := fl_plain eR_plain l
theorem front_get {row : List Rn} {k c : Nat} (h0 : k ≠ 0) (hk : k ≤ row.length) (hc : c < 4) : (fl eR (row.take k))[(k - 1) * 4 + c]? = (eR (rnD row (k - 1)))[c]? := by
 rw [fl_get eR_len R0 (by rw [List.length_take]; omega) hc]
 congr 2
 rw [List.getD_eq_getElem?_getD, List.getElem?_take_of_lt (by omega), ← List.getD_eq_getElem?_getD]
def aft (l : List B) (c : Int) (us : List Bool) (row : List Rn) (k : Nat) : List Bool := if erJ l c us row k = 0 then mrk us (rnD row k) else us
theorem aft_no {l : List B} {c : Int} {us : List Bool} {row : List Rn} {k : Nat} {e : Int} (h : erJ l c us row k = e) (he : e ≠ 0) : aft l c us row k = us := by unfold aft; rw [if_neg (by rw [h]; exact he)]
theorem aft_ok {l : List B} {c : Int} {us : List Bool} {row : List Rn} {k : Nat} (h : erJ l c us row k = 0) : aft l c us row k = mrk us (rnD row k) := by unfold aft; rw [if_pos h]
theorem tm_rng {l : List B} (hv : VL l) {r : Rn} (ix : 0 ≤ r.batch ∧ r.batch < l.length) {c : Int} (hc : 0 ≤ c ∧ c ≤ 100) : 0 ≤ hrs (rB l r) + cl r c ∧ hrs (rB l r) + cl r c ≤ 1000 := by
 have := hrs_rng (hv.b (i := r.batch.toNat) (by omega))
 have e : rB l r = bD l r.batch.toNat := rfl
 rw [e]
 unfold cl
 split <;> omega
theorem RG79 : (type_of% @c79r0.eq_1) ∧ (type_of% @c79r1.eq_1) ∧ (type_of% @c79r2.eq_1) ∧ (type_of% @c79r3.eq_1) ∧ (type_of% @c79r4.eq_1) ∧ (type_of% @c79r5.eq_1) ∧ (type_of% @c79r6.eq_1) ∧ (type_of% @c79r7.eq_1) ∧ (type_of% @c79r8.eq_1) ∧ (type_of% @c79r9.eq_1) ∧ (type_of% @c79r10.eq_1) ∧ (type_of% @c79r11.eq_1) ∧ (type_of% @c79r12.eq_1) := ⟨@c79r0.eq_1, @c79r1.eq_1, @c79r2.eq_1, @c79r3.eq_1, @c79r4.eq_1, @c79r5.eq_1, @c79r6.eq_1, @c79r7.eq_1, @c79r8.eq_1, @c79r9.eq_1, @c79r10.eq_1, @c79r11.eq_1, @c79r12.eq_1⟩
set_option maxHeartbeats 4000000 in
theorem f79 (tp td : Nat) (l : List B) (hv : VL l) (c : Int) (hc : 0 ≤ c ∧ c ≤ 100) (us : List Bool) (hu : us.length = l.length) (row : List Rn) (k : Nat) (hk : k < row.length) (hl : row.length ≤ 1000) (ixr : IXr l row k) (w1 : i64 (rnD row k).fro) (w2 : i64 (rnD row k).til)
 (h : AH) (hne : tp ≠ td) (hp : h.m tp = some (.cells true [vB l, .i .i64 c, .sl td 0 l.length 1])) (hd : h.m td = some (.cells true (bl us))) :
 ACalls Try.prog 79 [.p tp 0, .vs k (fl eR (row.take k)), .ag (eR (rnD row k))] h fun r h' => r = .i .i64 (erJ l c us row k) ∧ Upd td (bl (aft l c us row k)) h h' := by
 have l6 := hv.len
 have hne' : td ≠ tp := fun e => hne e.symm
 have q64 := pc64 l (by omega) (rnD row k).batch
 refine w_fn fn79 (by simp) fun ok pos => ?_
 have lp := ok.m hp
 have lt := ok.m hd
 rw [initSt3]
 obtain ⟨r, er⟩ : ∃ r, rnD row k = r := ⟨_, rfl⟩
 by_cases ix : 0 ≤ (rnD row k).batch ∧ (rnD row k).batch < l.length
 rotate_left
 ·have e := er_arg (c := c) (us := us) (.inl ix)
  rw [e, aft_no e (by decide)]
  rw [decide_eq_false ix] at q64
  rw [er] at q64 ⊢
  simp only [eR]
  repeat' first | (with_reducible first | refine k_seq ?_ | refine k_skip ?_ | refine k_blkS ?_ | refine k_blkR ?_ | refine k_blkC ?_ | refine k_blkH ?_ | refine k_blkB ?_ | refine k_blkK ?_ | refine k_blkE ?_ | refine k_reg ?_) | with_reducible refine k_head (by with_unfolding_all rfl) ?_ | with_reducible refine k_headS ?_ | (with_reducible refine SepK.mk ?_ ?_; (refine sepQ_P ?_; simp [sepQ, sepG, AOp.late, AOp.free, AOp.xs, AOp.isAl, tokNe, AV.tok, stS_get, strip, AX.val, RG79, GA]; try omega)) | with_reducible refine r_done ?_ | with_reducible refine hr_done ?_ | with_reducible refine s_go (by simp (disch := omega) only [hp, row_m hp, read_row (row_m hp), RG79, EVA, plug, eq_self, simprocAttr]; with_reducible rfl) ?_ | with_reducible refine h_go (by with_unfolding_all rfl) (by simp (disch := omega) only [hp, row_m hp, read_row (row_m hp), RG79, EVA, plug, eq_self, simprocAttr]; with_reducible rfl) ?_ | ((with_reducible refine chk_r ?_); refine r_callF (by simp only [CA, simprocAttr]; rfl) (by exact rfl) (by simp only [CA, simprocAttr]; rfl) rfl ?_) | ((with_reducible refine chk_h ?_); refine hr_callF (by simp only [CA, simprocAttr]; rfl) (by exact rfl) (by simp only [CA, simprocAttr]; rfl) rfl ?_) | ((with_reducible refine chk_r ?_); refine r_callP (by simp only [CA, simprocAttr]; rfl) (by simp only [CA, simprocAttr]; rfl) (by first | exact q64 _) rfl ?_) | ((with_reducible refine chk_h ?_); refine hr_callP (by simp only [CA, simprocAttr]; rfl) (by simp only [CA, simprocAttr]; rfl) (by first | exact q64 _) rfl ?_) | ((with_reducible refine chk_h ?_); refine hr_callP1 (by simp only [CA, simprocAttr]; rfl) (by simp only [CA, simprocAttr]; rfl) (by simp (disch := omega) only [CA, Nat.reduceEqDiff, ↓reduceIte, firstTok_nil, firstTok_sl, firstTok_sl0, firstTok_i, firstTok_b, firstTok_ag, firstTok_p, firstTok_s]; rfl) (by first | exact q64 _) rfl ?_) | ((with_reducible refine chk_r ?_); refine r_callG (by simp only [CA, simprocAttr]; rfl) (by simp only [CA, simprocAttr]; rfl) (by simp only [CA, simprocAttr]; rfl) (by intro hg; (try simp only [BO] at hg); first | exact q64 _) rfl ?_) | ((with_reducible refine chk_h ?_); refine hr_callG (by simp only [CA, simprocAttr]; rfl) (by simp only [CA, simprocAttr]; rfl) (by simp only [CA, simprocAttr]; rfl) (by intro hg; (try simp only [BO] at hg); first | exact q64 _) rfl ?_) | ((with_reducible refine chk_h ?_); refine hr_app (by simp (disch := omega) only [hp, row_m hp, read_row (row_m hp), RG79, EVA, plug, eq_self, simprocAttr]; with_reducible rfl) rfl ?_) | (with_reducible refine k_condP (by simp only [GA, simprocAttr]; rfl) (by first | (simp only [BO]; rfl) | rfl) (fun ht => ?_) (fun ht => ?_) <;> try (first | exact False.elim ht | exact absurd rfl ht | exact absurd trivial ht | exact Bool.noConfusion ht)) | (with_reducible refine k_ret ?_; repeat with_reducible (first | refine ret_thru ?_ | refine ret_blk ?_ | refine fin ?_)) | (with_reducible refine k_exit ?_; repeat with_reducible (first | refine thru ?_ | refine out_blk ?_ | refine pass (by decide) ?_)) | ((first | refine post1 ?_ | refine post2 ?_ | refine post3 ?_); simp only [GA, simprocAttr]) | refine post0 ?_
  exact endsW ⟨by simp (disch := omega) only [hd, RG79, EVA, plug, eq_self, simprocAttr], fun s h1 h2 => (by simp (disch := omega) only [RG79, EVA, plug, eq_self, simprocAttr]), by simp (disch := omega) only [RG79, EVA, plug, eq_self, simprocAttr] <;> omega⟩
 rw [decide_eq_true ix] at q64
 by_cases hf : (rnD row k).fro < 0
 ·have e := er_arg (l := l) (c := c) (us := us) (row := row) (k := k) (.inr hf)
  rw [e, aft_no e (by decide)]
  rw [er] at q64 hf ⊢
  simp only [eR]
  repeat' first | (with_reducible first | refine k_seq ?_ | refine k_skip ?_ | refine k_blkS ?_ | refine k_blkR ?_ | refine k_blkC ?_ | refine k_blkH ?_ | refine k_blkB ?_ | refine k_blkK ?_ | refine k_blkE ?_ | refine k_reg ?_) | with_reducible refine k_head (by with_unfolding_all rfl) ?_ | with_reducible refine k_headS ?_ | (with_reducible refine SepK.mk ?_ ?_; (refine sepQ_P ?_; simp [sepQ, sepG, AOp.late, AOp.free, AOp.xs, AOp.isAl, tokNe, AV.tok, stS_get, strip, AX.val, RG79, GA]; try omega)) | with_reducible refine r_done ?_ | with_reducible refine hr_done ?_ | with_reducible refine s_go (by simp (disch := omega) only [hp, row_m hp, read_row (row_m hp), hf, RG79, EVA, plug, eq_self, simprocAttr]; with_reducible rfl) ?_ | with_reducible refine h_go (by with_unfolding_all rfl) (by simp (disch := omega) only [hp, row_m hp, read_row (row_m hp), hf, RG79, EVA, plug, eq_self, simprocAttr]; with_reducible rfl) ?_ | ((with_reducible refine chk_r ?_); refine r_callF (by simp only [CA, simprocAttr]; rfl) (by exact rfl) (by simp only [CA, simprocAttr]; rfl) rfl ?_) | ((with_reducible refine chk_h ?_); refine hr_callF (by simp only [CA, simprocAttr]; rfl) (by exact rfl) (by simp only [CA, simprocAttr]; rfl) rfl ?_) | ((with_reducible refine chk_r ?_); refine r_callP (by simp only [CA, simprocAttr]; rfl) (by simp only [CA, simprocAttr]; rfl) (by first | exact q64 _) rfl ?_) | ((with_reducible refine chk_h ?_); refine hr_callP (by simp only [CA, simprocAttr]; rfl) (by simp only [CA, simprocAttr]; rfl) (by first | exact q64 _) rfl ?_) | ((with_reducible refine chk_h ?_); refine hr_callP1 (by simp only [CA, simprocAttr]; rfl) (by simp only [CA, simprocAttr]; rfl) (by simp (disch := omega) only [CA, Nat.reduceEqDiff, ↓reduceIte, firstTok_nil, firstTok_sl, firstTok_sl0, firstTok_i, firstTok_b, firstTok_ag, firstTok_p, firstTok_s]; rfl) (by first | exact q64 _) rfl ?_) | ((with_reducible refine chk_r ?_); refine r_callG (by simp only [CA, simprocAttr]; rfl) (by simp only [CA, simprocAttr]; rfl) (by simp only [CA, simprocAttr]; rfl) (by intro hg; (try simp only [BO] at hg); first | exact q64 _) rfl ?_) | ((with_reducible refine chk_h ?_); refine hr_callG (by simp only [CA, simprocAttr]; rfl) (by simp only [CA, simprocAttr]; rfl) (by simp only [CA, simprocAttr]; rfl) (by intro hg; (try simp only [BO] at hg); first | exact q64 _) rfl ?_) | ((with_reducible refine chk_h ?_); refine hr_app (by simp (disch := omega) only [hp, row_m hp, read_row (row_m hp), hf, RG79, EVA, plug, eq_self, simprocAttr]; with_reducible rfl) rfl ?_) | (with_reducible refine k_condP (by simp only [GA, simprocAttr]; rfl) (by first | (simp only [BO]; rfl) | rfl) (fun ht => ?_) (fun ht => ?_) <;> try (first | exact False.elim ht | exact absurd rfl ht | exact absurd trivial ht | exact Bool.noConfusion ht)) | (with_reducible refine k_ret ?_; repeat with_reducible (first | refine ret_thru ?_ | refine ret_blk ?_ | refine fin ?_)) | (with_reducible refine k_exit ?_; repeat with_reducible (first | refine thru ?_ | refine out_blk ?_ | refine pass (by decide) ?_)) | ((first | refine post1 ?_ | refine post2 ?_ | refine post3 ?_); simp only [GA, simprocAttr]) | refine post0 ?_
  exact endsW ⟨by simp (disch := omega) only [hd, RG79, EVA, plug, eq_self, simprocAttr], fun s h1 h2 => (by simp (disch := omega) only [RG79, EVA, plug, eq_self, simprocAttr]), by simp (disch := omega) only [RG79, EVA, plug, eq_self, simprocAttr] <;> omega⟩
 obtain ⟨a, ea⟩ : ∃ a : Nat, (rnD row k).batch = a := ⟨(rnD row k).batch.toNat, by omega⟩
 have al : a < us.length := by omega
 have al2 : a < l.length := by omega
 have al3 : (a : Int) < l.length := by omega
 have ba := bl_get (l := us) (j := a) al
 have eN : (rnD row k).batch.toNat = a := by omega
 cases hb : us.getD a false with
 | true =>
   have e := er_two (c := c) ix hf (us := us) (by rw [eN]; exact hb)
   rw [e, aft_no e (by decide)]
   rw [hb] at ba
   rw [er] at q64 hf ea ⊢
   simp only [eR, ea] at q64 ⊢
   repeat' first | (with_reducible first | refine k_seq ?_ | refine k_skip ?_ | refine k_blkS ?_ | refine k_blkR ?_ | refine k_blkC ?_ | refine k_blkH ?_ | refine k_blkB ?_ | refine k_blkK ?_ | refine k_blkE ?_ | refine k_reg ?_) | with_reducible refine k_head (by with_unfolding_all rfl) ?_ | with_reducible refine k_headS ?_ | (with_reducible refine SepK.mk ?_ ?_; (refine sepQ_P ?_; simp [sepQ, sepG, AOp.late, AOp.free, AOp.xs, AOp.isAl, tokNe, AV.tok, stS_get, strip, AX.val, RG79, GA]; try omega)) | with_reducible refine r_done ?_ | with_reducible refine hr_done ?_ | with_reducible refine s_go (by simp (disch := omega) only [hp, row_m hp, read_row (row_m hp), hf, hd, row_m hd, read_row (row_m hd), ba, hu, al3, RG79, EVA, plug, eq_self, simprocAttr]; with_reducible rfl) ?_ | with_reducible refine h_go (by with_unfolding_all rfl) (by simp (disch := omega) only [hp, row_m hp, read_row (row_m hp), hf, hd, row_m hd, read_row (row_m hd), ba, hu, al3, RG79, EVA, plug, eq_self, simprocAttr]; with_reducible rfl) ?_ | ((with_reducible refine chk_r ?_); refine r_callF (by simp only [CA, simprocAttr]; rfl) (by exact rfl) (by simp only [CA, simprocAttr]; rfl) rfl ?_) | ((with_reducible refine chk_h ?_); refine hr_callF (by simp only [CA, simprocAttr]; rfl) (by exact rfl) (by simp only [CA, simprocAttr]; rfl) rfl ?_) | ((with_reducible refine chk_r ?_); refine r_callP (by simp only [CA, simprocAttr]; rfl) (by simp only [CA, simprocAttr]; rfl) (by first | exact q64 _) rfl ?_) | ((with_reducible refine chk_h ?_); refine hr_callP (by simp only [CA, simprocAttr]; rfl) (by simp only [CA, simprocAttr]; rfl) (by first | exact q64 _) rfl ?_) | ((with_reducible refine chk_h ?_); refine hr_callP1 (by simp only [CA, simprocAttr]; rfl) (by simp only [CA, simprocAttr]; rfl) (by simp (disch := omega) only [CA, Nat.reduceEqDiff, ↓reduceIte, firstTok_nil, firstTok_sl, firstTok_sl0, firstTok_i, firstTok_b, firstTok_ag, firstTok_p, firstTok_s]; rfl) (by first | exact q64 _) rfl ?_) | ((with_reducible refine chk_r ?_); refine r_callG (by simp only [CA, simprocAttr]; rfl) (by simp only [CA, simprocAttr]; rfl) (by simp only [CA, simprocAttr]; rfl) (by intro hg; (try simp only [BO] at hg); first | exact q64 _) rfl ?_) | ((with_reducible refine chk_h ?_); refine hr_callG (by simp only [CA, simprocAttr]; rfl) (by simp only [CA, simprocAttr]; rfl) (by simp only [CA, simprocAttr]; rfl) (by intro hg; (try simp only [BO] at hg); first | exact q64 _) rfl ?_) | ((with_reducible refine chk_h ?_); refine hr_app (by simp (disch := omega) only [hp, row_m hp, read_row (row_m hp), hf, hd, row_m hd, read_row (row_m hd), ba, hu, al3, RG79, EVA, plug, eq_self, simprocAttr]; with_reducible rfl) rfl ?_) | (with_reducible refine k_condP (by simp only [GA, simprocAttr]; rfl) (by first | (simp only [BO]; rfl) | rfl) (fun ht => ?_) (fun ht => ?_) <;> try (first | exact False.elim ht | exact absurd rfl ht | exact absurd trivial ht | exact Bool.noConfusion ht)) | (with_reducible refine k_ret ?_; repeat with_reducible (first | refine ret_thru ?_ | refine ret_blk ?_ | refine fin ?_)) | (with_reducible refine k_exit ?_; repeat with_reducible (first | refine thru ?_ | refine out_blk ?_ | refine pass (by decide) ?_)) | ((first | refine post1 ?_ | refine post2 ?_ | refine post3 ?_); simp only [GA, simprocAttr]) | refine post0 ?_
   exact endsW ⟨by simp (disch := omega) only [hd, RG79, EVA, plug, eq_self, simprocAttr], fun s h1 h2 => (by simp (disch := omega) only [RG79, EVA, plug, eq_self, simprocAttr]), by simp (disch := omega) only [RG79, EVA, plug, eq_self, simprocAttr] <;> omega⟩
 | false =>
   have eR_ := er_rest (c := c) ix hf (us := us) (by rw [eN]; exact hb)
   rw [hb] at ba
   have rA := rdB al2
   have vba := hv.b al2
   have ebb : rB l (rnD row k) = bD l a := by unfold rB; rw [eN]
   have q66 := pc66 (bD l a) vba (rnD row k) c hc
   have q65 := pc65 (rnD row k) w1 w2 (hrs (bD l a) + cl (rnD row k) c) (by have := tm_rng hv ix hc; rw [ebb] at this; exact this)
   rw [ebb] at eR_
   generalize hrs (bD l a) + cl (rnD row k) c = H at *
   have g2 : k ≠ 0 → (fl eR (row.take k))[(k - 1) * 4 + 2]? = some (.i .i64 (rnD row (k - 1)).til) := fun h0 => front_get h0 (by omega) (by decide)
   have g0 : k ≠ 0 → (fl eR (row.take k))[(k - 1) * 4]? = some (.i .i64 (rnD row (k - 1)).batch) := fun h0 => front_get (c := 0) h0 (by omega) (by decide)
   have ixp : k ≠ 0 → 0 ≤ (rnD row (k - 1)).batch ∧ (rnD row (k - 1)).batch < l.length := fun h0 => ixr (k - 1) (by omega)
   have am : erJ l c us row k = 0 → aft l c us row k = us.set a true := fun q => by rw [aft_ok q, mrk, eN]
   have an := fun e he => aft_no (l := l) (c := c) (us := us) (row := row) (k := k) (e := e) (he := he)
   clear w1 w2 ebb ixr
   generalize rnD row k = r at *
   generalize rnD row (k - 1) = p at *
   obtain ⟨rb, rf, rt, rc⟩ := r
   obtain ⟨pb, pf, pt, pc⟩ := p
   simp only at *
   subst ea
   simp only [eR, Int.toNat_natCast] at *
   have kz : ∀ z : Nat, (k ≠ 0) → ((k : Int) - 1).toNat = k - 1 := fun _ _ => by omega
   by_cases c0 : k = 0
   ·have k0 : ¬ (0 : Int) < k := by omega
    have k0' := eq_true (show (k : Int) = 0 by omega)
    rw [if_neg (fun q => q.1 c0)] at eR_
    cases ht : tm ⟨a, rf, rt, rc⟩ H with
    | false =>
      rw [ht] at q65
      rw [ht, if_pos rfl] at eR_
      rw [eR_, an _ (by decide) eR_]
      repeat' first | (with_reducible first | refine k_seq ?_ | refine k_skip ?_ | refine k_blkS ?_ | refine k_blkR ?_ | refine k_blkC ?_ | refine k_blkH ?_ | refine k_blkB ?_ | refine k_blkK ?_ | refine k_blkE ?_ | refine k_reg ?_) | with_reducible refine k_head (by with_unfolding_all rfl) ?_ | with_reducible refine k_headS ?_ | (with_reducible refine SepK.mk ?_ ?_; (refine sepQ_P ?_; simp [sepQ, sepG, AOp.late, AOp.free, AOp.xs, AOp.isAl, tokNe, AV.tok, stS_get, strip, AX.val, RG79, GA]; try omega)) | with_reducible refine r_done ?_ | with_reducible refine hr_done ?_ | with_reducible refine s_go (by simp (disch := omega) only [hp, row_m hp, read_row (row_m hp), hf, hd, row_m hd, read_row (row_m hd), ba, hu, al3, k0, k0', rA, RG79, EVA, plug, eq_self, simprocAttr]; with_reducible rfl) ?_ | with_reducible refine h_go (by with_unfolding_all rfl) (by simp (disch := omega) only [hp, row_m hp, read_row (row_m hp), hf, hd, row_m hd, read_row (row_m hd), ba, hu, al3, k0, k0', rA, RG79, EVA, plug, eq_self, simprocAttr]; with_reducible rfl) ?_ | ((with_reducible refine chk_r ?_); refine r_callF (by simp only [CA, simprocAttr]; rfl) (by exact rfl) (by simp only [CA, simprocAttr]; rfl) rfl ?_) | ((with_reducible refine chk_h ?_); refine hr_callF (by simp only [CA, simprocAttr]; rfl) (by exact rfl) (by simp only [CA, simprocAttr]; rfl) rfl ?_) | ((with_reducible refine chk_r ?_); refine r_callP (by simp only [CA, simprocAttr]; rfl) (by simp only [CA, simprocAttr]; rfl) (by first | exact q64 _ | exact q66 _ | exact q65 _) rfl ?_) | ((with_reducible refine chk_h ?_); refine hr_callP (by simp only [CA, simprocAttr]; rfl) (by simp only [CA, simprocAttr]; rfl) (by first | exact q64 _ | exact q66 _ | exact q65 _) rfl ?_) | ((with_reducible refine chk_h ?_); refine hr_callP1 (by simp only [CA, simprocAttr]; rfl) (by simp only [CA, simprocAttr]; rfl) (by simp (disch := omega) only [CA, Nat.reduceEqDiff, ↓reduceIte, firstTok_nil, firstTok_sl, firstTok_sl0, firstTok_i, firstTok_b, firstTok_ag, firstTok_p, firstTok_s]; rfl) (by first | exact q64 _ | exact q66 _ | exact q65 _) rfl ?_) | ((with_reducible refine chk_r ?_); refine r_callG (by simp only [CA, simprocAttr]; rfl) (by simp only [CA, simprocAttr]; rfl) (by simp only [CA, simprocAttr]; rfl) (by intro hg; (try simp only [BO] at hg); first | exact q64 _ | exact q66 _ | exact q65 _) rfl ?_) | ((with_reducible refine chk_h ?_); refine hr_callG (by simp only [CA, simprocAttr]; rfl) (by simp only [CA, simprocAttr]; rfl) (by simp only [CA, simprocAttr]; rfl) (by intro hg; (try simp only [BO] at hg); first | exact q64 _ | exact q66 _ | exact q65 _) rfl ?_) | ((with_reducible refine chk_h ?_); refine hr_app (by simp (disch := omega) only [hp, row_m hp, read_row (row_m hp), hf, hd, row_m hd, read_row (row_m hd), ba, hu, al3, k0, k0', rA, RG79, EVA, plug, eq_self, simprocAttr]; with_reducible rfl) rfl ?_) | (with_reducible refine k_condP (by simp only [GA, simprocAttr]; rfl) (by first | (simp only [BO]; rfl) | rfl) (fun ht => ?_) (fun ht => ?_) <;> try (first | exact False.elim ht | exact absurd rfl ht | exact absurd trivial ht | exact Bool.noConfusion ht)) | (with_reducible refine k_ret ?_; repeat with_reducible (first | refine ret_thru ?_ | refine ret_blk ?_ | refine fin ?_)) | (with_reducible refine k_exit ?_; repeat with_reducible (first | refine thru ?_ | refine out_blk ?_ | refine pass (by decide) ?_)) | ((first | refine post1 ?_ | refine post2 ?_ | refine post3 ?_); simp only [GA, simprocAttr]) | refine post0 ?_
      exact endsW ⟨by simp (disch := omega) only [hd, RG79, EVA, plug, eq_self, simprocAttr], fun s h1 h2 => (by simp (disch := omega) only [RG79, EVA, plug, eq_self, simprocAttr]), by simp (disch := omega) only [RG79, EVA, plug, eq_self, simprocAttr] <;> omega⟩
    | true =>
      rw [ht] at q65
      rw [ht, if_neg (by decide)] at eR_
      cases rc with
      | true =>
        rw [if_neg (fun q => nomatch q.1)] at eR_
        rw [eR_, am eR_]
        repeat' first | (with_reducible first | refine k_seq ?_ | refine k_skip ?_ | refine k_blkS ?_ | refine k_blkR ?_ | refine k_blkC ?_ | refine k_blkH ?_ | refine k_blkB ?_ | refine k_blkK ?_ | refine k_blkE ?_ | refine k_reg ?_) | with_reducible refine k_head (by with_unfolding_all rfl) ?_ | with_reducible refine k_headS ?_ | (with_reducible refine SepK.mk ?_ ?_; (refine sepQ_P ?_; simp [sepQ, sepG, AOp.late, AOp.free, AOp.xs, AOp.isAl, tokNe, AV.tok, stS_get, strip, AX.val, RG79, GA]; try omega)) | with_reducible refine r_done ?_ | with_reducible refine hr_done ?_ | with_reducible refine s_go (by simp (disch := omega) only [hp, row_m hp, read_row (row_m hp), hf, hd, row_m hd, read_row (row_m hd), ba, hu, al3, k0, k0', rA, hne', RG79, EVA, plug, eq_self, simprocAttr]; with_reducible rfl) ?_ | with_reducible refine h_go (by with_unfolding_all rfl) (by simp (disch := omega) only [hp, row_m hp, read_row (row_m hp), hf, hd, row_m hd, read_row (row_m hd), ba, hu, al3, k0, k0', rA, hne', RG79, EVA, plug, eq_self, simprocAttr]; with_reducible rfl) ?_ | ((with_reducible refine chk_r ?_); refine r_callF (by simp only [CA, simprocAttr]; rfl) (by exact rfl) (by simp only [CA, simprocAttr]; rfl) rfl ?_) | ((with_reducible refine chk_h ?_); refine hr_callF (by simp only [CA, simprocAttr]; rfl) (by exact rfl) (by simp only [CA, simprocAttr]; rfl) rfl ?_) | ((with_reducible refine chk_r ?_); refine r_callP (by simp only [CA, simprocAttr]; rfl) (by simp only [CA, simprocAttr]; rfl) (by first | exact q64 _ | exact q66 _ | exact q65 _) rfl ?_) | ((with_reducible refine chk_h ?_); refine hr_callP (by simp only [CA, simprocAttr]; rfl) (by simp only [CA, simprocAttr]; rfl) (by first | exact q64 _ | exact q66 _ | exact q65 _) rfl ?_) | ((with_reducible refine chk_h ?_); refine hr_callP1 (by simp only [CA, simprocAttr]; rfl) (by simp only [CA, simprocAttr]; rfl) (by simp (disch := omega) only [CA, Nat.reduceEqDiff, ↓reduceIte, firstTok_nil, firstTok_sl, firstTok_sl0, firstTok_i, firstTok_b, firstTok_ag, firstTok_p, firstTok_s]; rfl) (by first | exact q64 _ | exact q66 _ | exact q65 _) rfl ?_) | ((with_reducible refine chk_r ?_); refine r_callG (by simp only [CA, simprocAttr]; rfl) (by simp only [CA, simprocAttr]; rfl) (by simp only [CA, simprocAttr]; rfl) (by intro hg; (try simp only [BO] at hg); first | exact q64 _ | exact q66 _ | exact q65 _) rfl ?_) | ((with_reducible refine chk_h ?_); refine hr_callG (by simp only [CA, simprocAttr]; rfl) (by simp only [CA, simprocAttr]; rfl) (by simp only [CA, simprocAttr]; rfl) (by intro hg; (try simp only [BO] at hg); first | exact q64 _ | exact q66 _ | exact q65 _) rfl ?_) | ((with_reducible refine chk_h ?_); refine hr_app (by simp (disch := omega) only [hp, row_m hp, read_row (row_m hp), hf, hd, row_m hd, read_row (row_m hd), ba, hu, al3, k0, k0', rA, hne', RG79, EVA, plug, eq_self, simprocAttr]; with_reducible rfl) rfl ?_) | (with_reducible refine k_condP (by simp only [GA, simprocAttr]; rfl) (by first | (simp only [BO]; rfl) | rfl) (fun ht => ?_) (fun ht => ?_) <;> try (first | exact False.elim ht | exact absurd rfl ht | exact absurd trivial ht | exact Bool.noConfusion ht)) | (with_reducible refine k_ret ?_; repeat with_reducible (first | refine ret_thru ?_ | refine ret_blk ?_ | refine fin ?_)) | (with_reducible refine k_exit ?_; repeat with_reducible (first | refine thru ?_ | refine out_blk ?_ | refine pass (by decide) ?_)) | ((first | refine post1 ?_ | refine post2 ?_ | refine post3 ?_); simp only [GA, simprocAttr]) | refine post0 ?_
        exact endsW ⟨by simp (disch := omega) only [RG79, EVA, plug, eq_self, simprocAttr] <;> rfl, fun s h1 h2 => (by simp (disch := omega) only [h2, RG79, EVA, plug, eq_self, simprocAttr]), by simp (disch := omega) only [RG79, EVA, plug, eq_self, simprocAttr] <;> omega⟩
      | false =>
        rw [if_pos ⟨rfl, .inl c0⟩] at eR_
        rw [eR_, an _ (by decide) eR_]
        repeat' first | (with_reducible first | refine k_seq ?_ | refine k_skip ?_ | refine k_blkS ?_ | refine k_blkR ?_ | refine k_blkC ?_ | refine k_blkH ?_ | refine k_blkB ?_ | refine k_blkK ?_ | refine k_blkE ?_ | refine k_reg ?_) | with_reducible refine k_head (by with_unfolding_all rfl) ?_ | with_reducible refine k_headS ?_ | (with_reducible refine SepK.mk ?_ ?_; (refine sepQ_P ?_; simp [sepQ, sepG, AOp.late, AOp.free, AOp.xs, AOp.isAl, tokNe, AV.tok, stS_get, strip, AX.val, RG79, GA]; try omega)) | with_reducible refine r_done ?_ | with_reducible refine hr_done ?_ | with_reducible refine s_go (by simp (disch := omega) only [hp, row_m hp, read_row (row_m hp), hf, hd, row_m hd, read_row (row_m hd), ba, hu, al3, k0, k0', rA, RG79, EVA, plug, eq_self, simprocAttr]; with_reducible rfl) ?_ | with_reducible refine h_go (by with_unfolding_all rfl) (by simp (disch := omega) only [hp, row_m hp, read_row (row_m hp), hf, hd, row_m hd, read_row (row_m hd), ba, hu, al3, k0, k0', rA, RG79, EVA, plug, eq_self, simprocAttr]; with_reducible rfl) ?_ | ((with_reducible refine chk_r ?_); refine r_callF (by simp only [CA, simprocAttr]; rfl) (by exact rfl) (by simp only [CA, simprocAttr]; rfl) rfl ?_) | ((with_reducible refine chk_h ?_); refine hr_callF (by simp only [CA, simprocAttr]; rfl) (by exact rfl) (by simp only [CA, simprocAttr]; rfl) rfl ?_) | ((with_reducible refine chk_r ?_); refine r_callP (by simp only [CA, simprocAttr]; rfl) (by simp only [CA, simprocAttr]; rfl) (by first | exact q64 _ | exact q66 _ | exact q65 _) rfl ?_) | ((with_reducible refine chk_h ?_); refine hr_callP (by simp only [CA, simprocAttr]; rfl) (by simp only [CA, simprocAttr]; rfl) (by first | exact q64 _ | exact q66 _ | exact q65 _) rfl ?_) | ((with_reducible refine chk_h ?_); refine hr_callP1 (by simp only [CA, simprocAttr]; rfl) (by simp only [CA, simprocAttr]; rfl) (by simp (disch := omega) only [CA, Nat.reduceEqDiff, ↓reduceIte, firstTok_nil, firstTok_sl, firstTok_sl0, firstTok_i, firstTok_b, firstTok_ag, firstTok_p, firstTok_s]; rfl) (by first | exact q64 _ | exact q66 _ | exact q65 _) rfl ?_) | ((with_reducible refine chk_r ?_); refine r_callG (by simp only [CA, simprocAttr]; rfl) (by simp only [CA, simprocAttr]; rfl) (by simp only [CA, simprocAttr]; rfl) (by intro hg; (try simp only [BO] at hg); first | exact q64 _ | exact q66 _ | exact q65 _) rfl ?_) | ((with_reducible refine chk_h ?_); refine hr_callG (by simp only [CA, simprocAttr]; rfl) (by simp only [CA, simprocAttr]; rfl) (by simp only [CA, simprocAttr]; rfl) (by intro hg; (try simp only [BO] at hg); first | exact q64 _ | exact q66 _ | exact q65 _) rfl ?_) | ((with_reducible refine chk_h ?_); refine hr_app (by simp (disch := omega) only [hp, row_m hp, read_row (row_m hp), hf, hd, row_m hd, read_row (row_m hd), ba, hu, al3, k0, k0', rA, RG79, EVA, plug, eq_self, simprocAttr]; with_reducible rfl) rfl ?_) | (with_reducible refine k_condP (by simp only [GA, simprocAttr]; rfl) (by first | (simp only [BO]; rfl) | rfl) (fun ht => ?_) (fun ht => ?_) <;> try (first | exact False.elim ht | exact absurd rfl ht | exact absurd trivial ht | exact Bool.noConfusion ht)) | (with_reducible refine k_ret ?_; repeat with_reducible (first | refine ret_thru ?_ | refine ret_blk ?_ | refine fin ?_)) | (with_reducible refine k_exit ?_; repeat with_reducible (first | refine thru ?_ | refine out_blk ?_ | refine pass (by decide) ?_)) | ((first | refine post1 ?_ | refine post2 ?_ | refine post3 ?_); simp only [GA, simprocAttr]) | refine post0 ?_
        exact endsW ⟨by simp (disch := omega) only [hd, RG79, EVA, plug, eq_self, simprocAttr], fun s h1 h2 => (by simp (disch := omega) only [RG79, EVA, plug, eq_self, simprocAttr]), by simp (disch := omega) only [RG79, EVA, plug, eq_self, simprocAttr] <;> omega⟩
   ·have k0 : (0 : Int) < k := by omega
    have k0' := eq_false (show ¬ (k : Int) = 0 by omega)
    have g2 := g2 c0
    have g0 := g0 c0
    have ixp := ixp c0
    have kt : ((k : Int) - 1).toNat = k - 1 := by omega
    have kl : (k : Int) - 1 < k := by omega
    have kg : 0 ≤ (k : Int) - 1 := by omega
    by_cases c7 : rf < pt
    ·rw [if_pos ⟨c0, c7⟩] at eR_
     rw [eR_, an _ (by decide) eR_]
     repeat' first | (with_reducible first | refine k_seq ?_ | refine k_skip ?_ | refine k_blkS ?_ | refine k_blkR ?_ | refine k_blkC ?_ | refine k_blkH ?_ | refine k_blkB ?_ | refine k_blkK ?_ | refine k_blkE ?_ | refine k_reg ?_) | with_reducible refine k_head (by with_unfolding_all rfl) ?_ | with_reducible refine k_headS ?_ | (with_reducible refine SepK.mk ?_ ?_; (refine sepQ_P ?_; simp [sepQ, sepG, AOp.late, AOp.free, AOp.xs, AOp.isAl, tokNe, AV.tok, stS_get, strip, AX.val, RG79, GA]; try omega)) | with_reducible refine r_done ?_ | with_reducible refine hr_done ?_ | with_reducible refine s_go (by simp (disch := omega) only [hp, row_m hp, read_row (row_m hp), hf, hd, row_m hd, read_row (row_m hd), ba, hu, al3, k0, k0', kt, g2, g0, c7, RG79, EVA, plug, eq_self, simprocAttr]; with_reducible rfl) ?_ | with_reducible refine h_go (by with_unfolding_all rfl) (by simp (disch := omega) only [hp, row_m hp, read_row (row_m hp), hf, hd, row_m hd, read_row (row_m hd), ba, hu, al3, k0, k0', kt, g2, g0, c7, RG79, EVA, plug, eq_self, simprocAttr]; with_reducible rfl) ?_ | ((with_reducible refine chk_r ?_); refine r_callF (by simp only [CA, simprocAttr]; rfl) (by exact rfl) (by simp only [CA, simprocAttr]; rfl) rfl ?_) | ((with_reducible refine chk_h ?_); refine hr_callF (by simp only [CA, simprocAttr]; rfl) (by exact rfl) (by simp only [CA, simprocAttr]; rfl) rfl ?_) | ((with_reducible refine chk_r ?_); refine r_callP (by simp only [CA, simprocAttr]; rfl) (by simp only [CA, simprocAttr]; rfl) (by first | exact q64 _ | exact q66 _ | exact q65 _) rfl ?_) | ((with_reducible refine chk_h ?_); refine hr_callP (by simp only [CA, simprocAttr]; rfl) (by simp only [CA, simprocAttr]; rfl) (by first | exact q64 _ | exact q66 _ | exact q65 _) rfl ?_) | ((with_reducible refine chk_h ?_); refine hr_callP1 (by simp only [CA, simprocAttr]; rfl) (by simp only [CA, simprocAttr]; rfl) (by simp (disch := omega) only [CA, Nat.reduceEqDiff, ↓reduceIte, firstTok_nil, firstTok_sl, firstTok_sl0, firstTok_i, firstTok_b, firstTok_ag, firstTok_p, firstTok_s]; rfl) (by first | exact q64 _ | exact q66 _ | exact q65 _) rfl ?_) | ((with_reducible refine chk_r ?_); refine r_callG (by simp only [CA, simprocAttr]; rfl) (by simp only [CA, simprocAttr]; rfl) (by simp only [CA, simprocAttr]; rfl) (by intro hg; (try simp only [BO] at hg); first | exact q64 _ | exact q66 _ | exact q65 _) rfl ?_) | ((with_reducible refine chk_h ?_); refine hr_callG (by simp only [CA, simprocAttr]; rfl) (by simp only [CA, simprocAttr]; rfl) (by simp only [CA, simprocAttr]; rfl) (by intro hg; (try simp only [BO] at hg); first | exact q64 _ | exact q66 _ | exact q65 _) rfl ?_) | ((with_reducible refine chk_h ?_); refine hr_app (by simp (disch := omega) only [hp, row_m hp, read_row (row_m hp), hf, hd, row_m hd, read_row (row_m hd), ba, hu, al3, k0, k0', kt, g2, g0, c7, RG79, EVA, plug, eq_self, simprocAttr]; with_reducible rfl) rfl ?_) | (with_reducible refine k_condP (by simp only [GA, simprocAttr]; rfl) (by first | (simp only [BO]; rfl) | rfl) (fun ht => ?_) (fun ht => ?_) <;> try (first | exact False.elim ht | exact absurd rfl ht | exact absurd trivial ht | exact Bool.noConfusion ht)) | (with_reducible refine k_ret ?_; repeat with_reducible (first | refine ret_thru ?_ | refine ret_blk ?_ | refine fin ?_)) | (with_reducible refine k_exit ?_; repeat with_reducible (first | refine thru ?_ | refine out_blk ?_ | refine pass (by decide) ?_)) | ((first | refine post1 ?_ | refine post2 ?_ | refine post3 ?_); simp only [GA, simprocAttr]) | refine post0 ?_
     exact endsW ⟨by simp (disch := omega) only [hd, RG79, EVA, plug, eq_self, simprocAttr], fun s h1 h2 => (by simp (disch := omega) only [RG79, EVA, plug, eq_self, simprocAttr]), by simp (disch := omega) only [RG79, EVA, plug, eq_self, simprocAttr] <;> omega⟩
    rw [if_neg (fun q => c7 q.2)] at eR_
    cases ht : tm ⟨a, rf, rt, rc⟩ H with
    | false =>
      rw [ht] at q65
      rw [ht, if_pos rfl] at eR_
      rw [eR_, an _ (by decide) eR_]
      repeat' first | (with_reducible first | refine k_seq ?_ | refine k_skip ?_ | refine k_blkS ?_ | refine k_blkR ?_ | refine k_blkC ?_ | refine k_blkH ?_ | refine k_blkB ?_ | refine k_blkK ?_ | refine k_blkE ?_ | refine k_reg ?_) | with_reducible refine k_head (by with_unfolding_all rfl) ?_ | with_reducible refine k_headS ?_ | (with_reducible refine SepK.mk ?_ ?_; (refine sepQ_P ?_; simp [sepQ, sepG, AOp.late, AOp.free, AOp.xs, AOp.isAl, tokNe, AV.tok, stS_get, strip, AX.val, RG79, GA]; try omega)) | with_reducible refine r_done ?_ | with_reducible refine hr_done ?_ | with_reducible refine s_go (by simp (disch := omega) only [hp, row_m hp, read_row (row_m hp), hf, hd, row_m hd, read_row (row_m hd), ba, hu, al3, k0, k0', kt, g2, g0, c7, rA, RG79, EVA, plug, eq_self, simprocAttr]; with_reducible rfl) ?_ | with_reducible refine h_go (by with_unfolding_all rfl) (by simp (disch := omega) only [hp, row_m hp, read_row (row_m hp), hf, hd, row_m hd, read_row (row_m hd), ba, hu, al3, k0, k0', kt, g2, g0, c7, rA, RG79, EVA, plug, eq_self, simprocAttr]; with_reducible rfl) ?_ | ((with_reducible refine chk_r ?_); refine r_callF (by simp only [CA, simprocAttr]; rfl) (by exact rfl) (by simp only [CA, simprocAttr]; rfl) rfl ?_) | ((with_reducible refine chk_h ?_); refine hr_callF (by simp only [CA, simprocAttr]; rfl) (by exact rfl) (by simp only [CA, simprocAttr]; rfl) rfl ?_) | ((with_reducible refine chk_r ?_); refine r_callP (by simp only [CA, simprocAttr]; rfl) (by simp only [CA, simprocAttr]; rfl) (by first | exact q64 _ | exact q66 _ | exact q65 _) rfl ?_) | ((with_reducible refine chk_h ?_); refine hr_callP (by simp only [CA, simprocAttr]; rfl) (by simp only [CA, simprocAttr]; rfl) (by first | exact q64 _ | exact q66 _ | exact q65 _) rfl ?_) | ((with_reducible refine chk_h ?_); refine hr_callP1 (by simp only [CA, simprocAttr]; rfl) (by simp only [CA, simprocAttr]; rfl) (by simp (disch := omega) only [CA, Nat.reduceEqDiff, ↓reduceIte, firstTok_nil, firstTok_sl, firstTok_sl0, firstTok_i, firstTok_b, firstTok_ag, firstTok_p, firstTok_s]; rfl) (by first | exact q64 _ | exact q66 _ | exact q65 _) rfl ?_) | ((with_reducible refine chk_r ?_); refine r_callG (by simp only [CA, simprocAttr]; rfl) (by simp only [CA, simprocAttr]; rfl) (by simp only [CA, simprocAttr]; rfl) (by intro hg; (try simp only [BO] at hg); first | exact q64 _ | exact q66 _ | exact q65 _) rfl ?_) | ((with_reducible refine chk_h ?_); refine hr_callG (by simp only [CA, simprocAttr]; rfl) (by simp only [CA, simprocAttr]; rfl) (by simp only [CA, simprocAttr]; rfl) (by intro hg; (try simp only [BO] at hg); first | exact q64 _ | exact q66 _ | exact q65 _) rfl ?_) | ((with_reducible refine chk_h ?_); refine hr_app (by simp (disch := omega) only [hp, row_m hp, read_row (row_m hp), hf, hd, row_m hd, read_row (row_m hd), ba, hu, al3, k0, k0', kt, g2, g0, c7, rA, RG79, EVA, plug, eq_self, simprocAttr]; with_reducible rfl) rfl ?_) | (with_reducible refine k_condP (by simp only [GA, simprocAttr]; rfl) (by first | (simp only [BO]; rfl) | rfl) (fun ht => ?_) (fun ht => ?_) <;> try (first | exact False.elim ht | exact absurd rfl ht | exact absurd trivial ht | exact Bool.noConfusion ht)) | (with_reducible refine k_ret ?_; repeat with_reducible (first | refine ret_thru ?_ | refine ret_blk ?_ | refine fin ?_)) | (with_reducible refine k_exit ?_; repeat with_reducible (first | refine thru ?_ | refine out_blk ?_ | refine pass (by decide) ?_)) | ((first | refine post1 ?_ | refine post2 ?_ | refine post3 ?_); simp only [GA, simprocAttr]) | refine post0 ?_
      exact endsW ⟨by simp (disch := omega) only [hd, RG79, EVA, plug, eq_self, simprocAttr], fun s h1 h2 => (by simp (disch := omega) only [RG79, EVA, plug, eq_self, simprocAttr]), by simp (disch := omega) only [RG79, EVA, plug, eq_self, simprocAttr] <;> omega⟩
    | true =>
      rw [ht] at q65
      rw [ht, if_neg (by decide)] at eR_
      obtain ⟨b, eb⟩ : ∃ b : Nat, pb = b := ⟨pb.toNat, by omega⟩
      subst eb
      have bl_ : b < l.length := by omega
      have bl3 : (b : Int) < l.length := by omega
      have rB_ := rdB bl_
      have q58 := pc58 (bD l b) (bD l a)
      simp only [Int.toNat_natCast] at eR_
      cases rc with
      | true =>
        rw [if_neg (fun q => nomatch q.1)] at eR_
        rw [eR_, am eR_]
        repeat' first | (with_reducible first | refine k_seq ?_ | refine k_skip ?_ | refine k_blkS ?_ | refine k_blkR ?_ | refine k_blkC ?_ | refine k_blkH ?_ | refine k_blkB ?_ | refine k_blkK ?_ | refine k_blkE ?_ | refine k_reg ?_) | with_reducible refine k_head (by with_unfolding_all rfl) ?_ | with_reducible refine k_headS ?_ | (with_reducible refine SepK.mk ?_ ?_; (refine sepQ_P ?_; simp [sepQ, sepG, AOp.late, AOp.free, AOp.xs, AOp.isAl, tokNe, AV.tok, stS_get, strip, AX.val, RG79, GA]; try omega)) | with_reducible refine r_done ?_ | with_reducible refine hr_done ?_ | with_reducible refine s_go (by simp (disch := omega) only [hp, row_m hp, read_row (row_m hp), hf, hd, row_m hd, read_row (row_m hd), ba, hu, al3, k0, k0', kt, g2, g0, c7, rA, hne', RG79, EVA, plug, eq_self, simprocAttr]; with_reducible rfl) ?_ | with_reducible refine h_go (by with_unfolding_all rfl) (by simp (disch := omega) only [hp, row_m hp, read_row (row_m hp), hf, hd, row_m hd, read_row (row_m hd), ba, hu, al3, k0, k0', kt, g2, g0, c7, rA, hne', RG79, EVA, plug, eq_self, simprocAttr]; with_reducible rfl) ?_ | ((with_reducible refine chk_r ?_); refine r_callF (by simp only [CA, simprocAttr]; rfl) (by exact rfl) (by simp only [CA, simprocAttr]; rfl) rfl ?_) | ((with_reducible refine chk_h ?_); refine hr_callF (by simp only [CA, simprocAttr]; rfl) (by exact rfl) (by simp only [CA, simprocAttr]; rfl) rfl ?_) | ((with_reducible refine chk_r ?_); refine r_callP (by simp only [CA, simprocAttr]; rfl) (by simp only [CA, simprocAttr]; rfl) (by first | exact q64 _ | exact q66 _ | exact q65 _) rfl ?_) | ((with_reducible refine chk_h ?_); refine hr_callP (by simp only [CA, simprocAttr]; rfl) (by simp only [CA, simprocAttr]; rfl) (by first | exact q64 _ | exact q66 _ | exact q65 _) rfl ?_) | ((with_reducible refine chk_h ?_); refine hr_callP1 (by simp only [CA, simprocAttr]; rfl) (by simp only [CA, simprocAttr]; rfl) (by simp (disch := omega) only [CA, Nat.reduceEqDiff, ↓reduceIte, firstTok_nil, firstTok_sl, firstTok_sl0, firstTok_i, firstTok_b, firstTok_ag, firstTok_p, firstTok_s]; rfl) (by first | exact q64 _ | exact q66 _ | exact q65 _) rfl ?_) | ((with_reducible refine chk_r ?_); refine r_callG (by simp only [CA, simprocAttr]; rfl) (by simp only [CA, simprocAttr]; rfl) (by simp only [CA, simprocAttr]; rfl) (by intro hg; (try simp only [BO] at hg); first | exact q64 _ | exact q66 _ | exact q65 _) rfl ?_) | ((with_reducible refine chk_h ?_); refine hr_callG (by simp only [CA, simprocAttr]; rfl) (by simp only [CA, simprocAttr]; rfl) (by simp only [CA, simprocAttr]; rfl) (by intro hg; (try simp only [BO] at hg); first | exact q64 _ | exact q66 _ | exact q65 _) rfl ?_) | ((with_reducible refine chk_h ?_); refine hr_app (by simp (disch := omega) only [hp, row_m hp, read_row (row_m hp), hf, hd, row_m hd, read_row (row_m hd), ba, hu, al3, k0, k0', kt, g2, g0, c7, rA, hne', RG79, EVA, plug, eq_self, simprocAttr]; with_reducible rfl) rfl ?_) | (with_reducible refine k_condP (by simp only [GA, simprocAttr]; rfl) (by first | (simp only [BO]; rfl) | rfl) (fun ht => ?_) (fun ht => ?_) <;> try (first | exact False.elim ht | exact absurd rfl ht | exact absurd trivial ht | exact Bool.noConfusion ht)) | (with_reducible refine k_ret ?_; repeat with_reducible (first | refine ret_thru ?_ | refine ret_blk ?_ | refine fin ?_)) | (with_reducible refine k_exit ?_; repeat with_reducible (first | refine thru ?_ | refine out_blk ?_ | refine pass (by decide) ?_)) | ((first | refine post1 ?_ | refine post2 ?_ | refine post3 ?_); simp only [GA, simprocAttr]) | refine post0 ?_
        exact endsW ⟨by simp (disch := omega) only [RG79, EVA, plug, eq_self, simprocAttr] <;> rfl, fun s h1 h2 => (by simp (disch := omega) only [h2, RG79, EVA, plug, eq_self, simprocAttr]), by simp (disch := omega) only [RG79, EVA, plug, eq_self, simprocAttr] <;> omega⟩
      | false =>
        cases hm : mayB (bD l b) (bD l a) with
        | false =>
          rw [if_pos ⟨rfl, .inr hm⟩] at eR_
          rw [eR_, an _ (by decide) eR_]
          rw [hm] at q58
          repeat' first | (with_reducible first | refine k_seq ?_ | refine k_skip ?_ | refine k_blkS ?_ | refine k_blkR ?_ | refine k_blkC ?_ | refine k_blkH ?_ | refine k_blkB ?_ | refine k_blkK ?_ | refine k_blkE ?_ | refine k_reg ?_) | with_reducible refine k_head (by with_unfolding_all rfl) ?_ | with_reducible refine k_headS ?_ | (with_reducible refine SepK.mk ?_ ?_; (refine sepQ_P ?_; simp [sepQ, sepG, AOp.late, AOp.free, AOp.xs, AOp.isAl, tokNe, AV.tok, stS_get, strip, AX.val, RG79, GA]; try omega)) | with_reducible refine r_done ?_ | with_reducible refine hr_done ?_ | with_reducible refine s_go (by simp (disch := omega) only [hp, row_m hp, read_row (row_m hp), hf, hd, row_m hd, read_row (row_m hd), ba, hu, al3, k0, k0', kt, g2, g0, c7, rA, rB_, bl3, RG79, EVA, plug, eq_self, simprocAttr]; with_reducible rfl) ?_ | with_reducible refine h_go (by with_unfolding_all rfl) (by simp (disch := omega) only [hp, row_m hp, read_row (row_m hp), hf, hd, row_m hd, read_row (row_m hd), ba, hu, al3, k0, k0', kt, g2, g0, c7, rA, rB_, bl3, RG79, EVA, plug, eq_self, simprocAttr]; with_reducible rfl) ?_ | ((with_reducible refine chk_r ?_); refine r_callF (by simp only [CA, simprocAttr]; rfl) (by exact rfl) (by simp only [CA, simprocAttr]; rfl) rfl ?_) | ((with_reducible refine chk_h ?_); refine hr_callF (by simp only [CA, simprocAttr]; rfl) (by exact rfl) (by simp only [CA, simprocAttr]; rfl) rfl ?_) | ((with_reducible refine chk_r ?_); refine r_callP (by simp only [CA, simprocAttr]; rfl) (by simp only [CA, simprocAttr]; rfl) (by first | exact q64 _ | exact q66 _ | exact q65 _ | exact q58 _) rfl ?_) | ((with_reducible refine chk_h ?_); refine hr_callP (by simp only [CA, simprocAttr]; rfl) (by simp only [CA, simprocAttr]; rfl) (by first | exact q64 _ | exact q66 _ | exact q65 _ | exact q58 _) rfl ?_) | ((with_reducible refine chk_h ?_); refine hr_callP1 (by simp only [CA, simprocAttr]; rfl) (by simp only [CA, simprocAttr]; rfl) (by simp (disch := omega) only [CA, Nat.reduceEqDiff, ↓reduceIte, firstTok_nil, firstTok_sl, firstTok_sl0, firstTok_i, firstTok_b, firstTok_ag, firstTok_p, firstTok_s]; rfl) (by first | exact q64 _ | exact q66 _ | exact q65 _ | exact q58 _) rfl ?_) | ((with_reducible refine chk_r ?_); refine r_callG (by simp only [CA, simprocAttr]; rfl) (by simp only [CA, simprocAttr]; rfl) (by simp only [CA, simprocAttr]; rfl) (by intro hg; (try simp only [BO] at hg); first | exact q64 _ | exact q66 _ | exact q65 _ | exact q58 _) rfl ?_) | ((with_reducible refine chk_h ?_); refine hr_callG (by simp only [CA, simprocAttr]; rfl) (by simp only [CA, simprocAttr]; rfl) (by simp only [CA, simprocAttr]; rfl) (by intro hg; (try simp only [BO] at hg); first | exact q64 _ | exact q66 _ | exact q65 _ | exact q58 _) rfl ?_) | ((with_reducible refine chk_h ?_); refine hr_app (by simp (disch := omega) only [hp, row_m hp, read_row (row_m hp), hf, hd, row_m hd, read_row (row_m hd), ba, hu, al3, k0, k0', kt, g2, g0, c7, rA, rB_, bl3, RG79, EVA, plug, eq_self, simprocAttr]; with_reducible rfl) rfl ?_) | (with_reducible refine k_condP (by simp only [GA, simprocAttr]; rfl) (by first | (simp only [BO]; rfl) | rfl) (fun ht => ?_) (fun ht => ?_) <;> try (first | exact False.elim ht | exact absurd rfl ht | exact absurd trivial ht | exact Bool.noConfusion ht)) | (with_reducible refine k_ret ?_; repeat with_reducible (first | refine ret_thru ?_ | refine ret_blk ?_ | refine fin ?_)) | (with_reducible refine k_exit ?_; repeat with_reducible (first | refine thru ?_ | refine out_blk ?_ | refine pass (by decide) ?_)) | ((first | refine post1 ?_ | refine post2 ?_ | refine post3 ?_); simp only [GA, simprocAttr]) | refine post0 ?_
          exact endsW ⟨by simp (disch := omega) only [hd, RG79, EVA, plug, eq_self, simprocAttr], fun s h1 h2 => (by simp (disch := omega) only [RG79, EVA, plug, eq_self, simprocAttr]), by simp (disch := omega) only [RG79, EVA, plug, eq_self, simprocAttr] <;> omega⟩
        | true =>
          rw [if_neg (fun q => q.2.elim c0 fun z => by have := hm.symm.trans z; cases this)] at eR_
          rw [eR_, am eR_]
          rw [hm] at q58
          repeat' first | (with_reducible first | refine k_seq ?_ | refine k_skip ?_ | refine k_blkS ?_ | refine k_blkR ?_ | refine k_blkC ?_ | refine k_blkH ?_ | refine k_blkB ?_ | refine k_blkK ?_ | refine k_blkE ?_ | refine k_reg ?_) | with_reducible refine k_head (by with_unfolding_all rfl) ?_ | with_reducible refine k_headS ?_ | (with_reducible refine SepK.mk ?_ ?_; (refine sepQ_P ?_; simp [sepQ, sepG, AOp.late, AOp.free, AOp.xs, AOp.isAl, tokNe, AV.tok, stS_get, strip, AX.val, RG79, GA]; try omega)) | with_reducible refine r_done ?_ | with_reducible refine hr_done ?_ | with_reducible refine s_go (by simp (disch := omega) only [hp, row_m hp, read_row (row_m hp), hf, hd, row_m hd, read_row (row_m hd), ba, hu, al3, k0, k0', kt, g2, g0, c7, rA, rB_, bl3, hne', RG79, EVA, plug, eq_self, simprocAttr]; with_reducible rfl) ?_ | with_reducible refine h_go (by with_unfolding_all rfl) (by simp (disch := omega) only [hp, row_m hp, read_row (row_m hp), hf, hd, row_m hd, read_row (row_m hd), ba, hu, al3, k0, k0', kt, g2, g0, c7, rA, rB_, bl3, hne', RG79, EVA, plug, eq_self, simprocAttr]; with_reducible rfl) ?_ | ((with_reducible refine chk_r ?_); refine r_callF (by simp only [CA, simprocAttr]; rfl) (by exact rfl) (by simp only [CA, simprocAttr]; rfl) rfl ?_) | ((with_reducible refine chk_h ?_); refine hr_callF (by simp only [CA, simprocAttr]; rfl) (by exact rfl) (by simp only [CA, simprocAttr]; rfl) rfl ?_) | ((with_reducible refine chk_r ?_); refine r_callP (by simp only [CA, simprocAttr]; rfl) (by simp only [CA, simprocAttr]; rfl) (by first | exact q64 _ | exact q66 _ | exact q65 _ | exact q58 _) rfl ?_) | ((with_reducible refine chk_h ?_); refine hr_callP (by simp only [CA, simprocAttr]; rfl) (by simp only [CA, simprocAttr]; rfl) (by first | exact q64 _ | exact q66 _ | exact q65 _ | exact q58 _) rfl ?_) | ((with_reducible refine chk_h ?_); refine hr_callP1 (by simp only [CA, simprocAttr]; rfl) (by simp only [CA, simprocAttr]; rfl) (by simp (disch := omega) only [CA, Nat.reduceEqDiff, ↓reduceIte, firstTok_nil, firstTok_sl, firstTok_sl0, firstTok_i, firstTok_b, firstTok_ag, firstTok_p, firstTok_s]; rfl) (by first | exact q64 _ | exact q66 _ | exact q65 _ | exact q58 _) rfl ?_) | ((with_reducible refine chk_r ?_); refine r_callG (by simp only [CA, simprocAttr]; rfl) (by simp only [CA, simprocAttr]; rfl) (by simp only [CA, simprocAttr]; rfl) (by intro hg; (try simp only [BO] at hg); first | exact q64 _ | exact q66 _ | exact q65 _ | exact q58 _) rfl ?_) | ((with_reducible refine chk_h ?_); refine hr_callG (by simp only [CA, simprocAttr]; rfl) (by simp only [CA, simprocAttr]; rfl) (by simp only [CA, simprocAttr]; rfl) (by intro hg; (try simp only [BO] at hg); first | exact q64 _ | exact q66 _ | exact q65 _ | exact q58 _) rfl ?_) | ((with_reducible refine chk_h ?_); refine hr_app (by simp (disch := omega) only [hp, row_m hp, read_row (row_m hp), hf, hd, row_m hd, read_row (row_m hd), ba, hu, al3, k0, k0', kt, g2, g0, c7, rA, rB_, bl3, hne', RG79, EVA, plug, eq_self, simprocAttr]; with_reducible rfl) rfl ?_) | (with_reducible refine k_condP (by simp only [GA, simprocAttr]; rfl) (by first | (simp only [BO]; rfl) | rfl) (fun ht => ?_) (fun ht => ?_) <;> try (first | exact False.elim ht | exact absurd rfl ht | exact absurd trivial ht | exact Bool.noConfusion ht)) | (with_reducible refine k_ret ?_; repeat with_reducible (first | refine ret_thru ?_ | refine ret_blk ?_ | refine fin ?_)) | (with_reducible refine k_exit ?_; repeat with_reducible (first | refine thru ?_ | refine out_blk ?_ | refine pass (by decide) ?_)) | ((first | refine post1 ?_ | refine post2 ?_ | refine post3 ?_); simp only [GA, simprocAttr]) | refine post0 ?_
          exact endsW ⟨by simp (disch := omega) only [RG79, EVA, plug, eq_self, simprocAttr] <;> rfl, fun s h1 h2 => (by simp (disch := omega) only [h2, RG79, EVA, plug, eq_self, simprocAttr]), by simp (disch := omega) only [RG79, EVA, plug, eq_self, simprocAttr] <;> omega⟩
end Go.Proofs.Ytjncfpfgobojpaa
