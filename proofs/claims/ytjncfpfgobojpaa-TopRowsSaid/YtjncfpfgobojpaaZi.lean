/- What the proof of the law needs: the abstract machine, the functions as it reads them, their contracts, part 9. -/
import Derived.Test.YtjncfpfgobojpaaZh
set_option linter.unusedVariables false
set_option linter.unusedSimpArgs false
namespace Go.Proofs.Ytjncfpfgobojpaa
open Go Go.Am Go.Proofs Go.Sort
def rwR (r : List Rn) : Rw := (r.length, fl eR r)
theorem rvR_map (rows : List (List Rn)) : (rows.map rwR).map rV = rows.map rvR := by rw [List.map_map]; rfl
theorem rDR_map {rows : List (List Rn)} {k : Nat} (h : k < rows.length) : rD (rows.map rwR) k = ((rows.getD k []).length, fl eR (rows.getD k [])) := by
 simp [rD, h, rwR]
theorem rep_nil (n : Nat) : (List.replicate n [AV.sl 0 0 0 0]).flatten = List.replicate n (.sl 0 0 0 0) := by
 induction n with
 | zero => rfl
 | succ n ih => rw [List.replicate_succ, List.flatten_cons, ih]; rfl
theorem rwR_rep (n : Nat) : (List.replicate n ([] : List Rn)).map rwR = List.replicate n (0, []) := by
 rw [List.map_replicate]; rfl
theorem getD_self {α : Type} {l : List α} {n : Nat} {d : α} (h : n < l.length) : l.set n (l.getD n d) = l := by
 apply List.ext_getElem?
 intro j
 by_cases e : n = j
 ·subst e; simp [h]
 ·simp [List.getElem?_set, e]
theorem RG38 : (type_of% @c38r0.eq_1) ∧ (type_of% @c38r1.eq_1) ∧ (type_of% @c38r2.eq_1) ∧ (type_of% @c38r3.eq_1) ∧ (type_of% @c38r4.eq_1) ∧ (type_of% @c38r5.eq_1) ∧ (type_of% @c38r6.eq_1) ∧ (type_of% @c38r7.eq_1) ∧ (type_of% @c38r8.eq_1) ∧ (type_of% @c38r9.eq_1) ∧ (type_of% @c38r10.eq_1) ∧ (type_of% @c38r11.eq_1) ∧ (type_of% @c38r12.eq_1) ∧ (type_of% @c38r13.eq_1) ∧ (type_of% @c38r14.eq_1) ∧ (type_of% @c38r15.eq_1) ∧ (type_of% @c38r16.eq_1) ∧ (type_of% @c38r17.eq_1) ∧ (type_of% @c38r18.eq_1) ∧ (type_of% @c38r19.eq_1) ∧ (type_of% @c38r20.eq_1) ∧ (type_of% @c38r22.eq_1) ∧ (type_of% @c38r24.eq_1) := ⟨@c38r0.eq_1, @c38r1.eq_1, @c38r2.eq_1, @c38r3.eq_1, @c38r4.eq_1, @c38r5.eq_1, @c38r6.eq_1, @c38r7.eq_1, @c38r8.eq_1, @c38r9.eq_1, @c38r10.eq_1, @c38r11.eq_1, @c38r12.eq_1, @c38r13.eq_1, @c38r14.eq_1, @c38r15.eq_1, @c38r16.eq_1, @c38r17.eq_1, @c38r18.eq_1, @c38r19.eq_1, @c38r20.eq_1, @c38r22.eq_1, @c38r24.eq_1⟩
set_option maxHeartbeats 4000000 in
theorem pc38 (l : List B) (hl : l.length ≤ 9223372036854775807) (rows : List (List Int)) (hn : rows.length ≤ 60) (hr60 : ∀ i, i < rows.length → (rI rows i).length ≤ 60) (hs : rows.flatten.length ≤ 1000000) (bb c : Int) :
 PC Try.prog 38 [vB l, vR rows, .i .i64 bb, .i .i64 c] (.tu [vRR (asR l rows bb c).1, .i .i64 (asR l rows bb c).2]) := by
 refine pc_fn fn38 (by simp only [AV.plains, AV.plain, il_plain, bl_plain, Bool.and_true, Bool.true_and, Bool.and_self, flB_plain, vR_plain, vRR_plain]) (by simp only [AV.plains, AV.plain, il_plain, bl_plain, Bool.and_true, Bool.true_and, Bool.and_self, flB_plain, vR_plain, vRR_plain]) (Nat.le_of_ble_eq_true rfl) ?_
 rw [initSt4]
 have q36 := pc36 l hl rows hn hr60 hs
 by_cases h0 : ck l rows = 0
 rotate_left
 ·rw [asR_ck h0]
  have h0' := eq_false h0
  repeat' first | (with_reducible first | refine k_seq ?_ | refine k_skip ?_ | refine k_blkS ?_ | refine k_blkR ?_ | refine k_blkC ?_ | refine k_blkH ?_ | refine k_blkB ?_ | refine k_blkK ?_ | refine k_blkE ?_ | refine k_reg ?_) | with_reducible refine k_head (by with_unfolding_all rfl) ?_ | with_reducible refine k_headS ?_ | (with_reducible refine SepK.mk ?_ ?_; (refine sepQ_P ?_; simp [sepQ, sepG, AOp.late, AOp.free, AOp.xs, AOp.isAl, tokNe, AV.tok, stS_get, strip, AX.val, RG38, GA]; try omega)) | with_reducible refine r_done ?_ | with_reducible refine hr_done ?_ | with_reducible refine s_go (by simp (disch := omega) only [h0', RG38, EVA, plug, eq_self, simprocAttr]; with_reducible rfl) ?_ | with_reducible refine h_go (by with_unfolding_all rfl) (by simp (disch := omega) only [h0', RG38, EVA, plug, eq_self, simprocAttr]; with_reducible rfl) ?_ | ((with_reducible refine chk_r ?_); refine r_callF (by simp only [CA, simprocAttr]; rfl) (by exact rfl) (by simp only [CA, simprocAttr]; rfl) rfl ?_) | ((with_reducible refine chk_h ?_); refine hr_callF (by simp only [CA, simprocAttr]; rfl) (by exact rfl) (by simp only [CA, simprocAttr]; rfl) rfl ?_) | ((with_reducible refine chk_r ?_); refine r_callP (by simp only [CA, simprocAttr]; rfl) (by simp only [CA, simprocAttr]; rfl) (by first | exact q36 _) rfl ?_) | ((with_reducible refine chk_h ?_); refine hr_callP (by simp only [CA, simprocAttr]; rfl) (by simp only [CA, simprocAttr]; rfl) (by first | exact q36 _) rfl ?_) | ((with_reducible refine chk_h ?_); refine hr_callP1 (by simp only [CA, simprocAttr]; rfl) (by simp only [CA, simprocAttr]; rfl) (by simp (disch := omega) only [CA, Nat.reduceEqDiff, ↓reduceIte, firstTok_nil, firstTok_sl, firstTok_sl0, firstTok_i, firstTok_b, firstTok_ag, firstTok_p, firstTok_s]; rfl) (by first | exact q36 _) rfl ?_) | ((with_reducible refine chk_h ?_); refine hr_app (by simp (disch := omega) only [h0', RG38, EVA, plug, eq_self, simprocAttr]; with_reducible rfl) rfl ?_) | (with_reducible refine k_condP (by simp only [GA, simprocAttr]; rfl) (by first | (simp only [BO]; rfl) | rfl) (fun ht => ?_) (fun ht => ?_) <;> try (first | exact False.elim ht | exact absurd rfl ht | exact absurd trivial ht | exact Bool.noConfusion ht)) | (with_reducible refine k_ret ?_; repeat with_reducible (first | refine ret_thru ?_ | refine ret_blk ?_ | refine fin ?_)) | (with_reducible refine k_exit ?_; repeat with_reducible (first | refine thru ?_ | refine out_blk ?_ | refine pass (by decide) ?_)) | ((first | refine post1 ?_ | refine post2 ?_ | refine post3 ?_); simp only [GA, simprocAttr]) | refine post0 ?_
  exact ends_nil2
 rw [h0] at q36
 have q59 := pc59 bb c
 by_cases hb : bOK bb c
 rotate_left
 ·rw [asR_no h0 hb]
  rw [decide_eq_false hb] at q59
  repeat' first | (with_reducible first | refine k_seq ?_ | refine k_skip ?_ | refine k_blkS ?_ | refine k_blkR ?_ | refine k_blkC ?_ | refine k_blkH ?_ | refine k_blkB ?_ | refine k_blkK ?_ | refine k_blkE ?_ | refine k_reg ?_) | with_reducible refine k_head (by with_unfolding_all rfl) ?_ | with_reducible refine k_headS ?_ | (with_reducible refine SepK.mk ?_ ?_; (refine sepQ_P ?_; simp [sepQ, sepG, AOp.late, AOp.free, AOp.xs, AOp.isAl, tokNe, AV.tok, stS_get, strip, AX.val, RG38, GA]; try omega)) | with_reducible refine r_done ?_ | with_reducible refine hr_done ?_ | with_reducible refine s_go (by simp (disch := omega) only [RG38, EVA, plug, eq_self, simprocAttr]; with_reducible rfl) ?_ | with_reducible refine h_go (by with_unfolding_all rfl) (by simp (disch := omega) only [RG38, EVA, plug, eq_self, simprocAttr]; with_reducible rfl) ?_ | ((with_reducible refine chk_r ?_); refine r_callF (by simp only [CA, simprocAttr]; rfl) (by exact rfl) (by simp only [CA, simprocAttr]; rfl) rfl ?_) | ((with_reducible refine chk_h ?_); refine hr_callF (by simp only [CA, simprocAttr]; rfl) (by exact rfl) (by simp only [CA, simprocAttr]; rfl) rfl ?_) | ((with_reducible refine chk_r ?_); refine r_callP (by simp only [CA, simprocAttr]; rfl) (by simp only [CA, simprocAttr]; rfl) (by first | exact q36 _ | exact q59 _) rfl ?_) | ((with_reducible refine chk_h ?_); refine hr_callP (by simp only [CA, simprocAttr]; rfl) (by simp only [CA, simprocAttr]; rfl) (by first | exact q36 _ | exact q59 _) rfl ?_) | ((with_reducible refine chk_h ?_); refine hr_callP1 (by simp only [CA, simprocAttr]; rfl) (by simp only [CA, simprocAttr]; rfl) (by simp (disch := omega) only [CA, Nat.reduceEqDiff, ↓reduceIte, firstTok_nil, firstTok_sl, firstTok_sl0, firstTok_i, firstTok_b, firstTok_ag, firstTok_p, firstTok_s]; rfl) (by first | exact q36 _ | exact q59 _) rfl ?_) | ((with_reducible refine chk_h ?_); refine hr_app (by simp (disch := omega) only [RG38, EVA, plug, eq_self, simprocAttr]; with_reducible rfl) rfl ?_) | (with_reducible refine k_condP (by simp only [GA, simprocAttr]; rfl) (by first | (simp only [BO]; rfl) | rfl) (fun ht => ?_) (fun ht => ?_) <;> try (first | exact False.elim ht | exact absurd rfl ht | exact absurd trivial ht | exact Bool.noConfusion ht)) | (with_reducible refine k_ret ?_; repeat with_reducible (first | refine ret_thru ?_ | refine ret_blk ?_ | refine fin ?_)) | (with_reducible refine k_exit ?_; repeat with_reducible (first | refine thru ?_ | refine out_blk ?_ | refine pass (by decide) ?_)) | ((first | refine post1 ?_ | refine post2 ?_ | refine post3 ?_); simp only [GA, simprocAttr]) | refine post0 ?_
  exact ends_nil2
 rw [decide_eq_true hb] at q59
 rw [asR_go h0 hb]
 obtain ⟨B, eB_⟩ : ∃ B : Nat, bb = B := ⟨bb.toNat, by omega⟩
 subst eB_
 obtain ⟨hb, hc⟩ := hb
 simp only [Int.toNat_natCast]
 have ckk := ck_is h0
 have hv := ckk.vl
 have hl6 := hv.len
 have ixs := IXs.of ckk.ix
 have AK := fun i (hi : i ≤ rows.length) => asg_ok hv hc (n := B) (by omega) ixs hr60 (i := i) hi
 repeat' first | (with_reducible first | refine k_seq ?_ | refine k_skip ?_ | refine k_blkS ?_ | refine k_blkR ?_ | refine k_blkC ?_ | refine k_blkH ?_ | refine k_blkB ?_ | refine k_blkK ?_ | refine k_blkE ?_ | refine k_reg ?_) | with_reducible refine k_head (by with_unfolding_all rfl) ?_ | with_reducible refine k_headS ?_ | (with_reducible refine SepK.mk ?_ ?_; (refine sepQ_P ?_; simp [sepQ, sepG, AOp.late, AOp.free, AOp.xs, AOp.isAl, tokNe, AV.tok, stS_get, strip, AX.val, RG38, GA]; try omega)) | with_reducible refine r_done ?_ | with_reducible refine hr_done ?_ | with_reducible refine s_go (by simp (disch := omega) only [RG38, EVA, plug, eq_self, simprocAttr]; with_reducible rfl) ?_ | with_reducible refine h_go (by with_unfolding_all rfl) (by simp (disch := omega) only [RG38, EVA, plug, eq_self, simprocAttr]; with_reducible rfl) ?_ | ((with_reducible refine chk_r ?_); refine r_callF (by simp only [CA, simprocAttr]; rfl) (by exact rfl) (by simp only [CA, simprocAttr]; rfl) rfl ?_) | ((with_reducible refine chk_h ?_); refine hr_callF (by simp only [CA, simprocAttr]; rfl) (by exact rfl) (by simp only [CA, simprocAttr]; rfl) rfl ?_) | ((with_reducible refine chk_r ?_); refine r_callP (by simp only [CA, simprocAttr]; rfl) (by simp only [CA, simprocAttr]; rfl) (by first | exact q36 _ | exact q59 _) rfl ?_) | ((with_reducible refine chk_h ?_); refine hr_callP (by simp only [CA, simprocAttr]; rfl) (by simp only [CA, simprocAttr]; rfl) (by first | exact q36 _ | exact q59 _) rfl ?_) | ((with_reducible refine chk_h ?_); refine hr_callP1 (by simp only [CA, simprocAttr]; rfl) (by simp only [CA, simprocAttr]; rfl) (by simp (disch := omega) only [CA, Nat.reduceEqDiff, ↓reduceIte, firstTok_nil, firstTok_sl, firstTok_sl0, firstTok_i, firstTok_b, firstTok_ag, firstTok_p, firstTok_s]; rfl) (by first | exact q36 _ | exact q59 _) rfl ?_) | ((with_reducible refine chk_h ?_); refine hr_app (by simp (disch := omega) only [RG38, EVA, plug, eq_self, simprocAttr]; with_reducible rfl) rfl ?_) | (with_reducible refine k_condP (by simp only [GA, simprocAttr]; rfl) (by first | (simp only [BO]; rfl) | rfl) (fun ht => ?_) (fun ht => ?_) <;> try (first | exact False.elim ht | exact absurd rfl ht | exact absurd trivial ht | exact Bool.noConfusion ht)) | (with_reducible refine k_ret ?_; repeat with_reducible (first | refine ret_thru ?_ | refine ret_blk ?_ | refine fin ?_)) | (with_reducible refine k_exit ?_; repeat with_reducible (first | refine thru ?_ | refine out_blk ?_ | refine pass (by decide) ?_)) | ((first | refine post1 ?_ | refine post2 ?_ | refine post3 ?_); simp only [GA, simprocAttr]) | refine post0 ?_
 refine w_nest 4 (r := 14) (n := B) (by simp (disch := omega) only [rep_nil, RG38, EVA, plug, eq_self, simprocAttr] <;> rfl) (by decide) fun hN ts0 N0 F0 nx0 tl0 => ?_
 refine k_blk (k_loopS (X := List Nat) [0, 3, 11, 12, 33, 34, 35] rows.length (fun i ts => [(0, vB l), (3, .i .i64 c), (11, .sl 14 0 B 1), (12, .sl 17 0 B 1), (33, vR rows), (34, .i .i64 rows.length), (35, .i .i64 (i : Int))])
  (fun i ts h => Nest h 4 14 ts ((asg l c B rows i).1.map rwR) ∧ 17 ∉ ts ∧ h.m 17 = some (.cells true (il (asg l c B rows i).2))) ts0 (by simp only [Am.keep, List.map_cons, List.map_nil, GA, simprocAttr]; try rfl) ⟨by rw [asg, rwR_rep]; exact N0, fun hm => by have := tl0 _ hm; simp only [AH.bump_nx, AH.set_nx, H1_nx] at this; omega, F0 17 _ (by decide) (by simp (disch := omega) only [il_rep, RG38, EVA, plug, eq_self, simprocAttr] <;> rfl)⟩ ?_)
 rintro i ts h hi ⟨N, un, hu⟩ ok pos
 have lr := ok.m N.hr
 have lu := ok.m hu
 by_cases ilt : i < rows.length
 rotate_left
 ·obtain rfl : i = rows.length := by omega
  have ilt' : ¬ (rows.length : Int) < rows.length := by omega
  repeat' first | (with_reducible first | refine k_seq ?_ | refine k_skip ?_ | refine k_blkS ?_ | refine k_blkR ?_ | refine k_blkC ?_ | refine k_blkH ?_ | refine k_blkB ?_ | refine k_blkK ?_ | refine k_blkE ?_ | refine k_reg ?_) | with_reducible refine k_head (by with_unfolding_all rfl) ?_ | with_reducible refine k_headS ?_ | (with_reducible refine SepK.mk ?_ ?_; (refine sepQ_P ?_; simp [sepQ, sepG, AOp.late, AOp.free, AOp.xs, AOp.isAl, tokNe, AV.tok, stS_get, strip, AX.val, RG38, GA]; try omega)) | with_reducible refine r_done ?_ | with_reducible refine hr_done ?_ | with_reducible refine s_go (by simp (disch := omega) only [ilt', RG38, EVA, plug, eq_self, simprocAttr]; with_reducible rfl) ?_ | with_reducible refine h_go (by with_unfolding_all rfl) (by simp (disch := omega) only [ilt', RG38, EVA, plug, eq_self, simprocAttr]; with_reducible rfl) ?_ | ((with_reducible refine chk_r ?_); refine r_callF (by simp only [CA, simprocAttr]; rfl) (by exact rfl) (by simp only [CA, simprocAttr]; rfl) rfl ?_) | ((with_reducible refine chk_h ?_); refine hr_callF (by simp only [CA, simprocAttr]; rfl) (by exact rfl) (by simp only [CA, simprocAttr]; rfl) rfl ?_) | ((with_reducible refine chk_h ?_); refine hr_app (by simp (disch := omega) only [ilt', RG38, EVA, plug, eq_self, simprocAttr]; with_reducible rfl) rfl ?_) | (with_reducible refine k_condP (by simp only [GA, simprocAttr]; rfl) (by first | (simp only [BO]; rfl) | rfl) (fun ht => ?_) (fun ht => ?_) <;> try (first | exact False.elim ht | exact absurd rfl ht | exact absurd trivial ht | exact Bool.noConfusion ht)) | (with_reducible refine k_ret ?_; repeat with_reducible (first | refine ret_thru ?_ | refine ret_blk ?_ | refine fin ?_)) | (with_reducible refine k_exit ?_; repeat with_reducible (first | refine thru ?_ | refine out_blk ?_ | refine pass (by decide) ?_)) | ((first | refine post1 ?_ | refine post2 ?_ | refine post3 ?_); simp only [GA, simprocAttr]) | refine post0 ?_
  have A := AK rows.length (Nat.le_refl _)
  have l1 := A.l1
  generalize asg l c B rows rows.length = S at *
  refine (N.keep (h' := (h.bump 1).bump 3) fun _ _ hb => hb).ends (v2 := .tu [vRR S.1, .i .i64 0]) (.tu (.cons ?_ (.cons .same .nil))) fun h2 F => ⟨_, .done⟩
  rw [rvR_map]
  have := @FrzV.sl 14 (S.1.map rvR) 0 B 1 1 (by simp [l1])
  rw [List.drop_zero, List.take_of_length_le (by simp [l1])] at this
  rw [← l1] at this ⊢
  exact this
 have ilt' : (i : Int) < rows.length := by omega
 have A := AK i (by omega)
 have g := rvI_get ilt
 have hr6 := hr60 i ilt
 have ixr := ixs i ilt
 have es : asg l c B rows (i + 1) = ((asg l c B rows i).1.set (fmn (asg l c B rows i).2 B) ((asg l c B rows i).1.getD (fmn (asg l c B rows i).2 B) [] ++ rRs l c (rI rows i) (fd (asg l c B rows i).2 (fmn (asg l c B rows i).2 B)) (rI rows i).length),
  (asg l c B rows i).2.set (fmn (asg l c B rows i).2 B) (rT l c (rI rows i) (fd (asg l c B rows i).2 (fmn (asg l c B rows i).2 B)) (rI rows i).length)) := rfl
 rw [es]
 clear es AK ixs
 generalize rI rows i = row at *
 generalize asg l c B rows i = S at *
 obtain ⟨o, f⟩ := S
 obtain ⟨l1, l2, Af, Ar⟩ := A
 simp only at *
 have q77 := pc77 f (by omega) (by omega) (fun j hj => by have := Af j (by omega); simp only [i64]; omega)
 have q76 := pc76 f (n := fmn f B) (by omega) (by have := fmn_rng f (k := B) (by omega); omega) (fun j hj => by have := fmn_lt f hj; omega)
 rw [l2] at q77 q76
 have fB := fmn_rng f (k := B) (by omega)
 have ft := Af _ fB
 have or_ := Ar _ fB
 have rt := fun k (hk : k ≤ row.length) => rT_rng hv hc ixr (fd f (fmn f B)) (k := k) hk
 repeat' first | (with_reducible first | refine k_seq ?_ | refine k_skip ?_ | refine k_blkS ?_ | refine k_blkR ?_ | refine k_blkC ?_ | refine k_blkH ?_ | refine k_blkB ?_ | refine k_blkK ?_ | refine k_blkE ?_ | refine k_reg ?_) | with_reducible refine k_head (by with_unfolding_all rfl) ?_ | with_reducible refine k_headS ?_ | (with_reducible refine SepK.mk ?_ ?_; (refine sepQ_P ?_; simp [sepQ, sepG, AOp.late, AOp.free, AOp.xs, AOp.isAl, tokNe, AV.tok, stS_get, strip, AX.val, RG38, GA]; try omega)) | with_reducible refine r_done ?_ | with_reducible refine hr_done ?_ | with_reducible refine s_go (by simp (disch := omega) only [ilt', g, RG38, EVA, plug, eq_self, simprocAttr]; with_reducible rfl) ?_ | with_reducible refine h_go (by with_unfolding_all rfl) (by simp (disch := omega) only [ilt', g, RG38, EVA, plug, eq_self, simprocAttr]; with_reducible rfl) ?_ | ((with_reducible refine chk_r ?_); refine r_callF (by simp only [CA, simprocAttr]; rfl) (by exact rfl) (by simp only [CA, simprocAttr]; rfl) rfl ?_) | ((with_reducible refine chk_h ?_); refine hr_callF (by simp only [CA, simprocAttr]; rfl) (by exact rfl) (by simp only [CA, simprocAttr]; rfl) rfl ?_) | ((with_reducible refine chk_r ?_); refine r_callP (by simp only [CA, simprocAttr]; rfl) (by simp only [CA, simprocAttr]; rfl) (by first | ((refine PC.at q77 rfl ?_; exact .cons (.row (by simp (disch := omega) only [row_m hu, RG38, EVA, plug, eq_self, simprocAttr] <;> rfl) (il_plain _)) .nil); all_goals fail) | ((refine PC.at q76 rfl ?_; exact .cons (.row (by simp (disch := omega) only [row_m hu, RG38, EVA, plug, eq_self, simprocAttr] <;> rfl) (il_plain _)) (.cons (.same rfl) .nil)); all_goals fail)) rfl ?_) | ((with_reducible refine chk_h ?_); refine hr_callP (by simp only [CA, simprocAttr]; rfl) (by simp only [CA, simprocAttr]; rfl) (by first | ((refine PC.at q77 rfl ?_; exact .cons (.row (by simp (disch := omega) only [row_m hu, RG38, EVA, plug, eq_self, simprocAttr] <;> rfl) (il_plain _)) .nil); all_goals fail) | ((refine PC.at q76 rfl ?_; exact .cons (.row (by simp (disch := omega) only [row_m hu, RG38, EVA, plug, eq_self, simprocAttr] <;> rfl) (il_plain _)) (.cons (.same rfl) .nil)); all_goals fail)) rfl ?_) | ((with_reducible refine chk_h ?_); refine hr_callP1 (by simp only [CA, simprocAttr]; rfl) (by simp only [CA, simprocAttr]; rfl) (by simp (disch := omega) only [CA, Nat.reduceEqDiff, ↓reduceIte, firstTok_nil, firstTok_sl, firstTok_sl0, firstTok_i, firstTok_b, firstTok_ag, firstTok_p, firstTok_s]; rfl) (by first | ((refine PC.at q77 rfl ?_; exact .cons (.row (by simp (disch := omega) only [row_m hu, RG38, EVA, plug, eq_self, simprocAttr] <;> rfl) (il_plain _)) .nil); all_goals fail) | ((refine PC.at q76 rfl ?_; exact .cons (.row (by simp (disch := omega) only [row_m hu, RG38, EVA, plug, eq_self, simprocAttr] <;> rfl) (il_plain _)) (.cons (.same rfl) .nil)); all_goals fail)) rfl ?_) | ((with_reducible refine chk_h ?_); refine hr_app (by simp (disch := omega) only [ilt', g, RG38, EVA, plug, eq_self, simprocAttr]; with_reducible rfl) rfl ?_) | (with_reducible refine k_condP (by simp only [GA, simprocAttr]; rfl) (by first | (simp only [BO]; rfl) | rfl) (fun ht => ?_) (fun ht => ?_) <;> try (first | exact False.elim ht | exact absurd rfl ht | exact absurd trivial ht | exact Bool.noConfusion ht)) | (with_reducible refine k_ret ?_; repeat with_reducible (first | refine ret_thru ?_ | refine ret_blk ?_ | refine fin ?_)) | (with_reducible refine k_exit ?_; repeat with_reducible (first | refine thru ?_ | refine out_blk ?_ | refine pass (by decide) ?_)) | ((first | refine post1 ?_ | refine post2 ?_ | refine post3 ?_); simp only [GA, simprocAttr]) | refine post0 ?_
 generalize fmn f B = n at *
 generalize et : fd f n = t at *
 generalize eP : o.getD n [] = P at *
 have oP : o.set n (P ++ rRs l c row t 0) = o := by rw [rRs_zero, List.append_nil, ← eP]; exact getD_self (by omega)
 have fP : f.set n (rT l c row t 0) = f := by rw [rT, ← et]; exact getD_self (by omega)
 refine k_blk (k_loopS (X := List Nat) [0, 3, 11, 12, 15, 33, 34, 35, 43, 44, 45] row.length (fun k ts => [(0, vB l), (3, .i .i64 c), (11, .sl 14 0 B 1), (12, .sl 17 0 B 1), (15, .i .i64 (n : Int)), (33, vR rows), (34, .i .i64 rows.length), (35, .i .i64 (i : Int)), (43, .vs row.length (il row)), (44, .i .i64 row.length), (45, .i .i64 (k : Int))])
  (fun k ts h => Nest h 4 14 ts ((o.set n (P ++ rRs l c row t k)).map rwR) ∧ 17 ∉ ts ∧ h.m 17 = some (.cells true (il (f.set n (rT l c row t k))))) ts (by simp only [Am.keep, List.map_cons, List.map_nil, GA, simprocAttr]; try rfl) ⟨by rw [oP]; exact N.keep fun t b hb => by have := ok.m hb; simp (disch := omega) only [hb, RG38, EVA, plug, eq_self, simprocAttr], un, by rw [fP]; simp (disch := omega) only [hu, RG38, EVA, plug, eq_self, simprocAttr]⟩ ?_)
 clear N hu un
 rintro k ts h hk ⟨N, un, hu⟩ ok pos
 have lr := ok.m N.hr
 have lu := ok.m hu
 have tlt := Nest.lt N ok
 by_cases klt : k < row.length
 rotate_left
 ·obtain rfl : k = row.length := by omega
  have klt' : ¬ (row.length : Int) < row.length := by omega
  repeat' first | (with_reducible first | refine k_seq ?_ | refine k_skip ?_ | refine k_blkS ?_ | refine k_blkR ?_ | refine k_blkC ?_ | refine k_blkH ?_ | refine k_blkB ?_ | refine k_blkK ?_ | refine k_blkE ?_ | refine k_reg ?_) | with_reducible refine k_head (by with_unfolding_all rfl) ?_ | with_reducible refine k_headS ?_ | (with_reducible refine SepK.mk ?_ ?_; (refine sepQ_P ?_; simp [sepQ, sepG, AOp.late, AOp.free, AOp.xs, AOp.isAl, tokNe, AV.tok, stS_get, strip, AX.val, RG38, GA]; try omega)) | with_reducible refine r_done ?_ | with_reducible refine hr_done ?_ | with_reducible refine s_go (by simp (disch := omega) only [klt', RG38, EVA, plug, eq_self, simprocAttr]; with_reducible rfl) ?_ | with_reducible refine h_go (by with_unfolding_all rfl) (by simp (disch := omega) only [klt', RG38, EVA, plug, eq_self, simprocAttr]; with_reducible rfl) ?_ | ((with_reducible refine chk_r ?_); refine r_callF (by simp only [CA, simprocAttr]; rfl) (by exact rfl) (by simp only [CA, simprocAttr]; rfl) rfl ?_) | ((with_reducible refine chk_h ?_); refine hr_callF (by simp only [CA, simprocAttr]; rfl) (by exact rfl) (by simp only [CA, simprocAttr]; rfl) rfl ?_) | ((with_reducible refine chk_h ?_); refine hr_app (by simp (disch := omega) only [klt', RG38, EVA, plug, eq_self, simprocAttr]; with_reducible rfl) rfl ?_) | (with_reducible refine k_condP (by simp only [GA, simprocAttr]; rfl) (by first | (simp only [BO]; rfl) | rfl) (fun ht => ?_) (fun ht => ?_) <;> try (first | exact False.elim ht | exact absurd rfl ht | exact absurd trivial ht | exact Bool.noConfusion ht)) | (with_reducible refine k_ret ?_; repeat with_reducible (first | refine ret_thru ?_ | refine ret_blk ?_ | refine fin ?_)) | (with_reducible refine k_exit ?_; repeat with_reducible (first | refine thru ?_ | refine out_blk ?_ | refine pass (by decide) ?_)) | ((first | refine post1 ?_ | refine post2 ?_ | refine post3 ?_); simp only [GA, simprocAttr]) | refine post0 ?_
  exact ⟨ilt, ts, (by simp only [Am.keep, List.map_cons, List.map_nil, GA, simprocAttr]; try rfl), N.keep fun t b hb => by have := ok.m hb; simp (disch := omega) only [hb, RG38, EVA, plug, eq_self, simprocAttr], un, by simp (disch := omega) only [hu, RG38, EVA, plug, eq_self, simprocAttr]⟩
 have klt' : (k : Int) < row.length := by omega
 have gr := il_get klt
 have ix := ixr k klt
 have tk := rt k (by omega)
 have hR : rR l c row t k = ⟨ni row k, rT l c row t k, rT l c row t (k + 1), decide (k = 0)⟩ := rfl
 have sT : rT l c row t (k + 1) = rT l c row t k + hrs (bD l (ni row k).toNat) + if k = 0 then c else 0 := rfl
 have eS := rRs_succ l c row t k
 have fg : (f.set n (rT l c row t k)).getD n 0 = rT l c row t k := by rw [getD_set_i (by omega), if_pos rfl]
 have fs : (f.set n (rT l c row t k)).set n (rT l c row t (k + 1)) = f.set n (rT l c row t (k + 1)) := List.set_set ..
 have fl_ : (f.set n (rT l c row t k)).length = B := by rw [List.length_set]; exact l2
 have gu := il_get (l := f.set n (rT l c row t k)) (j := n) (by omega)
 rw [fg] at gu
 have oS : (o.set n (P ++ rRs l c row t k)).set n (P ++ rRs l c row t k ++ [rR l c row t k]) = o.set n (P ++ rRs l c row t (k + 1)) := by rw [List.set_set, eS, List.append_assoc]
 have og : (o.set n (P ++ rRs l c row t k)).getD n [] = P ++ rRs l c row t k := by rw [getD_set_i (by omega), if_pos rfl]
 have ol : (o.set n (P ++ rRs l c row t k)).length = B := by rw [List.length_set]; exact l1
 have Ql : (P ++ rRs l c row t k).length ≤ 4000 := by rw [List.length_append, rRs_len]; omega
 rw [show ni row k = row.getD k 0 from rfl] at *
 generalize rR l c row t k = R at *
 generalize P ++ rRs l c row t k = Q at *
 generalize P ++ rRs l c row t (k + 1) = Q' at *
 generalize o.set n Q = O at *
 generalize f.set n (rT l c row t (k + 1)) = F' at *
 generalize f.set n (rT l c row t k) = F at *
 generalize rT l c row t (k + 1) = T' at *
 generalize rT l c row t k = T at *
 obtain ⟨a, ea⟩ : ∃ a : Nat, row.getD k 0 = a := ⟨(row.getD k 0).toNat, by omega⟩
 rw [ea] at gr ix sT hR
 have al : a < l.length := by omega
 have al' : (a : Int) < l.length := by omega
 have rA := rdB al
 have vba := hv.b al
 have q60 := pc60 (bD l a) vba
 have hrg := hrs_rng vba
 rw [Int.toNat_natCast] at sT
 generalize bD l a = b at *
 obtain ⟨b1, b2, b3, b4, b5, b6, b7⟩ := b
 generalize hrs ⟨b1, b2, b3, b4, b5, b6, b7⟩ = H at *
 simp only [eB] at rA q60
 have nB : (n : Int) < B := by omega
 have nn : ¬ (n : Int) < 0 := by omega
 have hr := N.hr
 have r0 := N.r0
 have Nl : (O.map rwR).length = B := by rw [List.length_map]; exact ol
 have cf := N.cell (i := n) (by omega)
 rw [rDR_map (by omega), og] at cf
 have tf := N.row (i := n) (by omega)
 rw [rDR_map (by omega), og] at tf
 have mf := N.mem (i := n) (by omega)
 have ltf := tlt _ mf
 have nef := N.ne (i := n) (by omega)
 have nefu : ¬ tD ts n = 17 := fun e => un (e ▸ mf)
 have csl := rC_len (k := 4) N.len
 rw [Nl] at csl
 have il1 := il_len F
 have f1 := fl_len eR_len Q
 have fo := fl_one (enc := eR) (fun _ => rfl) Q
 simp only at cf tf
 generalize hcs : rC 4 ts (O.map rwR) = cs at hr cf csl
 have e0 : rwR (Q ++ [R]) = (Q.length + 1, fl eR (Q ++ [R])) := by simp [rwR]
 have hn1 : (Q.length + 1) * 4 = (fl eR (Q ++ [R])).length := by rw [fl_len eR_len]; simp
 by_cases k0 : k = 0
 ·have k0' := eq_true (show (k : Int) = 0 by omega)
  rw [if_pos k0] at sT
  rw [decide_eq_true k0] at hR
  have fsn : fl eR Q ++ [.i .i64 (a : Int), .i .i64 T, .i .i64 T', .b true] = fl eR (Q ++ [R]) := by rw [← fl_snoc, hR]; rfl
  have sT' : T + H + c = T' := sT.symm
  repeat' first | (with_reducible first | refine k_seq ?_ | refine k_skip ?_ | refine k_blkS ?_ | refine k_blkR ?_ | refine k_blkC ?_ | refine k_blkH ?_ | refine k_blkB ?_ | refine k_blkK ?_ | refine k_blkE ?_ | refine k_reg ?_) | with_reducible refine k_head (by with_unfolding_all rfl) ?_ | with_reducible refine k_headS ?_ | (with_reducible refine SepK.mk ?_ ?_; (refine sepQ_P ?_; simp [sepQ, sepG, AOp.late, AOp.free, AOp.xs, AOp.isAl, tokNe, AV.tok, stS_get, strip, AX.val, RG38, GA]; try omega)) | with_reducible refine r_done ?_ | with_reducible refine hr_done ?_ | with_reducible refine s_go (by simp (disch := omega) only [klt', gr, al', rA, nB, nn, hr, row_m hr, read_row (row_m hr), csl, hu, row_m hu, read_row (row_m hu), gu, il1, fl_, cf, tf, row_m tf, read_row (row_m tf), f1, fo, k0', sT', fsn, RG38, EVA, plug, eq_self, simprocAttr]; with_reducible rfl) ?_ | with_reducible refine h_go (by with_unfolding_all rfl) (by simp (disch := omega) only [klt', gr, al', rA, nB, nn, hr, row_m hr, read_row (row_m hr), csl, hu, row_m hu, read_row (row_m hu), gu, il1, fl_, cf, tf, row_m tf, read_row (row_m tf), f1, fo, k0', sT', fsn, RG38, EVA, plug, eq_self, simprocAttr]; with_reducible rfl) ?_ | ((with_reducible refine chk_r ?_); refine r_callF (by simp only [CA, simprocAttr]; rfl) (by exact rfl) (by simp only [CA, simprocAttr]; rfl) rfl ?_) | ((with_reducible refine chk_h ?_); refine hr_callF (by simp only [CA, simprocAttr]; rfl) (by exact rfl) (by simp only [CA, simprocAttr]; rfl) rfl ?_) | ((with_reducible refine chk_r ?_); refine r_callP (by simp only [CA, simprocAttr]; rfl) (by simp only [CA, simprocAttr]; rfl) (by first | exact q60 _) rfl ?_) | ((with_reducible refine chk_h ?_); refine hr_callP (by simp only [CA, simprocAttr]; rfl) (by simp only [CA, simprocAttr]; rfl) (by first | exact q60 _) rfl ?_) | ((with_reducible refine chk_h ?_); refine hr_callP1 (by simp only [CA, simprocAttr]; rfl) (by simp only [CA, simprocAttr]; rfl) (by simp (disch := omega) only [CA, Nat.reduceEqDiff, ↓reduceIte, firstTok_nil, firstTok_sl, firstTok_sl0, firstTok_i, firstTok_b, firstTok_ag, firstTok_p, firstTok_s]; rfl) (by first | exact q60 _) rfl ?_) | ((with_reducible refine chk_h ?_); refine hr_app (by simp (disch := omega) only [klt', gr, al', rA, nB, nn, hr, row_m hr, read_row (row_m hr), csl, hu, row_m hu, read_row (row_m hu), gu, il1, fl_, cf, tf, row_m tf, read_row (row_m tf), f1, fo, k0', sT', fsn, RG38, EVA, plug, eq_self, simprocAttr]; with_reducible rfl) rfl ?_) | (with_reducible refine k_condP (by simp only [GA, simprocAttr]; rfl) (by first | (simp only [BO]; rfl) | rfl) (fun ht => ?_) (fun ht => ?_) <;> try (first | exact False.elim ht | exact absurd rfl ht | exact absurd trivial ht | exact Bool.noConfusion ht)) | (with_reducible refine k_ret ?_; repeat with_reducible (first | refine ret_thru ?_ | refine ret_blk ?_ | refine fin ?_)) | (with_reducible refine k_exit ?_; repeat with_reducible (first | refine thru ?_ | refine out_blk ?_ | refine pass (by decide) ?_)) | ((first | refine post1 ?_ | refine post2 ?_ | refine post3 ?_); simp only [GA, simprocAttr]) | refine post0 ?_
  refine ⟨klt, ts.set n (h.nx + 1 + 5 + 20 + 2 + 6 + 8), ?g1, ?g2, ?g3, ?g4⟩
  case g1 => simp only [Am.keep, List.map_cons, List.map_nil, GA, simprocAttr]; try rfl
  case g2 =>
   rw [← oS, List.map_set, e0]
   refine N.put (by omega) hn1 (by omega) (by omega) (fun hm => by have := tlt _ hm; omega) (by rw [hcs]; simp (disch := omega) only [RG38, EVA, plug, eq_self, simprocAttr] <;> rfl) (by simp (disch := omega) only [RG38, EVA, plug, eq_self, simprocAttr] <;> rfl) fun s b hs hne hb => ?_
   have l1 := tlt s hs
   have n1 := (N.nr s hs).2
   have n2 : ¬ s = 17 := fun e => un (e ▸ hs)
   simp (disch := omega) only [hb, RG38, EVA, plug, eq_self, simprocAttr]
  case g3 =>
   intro hm
   rcases List.mem_or_eq_of_mem_set hm with q | q
   ·exact un q
   ·omega
  case g4 => rw [← fs]; simp (disch := omega) only [RG38, EVA, plug, eq_self, simprocAttr] <;> rfl
 ·have k0' := eq_false (show ¬ (k : Int) = 0 by omega)
  rw [if_neg k0, Int.add_zero] at sT
  rw [decide_eq_false k0] at hR
  have fsn : fl eR Q ++ [.i .i64 (a : Int), .i .i64 T, .i .i64 T', .b false] = fl eR (Q ++ [R]) := by rw [← fl_snoc, hR]; rfl
  have sT' : T + H = T' := sT.symm
  repeat' first | (with_reducible first | refine k_seq ?_ | refine k_skip ?_ | refine k_blkS ?_ | refine k_blkR ?_ | refine k_blkC ?_ | refine k_blkH ?_ | refine k_blkB ?_ | refine k_blkK ?_ | refine k_blkE ?_ | refine k_reg ?_) | with_reducible refine k_head (by with_unfolding_all rfl) ?_ | with_reducible refine k_headS ?_ | (with_reducible refine SepK.mk ?_ ?_; (refine sepQ_P ?_; simp [sepQ, sepG, AOp.late, AOp.free, AOp.xs, AOp.isAl, tokNe, AV.tok, stS_get, strip, AX.val, RG38, GA]; try omega)) | with_reducible refine r_done ?_ | with_reducible refine hr_done ?_ | with_reducible refine s_go (by simp (disch := omega) only [klt', gr, al', rA, nB, nn, hr, row_m hr, read_row (row_m hr), csl, hu, row_m hu, read_row (row_m hu), gu, il1, fl_, cf, tf, row_m tf, read_row (row_m tf), f1, fo, k0', sT', fsn, RG38, EVA, plug, eq_self, simprocAttr]; with_reducible rfl) ?_ | with_reducible refine h_go (by with_unfolding_all rfl) (by simp (disch := omega) only [klt', gr, al', rA, nB, nn, hr, row_m hr, read_row (row_m hr), csl, hu, row_m hu, read_row (row_m hu), gu, il1, fl_, cf, tf, row_m tf, read_row (row_m tf), f1, fo, k0', sT', fsn, RG38, EVA, plug, eq_self, simprocAttr]; with_reducible rfl) ?_ | ((with_reducible refine chk_r ?_); refine r_callF (by simp only [CA, simprocAttr]; rfl) (by exact rfl) (by simp only [CA, simprocAttr]; rfl) rfl ?_) | ((with_reducible refine chk_h ?_); refine hr_callF (by simp only [CA, simprocAttr]; rfl) (by exact rfl) (by simp only [CA, simprocAttr]; rfl) rfl ?_) | ((with_reducible refine chk_r ?_); refine r_callP (by simp only [CA, simprocAttr]; rfl) (by simp only [CA, simprocAttr]; rfl) (by first | exact q60 _) rfl ?_) | ((with_reducible refine chk_h ?_); refine hr_callP (by simp only [CA, simprocAttr]; rfl) (by simp only [CA, simprocAttr]; rfl) (by first | exact q60 _) rfl ?_) | ((with_reducible refine chk_h ?_); refine hr_callP1 (by simp only [CA, simprocAttr]; rfl) (by simp only [CA, simprocAttr]; rfl) (by simp (disch := omega) only [CA, Nat.reduceEqDiff, ↓reduceIte, firstTok_nil, firstTok_sl, firstTok_sl0, firstTok_i, firstTok_b, firstTok_ag, firstTok_p, firstTok_s]; rfl) (by first | exact q60 _) rfl ?_) | ((with_reducible refine chk_h ?_); refine hr_app (by simp (disch := omega) only [klt', gr, al', rA, nB, nn, hr, row_m hr, read_row (row_m hr), csl, hu, row_m hu, read_row (row_m hu), gu, il1, fl_, cf, tf, row_m tf, read_row (row_m tf), f1, fo, k0', sT', fsn, RG38, EVA, plug, eq_self, simprocAttr]; with_reducible rfl) rfl ?_) | (with_reducible refine k_condP (by simp only [GA, simprocAttr]; rfl) (by first | (simp only [BO]; rfl) | rfl) (fun ht => ?_) (fun ht => ?_) <;> try (first | exact False.elim ht | exact absurd rfl ht | exact absurd trivial ht | exact Bool.noConfusion ht)) | (with_reducible refine k_ret ?_; repeat with_reducible (first | refine ret_thru ?_ | refine ret_blk ?_ | refine fin ?_)) | (with_reducible refine k_exit ?_; repeat with_reducible (first | refine thru ?_ | refine out_blk ?_ | refine pass (by decide) ?_)) | ((first | refine post1 ?_ | refine post2 ?_ | refine post3 ?_); simp only [GA, simprocAttr]) | refine post0 ?_
  refine ⟨klt, ts.set n (h.nx + 1 + 5 + 20 + 2 + 8), ?g1, ?g2, ?g3, ?g4⟩
  case g1 => simp only [Am.keep, List.map_cons, List.map_nil, GA, simprocAttr]; try rfl
  case g2 =>
   rw [← oS, List.map_set, e0]
   refine N.put (by omega) hn1 (by omega) (by omega) (fun hm => by have := tlt _ hm; omega) (by rw [hcs]; simp (disch := omega) only [RG38, EVA, plug, eq_self, simprocAttr] <;> rfl) (by simp (disch := omega) only [RG38, EVA, plug, eq_self, simprocAttr] <;> rfl) fun s b hs hne hb => ?_
   have l1 := tlt s hs
   have n1 := (N.nr s hs).2
   have n2 : ¬ s = 17 := fun e => un (e ▸ hs)
   simp (disch := omega) only [hb, RG38, EVA, plug, eq_self, simprocAttr]
  case g3 =>
   intro hm
   rcases List.mem_or_eq_of_mem_set hm with q | q
   ·exact un q
   ·omega
  case g4 => rw [← fs]; simp (disch := omega) only [RG38, EVA, plug, eq_self, simprocAttr] <;> rfl
end Go.Proofs.Ytjncfpfgobojpaa
set_option linter.unusedVariables false
set_option linter.unusedSimpArgs false
namespace Go.Proofs.Ytjncfpfgobojpaa
open Go Go.Am Go.Proofs Go.Sort
def wsm (l : List B) (us : List Bool) : Nat → Int
 | 0 => 0
 | k + 1 => wsm l us k + if us.getD k false = true then hrs (bD l k) else 0
theorem wsm_set {l : List B} {us : List Bool} {a : Nat} (ha : a < us.length) (hb : us.getD a false = false) : ∀ k, wsm l (us.set a true) k = wsm l us k + if a < k then hrs (bD l a) else 0
 | 0 => by simp [wsm]
 | k + 1 => by
   have ih := wsm_set (l := l) ha hb k
   rw [wsm, wsm, getD_setb ha, ih]
   by_cases e : k = a
   ·subst e
    rw [hb, if_neg (Nat.lt_irrefl k), if_pos (Nat.lt_succ_self k), if_pos rfl, if_pos rfl, if_neg Bool.false_ne_true]
   ·rw [if_neg e]
    by_cases q : a < k
    ·rw [if_pos q, if_pos (show a < k + 1 by omega)]; omega
    ·rw [if_neg q, if_neg (show ¬ a < k + 1 by omega)]; omega
theorem wsm_rep (l : List B) (n : Nat) : ∀ k, wsm l (List.replicate n false) k = 0
 | 0 => rfl
 | k + 1 => by
   rw [wsm, wsm_rep l n k]
   have : (List.replicate n false).getD k false = false := by
    by_cases h : k < n <;> simp [List.getD_eq_getElem?_getD, List.getElem?_replicate, h]
   rw [this, if_neg (by decide)]; rfl
theorem wsm_all {l : List B} {us : List Bool} : ∀ {k}, (∀ i, i < k → us.getD i false = true) → wsm l us k = sm l k
 | 0, _ => rfl
 | k + 1, h => by rw [wsm, sm, wsm_all fun i hi => h i (by omega), h k (by omega), if_pos rfl]
theorem er_is {l : List B} {c : Int} {us : List Bool} {row : List Rn} {k : Nat} (h : erJ l c us row k = 0) :
 (0 ≤ (rnD row k).batch ∧ (rnD row k).batch < l.length) ∧ 0 ≤ (rnD row k).fro ∧ us.getD (rnD row k).batch.toNat false = false ∧ (k ≠ 0 → (rnD row (k - 1)).til ≤ (rnD row k).fro) ∧ tm (rnD row k) (hrs (rB l (rnD row k)) + cl (rnD row k) c) = true ∧
  ((rnD row k).clean = true ∨ k ≠ 0 ∧ mayI l (rnD row (k - 1)).batch.toNat (rnD row k).batch.toNat = true) := by
 unfold erJ at h
 split at h
 ·cases h
 rename_i h1
 split at h
 ·cases h
 rename_i h2
 split at h
 ·cases h
 rename_i h3
 split at h
 ·cases h
 rename_i h4
 split at h
 ·cases h
 rename_i h5
 simp only [not_or, Classical.not_not] at h1
 refine ⟨h1.1, by omega, by simpa using h2, fun z => by
  refine Classical.byContradiction fun q => h3 ⟨z, by omega⟩, by simpa using h4, ?_⟩
 cases hc : (rnD row k).clean with
 | true => exact .inl rfl
 | false =>
   refine .inr ⟨fun z => h5 ⟨hc, .inl z⟩, ?_⟩
   cases hm : mayI l (rnD row (k - 1)).batch.toNat (rnD row k).batch.toNat with
   | true => rfl
   | false => exact absurd ⟨hc, .inr hm⟩ h5
theorem tm_is {r : Rn} {n : Int} (h : tm r n = true) : r.til = r.fro + n := by
 have := of_decide_eq_true h
 omega
structure RI (l : List B) (c : Int) (row : List Rn) (E W : Int) (k : Nat) (us : List Bool) : Prop where
 len : us.length = l.length
 mr : ∀ i, i < l.length → us.getD i false = true → hrs (bD l i) + c ≤ E
 w : W ≤ wsm l us l.length
 z : k = 0 → wsm l us l.length = W
 e : k ≠ 0 → c + (wsm l us l.length - W) ≤ endv row k
theorem RI.step {l : List B} (hv : VL l) {c : Int} (hc : 0 ≤ c) {row : List Rn} {E W : Int} {k : Nat} {us : List Bool} (I : RI l c row E W k us) (h : erJ l c us row k = 0) (hE : (rnD row k).til ≤ E) :
 RI l c row E W (k + 1) (mrk us (rnD row k)) ∧ ct (mrk us (rnD row k)) = ct us + 1 := by
 obtain ⟨ix, f0, ub, pr, ht, cd⟩ := er_is h
 have ht := tm_is ht
 have al : (rnD row k).batch.toNat < l.length := by omega
 have hr := hrs_rng (hv.b al)
 have ws := wsm_set (l := l) (a := (rnD row k).batch.toNat) (by rw [I.len]; exact al) ub l.length
 rw [if_pos al] at ws
 have eb : rB l (rnD row k) = bD l (rnD row k).batch.toNat := rfl
 rw [eb] at ht
 have hcl : 0 ≤ cl (rnD row k) c ∧ (k = 0 → cl (rnD row k) c = c) := by
  unfold cl
  constructor
  ·split <;> omega
  ·intro z
   rcases cd with q | ⟨q, _⟩
   ·rw [if_pos q]
   ·exact absurd z q
 have key : c + (wsm l (us.set (rnD row k).batch.toNat true) l.length - W) ≤ (rnD row k).til := by
  by_cases z : k = 0
  ·have := I.z z
   have := hcl.2 z
   omega
  ·have := I.e z
   have p := pr z
   unfold endv at this
   rw [if_neg z] at this
   omega
 have w0 := I.w
 refine ⟨⟨by rw [mrk, List.length_set]; exact I.len, fun i hi q => ?_, by rw [mrk, ws]; omega, fun z => by omega, fun _ => by rw [endv_succ]; exact key⟩, ct_set (by rw [I.len]; exact al) ub⟩
 rw [mrk, getD_setb (by rw [I.len]; exact al)] at q
 by_cases e : i = (rnD row k).batch.toNat
 ·rw [e]; omega
 ·rw [if_neg e] at q
  exact I.mr i hi q
theorem jrow_b {l : List B} (hv : VL l) {c : Int} (hc : 0 ≤ c) {row : List Rn} {E W : Int} (hE : ∀ j, j < row.length → (rnD row j).til ≤ E) : ∀ n k us, k + n = row.length → (jrow l c row n k us).2.1 = 0 → RI l c row E W k us →
 RI l c row E W row.length (jrow l c row n k us).2.2 ∧ ct (jrow l c row n k us).2.2 = ct us + n
 | 0, k, us, hk, _, I => by
   obtain rfl : k = row.length := by omega
   exact ⟨I, by simp [jrow]⟩
 | n + 1, k, us, hk, h, I => by
   rw [jrow] at h ⊢
   split at h
   ·rename_i q
    rw [if_pos q]
    obtain ⟨I2, e⟩ := I.step hv hc q (hE k (by omega))
    obtain ⟨I3, e3⟩ := jrow_b hv hc hE n (k + 1) _ (by omega) h I2
    exact ⟨I3, by omega⟩
   ·rename_i q
    exact absurd h q
structure SI (l : List B) (c : Int) (runs : List (List Rn)) (E : Int) (b : Nat) (us : List Bool) (m : Nat) : Prop where
 len : us.length = l.length
 mr : ∀ i, i < l.length → us.getD i false = true → hrs (bD l i) + c ≤ E
 mb : m ≤ b
 mc : (m : Int) ≤ ct us
 z : m = 0 → ct us = 0
 w : wsm l us l.length + m * c ≤ m * E
 cnt : ct us = (frk runs b).length
theorem SI.step {l : List B} (hv : VL l) {c : Int} (hc : 0 ≤ c) {runs : List (List Rn)} {E : Int} (hE : ∀ b, b < runs.length → ∀ j, j < (rw_ runs b).length → (rnD (rw_ runs b) j).til ≤ E) {b : Nat} {us : List Bool} {m : Nat} (I : SI l c runs E b us m) (hb : b < runs.length)
 (h : (jrow l c (rw_ runs b) (rw_ runs b).length 0 us).2.1 = 0) : ∃ m', SI l c runs E (b + 1) (jrow l c (rw_ runs b) (rw_ runs b).length 0 us).2.2 m' := by
 obtain ⟨J, e⟩ := jrow_b hv hc (hE b hb) (W := wsm l us l.length) (rw_ runs b).length 0 us (by omega) h ⟨I.len, I.mr, Int.le_refl _, fun _ => rfl, fun z => absurd rfl z⟩
 have fc : ct (jrow l c (rw_ runs b) (rw_ runs b).length 0 us).2.2 = (frk runs (b + 1)).length := by
  rw [e, I.cnt, frk_succ hb, List.length_append]; omega
 generalize (jrow l c (rw_ runs b) (rw_ runs b).length 0 us).2.2 = us' at *
 have i1 := I.mb
 have i2 := I.mc
 have i3 := I.z
 have i4 := I.w
 by_cases z : (rw_ runs b).length = 0
 ·have := J.z z
  exact ⟨m, J.len, J.mr, by omega, by omega, fun q => by have := i3 q; omega, by omega, fc⟩
 ·have k := J.e z
  have eE : endv (rw_ runs b) (rw_ runs b).length ≤ E := by
   unfold endv
   rw [if_neg z]
   exact hE b hb _ (by omega)
  refine ⟨m + 1, J.len, J.mr, by omega, by omega, fun q => by omega, ?_, fc⟩
  rw [Int.natCast_add, Int.add_mul, Int.add_mul]
  omega
theorem jrows_b {l : List B} (hv : VL l) {c : Int} (hc : 0 ≤ c) {runs : List (List Rn)} {E : Int} (hE : ∀ b, b < runs.length → ∀ j, j < (rw_ runs b).length → (rnD (rw_ runs b) j).til ≤ E) : ∀ n b us m, b + n = runs.length → (jrows l c runs n b us).2.2 = 0 → SI l c runs E b us m →
 ∃ us' m', us'.all id = true ∧ SI l c runs E runs.length us' m'
 | 0, b, us, m, hb, h, I => by
   obtain rfl : b = runs.length := by omega
   refine ⟨us, m, ?_, I⟩
   cases q : us.all id with
   | true => rfl
   | false => rw [jrows, q, if_pos rfl] at h; cases h
 | n + 1, b, us, m, hb, h, I => by
   rw [jrows] at h
   split at h
   ·rename_i q
    obtain ⟨m', I2⟩ := I.step hv hc hE (by omega) q
    exact jrows_b hv hc hE n (b + 1) _ m' (by omega) h I2
   ·rename_i q
    exact absurd h q
theorem ev_ge {F : List Rn} : ∀ {k p}, p < k → (rnD F p).til ≤ ev F k
 | 0, p, h => by omega
 | k + 1, p, h => by
   rw [ev]
   by_cases e : p = k
   ·subst e
    by_cases q : p = 0 ∨ ev F p < (rnD F p).til
    ·rw [if_pos q]; exact Int.le_refl _
    ·rw [if_neg q]
     simp only [not_or] at q
     omega
   ·have := ev_ge (F := F) (k := k) (p := p) (by omega)
    by_cases q : k = 0 ∨ ev F k < (rnD F k).til
    ·rw [if_pos q]
     rcases q with q | q <;> omega
    ·rw [if_neg q]; exact this
theorem lg_le {l : List B} {X : Int} (h0 : 0 ≤ X) : ∀ {k}, (∀ i, i < k → hrs (bD l i) ≤ X) → lg l k ≤ X
 | 0, _ => h0
 | k + 1, h => by
   have := lg_le h0 (l := l) (k := k) fun i hi => h i (by omega)
   have := h k (by omega)
   simp only [lg]; omega
theorem bm_le_dv (s c : Int) {m k : Nat} (h1 : 1 ≤ m) (h : m ≤ k) : bm s c k ≤ dv s c m := by
 have := bm_mono s c h
 obtain ⟨m, rfl⟩ : ∃ n, m = n + 1 := ⟨m - 1, by omega⟩
 simp only [bm] at this
 omega
theorem dv_le {s c E : Int} (hs : 0 ≤ s) (hc : 0 ≤ c) {m : Nat} (h1 : 1 ≤ m) (h : s + m * c ≤ m * E) : dv s c m ≤ E := by
 have hm : 0 ≤ (m : Int) * c := Int.mul_nonneg (by omega) hc
 unfold dv
 rw [Int.tdiv_eq_ediv_of_nonneg (by omega)]
 have : (s + m * c + m - 1) / (m : Int) < E + 1 := Int.ediv_lt_of_lt_mul (by omega) (by rw [Int.add_mul, Int.one_mul, Int.mul_comm E]; omega)
 omega
theorem frk_ge {runs : List (List Rn)} {b k : Nat} (hb : b < runs.length) (hk : k < (rw_ runs b).length) : (frk runs b).length + k < runs.flatten.length := by
 have := frk_le runs (b + 1)
 rw [frk_succ hb, List.length_append] at this
 omega
theorem jd_is {l : List B} {c : Int} {runs : List (List Rn)} (h : (jdR l c runs).2.2 = 0) : VL l ∧ ((0 ≤ c ∧ c ≤ 100) ∧ ¬ mny runs) ∧ (jrows l c runs runs.length 0 (List.replicate l.length false)).2.2 = 0 := by
 by_cases hv : VL l
 ·by_cases g : (0 ≤ c ∧ c ≤ 100) ∧ ¬ mny runs
  ·rw [jd_go hv g] at h; exact ⟨hv, g, h⟩
  ·rw [jd_arg hv g] at h; cases h
 ·rw [jd_err hv] at h; cases h
theorem bnd {l : List B} {c : Int} {runs : List (List Rn)} {B : Int} (hB : bOK B c) (h : (jdR l c runs).2.2 = 0) (hr : runs.length ≤ B) : (eoR runs).2 = 0 ∧ (bdR l B c).2 = 0 ∧ (bdR l B c).1 ≤ (eoR runs).1 := by
 obtain ⟨hv, ⟨hc, nm⟩, hj⟩ := jd_is h
 rw [eoR_f (mb_f nm)]
 have hE : ∀ b, b < runs.length → ∀ j, j < (rw_ runs b).length → (rnD (rw_ runs b) j).til ≤ ev runs.flatten runs.flatten.length := fun b hb j hj => by
  rw [← frk_at hb hj]
  exact ev_ge (frk_ge hb hj)
 have c0 := ct_zero l.length
 obtain ⟨us, m, ha, I⟩ := jrows_b hv hc.1 hE runs.length 0 (List.replicate l.length false) 0 (by omega) hj ⟨by simp, fun i hi q => by simp [List.getD_eq_getElem?_getD, List.getElem?_replicate, hi] at q, Nat.le_refl _, by rw [c0]; exact Int.le_refl _, fun _ => c0, by rw [wsm_rep]; simp, by rw [c0]; simp [frk]⟩
 have mk : ∀ i, i < l.length → us.getD i false = true := fun i hi => by
  have := List.all_eq_true.1 ha us[i]! 
  rw [List.all_eq_true] at ha
  have hi' : i < us.length := by rw [I.len]; exact hi
  rw [getD_lt hi']
  exact ha _ (List.getElem_mem hi')
 have w := I.w
 rw [wsm_all mk] at w
 have cnt := I.cnt
 rw [frk_all] at cnt
 have cl := ct_le us
 rw [I.len] at cl
 have i3 := I.z
 have mc := I.mc
 have mb' := I.mb
 unfold bdR
 rw [if_pos hv, if_pos hB]
 by_cases z : l.length = 0
 ·rw [if_pos z]
  have f0 : runs.flatten.length = 0 := by omega
  rw [f0]
  exact ⟨rfl, rfl, Int.le_refl _⟩
 ·rw [if_neg z]
  refine ⟨rfl, rfl, ?_⟩
  have E1 : ∀ i, i < l.length → hrs (bD l i) + c ≤ ev runs.flatten runs.flatten.length := fun i hi => I.mr i hi (mk i hi)
  generalize ev runs.flatten runs.flatten.length = E at *
  have m1 : 1 ≤ m := by
   refine Classical.byContradiction fun q => ?_
   have := i3 (by omega)
   have h0 := mk 0 (by omega)
   have : us.count true = 0 := by unfold ct at this; omega
   rw [List.count_eq_zero] at this
   have hi' : 0 < us.length := by rw [I.len]; omega
   rw [getD_lt hi'] at h0
   exact this (h0 ▸ List.getElem_mem hi')
  have s0 := (sm_rng hv l.length (Nat.le_refl _)).1
  have h1 := dv_le s0 hc.1 m1 w
  have h2 := bm_le_dv (sm l l.length) c m1 (show m ≤ min B.toNat l.length by omega)
  have h0 := hrs_rng (hv.b (i := 0) (by omega))
  have e0 := E1 0 (by omega)
  have h3 := lg_le (l := l) (X := E - c) (by omega) (k := l.length) fun i hi => by have := E1 i hi; omega
  simp only
  omega
end Go.Proofs.Ytjncfpfgobojpaa
set_option linter.unusedVariables false
set_option linter.unusedSimpArgs false
namespace Go.Proofs.Ytjncfpfgobojpaa
open Go Go.Am Go.Proofs Go.Sort
def Chn (l : List B) (c : Int) (row : List Rn) : Prop := ∀ k, k < row.length →
 (0 ≤ (rnD row k).batch ∧ (rnD row k).batch < l.length) ∧ 0 ≤ (rnD row k).fro ∧ (k ≠ 0 → (rnD row (k - 1)).til ≤ (rnD row k).fro) ∧ tm (rnD row k) (hrs (rB l (rnD row k)) + cl (rnD row k) c) = true ∧
  ((rnD row k).clean = true ∨ k ≠ 0 ∧ mayI l (rnD row (k - 1)).batch.toNat (rnD row k).batch.toNat = true)
theorem Chn.er {l : List B} {c : Int} {row : List Rn} (h : Chn l c row) {us : List Bool} {k : Nat} (hk : k < row.length) (hu : us.getD (rnD row k).batch.toNat false = false) : erJ l c us row k = 0 := by
 obtain ⟨ix, f0, pr, ht, cd⟩ := h k hk
 rw [er_rest ix (by omega) hu, if_neg (fun z => by have := pr z.1; omega), if_neg (by rw [ht]; decide), if_neg]
 rintro ⟨q1, q2⟩
 rcases cd with z | ⟨z1, z2⟩
 ·rw [z] at q1; cases q1
 ·rcases q2 with q | q
  ·exact z1 q
  ·rw [z2] at q; cases q
theorem rnD_left {P Q : List Rn} {k : Nat} (h : k < P.length) : rnD (P ++ Q) k = rnD P k := by
 simp [rnD, List.getD_eq_getElem?_getD, List.getElem?_append_left h]
theorem rnD_right {P Q : List Rn} {k : Nat} : rnD (P ++ Q) (P.length + k) = rnD Q k := by
 simp only [rnD]
 rw [List.getD_eq_getElem?_getD, List.getElem?_append_right (by omega), Nat.add_sub_cancel_left, ← List.getD_eq_getElem?_getD]
theorem rnD_rRs {l : List B} {c : Int} {row : List Int} {t : Int} {m k : Nat} (h : k < m) : rnD (rRs l c row t m) k = rR l c row t k := by
 simp [rnD, rRs, h]
theorem Chn.add {l : List B} (hv : VL l) {c : Int} (hc : 0 ≤ c ∧ c ≤ 100) {P : List Rn} (h : Chn l c P) {row : List Int} {t : Int} (t0 : 0 ≤ t) (he : endv P P.length ≤ t) (ix : ∀ k, k < row.length → 0 ≤ ni row k ∧ ni row k < l.length) (my : MY l row row.length) :
 Chn l c (P ++ rRs l c row t row.length) ∧ endv (P ++ rRs l c row t row.length) (P ++ rRs l c row t row.length).length ≤ rT l c row t row.length := by
 constructor
 ·intro k hk
  rw [List.length_append, rRs_len] at hk
  by_cases q : k < P.length
  ·rw [rnD_left q]
   have := h k q
   by_cases z : k = 0
   ·subst z
    refine ⟨this.1, this.2.1, fun z => absurd rfl z, this.2.2.2.1, ?_⟩
    rcases this.2.2.2.2 with w | ⟨w, _⟩
    ·exact .inl w
    ·exact absurd rfl w
   ·rw [rnD_left (show k - 1 < P.length by omega)]; exact this
  ·obtain ⟨j, rfl⟩ : ∃ j, k = P.length + j := ⟨k - P.length, by omega⟩
   have hj : j < row.length := by omega
   rw [rnD_right, rnD_rRs hj]
   have tr := rT_rng hv hc ix t (k := j) (by omega)
   have i0 := ix j hj
   have hr := hrs_rng (hv.b (i := (ni row j).toNat) (by omega))
   have sT : rT l c row t (j + 1) = rT l c row t j + hrs (bD l (ni row j).toNat) + if j = 0 then c else 0 := rfl
   refine ⟨i0, by simp only [rR]; omega, fun z => ?_, ?_, ?_⟩
   ·by_cases e : j = 0
    ·subst e
     rw [Nat.add_zero, rnD_left (show P.length - 1 < P.length by omega)]
     unfold endv at he
     rw [if_neg (by omega)] at he
     simp only [rR, rT]; exact he
    ·rw [show P.length + j - 1 = P.length + (j - 1) by omega, rnD_right, rnD_rRs (by omega)]
     simp only [rR]
     rw [show j - 1 + 1 = j by omega]; exact Int.le_refl _
   ·refine decide_eq_true ?_
    simp only [rR, rB, cl, sT]
    by_cases e : j = 0
    ·simp only [e, if_true, decide_true] at *; constructor <;> omega
    ·simp only [e, if_false, decide_false, Bool.false_eq_true] at *; constructor <;> omega
   ·by_cases e : j = 0
    ·exact .inl (by simp only [rR]; exact decide_eq_true e)
    ·refine .inr ⟨by omega, ?_⟩
     rw [show P.length + j - 1 = P.length + (j - 1) by omega, rnD_right, rnD_rRs (by omega)]
     exact my j (by omega) hj
 ·rw [List.length_append, rRs_len]
  by_cases e : row.length = 0
  ·rw [e]
   have : rRs l c row t 0 = [] := rfl
   rw [this, List.append_nil, Nat.add_zero]
   exact he
  ·unfold endv
   rw [if_neg (by omega), show P.length + row.length - 1 = P.length + (row.length - 1) by omega, rnD_right, rnD_rRs (by omega)]
   simp only [rR]
   rw [show row.length - 1 + 1 = row.length by omega]; exact Int.le_refl _
theorem flat_setR {x : List Rn} : ∀ {rows : List (List Rn)} {f : Nat}, f < rows.length → ((rows.set f (rows.getD f [] ++ x)).flatten).Perm (rows.flatten ++ x)
 | [], f, h => by simp at h
 | r :: rs, 0, h => by
   simp only [List.set_cons_zero, List.getD_cons_zero, List.flatten_cons, List.append_assoc]
   exact List.Perm.append_left r List.perm_append_comm
 | r :: rs, f + 1, h => by
   simp only [List.set_cons_succ, List.getD_cons_succ, List.flatten_cons, List.append_assoc]
   exact List.Perm.append_left r (flat_setR (rows := rs) (by simpa using h))
theorem rRs_batch (l : List B) (c : Int) (row : List Int) (t : Int) : (rRs l c row t row.length).map (·.batch) = row := by
 apply List.ext_getElem
 ·simp [rRs]
 ·intro i h1 h2
  simp [rRs, rR, ni, h2]
theorem rRs_clean (l : List B) (c : Int) (row : List Int) (t : Int) : ∀ k, (rRs l c row t k).countP (·.clean) = if k = 0 then 0 else 1
 | 0 => rfl
 | k + 1 => by
   rw [rRs_succ, List.countP_append, rRs_clean l c row t k]
   by_cases e : k = 0
   ·subst e; simp [rR]
   ·simp [rR, e]
structure MD (l : List B) (c : Int) (n : Nat) (rows : List (List Int)) (i : Nat) (s : List (List Rn) × List Int) : Prop where
 perm : (s.1.flatten.map (·.batch)).Perm (fk rows i)
 ch : ∀ j, j < n → Chn l c (s.1.getD j []) ∧ endv (s.1.getD j []) (s.1.getD j []).length ≤ fd s.2 j
 cn : s.1.flatten.countP (·.clean) = i
theorem flat_rep (n : Nat) : (List.replicate n ([] : List Rn)).flatten = [] := by
 induction n with
 | zero => rfl
 | succ n ih => rw [List.replicate_succ, List.flatten_cons, ih]; rfl
theorem asg_md {l : List B} {c : Int} (hc : 0 ≤ c ∧ c ≤ 100) {n : Nat} (hn : 0 < n) {rows : List (List Int)} (C : CkOK l rows) (hr : ∀ i, i < rows.length → (rI rows i).length ≤ 60) : ∀ {i}, i ≤ rows.length → MD l c n rows i (asg l c n rows i)
 | 0, _ => by
   refine ⟨by rw [asg, flat_rep]; simp [fk], fun j hj => ?_, by rw [asg, flat_rep]; rfl⟩
   have e : (List.replicate n ([] : List Rn)).getD j [] = [] := by simp [hj]
   have e2 : fd (List.replicate n 0) j = 0 := by simp [fd, hj]
   rw [asg]
   simp only [e, e2]
   exact ⟨fun k hk => by simp at hk, Int.le_refl _⟩
 | i + 1, h => by
   have hv := C.vl
   have ih := asg_md hc hn C hr (i := i) (by omega)
   have ixs := IXs.of C.ix
   have A := asg_ok hv hc hn ixs hr (i := i) (by omega)
   have fr := fmn_rng (asg l c n rows i).2 hn
   rw [asg]
   generalize asg l c n rows i = S at *
   obtain ⟨o, f⟩ := S
   obtain ⟨l1, l2, Af, Ar⟩ := A
   simp only at *
   have ft := Af _ fr
   generalize fmn f n = m at *
   obtain ⟨h1, h2⟩ := ih.ch m fr
   have ad := h1.add hv hc ft.1 h2 (ixs i (by omega)) (C.my i (by omega))
   have pm := flat_setR (x := rRs l c (rI rows i) (fd f m) (rI rows i).length) (rows := o) (f := m) (by omega)
   have ne : (rI rows i).length ≠ 0 := by
    have : rI rows i ∈ rows := by simp [rI, show i < rows.length by omega]
    exact fun z => C.ne _ this (List.length_eq_zero_iff.1 z)
   refine ⟨?_, fun j hj => ?_, ?_⟩
   ·refine (pm.map _).trans ?_
    rw [List.map_append, rRs_batch, fk_succ (by omega)]
    exact ih.perm.append_right _
   ·simp only [fd]
    rw [getD_set_i (by omega), getD_set_i (by omega)]
    by_cases e : j = m
    ·rw [if_pos e, if_pos e]; exact ad
    ·rw [if_neg e, if_neg e]; exact ih.ch j hj
   ·simp only
    rw [pm.countP_eq, List.countP_append, rRs_clean, if_neg ne, ih.cn]
theorem cn_count (F : List Rn) : ∀ {k}, k ≤ F.length → cn F k = (F.take k).countP (·.clean)
 | 0, _ => by simp [cn]
 | k + 1, h => by
   rw [cn, cn_count F (k := k) (by omega), List.take_succ_eq_append_getElem (by omega), List.countP_append]
   have e : rnD F k = F[k] := getD_lt (by omega) _
   simp only [e]
   cases q : F[k].clean <;> simp [q]
abbrev bts (F : List Rn) (p : Nat) : List Int := (F.take p).map (·.batch)
theorem bts_succ {F : List Rn} {p : Nat} (h : p < F.length) : bts F (p + 1) = bts F p ++ [(rnD F p).batch] := by
 unfold bts
 rw [List.take_succ_eq_append_getElem h, List.map_append]
 simp only [rnD]
 rw [getD_lt h]; rfl
theorem bts_new {F : List Rn} (nd : (F.map (·.batch)).Nodup) {p : Nat} (h : p < F.length) : (rnD F p).batch ∉ bts F p := by
 have e : F.map (·.batch) = bts F (p + 1) ++ (F.drop (p + 1)).map (·.batch) := by
  unfold bts; rw [← List.map_append, List.take_append_drop]
 rw [e, bts_succ h] at nd
 have := (List.nodup_append.1 nd).1
 have := List.nodup_append.1 this
 intro hm
 exact this.2.2 _ hm _ (by simp) rfl
theorem jrow_g {l : List B} {c : Int} {runs : List (List Rn)} (nd : (runs.flatten.map (·.batch)).Nodup) {b : Nat} (hb : b < runs.length) (ch : Chn l c (rw_ runs b)) : ∀ n k us, k + n = (rw_ runs b).length → InR l us (bts runs.flatten ((frk runs b).length + k)) →
 (jrow l c (rw_ runs b) n k us).2.1 = 0 ∧ InR l (jrow l c (rw_ runs b) n k us).2.2 (bts runs.flatten (frk runs (b + 1)).length)
 | 0, k, us, hk, I => by
   obtain rfl : k = (rw_ runs b).length := by omega
   rw [frk_succ hb, List.length_append]
   exact ⟨rfl, I⟩
 | n + 1, k, us, hk, I => by
   have klt : k < (rw_ runs b).length := by omega
   have fp := frk_at hb klt
   have pl := frk_ge hb klt
   have nw := bts_new nd pl
   obtain ⟨ix, -⟩ := ch k klt
   have s := bts_succ pl
   rw [fp] at nw s
   obtain ⟨a, ea⟩ : ∃ a : Nat, (rnD (rw_ runs b) k).batch = a := ⟨(rnD (rw_ runs b) k).batch.toNat, by omega⟩
   have al : a < l.length := by omega
   have hu : us.getD (rnD (rw_ runs b) k).batch.toNat false = false := by
    rw [ea, Int.toNat_natCast]
    cases q : us.getD a false with
    | false => rfl
    | true => exact absurd ((I.is a al).1 q) (ea ▸ nw)
   have e := ch.er klt hu
   rw [jrow, if_pos e]
   refine jrow_g nd hb ch n (k + 1) _ (by omega) ?_
   rw [show (frk runs b).length + (k + 1) = (frk runs b).length + k + 1 by omega, s, mrk, ea, Int.toNat_natCast]
   exact I.step al
theorem jrows_g {l : List B} {c : Int} {runs : List (List Rn)} (nd : (runs.flatten.map (·.batch)).Nodup) (ch : ∀ b, b < runs.length → Chn l c (rw_ runs b)) (all : ∀ i : Nat, i < l.length → (i : Int) ∈ runs.flatten.map (·.batch)) : ∀ n b us, b + n = runs.length → InR l us (bts runs.flatten (frk runs b).length) →
 (jrows l c runs n b us).2.2 = 0
 | 0, b, us, hb, I => by
   obtain rfl : b = runs.length := by omega
   rw [frk_all] at I
   rw [jrows]
   have : us.all id = true := by
    rw [List.all_eq_true]
    intro x hx
    obtain ⟨i, hi, e⟩ := List.getElem_of_mem hx
    have hl := I.len
    have := (I.is i (by omega)).2 (by unfold bts; rw [List.take_length]; exact all i (by omega))
    rw [getD_lt hi, e] at this
    exact this
   simp only [this]; rfl
 | n + 1, b, us, hb, I => by
   obtain ⟨h1, h2⟩ := jrow_g nd (show b < runs.length by omega) (ch b (by omega)) (rw_ runs b).length 0 us (by omega) (by rw [Nat.add_zero]; exact I)
   rw [jrows, if_pos h1]
   exact jrows_g nd ch all n (b + 1) _ (by omega) h2
theorem made_jd {l : List B} {B c : Int} (hB : bOK B c) {rows : List (List Int)} (C : CkOK l rows) (hr : ∀ i, i < rows.length → (rI rows i).length ≤ 60) :
 (asg l c B.toNat rows rows.length).1.length = B ∧ (jdR l c (asg l c B.toNat rows rows.length).1).2.2 = 0 ∧ coR (asg l c B.toNat rows rows.length).1 = ((rows.length : Int), 0) := by
 have hn : 0 < B.toNat := by omega
 have M := asg_md hB.2 hn C hr (Nat.le_refl rows.length)
 have A := asg_ok C.vl hB.2 hn (IXs.of C.ix) hr (Nat.le_refl rows.length)
 have hl6 := C.vl.len
 generalize asg l c B.toNat rows rows.length = S at *
 obtain ⟨o, f⟩ := S
 obtain ⟨l1, l2, Af, Ar⟩ := A
 obtain ⟨pm, ch, cc⟩ := M
 simp only at *
 rw [fk_all] at pm
 have fl_ : o.flatten.length = l.length := by
  have := pm.length_eq
  rw [List.length_map, C.all] at this; exact this
 have nm : ¬ mny o := by
  rintro (q | ⟨i, hi, q⟩)
  ·omega
  ·have := frk_le o (i + 1)
   rw [frk_succ hi, List.length_append] at this
   omega
 refine ⟨by omega, ?_, ?_⟩
 ·rw [jd_go C.vl ⟨hB.2, nm⟩]
  refine jrows_g (pm.nodup_iff.2 C.nd) (fun b hb => (ch b (by omega)).1) (fun i hi => pm.mem_iff.2 (C.mem (by omega) (by omega))) o.length 0 _ (by omega) ?_
  have : bts o.flatten (frk o 0).length = [] := by simp [frk]
  rw [this]
  exact InR.zero l
 ·rw [coR_f (mb_f nm), cn_count _ (Nat.le_refl _), List.take_length, cc]
end Go.Proofs.Ytjncfpfgobojpaa
set_option linter.unusedVariables false
set_option linter.unusedSimpArgs false
namespace Go.Proofs.Ytjncfpfgobojpaa
open Go Go.Am Go.Proofs Go.Sort
theorem rT_mono {l : List B} (hv : VL l) {c : Int} (hc : 0 ≤ c ∧ c ≤ 100) {row : List Int} (ix : ∀ k, k < row.length → 0 ≤ ni row k ∧ ni row k < l.length) (t : Int) {k : Nat} : ∀ {m}, k ≤ m → m ≤ row.length → rT l c row t k ≤ rT l c row t m
 | 0, h, _ => by obtain rfl : k = 0 := by omega
                 exact Int.le_refl _
 | m + 1, h, hm => by
   by_cases e : k = m + 1
   ·subst e; exact Int.le_refl _
   ·have := rT_mono hv hc ix t (k := k) (m := m) (by omega) (by omega)
    have q := ix m (by omega)
    have := hrs_rng (hv.b (i := (ni row m).toNat) (by omega))
    rw [rT]
    split <;> omega
theorem asg_rw {l : List B} (hv : VL l) {c : Int} (hc : 0 ≤ c ∧ c ≤ 100) {n : Nat} (hn : 0 < n) {rows : List (List Int)} (ix : IXs l rows) (hr : ∀ i, i < rows.length → (rI rows i).length ≤ 60) : ∀ {i}, i ≤ rows.length → ∀ j, j < n → ∀ r ∈ (asg l c n rows i).1.getD j [], (0 ≤ r.fro ∧ r.fro ≤ fd (asg l c n rows i).2 j) ∧ 0 ≤ r.til ∧ r.til ≤ fd (asg l c n rows i).2 j
 | 0, _, j, hj, r, h => by simp [asg, hj] at h
 | i + 1, h, j, hj, r, hm => by
   have ih := asg_rw hv hc hn ix hr (i := i) (by omega)
   have A := asg_ok hv hc hn ix hr (i := i) (by omega)
   have fr := fmn_rng (asg l c n rows i).2 hn
   rw [asg] at hm ⊢
   generalize asg l c n rows i = S at *
   obtain ⟨o, f⟩ := S
   obtain ⟨l1, l2, Af, Ar⟩ := A
   simp only [fd] at *
   have ft := Af _ fr
   generalize fmn f n = m at *
   have ixr := ix i (by omega)
   rw [getD_set_i (by omega)] at hm
   rw [getD_set_i (by omega)]
   by_cases e : j = m
   ·rw [if_pos e] at hm ⊢
    rcases List.mem_append.1 hm with q | q
    ·have := ih m fr r q
     have := rT_rng hv hc ixr (f.getD m 0) (Nat.le_refl _)
     omega
    ·obtain ⟨k, hk, rfl⟩ := List.mem_map.1 q
     rw [List.mem_range] at hk
     have h1 := rT_rng hv hc ixr (f.getD m 0) (k := k) (by omega)
     have h2 := rT_rng hv hc ixr (f.getD m 0) (k := k + 1) (by omega)
     have h3 := rT_mono hv hc ixr (f.getD m 0) (k := k) (m := (rI rows i).length) (by omega) (Nat.le_refl _)
     have h4 := rT_mono hv hc ixr (f.getD m 0) (k := k + 1) (m := (rI rows i).length) (by omega) (Nat.le_refl _)
     simp only [rR]
     omega
   ·rw [if_neg e] at hm ⊢
    exact ih j hj r hm
theorem made_rw {l : List B} {B c : Int} (hB : bOK B c) {rows : List (List Int)} (C : CkOK l rows) (hr : ∀ i, i < rows.length → (rI rows i).length ≤ 60) (hn : rows.length ≤ 60) : RW (asg l c B.toNat rows rows.length).1 := by
 intro row hrow r hm
 have A := asg_ok C.vl hB.2 (n := B.toNat) (by omega) (IXs.of C.ix) hr (Nat.le_refl rows.length)
 have R := asg_rw C.vl hB.2 (n := B.toNat) (by omega) (IXs.of C.ix) hr (Nat.le_refl rows.length)
 obtain ⟨j, hj, e⟩ := List.getElem_of_mem hrow
 have l1 := A.l1
 have := R j (by omega) r (by rw [getD_lt hj, e]; exact hm)
 have := A.f j (by omega)
 unfold i64
 omega
end Go.Proofs.Ytjncfpfgobojpaa
set_option linter.unusedVariables false
set_option linter.unusedSimpArgs false
namespace Go.Proofs.Ytjncfpfgobojpaa
open Go Go.Am Go.Proofs Go.Sort
theorem bD_take {l : List B} {n i : Nat} (h : i < n) : bD (l.take n) i = bD l i := by
 simp only [bD]
 rw [List.getD_eq_getElem?_getD, List.getElem?_take_of_lt h, ← List.getD_eq_getElem?_getD]
theorem VL_take {l : List B} (hv : VL l) {n : Nat} (h : n ≤ l.length) : VL (l.take n) := by
 have e : (l.take n).length = n := by rw [List.length_take]; omega
 have := hv.len
 refine ⟨by omega, ?_⟩
 rw [e]
 have k := vk_mono hv.2 h
 exact ⟨fun i hi => by rw [bD_take hi]; exact k.1 i hi, fun i j hi hj => by rw [bD_take (by omega), bD_take hj]; exact k.2 i j hi hj⟩
theorem take_snoc {l : List B} {n : Nat} (h : n < l.length) : l.take (n + 1) = l.take n ++ [bD l n] := by
 rw [List.take_succ_eq_append_getElem h]
 simp only [bD]; rw [getD_lt h]
abbrev fw (l : List B) (n : Nat) : Nat := (rowsL (l.take n)).length
theorem fw_zero (l : List B) : fw l 0 = 0 := by
 have : VL ([] : List B) := ⟨by simp, fun i hi => by simp at hi, fun i j hi hj => by simp at hj⟩
 have := rowsL_le this
 simp only [fw, List.take_zero]
 simpa using this
theorem fw_step {l : List B} {n : Nat} (h : n < l.length) : fw l n ≤ fw l (n + 1) ∧ fw l (n + 1) ≤ fw l n + 1 := by
 refine ⟨rows_mono fun d g q => ?_, rows_more (D := (bD l n).dark) (G := (bD l n).grain) fun d g q => ?_⟩
 ·rw [take_snoc h, prs_snoc]; exact .inl q
 ·rwa [take_snoc h, prs_snoc] at q
def hsum (l : List B) : List Int → Int
 | [] => 0
 | x :: xs => hrs (bD l x.toNat) + hsum l xs
theorem hsum_app (l : List B) (a b : List Int) : hsum l (a ++ b) = hsum l a + hsum l b := by
 induction a with
 | nil => simp [hsum]
 | cons x a ih => rw [List.cons_append, hsum, hsum, ih]; omega
theorem hsum_perm {l : List B} {a b : List Int} (p : a.Perm b) : hsum l a = hsum l b := by
 induction p with
 | nil => rfl
 | cons x _ ih => rw [hsum, hsum, ih]
 | swap x y a => simp only [hsum]; omega
 | trans _ _ i j => rw [i, j]
theorem hsum_ixs (l : List B) : ∀ n, hsum l (cI (List.range n)) = sm l n
 | 0 => rfl
 | n + 1 => by
   rw [List.range_succ]
   simp only [cI, List.map_append]
   rw [hsum_app]
   have := hsum_ixs l n
   simp only [cI] at this
   rw [this, sm]
   simp [hsum]
theorem rT_sum (l : List B) (c : Int) (row : List Int) (t : Int) : ∀ {k}, k ≤ row.length → rT l c row t k = t + hsum l (row.take k) + if k = 0 then 0 else c
 | 0, _ => by simp [rT, hsum]
 | k + 1, h => by
   have ih := rT_sum l c row t (k := k) (by omega)
   have e : ni row k = row[k] := by simp only [ni]; exact getD_lt (by omega) _
   rw [rT, ih, List.take_succ_eq_append_getElem (by omega), hsum_app, e]
   simp only [hsum]
   by_cases z : k = 0
   ·simp only [z, if_true]; omega
   ·simp only [z, if_false, Nat.add_eq_zero_iff, false_and]; omega
def tot (f : List Int) : Nat → Int
 | 0 => 0
 | j + 1 => tot f j + fd f j
theorem tot_set {f : List Int} {m : Nat} (hm : m < f.length) (x : Int) : ∀ j, tot (f.set m x) j = tot f j + if m < j then x - fd f m else 0
 | 0 => by simp [tot]
 | j + 1 => by
   have ih := tot_set hm x j
   rw [tot, tot, ih]
   simp only [fd]
   rw [getD_set_i hm]
   by_cases e : j = m
   ·subst e
    rw [if_pos rfl, if_neg (Nat.lt_irrefl j), if_pos (Nat.lt_succ_self j)]; omega
   ·rw [if_neg e]
    by_cases q : m < j
    ·rw [if_pos q, if_pos (show m < j + 1 by omega)]; omega
    ·rw [if_neg q, if_neg (show ¬ m < j + 1 by omega)]; omega
theorem tot_ge {f : List Int} : ∀ {n j}, (∀ i, i < n → 0 ≤ fd f i) → j < n → fd f j ≤ tot f n ∧ 0 ≤ tot f n
 | 0, j, _, h => by omega
 | n + 1, j, h0, h => by
   have a := h0 n (by omega)
   have nn : 0 ≤ tot f n := by
    by_cases z : n = 0
    ·subst z; exact Int.le_refl _
    ·exact (tot_ge (j := 0) (fun i hi => h0 i (by omega)) (by omega)).2
   rw [tot]
   by_cases e : j = n
   ·subst e; omega
   ·have := tot_ge (n := n) (j := j) (fun i hi => h0 i (by omega)) (by omega)
    omega
structure TD (l : List B) (c : Int) (n : Nat) (rows : List (List Int)) (i : Nat) (s : List (List Rn) × List Int) : Prop where
 tt : tot s.2 n = c * i + hsum l (fk rows i)
 en : ∀ j, j < n → endv (s.1.getD j []) (s.1.getD j []).length = fd s.2 j
theorem tot_rep (n : Nat) : ∀ k, tot (List.replicate n 0) k = 0
 | 0 => rfl
 | k + 1 => by
   rw [tot, tot_rep n k]
   by_cases h : k < n <;> simp [fd, List.getD_eq_getElem?_getD, List.getElem?_replicate, h]
theorem asg_td {l : List B} {c : Int} (hc : 0 ≤ c ∧ c ≤ 100) {n : Nat} (hn : 0 < n) {rows : List (List Int)} (C : CkOK l rows) (hr : ∀ i, i < rows.length → (rI rows i).length ≤ 60) : ∀ {i}, i ≤ rows.length → TD l c n rows i (asg l c n rows i)
 | 0, _ => by
   refine ⟨by rw [asg]; simp only; rw [tot_rep]; simp [fk, hsum], fun j hj => ?_⟩
   have e : (List.replicate n ([] : List Rn)).getD j [] = [] := by simp [hj]
   have e2 : fd (List.replicate n 0) j = 0 := by simp [fd, hj]
   rw [asg]
   simp only [e, e2]
   rfl
 | i + 1, h => by
   have hv := C.vl
   have ih := asg_td hc hn C hr (i := i) (by omega)
   have A := asg_ok hv hc hn (IXs.of C.ix) hr (i := i) (by omega)
   have fr := fmn_rng (asg l c n rows i).2 hn
   rw [asg]
   generalize asg l c n rows i = S at *
   obtain ⟨o, f⟩ := S
   obtain ⟨l1, l2, Af, Ar⟩ := A
   obtain ⟨h1, h2⟩ := ih
   simp only at *
   generalize fmn f n = m at *
   have ne : (rI rows i).length ≠ 0 := by
    have : rI rows i ∈ rows := by simp [rI, show i < rows.length by omega]
    exact fun z => C.ne _ this (List.length_eq_zero_iff.1 z)
   have sT := rT_sum l c (rI rows i) (fd f m) (Nat.le_refl _)
   rw [List.take_length, if_neg ne] at sT
   refine ⟨?_, fun j hj => ?_⟩
   ·simp only
    rw [tot_set (by omega), if_pos fr, sT, fk_succ (by omega), hsum_app, h1, Int.natCast_add, Int.mul_add]
    omega
   ·simp only [fd]
    rw [getD_set_i (by omega), getD_set_i (by omega)]
    by_cases e : j = m
    ·rw [if_pos e, if_pos e]
     rw [List.length_append, rRs_len]
     unfold endv
     rw [if_neg (by omega), show (o.getD m []).length + (rI rows i).length - 1 = (o.getD m []).length + ((rI rows i).length - 1) by omega, rnD_right, rnD_rRs (by omega)]
     simp only [rR]
     rw [show (rI rows i).length - 1 + 1 = (rI rows i).length by omega]
    ·rw [if_neg e, if_neg e]; exact h2 j hj
theorem ev_le {F : List Rn} {X : Int} (h0 : 0 ≤ X) : ∀ {k}, (∀ p, p < k → (rnD F p).til ≤ X) → ev F k ≤ X
 | 0, _ => h0
 | k + 1, h => by
   have := ev_le h0 (F := F) (k := k) fun p hp => h p (by omega)
   have := h k (by omega)
   rw [ev]
   by_cases q : k = 0 ∨ ev F k < (rnD F k).til
   ·rw [if_pos q]; omega
   ·rw [if_neg q]; omega
theorem rows_sum {l : List B} : hsum l (iR (rowsL l)).flatten = sm l l.length := by
 rw [iR_flat, ← hsum_ixs]
 have p : (rowsL l).flatten.Perm (orderL l) := by
  have := rows_perm (l := l) (k := l.length) (Nat.le_refl _)
  rwa [List.take_of_length_le (by rw [order_len]; exact Nat.le_refl _)] at this
 exact hsum_perm ((p.trans (order_perm l)).map _)
theorem made_end {l : List B} (hv : VL l) {B c : Int} (hB : bOK B c) : (eoR (asg l c B.toNat (iR (rowsL l)) (iR (rowsL l)).length).1).1 ≤ c * (rowsL l).length + sm l l.length ∧
 (B = 1 → (eoR (asg l c B.toNat (iR (rowsL l)) (iR (rowsL l)).length).1).1 = c * (rowsL l).length + sm l l.length) := by
 have C := made_ok hv
 obtain ⟨t1, t2, t3⟩ := made_small hv
 have hn : 0 < B.toNat := by omega
 have T := asg_td hB.2 hn C t2 (Nat.le_refl _)
 have A := asg_ok hv hB.2 hn (IXs.of C.ix) t2 (Nat.le_refl _)
 have R := asg_rw hv hB.2 hn (IXs.of C.ix) t2 (Nat.le_refl _)
 obtain ⟨m1, m2, m3⟩ := made_jd hB C t2
 obtain ⟨_, ⟨_, nm⟩, _⟩ := jd_is m2
 have ll : (iR (rowsL l)).length = (rowsL l).length := List.length_map _
 rw [eoR_f (mb_f nm)]
 have tt := T.tt
 have tt2 : c * ((iR (rowsL l)).length : Int) + hsum l (fk (iR (rowsL l)) (iR (rowsL l)).length) = c * (rowsL l).length + sm l l.length := by rw [fk_all, rows_sum, ll]
 rw [tt2] at tt
 rw [← tt]
 clear tt2
 have en := T.en
 have Af := A.f
 have l1 := A.l1
 clear T A m2 m3 nm tt
 generalize asg l c B.toNat (iR (rowsL l)) (iR (rowsL l)).length = S at *
 obtain ⟨o, f⟩ := S
 simp only at *
 have tg := fun j (hj : j < B.toNat) => tot_ge (f := f) (n := B.toNat) (j := j) (fun i hi => (Af i hi).1) hj
 constructor
 ·refine ev_le (tg 0 hn).2 fun p hp => ?_
  have hm : rnD o.flatten p ∈ o.flatten := by simp only [rnD]; rw [getD_lt hp]; exact List.getElem_mem hp
  obtain ⟨row, hrow, hr⟩ := List.mem_flatten.1 hm
  obtain ⟨j, hj, e⟩ := List.getElem_of_mem hrow
  have := R j (by omega) _ (by rw [getD_lt hj, e]; exact hr)
  have := tg j (by omega)
  omega
 ·intro e
  subst e
  have e1 : o.length = 1 := by omega
  obtain ⟨r, rfl⟩ : ∃ r, o = [r] := by
   match o, e1 with
   | [r], _ => exact ⟨r, rfl⟩
  have h1 := en 0 hn
  have ef : ([r] : List (List Rn)).flatten = r := by simp
  simp only [List.getD_cons_zero] at h1 R
  have t1 : tot f (1 : Int).toNat = fd f 0 := by
   show tot f 1 = fd f 0
   rw [tot, tot]; omega
  rw [ef, t1, ← h1]
  have R0 := R 0 hn
  simp only [List.getD_cons_zero] at R0
  have f0 := (Af 0 hn).1
  refine Int.le_antisymm (ev_le (by rw [h1]; exact f0) fun p hp => ?_) ?_
  ·have := R0 (rnD r p) (by simp only [rnD]; rw [getD_lt hp]; exact List.getElem_mem hp)
   rw [h1]; exact this.2.2
  ·unfold endv
   by_cases z : r.length = 0
   ·rw [if_pos z, z]; exact Int.le_refl _
   ·rw [if_neg z]
    exact ev_ge (by omega)
end Go.Proofs.Ytjncfpfgobojpaa
set_option linter.unusedVariables false
set_option linter.unusedSimpArgs false
namespace Go.Proofs.Ytjncfpfgobojpaa
open Go Go.Am Go.Proofs Go.Sort
def Ly : List B := [⟨1, 0, 0, 0, 0, 0, 0⟩, ⟨2, 0, 0, 0, 0, 0, 0⟩]
theorem Ly_VL : VL Ly := ⟨by decide, by
 show vk Ly 2
 refine vk_succ.2 ⟨vk_succ.2 ⟨⟨fun i h => by omega, fun i j h1 h2 => by omega⟩, by decide, fun i h => by omega⟩, by decide, fun i h => ?_⟩
 obtain rfl : i = 0 := by omega
 decide⟩
theorem Ly_order : orderL Ly = [0, 1] := by
 unfold orderL
 have : List.range Ly.length = [0, 1] := rfl
 rw [this]
 exact List.mergeSort_of_pairwise (by simp; decide)
theorem Ly_rows : rowsL Ly = [[0, 1]] := by
 unfold rowsL rowsK
 rw [Ly_order]
 decide
theorem pc50 : PC Try.prog 50 [] (.b true) := by
 refine pc_fn fn50 (by simp only [AV.plains, AV.plain, il_plain, bl_plain, Bool.and_true, Bool.true_and, Bool.and_self]) (by simp only [AV.plains, AV.plain, il_plain, bl_plain, Bool.and_true, Bool.true_and, Bool.and_self]) (Nat.le_of_ble_eq_true rfl) ?_
 rw [initSt0]
 have q1 := pc20 Ly (by decide)
 have e : erR Ly = 0 := by unfold erR; rw [if_pos Ly_VL]
 have r : rowsR Ly = [[0, 1]] := by unfold rowsR; rw [if_pos Ly_VL]; exact Ly_rows
 rw [e, r] at q1
 have hE : fl eB Ly = [.i .i64 1, .i .i64 0, .i .i64 0, .i .i64 0, .i .i64 0, .i .i64 0, .i .i64 0, .i .i64 2, .i .i64 0, .i .i64 0, .i .i64 0, .i .i64 0, .i .i64 0, .i .i64 0] := rfl
 have hP : AV.plains (fl eB Ly) = true := flB_plain Ly
 simp only [vB, hE] at q1 hP
 repeat' first | (with_reducible first | refine k_seq ?_ | refine k_skip ?_ | refine k_blkS ?_ | refine k_blkR ?_ | refine k_blkC ?_ | refine k_blkH ?_ | refine k_blkB ?_ | refine k_blkK ?_ | refine k_blkE ?_ | refine k_reg ?_) | with_reducible refine r_done ?_ | with_reducible refine s_go (by simp (disch := omega) only [c50r0, c50r1, c50r2, EVA, plug, eq_self, simprocAttr]; with_reducible rfl) ?_ | ((with_reducible refine chk_r ?_); refine r_callF (by simp only [CA, simprocAttr]; rfl) (by exact rfl) (by simp only [CA, simprocAttr]; rfl) rfl ?_) | ((with_reducible refine chk_r ?_); refine r_callP (by simp only [CA, simprocAttr]; rfl) (by simp only [CA, simprocAttr]; rfl) (by first | ((refine PC.at q1 rfl ?_; exact .cons (.row (by simp (disch := omega) only [c50r0, c50r1, c50r2, EVA, plug, eq_self, simprocAttr] <;> rfl) hP) .nil); all_goals fail)) rfl ?_) | (with_reducible refine k_condP (by simp only [GA, simprocAttr]; rfl) (by first | (simp only [BO]; rfl) | rfl) (fun ht => ?_) (fun ht => ?_) <;> try (first | exact False.elim ht | exact absurd rfl ht | exact absurd trivial ht | exact Bool.noConfusion ht)) | (with_reducible refine k_ret ?_; repeat with_reducible (first | refine ret_thru ?_ | refine ret_blk ?_ | refine fin ?_)) | (with_reducible refine k_exit ?_; repeat with_reducible (first | refine thru ?_ | refine out_blk ?_ | refine pass (by decide) ?_)) | ((first | refine post1 ?_ | refine post2 ?_ | refine post3 ?_); simp only [GA, simprocAttr]) | refine post0 ?_
 exact ends_eq (b_eq (by decide))
theorem RG51 : (type_of% @c51r0.eq_1) ∧ (type_of% @c51r1.eq_1) ∧ (type_of% @c51r2.eq_1) ∧ (type_of% @c51r3.eq_1) ∧ (type_of% @c51r4.eq_1) ∧ (type_of% @c51r5.eq_1) := ⟨@c51r0.eq_1, @c51r1.eq_1, @c51r2.eq_1, @c51r3.eq_1, @c51r4.eq_1, @c51r5.eq_1⟩
theorem pc51 (l : List B) (hl : l.length ≤ 9223372036854775807) (B c : Int) (runs : List (List Rn)) (hn : runs.length ≤ 9223372036854775807) (rw_' : RW runs) (R S E D : Int) (h1 : (jdR l c runs).2.2 = 0) (h2 : coR runs = (R, 0)) (h3 : eoR runs = (E, 0)) (h4 : bdR l B c = (D, 0)) (h5 : D ≤ E) (h6 : E ≤ S) (h7 : ¬ crw runs) :
 PC Try.prog 51 [vB l, .i .i64 B, .i .i64 c, vRR runs, .i .i64 R, .i .i64 S] (.b true) := by
 refine pc_fn fn51 (by simp only [AV.plains, AV.plain, il_plain, bl_plain, Bool.and_true, Bool.true_and, Bool.and_self, flB_plain, vRR_plain]) (by simp only [AV.plains, AV.plain, il_plain, bl_plain, Bool.and_true, Bool.true_and, Bool.and_self, flB_plain, vRR_plain]) (Nat.le_of_ble_eq_true rfl) ?_
 rw [initSt6]
 have q42 := pc42 l hl c runs hn rw_'
 have q44 := pc44 runs hn
 have q46 := pc46 runs hn
 have q27 := pc27 l hl B c
 have q41 := pc41 runs hn
 rw [h1] at q42
 rw [h3] at q44
 rw [h2] at q46
 rw [h4] at q27
 rw [crB_f h7] at q41
 repeat' first | (with_reducible first | refine k_seq ?_ | refine k_skip ?_ | refine k_blkS ?_ | refine k_blkR ?_ | refine k_blkC ?_ | refine k_blkH ?_ | refine k_blkB ?_ | refine k_blkK ?_ | refine k_blkE ?_ | refine k_reg ?_) | with_reducible refine r_done ?_ | with_reducible refine s_go (by simp (disch := omega) only [h5, h6, RG51, EVA, plug, eq_self, simprocAttr]; with_reducible rfl) ?_ | ((with_reducible refine chk_r ?_); refine r_callF (by simp only [CA, simprocAttr]; rfl) (by exact rfl) (by simp only [CA, simprocAttr]; rfl) rfl ?_) | ((with_reducible refine chk_r ?_); refine r_callP (by simp only [CA, simprocAttr]; rfl) (by simp only [CA, simprocAttr]; rfl) (by first | exact q42 _ | exact q44 _ | exact q46 _ | exact q27 _ | exact q41 _) rfl ?_) | ((with_reducible refine chk_r ?_); refine r_callG (by simp only [CA, simprocAttr]; rfl) (by simp only [CA, simprocAttr]; rfl) (by simp only [CA, simprocAttr]; rfl) (by intro hg; (try simp only [BO] at hg); first | exact q42 _ | exact q44 _ | exact q46 _ | exact q27 _ | exact q41 _) rfl ?_) | (with_reducible refine k_condP (by simp only [GA, simprocAttr]; rfl) (by first | (simp only [BO]; rfl) | rfl) (fun ht => ?_) (fun ht => ?_) <;> try (first | exact False.elim ht | exact absurd rfl ht | exact absurd trivial ht | exact Bool.noConfusion ht)) | (with_reducible refine k_ret ?_; repeat with_reducible (first | refine ret_thru ?_ | refine ret_blk ?_ | refine fin ?_)) | (with_reducible refine k_exit ?_; repeat with_reducible (first | refine thru ?_ | refine out_blk ?_ | refine pass (by decide) ?_)) | ((first | refine post1 ?_ | refine post2 ?_ | refine post3 ?_); simp only [GA, simprocAttr]) | refine post0 ?_
 all_goals first | exact ends_of | exact ends_eq rfl
theorem nm_crw {runs : List (List Rn)} (h : ¬ mny runs) : ¬ crw runs := by
 rintro (⟨i, hi, q⟩ | q)
 ·exact h (.inr ⟨i, hi, by omega⟩)
 ·exact h (.inl (by omega))
theorem ln_one {l : List B} (hv : VL l) {i : Nat} (hi : i < l.length) : lnR l [(i : Int)] = (hrs (bD l i), 0) := by
 have g : GK l [(i : Int)] [(i : Int)].length := by
  intro j hj
  simp only [List.length_cons, List.length_nil] at hj
  obtain rfl : j = 0 := by omega
  refine ⟨by simp [ni], by simp [ni, hi], ?_⟩
  rintro ⟨m, hm, _⟩
  omega
 unfold lnR
 rw [if_pos hv, if_pos g]
 simp [lnS, ni]
theorem flB_take (l : List B) (n : Nat) : (fl eB l).take (n * 7) = fl eB (l.take n) := fl_take eB_len l n
section
variable {P : Program} {N : Nat} {Q : Exit → St → AH → Prop} {st : St} {h : AH}
theorem w_frzS {c : AC} (d : Nat) {t n a : Nat} (k : Nat) {cs : List AV} (hm : h.m t = some (.cells true cs)) (hd : st.get d = .sl t 0 n a) (hl : n * k = cs.length) (w : W P N c Q ((d, .vs n cs) :: st) (h.kill t)) : W P N c Q st h :=
 w_frz hm (fun x => by
  simp only [St.get]
  by_cases e : x = d
  ·subst e
   rw [if_pos rfl, hd]
   have := @FrzV.sl t cs 0 n k a (by omega)
   rwa [List.drop_zero, hl, List.take_length] at this
  ·rw [if_neg e]; exact .same) w
end
theorem RG15 : (type_of% @c15r0.eq_1) ∧ (type_of% @c15r1.eq_1) ∧ (type_of% @c15r2.eq_1) ∧ (type_of% @c15r3.eq_1) ∧ (type_of% @c15r4.eq_1) ∧ (type_of% @c15r5.eq_1) ∧ (type_of% @c15r6.eq_1) ∧ (type_of% @c15r7.eq_1) ∧ (type_of% @c15r8.eq_1) ∧ (type_of% @c15r9.eq_1) ∧ (type_of% @c15r10.eq_1) ∧ (type_of% @c15r11.eq_1) ∧ (type_of% @c15r12.eq_1) ∧ (type_of% @c15r13.eq_1) ∧ (type_of% @c15r14.eq_1) ∧ (type_of% @c15r15.eq_1) ∧ (type_of% @c15r16.eq_1) ∧ (type_of% @c15r17.eq_1) ∧ (type_of% @c15r19.eq_1) ∧ (type_of% @c15r20.eq_1) ∧ (type_of% @c15r21.eq_1) ∧ (type_of% @c15r22.eq_1) ∧ (type_of% @c15r23.eq_1) ∧ (type_of% @c15r24.eq_1) ∧ (type_of% @c15r25.eq_1) ∧ (type_of% @c15r26.eq_1) ∧ (type_of% @c15r27.eq_1) ∧ (type_of% @c15r28.eq_1) ∧ (type_of% @c15r29.eq_1) ∧ (type_of% @c15r30.eq_1) ∧ (type_of% @c15r31.eq_1) ∧ (type_of% @c15r33.eq_1) ∧ (type_of% @c15r34.eq_1) := ⟨@c15r0.eq_1, @c15r1.eq_1, @c15r2.eq_1, @c15r3.eq_1, @c15r4.eq_1, @c15r5.eq_1, @c15r6.eq_1, @c15r7.eq_1, @c15r8.eq_1, @c15r9.eq_1, @c15r10.eq_1, @c15r11.eq_1, @c15r12.eq_1, @c15r13.eq_1, @c15r14.eq_1, @c15r15.eq_1, @c15r16.eq_1, @c15r17.eq_1, @c15r19.eq_1, @c15r20.eq_1, @c15r21.eq_1, @c15r22.eq_1, @c15r23.eq_1, @c15r24.eq_1, @c15r25.eq_1, @c15r26.eq_1, @c15r27.eq_1, @c15r28.eq_1, @c15r29.eq_1, @c15r30.eq_1, @c15r31.eq_1, @c15r33.eq_1, @c15r34.eq_1⟩
set_option maxHeartbeats 4000000 in
theorem pc15 (l : List B) (hl : l.length ≤ 9223372036854775807) (y z : Int) (hy : 0 ≤ y ∧ y ≤ 255) (hz : 0 ≤ z ∧ z ≤ 255) : PC Try.prog 15 [vB l, .ag [.i .u8 y, .i .u8 z]] (.b true) := by
 refine pc_fn fn15 (by simp only [AV.plains, AV.plain, il_plain, bl_plain, Bool.and_true, Bool.true_and, Bool.and_self, flB_plain]) (by simp only [AV.plains, AV.plain, il_plain, bl_plain, Bool.and_true, Bool.true_and, Bool.and_self, flB_plain]) (Nat.le_of_ble_eq_true rfl) ?_
 rw [initSt2]
 have q23 := pc23 l hl
 by_cases c1 : (16 : Int) < l.length
 ·repeat' first
   | with_reducible refine k_seq ?_
   | with_reducible refine k_skip ?_
   | with_reducible refine k_blkS ?_
   | with_reducible refine k_blkR ?_
   | with_reducible refine k_blkC ?_
   | with_reducible refine k_blkH ?_
   | with_reducible refine k_blkB ?_
   | with_reducible refine k_blkK ?_
   | with_reducible refine k_blkE ?_
   | with_reducible refine k_reg ?_
   | with_reducible refine k_head (by with_unfolding_all rfl) ?_
   | with_reducible refine k_headS ?_
   | (with_reducible refine SepK.mk ?_ ?_; (refine sepQ_P ?_; simp [sepQ, sepG, AOp.late, AOp.free, AOp.xs, AOp.isAl, tokNe, AV.tok, stS_get, strip, AX.val, RG15, GA]; try omega))
   | with_reducible refine r_done ?_
   | with_reducible refine hr_done ?_
   | with_reducible refine s_go (by simp (disch := omega) only [c1, RG15, EVA, plug, eq_self, simprocAttr]; with_reducible rfl) ?_
   | with_reducible refine h_go (by with_unfolding_all rfl) (by simp (disch := omega) only [c1, RG15, EVA, plug, eq_self, simprocAttr]; with_reducible rfl) ?_
   | ((with_reducible refine chk_r ?_); refine r_callF (by simp only [CA, simprocAttr]; rfl) (by exact rfl) (by simp only [CA, simprocAttr]; rfl) rfl ?_)
   | ((with_reducible refine chk_h ?_); refine hr_callF (by simp only [CA, simprocAttr]; rfl) (by exact rfl) (by simp only [CA, simprocAttr]; rfl) rfl ?_)
   | ((with_reducible refine chk_r ?_); refine r_callP (by simp only [CA, simprocAttr]; rfl) (by simp only [CA, simprocAttr]; rfl) (by first | exact q23 _ | exact pc50 _) rfl ?_)
   | ((with_reducible refine chk_h ?_); refine hr_callP (by simp only [CA, simprocAttr]; rfl) (by simp only [CA, simprocAttr]; rfl) (by first | exact q23 _ | exact pc50 _) rfl ?_)
   | ((with_reducible refine chk_h ?_); refine hr_callP1 (by simp only [CA, simprocAttr]; rfl) (by simp only [CA, simprocAttr]; rfl) (by simp (disch := omega) only [CA, Nat.reduceEqDiff, ↓reduceIte, firstTok_nil, firstTok_sl, firstTok_sl0, firstTok_i, firstTok_b, firstTok_ag, firstTok_p, firstTok_s]; rfl) (by first | exact q23 _ | exact pc50 _) rfl ?_)
   | ((with_reducible refine chk_r ?_); refine r_callG (by simp only [CA, simprocAttr]; rfl) (by simp only [CA, simprocAttr]; rfl) (by simp only [CA, simprocAttr]; rfl) (by intro hg; (try simp only [BO] at hg); first | exact q23 _ | exact pc50 _) rfl ?_)
   | ((with_reducible refine chk_h ?_); refine hr_callG (by simp only [CA, simprocAttr]; rfl) (by simp only [CA, simprocAttr]; rfl) (by simp only [CA, simprocAttr]; rfl) (by intro hg; (try simp only [BO] at hg); first | exact q23 _ | exact pc50 _) rfl ?_)
   | ((with_reducible refine chk_h ?_); refine hr_app (by simp (disch := omega) only [c1, RG15, EVA, plug, eq_self, simprocAttr]; with_reducible rfl) rfl ?_)
   | (with_reducible refine k_condP (by simp only [GA, simprocAttr]; rfl) (by first | (simp only [BO]; rfl) | rfl) (fun ht => ?_) (fun ht => ?_) <;> try (first | exact False.elim ht | exact absurd rfl ht | exact absurd trivial ht | exact Bool.noConfusion ht))
   | (with_reducible refine k_ret ?_; repeat with_reducible (first | refine ret_thru ?_ | refine ret_blk ?_ | refine fin ?_))
   | (with_reducible refine k_exit ?_; repeat with_reducible (first | refine thru ?_ | refine out_blk ?_ | refine pass (by decide) ?_))
   | (refine post1 ?_; simp only [GA, simprocAttr])
   | (refine post2 ?_; simp only [GA, simprocAttr])
   | (refine post3 ?_; simp only [GA, simprocAttr])
   | (refine postc (by simp only [GA, simprocAttr]; rfl) (by simp (disch := omega) only [c1, RG15, EVA, plug, eq_self, simprocAttr]; rfl) ?_)
   | refine post0 ?_
  all_goals first | exact ends_of | exact ends_eq rfl
 by_cases hv : VL l
 rotate_left
 ·rw [vl_f hv] at q23
  repeat' first | (with_reducible first | refine k_seq ?_ | refine k_skip ?_ | refine k_blkS ?_ | refine k_blkR ?_ | refine k_blkC ?_ | refine k_blkH ?_ | refine k_blkB ?_ | refine k_blkK ?_ | refine k_blkE ?_ | refine k_reg ?_) | with_reducible refine k_head (by with_unfolding_all rfl) ?_ | with_reducible refine k_headS ?_ | (with_reducible refine SepK.mk ?_ ?_; (refine sepQ_P ?_; simp [sepQ, sepG, AOp.late, AOp.free, AOp.xs, AOp.isAl, tokNe, AV.tok, stS_get, strip, AX.val, RG15, GA]; try omega)) | with_reducible refine r_done ?_ | with_reducible refine hr_done ?_ | with_reducible refine s_go (by simp (disch := omega) only [c1, RG15, EVA, plug, eq_self, simprocAttr]; with_reducible rfl) ?_ | with_reducible refine h_go (by with_unfolding_all rfl) (by simp (disch := omega) only [c1, RG15, EVA, plug, eq_self, simprocAttr]; with_reducible rfl) ?_ | ((with_reducible refine chk_r ?_); refine r_callF (by simp only [CA, simprocAttr]; rfl) (by exact rfl) (by simp only [CA, simprocAttr]; rfl) rfl ?_) | ((with_reducible refine chk_h ?_); refine hr_callF (by simp only [CA, simprocAttr]; rfl) (by exact rfl) (by simp only [CA, simprocAttr]; rfl) rfl ?_) | ((with_reducible refine chk_r ?_); refine r_callP (by simp only [CA, simprocAttr]; rfl) (by simp only [CA, simprocAttr]; rfl) (by first | exact q23 _ | exact pc50 _) rfl ?_) | ((with_reducible refine chk_h ?_); refine hr_callP (by simp only [CA, simprocAttr]; rfl) (by simp only [CA, simprocAttr]; rfl) (by first | exact q23 _ | exact pc50 _) rfl ?_) | ((with_reducible refine chk_h ?_); refine hr_callP1 (by simp only [CA, simprocAttr]; rfl) (by simp only [CA, simprocAttr]; rfl) (by simp (disch := omega) only [CA, Nat.reduceEqDiff, ↓reduceIte, firstTok_nil, firstTok_sl, firstTok_sl0, firstTok_i, firstTok_b, firstTok_ag, firstTok_p, firstTok_s]; rfl) (by first | exact q23 _ | exact pc50 _) rfl ?_) | ((with_reducible refine chk_r ?_); refine r_callG (by simp only [CA, simprocAttr]; rfl) (by simp only [CA, simprocAttr]; rfl) (by simp only [CA, simprocAttr]; rfl) (by intro hg; (try simp only [BO] at hg); first | exact q23 _ | exact pc50 _) rfl ?_) | ((with_reducible refine chk_h ?_); refine hr_callG (by simp only [CA, simprocAttr]; rfl) (by simp only [CA, simprocAttr]; rfl) (by simp only [CA, simprocAttr]; rfl) (by intro hg; (try simp only [BO] at hg); first | exact q23 _ | exact pc50 _) rfl ?_) | ((with_reducible refine chk_h ?_); refine hr_app (by simp (disch := omega) only [c1, RG15, EVA, plug, eq_self, simprocAttr]; with_reducible rfl) rfl ?_) | (with_reducible refine k_condP (by simp only [GA, simprocAttr]; rfl) (by first | (simp only [BO]; rfl) | rfl) (fun ht => ?_) (fun ht => ?_) <;> try (first | exact False.elim ht | exact absurd rfl ht | exact absurd trivial ht | exact Bool.noConfusion ht)) | (with_reducible refine k_ret ?_; repeat with_reducible (first | refine ret_thru ?_ | refine ret_blk ?_ | refine fin ?_)) | (with_reducible refine k_exit ?_; repeat with_reducible (first | refine thru ?_ | refine out_blk ?_ | refine pass (by decide) ?_)) | ((first | refine post1 ?_ | refine post2 ?_ | refine post3 ?_); simp only [GA, simprocAttr]) | refine post0 ?_
  all_goals first | exact ends_of | exact ends_eq rfl
 rw [vl_t hv] at q23
 obtain ⟨Y, eY⟩ : ∃ Y, y.tmod 8 = Y := ⟨_, rfl⟩
 obtain ⟨Z, eZ⟩ : ∃ Z, z.tmod 101 = Z := ⟨_, rfl⟩
 have bY : 0 ≤ Y ∧ Y < 8 := by rw [← eY, Int.tmod_eq_emod_of_nonneg hy.1]; omega
 have bZ : 0 ≤ Z ∧ Z < 101 := by rw [← eZ, Int.tmod_eq_emod_of_nonneg hz.1]; omega
 have hB : bOK (1 + Y) Z := by simp only [bOK]; omega
 repeat' first | (with_reducible first | refine k_seq ?_ | refine k_skip ?_ | refine k_blkS ?_ | refine k_blkR ?_ | refine k_blkC ?_ | refine k_blkH ?_ | refine k_blkB ?_ | refine k_blkK ?_ | refine k_blkE ?_ | refine k_reg ?_) | with_reducible refine k_head (by with_unfolding_all rfl) ?_ | with_reducible refine k_headS ?_ | (with_reducible refine SepK.mk ?_ ?_; (refine sepQ_P ?_; simp [sepQ, sepG, AOp.late, AOp.free, AOp.xs, AOp.isAl, tokNe, AV.tok, stS_get, strip, AX.val, RG15, GA]; try omega)) | with_reducible refine r_done ?_ | with_reducible refine hr_done ?_ | with_reducible refine s_go (by simp (disch := omega) only [c1, eY, eZ, RG15, EVA, plug, eq_self, simprocAttr]; with_reducible rfl) ?_ | with_reducible refine h_go (by with_unfolding_all rfl) (by simp (disch := omega) only [c1, eY, eZ, RG15, EVA, plug, eq_self, simprocAttr]; with_reducible rfl) ?_ | ((with_reducible refine chk_r ?_); refine r_callF (by simp only [CA, simprocAttr]; rfl) (by exact rfl) (by simp only [CA, simprocAttr]; rfl) rfl ?_) | ((with_reducible refine chk_h ?_); refine hr_callF (by simp only [CA, simprocAttr]; rfl) (by exact rfl) (by simp only [CA, simprocAttr]; rfl) rfl ?_) | ((with_reducible refine chk_r ?_); refine r_callP (by simp only [CA, simprocAttr]; rfl) (by simp only [CA, simprocAttr]; rfl) (by first | exact q23 _ | exact pc50 _) rfl ?_) | ((with_reducible refine chk_h ?_); refine hr_callP (by simp only [CA, simprocAttr]; rfl) (by simp only [CA, simprocAttr]; rfl) (by first | exact q23 _ | exact pc50 _) rfl ?_) | ((with_reducible refine chk_h ?_); refine hr_callP1 (by simp only [CA, simprocAttr]; rfl) (by simp only [CA, simprocAttr]; rfl) (by simp (disch := omega) only [CA, Nat.reduceEqDiff, ↓reduceIte, firstTok_nil, firstTok_sl, firstTok_sl0, firstTok_i, firstTok_b, firstTok_ag, firstTok_p, firstTok_s]; rfl) (by first | exact q23 _ | exact pc50 _) rfl ?_) | ((with_reducible refine chk_r ?_); refine r_callG (by simp only [CA, simprocAttr]; rfl) (by simp only [CA, simprocAttr]; rfl) (by simp only [CA, simprocAttr]; rfl) (by intro hg; (try simp only [BO] at hg); first | exact q23 _ | exact pc50 _) rfl ?_) | ((with_reducible refine chk_h ?_); refine hr_callG (by simp only [CA, simprocAttr]; rfl) (by simp only [CA, simprocAttr]; rfl) (by simp only [CA, simprocAttr]; rfl) (by intro hg; (try simp only [BO] at hg); first | exact q23 _ | exact pc50 _) rfl ?_) | ((with_reducible refine chk_h ?_); refine hr_app (by simp (disch := omega) only [c1, eY, eZ, RG15, EVA, plug, eq_self, simprocAttr]; with_reducible rfl) rfl ?_) | (with_reducible refine k_condP (by simp only [GA, simprocAttr]; rfl) (by first | (simp only [BO]; rfl) | rfl) (fun ht => ?_) (fun ht => ?_) <;> try (first | exact False.elim ht | exact absurd rfl ht | exact absurd trivial ht | exact Bool.noConfusion ht)) | (with_reducible refine k_ret ?_; repeat with_reducible (first | refine ret_thru ?_ | refine ret_blk ?_ | refine fin ?_)) | (with_reducible refine k_exit ?_; repeat with_reducible (first | refine thru ?_ | refine out_blk ?_ | refine pass (by decide) ?_)) | ((first | refine post1 ?_ | refine post2 ?_ | refine post3 ?_); simp only [GA, simprocAttr]) | refine post0 ?_
 refine k_blk (k_loopS (X := Unit) [0, 5, 6, 7, 8] l.length (fun k _ => [(0, vB l), (5, .i .i64 (1 + Y)), (6, .i .i64 Z), (7, .i .i64 (fw l k : Int)), (8, .i .i64 ((k + 1 : Nat) : Int))]) (fun k _ h => True) () (by simp only [Am.keep, List.map_cons, List.map_nil, GA, Nat.reduceEqDiff, ↓reduceIte, fw_zero]; try rfl) trivial ?_)
 rintro k _ h hk - ok pos
 by_cases klt : k < l.length
 ·have klt' : ((k + 1 : Nat) : Int) ≤ l.length := by omega
  have tl : (l.take (k + 1)).length = k + 1 := by rw [List.length_take]; omega
  have vt := VL_take hv (n := k + 1) (by omega)
  have ft := flB_take l (k + 1)
  have f1 := flB_len (l.take (k + 1))
  have f2 : (fl eB (l.take (k + 1))).all AV.one = true := fl_one (enc := eB) (fun _ => rfl) _
  have kl : k + 1 ≤ l.length := by omega
  have kn : ((k + 1 : Nat) : Int) ≤ (l.length : Int) := by omega
  refine k_seq (k_seq (k_reg ?_))
  refine s_go (by simp (disch := omega) only [klt', RG15, EVA, plug, eq_self, simprocAttr]; with_reducible rfl) ?_
  refine r_done ?_
  refine k_condP (by simp only [GA, simprocAttr]; rfl) (by simp only [BO]) (fun ht => ?_) (fun ht => absurd trivial ht)
  refine k_skip ?_
  refine k_seq (k_blk (k_seq (k_reg ?_)))
  refine s_go (by simp (disch := omega) only [klt', ft, f1, f2, kl, tl, RG15, EVA, plug, eq_self, simprocAttr]; with_reducible rfl) ?_
  refine r_done ?_
  refine w_frzS 9 (t := h.nx + 4 + 4) (n := k + 1) (a := 7) 7 (by simp (disch := omega) only [RG15, EVA, plug, eq_self, simprocAttr] <;> rfl) rfl (by omega) ?_
  have st := fw_step klt
  have q20 := pc20 (l.take (k + 1)) (by omega)
  have q18 := pc18 (l.take (k + 1)) (by omega)
  have a49 := pc49 (l.take (k + 1)) (by omega)
  unfold rowsR erR at q18 q20
  rw [if_pos vt, if_pos vt] at q18 q20
  simp only [vB, tl] at q20 q18 a49
  repeat' first | (with_reducible first | refine k_seq ?_ | refine k_skip ?_ | refine k_blkS ?_ | refine k_blkR ?_ | refine k_blkC ?_ | refine k_blkH ?_ | refine k_blkB ?_ | refine k_blkK ?_ | refine k_blkE ?_ | refine k_reg ?_) | with_reducible refine k_head (by with_unfolding_all rfl) ?_ | with_reducible refine k_headS ?_ | (with_reducible refine SepK.mk ?_ ?_; (refine sepQ_P ?_; simp [sepQ, sepG, AOp.late, AOp.free, AOp.xs, AOp.isAl, tokNe, AV.tok, stS_get, strip, AX.val, RG15, GA]; try omega)) | with_reducible refine r_done ?_ | with_reducible refine hr_done ?_ | with_reducible refine s_go (by simp (disch := omega) only [RG15, EVA, plug, eq_self, simprocAttr]; with_reducible rfl) ?_ | with_reducible refine h_go (by with_unfolding_all rfl) (by simp (disch := omega) only [RG15, EVA, plug, eq_self, simprocAttr]; with_reducible rfl) ?_ | ((with_reducible refine chk_r ?_); refine r_callF (by simp only [CA, simprocAttr]; rfl) (by exact rfl) (by simp only [CA, simprocAttr]; rfl) rfl ?_) | ((with_reducible refine chk_h ?_); refine hr_callF (by simp only [CA, simprocAttr]; rfl) (by exact rfl) (by simp only [CA, simprocAttr]; rfl) rfl ?_) | ((with_reducible refine chk_r ?_); refine r_callP (by simp only [CA, simprocAttr]; rfl) (by simp only [CA, simprocAttr]; rfl) (by first | exact q20 _ | exact q18 _) rfl ?_) | ((with_reducible refine chk_h ?_); refine hr_callP (by simp only [CA, simprocAttr]; rfl) (by simp only [CA, simprocAttr]; rfl) (by first | exact q20 _ | exact q18 _) rfl ?_) | ((with_reducible refine chk_h ?_); refine hr_callP1 (by simp only [CA, simprocAttr]; rfl) (by simp only [CA, simprocAttr]; rfl) (by simp (disch := omega) only [CA, Nat.reduceEqDiff, ↓reduceIte, firstTok_nil, firstTok_sl, firstTok_sl0, firstTok_i, firstTok_b, firstTok_ag, firstTok_p, firstTok_s]; rfl) (by first | exact q20 _ | exact q18 _) rfl ?_) | ((with_reducible refine chk_r ?_); refine r_callG (by simp only [CA, simprocAttr]; rfl) (by simp only [CA, simprocAttr]; rfl) (by simp only [CA, simprocAttr]; rfl) (by intro hg; (try simp only [BO] at hg); first | exact q20 _ | exact q18 _) rfl ?_) | ((with_reducible refine chk_h ?_); refine hr_callG (by simp only [CA, simprocAttr]; rfl) (by simp only [CA, simprocAttr]; rfl) (by simp only [CA, simprocAttr]; rfl) (by intro hg; (try simp only [BO] at hg); first | exact q20 _ | exact q18 _) rfl ?_) | ((with_reducible refine chk_h ?_); refine hr_app (by simp (disch := omega) only [RG15, EVA, plug, eq_self, simprocAttr]; with_reducible rfl) rfl ?_) | ((with_reducible refine chk_r ?_); refine r_callX (by simp only [CA, simprocAttr]; rfl) (by simp only [CA, simprocAttr]; rfl) (by first | exact a49 _) rfl ?_) | ((with_reducible refine chk_r ?_); refine r_callTX (by first | (simp only [CA, simprocAttr]; rfl) | simp only [CA, simprocAttr]) (by simp only [CA, simprocAttr]; rfl) (by simp only [CA, simprocAttr]; rfl) (by first | exact a49 _) rfl ?_) | (with_reducible refine k_condP (by simp only [GA, simprocAttr]; rfl) (by first | (simp only [BO]; rfl) | rfl) (fun ht => ?_) (fun ht => ?_) <;> try (first | exact False.elim ht | exact absurd rfl ht | exact absurd trivial ht | exact Bool.noConfusion ht)) | (with_reducible refine k_ret ?_; repeat with_reducible (first | refine ret_thru ?_ | refine ret_blk ?_ | refine fin ?_)) | (with_reducible refine k_exit ?_; repeat with_reducible (first | refine thru ?_ | refine out_blk ?_ | refine pass (by decide) ?_)) | ((first | refine post1 ?_ | refine post2 ?_ | refine post3 ?_); simp only [GA, simprocAttr]) | refine post0 ?_
  rintro r h' ⟨hR, rfl⟩
  rcases hR with ⟨_, P, pl, inc, gk, ap, rfl⟩ | ⟨hn, _⟩
  rotate_left
  ·exact absurd vt hn
  have mk := made_ok vt
  obtain ⟨t1, t2, t3⟩ := made_small vt
  have q36 := pc36 (l.take (k + 1)) (by omega) (iR (rowsL (l.take (k + 1)))) t1 t2 t3
  rw [ck_ok mk, ← iR_vR] at q36
  have cl : (cI P).length = P.length := List.length_map _
  have Rl := rowsL_le vt
  rw [← cl] at gk ap
  have q32 := pc32 (l.take (k + 1)) (by omega) (cI P) (by omega)
  rw [apR_yes vt gk ap, ← cI_vi] at q32
  simp only [vB, tl] at q36 q32
  have hK : fw l (k + 1) = P.length := pl.symm
  rw [hK] at st
  simp only [vRows] at q36
  generalize fw l k = K0 at *
  have s1 : ¬ (P.length : Int) < K0 := by omega
  have s2 : ¬ (K0 : Int) + 1 < P.length := by omega
  have kw : K0 ≤ 40 := by omega
  rw [← pl] at q20 q36
  repeat' first | (with_reducible first | refine k_seq ?_ | refine k_skip ?_ | refine k_blkS ?_ | refine k_blkR ?_ | refine k_blkC ?_ | refine k_blkH ?_ | refine k_blkB ?_ | refine k_blkK ?_ | refine k_blkE ?_ | refine k_reg ?_) | with_reducible refine k_head (by with_unfolding_all rfl) ?_ | with_reducible refine k_headS ?_ | (with_reducible refine SepK.mk ?_ ?_; (refine sepQ_P ?_; simp [sepQ, sepG, AOp.late, AOp.free, AOp.xs, AOp.isAl, tokNe, AV.tok, stS_get, strip, AX.val, RG15, GA]; try omega)) | with_reducible refine r_done ?_ | with_reducible refine hr_done ?_ | with_reducible refine s_go (by simp (disch := omega) only [s1, s2, ← pl, RG15, EVA, plug, eq_self, simprocAttr]; with_reducible rfl) ?_ | with_reducible refine h_go (by with_unfolding_all rfl) (by simp (disch := omega) only [s1, s2, ← pl, RG15, EVA, plug, eq_self, simprocAttr]; with_reducible rfl) ?_ | ((with_reducible refine chk_r ?_); refine r_callF (by simp only [CA, simprocAttr]; rfl) (by exact rfl) (by simp only [CA, simprocAttr]; rfl) rfl ?_) | ((with_reducible refine chk_h ?_); refine hr_callF (by simp only [CA, simprocAttr]; rfl) (by exact rfl) (by simp only [CA, simprocAttr]; rfl) rfl ?_) | ((with_reducible refine chk_r ?_); refine r_callP (by simp only [CA, simprocAttr]; rfl) (by simp only [CA, simprocAttr]; rfl) (by first | exact q36 _ | exact q32 _) rfl ?_) | ((with_reducible refine chk_h ?_); refine hr_callP (by simp only [CA, simprocAttr]; rfl) (by simp only [CA, simprocAttr]; rfl) (by first | exact q36 _ | exact q32 _) rfl ?_) | ((with_reducible refine chk_h ?_); refine hr_callP1 (by simp only [CA, simprocAttr]; rfl) (by simp only [CA, simprocAttr]; rfl) (by simp (disch := omega) only [CA, Nat.reduceEqDiff, ↓reduceIte, firstTok_nil, firstTok_sl, firstTok_sl0, firstTok_i, firstTok_b, firstTok_ag, firstTok_p, firstTok_s]; rfl) (by first | exact q36 _ | exact q32 _) rfl ?_) | ((with_reducible refine chk_r ?_); refine r_callG (by simp only [CA, simprocAttr]; rfl) (by simp only [CA, simprocAttr]; rfl) (by simp only [CA, simprocAttr]; rfl) (by intro hg; (try simp only [BO] at hg); first | exact q36 _ | exact q32 _) rfl ?_) | ((with_reducible refine chk_h ?_); refine hr_callG (by simp only [CA, simprocAttr]; rfl) (by simp only [CA, simprocAttr]; rfl) (by simp only [CA, simprocAttr]; rfl) (by intro hg; (try simp only [BO] at hg); first | exact q36 _ | exact q32 _) rfl ?_) | ((with_reducible refine chk_h ?_); refine hr_app (by simp (disch := omega) only [s1, s2, ← pl, RG15, EVA, plug, eq_self, simprocAttr]; with_reducible rfl) rfl ?_) | (with_reducible refine k_condP (by simp only [GA, simprocAttr]; rfl) (by first | (simp only [BO]; rfl) | rfl) (fun ht => ?_) (fun ht => ?_) <;> try (first | exact False.elim ht | exact absurd rfl ht | exact absurd trivial ht | exact Bool.noConfusion ht)) | (with_reducible refine k_ret ?_; repeat with_reducible (first | refine ret_thru ?_ | refine ret_blk ?_ | refine fin ?_)) | (with_reducible refine k_exit ?_; repeat with_reducible (first | refine thru ?_ | refine out_blk ?_ | refine pass (by decide) ?_)) | ((first | refine post1 ?_ | refine post2 ?_ | refine post3 ?_); simp only [GA, simprocAttr]) | refine post0 ?_
  exact ⟨klt, (), (by simp only [Am.keep, List.map_cons, List.map_nil, GA, Nat.reduceEqDiff, ↓reduceIte, hK]; try rfl), trivial⟩
 ·obtain rfl : k = l.length := by omega
  have klt' : ¬ ((l.length + 1 : Nat) : Int) ≤ l.length := by omega
  have q18 := pc18 l hl
  unfold rowsR erR at q18
  rw [if_pos hv, if_pos hv] at q18
  have mk := made_ok hv
  obtain ⟨t1, t2, t3⟩ := made_small hv
  have hB1 : bOK 1 Z := by simp only [bOK]; omega
  have qa := pc38 l hl (iR (rowsL l)) t1 t2 t3 (1 + Y) Z
  have qb := pc38 l hl (iR (rowsL l)) t1 t2 t3 1 Z
  rw [asR_go (ck_ok mk) hB, ← iR_vR] at qa
  rw [asR_go (ck_ok mk) hB1, ← iR_vR] at qb
  obtain ⟨m1, m2, m3⟩ := made_jd hB mk t2
  have m4 := made_rw hB mk t2 t1
  obtain ⟨m5, m6, m7⟩ := bnd hB m2 (by omega)
  obtain ⟨_, ⟨_, m8⟩, _⟩ := jd_is m2
  obtain ⟨n1, n2, n3⟩ := made_jd hB1 mk t2
  obtain ⟨n5, n6, n7⟩ := bnd hB1 n2 (by omega)
  have e1 := (made_end hv hB).1
  have e2 := (made_end hv hB1).2 rfl
  have ll : (iR (rowsL l)).length = (rowsL l).length := List.length_map _
  have q44 := pc44 (asg l Z (1 : Int).toNat (iR (rowsL l)) (iR (rowsL l)).length).1 (by omega)
  have q51 := pc51 l hl (1 + Y) Z _ (by omega) m4 (iR (rowsL l)).length (Z * (rowsL l).length + sm l l.length) _ _ m2 m3 (Prod.ext rfl m5) (Prod.ext rfl m6) m7 e1 (nm_crw m8)
  rw [e2, n5] at q44
  generalize (asg l Z (1 + Y).toNat (iR (rowsL l)) (iR (rowsL l)).length).1 = made at *
  generalize (asg l Z (1 : Int).toNat (iR (rowsL l)) (iR (rowsL l)).length).1 = alone at *
  rw [ll] at q51
  have Rl := rowsL_le hv
  have zr : 0 ≤ Z * (rowsL l).length ∧ Z * (rowsL l).length ≤ 4000 := by
   refine ⟨Int.mul_nonneg bZ.1 (by omega), ?_⟩
   have := Int.mul_le_mul (show Z ≤ 100 by omega) (show ((rowsL l).length : Int) ≤ 40 by omega) (by omega) (by omega)
   omega
  simp only [vRows] at q18 qa qb
  generalize (rowsL l).length = R at *
  obtain ⟨X, eX⟩ : ∃ X, Z * (R : Int) = X := ⟨_, rfl⟩
  rw [eX] at zr q44 q51
  repeat' first | (with_reducible first | refine k_seq ?_ | refine k_skip ?_ | refine k_blkS ?_ | refine k_blkR ?_ | refine k_blkC ?_ | refine k_blkH ?_ | refine k_blkB ?_ | refine k_blkK ?_ | refine k_blkE ?_ | refine k_reg ?_) | with_reducible refine k_head (by with_unfolding_all rfl) ?_ | with_reducible refine k_headS ?_ | (with_reducible refine SepK.mk ?_ ?_; (refine sepQ_P ?_; simp [sepQ, sepG, AOp.late, AOp.free, AOp.xs, AOp.isAl, tokNe, AV.tok, stS_get, strip, AX.val, RG15, GA]; try omega)) | with_reducible refine r_done ?_ | with_reducible refine hr_done ?_ | with_reducible refine s_go (by simp (disch := omega) only [klt', eX, RG15, EVA, plug, eq_self, simprocAttr]; with_reducible rfl) ?_ | with_reducible refine h_go (by with_unfolding_all rfl) (by simp (disch := omega) only [klt', eX, RG15, EVA, plug, eq_self, simprocAttr]; with_reducible rfl) ?_ | ((with_reducible refine chk_r ?_); refine r_callF (by simp only [CA, simprocAttr]; rfl) (by exact rfl) (by simp only [CA, simprocAttr]; rfl) rfl ?_) | ((with_reducible refine chk_h ?_); refine hr_callF (by simp only [CA, simprocAttr]; rfl) (by exact rfl) (by simp only [CA, simprocAttr]; rfl) rfl ?_) | ((with_reducible refine chk_r ?_); refine r_callP (by simp only [CA, simprocAttr]; rfl) (by simp only [CA, simprocAttr]; rfl) (by first | exact q18 _ | exact qa _ | exact qb _) rfl ?_) | ((with_reducible refine chk_h ?_); refine hr_callP (by simp only [CA, simprocAttr]; rfl) (by simp only [CA, simprocAttr]; rfl) (by first | exact q18 _ | exact qa _ | exact qb _) rfl ?_) | ((with_reducible refine chk_h ?_); refine hr_callP1 (by simp only [CA, simprocAttr]; rfl) (by simp only [CA, simprocAttr]; rfl) (by simp (disch := omega) only [CA, Nat.reduceEqDiff, ↓reduceIte, firstTok_nil, firstTok_sl, firstTok_sl0, firstTok_i, firstTok_b, firstTok_ag, firstTok_p, firstTok_s]; rfl) (by first | exact q18 _ | exact qa _ | exact qb _) rfl ?_) | ((with_reducible refine chk_r ?_); refine r_callG (by simp only [CA, simprocAttr]; rfl) (by simp only [CA, simprocAttr]; rfl) (by simp only [CA, simprocAttr]; rfl) (by intro hg; (try simp only [BO] at hg); first | exact q18 _ | exact qa _ | exact qb _) rfl ?_) | ((with_reducible refine chk_h ?_); refine hr_callG (by simp only [CA, simprocAttr]; rfl) (by simp only [CA, simprocAttr]; rfl) (by simp only [CA, simprocAttr]; rfl) (by intro hg; (try simp only [BO] at hg); first | exact q18 _ | exact qa _ | exact qb _) rfl ?_) | ((with_reducible refine chk_h ?_); refine hr_app (by simp (disch := omega) only [klt', eX, RG15, EVA, plug, eq_self, simprocAttr]; with_reducible rfl) rfl ?_) | (with_reducible refine k_condP (by simp only [GA, simprocAttr]; rfl) (by first | (simp only [BO]; rfl) | rfl) (fun ht => ?_) (fun ht => ?_) <;> try (first | exact False.elim ht | exact absurd rfl ht | exact absurd trivial ht | exact Bool.noConfusion ht)) | (with_reducible refine k_ret ?_; repeat with_reducible (first | refine ret_thru ?_ | refine ret_blk ?_ | refine fin ?_)) | (with_reducible refine k_exit ?_; repeat with_reducible (first | refine thru ?_ | refine out_blk ?_ | refine pass (by decide) ?_)) | ((first | refine post1 ?_ | refine post2 ?_ | refine post3 ?_); simp only [GA, simprocAttr]) | refine post0 ?_
  refine k_blk (k_loopS (X := Unit) [0, 5, 6, 18, 20, 22, 24, 25] l.length (fun k _ => [(0, vB l), (5, .i .i64 (1 + Y)), (6, .i .i64 Z), (18, .vs R ((rowsL l).map rvN)), (20, vRR made), (22, vRR alone), (24, .i .i64 (X + sm l k)), (25, .i .i64 (k : Int))]) (fun k _ h => True) () (by simp only [Am.keep, List.map_cons, List.map_nil, GA, Nat.reduceEqDiff, ↓reduceIte, sm, Int.add_zero]; try rfl) trivial ?_)
  rintro k _ h hk - ok pos
  by_cases jlt : k < l.length
  ·have jlt' : (k : Int) < l.length := by omega
   have q33 := pc33 l hl [(k : Int)] (by simp)
   rw [ln_one hv jlt] at q33
   have hr := hrs_rng (hv.b jlt)
   have sr := sm_rng hv k (by omega)
   have ss : X + sm l k + hrs (bD l k) = X + sm l (k + 1) := by rw [sm]; omega
   have hl6 := hv.len
   have hP : AV.plains [AV.i .i64 (k : Int)] = true := rfl
   have hE : il [(k : Int)] = [.i .i64 (k : Int)] := rfl
   simp only [vi, hE, List.length_cons, List.length_nil] at q33
   repeat' first | (with_reducible first | refine k_seq ?_ | refine k_skip ?_ | refine k_blkS ?_ | refine k_blkR ?_ | refine k_blkC ?_ | refine k_blkH ?_ | refine k_blkB ?_ | refine k_blkK ?_ | refine k_blkE ?_ | refine k_reg ?_) | with_reducible refine k_head (by with_unfolding_all rfl) ?_ | with_reducible refine k_headS ?_ | (with_reducible refine SepK.mk ?_ ?_; (refine sepQ_P ?_; simp [sepQ, sepG, AOp.late, AOp.free, AOp.xs, AOp.isAl, tokNe, AV.tok, stS_get, strip, AX.val, RG15, GA]; try omega)) | with_reducible refine r_done ?_ | with_reducible refine hr_done ?_ | with_reducible refine s_go (by simp (disch := omega) only [jlt', ss, RG15, EVA, plug, eq_self, simprocAttr]; with_reducible rfl) ?_ | with_reducible refine h_go (by with_unfolding_all rfl) (by simp (disch := omega) only [jlt', ss, RG15, EVA, plug, eq_self, simprocAttr]; with_reducible rfl) ?_ | ((with_reducible refine chk_r ?_); refine r_callF (by simp only [CA, simprocAttr]; rfl) (by exact rfl) (by simp only [CA, simprocAttr]; rfl) rfl ?_) | ((with_reducible refine chk_h ?_); refine hr_callF (by simp only [CA, simprocAttr]; rfl) (by exact rfl) (by simp only [CA, simprocAttr]; rfl) rfl ?_) | ((with_reducible refine chk_r ?_); refine r_callP (by simp only [CA, simprocAttr]; rfl) (by simp only [CA, simprocAttr]; rfl) (by first | ((refine PC.at q33 rfl ?_; exact .cons (.same (by simp only [AV.plain, AV.plains, flB_plain, Bool.and_true])) (.cons (.row (by simp (disch := omega) only [RG15, EVA, plug, eq_self, simprocAttr] <;> rfl) hP) .nil)); all_goals fail)) rfl ?_) | ((with_reducible refine chk_h ?_); refine hr_callP (by simp only [CA, simprocAttr]; rfl) (by simp only [CA, simprocAttr]; rfl) (by first | ((refine PC.at q33 rfl ?_; exact .cons (.same (by simp only [AV.plain, AV.plains, flB_plain, Bool.and_true])) (.cons (.row (by simp (disch := omega) only [RG15, EVA, plug, eq_self, simprocAttr] <;> rfl) hP) .nil)); all_goals fail)) rfl ?_) | ((with_reducible refine chk_h ?_); refine hr_callP1 (by simp only [CA, simprocAttr]; rfl) (by simp only [CA, simprocAttr]; rfl) (by simp (disch := omega) only [CA, Nat.reduceEqDiff, ↓reduceIte, firstTok_nil, firstTok_sl, firstTok_sl0, firstTok_i, firstTok_b, firstTok_ag, firstTok_p, firstTok_s]; rfl) (by first | ((refine PC.at q33 rfl ?_; exact .cons (.same (by simp only [AV.plain, AV.plains, flB_plain, Bool.and_true])) (.cons (.row (by simp (disch := omega) only [RG15, EVA, plug, eq_self, simprocAttr] <;> rfl) hP) .nil)); all_goals fail)) rfl ?_) | ((with_reducible refine chk_r ?_); refine r_callG (by simp only [CA, simprocAttr]; rfl) (by simp only [CA, simprocAttr]; rfl) (by simp only [CA, simprocAttr]; rfl) (by intro hg; (try simp only [BO] at hg); first | ((refine PC.at q33 rfl ?_; exact .cons (.same (by simp only [AV.plain, AV.plains, flB_plain, Bool.and_true])) (.cons (.row (by simp (disch := omega) only [RG15, EVA, plug, eq_self, simprocAttr] <;> rfl) hP) .nil)); all_goals fail)) rfl ?_) | ((with_reducible refine chk_h ?_); refine hr_callG (by simp only [CA, simprocAttr]; rfl) (by simp only [CA, simprocAttr]; rfl) (by simp only [CA, simprocAttr]; rfl) (by intro hg; (try simp only [BO] at hg); first | ((refine PC.at q33 rfl ?_; exact .cons (.same (by simp only [AV.plain, AV.plains, flB_plain, Bool.and_true])) (.cons (.row (by simp (disch := omega) only [RG15, EVA, plug, eq_self, simprocAttr] <;> rfl) hP) .nil)); all_goals fail)) rfl ?_) | ((with_reducible refine chk_h ?_); refine hr_app (by simp (disch := omega) only [jlt', ss, RG15, EVA, plug, eq_self, simprocAttr]; with_reducible rfl) rfl ?_) | (with_reducible refine k_condP (by simp only [GA, simprocAttr]; rfl) (by first | (simp only [BO]; rfl) | rfl) (fun ht => ?_) (fun ht => ?_) <;> try (first | exact False.elim ht | exact absurd rfl ht | exact absurd trivial ht | exact Bool.noConfusion ht)) | (with_reducible refine k_ret ?_; repeat with_reducible (first | refine ret_thru ?_ | refine ret_blk ?_ | refine fin ?_)) | (with_reducible refine k_exit ?_; repeat with_reducible (first | refine thru ?_ | refine out_blk ?_ | refine pass (by decide) ?_)) | ((first | refine post1 ?_ | refine post2 ?_ | refine post3 ?_); simp only [GA, simprocAttr]) | refine post0 ?_
   exact ⟨jlt, (), (by simp only [Am.keep, List.map_cons, List.map_nil, GA, simprocAttr]; try rfl), trivial⟩
  ·obtain rfl : k = l.length := by omega
   have jlt' : ¬ (l.length : Int) < l.length := by omega
   repeat' first | (with_reducible first | refine k_seq ?_ | refine k_skip ?_ | refine k_blkS ?_ | refine k_blkR ?_ | refine k_blkC ?_ | refine k_blkH ?_ | refine k_blkB ?_ | refine k_blkK ?_ | refine k_blkE ?_ | refine k_reg ?_) | with_reducible refine k_head (by with_unfolding_all rfl) ?_ | with_reducible refine k_headS ?_ | (with_reducible refine SepK.mk ?_ ?_; (refine sepQ_P ?_; simp [sepQ, sepG, AOp.late, AOp.free, AOp.xs, AOp.isAl, tokNe, AV.tok, stS_get, strip, AX.val, RG15, GA]; try omega)) | with_reducible refine r_done ?_ | with_reducible refine hr_done ?_ | with_reducible refine s_go (by simp (disch := omega) only [jlt', RG15, EVA, plug, eq_self, simprocAttr]; with_reducible rfl) ?_ | with_reducible refine h_go (by with_unfolding_all rfl) (by simp (disch := omega) only [jlt', RG15, EVA, plug, eq_self, simprocAttr]; with_reducible rfl) ?_ | ((with_reducible refine chk_r ?_); refine r_callF (by simp only [CA, simprocAttr]; rfl) (by exact rfl) (by simp only [CA, simprocAttr]; rfl) rfl ?_) | ((with_reducible refine chk_h ?_); refine hr_callF (by simp only [CA, simprocAttr]; rfl) (by exact rfl) (by simp only [CA, simprocAttr]; rfl) rfl ?_) | ((with_reducible refine chk_r ?_); refine r_callP (by simp only [CA, simprocAttr]; rfl) (by simp only [CA, simprocAttr]; rfl) (by first | exact q44 _ | exact q51 _ | exact pc50 _) rfl ?_) | ((with_reducible refine chk_h ?_); refine hr_callP (by simp only [CA, simprocAttr]; rfl) (by simp only [CA, simprocAttr]; rfl) (by first | exact q44 _ | exact q51 _ | exact pc50 _) rfl ?_) | ((with_reducible refine chk_h ?_); refine hr_callP1 (by simp only [CA, simprocAttr]; rfl) (by simp only [CA, simprocAttr]; rfl) (by simp (disch := omega) only [CA, Nat.reduceEqDiff, ↓reduceIte, firstTok_nil, firstTok_sl, firstTok_sl0, firstTok_i, firstTok_b, firstTok_ag, firstTok_p, firstTok_s]; rfl) (by first | exact q44 _ | exact q51 _ | exact pc50 _) rfl ?_) | ((with_reducible refine chk_r ?_); refine r_callG (by simp only [CA, simprocAttr]; rfl) (by simp only [CA, simprocAttr]; rfl) (by simp only [CA, simprocAttr]; rfl) (by intro hg; (try simp only [BO] at hg); first | exact q44 _ | exact q51 _ | exact pc50 _) rfl ?_) | ((with_reducible refine chk_h ?_); refine hr_callG (by simp only [CA, simprocAttr]; rfl) (by simp only [CA, simprocAttr]; rfl) (by simp only [CA, simprocAttr]; rfl) (by intro hg; (try simp only [BO] at hg); first | exact q44 _ | exact q51 _ | exact pc50 _) rfl ?_) | ((with_reducible refine chk_h ?_); refine hr_app (by simp (disch := omega) only [jlt', RG15, EVA, plug, eq_self, simprocAttr]; with_reducible rfl) rfl ?_) | (with_reducible refine k_condP (by simp only [GA, simprocAttr]; rfl) (by first | (simp only [BO]; rfl) | rfl) (fun ht => ?_) (fun ht => ?_) <;> try (first | exact False.elim ht | exact absurd rfl ht | exact absurd trivial ht | exact Bool.noConfusion ht)) | (with_reducible refine k_ret ?_; repeat with_reducible (first | refine ret_thru ?_ | refine ret_blk ?_ | refine fin ?_)) | (with_reducible refine k_exit ?_; repeat with_reducible (first | refine thru ?_ | refine out_blk ?_ | refine pass (by decide) ?_)) | ((first | refine post1 ?_ | refine post2 ?_ | refine post3 ?_); simp only [GA, simprocAttr]) | refine post0 ?_
   all_goals first | exact ends_of | exact ends_eq rfl
end Go.Proofs.Ytjncfpfgobojpaa
