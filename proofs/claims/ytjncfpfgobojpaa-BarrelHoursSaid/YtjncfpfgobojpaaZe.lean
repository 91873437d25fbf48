/- What the proof of the law needs: the abstract machine, the functions as it reads them, their contracts, part 5. -/
import Derived.Test.YtjncfpfgobojpaaZd
set_option linter.unusedVariables false
set_option linter.unusedSimpArgs false
namespace Go.Proofs.Ytjncfpfgobojpaa
open Go Go.Am Go.Proofs Go.Sort
/-! ### laid -/
theorem od_inj {l : List B} {m k : Nat} (hm : m < l.length) (hk : k < l.length) (e : od l m = od l k) : m = k := by
  have h1 : m < (orderL l).length := by rw [order_len]; exact hm
  have h2 : k < (orderL l).length := by rw [order_len]; exact hk
  have : (orderL l)[m] = (orderL l)[k] := by simpa [od, h1, h2] using e
  exact (List.getElem_inj (order_nodup l)).1 this
theorem int_set {us : List Int} {i j : Nat} {v : Int} (hi : i < us.length) : (us.set i v).getD j 0 = if j = i then v else us.getD j 0 := by
  by_cases e : j = i
  · subst e; simp [List.getD_eq_getElem?_getD, hi]
  · have : ¬ i = j := fun q => e q.symm
    simp [List.getD_eq_getElem?_getD, List.getElem?_set, this, e]
theorem us_step {l : List B} {us : List Int} {k : Nat} {v : Int} (hu : us.length = l.length) (hk : k < l.length) (H : ∀ m, m < k → us.getD (od l m) 0 = undK l m) (hv : v = undK l k) : ∀ m, m < k + 1 → (us.set (od l k) v).getD (od l m) 0 = undK l m := fun m hm => by
  have hx : od l k < us.length := by rw [hu]; exact order_get hk
  rw [int_set hx]
  by_cases e : m = k
  · subst e; rw [if_pos rfl]; exact hv
  · rw [if_neg fun q => e (od_inj (by omega) hk q)]; exact H m (by omega)
/-- what lies under each -/
def undL (l : List B) : List Int := (List.range l.length).map fun x => undK l ((orderL l).idxOf x)
theorem undL_eq {l : List B} {us : List Int} (hu : us.length = l.length) (H : ∀ m, m < l.length → us.getD (od l m) 0 = undK l m) : us = undL l := by
  apply List.ext_getElem
  · rw [hu]; simp [undL]
  · intro x h1 h2
    have hx : x < l.length := by rw [← hu]; exact h1
    have hin := order_mem.2 hx
    have hix : (orderL l).idxOf x < l.length := by rw [← order_len l]; exact List.idxOf_lt_length_iff.2 hin
    have := H _ hix
    have e : od l ((orderL l).idxOf x) = x := by
      have h3 : (orderL l).idxOf x < (orderL l).length := by rw [order_len]; exact hix
      simp only [od, List.getD_eq_getElem?_getD, List.getElem?_eq_getElem h3, Option.getD_some]
      exact List.getElem_idxOf h3
    rw [e] at this
    simp only [undL, List.getElem_map, List.getElem_range]
    rw [← this]; simp [h1]
theorem row_len {l : List B} : ∀ {k : Nat}, k ≤ l.length → ∀ j, ((rowsK l k).getD j []).length ≤ k
  | 0, _, j => by simp [rowsK]
  | k + 1, h, j => by
    have ih := row_len (l := l) (k := k) (by omega) j
    rw [rowsK_get (by omega)]
    split
    · split
      · rw [List.length_append]; simp only [List.length_cons, List.length_nil]; omega
      · simp
    · omega
theorem set_last {cs : List AV} {y z : AV} {n : Nat} (h : cs.length = n) : (cs ++ [z]).set n y = cs ++ [y] := by subst h; simp
theorem get_last {cs : List AV} {z : AV} {n : Nat} (h : cs.length = n) : (cs ++ [z])[n]? = some z := by subst h; simp
theorem get_low {cs : List AV} {z v : AV} {n : Nat} (h : cs[n]? = some v) : (cs ++ [z])[n]? = some v := by
  have : n < cs.length := (List.getElem?_eq_some_iff.1 h).1
  rw [List.getElem?_append_left this]; exact h
set_option maxHeartbeats 2000000 in
theorem pc52 (l : List B) (hv : VL l) : PC Try.prog 52 [vB l] (.tu [vRows (rowsL l), .vs l.length (il (undL l))]) := by
  refine pc_fn fn52 (by simp only [AV.plains, AV.plain, il_plain, bl_plain, Bool.and_true, Bool.true_and, Bool.and_self, flB_plain, rows_plain]) (by simp only [AV.plains, AV.plain, il_plain, bl_plain, Bool.and_true, Bool.true_and, Bool.and_self, flB_plain, rows_plain]) (Nat.le_of_ble_eq_true rfl) ?_
  rw [initSt1]
  have hl := hv.len
  have q85 := pc85 l hv
  refine k_seq (k_reg ?_)
  refine s_go (by simp (disch := omega) only [c52r0, c52r1, c52r2, c52r3, c52r4, c52r5, c52r6, c52r7, c52r8, c52r9, c52r10, c52r11, c52r12, c52r13, c52r14, c52r16, EV0, EV1, EV2, EV3, EV4, EV5, EV6, EV7, EV8, VALS, plug, ite_same, decide_true, decide_false, eq_self, ↓reduceIte, reduceCtorEq, Nat.reduceAdd, Nat.reduceEqDiff, Nat.reduceLT, Nat.reduceLeDiff, Nat.reduceMul, Nat.reduceSub, Nat.reduceDiv, Int.reduceToNat, Int.reduceAdd, Int.reduceSub, Int.reduceMul, Int.reduceNeg, Int.reduceEq, Int.reduceLT, Int.reduceLE]; with_reducible rfl) ?_
  refine r_done ?_
  refine w_frz (t := 1) (cs := [vB l]) (st' := (1, .pv [vB l] 0) :: [(3, .sl 0 0 0 0), (2, .sl 0 0 0 0), (1, .p 1 0), (0, vB l)]) (by simp (disch := omega) only [c52r0, c52r1, c52r2, c52r3, c52r4, c52r5, c52r6, c52r7, c52r8, c52r9, c52r10, c52r11, c52r12, c52r13, c52r14, c52r16, EV0, EV1, EV2, EV3, EV4, EV5, EV6, EV7, EV8, VALS, plug, ite_same, decide_true, decide_false, eq_self, ↓reduceIte, reduceCtorEq, Nat.reduceAdd, Nat.reduceEqDiff, Nat.reduceLT, Nat.reduceLeDiff, Nat.reduceMul, Nat.reduceSub, Nat.reduceDiv, Int.reduceToNat, Int.reduceAdd, Int.reduceSub, Int.reduceMul, Int.reduceNeg, Int.reduceEq, Int.reduceLT, Int.reduceLE] <;> rfl) (fun x => by
    simp only [St.get]
    by_cases e : x = 1
    · subst e; simp only [if_true]; exact .p
    · simp only [if_neg e]; exact .same) ?_
  repeat' first
    | with_reducible refine k_seq ?_
    | with_reducible refine k_skip ?_
    | with_reducible refine k_blkS ?_
    | with_reducible refine k_blkR ?_
    | with_reducible refine k_blkC ?_
    | with_reducible refine k_blkH ?_
    | with_reducible refine k_blkB ?_
    | with_reducible refine k_blkK ?_
    | with_reducible refine k_blkE ?_
    | with_reducible refine k_reg ?_
    | with_reducible refine k_head (by with_unfolding_all rfl) ?_
    | with_reducible refine k_headS ?_
    | (with_reducible refine SepK.mk ?_ ?_; (refine sepQ_P ?_; simp [sepQ, sepG, AOp.late, AOp.free, AOp.xs, AOp.isAl, tokNe, AV.tok, stS_get, strip, AX.val, c52r0, c52r1, c52r2, c52r3, c52r4, c52r5, c52r6, c52r7, c52r8, c52r9, c52r10, c52r11, c52r12, c52r13, c52r14, c52r16, GA]; try omega))
    | with_reducible refine r_done ?_
    | with_reducible refine hr_done ?_
    | with_reducible refine s_go (by simp (disch := omega) only [c52r0, c52r1, c52r2, c52r3, c52r4, c52r5, c52r6, c52r7, c52r8, c52r9, c52r10, c52r11, c52r12, c52r13, c52r14, c52r16, EV0, EV1, EV2, EV3, EV4, EV5, EV6, EV7, EV8, VALS, plug, ite_same, decide_true, decide_false, eq_self, ↓reduceIte, reduceCtorEq, Nat.reduceAdd, Nat.reduceEqDiff, Nat.reduceLT, Nat.reduceLeDiff, Nat.reduceMul, Nat.reduceSub, Nat.reduceDiv, Int.reduceToNat, Int.reduceAdd, Int.reduceSub, Int.reduceMul, Int.reduceNeg, Int.reduceEq, Int.reduceLT, Int.reduceLE]; with_reducible rfl) ?_
    | with_reducible refine h_go (by with_unfolding_all rfl) (by simp (disch := omega) only [c52r0, c52r1, c52r2, c52r3, c52r4, c52r5, c52r6, c52r7, c52r8, c52r9, c52r10, c52r11, c52r12, c52r13, c52r14, c52r16, EV0, EV1, EV2, EV3, EV4, EV5, EV6, EV7, EV8, VALS, plug, ite_same, decide_true, decide_false, eq_self, ↓reduceIte, reduceCtorEq, Nat.reduceAdd, Nat.reduceEqDiff, Nat.reduceLT, Nat.reduceLeDiff, Nat.reduceMul, Nat.reduceSub, Nat.reduceDiv, Int.reduceToNat, Int.reduceAdd, Int.reduceSub, Int.reduceMul, Int.reduceNeg, Int.reduceEq, Int.reduceLT, Int.reduceLE]; with_reducible rfl) ?_
    | ((with_reducible refine chk_r ?_); refine r_callF (by simp only [CA, Nat.reduceEqDiff, ↓reduceIte]; rfl) (by exact rfl) (by simp only [CA, Nat.reduceEqDiff, ↓reduceIte]; rfl) rfl ?_)
    | ((with_reducible refine chk_h ?_); refine hr_callF (by simp only [CA, Nat.reduceEqDiff, ↓reduceIte]; rfl) (by exact rfl) (by simp only [CA, Nat.reduceEqDiff, ↓reduceIte]; rfl) rfl ?_)
    | ((with_reducible refine chk_r ?_); refine r_callP (by simp only [CA, Nat.reduceEqDiff, ↓reduceIte]; rfl) (by simp only [CA, Nat.reduceEqDiff, ↓reduceIte]; rfl) (by first | exact q85 _) rfl ?_)
    | ((with_reducible refine chk_h ?_); refine hr_callP (by simp only [CA, Nat.reduceEqDiff, ↓reduceIte]; rfl) (by simp only [CA, Nat.reduceEqDiff, ↓reduceIte]; rfl) (by first | exact q85 _) rfl ?_)
    | ((with_reducible refine chk_h ?_); refine hr_callP1 (by simp only [CA, Nat.reduceEqDiff, ↓reduceIte]; rfl) (by simp only [CA, Nat.reduceEqDiff, ↓reduceIte]; rfl) (by simp (disch := omega) only [CA, Nat.reduceEqDiff, ↓reduceIte, firstTok_nil, firstTok_sl, firstTok_sl0, firstTok_i, firstTok_b, firstTok_ag, firstTok_p, firstTok_s]; rfl) (by first | exact q85 _) rfl ?_)
    | ((with_reducible refine chk_h ?_); refine hr_app (by simp (disch := omega) only [c52r0, c52r1, c52r2, c52r3, c52r4, c52r5, c52r6, c52r7, c52r8, c52r9, c52r10, c52r11, c52r12, c52r13, c52r14, c52r16, EV0, EV1, EV2, EV3, EV4, EV5, EV6, EV7, EV8, VALS, plug, ite_same, decide_true, decide_false, eq_self, ↓reduceIte, reduceCtorEq, Nat.reduceAdd, Nat.reduceEqDiff, Nat.reduceLT, Nat.reduceLeDiff, Nat.reduceMul, Nat.reduceSub, Nat.reduceDiv, Int.reduceToNat, Int.reduceAdd, Int.reduceSub, Int.reduceMul, Int.reduceNeg, Int.reduceEq, Int.reduceLT, Int.reduceLE]; with_reducible rfl) rfl ?_)
    | (with_reducible refine k_condP (by simp only [GA, Nat.reduceEqDiff, ↓reduceIte]; rfl) (by first | (simp only [BO]; rfl) | rfl) (fun ht => ?_) (fun ht => ?_) <;> try (first | exact False.elim ht | exact absurd rfl ht | exact absurd trivial ht | exact Bool.noConfusion ht))
    | (with_reducible refine k_ret ?_; repeat with_reducible (first | refine ret_thru ?_ | refine ret_blk ?_ | refine fin ?_))
    | (with_reducible refine k_exit ?_; repeat with_reducible (first | refine thru ?_ | refine out_blk ?_ | refine pass (by decide) ?_))
    | (refine post1 ?_; simp only [GA, Nat.reduceEqDiff, ↓reduceIte])
    | (refine post2 ?_; simp only [GA, Nat.reduceEqDiff, ↓reduceIte])
    | (refine post3 ?_; simp only [GA, Nat.reduceEqDiff, ↓reduceIte])
    | (refine postc (by simp only [GA, Nat.reduceEqDiff, ↓reduceIte]; rfl) (by simp (disch := omega) only [c52r0, c52r1, c52r2, c52r3, c52r4, c52r5, c52r6, c52r7, c52r8, c52r9, c52r10, c52r11, c52r12, c52r13, c52r14, c52r16, EV0, EV1, EV2, EV3, EV4, EV5, EV6, EV7, EV8, VALS, plug, ite_same, decide_true, decide_false, eq_self, ↓reduceIte, reduceCtorEq, Nat.reduceAdd, Nat.reduceEqDiff, Nat.reduceLT, Nat.reduceLeDiff, Nat.reduceMul, Nat.reduceSub, Nat.reduceDiv, Int.reduceToNat, Int.reduceAdd, Int.reduceSub, Int.reduceMul, Int.reduceNeg, Int.reduceEq, Int.reduceLT, Int.reduceLE]; rfl) ?_)
    | refine post0 ?_
  refine w_virt 1 2 rfl ?_
  refine k_blk (k_loopS (X := Nat × List Nat × Nat × List Int) [1, 2, 3, 12, 13, 14] l.length (fun k x => [(1, .pv [vB l] 0), (2, .sl x.1 0 (rowsK l k).length 1), (3, .sl x.2.2.1 0 l.length 1), (12, .vs l.length (nl (orderL l))), (13, .i .i64 l.length), (14, .i .i64 (k : Int))])
    (fun k x h => Nest h 1 x.1 x.2.1 ((rowsK l k).map rw1) ∧ x.2.2.1 ≠ 0 ∧ x.2.2.1 ≠ x.1 ∧ x.2.2.1 ∉ x.2.1 ∧ h.m x.2.2.1 = some (.cells true (il x.2.2.2)) ∧ x.2.2.2.length = l.length ∧ ∀ m, m < k → x.2.2.2.getD (od l m) 0 = undK l m) (_, [], _, List.replicate l.length 0) (by simp only [Am.keep, List.map_cons, List.map_nil, GA, Nat.reduceEqDiff, ↓reduceIte]; try rfl) ⟨.nil (by simp (disch := omega) only [c52r0, c52r1, c52r2, c52r3, c52r4, c52r5, c52r6, c52r7, c52r8, c52r9, c52r10, c52r11, c52r12, c52r13, c52r14, c52r16, EV0, EV1, EV2, EV3, EV4, EV5, EV6, EV7, EV8, VALS, plug, ite_same, decide_true, decide_false, eq_self, ↓reduceIte, reduceCtorEq, Nat.reduceAdd, Nat.reduceEqDiff, Nat.reduceLT, Nat.reduceLeDiff, Nat.reduceMul, Nat.reduceSub, Nat.reduceDiv, Int.reduceToNat, Int.reduceAdd, Int.reduceSub, Int.reduceMul, Int.reduceNeg, Int.reduceEq, Int.reduceLT, Int.reduceLE] <;> rfl) (by simp only [AH.bump_nx]; omega), ?_, ?_, by simp, by simp (disch := omega) only [il_rep, c52r0, c52r1, c52r2, c52r3, c52r4, c52r5, c52r6, c52r7, c52r8, c52r9, c52r10, c52r11, c52r12, c52r13, c52r14, c52r16, EV0, EV1, EV2, EV3, EV4, EV5, EV6, EV7, EV8, VALS, plug, ite_same, decide_true, decide_false, eq_self, ↓reduceIte, reduceCtorEq, Nat.reduceAdd, Nat.reduceEqDiff, Nat.reduceLT, Nat.reduceLeDiff, Nat.reduceMul, Nat.reduceSub, Nat.reduceDiv, Int.reduceToNat, Int.reduceAdd, Int.reduceSub, Int.reduceMul, Int.reduceNeg, Int.reduceEq, Int.reduceLT, Int.reduceLE] <;> rfl, by simp, fun m hm => by omega⟩ ?_)
  · simp only [AH.bump_nx, AH.set_nx, AH.kill_nx, H1_nx]; omega
  · simp only [AH.bump_nx, AH.set_nx, AH.kill_nx, H1_nx]; omega
  rintro k ⟨r, ts, u, us⟩ h hk ⟨N, u0, ur, un, hu, hul, hus⟩ ok pos
  simp only at N u0 ur un hu hul hus ⊢
  have hr := N.hr
  have r0 := N.r0
  have lr := ok.m hr
  have lu := ok.m hu
  have tlt := Nest.lt N ok
  have Nl : ((rowsK l k).map rw1).length = (rowsK l k).length := List.length_map _
  have ru : ¬ r = u := fun e => ur e.symm
  by_cases hlt : k < l.length
  · have hlt' : (k : Int) < l.length := by omega
    have Rk := rk (l := l) (k := k) (by omega)
    have hx : od l k < l.length := order_get hlt
    have gx : (nl (orderL l))[k]? = some (.i .i64 ((od l k : Nat) : Int)) := nl_get (by rw [order_len]; exact hlt)
    have rl := rowsK_len l (k := k) (by omega)
    have rin : ∀ j, j < (rowsK l k).length → ((rowsK l k).getD j []).length ≤ 40 := fun j hj => by
      have := row_len (l := l) (k := k) (by omega) j
      omega
    have q86 := pc86 l (rowsK l k) (od l k) (fun r hr => ⟨Rk.ne r hr, by
      obtain ⟨j, hj, e⟩ := Rk.mem r hr _ (last_mem (Rk.ne r hr))
      rw [← e]; exact order_get (by omega), by
      obtain ⟨j, hj, e⟩ := List.getElem_of_mem hr
      have := rin j hj
      rw [getD_lt hj, e] at this; omega⟩) hx (by omega)
    have hat := rowsK_at hlt
    have hfl := rowAt_le l k
    have hfi : fitI l (rowsK l k) (od l k) = if rowAt l k < (rowsK l k).length then (rowAt l k : Int) else -1 := rfl
    have hund : undK l k = (if rowAt l k = 0 then (-1 : Int) else ((lastN ((rowsK l k).getD (rowAt l k - 1) []) : Nat) : Int)) := rfl
    have now : ∀ h2 : AH, (∀ t b, h.m t = some b → h2.m t = some b) → Now h2 (.sl r 0 (rowsK l k).length 1) (vRows (rowsK l k)) := fun h2 F => by
      have := (N.keep F).now rw_plain 1
      rwa [Nl, rv_map] at this
    rw [hfi] at q86
    generalize hfx : rowAt l k = f at *
    have usl : od l k < us.length := by omega
    by_cases hf : f < (rowsK l k).length
    · rw [if_pos hf] at q86 hat
      have cf := N.cell (i := f) (by omega)
      rw [rD_map hf] at cf
      have hf' : (f : Int) < (rowsK l k).length := by omega
      have nf : ¬ (f : Int) < 0 := by omega
      have tf := N.row (i := f) (by omega)
      rw [rD_map hf] at tf
      have mf := N.mem (i := f) (by omega)
      have ltf := tlt _ mf
      have nef := N.ne (i := f) (by omega)
      have nefu : ¬ tD ts f = u := fun e => un (e ▸ mf)
      have rlf := rin f hf
      have csl := rC_len (k := 1) N.len
      rw [Nl] at csl
      simp only at cf tf
      generalize hcs : rC 1 ts ((rowsK l k).map rw1) = cs at hr cf csl
      have hlen1 : (rowsK l (k + 1)).length = (rowsK l k).length := by rw [hat, List.length_set]
      have e0 : rw1 ((rowsK l k).getD f [] ++ [od l k]) = (((rowsK l k).getD f []).length + 1, nl ((rowsK l k).getD f [] ++ [od l k])) := by simp [rw1]
      have hn1 : (((rowsK l k).getD f []).length + 1) * 1 = (nl ((rowsK l k).getD f [] ++ [od l k])).length := by simp [nl_len]
      cases f with
      | zero =>
        have h0 : ¬ (0 : Int) < ((0 : Nat) : Int) := by omega
        rw [if_pos rfl] at hund
        repeat' first
          | with_reducible refine k_seq ?_
          | with_reducible refine k_skip ?_
          | with_reducible refine k_blkS ?_
          | with_reducible refine k_blkR ?_
          | with_reducible refine k_blkC ?_
          | with_reducible refine k_blkH ?_
          | with_reducible refine k_blkB ?_
          | with_reducible refine k_blkK ?_
          | with_reducible refine k_blkE ?_
          | with_reducible refine k_reg ?_
          | with_reducible refine k_head (by with_unfolding_all rfl) ?_
          | with_reducible refine k_headS ?_
          | (with_reducible refine SepK.mk ?_ ?_; (refine sepQ_P ?_; simp [sepQ, sepG, AOp.late, AOp.free, AOp.xs, AOp.isAl, tokNe, AV.tok, stS_get, strip, AX.val, c52r0, c52r1, c52r2, c52r3, c52r4, c52r5, c52r6, c52r7, c52r8, c52r9, c52r10, c52r11, c52r12, c52r13, c52r14, c52r16, GA]; try omega))
          | with_reducible refine r_done ?_
          | with_reducible refine hr_done ?_
          | with_reducible refine s_go (by simp (disch := omega) only [hlt', gx, hx, hr, row_m hr, read_row (row_m hr), hu, row_m hu, read_row (row_m hu), csl, hul, usl, nl_len, nl_snoc, tf, row_m tf, read_row (row_m tf), cf, nf, hf', h0, c52r0, c52r1, c52r2, c52r3, c52r4, c52r5, c52r6, c52r7, c52r8, c52r9, c52r10, c52r11, c52r12, c52r13, c52r14, c52r16, EV0, EV1, EV2, EV3, EV4, EV5, EV6, EV7, EV8, VALS, plug, ite_same, decide_true, decide_false, eq_self, ↓reduceIte, reduceCtorEq, Nat.reduceAdd, Nat.reduceEqDiff, Nat.reduceLT, Nat.reduceLeDiff, Nat.reduceMul, Nat.reduceSub, Nat.reduceDiv, Int.reduceToNat, Int.reduceAdd, Int.reduceSub, Int.reduceMul, Int.reduceNeg, Int.reduceEq, Int.reduceLT, Int.reduceLE]; with_reducible rfl) ?_
          | with_reducible refine h_go (by with_unfolding_all rfl) (by simp (disch := omega) only [hlt', gx, hx, hr, row_m hr, read_row (row_m hr), hu, row_m hu, read_row (row_m hu), csl, hul, usl, nl_len, nl_snoc, tf, row_m tf, read_row (row_m tf), cf, nf, hf', h0, c52r0, c52r1, c52r2, c52r3, c52r4, c52r5, c52r6, c52r7, c52r8, c52r9, c52r10, c52r11, c52r12, c52r13, c52r14, c52r16, EV0, EV1, EV2, EV3, EV4, EV5, EV6, EV7, EV8, VALS, plug, ite_same, decide_true, decide_false, eq_self, ↓reduceIte, reduceCtorEq, Nat.reduceAdd, Nat.reduceEqDiff, Nat.reduceLT, Nat.reduceLeDiff, Nat.reduceMul, Nat.reduceSub, Nat.reduceDiv, Int.reduceToNat, Int.reduceAdd, Int.reduceSub, Int.reduceMul, Int.reduceNeg, Int.reduceEq, Int.reduceLT, Int.reduceLE]; with_reducible rfl) ?_
          | ((with_reducible refine chk_r ?_); refine r_callF (by simp only [CA, Nat.reduceEqDiff, ↓reduceIte]; rfl) (by exact rfl) (by simp only [CA, Nat.reduceEqDiff, ↓reduceIte]; rfl) rfl ?_)
          | ((with_reducible refine chk_h ?_); refine hr_callF (by simp only [CA, Nat.reduceEqDiff, ↓reduceIte]; rfl) (by exact rfl) (by simp only [CA, Nat.reduceEqDiff, ↓reduceIte]; rfl) rfl ?_)
          | ((with_reducible refine chk_r ?_); refine r_callP (by simp only [CA, Nat.reduceEqDiff, ↓reduceIte]; rfl) (by simp only [CA, Nat.reduceEqDiff, ↓reduceIte]; rfl) (by first | ((refine PC.at q86 rfl ?_; refine .cons (now _ ?_) (.cons (.fn .nil (.cons (.same (by simp only [AV.plain, AV.plains, flB_plain, Bool.and_true])) (.cons (.p (by simp (disch := omega) only [c52r0, c52r1, c52r2, c52r3, c52r4, c52r5, c52r6, c52r7, c52r8, c52r9, c52r10, c52r11, c52r12, c52r13, c52r14, c52r16, EV0, EV1, EV2, EV3, EV4, EV5, EV6, EV7, EV8, VALS, plug, ite_same, decide_true, decide_false, eq_self, ↓reduceIte, reduceCtorEq, Nat.reduceAdd, Nat.reduceEqDiff, Nat.reduceLT, Nat.reduceLeDiff, Nat.reduceMul, Nat.reduceSub, Nat.reduceDiv, Int.reduceToNat, Int.reduceAdd, Int.reduceSub, Int.reduceMul, Int.reduceNeg, Int.reduceEq, Int.reduceLT, Int.reduceLE] <;> rfl) (Nows.same rfl)) .nil))) .nil); intro t b hb; have := ok.m hb; simp (disch := omega) only [hb, c52r0, c52r1, c52r2, c52r3, c52r4, c52r5, c52r6, c52r7, c52r8, c52r9, c52r10, c52r11, c52r12, c52r13, c52r14, c52r16, EV0, EV1, EV2, EV3, EV4, EV5, EV6, EV7, EV8, VALS, plug, ite_same, decide_true, decide_false, eq_self, ↓reduceIte, reduceCtorEq, Nat.reduceAdd, Nat.reduceEqDiff, Nat.reduceLT, Nat.reduceLeDiff, Nat.reduceMul, Nat.reduceSub, Nat.reduceDiv, Int.reduceToNat, Int.reduceAdd, Int.reduceSub, Int.reduceMul, Int.reduceNeg, Int.reduceEq, Int.reduceLT, Int.reduceLE]); all_goals fail)) rfl ?_)
          | ((with_reducible refine chk_h ?_); refine hr_callP (by simp only [CA, Nat.reduceEqDiff, ↓reduceIte]; rfl) (by simp only [CA, Nat.reduceEqDiff, ↓reduceIte]; rfl) (by first | ((refine PC.at q86 rfl ?_; refine .cons (now _ ?_) (.cons (.fn .nil (.cons (.same (by simp only [AV.plain, AV.plains, flB_plain, Bool.and_true])) (.cons (.p (by simp (disch := omega) only [c52r0, c52r1, c52r2, c52r3, c52r4, c52r5, c52r6, c52r7, c52r8, c52r9, c52r10, c52r11, c52r12, c52r13, c52r14, c52r16, EV0, EV1, EV2, EV3, EV4, EV5, EV6, EV7, EV8, VALS, plug, ite_same, decide_true, decide_false, eq_self, ↓reduceIte, reduceCtorEq, Nat.reduceAdd, Nat.reduceEqDiff, Nat.reduceLT, Nat.reduceLeDiff, Nat.reduceMul, Nat.reduceSub, Nat.reduceDiv, Int.reduceToNat, Int.reduceAdd, Int.reduceSub, Int.reduceMul, Int.reduceNeg, Int.reduceEq, Int.reduceLT, Int.reduceLE] <;> rfl) (Nows.same rfl)) .nil))) .nil); intro t b hb; have := ok.m hb; simp (disch := omega) only [hb, c52r0, c52r1, c52r2, c52r3, c52r4, c52r5, c52r6, c52r7, c52r8, c52r9, c52r10, c52r11, c52r12, c52r13, c52r14, c52r16, EV0, EV1, EV2, EV3, EV4, EV5, EV6, EV7, EV8, VALS, plug, ite_same, decide_true, decide_false, eq_self, ↓reduceIte, reduceCtorEq, Nat.reduceAdd, Nat.reduceEqDiff, Nat.reduceLT, Nat.reduceLeDiff, Nat.reduceMul, Nat.reduceSub, Nat.reduceDiv, Int.reduceToNat, Int.reduceAdd, Int.reduceSub, Int.reduceMul, Int.reduceNeg, Int.reduceEq, Int.reduceLT, Int.reduceLE]); all_goals fail)) rfl ?_)
          | ((with_reducible refine chk_h ?_); refine hr_callP1 (by simp only [CA, Nat.reduceEqDiff, ↓reduceIte]; rfl) (by simp only [CA, Nat.reduceEqDiff, ↓reduceIte]; rfl) (by simp (disch := omega) only [CA, Nat.reduceEqDiff, ↓reduceIte, firstTok_nil, firstTok_sl, firstTok_sl0, firstTok_i, firstTok_b, firstTok_ag, firstTok_p, firstTok_s]; rfl) (by first | ((refine PC.at q86 rfl ?_; refine .cons (now _ ?_) (.cons (.fn .nil (.cons (.same (by simp only [AV.plain, AV.plains, flB_plain, Bool.and_true])) (.cons (.p (by simp (disch := omega) only [c52r0, c52r1, c52r2, c52r3, c52r4, c52r5, c52r6, c52r7, c52r8, c52r9, c52r10, c52r11, c52r12, c52r13, c52r14, c52r16, EV0, EV1, EV2, EV3, EV4, EV5, EV6, EV7, EV8, VALS, plug, ite_same, decide_true, decide_false, eq_self, ↓reduceIte, reduceCtorEq, Nat.reduceAdd, Nat.reduceEqDiff, Nat.reduceLT, Nat.reduceLeDiff, Nat.reduceMul, Nat.reduceSub, Nat.reduceDiv, Int.reduceToNat, Int.reduceAdd, Int.reduceSub, Int.reduceMul, Int.reduceNeg, Int.reduceEq, Int.reduceLT, Int.reduceLE] <;> rfl) (Nows.same rfl)) .nil))) .nil); intro t b hb; have := ok.m hb; simp (disch := omega) only [hb, c52r0, c52r1, c52r2, c52r3, c52r4, c52r5, c52r6, c52r7, c52r8, c52r9, c52r10, c52r11, c52r12, c52r13, c52r14, c52r16, EV0, EV1, EV2, EV3, EV4, EV5, EV6, EV7, EV8, VALS, plug, ite_same, decide_true, decide_false, eq_self, ↓reduceIte, reduceCtorEq, Nat.reduceAdd, Nat.reduceEqDiff, Nat.reduceLT, Nat.reduceLeDiff, Nat.reduceMul, Nat.reduceSub, Nat.reduceDiv, Int.reduceToNat, Int.reduceAdd, Int.reduceSub, Int.reduceMul, Int.reduceNeg, Int.reduceEq, Int.reduceLT, Int.reduceLE]); all_goals fail)) rfl ?_)
          | ((with_reducible refine chk_h ?_); refine hr_app (by simp (disch := omega) only [hlt', gx, hx, hr, row_m hr, read_row (row_m hr), hu, row_m hu, read_row (row_m hu), csl, hul, usl, nl_len, nl_snoc, tf, row_m tf, read_row (row_m tf), cf, nf, hf', h0, c52r0, c52r1, c52r2, c52r3, c52r4, c52r5, c52r6, c52r7, c52r8, c52r9, c52r10, c52r11, c52r12, c52r13, c52r14, c52r16, EV0, EV1, EV2, EV3, EV4, EV5, EV6, EV7, EV8, VALS, plug, ite_same, decide_true, decide_false, eq_self, ↓reduceIte, reduceCtorEq, Nat.reduceAdd, Nat.reduceEqDiff, Nat.reduceLT, Nat.reduceLeDiff, Nat.reduceMul, Nat.reduceSub, Nat.reduceDiv, Int.reduceToNat, Int.reduceAdd, Int.reduceSub, Int.reduceMul, Int.reduceNeg, Int.reduceEq, Int.reduceLT, Int.reduceLE]; with_reducible rfl) rfl ?_)
          | (with_reducible refine k_condP (by simp only [GA, Nat.reduceEqDiff, ↓reduceIte]; rfl) (by first | (simp only [BO]; rfl) | rfl) (fun ht => ?_) (fun ht => ?_) <;> try (first | exact False.elim ht | exact absurd rfl ht | exact absurd trivial ht | exact Bool.noConfusion ht))
          | (with_reducible refine k_ret ?_; repeat with_reducible (first | refine ret_thru ?_ | refine ret_blk ?_ | refine fin ?_))
          | (with_reducible refine k_exit ?_; repeat with_reducible (first | refine thru ?_ | refine out_blk ?_ | refine pass (by decide) ?_))
          | (refine post1 ?_; simp only [GA, Nat.reduceEqDiff, ↓reduceIte])
          | (refine post2 ?_; simp only [GA, Nat.reduceEqDiff, ↓reduceIte])
          | (refine post3 ?_; simp only [GA, Nat.reduceEqDiff, ↓reduceIte])
          | (refine postc (by simp only [GA, Nat.reduceEqDiff, ↓reduceIte]; rfl) (by simp (disch := omega) only [hlt', gx, hx, hr, row_m hr, read_row (row_m hr), hu, row_m hu, read_row (row_m hu), csl, hul, usl, nl_len, nl_snoc, tf, row_m tf, read_row (row_m tf), cf, nf, hf', h0, c52r0, c52r1, c52r2, c52r3, c52r4, c52r5, c52r6, c52r7, c52r8, c52r9, c52r10, c52r11, c52r12, c52r13, c52r14, c52r16, EV0, EV1, EV2, EV3, EV4, EV5, EV6, EV7, EV8, VALS, plug, ite_same, decide_true, decide_false, eq_self, ↓reduceIte, reduceCtorEq, Nat.reduceAdd, Nat.reduceEqDiff, Nat.reduceLT, Nat.reduceLeDiff, Nat.reduceMul, Nat.reduceSub, Nat.reduceDiv, Int.reduceToNat, Int.reduceAdd, Int.reduceSub, Int.reduceMul, Int.reduceNeg, Int.reduceEq, Int.reduceLT, Int.reduceLE]; rfl) ?_)
          | refine post0 ?_
        refine ⟨hlt, ⟨r, ts.set 0 (h.nx + 1 + 4 + 4 + 2 + 4 + 2 + 8), u, (us.set (od l k) (-1))⟩, ?g1, ?g2, u0, ur, ?g3, ?g4, ?g5, ?g6⟩
        case g1 =>
          simp only [Am.keep, List.map_cons, List.map_nil, GA, Nat.reduceEqDiff, ↓reduceIte, hlen1]
          rfl
        case g2 =>
          rw [hat, List.map_set, e0]
          refine N.put (by omega) hn1 (by omega) (by omega) (fun hm => by have := tlt _ hm; omega) (by rw [hcs]; simp (disch := omega) only [c52r0, c52r1, c52r2, c52r3, c52r4, c52r5, c52r6, c52r7, c52r8, c52r9, c52r10, c52r11, c52r12, c52r13, c52r14, c52r16, EV0, EV1, EV2, EV3, EV4, EV5, EV6, EV7, EV8, VALS, plug, ite_same, decide_true, decide_false, eq_self, ↓reduceIte, reduceCtorEq, Nat.reduceAdd, Nat.reduceEqDiff, Nat.reduceLT, Nat.reduceLeDiff, Nat.reduceMul, Nat.reduceSub, Nat.reduceDiv, Int.reduceToNat, Int.reduceAdd, Int.reduceSub, Int.reduceMul, Int.reduceNeg, Int.reduceEq, Int.reduceLT, Int.reduceLE] <;> rfl) (by simp (disch := omega) only [c52r0, c52r1, c52r2, c52r3, c52r4, c52r5, c52r6, c52r7, c52r8, c52r9, c52r10, c52r11, c52r12, c52r13, c52r14, c52r16, EV0, EV1, EV2, EV3, EV4, EV5, EV6, EV7, EV8, VALS, plug, ite_same, decide_true, decide_false, eq_self, ↓reduceIte, reduceCtorEq, Nat.reduceAdd, Nat.reduceEqDiff, Nat.reduceLT, Nat.reduceLeDiff, Nat.reduceMul, Nat.reduceSub, Nat.reduceDiv, Int.reduceToNat, Int.reduceAdd, Int.reduceSub, Int.reduceMul, Int.reduceNeg, Int.reduceEq, Int.reduceLT, Int.reduceLE] <;> rfl) fun s b hs hne hb => ?_
          have l1 := tlt s hs
          have n1 := (N.nr s hs).2
          have n2 : ¬ s = u := fun e => un (e ▸ hs)
          simp (disch := omega) only [hb, c52r0, c52r1, c52r2, c52r3, c52r4, c52r5, c52r6, c52r7, c52r8, c52r9, c52r10, c52r11, c52r12, c52r13, c52r14, c52r16, EV0, EV1, EV2, EV3, EV4, EV5, EV6, EV7, EV8, VALS, plug, ite_same, decide_true, decide_false, eq_self, ↓reduceIte, reduceCtorEq, Nat.reduceAdd, Nat.reduceEqDiff, Nat.reduceLT, Nat.reduceLeDiff, Nat.reduceMul, Nat.reduceSub, Nat.reduceDiv, Int.reduceToNat, Int.reduceAdd, Int.reduceSub, Int.reduceMul, Int.reduceNeg, Int.reduceEq, Int.reduceLT, Int.reduceLE]
        case g3 =>
          intro hm
          rcases List.mem_or_eq_of_mem_set hm with q | q
          · exact un q
          · simp only [] at q; omega
        case g4 => simp (disch := omega) only [hu, List.set_set, c52r0, c52r1, c52r2, c52r3, c52r4, c52r5, c52r6, c52r7, c52r8, c52r9, c52r10, c52r11, c52r12, c52r13, c52r14, c52r16, EV0, EV1, EV2, EV3, EV4, EV5, EV6, EV7, EV8, VALS, plug, ite_same, decide_true, decide_false, eq_self, ↓reduceIte, reduceCtorEq, Nat.reduceAdd, Nat.reduceEqDiff, Nat.reduceLT, Nat.reduceLeDiff, Nat.reduceMul, Nat.reduceSub, Nat.reduceDiv, Int.reduceToNat, Int.reduceAdd, Int.reduceSub, Int.reduceMul, Int.reduceNeg, Int.reduceEq, Int.reduceLT, Int.reduceLE] <;> rfl
        case g5 => simp only [List.length_set]; exact hul
        case g6 => exact us_step hul hlt hus (by rw [hund]; try rfl)
      | succ f =>
        have h0 : (0 : Int) < ((f + 1 : Nat) : Int) := by omega
        rw [if_neg (by omega), Nat.add_sub_cancel] at hund
        have e1 : ((f + 1 : Nat) : Int) - 1 = (f : Int) := by omega
        have hg : f < (rowsK l k).length := by omega
        have hg' : (f : Int) < (rowsK l k).length := by omega
        have cg := N.cell (i := f) (by omega)
        rw [rD_map hg, hcs] at cg
        have tg := N.row (i := f) (by omega)
        rw [rD_map hg] at tg
        have mg := N.mem (i := f) (by omega)
        have ltg := tlt _ mg
        have neg := N.ne (i := f) (by omega)
        have negu : ¬ tD ts f = u := fun e => un (e ▸ mg)
        have rlg := rin f hg
        have hne := Rk.ne _ (mem_row hg)
        have hp : 0 < ((rowsK l k).getD f []).length := List.length_pos_iff.2 hne
        have e2 : (((rowsK l k).getD f []).length : Int) - 1 = ((((rowsK l k).getD f []).length - 1 : Nat) : Int) := by omega
        have e3 : ((rowsK l k).getD f []).length - 1 < ((rowsK l k).getD f []).length := by omega
        have g := last_get hne
        simp only at cg tg
        repeat' first
          | with_reducible refine k_seq ?_
          | with_reducible refine k_skip ?_
          | with_reducible refine k_blkS ?_
          | with_reducible refine k_blkR ?_
          | with_reducible refine k_blkC ?_
          | with_reducible refine k_blkH ?_
          | with_reducible refine k_blkB ?_
          | with_reducible refine k_blkK ?_
          | with_reducible refine k_blkE ?_
          | with_reducible refine k_reg ?_
          | with_reducible refine k_head (by with_unfolding_all rfl) ?_
          | with_reducible refine k_headS ?_
          | (with_reducible refine SepK.mk ?_ ?_; (refine sepQ_P ?_; simp [sepQ, sepG, AOp.late, AOp.free, AOp.xs, AOp.isAl, tokNe, AV.tok, stS_get, strip, AX.val, c52r0, c52r1, c52r2, c52r3, c52r4, c52r5, c52r6, c52r7, c52r8, c52r9, c52r10, c52r11, c52r12, c52r13, c52r14, c52r16, GA]; try omega))
          | with_reducible refine r_done ?_
          | with_reducible refine hr_done ?_
          | with_reducible refine s_go (by simp (disch := omega) only [hlt', gx, hx, hr, row_m hr, read_row (row_m hr), hu, row_m hu, read_row (row_m hu), csl, hul, usl, nl_len, nl_snoc, tf, row_m tf, read_row (row_m tf), cf, nf, hf', h0, e1, hg', tg, row_m tg, read_row (row_m tg), cg, e2, e3, g, List.set_set, List.length_set, c52r0, c52r1, c52r2, c52r3, c52r4, c52r5, c52r6, c52r7, c52r8, c52r9, c52r10, c52r11, c52r12, c52r13, c52r14, c52r16, EV0, EV1, EV2, EV3, EV4, EV5, EV6, EV7, EV8, VALS, plug, ite_same, decide_true, decide_false, eq_self, ↓reduceIte, reduceCtorEq, Nat.reduceAdd, Nat.reduceEqDiff, Nat.reduceLT, Nat.reduceLeDiff, Nat.reduceMul, Nat.reduceSub, Nat.reduceDiv, Int.reduceToNat, Int.reduceAdd, Int.reduceSub, Int.reduceMul, Int.reduceNeg, Int.reduceEq, Int.reduceLT, Int.reduceLE]; with_reducible rfl) ?_
          | with_reducible refine h_go (by with_unfolding_all rfl) (by simp (disch := omega) only [hlt', gx, hx, hr, row_m hr, read_row (row_m hr), hu, row_m hu, read_row (row_m hu), csl, hul, usl, nl_len, nl_snoc, tf, row_m tf, read_row (row_m tf), cf, nf, hf', h0, e1, hg', tg, row_m tg, read_row (row_m tg), cg, e2, e3, g, List.set_set, List.length_set, c52r0, c52r1, c52r2, c52r3, c52r4, c52r5, c52r6, c52r7, c52r8, c52r9, c52r10, c52r11, c52r12, c52r13, c52r14, c52r16, EV0, EV1, EV2, EV3, EV4, EV5, EV6, EV7, EV8, VALS, plug, ite_same, decide_true, decide_false, eq_self, ↓reduceIte, reduceCtorEq, Nat.reduceAdd, Nat.reduceEqDiff, Nat.reduceLT, Nat.reduceLeDiff, Nat.reduceMul, Nat.reduceSub, Nat.reduceDiv, Int.reduceToNat, Int.reduceAdd, Int.reduceSub, Int.reduceMul, Int.reduceNeg, Int.reduceEq, Int.reduceLT, Int.reduceLE]; with_reducible rfl) ?_
          | ((with_reducible refine chk_r ?_); refine r_callF (by simp only [CA, Nat.reduceEqDiff, ↓reduceIte]; rfl) (by exact rfl) (by simp only [CA, Nat.reduceEqDiff, ↓reduceIte]; rfl) rfl ?_)
          | ((with_reducible refine chk_h ?_); refine hr_callF (by simp only [CA, Nat.reduceEqDiff, ↓reduceIte]; rfl) (by exact rfl) (by simp only [CA, Nat.reduceEqDiff, ↓reduceIte]; rfl) rfl ?_)
          | ((with_reducible refine chk_r ?_); refine r_callP (by simp only [CA, Nat.reduceEqDiff, ↓reduceIte]; rfl) (by simp only [CA, Nat.reduceEqDiff, ↓reduceIte]; rfl) (by first | ((refine PC.at q86 rfl ?_; refine .cons (now _ ?_) (.cons (.fn .nil (.cons (.same (by simp only [AV.plain, AV.plains, flB_plain, Bool.and_true])) (.cons (.p (by simp (disch := omega) only [c52r0, c52r1, c52r2, c52r3, c52r4, c52r5, c52r6, c52r7, c52r8, c52r9, c52r10, c52r11, c52r12, c52r13, c52r14, c52r16, EV0, EV1, EV2, EV3, EV4, EV5, EV6, EV7, EV8, VALS, plug, ite_same, decide_true, decide_false, eq_self, ↓reduceIte, reduceCtorEq, Nat.reduceAdd, Nat.reduceEqDiff, Nat.reduceLT, Nat.reduceLeDiff, Nat.reduceMul, Nat.reduceSub, Nat.reduceDiv, Int.reduceToNat, Int.reduceAdd, Int.reduceSub, Int.reduceMul, Int.reduceNeg, Int.reduceEq, Int.reduceLT, Int.reduceLE] <;> rfl) (Nows.same rfl)) .nil))) .nil); intro t b hb; have := ok.m hb; simp (disch := omega) only [hb, c52r0, c52r1, c52r2, c52r3, c52r4, c52r5, c52r6, c52r7, c52r8, c52r9, c52r10, c52r11, c52r12, c52r13, c52r14, c52r16, EV0, EV1, EV2, EV3, EV4, EV5, EV6, EV7, EV8, VALS, plug, ite_same, decide_true, decide_false, eq_self, ↓reduceIte, reduceCtorEq, Nat.reduceAdd, Nat.reduceEqDiff, Nat.reduceLT, Nat.reduceLeDiff, Nat.reduceMul, Nat.reduceSub, Nat.reduceDiv, Int.reduceToNat, Int.reduceAdd, Int.reduceSub, Int.reduceMul, Int.reduceNeg, Int.reduceEq, Int.reduceLT, Int.reduceLE]); all_goals fail)) rfl ?_)
          | ((with_reducible refine chk_h ?_); refine hr_callP (by simp only [CA, Nat.reduceEqDiff, ↓reduceIte]; rfl) (by simp only [CA, Nat.reduceEqDiff, ↓reduceIte]; rfl) (by first | ((refine PC.at q86 rfl ?_; refine .cons (now _ ?_) (.cons (.fn .nil (.cons (.same (by simp only [AV.plain, AV.plains, flB_plain, Bool.and_true])) (.cons (.p (by simp (disch := omega) only [c52r0, c52r1, c52r2, c52r3, c52r4, c52r5, c52r6, c52r7, c52r8, c52r9, c52r10, c52r11, c52r12, c52r13, c52r14, c52r16, EV0, EV1, EV2, EV3, EV4, EV5, EV6, EV7, EV8, VALS, plug, ite_same, decide_true, decide_false, eq_self, ↓reduceIte, reduceCtorEq, Nat.reduceAdd, Nat.reduceEqDiff, Nat.reduceLT, Nat.reduceLeDiff, Nat.reduceMul, Nat.reduceSub, Nat.reduceDiv, Int.reduceToNat, Int.reduceAdd, Int.reduceSub, Int.reduceMul, Int.reduceNeg, Int.reduceEq, Int.reduceLT, Int.reduceLE] <;> rfl) (Nows.same rfl)) .nil))) .nil); intro t b hb; have := ok.m hb; simp (disch := omega) only [hb, c52r0, c52r1, c52r2, c52r3, c52r4, c52r5, c52r6, c52r7, c52r8, c52r9, c52r10, c52r11, c52r12, c52r13, c52r14, c52r16, EV0, EV1, EV2, EV3, EV4, EV5, EV6, EV7, EV8, VALS, plug, ite_same, decide_true, decide_false, eq_self, ↓reduceIte, reduceCtorEq, Nat.reduceAdd, Nat.reduceEqDiff, Nat.reduceLT, Nat.reduceLeDiff, Nat.reduceMul, Nat.reduceSub, Nat.reduceDiv, Int.reduceToNat, Int.reduceAdd, Int.reduceSub, Int.reduceMul, Int.reduceNeg, Int.reduceEq, Int.reduceLT, Int.reduceLE]); all_goals fail)) rfl ?_)
          | ((with_reducible refine chk_h ?_); refine hr_callP1 (by simp only [CA, Nat.reduceEqDiff, ↓reduceIte]; rfl) (by simp only [CA, Nat.reduceEqDiff, ↓reduceIte]; rfl) (by simp (disch := omega) only [CA, Nat.reduceEqDiff, ↓reduceIte, firstTok_nil, firstTok_sl, firstTok_sl0, firstTok_i, firstTok_b, firstTok_ag, firstTok_p, firstTok_s]; rfl) (by first | ((refine PC.at q86 rfl ?_; refine .cons (now _ ?_) (.cons (.fn .nil (.cons (.same (by simp only [AV.plain, AV.plains, flB_plain, Bool.and_true])) (.cons (.p (by simp (disch := omega) only [c52r0, c52r1, c52r2, c52r3, c52r4, c52r5, c52r6, c52r7, c52r8, c52r9, c52r10, c52r11, c52r12, c52r13, c52r14, c52r16, EV0, EV1, EV2, EV3, EV4, EV5, EV6, EV7, EV8, VALS, plug, ite_same, decide_true, decide_false, eq_self, ↓reduceIte, reduceCtorEq, Nat.reduceAdd, Nat.reduceEqDiff, Nat.reduceLT, Nat.reduceLeDiff, Nat.reduceMul, Nat.reduceSub, Nat.reduceDiv, Int.reduceToNat, Int.reduceAdd, Int.reduceSub, Int.reduceMul, Int.reduceNeg, Int.reduceEq, Int.reduceLT, Int.reduceLE] <;> rfl) (Nows.same rfl)) .nil))) .nil); intro t b hb; have := ok.m hb; simp (disch := omega) only [hb, c52r0, c52r1, c52r2, c52r3, c52r4, c52r5, c52r6, c52r7, c52r8, c52r9, c52r10, c52r11, c52r12, c52r13, c52r14, c52r16, EV0, EV1, EV2, EV3, EV4, EV5, EV6, EV7, EV8, VALS, plug, ite_same, decide_true, decide_false, eq_self, ↓reduceIte, reduceCtorEq, Nat.reduceAdd, Nat.reduceEqDiff, Nat.reduceLT, Nat.reduceLeDiff, Nat.reduceMul, Nat.reduceSub, Nat.reduceDiv, Int.reduceToNat, Int.reduceAdd, Int.reduceSub, Int.reduceMul, Int.reduceNeg, Int.reduceEq, Int.reduceLT, Int.reduceLE]); all_goals fail)) rfl ?_)
          | ((with_reducible refine chk_h ?_); refine hr_app (by simp (disch := omega) only [hlt', gx, hx, hr, row_m hr, read_row (row_m hr), hu, row_m hu, read_row (row_m hu), csl, hul, usl, nl_len, nl_snoc, tf, row_m tf, read_row (row_m tf), cf, nf, hf', h0, e1, hg', tg, row_m tg, read_row (row_m tg), cg, e2, e3, g, List.set_set, List.length_set, c52r0, c52r1, c52r2, c52r3, c52r4, c52r5, c52r6, c52r7, c52r8, c52r9, c52r10, c52r11, c52r12, c52r13, c52r14, c52r16, EV0, EV1, EV2, EV3, EV4, EV5, EV6, EV7, EV8, VALS, plug, ite_same, decide_true, decide_false, eq_self, ↓reduceIte, reduceCtorEq, Nat.reduceAdd, Nat.reduceEqDiff, Nat.reduceLT, Nat.reduceLeDiff, Nat.reduceMul, Nat.reduceSub, Nat.reduceDiv, Int.reduceToNat, Int.reduceAdd, Int.reduceSub, Int.reduceMul, Int.reduceNeg, Int.reduceEq, Int.reduceLT, Int.reduceLE]; with_reducible rfl) rfl ?_)
          | (with_reducible refine k_condP (by simp only [GA, Nat.reduceEqDiff, ↓reduceIte]; rfl) (by first | (simp only [BO]; rfl) | rfl) (fun ht => ?_) (fun ht => ?_) <;> try (first | exact False.elim ht | exact absurd rfl ht | exact absurd trivial ht | exact Bool.noConfusion ht))
          | (with_reducible refine k_ret ?_; repeat with_reducible (first | refine ret_thru ?_ | refine ret_blk ?_ | refine fin ?_))
          | (with_reducible refine k_exit ?_; repeat with_reducible (first | refine thru ?_ | refine out_blk ?_ | refine pass (by decide) ?_))
          | (refine post1 ?_; simp only [GA, Nat.reduceEqDiff, ↓reduceIte])
          | (refine post2 ?_; simp only [GA, Nat.reduceEqDiff, ↓reduceIte])
          | (refine post3 ?_; simp only [GA, Nat.reduceEqDiff, ↓reduceIte])
          | (refine postc (by simp only [GA, Nat.reduceEqDiff, ↓reduceIte]; rfl) (by simp (disch := omega) only [hlt', gx, hx, hr, row_m hr, read_row (row_m hr), hu, row_m hu, read_row (row_m hu), csl, hul, usl, nl_len, nl_snoc, tf, row_m tf, read_row (row_m tf), cf, nf, hf', h0, e1, hg', tg, row_m tg, read_row (row_m tg), cg, e2, e3, g, List.set_set, List.length_set, c52r0, c52r1, c52r2, c52r3, c52r4, c52r5, c52r6, c52r7, c52r8, c52r9, c52r10, c52r11, c52r12, c52r13, c52r14, c52r16, EV0, EV1, EV2, EV3, EV4, EV5, EV6, EV7, EV8, VALS, plug, ite_same, decide_true, decide_false, eq_self, ↓reduceIte, reduceCtorEq, Nat.reduceAdd, Nat.reduceEqDiff, Nat.reduceLT, Nat.reduceLeDiff, Nat.reduceMul, Nat.reduceSub, Nat.reduceDiv, Int.reduceToNat, Int.reduceAdd, Int.reduceSub, Int.reduceMul, Int.reduceNeg, Int.reduceEq, Int.reduceLT, Int.reduceLE]; rfl) ?_)
          | refine post0 ?_
        refine ⟨hlt, ⟨r, ts.set (f + 1) (h.nx + 1 + 4 + 4 + 2 + 4 + 2 + 6 + 10 + 8), u, (us.set (od l k) ((lastN ((rowsK l k).getD f []) : Nat) : Int))⟩, ?g1, ?g2, u0, ur, ?g3, ?g4, ?g5, ?g6⟩
        case g1 =>
          simp only [Am.keep, List.map_cons, List.map_nil, GA, Nat.reduceEqDiff, ↓reduceIte, hlen1]
          rfl
        case g2 =>
          rw [hat, List.map_set, e0]
          refine N.put (by omega) hn1 (by omega) (by omega) (fun hm => by have := tlt _ hm; omega) (by rw [hcs]; simp (disch := omega) only [c52r0, c52r1, c52r2, c52r3, c52r4, c52r5, c52r6, c52r7, c52r8, c52r9, c52r10, c52r11, c52r12, c52r13, c52r14, c52r16, EV0, EV1, EV2, EV3, EV4, EV5, EV6, EV7, EV8, VALS, plug, ite_same, decide_true, decide_false, eq_self, ↓reduceIte, reduceCtorEq, Nat.reduceAdd, Nat.reduceEqDiff, Nat.reduceLT, Nat.reduceLeDiff, Nat.reduceMul, Nat.reduceSub, Nat.reduceDiv, Int.reduceToNat, Int.reduceAdd, Int.reduceSub, Int.reduceMul, Int.reduceNeg, Int.reduceEq, Int.reduceLT, Int.reduceLE] <;> rfl) (by simp (disch := omega) only [c52r0, c52r1, c52r2, c52r3, c52r4, c52r5, c52r6, c52r7, c52r8, c52r9, c52r10, c52r11, c52r12, c52r13, c52r14, c52r16, EV0, EV1, EV2, EV3, EV4, EV5, EV6, EV7, EV8, VALS, plug, ite_same, decide_true, decide_false, eq_self, ↓reduceIte, reduceCtorEq, Nat.reduceAdd, Nat.reduceEqDiff, Nat.reduceLT, Nat.reduceLeDiff, Nat.reduceMul, Nat.reduceSub, Nat.reduceDiv, Int.reduceToNat, Int.reduceAdd, Int.reduceSub, Int.reduceMul, Int.reduceNeg, Int.reduceEq, Int.reduceLT, Int.reduceLE] <;> rfl) fun s b hs hne hb => ?_
          have l1 := tlt s hs
          have n1 := (N.nr s hs).2
          have n2 : ¬ s = u := fun e => un (e ▸ hs)
          simp (disch := omega) only [hb, c52r0, c52r1, c52r2, c52r3, c52r4, c52r5, c52r6, c52r7, c52r8, c52r9, c52r10, c52r11, c52r12, c52r13, c52r14, c52r16, EV0, EV1, EV2, EV3, EV4, EV5, EV6, EV7, EV8, VALS, plug, ite_same, decide_true, decide_false, eq_self, ↓reduceIte, reduceCtorEq, Nat.reduceAdd, Nat.reduceEqDiff, Nat.reduceLT, Nat.reduceLeDiff, Nat.reduceMul, Nat.reduceSub, Nat.reduceDiv, Int.reduceToNat, Int.reduceAdd, Int.reduceSub, Int.reduceMul, Int.reduceNeg, Int.reduceEq, Int.reduceLT, Int.reduceLE]
        case g3 =>
          intro hm
          rcases List.mem_or_eq_of_mem_set hm with q | q
          · exact un q
          · simp only [] at q; omega
        case g4 => simp (disch := omega) only [hu, List.set_set, c52r0, c52r1, c52r2, c52r3, c52r4, c52r5, c52r6, c52r7, c52r8, c52r9, c52r10, c52r11, c52r12, c52r13, c52r14, c52r16, EV0, EV1, EV2, EV3, EV4, EV5, EV6, EV7, EV8, VALS, plug, ite_same, decide_true, decide_false, eq_self, ↓reduceIte, reduceCtorEq, Nat.reduceAdd, Nat.reduceEqDiff, Nat.reduceLT, Nat.reduceLeDiff, Nat.reduceMul, Nat.reduceSub, Nat.reduceDiv, Int.reduceToNat, Int.reduceAdd, Int.reduceSub, Int.reduceMul, Int.reduceNeg, Int.reduceEq, Int.reduceLT, Int.reduceLE] <;> rfl
        case g5 => simp only [List.length_set]; exact hul
        case g6 => exact us_step hul hlt hus (by rw [hund]; try rfl)
    · rw [if_neg hf] at q86 hat
      have hfe : f = (rowsK l k).length := by omega
      have csl := rC_len (k := 1) N.len
      rw [Nl] at csl
      have hlen1 : (rowsK l (k + 1)).length = (rowsK l k).length + 1 := by rw [hat]; simp
      have e0 : [[od l k]].map rw1 = [(1, nl [od l k])] := rfl
      have c0 : ∀ cs : List AV, cs.length = (rowsK l k).length → (cs ++ [AV.sl 0 0 0 0])[(rowsK l k).length]? = some (.sl 0 0 0 0) := fun cs h => get_last h
      have lt1 : ((rowsK l k).length : Int) < (((rowsK l k).length + 1 : Nat) : Int) := by omega
      have sx : ∀ x : Nat, ([AV.i .i64 (x : Int)] : List AV) = nl [x] := fun x => rfl
      cases f with
      | zero =>
        have z : (rowsK l k).length = 0 := by omega
        have h0 : ¬ (0 : Int) < ((rowsK l k).length : Int) := by omega
        rw [if_pos rfl] at hund
        generalize hcs : rC 1 ts ((rowsK l k).map rw1) = cs at hr csl
        have c0 := c0 cs csl
        have c2 : (cs ++ [AV.sl 0 0 0 0]).length = (rowsK l k).length + 1 := by rw [List.length_append, csl]; rfl
        repeat' first
          | with_reducible refine k_seq ?_
          | with_reducible refine k_skip ?_
          | with_reducible refine k_blkS ?_
          | with_reducible refine k_blkR ?_
          | with_reducible refine k_blkC ?_
          | with_reducible refine k_blkH ?_
          | with_reducible refine k_blkB ?_
          | with_reducible refine k_blkK ?_
          | with_reducible refine k_blkE ?_
          | with_reducible refine k_reg ?_
          | with_reducible refine k_head (by with_unfolding_all rfl) ?_
          | with_reducible refine k_headS ?_
          | (with_reducible refine SepK.mk ?_ ?_; (refine sepQ_P ?_; simp [sepQ, sepG, AOp.late, AOp.free, AOp.xs, AOp.isAl, tokNe, AV.tok, stS_get, strip, AX.val, c52r0, c52r1, c52r2, c52r3, c52r4, c52r5, c52r6, c52r7, c52r8, c52r9, c52r10, c52r11, c52r12, c52r13, c52r14, c52r16, GA]; try omega))
          | with_reducible refine r_done ?_
          | with_reducible refine hr_done ?_
          | with_reducible refine s_go (by simp (disch := omega) only [hlt', gx, hx, hr, row_m hr, read_row (row_m hr), hu, row_m hu, read_row (row_m hu), csl, hul, usl, nl_len, nl_snoc, h0, c0, c2, lt1, c52r0, c52r1, c52r2, c52r3, c52r4, c52r5, c52r6, c52r7, c52r8, c52r9, c52r10, c52r11, c52r12, c52r13, c52r14, c52r16, EV0, EV1, EV2, EV3, EV4, EV5, EV6, EV7, EV8, VALS, plug, ite_same, decide_true, decide_false, eq_self, ↓reduceIte, reduceCtorEq, Nat.reduceAdd, Nat.reduceEqDiff, Nat.reduceLT, Nat.reduceLeDiff, Nat.reduceMul, Nat.reduceSub, Nat.reduceDiv, Int.reduceToNat, Int.reduceAdd, Int.reduceSub, Int.reduceMul, Int.reduceNeg, Int.reduceEq, Int.reduceLT, Int.reduceLE]; with_reducible rfl) ?_
          | with_reducible refine h_go (by with_unfolding_all rfl) (by simp (disch := omega) only [hlt', gx, hx, hr, row_m hr, read_row (row_m hr), hu, row_m hu, read_row (row_m hu), csl, hul, usl, nl_len, nl_snoc, h0, c0, c2, lt1, c52r0, c52r1, c52r2, c52r3, c52r4, c52r5, c52r6, c52r7, c52r8, c52r9, c52r10, c52r11, c52r12, c52r13, c52r14, c52r16, EV0, EV1, EV2, EV3, EV4, EV5, EV6, EV7, EV8, VALS, plug, ite_same, decide_true, decide_false, eq_self, ↓reduceIte, reduceCtorEq, Nat.reduceAdd, Nat.reduceEqDiff, Nat.reduceLT, Nat.reduceLeDiff, Nat.reduceMul, Nat.reduceSub, Nat.reduceDiv, Int.reduceToNat, Int.reduceAdd, Int.reduceSub, Int.reduceMul, Int.reduceNeg, Int.reduceEq, Int.reduceLT, Int.reduceLE]; with_reducible rfl) ?_
          | ((with_reducible refine chk_r ?_); refine r_callF (by simp only [CA, Nat.reduceEqDiff, ↓reduceIte]; rfl) (by exact rfl) (by simp only [CA, Nat.reduceEqDiff, ↓reduceIte]; rfl) rfl ?_)
          | ((with_reducible refine chk_h ?_); refine hr_callF (by simp only [CA, Nat.reduceEqDiff, ↓reduceIte]; rfl) (by exact rfl) (by simp only [CA, Nat.reduceEqDiff, ↓reduceIte]; rfl) rfl ?_)
          | ((with_reducible refine chk_r ?_); refine r_callP (by simp only [CA, Nat.reduceEqDiff, ↓reduceIte]; rfl) (by simp only [CA, Nat.reduceEqDiff, ↓reduceIte]; rfl) (by first | ((refine PC.at q86 rfl ?_; refine .cons (now _ ?_) (.cons (.fn .nil (.cons (.same (by simp only [AV.plain, AV.plains, flB_plain, Bool.and_true])) (.cons (.p (by simp (disch := omega) only [c52r0, c52r1, c52r2, c52r3, c52r4, c52r5, c52r6, c52r7, c52r8, c52r9, c52r10, c52r11, c52r12, c52r13, c52r14, c52r16, EV0, EV1, EV2, EV3, EV4, EV5, EV6, EV7, EV8, VALS, plug, ite_same, decide_true, decide_false, eq_self, ↓reduceIte, reduceCtorEq, Nat.reduceAdd, Nat.reduceEqDiff, Nat.reduceLT, Nat.reduceLeDiff, Nat.reduceMul, Nat.reduceSub, Nat.reduceDiv, Int.reduceToNat, Int.reduceAdd, Int.reduceSub, Int.reduceMul, Int.reduceNeg, Int.reduceEq, Int.reduceLT, Int.reduceLE] <;> rfl) (Nows.same rfl)) .nil))) .nil); intro t b hb; have := ok.m hb; simp (disch := omega) only [hb, c52r0, c52r1, c52r2, c52r3, c52r4, c52r5, c52r6, c52r7, c52r8, c52r9, c52r10, c52r11, c52r12, c52r13, c52r14, c52r16, EV0, EV1, EV2, EV3, EV4, EV5, EV6, EV7, EV8, VALS, plug, ite_same, decide_true, decide_false, eq_self, ↓reduceIte, reduceCtorEq, Nat.reduceAdd, Nat.reduceEqDiff, Nat.reduceLT, Nat.reduceLeDiff, Nat.reduceMul, Nat.reduceSub, Nat.reduceDiv, Int.reduceToNat, Int.reduceAdd, Int.reduceSub, Int.reduceMul, Int.reduceNeg, Int.reduceEq, Int.reduceLT, Int.reduceLE]); all_goals fail)) rfl ?_)
          | ((with_reducible refine chk_h ?_); refine hr_callP (by simp only [CA, Nat.reduceEqDiff, ↓reduceIte]; rfl) (by simp only [CA, Nat.reduceEqDiff, ↓reduceIte]; rfl) (by first | ((refine PC.at q86 rfl ?_; refine .cons (now _ ?_) (.cons (.fn .nil (.cons (.same (by simp only [AV.plain, AV.plains, flB_plain, Bool.and_true])) (.cons (.p (by simp (disch := omega) only [c52r0, c52r1, c52r2, c52r3, c52r4, c52r5, c52r6, c52r7, c52r8, c52r9, c52r10, c52r11, c52r12, c52r13, c52r14, c52r16, EV0, EV1, EV2, EV3, EV4, EV5, EV6, EV7, EV8, VALS, plug, ite_same, decide_true, decide_false, eq_self, ↓reduceIte, reduceCtorEq, Nat.reduceAdd, Nat.reduceEqDiff, Nat.reduceLT, Nat.reduceLeDiff, Nat.reduceMul, Nat.reduceSub, Nat.reduceDiv, Int.reduceToNat, Int.reduceAdd, Int.reduceSub, Int.reduceMul, Int.reduceNeg, Int.reduceEq, Int.reduceLT, Int.reduceLE] <;> rfl) (Nows.same rfl)) .nil))) .nil); intro t b hb; have := ok.m hb; simp (disch := omega) only [hb, c52r0, c52r1, c52r2, c52r3, c52r4, c52r5, c52r6, c52r7, c52r8, c52r9, c52r10, c52r11, c52r12, c52r13, c52r14, c52r16, EV0, EV1, EV2, EV3, EV4, EV5, EV6, EV7, EV8, VALS, plug, ite_same, decide_true, decide_false, eq_self, ↓reduceIte, reduceCtorEq, Nat.reduceAdd, Nat.reduceEqDiff, Nat.reduceLT, Nat.reduceLeDiff, Nat.reduceMul, Nat.reduceSub, Nat.reduceDiv, Int.reduceToNat, Int.reduceAdd, Int.reduceSub, Int.reduceMul, Int.reduceNeg, Int.reduceEq, Int.reduceLT, Int.reduceLE]); all_goals fail)) rfl ?_)
          | ((with_reducible refine chk_h ?_); refine hr_callP1 (by simp only [CA, Nat.reduceEqDiff, ↓reduceIte]; rfl) (by simp only [CA, Nat.reduceEqDiff, ↓reduceIte]; rfl) (by simp (disch := omega) only [CA, Nat.reduceEqDiff, ↓reduceIte, firstTok_nil, firstTok_sl, firstTok_sl0, firstTok_i, firstTok_b, firstTok_ag, firstTok_p, firstTok_s]; rfl) (by first | ((refine PC.at q86 rfl ?_; refine .cons (now _ ?_) (.cons (.fn .nil (.cons (.same (by simp only [AV.plain, AV.plains, flB_plain, Bool.and_true])) (.cons (.p (by simp (disch := omega) only [c52r0, c52r1, c52r2, c52r3, c52r4, c52r5, c52r6, c52r7, c52r8, c52r9, c52r10, c52r11, c52r12, c52r13, c52r14, c52r16, EV0, EV1, EV2, EV3, EV4, EV5, EV6, EV7, EV8, VALS, plug, ite_same, decide_true, decide_false, eq_self, ↓reduceIte, reduceCtorEq, Nat.reduceAdd, Nat.reduceEqDiff, Nat.reduceLT, Nat.reduceLeDiff, Nat.reduceMul, Nat.reduceSub, Nat.reduceDiv, Int.reduceToNat, Int.reduceAdd, Int.reduceSub, Int.reduceMul, Int.reduceNeg, Int.reduceEq, Int.reduceLT, Int.reduceLE] <;> rfl) (Nows.same rfl)) .nil))) .nil); intro t b hb; have := ok.m hb; simp (disch := omega) only [hb, c52r0, c52r1, c52r2, c52r3, c52r4, c52r5, c52r6, c52r7, c52r8, c52r9, c52r10, c52r11, c52r12, c52r13, c52r14, c52r16, EV0, EV1, EV2, EV3, EV4, EV5, EV6, EV7, EV8, VALS, plug, ite_same, decide_true, decide_false, eq_self, ↓reduceIte, reduceCtorEq, Nat.reduceAdd, Nat.reduceEqDiff, Nat.reduceLT, Nat.reduceLeDiff, Nat.reduceMul, Nat.reduceSub, Nat.reduceDiv, Int.reduceToNat, Int.reduceAdd, Int.reduceSub, Int.reduceMul, Int.reduceNeg, Int.reduceEq, Int.reduceLT, Int.reduceLE]); all_goals fail)) rfl ?_)
          | ((with_reducible refine chk_h ?_); refine hr_app (by simp (disch := omega) only [hlt', gx, hx, hr, row_m hr, read_row (row_m hr), hu, row_m hu, read_row (row_m hu), csl, hul, usl, nl_len, nl_snoc, h0, c0, c2, lt1, c52r0, c52r1, c52r2, c52r3, c52r4, c52r5, c52r6, c52r7, c52r8, c52r9, c52r10, c52r11, c52r12, c52r13, c52r14, c52r16, EV0, EV1, EV2, EV3, EV4, EV5, EV6, EV7, EV8, VALS, plug, ite_same, decide_true, decide_false, eq_self, ↓reduceIte, reduceCtorEq, Nat.reduceAdd, Nat.reduceEqDiff, Nat.reduceLT, Nat.reduceLeDiff, Nat.reduceMul, Nat.reduceSub, Nat.reduceDiv, Int.reduceToNat, Int.reduceAdd, Int.reduceSub, Int.reduceMul, Int.reduceNeg, Int.reduceEq, Int.reduceLT, Int.reduceLE]; with_reducible rfl) rfl ?_)
          | (with_reducible refine k_condP (by simp only [GA, Nat.reduceEqDiff, ↓reduceIte]; rfl) (by first | (simp only [BO]; rfl) | rfl) (fun ht => ?_) (fun ht => ?_) <;> try (first | exact False.elim ht | exact absurd rfl ht | exact absurd trivial ht | exact Bool.noConfusion ht))
          | (with_reducible refine k_ret ?_; repeat with_reducible (first | refine ret_thru ?_ | refine ret_blk ?_ | refine fin ?_))
          | (with_reducible refine k_exit ?_; repeat with_reducible (first | refine thru ?_ | refine out_blk ?_ | refine pass (by decide) ?_))
          | (refine post1 ?_; simp only [GA, Nat.reduceEqDiff, ↓reduceIte])
          | (refine post2 ?_; simp only [GA, Nat.reduceEqDiff, ↓reduceIte])
          | (refine post3 ?_; simp only [GA, Nat.reduceEqDiff, ↓reduceIte])
          | (refine postc (by simp only [GA, Nat.reduceEqDiff, ↓reduceIte]; rfl) (by simp (disch := omega) only [hlt', gx, hx, hr, row_m hr, read_row (row_m hr), hu, row_m hu, read_row (row_m hu), csl, hul, usl, nl_len, nl_snoc, h0, c0, c2, lt1, c52r0, c52r1, c52r2, c52r3, c52r4, c52r5, c52r6, c52r7, c52r8, c52r9, c52r10, c52r11, c52r12, c52r13, c52r14, c52r16, EV0, EV1, EV2, EV3, EV4, EV5, EV6, EV7, EV8, VALS, plug, ite_same, decide_true, decide_false, eq_self, ↓reduceIte, reduceCtorEq, Nat.reduceAdd, Nat.reduceEqDiff, Nat.reduceLT, Nat.reduceLeDiff, Nat.reduceMul, Nat.reduceSub, Nat.reduceDiv, Int.reduceToNat, Int.reduceAdd, Int.reduceSub, Int.reduceMul, Int.reduceNeg, Int.reduceEq, Int.reduceLT, Int.reduceLE]; rfl) ?_)
          | refine post0 ?_
        refine ⟨hlt, ⟨(h.nx + 1 + 4 + 4 + 2 + 3 + 2), ts ++ [(h.nx + 1 + 4 + 4 + 2 + 3 + 4 + 4 + 2 + 8)], u, (us.set (od l k) (-1))⟩, ?g1, ?g2, u0, ?g7, ?g3, ?g4, ?g5, ?g6⟩
        case g1 =>
          simp only [Am.keep, List.map_cons, List.map_nil, GA, Nat.reduceEqDiff, ↓reduceIte, hlen1]
          rfl
        case g2 =>
          rw [hat, List.map_append, e0]
          refine N.snoc (n := 1) (cs := nl [od l k]) rfl (by omega) (by omega) (by omega) (fun hm => by have := tlt _ hm; omega) (fun hm => by have := tlt _ hm; omega) (by rw [hcs]; simp (disch := omega) only [set_last csl, c52r0, c52r1, c52r2, c52r3, c52r4, c52r5, c52r6, c52r7, c52r8, c52r9, c52r10, c52r11, c52r12, c52r13, c52r14, c52r16, EV0, EV1, EV2, EV3, EV4, EV5, EV6, EV7, EV8, VALS, plug, ite_same, decide_true, decide_false, eq_self, ↓reduceIte, reduceCtorEq, Nat.reduceAdd, Nat.reduceEqDiff, Nat.reduceLT, Nat.reduceLeDiff, Nat.reduceMul, Nat.reduceSub, Nat.reduceDiv, Int.reduceToNat, Int.reduceAdd, Int.reduceSub, Int.reduceMul, Int.reduceNeg, Int.reduceEq, Int.reduceLT, Int.reduceLE] <;> rfl) (by simp (disch := omega) only [c52r0, c52r1, c52r2, c52r3, c52r4, c52r5, c52r6, c52r7, c52r8, c52r9, c52r10, c52r11, c52r12, c52r13, c52r14, c52r16, EV0, EV1, EV2, EV3, EV4, EV5, EV6, EV7, EV8, VALS, plug, ite_same, decide_true, decide_false, eq_self, ↓reduceIte, reduceCtorEq, Nat.reduceAdd, Nat.reduceEqDiff, Nat.reduceLT, Nat.reduceLeDiff, Nat.reduceMul, Nat.reduceSub, Nat.reduceDiv, Int.reduceToNat, Int.reduceAdd, Int.reduceSub, Int.reduceMul, Int.reduceNeg, Int.reduceEq, Int.reduceLT, Int.reduceLE] <;> rfl) fun s b hs hb => ?_
          have l1 := tlt s hs
          have n1 := (N.nr s hs).2
          have n2 : ¬ s = u := fun e => un (e ▸ hs)
          simp (disch := omega) only [hb, c52r0, c52r1, c52r2, c52r3, c52r4, c52r5, c52r6, c52r7, c52r8, c52r9, c52r10, c52r11, c52r12, c52r13, c52r14, c52r16, EV0, EV1, EV2, EV3, EV4, EV5, EV6, EV7, EV8, VALS, plug, ite_same, decide_true, decide_false, eq_self, ↓reduceIte, reduceCtorEq, Nat.reduceAdd, Nat.reduceEqDiff, Nat.reduceLT, Nat.reduceLeDiff, Nat.reduceMul, Nat.reduceSub, Nat.reduceDiv, Int.reduceToNat, Int.reduceAdd, Int.reduceSub, Int.reduceMul, Int.reduceNeg, Int.reduceEq, Int.reduceLT, Int.reduceLE]
        case g7 => simp only []; omega
        case g3 =>
          intro hm
          rcases List.mem_append.1 hm with q | q
          · exact un q
          · rw [List.mem_singleton] at q; simp only [] at q; omega
        case g4 => simp (disch := omega) only [hu, List.set_set, c52r0, c52r1, c52r2, c52r3, c52r4, c52r5, c52r6, c52r7, c52r8, c52r9, c52r10, c52r11, c52r12, c52r13, c52r14, c52r16, EV0, EV1, EV2, EV3, EV4, EV5, EV6, EV7, EV8, VALS, plug, ite_same, decide_true, decide_false, eq_self, ↓reduceIte, reduceCtorEq, Nat.reduceAdd, Nat.reduceEqDiff, Nat.reduceLT, Nat.reduceLeDiff, Nat.reduceMul, Nat.reduceSub, Nat.reduceDiv, Int.reduceToNat, Int.reduceAdd, Int.reduceSub, Int.reduceMul, Int.reduceNeg, Int.reduceEq, Int.reduceLT, Int.reduceLE] <;> rfl
        case g5 => simp only [List.length_set]; exact hul
        case g6 => exact us_step hul hlt hus (by rw [hund]; try rfl)
      | succ f =>
        have h0 : (0 : Int) < ((rowsK l k).length : Int) := by omega
        rw [if_neg (by omega), Nat.add_sub_cancel] at hund
        have e1 : ((rowsK l k).length : Int) - 1 = (f : Int) := by omega
        have hg : f < (rowsK l k).length := by omega
        have hg' : (f : Int) < (((rowsK l k).length + 1 : Nat) : Int) := by omega
        have cg := N.cell (i := f) (by omega)
        rw [rD_map hg] at cg
        have tg := N.row (i := f) (by omega)
        rw [rD_map hg] at tg
        have mg := N.mem (i := f) (by omega)
        have ltg := tlt _ mg
        have neg := N.ne (i := f) (by omega)
        have negu : ¬ tD ts f = u := fun e => un (e ▸ mg)
        have rlg := rin f hg
        have hne := Rk.ne _ (mem_row hg)
        have hp : 0 < ((rowsK l k).getD f []).length := List.length_pos_iff.2 hne
        have e2 : (((rowsK l k).getD f []).length : Int) - 1 = ((((rowsK l k).getD f []).length - 1 : Nat) : Int) := by omega
        have e3 : ((rowsK l k).getD f []).length - 1 < ((rowsK l k).getD f []).length := by omega
        have g := last_get hne
        simp only at cg tg
        generalize hcs : rC 1 ts ((rowsK l k).map rw1) = cs at hr csl cg
        have c0 := c0 cs csl
        have c2 : (cs ++ [AV.sl 0 0 0 0]).length = (rowsK l k).length + 1 := by rw [List.length_append, csl]; rfl
        have c1 := get_low (z := .sl 0 0 0 0) cg
        repeat' first
          | with_reducible refine k_seq ?_
          | with_reducible refine k_skip ?_
          | with_reducible refine k_blkS ?_
          | with_reducible refine k_blkR ?_
          | with_reducible refine k_blkC ?_
          | with_reducible refine k_blkH ?_
          | with_reducible refine k_blkB ?_
          | with_reducible refine k_blkK ?_
          | with_reducible refine k_blkE ?_
          | with_reducible refine k_reg ?_
          | with_reducible refine k_head (by with_unfolding_all rfl) ?_
          | with_reducible refine k_headS ?_
          | (with_reducible refine SepK.mk ?_ ?_; (refine sepQ_P ?_; simp [sepQ, sepG, AOp.late, AOp.free, AOp.xs, AOp.isAl, tokNe, AV.tok, stS_get, strip, AX.val, c52r0, c52r1, c52r2, c52r3, c52r4, c52r5, c52r6, c52r7, c52r8, c52r9, c52r10, c52r11, c52r12, c52r13, c52r14, c52r16, GA]; try omega))
          | with_reducible refine r_done ?_
          | with_reducible refine hr_done ?_
          | with_reducible refine s_go (by simp (disch := omega) only [hlt', gx, hx, hr, row_m hr, read_row (row_m hr), hu, row_m hu, read_row (row_m hu), csl, hul, usl, nl_len, nl_snoc, h0, c0, c2, lt1, e1, hg', tg, row_m tg, read_row (row_m tg), c1, e2, e3, g, List.set_set, List.length_set, c52r0, c52r1, c52r2, c52r3, c52r4, c52r5, c52r6, c52r7, c52r8, c52r9, c52r10, c52r11, c52r12, c52r13, c52r14, c52r16, EV0, EV1, EV2, EV3, EV4, EV5, EV6, EV7, EV8, VALS, plug, ite_same, decide_true, decide_false, eq_self, ↓reduceIte, reduceCtorEq, Nat.reduceAdd, Nat.reduceEqDiff, Nat.reduceLT, Nat.reduceLeDiff, Nat.reduceMul, Nat.reduceSub, Nat.reduceDiv, Int.reduceToNat, Int.reduceAdd, Int.reduceSub, Int.reduceMul, Int.reduceNeg, Int.reduceEq, Int.reduceLT, Int.reduceLE]; with_reducible rfl) ?_
          | with_reducible refine h_go (by with_unfolding_all rfl) (by simp (disch := omega) only [hlt', gx, hx, hr, row_m hr, read_row (row_m hr), hu, row_m hu, read_row (row_m hu), csl, hul, usl, nl_len, nl_snoc, h0, c0, c2, lt1, e1, hg', tg, row_m tg, read_row (row_m tg), c1, e2, e3, g, List.set_set, List.length_set, c52r0, c52r1, c52r2, c52r3, c52r4, c52r5, c52r6, c52r7, c52r8, c52r9, c52r10, c52r11, c52r12, c52r13, c52r14, c52r16, EV0, EV1, EV2, EV3, EV4, EV5, EV6, EV7, EV8, VALS, plug, ite_same, decide_true, decide_false, eq_self, ↓reduceIte, reduceCtorEq, Nat.reduceAdd, Nat.reduceEqDiff, Nat.reduceLT, Nat.reduceLeDiff, Nat.reduceMul, Nat.reduceSub, Nat.reduceDiv, Int.reduceToNat, Int.reduceAdd, Int.reduceSub, Int.reduceMul, Int.reduceNeg, Int.reduceEq, Int.reduceLT, Int.reduceLE]; with_reducible rfl) ?_
          | ((with_reducible refine chk_r ?_); refine r_callF (by simp only [CA, Nat.reduceEqDiff, ↓reduceIte]; rfl) (by exact rfl) (by simp only [CA, Nat.reduceEqDiff, ↓reduceIte]; rfl) rfl ?_)
          | ((with_reducible refine chk_h ?_); refine hr_callF (by simp only [CA, Nat.reduceEqDiff, ↓reduceIte]; rfl) (by exact rfl) (by simp only [CA, Nat.reduceEqDiff, ↓reduceIte]; rfl) rfl ?_)
          | ((with_reducible refine chk_r ?_); refine r_callP (by simp only [CA, Nat.reduceEqDiff, ↓reduceIte]; rfl) (by simp only [CA, Nat.reduceEqDiff, ↓reduceIte]; rfl) (by first | ((refine PC.at q86 rfl ?_; refine .cons (now _ ?_) (.cons (.fn .nil (.cons (.same (by simp only [AV.plain, AV.plains, flB_plain, Bool.and_true])) (.cons (.p (by simp (disch := omega) only [c52r0, c52r1, c52r2, c52r3, c52r4, c52r5, c52r6, c52r7, c52r8, c52r9, c52r10, c52r11, c52r12, c52r13, c52r14, c52r16, EV0, EV1, EV2, EV3, EV4, EV5, EV6, EV7, EV8, VALS, plug, ite_same, decide_true, decide_false, eq_self, ↓reduceIte, reduceCtorEq, Nat.reduceAdd, Nat.reduceEqDiff, Nat.reduceLT, Nat.reduceLeDiff, Nat.reduceMul, Nat.reduceSub, Nat.reduceDiv, Int.reduceToNat, Int.reduceAdd, Int.reduceSub, Int.reduceMul, Int.reduceNeg, Int.reduceEq, Int.reduceLT, Int.reduceLE] <;> rfl) (Nows.same rfl)) .nil))) .nil); intro t b hb; have := ok.m hb; simp (disch := omega) only [hb, c52r0, c52r1, c52r2, c52r3, c52r4, c52r5, c52r6, c52r7, c52r8, c52r9, c52r10, c52r11, c52r12, c52r13, c52r14, c52r16, EV0, EV1, EV2, EV3, EV4, EV5, EV6, EV7, EV8, VALS, plug, ite_same, decide_true, decide_false, eq_self, ↓reduceIte, reduceCtorEq, Nat.reduceAdd, Nat.reduceEqDiff, Nat.reduceLT, Nat.reduceLeDiff, Nat.reduceMul, Nat.reduceSub, Nat.reduceDiv, Int.reduceToNat, Int.reduceAdd, Int.reduceSub, Int.reduceMul, Int.reduceNeg, Int.reduceEq, Int.reduceLT, Int.reduceLE]); all_goals fail)) rfl ?_)
          | ((with_reducible refine chk_h ?_); refine hr_callP (by simp only [CA, Nat.reduceEqDiff, ↓reduceIte]; rfl) (by simp only [CA, Nat.reduceEqDiff, ↓reduceIte]; rfl) (by first | ((refine PC.at q86 rfl ?_; refine .cons (now _ ?_) (.cons (.fn .nil (.cons (.same (by simp only [AV.plain, AV.plains, flB_plain, Bool.and_true])) (.cons (.p (by simp (disch := omega) only [c52r0, c52r1, c52r2, c52r3, c52r4, c52r5, c52r6, c52r7, c52r8, c52r9, c52r10, c52r11, c52r12, c52r13, c52r14, c52r16, EV0, EV1, EV2, EV3, EV4, EV5, EV6, EV7, EV8, VALS, plug, ite_same, decide_true, decide_false, eq_self, ↓reduceIte, reduceCtorEq, Nat.reduceAdd, Nat.reduceEqDiff, Nat.reduceLT, Nat.reduceLeDiff, Nat.reduceMul, Nat.reduceSub, Nat.reduceDiv, Int.reduceToNat, Int.reduceAdd, Int.reduceSub, Int.reduceMul, Int.reduceNeg, Int.reduceEq, Int.reduceLT, Int.reduceLE] <;> rfl) (Nows.same rfl)) .nil))) .nil); intro t b hb; have := ok.m hb; simp (disch := omega) only [hb, c52r0, c52r1, c52r2, c52r3, c52r4, c52r5, c52r6, c52r7, c52r8, c52r9, c52r10, c52r11, c52r12, c52r13, c52r14, c52r16, EV0, EV1, EV2, EV3, EV4, EV5, EV6, EV7, EV8, VALS, plug, ite_same, decide_true, decide_false, eq_self, ↓reduceIte, reduceCtorEq, Nat.reduceAdd, Nat.reduceEqDiff, Nat.reduceLT, Nat.reduceLeDiff, Nat.reduceMul, Nat.reduceSub, Nat.reduceDiv, Int.reduceToNat, Int.reduceAdd, Int.reduceSub, Int.reduceMul, Int.reduceNeg, Int.reduceEq, Int.reduceLT, Int.reduceLE]); all_goals fail)) rfl ?_)
          | ((with_reducible refine chk_h ?_); refine hr_callP1 (by simp only [CA, Nat.reduceEqDiff, ↓reduceIte]; rfl) (by simp only [CA, Nat.reduceEqDiff, ↓reduceIte]; rfl) (by simp (disch := omega) only [CA, Nat.reduceEqDiff, ↓reduceIte, firstTok_nil, firstTok_sl, firstTok_sl0, firstTok_i, firstTok_b, firstTok_ag, firstTok_p, firstTok_s]; rfl) (by first | ((refine PC.at q86 rfl ?_; refine .cons (now _ ?_) (.cons (.fn .nil (.cons (.same (by simp only [AV.plain, AV.plains, flB_plain, Bool.and_true])) (.cons (.p (by simp (disch := omega) only [c52r0, c52r1, c52r2, c52r3, c52r4, c52r5, c52r6, c52r7, c52r8, c52r9, c52r10, c52r11, c52r12, c52r13, c52r14, c52r16, EV0, EV1, EV2, EV3, EV4, EV5, EV6, EV7, EV8, VALS, plug, ite_same, decide_true, decide_false, eq_self, ↓reduceIte, reduceCtorEq, Nat.reduceAdd, Nat.reduceEqDiff, Nat.reduceLT, Nat.reduceLeDiff, Nat.reduceMul, Nat.reduceSub, Nat.reduceDiv, Int.reduceToNat, Int.reduceAdd, Int.reduceSub, Int.reduceMul, Int.reduceNeg, Int.reduceEq, Int.reduceLT, Int.reduceLE] <;> rfl) (Nows.same rfl)) .nil))) .nil); intro t b hb; have := ok.m hb; simp (disch := omega) only [hb, c52r0, c52r1, c52r2, c52r3, c52r4, c52r5, c52r6, c52r7, c52r8, c52r9, c52r10, c52r11, c52r12, c52r13, c52r14, c52r16, EV0, EV1, EV2, EV3, EV4, EV5, EV6, EV7, EV8, VALS, plug, ite_same, decide_true, decide_false, eq_self, ↓reduceIte, reduceCtorEq, Nat.reduceAdd, Nat.reduceEqDiff, Nat.reduceLT, Nat.reduceLeDiff, Nat.reduceMul, Nat.reduceSub, Nat.reduceDiv, Int.reduceToNat, Int.reduceAdd, Int.reduceSub, Int.reduceMul, Int.reduceNeg, Int.reduceEq, Int.reduceLT, Int.reduceLE]); all_goals fail)) rfl ?_)
          | ((with_reducible refine chk_h ?_); refine hr_app (by simp (disch := omega) only [hlt', gx, hx, hr, row_m hr, read_row (row_m hr), hu, row_m hu, read_row (row_m hu), csl, hul, usl, nl_len, nl_snoc, h0, c0, c2, lt1, e1, hg', tg, row_m tg, read_row (row_m tg), c1, e2, e3, g, List.set_set, List.length_set, c52r0, c52r1, c52r2, c52r3, c52r4, c52r5, c52r6, c52r7, c52r8, c52r9, c52r10, c52r11, c52r12, c52r13, c52r14, c52r16, EV0, EV1, EV2, EV3, EV4, EV5, EV6, EV7, EV8, VALS, plug, ite_same, decide_true, decide_false, eq_self, ↓reduceIte, reduceCtorEq, Nat.reduceAdd, Nat.reduceEqDiff, Nat.reduceLT, Nat.reduceLeDiff, Nat.reduceMul, Nat.reduceSub, Nat.reduceDiv, Int.reduceToNat, Int.reduceAdd, Int.reduceSub, Int.reduceMul, Int.reduceNeg, Int.reduceEq, Int.reduceLT, Int.reduceLE]; with_reducible rfl) rfl ?_)
          | (with_reducible refine k_condP (by simp only [GA, Nat.reduceEqDiff, ↓reduceIte]; rfl) (by first | (simp only [BO]; rfl) | rfl) (fun ht => ?_) (fun ht => ?_) <;> try (first | exact False.elim ht | exact absurd rfl ht | exact absurd trivial ht | exact Bool.noConfusion ht))
          | (with_reducible refine k_ret ?_; repeat with_reducible (first | refine ret_thru ?_ | refine ret_blk ?_ | refine fin ?_))
          | (with_reducible refine k_exit ?_; repeat with_reducible (first | refine thru ?_ | refine out_blk ?_ | refine pass (by decide) ?_))
          | (refine post1 ?_; simp only [GA, Nat.reduceEqDiff, ↓reduceIte])
          | (refine post2 ?_; simp only [GA, Nat.reduceEqDiff, ↓reduceIte])
          | (refine post3 ?_; simp only [GA, Nat.reduceEqDiff, ↓reduceIte])
          | (refine postc (by simp only [GA, Nat.reduceEqDiff, ↓reduceIte]; rfl) (by simp (disch := omega) only [hlt', gx, hx, hr, row_m hr, read_row (row_m hr), hu, row_m hu, read_row (row_m hu), csl, hul, usl, nl_len, nl_snoc, h0, c0, c2, lt1, e1, hg', tg, row_m tg, read_row (row_m tg), c1, e2, e3, g, List.set_set, List.length_set, c52r0, c52r1, c52r2, c52r3, c52r4, c52r5, c52r6, c52r7, c52r8, c52r9, c52r10, c52r11, c52r12, c52r13, c52r14, c52r16, EV0, EV1, EV2, EV3, EV4, EV5, EV6, EV7, EV8, VALS, plug, ite_same, decide_true, decide_false, eq_self, ↓reduceIte, reduceCtorEq, Nat.reduceAdd, Nat.reduceEqDiff, Nat.reduceLT, Nat.reduceLeDiff, Nat.reduceMul, Nat.reduceSub, Nat.reduceDiv, Int.reduceToNat, Int.reduceAdd, Int.reduceSub, Int.reduceMul, Int.reduceNeg, Int.reduceEq, Int.reduceLT, Int.reduceLE]; rfl) ?_)
          | refine post0 ?_
        refine ⟨hlt, ⟨(h.nx + 1 + 4 + 4 + 2 + 3 + 2), ts ++ [(h.nx + 1 + 4 + 4 + 2 + 3 + 4 + 4 + 2 + 6 + 10 + 8)], u, (us.set (od l k) ((lastN ((rowsK l k).getD f []) : Nat) : Int))⟩, ?g1, ?g2, u0, ?g7, ?g3, ?g4, ?g5, ?g6⟩
        case g1 =>
          simp only [Am.keep, List.map_cons, List.map_nil, GA, Nat.reduceEqDiff, ↓reduceIte, hlen1]
          rfl
        case g2 =>
          rw [hat, List.map_append, e0]
          refine N.snoc (n := 1) (cs := nl [od l k]) rfl (by omega) (by omega) (by omega) (fun hm => by have := tlt _ hm; omega) (fun hm => by have := tlt _ hm; omega) (by rw [hcs]; simp (disch := omega) only [set_last csl, c52r0, c52r1, c52r2, c52r3, c52r4, c52r5, c52r6, c52r7, c52r8, c52r9, c52r10, c52r11, c52r12, c52r13, c52r14, c52r16, EV0, EV1, EV2, EV3, EV4, EV5, EV6, EV7, EV8, VALS, plug, ite_same, decide_true, decide_false, eq_self, ↓reduceIte, reduceCtorEq, Nat.reduceAdd, Nat.reduceEqDiff, Nat.reduceLT, Nat.reduceLeDiff, Nat.reduceMul, Nat.reduceSub, Nat.reduceDiv, Int.reduceToNat, Int.reduceAdd, Int.reduceSub, Int.reduceMul, Int.reduceNeg, Int.reduceEq, Int.reduceLT, Int.reduceLE] <;> rfl) (by simp (disch := omega) only [c52r0, c52r1, c52r2, c52r3, c52r4, c52r5, c52r6, c52r7, c52r8, c52r9, c52r10, c52r11, c52r12, c52r13, c52r14, c52r16, EV0, EV1, EV2, EV3, EV4, EV5, EV6, EV7, EV8, VALS, plug, ite_same, decide_true, decide_false, eq_self, ↓reduceIte, reduceCtorEq, Nat.reduceAdd, Nat.reduceEqDiff, Nat.reduceLT, Nat.reduceLeDiff, Nat.reduceMul, Nat.reduceSub, Nat.reduceDiv, Int.reduceToNat, Int.reduceAdd, Int.reduceSub, Int.reduceMul, Int.reduceNeg, Int.reduceEq, Int.reduceLT, Int.reduceLE] <;> rfl) fun s b hs hb => ?_
          have l1 := tlt s hs
          have n1 := (N.nr s hs).2
          have n2 : ¬ s = u := fun e => un (e ▸ hs)
          simp (disch := omega) only [hb, c52r0, c52r1, c52r2, c52r3, c52r4, c52r5, c52r6, c52r7, c52r8, c52r9, c52r10, c52r11, c52r12, c52r13, c52r14, c52r16, EV0, EV1, EV2, EV3, EV4, EV5, EV6, EV7, EV8, VALS, plug, ite_same, decide_true, decide_false, eq_self, ↓reduceIte, reduceCtorEq, Nat.reduceAdd, Nat.reduceEqDiff, Nat.reduceLT, Nat.reduceLeDiff, Nat.reduceMul, Nat.reduceSub, Nat.reduceDiv, Int.reduceToNat, Int.reduceAdd, Int.reduceSub, Int.reduceMul, Int.reduceNeg, Int.reduceEq, Int.reduceLT, Int.reduceLE]
        case g7 => simp only []; omega
        case g3 =>
          intro hm
          rcases List.mem_append.1 hm with q | q
          · exact un q
          · rw [List.mem_singleton] at q; simp only [] at q; omega
        case g4 => simp (disch := omega) only [hu, List.set_set, c52r0, c52r1, c52r2, c52r3, c52r4, c52r5, c52r6, c52r7, c52r8, c52r9, c52r10, c52r11, c52r12, c52r13, c52r14, c52r16, EV0, EV1, EV2, EV3, EV4, EV5, EV6, EV7, EV8, VALS, plug, ite_same, decide_true, decide_false, eq_self, ↓reduceIte, reduceCtorEq, Nat.reduceAdd, Nat.reduceEqDiff, Nat.reduceLT, Nat.reduceLeDiff, Nat.reduceMul, Nat.reduceSub, Nat.reduceDiv, Int.reduceToNat, Int.reduceAdd, Int.reduceSub, Int.reduceMul, Int.reduceNeg, Int.reduceEq, Int.reduceLT, Int.reduceLE] <;> rfl
        case g5 => simp only [List.length_set]; exact hul
        case g6 => exact us_step hul hlt hus (by rw [hund]; try rfl)
  · obtain rfl : k = l.length := by omega
    have hlt' : ¬ (l.length : Int) < l.length := by omega
    repeat' first
      | with_reducible refine k_seq ?_
      | with_reducible refine k_skip ?_
      | with_reducible refine k_blkS ?_
      | with_reducible refine k_blkR ?_
      | with_reducible refine k_blkC ?_
      | with_reducible refine k_blkH ?_
      | with_reducible refine k_blkB ?_
      | with_reducible refine k_blkK ?_
      | with_reducible refine k_blkE ?_
      | with_reducible refine k_reg ?_
      | with_reducible refine k_head (by with_unfolding_all rfl) ?_
      | with_reducible refine k_headS ?_
      | (with_reducible refine SepK.mk ?_ ?_; (refine sepQ_P ?_; simp [sepQ, sepG, AOp.late, AOp.free, AOp.xs, AOp.isAl, tokNe, AV.tok, stS_get, strip, AX.val, c52r0, c52r1, c52r2, c52r3, c52r4, c52r5, c52r6, c52r7, c52r8, c52r9, c52r10, c52r11, c52r12, c52r13, c52r14, c52r16, GA]; try omega))
      | with_reducible refine r_done ?_
      | with_reducible refine hr_done ?_
      | with_reducible refine s_go (by simp (disch := omega) only [hlt', c52r0, c52r1, c52r2, c52r3, c52r4, c52r5, c52r6, c52r7, c52r8, c52r9, c52r10, c52r11, c52r12, c52r13, c52r14, c52r16, EV0, EV1, EV2, EV3, EV4, EV5, EV6, EV7, EV8, VALS, plug, ite_same, decide_true, decide_false, eq_self, ↓reduceIte, reduceCtorEq, Nat.reduceAdd, Nat.reduceEqDiff, Nat.reduceLT, Nat.reduceLeDiff, Nat.reduceMul, Nat.reduceSub, Nat.reduceDiv, Int.reduceToNat, Int.reduceAdd, Int.reduceSub, Int.reduceMul, Int.reduceNeg, Int.reduceEq, Int.reduceLT, Int.reduceLE]; with_reducible rfl) ?_
      | with_reducible refine h_go (by with_unfolding_all rfl) (by simp (disch := omega) only [hlt', c52r0, c52r1, c52r2, c52r3, c52r4, c52r5, c52r6, c52r7, c52r8, c52r9, c52r10, c52r11, c52r12, c52r13, c52r14, c52r16, EV0, EV1, EV2, EV3, EV4, EV5, EV6, EV7, EV8, VALS, plug, ite_same, decide_true, decide_false, eq_self, ↓reduceIte, reduceCtorEq, Nat.reduceAdd, Nat.reduceEqDiff, Nat.reduceLT, Nat.reduceLeDiff, Nat.reduceMul, Nat.reduceSub, Nat.reduceDiv, Int.reduceToNat, Int.reduceAdd, Int.reduceSub, Int.reduceMul, Int.reduceNeg, Int.reduceEq, Int.reduceLT, Int.reduceLE]; with_reducible rfl) ?_
      | ((with_reducible refine chk_r ?_); refine r_callF (by simp only [CA, Nat.reduceEqDiff, ↓reduceIte]; rfl) (by exact rfl) (by simp only [CA, Nat.reduceEqDiff, ↓reduceIte]; rfl) rfl ?_)
      | ((with_reducible refine chk_h ?_); refine hr_callF (by simp only [CA, Nat.reduceEqDiff, ↓reduceIte]; rfl) (by exact rfl) (by simp only [CA, Nat.reduceEqDiff, ↓reduceIte]; rfl) rfl ?_)
      | ((with_reducible refine chk_h ?_); refine hr_app (by simp (disch := omega) only [hlt', c52r0, c52r1, c52r2, c52r3, c52r4, c52r5, c52r6, c52r7, c52r8, c52r9, c52r10, c52r11, c52r12, c52r13, c52r14, c52r16, EV0, EV1, EV2, EV3, EV4, EV5, EV6, EV7, EV8, VALS, plug, ite_same, decide_true, decide_false, eq_self, ↓reduceIte, reduceCtorEq, Nat.reduceAdd, Nat.reduceEqDiff, Nat.reduceLT, Nat.reduceLeDiff, Nat.reduceMul, Nat.reduceSub, Nat.reduceDiv, Int.reduceToNat, Int.reduceAdd, Int.reduceSub, Int.reduceMul, Int.reduceNeg, Int.reduceEq, Int.reduceLT, Int.reduceLE]; with_reducible rfl) rfl ?_)
      | (with_reducible refine k_condP (by simp only [GA, Nat.reduceEqDiff, ↓reduceIte]; rfl) (by first | (simp only [BO]; rfl) | rfl) (fun ht => ?_) (fun ht => ?_) <;> try (first | exact False.elim ht | exact absurd rfl ht | exact absurd trivial ht | exact Bool.noConfusion ht))
      | (with_reducible refine k_ret ?_; repeat with_reducible (first | refine ret_thru ?_ | refine ret_blk ?_ | refine fin ?_))
      | (with_reducible refine k_exit ?_; repeat with_reducible (first | refine thru ?_ | refine out_blk ?_ | refine pass (by decide) ?_))
      | (refine post1 ?_; simp only [GA, Nat.reduceEqDiff, ↓reduceIte])
      | (refine post2 ?_; simp only [GA, Nat.reduceEqDiff, ↓reduceIte])
      | (refine post3 ?_; simp only [GA, Nat.reduceEqDiff, ↓reduceIte])
      | (refine postc (by simp only [GA, Nat.reduceEqDiff, ↓reduceIte]; rfl) (by simp (disch := omega) only [hlt', c52r0, c52r1, c52r2, c52r3, c52r4, c52r5, c52r6, c52r7, c52r8, c52r9, c52r10, c52r11, c52r12, c52r13, c52r14, c52r16, EV0, EV1, EV2, EV3, EV4, EV5, EV6, EV7, EV8, VALS, plug, ite_same, decide_true, decide_false, eq_self, ↓reduceIte, reduceCtorEq, Nat.reduceAdd, Nat.reduceEqDiff, Nat.reduceLT, Nat.reduceLeDiff, Nat.reduceMul, Nat.reduceSub, Nat.reduceDiv, Int.reduceToNat, Int.reduceAdd, Int.reduceSub, Int.reduceMul, Int.reduceNeg, Int.reduceEq, Int.reduceLT, Int.reduceLE]; rfl) ?_)
      | refine post0 ?_
    have eu := undL_eq hul hus
    refine (N.keep (h' := (h.bump 1).bump 4) fun _ _ hb => hb).ends (v2 := .tu [vRows (rowsK l l.length), .sl u 0 l.length 1]) (.tu (.cons ?_ (.cons .same .nil))) fun h2 F => ?_
    · rw [rv_map]
      have := @FrzV.sl r ((rowsK l l.length).map rvN) 0 (rowsK l l.length).length 1 1 (by simp)
      rwa [List.drop_zero, List.take_of_length_le (by simp)] at this
    · have hu2 := F u _ ur un hu
      refine ⟨_, .step hu2 (FrzH.kill _ _ _) (.tu (.cons .same (.cons ?_ .nil))) .done⟩
      rw [eu]
      have := @FrzV.sl u (il (undL l)) 0 l.length 1 1 (by simp [il_len, undL])
      rwa [List.drop_zero, List.take_of_length_le (by simp [il_len, undL])] at this
end Go.Proofs.Ytjncfpfgobojpaa
set_option linter.unusedVariables false
set_option linter.unusedSimpArgs false
namespace Go.Proofs.Ytjncfpfgobojpaa
open Go Go.Am Go.Proofs Go.Sort
/-! ### Rows, Fewest, and the example -/
open Classical in
noncomputable def rowsR (l : List B) : List (List Nat) := if VL l then rowsL l else []
open Classical in
noncomputable def erR (l : List B) : Int := if VL l then 0 else 60
theorem pc18 (l : List B) (hl : l.length ≤ 9223372036854775807) : PC Try.prog 18 [vB l] (.tu [vRows (rowsR l), .i .i64 (erR l)]) := by
  refine pc_fn fn18 (by simp only [AV.plains, AV.plain, il_plain, bl_plain, Bool.and_true, Bool.true_and, Bool.and_self, flB_plain, rows_plain]) (by simp only [AV.plains, AV.plain, il_plain, bl_plain, Bool.and_true, Bool.true_and, Bool.and_self, flB_plain, rows_plain]) (Nat.le_of_ble_eq_true rfl) ?_
  rw [initSt1]
  have q := pc26 l hl
  unfold rowsR erR
  by_cases hv : VL l
  · rw [if_pos hv, if_pos hv]
    rw [vl_t hv] at q
    have q2 := pc52 l hv
    repeat' first
      | with_reducible refine k_seq ?_
      | with_reducible refine k_skip ?_
      | with_reducible refine k_blkS ?_
      | with_reducible refine k_blkR ?_
      | with_reducible refine k_blkC ?_
      | with_reducible refine k_blkH ?_
      | with_reducible refine k_blkB ?_
      | with_reducible refine k_blkK ?_
      | with_reducible refine k_blkE ?_
      | with_reducible refine k_reg ?_
      | with_reducible refine r_done ?_
      | with_reducible refine s_go (by simp (disch := omega) only [c18r0, c18r1, c18r2, c18r3, c18r4, EV0, EV1, EV2, EV3, EV4, EV5, EV6, EV7, EV8, VALS, plug, ite_same, decide_true, decide_false, eq_self, ↓reduceIte, reduceCtorEq, Nat.reduceAdd, Nat.reduceEqDiff, Nat.reduceLT, Nat.reduceLeDiff, Nat.reduceMul, Nat.reduceSub, Nat.reduceDiv, Int.reduceToNat, Int.reduceAdd, Int.reduceSub, Int.reduceMul, Int.reduceNeg, Int.reduceEq, Int.reduceLT, Int.reduceLE]; with_reducible rfl) ?_
      | ((with_reducible refine chk_r ?_); refine r_callF (by simp only [CA, Nat.reduceEqDiff, ↓reduceIte]; rfl) (by exact rfl) (by simp only [CA, Nat.reduceEqDiff, ↓reduceIte]; rfl) rfl ?_)
      | ((with_reducible refine chk_r ?_); refine r_callP (by simp only [CA, Nat.reduceEqDiff, ↓reduceIte]; rfl) (by simp only [CA, Nat.reduceEqDiff, ↓reduceIte]; rfl) (by first | exact q _ | exact q2 _) rfl ?_)
      | (with_reducible refine k_condP (by simp only [GA, Nat.reduceEqDiff, ↓reduceIte]; rfl) (by first | (simp only [BO]; rfl) | rfl) (fun ht => ?_) (fun ht => ?_) <;> try (first | exact False.elim ht | exact absurd rfl ht | exact absurd trivial ht | exact Bool.noConfusion ht))
      | (with_reducible refine k_ret ?_; repeat with_reducible (first | refine ret_thru ?_ | refine ret_blk ?_ | refine fin ?_))
      | (with_reducible refine k_exit ?_; repeat with_reducible (first | refine thru ?_ | refine out_blk ?_ | refine pass (by decide) ?_))
      | (refine post1 ?_; simp only [GA, Nat.reduceEqDiff, ↓reduceIte])
      | (refine post2 ?_; simp only [GA, Nat.reduceEqDiff, ↓reduceIte])
      | (refine post3 ?_; simp only [GA, Nat.reduceEqDiff, ↓reduceIte])
      | (refine postc (by simp only [GA, Nat.reduceEqDiff, ↓reduceIte]; rfl) (by simp (disch := omega) only [c18r0, c18r1, c18r2, c18r3, c18r4, EV0, EV1, EV2, EV3, EV4, EV5, EV6, EV7, EV8, VALS, plug, ite_same, decide_true, decide_false, eq_self, ↓reduceIte, reduceCtorEq, Nat.reduceAdd, Nat.reduceEqDiff, Nat.reduceLT, Nat.reduceLeDiff, Nat.reduceMul, Nat.reduceSub, Nat.reduceDiv, Int.reduceToNat, Int.reduceAdd, Int.reduceSub, Int.reduceMul, Int.reduceNeg, Int.reduceEq, Int.reduceLT, Int.reduceLE]; rfl) ?_)
      | refine post0 ?_
    all_goals first | exact ends_of | exact ends_eq rfl
  · rw [if_neg hv, if_neg hv]
    rw [vl_f hv] at q
    repeat' first
      | with_reducible refine k_seq ?_
      | with_reducible refine k_skip ?_
      | with_reducible refine k_blkS ?_
      | with_reducible refine k_blkR ?_
      | with_reducible refine k_blkC ?_
      | with_reducible refine k_blkH ?_
      | with_reducible refine k_blkB ?_
      | with_reducible refine k_blkK ?_
      | with_reducible refine k_blkE ?_
      | with_reducible refine k_reg ?_
      | with_reducible refine r_done ?_
      | with_reducible refine s_go (by simp (disch := omega) only [c18r0, c18r1, c18r2, c18r3, c18r4, EV0, EV1, EV2, EV3, EV4, EV5, EV6, EV7, EV8, VALS, plug, ite_same, decide_true, decide_false, eq_self, ↓reduceIte, reduceCtorEq, Nat.reduceAdd, Nat.reduceEqDiff, Nat.reduceLT, Nat.reduceLeDiff, Nat.reduceMul, Nat.reduceSub, Nat.reduceDiv, Int.reduceToNat, Int.reduceAdd, Int.reduceSub, Int.reduceMul, Int.reduceNeg, Int.reduceEq, Int.reduceLT, Int.reduceLE]; with_reducible rfl) ?_
      | ((with_reducible refine chk_r ?_); refine r_callF (by simp only [CA, Nat.reduceEqDiff, ↓reduceIte]; rfl) (by exact rfl) (by simp only [CA, Nat.reduceEqDiff, ↓reduceIte]; rfl) rfl ?_)
      | ((with_reducible refine chk_r ?_); refine r_callP (by simp only [CA, Nat.reduceEqDiff, ↓reduceIte]; rfl) (by simp only [CA, Nat.reduceEqDiff, ↓reduceIte]; rfl) (by first | exact q _) rfl ?_)
      | (with_reducible refine k_condP (by simp only [GA, Nat.reduceEqDiff, ↓reduceIte]; rfl) (by first | (simp only [BO]; rfl) | rfl) (fun ht => ?_) (fun ht => ?_) <;> try (first | exact False.elim ht | exact absurd rfl ht | exact absurd trivial ht | exact Bool.noConfusion ht))
      | (with_reducible refine k_ret ?_; repeat with_reducible (first | refine ret_thru ?_ | refine ret_blk ?_ | refine fin ?_))
      | (with_reducible refine k_exit ?_; repeat with_reducible (first | refine thru ?_ | refine out_blk ?_ | refine pass (by decide) ?_))
      | (refine post1 ?_; simp only [GA, Nat.reduceEqDiff, ↓reduceIte])
      | (refine post2 ?_; simp only [GA, Nat.reduceEqDiff, ↓reduceIte])
      | (refine post3 ?_; simp only [GA, Nat.reduceEqDiff, ↓reduceIte])
      | (refine postc (by simp only [GA, Nat.reduceEqDiff, ↓reduceIte]; rfl) (by simp (disch := omega) only [c18r0, c18r1, c18r2, c18r3, c18r4, EV0, EV1, EV2, EV3, EV4, EV5, EV6, EV7, EV8, VALS, plug, ite_same, decide_true, decide_false, eq_self, ↓reduceIte, reduceCtorEq, Nat.reduceAdd, Nat.reduceEqDiff, Nat.reduceLT, Nat.reduceLeDiff, Nat.reduceMul, Nat.reduceSub, Nat.reduceDiv, Int.reduceToNat, Int.reduceAdd, Int.reduceSub, Int.reduceMul, Int.reduceNeg, Int.reduceEq, Int.reduceLT, Int.reduceLE]; rfl) ?_)
      | refine post0 ?_
    exact ends_nil2
theorem pc20 (l : List B) (hl : l.length ≤ 9223372036854775807) : PC Try.prog 20 [vB l] (.tu [.i .i64 ((rowsR l).length : Int), .i .i64 (erR l)]) := by
  refine pc_fn fn20 (by simp only [AV.plains, AV.plain, il_plain, bl_plain, Bool.and_true, Bool.true_and, Bool.and_self, flB_plain]) (by simp only [AV.plains, AV.plain, il_plain, bl_plain, Bool.and_true, Bool.true_and, Bool.and_self, flB_plain]) (Nat.le_of_ble_eq_true rfl) ?_
  rw [initSt1]
  have q := pc18 l hl
  generalize rowsR l = M at q ⊢
  generalize erR l = A at q ⊢
  repeat' first
    | with_reducible refine k_seq ?_
    | with_reducible refine k_skip ?_
    | with_reducible refine k_blkS ?_
    | with_reducible refine k_blkR ?_
    | with_reducible refine k_blkC ?_
    | with_reducible refine k_blkH ?_
    | with_reducible refine k_blkB ?_
    | with_reducible refine k_blkK ?_
    | with_reducible refine k_blkE ?_
    | with_reducible refine k_reg ?_
    | with_reducible refine r_done ?_
    | with_reducible refine s_go (by simp (disch := omega) only [c20r0, c20r1, c20r2, EV0, EV1, EV2, EV3, EV4, EV5, EV6, EV7, EV8, VALS, plug, ite_same, decide_true, decide_false, eq_self, ↓reduceIte, reduceCtorEq, Nat.reduceAdd, Nat.reduceEqDiff, Nat.reduceLT, Nat.reduceLeDiff, Nat.reduceMul, Nat.reduceSub, Nat.reduceDiv, Int.reduceToNat, Int.reduceAdd, Int.reduceSub, Int.reduceMul, Int.reduceNeg, Int.reduceEq, Int.reduceLT, Int.reduceLE]; with_reducible rfl) ?_
    | ((with_reducible refine chk_r ?_); refine r_callF (by simp only [CA, Nat.reduceEqDiff, ↓reduceIte]; rfl) (by exact rfl) (by simp only [CA, Nat.reduceEqDiff, ↓reduceIte]; rfl) rfl ?_)
    | ((with_reducible refine chk_r ?_); refine r_callP (by simp only [CA, Nat.reduceEqDiff, ↓reduceIte]; rfl) (by simp only [CA, Nat.reduceEqDiff, ↓reduceIte]; rfl) (by first | exact q _) rfl ?_)
    | (with_reducible refine k_condP (by simp only [GA, Nat.reduceEqDiff, ↓reduceIte]; rfl) (by first | (simp only [BO]; rfl) | rfl) (fun ht => ?_) (fun ht => ?_) <;> try (first | exact False.elim ht | exact absurd rfl ht | exact absurd trivial ht | exact Bool.noConfusion ht))
    | (with_reducible refine k_ret ?_; repeat with_reducible (first | refine ret_thru ?_ | refine ret_blk ?_ | refine fin ?_))
    | (with_reducible refine k_exit ?_; repeat with_reducible (first | refine thru ?_ | refine out_blk ?_ | refine pass (by decide) ?_))
    | (refine post1 ?_; simp only [GA, Nat.reduceEqDiff, ↓reduceIte])
    | (refine post2 ?_; simp only [GA, Nat.reduceEqDiff, ↓reduceIte])
    | (refine post3 ?_; simp only [GA, Nat.reduceEqDiff, ↓reduceIte])
    | (refine postc (by simp only [GA, Nat.reduceEqDiff, ↓reduceIte]; rfl) (by simp (disch := omega) only [c20r0, c20r1, c20r2, EV0, EV1, EV2, EV3, EV4, EV5, EV6, EV7, EV8, VALS, plug, ite_same, decide_true, decide_false, eq_self, ↓reduceIte, reduceCtorEq, Nat.reduceAdd, Nat.reduceEqDiff, Nat.reduceLT, Nat.reduceLeDiff, Nat.reduceMul, Nat.reduceSub, Nat.reduceDiv, Int.reduceToNat, Int.reduceAdd, Int.reduceSub, Int.reduceMul, Int.reduceNeg, Int.reduceEq, Int.reduceLT, Int.reduceLE]; rfl) ?_)
    | refine post0 ?_
  all_goals first | exact ends_of | exact ends_eq rfl
section
variable {P : Program} {N : Nat} {Q : Exit → St → AH → Prop} {st : St} {h : AH}
/-- a row that lies in one slot alone, az a value from here on -/
theorem w_frz1 {c : AC} (d : Nat) {t n a : Nat} (k : Nat) {cs : List AV} (hm : h.m t = some (.cells true cs)) (hd : st.get d = .sl t 0 n a) (hl : n * k = cs.length) (w : W P N c Q [(d, .vs n cs)] (h.kill t)) : W P N c Q st h :=
  w_frz hm (fun x => by
    simp only [St.get]
    by_cases e : x = d
    · subst e
      rw [hd, if_pos rfl]
      have := @FrzV.sl t cs 0 n k a (by omega)
      rwa [List.drop_zero, hl, List.take_length] at this
    · rw [if_neg e]; exact .un) w
end
def Lx : List B := [⟨1, 1, 5, 0, 0, 0, 0⟩, ⟨2, 2, 3, 0, 0, 0, 0⟩]
theorem Lx_VL : VL Lx := ⟨by decide, by
  show vk Lx 2
  refine vk_succ.2 ⟨vk_succ.2 ⟨⟨fun i h => by omega, fun i j h1 h2 => by omega⟩, by decide, fun i h => by omega⟩, by decide, fun i h => ?_⟩
  obtain rfl : i = 0 := by omega
  decide⟩
theorem Lx_order : orderL Lx = [0, 1] := by
  unfold orderL
  have : List.range Lx.length = [0, 1] := rfl
  rw [this]
  exact List.mergeSort_of_pairwise (by simp; decide)
theorem Lx_rows : rowsL Lx = [[0], [1]] := by
  unfold rowsL rowsK
  rw [Lx_order]
  decide
theorem pc17 : PC Try.prog 17 [] (.b true) := by
  refine pc_fn fn17 (by simp only [AV.plains, AV.plain, il_plain, bl_plain, Bool.and_true, Bool.true_and, Bool.and_self]) (by simp only [AV.plains, AV.plain, il_plain, bl_plain, Bool.and_true, Bool.true_and, Bool.and_self]) (Nat.le_of_ble_eq_true rfl) ?_
  rw [initSt0]
  have v := Lx_VL
  have q1 := pc20 Lx (by decide)
  have q2 := pc18 Lx (by decide)
  have e : erR Lx = 0 := by unfold erR; rw [if_pos v]
  have r : rowsR Lx = [[0], [1]] := by unfold rowsR; rw [if_pos v]; exact Lx_rows
  rw [e, r] at q1 q2
  refine k_seq (k_reg ?_)
  refine s_go (by simp (disch := omega) only [c17r0, c17r1, c17r2, c17r3, c17r4, EV0, EV1, EV2, EV3, EV4, EV5, EV6, EV7, EV8, VALS, plug, ite_same, decide_true, decide_false, eq_self, ↓reduceIte, reduceCtorEq, Nat.reduceAdd, Nat.reduceEqDiff, Nat.reduceLT, Nat.reduceLeDiff, Nat.reduceMul, Nat.reduceSub, Nat.reduceDiv, Int.reduceToNat, Int.reduceAdd, Int.reduceSub, Int.reduceMul, Int.reduceNeg, Int.reduceEq, Int.reduceLT, Int.reduceLE]; with_reducible rfl) ?_
  refine r_done ?_
  refine k_seq (k_reg ?_)
  refine s_go (by simp (disch := omega) only [c17r0, c17r1, c17r2, c17r3, c17r4, EV0, EV1, EV2, EV3, EV4, EV5, EV6, EV7, EV8, VALS, plug, ite_same, decide_true, decide_false, eq_self, ↓reduceIte, reduceCtorEq, Nat.reduceAdd, Nat.reduceEqDiff, Nat.reduceLT, Nat.reduceLeDiff, Nat.reduceMul, Nat.reduceSub, Nat.reduceDiv, Int.reduceToNat, Int.reduceAdd, Int.reduceSub, Int.reduceMul, Int.reduceNeg, Int.reduceEq, Int.reduceLT, Int.reduceLE]; with_reducible rfl) ?_
  refine r_done ?_
  refine w_frz1 (t := 4) (n := 2) (a := 7) 1 7 (by simp (disch := omega) only [c17r0, c17r1, c17r2, c17r3, c17r4, EV0, EV1, EV2, EV3, EV4, EV5, EV6, EV7, EV8, VALS, plug, ite_same, decide_true, decide_false, eq_self, ↓reduceIte, reduceCtorEq, Nat.reduceAdd, Nat.reduceEqDiff, Nat.reduceLT, Nat.reduceLeDiff, Nat.reduceMul, Nat.reduceSub, Nat.reduceDiv, Int.reduceToNat, Int.reduceAdd, Int.reduceSub, Int.reduceMul, Int.reduceNeg, Int.reduceEq, Int.reduceLT, Int.reduceLE] <;> rfl) rfl rfl ?_
  simp only [Lx, eB, vB, vRows, rvN, nl, fl, List.map_cons, List.map_nil, List.flatten_cons, List.flatten_nil, List.cons_append, List.nil_append, List.append_nil, List.length_cons, List.length_nil] at q1 q2 ⊢
  repeat' first
    | with_reducible refine k_seq ?_
    | with_reducible refine k_skip ?_
    | with_reducible refine k_blkS ?_
    | with_reducible refine k_blkR ?_
    | with_reducible refine k_blkC ?_
    | with_reducible refine k_blkH ?_
    | with_reducible refine k_blkB ?_
    | with_reducible refine k_blkK ?_
    | with_reducible refine k_blkE ?_
    | with_reducible refine k_reg ?_
    | with_reducible refine r_done ?_
    | with_reducible refine s_go (by simp (disch := omega) only [c17r0, c17r1, c17r2, c17r3, c17r4, EV0, EV1, EV2, EV3, EV4, EV5, EV6, EV7, EV8, VALS, plug, ite_same, decide_true, decide_false, eq_self, ↓reduceIte, reduceCtorEq, Nat.reduceAdd, Nat.reduceEqDiff, Nat.reduceLT, Nat.reduceLeDiff, Nat.reduceMul, Nat.reduceSub, Nat.reduceDiv, Int.reduceToNat, Int.reduceAdd, Int.reduceSub, Int.reduceMul, Int.reduceNeg, Int.reduceEq, Int.reduceLT, Int.reduceLE]; with_reducible rfl) ?_
    | ((with_reducible refine chk_r ?_); refine r_callF (by simp only [CA, Nat.reduceEqDiff, ↓reduceIte]; rfl) (by exact rfl) (by simp only [CA, Nat.reduceEqDiff, ↓reduceIte]; rfl) rfl ?_)
    | ((with_reducible refine chk_r ?_); refine r_callP (by simp only [CA, Nat.reduceEqDiff, ↓reduceIte]; rfl) (by simp only [CA, Nat.reduceEqDiff, ↓reduceIte]; rfl) (by first | exact q1 _ | exact q2 _) rfl ?_)
    | (with_reducible refine k_condP (by simp only [GA, Nat.reduceEqDiff, ↓reduceIte]; rfl) (by first | (simp only [BO]; rfl) | rfl) (fun ht => ?_) (fun ht => ?_) <;> try (first | exact False.elim ht | exact absurd rfl ht | exact absurd trivial ht | exact Bool.noConfusion ht))
    | (with_reducible refine k_ret ?_; repeat with_reducible (first | refine ret_thru ?_ | refine ret_blk ?_ | refine fin ?_))
    | (with_reducible refine k_exit ?_; repeat with_reducible (first | refine thru ?_ | refine out_blk ?_ | refine pass (by decide) ?_))
    | (refine post1 ?_; simp only [GA, Nat.reduceEqDiff, ↓reduceIte])
    | (refine post2 ?_; simp only [GA, Nat.reduceEqDiff, ↓reduceIte])
    | (refine post3 ?_; simp only [GA, Nat.reduceEqDiff, ↓reduceIte])
    | (refine postc (by simp only [GA, Nat.reduceEqDiff, ↓reduceIte]; rfl) (by simp (disch := omega) only [c17r0, c17r1, c17r2, c17r3, c17r4, EV0, EV1, EV2, EV3, EV4, EV5, EV6, EV7, EV8, VALS, plug, ite_same, decide_true, decide_false, eq_self, ↓reduceIte, reduceCtorEq, Nat.reduceAdd, Nat.reduceEqDiff, Nat.reduceLT, Nat.reduceLeDiff, Nat.reduceMul, Nat.reduceSub, Nat.reduceDiv, Int.reduceToNat, Int.reduceAdd, Int.reduceSub, Int.reduceMul, Int.reduceNeg, Int.reduceEq, Int.reduceLT, Int.reduceLE]; rfl) ?_)
    | refine post0 ?_
  exact ends_eq (b_eq (by decide))
end Go.Proofs.Ytjncfpfgobojpaa
set_option linter.unusedVariables false
set_option linter.unusedSimpArgs false
namespace Go.Proofs.Ytjncfpfgobojpaa
open Go Go.Am Go.Proofs Go.Sort
/-! ### Hours and stages -/
structure Rn where
  batch : Int
  fro : Int
  til : Int
  clean : Bool
def eR (r : Rn) : List AV := [.i .i64 r.batch, .i .i64 r.fro, .i .i64 r.til, .b r.clean]
def sumH (b : B) : Nat → Int
  | 0 => 0
  | k + 1 => sumH b k + hB b k
def hrs (b : B) : Int := sumH b 4
theorem hrs_eq (b : B) : hrs b = b.h0 + b.h1 + b.h2 + b.h3 := by simp [hrs, sumH, hB]
theorem hB_rng {b : B} (h : vb b = true) (k : Nat) : 0 ≤ hB b k ∧ hB b k ≤ 100 := by
  have := vb_len h
  match k with
  | 0 => exact this.1
  | 1 => exact this.2.1
  | 2 => exact this.2.2.1
  | k + 3 => exact this.2.2.2.1
theorem sumH_rng {b : B} (h : vb b = true) : ∀ k : Nat, 0 ≤ sumH b k ∧ sumH b k ≤ 100 * k
  | 0 => by simp [sumH]
  | k + 1 => by
    have := sumH_rng h k
    have := hB_rng h k
    simp only [sumH]
    omega
theorem pc60 (b : B) (hb : vb b = true) : PC Try.prog 60 [.ag (eB b)] (.i .i64 (hrs b)) := by
  simp only [eB]
  refine pc_fn fn60 (by simp only [AV.plains, AV.plain, il_plain, bl_plain, Bool.and_true, Bool.true_and, Bool.and_self]) (by simp only [AV.plains, AV.plain, il_plain, bl_plain, Bool.and_true, Bool.true_and, Bool.and_self]) (Nat.le_of_ble_eq_true rfl) ?_
  rw [initSt1]
  repeat' first
    | with_reducible refine k_seq ?_
    | with_reducible refine k_skip ?_
    | with_reducible refine k_blkS ?_
    | with_reducible refine k_blkR ?_
    | with_reducible refine k_blkC ?_
    | with_reducible refine k_blkH ?_
    | with_reducible refine k_blkB ?_
    | with_reducible refine k_blkK ?_
    | with_reducible refine k_blkE ?_
    | with_reducible refine k_reg ?_
    | with_reducible refine r_done ?_
    | with_reducible refine s_go (by simp (disch := omega) only [c60r0, c60r1, c60r2, c60r3, c60r4, c60r5, c60r6, c60r8, EV0, EV1, EV2, EV3, EV4, EV5, EV6, EV7, EV8, VALS, plug, ite_same, decide_true, decide_false, eq_self, ↓reduceIte, reduceCtorEq, Nat.reduceAdd, Nat.reduceEqDiff, Nat.reduceLT, Nat.reduceLeDiff, Nat.reduceMul, Nat.reduceSub, Nat.reduceDiv, Int.reduceToNat, Int.reduceAdd, Int.reduceSub, Int.reduceMul, Int.reduceNeg, Int.reduceEq, Int.reduceLT, Int.reduceLE]; with_reducible rfl) ?_
    | ((with_reducible refine chk_r ?_); refine r_callF (by simp only [CA, Nat.reduceEqDiff, ↓reduceIte]; rfl) (by exact rfl) (by simp only [CA, Nat.reduceEqDiff, ↓reduceIte]; rfl) rfl ?_)
    | (with_reducible refine k_condP (by simp only [GA, Nat.reduceEqDiff, ↓reduceIte]; rfl) (by first | (simp only [BO]; rfl) | rfl) (fun ht => ?_) (fun ht => ?_) <;> try (first | exact False.elim ht | exact absurd rfl ht | exact absurd trivial ht | exact Bool.noConfusion ht))
    | (with_reducible refine k_ret ?_; repeat with_reducible (first | refine ret_thru ?_ | refine ret_blk ?_ | refine fin ?_))
    | (with_reducible refine k_exit ?_; repeat with_reducible (first | refine thru ?_ | refine out_blk ?_ | refine pass (by decide) ?_))
    | (refine post1 ?_; simp only [GA, Nat.reduceEqDiff, ↓reduceIte])
    | (refine post2 ?_; simp only [GA, Nat.reduceEqDiff, ↓reduceIte])
    | (refine post3 ?_; simp only [GA, Nat.reduceEqDiff, ↓reduceIte])
    | (refine postc (by simp only [GA, Nat.reduceEqDiff, ↓reduceIte]; rfl) (by simp (disch := omega) only [c60r0, c60r1, c60r2, c60r3, c60r4, c60r5, c60r6, c60r8, EV0, EV1, EV2, EV3, EV4, EV5, EV6, EV7, EV8, VALS, plug, ite_same, decide_true, decide_false, eq_self, ↓reduceIte, reduceCtorEq, Nat.reduceAdd, Nat.reduceEqDiff, Nat.reduceLT, Nat.reduceLeDiff, Nat.reduceMul, Nat.reduceSub, Nat.reduceDiv, Int.reduceToNat, Int.reduceAdd, Int.reduceSub, Int.reduceMul, Int.reduceNeg, Int.reduceEq, Int.reduceLT, Int.reduceLE]; rfl) ?_)
    | refine post0 ?_
  refine k_blk (k_loopS (X := Unit) [3, 7, 8] 4 (fun k _ => [(3, .i .i64 (sumH b k)), (7, .ag (hsB b)), (8, .i .i64 (k : Int))]) (fun k _ h => True) () (by simp only [Am.keep, List.map_cons, List.map_nil, GA, Nat.reduceEqDiff, ↓reduceIte]; try rfl) trivial ?_)
  rintro k _ h hk - ok pos
  have s1 := sumH_rng hb k
  have s2 := hB_rng hb k
  by_cases hlt : k < 4
  · have hlt' : (k : Int) < 4 := by omega
    have g := hB_get b hlt
    have e : sumH b k + hB b k = sumH b (k + 1) := rfl
    have s3 := sumH_rng hb (k + 1)
    generalize hcs : hsB b = cs at g ⊢
    have cl : cs.length = 4 := by rw [← hcs]; rfl
    repeat' first
      | with_reducible refine k_seq ?_
      | with_reducible refine k_skip ?_
      | with_reducible refine k_blkS ?_
      | with_reducible refine k_blkR ?_
      | with_reducible refine k_blkC ?_
      | with_reducible refine k_blkH ?_
      | with_reducible refine k_blkB ?_
      | with_reducible refine k_blkK ?_
      | with_reducible refine k_blkE ?_
      | with_reducible refine k_reg ?_
      | with_reducible refine r_done ?_
      | with_reducible refine s_go (by simp (disch := omega) only [hlt', g, cl, e, c60r0, c60r1, c60r2, c60r3, c60r4, c60r5, c60r6, c60r8, EV0, EV1, EV2, EV3, EV4, EV5, EV6, EV7, EV8, VALS, plug, ite_same, decide_true, decide_false, eq_self, ↓reduceIte, reduceCtorEq, Nat.reduceAdd, Nat.reduceEqDiff, Nat.reduceLT, Nat.reduceLeDiff, Nat.reduceMul, Nat.reduceSub, Nat.reduceDiv, Int.reduceToNat, Int.reduceAdd, Int.reduceSub, Int.reduceMul, Int.reduceNeg, Int.reduceEq, Int.reduceLT, Int.reduceLE]; with_reducible rfl) ?_
      | ((with_reducible refine chk_r ?_); refine r_callF (by simp only [CA, Nat.reduceEqDiff, ↓reduceIte]; rfl) (by exact rfl) (by simp only [CA, Nat.reduceEqDiff, ↓reduceIte]; rfl) rfl ?_)
      | (with_reducible refine k_condP (by simp only [GA, Nat.reduceEqDiff, ↓reduceIte]; rfl) (by first | (simp only [BO]; rfl) | rfl) (fun ht => ?_) (fun ht => ?_) <;> try (first | exact False.elim ht | exact absurd rfl ht | exact absurd trivial ht | exact Bool.noConfusion ht))
      | (with_reducible refine k_ret ?_; repeat with_reducible (first | refine ret_thru ?_ | refine ret_blk ?_ | refine fin ?_))
      | (with_reducible refine k_exit ?_; repeat with_reducible (first | refine thru ?_ | refine out_blk ?_ | refine pass (by decide) ?_))
      | (refine post1 ?_; simp only [GA, Nat.reduceEqDiff, ↓reduceIte])
      | (refine post2 ?_; simp only [GA, Nat.reduceEqDiff, ↓reduceIte])
      | (refine post3 ?_; simp only [GA, Nat.reduceEqDiff, ↓reduceIte])
      | (refine postc (by simp only [GA, Nat.reduceEqDiff, ↓reduceIte]; rfl) (by simp (disch := omega) only [hlt', g, cl, e, c60r0, c60r1, c60r2, c60r3, c60r4, c60r5, c60r6, c60r8, EV0, EV1, EV2, EV3, EV4, EV5, EV6, EV7, EV8, VALS, plug, ite_same, decide_true, decide_false, eq_self, ↓reduceIte, reduceCtorEq, Nat.reduceAdd, Nat.reduceEqDiff, Nat.reduceLT, Nat.reduceLeDiff, Nat.reduceMul, Nat.reduceSub, Nat.reduceDiv, Int.reduceToNat, Int.reduceAdd, Int.reduceSub, Int.reduceMul, Int.reduceNeg, Int.reduceEq, Int.reduceLT, Int.reduceLE]; rfl) ?_)
      | refine post0 ?_
    exact ⟨hlt, (), (by simp only [Am.keep, List.map_cons, List.map_nil, GA, Nat.reduceEqDiff, ↓reduceIte]; try rfl), trivial⟩
  · obtain rfl : k = 4 := by omega
    have hlt' : ¬ ((4 : Nat) : Int) < 4 := by omega
    repeat' first
      | with_reducible refine k_seq ?_
      | with_reducible refine k_skip ?_
      | with_reducible refine k_blkS ?_
      | with_reducible refine k_blkR ?_
      | with_reducible refine k_blkC ?_
      | with_reducible refine k_blkH ?_
      | with_reducible refine k_blkB ?_
      | with_reducible refine k_blkK ?_
      | with_reducible refine k_blkE ?_
      | with_reducible refine k_reg ?_
      | with_reducible refine r_done ?_
      | with_reducible refine s_go (by simp (disch := omega) only [hlt', c60r0, c60r1, c60r2, c60r3, c60r4, c60r5, c60r6, c60r8, EV0, EV1, EV2, EV3, EV4, EV5, EV6, EV7, EV8, VALS, plug, ite_same, decide_true, decide_false, eq_self, ↓reduceIte, reduceCtorEq, Nat.reduceAdd, Nat.reduceEqDiff, Nat.reduceLT, Nat.reduceLeDiff, Nat.reduceMul, Nat.reduceSub, Nat.reduceDiv, Int.reduceToNat, Int.reduceAdd, Int.reduceSub, Int.reduceMul, Int.reduceNeg, Int.reduceEq, Int.reduceLT, Int.reduceLE]; with_reducible rfl) ?_
      | ((with_reducible refine chk_r ?_); refine r_callF (by simp only [CA, Nat.reduceEqDiff, ↓reduceIte]; rfl) (by exact rfl) (by simp only [CA, Nat.reduceEqDiff, ↓reduceIte]; rfl) rfl ?_)
      | (with_reducible refine k_condP (by simp only [GA, Nat.reduceEqDiff, ↓reduceIte]; rfl) (by first | (simp only [BO]; rfl) | rfl) (fun ht => ?_) (fun ht => ?_) <;> try (first | exact False.elim ht | exact absurd rfl ht | exact absurd trivial ht | exact Bool.noConfusion ht))
      | (with_reducible refine k_ret ?_; repeat with_reducible (first | refine ret_thru ?_ | refine ret_blk ?_ | refine fin ?_))
      | (with_reducible refine k_exit ?_; repeat with_reducible (first | refine thru ?_ | refine out_blk ?_ | refine pass (by decide) ?_))
      | (refine post1 ?_; simp only [GA, Nat.reduceEqDiff, ↓reduceIte])
      | (refine post2 ?_; simp only [GA, Nat.reduceEqDiff, ↓reduceIte])
      | (refine post3 ?_; simp only [GA, Nat.reduceEqDiff, ↓reduceIte])
      | (refine postc (by simp only [GA, Nat.reduceEqDiff, ↓reduceIte]; rfl) (by simp (disch := omega) only [hlt', c60r0, c60r1, c60r2, c60r3, c60r4, c60r5, c60r6, c60r8, EV0, EV1, EV2, EV3, EV4, EV5, EV6, EV7, EV8, VALS, plug, ite_same, decide_true, decide_false, eq_self, ↓reduceIte, reduceCtorEq, Nat.reduceAdd, Nat.reduceEqDiff, Nat.reduceLT, Nat.reduceLeDiff, Nat.reduceMul, Nat.reduceSub, Nat.reduceDiv, Int.reduceToNat, Int.reduceAdd, Int.reduceSub, Int.reduceMul, Int.reduceNeg, Int.reduceEq, Int.reduceLT, Int.reduceLE]; rfl) ?_)
      | refine post0 ?_
    all_goals first | exact ends_of | exact ends_eq rfl
def cl (r : Rn) (c : Int) : Int := if r.clean = true then c else 0
theorem pc66 (b : B) (hb : vb b = true) (r : Rn) (c : Int) (hc : 0 ≤ c ∧ c ≤ 100) : PC Try.prog 66 [.ag (eB b), .ag (eR r), .i .i64 c] (.i .i64 (hrs b + cl r c)) := by
  have q := pc60 b hb
  have s : 0 ≤ hrs b ∧ hrs b ≤ 400 := sumH_rng hb 4
  unfold cl
  simp only [eB, eR] at q ⊢
  refine pc_fn fn66 (by simp only [AV.plains, AV.plain, il_plain, bl_plain, Bool.and_true, Bool.true_and, Bool.and_self]) (by simp only [AV.plains, AV.plain, il_plain, bl_plain, Bool.and_true, Bool.true_and, Bool.and_self]) (Nat.le_of_ble_eq_true rfl) ?_
  rw [initSt3]
  generalize hrs b = H at q s ⊢
  cases hcl : r.clean with
  | true =>
    repeat' first
      | with_reducible refine k_seq ?_
      | with_reducible refine k_skip ?_
      | with_reducible refine k_blkS ?_
      | with_reducible refine k_blkR ?_
      | with_reducible refine k_blkC ?_
      | with_reducible refine k_blkH ?_
      | with_reducible refine k_blkB ?_
      | with_reducible refine k_blkK ?_
      | with_reducible refine k_blkE ?_
      | with_reducible refine k_reg ?_
      | with_reducible refine r_done ?_
      | with_reducible refine s_go (by simp (disch := omega) only [c66r0, c66r1, c66r2, c66r3, c66r4, EV0, EV1, EV2, EV3, EV4, EV5, EV6, EV7, EV8, VALS, plug, ite_same, decide_true, decide_false, eq_self, ↓reduceIte, reduceCtorEq, Nat.reduceAdd, Nat.reduceEqDiff, Nat.reduceLT, Nat.reduceLeDiff, Nat.reduceMul, Nat.reduceSub, Nat.reduceDiv, Int.reduceToNat, Int.reduceAdd, Int.reduceSub, Int.reduceMul, Int.reduceNeg, Int.reduceEq, Int.reduceLT, Int.reduceLE]; with_reducible rfl) ?_
      | ((with_reducible refine chk_r ?_); refine r_callF (by simp only [CA, Nat.reduceEqDiff, ↓reduceIte]; rfl) (by exact rfl) (by simp only [CA, Nat.reduceEqDiff, ↓reduceIte]; rfl) rfl ?_)
      | ((with_reducible refine chk_r ?_); refine r_callP (by simp only [CA, Nat.reduceEqDiff, ↓reduceIte]; rfl) (by simp only [CA, Nat.reduceEqDiff, ↓reduceIte]; rfl) (by first | exact q _) rfl ?_)
      | (with_reducible refine k_condP (by simp only [GA, Nat.reduceEqDiff, ↓reduceIte]; rfl) (by first | (simp only [BO]; rfl) | rfl) (fun ht => ?_) (fun ht => ?_) <;> try (first | exact False.elim ht | exact absurd rfl ht | exact absurd trivial ht | exact Bool.noConfusion ht))
      | (with_reducible refine k_ret ?_; repeat with_reducible (first | refine ret_thru ?_ | refine ret_blk ?_ | refine fin ?_))
      | (with_reducible refine k_exit ?_; repeat with_reducible (first | refine thru ?_ | refine out_blk ?_ | refine pass (by decide) ?_))
      | (refine post1 ?_; simp only [GA, Nat.reduceEqDiff, ↓reduceIte])
      | (refine post2 ?_; simp only [GA, Nat.reduceEqDiff, ↓reduceIte])
      | (refine post3 ?_; simp only [GA, Nat.reduceEqDiff, ↓reduceIte])
      | (refine postc (by simp only [GA, Nat.reduceEqDiff, ↓reduceIte]; rfl) (by simp (disch := omega) only [c66r0, c66r1, c66r2, c66r3, c66r4, EV0, EV1, EV2, EV3, EV4, EV5, EV6, EV7, EV8, VALS, plug, ite_same, decide_true, decide_false, eq_self, ↓reduceIte, reduceCtorEq, Nat.reduceAdd, Nat.reduceEqDiff, Nat.reduceLT, Nat.reduceLeDiff, Nat.reduceMul, Nat.reduceSub, Nat.reduceDiv, Int.reduceToNat, Int.reduceAdd, Int.reduceSub, Int.reduceMul, Int.reduceNeg, Int.reduceEq, Int.reduceLT, Int.reduceLE]; rfl) ?_)
      | refine post0 ?_
    all_goals first | exact ends_of | exact ends_eq rfl
  | false =>
    repeat' first
      | with_reducible refine k_seq ?_
      | with_reducible refine k_skip ?_
      | with_reducible refine k_blkS ?_
      | with_reducible refine k_blkR ?_
      | with_reducible refine k_blkC ?_
      | with_reducible refine k_blkH ?_
      | with_reducible refine k_blkB ?_
      | with_reducible refine k_blkK ?_
      | with_reducible refine k_blkE ?_
      | with_reducible refine k_reg ?_
      | with_reducible refine r_done ?_
      | with_reducible refine s_go (by simp (disch := omega) only [c66r0, c66r1, c66r2, c66r3, c66r4, EV0, EV1, EV2, EV3, EV4, EV5, EV6, EV7, EV8, VALS, plug, ite_same, decide_true, decide_false, eq_self, ↓reduceIte, reduceCtorEq, Nat.reduceAdd, Nat.reduceEqDiff, Nat.reduceLT, Nat.reduceLeDiff, Nat.reduceMul, Nat.reduceSub, Nat.reduceDiv, Int.reduceToNat, Int.reduceAdd, Int.reduceSub, Int.reduceMul, Int.reduceNeg, Int.reduceEq, Int.reduceLT, Int.reduceLE]; with_reducible rfl) ?_
      | ((with_reducible refine chk_r ?_); refine r_callF (by simp only [CA, Nat.reduceEqDiff, ↓reduceIte]; rfl) (by exact rfl) (by simp only [CA, Nat.reduceEqDiff, ↓reduceIte]; rfl) rfl ?_)
      | ((with_reducible refine chk_r ?_); refine r_callP (by simp only [CA, Nat.reduceEqDiff, ↓reduceIte]; rfl) (by simp only [CA, Nat.reduceEqDiff, ↓reduceIte]; rfl) (by first | exact q _) rfl ?_)
      | (with_reducible refine k_condP (by simp only [GA, Nat.reduceEqDiff, ↓reduceIte]; rfl) (by first | (simp only [BO]; rfl) | rfl) (fun ht => ?_) (fun ht => ?_) <;> try (first | exact False.elim ht | exact absurd rfl ht | exact absurd trivial ht | exact Bool.noConfusion ht))
      | (with_reducible refine k_ret ?_; repeat with_reducible (first | refine ret_thru ?_ | refine ret_blk ?_ | refine fin ?_))
      | (with_reducible refine k_exit ?_; repeat with_reducible (first | refine thru ?_ | refine out_blk ?_ | refine pass (by decide) ?_))
      | (refine post1 ?_; simp only [GA, Nat.reduceEqDiff, ↓reduceIte])
      | (refine post2 ?_; simp only [GA, Nat.reduceEqDiff, ↓reduceIte])
      | (refine post3 ?_; simp only [GA, Nat.reduceEqDiff, ↓reduceIte])
      | (refine postc (by simp only [GA, Nat.reduceEqDiff, ↓reduceIte]; rfl) (by simp (disch := omega) only [c66r0, c66r1, c66r2, c66r3, c66r4, EV0, EV1, EV2, EV3, EV4, EV5, EV6, EV7, EV8, VALS, plug, ite_same, decide_true, decide_false, eq_self, ↓reduceIte, reduceCtorEq, Nat.reduceAdd, Nat.reduceEqDiff, Nat.reduceLT, Nat.reduceLeDiff, Nat.reduceMul, Nat.reduceSub, Nat.reduceDiv, Int.reduceToNat, Int.reduceAdd, Int.reduceSub, Int.reduceMul, Int.reduceNeg, Int.reduceEq, Int.reduceLT, Int.reduceLE]; rfl) ?_)
      | refine post0 ?_
    all_goals exact ends_eq (i_eq (by simp))
def tm (r : Rn) (n : Int) : Bool := decide (r.fro ≤ r.til ∧ r.til - r.fro = n)
theorem uwrap (n : Int) : IntKind.u64.wrap n = n % 18446744073709551616 := rfl
theorem pc65 (r : Rn) (h1 : i64 r.fro) (h2 : i64 r.til) (n : Int) (hn : 0 ≤ n ∧ n ≤ 1000) : PC Try.prog 65 [.ag (eR r), .i .i64 n] (.b (tm r n)) := by
  simp only [eR]
  refine pc_fn fn65 (by simp only [AV.plains, AV.plain, il_plain, bl_plain, Bool.and_true, Bool.true_and, Bool.and_self]) (by simp only [AV.plains, AV.plain, il_plain, bl_plain, Bool.and_true, Bool.true_and, Bool.and_self]) (Nat.le_of_ble_eq_true rfl) ?_
  rw [initSt2]
  unfold i64 at h1 h2
  by_cases h : r.fro ≤ r.til
  · have w : IntKind.u64.wrap (IntKind.u64.wrap r.til - IntKind.u64.wrap r.fro) = r.til - r.fro := by
      simp only [uwrap]; omega
    have w2 : IntKind.u64.wrap n = n := by simp only [uwrap]; omega
    repeat' first
      | with_reducible refine k_seq ?_
      | with_reducible refine k_skip ?_
      | with_reducible refine k_blkS ?_
      | with_reducible refine k_blkR ?_
      | with_reducible refine k_blkC ?_
      | with_reducible refine k_blkH ?_
      | with_reducible refine k_blkB ?_
      | with_reducible refine k_blkK ?_
      | with_reducible refine k_blkE ?_
      | with_reducible refine k_reg ?_
      | with_reducible refine r_done ?_
      | with_reducible refine s_go (by simp (disch := omega) only [h, w, w2, c65r0, c65r1, EV0, EV1, EV2, EV3, EV4, EV5, EV6, EV7, EV8, VALS, plug, ite_same, decide_true, decide_false, eq_self, ↓reduceIte, reduceCtorEq, Nat.reduceAdd, Nat.reduceEqDiff, Nat.reduceLT, Nat.reduceLeDiff, Nat.reduceMul, Nat.reduceSub, Nat.reduceDiv, Int.reduceToNat, Int.reduceAdd, Int.reduceSub, Int.reduceMul, Int.reduceNeg, Int.reduceEq, Int.reduceLT, Int.reduceLE]; with_reducible rfl) ?_
      | ((with_reducible refine chk_r ?_); refine r_callF (by simp only [CA, Nat.reduceEqDiff, ↓reduceIte]; rfl) (by exact rfl) (by simp only [CA, Nat.reduceEqDiff, ↓reduceIte]; rfl) rfl ?_)
      | (with_reducible refine k_condP (by simp only [GA, Nat.reduceEqDiff, ↓reduceIte]; rfl) (by first | (simp only [BO]; rfl) | rfl) (fun ht => ?_) (fun ht => ?_) <;> try (first | exact False.elim ht | exact absurd rfl ht | exact absurd trivial ht | exact Bool.noConfusion ht))
      | (with_reducible refine k_ret ?_; repeat with_reducible (first | refine ret_thru ?_ | refine ret_blk ?_ | refine fin ?_))
      | (with_reducible refine k_exit ?_; repeat with_reducible (first | refine thru ?_ | refine out_blk ?_ | refine pass (by decide) ?_))
      | (refine post1 ?_; simp only [GA, Nat.reduceEqDiff, ↓reduceIte])
      | (refine post2 ?_; simp only [GA, Nat.reduceEqDiff, ↓reduceIte])
      | (refine post3 ?_; simp only [GA, Nat.reduceEqDiff, ↓reduceIte])
      | (refine postc (by simp only [GA, Nat.reduceEqDiff, ↓reduceIte]; rfl) (by simp (disch := omega) only [h, w, w2, c65r0, c65r1, EV0, EV1, EV2, EV3, EV4, EV5, EV6, EV7, EV8, VALS, plug, ite_same, decide_true, decide_false, eq_self, ↓reduceIte, reduceCtorEq, Nat.reduceAdd, Nat.reduceEqDiff, Nat.reduceLT, Nat.reduceLeDiff, Nat.reduceMul, Nat.reduceSub, Nat.reduceDiv, Int.reduceToNat, Int.reduceAdd, Int.reduceSub, Int.reduceMul, Int.reduceNeg, Int.reduceEq, Int.reduceLT, Int.reduceLE]; rfl) ?_)
      | refine post0 ?_
    refine ends_eq (b_eq ?_); rw [Bool.eq_iff_iff]
    simp [tm, h]
  · repeat' first
      | with_reducible refine k_seq ?_
      | with_reducible refine k_skip ?_
      | with_reducible refine k_blkS ?_
      | with_reducible refine k_blkR ?_
      | with_reducible refine k_blkC ?_
      | with_reducible refine k_blkH ?_
      | with_reducible refine k_blkB ?_
      | with_reducible refine k_blkK ?_
      | with_reducible refine k_blkE ?_
      | with_reducible refine k_reg ?_
      | with_reducible refine r_done ?_
      | with_reducible refine s_go (by simp (disch := omega) only [h, c65r0, c65r1, EV0, EV1, EV2, EV3, EV4, EV5, EV6, EV7, EV8, VALS, plug, ite_same, decide_true, decide_false, eq_self, ↓reduceIte, reduceCtorEq, Nat.reduceAdd, Nat.reduceEqDiff, Nat.reduceLT, Nat.reduceLeDiff, Nat.reduceMul, Nat.reduceSub, Nat.reduceDiv, Int.reduceToNat, Int.reduceAdd, Int.reduceSub, Int.reduceMul, Int.reduceNeg, Int.reduceEq, Int.reduceLT, Int.reduceLE]; with_reducible rfl) ?_
      | ((with_reducible refine chk_r ?_); refine r_callF (by simp only [CA, Nat.reduceEqDiff, ↓reduceIte]; rfl) (by exact rfl) (by simp only [CA, Nat.reduceEqDiff, ↓reduceIte]; rfl) rfl ?_)
      | (with_reducible refine k_condP (by simp only [GA, Nat.reduceEqDiff, ↓reduceIte]; rfl) (by first | (simp only [BO]; rfl) | rfl) (fun ht => ?_) (fun ht => ?_) <;> try (first | exact False.elim ht | exact absurd rfl ht | exact absurd trivial ht | exact Bool.noConfusion ht))
      | (with_reducible refine k_ret ?_; repeat with_reducible (first | refine ret_thru ?_ | refine ret_blk ?_ | refine fin ?_))
      | (with_reducible refine k_exit ?_; repeat with_reducible (first | refine thru ?_ | refine out_blk ?_ | refine pass (by decide) ?_))
      | (refine post1 ?_; simp only [GA, Nat.reduceEqDiff, ↓reduceIte])
      | (refine post2 ?_; simp only [GA, Nat.reduceEqDiff, ↓reduceIte])
      | (refine post3 ?_; simp only [GA, Nat.reduceEqDiff, ↓reduceIte])
      | (refine postc (by simp only [GA, Nat.reduceEqDiff, ↓reduceIte]; rfl) (by simp (disch := omega) only [h, c65r0, c65r1, EV0, EV1, EV2, EV3, EV4, EV5, EV6, EV7, EV8, VALS, plug, ite_same, decide_true, decide_false, eq_self, ↓reduceIte, reduceCtorEq, Nat.reduceAdd, Nat.reduceEqDiff, Nat.reduceLT, Nat.reduceLeDiff, Nat.reduceMul, Nat.reduceSub, Nat.reduceDiv, Int.reduceToNat, Int.reduceAdd, Int.reduceSub, Int.reduceMul, Int.reduceNeg, Int.reduceEq, Int.reduceLT, Int.reduceLE]; rfl) ?_)
      | refine post0 ?_
    refine ends_eq (b_eq ?_); rw [Bool.eq_iff_iff]
    simp [tm, h]
end Go.Proofs.Ytjncfpfgobojpaa
set_option linter.unusedVariables false
set_option linter.unusedSimpArgs false
namespace Go.Proofs.Ytjncfpfgobojpaa
open Go Go.Am Go.Proofs Go.Sort
/-! ### Stage -/
/-- the stage so many hours behind the cleaning -/
def stv (b : B) (a : Int) : Int := if a < 0 then 0 else if a < sumH b 1 then 1 else if a < sumH b 2 then 2 else if a < sumH b 3 then 3 else if a < sumH b 4 then 4 else 5
theorem sumH_mono {b : B} (h : vb b = true) {i k : Nat} (hik : i ≤ k) : sumH b i ≤ sumH b k := by
  induction k with
  | zero => obtain rfl : i = 0 := by omega
            exact Int.le_refl _
  | succ k ih =>
    by_cases e : i = k + 1
    · subst e; exact Int.le_refl _
    · have := ih (by omega)
      have := hB_rng h k
      simp only [sumH]; omega
theorem stv_at {b : B} (h : vb b = true) {a : Int} {k : Nat} (hk : k < 4) (h1 : sumH b k ≤ a) (h2 : a < sumH b (k + 1)) : stv b a = (k : Int) + 1 := by
  have m1 := sumH_mono h (show 0 ≤ 1 by omega)
  have m2 := sumH_mono h (show 1 ≤ 2 by omega)
  have m3 := sumH_mono h (show 2 ≤ 3 by omega)
  have m4 := sumH_mono h (show 3 ≤ 4 by omega)
  have z : sumH b 0 = 0 := rfl
  have : k = 0 ∨ k = 1 ∨ k = 2 ∨ k = 3 := by omega
  unfold stv
  rcases this with rfl | rfl | rfl | rfl <;> simp only [Nat.zero_add, Nat.reduceAdd] at h1 h2
  · rw [if_neg (by omega), if_pos h2]; rfl
  · rw [if_neg (by omega), if_neg (by omega), if_pos h2]; rfl
  · rw [if_neg (by omega), if_neg (by omega), if_neg (by omega), if_pos h2]; rfl
  · rw [if_neg (by omega), if_neg (by omega), if_neg (by omega), if_neg (by omega), if_pos h2]; rfl
theorem rdH {l : List B} {j : Nat} (h : j < l.length) : rd (fl eB l) (j * 7 + 3) (some 4) = some (.ag (hsB (bD l j))) := by
  simp only [Am.rd]
  rw [if_pos (by rw [flB_len]; omega)]
  have := fl_at eB_len B0 h
  have e : ((fl eB l).drop (j * 7 + 3)).take 4 = (eB (bD l j)).drop 3 := by
    rw [← this, List.drop_take, List.drop_drop]
  rw [e]; rfl
def atK (b : B) (a : Int) : Nat → Int
  | 0 => a
  | k + 1 => a - sumH b (k + 1)
theorem atK_eq (b : B) (a : Int) (k : Nat) : atK b a k = a - sumH b k := by
  cases k with
  | zero => simp [atK, sumH]
  | succ k => rfl
abbrev rB (l : List B) (r : Rn) : B := bD l r.batch.toNat
def sOK (l : List B) (r : Rn) (c : Int) : Prop := (0 ≤ c ∧ c ≤ 100) ∧ (0 ≤ r.batch ∧ r.batch < l.length) ∧ tm r (hrs (rB l r) + cl r c) = true
open Classical in
noncomputable def stR (l : List B) (r : Rn) (c hour : Int) : Int × Int :=
  if VL l then if sOK l r c then if hour < r.fro ∨ r.til ≤ hour then (5, 0) else (stv (rB l r) (hour - r.fro - cl r c), 0) else (0, 2) else (0, 60)
set_option maxHeartbeats 1000000 in
theorem pc29 (l : List B) (hl : l.length ≤ 9223372036854775807) (r : Rn) (h1 : i64 r.fro) (h2 : i64 r.til) (c hour : Int) : PC Try.prog 29 [vB l, .ag (eR r), .i .i64 c, .i .i64 hour] (.tu [.i .i64 (stR l r c hour).1, .i .i64 (stR l r c hour).2]) := by
  have q65 := fun n hn => pc65 r h1 h2 n hn
  have q66 := fun hb hc => pc66 (rB l r) hb r c hc
  simp only [eR] at q65 q66 ⊢
  refine pc_fn fn29 (by simp only [AV.plains, AV.plain, il_plain, bl_plain, Bool.and_true, Bool.true_and, Bool.and_self, flB_plain]) (by simp only [AV.plains, AV.plain, il_plain, bl_plain, Bool.and_true, Bool.true_and, Bool.and_self, flB_plain]) (Nat.le_of_ble_eq_true rfl) ?_
  rw [initSt4]
  have q26 := pc26 l hl
  have q64 := pc64 l hl r.batch
  unfold i64 at h1 h2
  unfold stR
  by_cases hv : VL l
  · rw [if_pos hv]
    rw [vl_t hv] at q26
    have hl6 := hv.len
    by_cases hc : 0 ≤ c ∧ c ≤ 100
    · have hc1 : decide (0 ≤ c) = true := decide_eq_true hc.1
      have hc2 : decide (c ≤ 100) = true := decide_eq_true hc.2
      have c1 := hc.1
      have c2 := hc.2
      by_cases hi : 0 ≤ r.batch ∧ r.batch < l.length
      · rw [decide_eq_true hi] at q64
        obtain ⟨i, hi2⟩ : ∃ i : Nat, r.batch = i := ⟨r.batch.toNat, by omega⟩
        have hil : i < l.length := by omega
        have hb : vb (rB l r) = true := hv.b (by omega)
        have s : 0 ≤ hrs (rB l r) ∧ hrs (rB l r) ≤ 400 := sumH_rng hb 4
        have rA := rdB hil
        have rH := rdH hil
        simp only [hsB] at rH
        have eb : rB l r = bD l i := by simp only [rB, hi2, Int.toNat_natCast]
        have q66 := q66 hb hc
        have clr : 0 ≤ cl r c ∧ cl r c ≤ 100 := by unfold cl; split <;> omega
        have q65 := q65 (hrs (rB l r) + cl r c) (by omega)
        rw [eb] at q65 q66 hb s
        simp only [eB] at q66 rA
        simp only [hi2] at q64 q65 q66
        have hi' : (i : Int) < l.length := by omega
        cases ht : tm r (hrs (rB l r) + cl r c) with
        | false =>
          rw [if_neg fun q => by rw [q.2.2] at ht; cases ht]
          rw [eb] at ht
          rw [ht] at q65
          repeat' first
            | with_reducible refine k_seq ?_
            | with_reducible refine k_skip ?_
            | with_reducible refine k_blkS ?_
            | with_reducible refine k_blkR ?_
            | with_reducible refine k_blkC ?_
            | with_reducible refine k_blkH ?_
            | with_reducible refine k_blkB ?_
            | with_reducible refine k_blkK ?_
            | with_reducible refine k_blkE ?_
            | with_reducible refine k_reg ?_
            | with_reducible refine k_head (by with_unfolding_all rfl) ?_
            | with_reducible refine k_headS ?_
            | (with_reducible refine SepK.mk ?_ ?_; (refine sepQ_P ?_; simp [sepQ, sepG, AOp.late, AOp.free, AOp.xs, AOp.isAl, tokNe, AV.tok, stS_get, strip, AX.val, c29r0, c29r1, c29r2, c29r3, c29r4, c29r5, c29r6, c29r7, c29r8, c29r9, c29r10, c29r11, c29r12, c29r13, c29r14, c29r15, c29r16, c29r17, c29r18, c29r20, GA]; try omega))
            | with_reducible refine r_done ?_
            | with_reducible refine hr_done ?_
            | with_reducible refine s_go (by simp (disch := omega) only [hi2, rA, rH, hi', c1, c2, c29r0, c29r1, c29r2, c29r3, c29r4, c29r5, c29r6, c29r7, c29r8, c29r9, c29r10, c29r11, c29r12, c29r13, c29r14, c29r15, c29r16, c29r17, c29r18, c29r20, EV0, EV1, EV2, EV3, EV4, EV5, EV6, EV7, EV8, VALS, plug, ite_same, decide_true, decide_false, eq_self, ↓reduceIte, reduceCtorEq, Nat.reduceAdd, Nat.reduceEqDiff, Nat.reduceLT, Nat.reduceLeDiff, Nat.reduceMul, Nat.reduceSub, Nat.reduceDiv, Int.reduceToNat, Int.reduceAdd, Int.reduceSub, Int.reduceMul, Int.reduceNeg, Int.reduceEq, Int.reduceLT, Int.reduceLE]; with_reducible rfl) ?_
            | with_reducible refine h_go (by with_unfolding_all rfl) (by simp (disch := omega) only [hi2, rA, rH, hi', c1, c2, c29r0, c29r1, c29r2, c29r3, c29r4, c29r5, c29r6, c29r7, c29r8, c29r9, c29r10, c29r11, c29r12, c29r13, c29r14, c29r15, c29r16, c29r17, c29r18, c29r20, EV0, EV1, EV2, EV3, EV4, EV5, EV6, EV7, EV8, VALS, plug, ite_same, decide_true, decide_false, eq_self, ↓reduceIte, reduceCtorEq, Nat.reduceAdd, Nat.reduceEqDiff, Nat.reduceLT, Nat.reduceLeDiff, Nat.reduceMul, Nat.reduceSub, Nat.reduceDiv, Int.reduceToNat, Int.reduceAdd, Int.reduceSub, Int.reduceMul, Int.reduceNeg, Int.reduceEq, Int.reduceLT, Int.reduceLE]; with_reducible rfl) ?_
            | ((with_reducible refine chk_r ?_); refine r_callF (by simp only [CA, Nat.reduceEqDiff, ↓reduceIte]; rfl) (by exact rfl) (by simp only [CA, Nat.reduceEqDiff, ↓reduceIte]; rfl) rfl ?_)
            | ((with_reducible refine chk_h ?_); refine hr_callF (by simp only [CA, Nat.reduceEqDiff, ↓reduceIte]; rfl) (by exact rfl) (by simp only [CA, Nat.reduceEqDiff, ↓reduceIte]; rfl) rfl ?_)
            | ((with_reducible refine chk_r ?_); refine r_callP (by simp only [CA, Nat.reduceEqDiff, ↓reduceIte]; rfl) (by simp only [CA, Nat.reduceEqDiff, ↓reduceIte]; rfl) (by first | exact q26 _ | exact pc63 _ _ _ _ | exact q64 _ | exact q66 _ | exact q65 _) rfl ?_)
            | ((with_reducible refine chk_h ?_); refine hr_callP (by simp only [CA, Nat.reduceEqDiff, ↓reduceIte]; rfl) (by simp only [CA, Nat.reduceEqDiff, ↓reduceIte]; rfl) (by first | exact q26 _ | exact pc63 _ _ _ _ | exact q64 _ | exact q66 _ | exact q65 _) rfl ?_)
            | ((with_reducible refine chk_h ?_); refine hr_callP1 (by simp only [CA, Nat.reduceEqDiff, ↓reduceIte]; rfl) (by simp only [CA, Nat.reduceEqDiff, ↓reduceIte]; rfl) (by simp (disch := omega) only [CA, Nat.reduceEqDiff, ↓reduceIte, firstTok_nil, firstTok_sl, firstTok_sl0, firstTok_i, firstTok_b, firstTok_ag, firstTok_p, firstTok_s]; rfl) (by first | exact q26 _ | exact pc63 _ _ _ _ | exact q64 _ | exact q66 _ | exact q65 _) rfl ?_)
            | ((with_reducible refine chk_r ?_); refine r_callG (by simp only [CA, Nat.reduceEqDiff, ↓reduceIte]; rfl) (by simp only [CA, Nat.reduceEqDiff, ↓reduceIte]; rfl) (by simp only [CA, Nat.reduceEqDiff, ↓reduceIte]; rfl) (by intro hg; (try simp only [BO] at hg); first | exact q26 _ | exact pc63 _ _ _ _ | exact q64 _ | exact q66 _ | exact q65 _) rfl ?_)
            | ((with_reducible refine chk_h ?_); refine hr_callG (by simp only [CA, Nat.reduceEqDiff, ↓reduceIte]; rfl) (by simp only [CA, Nat.reduceEqDiff, ↓reduceIte]; rfl) (by simp only [CA, Nat.reduceEqDiff, ↓reduceIte]; rfl) (by intro hg; (try simp only [BO] at hg); first | exact q26 _ | exact pc63 _ _ _ _ | exact q64 _ | exact q66 _ | exact q65 _) rfl ?_)
            | ((with_reducible refine chk_h ?_); refine hr_app (by simp (disch := omega) only [hi2, rA, rH, hi', c1, c2, c29r0, c29r1, c29r2, c29r3, c29r4, c29r5, c29r6, c29r7, c29r8, c29r9, c29r10, c29r11, c29r12, c29r13, c29r14, c29r15, c29r16, c29r17, c29r18, c29r20, EV0, EV1, EV2, EV3, EV4, EV5, EV6, EV7, EV8, VALS, plug, ite_same, decide_true, decide_false, eq_self, ↓reduceIte, reduceCtorEq, Nat.reduceAdd, Nat.reduceEqDiff, Nat.reduceLT, Nat.reduceLeDiff, Nat.reduceMul, Nat.reduceSub, Nat.reduceDiv, Int.reduceToNat, Int.reduceAdd, Int.reduceSub, Int.reduceMul, Int.reduceNeg, Int.reduceEq, Int.reduceLT, Int.reduceLE]; with_reducible rfl) rfl ?_)
            | (with_reducible refine k_condP (by simp only [GA, Nat.reduceEqDiff, ↓reduceIte]; rfl) (by first | (simp only [BO]; rfl) | rfl) (fun ht => ?_) (fun ht => ?_) <;> try (first | exact False.elim ht | exact absurd rfl ht | exact absurd trivial ht | exact Bool.noConfusion ht))
            | (with_reducible refine k_ret ?_; repeat with_reducible (first | refine ret_thru ?_ | refine ret_blk ?_ | refine fin ?_))
            | (with_reducible refine k_exit ?_; repeat with_reducible (first | refine thru ?_ | refine out_blk ?_ | refine pass (by decide) ?_))
            | (refine post1 ?_; simp only [GA, Nat.reduceEqDiff, ↓reduceIte])
            | (refine post2 ?_; simp only [GA, Nat.reduceEqDiff, ↓reduceIte])
            | (refine post3 ?_; simp only [GA, Nat.reduceEqDiff, ↓reduceIte])
            | (refine postc (by simp only [GA, Nat.reduceEqDiff, ↓reduceIte]; rfl) (by simp (disch := omega) only [hi2, rA, rH, hi', c1, c2, c29r0, c29r1, c29r2, c29r3, c29r4, c29r5, c29r6, c29r7, c29r8, c29r9, c29r10, c29r11, c29r12, c29r13, c29r14, c29r15, c29r16, c29r17, c29r18, c29r20, EV0, EV1, EV2, EV3, EV4, EV5, EV6, EV7, EV8, VALS, plug, ite_same, decide_true, decide_false, eq_self, ↓reduceIte, reduceCtorEq, Nat.reduceAdd, Nat.reduceEqDiff, Nat.reduceLT, Nat.reduceLeDiff, Nat.reduceMul, Nat.reduceSub, Nat.reduceDiv, Int.reduceToNat, Int.reduceAdd, Int.reduceSub, Int.reduceMul, Int.reduceNeg, Int.reduceEq, Int.reduceLT, Int.reduceLE]; rfl) ?_)
            | refine post0 ?_
          all_goals first | exact ends_of | (exfalso; omega)
        | true =>
          rw [if_pos ⟨hc, hi, ht⟩]
          have ht' := ht
          rw [eb] at ht'
          rw [ht'] at q65
          have tt : r.fro ≤ r.til ∧ r.til - r.fro = hrs (bD l i) + cl r c := by simpa [tm] using ht'
          by_cases ho : hour < r.fro ∨ r.til ≤ hour
          · rw [if_pos ho]
            repeat' first
              | with_reducible refine k_seq ?_
              | with_reducible refine k_skip ?_
              | with_reducible refine k_blkS ?_
              | with_reducible refine k_blkR ?_
              | with_reducible refine k_blkC ?_
              | with_reducible refine k_blkH ?_
              | with_reducible refine k_blkB ?_
              | with_reducible refine k_blkK ?_
              | with_reducible refine k_blkE ?_
              | with_reducible refine k_reg ?_
              | with_reducible refine k_head (by with_unfolding_all rfl) ?_
              | with_reducible refine k_headS ?_
              | (with_reducible refine SepK.mk ?_ ?_; (refine sepQ_P ?_; simp [sepQ, sepG, AOp.late, AOp.free, AOp.xs, AOp.isAl, tokNe, AV.tok, stS_get, strip, AX.val, c29r0, c29r1, c29r2, c29r3, c29r4, c29r5, c29r6, c29r7, c29r8, c29r9, c29r10, c29r11, c29r12, c29r13, c29r14, c29r15, c29r16, c29r17, c29r18, c29r20, GA]; try omega))
              | with_reducible refine r_done ?_
              | with_reducible refine hr_done ?_
              | with_reducible refine s_go (by simp (disch := omega) only [hi2, rA, rH, hi', c1, c2, c29r0, c29r1, c29r2, c29r3, c29r4, c29r5, c29r6, c29r7, c29r8, c29r9, c29r10, c29r11, c29r12, c29r13, c29r14, c29r15, c29r16, c29r17, c29r18, c29r20, EV0, EV1, EV2, EV3, EV4, EV5, EV6, EV7, EV8, VALS, plug, ite_same, decide_true, decide_false, eq_self, ↓reduceIte, reduceCtorEq, Nat.reduceAdd, Nat.reduceEqDiff, Nat.reduceLT, Nat.reduceLeDiff, Nat.reduceMul, Nat.reduceSub, Nat.reduceDiv, Int.reduceToNat, Int.reduceAdd, Int.reduceSub, Int.reduceMul, Int.reduceNeg, Int.reduceEq, Int.reduceLT, Int.reduceLE]; with_reducible rfl) ?_
              | with_reducible refine h_go (by with_unfolding_all rfl) (by simp (disch := omega) only [hi2, rA, rH, hi', c1, c2, c29r0, c29r1, c29r2, c29r3, c29r4, c29r5, c29r6, c29r7, c29r8, c29r9, c29r10, c29r11, c29r12, c29r13, c29r14, c29r15, c29r16, c29r17, c29r18, c29r20, EV0, EV1, EV2, EV3, EV4, EV5, EV6, EV7, EV8, VALS, plug, ite_same, decide_true, decide_false, eq_self, ↓reduceIte, reduceCtorEq, Nat.reduceAdd, Nat.reduceEqDiff, Nat.reduceLT, Nat.reduceLeDiff, Nat.reduceMul, Nat.reduceSub, Nat.reduceDiv, Int.reduceToNat, Int.reduceAdd, Int.reduceSub, Int.reduceMul, Int.reduceNeg, Int.reduceEq, Int.reduceLT, Int.reduceLE]; with_reducible rfl) ?_
              | ((with_reducible refine chk_r ?_); refine r_callF (by simp only [CA, Nat.reduceEqDiff, ↓reduceIte]; rfl) (by exact rfl) (by simp only [CA, Nat.reduceEqDiff, ↓reduceIte]; rfl) rfl ?_)
              | ((with_reducible refine chk_h ?_); refine hr_callF (by simp only [CA, Nat.reduceEqDiff, ↓reduceIte]; rfl) (by exact rfl) (by simp only [CA, Nat.reduceEqDiff, ↓reduceIte]; rfl) rfl ?_)
              | ((with_reducible refine chk_r ?_); refine r_callP (by simp only [CA, Nat.reduceEqDiff, ↓reduceIte]; rfl) (by simp only [CA, Nat.reduceEqDiff, ↓reduceIte]; rfl) (by first | exact q26 _ | exact pc63 _ _ _ _ | exact q64 _ | exact q66 _ | exact q65 _) rfl ?_)
              | ((with_reducible refine chk_h ?_); refine hr_callP (by simp only [CA, Nat.reduceEqDiff, ↓reduceIte]; rfl) (by simp only [CA, Nat.reduceEqDiff, ↓reduceIte]; rfl) (by first | exact q26 _ | exact pc63 _ _ _ _ | exact q64 _ | exact q66 _ | exact q65 _) rfl ?_)
              | ((with_reducible refine chk_h ?_); refine hr_callP1 (by simp only [CA, Nat.reduceEqDiff, ↓reduceIte]; rfl) (by simp only [CA, Nat.reduceEqDiff, ↓reduceIte]; rfl) (by simp (disch := omega) only [CA, Nat.reduceEqDiff, ↓reduceIte, firstTok_nil, firstTok_sl, firstTok_sl0, firstTok_i, firstTok_b, firstTok_ag, firstTok_p, firstTok_s]; rfl) (by first | exact q26 _ | exact pc63 _ _ _ _ | exact q64 _ | exact q66 _ | exact q65 _) rfl ?_)
              | ((with_reducible refine chk_r ?_); refine r_callG (by simp only [CA, Nat.reduceEqDiff, ↓reduceIte]; rfl) (by simp only [CA, Nat.reduceEqDiff, ↓reduceIte]; rfl) (by simp only [CA, Nat.reduceEqDiff, ↓reduceIte]; rfl) (by intro hg; (try simp only [BO] at hg); first | exact q26 _ | exact pc63 _ _ _ _ | exact q64 _ | exact q66 _ | exact q65 _) rfl ?_)
              | ((with_reducible refine chk_h ?_); refine hr_callG (by simp only [CA, Nat.reduceEqDiff, ↓reduceIte]; rfl) (by simp only [CA, Nat.reduceEqDiff, ↓reduceIte]; rfl) (by simp only [CA, Nat.reduceEqDiff, ↓reduceIte]; rfl) (by intro hg; (try simp only [BO] at hg); first | exact q26 _ | exact pc63 _ _ _ _ | exact q64 _ | exact q66 _ | exact q65 _) rfl ?_)
              | ((with_reducible refine chk_h ?_); refine hr_app (by simp (disch := omega) only [hi2, rA, rH, hi', c1, c2, c29r0, c29r1, c29r2, c29r3, c29r4, c29r5, c29r6, c29r7, c29r8, c29r9, c29r10, c29r11, c29r12, c29r13, c29r14, c29r15, c29r16, c29r17, c29r18, c29r20, EV0, EV1, EV2, EV3, EV4, EV5, EV6, EV7, EV8, VALS, plug, ite_same, decide_true, decide_false, eq_self, ↓reduceIte, reduceCtorEq, Nat.reduceAdd, Nat.reduceEqDiff, Nat.reduceLT, Nat.reduceLeDiff, Nat.reduceMul, Nat.reduceSub, Nat.reduceDiv, Int.reduceToNat, Int.reduceAdd, Int.reduceSub, Int.reduceMul, Int.reduceNeg, Int.reduceEq, Int.reduceLT, Int.reduceLE]; with_reducible rfl) rfl ?_)
              | (with_reducible refine k_condP (by simp only [GA, Nat.reduceEqDiff, ↓reduceIte]; rfl) (by first | (simp only [BO]; rfl) | rfl) (fun ht => ?_) (fun ht => ?_) <;> try (first | exact False.elim ht | exact absurd rfl ht | exact absurd trivial ht | exact Bool.noConfusion ht))
              | (with_reducible refine k_ret ?_; repeat with_reducible (first | refine ret_thru ?_ | refine ret_blk ?_ | refine fin ?_))
              | (with_reducible refine k_exit ?_; repeat with_reducible (first | refine thru ?_ | refine out_blk ?_ | refine pass (by decide) ?_))
              | (refine post1 ?_; simp only [GA, Nat.reduceEqDiff, ↓reduceIte])
              | (refine post2 ?_; simp only [GA, Nat.reduceEqDiff, ↓reduceIte])
              | (refine post3 ?_; simp only [GA, Nat.reduceEqDiff, ↓reduceIte])
              | (refine postc (by simp only [GA, Nat.reduceEqDiff, ↓reduceIte]; rfl) (by simp (disch := omega) only [hi2, rA, rH, hi', c1, c2, c29r0, c29r1, c29r2, c29r3, c29r4, c29r5, c29r6, c29r7, c29r8, c29r9, c29r10, c29r11, c29r12, c29r13, c29r14, c29r15, c29r16, c29r17, c29r18, c29r20, EV0, EV1, EV2, EV3, EV4, EV5, EV6, EV7, EV8, VALS, plug, ite_same, decide_true, decide_false, eq_self, ↓reduceIte, reduceCtorEq, Nat.reduceAdd, Nat.reduceEqDiff, Nat.reduceLT, Nat.reduceLeDiff, Nat.reduceMul, Nat.reduceSub, Nat.reduceDiv, Int.reduceToNat, Int.reduceAdd, Int.reduceSub, Int.reduceMul, Int.reduceNeg, Int.reduceEq, Int.reduceLT, Int.reduceLE]; rfl) ?_)
              | refine post0 ?_
            all_goals first | exact ends_of | (exfalso; omega)
          · rw [if_neg ho, eb]
            have ho1 : ¬ hour < r.fro := fun q => ho (.inl q)
            have ho2 : ¬ r.til ≤ hour := fun q => ho (.inr q)
            have rng : 0 ≤ hour - r.fro ∧ hour - r.fro ≤ 500 := by omega
            cases hcl : r.clean with
            | true =>
              have ecl : cl r c = c := by simp [cl, hcl]
              rw [hcl] at q65 q66
              rw [ecl] at tt q65 q66 ⊢
              by_cases ha : hour - r.fro < c
              · have : stv (bD l i) (hour - r.fro - c) = 0 := by unfold stv; rw [if_pos (by omega)]
                rw [this]
                repeat' first
                  | with_reducible refine k_seq ?_
                  | with_reducible refine k_skip ?_
                  | with_reducible refine k_blkS ?_
                  | with_reducible refine k_blkR ?_
                  | with_reducible refine k_blkC ?_
                  | with_reducible refine k_blkH ?_
                  | with_reducible refine k_blkB ?_
                  | with_reducible refine k_blkK ?_
                  | with_reducible refine k_blkE ?_
                  | with_reducible refine k_reg ?_
                  | with_reducible refine k_head (by with_unfolding_all rfl) ?_
                  | with_reducible refine k_headS ?_
                  | (with_reducible refine SepK.mk ?_ ?_; (refine sepQ_P ?_; simp [sepQ, sepG, AOp.late, AOp.free, AOp.xs, AOp.isAl, tokNe, AV.tok, stS_get, strip, AX.val, c29r0, c29r1, c29r2, c29r3, c29r4, c29r5, c29r6, c29r7, c29r8, c29r9, c29r10, c29r11, c29r12, c29r13, c29r14, c29r15, c29r16, c29r17, c29r18, c29r20, GA]; try omega))
                  | with_reducible refine r_done ?_
                  | with_reducible refine hr_done ?_
                  | with_reducible refine s_go (by simp (disch := omega) only [hi2, rA, rH, hi', c1, c2, ho1, ho2, ha, c29r0, c29r1, c29r2, c29r3, c29r4, c29r5, c29r6, c29r7, c29r8, c29r9, c29r10, c29r11, c29r12, c29r13, c29r14, c29r15, c29r16, c29r17, c29r18, c29r20, EV0, EV1, EV2, EV3, EV4, EV5, EV6, EV7, EV8, VALS, plug, ite_same, decide_true, decide_false, eq_self, ↓reduceIte, reduceCtorEq, Nat.reduceAdd, Nat.reduceEqDiff, Nat.reduceLT, Nat.reduceLeDiff, Nat.reduceMul, Nat.reduceSub, Nat.reduceDiv, Int.reduceToNat, Int.reduceAdd, Int.reduceSub, Int.reduceMul, Int.reduceNeg, Int.reduceEq, Int.reduceLT, Int.reduceLE]; with_reducible rfl) ?_
                  | with_reducible refine h_go (by with_unfolding_all rfl) (by simp (disch := omega) only [hi2, rA, rH, hi', c1, c2, ho1, ho2, ha, c29r0, c29r1, c29r2, c29r3, c29r4, c29r5, c29r6, c29r7, c29r8, c29r9, c29r10, c29r11, c29r12, c29r13, c29r14, c29r15, c29r16, c29r17, c29r18, c29r20, EV0, EV1, EV2, EV3, EV4, EV5, EV6, EV7, EV8, VALS, plug, ite_same, decide_true, decide_false, eq_self, ↓reduceIte, reduceCtorEq, Nat.reduceAdd, Nat.reduceEqDiff, Nat.reduceLT, Nat.reduceLeDiff, Nat.reduceMul, Nat.reduceSub, Nat.reduceDiv, Int.reduceToNat, Int.reduceAdd, Int.reduceSub, Int.reduceMul, Int.reduceNeg, Int.reduceEq, Int.reduceLT, Int.reduceLE]; with_reducible rfl) ?_
                  | ((with_reducible refine chk_r ?_); refine r_callF (by simp only [CA, Nat.reduceEqDiff, ↓reduceIte]; rfl) (by exact rfl) (by simp only [CA, Nat.reduceEqDiff, ↓reduceIte]; rfl) rfl ?_)
                  | ((with_reducible refine chk_h ?_); refine hr_callF (by simp only [CA, Nat.reduceEqDiff, ↓reduceIte]; rfl) (by exact rfl) (by simp only [CA, Nat.reduceEqDiff, ↓reduceIte]; rfl) rfl ?_)
                  | ((with_reducible refine chk_r ?_); refine r_callP (by simp only [CA, Nat.reduceEqDiff, ↓reduceIte]; rfl) (by simp only [CA, Nat.reduceEqDiff, ↓reduceIte]; rfl) (by first | exact q26 _ | exact pc63 _ _ _ _ | exact q64 _ | exact q66 _ | exact q65 _) rfl ?_)
                  | ((with_reducible refine chk_h ?_); refine hr_callP (by simp only [CA, Nat.reduceEqDiff, ↓reduceIte]; rfl) (by simp only [CA, Nat.reduceEqDiff, ↓reduceIte]; rfl) (by first | exact q26 _ | exact pc63 _ _ _ _ | exact q64 _ | exact q66 _ | exact q65 _) rfl ?_)
                  | ((with_reducible refine chk_h ?_); refine hr_callP1 (by simp only [CA, Nat.reduceEqDiff, ↓reduceIte]; rfl) (by simp only [CA, Nat.reduceEqDiff, ↓reduceIte]; rfl) (by simp (disch := omega) only [CA, Nat.reduceEqDiff, ↓reduceIte, firstTok_nil, firstTok_sl, firstTok_sl0, firstTok_i, firstTok_b, firstTok_ag, firstTok_p, firstTok_s]; rfl) (by first | exact q26 _ | exact pc63 _ _ _ _ | exact q64 _ | exact q66 _ | exact q65 _) rfl ?_)
                  | ((with_reducible refine chk_r ?_); refine r_callG (by simp only [CA, Nat.reduceEqDiff, ↓reduceIte]; rfl) (by simp only [CA, Nat.reduceEqDiff, ↓reduceIte]; rfl) (by simp only [CA, Nat.reduceEqDiff, ↓reduceIte]; rfl) (by intro hg; (try simp only [BO] at hg); first | exact q26 _ | exact pc63 _ _ _ _ | exact q64 _ | exact q66 _ | exact q65 _) rfl ?_)
                  | ((with_reducible refine chk_h ?_); refine hr_callG (by simp only [CA, Nat.reduceEqDiff, ↓reduceIte]; rfl) (by simp only [CA, Nat.reduceEqDiff, ↓reduceIte]; rfl) (by simp only [CA, Nat.reduceEqDiff, ↓reduceIte]; rfl) (by intro hg; (try simp only [BO] at hg); first | exact q26 _ | exact pc63 _ _ _ _ | exact q64 _ | exact q66 _ | exact q65 _) rfl ?_)
                  | ((with_reducible refine chk_h ?_); refine hr_app (by simp (disch := omega) only [hi2, rA, rH, hi', c1, c2, ho1, ho2, ha, c29r0, c29r1, c29r2, c29r3, c29r4, c29r5, c29r6, c29r7, c29r8, c29r9, c29r10, c29r11, c29r12, c29r13, c29r14, c29r15, c29r16, c29r17, c29r18, c29r20, EV0, EV1, EV2, EV3, EV4, EV5, EV6, EV7, EV8, VALS, plug, ite_same, decide_true, decide_false, eq_self, ↓reduceIte, reduceCtorEq, Nat.reduceAdd, Nat.reduceEqDiff, Nat.reduceLT, Nat.reduceLeDiff, Nat.reduceMul, Nat.reduceSub, Nat.reduceDiv, Int.reduceToNat, Int.reduceAdd, Int.reduceSub, Int.reduceMul, Int.reduceNeg, Int.reduceEq, Int.reduceLT, Int.reduceLE]; with_reducible rfl) rfl ?_)
                  | (with_reducible refine k_condP (by simp only [GA, Nat.reduceEqDiff, ↓reduceIte]; rfl) (by first | (simp only [BO]; rfl) | rfl) (fun ht => ?_) (fun ht => ?_) <;> try (first | exact False.elim ht | exact absurd rfl ht | exact absurd trivial ht | exact Bool.noConfusion ht))
                  | (with_reducible refine k_ret ?_; repeat with_reducible (first | refine ret_thru ?_ | refine ret_blk ?_ | refine fin ?_))
                  | (with_reducible refine k_exit ?_; repeat with_reducible (first | refine thru ?_ | refine out_blk ?_ | refine pass (by decide) ?_))
                  | (refine post1 ?_; simp only [GA, Nat.reduceEqDiff, ↓reduceIte])
                  | (refine post2 ?_; simp only [GA, Nat.reduceEqDiff, ↓reduceIte])
                  | (refine post3 ?_; simp only [GA, Nat.reduceEqDiff, ↓reduceIte])
                  | (refine postc (by simp only [GA, Nat.reduceEqDiff, ↓reduceIte]; rfl) (by simp (disch := omega) only [hi2, rA, rH, hi', c1, c2, ho1, ho2, ha, c29r0, c29r1, c29r2, c29r3, c29r4, c29r5, c29r6, c29r7, c29r8, c29r9, c29r10, c29r11, c29r12, c29r13, c29r14, c29r15, c29r16, c29r17, c29r18, c29r20, EV0, EV1, EV2, EV3, EV4, EV5, EV6, EV7, EV8, VALS, plug, ite_same, decide_true, decide_false, eq_self, ↓reduceIte, reduceCtorEq, Nat.reduceAdd, Nat.reduceEqDiff, Nat.reduceLT, Nat.reduceLeDiff, Nat.reduceMul, Nat.reduceSub, Nat.reduceDiv, Int.reduceToNat, Int.reduceAdd, Int.reduceSub, Int.reduceMul, Int.reduceNeg, Int.reduceEq, Int.reduceLT, Int.reduceLE]; rfl) ?_)
                  | refine post0 ?_
                all_goals first | exact ends_of | (exfalso; omega)
              · repeat' first
                  | with_reducible refine k_seq ?_
                  | with_reducible refine k_skip ?_
                  | with_reducible refine k_blkS ?_
                  | with_reducible refine k_blkR ?_
                  | with_reducible refine k_blkC ?_
                  | with_reducible refine k_blkH ?_
                  | with_reducible refine k_blkB ?_
                  | with_reducible refine k_blkK ?_
                  | with_reducible refine k_blkE ?_
                  | with_reducible refine k_reg ?_
                  | with_reducible refine k_head (by with_unfolding_all rfl) ?_
                  | with_reducible refine k_headS ?_
                  | (with_reducible refine SepK.mk ?_ ?_; (refine sepQ_P ?_; simp [sepQ, sepG, AOp.late, AOp.free, AOp.xs, AOp.isAl, tokNe, AV.tok, stS_get, strip, AX.val, c29r0, c29r1, c29r2, c29r3, c29r4, c29r5, c29r6, c29r7, c29r8, c29r9, c29r10, c29r11, c29r12, c29r13, c29r14, c29r15, c29r16, c29r17, c29r18, c29r20, GA]; try omega))
                  | with_reducible refine r_done ?_
                  | with_reducible refine hr_done ?_
                  | with_reducible refine s_go (by simp (disch := omega) only [hi2, rA, rH, hi', c1, c2, ho1, ho2, ha, c29r0, c29r1, c29r2, c29r3, c29r4, c29r5, c29r6, c29r7, c29r8, c29r9, c29r10, c29r11, c29r12, c29r13, c29r14, c29r15, c29r16, c29r17, c29r18, c29r20, EV0, EV1, EV2, EV3, EV4, EV5, EV6, EV7, EV8, VALS, plug, ite_same, decide_true, decide_false, eq_self, ↓reduceIte, reduceCtorEq, Nat.reduceAdd, Nat.reduceEqDiff, Nat.reduceLT, Nat.reduceLeDiff, Nat.reduceMul, Nat.reduceSub, Nat.reduceDiv, Int.reduceToNat, Int.reduceAdd, Int.reduceSub, Int.reduceMul, Int.reduceNeg, Int.reduceEq, Int.reduceLT, Int.reduceLE]; with_reducible rfl) ?_
                  | with_reducible refine h_go (by with_unfolding_all rfl) (by simp (disch := omega) only [hi2, rA, rH, hi', c1, c2, ho1, ho2, ha, c29r0, c29r1, c29r2, c29r3, c29r4, c29r5, c29r6, c29r7, c29r8, c29r9, c29r10, c29r11, c29r12, c29r13, c29r14, c29r15, c29r16, c29r17, c29r18, c29r20, EV0, EV1, EV2, EV3, EV4, EV5, EV6, EV7, EV8, VALS, plug, ite_same, decide_true, decide_false, eq_self, ↓reduceIte, reduceCtorEq, Nat.reduceAdd, Nat.reduceEqDiff, Nat.reduceLT, Nat.reduceLeDiff, Nat.reduceMul, Nat.reduceSub, Nat.reduceDiv, Int.reduceToNat, Int.reduceAdd, Int.reduceSub, Int.reduceMul, Int.reduceNeg, Int.reduceEq, Int.reduceLT, Int.reduceLE]; with_reducible rfl) ?_
                  | ((with_reducible refine chk_r ?_); refine r_callF (by simp only [CA, Nat.reduceEqDiff, ↓reduceIte]; rfl) (by exact rfl) (by simp only [CA, Nat.reduceEqDiff, ↓reduceIte]; rfl) rfl ?_)
                  | ((with_reducible refine chk_h ?_); refine hr_callF (by simp only [CA, Nat.reduceEqDiff, ↓reduceIte]; rfl) (by exact rfl) (by simp only [CA, Nat.reduceEqDiff, ↓reduceIte]; rfl) rfl ?_)
                  | ((with_reducible refine chk_r ?_); refine r_callP (by simp only [CA, Nat.reduceEqDiff, ↓reduceIte]; rfl) (by simp only [CA, Nat.reduceEqDiff, ↓reduceIte]; rfl) (by first | exact q26 _ | exact pc63 _ _ _ _ | exact q64 _ | exact q66 _ | exact q65 _) rfl ?_)
                  | ((with_reducible refine chk_h ?_); refine hr_callP (by simp only [CA, Nat.reduceEqDiff, ↓reduceIte]; rfl) (by simp only [CA, Nat.reduceEqDiff, ↓reduceIte]; rfl) (by first | exact q26 _ | exact pc63 _ _ _ _ | exact q64 _ | exact q66 _ | exact q65 _) rfl ?_)
                  | ((with_reducible refine chk_h ?_); refine hr_callP1 (by simp only [CA, Nat.reduceEqDiff, ↓reduceIte]; rfl) (by simp only [CA, Nat.reduceEqDiff, ↓reduceIte]; rfl) (by simp (disch := omega) only [CA, Nat.reduceEqDiff, ↓reduceIte, firstTok_nil, firstTok_sl, firstTok_sl0, firstTok_i, firstTok_b, firstTok_ag, firstTok_p, firstTok_s]; rfl) (by first | exact q26 _ | exact pc63 _ _ _ _ | exact q64 _ | exact q66 _ | exact q65 _) rfl ?_)
                  | ((with_reducible refine chk_r ?_); refine r_callG (by simp only [CA, Nat.reduceEqDiff, ↓reduceIte]; rfl) (by simp only [CA, Nat.reduceEqDiff, ↓reduceIte]; rfl) (by simp only [CA, Nat.reduceEqDiff, ↓reduceIte]; rfl) (by intro hg; (try simp only [BO] at hg); first | exact q26 _ | exact pc63 _ _ _ _ | exact q64 _ | exact q66 _ | exact q65 _) rfl ?_)
                  | ((with_reducible refine chk_h ?_); refine hr_callG (by simp only [CA, Nat.reduceEqDiff, ↓reduceIte]; rfl) (by simp only [CA, Nat.reduceEqDiff, ↓reduceIte]; rfl) (by simp only [CA, Nat.reduceEqDiff, ↓reduceIte]; rfl) (by intro hg; (try simp only [BO] at hg); first | exact q26 _ | exact pc63 _ _ _ _ | exact q64 _ | exact q66 _ | exact q65 _) rfl ?_)
                  | ((with_reducible refine chk_h ?_); refine hr_app (by simp (disch := omega) only [hi2, rA, rH, hi', c1, c2, ho1, ho2, ha, c29r0, c29r1, c29r2, c29r3, c29r4, c29r5, c29r6, c29r7, c29r8, c29r9, c29r10, c29r11, c29r12, c29r13, c29r14, c29r15, c29r16, c29r17, c29r18, c29r20, EV0, EV1, EV2, EV3, EV4, EV5, EV6, EV7, EV8, VALS, plug, ite_same, decide_true, decide_false, eq_self, ↓reduceIte, reduceCtorEq, Nat.reduceAdd, Nat.reduceEqDiff, Nat.reduceLT, Nat.reduceLeDiff, Nat.reduceMul, Nat.reduceSub, Nat.reduceDiv, Int.reduceToNat, Int.reduceAdd, Int.reduceSub, Int.reduceMul, Int.reduceNeg, Int.reduceEq, Int.reduceLT, Int.reduceLE]; with_reducible rfl) rfl ?_)
                  | (with_reducible refine k_condP (by simp only [GA, Nat.reduceEqDiff, ↓reduceIte]; rfl) (by first | (simp only [BO]; rfl) | rfl) (fun ht => ?_) (fun ht => ?_) <;> try (first | exact False.elim ht | exact absurd rfl ht | exact absurd trivial ht | exact Bool.noConfusion ht))
                  | (with_reducible refine k_ret ?_; repeat with_reducible (first | refine ret_thru ?_ | refine ret_blk ?_ | refine fin ?_))
                  | (with_reducible refine k_exit ?_; repeat with_reducible (first | refine thru ?_ | refine out_blk ?_ | refine pass (by decide) ?_))
                  | (refine post1 ?_; simp only [GA, Nat.reduceEqDiff, ↓reduceIte])
                  | (refine post2 ?_; simp only [GA, Nat.reduceEqDiff, ↓reduceIte])
                  | (refine post3 ?_; simp only [GA, Nat.reduceEqDiff, ↓reduceIte])
                  | (refine postc (by simp only [GA, Nat.reduceEqDiff, ↓reduceIte]; rfl) (by simp (disch := omega) only [hi2, rA, rH, hi', c1, c2, ho1, ho2, ha, c29r0, c29r1, c29r2, c29r3, c29r4, c29r5, c29r6, c29r7, c29r8, c29r9, c29r10, c29r11, c29r12, c29r13, c29r14, c29r15, c29r16, c29r17, c29r18, c29r20, EV0, EV1, EV2, EV3, EV4, EV5, EV6, EV7, EV8, VALS, plug, ite_same, decide_true, decide_false, eq_self, ↓reduceIte, reduceCtorEq, Nat.reduceAdd, Nat.reduceEqDiff, Nat.reduceLT, Nat.reduceLeDiff, Nat.reduceMul, Nat.reduceSub, Nat.reduceDiv, Int.reduceToNat, Int.reduceAdd, Int.reduceSub, Int.reduceMul, Int.reduceNeg, Int.reduceEq, Int.reduceLT, Int.reduceLE]; rfl) ?_)
                  | refine post0 ?_
                all_goals try (exfalso; omega)
                refine k_blk (k_loopS (X := Unit) [10, 69, 70] 4 (fun k _ => [(10, .i .i64 (atK (bD l i) (hour - r.fro - c) k)), (69, .ag (hsB (bD l i))), (70, .i .i64 (k : Int))]) (fun k _ h => sumH (bD l i) k ≤ hour - r.fro - c) () (by simp only [Am.keep, List.map_cons, List.map_nil, GA, Nat.reduceEqDiff, ↓reduceIte]; try rfl) (by simp only [sumH]; omega) ?_)
                rintro k _ h hk hA ok pos
                by_cases klt : k < 4
                · have klt' : (k : Int) < 4 := by omega
                  have g := hB_get (bD l i) klt
                  have hB1 := hB_rng hb k
                  have s2 := sumH_rng hb k
                  have es : sumH (bD l i) (k + 1) = sumH (bD l i) k + hB (bD l i) k := rfl
                  generalize hcs : hsB (bD l i) = cs at g ⊢
                  have cl4 : cs.length = 4 := by rw [← hcs]; rfl
                  have ea := atK_eq (bD l i) (hour - r.fro - c) k
                  by_cases hq : atK (bD l i) (hour - r.fro - c) k < hB (bD l i) k
                  · rw [stv_at hb klt hA (by omega)]
                    repeat' first
                      | with_reducible refine k_seq ?_
                      | with_reducible refine k_skip ?_
                      | with_reducible refine k_blkS ?_
                      | with_reducible refine k_blkR ?_
                      | with_reducible refine k_blkC ?_
                      | with_reducible refine k_blkH ?_
                      | with_reducible refine k_blkB ?_
                      | with_reducible refine k_blkK ?_
                      | with_reducible refine k_blkE ?_
                      | with_reducible refine k_reg ?_
                      | with_reducible refine k_head (by with_unfolding_all rfl) ?_
                      | with_reducible refine k_headS ?_
                      | (with_reducible refine SepK.mk ?_ ?_; (refine sepQ_P ?_; simp [sepQ, sepG, AOp.late, AOp.free, AOp.xs, AOp.isAl, tokNe, AV.tok, stS_get, strip, AX.val, c29r0, c29r1, c29r2, c29r3, c29r4, c29r5, c29r6, c29r7, c29r8, c29r9, c29r10, c29r11, c29r12, c29r13, c29r14, c29r15, c29r16, c29r17, c29r18, c29r20, GA]; try omega))
                      | with_reducible refine r_done ?_
                      | with_reducible refine hr_done ?_
                      | with_reducible refine s_go (by simp (disch := omega) only [klt', g, cl4, hq, c29r0, c29r1, c29r2, c29r3, c29r4, c29r5, c29r6, c29r7, c29r8, c29r9, c29r10, c29r11, c29r12, c29r13, c29r14, c29r15, c29r16, c29r17, c29r18, c29r20, EV0, EV1, EV2, EV3, EV4, EV5, EV6, EV7, EV8, VALS, plug, ite_same, decide_true, decide_false, eq_self, ↓reduceIte, reduceCtorEq, Nat.reduceAdd, Nat.reduceEqDiff, Nat.reduceLT, Nat.reduceLeDiff, Nat.reduceMul, Nat.reduceSub, Nat.reduceDiv, Int.reduceToNat, Int.reduceAdd, Int.reduceSub, Int.reduceMul, Int.reduceNeg, Int.reduceEq, Int.reduceLT, Int.reduceLE]; with_reducible rfl) ?_
                      | with_reducible refine h_go (by with_unfolding_all rfl) (by simp (disch := omega) only [klt', g, cl4, hq, c29r0, c29r1, c29r2, c29r3, c29r4, c29r5, c29r6, c29r7, c29r8, c29r9, c29r10, c29r11, c29r12, c29r13, c29r14, c29r15, c29r16, c29r17, c29r18, c29r20, EV0, EV1, EV2, EV3, EV4, EV5, EV6, EV7, EV8, VALS, plug, ite_same, decide_true, decide_false, eq_self, ↓reduceIte, reduceCtorEq, Nat.reduceAdd, Nat.reduceEqDiff, Nat.reduceLT, Nat.reduceLeDiff, Nat.reduceMul, Nat.reduceSub, Nat.reduceDiv, Int.reduceToNat, Int.reduceAdd, Int.reduceSub, Int.reduceMul, Int.reduceNeg, Int.reduceEq, Int.reduceLT, Int.reduceLE]; with_reducible rfl) ?_
                      | ((with_reducible refine chk_r ?_); refine r_callF (by simp only [CA, Nat.reduceEqDiff, ↓reduceIte]; rfl) (by exact rfl) (by simp only [CA, Nat.reduceEqDiff, ↓reduceIte]; rfl) rfl ?_)
                      | ((with_reducible refine chk_h ?_); refine hr_callF (by simp only [CA, Nat.reduceEqDiff, ↓reduceIte]; rfl) (by exact rfl) (by simp only [CA, Nat.reduceEqDiff, ↓reduceIte]; rfl) rfl ?_)
                      | ((with_reducible refine chk_h ?_); refine hr_app (by simp (disch := omega) only [klt', g, cl4, hq, c29r0, c29r1, c29r2, c29r3, c29r4, c29r5, c29r6, c29r7, c29r8, c29r9, c29r10, c29r11, c29r12, c29r13, c29r14, c29r15, c29r16, c29r17, c29r18, c29r20, EV0, EV1, EV2, EV3, EV4, EV5, EV6, EV7, EV8, VALS, plug, ite_same, decide_true, decide_false, eq_self, ↓reduceIte, reduceCtorEq, Nat.reduceAdd, Nat.reduceEqDiff, Nat.reduceLT, Nat.reduceLeDiff, Nat.reduceMul, Nat.reduceSub, Nat.reduceDiv, Int.reduceToNat, Int.reduceAdd, Int.reduceSub, Int.reduceMul, Int.reduceNeg, Int.reduceEq, Int.reduceLT, Int.reduceLE]; with_reducible rfl) rfl ?_)
                      | (with_reducible refine k_condP (by simp only [GA, Nat.reduceEqDiff, ↓reduceIte]; rfl) (by first | (simp only [BO]; rfl) | rfl) (fun ht => ?_) (fun ht => ?_) <;> try (first | exact False.elim ht | exact absurd rfl ht | exact absurd trivial ht | exact Bool.noConfusion ht))
                      | (with_reducible refine k_ret ?_; repeat with_reducible (first | refine ret_thru ?_ | refine ret_blk ?_ | refine fin ?_))
                      | (with_reducible refine k_exit ?_; repeat with_reducible (first | refine thru ?_ | refine out_blk ?_ | refine pass (by decide) ?_))
                      | (refine post1 ?_; simp only [GA, Nat.reduceEqDiff, ↓reduceIte])
                      | (refine post2 ?_; simp only [GA, Nat.reduceEqDiff, ↓reduceIte])
                      | (refine post3 ?_; simp only [GA, Nat.reduceEqDiff, ↓reduceIte])
                      | (refine postc (by simp only [GA, Nat.reduceEqDiff, ↓reduceIte]; rfl) (by simp (disch := omega) only [klt', g, cl4, hq, c29r0, c29r1, c29r2, c29r3, c29r4, c29r5, c29r6, c29r7, c29r8, c29r9, c29r10, c29r11, c29r12, c29r13, c29r14, c29r15, c29r16, c29r17, c29r18, c29r20, EV0, EV1, EV2, EV3, EV4, EV5, EV6, EV7, EV8, VALS, plug, ite_same, decide_true, decide_false, eq_self, ↓reduceIte, reduceCtorEq, Nat.reduceAdd, Nat.reduceEqDiff, Nat.reduceLT, Nat.reduceLeDiff, Nat.reduceMul, Nat.reduceSub, Nat.reduceDiv, Int.reduceToNat, Int.reduceAdd, Int.reduceSub, Int.reduceMul, Int.reduceNeg, Int.reduceEq, Int.reduceLT, Int.reduceLE]; rfl) ?_)
                      | refine post0 ?_
                    all_goals first | exact ends_of | exact ends_eq rfl
                  · have e5 : atK (bD l i) (hour - r.fro - c) k - hB (bD l i) k = atK (bD l i) (hour - r.fro - c) (k + 1) := by rw [atK_eq, atK_eq]; omega
                    repeat' first
                      | with_reducible refine k_seq ?_
                      | with_reducible refine k_skip ?_
                      | with_reducible refine k_blkS ?_
                      | with_reducible refine k_blkR ?_
                      | with_reducible refine k_blkC ?_
                      | with_reducible refine k_blkH ?_
                      | with_reducible refine k_blkB ?_
                      | with_reducible refine k_blkK ?_
                      | with_reducible refine k_blkE ?_
                      | with_reducible refine k_reg ?_
                      | with_reducible refine k_head (by with_unfolding_all rfl) ?_
                      | with_reducible refine k_headS ?_
                      | (with_reducible refine SepK.mk ?_ ?_; (refine sepQ_P ?_; simp [sepQ, sepG, AOp.late, AOp.free, AOp.xs, AOp.isAl, tokNe, AV.tok, stS_get, strip, AX.val, c29r0, c29r1, c29r2, c29r3, c29r4, c29r5, c29r6, c29r7, c29r8, c29r9, c29r10, c29r11, c29r12, c29r13, c29r14, c29r15, c29r16, c29r17, c29r18, c29r20, GA]; try omega))
                      | with_reducible refine r_done ?_
                      | with_reducible refine hr_done ?_
                      | with_reducible refine s_go (by simp (disch := omega) only [klt', g, cl4, hq, e5, c29r0, c29r1, c29r2, c29r3, c29r4, c29r5, c29r6, c29r7, c29r8, c29r9, c29r10, c29r11, c29r12, c29r13, c29r14, c29r15, c29r16, c29r17, c29r18, c29r20, EV0, EV1, EV2, EV3, EV4, EV5, EV6, EV7, EV8, VALS, plug, ite_same, decide_true, decide_false, eq_self, ↓reduceIte, reduceCtorEq, Nat.reduceAdd, Nat.reduceEqDiff, Nat.reduceLT, Nat.reduceLeDiff, Nat.reduceMul, Nat.reduceSub, Nat.reduceDiv, Int.reduceToNat, Int.reduceAdd, Int.reduceSub, Int.reduceMul, Int.reduceNeg, Int.reduceEq, Int.reduceLT, Int.reduceLE]; with_reducible rfl) ?_
                      | with_reducible refine h_go (by with_unfolding_all rfl) (by simp (disch := omega) only [klt', g, cl4, hq, e5, c29r0, c29r1, c29r2, c29r3, c29r4, c29r5, c29r6, c29r7, c29r8, c29r9, c29r10, c29r11, c29r12, c29r13, c29r14, c29r15, c29r16, c29r17, c29r18, c29r20, EV0, EV1, EV2, EV3, EV4, EV5, EV6, EV7, EV8, VALS, plug, ite_same, decide_true, decide_false, eq_self, ↓reduceIte, reduceCtorEq, Nat.reduceAdd, Nat.reduceEqDiff, Nat.reduceLT, Nat.reduceLeDiff, Nat.reduceMul, Nat.reduceSub, Nat.reduceDiv, Int.reduceToNat, Int.reduceAdd, Int.reduceSub, Int.reduceMul, Int.reduceNeg, Int.reduceEq, Int.reduceLT, Int.reduceLE]; with_reducible rfl) ?_
                      | ((with_reducible refine chk_r ?_); refine r_callF (by simp only [CA, Nat.reduceEqDiff, ↓reduceIte]; rfl) (by exact rfl) (by simp only [CA, Nat.reduceEqDiff, ↓reduceIte]; rfl) rfl ?_)
                      | ((with_reducible refine chk_h ?_); refine hr_callF (by simp only [CA, Nat.reduceEqDiff, ↓reduceIte]; rfl) (by exact rfl) (by simp only [CA, Nat.reduceEqDiff, ↓reduceIte]; rfl) rfl ?_)
                      | ((with_reducible refine chk_h ?_); refine hr_app (by simp (disch := omega) only [klt', g, cl4, hq, e5, c29r0, c29r1, c29r2, c29r3, c29r4, c29r5, c29r6, c29r7, c29r8, c29r9, c29r10, c29r11, c29r12, c29r13, c29r14, c29r15, c29r16, c29r17, c29r18, c29r20, EV0, EV1, EV2, EV3, EV4, EV5, EV6, EV7, EV8, VALS, plug, ite_same, decide_true, decide_false, eq_self, ↓reduceIte, reduceCtorEq, Nat.reduceAdd, Nat.reduceEqDiff, Nat.reduceLT, Nat.reduceLeDiff, Nat.reduceMul, Nat.reduceSub, Nat.reduceDiv, Int.reduceToNat, Int.reduceAdd, Int.reduceSub, Int.reduceMul, Int.reduceNeg, Int.reduceEq, Int.reduceLT, Int.reduceLE]; with_reducible rfl) rfl ?_)
                      | (with_reducible refine k_condP (by simp only [GA, Nat.reduceEqDiff, ↓reduceIte]; rfl) (by first | (simp only [BO]; rfl) | rfl) (fun ht => ?_) (fun ht => ?_) <;> try (first | exact False.elim ht | exact absurd rfl ht | exact absurd trivial ht | exact Bool.noConfusion ht))
                      | (with_reducible refine k_ret ?_; repeat with_reducible (first | refine ret_thru ?_ | refine ret_blk ?_ | refine fin ?_))
                      | (with_reducible refine k_exit ?_; repeat with_reducible (first | refine thru ?_ | refine out_blk ?_ | refine pass (by decide) ?_))
                      | (refine post1 ?_; simp only [GA, Nat.reduceEqDiff, ↓reduceIte])
                      | (refine post2 ?_; simp only [GA, Nat.reduceEqDiff, ↓reduceIte])
                      | (refine post3 ?_; simp only [GA, Nat.reduceEqDiff, ↓reduceIte])
                      | (refine postc (by simp only [GA, Nat.reduceEqDiff, ↓reduceIte]; rfl) (by simp (disch := omega) only [klt', g, cl4, hq, e5, c29r0, c29r1, c29r2, c29r3, c29r4, c29r5, c29r6, c29r7, c29r8, c29r9, c29r10, c29r11, c29r12, c29r13, c29r14, c29r15, c29r16, c29r17, c29r18, c29r20, EV0, EV1, EV2, EV3, EV4, EV5, EV6, EV7, EV8, VALS, plug, ite_same, decide_true, decide_false, eq_self, ↓reduceIte, reduceCtorEq, Nat.reduceAdd, Nat.reduceEqDiff, Nat.reduceLT, Nat.reduceLeDiff, Nat.reduceMul, Nat.reduceSub, Nat.reduceDiv, Int.reduceToNat, Int.reduceAdd, Int.reduceSub, Int.reduceMul, Int.reduceNeg, Int.reduceEq, Int.reduceLT, Int.reduceLE]; rfl) ?_)
                      | refine post0 ?_
                    exact ⟨klt, (), (by simp only [Am.keep, List.map_cons, List.map_nil, GA, Nat.reduceEqDiff, ↓reduceIte]; try rfl), by omega⟩
                · obtain rfl : k = 4 := by omega
                  have hh : hrs (bD l i) = sumH (bD l i) 4 := rfl
                  exfalso; omega
            | false =>
              have ecl : cl r c = 0 := by simp [cl, hcl]
              rw [hcl] at q65 q66
              rw [ecl] at tt q65 q66 ⊢
              rw [Int.sub_zero]
              repeat' first
                | with_reducible refine k_seq ?_
                | with_reducible refine k_skip ?_
                | with_reducible refine k_blkS ?_
                | with_reducible refine k_blkR ?_
                | with_reducible refine k_blkC ?_
                | with_reducible refine k_blkH ?_
                | with_reducible refine k_blkB ?_
                | with_reducible refine k_blkK ?_
                | with_reducible refine k_blkE ?_
                | with_reducible refine k_reg ?_
                | with_reducible refine k_head (by with_unfolding_all rfl) ?_
                | with_reducible refine k_headS ?_
                | (with_reducible refine SepK.mk ?_ ?_; (refine sepQ_P ?_; simp [sepQ, sepG, AOp.late, AOp.free, AOp.xs, AOp.isAl, tokNe, AV.tok, stS_get, strip, AX.val, c29r0, c29r1, c29r2, c29r3, c29r4, c29r5, c29r6, c29r7, c29r8, c29r9, c29r10, c29r11, c29r12, c29r13, c29r14, c29r15, c29r16, c29r17, c29r18, c29r20, GA]; try omega))
                | with_reducible refine r_done ?_
                | with_reducible refine hr_done ?_
                | with_reducible refine s_go (by simp (disch := omega) only [hi2, rA, rH, hi', c1, c2, ho1, ho2, c29r0, c29r1, c29r2, c29r3, c29r4, c29r5, c29r6, c29r7, c29r8, c29r9, c29r10, c29r11, c29r12, c29r13, c29r14, c29r15, c29r16, c29r17, c29r18, c29r20, EV0, EV1, EV2, EV3, EV4, EV5, EV6, EV7, EV8, VALS, plug, ite_same, decide_true, decide_false, eq_self, ↓reduceIte, reduceCtorEq, Nat.reduceAdd, Nat.reduceEqDiff, Nat.reduceLT, Nat.reduceLeDiff, Nat.reduceMul, Nat.reduceSub, Nat.reduceDiv, Int.reduceToNat, Int.reduceAdd, Int.reduceSub, Int.reduceMul, Int.reduceNeg, Int.reduceEq, Int.reduceLT, Int.reduceLE]; with_reducible rfl) ?_
                | with_reducible refine h_go (by with_unfolding_all rfl) (by simp (disch := omega) only [hi2, rA, rH, hi', c1, c2, ho1, ho2, c29r0, c29r1, c29r2, c29r3, c29r4, c29r5, c29r6, c29r7, c29r8, c29r9, c29r10, c29r11, c29r12, c29r13, c29r14, c29r15, c29r16, c29r17, c29r18, c29r20, EV0, EV1, EV2, EV3, EV4, EV5, EV6, EV7, EV8, VALS, plug, ite_same, decide_true, decide_false, eq_self, ↓reduceIte, reduceCtorEq, Nat.reduceAdd, Nat.reduceEqDiff, Nat.reduceLT, Nat.reduceLeDiff, Nat.reduceMul, Nat.reduceSub, Nat.reduceDiv, Int.reduceToNat, Int.reduceAdd, Int.reduceSub, Int.reduceMul, Int.reduceNeg, Int.reduceEq, Int.reduceLT, Int.reduceLE]; with_reducible rfl) ?_
                | ((with_reducible refine chk_r ?_); refine r_callF (by simp only [CA, Nat.reduceEqDiff, ↓reduceIte]; rfl) (by exact rfl) (by simp only [CA, Nat.reduceEqDiff, ↓reduceIte]; rfl) rfl ?_)
                | ((with_reducible refine chk_h ?_); refine hr_callF (by simp only [CA, Nat.reduceEqDiff, ↓reduceIte]; rfl) (by exact rfl) (by simp only [CA, Nat.reduceEqDiff, ↓reduceIte]; rfl) rfl ?_)
                | ((with_reducible refine chk_r ?_); refine r_callP (by simp only [CA, Nat.reduceEqDiff, ↓reduceIte]; rfl) (by simp only [CA, Nat.reduceEqDiff, ↓reduceIte]; rfl) (by first | exact q26 _ | exact pc63 _ _ _ _ | exact q64 _ | exact q66 _ | exact q65 _) rfl ?_)
                | ((with_reducible refine chk_h ?_); refine hr_callP (by simp only [CA, Nat.reduceEqDiff, ↓reduceIte]; rfl) (by simp only [CA, Nat.reduceEqDiff, ↓reduceIte]; rfl) (by first | exact q26 _ | exact pc63 _ _ _ _ | exact q64 _ | exact q66 _ | exact q65 _) rfl ?_)
                | ((with_reducible refine chk_h ?_); refine hr_callP1 (by simp only [CA, Nat.reduceEqDiff, ↓reduceIte]; rfl) (by simp only [CA, Nat.reduceEqDiff, ↓reduceIte]; rfl) (by simp (disch := omega) only [CA, Nat.reduceEqDiff, ↓reduceIte, firstTok_nil, firstTok_sl, firstTok_sl0, firstTok_i, firstTok_b, firstTok_ag, firstTok_p, firstTok_s]; rfl) (by first | exact q26 _ | exact pc63 _ _ _ _ | exact q64 _ | exact q66 _ | exact q65 _) rfl ?_)
                | ((with_reducible refine chk_r ?_); refine r_callG (by simp only [CA, Nat.reduceEqDiff, ↓reduceIte]; rfl) (by simp only [CA, Nat.reduceEqDiff, ↓reduceIte]; rfl) (by simp only [CA, Nat.reduceEqDiff, ↓reduceIte]; rfl) (by intro hg; (try simp only [BO] at hg); first | exact q26 _ | exact pc63 _ _ _ _ | exact q64 _ | exact q66 _ | exact q65 _) rfl ?_)
                | ((with_reducible refine chk_h ?_); refine hr_callG (by simp only [CA, Nat.reduceEqDiff, ↓reduceIte]; rfl) (by simp only [CA, Nat.reduceEqDiff, ↓reduceIte]; rfl) (by simp only [CA, Nat.reduceEqDiff, ↓reduceIte]; rfl) (by intro hg; (try simp only [BO] at hg); first | exact q26 _ | exact pc63 _ _ _ _ | exact q64 _ | exact q66 _ | exact q65 _) rfl ?_)
                | ((with_reducible refine chk_h ?_); refine hr_app (by simp (disch := omega) only [hi2, rA, rH, hi', c1, c2, ho1, ho2, c29r0, c29r1, c29r2, c29r3, c29r4, c29r5, c29r6, c29r7, c29r8, c29r9, c29r10, c29r11, c29r12, c29r13, c29r14, c29r15, c29r16, c29r17, c29r18, c29r20, EV0, EV1, EV2, EV3, EV4, EV5, EV6, EV7, EV8, VALS, plug, ite_same, decide_true, decide_false, eq_self, ↓reduceIte, reduceCtorEq, Nat.reduceAdd, Nat.reduceEqDiff, Nat.reduceLT, Nat.reduceLeDiff, Nat.reduceMul, Nat.reduceSub, Nat.reduceDiv, Int.reduceToNat, Int.reduceAdd, Int.reduceSub, Int.reduceMul, Int.reduceNeg, Int.reduceEq, Int.reduceLT, Int.reduceLE]; with_reducible rfl) rfl ?_)
                | (with_reducible refine k_condP (by simp only [GA, Nat.reduceEqDiff, ↓reduceIte]; rfl) (by first | (simp only [BO]; rfl) | rfl) (fun ht => ?_) (fun ht => ?_) <;> try (first | exact False.elim ht | exact absurd rfl ht | exact absurd trivial ht | exact Bool.noConfusion ht))
                | (with_reducible refine k_ret ?_; repeat with_reducible (first | refine ret_thru ?_ | refine ret_blk ?_ | refine fin ?_))
                | (with_reducible refine k_exit ?_; repeat with_reducible (first | refine thru ?_ | refine out_blk ?_ | refine pass (by decide) ?_))
                | (refine post1 ?_; simp only [GA, Nat.reduceEqDiff, ↓reduceIte])
                | (refine post2 ?_; simp only [GA, Nat.reduceEqDiff, ↓reduceIte])
                | (refine post3 ?_; simp only [GA, Nat.reduceEqDiff, ↓reduceIte])
                | (refine postc (by simp only [GA, Nat.reduceEqDiff, ↓reduceIte]; rfl) (by simp (disch := omega) only [hi2, rA, rH, hi', c1, c2, ho1, ho2, c29r0, c29r1, c29r2, c29r3, c29r4, c29r5, c29r6, c29r7, c29r8, c29r9, c29r10, c29r11, c29r12, c29r13, c29r14, c29r15, c29r16, c29r17, c29r18, c29r20, EV0, EV1, EV2, EV3, EV4, EV5, EV6, EV7, EV8, VALS, plug, ite_same, decide_true, decide_false, eq_self, ↓reduceIte, reduceCtorEq, Nat.reduceAdd, Nat.reduceEqDiff, Nat.reduceLT, Nat.reduceLeDiff, Nat.reduceMul, Nat.reduceSub, Nat.reduceDiv, Int.reduceToNat, Int.reduceAdd, Int.reduceSub, Int.reduceMul, Int.reduceNeg, Int.reduceEq, Int.reduceLT, Int.reduceLE]; rfl) ?_)
                | refine post0 ?_
              all_goals try (exfalso; omega)
              refine k_blk (k_loopS (X := Unit) [10, 69, 70] 4 (fun k _ => [(10, .i .i64 (atK (bD l i) (hour - r.fro) k)), (69, .ag (hsB (bD l i))), (70, .i .i64 (k : Int))]) (fun k _ h => sumH (bD l i) k ≤ hour - r.fro) () (by simp only [Am.keep, List.map_cons, List.map_nil, GA, Nat.reduceEqDiff, ↓reduceIte]; try rfl) (by simp only [sumH]; omega) ?_)
              rintro k _ h hk hA ok pos
              by_cases klt : k < 4
              · have klt' : (k : Int) < 4 := by omega
                have g := hB_get (bD l i) klt
                have hB1 := hB_rng hb k
                have s2 := sumH_rng hb k
                have es : sumH (bD l i) (k + 1) = sumH (bD l i) k + hB (bD l i) k := rfl
                generalize hcs : hsB (bD l i) = cs at g ⊢
                have cl4 : cs.length = 4 := by rw [← hcs]; rfl
                have ea := atK_eq (bD l i) (hour - r.fro) k
                by_cases hq : atK (bD l i) (hour - r.fro) k < hB (bD l i) k
                · rw [stv_at hb klt hA (by omega)]
                  repeat' first
                    | with_reducible refine k_seq ?_
                    | with_reducible refine k_skip ?_
                    | with_reducible refine k_blkS ?_
                    | with_reducible refine k_blkR ?_
                    | with_reducible refine k_blkC ?_
                    | with_reducible refine k_blkH ?_
                    | with_reducible refine k_blkB ?_
                    | with_reducible refine k_blkK ?_
                    | with_reducible refine k_blkE ?_
                    | with_reducible refine k_reg ?_
                    | with_reducible refine k_head (by with_unfolding_all rfl) ?_
                    | with_reducible refine k_headS ?_
                    | (with_reducible refine SepK.mk ?_ ?_; (refine sepQ_P ?_; simp [sepQ, sepG, AOp.late, AOp.free, AOp.xs, AOp.isAl, tokNe, AV.tok, stS_get, strip, AX.val, c29r0, c29r1, c29r2, c29r3, c29r4, c29r5, c29r6, c29r7, c29r8, c29r9, c29r10, c29r11, c29r12, c29r13, c29r14, c29r15, c29r16, c29r17, c29r18, c29r20, GA]; try omega))
                    | with_reducible refine r_done ?_
                    | with_reducible refine hr_done ?_
                    | with_reducible refine s_go (by simp (disch := omega) only [klt', g, cl4, hq, c29r0, c29r1, c29r2, c29r3, c29r4, c29r5, c29r6, c29r7, c29r8, c29r9, c29r10, c29r11, c29r12, c29r13, c29r14, c29r15, c29r16, c29r17, c29r18, c29r20, EV0, EV1, EV2, EV3, EV4, EV5, EV6, EV7, EV8, VALS, plug, ite_same, decide_true, decide_false, eq_self, ↓reduceIte, reduceCtorEq, Nat.reduceAdd, Nat.reduceEqDiff, Nat.reduceLT, Nat.reduceLeDiff, Nat.reduceMul, Nat.reduceSub, Nat.reduceDiv, Int.reduceToNat, Int.reduceAdd, Int.reduceSub, Int.reduceMul, Int.reduceNeg, Int.reduceEq, Int.reduceLT, Int.reduceLE]; with_reducible rfl) ?_
                    | with_reducible refine h_go (by with_unfolding_all rfl) (by simp (disch := omega) only [klt', g, cl4, hq, c29r0, c29r1, c29r2, c29r3, c29r4, c29r5, c29r6, c29r7, c29r8, c29r9, c29r10, c29r11, c29r12, c29r13, c29r14, c29r15, c29r16, c29r17, c29r18, c29r20, EV0, EV1, EV2, EV3, EV4, EV5, EV6, EV7, EV8, VALS, plug, ite_same, decide_true, decide_false, eq_self, ↓reduceIte, reduceCtorEq, Nat.reduceAdd, Nat.reduceEqDiff, Nat.reduceLT, Nat.reduceLeDiff, Nat.reduceMul, Nat.reduceSub, Nat.reduceDiv, Int.reduceToNat, Int.reduceAdd, Int.reduceSub, Int.reduceMul, Int.reduceNeg, Int.reduceEq, Int.reduceLT, Int.reduceLE]; with_reducible rfl) ?_
                    | ((with_reducible refine chk_r ?_); refine r_callF (by simp only [CA, Nat.reduceEqDiff, ↓reduceIte]; rfl) (by exact rfl) (by simp only [CA, Nat.reduceEqDiff, ↓reduceIte]; rfl) rfl ?_)
                    | ((with_reducible refine chk_h ?_); refine hr_callF (by simp only [CA, Nat.reduceEqDiff, ↓reduceIte]; rfl) (by exact rfl) (by simp only [CA, Nat.reduceEqDiff, ↓reduceIte]; rfl) rfl ?_)
                    | ((with_reducible refine chk_h ?_); refine hr_app (by simp (disch := omega) only [klt', g, cl4, hq, c29r0, c29r1, c29r2, c29r3, c29r4, c29r5, c29r6, c29r7, c29r8, c29r9, c29r10, c29r11, c29r12, c29r13, c29r14, c29r15, c29r16, c29r17, c29r18, c29r20, EV0, EV1, EV2, EV3, EV4, EV5, EV6, EV7, EV8, VALS, plug, ite_same, decide_true, decide_false, eq_self, ↓reduceIte, reduceCtorEq, Nat.reduceAdd, Nat.reduceEqDiff, Nat.reduceLT, Nat.reduceLeDiff, Nat.reduceMul, Nat.reduceSub, Nat.reduceDiv, Int.reduceToNat, Int.reduceAdd, Int.reduceSub, Int.reduceMul, Int.reduceNeg, Int.reduceEq, Int.reduceLT, Int.reduceLE]; with_reducible rfl) rfl ?_)
                    | (with_reducible refine k_condP (by simp only [GA, Nat.reduceEqDiff, ↓reduceIte]; rfl) (by first | (simp only [BO]; rfl) | rfl) (fun ht => ?_) (fun ht => ?_) <;> try (first | exact False.elim ht | exact absurd rfl ht | exact absurd trivial ht | exact Bool.noConfusion ht))
                    | (with_reducible refine k_ret ?_; repeat with_reducible (first | refine ret_thru ?_ | refine ret_blk ?_ | refine fin ?_))
                    | (with_reducible refine k_exit ?_; repeat with_reducible (first | refine thru ?_ | refine out_blk ?_ | refine pass (by decide) ?_))
                    | (refine post1 ?_; simp only [GA, Nat.reduceEqDiff, ↓reduceIte])
                    | (refine post2 ?_; simp only [GA, Nat.reduceEqDiff, ↓reduceIte])
                    | (refine post3 ?_; simp only [GA, Nat.reduceEqDiff, ↓reduceIte])
                    | (refine postc (by simp only [GA, Nat.reduceEqDiff, ↓reduceIte]; rfl) (by simp (disch := omega) only [klt', g, cl4, hq, c29r0, c29r1, c29r2, c29r3, c29r4, c29r5, c29r6, c29r7, c29r8, c29r9, c29r10, c29r11, c29r12, c29r13, c29r14, c29r15, c29r16, c29r17, c29r18, c29r20, EV0, EV1, EV2, EV3, EV4, EV5, EV6, EV7, EV8, VALS, plug, ite_same, decide_true, decide_false, eq_self, ↓reduceIte, reduceCtorEq, Nat.reduceAdd, Nat.reduceEqDiff, Nat.reduceLT, Nat.reduceLeDiff, Nat.reduceMul, Nat.reduceSub, Nat.reduceDiv, Int.reduceToNat, Int.reduceAdd, Int.reduceSub, Int.reduceMul, Int.reduceNeg, Int.reduceEq, Int.reduceLT, Int.reduceLE]; rfl) ?_)
                    | refine post0 ?_
                  all_goals first | exact ends_of | exact ends_eq rfl
                · have e5 : atK (bD l i) (hour - r.fro) k - hB (bD l i) k = atK (bD l i) (hour - r.fro) (k + 1) := by rw [atK_eq, atK_eq]; omega
                  repeat' first
                    | with_reducible refine k_seq ?_
                    | with_reducible refine k_skip ?_
                    | with_reducible refine k_blkS ?_
                    | with_reducible refine k_blkR ?_
                    | with_reducible refine k_blkC ?_
                    | with_reducible refine k_blkH ?_
                    | with_reducible refine k_blkB ?_
                    | with_reducible refine k_blkK ?_
                    | with_reducible refine k_blkE ?_
                    | with_reducible refine k_reg ?_
                    | with_reducible refine k_head (by with_unfolding_all rfl) ?_
                    | with_reducible refine k_headS ?_
                    | (with_reducible refine SepK.mk ?_ ?_; (refine sepQ_P ?_; simp [sepQ, sepG, AOp.late, AOp.free, AOp.xs, AOp.isAl, tokNe, AV.tok, stS_get, strip, AX.val, c29r0, c29r1, c29r2, c29r3, c29r4, c29r5, c29r6, c29r7, c29r8, c29r9, c29r10, c29r11, c29r12, c29r13, c29r14, c29r15, c29r16, c29r17, c29r18, c29r20, GA]; try omega))
                    | with_reducible refine r_done ?_
                    | with_reducible refine hr_done ?_
                    | with_reducible refine s_go (by simp (disch := omega) only [klt', g, cl4, hq, e5, c29r0, c29r1, c29r2, c29r3, c29r4, c29r5, c29r6, c29r7, c29r8, c29r9, c29r10, c29r11, c29r12, c29r13, c29r14, c29r15, c29r16, c29r17, c29r18, c29r20, EV0, EV1, EV2, EV3, EV4, EV5, EV6, EV7, EV8, VALS, plug, ite_same, decide_true, decide_false, eq_self, ↓reduceIte, reduceCtorEq, Nat.reduceAdd, Nat.reduceEqDiff, Nat.reduceLT, Nat.reduceLeDiff, Nat.reduceMul, Nat.reduceSub, Nat.reduceDiv, Int.reduceToNat, Int.reduceAdd, Int.reduceSub, Int.reduceMul, Int.reduceNeg, Int.reduceEq, Int.reduceLT, Int.reduceLE]; with_reducible rfl) ?_
                    | with_reducible refine h_go (by with_unfolding_all rfl) (by simp (disch := omega) only [klt', g, cl4, hq, e5, c29r0, c29r1, c29r2, c29r3, c29r4, c29r5, c29r6, c29r7, c29r8, c29r9, c29r10, c29r11, c29r12, c29r13, c29r14, c29r15, c29r16, c29r17, c29r18, c29r20, EV0, EV1, EV2, EV3, EV4, EV5, EV6, EV7, EV8, VALS, plug, ite_same, decide_true, decide_false, eq_self, ↓reduceIte, reduceCtorEq, Nat.reduceAdd, Nat.reduceEqDiff, Nat.reduceLT, Nat.reduceLeDiff, Nat.reduceMul, Nat.reduceSub, Nat.reduceDiv, Int.reduceToNat, Int.reduceAdd, Int.reduceSub, Int.reduceMul, Int.reduceNeg, Int.reduceEq, Int.reduceLT, Int.reduceLE]; with_reducible rfl) ?_
                    | ((with_reducible refine chk_r ?_); refine r_callF (by simp only [CA, Nat.reduceEqDiff, ↓reduceIte]; rfl) (by exact rfl) (by simp only [CA, Nat.reduceEqDiff, ↓reduceIte]; rfl) rfl ?_)
                    | ((with_reducible refine chk_h ?_); refine hr_callF (by simp only [CA, Nat.reduceEqDiff, ↓reduceIte]; rfl) (by exact rfl) (by simp only [CA, Nat.reduceEqDiff, ↓reduceIte]; rfl) rfl ?_)
                    | ((with_reducible refine chk_h ?_); refine hr_app (by simp (disch := omega) only [klt', g, cl4, hq, e5, c29r0, c29r1, c29r2, c29r3, c29r4, c29r5, c29r6, c29r7, c29r8, c29r9, c29r10, c29r11, c29r12, c29r13, c29r14, c29r15, c29r16, c29r17, c29r18, c29r20, EV0, EV1, EV2, EV3, EV4, EV5, EV6, EV7, EV8, VALS, plug, ite_same, decide_true, decide_false, eq_self, ↓reduceIte, reduceCtorEq, Nat.reduceAdd, Nat.reduceEqDiff, Nat.reduceLT, Nat.reduceLeDiff, Nat.reduceMul, Nat.reduceSub, Nat.reduceDiv, Int.reduceToNat, Int.reduceAdd, Int.reduceSub, Int.reduceMul, Int.reduceNeg, Int.reduceEq, Int.reduceLT, Int.reduceLE]; with_reducible rfl) rfl ?_)
                    | (with_reducible refine k_condP (by simp only [GA, Nat.reduceEqDiff, ↓reduceIte]; rfl) (by first | (simp only [BO]; rfl) | rfl) (fun ht => ?_) (fun ht => ?_) <;> try (first | exact False.elim ht | exact absurd rfl ht | exact absurd trivial ht | exact Bool.noConfusion ht))
                    | (with_reducible refine k_ret ?_; repeat with_reducible (first | refine ret_thru ?_ | refine ret_blk ?_ | refine fin ?_))
                    | (with_reducible refine k_exit ?_; repeat with_reducible (first | refine thru ?_ | refine out_blk ?_ | refine pass (by decide) ?_))
                    | (refine post1 ?_; simp only [GA, Nat.reduceEqDiff, ↓reduceIte])
                    | (refine post2 ?_; simp only [GA, Nat.reduceEqDiff, ↓reduceIte])
                    | (refine post3 ?_; simp only [GA, Nat.reduceEqDiff, ↓reduceIte])
                    | (refine postc (by simp only [GA, Nat.reduceEqDiff, ↓reduceIte]; rfl) (by simp (disch := omega) only [klt', g, cl4, hq, e5, c29r0, c29r1, c29r2, c29r3, c29r4, c29r5, c29r6, c29r7, c29r8, c29r9, c29r10, c29r11, c29r12, c29r13, c29r14, c29r15, c29r16, c29r17, c29r18, c29r20, EV0, EV1, EV2, EV3, EV4, EV5, EV6, EV7, EV8, VALS, plug, ite_same, decide_true, decide_false, eq_self, ↓reduceIte, reduceCtorEq, Nat.reduceAdd, Nat.reduceEqDiff, Nat.reduceLT, Nat.reduceLeDiff, Nat.reduceMul, Nat.reduceSub, Nat.reduceDiv, Int.reduceToNat, Int.reduceAdd, Int.reduceSub, Int.reduceMul, Int.reduceNeg, Int.reduceEq, Int.reduceLT, Int.reduceLE]; rfl) ?_)
                    | refine post0 ?_
                  exact ⟨klt, (), (by simp only [Am.keep, List.map_cons, List.map_nil, GA, Nat.reduceEqDiff, ↓reduceIte]; try rfl), by omega⟩
              · obtain rfl : k = 4 := by omega
                have hh : hrs (bD l i) = sumH (bD l i) 4 := rfl
                exfalso; omega
      · rw [decide_eq_false hi] at q64
        rw [if_neg fun q => hi q.2.1]
        repeat' first
          | with_reducible refine k_seq ?_
          | with_reducible refine k_skip ?_
          | with_reducible refine k_blkS ?_
          | with_reducible refine k_blkR ?_
          | with_reducible refine k_blkC ?_
          | with_reducible refine k_blkH ?_
          | with_reducible refine k_blkB ?_
          | with_reducible refine k_blkK ?_
          | with_reducible refine k_blkE ?_
          | with_reducible refine k_reg ?_
          | with_reducible refine k_head (by with_unfolding_all rfl) ?_
          | with_reducible refine k_headS ?_
          | (with_reducible refine SepK.mk ?_ ?_; (refine sepQ_P ?_; simp [sepQ, sepG, AOp.late, AOp.free, AOp.xs, AOp.isAl, tokNe, AV.tok, stS_get, strip, AX.val, c29r0, c29r1, c29r2, c29r3, c29r4, c29r5, c29r6, c29r7, c29r8, c29r9, c29r10, c29r11, c29r12, c29r13, c29r14, c29r15, c29r16, c29r17, c29r18, c29r20, GA]; try omega))
          | with_reducible refine r_done ?_
          | with_reducible refine hr_done ?_
          | with_reducible refine s_go (by simp (disch := omega) only [c1, c2, c29r0, c29r1, c29r2, c29r3, c29r4, c29r5, c29r6, c29r7, c29r8, c29r9, c29r10, c29r11, c29r12, c29r13, c29r14, c29r15, c29r16, c29r17, c29r18, c29r20, EV0, EV1, EV2, EV3, EV4, EV5, EV6, EV7, EV8, VALS, plug, ite_same, decide_true, decide_false, eq_self, ↓reduceIte, reduceCtorEq, Nat.reduceAdd, Nat.reduceEqDiff, Nat.reduceLT, Nat.reduceLeDiff, Nat.reduceMul, Nat.reduceSub, Nat.reduceDiv, Int.reduceToNat, Int.reduceAdd, Int.reduceSub, Int.reduceMul, Int.reduceNeg, Int.reduceEq, Int.reduceLT, Int.reduceLE]; with_reducible rfl) ?_
          | with_reducible refine h_go (by with_unfolding_all rfl) (by simp (disch := omega) only [c1, c2, c29r0, c29r1, c29r2, c29r3, c29r4, c29r5, c29r6, c29r7, c29r8, c29r9, c29r10, c29r11, c29r12, c29r13, c29r14, c29r15, c29r16, c29r17, c29r18, c29r20, EV0, EV1, EV2, EV3, EV4, EV5, EV6, EV7, EV8, VALS, plug, ite_same, decide_true, decide_false, eq_self, ↓reduceIte, reduceCtorEq, Nat.reduceAdd, Nat.reduceEqDiff, Nat.reduceLT, Nat.reduceLeDiff, Nat.reduceMul, Nat.reduceSub, Nat.reduceDiv, Int.reduceToNat, Int.reduceAdd, Int.reduceSub, Int.reduceMul, Int.reduceNeg, Int.reduceEq, Int.reduceLT, Int.reduceLE]; with_reducible rfl) ?_
          | ((with_reducible refine chk_r ?_); refine r_callF (by simp only [CA, Nat.reduceEqDiff, ↓reduceIte]; rfl) (by exact rfl) (by simp only [CA, Nat.reduceEqDiff, ↓reduceIte]; rfl) rfl ?_)
          | ((with_reducible refine chk_h ?_); refine hr_callF (by simp only [CA, Nat.reduceEqDiff, ↓reduceIte]; rfl) (by exact rfl) (by simp only [CA, Nat.reduceEqDiff, ↓reduceIte]; rfl) rfl ?_)
          | ((with_reducible refine chk_r ?_); refine r_callP (by simp only [CA, Nat.reduceEqDiff, ↓reduceIte]; rfl) (by simp only [CA, Nat.reduceEqDiff, ↓reduceIte]; rfl) (by first | exact q26 _ | exact pc63 _ _ _ _ | exact q64 _) rfl ?_)
          | ((with_reducible refine chk_h ?_); refine hr_callP (by simp only [CA, Nat.reduceEqDiff, ↓reduceIte]; rfl) (by simp only [CA, Nat.reduceEqDiff, ↓reduceIte]; rfl) (by first | exact q26 _ | exact pc63 _ _ _ _ | exact q64 _) rfl ?_)
          | ((with_reducible refine chk_h ?_); refine hr_callP1 (by simp only [CA, Nat.reduceEqDiff, ↓reduceIte]; rfl) (by simp only [CA, Nat.reduceEqDiff, ↓reduceIte]; rfl) (by simp (disch := omega) only [CA, Nat.reduceEqDiff, ↓reduceIte, firstTok_nil, firstTok_sl, firstTok_sl0, firstTok_i, firstTok_b, firstTok_ag, firstTok_p, firstTok_s]; rfl) (by first | exact q26 _ | exact pc63 _ _ _ _ | exact q64 _) rfl ?_)
          | ((with_reducible refine chk_r ?_); refine r_callG (by simp only [CA, Nat.reduceEqDiff, ↓reduceIte]; rfl) (by simp only [CA, Nat.reduceEqDiff, ↓reduceIte]; rfl) (by simp only [CA, Nat.reduceEqDiff, ↓reduceIte]; rfl) (by intro hg; (try simp only [BO] at hg); first | exact q26 _ | exact pc63 _ _ _ _ | exact q64 _) rfl ?_)
          | ((with_reducible refine chk_h ?_); refine hr_callG (by simp only [CA, Nat.reduceEqDiff, ↓reduceIte]; rfl) (by simp only [CA, Nat.reduceEqDiff, ↓reduceIte]; rfl) (by simp only [CA, Nat.reduceEqDiff, ↓reduceIte]; rfl) (by intro hg; (try simp only [BO] at hg); first | exact q26 _ | exact pc63 _ _ _ _ | exact q64 _) rfl ?_)
          | ((with_reducible refine chk_h ?_); refine hr_app (by simp (disch := omega) only [c1, c2, c29r0, c29r1, c29r2, c29r3, c29r4, c29r5, c29r6, c29r7, c29r8, c29r9, c29r10, c29r11, c29r12, c29r13, c29r14, c29r15, c29r16, c29r17, c29r18, c29r20, EV0, EV1, EV2, EV3, EV4, EV5, EV6, EV7, EV8, VALS, plug, ite_same, decide_true, decide_false, eq_self, ↓reduceIte, reduceCtorEq, Nat.reduceAdd, Nat.reduceEqDiff, Nat.reduceLT, Nat.reduceLeDiff, Nat.reduceMul, Nat.reduceSub, Nat.reduceDiv, Int.reduceToNat, Int.reduceAdd, Int.reduceSub, Int.reduceMul, Int.reduceNeg, Int.reduceEq, Int.reduceLT, Int.reduceLE]; with_reducible rfl) rfl ?_)
          | (with_reducible refine k_condP (by simp only [GA, Nat.reduceEqDiff, ↓reduceIte]; rfl) (by first | (simp only [BO]; rfl) | rfl) (fun ht => ?_) (fun ht => ?_) <;> try (first | exact False.elim ht | exact absurd rfl ht | exact absurd trivial ht | exact Bool.noConfusion ht))
          | (with_reducible refine k_ret ?_; repeat with_reducible (first | refine ret_thru ?_ | refine ret_blk ?_ | refine fin ?_))
          | (with_reducible refine k_exit ?_; repeat with_reducible (first | refine thru ?_ | refine out_blk ?_ | refine pass (by decide) ?_))
          | (refine post1 ?_; simp only [GA, Nat.reduceEqDiff, ↓reduceIte])
          | (refine post2 ?_; simp only [GA, Nat.reduceEqDiff, ↓reduceIte])
          | (refine post3 ?_; simp only [GA, Nat.reduceEqDiff, ↓reduceIte])
          | (refine postc (by simp only [GA, Nat.reduceEqDiff, ↓reduceIte]; rfl) (by simp (disch := omega) only [c1, c2, c29r0, c29r1, c29r2, c29r3, c29r4, c29r5, c29r6, c29r7, c29r8, c29r9, c29r10, c29r11, c29r12, c29r13, c29r14, c29r15, c29r16, c29r17, c29r18, c29r20, EV0, EV1, EV2, EV3, EV4, EV5, EV6, EV7, EV8, VALS, plug, ite_same, decide_true, decide_false, eq_self, ↓reduceIte, reduceCtorEq, Nat.reduceAdd, Nat.reduceEqDiff, Nat.reduceLT, Nat.reduceLeDiff, Nat.reduceMul, Nat.reduceSub, Nat.reduceDiv, Int.reduceToNat, Int.reduceAdd, Int.reduceSub, Int.reduceMul, Int.reduceNeg, Int.reduceEq, Int.reduceLT, Int.reduceLE]; rfl) ?_)
          | refine post0 ?_
        all_goals first | exact ends_of | (exfalso; omega)
    · rw [if_neg fun q => hc q.1]
      by_cases c1 : 0 ≤ c
      · have c2 : ¬ c ≤ 100 := fun q => hc ⟨c1, q⟩
        repeat' first
          | with_reducible refine k_seq ?_
          | with_reducible refine k_skip ?_
          | with_reducible refine k_blkS ?_
          | with_reducible refine k_blkR ?_
          | with_reducible refine k_blkC ?_
          | with_reducible refine k_blkH ?_
          | with_reducible refine k_blkB ?_
          | with_reducible refine k_blkK ?_
          | with_reducible refine k_blkE ?_
          | with_reducible refine k_reg ?_
          | with_reducible refine k_head (by with_unfolding_all rfl) ?_
          | with_reducible refine k_headS ?_
          | (with_reducible refine SepK.mk ?_ ?_; (refine sepQ_P ?_; simp [sepQ, sepG, AOp.late, AOp.free, AOp.xs, AOp.isAl, tokNe, AV.tok, stS_get, strip, AX.val, c29r0, c29r1, c29r2, c29r3, c29r4, c29r5, c29r6, c29r7, c29r8, c29r9, c29r10, c29r11, c29r12, c29r13, c29r14, c29r15, c29r16, c29r17, c29r18, c29r20, GA]; try omega))
          | with_reducible refine r_done ?_
          | with_reducible refine hr_done ?_
          | with_reducible refine s_go (by simp (disch := omega) only [c1, c2, c29r0, c29r1, c29r2, c29r3, c29r4, c29r5, c29r6, c29r7, c29r8, c29r9, c29r10, c29r11, c29r12, c29r13, c29r14, c29r15, c29r16, c29r17, c29r18, c29r20, EV0, EV1, EV2, EV3, EV4, EV5, EV6, EV7, EV8, VALS, plug, ite_same, decide_true, decide_false, eq_self, ↓reduceIte, reduceCtorEq, Nat.reduceAdd, Nat.reduceEqDiff, Nat.reduceLT, Nat.reduceLeDiff, Nat.reduceMul, Nat.reduceSub, Nat.reduceDiv, Int.reduceToNat, Int.reduceAdd, Int.reduceSub, Int.reduceMul, Int.reduceNeg, Int.reduceEq, Int.reduceLT, Int.reduceLE]; with_reducible rfl) ?_
          | with_reducible refine h_go (by with_unfolding_all rfl) (by simp (disch := omega) only [c1, c2, c29r0, c29r1, c29r2, c29r3, c29r4, c29r5, c29r6, c29r7, c29r8, c29r9, c29r10, c29r11, c29r12, c29r13, c29r14, c29r15, c29r16, c29r17, c29r18, c29r20, EV0, EV1, EV2, EV3, EV4, EV5, EV6, EV7, EV8, VALS, plug, ite_same, decide_true, decide_false, eq_self, ↓reduceIte, reduceCtorEq, Nat.reduceAdd, Nat.reduceEqDiff, Nat.reduceLT, Nat.reduceLeDiff, Nat.reduceMul, Nat.reduceSub, Nat.reduceDiv, Int.reduceToNat, Int.reduceAdd, Int.reduceSub, Int.reduceMul, Int.reduceNeg, Int.reduceEq, Int.reduceLT, Int.reduceLE]; with_reducible rfl) ?_
          | ((with_reducible refine chk_r ?_); refine r_callF (by simp only [CA, Nat.reduceEqDiff, ↓reduceIte]; rfl) (by exact rfl) (by simp only [CA, Nat.reduceEqDiff, ↓reduceIte]; rfl) rfl ?_)
          | ((with_reducible refine chk_h ?_); refine hr_callF (by simp only [CA, Nat.reduceEqDiff, ↓reduceIte]; rfl) (by exact rfl) (by simp only [CA, Nat.reduceEqDiff, ↓reduceIte]; rfl) rfl ?_)
          | ((with_reducible refine chk_r ?_); refine r_callP (by simp only [CA, Nat.reduceEqDiff, ↓reduceIte]; rfl) (by simp only [CA, Nat.reduceEqDiff, ↓reduceIte]; rfl) (by first | exact q26 _ | exact pc63 _ _ _ _ | exact q64 _) rfl ?_)
          | ((with_reducible refine chk_h ?_); refine hr_callP (by simp only [CA, Nat.reduceEqDiff, ↓reduceIte]; rfl) (by simp only [CA, Nat.reduceEqDiff, ↓reduceIte]; rfl) (by first | exact q26 _ | exact pc63 _ _ _ _ | exact q64 _) rfl ?_)
          | ((with_reducible refine chk_h ?_); refine hr_callP1 (by simp only [CA, Nat.reduceEqDiff, ↓reduceIte]; rfl) (by simp only [CA, Nat.reduceEqDiff, ↓reduceIte]; rfl) (by simp (disch := omega) only [CA, Nat.reduceEqDiff, ↓reduceIte, firstTok_nil, firstTok_sl, firstTok_sl0, firstTok_i, firstTok_b, firstTok_ag, firstTok_p, firstTok_s]; rfl) (by first | exact q26 _ | exact pc63 _ _ _ _ | exact q64 _) rfl ?_)
          | ((with_reducible refine chk_r ?_); refine r_callG (by simp only [CA, Nat.reduceEqDiff, ↓reduceIte]; rfl) (by simp only [CA, Nat.reduceEqDiff, ↓reduceIte]; rfl) (by simp only [CA, Nat.reduceEqDiff, ↓reduceIte]; rfl) (by intro hg; (try simp only [BO] at hg); first | exact q26 _ | exact pc63 _ _ _ _ | exact q64 _) rfl ?_)
          | ((with_reducible refine chk_h ?_); refine hr_callG (by simp only [CA, Nat.reduceEqDiff, ↓reduceIte]; rfl) (by simp only [CA, Nat.reduceEqDiff, ↓reduceIte]; rfl) (by simp only [CA, Nat.reduceEqDiff, ↓reduceIte]; rfl) (by intro hg; (try simp only [BO] at hg); first | exact q26 _ | exact pc63 _ _ _ _ | exact q64 _) rfl ?_)
          | ((with_reducible refine chk_h ?_); refine hr_app (by simp (disch := omega) only [c1, c2, c29r0, c29r1, c29r2, c29r3, c29r4, c29r5, c29r6, c29r7, c29r8, c29r9, c29r10, c29r11, c29r12, c29r13, c29r14, c29r15, c29r16, c29r17, c29r18, c29r20, EV0, EV1, EV2, EV3, EV4, EV5, EV6, EV7, EV8, VALS, plug, ite_same, decide_true, decide_false, eq_self, ↓reduceIte, reduceCtorEq, Nat.reduceAdd, Nat.reduceEqDiff, Nat.reduceLT, Nat.reduceLeDiff, Nat.reduceMul, Nat.reduceSub, Nat.reduceDiv, Int.reduceToNat, Int.reduceAdd, Int.reduceSub, Int.reduceMul, Int.reduceNeg, Int.reduceEq, Int.reduceLT, Int.reduceLE]; with_reducible rfl) rfl ?_)
          | (with_reducible refine k_condP (by simp only [GA, Nat.reduceEqDiff, ↓reduceIte]; rfl) (by first | (simp only [BO]; rfl) | rfl) (fun ht => ?_) (fun ht => ?_) <;> try (first | exact False.elim ht | exact absurd rfl ht | exact absurd trivial ht | exact Bool.noConfusion ht))
          | (with_reducible refine k_ret ?_; repeat with_reducible (first | refine ret_thru ?_ | refine ret_blk ?_ | refine fin ?_))
          | (with_reducible refine k_exit ?_; repeat with_reducible (first | refine thru ?_ | refine out_blk ?_ | refine pass (by decide) ?_))
          | (refine post1 ?_; simp only [GA, Nat.reduceEqDiff, ↓reduceIte])
          | (refine post2 ?_; simp only [GA, Nat.reduceEqDiff, ↓reduceIte])
          | (refine post3 ?_; simp only [GA, Nat.reduceEqDiff, ↓reduceIte])
          | (refine postc (by simp only [GA, Nat.reduceEqDiff, ↓reduceIte]; rfl) (by simp (disch := omega) only [c1, c2, c29r0, c29r1, c29r2, c29r3, c29r4, c29r5, c29r6, c29r7, c29r8, c29r9, c29r10, c29r11, c29r12, c29r13, c29r14, c29r15, c29r16, c29r17, c29r18, c29r20, EV0, EV1, EV2, EV3, EV4, EV5, EV6, EV7, EV8, VALS, plug, ite_same, decide_true, decide_false, eq_self, ↓reduceIte, reduceCtorEq, Nat.reduceAdd, Nat.reduceEqDiff, Nat.reduceLT, Nat.reduceLeDiff, Nat.reduceMul, Nat.reduceSub, Nat.reduceDiv, Int.reduceToNat, Int.reduceAdd, Int.reduceSub, Int.reduceMul, Int.reduceNeg, Int.reduceEq, Int.reduceLT, Int.reduceLE]; rfl) ?_)
          | refine post0 ?_
        all_goals first | exact ends_of | (exfalso; omega)
      · repeat' first
          | with_reducible refine k_seq ?_
          | with_reducible refine k_skip ?_
          | with_reducible refine k_blkS ?_
          | with_reducible refine k_blkR ?_
          | with_reducible refine k_blkC ?_
          | with_reducible refine k_blkH ?_
          | with_reducible refine k_blkB ?_
          | with_reducible refine k_blkK ?_
          | with_reducible refine k_blkE ?_
          | with_reducible refine k_reg ?_
          | with_reducible refine k_head (by with_unfolding_all rfl) ?_
          | with_reducible refine k_headS ?_
          | (with_reducible refine SepK.mk ?_ ?_; (refine sepQ_P ?_; simp [sepQ, sepG, AOp.late, AOp.free, AOp.xs, AOp.isAl, tokNe, AV.tok, stS_get, strip, AX.val, c29r0, c29r1, c29r2, c29r3, c29r4, c29r5, c29r6, c29r7, c29r8, c29r9, c29r10, c29r11, c29r12, c29r13, c29r14, c29r15, c29r16, c29r17, c29r18, c29r20, GA]; try omega))
          | with_reducible refine r_done ?_
          | with_reducible refine hr_done ?_
          | with_reducible refine s_go (by simp (disch := omega) only [c1, c29r0, c29r1, c29r2, c29r3, c29r4, c29r5, c29r6, c29r7, c29r8, c29r9, c29r10, c29r11, c29r12, c29r13, c29r14, c29r15, c29r16, c29r17, c29r18, c29r20, EV0, EV1, EV2, EV3, EV4, EV5, EV6, EV7, EV8, VALS, plug, ite_same, decide_true, decide_false, eq_self, ↓reduceIte, reduceCtorEq, Nat.reduceAdd, Nat.reduceEqDiff, Nat.reduceLT, Nat.reduceLeDiff, Nat.reduceMul, Nat.reduceSub, Nat.reduceDiv, Int.reduceToNat, Int.reduceAdd, Int.reduceSub, Int.reduceMul, Int.reduceNeg, Int.reduceEq, Int.reduceLT, Int.reduceLE]; with_reducible rfl) ?_
          | with_reducible refine h_go (by with_unfolding_all rfl) (by simp (disch := omega) only [c1, c29r0, c29r1, c29r2, c29r3, c29r4, c29r5, c29r6, c29r7, c29r8, c29r9, c29r10, c29r11, c29r12, c29r13, c29r14, c29r15, c29r16, c29r17, c29r18, c29r20, EV0, EV1, EV2, EV3, EV4, EV5, EV6, EV7, EV8, VALS, plug, ite_same, decide_true, decide_false, eq_self, ↓reduceIte, reduceCtorEq, Nat.reduceAdd, Nat.reduceEqDiff, Nat.reduceLT, Nat.reduceLeDiff, Nat.reduceMul, Nat.reduceSub, Nat.reduceDiv, Int.reduceToNat, Int.reduceAdd, Int.reduceSub, Int.reduceMul, Int.reduceNeg, Int.reduceEq, Int.reduceLT, Int.reduceLE]; with_reducible rfl) ?_
          | ((with_reducible refine chk_r ?_); refine r_callF (by simp only [CA, Nat.reduceEqDiff, ↓reduceIte]; rfl) (by exact rfl) (by simp only [CA, Nat.reduceEqDiff, ↓reduceIte]; rfl) rfl ?_)
          | ((with_reducible refine chk_h ?_); refine hr_callF (by simp only [CA, Nat.reduceEqDiff, ↓reduceIte]; rfl) (by exact rfl) (by simp only [CA, Nat.reduceEqDiff, ↓reduceIte]; rfl) rfl ?_)
          | ((with_reducible refine chk_r ?_); refine r_callP (by simp only [CA, Nat.reduceEqDiff, ↓reduceIte]; rfl) (by simp only [CA, Nat.reduceEqDiff, ↓reduceIte]; rfl) (by first | exact q26 _ | exact pc63 _ _ _ _ | exact q64 _) rfl ?_)
          | ((with_reducible refine chk_h ?_); refine hr_callP (by simp only [CA, Nat.reduceEqDiff, ↓reduceIte]; rfl) (by simp only [CA, Nat.reduceEqDiff, ↓reduceIte]; rfl) (by first | exact q26 _ | exact pc63 _ _ _ _ | exact q64 _) rfl ?_)
          | ((with_reducible refine chk_h ?_); refine hr_callP1 (by simp only [CA, Nat.reduceEqDiff, ↓reduceIte]; rfl) (by simp only [CA, Nat.reduceEqDiff, ↓reduceIte]; rfl) (by simp (disch := omega) only [CA, Nat.reduceEqDiff, ↓reduceIte, firstTok_nil, firstTok_sl, firstTok_sl0, firstTok_i, firstTok_b, firstTok_ag, firstTok_p, firstTok_s]; rfl) (by first | exact q26 _ | exact pc63 _ _ _ _ | exact q64 _) rfl ?_)
          | ((with_reducible refine chk_r ?_); refine r_callG (by simp only [CA, Nat.reduceEqDiff, ↓reduceIte]; rfl) (by simp only [CA, Nat.reduceEqDiff, ↓reduceIte]; rfl) (by simp only [CA, Nat.reduceEqDiff, ↓reduceIte]; rfl) (by intro hg; (try simp only [BO] at hg); first | exact q26 _ | exact pc63 _ _ _ _ | exact q64 _) rfl ?_)
          | ((with_reducible refine chk_h ?_); refine hr_callG (by simp only [CA, Nat.reduceEqDiff, ↓reduceIte]; rfl) (by simp only [CA, Nat.reduceEqDiff, ↓reduceIte]; rfl) (by simp only [CA, Nat.reduceEqDiff, ↓reduceIte]; rfl) (by intro hg; (try simp only [BO] at hg); first | exact q26 _ | exact pc63 _ _ _ _ | exact q64 _) rfl ?_)
          | ((with_reducible refine chk_h ?_); refine hr_app (by simp (disch := omega) only [c1, c29r0, c29r1, c29r2, c29r3, c29r4, c29r5, c29r6, c29r7, c29r8, c29r9, c29r10, c29r11, c29r12, c29r13, c29r14, c29r15, c29r16, c29r17, c29r18, c29r20, EV0, EV1, EV2, EV3, EV4, EV5, EV6, EV7, EV8, VALS, plug, ite_same, decide_true, decide_false, eq_self, ↓reduceIte, reduceCtorEq, Nat.reduceAdd, Nat.reduceEqDiff, Nat.reduceLT, Nat.reduceLeDiff, Nat.reduceMul, Nat.reduceSub, Nat.reduceDiv, Int.reduceToNat, Int.reduceAdd, Int.reduceSub, Int.reduceMul, Int.reduceNeg, Int.reduceEq, Int.reduceLT, Int.reduceLE]; with_reducible rfl) rfl ?_)
          | (with_reducible refine k_condP (by simp only [GA, Nat.reduceEqDiff, ↓reduceIte]; rfl) (by first | (simp only [BO]; rfl) | rfl) (fun ht => ?_) (fun ht => ?_) <;> try (first | exact False.elim ht | exact absurd rfl ht | exact absurd trivial ht | exact Bool.noConfusion ht))
          | (with_reducible refine k_ret ?_; repeat with_reducible (first | refine ret_thru ?_ | refine ret_blk ?_ | refine fin ?_))
          | (with_reducible refine k_exit ?_; repeat with_reducible (first | refine thru ?_ | refine out_blk ?_ | refine pass (by decide) ?_))
          | (refine post1 ?_; simp only [GA, Nat.reduceEqDiff, ↓reduceIte])
          | (refine post2 ?_; simp only [GA, Nat.reduceEqDiff, ↓reduceIte])
          | (refine post3 ?_; simp only [GA, Nat.reduceEqDiff, ↓reduceIte])
          | (refine postc (by simp only [GA, Nat.reduceEqDiff, ↓reduceIte]; rfl) (by simp (disch := omega) only [c1, c29r0, c29r1, c29r2, c29r3, c29r4, c29r5, c29r6, c29r7, c29r8, c29r9, c29r10, c29r11, c29r12, c29r13, c29r14, c29r15, c29r16, c29r17, c29r18, c29r20, EV0, EV1, EV2, EV3, EV4, EV5, EV6, EV7, EV8, VALS, plug, ite_same, decide_true, decide_false, eq_self, ↓reduceIte, reduceCtorEq, Nat.reduceAdd, Nat.reduceEqDiff, Nat.reduceLT, Nat.reduceLeDiff, Nat.reduceMul, Nat.reduceSub, Nat.reduceDiv, Int.reduceToNat, Int.reduceAdd, Int.reduceSub, Int.reduceMul, Int.reduceNeg, Int.reduceEq, Int.reduceLT, Int.reduceLE]; rfl) ?_)
          | refine post0 ?_
        all_goals first | exact ends_of | (exfalso; omega)
  · rw [if_neg hv]
    rw [vl_f hv] at q26
    repeat' first
      | with_reducible refine k_seq ?_
      | with_reducible refine k_skip ?_
      | with_reducible refine k_blkS ?_
      | with_reducible refine k_blkR ?_
      | with_reducible refine k_blkC ?_
      | with_reducible refine k_blkH ?_
      | with_reducible refine k_blkB ?_
      | with_reducible refine k_blkK ?_
      | with_reducible refine k_blkE ?_
      | with_reducible refine k_reg ?_
      | with_reducible refine k_head (by with_unfolding_all rfl) ?_
      | with_reducible refine k_headS ?_
      | (with_reducible refine SepK.mk ?_ ?_; (refine sepQ_P ?_; simp [sepQ, sepG, AOp.late, AOp.free, AOp.xs, AOp.isAl, tokNe, AV.tok, stS_get, strip, AX.val, c29r0, c29r1, c29r2, c29r3, c29r4, c29r5, c29r6, c29r7, c29r8, c29r9, c29r10, c29r11, c29r12, c29r13, c29r14, c29r15, c29r16, c29r17, c29r18, c29r20, GA]; try omega))
      | with_reducible refine r_done ?_
      | with_reducible refine hr_done ?_
      | with_reducible refine s_go (by simp (disch := omega) only [c29r0, c29r1, c29r2, c29r3, c29r4, c29r5, c29r6, c29r7, c29r8, c29r9, c29r10, c29r11, c29r12, c29r13, c29r14, c29r15, c29r16, c29r17, c29r18, c29r20, EV0, EV1, EV2, EV3, EV4, EV5, EV6, EV7, EV8, VALS, plug, ite_same, decide_true, decide_false, eq_self, ↓reduceIte, reduceCtorEq, Nat.reduceAdd, Nat.reduceEqDiff, Nat.reduceLT, Nat.reduceLeDiff, Nat.reduceMul, Nat.reduceSub, Nat.reduceDiv, Int.reduceToNat, Int.reduceAdd, Int.reduceSub, Int.reduceMul, Int.reduceNeg, Int.reduceEq, Int.reduceLT, Int.reduceLE]; with_reducible rfl) ?_
      | with_reducible refine h_go (by with_unfolding_all rfl) (by simp (disch := omega) only [c29r0, c29r1, c29r2, c29r3, c29r4, c29r5, c29r6, c29r7, c29r8, c29r9, c29r10, c29r11, c29r12, c29r13, c29r14, c29r15, c29r16, c29r17, c29r18, c29r20, EV0, EV1, EV2, EV3, EV4, EV5, EV6, EV7, EV8, VALS, plug, ite_same, decide_true, decide_false, eq_self, ↓reduceIte, reduceCtorEq, Nat.reduceAdd, Nat.reduceEqDiff, Nat.reduceLT, Nat.reduceLeDiff, Nat.reduceMul, Nat.reduceSub, Nat.reduceDiv, Int.reduceToNat, Int.reduceAdd, Int.reduceSub, Int.reduceMul, Int.reduceNeg, Int.reduceEq, Int.reduceLT, Int.reduceLE]; with_reducible rfl) ?_
      | ((with_reducible refine chk_r ?_); refine r_callF (by simp only [CA, Nat.reduceEqDiff, ↓reduceIte]; rfl) (by exact rfl) (by simp only [CA, Nat.reduceEqDiff, ↓reduceIte]; rfl) rfl ?_)
      | ((with_reducible refine chk_h ?_); refine hr_callF (by simp only [CA, Nat.reduceEqDiff, ↓reduceIte]; rfl) (by exact rfl) (by simp only [CA, Nat.reduceEqDiff, ↓reduceIte]; rfl) rfl ?_)
      | ((with_reducible refine chk_r ?_); refine r_callP (by simp only [CA, Nat.reduceEqDiff, ↓reduceIte]; rfl) (by simp only [CA, Nat.reduceEqDiff, ↓reduceIte]; rfl) (by first | exact q26 _) rfl ?_)
      | ((with_reducible refine chk_h ?_); refine hr_callP (by simp only [CA, Nat.reduceEqDiff, ↓reduceIte]; rfl) (by simp only [CA, Nat.reduceEqDiff, ↓reduceIte]; rfl) (by first | exact q26 _) rfl ?_)
      | ((with_reducible refine chk_h ?_); refine hr_callP1 (by simp only [CA, Nat.reduceEqDiff, ↓reduceIte]; rfl) (by simp only [CA, Nat.reduceEqDiff, ↓reduceIte]; rfl) (by simp (disch := omega) only [CA, Nat.reduceEqDiff, ↓reduceIte, firstTok_nil, firstTok_sl, firstTok_sl0, firstTok_i, firstTok_b, firstTok_ag, firstTok_p, firstTok_s]; rfl) (by first | exact q26 _) rfl ?_)
      | ((with_reducible refine chk_r ?_); refine r_callG (by simp only [CA, Nat.reduceEqDiff, ↓reduceIte]; rfl) (by simp only [CA, Nat.reduceEqDiff, ↓reduceIte]; rfl) (by simp only [CA, Nat.reduceEqDiff, ↓reduceIte]; rfl) (by intro hg; (try simp only [BO] at hg); first | exact q26 _) rfl ?_)
      | ((with_reducible refine chk_h ?_); refine hr_callG (by simp only [CA, Nat.reduceEqDiff, ↓reduceIte]; rfl) (by simp only [CA, Nat.reduceEqDiff, ↓reduceIte]; rfl) (by simp only [CA, Nat.reduceEqDiff, ↓reduceIte]; rfl) (by intro hg; (try simp only [BO] at hg); first | exact q26 _) rfl ?_)
      | ((with_reducible refine chk_h ?_); refine hr_app (by simp (disch := omega) only [c29r0, c29r1, c29r2, c29r3, c29r4, c29r5, c29r6, c29r7, c29r8, c29r9, c29r10, c29r11, c29r12, c29r13, c29r14, c29r15, c29r16, c29r17, c29r18, c29r20, EV0, EV1, EV2, EV3, EV4, EV5, EV6, EV7, EV8, VALS, plug, ite_same, decide_true, decide_false, eq_self, ↓reduceIte, reduceCtorEq, Nat.reduceAdd, Nat.reduceEqDiff, Nat.reduceLT, Nat.reduceLeDiff, Nat.reduceMul, Nat.reduceSub, Nat.reduceDiv, Int.reduceToNat, Int.reduceAdd, Int.reduceSub, Int.reduceMul, Int.reduceNeg, Int.reduceEq, Int.reduceLT, Int.reduceLE]; with_reducible rfl) rfl ?_)
      | (with_reducible refine k_condP (by simp only [GA, Nat.reduceEqDiff, ↓reduceIte]; rfl) (by first | (simp only [BO]; rfl) | rfl) (fun ht => ?_) (fun ht => ?_) <;> try (first | exact False.elim ht | exact absurd rfl ht | exact absurd trivial ht | exact Bool.noConfusion ht))
      | (with_reducible refine k_ret ?_; repeat with_reducible (first | refine ret_thru ?_ | refine ret_blk ?_ | refine fin ?_))
      | (with_reducible refine k_exit ?_; repeat with_reducible (first | refine thru ?_ | refine out_blk ?_ | refine pass (by decide) ?_))
      | (refine post1 ?_; simp only [GA, Nat.reduceEqDiff, ↓reduceIte])
      | (refine post2 ?_; simp only [GA, Nat.reduceEqDiff, ↓reduceIte])
      | (refine post3 ?_; simp only [GA, Nat.reduceEqDiff, ↓reduceIte])
      | (refine postc (by simp only [GA, Nat.reduceEqDiff, ↓reduceIte]; rfl) (by simp (disch := omega) only [c29r0, c29r1, c29r2, c29r3, c29r4, c29r5, c29r6, c29r7, c29r8, c29r9, c29r10, c29r11, c29r12, c29r13, c29r14, c29r15, c29r16, c29r17, c29r18, c29r20, EV0, EV1, EV2, EV3, EV4, EV5, EV6, EV7, EV8, VALS, plug, ite_same, decide_true, decide_false, eq_self, ↓reduceIte, reduceCtorEq, Nat.reduceAdd, Nat.reduceEqDiff, Nat.reduceLT, Nat.reduceLeDiff, Nat.reduceMul, Nat.reduceSub, Nat.reduceDiv, Int.reduceToNat, Int.reduceAdd, Int.reduceSub, Int.reduceMul, Int.reduceNeg, Int.reduceEq, Int.reduceLT, Int.reduceLE]; rfl) ?_)
      | refine post0 ?_
    all_goals first | exact ends_of | exact ends_eq rfl
end Go.Proofs.Ytjncfpfgobojpaa
set_option linter.unusedVariables false
set_option linter.unusedSimpArgs false
namespace Go.Proofs.Ytjncfpfgobojpaa
open Go Go.Am Go.Proofs Go.Sort
def lc (l : List B) (c : Int) : Nat → Int
  | 0 => 0
  | k + 1 => max (lc l c k) (hrs (bD l k) + c)
def dv (s c : Int) (b : Nat) : Int := (s + b * c + b - 1).tdiv b
def bm (s c : Int) : Nat → Int
  | 0 => s + c
  | k + 1 => min (bm s c k) (dv s c (k + 1))
end Go.Proofs.Ytjncfpfgobojpaa
set_option linter.unusedVariables false
set_option linter.unusedSimpArgs false
namespace Go.Proofs.Ytjncfpfgobojpaa
open Go Go.Am Go.Proofs Go.Sort
theorem GK.bad {l : List B} {ns : List Int} {k : Nat} (hk : k < ns.length) (h : ¬ (0 ≤ ni ns k ∧ ni ns k < l.length) ∨ hasI ns k (ni ns k)) : ¬ GK l ns ns.length := fun g => by
  have := g k hk
  rcases h with h | h
  · exact h ⟨this.1, this.2.1⟩
  · exact this.2.2 h
end Go.Proofs.Ytjncfpfgobojpaa
set_option linter.unusedVariables false
set_option linter.unusedSimpArgs false
namespace Go.Proofs.Ytjncfpfgobojpaa
open Go Go.Am Go.Proofs Go.Sort
/-! ### Apart, Length -/
theorem GK.le {l : List B} {ns : List Int} (g : GK l ns ns.length) : ns.length ≤ l.length := by
  refine IX.le (l := l) (fun x hx => ?_) (List.pairwise_iff_getElem.2 fun i j hi hj hij e => ?_)
  · obtain ⟨k, hk, e⟩ := List.getElem_of_mem hx
    have := g k hk
    have e' : ni ns k = x := by simp [ni, hk, e]
    rw [e'] at this
    exact ⟨this.1, this.2.1⟩
  · refine (g j hj).2.2 ⟨i, hij, ?_⟩
    simp only [ni]; rw [getD_lt hi, getD_lt hj]; exact e
theorem AP.no {l : List B} {ns : List Int} {k j : Nat} (hk : k < ns.length) (hj : j < k) {a b : Nat} (ea : ni ns k = a) (eb : ni ns j = b) (h : mayB (bD l a) (bD l b) = true ∨ mayB (bD l b) (bD l a) = true) : ¬ AP l ns ns.length := fun p => by
  have := p k hk j hj
  simp only [mayZ, mayI, ea, eb, Int.toNat_natCast] at this
  rcases h with h | h
  · rw [h] at this; exact absurd this.1 (by decide)
  · rw [h] at this; exact absurd this.2 (by decide)
/-- one is apart from the first j -/
def AQ (l : List B) (ns : List Int) (k j : Nat) : Prop := ∀ i, i < j → mayZ l (ni ns k) (ni ns i) = false ∧ mayZ l (ni ns i) (ni ns k) = false
theorem AQ.succ {l : List B} {ns : List Int} {k j : Nat} (p : AQ l ns k j) {a b : Nat} (ea : ni ns k = a) (eb : ni ns j = b) (h1 : mayB (bD l a) (bD l b) = false) (h2 : mayB (bD l b) (bD l a) = false) : AQ l ns k (j + 1) := fun i hi => by
  by_cases e : i = j
  · subst e
    simp only [mayZ, mayI, ea, eb, Int.toNat_natCast]
    exact ⟨h1, h2⟩
  · exact p i (by omega)
theorem AP.succ {l : List B} {ns : List Int} {k : Nat} (p : AP l ns k) (q : AQ l ns k k) : AP l ns (k + 1) := fun i hi j hj => by
  by_cases e : i = k
  · subst e; exact q j hj
  · exact p i (by omega) j hj
end Go.Proofs.Ytjncfpfgobojpaa
set_option linter.unusedVariables false
set_option linter.unusedSimpArgs false
namespace Go.Proofs.Ytjncfpfgobojpaa
open Go Go.Am Go.Proofs Go.Sort
/-! ### BarrelHours: the hours of a run, counted -/
/-- the stage at the k-th hour that is looked at; the first lies ahead of the run -/
def sgH (b : B) (w : Int) (k : Nat) : Int := if k = 0 ∨ w + hrs b ≤ (k : Int) - 1 then 5 else stv b ((k : Int) - 1 - w)
def qH (b : B) (w : Int) (k : Nat) : Int := min (max 0 ((k : Int) - 1)) (w + hrs b)
def Cn (b : B) (w : Int) (q : Int) : Nat → Int
  | 0 => min q w
  | j + 1 => max 0 (min (hB b j) (q - w - sumH b j))
theorem sgH_in {b : B} {w : Int} (hb : vb b = true) {k : Nat} (h0 : k ≠ 0) (h1 : (k : Int) - 1 < w + hrs b) : 0 ≤ sgH b w k ∧ sgH b w k ≤ 4 := by
  have a0 := hB_rng hb 0
  have a1 := hB_rng hb 1
  have a2 := hB_rng hb 2
  have a3 := hB_rng hb 3
  unfold sgH
  rw [if_neg (by omega)]
  simp only [stv, hrs, sumH] at *
  repeat' split
  all_goals omega
theorem sgH_out {b : B} {w : Int} {k : Nat} (h : k = 0 ∨ w + hrs b ≤ (k : Int) - 1) : sgH b w k = 5 := by unfold sgH; rw [if_pos h]
theorem sgH_mono {b : B} {w : Int} (hb : vb b = true) {k j : Nat} (h0 : k ≠ 0) (h : k ≤ j) (h1 : (j : Int) - 1 < w + hrs b) : sgH b w k ≤ sgH b w j := by
  have a0 := hB_rng hb 0
  have a1 := hB_rng hb 1
  have a2 := hB_rng hb 2
  have a3 := hB_rng hb 3
  unfold sgH
  rw [if_neg (by omega), if_neg (by omega)]
  simp only [stv, hrs, sumH] at *
  repeat' split
  all_goals omega
theorem Cn_step {b : B} {w : Int} (hb : vb b = true) (hw : 0 ≤ w) {k j : Nat} (hj : j < 5) (h0 : k ≠ 0) (h1 : (k : Int) - 1 < w + hrs b) : Cn b w (k : Int) j = Cn b w ((k : Int) - 1) j + if (j : Int) = sgH b w k then 1 else 0 := by
  have a0 := hB_rng hb 0
  have a1 := hB_rng hb 1
  have a2 := hB_rng hb 2
  have a3 := hB_rng hb 3
  unfold sgH
  rw [if_neg (show ¬ (k = 0 ∨ w + hrs b ≤ (k : Int) - 1) by omega)]
  have : j = 0 ∨ j = 1 ∨ j = 2 ∨ j = 3 ∨ j = 4 := by omega
  rcases this with rfl | rfl | rfl | rfl | rfl <;> simp only [stv, hrs, sumH, Cn] at * <;> (repeat' split) <;> omega
theorem Cn_zero {b : B} {w : Int} (hb : vb b = true) (hw : 0 ≤ w) (j : Nat) : Cn b w 0 j = 0 := by
  cases j with
  | zero => simp only [Cn]; omega
  | succ j =>
    have := sumH_rng hb j
    have := hB_rng hb j
    simp only [Cn]; omega
theorem Cn_end0 {b : B} {w : Int} (hb : vb b = true) (hw : 0 ≤ w) : Cn b w (w + hrs b) 0 = w := by
  have : 0 ≤ hrs b ∧ hrs b ≤ 400 := sumH_rng hb 4
  simp only [Cn]; omega
theorem Cn_end {b : B} {w : Int} (hb : vb b = true) {j : Nat} (hj : j < 4) : Cn b w (w + hrs b) (j + 1) = hB b j := by
  have m := sumH_mono hb (show j + 1 ≤ 4 by omega)
  have r := hB_rng hb j
  simp only [Cn, hrs, sumH] at *
  omega
structure HI (b : B) (w : Int) (k : Nat) (la : Int) (cs : List Int) : Prop where
  len : cs.length = 6
  cnt : ∀ j, j < 5 → cs.getD j 0 = Cn b w (qH b w k) j
  rng : ∀ j, j < 6 → 0 ≤ cs.getD j 0 ∧ cs.getD j 0 ≤ k
  la0 : 0 ≤ la ∧ la ≤ 4
  mono : ∀ j, k ≤ j → sgH b w j < 5 → la ≤ sgH b w j
theorem getD_seti {cs : List Int} {m j : Nat} {v : Int} (hm : m < cs.length) : (cs.set m v).getD j 0 = if j = m then v else cs.getD j 0 := by
  by_cases e : j = m
  · subst e; simp [List.getD_eq_getElem?_getD, hm]
  · have : ¬ m = j := fun q => e q.symm
    simp [List.getD_eq_getElem?_getD, List.getElem?_set, this, e]
theorem in_of {b : B} {w : Int} {j : Nat} (h : sgH b w j < 5) : j ≠ 0 ∧ (j : Int) - 1 < w + hrs b := by
  refine Classical.byContradiction fun hn => ?_
  rw [sgH_out (by omega)] at h
  omega
theorem repz (n j : Nat) : (List.replicate n (0 : Int)).getD j 0 = 0 := by
  simp only [List.getD_eq_getElem?_getD, List.getElem?_replicate]
  split <;> rfl
theorem HI.zero {b : B} {w : Int} (hb : vb b = true) (hw : 0 ≤ w) : HI b w 0 0 (List.replicate 6 0) := by
  have : 0 ≤ hrs b ∧ hrs b ≤ 400 := sumH_rng hb 4
  refine ⟨by simp, fun j hj => ?_, fun j hj => ?_, by omega, fun j hj h => ?_⟩
  · have e : qH b w 0 = 0 := by unfold qH; omega
    rw [e, Cn_zero hb hw, repz]
  · rw [repz]; omega
  · have := in_of h
    exact (sgH_in hb this.1 this.2).1
theorem HI.step_in {b : B} {w : Int} (hb : vb b = true) (hw : 0 ≤ w) {k : Nat} {la : Int} {cs : List Int} (H : HI b w k la cs) {m : Nat} (e : sgH b w k = m) (hm : m < 5) : HI b w (k + 1) m (cs.set m (cs.getD m 0 + 1)) := by
  have hi := in_of (b := b) (w := w) (j := k) (by omega)
  have l := H.len
  have r := H.rng m (by omega)
  refine ⟨by simpa using l, fun j hj => ?_, fun j hj => ?_, by omega, fun j hj h => ?_⟩
  · have q1 : qH b w (k + 1) = (k : Int) := by unfold qH; omega
    have q0 : qH b w k = (k : Int) - 1 := by unfold qH; omega
    have c := H.cnt j hj
    rw [q0] at c
    rw [getD_seti (by omega), q1, Cn_step hb hw hj hi.1 hi.2, e, ← c]
    by_cases e2 : j = m
    · subst e2; simp
    · rw [if_neg e2, if_neg (by omega)]; omega
  · have := H.rng j hj
    rw [getD_seti (by omega)]
    split <;> omega
  · have := in_of h
    rw [← e]
    exact sgH_mono hb hi.1 (by omega) this.2
theorem HI.step_out {b : B} {w : Int} (hb : vb b = true) (hw : 0 ≤ w) {k : Nat} {la : Int} {cs : List Int} (H : HI b w k la cs) (h : k = 0 ∨ w + hrs b ≤ (k : Int) - 1) : HI b w (k + 1) la (cs.set 5 (cs.getD 5 0 + 1)) := by
  have s : 0 ≤ hrs b ∧ hrs b ≤ 400 := sumH_rng hb 4
  have l := H.len
  have r := H.rng 5 (by omega)
  refine ⟨by simpa using l, fun j hj => ?_, fun j hj => ?_, H.la0, fun j hj h => H.mono j (by omega) h⟩
  · have q1 : qH b w (k + 1) = qH b w k := by unfold qH; omega
    rw [getD_seti (by omega), if_neg (by omega), q1, H.cnt j hj]
  · have := H.rng j hj
    rw [getD_seti (by omega)]
    split <;> omega
theorem HI.end0 {b : B} {w : Int} (hb : vb b = true) (hw : 0 ≤ w) {k : Nat} {la : Int} {cs : List Int} (H : HI b w k la cs) (h : (k : Int) = w + hrs b + 2) : cs.getD 0 0 = w := by
  have s : 0 ≤ hrs b ∧ hrs b ≤ 400 := sumH_rng hb 4
  have q : qH b w k = w + hrs b := by unfold qH; omega
  rw [H.cnt 0 (by omega), q, Cn_end0 hb hw]
theorem HI.ends {b : B} {w : Int} (hb : vb b = true) (hw : 0 ≤ w) {k : Nat} {la : Int} {cs : List Int} (H : HI b w k la cs) (h : (k : Int) = w + hrs b + 2) {j : Nat} (hj : j < 4) : cs.getD (j + 1) 0 = hB b j := by
  have s : 0 ≤ hrs b ∧ hrs b ≤ 400 := sumH_rng hb 4
  have q : qH b w k = w + hrs b := by unfold qH; omega
  rw [H.cnt (j + 1) (by omega), q, Cn_end hb hj]
/-- what Stage says at the k-th hour of the run -/
theorem one_VL {b : B} (hb : vb b = true) : VL [b] := ⟨by simp, vk_succ.2 ⟨⟨fun i h => by simp at h, fun i j h1 h2 => by simp at h2⟩, hb, fun i h => by simp at h⟩⟩
theorem one_VL_is {b : B} (h : VL [b]) : vb b = true := h.b (i := 0) (by simp)
theorem stR_hour {b : B} (hb : vb b = true) {c fro til : Int} {cw : Bool} (hc : 0 ≤ c ∧ c ≤ 100) (k : Nat) (ht : til = fro + hrs b + if cw = true then c else 0) :
    stR [b] ⟨0, fro, til, cw⟩ c (fro - 1 + k) = (sgH b (if cw = true then c else 0) k, 0) := by
  have s : 0 ≤ hrs b ∧ hrs b ≤ 400 := sumH_rng hb 4
  have e : rB [b] ⟨0, fro, til, cw⟩ = b := rfl
  have ec : cl ⟨0, fro, til, cw⟩ c = if cw = true then c else 0 := rfl
  obtain ⟨w, hw⟩ : ∃ w : Int, (if cw = true then c else 0) = w := ⟨_, rfl⟩
  have hw0 : 0 ≤ w := by rw [← hw]; split <;> omega
  unfold stR sOK
  rw [if_pos (one_VL hb), e, ec, hw, if_pos ⟨hc, ⟨by simp, by simp⟩, by rw [hw] at ht; simp only [tm, decide_eq_true_eq]; omega⟩]
  rw [hw] at ht
  unfold sgH
  by_cases h : k = 0 ∨ w + hrs b ≤ (k : Int) - 1
  · rw [if_pos h, if_pos (by simp only; omega)]
  · rw [if_neg h, if_neg (by simp only; omega)]
    have : fro - 1 + (k : Int) - fro - w = (k : Int) - 1 - w := by omega
    simp only [this]
end Go.Proofs.Ytjncfpfgobojpaa
