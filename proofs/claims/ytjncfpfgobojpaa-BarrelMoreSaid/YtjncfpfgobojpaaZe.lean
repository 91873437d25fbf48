/- What the proof of the law needs: the abstract machine, the functions as it reads them, their contracts, part 5. -/
import Derived.Test.YtjncfpfgobojpaaZd
set_option linter.unusedVariables false
set_option linter.unusedSimpArgs false
namespace Go.Proofs.Ytjncfpfgobojpaa
open Go Go.Am Go.Proofs Go.Sort
/-! ### laid -/
theorem od_inj {l : List B} {m k : Nat} (hm : m < l.length) (hk : k < l.length) (e : od l m = od l k) : m = k := by
  have h1 : m < (orderL l).length := by rw [order_len]; exact hm
  have h2 : k < (orderL l).length := by rw [order_len]; exact hk
  have : (orderL l)[m] = (orderL l)[k] := by simpa [od, h1, h2] using e
  exact (List.getElem_inj (order_nodup l)).1 this
theorem int_set {us : List Int} {i j : Nat} {v : Int} (hi : i < us.length) : (us.set i v).getD j 0 = if j = i then v else us.getD j 0 := by
  by_cases e : j = i
  · subst e; simp [List.getD_eq_getElem?_getD, hi]
  · have : ¬ i = j := fun q => e q.symm
    simp [List.getD_eq_getElem?_getD, List.getElem?_set, this, e]
theorem us_step {l : List B} {us : List Int} {k : Nat} {v : Int} (hu : us.length = l.length) (hk : k < l.length) (H : ∀ m, m < k → us.getD (od l m) 0 = undK l m) (hv : v = undK l k) : ∀ m, m < k + 1 → (us.set (od l k) v).getD (od l m) 0 = undK l m := fun m hm => by
  have hx : od l k < us.length := by rw [hu]; exact order_get hk
  rw [int_set hx]
  by_cases e : m = k
  · subst e; rw [if_pos rfl]; exact hv
  · rw [if_neg fun q => e (od_inj (by omega) hk q)]; exact H m (by omega)
/-- what lies under each -/
def undL (l : List B) : List Int := (List.range l.length).map fun x => undK l ((orderL l).idxOf x)
theorem undL_eq {l : List B} {us : List Int} (hu : us.length = l.length) (H : ∀ m, m < l.length → us.getD (od l m) 0 = undK l m) : us = undL l := by
  apply List.ext_getElem
  · rw [hu]; simp [undL]
  · intro x h1 h2
    have hx : x < l.length := by rw [← hu]; exact h1
    have hin := order_mem.2 hx
    have hix : (orderL l).idxOf x < l.length := by rw [← order_len l]; exact List.idxOf_lt_length_iff.2 hin
    have := H _ hix
    have e : od l ((orderL l).idxOf x) = x := by
      have h3 : (orderL l).idxOf x < (orderL l).length := by rw [order_len]; exact hix
      simp only [od, List.getD_eq_getElem?_getD, List.getElem?_eq_getElem h3, Option.getD_some]
      exact List.getElem_idxOf h3
    rw [e] at this
    simp only [undL, List.getElem_map, List.getElem_range]
    rw [← this]; simp [h1]
theorem row_len {l : List B} : ∀ {k : Nat}, k ≤ l.length → ∀ j, ((rowsK l k).getD j []).length ≤ k
  | 0, _, j => by simp [rowsK]
  | k + 1, h, j => by
    have ih := row_len (l := l) (k := k) (by omega) j
    rw [rowsK_get (by omega)]
    split
    · split
      · rw [List.length_append]; simp only [List.length_cons, List.length_nil]; omega
      · simp
    · omega
theorem set_last {cs : List AV} {y z : AV} {n : Nat} (h : cs.length = n) : (cs ++ [z]).set n y = cs ++ [y] := by subst h; simp
theorem get_last {cs : List AV} {z : AV} {n : Nat} (h : cs.length = n) : (cs ++ [z])[n]? = some z := by subst h; simp
theorem get_low {cs : List AV} {z v : AV} {n : Nat} (h : cs[n]? = some v) : (cs ++ [z])[n]? = some v := by
  have : n < cs.length := (List.getElem?_eq_some_iff.1 h).1
  rw [List.getElem?_append_left this]; exact h
set_option maxHeartbeats 2000000 in
theorem pc52 (l : List B) (hv : VL l) : PC Try.prog 52 [vB l] (.tu [vRows (rowsL l), .vs l.length (il (undL l))]) := by
  refine pc_fn fn52 (by simp only [AV.plains, AV.plain, il_plain, bl_plain, Bool.and_true, Bool.true_and, Bool.and_self, flB_plain, rows_plain]) (by simp only [AV.plains, AV.plain, il_plain, bl_plain, Bool.and_true, Bool.true_and, Bool.and_self, flB_plain, rows_plain]) (Nat.le_of_ble_eq_true rfl) ?_
  rw [initSt1]
  have hl := hv.len
  have q85 := pc85 l hv
  refine k_seq (k_reg ?_)
  refine s_go (by simp (disch := omega) only [c52r0, c52r1, c52r2, c52r3, c52r4, c52r5, c52r6, c52r7, c52r8, c52r9, c52r10, c52r11, c52r12, c52r13, c52r14, c52r16, EV0, EV1, EV2, EV3, EV4, EV5, EV6, EV7, EV8, VALS, plug, ite_same, decide_true, decide_false, eq_self, ↓reduceIte, reduceCtorEq, Nat.reduceAdd, Nat.reduceEqDiff, Nat.reduceLT, Nat.reduceLeDiff, Nat.reduceMul, Nat.reduceSub, Nat.reduceDiv, Int.reduceToNat, Int.reduceAdd, Int.reduceSub, Int.reduceMul, Int.reduceNeg, Int.reduceEq, Int.reduceLT, Int.reduceLE]; with_reducible rfl) ?_
  refine r_done ?_
  refine w_frz (t := 1) (cs := [vB l]) (st' := (1, .pv [vB l] 0) :: [(3, .sl 0 0 0 0), (2, .sl 0 0 0 0), (1, .p 1 0), (0, vB l)]) (by simp (disch := omega) only [c52r0, c52r1, c52r2, c52r3, c52r4, c52r5, c52r6, c52r7, c52r8, c52r9, c52r10, c52r11, c52r12, c52r13, c52r14, c52r16, EV0, EV1, EV2, EV3, EV4, EV5, EV6, EV7, EV8, VALS, plug, ite_same, decide_true, decide_false, eq_self, ↓reduceIte, reduceCtorEq, Nat.reduceAdd, Nat.reduceEqDiff, Nat.reduceLT, Nat.reduceLeDiff, Nat.reduceMul, Nat.reduceSub, Nat.reduceDiv, Int.reduceToNat, Int.reduceAdd, Int.reduceSub, Int.reduceMul, Int.reduceNeg, Int.reduceEq, Int.reduceLT, Int.reduceLE] <;> rfl) (fun x => by
    simp only [St.get]
    by_cases e : x = 1
    · subst e; simp only [if_true]; exact .p
    · simp only [if_neg e]; exact .same) ?_
  repeat' first
    | with_reducible refine k_seq ?_
    | with_reducible refine k_skip ?_
    | with_reducible refine k_blkS ?_
    | with_reducible refine k_blkR ?_
    | with_reducible refine k_blkC ?_
    | with_reducible refine k_blkH ?_
    | with_reducible refine k_blkB ?_
    | with_reducible refine k_blkK ?_
    | with_reducible refine k_blkE ?_
    | with_reducible refine k_reg ?_
    | with_reducible refine k_head (by with_unfolding_all rfl) ?_
    | with_reducible refine k_headS ?_
    | (with_reducible refine SepK.mk ?_ ?_; (refine sepQ_P ?_; simp [sepQ, sepG, AOp.late, AOp.free, AOp.xs, AOp.isAl, tokNe, AV.tok, stS_get, strip, AX.val, c52r0, c52r1, c52r2, c52r3, c52r4, c52r5, c52r6, c52r7, c52r8, c52r9, c52r10, c52r11, c52r12, c52r13, c52r14, c52r16, GA]; try omega))
    | with_reducible refine r_done ?_
    | with_reducible refine hr_done ?_
    | with_reducible refine s_go (by simp (disch := omega) only [c52r0, c52r1, c52r2, c52r3, c52r4, c52r5, c52r6, c52r7, c52r8, c52r9, c52r10, c52r11, c52r12, c52r13, c52r14, c52r16, EV0, EV1, EV2, EV3, EV4, EV5, EV6, EV7, EV8, VALS, plug, ite_same, decide_true, decide_false, eq_self, ↓reduceIte, reduceCtorEq, Nat.reduceAdd, Nat.reduceEqDiff, Nat.reduceLT, Nat.reduceLeDiff, Nat.reduceMul, Nat.reduceSub, Nat.reduceDiv, Int.reduceToNat, Int.reduceAdd, Int.reduceSub, Int.reduceMul, Int.reduceNeg, Int.reduceEq, Int.reduceLT, Int.reduceLE]; with_reducible rfl) ?_
    | with_reducible refine h_go (by with_unfolding_all rfl) (by simp (disch := omega) only [c52r0, c52r1, c52r2, c52r3, c52r4, c52r5, c52r6, c52r7, c52r8, c52r9, c52r10, c52r11, c52r12, c52r13, c52r14, c52r16, EV0, EV1, EV2, EV3, EV4, EV5, EV6, EV7, EV8, VALS, plug, ite_same, decide_true, decide_false, eq_self, ↓reduceIte, reduceCtorEq, Nat.reduceAdd, Nat.reduceEqDiff, Nat.reduceLT, Nat.reduceLeDiff, Nat.reduceMul, Nat.reduceSub, Nat.reduceDiv, Int.reduceToNat, Int.reduceAdd, Int.reduceSub, Int.reduceMul, Int.reduceNeg, Int.reduceEq, Int.reduceLT, Int.reduceLE]; with_reducible rfl) ?_
    | ((with_reducible refine chk_r ?_); refine r_callF (by simp only [CA, Nat.reduceEqDiff, ↓reduceIte]; rfl) (by exact rfl) (by simp only [CA, Nat.reduceEqDiff, ↓reduceIte]; rfl) rfl ?_)
    | ((with_reducible refine chk_h ?_); refine hr_callF (by simp only [CA, Nat.reduceEqDiff, ↓reduceIte]; rfl) (by exact rfl) (by simp only [CA, Nat.reduceEqDiff, ↓reduceIte]; rfl) rfl ?_)
    | ((with_reducible refine chk_r ?_); refine r_callP (by simp only [CA, Nat.reduceEqDiff, ↓reduceIte]; rfl) (by simp only [CA, Nat.reduceEqDiff, ↓reduceIte]; rfl) (by first | exact q85 _) rfl ?_)
    | ((with_reducible refine chk_h ?_); refine hr_callP (by simp only [CA, Nat.reduceEqDiff, ↓reduceIte]; rfl) (by simp only [CA, Nat.reduceEqDiff, ↓reduceIte]; rfl) (by first | exact q85 _) rfl ?_)
    | ((with_reducible refine chk_h ?_); refine hr_callP1 (by simp only [CA, Nat.reduceEqDiff, ↓reduceIte]; rfl) (by simp only [CA, Nat.reduceEqDiff, ↓reduceIte]; rfl) (by simp (disch := omega) only [CA, Nat.reduceEqDiff, ↓reduceIte, firstTok_nil, firstTok_sl, firstTok_sl0, firstTok_i, firstTok_b, firstTok_ag, firstTok_p, firstTok_s]; rfl) (by first | exact q85 _) rfl ?_)
    | ((with_reducible refine chk_h ?_); refine hr_app (by simp (disch := omega) only [c52r0, c52r1, c52r2, c52r3, c52r4, c52r5, c52r6, c52r7, c52r8, c52r9, c52r10, c52r11, c52r12, c52r13, c52r14, c52r16, EV0, EV1, EV2, EV3, EV4, EV5, EV6, EV7, EV8, VALS, plug, ite_same, decide_true, decide_false, eq_self, ↓reduceIte, reduceCtorEq, Nat.reduceAdd, Nat.reduceEqDiff, Nat.reduceLT, Nat.reduceLeDiff, Nat.reduceMul, Nat.reduceSub, Nat.reduceDiv, Int.reduceToNat, Int.reduceAdd, Int.reduceSub, Int.reduceMul, Int.reduceNeg, Int.reduceEq, Int.reduceLT, Int.reduceLE]; with_reducible rfl) rfl ?_)
    | (with_reducible refine k_condP (by simp only [GA, Nat.reduceEqDiff, ↓reduceIte]; rfl) (by first | (simp only [BO]; rfl) | rfl) (fun ht => ?_) (fun ht => ?_) <;> try (first | exact False.elim ht | exact absurd rfl ht | exact absurd trivial ht | exact Bool.noConfusion ht))
    | (with_reducible refine k_ret ?_; repeat with_reducible (first | refine ret_thru ?_ | refine ret_blk ?_ | refine fin ?_))
    | (with_reducible refine k_exit ?_; repeat with_reducible (first | refine thru ?_ | refine out_blk ?_ | refine pass (by decide) ?_))
    | (refine post1 ?_; simp only [GA, Nat.reduceEqDiff, ↓reduceIte])
    | (refine post2 ?_; simp only [GA, Nat.reduceEqDiff, ↓reduceIte])
    | (refine post3 ?_; simp only [GA, Nat.reduceEqDiff, ↓reduceIte])
    | (refine postc (by simp only [GA, Nat.reduceEqDiff, ↓reduceIte]; rfl) (by simp (disch := omega) only [c52r0, c52r1, c52r2, c52r3, c52r4, c52r5, c52r6, c52r7, c52r8, c52r9, c52r10, c52r11, c52r12, c52r13, c52r14, c52r16, EV0, EV1, EV2, EV3, EV4, EV5, EV6, EV7, EV8, VALS, plug, ite_same, decide_true, decide_false, eq_self, ↓reduceIte, reduceCtorEq, Nat.reduceAdd, Nat.reduceEqDiff, Nat.reduceLT, Nat.reduceLeDiff, Nat.reduceMul, Nat.reduceSub, Nat.reduceDiv, Int.reduceToNat, Int.reduceAdd, Int.reduceSub, Int.reduceMul, Int.reduceNeg, Int.reduceEq, Int.reduceLT, Int.reduceLE]; rfl) ?_)
    | refine post0 ?_
  refine w_virt 1 2 rfl ?_
  refine k_blk (k_loopS (X := Nat × List Nat × Nat × List Int) [1, 2, 3, 12, 13, 14] l.length (fun k x => [(1, .pv [vB l] 0), (2, .sl x.1 0 (rowsK l k).length 1), (3, .sl x.2.2.1 0 l.length 1), (12, .vs l.length (nl (orderL l))), (13, .i .i64 l.length), (14, .i .i64 (k : Int))])
    (fun k x h => Nest h 1 x.1 x.2.1 ((rowsK l k).map rw1) ∧ x.2.2.1 ≠ 0 ∧ x.2.2.1 ≠ x.1 ∧ x.2.2.1 ∉ x.2.1 ∧ h.m x.2.2.1 = some (.cells true (il x.2.2.2)) ∧ x.2.2.2.length = l.length ∧ ∀ m, m < k → x.2.2.2.getD (od l m) 0 = undK l m) (_, [], _, List.replicate l.length 0) (by simp only [Am.keep, List.map_cons, List.map_nil, GA, Nat.reduceEqDiff, ↓reduceIte]; try rfl) ⟨.nil (by simp (disch := omega) only [c52r0, c52r1, c52r2, c52r3, c52r4, c52r5, c52r6, c52r7, c52r8, c52r9, c52r10, c52r11, c52r12, c52r13, c52r14, c52r16, EV0, EV1, EV2, EV3, EV4, EV5, EV6, EV7, EV8, VALS, plug, ite_same, decide_true, decide_false, eq_self, ↓reduceIte, reduceCtorEq, Nat.reduceAdd, Nat.reduceEqDiff, Nat.reduceLT, Nat.reduceLeDiff, Nat.reduceMul, Nat.reduceSub, Nat.reduceDiv, Int.reduceToNat, Int.reduceAdd, Int.reduceSub, Int.reduceMul, Int.reduceNeg, Int.reduceEq, Int.reduceLT, Int.reduceLE] <;> rfl) (by simp only [AH.bump_nx]; omega), ?_, ?_, by simp, by simp (disch := omega) only [il_rep, c52r0, c52r1, c52r2, c52r3, c52r4, c52r5, c52r6, c52r7, c52r8, c52r9, c52r10, c52r11, c52r12, c52r13, c52r14, c52r16, EV0, EV1, EV2, EV3, EV4, EV5, EV6, EV7, EV8, VALS, plug, ite_same, decide_true, decide_false, eq_self, ↓reduceIte, reduceCtorEq, Nat.reduceAdd, Nat.reduceEqDiff, Nat.reduceLT, Nat.reduceLeDiff, Nat.reduceMul, Nat.reduceSub, Nat.reduceDiv, Int.reduceToNat, Int.reduceAdd, Int.reduceSub, Int.reduceMul, Int.reduceNeg, Int.reduceEq, Int.reduceLT, Int.reduceLE] <;> rfl, by simp, fun m hm => by omega⟩ ?_)
  · simp only [AH.bump_nx, AH.set_nx, AH.kill_nx, H1_nx]; omega
  · simp only [AH.bump_nx, AH.set_nx, AH.kill_nx, H1_nx]; omega
  rintro k ⟨r, ts, u, us⟩ h hk ⟨N, u0, ur, un, hu, hul, hus⟩ ok pos
  simp only at N u0 ur un hu hul hus ⊢
  have hr := N.hr
  have r0 := N.r0
  have lr := ok.m hr
  have lu := ok.m hu
  have tlt := Nest.lt N ok
  have Nl : ((rowsK l k).map rw1).length = (rowsK l k).length := List.length_map _
  have ru : ¬ r = u := fun e => ur e.symm
  by_cases hlt : k < l.length
  · have hlt' : (k : Int) < l.length := by omega
    have Rk := rk (l := l) (k := k) (by omega)
    have hx : od l k < l.length := order_get hlt
    have gx : (nl (orderL l))[k]? = some (.i .i64 ((od l k : Nat) : Int)) := nl_get (by rw [order_len]; exact hlt)
    have rl := rowsK_len l (k := k) (by omega)
    have rin : ∀ j, j < (rowsK l k).length → ((rowsK l k).getD j []).length ≤ 40 := fun j hj => by
      have := row_len (l := l) (k := k) (by omega) j
      omega
    have q86 := pc86 l (rowsK l k) (od l k) (fun r hr => ⟨Rk.ne r hr, by
      obtain ⟨j, hj, e⟩ := Rk.mem r hr _ (last_mem (Rk.ne r hr))
      rw [← e]; exact order_get (by omega), by
      obtain ⟨j, hj, e⟩ := List.getElem_of_mem hr
      have := rin j hj
      rw [getD_lt hj, e] at this; omega⟩) hx (by omega)
    have hat := rowsK_at hlt
    have hfl := rowAt_le l k
    have hfi : fitI l (rowsK l k) (od l k) = if rowAt l k < (rowsK l k).length then (rowAt l k : Int) else -1 := rfl
    have hund : undK l k = (if rowAt l k = 0 then (-1 : Int) else ((lastN ((rowsK l k).getD (rowAt l k - 1) []) : Nat) : Int)) := rfl
    have now : ∀ h2 : AH, (∀ t b, h.m t = some b → h2.m t = some b) → Now h2 (.sl r 0 (rowsK l k).length 1) (vRows (rowsK l k)) := fun h2 F => by
      have := (N.keep F).now rw_plain 1
      rwa [Nl, rv_map] at this
    rw [hfi] at q86
    generalize hfx : rowAt l k = f at *
    have usl : od l k < us.length := by omega
    by_cases hf : f < (rowsK l k).length
    · rw [if_pos hf] at q86 hat
      have cf := N.cell (i := f) (by omega)
      rw [rD_map hf] at cf
      have hf' : (f : Int) < (rowsK l k).length := by omega
      have nf : ¬ (f : Int) < 0 := by omega
      have tf := N.row (i := f) (by omega)
      rw [rD_map hf] at tf
      have mf := N.mem (i := f) (by omega)
      have ltf := tlt _ mf
      have nef := N.ne (i := f) (by omega)
      have nefu : ¬ tD ts f = u := fun e => un (e ▸ mf)
      have rlf := rin f hf
      have csl := rC_len (k := 1) N.len
      rw [Nl] at csl
      simp only at cf tf
      generalize hcs : rC 1 ts ((rowsK l k).map rw1) = cs at hr cf csl
      have hlen1 : (rowsK l (k + 1)).length = (rowsK l k).length := by rw [hat, List.length_set]
      have e0 : rw1 ((rowsK l k).getD f [] ++ [od l k]) = (((rowsK l k).getD f []).length + 1, nl ((rowsK l k).getD f [] ++ [od l k])) := by simp [rw1]
      have hn1 : (((rowsK l k).getD f []).length + 1) * 1 = (nl ((rowsK l k).getD f [] ++ [od l k])).length := by simp [nl_len]
      cases f with
      | zero =>
        have h0 : ¬ (0 : Int) < ((0 : Nat) : Int) := by omega
        rw [if_pos rfl] at hund
        repeat' first
          | with_reducible refine k_seq ?_
          | with_reducible refine k_skip ?_
          | with_reducible refine k_blkS ?_
          | with_reducible refine k_blkR ?_
          | with_reducible refine k_blkC ?_
          | with_reducible refine k_blkH ?_
          | with_reducible refine k_blkB ?_
          | with_reducible refine k_blkK ?_
          | with_reducible refine k_blkE ?_
          | with_reducible refine k_reg ?_
          | with_reducible refine k_head (by with_unfolding_all rfl) ?_
          | with_reducible refine k_headS ?_
          | (with_reducible refine SepK.mk ?_ ?_; (refine sepQ_P ?_; simp [sepQ, sepG, AOp.late, AOp.free, AOp.xs, AOp.isAl, tokNe, AV.tok, stS_get, strip, AX.val, c52r0, c52r1, c52r2, c52r3, c52r4, c52r5, c52r6, c52r7, c52r8, c52r9, c52r10, c52r11, c52r12, c52r13, c52r14, c52r16, GA]; try omega))
          | with_reducible refine r_done ?_
          | with_reducible refine hr_done ?_
          | with_reducible refine s_go (by simp (disch := omega) only [hlt', gx, hx, hr, row_m hr, read_row (row_m hr), hu, row_m hu, read_row (row_m hu), csl, hul, usl, nl_len, nl_snoc, tf, row_m tf, read_row (row_m tf), cf, nf, hf', h0, c52r0, c52r1, c52r2, c52r3, c52r4, c52r5, c52r6, c52r7, c52r8, c52r9, c52r10, c52r11, c52r12, c52r13, c52r14, c52r16, EV0, EV1, EV2, EV3, EV4, EV5, EV6, EV7, EV8, VALS, plug, ite_same, decide_true, decide_false, eq_self, ↓reduceIte, reduceCtorEq, Nat.reduceAdd, Nat.reduceEqDiff, Nat.reduceLT, Nat.reduceLeDiff, Nat.reduceMul, Nat.reduceSub, Nat.reduceDiv, Int.reduceToNat, Int.reduceAdd, Int.reduceSub, Int.reduceMul, Int.reduceNeg, Int.reduceEq, Int.reduceLT, Int.reduceLE]; with_reducible rfl) ?_
          | with_reducible refine h_go (by with_unfolding_all rfl) (by simp (disch := omega) only [hlt', gx, hx, hr, row_m hr, read_row (row_m hr), hu, row_m hu, read_row (row_m hu), csl, hul, usl, nl_len, nl_snoc, tf, row_m tf, read_row (row_m tf), cf, nf, hf', h0, c52r0, c52r1, c52r2, c52r3, c52r4, c52r5, c52r6, c52r7, c52r8, c52r9, c52r10, c52r11, c52r12, c52r13, c52r14, c52r16, EV0, EV1, EV2, EV3, EV4, EV5, EV6, EV7, EV8, VALS, plug, ite_same, decide_true, decide_false, eq_self, ↓reduceIte, reduceCtorEq, Nat.reduceAdd, Nat.reduceEqDiff, Nat.reduceLT, Nat.reduceLeDiff, Nat.reduceMul, Nat.reduceSub, Nat.reduceDiv, Int.reduceToNat, Int.reduceAdd, Int.reduceSub, Int.reduceMul, Int.reduceNeg, Int.reduceEq, Int.reduceLT, Int.reduceLE]; with_reducible rfl) ?_
          | ((with_reducible refine chk_r ?_); refine r_callF (by simp only [CA, Nat.reduceEqDiff, ↓reduceIte]; rfl) (by exact rfl) (by simp only [CA, Nat.reduceEqDiff, ↓reduceIte]; rfl) rfl ?_)
          | ((with_reducible refine chk_h ?_); refine hr_callF (by simp only [CA, Nat.reduceEqDiff, ↓reduceIte]; rfl) (by exact rfl) (by simp only [CA, Nat.reduceEqDiff, ↓reduceIte]; rfl) rfl ?_)
          | ((with_reducible refine chk_r ?_); refine r_callP (by simp only [CA, Nat.reduceEqDiff, ↓reduceIte]; rfl) (by simp only [CA, Nat.reduceEqDiff, ↓reduceIte]; rfl) (by first | ((refine PC.at q86 rfl ?_; refine .cons (now _ ?_) (.cons (.fn .nil (.cons (.same (by simp only [AV.plain, AV.plains, flB_plain, Bool.and_true])) (.cons (.p (by simp (disch := omega) only [c52r0, c52r1, c52r2, c52r3, c52r4, c52r5, c52r6, c52r7, c52r8, c52r9, c52r10, c52r11, c52r12, c52r13, c52r14, c52r16, EV0, EV1, EV2, EV3, EV4, EV5, EV6, EV7, EV8, VALS, plug, ite_same, decide_true, decide_false, eq_self, ↓reduceIte, reduceCtorEq, Nat.reduceAdd, Nat.reduceEqDiff, Nat.reduceLT, Nat.reduceLeDiff, Nat.reduceMul, Nat.reduceSub, Nat.reduceDiv, Int.reduceToNat, Int.reduceAdd, Int.reduceSub, Int.reduceMul, Int.reduceNeg, Int.reduceEq, Int.reduceLT, Int.reduceLE] <;> rfl) (Nows.same rfl)) .nil))) .nil); intro t b hb; have := ok.m hb; simp (disch := omega) only [hb, c52r0, c52r1, c52r2, c52r3, c52r4, c52r5, c52r6, c52r7, c52r8, c52r9, c52r10, c52r11, c52r12, c52r13, c52r14, c52r16, EV0, EV1, EV2, EV3, EV4, EV5, EV6, EV7, EV8, VALS, plug, ite_same, decide_true, decide_false, eq_self, ↓reduceIte, reduceCtorEq, Nat.reduceAdd, Nat.reduceEqDiff, Nat.reduceLT, Nat.reduceLeDiff, Nat.reduceMul, Nat.reduceSub, Nat.reduceDiv, Int.reduceToNat, Int.reduceAdd, Int.reduceSub, Int.reduceMul, Int.reduceNeg, Int.reduceEq, Int.reduceLT, Int.reduceLE]); all_goals fail)) rfl ?_)
          | ((with_reducible refine chk_h ?_); refine hr_callP (by simp only [CA, Nat.reduceEqDiff, ↓reduceIte]; rfl) (by simp only [CA, Nat.reduceEqDiff, ↓reduceIte]; rfl) (by first | ((refine PC.at q86 rfl ?_; refine .cons (now _ ?_) (.cons (.fn .nil (.cons (.same (by simp only [AV.plain, AV.plains, flB_plain, Bool.and_true])) (.cons (.p (by simp (disch := omega) only [c52r0, c52r1, c52r2, c52r3, c52r4, c52r5, c52r6, c52r7, c52r8, c52r9, c52r10, c52r11, c52r12, c52r13, c52r14, c52r16, EV0, EV1, EV2, EV3, EV4, EV5, EV6, EV7, EV8, VALS, plug, ite_same, decide_true, decide_false, eq_self, ↓reduceIte, reduceCtorEq, Nat.reduceAdd, Nat.reduceEqDiff, Nat.reduceLT, Nat.reduceLeDiff, Nat.reduceMul, Nat.reduceSub, Nat.reduceDiv, Int.reduceToNat, Int.reduceAdd, Int.reduceSub, Int.reduceMul, Int.reduceNeg, Int.reduceEq, Int.reduceLT, Int.reduceLE] <;> rfl) (Nows.same rfl)) .nil))) .nil); intro t b hb; have := ok.m hb; simp (disch := omega) only [hb, c52r0, c52r1, c52r2, c52r3, c52r4, c52r5, c52r6, c52r7, c52r8, c52r9, c52r10, c52r11, c52r12, c52r13, c52r14, c52r16, EV0, EV1, EV2, EV3, EV4, EV5, EV6, EV7, EV8, VALS, plug, ite_same, decide_true, decide_false, eq_self, ↓reduceIte, reduceCtorEq, Nat.reduceAdd, Nat.reduceEqDiff, Nat.reduceLT, Nat.reduceLeDiff, Nat.reduceMul, Nat.reduceSub, Nat.reduceDiv, Int.reduceToNat, Int.reduceAdd, Int.reduceSub, Int.reduceMul, Int.reduceNeg, Int.reduceEq, Int.reduceLT, Int.reduceLE]); all_goals fail)) rfl ?_)
          | ((with_reducible refine chk_h ?_); refine hr_callP1 (by simp only [CA, Nat.reduceEqDiff, ↓reduceIte]; rfl) (by simp only [CA, Nat.reduceEqDiff, ↓reduceIte]; rfl) (by simp (disch := omega) only [CA, Nat.reduceEqDiff, ↓reduceIte, firstTok_nil, firstTok_sl, firstTok_sl0, firstTok_i, firstTok_b, firstTok_ag, firstTok_p, firstTok_s]; rfl) (by first | ((refine PC.at q86 rfl ?_; refine .cons (now _ ?_) (.cons (.fn .nil (.cons (.same (by simp only [AV.plain, AV.plains, flB_plain, Bool.and_true])) (.cons (.p (by simp (disch := omega) only [c52r0, c52r1, c52r2, c52r3, c52r4, c52r5, c52r6, c52r7, c52r8, c52r9, c52r10, c52r11, c52r12, c52r13, c52r14, c52r16, EV0, EV1, EV2, EV3, EV4, EV5, EV6, EV7, EV8, VALS, plug, ite_same, decide_true, decide_false, eq_self, ↓reduceIte, reduceCtorEq, Nat.reduceAdd, Nat.reduceEqDiff, Nat.reduceLT, Nat.reduceLeDiff, Nat.reduceMul, Nat.reduceSub, Nat.reduceDiv, Int.reduceToNat, Int.reduceAdd, Int.reduceSub, Int.reduceMul, Int.reduceNeg, Int.reduceEq, Int.reduceLT, Int.reduceLE] <;> rfl) (Nows.same rfl)) .nil))) .nil); intro t b hb; have := ok.m hb; simp (disch := omega) only [hb, c52r0, c52r1, c52r2, c52r3, c52r4, c52r5, c52r6, c52r7, c52r8, c52r9, c52r10, c52r11, c52r12, c52r13, c52r14, c52r16, EV0, EV1, EV2, EV3, EV4, EV5, EV6, EV7, EV8, VALS, plug, ite_same, decide_true, decide_false, eq_self, ↓reduceIte, reduceCtorEq, Nat.reduceAdd, Nat.reduceEqDiff, Nat.reduceLT, Nat.reduceLeDiff, Nat.reduceMul, Nat.reduceSub, Nat.reduceDiv, Int.reduceToNat, Int.reduceAdd, Int.reduceSub, Int.reduceMul, Int.reduceNeg, Int.reduceEq, Int.reduceLT, Int.reduceLE]); all_goals fail)) rfl ?_)
          | ((with_reducible refine chk_h ?_); refine hr_app (by simp (disch := omega) only [hlt', gx, hx, hr, row_m hr, read_row (row_m hr), hu, row_m hu, read_row (row_m hu), csl, hul, usl, nl_len, nl_snoc, tf, row_m tf, read_row (row_m tf), cf, nf, hf', h0, c52r0, c52r1, c52r2, c52r3, c52r4, c52r5, c52r6, c52r7, c52r8, c52r9, c52r10, c52r11, c52r12, c52r13, c52r14, c52r16, EV0, EV1, EV2, EV3, EV4, EV5, EV6, EV7, EV8, VALS, plug, ite_same, decide_true, decide_false, eq_self, ↓reduceIte, reduceCtorEq, Nat.reduceAdd, Nat.reduceEqDiff, Nat.reduceLT, Nat.reduceLeDiff, Nat.reduceMul, Nat.reduceSub, Nat.reduceDiv, Int.reduceToNat, Int.reduceAdd, Int.reduceSub, Int.reduceMul, Int.reduceNeg, Int.reduceEq, Int.reduceLT, Int.reduceLE]; with_reducible rfl) rfl ?_)
          | (with_reducible refine k_condP (by simp only [GA, Nat.reduceEqDiff, ↓reduceIte]; rfl) (by first | (simp only [BO]; rfl) | rfl) (fun ht => ?_) (fun ht => ?_) <;> try (first | exact False.elim ht | exact absurd rfl ht | exact absurd trivial ht | exact Bool.noConfusion ht))
          | (with_reducible refine k_ret ?_; repeat with_reducible (first | refine ret_thru ?_ | refine ret_blk ?_ | refine fin ?_))
          | (with_reducible refine k_exit ?_; repeat with_reducible (first | refine thru ?_ | refine out_blk ?_ | refine pass (by decide) ?_))
          | (refine post1 ?_; simp only [GA, Nat.reduceEqDiff, ↓reduceIte])
          | (refine post2 ?_; simp only [GA, Nat.reduceEqDiff, ↓reduceIte])
          | (refine post3 ?_; simp only [GA, Nat.reduceEqDiff, ↓reduceIte])
          | (refine postc (by simp only [GA, Nat.reduceEqDiff, ↓reduceIte]; rfl) (by simp (disch := omega) only [hlt', gx, hx, hr, row_m hr, read_row (row_m hr), hu, row_m hu, read_row (row_m hu), csl, hul, usl, nl_len, nl_snoc, tf, row_m tf, read_row (row_m tf), cf, nf, hf', h0, c52r0, c52r1, c52r2, c52r3, c52r4, c52r5, c52r6, c52r7, c52r8, c52r9, c52r10, c52r11, c52r12, c52r13, c52r14, c52r16, EV0, EV1, EV2, EV3, EV4, EV5, EV6, EV7, EV8, VALS, plug, ite_same, decide_true, decide_false, eq_self, ↓reduceIte, reduceCtorEq, Nat.reduceAdd, Nat.reduceEqDiff, Nat.reduceLT, Nat.reduceLeDiff, Nat.reduceMul, Nat.reduceSub, Nat.reduceDiv, Int.reduceToNat, Int.reduceAdd, Int.reduceSub, Int.reduceMul, Int.reduceNeg, Int.reduceEq, Int.reduceLT, Int.reduceLE]; rfl) ?_)
          | refine post0 ?_
        refine ⟨hlt, ⟨r, ts.set 0 (h.nx + 1 + 4 + 4 + 2 + 4 + 2 + 8), u, (us.set (od l k) (-1))⟩, ?g1, ?g2, u0, ur, ?g3, ?g4, ?g5, ?g6⟩
        case g1 =>
          simp only [Am.keep, List.map_cons, List.map_nil, GA, Nat.reduceEqDiff, ↓reduceIte, hlen1]
          rfl
        case g2 =>
          rw [hat, List.map_set, e0]
          refine N.put (by omega) hn1 (by omega) (by omega) (fun hm => by have := tlt _ hm; omega) (by rw [hcs]; simp (disch := omega) only [c52r0, c52r1, c52r2, c52r3, c52r4, c52r5, c52r6, c52r7, c52r8, c52r9, c52r10, c52r11, c52r12, c52r13, c52r14, c52r16, EV0, EV1, EV2, EV3, EV4, EV5, EV6, EV7, EV8, VALS, plug, ite_same, decide_true, decide_false, eq_self, ↓reduceIte, reduceCtorEq, Nat.reduceAdd, Nat.reduceEqDiff, Nat.reduceLT, Nat.reduceLeDiff, Nat.reduceMul, Nat.reduceSub, Nat.reduceDiv, Int.reduceToNat, Int.reduceAdd, Int.reduceSub, Int.reduceMul, Int.reduceNeg, Int.reduceEq, Int.reduceLT, Int.reduceLE] <;> rfl) (by simp (disch := omega) only [c52r0, c52r1, c52r2, c52r3, c52r4, c52r5, c52r6, c52r7, c52r8, c52r9, c52r10, c52r11, c52r12, c52r13, c52r14, c52r16, EV0, EV1, EV2, EV3, EV4, EV5, EV6, EV7, EV8, VALS, plug, ite_same, decide_true, decide_false, eq_self, ↓reduceIte, reduceCtorEq, Nat.reduceAdd, Nat.reduceEqDiff, Nat.reduceLT, Nat.reduceLeDiff, Nat.reduceMul, Nat.reduceSub, Nat.reduceDiv, Int.reduceToNat, Int.reduceAdd, Int.reduceSub, Int.reduceMul, Int.reduceNeg, Int.reduceEq, Int.reduceLT, Int.reduceLE] <;> rfl) fun s b hs hne hb => ?_
          have l1 := tlt s hs
          have n1 := (N.nr s hs).2
          have n2 : ¬ s = u := fun e => un (e ▸ hs)
          simp (disch := omega) only [hb, c52r0, c52r1, c52r2, c52r3, c52r4, c52r5, c52r6, c52r7, c52r8, c52r9, c52r10, c52r11, c52r12, c52r13, c52r14, c52r16, EV0, EV1, EV2, EV3, EV4, EV5, EV6, EV7, EV8, VALS, plug, ite_same, decide_true, decide_false, eq_self, ↓reduceIte, reduceCtorEq, Nat.reduceAdd, Nat.reduceEqDiff, Nat.reduceLT, Nat.reduceLeDiff, Nat.reduceMul, Nat.reduceSub, Nat.reduceDiv, Int.reduceToNat, Int.reduceAdd, Int.reduceSub, Int.reduceMul, Int.reduceNeg, Int.reduceEq, Int.reduceLT, Int.reduceLE]
        case g3 =>
          intro hm
          rcases List.mem_or_eq_of_mem_set hm with q | q
          · exact un q
          · simp only [] at q; omega
        case g4 => simp (disch := omega) only [hu, List.set_set, c52r0, c52r1, c52r2, c52r3, c52r4, c52r5, c52r6, c52r7, c52r8, c52r9, c52r10, c52r11, c52r12, c52r13, c52r14, c52r16, EV0, EV1, EV2, EV3, EV4, EV5, EV6, EV7, EV8, VALS, plug, ite_same, decide_true, decide_false, eq_self, ↓reduceIte, reduceCtorEq, Nat.reduceAdd, Nat.reduceEqDiff, Nat.reduceLT, Nat.reduceLeDiff, Nat.reduceMul, Nat.reduceSub, Nat.reduceDiv, Int.reduceToNat, Int.reduceAdd, Int.reduceSub, Int.reduceMul, Int.reduceNeg, Int.reduceEq, Int.reduceLT, Int.reduceLE] <;> rfl
        case g5 => simp only [List.length_set]; exact hul
        case g6 => exact us_step hul hlt hus (by rw [hund]; try rfl)
      | succ f =>
        have h0 : (0 : Int) < ((f + 1 : Nat) : Int) := by omega
        rw [if_neg (by omega), Nat.add_sub_cancel] at hund
        have e1 : ((f + 1 : Nat) : Int) - 1 = (f : Int) := by omega
        have hg : f < (rowsK l k).length := by omega
        have hg' : (f : Int) < (rowsK l k).length := by omega
        have cg := N.cell (i := f) (by omega)
        rw [rD_map hg, hcs] at cg
        have tg := N.row (i := f) (by omega)
        rw [rD_map hg] at tg
        have mg := N.mem (i := f) (by omega)
        have ltg := tlt _ mg
        have neg := N.ne (i := f) (by omega)
        have negu : ¬ tD ts f = u := fun e => un (e ▸ mg)
        have rlg := rin f hg
        have hne := Rk.ne _ (mem_row hg)
        have hp : 0 < ((rowsK l k).getD f []).length := List.length_pos_iff.2 hne
        have e2 : (((rowsK l k).getD f []).length : Int) - 1 = ((((rowsK l k).getD f []).length - 1 : Nat) : Int) := by omega
        have e3 : ((rowsK l k).getD f []).length - 1 < ((rowsK l k).getD f []).length := by omega
        have g := last_get hne
        simp only at cg tg
        repeat' first
          | with_reducible refine k_seq ?_
          | with_reducible refine k_skip ?_
          | with_reducible refine k_blkS ?_
          | with_reducible refine k_blkR ?_
          | with_reducible refine k_blkC ?_
          | with_reducible refine k_blkH ?_
          | with_reducible refine k_blkB ?_
          | with_reducible refine k_blkK ?_
          | with_reducible refine k_blkE ?_
          | with_reducible refine k_reg ?_
          | with_reducible refine k_head (by with_unfolding_all rfl) ?_
          | with_reducible refine k_headS ?_
          | (with_reducible refine SepK.mk ?_ ?_; (refine sepQ_P ?_; simp [sepQ, sepG, AOp.late, AOp.free, AOp.xs, AOp.isAl, tokNe, AV.tok, stS_get, strip, AX.val, c52r0, c52r1, c52r2, c52r3, c52r4, c52r5, c52r6, c52r7, c52r8, c52r9, c52r10, c52r11, c52r12, c52r13, c52r14, c52r16, GA]; try omega))
          | with_reducible refine r_done ?_
          | with_reducible refine hr_done ?_
          | with_reducible refine s_go (by simp (disch := omega) only [hlt', gx, hx, hr, row_m hr, read_row (row_m hr), hu, row_m hu, read_row (row_m hu), csl, hul, usl, nl_len, nl_snoc, tf, row_m tf, read_row (row_m tf), cf, nf, hf', h0, e1, hg', tg, row_m tg, read_row (row_m tg), cg, e2, e3, g, List.set_set, List.length_set, c52r0, c52r1, c52r2, c52r3, c52r4, c52r5, c52r6, c52r7, c52r8, c52r9, c52r10, c52r11, c52r12, c52r13, c52r14, c52r16, EV0, EV1, EV2, EV3, EV4, EV5, EV6, EV7, EV8, VALS, plug, ite_same, decide_true, decide_false, eq_self, ↓reduceIte, reduceCtorEq, Nat.reduceAdd, Nat.reduceEqDiff, Nat.reduceLT, Nat.reduceLeDiff, Nat.reduceMul, Nat.reduceSub, Nat.reduceDiv, Int.reduceToNat, Int.reduceAdd, Int.reduceSub, Int.reduceMul, Int.reduceNeg, Int.reduceEq, Int.reduceLT, Int.reduceLE]; with_reducible rfl) ?_
          | with_reducible refine h_go (by with_unfolding_all rfl) (by simp (disch := omega) only [hlt', gx, hx, hr, row_m hr, read_row (row_m hr), hu, row_m hu, read_row (row_m hu), csl, hul, usl, nl_len, nl_snoc, tf, row_m tf, read_row (row_m tf), cf, nf, hf', h0, e1, hg', tg, row_m tg, read_row (row_m tg), cg, e2, e3, g, List.set_set, List.length_set, c52r0, c52r1, c52r2, c52r3, c52r4, c52r5, c52r6, c52r7, c52r8, c52r9, c52r10, c52r11, c52r12, c52r13, c52r14, c52r16, EV0, EV1, EV2, EV3, EV4, EV5, EV6, EV7, EV8, VALS, plug, ite_same, decide_true, decide_false, eq_self, ↓reduceIte, reduceCtorEq, Nat.reduceAdd, Nat.reduceEqDiff, Nat.reduceLT, Nat.reduceLeDiff, Nat.reduceMul, Nat.reduceSub, Nat.reduceDiv, Int.reduceToNat, Int.reduceAdd, Int.reduceSub, Int.reduceMul, Int.reduceNeg, Int.reduceEq, Int.reduceLT, Int.reduceLE]; with_reducible rfl) ?_
          | ((with_reducible refine chk_r ?_); refine r_callF (by simp only [CA, Nat.reduceEqDiff, ↓reduceIte]; rfl) (by exact rfl) (by simp only [CA, Nat.reduceEqDiff, ↓reduceIte]; rfl) rfl ?_)
          | ((with_reducible refine chk_h ?_); refine hr_callF (by simp only [CA, Nat.reduceEqDiff, ↓reduceIte]; rfl) (by exact rfl) (by simp only [CA, Nat.reduceEqDiff, ↓reduceIte]; rfl) rfl ?_)
          | ((with_reducible refine chk_r ?_); refine r_callP (by simp only [CA, Nat.reduceEqDiff, ↓reduceIte]; rfl) (by simp only [CA, Nat.reduceEqDiff, ↓reduceIte]; rfl) (by first | ((refine PC.at q86 rfl ?_; refine .cons (now _ ?_) (.cons (.fn .nil (.cons (.same (by simp only [AV.plain, AV.plains, flB_plain, Bool.and_true])) (.cons (.p (by simp (disch := omega) only [c52r0, c52r1, c52r2, c52r3, c52r4, c52r5, c52r6, c52r7, c52r8, c52r9, c52r10, c52r11, c52r12, c52r13, c52r14, c52r16, EV0, EV1, EV2, EV3, EV4, EV5, EV6, EV7, EV8, VALS, plug, ite_same, decide_true, decide_false, eq_self, ↓reduceIte, reduceCtorEq, Nat.reduceAdd, Nat.reduceEqDiff, Nat.reduceLT, Nat.reduceLeDiff, Nat.reduceMul, Nat.reduceSub, Nat.reduceDiv, Int.reduceToNat, Int.reduceAdd, Int.reduceSub, Int.reduceMul, Int.reduceNeg, Int.reduceEq, Int.reduceLT, Int.reduceLE] <;> rfl) (Nows.same rfl)) .nil))) .nil); intro t b hb; have := ok.m hb; simp (disch := omega) only [hb, c52r0, c52r1, c52r2, c52r3, c52r4, c52r5, c52r6, c52r7, c52r8, c52r9, c52r10, c52r11, c52r12, c52r13, c52r14, c52r16, EV0, EV1, EV2, EV3, EV4, EV5, EV6, EV7, EV8, VALS, plug, ite_same, decide_true, decide_false, eq_self, ↓reduceIte, reduceCtorEq, Nat.reduceAdd, Nat.reduceEqDiff, Nat.reduceLT, Nat.reduceLeDiff, Nat.reduceMul, Nat.reduceSub, Nat.reduceDiv, Int.reduceToNat, Int.reduceAdd, Int.reduceSub, Int.reduceMul, Int.reduceNeg, Int.reduceEq, Int.reduceLT, Int.reduceLE]); all_goals fail)) rfl ?_)
          | ((with_reducible refine chk_h ?_); refine hr_callP (by simp only [CA, Nat.reduceEqDiff, ↓reduceIte]; rfl) (by simp only [CA, Nat.reduceEqDiff, ↓reduceIte]; rfl) (by first | ((refine PC.at q86 rfl ?_; refine .cons (now _ ?_) (.cons (.fn .nil (.cons (.same (by simp only [AV.plain, AV.plains, flB_plain, Bool.and_true])) (.cons (.p (by simp (disch := omega) only [c52r0, c52r1, c52r2, c52r3, c52r4, c52r5, c52r6, c52r7, c52r8, c52r9, c52r10, c52r11, c52r12, c52r13, c52r14, c52r16, EV0, EV1, EV2, EV3, EV4, EV5, EV6, EV7, EV8, VALS, plug, ite_same, decide_true, decide_false, eq_self, ↓reduceIte, reduceCtorEq, Nat.reduceAdd, Nat.reduceEqDiff, Nat.reduceLT, Nat.reduceLeDiff, Nat.reduceMul, Nat.reduceSub, Nat.reduceDiv, Int.reduceToNat, Int.reduceAdd, Int.reduceSub, Int.reduceMul, Int.reduceNeg, Int.reduceEq, Int.reduceLT, Int.reduceLE] <;> rfl) (Nows.same rfl)) .nil))) .nil); intro t b hb; have := ok.m hb; simp (disch := omega) only [hb, c52r0, c52r1, c52r2, c52r3, c52r4, c52r5, c52r6, c52r7, c52r8, c52r9, c52r10, c52r11, c52r12, c52r13, c52r14, c52r16, EV0, EV1, EV2, EV3, EV4, EV5, EV6, EV7, EV8, VALS, plug, ite_same, decide_true, decide_false, eq_self, ↓reduceIte, reduceCtorEq, Nat.reduceAdd, Nat.reduceEqDiff, Nat.reduceLT, Nat.reduceLeDiff, Nat.reduceMul, Nat.reduceSub, Nat.reduceDiv, Int.reduceToNat, Int.reduceAdd, Int.reduceSub, Int.reduceMul, Int.reduceNeg, Int.reduceEq, Int.reduceLT, Int.reduceLE]); all_goals fail)) rfl ?_)
          | ((with_reducible refine chk_h ?_); refine hr_callP1 (by simp only [CA, Nat.reduceEqDiff, ↓reduceIte]; rfl) (by simp only [CA, Nat.reduceEqDiff, ↓reduceIte]; rfl) (by simp (disch := omega) only [CA, Nat.reduceEqDiff, ↓reduceIte, firstTok_nil, firstTok_sl, firstTok_sl0, firstTok_i, firstTok_b, firstTok_ag, firstTok_p, firstTok_s]; rfl) (by first | ((refine PC.at q86 rfl ?_; refine .cons (now _ ?_) (.cons (.fn .nil (.cons (.same (by simp only [AV.plain, AV.plains, flB_plain, Bool.and_true])) (.cons (.p (by simp (disch := omega) only [c52r0, c52r1, c52r2, c52r3, c52r4, c52r5, c52r6, c52r7, c52r8, c52r9, c52r10, c52r11, c52r12, c52r13, c52r14, c52r16, EV0, EV1, EV2, EV3, EV4, EV5, EV6, EV7, EV8, VALS, plug, ite_same, decide_true, decide_false, eq_self, ↓reduceIte, reduceCtorEq, Nat.reduceAdd, Nat.reduceEqDiff, Nat.reduceLT, Nat.reduceLeDiff, Nat.reduceMul, Nat.reduceSub, Nat.reduceDiv, Int.reduceToNat, Int.reduceAdd, Int.reduceSub, Int.reduceMul, Int.reduceNeg, Int.reduceEq, Int.reduceLT, Int.reduceLE] <;> rfl) (Nows.same rfl)) .nil))) .nil); intro t b hb; have := ok.m hb; simp (disch := omega) only [hb, c52r0, c52r1, c52r2, c52r3, c52r4, c52r5, c52r6, c52r7, c52r8, c52r9, c52r10, c52r11, c52r12, c52r13, c52r14, c52r16, EV0, EV1, EV2, EV3, EV4, EV5, EV6, EV7, EV8, VALS, plug, ite_same, decide_true, decide_false, eq_self, ↓reduceIte, reduceCtorEq, Nat.reduceAdd, Nat.reduceEqDiff, Nat.reduceLT, Nat.reduceLeDiff, Nat.reduceMul, Nat.reduceSub, Nat.reduceDiv, Int.reduceToNat, Int.reduceAdd, Int.reduceSub, Int.reduceMul, Int.reduceNeg, Int.reduceEq, Int.reduceLT, Int.reduceLE]); all_goals fail)) rfl ?_)
          | ((with_reducible refine chk_h ?_); refine hr_app (by simp (disch := omega) only [hlt', gx, hx, hr, row_m hr, read_row (row_m hr), hu, row_m hu, read_row (row_m hu), csl, hul, usl, nl_len, nl_snoc, tf, row_m tf, read_row (row_m tf), cf, nf, hf', h0, e1, hg', tg, row_m tg, read_row (row_m tg), cg, e2, e3, g, List.set_set, List.length_set, c52r0, c52r1, c52r2, c52r3, c52r4, c52r5, c52r6, c52r7, c52r8, c52r9, c52r10, c52r11, c52r12, c52r13, c52r14, c52r16, EV0, EV1, EV2, EV3, EV4, EV5, EV6, EV7, EV8, VALS, plug, ite_same, decide_true, decide_false, eq_self, ↓reduceIte, reduceCtorEq, Nat.reduceAdd, Nat.reduceEqDiff, Nat.reduceLT, Nat.reduceLeDiff, Nat.reduceMul, Nat.reduceSub, Nat.reduceDiv, Int.reduceToNat, Int.reduceAdd, Int.reduceSub, Int.reduceMul, Int.reduceNeg, Int.reduceEq, Int.reduceLT, Int.reduceLE]; with_reducible rfl) rfl ?_)
          | (with_reducible refine k_condP (by simp only [GA, Nat.reduceEqDiff, ↓reduceIte]; rfl) (by first | (simp only [BO]; rfl) | rfl) (fun ht => ?_) (fun ht => ?_) <;> try (first | exact False.elim ht | exact absurd rfl ht | exact absurd trivial ht | exact Bool.noConfusion ht))
          | (with_reducible refine k_ret ?_; repeat with_reducible (first | refine ret_thru ?_ | refine ret_blk ?_ | refine fin ?_))
          | (with_reducible refine k_exit ?_; repeat with_reducible (first | refine thru ?_ | refine out_blk ?_ | refine pass (by decide) ?_))
          | (refine post1 ?_; simp only [GA, Nat.reduceEqDiff, ↓reduceIte])
          | (refine post2 ?_; simp only [GA, Nat.reduceEqDiff, ↓reduceIte])
          | (refine post3 ?_; simp only [GA, Nat.reduceEqDiff, ↓reduceIte])
          | (refine postc (by simp only [GA, Nat.reduceEqDiff, ↓reduceIte]; rfl) (by simp (disch := omega) only [hlt', gx, hx, hr, row_m hr, read_row (row_m hr), hu, row_m hu, read_row (row_m hu), csl, hul, usl, nl_len, nl_snoc, tf, row_m tf, read_row (row_m tf), cf, nf, hf', h0, e1, hg', tg, row_m tg, read_row (row_m tg), cg, e2, e3, g, List.set_set, List.length_set, c52r0, c52r1, c52r2, c52r3, c52r4, c52r5, c52r6, c52r7, c52r8, c52r9, c52r10, c52r11, c52r12, c52r13, c52r14, c52r16, EV0, EV1, EV2, EV3, EV4, EV5, EV6, EV7, EV8, VALS, plug, ite_same, decide_true, decide_false, eq_self, ↓reduceIte, reduceCtorEq, Nat.reduceAdd, Nat.reduceEqDiff, Nat.reduceLT, Nat.reduceLeDiff, Nat.reduceMul, Nat.reduceSub, Nat.reduceDiv, Int.reduceToNat, Int.reduceAdd, Int.reduceSub, Int.reduceMul, Int.reduceNeg, Int.reduceEq, Int.reduceLT, Int.reduceLE]; rfl) ?_)
          | refine post0 ?_
        refine ⟨hlt, ⟨r, ts.set (f + 1) (h.nx + 1 + 4 + 4 + 2 + 4 + 2 + 6 + 10 + 8), u, (us.set (od l k) ((lastN ((rowsK l k).getD f []) : Nat) : Int))⟩, ?g1, ?g2, u0, ur, ?g3, ?g4, ?g5, ?g6⟩
        case g1 =>
          simp only [Am.keep, List.map_cons, List.map_nil, GA, Nat.reduceEqDiff, ↓reduceIte, hlen1]
          rfl
        case g2 =>
          rw [hat, List.map_set, e0]
          refine N.put (by omega) hn1 (by omega) (by omega) (fun hm => by have := tlt _ hm; omega) (by rw [hcs]; simp (disch := omega) only [c52r0, c52r1, c52r2, c52r3, c52r4, c52r5, c52r6, c52r7, c52r8, c52r9, c52r10, c52r11, c52r12, c52r13, c52r14, c52r16, EV0, EV1, EV2, EV3, EV4, EV5, EV6, EV7, EV8, VALS, plug, ite_same, decide_true, decide_false, eq_self, ↓reduceIte, reduceCtorEq, Nat.reduceAdd, Nat.reduceEqDiff, Nat.reduceLT, Nat.reduceLeDiff, Nat.reduceMul, Nat.reduceSub, Nat.reduceDiv, Int.reduceToNat, Int.reduceAdd, Int.reduceSub, Int.reduceMul, Int.reduceNeg, Int.reduceEq, Int.reduceLT, Int.reduceLE] <;> rfl) (by simp (disch := omega) only [c52r0, c52r1, c52r2, c52r3, c52r4, c52r5, c52r6, c52r7, c52r8, c52r9, c52r10, c52r11, c52r12, c52r13, c52r14, c52r16, EV0, EV1, EV2, EV3, EV4, EV5, EV6, EV7, EV8, VALS, plug, ite_same, decide_true, decide_false, eq_self, ↓reduceIte, reduceCtorEq, Nat.reduceAdd, Nat.reduceEqDiff, Nat.reduceLT, Nat.reduceLeDiff, Nat.reduceMul, Nat.reduceSub, Nat.reduceDiv, Int.reduceToNat, Int.reduceAdd, Int.reduceSub, Int.reduceMul, Int.reduceNeg, Int.reduceEq, Int.reduceLT, Int.reduceLE] <;> rfl) fun s b hs hne hb => ?_
          have l1 := tlt s hs
          have n1 := (N.nr s hs).2
          have n2 : ¬ s = u := fun e => un (e ▸ hs)
          simp (disch := omega) only [hb, c52r0, c52r1, c52r2, c52r3, c52r4, c52r5, c52r6, c52r7, c52r8, c52r9, c52r10, c52r11, c52r12, c52r13, c52r14, c52r16, EV0, EV1, EV2, EV3, EV4, EV5, EV6, EV7, EV8, VALS, plug, ite_same, decide_true, decide_false, eq_self, ↓reduceIte, reduceCtorEq, Nat.reduceAdd, Nat.reduceEqDiff, Nat.reduceLT, Nat.reduceLeDiff, Nat.reduceMul, Nat.reduceSub, Nat.reduceDiv, Int.reduceToNat, Int.reduceAdd, Int.reduceSub, Int.reduceMul, Int.reduceNeg, Int.reduceEq, Int.reduceLT, Int.reduceLE]
        case g3 =>
          intro hm
          rcases List.mem_or_eq_of_mem_set hm with q | q
          · exact un q
          · simp only [] at q; omega
        case g4 => simp (disch := omega) only [hu, List.set_set, c52r0, c52r1, c52r2, c52r3, c52r4, c52r5, c52r6, c52r7, c52r8, c52r9, c52r10, c52r11, c52r12, c52r13, c52r14, c52r16, EV0, EV1, EV2, EV3, EV4, EV5, EV6, EV7, EV8, VALS, plug, ite_same, decide_true, decide_false, eq_self, ↓reduceIte, reduceCtorEq, Nat.reduceAdd, Nat.reduceEqDiff, Nat.reduceLT, Nat.reduceLeDiff, Nat.reduceMul, Nat.reduceSub, Nat.reduceDiv, Int.reduceToNat, Int.reduceAdd, Int.reduceSub, Int.reduceMul, Int.reduceNeg, Int.reduceEq, Int.reduceLT, Int.reduceLE] <;> rfl
        case g5 => simp only [List.length_set]; exact hul
        case g6 => exact us_step hul hlt hus (by rw [hund]; try rfl)
    · rw [if_neg hf] at q86 hat
      have hfe : f = (rowsK l k).length := by omega
      have csl := rC_len (k := 1) N.len
      rw [Nl] at csl
      have hlen1 : (rowsK l (k + 1)).length = (rowsK l k).length + 1 := by rw [hat]; simp
      have e0 : [[od l k]].map rw1 = [(1, nl [od l k])] := rfl
      have c0 : ∀ cs : List AV, cs.length = (rowsK l k).length → (cs ++ [AV.sl 0 0 0 0])[(rowsK l k).length]? = some (.sl 0 0 0 0) := fun cs h => get_last h
      have lt1 : ((rowsK l k).length : Int) < (((rowsK l k).length + 1 : Nat) : Int) := by omega
      have sx : ∀ x : Nat, ([AV.i .i64 (x : Int)] : List AV) = nl [x] := fun x => rfl
      cases f with
      | zero =>
        have z : (rowsK l k).length = 0 := by omega
        have h0 : ¬ (0 : Int) < ((rowsK l k).length : Int) := by omega
        rw [if_pos rfl] at hund
        generalize hcs : rC 1 ts ((rowsK l k).map rw1) = cs at hr csl
        have c0 := c0 cs csl
        have c2 : (cs ++ [AV.sl 0 0 0 0]).length = (rowsK l k).length + 1 := by rw [List.length_append, csl]; rfl
        repeat' first
          | with_reducible refine k_seq ?_
          | with_reducible refine k_skip ?_
          | with_reducible refine k_blkS ?_
          | with_reducible refine k_blkR ?_
          | with_reducible refine k_blkC ?_
          | with_reducible refine k_blkH ?_
          | with_reducible refine k_blkB ?_
          | with_reducible refine k_blkK ?_
          | with_reducible refine k_blkE ?_
          | with_reducible refine k_reg ?_
          | with_reducible refine k_head (by with_unfolding_all rfl) ?_
          | with_reducible refine k_headS ?_
          | (with_reducible refine SepK.mk ?_ ?_; (refine sepQ_P ?_; simp [sepQ, sepG, AOp.late, AOp.free, AOp.xs, AOp.isAl, tokNe, AV.tok, stS_get, strip, AX.val, c52r0, c52r1, c52r2, c52r3, c52r4, c52r5, c52r6, c52r7, c52r8, c52r9, c52r10, c52r11, c52r12, c52r13, c52r14, c52r16, GA]; try omega))
          | with_reducible refine r_done ?_
          | with_reducible refine hr_done ?_
          | with_reducible refine s_go (by simp (disch := omega) only [hlt', gx, hx, hr, row_m hr, read_row (row_m hr), hu, row_m hu, read_row (row_m hu), csl, hul, usl, nl_len, nl_snoc, h0, c0, c2, lt1, c52r0, c52r1, c52r2, c52r3, c52r4, c52r5, c52r6, c52r7, c52r8, c52r9, c52r10, c52r11, c52r12, c52r13, c52r14, c52r16, EV0, EV1, EV2, EV3, EV4, EV5, EV6, EV7, EV8, VALS, plug, ite_same, decide_true, decide_false, eq_self, ↓reduceIte, reduceCtorEq, Nat.reduceAdd, Nat.reduceEqDiff, Nat.reduceLT, Nat.reduceLeDiff, Nat.reduceMul, Nat.reduceSub, Nat.reduceDiv, Int.reduceToNat, Int.reduceAdd, Int.reduceSub, Int.reduceMul, Int.reduceNeg, Int.reduceEq, Int.reduceLT, Int.reduceLE]; with_reducible rfl) ?_
          | with_reducible refine h_go (by with_unfolding_all rfl) (by simp (disch := omega) only [hlt', gx, hx, hr, row_m hr, read_row (row_m hr), hu, row_m hu, read_row (row_m hu), csl, hul, usl, nl_len, nl_snoc, h0, c0, c2, lt1, c52r0, c52r1, c52r2, c52r3, c52r4, c52r5, c52r6, c52r7, c52r8, c52r9, c52r10, c52r11, c52r12, c52r13, c52r14, c52r16, EV0, EV1, EV2, EV3, EV4, EV5, EV6, EV7, EV8, VALS, plug, ite_same, decide_true, decide_false, eq_self, ↓reduceIte, reduceCtorEq, Nat.reduceAdd, Nat.reduceEqDiff, Nat.reduceLT, Nat.reduceLeDiff, Nat.reduceMul, Nat.reduceSub, Nat.reduceDiv, Int.reduceToNat, Int.reduceAdd, Int.reduceSub, Int.reduceMul, Int.reduceNeg, Int.reduceEq, Int.reduceLT, Int.reduceLE]; with_reducible rfl) ?_
          | ((with_reducible refine chk_r ?_); refine r_callF (by simp only [CA, Nat.reduceEqDiff, ↓reduceIte]; rfl) (by exact rfl) (by simp only [CA, Nat.reduceEqDiff, ↓reduceIte]; rfl) rfl ?_)
          | ((with_reducible refine chk_h ?_); refine hr_callF (by simp only [CA, Nat.reduceEqDiff, ↓reduceIte]; rfl) (by exact rfl) (by simp only [CA, Nat.reduceEqDiff, ↓reduceIte]; rfl) rfl ?_)
          | ((with_reducible refine chk_r ?_); refine r_callP (by simp only [CA, Nat.reduceEqDiff, ↓reduceIte]; rfl) (by simp only [CA, Nat.reduceEqDiff, ↓reduceIte]; rfl) (by first | ((refine PC.at q86 rfl ?_; refine .cons (now _ ?_) (.cons (.fn .nil (.cons (.same (by simp only [AV.plain, AV.plains, flB_plain, Bool.and_true])) (.cons (.p (by simp (disch := omega) only [c52r0, c52r1, c52r2, c52r3, c52r4, c52r5, c52r6, c52r7, c52r8, c52r9, c52r10, c52r11, c52r12, c52r13, c52r14, c52r16, EV0, EV1, EV2, EV3, EV4, EV5, EV6, EV7, EV8, VALS, plug, ite_same, decide_true, decide_false, eq_self, ↓reduceIte, reduceCtorEq, Nat.reduceAdd, Nat.reduceEqDiff, Nat.reduceLT, Nat.reduceLeDiff, Nat.reduceMul, Nat.reduceSub, Nat.reduceDiv, Int.reduceToNat, Int.reduceAdd, Int.reduceSub, Int.reduceMul, Int.reduceNeg, Int.reduceEq, Int.reduceLT, Int.reduceLE] <;> rfl) (Nows.same rfl)) .nil))) .nil); intro t b hb; have := ok.m hb; simp (disch := omega) only [hb, c52r0, c52r1, c52r2, c52r3, c52r4, c52r5, c52r6, c52r7, c52r8, c52r9, c52r10, c52r11, c52r12, c52r13, c52r14, c52r16, EV0, EV1, EV2, EV3, EV4, EV5, EV6, EV7, EV8, VALS, plug, ite_same, decide_true, decide_false, eq_self, ↓reduceIte, reduceCtorEq, Nat.reduceAdd, Nat.reduceEqDiff, Nat.reduceLT, Nat.reduceLeDiff, Nat.reduceMul, Nat.reduceSub, Nat.reduceDiv, Int.reduceToNat, Int.reduceAdd, Int.reduceSub, Int.reduceMul, Int.reduceNeg, Int.reduceEq, Int.reduceLT, Int.reduceLE]); all_goals fail)) rfl ?_)
          | ((with_reducible refine chk_h ?_); refine hr_callP (by simp only [CA, Nat.reduceEqDiff, ↓reduceIte]; rfl) (by simp only [CA, Nat.reduceEqDiff, ↓reduceIte]; rfl) (by first | ((refine PC.at q86 rfl ?_; refine .cons (now _ ?_) (.cons (.fn .nil (.cons (.same (by simp only [AV.plain, AV.plains, flB_plain, Bool.and_true])) (.cons (.p (by simp (disch := omega) only [c52r0, c52r1, c52r2, c52r3, c52r4, c52r5, c52r6, c52r7, c52r8, c52r9, c52r10, c52r11, c52r12, c52r13, c52r14, c52r16, EV0, EV1, EV2, EV3, EV4, EV5, EV6, EV7, EV8, VALS, plug, ite_same, decide_true, decide_false, eq_self, ↓reduceIte, reduceCtorEq, Nat.reduceAdd, Nat.reduceEqDiff, Nat.reduceLT, Nat.reduceLeDiff, Nat.reduceMul, Nat.reduceSub, Nat.reduceDiv, Int.reduceToNat, Int.reduceAdd, Int.reduceSub, Int.reduceMul, Int.reduceNeg, Int.reduceEq, Int.reduceLT, Int.reduceLE] <;> rfl) (Nows.same rfl)) .nil))) .nil); intro t b hb; have := ok.m hb; simp (disch := omega) only [hb, c52r0, c52r1, c52r2, c52r3, c52r4, c52r5, c52r6, c52r7, c52r8, c52r9, c52r10, c52r11, c52r12, c52r13, c52r14, c52r16, EV0, EV1, EV2, EV3, EV4, EV5, EV6, EV7, EV8, VALS, plug, ite_same, decide_true, decide_false, eq_self, ↓reduceIte, reduceCtorEq, Nat.reduceAdd, Nat.reduceEqDiff, Nat.reduceLT, Nat.reduceLeDiff, Nat.reduceMul, Nat.reduceSub, Nat.reduceDiv, Int.reduceToNat, Int.reduceAdd, Int.reduceSub, Int.reduceMul, Int.reduceNeg, Int.reduceEq, Int.reduceLT, Int.reduceLE]); all_goals fail)) rfl ?_)
          | ((with_reducible refine chk_h ?_); refine hr_callP1 (by simp only [CA, Nat.reduceEqDiff, ↓reduceIte]; rfl) (by simp only [CA, Nat.reduceEqDiff, ↓reduceIte]; rfl) (by simp (disch := omega) only [CA, Nat.reduceEqDiff, ↓reduceIte, firstTok_nil, firstTok_sl, firstTok_sl0, firstTok_i, firstTok_b, firstTok_ag, firstTok_p, firstTok_s]; rfl) (by first | ((refine PC.at q86 rfl ?_; refine .cons (now _ ?_) (.cons (.fn .nil (.cons (.same (by simp only [AV.plain, AV.plains, flB_plain, Bool.and_true])) (.cons (.p (by simp (disch := omega) only [c52r0, c52r1, c52r2, c52r3, c52r4, c52r5, c52r6, c52r7, c52r8, c52r9, c52r10, c52r11, c52r12, c52r13, c52r14, c52r16, EV0, EV1, EV2, EV3, EV4, EV5, EV6, EV7, EV8, VALS, plug, ite_same, decide_true, decide_false, eq_self, ↓reduceIte, reduceCtorEq, Nat.reduceAdd, Nat.reduceEqDiff, Nat.reduceLT, Nat.reduceLeDiff, Nat.reduceMul, Nat.reduceSub, Nat.reduceDiv, Int.reduceToNat, Int.reduceAdd, Int.reduceSub, Int.reduceMul, Int.reduceNeg, Int.reduceEq, Int.reduceLT, Int.reduceLE] <;> rfl) (Nows.same rfl)) .nil))) .nil); intro t b hb; have := ok.m hb; simp (disch := omega) only [hb, c52r0, c52r1, c52r2, c52r3, c52r4, c52r5, c52r6, c52r7, c52r8, c52r9, c52r10, c52r11, c52r12, c52r13, c52r14, c52r16, EV0, EV1, EV2, EV3, EV4, EV5, EV6, EV7, EV8, VALS, plug, ite_same, decide_true, decide_false, eq_self, ↓reduceIte, reduceCtorEq, Nat.reduceAdd, Nat.reduceEqDiff, Nat.reduceLT, Nat.reduceLeDiff, Nat.reduceMul, Nat.reduceSub, Nat.reduceDiv, Int.reduceToNat, Int.reduceAdd, Int.reduceSub, Int.reduceMul, Int.reduceNeg, Int.reduceEq, Int.reduceLT, Int.reduceLE]); all_goals fail)) rfl ?_)
          | ((with_reducible refine chk_h ?_); refine hr_app (by simp (disch := omega) only [hlt', gx, hx, hr, row_m hr, read_row (row_m hr), hu, row_m hu, read_row (row_m hu), csl, hul, usl, nl_len, nl_snoc, h0, c0, c2, lt1, c52r0, c52r1, c52r2, c52r3, c52r4, c52r5, c52r6, c52r7, c52r8, c52r9, c52r10, c52r11, c52r12, c52r13, c52r14, c52r16, EV0, EV1, EV2, EV3, EV4, EV5, EV6, EV7, EV8, VALS, plug, ite_same, decide_true, decide_false, eq_self, ↓reduceIte, reduceCtorEq, Nat.reduceAdd, Nat.reduceEqDiff, Nat.reduceLT, Nat.reduceLeDiff, Nat.reduceMul, Nat.reduceSub, Nat.reduceDiv, Int.reduceToNat, Int.reduceAdd, Int.reduceSub, Int.reduceMul, Int.reduceNeg, Int.reduceEq, Int.reduceLT, Int.reduceLE]; with_reducible rfl) rfl ?_)
          | (with_reducible refine k_condP (by simp only [GA, Nat.reduceEqDiff, ↓reduceIte]; rfl) (by first | (simp only [BO]; rfl) | rfl) (fun ht => ?_) (fun ht => ?_) <;> try (first | exact False.elim ht | exact absurd rfl ht | exact absurd trivial ht | exact Bool.noConfusion ht))
          | (with_reducible refine k_ret ?_; repeat with_reducible (first | refine ret_thru ?_ | refine ret_blk ?_ | refine fin ?_))
          | (with_reducible refine k_exit ?_; repeat with_reducible (first | refine thru ?_ | refine out_blk ?_ | refine pass (by decide) ?_))
          | (refine post1 ?_; simp only [GA, Nat.reduceEqDiff, ↓reduceIte])
          | (refine post2 ?_; simp only [GA, Nat.reduceEqDiff, ↓reduceIte])
          | (refine post3 ?_; simp only [GA, Nat.reduceEqDiff, ↓reduceIte])
          | (refine postc (by simp only [GA, Nat.reduceEqDiff, ↓reduceIte]; rfl) (by simp (disch := omega) only [hlt', gx, hx, hr, row_m hr, read_row (row_m hr), hu, row_m hu, read_row (row_m hu), csl, hul, usl, nl_len, nl_snoc, h0, c0, c2, lt1, c52r0, c52r1, c52r2, c52r3, c52r4, c52r5, c52r6, c52r7, c52r8, c52r9, c52r10, c52r11, c52r12, c52r13, c52r14, c52r16, EV0, EV1, EV2, EV3, EV4, EV5, EV6, EV7, EV8, VALS, plug, ite_same, decide_true, decide_false, eq_self, ↓reduceIte, reduceCtorEq, Nat.reduceAdd, Nat.reduceEqDiff, Nat.reduceLT, Nat.reduceLeDiff, Nat.reduceMul, Nat.reduceSub, Nat.reduceDiv, Int.reduceToNat, Int.reduceAdd, Int.reduceSub, Int.reduceMul, Int.reduceNeg, Int.reduceEq, Int.reduceLT, Int.reduceLE]; rfl) ?_)
          | refine post0 ?_
        refine ⟨hlt, ⟨(h.nx + 1 + 4 + 4 + 2 + 3 + 2), ts ++ [(h.nx + 1 + 4 + 4 + 2 + 3 + 4 + 4 + 2 + 8)], u, (us.set (od l k) (-1))⟩, ?g1, ?g2, u0, ?g7, ?g3, ?g4, ?g5, ?g6⟩
        case g1 =>
          simp only [Am.keep, List.map_cons, List.map_nil, GA, Nat.reduceEqDiff, ↓reduceIte, hlen1]
          rfl
        case g2 =>
          rw [hat, List.map_append, e0]
          refine N.snoc (n := 1) (cs := nl [od l k]) rfl (by omega) (by omega) (by omega) (fun hm => by have := tlt _ hm; omega) (fun hm => by have := tlt _ hm; omega) (by rw [hcs]; simp (disch := omega) only [set_last csl, c52r0, c52r1, c52r2, c52r3, c52r4, c52r5, c52r6, c52r7, c52r8, c52r9, c52r10, c52r11, c52r12, c52r13, c52r14, c52r16, EV0, EV1, EV2, EV3, EV4, EV5, EV6, EV7, EV8, VALS, plug, ite_same, decide_true, decide_false, eq_self, ↓reduceIte, reduceCtorEq, Nat.reduceAdd, Nat.reduceEqDiff, Nat.reduceLT, Nat.reduceLeDiff, Nat.reduceMul, Nat.reduceSub, Nat.reduceDiv, Int.reduceToNat, Int.reduceAdd, Int.reduceSub, Int.reduceMul, Int.reduceNeg, Int.reduceEq, Int.reduceLT, Int.reduceLE] <;> rfl) (by simp (disch := omega) only [c52r0, c52r1, c52r2, c52r3, c52r4, c52r5, c52r6, c52r7, c52r8, c52r9, c52r10, c52r11, c52r12, c52r13, c52r14, c52r16, EV0, EV1, EV2, EV3, EV4, EV5, EV6, EV7, EV8, VALS, plug, ite_same, decide_true, decide_false, eq_self, ↓reduceIte, reduceCtorEq, Nat.reduceAdd, Nat.reduceEqDiff, Nat.reduceLT, Nat.reduceLeDiff, Nat.reduceMul, Nat.reduceSub, Nat.reduceDiv, Int.reduceToNat, Int.reduceAdd, Int.reduceSub, Int.reduceMul, Int.reduceNeg, Int.reduceEq, Int.reduceLT, Int.reduceLE] <;> rfl) fun s b hs hb => ?_
          have l1 := tlt s hs
          have n1 := (N.nr s hs).2
          have n2 : ¬ s = u := fun e => un (e ▸ hs)
          simp (disch := omega) only [hb, c52r0, c52r1, c52r2, c52r3, c52r4, c52r5, c52r6, c52r7, c52r8, c52r9, c52r10, c52r11, c52r12, c52r13, c52r14, c52r16, EV0, EV1, EV2, EV3, EV4, EV5, EV6, EV7, EV8, VALS, plug, ite_same, decide_true, decide_false, eq_self, ↓reduceIte, reduceCtorEq, Nat.reduceAdd, Nat.reduceEqDiff, Nat.reduceLT, Nat.reduceLeDiff, Nat.reduceMul, Nat.reduceSub, Nat.reduceDiv, Int.reduceToNat, Int.reduceAdd, Int.reduceSub, Int.reduceMul, Int.reduceNeg, Int.reduceEq, Int.reduceLT, Int.reduceLE]
        case g7 => simp only []; omega
        case g3 =>
          intro hm
          rcases List.mem_append.1 hm with q | q
          · exact un q
          · rw [List.mem_singleton] at q; simp only [] at q; omega
        case g4 => simp (disch := omega) only [hu, List.set_set, c52r0, c52r1, c52r2, c52r3, c52r4, c52r5, c52r6, c52r7, c52r8, c52r9, c52r10, c52r11, c52r12, c52r13, c52r14, c52r16, EV0, EV1, EV2, EV3, EV4, EV5, EV6, EV7, EV8, VALS, plug, ite_same, decide_true, decide_false, eq_self, ↓reduceIte, reduceCtorEq, Nat.reduceAdd, Nat.reduceEqDiff, Nat.reduceLT, Nat.reduceLeDiff, Nat.reduceMul, Nat.reduceSub, Nat.reduceDiv, Int.reduceToNat, Int.reduceAdd, Int.reduceSub, Int.reduceMul, Int.reduceNeg, Int.reduceEq, Int.reduceLT, Int.reduceLE] <;> rfl
        case g5 => simp only [List.length_set]; exact hul
        case g6 => exact us_step hul hlt hus (by rw [hund]; try rfl)
      | succ f =>
        have h0 : (0 : Int) < ((rowsK l k).length : Int) := by omega
        rw [if_neg (by omega), Nat.add_sub_cancel] at hund
        have e1 : ((rowsK l k).length : Int) - 1 = (f : Int) := by omega
        have hg : f < (rowsK l k).length := by omega
        have hg' : (f : Int) < (((rowsK l k).length + 1 : Nat) : Int) := by omega
        have cg := N.cell (i := f) (by omega)
        rw [rD_map hg] at cg
        have tg := N.row (i := f) (by omega)
        rw [rD_map hg] at tg
        have mg := N.mem (i := f) (by omega)
        have ltg := tlt _ mg
        have neg := N.ne (i := f) (by omega)
        have negu : ¬ tD ts f = u := fun e => un (e ▸ mg)
        have rlg := rin f hg
        have hne := Rk.ne _ (mem_row hg)
        have hp : 0 < ((rowsK l k).getD f []).length := List.length_pos_iff.2 hne
        have e2 : (((rowsK l k).getD f []).length : Int) - 1 = ((((rowsK l k).getD f []).length - 1 : Nat) : Int) := by omega
        have e3 : ((rowsK l k).getD f []).length - 1 < ((rowsK l k).getD f []).length := by omega
        have g := last_get hne
        simp only at cg tg
        generalize hcs : rC 1 ts ((rowsK l k).map rw1) = cs at hr csl cg
        have c0 := c0 cs csl
        have c2 : (cs ++ [AV.sl 0 0 0 0]).length = (rowsK l k).length + 1 := by rw [List.length_append, csl]; rfl
        have c1 := get_low (z := .sl 0 0 0 0) cg
        repeat' first
          | with_reducible refine k_seq ?_
          | with_reducible refine k_skip ?_
          | with_reducible refine k_blkS ?_
          | with_reducible refine k_blkR ?_
          | with_reducible refine k_blkC ?_
          | with_reducible refine k_blkH ?_
          | with_reducible refine k_blkB ?_
          | with_reducible refine k_blkK ?_
          | with_reducible refine k_blkE ?_
          | with_reducible refine k_reg ?_
          | with_reducible refine k_head (by with_unfolding_all rfl) ?_
          | with_reducible refine k_headS ?_
          | (with_reducible refine SepK.mk ?_ ?_; (refine sepQ_P ?_; simp [sepQ, sepG, AOp.late, AOp.free, AOp.xs, AOp.isAl, tokNe, AV.tok, stS_get, strip, AX.val, c52r0, c52r1, c52r2, c52r3, c52r4, c52r5, c52r6, c52r7, c52r8, c52r9, c52r10, c52r11, c52r12, c52r13, c52r14, c52r16, GA]; try omega))
          | with_reducible refine r_done ?_
          | with_reducible refine hr_done ?_
          | with_reducible refine s_go (by simp (disch := omega) only [hlt', gx, hx, hr, row_m hr, read_row (row_m hr), hu, row_m hu, read_row (row_m hu), csl, hul, usl, nl_len, nl_snoc, h0, c0, c2, lt1, e1, hg', tg, row_m tg, read_row (row_m tg), c1, e2, e3, g, List.set_set, List.length_set, c52r0, c52r1, c52r2, c52r3, c52r4, c52r5, c52r6, c52r7, c52r8, c52r9, c52r10, c52r11, c52r12, c52r13, c52r14, c52r16, EV0, EV1, EV2, EV3, EV4, EV5, EV6, EV7, EV8, VALS, plug, ite_same, decide_true, decide_false, eq_self, ↓reduceIte, reduceCtorEq, Nat.reduceAdd, Nat.reduceEqDiff, Nat.reduceLT, Nat.reduceLeDiff, Nat.reduceMul, Nat.reduceSub, Nat.reduceDiv, Int.reduceToNat, Int.reduceAdd, Int.reduceSub, Int.reduceMul, Int.reduceNeg, Int.reduceEq, Int.reduceLT, Int.reduceLE]; with_reducible rfl) ?_
          | with_reducible refine h_go (by with_unfolding_all rfl) (by simp (disch := omega) only [hlt', gx, hx, hr, row_m hr, read_row (row_m hr), hu, row_m hu, read_row (row_m hu), csl, hul, usl, nl_len, nl_snoc, h0, c0, c2, lt1, e1, hg', tg, row_m tg, read_row (row_m tg), c1, e2, e3, g, List.set_set, List.length_set, c52r0, c52r1, c52r2, c52r3, c52r4, c52r5, c52r6, c52r7, c52r8, c52r9, c52r10, c52r11, c52r12, c52r13, c52r14, c52r16, EV0, EV1, EV2, EV3, EV4, EV5, EV6, EV7, EV8, VALS, plug, ite_same, decide_true, decide_false, eq_self, ↓reduceIte, reduceCtorEq, Nat.reduceAdd, Nat.reduceEqDiff, Nat.reduceLT, Nat.reduceLeDiff, Nat.reduceMul, Nat.reduceSub, Nat.reduceDiv, Int.reduceToNat, Int.reduceAdd, Int.reduceSub, Int.reduceMul, Int.reduceNeg, Int.reduceEq, Int.reduceLT, Int.reduceLE]; with_reducible rfl) ?_
          | ((with_reducible refine chk_r ?_); refine r_callF (by simp only [CA, Nat.reduceEqDiff, ↓reduceIte]; rfl) (by exact rfl) (by simp only [CA, Nat.reduceEqDiff, ↓reduceIte]; rfl) rfl ?_)
          | ((with_reducible refine chk_h ?_); refine hr_callF (by simp only [CA, Nat.reduceEqDiff, ↓reduceIte]; rfl) (by exact rfl) (by simp only [CA, Nat.reduceEqDiff, ↓reduceIte]; rfl) rfl ?_)
          | ((with_reducible refine chk_r ?_); refine r_callP (by simp only [CA, Nat.reduceEqDiff, ↓reduceIte]; rfl) (by simp only [CA, Nat.reduceEqDiff, ↓reduceIte]; rfl) (by first | ((refine PC.at q86 rfl ?_; refine .cons (now _ ?_) (.cons (.fn .nil (.cons (.same (by simp only [AV.plain, AV.plains, flB_plain, Bool.and_true])) (.cons (.p (by simp (disch := omega) only [c52r0, c52r1, c52r2, c52r3, c52r4, c52r5, c52r6, c52r7, c52r8, c52r9, c52r10, c52r11, c52r12, c52r13, c52r14, c52r16, EV0, EV1, EV2, EV3, EV4, EV5, EV6, EV7, EV8, VALS, plug, ite_same, decide_true, decide_false, eq_self, ↓reduceIte, reduceCtorEq, Nat.reduceAdd, Nat.reduceEqDiff, Nat.reduceLT, Nat.reduceLeDiff, Nat.reduceMul, Nat.reduceSub, Nat.reduceDiv, Int.reduceToNat, Int.reduceAdd, Int.reduceSub, Int.reduceMul, Int.reduceNeg, Int.reduceEq, Int.reduceLT, Int.reduceLE] <;> rfl) (Nows.same rfl)) .nil))) .nil); intro t b hb; have := ok.m hb; simp (disch := omega) only [hb, c52r0, c52r1, c52r2, c52r3, c52r4, c52r5, c52r6, c52r7, c52r8, c52r9, c52r10, c52r11, c52r12, c52r13, c52r14, c52r16, EV0, EV1, EV2, EV3, EV4, EV5, EV6, EV7, EV8, VALS, plug, ite_same, decide_true, decide_false, eq_self, ↓reduceIte, reduceCtorEq, Nat.reduceAdd, Nat.reduceEqDiff, Nat.reduceLT, Nat.reduceLeDiff, Nat.reduceMul, Nat.reduceSub, Nat.reduceDiv, Int.reduceToNat, Int.reduceAdd, Int.reduceSub, Int.reduceMul, Int.reduceNeg, Int.reduceEq, Int.reduceLT, Int.reduceLE]); all_goals fail)) rfl ?_)
          | ((with_reducible refine chk_h ?_); refine hr_callP (by simp only [CA, Nat.reduceEqDiff, ↓reduceIte]; rfl) (by simp only [CA, Nat.reduceEqDiff, ↓reduceIte]; rfl) (by first | ((refine PC.at q86 rfl ?_; refine .cons (now _ ?_) (.cons (.fn .nil (.cons (.same (by simp only [AV.plain, AV.plains, flB_plain, Bool.and_true])) (.cons (.p (by simp (disch := omega) only [c52r0, c52r1, c52r2, c52r3, c52r4, c52r5, c52r6, c52r7, c52r8, c52r9, c52r10, c52r11, c52r12, c52r13, c52r14, c52r16, EV0, EV1, EV2, EV3, EV4, EV5, EV6, EV7, EV8, VALS, plug, ite_same, decide_true, decide_false, eq_self, ↓reduceIte, reduceCtorEq, Nat.reduceAdd, Nat.reduceEqDiff, Nat.reduceLT, Nat.reduceLeDiff, Nat.reduceMul, Nat.reduceSub, Nat.reduceDiv, Int.reduceToNat, Int.reduceAdd, Int.reduceSub, Int.reduceMul, Int.reduceNeg, Int.reduceEq, Int.reduceLT, Int.reduceLE] <;> rfl) (Nows.same rfl)) .nil))) .nil); intro t b hb; have := ok.m hb; simp (disch := omega) only [hb, c52r0, c52r1, c52r2, c52r3, c52r4, c52r5, c52r6, c52r7, c52r8, c52r9, c52r10, c52r11, c52r12, c52r13, c52r14, c52r16, EV0, EV1, EV2, EV3, EV4, EV5, EV6, EV7, EV8, VALS, plug, ite_same, decide_true, decide_false, eq_self, ↓reduceIte, reduceCtorEq, Nat.reduceAdd, Nat.reduceEqDiff, Nat.reduceLT, Nat.reduceLeDiff, Nat.reduceMul, Nat.reduceSub, Nat.reduceDiv, Int.reduceToNat, Int.reduceAdd, Int.reduceSub, Int.reduceMul, Int.reduceNeg, Int.reduceEq, Int.reduceLT, Int.reduceLE]); all_goals fail)) rfl ?_)
          | ((with_reducible refine chk_h ?_); refine hr_callP1 (by simp only [CA, Nat.reduceEqDiff, ↓reduceIte]; rfl) (by simp only [CA, Nat.reduceEqDiff, ↓reduceIte]; rfl) (by simp (disch := omega) only [CA, Nat.reduceEqDiff, ↓reduceIte, firstTok_nil, firstTok_sl, firstTok_sl0, firstTok_i, firstTok_b, firstTok_ag, firstTok_p, firstTok_s]; rfl) (by first | ((refine PC.at q86 rfl ?_; refine .cons (now _ ?_) (.cons (.fn .nil (.cons (.same (by simp only [AV.plain, AV.plains, flB_plain, Bool.and_true])) (.cons (.p (by simp (disch := omega) only [c52r0, c52r1, c52r2, c52r3, c52r4, c52r5, c52r6, c52r7, c52r8, c52r9, c52r10, c52r11, c52r12, c52r13, c52r14, c52r16, EV0, EV1, EV2, EV3, EV4, EV5, EV6, EV7, EV8, VALS, plug, ite_same, decide_true, decide_false, eq_self, ↓reduceIte, reduceCtorEq, Nat.reduceAdd, Nat.reduceEqDiff, Nat.reduceLT, Nat.reduceLeDiff, Nat.reduceMul, Nat.reduceSub, Nat.reduceDiv, Int.reduceToNat, Int.reduceAdd, Int.reduceSub, Int.reduceMul, Int.reduceNeg, Int.reduceEq, Int.reduceLT, Int.reduceLE] <;> rfl) (Nows.same rfl)) .nil))) .nil); intro t b hb; have := ok.m hb; simp (disch := omega) only [hb, c52r0, c52r1, c52r2, c52r3, c52r4, c52r5, c52r6, c52r7, c52r8, c52r9, c52r10, c52r11, c52r12, c52r13, c52r14, c52r16, EV0, EV1, EV2, EV3, EV4, EV5, EV6, EV7, EV8, VALS, plug, ite_same, decide_true, decide_false, eq_self, ↓reduceIte, reduceCtorEq, Nat.reduceAdd, Nat.reduceEqDiff, Nat.reduceLT, Nat.reduceLeDiff, Nat.reduceMul, Nat.reduceSub, Nat.reduceDiv, Int.reduceToNat, Int.reduceAdd, Int.reduceSub, Int.reduceMul, Int.reduceNeg, Int.reduceEq, Int.reduceLT, Int.reduceLE]); all_goals fail)) rfl ?_)
          | ((with_reducible refine chk_h ?_); refine hr_app (by simp (disch := omega) only [hlt', gx, hx, hr, row_m hr, read_row (row_m hr), hu, row_m hu, read_row (row_m hu), csl, hul, usl, nl_len, nl_snoc, h0, c0, c2, lt1, e1, hg', tg, row_m tg, read_row (row_m tg), c1, e2, e3, g, List.set_set, List.length_set, c52r0, c52r1, c52r2, c52r3, c52r4, c52r5, c52r6, c52r7, c52r8, c52r9, c52r10, c52r11, c52r12, c52r13, c52r14, c52r16, EV0, EV1, EV2, EV3, EV4, EV5, EV6, EV7, EV8, VALS, plug, ite_same, decide_true, decide_false, eq_self, ↓reduceIte, reduceCtorEq, Nat.reduceAdd, Nat.reduceEqDiff, Nat.reduceLT, Nat.reduceLeDiff, Nat.reduceMul, Nat.reduceSub, Nat.reduceDiv, Int.reduceToNat, Int.reduceAdd, Int.reduceSub, Int.reduceMul, Int.reduceNeg, Int.reduceEq, Int.reduceLT, Int.reduceLE]; with_reducible rfl) rfl ?_)
          | (with_reducible refine k_condP (by simp only [GA, Nat.reduceEqDiff, ↓reduceIte]; rfl) (by first | (simp only [BO]; rfl) | rfl) (fun ht => ?_) (fun ht => ?_) <;> try (first | exact False.elim ht | exact absurd rfl ht | exact absurd trivial ht | exact Bool.noConfusion ht))
          | (with_reducible refine k_ret ?_; repeat with_reducible (first | refine ret_thru ?_ | refine ret_blk ?_ | refine fin ?_))
          | (with_reducible refine k_exit ?_; repeat with_reducible (first | refine thru ?_ | refine out_blk ?_ | refine pass (by decide) ?_))
          | (refine post1 ?_; simp only [GA, Nat.reduceEqDiff, ↓reduceIte])
          | (refine post2 ?_; simp only [GA, Nat.reduceEqDiff, ↓reduceIte])
          | (refine post3 ?_; simp only [GA, Nat.reduceEqDiff, ↓reduceIte])
          | (refine postc (by simp only [GA, Nat.reduceEqDiff, ↓reduceIte]; rfl) (by simp (disch := omega) only [hlt', gx, hx, hr, row_m hr, read_row (row_m hr), hu, row_m hu, read_row (row_m hu), csl, hul, usl, nl_len, nl_snoc, h0, c0, c2, lt1, e1, hg', tg, row_m tg, read_row (row_m tg), c1, e2, e3, g, List.set_set, List.length_set, c52r0, c52r1, c52r2, c52r3, c52r4, c52r5, c52r6, c52r7, c52r8, c52r9, c52r10, c52r11, c52r12, c52r13, c52r14, c52r16, EV0, EV1, EV2, EV3, EV4, EV5, EV6, EV7, EV8, VALS, plug, ite_same, decide_true, decide_false, eq_self, ↓reduceIte, reduceCtorEq, Nat.reduceAdd, Nat.reduceEqDiff, Nat.reduceLT, Nat.reduceLeDiff, Nat.reduceMul, Nat.reduceSub, Nat.reduceDiv, Int.reduceToNat, Int.reduceAdd, Int.reduceSub, Int.reduceMul, Int.reduceNeg, Int.reduceEq, Int.reduceLT, Int.reduceLE]; rfl) ?_)
          | refine post0 ?_
        refine ⟨hlt, ⟨(h.nx + 1 + 4 + 4 + 2 + 3 + 2), ts ++ [(h.nx + 1 + 4 + 4 + 2 + 3 + 4 + 4 + 2 + 6 + 10 + 8)], u, (us.set (od l k) ((lastN ((rowsK l k).getD f []) : Nat) : Int))⟩, ?g1, ?g2, u0, ?g7, ?g3, ?g4, ?g5, ?g6⟩
        case g1 =>
          simp only [Am.keep, List.map_cons, List.map_nil, GA, Nat.reduceEqDiff, ↓reduceIte, hlen1]
          rfl
        case g2 =>
          rw [hat, List.map_append, e0]
          refine N.snoc (n := 1) (cs := nl [od l k]) rfl (by omega) (by omega) (by omega) (fun hm => by have := tlt _ hm; omega) (fun hm => by have := tlt _ hm; omega) (by rw [hcs]; simp (disch := omega) only [set_last csl, c52r0, c52r1, c52r2, c52r3, c52r4, c52r5, c52r6, c52r7, c52r8, c52r9, c52r10, c52r11, c52r12, c52r13, c52r14, c52r16, EV0, EV1, EV2, EV3, EV4, EV5, EV6, EV7, EV8, VALS, plug, ite_same, decide_true, decide_false, eq_self, ↓reduceIte, reduceCtorEq, Nat.reduceAdd, Nat.reduceEqDiff, Nat.reduceLT, Nat.reduceLeDiff, Nat.reduceMul, Nat.reduceSub, Nat.reduceDiv, Int.reduceToNat, Int.reduceAdd, Int.reduceSub, Int.reduceMul, Int.reduceNeg, Int.reduceEq, Int.reduceLT, Int.reduceLE] <;> rfl) (by simp (disch := omega) only [c52r0, c52r1, c52r2, c52r3, c52r4, c52r5, c52r6, c52r7, c52r8, c52r9, c52r10, c52r11, c52r12, c52r13, c52r14, c52r16, EV0, EV1, EV2, EV3, EV4, EV5, EV6, EV7, EV8, VALS, plug, ite_same, decide_true, decide_false, eq_self, ↓reduceIte, reduceCtorEq, Nat.reduceAdd, Nat.reduceEqDiff, Nat.reduceLT, Nat.reduceLeDiff, Nat.reduceMul, Nat.reduceSub, Nat.reduceDiv, Int.reduceToNat, Int.reduceAdd, Int.reduceSub, Int.reduceMul, Int.reduceNeg, Int.reduceEq, Int.reduceLT, Int.reduceLE] <;> rfl) fun s b hs hb => ?_
          have l1 := tlt s hs
          have n1 := (N.nr s hs).2
          have n2 : ¬ s = u := fun e => un (e ▸ hs)
          simp (disch := omega) only [hb, c52r0, c52r1, c52r2, c52r3, c52r4, c52r5, c52r6, c52r7, c52r8, c52r9, c52r10, c52r11, c52r12, c52r13, c52r14, c52r16, EV0, EV1, EV2, EV3, EV4, EV5, EV6, EV7, EV8, VALS, plug, ite_same, decide_true, decide_false, eq_self, ↓reduceIte, reduceCtorEq, Nat.reduceAdd, Nat.reduceEqDiff, Nat.reduceLT, Nat.reduceLeDiff, Nat.reduceMul, Nat.reduceSub, Nat.reduceDiv, Int.reduceToNat, Int.reduceAdd, Int.reduceSub, Int.reduceMul, Int.reduceNeg, Int.reduceEq, Int.reduceLT, Int.reduceLE]
        case g7 => simp only []; omega
        case g3 =>
          intro hm
          rcases List.mem_append.1 hm with q | q
          · exact un q
          · rw [List.mem_singleton] at q; simp only [] at q; omega
        case g4 => simp (disch := omega) only [hu, List.set_set, c52r0, c52r1, c52r2, c52r3, c52r4, c52r5, c52r6, c52r7, c52r8, c52r9, c52r10, c52r11, c52r12, c52r13, c52r14, c52r16, EV0, EV1, EV2, EV3, EV4, EV5, EV6, EV7, EV8, VALS, plug, ite_same, decide_true, decide_false, eq_self, ↓reduceIte, reduceCtorEq, Nat.reduceAdd, Nat.reduceEqDiff, Nat.reduceLT, Nat.reduceLeDiff, Nat.reduceMul, Nat.reduceSub, Nat.reduceDiv, Int.reduceToNat, Int.reduceAdd, Int.reduceSub, Int.reduceMul, Int.reduceNeg, Int.reduceEq, Int.reduceLT, Int.reduceLE] <;> rfl
        case g5 => simp only [List.length_set]; exact hul
        case g6 => exact us_step hul hlt hus (by rw [hund]; try rfl)
  · obtain rfl : k = l.length := by omega
    have hlt' : ¬ (l.length : Int) < l.length := by omega
    repeat' first
      | with_reducible refine k_seq ?_
      | with_reducible refine k_skip ?_
      | with_reducible refine k_blkS ?_
      | with_reducible refine k_blkR ?_
      | with_reducible refine k_blkC ?_
      | with_reducible refine k_blkH ?_
      | with_reducible refine k_blkB ?_
      | with_reducible refine k_blkK ?_
      | with_reducible refine k_blkE ?_
      | with_reducible refine k_reg ?_
      | with_reducible refine k_head (by with_unfolding_all rfl) ?_
      | with_reducible refine k_headS ?_
      | (with_reducible refine SepK.mk ?_ ?_; (refine sepQ_P ?_; simp [sepQ, sepG, AOp.late, AOp.free, AOp.xs, AOp.isAl, tokNe, AV.tok, stS_get, strip, AX.val, c52r0, c52r1, c52r2, c52r3, c52r4, c52r5, c52r6, c52r7, c52r8, c52r9, c52r10, c52r11, c52r12, c52r13, c52r14, c52r16, GA]; try omega))
      | with_reducible refine r_done ?_
      | with_reducible refine hr_done ?_
      | with_reducible refine s_go (by simp (disch := omega) only [hlt', c52r0, c52r1, c52r2, c52r3, c52r4, c52r5, c52r6, c52r7, c52r8, c52r9, c52r10, c52r11, c52r12, c52r13, c52r14, c52r16, EV0, EV1, EV2, EV3, EV4, EV5, EV6, EV7, EV8, VALS, plug, ite_same, decide_true, decide_false, eq_self, ↓reduceIte, reduceCtorEq, Nat.reduceAdd, Nat.reduceEqDiff, Nat.reduceLT, Nat.reduceLeDiff, Nat.reduceMul, Nat.reduceSub, Nat.reduceDiv, Int.reduceToNat, Int.reduceAdd, Int.reduceSub, Int.reduceMul, Int.reduceNeg, Int.reduceEq, Int.reduceLT, Int.reduceLE]; with_reducible rfl) ?_
      | with_reducible refine h_go (by with_unfolding_all rfl) (by simp (disch := omega) only [hlt', c52r0, c52r1, c52r2, c52r3, c52r4, c52r5, c52r6, c52r7, c52r8, c52r9, c52r10, c52r11, c52r12, c52r13, c52r14, c52r16, EV0, EV1, EV2, EV3, EV4, EV5, EV6, EV7, EV8, VALS, plug, ite_same, decide_true, decide_false, eq_self, ↓reduceIte, reduceCtorEq, Nat.reduceAdd, Nat.reduceEqDiff, Nat.reduceLT, Nat.reduceLeDiff, Nat.reduceMul, Nat.reduceSub, Nat.reduceDiv, Int.reduceToNat, Int.reduceAdd, Int.reduceSub, Int.reduceMul, Int.reduceNeg, Int.reduceEq, Int.reduceLT, Int.reduceLE]; with_reducible rfl) ?_
      | ((with_reducible refine chk_r ?_); refine r_callF (by simp only [CA, Nat.reduceEqDiff, ↓reduceIte]; rfl) (by exact rfl) (by simp only [CA, Nat.reduceEqDiff, ↓reduceIte]; rfl) rfl ?_)
      | ((with_reducible refine chk_h ?_); refine hr_callF (by simp only [CA, Nat.reduceEqDiff, ↓reduceIte]; rfl) (by exact rfl) (by simp only [CA, Nat.reduceEqDiff, ↓reduceIte]; rfl) rfl ?_)
      | ((with_reducible refine chk_h ?_); refine hr_app (by simp (disch := omega) only [hlt', c52r0, c52r1, c52r2, c52r3, c52r4, c52r5, c52r6, c52r7, c52r8, c52r9, c52r10, c52r11, c52r12, c52r13, c52r14, c52r16, EV0, EV1, EV2, EV3, EV4, EV5, EV6, EV7, EV8, VALS, plug, ite_same, decide_true, decide_false, eq_self, ↓reduceIte, reduceCtorEq, Nat.reduceAdd, Nat.reduceEqDiff, Nat.reduceLT, Nat.reduceLeDiff, Nat.reduceMul, Nat.reduceSub, Nat.reduceDiv, Int.reduceToNat, Int.reduceAdd, Int.reduceSub, Int.reduceMul, Int.reduceNeg, Int.reduceEq, Int.reduceLT, Int.reduceLE]; with_reducible rfl) rfl ?_)
      | (with_reducible refine k_condP (by simp only [GA, Nat.reduceEqDiff, ↓reduceIte]; rfl) (by first | (simp only [BO]; rfl) | rfl) (fun ht => ?_) (fun ht => ?_) <;> try (first | exact False.elim ht | exact absurd rfl ht | exact absurd trivial ht | exact Bool.noConfusion ht))
      | (with_reducible refine k_ret ?_; repeat with_reducible (first | refine ret_thru ?_ | refine ret_blk ?_ | refine fin ?_))
      | (with_reducible refine k_exit ?_; repeat with_reducible (first | refine thru ?_ | refine out_blk ?_ | refine pass (by decide) ?_))
      | (refine post1 ?_; simp only [GA, Nat.reduceEqDiff, ↓reduceIte])
      | (refine post2 ?_; simp only [GA, Nat.reduceEqDiff, ↓reduceIte])
      | (refine post3 ?_; simp only [GA, Nat.reduceEqDiff, ↓reduceIte])
      | (refine postc (by simp only [GA, Nat.reduceEqDiff, ↓reduceIte]; rfl) (by simp (disch := omega) only [hlt', c52r0, c52r1, c52r2, c52r3, c52r4, c52r5, c52r6, c52r7, c52r8, c52r9, c52r10, c52r11, c52r12, c52r13, c52r14, c52r16, EV0, EV1, EV2, EV3, EV4, EV5, EV6, EV7, EV8, VALS, plug, ite_same, decide_true, decide_false, eq_self, ↓reduceIte, reduceCtorEq, Nat.reduceAdd, Nat.reduceEqDiff, Nat.reduceLT, Nat.reduceLeDiff, Nat.reduceMul, Nat.reduceSub, Nat.reduceDiv, Int.reduceToNat, Int.reduceAdd, Int.reduceSub, Int.reduceMul, Int.reduceNeg, Int.reduceEq, Int.reduceLT, Int.reduceLE]; rfl) ?_)
      | refine post0 ?_
    have eu := undL_eq hul hus
    refine (N.keep (h' := (h.bump 1).bump 4) fun _ _ hb => hb).ends (v2 := .tu [vRows (rowsK l l.length), .sl u 0 l.length 1]) (.tu (.cons ?_ (.cons .same .nil))) fun h2 F => ?_
    · rw [rv_map]
      have := @FrzV.sl r ((rowsK l l.length).map rvN) 0 (rowsK l l.length).length 1 1 (by simp)
      rwa [List.drop_zero, List.take_of_length_le (by simp)] at this
    · have hu2 := F u _ ur un hu
      refine ⟨_, .step hu2 (FrzH.kill _ _ _) (.tu (.cons .same (.cons ?_ .nil))) .done⟩
      rw [eu]
      have := @FrzV.sl u (il (undL l)) 0 l.length 1 1 (by simp [il_len, undL])
      rwa [List.drop_zero, List.take_of_length_le (by simp [il_len, undL])] at this
end Go.Proofs.Ytjncfpfgobojpaa
set_option linter.unusedVariables false
set_option linter.unusedSimpArgs false
namespace Go.Proofs.Ytjncfpfgobojpaa
open Go Go.Am Go.Proofs Go.Sort
/-! ### Rows, Fewest, and the example -/
open Classical in
noncomputable def rowsR (l : List B) : List (List Nat) := if VL l then rowsL l else []
open Classical in
noncomputable def erR (l : List B) : Int := if VL l then 0 else 60
theorem pc18 (l : List B) (hl : l.length ≤ 9223372036854775807) : PC Try.prog 18 [vB l] (.tu [vRows (rowsR l), .i .i64 (erR l)]) := by
  refine pc_fn fn18 (by simp only [AV.plains, AV.plain, il_plain, bl_plain, Bool.and_true, Bool.true_and, Bool.and_self, flB_plain, rows_plain]) (by simp only [AV.plains, AV.plain, il_plain, bl_plain, Bool.and_true, Bool.true_and, Bool.and_self, flB_plain, rows_plain]) (Nat.le_of_ble_eq_true rfl) ?_
  rw [initSt1]
  have q := pc26 l hl
  unfold rowsR erR
  by_cases hv : VL l
  · rw [if_pos hv, if_pos hv]
    rw [vl_t hv] at q
    have q2 := pc52 l hv
    repeat' first
      | with_reducible refine k_seq ?_
      | with_reducible refine k_skip ?_
      | with_reducible refine k_blkS ?_
      | with_reducible refine k_blkR ?_
      | with_reducible refine k_blkC ?_
      | with_reducible refine k_blkH ?_
      | with_reducible refine k_blkB ?_
      | with_reducible refine k_blkK ?_
      | with_reducible refine k_blkE ?_
      | with_reducible refine k_reg ?_
      | with_reducible refine r_done ?_
      | with_reducible refine s_go (by simp (disch := omega) only [c18r0, c18r1, c18r2, c18r3, c18r4, EV0, EV1, EV2, EV3, EV4, EV5, EV6, EV7, EV8, VALS, plug, ite_same, decide_true, decide_false, eq_self, ↓reduceIte, reduceCtorEq, Nat.reduceAdd, Nat.reduceEqDiff, Nat.reduceLT, Nat.reduceLeDiff, Nat.reduceMul, Nat.reduceSub, Nat.reduceDiv, Int.reduceToNat, Int.reduceAdd, Int.reduceSub, Int.reduceMul, Int.reduceNeg, Int.reduceEq, Int.reduceLT, Int.reduceLE]; with_reducible rfl) ?_
      | ((with_reducible refine chk_r ?_); refine r_callF (by simp only [CA, Nat.reduceEqDiff, ↓reduceIte]; rfl) (by exact rfl) (by simp only [CA, Nat.reduceEqDiff, ↓reduceIte]; rfl) rfl ?_)
      | ((with_reducible refine chk_r ?_); refine r_callP (by simp only [CA, Nat.reduceEqDiff, ↓reduceIte]; rfl) (by simp only [CA, Nat.reduceEqDiff, ↓reduceIte]; rfl) (by first | exact q _ | exact q2 _) rfl ?_)
      | (with_reducible refine k_condP (by simp only [GA, Nat.reduceEqDiff, ↓reduceIte]; rfl) (by first | (simp only [BO]; rfl) | rfl) (fun ht => ?_) (fun ht => ?_) <;> try (first | exact False.elim ht | exact absurd rfl ht | exact absurd trivial ht | exact Bool.noConfusion ht))
      | (with_reducible refine k_ret ?_; repeat with_reducible (first | refine ret_thru ?_ | refine ret_blk ?_ | refine fin ?_))
      | (with_reducible refine k_exit ?_; repeat with_reducible (first | refine thru ?_ | refine out_blk ?_ | refine pass (by decide) ?_))
      | (refine post1 ?_; simp only [GA, Nat.reduceEqDiff, ↓reduceIte])
      | (refine post2 ?_; simp only [GA, Nat.reduceEqDiff, ↓reduceIte])
      | (refine post3 ?_; simp only [GA, Nat.reduceEqDiff, ↓reduceIte])
      | (refine postc (by simp only [GA, Nat.reduceEqDiff, ↓reduceIte]; rfl) (by simp (disch := omega) only [c18r0, c18r1, c18r2, c18r3, c18r4, EV0, EV1, EV2, EV3, EV4, EV5, EV6, EV7, EV8, VALS, plug, ite_same, decide_true, decide_false, eq_self, ↓reduceIte, reduceCtorEq, Nat.reduceAdd, Nat.reduceEqDiff, Nat.reduceLT, Nat.reduceLeDiff, Nat.reduceMul, Nat.reduceSub, Nat.reduceDiv, Int.reduceToNat, Int.reduceAdd, Int.reduceSub, Int.reduceMul, Int.reduceNeg, Int.reduceEq, Int.reduceLT, Int.reduceLE]; rfl) ?_)
      | refine post0 ?_
    all_goals first | exact ends_of | exact ends_eq rfl
  · rw [if_neg hv, if_neg hv]
    rw [vl_f hv] at q
    repeat' first
      | with_reducible refine k_seq ?_
      | with_reducible refine k_skip ?_
      | with_reducible refine k_blkS ?_
      | with_reducible refine k_blkR ?_
      | with_reducible refine k_blkC ?_
      | with_reducible refine k_blkH ?_
      | with_reducible refine k_blkB ?_
      | with_reducible refine k_blkK ?_
      | with_reducible refine k_blkE ?_
      | with_reducible refine k_reg ?_
      | with_reducible refine r_done ?_
      | with_reducible refine s_go (by simp (disch := omega) only [c18r0, c18r1, c18r2, c18r3, c18r4, EV0, EV1, EV2, EV3, EV4, EV5, EV6, EV7, EV8, VALS, plug, ite_same, decide_true, decide_false, eq_self, ↓reduceIte, reduceCtorEq, Nat.reduceAdd, Nat.reduceEqDiff, Nat.reduceLT, Nat.reduceLeDiff, Nat.reduceMul, Nat.reduceSub, Nat.reduceDiv, Int.reduceToNat, Int.reduceAdd, Int.reduceSub, Int.reduceMul, Int.reduceNeg, Int.reduceEq, Int.reduceLT, Int.reduceLE]; with_reducible rfl) ?_
      | ((with_reducible refine chk_r ?_); refine r_callF (by simp only [CA, Nat.reduceEqDiff, ↓reduceIte]; rfl) (by exact rfl) (by simp only [CA, Nat.reduceEqDiff, ↓reduceIte]; rfl) rfl ?_)
      | ((with_reducible refine chk_r ?_); refine r_callP (by simp only [CA, Nat.reduceEqDiff, ↓reduceIte]; rfl) (by simp only [CA, Nat.reduceEqDiff, ↓reduceIte]; rfl) (by first | exact q _) rfl ?_)
      | (with_reducible refine k_condP (by simp only [GA, Nat.reduceEqDiff, ↓reduceIte]; rfl) (by first | (simp only [BO]; rfl) | rfl) (fun ht => ?_) (fun ht => ?_) <;> try (first | exact False.elim ht | exact absurd rfl ht | exact absurd trivial ht | exact Bool.noConfusion ht))
      | (with_reducible refine k_ret ?_; repeat with_reducible (first | refine ret_thru ?_ | refine ret_blk ?_ | refine fin ?_))
      | (with_reducible refine k_exit ?_; repeat with_reducible (first | refine thru ?_ | refine out_blk ?_ | refine pass (by decide) ?_))
      | (refine post1 ?_; simp only [GA, Nat.reduceEqDiff, ↓reduceIte])
      | (refine post2 ?_; simp only [GA, Nat.reduceEqDiff, ↓reduceIte])
      | (refine post3 ?_; simp only [GA, Nat.reduceEqDiff, ↓reduceIte])
      | (refine postc (by simp only [GA, Nat.reduceEqDiff, ↓reduceIte]; rfl) (by simp (disch := omega) only [c18r0, c18r1, c18r2, c18r3, c18r4, EV0, EV1, EV2, EV3, EV4, EV5, EV6, EV7, EV8, VALS, plug, ite_same, decide_true, decide_false, eq_self, ↓reduceIte, reduceCtorEq, Nat.reduceAdd, Nat.reduceEqDiff, Nat.reduceLT, Nat.reduceLeDiff, Nat.reduceMul, Nat.reduceSub, Nat.reduceDiv, Int.reduceToNat, Int.reduceAdd, Int.reduceSub, Int.reduceMul, Int.reduceNeg, Int.reduceEq, Int.reduceLT, Int.reduceLE]; rfl) ?_)
      | refine post0 ?_
    exact ends_nil2
theorem rowsR_len (l : List B) : (rowsR l).length ≤ l.length := by
  unfold rowsR
  split
  · exact rowsK_len l (Nat.le_refl _)
  · simp
theorem pc20 (l : List B) (hl : l.length ≤ 9223372036854775807) : PC Try.prog 20 [vB l] (.tu [.i .i64 ((rowsR l).length : Int), .i .i64 (erR l)]) := by
  refine pc_fn fn20 (by simp only [AV.plains, AV.plain, il_plain, bl_plain, Bool.and_true, Bool.true_and, Bool.and_self, flB_plain]) (by simp only [AV.plains, AV.plain, il_plain, bl_plain, Bool.and_true, Bool.true_and, Bool.and_self, flB_plain]) (Nat.le_of_ble_eq_true rfl) ?_
  rw [initSt1]
  have q := pc18 l hl
  generalize rowsR l = M at q ⊢
  generalize erR l = A at q ⊢
  repeat' first
    | with_reducible refine k_seq ?_
    | with_reducible refine k_skip ?_
    | with_reducible refine k_blkS ?_
    | with_reducible refine k_blkR ?_
    | with_reducible refine k_blkC ?_
    | with_reducible refine k_blkH ?_
    | with_reducible refine k_blkB ?_
    | with_reducible refine k_blkK ?_
    | with_reducible refine k_blkE ?_
    | with_reducible refine k_reg ?_
    | with_reducible refine r_done ?_
    | with_reducible refine s_go (by simp (disch := omega) only [c20r0, c20r1, c20r2, EV0, EV1, EV2, EV3, EV4, EV5, EV6, EV7, EV8, VALS, plug, ite_same, decide_true, decide_false, eq_self, ↓reduceIte, reduceCtorEq, Nat.reduceAdd, Nat.reduceEqDiff, Nat.reduceLT, Nat.reduceLeDiff, Nat.reduceMul, Nat.reduceSub, Nat.reduceDiv, Int.reduceToNat, Int.reduceAdd, Int.reduceSub, Int.reduceMul, Int.reduceNeg, Int.reduceEq, Int.reduceLT, Int.reduceLE]; with_reducible rfl) ?_
    | ((with_reducible refine chk_r ?_); refine r_callF (by simp only [CA, Nat.reduceEqDiff, ↓reduceIte]; rfl) (by exact rfl) (by simp only [CA, Nat.reduceEqDiff, ↓reduceIte]; rfl) rfl ?_)
    | ((with_reducible refine chk_r ?_); refine r_callP (by simp only [CA, Nat.reduceEqDiff, ↓reduceIte]; rfl) (by simp only [CA, Nat.reduceEqDiff, ↓reduceIte]; rfl) (by first | exact q _) rfl ?_)
    | (with_reducible refine k_condP (by simp only [GA, Nat.reduceEqDiff, ↓reduceIte]; rfl) (by first | (simp only [BO]; rfl) | rfl) (fun ht => ?_) (fun ht => ?_) <;> try (first | exact False.elim ht | exact absurd rfl ht | exact absurd trivial ht | exact Bool.noConfusion ht))
    | (with_reducible refine k_ret ?_; repeat with_reducible (first | refine ret_thru ?_ | refine ret_blk ?_ | refine fin ?_))
    | (with_reducible refine k_exit ?_; repeat with_reducible (first | refine thru ?_ | refine out_blk ?_ | refine pass (by decide) ?_))
    | (refine post1 ?_; simp only [GA, Nat.reduceEqDiff, ↓reduceIte])
    | (refine post2 ?_; simp only [GA, Nat.reduceEqDiff, ↓reduceIte])
    | (refine post3 ?_; simp only [GA, Nat.reduceEqDiff, ↓reduceIte])
    | (refine postc (by simp only [GA, Nat.reduceEqDiff, ↓reduceIte]; rfl) (by simp (disch := omega) only [c20r0, c20r1, c20r2, EV0, EV1, EV2, EV3, EV4, EV5, EV6, EV7, EV8, VALS, plug, ite_same, decide_true, decide_false, eq_self, ↓reduceIte, reduceCtorEq, Nat.reduceAdd, Nat.reduceEqDiff, Nat.reduceLT, Nat.reduceLeDiff, Nat.reduceMul, Nat.reduceSub, Nat.reduceDiv, Int.reduceToNat, Int.reduceAdd, Int.reduceSub, Int.reduceMul, Int.reduceNeg, Int.reduceEq, Int.reduceLT, Int.reduceLE]; rfl) ?_)
    | refine post0 ?_
  all_goals first | exact ends_of | exact ends_eq rfl
section
variable {P : Program} {N : Nat} {Q : Exit → St → AH → Prop} {st : St} {h : AH}
/-- a row that lies in one slot alone, az a value from here on -/
theorem w_frz1 {c : AC} (d : Nat) {t n a : Nat} (k : Nat) {cs : List AV} (hm : h.m t = some (.cells true cs)) (hd : st.get d = .sl t 0 n a) (hl : n * k = cs.length) (w : W P N c Q [(d, .vs n cs)] (h.kill t)) : W P N c Q st h :=
  w_frz hm (fun x => by
    simp only [St.get]
    by_cases e : x = d
    · subst e
      rw [hd, if_pos rfl]
      have := @FrzV.sl t cs 0 n k a (by omega)
      rwa [List.drop_zero, hl, List.take_length] at this
    · rw [if_neg e]; exact .un) w
end
def Lx : List B := [⟨1, 1, 5, 0, 0, 0, 0⟩, ⟨2, 2, 3, 0, 0, 0, 0⟩]
theorem Lx_VL : VL Lx := ⟨by decide, by
  show vk Lx 2
  refine vk_succ.2 ⟨vk_succ.2 ⟨⟨fun i h => by omega, fun i j h1 h2 => by omega⟩, by decide, fun i h => by omega⟩, by decide, fun i h => ?_⟩
  obtain rfl : i = 0 := by omega
  decide⟩
theorem Lx_order : orderL Lx = [0, 1] := by
  unfold orderL
  have : List.range Lx.length = [0, 1] := rfl
  rw [this]
  exact List.mergeSort_of_pairwise (by simp; decide)
theorem Lx_rows : rowsL Lx = [[0], [1]] := by
  unfold rowsL rowsK
  rw [Lx_order]
  decide
theorem pc17 : PC Try.prog 17 [] (.b true) := by
  refine pc_fn fn17 (by simp only [AV.plains, AV.plain, il_plain, bl_plain, Bool.and_true, Bool.true_and, Bool.and_self]) (by simp only [AV.plains, AV.plain, il_plain, bl_plain, Bool.and_true, Bool.true_and, Bool.and_self]) (Nat.le_of_ble_eq_true rfl) ?_
  rw [initSt0]
  have v := Lx_VL
  have q1 := pc20 Lx (by decide)
  have q2 := pc18 Lx (by decide)
  have e : erR Lx = 0 := by unfold erR; rw [if_pos v]
  have r : rowsR Lx = [[0], [1]] := by unfold rowsR; rw [if_pos v]; exact Lx_rows
  rw [e, r] at q1 q2
  refine k_seq (k_reg ?_)
  refine s_go (by simp (disch := omega) only [c17r0, c17r1, c17r2, c17r3, c17r4, EV0, EV1, EV2, EV3, EV4, EV5, EV6, EV7, EV8, VALS, plug, ite_same, decide_true, decide_false, eq_self, ↓reduceIte, reduceCtorEq, Nat.reduceAdd, Nat.reduceEqDiff, Nat.reduceLT, Nat.reduceLeDiff, Nat.reduceMul, Nat.reduceSub, Nat.reduceDiv, Int.reduceToNat, Int.reduceAdd, Int.reduceSub, Int.reduceMul, Int.reduceNeg, Int.reduceEq, Int.reduceLT, Int.reduceLE]; with_reducible rfl) ?_
  refine r_done ?_
  refine k_seq (k_reg ?_)
  refine s_go (by simp (disch := omega) only [c17r0, c17r1, c17r2, c17r3, c17r4, EV0, EV1, EV2, EV3, EV4, EV5, EV6, EV7, EV8, VALS, plug, ite_same, decide_true, decide_false, eq_self, ↓reduceIte, reduceCtorEq, Nat.reduceAdd, Nat.reduceEqDiff, Nat.reduceLT, Nat.reduceLeDiff, Nat.reduceMul, Nat.reduceSub, Nat.reduceDiv, Int.reduceToNat, Int.reduceAdd, Int.reduceSub, Int.reduceMul, Int.reduceNeg, Int.reduceEq, Int.reduceLT, Int.reduceLE]; with_reducible rfl) ?_
  refine r_done ?_
  refine w_frz1 (t := 4) (n := 2) (a := 7) 1 7 (by simp (disch := omega) only [c17r0, c17r1, c17r2, c17r3, c17r4, EV0, EV1, EV2, EV3, EV4, EV5, EV6, EV7, EV8, VALS, plug, ite_same, decide_true, decide_false, eq_self, ↓reduceIte, reduceCtorEq, Nat.reduceAdd, Nat.reduceEqDiff, Nat.reduceLT, Nat.reduceLeDiff, Nat.reduceMul, Nat.reduceSub, Nat.reduceDiv, Int.reduceToNat, Int.reduceAdd, Int.reduceSub, Int.reduceMul, Int.reduceNeg, Int.reduceEq, Int.reduceLT, Int.reduceLE] <;> rfl) rfl rfl ?_
  simp only [Lx, eB, vB, vRows, rvN, nl, fl, List.map_cons, List.map_nil, List.flatten_cons, List.flatten_nil, List.cons_append, List.nil_append, List.append_nil, List.length_cons, List.length_nil] at q1 q2 ⊢
  repeat' first
    | with_reducible refine k_seq ?_
    | with_reducible refine k_skip ?_
    | with_reducible refine k_blkS ?_
    | with_reducible refine k_blkR ?_
    | with_reducible refine k_blkC ?_
    | with_reducible refine k_blkH ?_
    | with_reducible refine k_blkB ?_
    | with_reducible refine k_blkK ?_
    | with_reducible refine k_blkE ?_
    | with_reducible refine k_reg ?_
    | with_reducible refine r_done ?_
    | with_reducible refine s_go (by simp (disch := omega) only [c17r0, c17r1, c17r2, c17r3, c17r4, EV0, EV1, EV2, EV3, EV4, EV5, EV6, EV7, EV8, VALS, plug, ite_same, decide_true, decide_false, eq_self, ↓reduceIte, reduceCtorEq, Nat.reduceAdd, Nat.reduceEqDiff, Nat.reduceLT, Nat.reduceLeDiff, Nat.reduceMul, Nat.reduceSub, Nat.reduceDiv, Int.reduceToNat, Int.reduceAdd, Int.reduceSub, Int.reduceMul, Int.reduceNeg, Int.reduceEq, Int.reduceLT, Int.reduceLE]; with_reducible rfl) ?_
    | ((with_reducible refine chk_r ?_); refine r_callF (by simp only [CA, Nat.reduceEqDiff, ↓reduceIte]; rfl) (by exact rfl) (by simp only [CA, Nat.reduceEqDiff, ↓reduceIte]; rfl) rfl ?_)
    | ((with_reducible refine chk_r ?_); refine r_callP (by simp only [CA, Nat.reduceEqDiff, ↓reduceIte]; rfl) (by simp only [CA, Nat.reduceEqDiff, ↓reduceIte]; rfl) (by first | exact q1 _ | exact q2 _) rfl ?_)
    | (with_reducible refine k_condP (by simp only [GA, Nat.reduceEqDiff, ↓reduceIte]; rfl) (by first | (simp only [BO]; rfl) | rfl) (fun ht => ?_) (fun ht => ?_) <;> try (first | exact False.elim ht | exact absurd rfl ht | exact absurd trivial ht | exact Bool.noConfusion ht))
    | (with_reducible refine k_ret ?_; repeat with_reducible (first | refine ret_thru ?_ | refine ret_blk ?_ | refine fin ?_))
    | (with_reducible refine k_exit ?_; repeat with_reducible (first | refine thru ?_ | refine out_blk ?_ | refine pass (by decide) ?_))
    | (refine post1 ?_; simp only [GA, Nat.reduceEqDiff, ↓reduceIte])
    | (refine post2 ?_; simp only [GA, Nat.reduceEqDiff, ↓reduceIte])
    | (refine post3 ?_; simp only [GA, Nat.reduceEqDiff, ↓reduceIte])
    | (refine postc (by simp only [GA, Nat.reduceEqDiff, ↓reduceIte]; rfl) (by simp (disch := omega) only [c17r0, c17r1, c17r2, c17r3, c17r4, EV0, EV1, EV2, EV3, EV4, EV5, EV6, EV7, EV8, VALS, plug, ite_same, decide_true, decide_false, eq_self, ↓reduceIte, reduceCtorEq, Nat.reduceAdd, Nat.reduceEqDiff, Nat.reduceLT, Nat.reduceLeDiff, Nat.reduceMul, Nat.reduceSub, Nat.reduceDiv, Int.reduceToNat, Int.reduceAdd, Int.reduceSub, Int.reduceMul, Int.reduceNeg, Int.reduceEq, Int.reduceLT, Int.reduceLE]; rfl) ?_)
    | refine post0 ?_
  exact ends_eq (b_eq (by decide))
theorem decB (r : List AV) (h : Shps [.i .i64, .i .i64, .i .i64, .i .i64, .i .i64, .i .i64, .i .i64] r) : ∃ x : B, r = eB x ∧ True := by
  obtain ⟨_, _, rfl, t0, h⟩ := shps_cons h
  obtain ⟨_, _, rfl, t1, h⟩ := shps_cons h
  obtain ⟨_, _, rfl, t2, h⟩ := shps_cons h
  obtain ⟨_, _, rfl, t3, h⟩ := shps_cons h
  obtain ⟨_, _, rfl, t4, h⟩ := shps_cons h
  obtain ⟨_, _, rfl, t5, h⟩ := shps_cons h
  obtain ⟨_, _, rfl, t6, h⟩ := shps_cons h
  obtain rfl := shps_nil h
  obtain ⟨a, rfl, _⟩ := shp_i64 t0
  obtain ⟨b, rfl, _⟩ := shp_i64 t1
  obtain ⟨c, rfl, _⟩ := shp_i64 t2
  obtain ⟨d, rfl, _⟩ := shp_i64 t3
  obtain ⟨e, rfl, _⟩ := shp_i64 t4
  obtain ⟨f, rfl, _⟩ := shp_i64 t5
  obtain ⟨g, rfl, _⟩ := shp_i64 t6
  exact ⟨⟨a, b, c, d, e, f, g⟩, rfl, trivial⟩
end Go.Proofs.Ytjncfpfgobojpaa
set_option linter.unusedVariables false
set_option linter.unusedSimpArgs false
namespace Go.Proofs.Ytjncfpfgobojpaa
open Go Go.Am Go.Proofs Go.Sort
/-! ### Hours and stages -/
structure Rn where
  batch : Int
  fro : Int
  til : Int
  clean : Bool
def sumH (b : B) : Nat → Int
  | 0 => 0
  | k + 1 => sumH b k + hB b k
def hrs (b : B) : Int := sumH b 4
theorem hB_rng {b : B} (h : vb b = true) (k : Nat) : 0 ≤ hB b k ∧ hB b k ≤ 100 := by
  have := vb_len h
  match k with
  | 0 => exact this.1
  | 1 => exact this.2.1
  | 2 => exact this.2.2.1
  | k + 3 => exact this.2.2.2.1
theorem sumH_rng {b : B} (h : vb b = true) : ∀ k : Nat, 0 ≤ sumH b k ∧ sumH b k ≤ 100 * k
  | 0 => by simp [sumH]
  | k + 1 => by
    have := sumH_rng h k
    have := hB_rng h k
    simp only [sumH]
    omega
def cl (r : Rn) (c : Int) : Int := if r.clean = true then c else 0
end Go.Proofs.Ytjncfpfgobojpaa
set_option linter.unusedVariables false
set_option linter.unusedSimpArgs false
namespace Go.Proofs.Ytjncfpfgobojpaa
open Go Go.Am Go.Proofs Go.Sort
/-! ### Stage -/
/-- the stage so many hours behind the cleaning -/
def stv (b : B) (a : Int) : Int := if a < 0 then 0 else if a < sumH b 1 then 1 else if a < sumH b 2 then 2 else if a < sumH b 3 then 3 else if a < sumH b 4 then 4 else 5
theorem sumH_mono {b : B} (h : vb b = true) {i k : Nat} (hik : i ≤ k) : sumH b i ≤ sumH b k := by
  induction k with
  | zero => obtain rfl : i = 0 := by omega
            exact Int.le_refl _
  | succ k ih =>
    by_cases e : i = k + 1
    · subst e; exact Int.le_refl _
    · have := ih (by omega)
      have := hB_rng h k
      simp only [sumH]; omega
end Go.Proofs.Ytjncfpfgobojpaa
set_option linter.unusedVariables false
set_option linter.unusedSimpArgs false
namespace Go.Proofs.Ytjncfpfgobojpaa
open Go Go.Am Go.Proofs Go.Sort
def lc (l : List B) (c : Int) : Nat → Int
  | 0 => 0
  | k + 1 => max (lc l c k) (hrs (bD l k) + c)
def dv (s c : Int) (b : Nat) : Int := (s + b * c + b - 1).tdiv b
def bm (s c : Int) : Nat → Int
  | 0 => s + c
  | k + 1 => min (bm s c k) (dv s c (k + 1))
end Go.Proofs.Ytjncfpfgobojpaa
set_option linter.unusedVariables false
set_option linter.unusedSimpArgs false
namespace Go.Proofs.Ytjncfpfgobojpaa
open Go Go.Am Go.Proofs Go.Sort
theorem GK.bad {l : List B} {ns : List Int} {k : Nat} (hk : k < ns.length) (h : ¬ (0 ≤ ni ns k ∧ ni ns k < l.length) ∨ hasI ns k (ni ns k)) : ¬ GK l ns ns.length := fun g => by
  have := g k hk
  rcases h with h | h
  · exact h ⟨this.1, this.2.1⟩
  · exact this.2.2 h
end Go.Proofs.Ytjncfpfgobojpaa
set_option linter.unusedVariables false
set_option linter.unusedSimpArgs false
namespace Go.Proofs.Ytjncfpfgobojpaa
open Go Go.Am Go.Proofs Go.Sort
/-! ### Apart, Length -/
theorem GK.le {l : List B} {ns : List Int} (g : GK l ns ns.length) : ns.length ≤ l.length := by
  refine IX.le (l := l) (fun x hx => ?_) (List.pairwise_iff_getElem.2 fun i j hi hj hij e => ?_)
  · obtain ⟨k, hk, e⟩ := List.getElem_of_mem hx
    have := g k hk
    have e' : ni ns k = x := by simp [ni, hk, e]
    rw [e'] at this
    exact ⟨this.1, this.2.1⟩
  · refine (g j hj).2.2 ⟨i, hij, ?_⟩
    simp only [ni]; rw [getD_lt hi, getD_lt hj]; exact e
theorem AP.no {l : List B} {ns : List Int} {k j : Nat} (hk : k < ns.length) (hj : j < k) {a b : Nat} (ea : ni ns k = a) (eb : ni ns j = b) (h : mayB (bD l a) (bD l b) = true ∨ mayB (bD l b) (bD l a) = true) : ¬ AP l ns ns.length := fun p => by
  have := p k hk j hj
  simp only [mayZ, mayI, ea, eb, Int.toNat_natCast] at this
  rcases h with h | h
  · rw [h] at this; exact absurd this.1 (by decide)
  · rw [h] at this; exact absurd this.2 (by decide)
/-- one is apart from the first j -/
def AQ (l : List B) (ns : List Int) (k j : Nat) : Prop := ∀ i, i < j → mayZ l (ni ns k) (ni ns i) = false ∧ mayZ l (ni ns i) (ni ns k) = false
theorem AQ.succ {l : List B} {ns : List Int} {k j : Nat} (p : AQ l ns k j) {a b : Nat} (ea : ni ns k = a) (eb : ni ns j = b) (h1 : mayB (bD l a) (bD l b) = false) (h2 : mayB (bD l b) (bD l a) = false) : AQ l ns k (j + 1) := fun i hi => by
  by_cases e : i = j
  · subst e
    simp only [mayZ, mayI, ea, eb, Int.toNat_natCast]
    exact ⟨h1, h2⟩
  · exact p i (by omega)
theorem AP.succ {l : List B} {ns : List Int} {k : Nat} (p : AP l ns k) (q : AQ l ns k k) : AP l ns (k + 1) := fun i hi j hj => by
  by_cases e : i = k
  · subst e; exact q j hj
  · exact p i (by omega) j hj
end Go.Proofs.Ytjncfpfgobojpaa
set_option linter.unusedVariables false
set_option linter.unusedSimpArgs false
namespace Go.Proofs.Ytjncfpfgobojpaa
open Go Go.Am Go.Proofs Go.Sort
/-! ### BarrelHours: the hours of a run, counted -/
/-- the stage at the k-th hour that is looked at; the first lies ahead of the run -/
def sgH (b : B) (w : Int) (k : Nat) : Int := if k = 0 ∨ w + hrs b ≤ (k : Int) - 1 then 5 else stv b ((k : Int) - 1 - w)
def qH (b : B) (w : Int) (k : Nat) : Int := min (max 0 ((k : Int) - 1)) (w + hrs b)
def Cn (b : B) (w : Int) (q : Int) : Nat → Int
  | 0 => min q w
  | j + 1 => max 0 (min (hB b j) (q - w - sumH b j))
theorem sgH_in {b : B} {w : Int} (hb : vb b = true) {k : Nat} (h0 : k ≠ 0) (h1 : (k : Int) - 1 < w + hrs b) : 0 ≤ sgH b w k ∧ sgH b w k ≤ 4 := by
  have a0 := hB_rng hb 0
  have a1 := hB_rng hb 1
  have a2 := hB_rng hb 2
  have a3 := hB_rng hb 3
  unfold sgH
  rw [if_neg (by omega)]
  simp only [stv, hrs, sumH] at *
  repeat' split
  all_goals omega
theorem sgH_out {b : B} {w : Int} {k : Nat} (h : k = 0 ∨ w + hrs b ≤ (k : Int) - 1) : sgH b w k = 5 := by unfold sgH; rw [if_pos h]
theorem Cn_zero {b : B} {w : Int} (hb : vb b = true) (hw : 0 ≤ w) (j : Nat) : Cn b w 0 j = 0 := by
  cases j with
  | zero => simp only [Cn]; omega
  | succ j =>
    have := sumH_rng hb j
    have := hB_rng hb j
    simp only [Cn]; omega
theorem Cn_end {b : B} {w : Int} (hb : vb b = true) {j : Nat} (hj : j < 4) : Cn b w (w + hrs b) (j + 1) = hB b j := by
  have m := sumH_mono hb (show j + 1 ≤ 4 by omega)
  have r := hB_rng hb j
  simp only [Cn, hrs, sumH] at *
  omega
structure HI (b : B) (w : Int) (k : Nat) (la : Int) (cs : List Int) : Prop where
  len : cs.length = 6
  cnt : ∀ j, j < 5 → cs.getD j 0 = Cn b w (qH b w k) j
  rng : ∀ j, j < 6 → 0 ≤ cs.getD j 0 ∧ cs.getD j 0 ≤ k
  la0 : 0 ≤ la ∧ la ≤ 4
  mono : ∀ j, k ≤ j → sgH b w j < 5 → la ≤ sgH b w j
theorem in_of {b : B} {w : Int} {j : Nat} (h : sgH b w j < 5) : j ≠ 0 ∧ (j : Int) - 1 < w + hrs b := by
  refine Classical.byContradiction fun hn => ?_
  rw [sgH_out (by omega)] at h
  omega
theorem repz (n j : Nat) : (List.replicate n (0 : Int)).getD j 0 = 0 := by
  simp only [List.getD_eq_getElem?_getD, List.getElem?_replicate]
  split <;> rfl
theorem HI.zero {b : B} {w : Int} (hb : vb b = true) (hw : 0 ≤ w) : HI b w 0 0 (List.replicate 6 0) := by
  have : 0 ≤ hrs b ∧ hrs b ≤ 400 := sumH_rng hb 4
  refine ⟨by simp, fun j hj => ?_, fun j hj => ?_, by omega, fun j hj h => ?_⟩
  · have e : qH b w 0 = 0 := by unfold qH; omega
    rw [e, Cn_zero hb hw, repz]
  · rw [repz]; omega
  · have := in_of h
    exact (sgH_in hb this.1 this.2).1
theorem HI.ends {b : B} {w : Int} (hb : vb b = true) (hw : 0 ≤ w) {k : Nat} {la : Int} {cs : List Int} (H : HI b w k la cs) (h : (k : Int) = w + hrs b + 2) {j : Nat} (hj : j < 4) : cs.getD (j + 1) 0 = hB b j := by
  have s : 0 ≤ hrs b ∧ hrs b ≤ 400 := sumH_rng hb 4
  have q : qH b w k = w + hrs b := by unfold qH; omega
  rw [H.cnt (j + 1) (by omega), q, Cn_end hb hj]
end Go.Proofs.Ytjncfpfgobojpaa
set_option linter.unusedVariables false
set_option linter.unusedSimpArgs false
namespace Go.Proofs.Ytjncfpfgobojpaa
open Go Go.Am Go.Proofs Go.Sort
/-! ### BarrelMore -/
theorem flB_snoc (l : List B) (t : B) : fl eB l ++ [.i .i64 t.num, .i .i64 t.dark, .i .i64 t.grain, .i .i64 t.h0, .i .i64 t.h1, .i .i64 t.h2, .i .i64 t.h3] = fl eB (l ++ [t]) := fl_snoc l t
theorem eB_one (t : B) : (eB t).all AV.one = true := rfl
theorem flB_one (l : List B) : (fl eB l).all AV.one = true := fl_one eB_one l
/-- a twin among the first k -/
def twn (l : List B) (b : B) (k : Nat) : Prop := ∃ i, i < k ∧ (bD l i).dark = b.dark ∧ (bD l i).grain = b.grain
theorem twn_succ {l : List B} {b : B} {k : Nat} : twn l b (k + 1) ↔ twn l b k ∨ ((bD l k).dark = b.dark ∧ (bD l k).grain = b.grain) := by
  constructor
  · rintro ⟨i, hi, h⟩
    by_cases e : i = k
    · subst e; exact .inr h
    · exact .inl ⟨i, by omega, h⟩
  · rintro (⟨i, hi, h⟩ | h)
    · exact ⟨i, by omega, h⟩
    · exact ⟨k, by omega, h⟩
theorem fewR {l : List B} (hv : VL l) : PC Try.prog 20 [vB l] (.tu [.i .i64 ((rowsL l).length : Int), .i .i64 0]) := by
  have := pc20 l (by have := hv.len; omega)
  unfold rowsR erR at this
  rwa [if_pos hv, if_pos hv] at this
theorem few_le {l : List B} (hv : VL l) : (rowsL l).length ≤ l.length := by
  have := rowsR_len l
  unfold rowsR at this
  rwa [if_pos hv] at this
theorem long_fact {l : List B} {b : B} {w : Nat} (hv : VL l) (h4 : l.length ≤ 39) : ∃ (g e : Int) (V : Bool), PC Try.prog 20 [vB (tn l w l.length ++ [b])] (.tu [.i .i64 g, .i .i64 e]) ∧ PC Try.prog 23 [vB (tn l w l.length ++ [b])] (.b V) ∧
    (V = true → e = 0 ∧ (g = (rowsL l).length ∨ (g = (rowsL l).length + 1 ∧ ¬ twn l b l.length))) ∧ (V = false → e = 60 ∧ g = 0) := by
  have hl : (tn l w l.length ++ [b]).length ≤ 9223372036854775807 := by simp [tn_len]; omega
  refine ⟨_, _, _, pc20 _ hl, pc23 _ hl, fun hV => ?_, fun hV => ?_⟩
  · have hw := vl_iff.1 hV
    unfold rowsR erR
    rw [if_pos hw, if_pos hw]
    refine ⟨rfl, ?_⟩
    by_cases ht : twn l b l.length
    · refine .inl ?_
      have : (rowsL l).length = (rowsL (tn l w l.length ++ [b])).length := rows_same fun d g => by
        rw [prs_snoc, prs_tn]
        constructor
        · exact .inl
        · rintro (h | ⟨rfl, rfl⟩)
          · exact h
          · exact ht
      omega
    · have h1 : (rowsL l).length ≤ (rowsL (tn l w l.length ++ [b])).length := rows_mono fun d g h => by
        rw [prs_snoc, prs_tn]; exact .inl h
      have h2 : (rowsL (tn l w l.length ++ [b])).length ≤ (rowsL l).length + 1 := rows_more (D := b.dark) (G := b.grain) fun d g h => by
        rwa [prs_snoc, prs_tn] at h
      by_cases e : (rowsL (tn l w l.length ++ [b])).length = (rowsL l).length
      · exact .inl (by omega)
      · exact .inr ⟨by omega, ht⟩
  · have hn : ¬ VL (tn l w l.length ++ [b]) := fun h => by rw [vl_t h] at hV; cases hV
    unfold rowsR erR
    rw [if_neg hn, if_neg hn]
    exact ⟨rfl, rfl⟩
open Classical in
noncomputable def twB (l : List B) (b : B) (k : Nat) : Bool := decide (twn l b k)
theorem twB_succ (l : List B) (b : B) (k : Nat) : twB l b (k + 1) = (twB l b k || (decide ((bD l k).dark = b.dark) && decide ((bD l k).grain = b.grain))) := by
  unfold twB
  rw [Bool.eq_iff_iff]
  simp only [decide_eq_true_eq, Bool.or_eq_true, Bool.and_eq_true]
  exact twn_succ
theorem twB_zero (l : List B) (b : B) : twB l b 0 = false := by
  unfold twB
  exact @decide_eq_false _ (Classical.propDecidable _) fun ⟨i, hi, _⟩ => by omega
set_option maxHeartbeats 2000000 in
theorem pc4 (l : List B) (hl : l.length ≤ 9223372036854775807) (t : B) (y : Int) (hy : 0 ≤ y ∧ y ≤ 255) : PC Try.prog 4 [vB l, .ag (eB t), .i .u8 y] (.b true) := by
  simp only [eB]
  refine pc_fn fn4 (by simp only [AV.plains, AV.plain, il_plain, bl_plain, Bool.and_true, Bool.true_and, Bool.and_self, flB_plain]) (by simp only [AV.plains, AV.plain, il_plain, bl_plain, Bool.and_true, Bool.true_and, Bool.and_self, flB_plain]) (Nat.le_of_ble_eq_true rfl) ?_
  rw [initSt3]
  have q16 := pc16 l hl 39
  have q23 := pc23 l hl
  obtain ⟨w, rfl⟩ : ∃ w : Nat, y = w := ⟨y.toNat, by omega⟩
  by_cases C : l.length ≤ 39 ∧ VL l
  · obtain ⟨c1, hv⟩ := C
    rw [vl_t hv] at q23
    have q20 := fewR hv
    have qt := fewR (VL_tn hv w)
    rw [← rows_same (l := l) (m := tn l w l.length) fun d g => prs_tn.symm] at qt
    have hA := few_le hv
    obtain ⟨g, e, V, ql, qv, k1, k2⟩ := long_fact (b := t) (w := w) hv c1
    generalize (rowsL l).length = A at *
    have n1 : ¬ (39 : Int) < l.length := by omega
    repeat' first
      | with_reducible refine k_seq ?_
      | with_reducible refine k_skip ?_
      | with_reducible refine k_blkS ?_
      | with_reducible refine k_blkR ?_
      | with_reducible refine k_blkC ?_
      | with_reducible refine k_blkH ?_
      | with_reducible refine k_blkB ?_
      | with_reducible refine k_blkK ?_
      | with_reducible refine k_blkE ?_
      | with_reducible refine k_reg ?_
      | with_reducible refine k_head (by with_unfolding_all rfl) ?_
      | with_reducible refine k_headS ?_
      | (with_reducible refine SepK.mk ?_ ?_; (refine sepQ_P ?_; simp [sepQ, sepG, AOp.late, AOp.free, AOp.xs, AOp.isAl, tokNe, AV.tok, stS_get, strip, AX.val, c4r0, c4r1, c4r2, c4r3, c4r4, c4r5, c4r6, c4r7, c4r8, c4r9, c4r10, c4r12, c4r13, c4r14, c4r15, c4r16, c4r17, c4r18, c4r19, GA]; try omega))
      | with_reducible refine r_done ?_
      | with_reducible refine hr_done ?_
      | with_reducible refine s_go (by simp (disch := omega) only [n1, c4r0, c4r1, c4r2, c4r3, c4r4, c4r5, c4r6, c4r7, c4r8, c4r9, c4r10, c4r12, c4r13, c4r14, c4r15, c4r16, c4r17, c4r18, c4r19, EV0, EV1, EV2, EV3, EV4, EV5, EV6, EV7, EV8, VALS, plug, ite_same, decide_true, decide_false, eq_self, ↓reduceIte, reduceCtorEq, Nat.reduceAdd, Nat.reduceEqDiff, Nat.reduceLT, Nat.reduceLeDiff, Nat.reduceMul, Nat.reduceSub, Nat.reduceDiv, Int.reduceToNat, Int.reduceAdd, Int.reduceSub, Int.reduceMul, Int.reduceNeg, Int.reduceEq, Int.reduceLT, Int.reduceLE]; with_reducible rfl) ?_
      | with_reducible refine h_go (by with_unfolding_all rfl) (by simp (disch := omega) only [n1, c4r0, c4r1, c4r2, c4r3, c4r4, c4r5, c4r6, c4r7, c4r8, c4r9, c4r10, c4r12, c4r13, c4r14, c4r15, c4r16, c4r17, c4r18, c4r19, EV0, EV1, EV2, EV3, EV4, EV5, EV6, EV7, EV8, VALS, plug, ite_same, decide_true, decide_false, eq_self, ↓reduceIte, reduceCtorEq, Nat.reduceAdd, Nat.reduceEqDiff, Nat.reduceLT, Nat.reduceLeDiff, Nat.reduceMul, Nat.reduceSub, Nat.reduceDiv, Int.reduceToNat, Int.reduceAdd, Int.reduceSub, Int.reduceMul, Int.reduceNeg, Int.reduceEq, Int.reduceLT, Int.reduceLE]; with_reducible rfl) ?_
      | ((with_reducible refine chk_r ?_); refine r_callF (by simp only [CA, Nat.reduceEqDiff, ↓reduceIte]; rfl) (by exact rfl) (by simp only [CA, Nat.reduceEqDiff, ↓reduceIte]; rfl) rfl ?_)
      | ((with_reducible refine chk_h ?_); refine hr_callF (by simp only [CA, Nat.reduceEqDiff, ↓reduceIte]; rfl) (by exact rfl) (by simp only [CA, Nat.reduceEqDiff, ↓reduceIte]; rfl) rfl ?_)
      | ((with_reducible refine chk_r ?_); refine r_callP (by simp only [CA, Nat.reduceEqDiff, ↓reduceIte]; rfl) (by simp only [CA, Nat.reduceEqDiff, ↓reduceIte]; rfl) (by first | exact q16 _ | exact q23 _ | exact pc17 _ | exact q20 _) rfl ?_)
      | ((with_reducible refine chk_h ?_); refine hr_callP (by simp only [CA, Nat.reduceEqDiff, ↓reduceIte]; rfl) (by simp only [CA, Nat.reduceEqDiff, ↓reduceIte]; rfl) (by first | exact q16 _ | exact q23 _ | exact pc17 _ | exact q20 _) rfl ?_)
      | ((with_reducible refine chk_h ?_); refine hr_callP1 (by simp only [CA, Nat.reduceEqDiff, ↓reduceIte]; rfl) (by simp only [CA, Nat.reduceEqDiff, ↓reduceIte]; rfl) (by simp (disch := omega) only [CA, Nat.reduceEqDiff, ↓reduceIte, firstTok_nil, firstTok_sl, firstTok_sl0, firstTok_i, firstTok_b, firstTok_ag, firstTok_p, firstTok_s]; rfl) (by first | exact q16 _ | exact q23 _ | exact pc17 _ | exact q20 _) rfl ?_)
      | ((with_reducible refine chk_r ?_); refine r_callG (by simp only [CA, Nat.reduceEqDiff, ↓reduceIte]; rfl) (by simp only [CA, Nat.reduceEqDiff, ↓reduceIte]; rfl) (by simp only [CA, Nat.reduceEqDiff, ↓reduceIte]; rfl) (by intro hg; (try simp only [BO] at hg); first | exact q16 _ | exact q23 _ | exact pc17 _ | exact q20 _) rfl ?_)
      | ((with_reducible refine chk_h ?_); refine hr_callG (by simp only [CA, Nat.reduceEqDiff, ↓reduceIte]; rfl) (by simp only [CA, Nat.reduceEqDiff, ↓reduceIte]; rfl) (by simp only [CA, Nat.reduceEqDiff, ↓reduceIte]; rfl) (by intro hg; (try simp only [BO] at hg); first | exact q16 _ | exact q23 _ | exact pc17 _ | exact q20 _) rfl ?_)
      | ((with_reducible refine chk_h ?_); refine hr_app (by simp (disch := omega) only [n1, c4r0, c4r1, c4r2, c4r3, c4r4, c4r5, c4r6, c4r7, c4r8, c4r9, c4r10, c4r12, c4r13, c4r14, c4r15, c4r16, c4r17, c4r18, c4r19, EV0, EV1, EV2, EV3, EV4, EV5, EV6, EV7, EV8, VALS, plug, ite_same, decide_true, decide_false, eq_self, ↓reduceIte, reduceCtorEq, Nat.reduceAdd, Nat.reduceEqDiff, Nat.reduceLT, Nat.reduceLeDiff, Nat.reduceMul, Nat.reduceSub, Nat.reduceDiv, Int.reduceToNat, Int.reduceAdd, Int.reduceSub, Int.reduceMul, Int.reduceNeg, Int.reduceEq, Int.reduceLT, Int.reduceLE]; with_reducible rfl) rfl ?_)
      | (with_reducible refine k_condP (by simp only [GA, Nat.reduceEqDiff, ↓reduceIte]; rfl) (by first | (simp only [BO]; rfl) | rfl) (fun ht => ?_) (fun ht => ?_) <;> try (first | exact False.elim ht | exact absurd rfl ht | exact absurd trivial ht | exact Bool.noConfusion ht))
      | (with_reducible refine k_ret ?_; repeat with_reducible (first | refine ret_thru ?_ | refine ret_blk ?_ | refine fin ?_))
      | (with_reducible refine k_exit ?_; repeat with_reducible (first | refine thru ?_ | refine out_blk ?_ | refine pass (by decide) ?_))
      | (refine post1 ?_; simp only [GA, Nat.reduceEqDiff, ↓reduceIte])
      | (refine post2 ?_; simp only [GA, Nat.reduceEqDiff, ↓reduceIte])
      | (refine post3 ?_; simp only [GA, Nat.reduceEqDiff, ↓reduceIte])
      | (refine postc (by simp only [GA, Nat.reduceEqDiff, ↓reduceIte]; rfl) (by simp (disch := omega) only [n1, c4r0, c4r1, c4r2, c4r3, c4r4, c4r5, c4r6, c4r7, c4r8, c4r9, c4r10, c4r12, c4r13, c4r14, c4r15, c4r16, c4r17, c4r18, c4r19, EV0, EV1, EV2, EV3, EV4, EV5, EV6, EV7, EV8, VALS, plug, ite_same, decide_true, decide_false, eq_self, ↓reduceIte, reduceCtorEq, Nat.reduceAdd, Nat.reduceEqDiff, Nat.reduceLT, Nat.reduceLeDiff, Nat.reduceMul, Nat.reduceSub, Nat.reduceDiv, Int.reduceToNat, Int.reduceAdd, Int.reduceSub, Int.reduceMul, Int.reduceNeg, Int.reduceEq, Int.reduceLT, Int.reduceLE]; rfl) ?_)
      | refine post0 ?_
    refine w_virt 7 9 rfl ?_
    refine k_blk (k_loopS (X := Nat) [0, 2, 4, 7, 8, 9, 10, 11] l.length (fun k x => [(0, vB l), (2, .i .u8 (w : Int)), (4, .p 1 0), (7, .i .i64 (A : Int)), (8, .i .i64 0), (9, .sl x 0 (tn l w k).length 7), (10, .b (twB l t k)), (11, .i .i64 (k : Int))])
      (fun k x h => x ≠ 0 ∧ x ≠ 1 ∧ h.m x = some (.cells true (fl eB (tn l w k))) ∧ h.m 1 = some (.cells true [.i .i64 t.num, .i .i64 t.dark, .i .i64 t.grain, .i .i64 t.h0, .i .i64 t.h1, .i .i64 t.h2, .i .i64 t.h3])) _ (by simp only [Am.keep, List.map_cons, List.map_nil, GA, Nat.reduceEqDiff, ↓reduceIte, twB_zero]; try rfl) ⟨?_, ?_, by simp (disch := omega) only [c4r0, c4r1, c4r2, c4r3, c4r4, c4r5, c4r6, c4r7, c4r8, c4r9, c4r10, c4r12, c4r13, c4r14, c4r15, c4r16, c4r17, c4r18, c4r19, EV0, EV1, EV2, EV3, EV4, EV5, EV6, EV7, EV8, VALS, plug, ite_same, decide_true, decide_false, eq_self, ↓reduceIte, reduceCtorEq, Nat.reduceAdd, Nat.reduceEqDiff, Nat.reduceLT, Nat.reduceLeDiff, Nat.reduceMul, Nat.reduceSub, Nat.reduceDiv, Int.reduceToNat, Int.reduceAdd, Int.reduceSub, Int.reduceMul, Int.reduceNeg, Int.reduceEq, Int.reduceLT, Int.reduceLE] <;> rfl, by simp (disch := omega) only [c4r0, c4r1, c4r2, c4r3, c4r4, c4r5, c4r6, c4r7, c4r8, c4r9, c4r10, c4r12, c4r13, c4r14, c4r15, c4r16, c4r17, c4r18, c4r19, EV0, EV1, EV2, EV3, EV4, EV5, EV6, EV7, EV8, VALS, plug, ite_same, decide_true, decide_false, eq_self, ↓reduceIte, reduceCtorEq, Nat.reduceAdd, Nat.reduceEqDiff, Nat.reduceLT, Nat.reduceLeDiff, Nat.reduceMul, Nat.reduceSub, Nat.reduceDiv, Int.reduceToNat, Int.reduceAdd, Int.reduceSub, Int.reduceMul, Int.reduceNeg, Int.reduceEq, Int.reduceLT, Int.reduceLE] <;> rfl⟩ ?_)
    · simp [H1, AH.bump, AH.set]
    · simp [H1, AH.bump, AH.set]
    rintro k x h hk ⟨hx, hx1, hm, hmt⟩ ok pos
    have hx' := ok.m hm
    have ht1 := ok.m hmt
    have tl := tn_len l w k
    by_cases hlt : k < l.length
    · have hlt' : (k : Int) < l.length := by omega
      have ts := tn_succ l w k
      have e1 : ((k : Int) + w).tmod l.length = (((k + w) % l.length : Nat) : Int) := by
        rw [Int.tmod_eq_emod_of_nonneg (by omega), Int.natCast_emod, Int.natCast_add]
      have hmod := Nat.mod_lt (k + w) (show 0 < l.length by omega)
      have e2 : (l.length : Int) - 1 - (((k + w) % l.length : Nat) : Int) = ((sg l.length w k : Nat) : Int) := by unfold sg; omega
      have hs := sg_lt (n := l.length) (w := w) (i := k) (by omega)
      have rT := rdB hs
      have g1 := getB1 hlt
      have g2 := getB2 hlt
      have tb := twB_succ l t k
      simp only [eB] at rT
      generalize twB l t k = X at tb ⊢
      generalize twB l t (k + 1) = Y at tb ⊢
      cases X
      · simp only [Bool.false_or] at tb
        by_cases a1 : (bD l k).dark = t.dark
        · have a1' := eq_true a1
          rw [decide_eq_true a1, Bool.true_and] at tb
          repeat' first
            | with_reducible refine k_seq ?_
            | with_reducible refine k_skip ?_
            | with_reducible refine k_blkS ?_
            | with_reducible refine k_blkR ?_
            | with_reducible refine k_blkC ?_
            | with_reducible refine k_blkH ?_
            | with_reducible refine k_blkB ?_
            | with_reducible refine k_blkK ?_
            | with_reducible refine k_blkE ?_
            | with_reducible refine k_reg ?_
            | with_reducible refine k_head (by with_unfolding_all rfl) ?_
            | with_reducible refine k_headS ?_
            | (with_reducible refine SepK.mk ?_ ?_; (refine sepQ_P ?_; simp [sepQ, sepG, AOp.late, AOp.free, AOp.xs, AOp.isAl, tokNe, AV.tok, stS_get, strip, AX.val, c4r0, c4r1, c4r2, c4r3, c4r4, c4r5, c4r6, c4r7, c4r8, c4r9, c4r10, c4r12, c4r13, c4r14, c4r15, c4r16, c4r17, c4r18, c4r19, GA]; try omega))
            | with_reducible refine r_done ?_
            | with_reducible refine hr_done ?_
            | with_reducible refine s_go (by simp (disch := omega) only [hlt', e1, e2, rT, hm, hx, flB_len, flB_snoc, g1, g2, hmt, row_m hmt, read_row (row_m hmt), a1', c4r0, c4r1, c4r2, c4r3, c4r4, c4r5, c4r6, c4r7, c4r8, c4r9, c4r10, c4r12, c4r13, c4r14, c4r15, c4r16, c4r17, c4r18, c4r19, EV0, EV1, EV2, EV3, EV4, EV5, EV6, EV7, EV8, VALS, plug, ite_same, decide_true, decide_false, eq_self, ↓reduceIte, reduceCtorEq, Nat.reduceAdd, Nat.reduceEqDiff, Nat.reduceLT, Nat.reduceLeDiff, Nat.reduceMul, Nat.reduceSub, Nat.reduceDiv, Int.reduceToNat, Int.reduceAdd, Int.reduceSub, Int.reduceMul, Int.reduceNeg, Int.reduceEq, Int.reduceLT, Int.reduceLE]; with_reducible rfl) ?_
            | with_reducible refine h_go (by with_unfolding_all rfl) (by simp (disch := omega) only [hlt', e1, e2, rT, hm, hx, flB_len, flB_snoc, g1, g2, hmt, row_m hmt, read_row (row_m hmt), a1', c4r0, c4r1, c4r2, c4r3, c4r4, c4r5, c4r6, c4r7, c4r8, c4r9, c4r10, c4r12, c4r13, c4r14, c4r15, c4r16, c4r17, c4r18, c4r19, EV0, EV1, EV2, EV3, EV4, EV5, EV6, EV7, EV8, VALS, plug, ite_same, decide_true, decide_false, eq_self, ↓reduceIte, reduceCtorEq, Nat.reduceAdd, Nat.reduceEqDiff, Nat.reduceLT, Nat.reduceLeDiff, Nat.reduceMul, Nat.reduceSub, Nat.reduceDiv, Int.reduceToNat, Int.reduceAdd, Int.reduceSub, Int.reduceMul, Int.reduceNeg, Int.reduceEq, Int.reduceLT, Int.reduceLE]; with_reducible rfl) ?_
            | ((with_reducible refine chk_r ?_); refine r_callF (by simp only [CA, Nat.reduceEqDiff, ↓reduceIte]; rfl) (by exact rfl) (by simp only [CA, Nat.reduceEqDiff, ↓reduceIte]; rfl) rfl ?_)
            | ((with_reducible refine chk_h ?_); refine hr_callF (by simp only [CA, Nat.reduceEqDiff, ↓reduceIte]; rfl) (by exact rfl) (by simp only [CA, Nat.reduceEqDiff, ↓reduceIte]; rfl) rfl ?_)
            | ((with_reducible refine chk_h ?_); refine hr_app (by simp (disch := omega) only [hlt', e1, e2, rT, hm, hx, flB_len, flB_snoc, g1, g2, hmt, row_m hmt, read_row (row_m hmt), a1', c4r0, c4r1, c4r2, c4r3, c4r4, c4r5, c4r6, c4r7, c4r8, c4r9, c4r10, c4r12, c4r13, c4r14, c4r15, c4r16, c4r17, c4r18, c4r19, EV0, EV1, EV2, EV3, EV4, EV5, EV6, EV7, EV8, VALS, plug, ite_same, decide_true, decide_false, eq_self, ↓reduceIte, reduceCtorEq, Nat.reduceAdd, Nat.reduceEqDiff, Nat.reduceLT, Nat.reduceLeDiff, Nat.reduceMul, Nat.reduceSub, Nat.reduceDiv, Int.reduceToNat, Int.reduceAdd, Int.reduceSub, Int.reduceMul, Int.reduceNeg, Int.reduceEq, Int.reduceLT, Int.reduceLE]; with_reducible rfl) rfl ?_)
            | (with_reducible refine k_condP (by simp only [GA, Nat.reduceEqDiff, ↓reduceIte]; rfl) (by first | (simp only [BO]; rfl) | rfl) (fun ht => ?_) (fun ht => ?_) <;> try (first | exact False.elim ht | exact absurd rfl ht | exact absurd trivial ht | exact Bool.noConfusion ht))
            | (with_reducible refine k_ret ?_; repeat with_reducible (first | refine ret_thru ?_ | refine ret_blk ?_ | refine fin ?_))
            | (with_reducible refine k_exit ?_; repeat with_reducible (first | refine thru ?_ | refine out_blk ?_ | refine pass (by decide) ?_))
            | (refine post1 ?_; simp only [GA, Nat.reduceEqDiff, ↓reduceIte])
            | (refine post2 ?_; simp only [GA, Nat.reduceEqDiff, ↓reduceIte])
            | (refine post3 ?_; simp only [GA, Nat.reduceEqDiff, ↓reduceIte])
            | (refine postc (by simp only [GA, Nat.reduceEqDiff, ↓reduceIte]; rfl) (by simp (disch := omega) only [hlt', e1, e2, rT, hm, hx, flB_len, flB_snoc, g1, g2, hmt, row_m hmt, read_row (row_m hmt), a1', c4r0, c4r1, c4r2, c4r3, c4r4, c4r5, c4r6, c4r7, c4r8, c4r9, c4r10, c4r12, c4r13, c4r14, c4r15, c4r16, c4r17, c4r18, c4r19, EV0, EV1, EV2, EV3, EV4, EV5, EV6, EV7, EV8, VALS, plug, ite_same, decide_true, decide_false, eq_self, ↓reduceIte, reduceCtorEq, Nat.reduceAdd, Nat.reduceEqDiff, Nat.reduceLT, Nat.reduceLeDiff, Nat.reduceMul, Nat.reduceSub, Nat.reduceDiv, Int.reduceToNat, Int.reduceAdd, Int.reduceSub, Int.reduceMul, Int.reduceNeg, Int.reduceEq, Int.reduceLT, Int.reduceLE]; rfl) ?_)
            | refine post0 ?_
          subst tb
          rw [ts]
          refine ⟨hlt, ?tk, ?g1, ?g2, ?g3, ?g4, ?g5⟩
          case g1 =>
            simp only [Am.keep, List.map_cons, List.map_nil, GA, Nat.reduceEqDiff, ↓reduceIte, List.length_append, List.length_cons, List.length_nil, Nat.zero_add]
            rfl
          case g2 => omega
          case g3 => omega
          case g4 => simp (disch := omega) only [flB_snoc, c4r0, c4r1, c4r2, c4r3, c4r4, c4r5, c4r6, c4r7, c4r8, c4r9, c4r10, c4r12, c4r13, c4r14, c4r15, c4r16, c4r17, c4r18, c4r19, EV0, EV1, EV2, EV3, EV4, EV5, EV6, EV7, EV8, VALS, plug, ite_same, decide_true, decide_false, eq_self, ↓reduceIte, reduceCtorEq, Nat.reduceAdd, Nat.reduceEqDiff, Nat.reduceLT, Nat.reduceLeDiff, Nat.reduceMul, Nat.reduceSub, Nat.reduceDiv, Int.reduceToNat, Int.reduceAdd, Int.reduceSub, Int.reduceMul, Int.reduceNeg, Int.reduceEq, Int.reduceLT, Int.reduceLE] <;> rfl
          case g5 => simp (disch := omega) only [hmt, c4r0, c4r1, c4r2, c4r3, c4r4, c4r5, c4r6, c4r7, c4r8, c4r9, c4r10, c4r12, c4r13, c4r14, c4r15, c4r16, c4r17, c4r18, c4r19, EV0, EV1, EV2, EV3, EV4, EV5, EV6, EV7, EV8, VALS, plug, ite_same, decide_true, decide_false, eq_self, ↓reduceIte, reduceCtorEq, Nat.reduceAdd, Nat.reduceEqDiff, Nat.reduceLT, Nat.reduceLeDiff, Nat.reduceMul, Nat.reduceSub, Nat.reduceDiv, Int.reduceToNat, Int.reduceAdd, Int.reduceSub, Int.reduceMul, Int.reduceNeg, Int.reduceEq, Int.reduceLT, Int.reduceLE]
        · have a1' := eq_false a1
          rw [decide_eq_false a1, Bool.false_and] at tb
          repeat' first
            | with_reducible refine k_seq ?_
            | with_reducible refine k_skip ?_
            | with_reducible refine k_blkS ?_
            | with_reducible refine k_blkR ?_
            | with_reducible refine k_blkC ?_
            | with_reducible refine k_blkH ?_
            | with_reducible refine k_blkB ?_
            | with_reducible refine k_blkK ?_
            | with_reducible refine k_blkE ?_
            | with_reducible refine k_reg ?_
            | with_reducible refine k_head (by with_unfolding_all rfl) ?_
            | with_reducible refine k_headS ?_
            | (with_reducible refine SepK.mk ?_ ?_; (refine sepQ_P ?_; simp [sepQ, sepG, AOp.late, AOp.free, AOp.xs, AOp.isAl, tokNe, AV.tok, stS_get, strip, AX.val, c4r0, c4r1, c4r2, c4r3, c4r4, c4r5, c4r6, c4r7, c4r8, c4r9, c4r10, c4r12, c4r13, c4r14, c4r15, c4r16, c4r17, c4r18, c4r19, GA]; try omega))
            | with_reducible refine r_done ?_
            | with_reducible refine hr_done ?_
            | with_reducible refine s_go (by simp (disch := omega) only [hlt', e1, e2, rT, hm, hx, flB_len, flB_snoc, g1, g2, hmt, row_m hmt, read_row (row_m hmt), a1', c4r0, c4r1, c4r2, c4r3, c4r4, c4r5, c4r6, c4r7, c4r8, c4r9, c4r10, c4r12, c4r13, c4r14, c4r15, c4r16, c4r17, c4r18, c4r19, EV0, EV1, EV2, EV3, EV4, EV5, EV6, EV7, EV8, VALS, plug, ite_same, decide_true, decide_false, eq_self, ↓reduceIte, reduceCtorEq, Nat.reduceAdd, Nat.reduceEqDiff, Nat.reduceLT, Nat.reduceLeDiff, Nat.reduceMul, Nat.reduceSub, Nat.reduceDiv, Int.reduceToNat, Int.reduceAdd, Int.reduceSub, Int.reduceMul, Int.reduceNeg, Int.reduceEq, Int.reduceLT, Int.reduceLE]; with_reducible rfl) ?_
            | with_reducible refine h_go (by with_unfolding_all rfl) (by simp (disch := omega) only [hlt', e1, e2, rT, hm, hx, flB_len, flB_snoc, g1, g2, hmt, row_m hmt, read_row (row_m hmt), a1', c4r0, c4r1, c4r2, c4r3, c4r4, c4r5, c4r6, c4r7, c4r8, c4r9, c4r10, c4r12, c4r13, c4r14, c4r15, c4r16, c4r17, c4r18, c4r19, EV0, EV1, EV2, EV3, EV4, EV5, EV6, EV7, EV8, VALS, plug, ite_same, decide_true, decide_false, eq_self, ↓reduceIte, reduceCtorEq, Nat.reduceAdd, Nat.reduceEqDiff, Nat.reduceLT, Nat.reduceLeDiff, Nat.reduceMul, Nat.reduceSub, Nat.reduceDiv, Int.reduceToNat, Int.reduceAdd, Int.reduceSub, Int.reduceMul, Int.reduceNeg, Int.reduceEq, Int.reduceLT, Int.reduceLE]; with_reducible rfl) ?_
            | ((with_reducible refine chk_r ?_); refine r_callF (by simp only [CA, Nat.reduceEqDiff, ↓reduceIte]; rfl) (by exact rfl) (by simp only [CA, Nat.reduceEqDiff, ↓reduceIte]; rfl) rfl ?_)
            | ((with_reducible refine chk_h ?_); refine hr_callF (by simp only [CA, Nat.reduceEqDiff, ↓reduceIte]; rfl) (by exact rfl) (by simp only [CA, Nat.reduceEqDiff, ↓reduceIte]; rfl) rfl ?_)
            | ((with_reducible refine chk_h ?_); refine hr_app (by simp (disch := omega) only [hlt', e1, e2, rT, hm, hx, flB_len, flB_snoc, g1, g2, hmt, row_m hmt, read_row (row_m hmt), a1', c4r0, c4r1, c4r2, c4r3, c4r4, c4r5, c4r6, c4r7, c4r8, c4r9, c4r10, c4r12, c4r13, c4r14, c4r15, c4r16, c4r17, c4r18, c4r19, EV0, EV1, EV2, EV3, EV4, EV5, EV6, EV7, EV8, VALS, plug, ite_same, decide_true, decide_false, eq_self, ↓reduceIte, reduceCtorEq, Nat.reduceAdd, Nat.reduceEqDiff, Nat.reduceLT, Nat.reduceLeDiff, Nat.reduceMul, Nat.reduceSub, Nat.reduceDiv, Int.reduceToNat, Int.reduceAdd, Int.reduceSub, Int.reduceMul, Int.reduceNeg, Int.reduceEq, Int.reduceLT, Int.reduceLE]; with_reducible rfl) rfl ?_)
            | (with_reducible refine k_condP (by simp only [GA, Nat.reduceEqDiff, ↓reduceIte]; rfl) (by first | (simp only [BO]; rfl) | rfl) (fun ht => ?_) (fun ht => ?_) <;> try (first | exact False.elim ht | exact absurd rfl ht | exact absurd trivial ht | exact Bool.noConfusion ht))
            | (with_reducible refine k_ret ?_; repeat with_reducible (first | refine ret_thru ?_ | refine ret_blk ?_ | refine fin ?_))
            | (with_reducible refine k_exit ?_; repeat with_reducible (first | refine thru ?_ | refine out_blk ?_ | refine pass (by decide) ?_))
            | (refine post1 ?_; simp only [GA, Nat.reduceEqDiff, ↓reduceIte])
            | (refine post2 ?_; simp only [GA, Nat.reduceEqDiff, ↓reduceIte])
            | (refine post3 ?_; simp only [GA, Nat.reduceEqDiff, ↓reduceIte])
            | (refine postc (by simp only [GA, Nat.reduceEqDiff, ↓reduceIte]; rfl) (by simp (disch := omega) only [hlt', e1, e2, rT, hm, hx, flB_len, flB_snoc, g1, g2, hmt, row_m hmt, read_row (row_m hmt), a1', c4r0, c4r1, c4r2, c4r3, c4r4, c4r5, c4r6, c4r7, c4r8, c4r9, c4r10, c4r12, c4r13, c4r14, c4r15, c4r16, c4r17, c4r18, c4r19, EV0, EV1, EV2, EV3, EV4, EV5, EV6, EV7, EV8, VALS, plug, ite_same, decide_true, decide_false, eq_self, ↓reduceIte, reduceCtorEq, Nat.reduceAdd, Nat.reduceEqDiff, Nat.reduceLT, Nat.reduceLeDiff, Nat.reduceMul, Nat.reduceSub, Nat.reduceDiv, Int.reduceToNat, Int.reduceAdd, Int.reduceSub, Int.reduceMul, Int.reduceNeg, Int.reduceEq, Int.reduceLT, Int.reduceLE]; rfl) ?_)
            | refine post0 ?_
          subst tb
          rw [ts]
          refine ⟨hlt, ?tk, ?g1, ?g2, ?g3, ?g4, ?g5⟩
          case g1 =>
            simp only [Am.keep, List.map_cons, List.map_nil, GA, Nat.reduceEqDiff, ↓reduceIte, List.length_append, List.length_cons, List.length_nil, Nat.zero_add]
            rfl
          case g2 => omega
          case g3 => omega
          case g4 => simp (disch := omega) only [flB_snoc, c4r0, c4r1, c4r2, c4r3, c4r4, c4r5, c4r6, c4r7, c4r8, c4r9, c4r10, c4r12, c4r13, c4r14, c4r15, c4r16, c4r17, c4r18, c4r19, EV0, EV1, EV2, EV3, EV4, EV5, EV6, EV7, EV8, VALS, plug, ite_same, decide_true, decide_false, eq_self, ↓reduceIte, reduceCtorEq, Nat.reduceAdd, Nat.reduceEqDiff, Nat.reduceLT, Nat.reduceLeDiff, Nat.reduceMul, Nat.reduceSub, Nat.reduceDiv, Int.reduceToNat, Int.reduceAdd, Int.reduceSub, Int.reduceMul, Int.reduceNeg, Int.reduceEq, Int.reduceLT, Int.reduceLE] <;> rfl
          case g5 => simp (disch := omega) only [hmt, c4r0, c4r1, c4r2, c4r3, c4r4, c4r5, c4r6, c4r7, c4r8, c4r9, c4r10, c4r12, c4r13, c4r14, c4r15, c4r16, c4r17, c4r18, c4r19, EV0, EV1, EV2, EV3, EV4, EV5, EV6, EV7, EV8, VALS, plug, ite_same, decide_true, decide_false, eq_self, ↓reduceIte, reduceCtorEq, Nat.reduceAdd, Nat.reduceEqDiff, Nat.reduceLT, Nat.reduceLeDiff, Nat.reduceMul, Nat.reduceSub, Nat.reduceDiv, Int.reduceToNat, Int.reduceAdd, Int.reduceSub, Int.reduceMul, Int.reduceNeg, Int.reduceEq, Int.reduceLT, Int.reduceLE]
      · rw [Bool.true_or] at tb
        repeat' first
          | with_reducible refine k_seq ?_
          | with_reducible refine k_skip ?_
          | with_reducible refine k_blkS ?_
          | with_reducible refine k_blkR ?_
          | with_reducible refine k_blkC ?_
          | with_reducible refine k_blkH ?_
          | with_reducible refine k_blkB ?_
          | with_reducible refine k_blkK ?_
          | with_reducible refine k_blkE ?_
          | with_reducible refine k_reg ?_
          | with_reducible refine k_head (by with_unfolding_all rfl) ?_
          | with_reducible refine k_headS ?_
          | (with_reducible refine SepK.mk ?_ ?_; (refine sepQ_P ?_; simp [sepQ, sepG, AOp.late, AOp.free, AOp.xs, AOp.isAl, tokNe, AV.tok, stS_get, strip, AX.val, c4r0, c4r1, c4r2, c4r3, c4r4, c4r5, c4r6, c4r7, c4r8, c4r9, c4r10, c4r12, c4r13, c4r14, c4r15, c4r16, c4r17, c4r18, c4r19, GA]; try omega))
          | with_reducible refine r_done ?_
          | with_reducible refine hr_done ?_
          | with_reducible refine s_go (by simp (disch := omega) only [hlt', e1, e2, rT, hm, hx, flB_len, flB_snoc, g1, g2, hmt, row_m hmt, read_row (row_m hmt), c4r0, c4r1, c4r2, c4r3, c4r4, c4r5, c4r6, c4r7, c4r8, c4r9, c4r10, c4r12, c4r13, c4r14, c4r15, c4r16, c4r17, c4r18, c4r19, EV0, EV1, EV2, EV3, EV4, EV5, EV6, EV7, EV8, VALS, plug, ite_same, decide_true, decide_false, eq_self, ↓reduceIte, reduceCtorEq, Nat.reduceAdd, Nat.reduceEqDiff, Nat.reduceLT, Nat.reduceLeDiff, Nat.reduceMul, Nat.reduceSub, Nat.reduceDiv, Int.reduceToNat, Int.reduceAdd, Int.reduceSub, Int.reduceMul, Int.reduceNeg, Int.reduceEq, Int.reduceLT, Int.reduceLE]; with_reducible rfl) ?_
          | with_reducible refine h_go (by with_unfolding_all rfl) (by simp (disch := omega) only [hlt', e1, e2, rT, hm, hx, flB_len, flB_snoc, g1, g2, hmt, row_m hmt, read_row (row_m hmt), c4r0, c4r1, c4r2, c4r3, c4r4, c4r5, c4r6, c4r7, c4r8, c4r9, c4r10, c4r12, c4r13, c4r14, c4r15, c4r16, c4r17, c4r18, c4r19, EV0, EV1, EV2, EV3, EV4, EV5, EV6, EV7, EV8, VALS, plug, ite_same, decide_true, decide_false, eq_self, ↓reduceIte, reduceCtorEq, Nat.reduceAdd, Nat.reduceEqDiff, Nat.reduceLT, Nat.reduceLeDiff, Nat.reduceMul, Nat.reduceSub, Nat.reduceDiv, Int.reduceToNat, Int.reduceAdd, Int.reduceSub, Int.reduceMul, Int.reduceNeg, Int.reduceEq, Int.reduceLT, Int.reduceLE]; with_reducible rfl) ?_
          | ((with_reducible refine chk_r ?_); refine r_callF (by simp only [CA, Nat.reduceEqDiff, ↓reduceIte]; rfl) (by exact rfl) (by simp only [CA, Nat.reduceEqDiff, ↓reduceIte]; rfl) rfl ?_)
          | ((with_reducible refine chk_h ?_); refine hr_callF (by simp only [CA, Nat.reduceEqDiff, ↓reduceIte]; rfl) (by exact rfl) (by simp only [CA, Nat.reduceEqDiff, ↓reduceIte]; rfl) rfl ?_)
          | ((with_reducible refine chk_h ?_); refine hr_app (by simp (disch := omega) only [hlt', e1, e2, rT, hm, hx, flB_len, flB_snoc, g1, g2, hmt, row_m hmt, read_row (row_m hmt), c4r0, c4r1, c4r2, c4r3, c4r4, c4r5, c4r6, c4r7, c4r8, c4r9, c4r10, c4r12, c4r13, c4r14, c4r15, c4r16, c4r17, c4r18, c4r19, EV0, EV1, EV2, EV3, EV4, EV5, EV6, EV7, EV8, VALS, plug, ite_same, decide_true, decide_false, eq_self, ↓reduceIte, reduceCtorEq, Nat.reduceAdd, Nat.reduceEqDiff, Nat.reduceLT, Nat.reduceLeDiff, Nat.reduceMul, Nat.reduceSub, Nat.reduceDiv, Int.reduceToNat, Int.reduceAdd, Int.reduceSub, Int.reduceMul, Int.reduceNeg, Int.reduceEq, Int.reduceLT, Int.reduceLE]; with_reducible rfl) rfl ?_)
          | (with_reducible refine k_condP (by simp only [GA, Nat.reduceEqDiff, ↓reduceIte]; rfl) (by first | (simp only [BO]; rfl) | rfl) (fun ht => ?_) (fun ht => ?_) <;> try (first | exact False.elim ht | exact absurd rfl ht | exact absurd trivial ht | exact Bool.noConfusion ht))
          | (with_reducible refine k_ret ?_; repeat with_reducible (first | refine ret_thru ?_ | refine ret_blk ?_ | refine fin ?_))
          | (with_reducible refine k_exit ?_; repeat with_reducible (first | refine thru ?_ | refine out_blk ?_ | refine pass (by decide) ?_))
          | (refine post1 ?_; simp only [GA, Nat.reduceEqDiff, ↓reduceIte])
          | (refine post2 ?_; simp only [GA, Nat.reduceEqDiff, ↓reduceIte])
          | (refine post3 ?_; simp only [GA, Nat.reduceEqDiff, ↓reduceIte])
          | (refine postc (by simp only [GA, Nat.reduceEqDiff, ↓reduceIte]; rfl) (by simp (disch := omega) only [hlt', e1, e2, rT, hm, hx, flB_len, flB_snoc, g1, g2, hmt, row_m hmt, read_row (row_m hmt), c4r0, c4r1, c4r2, c4r3, c4r4, c4r5, c4r6, c4r7, c4r8, c4r9, c4r10, c4r12, c4r13, c4r14, c4r15, c4r16, c4r17, c4r18, c4r19, EV0, EV1, EV2, EV3, EV4, EV5, EV6, EV7, EV8, VALS, plug, ite_same, decide_true, decide_false, eq_self, ↓reduceIte, reduceCtorEq, Nat.reduceAdd, Nat.reduceEqDiff, Nat.reduceLT, Nat.reduceLeDiff, Nat.reduceMul, Nat.reduceSub, Nat.reduceDiv, Int.reduceToNat, Int.reduceAdd, Int.reduceSub, Int.reduceMul, Int.reduceNeg, Int.reduceEq, Int.reduceLT, Int.reduceLE]; rfl) ?_)
          | refine post0 ?_
        subst tb
        rw [ts]
        refine ⟨hlt, ?tk, ?g1, ?g2, ?g3, ?g4, ?g5⟩
        case g1 =>
          simp only [Am.keep, List.map_cons, List.map_nil, GA, Nat.reduceEqDiff, ↓reduceIte, List.length_append, List.length_cons, List.length_nil, Nat.zero_add]
          rfl
        case g2 => omega
        case g3 => omega
        case g4 => simp (disch := omega) only [flB_snoc, c4r0, c4r1, c4r2, c4r3, c4r4, c4r5, c4r6, c4r7, c4r8, c4r9, c4r10, c4r12, c4r13, c4r14, c4r15, c4r16, c4r17, c4r18, c4r19, EV0, EV1, EV2, EV3, EV4, EV5, EV6, EV7, EV8, VALS, plug, ite_same, decide_true, decide_false, eq_self, ↓reduceIte, reduceCtorEq, Nat.reduceAdd, Nat.reduceEqDiff, Nat.reduceLT, Nat.reduceLeDiff, Nat.reduceMul, Nat.reduceSub, Nat.reduceDiv, Int.reduceToNat, Int.reduceAdd, Int.reduceSub, Int.reduceMul, Int.reduceNeg, Int.reduceEq, Int.reduceLT, Int.reduceLE] <;> rfl
        case g5 => simp (disch := omega) only [hmt, c4r0, c4r1, c4r2, c4r3, c4r4, c4r5, c4r6, c4r7, c4r8, c4r9, c4r10, c4r12, c4r13, c4r14, c4r15, c4r16, c4r17, c4r18, c4r19, EV0, EV1, EV2, EV3, EV4, EV5, EV6, EV7, EV8, VALS, plug, ite_same, decide_true, decide_false, eq_self, ↓reduceIte, reduceCtorEq, Nat.reduceAdd, Nat.reduceEqDiff, Nat.reduceLT, Nat.reduceLeDiff, Nat.reduceMul, Nat.reduceSub, Nat.reduceDiv, Int.reduceToNat, Int.reduceAdd, Int.reduceSub, Int.reduceMul, Int.reduceNeg, Int.reduceEq, Int.reduceLT, Int.reduceLE]
    · obtain rfl : k = l.length := by omega
      have hlt' : ¬ (l.length : Int) < l.length := by omega
      simp only [vB, List.length_append, List.length_cons, List.length_nil, Nat.zero_add] at ql qv
      repeat' first
        | with_reducible refine k_seq ?_
        | with_reducible refine k_skip ?_
        | with_reducible refine k_blkS ?_
        | with_reducible refine k_blkR ?_
        | with_reducible refine k_blkC ?_
        | with_reducible refine k_blkH ?_
        | with_reducible refine k_blkB ?_
        | with_reducible refine k_blkK ?_
        | with_reducible refine k_blkE ?_
        | with_reducible refine k_reg ?_
        | with_reducible refine k_head (by with_unfolding_all rfl) ?_
        | with_reducible refine k_headS ?_
        | (with_reducible refine SepK.mk ?_ ?_; (refine sepQ_P ?_; simp [sepQ, sepG, AOp.late, AOp.free, AOp.xs, AOp.isAl, tokNe, AV.tok, stS_get, strip, AX.val, c4r0, c4r1, c4r2, c4r3, c4r4, c4r5, c4r6, c4r7, c4r8, c4r9, c4r10, c4r12, c4r13, c4r14, c4r15, c4r16, c4r17, c4r18, c4r19, GA]; try omega))
        | with_reducible refine r_done ?_
        | with_reducible refine hr_done ?_
        | with_reducible refine s_go (by simp (disch := omega) only [hlt', hm, hmt, row_m hmt, read_row (row_m hmt), flB_len, flB_one, flB_snoc, c4r0, c4r1, c4r2, c4r3, c4r4, c4r5, c4r6, c4r7, c4r8, c4r9, c4r10, c4r12, c4r13, c4r14, c4r15, c4r16, c4r17, c4r18, c4r19, EV0, EV1, EV2, EV3, EV4, EV5, EV6, EV7, EV8, VALS, plug, ite_same, decide_true, decide_false, eq_self, ↓reduceIte, reduceCtorEq, Nat.reduceAdd, Nat.reduceEqDiff, Nat.reduceLT, Nat.reduceLeDiff, Nat.reduceMul, Nat.reduceSub, Nat.reduceDiv, Int.reduceToNat, Int.reduceAdd, Int.reduceSub, Int.reduceMul, Int.reduceNeg, Int.reduceEq, Int.reduceLT, Int.reduceLE]; with_reducible rfl) ?_
        | with_reducible refine h_go (by with_unfolding_all rfl) (by simp (disch := omega) only [hlt', hm, hmt, row_m hmt, read_row (row_m hmt), flB_len, flB_one, flB_snoc, c4r0, c4r1, c4r2, c4r3, c4r4, c4r5, c4r6, c4r7, c4r8, c4r9, c4r10, c4r12, c4r13, c4r14, c4r15, c4r16, c4r17, c4r18, c4r19, EV0, EV1, EV2, EV3, EV4, EV5, EV6, EV7, EV8, VALS, plug, ite_same, decide_true, decide_false, eq_self, ↓reduceIte, reduceCtorEq, Nat.reduceAdd, Nat.reduceEqDiff, Nat.reduceLT, Nat.reduceLeDiff, Nat.reduceMul, Nat.reduceSub, Nat.reduceDiv, Int.reduceToNat, Int.reduceAdd, Int.reduceSub, Int.reduceMul, Int.reduceNeg, Int.reduceEq, Int.reduceLT, Int.reduceLE]; with_reducible rfl) ?_
        | ((with_reducible refine chk_r ?_); refine r_callF (by simp only [CA, Nat.reduceEqDiff, ↓reduceIte]; rfl) (by exact rfl) (by simp only [CA, Nat.reduceEqDiff, ↓reduceIte]; rfl) rfl ?_)
        | ((with_reducible refine chk_h ?_); refine hr_callF (by simp only [CA, Nat.reduceEqDiff, ↓reduceIte]; rfl) (by exact rfl) (by simp only [CA, Nat.reduceEqDiff, ↓reduceIte]; rfl) rfl ?_)
        | ((with_reducible refine chk_r ?_); refine r_callP (by simp only [CA, Nat.reduceEqDiff, ↓reduceIte]; rfl) (by simp only [CA, Nat.reduceEqDiff, ↓reduceIte]; rfl) (by first | ((refine PC.at qt rfl ?_; refine .cons (.row (by simp (disch := omega) only [row_m hm, c4r0, c4r1, c4r2, c4r3, c4r4, c4r5, c4r6, c4r7, c4r8, c4r9, c4r10, c4r12, c4r13, c4r14, c4r15, c4r16, c4r17, c4r18, c4r19, EV0, EV1, EV2, EV3, EV4, EV5, EV6, EV7, EV8, VALS, plug, ite_same, decide_true, decide_false, eq_self, ↓reduceIte, reduceCtorEq, Nat.reduceAdd, Nat.reduceEqDiff, Nat.reduceLT, Nat.reduceLeDiff, Nat.reduceMul, Nat.reduceSub, Nat.reduceDiv, Int.reduceToNat, Int.reduceAdd, Int.reduceSub, Int.reduceMul, Int.reduceNeg, Int.reduceEq, Int.reduceLT, Int.reduceLE] <;> rfl) (flB_plain _)) .nil); all_goals fail) | ((refine PC.at ql rfl ?_; refine .cons (.row (by simp (disch := omega) only [flB_snoc, c4r0, c4r1, c4r2, c4r3, c4r4, c4r5, c4r6, c4r7, c4r8, c4r9, c4r10, c4r12, c4r13, c4r14, c4r15, c4r16, c4r17, c4r18, c4r19, EV0, EV1, EV2, EV3, EV4, EV5, EV6, EV7, EV8, VALS, plug, ite_same, decide_true, decide_false, eq_self, ↓reduceIte, reduceCtorEq, Nat.reduceAdd, Nat.reduceEqDiff, Nat.reduceLT, Nat.reduceLeDiff, Nat.reduceMul, Nat.reduceSub, Nat.reduceDiv, Int.reduceToNat, Int.reduceAdd, Int.reduceSub, Int.reduceMul, Int.reduceNeg, Int.reduceEq, Int.reduceLT, Int.reduceLE] <;> rfl) (flB_plain _)) .nil); all_goals fail) | ((refine PC.at qv rfl ?_; refine .cons (.row (by simp (disch := omega) only [flB_snoc, c4r0, c4r1, c4r2, c4r3, c4r4, c4r5, c4r6, c4r7, c4r8, c4r9, c4r10, c4r12, c4r13, c4r14, c4r15, c4r16, c4r17, c4r18, c4r19, EV0, EV1, EV2, EV3, EV4, EV5, EV6, EV7, EV8, VALS, plug, ite_same, decide_true, decide_false, eq_self, ↓reduceIte, reduceCtorEq, Nat.reduceAdd, Nat.reduceEqDiff, Nat.reduceLT, Nat.reduceLeDiff, Nat.reduceMul, Nat.reduceSub, Nat.reduceDiv, Int.reduceToNat, Int.reduceAdd, Int.reduceSub, Int.reduceMul, Int.reduceNeg, Int.reduceEq, Int.reduceLT, Int.reduceLE] <;> rfl) (flB_plain _)) .nil); all_goals fail) | exact pc17 _) rfl ?_)
        | ((with_reducible refine chk_h ?_); refine hr_callP (by simp only [CA, Nat.reduceEqDiff, ↓reduceIte]; rfl) (by simp only [CA, Nat.reduceEqDiff, ↓reduceIte]; rfl) (by first | ((refine PC.at qt rfl ?_; refine .cons (.row (by simp (disch := omega) only [row_m hm, c4r0, c4r1, c4r2, c4r3, c4r4, c4r5, c4r6, c4r7, c4r8, c4r9, c4r10, c4r12, c4r13, c4r14, c4r15, c4r16, c4r17, c4r18, c4r19, EV0, EV1, EV2, EV3, EV4, EV5, EV6, EV7, EV8, VALS, plug, ite_same, decide_true, decide_false, eq_self, ↓reduceIte, reduceCtorEq, Nat.reduceAdd, Nat.reduceEqDiff, Nat.reduceLT, Nat.reduceLeDiff, Nat.reduceMul, Nat.reduceSub, Nat.reduceDiv, Int.reduceToNat, Int.reduceAdd, Int.reduceSub, Int.reduceMul, Int.reduceNeg, Int.reduceEq, Int.reduceLT, Int.reduceLE] <;> rfl) (flB_plain _)) .nil); all_goals fail) | ((refine PC.at ql rfl ?_; refine .cons (.row (by simp (disch := omega) only [flB_snoc, c4r0, c4r1, c4r2, c4r3, c4r4, c4r5, c4r6, c4r7, c4r8, c4r9, c4r10, c4r12, c4r13, c4r14, c4r15, c4r16, c4r17, c4r18, c4r19, EV0, EV1, EV2, EV3, EV4, EV5, EV6, EV7, EV8, VALS, plug, ite_same, decide_true, decide_false, eq_self, ↓reduceIte, reduceCtorEq, Nat.reduceAdd, Nat.reduceEqDiff, Nat.reduceLT, Nat.reduceLeDiff, Nat.reduceMul, Nat.reduceSub, Nat.reduceDiv, Int.reduceToNat, Int.reduceAdd, Int.reduceSub, Int.reduceMul, Int.reduceNeg, Int.reduceEq, Int.reduceLT, Int.reduceLE] <;> rfl) (flB_plain _)) .nil); all_goals fail) | ((refine PC.at qv rfl ?_; refine .cons (.row (by simp (disch := omega) only [flB_snoc, c4r0, c4r1, c4r2, c4r3, c4r4, c4r5, c4r6, c4r7, c4r8, c4r9, c4r10, c4r12, c4r13, c4r14, c4r15, c4r16, c4r17, c4r18, c4r19, EV0, EV1, EV2, EV3, EV4, EV5, EV6, EV7, EV8, VALS, plug, ite_same, decide_true, decide_false, eq_self, ↓reduceIte, reduceCtorEq, Nat.reduceAdd, Nat.reduceEqDiff, Nat.reduceLT, Nat.reduceLeDiff, Nat.reduceMul, Nat.reduceSub, Nat.reduceDiv, Int.reduceToNat, Int.reduceAdd, Int.reduceSub, Int.reduceMul, Int.reduceNeg, Int.reduceEq, Int.reduceLT, Int.reduceLE] <;> rfl) (flB_plain _)) .nil); all_goals fail) | exact pc17 _) rfl ?_)
        | ((with_reducible refine chk_h ?_); refine hr_callP1 (by simp only [CA, Nat.reduceEqDiff, ↓reduceIte]; rfl) (by simp only [CA, Nat.reduceEqDiff, ↓reduceIte]; rfl) (by simp (disch := omega) only [CA, Nat.reduceEqDiff, ↓reduceIte, firstTok_nil, firstTok_sl, firstTok_sl0, firstTok_i, firstTok_b, firstTok_ag, firstTok_p, firstTok_s]; rfl) (by first | ((refine PC.at qt rfl ?_; refine .cons (.row (by simp (disch := omega) only [row_m hm, c4r0, c4r1, c4r2, c4r3, c4r4, c4r5, c4r6, c4r7, c4r8, c4r9, c4r10, c4r12, c4r13, c4r14, c4r15, c4r16, c4r17, c4r18, c4r19, EV0, EV1, EV2, EV3, EV4, EV5, EV6, EV7, EV8, VALS, plug, ite_same, decide_true, decide_false, eq_self, ↓reduceIte, reduceCtorEq, Nat.reduceAdd, Nat.reduceEqDiff, Nat.reduceLT, Nat.reduceLeDiff, Nat.reduceMul, Nat.reduceSub, Nat.reduceDiv, Int.reduceToNat, Int.reduceAdd, Int.reduceSub, Int.reduceMul, Int.reduceNeg, Int.reduceEq, Int.reduceLT, Int.reduceLE] <;> rfl) (flB_plain _)) .nil); all_goals fail) | ((refine PC.at ql rfl ?_; refine .cons (.row (by simp (disch := omega) only [flB_snoc, c4r0, c4r1, c4r2, c4r3, c4r4, c4r5, c4r6, c4r7, c4r8, c4r9, c4r10, c4r12, c4r13, c4r14, c4r15, c4r16, c4r17, c4r18, c4r19, EV0, EV1, EV2, EV3, EV4, EV5, EV6, EV7, EV8, VALS, plug, ite_same, decide_true, decide_false, eq_self, ↓reduceIte, reduceCtorEq, Nat.reduceAdd, Nat.reduceEqDiff, Nat.reduceLT, Nat.reduceLeDiff, Nat.reduceMul, Nat.reduceSub, Nat.reduceDiv, Int.reduceToNat, Int.reduceAdd, Int.reduceSub, Int.reduceMul, Int.reduceNeg, Int.reduceEq, Int.reduceLT, Int.reduceLE] <;> rfl) (flB_plain _)) .nil); all_goals fail) | ((refine PC.at qv rfl ?_; refine .cons (.row (by simp (disch := omega) only [flB_snoc, c4r0, c4r1, c4r2, c4r3, c4r4, c4r5, c4r6, c4r7, c4r8, c4r9, c4r10, c4r12, c4r13, c4r14, c4r15, c4r16, c4r17, c4r18, c4r19, EV0, EV1, EV2, EV3, EV4, EV5, EV6, EV7, EV8, VALS, plug, ite_same, decide_true, decide_false, eq_self, ↓reduceIte, reduceCtorEq, Nat.reduceAdd, Nat.reduceEqDiff, Nat.reduceLT, Nat.reduceLeDiff, Nat.reduceMul, Nat.reduceSub, Nat.reduceDiv, Int.reduceToNat, Int.reduceAdd, Int.reduceSub, Int.reduceMul, Int.reduceNeg, Int.reduceEq, Int.reduceLT, Int.reduceLE] <;> rfl) (flB_plain _)) .nil); all_goals fail) | exact pc17 _) rfl ?_)
        | ((with_reducible refine chk_r ?_); refine r_callG (by simp only [CA, Nat.reduceEqDiff, ↓reduceIte]; rfl) (by simp only [CA, Nat.reduceEqDiff, ↓reduceIte]; rfl) (by simp only [CA, Nat.reduceEqDiff, ↓reduceIte]; rfl) (by intro hg; (try simp only [BO] at hg); first | ((refine PC.at qt rfl ?_; refine .cons (.row (by simp (disch := omega) only [row_m hm, c4r0, c4r1, c4r2, c4r3, c4r4, c4r5, c4r6, c4r7, c4r8, c4r9, c4r10, c4r12, c4r13, c4r14, c4r15, c4r16, c4r17, c4r18, c4r19, EV0, EV1, EV2, EV3, EV4, EV5, EV6, EV7, EV8, VALS, plug, ite_same, decide_true, decide_false, eq_self, ↓reduceIte, reduceCtorEq, Nat.reduceAdd, Nat.reduceEqDiff, Nat.reduceLT, Nat.reduceLeDiff, Nat.reduceMul, Nat.reduceSub, Nat.reduceDiv, Int.reduceToNat, Int.reduceAdd, Int.reduceSub, Int.reduceMul, Int.reduceNeg, Int.reduceEq, Int.reduceLT, Int.reduceLE] <;> rfl) (flB_plain _)) .nil); all_goals fail) | ((refine PC.at ql rfl ?_; refine .cons (.row (by simp (disch := omega) only [flB_snoc, c4r0, c4r1, c4r2, c4r3, c4r4, c4r5, c4r6, c4r7, c4r8, c4r9, c4r10, c4r12, c4r13, c4r14, c4r15, c4r16, c4r17, c4r18, c4r19, EV0, EV1, EV2, EV3, EV4, EV5, EV6, EV7, EV8, VALS, plug, ite_same, decide_true, decide_false, eq_self, ↓reduceIte, reduceCtorEq, Nat.reduceAdd, Nat.reduceEqDiff, Nat.reduceLT, Nat.reduceLeDiff, Nat.reduceMul, Nat.reduceSub, Nat.reduceDiv, Int.reduceToNat, Int.reduceAdd, Int.reduceSub, Int.reduceMul, Int.reduceNeg, Int.reduceEq, Int.reduceLT, Int.reduceLE] <;> rfl) (flB_plain _)) .nil); all_goals fail) | ((refine PC.at qv rfl ?_; refine .cons (.row (by simp (disch := omega) only [flB_snoc, c4r0, c4r1, c4r2, c4r3, c4r4, c4r5, c4r6, c4r7, c4r8, c4r9, c4r10, c4r12, c4r13, c4r14, c4r15, c4r16, c4r17, c4r18, c4r19, EV0, EV1, EV2, EV3, EV4, EV5, EV6, EV7, EV8, VALS, plug, ite_same, decide_true, decide_false, eq_self, ↓reduceIte, reduceCtorEq, Nat.reduceAdd, Nat.reduceEqDiff, Nat.reduceLT, Nat.reduceLeDiff, Nat.reduceMul, Nat.reduceSub, Nat.reduceDiv, Int.reduceToNat, Int.reduceAdd, Int.reduceSub, Int.reduceMul, Int.reduceNeg, Int.reduceEq, Int.reduceLT, Int.reduceLE] <;> rfl) (flB_plain _)) .nil); all_goals fail) | exact pc17 _) rfl ?_)
        | ((with_reducible refine chk_h ?_); refine hr_callG (by simp only [CA, Nat.reduceEqDiff, ↓reduceIte]; rfl) (by simp only [CA, Nat.reduceEqDiff, ↓reduceIte]; rfl) (by simp only [CA, Nat.reduceEqDiff, ↓reduceIte]; rfl) (by intro hg; (try simp only [BO] at hg); first | ((refine PC.at qt rfl ?_; refine .cons (.row (by simp (disch := omega) only [row_m hm, c4r0, c4r1, c4r2, c4r3, c4r4, c4r5, c4r6, c4r7, c4r8, c4r9, c4r10, c4r12, c4r13, c4r14, c4r15, c4r16, c4r17, c4r18, c4r19, EV0, EV1, EV2, EV3, EV4, EV5, EV6, EV7, EV8, VALS, plug, ite_same, decide_true, decide_false, eq_self, ↓reduceIte, reduceCtorEq, Nat.reduceAdd, Nat.reduceEqDiff, Nat.reduceLT, Nat.reduceLeDiff, Nat.reduceMul, Nat.reduceSub, Nat.reduceDiv, Int.reduceToNat, Int.reduceAdd, Int.reduceSub, Int.reduceMul, Int.reduceNeg, Int.reduceEq, Int.reduceLT, Int.reduceLE] <;> rfl) (flB_plain _)) .nil); all_goals fail) | ((refine PC.at ql rfl ?_; refine .cons (.row (by simp (disch := omega) only [flB_snoc, c4r0, c4r1, c4r2, c4r3, c4r4, c4r5, c4r6, c4r7, c4r8, c4r9, c4r10, c4r12, c4r13, c4r14, c4r15, c4r16, c4r17, c4r18, c4r19, EV0, EV1, EV2, EV3, EV4, EV5, EV6, EV7, EV8, VALS, plug, ite_same, decide_true, decide_false, eq_self, ↓reduceIte, reduceCtorEq, Nat.reduceAdd, Nat.reduceEqDiff, Nat.reduceLT, Nat.reduceLeDiff, Nat.reduceMul, Nat.reduceSub, Nat.reduceDiv, Int.reduceToNat, Int.reduceAdd, Int.reduceSub, Int.reduceMul, Int.reduceNeg, Int.reduceEq, Int.reduceLT, Int.reduceLE] <;> rfl) (flB_plain _)) .nil); all_goals fail) | ((refine PC.at qv rfl ?_; refine .cons (.row (by simp (disch := omega) only [flB_snoc, c4r0, c4r1, c4r2, c4r3, c4r4, c4r5, c4r6, c4r7, c4r8, c4r9, c4r10, c4r12, c4r13, c4r14, c4r15, c4r16, c4r17, c4r18, c4r19, EV0, EV1, EV2, EV3, EV4, EV5, EV6, EV7, EV8, VALS, plug, ite_same, decide_true, decide_false, eq_self, ↓reduceIte, reduceCtorEq, Nat.reduceAdd, Nat.reduceEqDiff, Nat.reduceLT, Nat.reduceLeDiff, Nat.reduceMul, Nat.reduceSub, Nat.reduceDiv, Int.reduceToNat, Int.reduceAdd, Int.reduceSub, Int.reduceMul, Int.reduceNeg, Int.reduceEq, Int.reduceLT, Int.reduceLE] <;> rfl) (flB_plain _)) .nil); all_goals fail) | exact pc17 _) rfl ?_)
        | ((with_reducible refine chk_h ?_); refine hr_app (by simp (disch := omega) only [hlt', hm, hmt, row_m hmt, read_row (row_m hmt), flB_len, flB_one, flB_snoc, c4r0, c4r1, c4r2, c4r3, c4r4, c4r5, c4r6, c4r7, c4r8, c4r9, c4r10, c4r12, c4r13, c4r14, c4r15, c4r16, c4r17, c4r18, c4r19, EV0, EV1, EV2, EV3, EV4, EV5, EV6, EV7, EV8, VALS, plug, ite_same, decide_true, decide_false, eq_self, ↓reduceIte, reduceCtorEq, Nat.reduceAdd, Nat.reduceEqDiff, Nat.reduceLT, Nat.reduceLeDiff, Nat.reduceMul, Nat.reduceSub, Nat.reduceDiv, Int.reduceToNat, Int.reduceAdd, Int.reduceSub, Int.reduceMul, Int.reduceNeg, Int.reduceEq, Int.reduceLT, Int.reduceLE]; with_reducible rfl) rfl ?_)
        | (with_reducible refine k_condP (by simp only [GA, Nat.reduceEqDiff, ↓reduceIte]; rfl) (by first | (simp only [BO]; rfl) | rfl) (fun ht => ?_) (fun ht => ?_) <;> try (first | exact False.elim ht | exact absurd rfl ht | exact absurd trivial ht | exact Bool.noConfusion ht))
        | (with_reducible refine k_ret ?_; repeat with_reducible (first | refine ret_thru ?_ | refine ret_blk ?_ | refine fin ?_))
        | (with_reducible refine k_exit ?_; repeat with_reducible (first | refine thru ?_ | refine out_blk ?_ | refine pass (by decide) ?_))
        | (refine post1 ?_; simp only [GA, Nat.reduceEqDiff, ↓reduceIte])
        | (refine post2 ?_; simp only [GA, Nat.reduceEqDiff, ↓reduceIte])
        | (refine post3 ?_; simp only [GA, Nat.reduceEqDiff, ↓reduceIte])
        | (refine postc (by simp only [GA, Nat.reduceEqDiff, ↓reduceIte]; rfl) (by simp (disch := omega) only [hlt', hm, hmt, row_m hmt, read_row (row_m hmt), flB_len, flB_one, flB_snoc, c4r0, c4r1, c4r2, c4r3, c4r4, c4r5, c4r6, c4r7, c4r8, c4r9, c4r10, c4r12, c4r13, c4r14, c4r15, c4r16, c4r17, c4r18, c4r19, EV0, EV1, EV2, EV3, EV4, EV5, EV6, EV7, EV8, VALS, plug, ite_same, decide_true, decide_false, eq_self, ↓reduceIte, reduceCtorEq, Nat.reduceAdd, Nat.reduceEqDiff, Nat.reduceLT, Nat.reduceLeDiff, Nat.reduceMul, Nat.reduceSub, Nat.reduceDiv, Int.reduceToNat, Int.reduceAdd, Int.reduceSub, Int.reduceMul, Int.reduceNeg, Int.reduceEq, Int.reduceLT, Int.reduceLE]; rfl) ?_)
        | refine post0 ?_
      · have k := k2 ht
        exact ends_eq (b_eq (by simp [k.1, k.2]))
      · have k := k1 (by simpa using ht)
        refine ends_eq (b_eq ?_)
        rcases k.2 with h | ⟨h, hn⟩
        · simp [k.1, h]
        · have : twB l t l.length = false := by
            unfold twB
            exact @decide_eq_false _ (Classical.propDecidable _) hn
          simp [k.1, h, this]
  · by_cases hv : VL l
    · rw [vl_t hv] at q23
      have n1 : (39 : Int) < l.length := by
        have : ¬ l.length ≤ 39 := fun h => C ⟨h, hv⟩
        omega
      repeat' first
        | with_reducible refine k_seq ?_
        | with_reducible refine k_skip ?_
        | with_reducible refine k_blkS ?_
        | with_reducible refine k_blkR ?_
        | with_reducible refine k_blkC ?_
        | with_reducible refine k_blkH ?_
        | with_reducible refine k_blkB ?_
        | with_reducible refine k_blkK ?_
        | with_reducible refine k_blkE ?_
        | with_reducible refine k_reg ?_
        | with_reducible refine k_head (by with_unfolding_all rfl) ?_
        | with_reducible refine k_headS ?_
        | (with_reducible refine SepK.mk ?_ ?_; (refine sepQ_P ?_; simp [sepQ, sepG, AOp.late, AOp.free, AOp.xs, AOp.isAl, tokNe, AV.tok, stS_get, strip, AX.val, c4r0, c4r1, c4r2, c4r3, c4r4, c4r5, c4r6, c4r7, c4r8, c4r9, c4r10, c4r12, c4r13, c4r14, c4r15, c4r16, c4r17, c4r18, c4r19, GA]; try omega))
        | with_reducible refine r_done ?_
        | with_reducible refine hr_done ?_
        | with_reducible refine s_go (by simp (disch := omega) only [n1, c4r0, c4r1, c4r2, c4r3, c4r4, c4r5, c4r6, c4r7, c4r8, c4r9, c4r10, c4r12, c4r13, c4r14, c4r15, c4r16, c4r17, c4r18, c4r19, EV0, EV1, EV2, EV3, EV4, EV5, EV6, EV7, EV8, VALS, plug, ite_same, decide_true, decide_false, eq_self, ↓reduceIte, reduceCtorEq, Nat.reduceAdd, Nat.reduceEqDiff, Nat.reduceLT, Nat.reduceLeDiff, Nat.reduceMul, Nat.reduceSub, Nat.reduceDiv, Int.reduceToNat, Int.reduceAdd, Int.reduceSub, Int.reduceMul, Int.reduceNeg, Int.reduceEq, Int.reduceLT, Int.reduceLE]; with_reducible rfl) ?_
        | with_reducible refine h_go (by with_unfolding_all rfl) (by simp (disch := omega) only [n1, c4r0, c4r1, c4r2, c4r3, c4r4, c4r5, c4r6, c4r7, c4r8, c4r9, c4r10, c4r12, c4r13, c4r14, c4r15, c4r16, c4r17, c4r18, c4r19, EV0, EV1, EV2, EV3, EV4, EV5, EV6, EV7, EV8, VALS, plug, ite_same, decide_true, decide_false, eq_self, ↓reduceIte, reduceCtorEq, Nat.reduceAdd, Nat.reduceEqDiff, Nat.reduceLT, Nat.reduceLeDiff, Nat.reduceMul, Nat.reduceSub, Nat.reduceDiv, Int.reduceToNat, Int.reduceAdd, Int.reduceSub, Int.reduceMul, Int.reduceNeg, Int.reduceEq, Int.reduceLT, Int.reduceLE]; with_reducible rfl) ?_
        | ((with_reducible refine chk_r ?_); refine r_callF (by simp only [CA, Nat.reduceEqDiff, ↓reduceIte]; rfl) (by exact rfl) (by simp only [CA, Nat.reduceEqDiff, ↓reduceIte]; rfl) rfl ?_)
        | ((with_reducible refine chk_h ?_); refine hr_callF (by simp only [CA, Nat.reduceEqDiff, ↓reduceIte]; rfl) (by exact rfl) (by simp only [CA, Nat.reduceEqDiff, ↓reduceIte]; rfl) rfl ?_)
        | ((with_reducible refine chk_r ?_); refine r_callP (by simp only [CA, Nat.reduceEqDiff, ↓reduceIte]; rfl) (by simp only [CA, Nat.reduceEqDiff, ↓reduceIte]; rfl) (by first | exact q16 _ | exact q23 _ | exact pc17 _) rfl ?_)
        | ((with_reducible refine chk_h ?_); refine hr_callP (by simp only [CA, Nat.reduceEqDiff, ↓reduceIte]; rfl) (by simp only [CA, Nat.reduceEqDiff, ↓reduceIte]; rfl) (by first | exact q16 _ | exact q23 _ | exact pc17 _) rfl ?_)
        | ((with_reducible refine chk_h ?_); refine hr_callP1 (by simp only [CA, Nat.reduceEqDiff, ↓reduceIte]; rfl) (by simp only [CA, Nat.reduceEqDiff, ↓reduceIte]; rfl) (by simp (disch := omega) only [CA, Nat.reduceEqDiff, ↓reduceIte, firstTok_nil, firstTok_sl, firstTok_sl0, firstTok_i, firstTok_b, firstTok_ag, firstTok_p, firstTok_s]; rfl) (by first | exact q16 _ | exact q23 _ | exact pc17 _) rfl ?_)
        | ((with_reducible refine chk_r ?_); refine r_callG (by simp only [CA, Nat.reduceEqDiff, ↓reduceIte]; rfl) (by simp only [CA, Nat.reduceEqDiff, ↓reduceIte]; rfl) (by simp only [CA, Nat.reduceEqDiff, ↓reduceIte]; rfl) (by intro hg; (try simp only [BO] at hg); first | exact q16 _ | exact q23 _ | exact pc17 _) rfl ?_)
        | ((with_reducible refine chk_h ?_); refine hr_callG (by simp only [CA, Nat.reduceEqDiff, ↓reduceIte]; rfl) (by simp only [CA, Nat.reduceEqDiff, ↓reduceIte]; rfl) (by simp only [CA, Nat.reduceEqDiff, ↓reduceIte]; rfl) (by intro hg; (try simp only [BO] at hg); first | exact q16 _ | exact q23 _ | exact pc17 _) rfl ?_)
        | ((with_reducible refine chk_h ?_); refine hr_app (by simp (disch := omega) only [n1, c4r0, c4r1, c4r2, c4r3, c4r4, c4r5, c4r6, c4r7, c4r8, c4r9, c4r10, c4r12, c4r13, c4r14, c4r15, c4r16, c4r17, c4r18, c4r19, EV0, EV1, EV2, EV3, EV4, EV5, EV6, EV7, EV8, VALS, plug, ite_same, decide_true, decide_false, eq_self, ↓reduceIte, reduceCtorEq, Nat.reduceAdd, Nat.reduceEqDiff, Nat.reduceLT, Nat.reduceLeDiff, Nat.reduceMul, Nat.reduceSub, Nat.reduceDiv, Int.reduceToNat, Int.reduceAdd, Int.reduceSub, Int.reduceMul, Int.reduceNeg, Int.reduceEq, Int.reduceLT, Int.reduceLE]; with_reducible rfl) rfl ?_)
        | (with_reducible refine k_condP (by simp only [GA, Nat.reduceEqDiff, ↓reduceIte]; rfl) (by first | (simp only [BO]; rfl) | rfl) (fun ht => ?_) (fun ht => ?_) <;> try (first | exact False.elim ht | exact absurd rfl ht | exact absurd trivial ht | exact Bool.noConfusion ht))
        | (with_reducible refine k_ret ?_; repeat with_reducible (first | refine ret_thru ?_ | refine ret_blk ?_ | refine fin ?_))
        | (with_reducible refine k_exit ?_; repeat with_reducible (first | refine thru ?_ | refine out_blk ?_ | refine pass (by decide) ?_))
        | (refine post1 ?_; simp only [GA, Nat.reduceEqDiff, ↓reduceIte])
        | (refine post2 ?_; simp only [GA, Nat.reduceEqDiff, ↓reduceIte])
        | (refine post3 ?_; simp only [GA, Nat.reduceEqDiff, ↓reduceIte])
        | (refine postc (by simp only [GA, Nat.reduceEqDiff, ↓reduceIte]; rfl) (by simp (disch := omega) only [n1, c4r0, c4r1, c4r2, c4r3, c4r4, c4r5, c4r6, c4r7, c4r8, c4r9, c4r10, c4r12, c4r13, c4r14, c4r15, c4r16, c4r17, c4r18, c4r19, EV0, EV1, EV2, EV3, EV4, EV5, EV6, EV7, EV8, VALS, plug, ite_same, decide_true, decide_false, eq_self, ↓reduceIte, reduceCtorEq, Nat.reduceAdd, Nat.reduceEqDiff, Nat.reduceLT, Nat.reduceLeDiff, Nat.reduceMul, Nat.reduceSub, Nat.reduceDiv, Int.reduceToNat, Int.reduceAdd, Int.reduceSub, Int.reduceMul, Int.reduceNeg, Int.reduceEq, Int.reduceLT, Int.reduceLE]; rfl) ?_)
        | refine post0 ?_
      all_goals first | exact ends_of | exact ends_eq rfl
    · rw [vl_f hv] at q23
      repeat' first
        | with_reducible refine k_seq ?_
        | with_reducible refine k_skip ?_
        | with_reducible refine k_blkS ?_
        | with_reducible refine k_blkR ?_
        | with_reducible refine k_blkC ?_
        | with_reducible refine k_blkH ?_
        | with_reducible refine k_blkB ?_
        | with_reducible refine k_blkK ?_
        | with_reducible refine k_blkE ?_
        | with_reducible refine k_reg ?_
        | with_reducible refine k_head (by with_unfolding_all rfl) ?_
        | with_reducible refine k_headS ?_
        | (with_reducible refine SepK.mk ?_ ?_; (refine sepQ_P ?_; simp [sepQ, sepG, AOp.late, AOp.free, AOp.xs, AOp.isAl, tokNe, AV.tok, stS_get, strip, AX.val, c4r0, c4r1, c4r2, c4r3, c4r4, c4r5, c4r6, c4r7, c4r8, c4r9, c4r10, c4r12, c4r13, c4r14, c4r15, c4r16, c4r17, c4r18, c4r19, GA]; try omega))
        | with_reducible refine r_done ?_
        | with_reducible refine hr_done ?_
        | with_reducible refine s_go (by simp (disch := omega) only [c4r0, c4r1, c4r2, c4r3, c4r4, c4r5, c4r6, c4r7, c4r8, c4r9, c4r10, c4r12, c4r13, c4r14, c4r15, c4r16, c4r17, c4r18, c4r19, EV0, EV1, EV2, EV3, EV4, EV5, EV6, EV7, EV8, VALS, plug, ite_same, decide_true, decide_false, eq_self, ↓reduceIte, reduceCtorEq, Nat.reduceAdd, Nat.reduceEqDiff, Nat.reduceLT, Nat.reduceLeDiff, Nat.reduceMul, Nat.reduceSub, Nat.reduceDiv, Int.reduceToNat, Int.reduceAdd, Int.reduceSub, Int.reduceMul, Int.reduceNeg, Int.reduceEq, Int.reduceLT, Int.reduceLE]; with_reducible rfl) ?_
        | with_reducible refine h_go (by with_unfolding_all rfl) (by simp (disch := omega) only [c4r0, c4r1, c4r2, c4r3, c4r4, c4r5, c4r6, c4r7, c4r8, c4r9, c4r10, c4r12, c4r13, c4r14, c4r15, c4r16, c4r17, c4r18, c4r19, EV0, EV1, EV2, EV3, EV4, EV5, EV6, EV7, EV8, VALS, plug, ite_same, decide_true, decide_false, eq_self, ↓reduceIte, reduceCtorEq, Nat.reduceAdd, Nat.reduceEqDiff, Nat.reduceLT, Nat.reduceLeDiff, Nat.reduceMul, Nat.reduceSub, Nat.reduceDiv, Int.reduceToNat, Int.reduceAdd, Int.reduceSub, Int.reduceMul, Int.reduceNeg, Int.reduceEq, Int.reduceLT, Int.reduceLE]; with_reducible rfl) ?_
        | ((with_reducible refine chk_r ?_); refine r_callF (by simp only [CA, Nat.reduceEqDiff, ↓reduceIte]; rfl) (by exact rfl) (by simp only [CA, Nat.reduceEqDiff, ↓reduceIte]; rfl) rfl ?_)
        | ((with_reducible refine chk_h ?_); refine hr_callF (by simp only [CA, Nat.reduceEqDiff, ↓reduceIte]; rfl) (by exact rfl) (by simp only [CA, Nat.reduceEqDiff, ↓reduceIte]; rfl) rfl ?_)
        | ((with_reducible refine chk_r ?_); refine r_callP (by simp only [CA, Nat.reduceEqDiff, ↓reduceIte]; rfl) (by simp only [CA, Nat.reduceEqDiff, ↓reduceIte]; rfl) (by first | exact q16 _ | exact q23 _ | exact pc17 _) rfl ?_)
        | ((with_reducible refine chk_h ?_); refine hr_callP (by simp only [CA, Nat.reduceEqDiff, ↓reduceIte]; rfl) (by simp only [CA, Nat.reduceEqDiff, ↓reduceIte]; rfl) (by first | exact q16 _ | exact q23 _ | exact pc17 _) rfl ?_)
        | ((with_reducible refine chk_h ?_); refine hr_callP1 (by simp only [CA, Nat.reduceEqDiff, ↓reduceIte]; rfl) (by simp only [CA, Nat.reduceEqDiff, ↓reduceIte]; rfl) (by simp (disch := omega) only [CA, Nat.reduceEqDiff, ↓reduceIte, firstTok_nil, firstTok_sl, firstTok_sl0, firstTok_i, firstTok_b, firstTok_ag, firstTok_p, firstTok_s]; rfl) (by first | exact q16 _ | exact q23 _ | exact pc17 _) rfl ?_)
        | ((with_reducible refine chk_r ?_); refine r_callG (by simp only [CA, Nat.reduceEqDiff, ↓reduceIte]; rfl) (by simp only [CA, Nat.reduceEqDiff, ↓reduceIte]; rfl) (by simp only [CA, Nat.reduceEqDiff, ↓reduceIte]; rfl) (by intro hg; (try simp only [BO] at hg); first | exact q16 _ | exact q23 _ | exact pc17 _) rfl ?_)
        | ((with_reducible refine chk_h ?_); refine hr_callG (by simp only [CA, Nat.reduceEqDiff, ↓reduceIte]; rfl) (by simp only [CA, Nat.reduceEqDiff, ↓reduceIte]; rfl) (by simp only [CA, Nat.reduceEqDiff, ↓reduceIte]; rfl) (by intro hg; (try simp only [BO] at hg); first | exact q16 _ | exact q23 _ | exact pc17 _) rfl ?_)
        | ((with_reducible refine chk_h ?_); refine hr_app (by simp (disch := omega) only [c4r0, c4r1, c4r2, c4r3, c4r4, c4r5, c4r6, c4r7, c4r8, c4r9, c4r10, c4r12, c4r13, c4r14, c4r15, c4r16, c4r17, c4r18, c4r19, EV0, EV1, EV2, EV3, EV4, EV5, EV6, EV7, EV8, VALS, plug, ite_same, decide_true, decide_false, eq_self, ↓reduceIte, reduceCtorEq, Nat.reduceAdd, Nat.reduceEqDiff, Nat.reduceLT, Nat.reduceLeDiff, Nat.reduceMul, Nat.reduceSub, Nat.reduceDiv, Int.reduceToNat, Int.reduceAdd, Int.reduceSub, Int.reduceMul, Int.reduceNeg, Int.reduceEq, Int.reduceLT, Int.reduceLE]; with_reducible rfl) rfl ?_)
        | (with_reducible refine k_condP (by simp only [GA, Nat.reduceEqDiff, ↓reduceIte]; rfl) (by first | (simp only [BO]; rfl) | rfl) (fun ht => ?_) (fun ht => ?_) <;> try (first | exact False.elim ht | exact absurd rfl ht | exact absurd trivial ht | exact Bool.noConfusion ht))
        | (with_reducible refine k_ret ?_; repeat with_reducible (first | refine ret_thru ?_ | refine ret_blk ?_ | refine fin ?_))
        | (with_reducible refine k_exit ?_; repeat with_reducible (first | refine thru ?_ | refine out_blk ?_ | refine pass (by decide) ?_))
        | (refine post1 ?_; simp only [GA, Nat.reduceEqDiff, ↓reduceIte])
        | (refine post2 ?_; simp only [GA, Nat.reduceEqDiff, ↓reduceIte])
        | (refine post3 ?_; simp only [GA, Nat.reduceEqDiff, ↓reduceIte])
        | (refine postc (by simp only [GA, Nat.reduceEqDiff, ↓reduceIte]; rfl) (by simp (disch := omega) only [c4r0, c4r1, c4r2, c4r3, c4r4, c4r5, c4r6, c4r7, c4r8, c4r9, c4r10, c4r12, c4r13, c4r14, c4r15, c4r16, c4r17, c4r18, c4r19, EV0, EV1, EV2, EV3, EV4, EV5, EV6, EV7, EV8, VALS, plug, ite_same, decide_true, decide_false, eq_self, ↓reduceIte, reduceCtorEq, Nat.reduceAdd, Nat.reduceEqDiff, Nat.reduceLT, Nat.reduceLeDiff, Nat.reduceMul, Nat.reduceSub, Nat.reduceDiv, Int.reduceToNat, Int.reduceAdd, Int.reduceSub, Int.reduceMul, Int.reduceNeg, Int.reduceEq, Int.reduceLT, Int.reduceLE]; rfl) ?_)
        | refine post0 ?_
      all_goals first | exact ends_of | (exfalso; omega)
end Go.Proofs.Ytjncfpfgobojpaa
